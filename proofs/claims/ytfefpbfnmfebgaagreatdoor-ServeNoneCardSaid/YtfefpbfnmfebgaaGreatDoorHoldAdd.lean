/- Part of a proof (its text HoldAdd): what is proved stands in the text Card. -/
import Derived.Test.YtfefpbfnmfebgaaGreatDoorHoldPut
set_option linter.all false
namespace Go.Proofs.Tryz
open Go Go.Lad
set_option autoImplicit false
set_option maxRecDepth 100000
set_option linter.unusedSimpArgs false
set_option linter.unusedVariables false

section
variable {κ ν ν' : Type} [DecidableEq κ]
theorem adel_keys (k : κ) {a : List (κ × ν)} {b : List (κ × ν')} (h : a.map (·.1) = b.map (·.1)) : (adel k a).map (·.1) = (adel k b).map (·.1) := by
  induction a generalizing b with
  | nil => cases b with | nil => rfl | cons => simp at h
  | cons p a ih =>
    cases b with
    | nil => simp at h
    | cons q b =>
      simp only [List.map_cons, List.cons.injEq] at h
      simp only [adel, h.1]
      split
      · exact h.2
      · simp [h.1, ih h.2]
theorem adel_sub {k : κ} {l : List (κ × ν)} : (adel k l).Sublist l := by
  induction l with
  | nil => exact List.Sublist.refl _
  | cons p l ih =>
    simp only [adel]
    split
    · exact List.sublist_cons_self ..
    · exact ih.cons_cons p
theorem alook_adel {k s : κ} {l : List (κ × ν)} (hn : (l.map (·.1)).Nodup) : alook s (adel k l) = if s = k then none else alook s l := by
  induction l with
  | nil => simp [adel, alook]
  | cons p l ih =>
    simp only [List.map_cons, List.nodup_cons] at hn
    simp only [adel]
    by_cases hp : p.1 = k
    · rw [if_pos hp]
      by_cases hs : s = k
      · rw [if_pos hs, alook_none.2]; rw [hs, ← hp]; exact hn.1
      · rw [if_neg hs]; simp only [alook]; rw [if_neg (fun e => hs (e.symm.trans hp))]
    · rw [if_neg hp]
      simp only [alook]
      by_cases hs : p.1 = s
      · rw [if_pos hs, if_pos hs, if_neg (fun e => hp (hs.trans e))]
      · rw [if_neg hs, if_neg hs]; exact ih hn.2
end
/-! what a letter does -/
def turn2 (x : HoldM) : HoldM := match alook x.active x.all with | none => { x with active := 0 } | some _ => x
def turn1 (x : HoldM) (v : Int) : HoldM := turn2 (if x.prepared = v then { x with prepared := 0 } else x)
def turnH (x : HoldM) (c : UInt8) (v : Int) : HoldM :=
  if c = 80 then { x with prepared := v }
  else turn1 (if c = 65 then { x with active := v } else if c = 68 then { x with all := adel v x.all } else x) v
section
variable {w : World} {col : Col} {k d j h mb : Nat} {x : HoldM} {bs : List (Int × Nat)}
theorem HoldAtX.st {w' : World} {x' : HoldM} (q : HoldAtX w col k d j h x mb bs) (e : ∃ o, w' = putB w h o) (h1 : Arr w' h ty_hold_Hold (holdC x' j mb)) (ha : x'.all = x.all) (hj : x'.j = x.j) : HoldAtX w' col k d j h x' mb bs ∧ FrS (Rg k (k + 2)) w col w' col := by
  obtain ⟨o, rfl⟩ := e
  have m : Mod w (putB w h o) (fun p => p = h) := Mod.put _ _ rfl
  have f : FrS (fun i => i = k + 2) w col (putB w h o) col := .of_mod m fun p hp => .inl (by rw [hp, q.a2])
  have hmh : mb ≠ h := fun e => by have := q.a4; rw [e, q.a2] at this; simp at this
  refine ⟨⟨h1, q.a2, q.a3.up (m.keep _ q.a3.lt hmh), q.a4, ⟨by rw [ha]; exact q.a5.1, by rw [ha]; exact q.a5.2.1, fun v b y h1 h2 => ?_, by rw [ha]; exact q.a5.2.2.2⟩, by rw [hj]; exact q.a6.fr f (by omega) (by omega)⟩, f.mono fun i hi => by subst hi; exact ⟨by omega, by omega⟩⟩
  obtain ⟨sv, mp, ob, c1, c2, c3, c4, c5, c6, c7, c8⟩ := q.a5.2.2.1 v b y h1 (by rw [← ha]; exact h2)
  have g : ∀ {r a c : Nat}, 9 ≤ a → col r = (k + 2, a, c) → gb (putB w h o) r = gb w r := fun h9 hc => gb_putB_ne fun e => by rw [e, q.a2] at hc; simp at hc; omega
  exact ⟨sv, mp, ob, (g (by omega) c2).trans c1, c2, c3.up fun r hr hi => g (by omega) (c4 r hi), c4, c5.up (g (by omega) c6), c6, c7.up (g (by omega) c8), c8⟩
theorem c_turn2 (q : HoldAtX w col k d j h x mb bs) {K : Value → World → Prop}
    (hk : ∀ w', FrS (Rg k (k + 2)) w col w' col → HoldAtX w' col k d j h (turn2 x) mb bs → K (.tuple #[]) w') : sh_hold_Hold_turn_j2 (ptr h 0) w K := by
  unfold sh_hold_Hold_turn_j2
  have qd := q.up (Up.refl w).drew
  have fd : FrS (Rg k (k + 2)) w col w.drew col := FrS.up (Up.refl w).drew _ _
  simp only [Drew, NilCk_ptr, FA_ptr, Nat.reduceAdd, qd.a1.ld (k := 1) rfl, qd.a1.ld (k := 2) rfl, true_and]
  rw [show I x.active = kI x.active from rfl, V_lookup mtHeld keyT_I qd.a3 x.active]
  unfold turn2 at hk
  cases hb : alook x.active bs with
  | none =>
    rw [alook_none_of_keys q.a5.1 hb] at hk
    simp only [true_and, EqNil_p0, IfV_true, NilCk_ptr, FA_ptr, Nat.reduceAdd]
    refine qd.a1.st rfl (by simp) fun w2 e2 hA2 => ?_
    obtain ⟨q2, f2⟩ := qd.st (x' := { x with active := 0 }) ⟨_, e2⟩ hA2 rfl rfl
    exact hk w2 (fd.trans f2) q2
  | some b =>
    obtain ⟨y, hy⟩ := alook_some_of_keys q.a5.1 hb
    rw [hy] at hk
    simp only [ptrV, true_and, EqNil_p1, IfV_false]
    exact hk _ fd qd
theorem c_turn1 (q : HoldAtX w col k d j h x mb bs) {v : Int} {K : Value → World → Prop}
    (hk : ∀ w', FrS (Rg k (k + 2)) w col w' col → HoldAtX w' col k d j h (turn1 x v) mb bs → K (.tuple #[]) w') : sh_hold_Hold_turn_j1 (ptr h 0) (I v) w K := by
  unfold sh_hold_Hold_turn_j1
  simp only [NilCk_ptr, FA_ptr, Nat.reduceAdd, q.a1.ld (k := 3) rfl, Bin_eql]
  unfold turn1 at hk
  by_cases hp : x.prepared = v
  · rw [if_pos hp] at hk
    simp only [hp, decide_true, IfV_true, NilCk_ptr, FA_ptr, Nat.reduceAdd]
    refine q.a1.st rfl (by simp) fun w2 e2 hA2 => ?_
    obtain ⟨q2, f2⟩ := q.st (x' := { x with prepared := 0 }) ⟨_, e2⟩ hA2 rfl rfl
    exact c_turn2 q2 fun w3 f3 q3 => hk w3 (f2.trans f3) q3
  · rw [if_neg hp] at hk
    simp only [hp, decide_false, IfV_false]
    exact c_turn2 q hk
theorem c_hold_turn (q : HoldAtX w col k d j h x mb bs) {c : UInt8} {v : Int} {K : Value → World → Prop}
    (hk : ∀ w' bs', FrS (Rg k (k + 2)) w col w' col → HoldAtX w' col k d j h (turnH x c v) mb bs' → (∀ u, c ≠ 68 → alook u bs' = alook u bs) → K (.tuple #[]) w') : CallF pg n_hold_Hold_turn [ptr h 0, Y c, I v] w K := by
  apply ln_hold_Hold_turn
  simp only [sh_hold_Hold_turn, Bin_eql_Y, B]
  unfold turnH at hk
  by_cases h80 : c = 80
  · rw [if_pos h80] at hk
    simp only [h80, decide_true, IfV_true, NilCk_ptr, FA_ptr, Nat.reduceAdd]
    refine q.a1.st rfl (by simp) fun w2 e2 hA2 => ?_
    obtain ⟨q2, f2⟩ := q.st (x' := { x with prepared := v }) ⟨_, e2⟩ hA2 rfl rfl
    exact hk w2 bs f2 q2 fun _ _ => rfl
  rw [if_neg h80] at hk
  simp only [h80, decide_false, IfV_false]
  by_cases h65 : c = 65
  · rw [if_pos h65] at hk
    simp only [h65, decide_true, IfV_true, NilCk_ptr, FA_ptr, Nat.reduceAdd]
    refine q.a1.st rfl (by simp) fun w2 e2 hA2 => ?_
    obtain ⟨q2, f2⟩ := q.st (x' := { x with active := v }) ⟨_, e2⟩ hA2 rfl rfl
    exact c_turn1 q2 fun w3 f3 q3 => hk w3 bs (f2.trans f3) q3 fun _ _ => rfl
  rw [if_neg h65] at hk
  simp only [h65, decide_false, IfV_false]
  by_cases h68 : c = 68
  · rw [if_pos h68] at hk
    simp only [h68, decide_true, IfV_true, NilCk_ptr, FA_ptr, Nat.reduceAdd, q.a1.ld (k := 1) rfl]
    rw [show I v = kI v from rfl]
    refine V_delete mtHeld keyT_I q.a3 v fun w2 ⟨o2, e2⟩ hm2 => ?_
    have m : Mod w w2 (fun p => p = mb) := by rw [e2]; exact Mod.put _ _ rfl
    have f : FrS (fun i => i = k + 2) w col w2 col := .of_mod m fun p hp => .inl (by rw [hp, q.a4])
    have hmh : h ≠ mb := fun e => by have := q.a4; rw [← e, q.a2] at this; simp at this
    have nb : (bs.map (·.1)).Nodup := by rw [q.a5.1]; exact q.a5.2.1
    have q2 : HoldAtX w2 col k d j h { x with all := adel v x.all } mb (adel v bs) := by
      refine ⟨(m.keep _ q.a1.lt hmh).trans q.a1, q.a2, hm2, q.a4, ⟨adel_keys v q.a5.1, q.a5.2.1.sublist (adel_sub.map _), fun u b y h1 h2 => ?_, fun p hp => q.a5.2.2.2 p (adel_sub.subset hp)⟩, q.a6.fr f (by omega) (by omega)⟩
      rw [alook_adel nb] at h1
      rw [alook_adel q.a5.2.1] at h2
      by_cases hu : u = v
      · rw [if_pos hu] at h1; cases h1
      · rw [if_neg hu] at h1 h2
        obtain ⟨sv, mp, ob, c1, c2, c3, c4, c5, c6, c7, c8⟩ := q.a5.2.2.1 u b y h1 h2
        have g : ∀ {r a c : Nat}, 9 ≤ a → col r = (k + 2, a, c) → gb w2 r = gb w r := fun h9 hc => by rw [e2]; exact gb_putB_ne fun e => by rw [e, q.a4] at hc; simp at hc; omega
        exact ⟨sv, mp, ob, (g (by omega) c2).trans c1, c2, c3.up fun r hr hi => g (by omega) (c4 r hi), c4, c5.up (g (by omega) c6), c6, c7.up (g (by omega) c8), c8⟩
    have f2 : FrS (Rg k (k + 2)) w col w2 col := f.mono fun i hi => by subst hi; exact ⟨by omega, by omega⟩
    exact c_turn1 q2 fun w3 f3 q3 => hk w3 _ (f2.trans f3) q3 fun _ hc => absurd h68 hc
  · rw [if_neg h68] at hk
    simp only [h68, decide_false, IfV_false]
    exact c_turn1 q fun w3 f3 q3 => hk w3 bs f3 q3 fun _ _ => rfl
end
/-! notes -/
def noteH (x : HoldM) (c : UInt8) (v : Nat) : Bool × HoldM :=
  if (writeJ x.j [c :: numsB [v]]).1 then (true, { x with j := (writeJ x.j [c :: numsB [v]]).2 }) else (false, turnH { x with j := (writeJ x.j [c :: numsB [v]]).2 } c v)
theorem ix_one (c : UInt8) (K : Value → Prop) : IxStr (Str [c]) (N 0) K = K (Y c) := IxStr_N [c] 0 (by simp)
theorem numsB_one {a : Nat} (ha : a < 72057594037927936) : (numsB [a]).length ≤ 8 := by
  have := numsB_three ha ha ha
  simp [numsB] at this ⊢
  omega
theorem c_hold_note {w : World} {col : Col} {k d j h mb : Nat} {x : HoldM} {bs : List (Int × Nat)} (q : HoldAtX w col k d j h x mb bs) (hk0 : k ≠ 0) {c : UInt8} {v : Nat} (hv : v < 72057594037927936) (hsm : JSmall x.j 10000) {K : Value → World → Prop}
    (hk : ∀ w' col' bs', FrS (Rg k (k + 2)) w col w' col' → HoldAtX w' col' k d j h (noteH x c v).2 mb bs' → K (downV (noteH x c v).1) w') : CallF pg n_hold_Hold_note [ptr h 0, Str [c], N v] w K := by
  apply ln_hold_Hold_note
  have qd := q.up (Up.refl w).drew
  simp only [sh_hold_Hold_note, Drew, NilCk_ptr, FA_ptr, Nat.zero_add, qd.a1.ld (k := 0) rfl, true_and]
  rw [V_eq bsN1]
  have u1 : Up w (w.drew.alloc (.cells [N v].toArray 3)) := (Up.refl w).drew.alloc _
  have hsl1 : Sl (w.drew.alloc (.cells [N v].toArray 3)) 1 (.slice (some ⟨sz w.drew, 0, none⟩) 1 1) 1 [N v] := Sl.fresh rfl
  generalize w.drew.alloc (.cells [N v].toArray 3) = w1 at u1 hsl1 ⊢
  have ej : ∀ {w' : World}, Up w w' → Ld (ptr h 0) w' (fun t w1 => w1 = w' ∧ t = ptr j 0) := fun u => by rw [(q.up u).a1.ld (k := 0) rfl]; exact ⟨rfl, rfl⟩
  refine ⟨⟨ej u1, trivial⟩, ?_⟩
  refine c_hold_numbers (l := [v]) (by simpa using hv) (by simp) hsl1 fun w2 u2 => ?_
  have u02 := u1.trans u2
  refine ⟨⟨ej u02, trivial⟩, ?_⟩
  have hn1 := numsB_one hv
  have hcat : ∀ K1 : Value → Prop, BinS .add (Str [c]) (Str (numsB [v])) K1 = K1 (Str ([c] ++ numsB [v])) := fun K1 => BinS_add _ _ (by simp; omega)
  rw [hcat]
  rw [V_eq bs38_1]
  have u3 : Up w (w2.alloc (.cells [Str ([c] ++ numsB [v])].toArray 9)) := u02.alloc _
  have hsl3 : Sl (w2.alloc (.cells [Str ([c] ++ numsB [v])].toArray 9)) 1 (.slice (some ⟨sz w2, 0, none⟩) 1 1) 1 [Str ([c] ++ numsB [v])] := Sl.fresh rfl
  generalize w2.alloc (.cells [Str ([c] ++ numsB [v])].toArray 9) = w3 at u3 hsl3 ⊢
  refine ⟨⟨ej u3, trivial⟩, ?_⟩
  have hs2 : sz w ≤ sz w2 := u02.size
  have q3 : HoldAtX w3 (paint col (sz w2) (fun p => p = sz w2) (0, 0, 0)) k d j h x mb bs :=
    q.fr (S := fun _ => False) ((FrS.up u3 _ _).paint hs2 _ _) (fun h => h) (fun h => h) (fun h => h)
  have f3 : FrS (Rg k (k + 2)) w col w3 (paint col (sz w2) (fun p => p = sz w2) (0, 0, 0)) := (FrS.up u3 _ _).paint hs2 _ _
  have hpc : paint col (sz w2) (fun p => p = sz w2) (0, 0, 0) (sz w2) = (0, 0, 0) := paint_in (Nat.le_refl _) rfl
  generalize paint col (sz w2) (fun p => p = sz w2) (0, 0, 0) = col3 at q3 f3 hpc
  have hn1 := numsB_one hv
  refine c_journal_Write q3.a6 hk0 (l := [c :: numsB [v]]) (v := .slice (some ⟨sz w2, 0, none⟩) 1 1) hsl3 (fun p hp => by
    have e0 : col3 p = (0, 0, 0) := by cases hp; exact hpc
    rw [e0]; exact fun e => by have := e.1; omega) (by simp; omega) (by simp) ?_ fun w4 col4 f4 j4 => ?_
  · rw [sealsL_one]
    exact ⟨by have := hsm.log; simp; omega, hsm.waits, hsm.all, hsm.bytes⟩
  have q4 := q3.jour f4 (by simp) j4
  have f04 := f3.trans (f4.rg (lo' := k) (hi' := k + 2) (Nat.le_refl _) (by omega))
  unfold noteH at hk
  cases hw : (writeJ x.j [c :: numsB [v]]).1 with
  | true =>
    rw [hw] at hk
    simp only [downV, if_true, true_and, NeNil_i1, IfV_true] at hk ⊢
    exact hk w4 col4 bs f04 q4
  | false =>
    rw [hw] at hk
    simp only [downV, Bool.false_eq_true, if_false, true_and, NeNil_i0, IfV_false] at hk ⊢
    rw [ix_one]
    exact c_hold_turn q4 fun w5 bs5 f5 q5 _ => hk w5 col4 bs5 (f04.trans f5) q5
theorem c_hold_Flush {w : World} {col : Col} {k d j h mb : Nat} {x : HoldM} {bs : List (Int × Nat)} (q : HoldAtX w col k d j h x mb bs) {K : Value → World → Prop}
    (hk : ∀ w' col', FrS (Rg k (k + 2)) w col w' col' → HoldAtX w' col' k d j h { x with j := { x.j with disk := (syncD x.j.disk).2 } } mb bs → K (downV (syncD x.j.disk).1) w') : CallF pg n_hold_Hold_Flush [ptr h 0] w K := by
  apply ln_hold_Hold_Flush
  simp only [sh_hold_Hold_Flush, EqNil_p1, IfV_false, NilCk_ptr, FA_ptr, Nat.zero_add, q.a1.ld (k := 0) rfl]
  exact c_journal_Flush q.a6 fun w2 col2 f2 j2 => hk w2 col2 (f2.rg (Nat.le_refl _) (by omega)) (q.jour f2 (by simp) j2)
/-- what Prepare and Activate do -/
def nextH (x : HoldM) (c : UInt8) (v : Nat) : Value × HoldM :=
  match alook (v : Int) x.all with
  | none => (eErr 13, x)
  | some y =>
    if (v : Int) ≤ x.active then (eErr 13, x)
    else if y.blocks.length < y.man.blocks then (eErr 9, x)
    else
      let x1 : HoldM := { x with j := { x.j with disk := (syncD x.j.disk).2 } }
      if (syncD x.j.disk).1 then (eErr 8, x1) else (downV (noteH x1 c v).1, (noteH x1 c v).2)
theorem syncD_log (x : DiskM) : (syncD x).2.log = x.log ∧ (syncD x).2.waits.length ≤ x.waits.length := by
  obtain ⟨b1, b2, b3, b4, b5⟩ := burnD_keeps x
  unfold syncD
  split
  · simp
  · split
    · rw [b1, b3]; simp
    · simp [settleD, b1]
theorem c_hold_next {w : World} {col : Col} {k d j h mb : Nat} {x : HoldM} {bs : List (Int × Nat)} (q : HoldAtX w col k d j h x mb bs) (hk0 : k ≠ 0) {c : UInt8} {v : Nat} (hv : v < 72057594037927936) (hsm : JSmall x.j 10000) {K : Value → World → Prop}
    (hk : ∀ w' col' bs', FrS (Rg k (k + 2)) w col w' col' → HoldAtX w' col' k d j h (nextH x c v).2 mb bs' → K (nextH x c v).1 w') : CallF pg n_hold_Hold_next [ptr h 0, Str [c], N v] w K := by
  apply ln_hold_Hold_next
  simp only [sh_hold_Hold_next]
  unfold nextH at hk
  refine c_hold_knownX q (v := (v : Int)) (fun hn => ?_) (fun y b hy hb => ?_)
  · rw [hn] at hk
    simp only [Ext_0, Ext_1, NeNil_i1, IfV_true]
    exact hk w col bs (FrS.refl ..) q
  rw [hy] at hk
  simp only at hk
  obtain ⟨sv, mp, ob, b1, b2, b3, b4, b5, b6, b7, b8⟩ := q.held hb hy
  have nv : N v = I (v : Int) := rfl
  simp only [Ext_0, Ext_1, NeNil_i0, IfV_false, NilCk_ptr, FA_ptr, Nat.reduceAdd, q.a1.ld (k := 2) rfl]
  rw [nv]
  simp only [Bin_leq]
  by_cases hle : (v : Int) ≤ x.active
  · rw [if_pos hle] at hk
    simp only [hle, decide_true, IfV_true]
    exact hk w col bs (FrS.refl ..) q
  rw [if_neg hle] at hk
  have ud : Up w w.drew := (Up.refl w).drew
  have b1d := b1.up ud
  have b5d : MapIs w.drew mp kI plV y.blocks := b5.up rfl
  simp only [hle, decide_false, IfV_false, Drew, NilCk_ptr, FA_ptr, Nat.reduceAdd, b1d.ld (k := 6) rfl, V_maplen mtPl.u b5d, b1d.ld (k := 4) rfl, true_and, Bin_lss_N, B]
  have qd := q.up ud
  have fd : FrS (Rg k (k + 2)) w col w.drew col := FrS.up ud _ _
  by_cases hlt : y.blocks.length < y.man.blocks
  · rw [if_pos hlt] at hk
    simp only [hlt, decide_true, IfV_true]
    exact hk _ col bs fd qd
  rw [if_neg hlt] at hk
  simp only [hlt, decide_false, IfV_false]
  refine c_hold_Flush qd fun w2 col2 f2 q2 => ?_
  obtain ⟨hlg, hwt⟩ := syncD_log x.j.disk
  cases hs : (syncD x.j.disk).1 with
  | true =>
    rw [hs] at hk
    simp only [downV, if_true, NeNil_i1, IfV_true] at hk ⊢
    exact hk w2 col2 bs (fd.trans f2) q2
  | false =>
    rw [hs] at hk
    simp only [downV, Bool.false_eq_true, if_false, NeNil_i0, IfV_false] at hk ⊢
    rw [← nv]
    refine c_hold_note q2 hk0 hv ⟨?_, ?_, hsm.all, hsm.bytes⟩ fun w3 col3 bs3 f3 q3 => hk w3 col3 bs3 ((fd.trans f2).trans f3) q3
    · have := hsm.log; simp only [hlg]; omega
    · have := hsm.waits; simp only; omega
theorem c_hold_Activate {w : World} {col : Col} {k d j h mb : Nat} {x : HoldM} {bs : List (Int × Nat)} (q : HoldAtX w col k d j h x mb bs) (hk0 : k ≠ 0) {v : Nat} (hv : v < 72057594037927936) (hsm : JSmall x.j 10000) {K : Value → World → Prop}
    (hk : ∀ w' col' bs', FrS (Rg k (k + 2)) w col w' col' → HoldAtX w' col' k d j h (nextH x 65 v).2 mb bs' → K (nextH x 65 v).1 w') : CallF pg n_hold_Hold_Activate [ptr h 0, N v] w K := by
  apply ln_hold_Hold_Activate
  simp only [sh_hold_Hold_Activate]
  exact c_hold_next q hk0 hv hsm hk
end Go.Proofs.Tryz

namespace Go.Proofs.Tryz
open Go Go.Lad
set_option autoImplicit false
set_option maxRecDepth 100000
set_option linter.unusedSimpArgs false
set_option linter.unusedVariables false

/-- what add does -/
def addH (x : HoldM) (m : Man) : HoldM := { x with all := aset (m.version : Int) ⟨m, [], []⟩ x.all }
theorem bdHeld (m : Man) (sv : Value) (a b : Nat) (hs : plainV sv = true) (w : World) : (Instr.build ty_hold_held [(0, manV m sv), (1, .map (some a)), (2, .map (some b))].toArray).run pg w = .ok (.agg (manC m sv ++ [Value.map (some a), Value.map (some b)]).toArray) w := by
  cases sv <;> first | (cases hs; done) | kernel_rfl
theorem _root_.Go.Lad.Sl.cellsAt {w : World} {m n : Nat} {v : Value} {cs : List Value} (h : Sl w m v n cs) {q : Nat} (hq : InSl v q) : ∃ c t o, gb w q = some (.cells c t o) := by
  cases h with
  | nil => cases hq
  | «at» b k n cap cs h hn hc => cases hq; obtain ⟨c, t, o, h1, _⟩ := h; exact ⟨c, t, o, h1⟩
section
variable {κ ν ν' : Type} [DecidableEq κ]
theorem aset_new {k : κ} {l : List (κ × ν)} (h : alook k l = none) (v : ν) : aset k v l = l ++ [(k, v)] := aset_none (alook_none.1 h) v
end
theorem c_add_tail {w0 w : World} {col : Col} {k d j h mb : Nat} {x : HoldM} {bs : List (Int × Nat)} (q : HoldAtX w0 col k d j h x mb bs) (hk0 : k ≠ 0) (u : Up w0 w) {m : Man} (hn : alook (m.version : Int) x.all = none)
    {sv' : Value} {lo : Nat} (ho : Own w lo ty_api_Shard 2 sv' m.shards.length (shardsC m.shards)) (hlo : sz w0 ≤ lo) {ma mo : Nat} (hma : MapIs w ma kI plV []) (hmo : MapIs w mo kI plV []) (h1 : sz w0 ≤ ma) (h2 : sz w0 ≤ mo) (hne : ma ≠ mo)
    {p6 : Nat} {sv : Value} (hA : Arr w p6 ty_api_Manifest (manC m sv)) {K : Value → World → Prop}
    (hk : ∀ w' col' bs', FrS (Rg k (k + 2)) w0 col w' col' → HoldAtX w' col' k d j h (addH x m) mb bs' → K (.tuple #[]) w') :
    V pg (Instr.build ty_hold_held [(0, manV m sv'), (1, .map (some ma)), (2, .map (some mo))].toArray) w fun t11 w1 => (w1 = w) ∧ (New (Value.cells t11).toList ty_hold_held w fun t12 w =>
      ((Ld (ptr p6 0) w fun t15 w1 => w1 = w ∧ t15 = N m.version) ∧ (Ld (ptr h 1) w fun t14 w1 => w1 = w ∧ t14 = .map (some mb)) ∧ True) ∧ (U pg (Instr.mapUpdate ty_m_int_p_hold_held (.map (some mb)) (N m.version) t12) w fun t13 w => (K (.tuple #[]) w))) := by
  rw [V_eq (bdHeld m sv' ma mo ho.plain w)]
  refine ⟨rfl, ?_⟩
  refine New_of (cs := manC m sv' ++ [Value.map (some ma), Value.map (some mo)]) fun w1 u1 hB hz1 => ?_
  have u01 := u.trans u1
  have q1 := q.up u01
  refine ⟨⟨?_, ?_, trivial⟩, ?_⟩
  · rw [(hA.up u1).ld (k := 0) rfl]; exact ⟨rfl, rfl⟩
  · rw [q1.a1.ld (k := 1) rfl]; exact ⟨rfl, rfl⟩
  have ho1 : Own w1 lo ty_api_Shard 2 sv' m.shards.length (shardsC m.shards) := Own.up ho fun r hr hi => u1.keep r hr
  have hma1 : MapIs w1 ma kI plV [] := hma.up (u1.keep _ hma.lt)
  have hmo1 : MapIs w1 mo kI plV [] := hmo.up (u1.keep _ hmo.lt)
  have hsw : sz w0 ≤ sz w := u.size
  have lma := hma.lt
  have lmo := hmo.lt
  have lin : ∀ r, InSl sv' r → r < sz w := fun r hr => ho.sl.lt hr
  have nma : ¬ InSl sv' ma := fun hi => by
    obtain ⟨c, t, o, e⟩ := ho.sl.cellsAt hi
    obtain ⟨es, cc, e2, _⟩ := hma
    rw [e] at e2; cases e2
  have nmo : ¬ InSl sv' mo := fun hi => by
    obtain ⟨c, t, o, e⟩ := ho.sl.cellsAt hi
    obtain ⟨es, cc, e2, _⟩ := hmo
    rw [e] at e2; cases e2
  -- the colours
  let c1 := paint col (sz w0) (fun r => r = sz w) (k + 2, 10, m.version)
  let c2 := paint c1 (sz w0) (InSl sv') (k + 2, 11, m.version)
  let c3 := paint c2 (sz w0) (fun r => r = ma) (k + 2, 12, m.version)
  let c4 := paint c3 (sz w0) (fun r => r = mo) (k + 2, 13, m.version)
  have e1 : c4 (sz w) = (k + 2, 10, m.version) := by
    show paint c3 _ _ _ _ = _
    rw [paint_out (S := fun r => r = mo) (show ¬ (sz w = mo) by omega)]
    show paint c2 _ _ _ _ = _
    rw [paint_out (S := fun r => r = ma) (show ¬ (sz w = ma) by omega)]
    show paint c1 _ _ _ _ = _
    rw [paint_out (S := InSl sv') (fun hi => by have := lin _ hi; omega)]
    exact paint_in hsw rfl
  have e2 : ∀ r, InSl sv' r → c4 r = (k + 2, 11, m.version) := fun r hi => by
    have : sz w0 ≤ r := by have := ho.inSl hi; omega
    show paint c3 _ _ _ _ = _
    rw [paint_out (S := fun r => r = mo) (fun (e : r = mo) => nmo (e ▸ hi))]
    show paint c2 _ _ _ _ = _
    rw [paint_out (S := fun r => r = ma) (fun (e : r = ma) => nma (e ▸ hi))]
    exact paint_in this hi
  have e3 : c4 ma = (k + 2, 12, m.version) := by
    show paint c3 _ _ _ _ = _
    rw [paint_out (S := fun r => r = mo) hne]
    exact paint_in h1 rfl
  have e4 : c4 mo = (k + 2, 13, m.version) := paint_in h2 rfl
  have f4 : ∀ S, FrS S w0 col w1 c4 := fun S => ((((FrS.up u01 S col).paint (Nat.le_refl _) _ _).paint (Nat.le_refl _) _ _).paint (Nat.le_refl _) _ _).paint (Nat.le_refl _) _ _
  generalize c4 = cc at e1 e2 e3 e4 f4
  clear_value c3 c2 c1
  have q4 : HoldAtX w1 cc k d j h x mb bs := q.fr (f4 (fun _ => False)) (fun h => h) (fun h => h) (fun h => h)
  rw [kI_N, show ptr (sz w) 0 = ptrV (sz w) from rfl]
  refine U_update mtHeld keyT_I q4.a3 (m.version : Int) (sz w) fun w2 ⟨o2, e2'⟩ hm2 => ?_
  have mm : Mod w1 w2 (fun p => p = mb) := by rw [e2']; exact Mod.put _ _ rfl
  have fk : FrS (fun i => i = k + 2) w1 cc w2 cc := .of_mod mm fun p hp => .inl (by rw [hp, q4.a4])
  have hmh : h ≠ mb := fun e => by have := q4.a4; rw [← e, q4.a2] at this; simp at this
  have g : ∀ {r a c : Nat}, 9 ≤ a → cc r = (k + 2, a, c) → gb w2 r = gb w1 r := fun h9 hc => by rw [e2']; exact gb_putB_ne fun e => by rw [e, q4.a4] at hc; simp at hc; omega
  have hnb : alook (m.version : Int) bs = none := alook_none_of_keys q.a5.1.symm hn
  have nev : (m.version : Int).toNat = m.version := by omega
  refine hk w2 cc (aset (m.version : Int) (sz w) bs) ((f4 _).trans (fk.mono fun i hi => by subst hi; exact ⟨by omega, by omega⟩)) ⟨(mm.keep _ q4.a1.lt hmh).trans q4.a1, q4.a2, hm2, q4.a4, ⟨?_, ?_, fun v b y hb hy => ?_, fun p hp => ?_⟩, q4.a6.fr fk (by omega) (by omega)⟩
  · simp only [addH, aset_new hn, aset_new hnb, List.map_append, q.a5.1, List.map_cons, List.map_nil]
  · simp only [addH, aset_new hn, List.map_append, List.map_cons, List.map_nil]
    refine List.nodup_append.2 ⟨q.a5.2.1, by simp, fun a ha b hb => ?_⟩
    rw [List.mem_singleton] at hb
    rw [hb]
    exact fun e => (alook_none.1 hn) (e ▸ ha)
  · simp only [addH, alook_aset] at hb hy
    by_cases hv : v = m.version
    · rw [if_pos hv] at hb hy
      cases hb; cases hy
      rw [hv]
      refine ⟨sv', ma, mo, (g (by omega) e1).trans hB, by rw [nev]; exact e1, ho1.sl.up fun r hr hi => g (by omega) (e2 r hi), fun r hi => by rw [nev]; exact e2 r hi, hma1.up (g (by omega) e3), by rw [nev]; exact e3, hmo1.up (g (by omega) e4), by rw [nev]; exact e4⟩
    · rw [if_neg hv] at hb hy
      obtain ⟨sv2, mp, ob, d1, d2, d3, d4, d5, d6, d7, d8⟩ := q4.a5.2.2.1 v b y hb hy
      exact ⟨sv2, mp, ob, (g (by omega) d2).trans d1, d2, d3.up fun r hr hi => g (by omega) (d4 r hi), d4, d5.up (g (by omega) d6), d6, d7.up (g (by omega) d8), d8⟩
  · simp only [addH, aset_new hn, List.mem_append, List.mem_singleton] at hp
    rcases hp with hp | rfl
    · exact q.a5.2.2.2 p hp
    · simp
theorem c_hold_add {w : World} {col : Col} {k d j h mb : Nat} {x : HoldM} {bs : List (Int × Nat)} (q : HoldAtX w col k d j h x mb bs) (hk0 : k ≠ 0) {m : Man} {sv : Value} (hsh : ShSl w sv m.shards) (hl : m.shards.length ≤ 1048576) (hn : alook (m.version : Int) x.all = none) {K : Value → World → Prop}
    (hk : ∀ w' col' bs', FrS (Rg k (k + 2)) w col w' col' → HoldAtX w' col' k d j h (addH x m) mb bs' → K (.tuple #[]) w') : CallF pg n_hold_Hold_add [ptr h 0, manV m sv] w K := by
  apply ln_hold_Hold_add
  simp only [sh_hold_Hold_add]
  refine New_of (cs := manC m sv) fun w1 u1 hA hz1 => ?_
  have ud : Up w w1.drew := u1.drew
  have hAd : Arr w1.drew (sz w) ty_api_Manifest (manC m sv) := hA
  have qd := q.up ud
  simp only [Drew, NilCk_ptr, FA_ptr, Nat.reduceAdd, Nat.zero_add, qd.a1.ld (k := 1) rfl, hAd.ld (k := 0) rfl, true_and]
  refine hAd.ldAll (m := 6) rfl ⟨rfl, ?_⟩
  have hshd : ShSl w1.drew sv m.shards := hsh.Up ud
  generalize w1.drew = w2 at *
  have ld5 : ∀ {w' : World}, Up w2 w' → Ld (ptr (sz w) 0) w' (fun t w1 => w1 = w' ∧ t = N m.version) := fun u => by rw [(hAd.up u).ld (k := 0) rfl]; exact ⟨rfl, rfl⟩
  have ld3 : ∀ {w' : World}, Up w2 w' → Ld (ptr h 1) w' (fun t w1 => w1 = w' ∧ t = .map (some mb)) := fun u => by rw [(qd.up u).a1.ld (k := 1) rfl]; exact ⟨rfl, rfl⟩
  have ldn : ∀ {w' : World}, Up w2 w' → LdN (ptr (sz w) 0) 6 w' (fun t w1 => w1 = w' ∧ t = manV m sv) := fun u => (hAd.up u).ldAll (m := 6) rfl ⟨rfl, rfl⟩
  have tail : ∀ {w' : World} {sv' : Value} {lo ma mo : Nat}, Up w2 w' → Own w' lo ty_api_Shard 2 sv' m.shards.length (shardsC m.shards) → sz w2 ≤ lo → MapIs w' ma kI plV [] → MapIs w' mo kI plV [] → sz w2 ≤ ma → sz w2 ≤ mo → ma ≠ mo → _ :=
    fun {w' sv' lo ma mo} u ho hlo hma hmo h1 h2 hne => c_add_tail (K := K) (qd) hk0 u hn ho hlo hma hmo h1 h2 hne (hAd.up u) fun w3 col3 bs3 f3 q3 => hk w3 col3 bs3 ((FrS.up ud _ _).trans f3) q3
  refine ⟨?_, ?_, ?_⟩
  · refine c_man_Copy hshd hl fun w3 sv' u3 ho => ⟨⟨ld5 u3, ld3 u3, trivial⟩, ?_, ?_⟩
    · refine V_makeMap (kv := kI) (vv := plV) fun w4 u4 hm4 hz4 => ⟨⟨ldn (u3.trans u4), ld5 (u3.trans u4), ld3 (u3.trans u4), trivial⟩, ?_⟩
      refine V_makeMap (kv := kI) (vv := plV) fun w5 u5 hm5 hz5 => ⟨⟨ldn ((u3.trans u4).trans u5), ld5 ((u3.trans u4).trans u5), ld3 ((u3.trans u4).trans u5), trivial⟩, ?_⟩
      have s3 := u3.size
      have s4 := u4.size
      exact tail ((u3.trans u4).trans u5) (Own.Up ho (u4.trans u5)) (Nat.le_refl _) (hm4.up (u5.keep _ hm4.lt)) hm5 (by omega) (by omega) (by omega)
    · refine V_makeMap (kv := kI) (vv := plV) fun w4 u4 hm4 hz4 => ⟨⟨ldn (u3.trans u4), ld5 (u3.trans u4), ld3 (u3.trans u4), trivial⟩, ?_⟩
      refine V_makeMap (kv := kI) (vv := plV) fun w5 u5 hm5 hz5 => ⟨⟨ldn ((u3.trans u4).trans u5), ld5 ((u3.trans u4).trans u5), ld3 ((u3.trans u4).trans u5), trivial⟩, ?_⟩
      have s3 := u3.size
      have s4 := u4.size
      exact tail ((u3.trans u4).trans u5) (Own.Up ho (u4.trans u5)) (Nat.le_refl _) hm5 (hm4.up (u5.keep _ hm4.lt)) (by omega) (by omega) (by omega)
  · refine V_makeMap (kv := kI) (vv := plV) fun w3 u3 hm3 hz3 => ⟨⟨ldn u3, ld5 u3, ld3 u3, trivial⟩, ?_, ?_⟩
    · refine c_man_Copy (hshd.Up u3) hl fun w4 sv' u4 ho => ⟨⟨ld5 (u3.trans u4), ld3 (u3.trans u4), trivial⟩, ?_⟩
      refine V_makeMap (kv := kI) (vv := plV) fun w5 u5 hm5 hz5 => ⟨⟨ldn ((u3.trans u4).trans u5), ld5 ((u3.trans u4).trans u5), ld3 ((u3.trans u4).trans u5), trivial⟩, ?_⟩
      have s3 := u3.size
      have s4 := u4.size
      exact tail ((u3.trans u4).trans u5) (Own.Up ho u5) (by omega) (hm3.up ((u4.trans u5).keep _ hm3.lt)) hm5 (by omega) (by omega) (by omega)
    · refine V_makeMap (kv := kI) (vv := plV) fun w4 u4 hm4 hz4 => ⟨⟨ldn (u3.trans u4), ld5 (u3.trans u4), ld3 (u3.trans u4), trivial⟩, ?_⟩
      refine c_man_Copy (hshd.Up (u3.trans u4)) hl fun w5 sv' u5 ho => ⟨⟨ld5 ((u3.trans u4).trans u5), ld3 ((u3.trans u4).trans u5), trivial⟩, ?_⟩
      have s3 := u3.size
      have s4 := u4.size
      exact tail ((u3.trans u4).trans u5) ho (by omega) (hm3.up ((u4.trans u5).keep _ hm3.lt)) (hm4.up (u5.keep _ hm4.lt)) (by omega) (by omega) (by omega)
  · refine V_makeMap (kv := kI) (vv := plV) fun w3 u3 hm3 hz3 => ⟨⟨ldn u3, ld5 u3, ld3 u3, trivial⟩, ?_, ?_⟩
    · refine c_man_Copy (hshd.Up u3) hl fun w4 sv' u4 ho => ⟨⟨ld5 (u3.trans u4), ld3 (u3.trans u4), trivial⟩, ?_⟩
      refine V_makeMap (kv := kI) (vv := plV) fun w5 u5 hm5 hz5 => ⟨⟨ldn ((u3.trans u4).trans u5), ld5 ((u3.trans u4).trans u5), ld3 ((u3.trans u4).trans u5), trivial⟩, ?_⟩
      have s3 := u3.size
      have s4 := u4.size
      exact tail ((u3.trans u4).trans u5) (Own.Up ho u5) (by omega) hm5 (hm3.up ((u4.trans u5).keep _ hm3.lt)) (by omega) (by omega) (by omega)
    · refine V_makeMap (kv := kI) (vv := plV) fun w4 u4 hm4 hz4 => ⟨⟨ldn (u3.trans u4), ld5 (u3.trans u4), ld3 (u3.trans u4), trivial⟩, ?_⟩
      refine c_man_Copy (hshd.Up (u3.trans u4)) hl fun w5 sv' u5 ho => ⟨⟨ld5 ((u3.trans u4).trans u5), ld3 ((u3.trans u4).trans u5), trivial⟩, ?_⟩
      have s3 := u3.size
      have s4 := u4.size
      exact tail ((u3.trans u4).trans u5) ho (by omega) (hm4.up (u5.keep _ hm4.lt)) (hm3.up ((u4.trans u5).keep _ hm3.lt)) (by omega) (by omega) (by omega)
/-- what Add does -/
def addsH (x : HoldM) (m : Man) : Value × HoldM :=
  match placeM m with
  | some i => (eFault i 4, x)
  | none =>
    match alook (m.version : Int) x.all with
    | some y => if y.man = m then (.nilIface, x) else (eErr 13, x)
    | none =>
      if (m.version : Int) ≤ x.active then (eErr 13, x)
      else if 3 ≤ x.all.length then (eErr 7, x)
      else if (putJ x.j [77 :: manB m]).1 then (eErr 8, { x with j := (putJ x.j [77 :: manB m]).2 })
      else (.nilIface, addH { x with j := (putJ x.j [77 :: manB m]).2 } m)
theorem c_hold_Add {w : World} {col : Col} {k d j h mb : Nat} {x : HoldM} {bs : List (Int × Nat)} (q : HoldAtX w col k d j h x mb bs) (hk0 : k ≠ 0) {m : Man} (hm : ManB m) {sv : Value} (hsh : ShSl w sv m.shards) (hsc : ∀ b, InSl sv b → ¬ Rg k (k + 2) (col b).1) (hl : m.shards.length ≤ 1048576) (hl2 : (manB m).length ≤ 50000) (hok : ∀ y, alook (m.version : Int) x.all = some y → y.man.shards.length < 1099511627776) (hsm : JSmall x.j 60000) {K : Value → World → Prop}
    (hk : ∀ w' col' bs', FrS (Rg k (k + 2)) w col w' col' → HoldAtX w' col' k d j h (addsH x m).2 mb bs' → K (addsH x m).1 w') : CallF pg n_hold_Hold_Add [ptr h 0, manV m sv] w K := by
  apply ln_hold_Hold_Add
  simp only [sh_hold_Hold_Add]
  unfold addsH at hk
  refine New_of (cs := manC m sv) fun w1 u1 hA hz1 => ?_
  simp only [EqNil_p1, IfV_false]
  refine hA.ldAll (m := 6) rfl ?_
  refine c_man_Put hm (hsh.Up u1) (fun i hi w2 u2 => ?_) (fun hi w2 u2 => ?_)
  · rw [hi] at hk
    simp only [Ext_0, Ext_1, NeNil_i1, IfV_true]
    exact hk w2 col bs (FrS.up (u1.trans u2) _ _) (q.up (u1.trans u2))
  rw [hi] at hk
  simp only at hk
  have u02 := u1.trans u2
  have ud : Up w w2.drew := u02.drew
  have hAd : Arr w2.drew (sz w) ty_api_Manifest (manC m sv) := hA.up u2.drew
  have qd := q.up ud
  have hshd : ShSl w2.drew sv m.shards := hsh.Up ud
  simp only [Ext_0, Ext_1, NeNil_i0, IfV_false, Drew, NilCk_ptr, FA_ptr, Nat.reduceAdd, Nat.zero_add, qd.a1.ld (k := 1) rfl, hAd.ld (k := 0) rfl, true_and]
  rw [kI_N, V_lookup mtHeld keyT_I qd.a3 (m.version : Int)]
  cases hb : alook (m.version : Int) bs with
  | some b =>
    obtain ⟨y, hy⟩ := alook_some_of_keys q.a5.1 hb
    rw [hy] at hk
    simp only at hk
    have qdd := qd.up (Up.refl w2.drew).drew
    obtain ⟨sv2, mp, ob, d1, d2, d3, d4, d5, d6, d7, d8⟩ := qdd.held hb hy
    simp only [ptrV, true_and, Drew, NeNil_p1, IfV_true, NilCk_ptr, FA_ptr, Nat.reduceAdd]
    refine d1.ldN (k := 0) (m := 6) (by simp) ?_
    have e0 : ((manC y.man sv2 ++ [Value.map (some mp), .map (some ob)]).drop 0).take 6 = manC y.man sv2 := rfl
    rw [e0]
    refine ⟨rfl, ?_⟩
    have hAdd : Arr w2.drew.drew (sz w) ty_api_Manifest (manC m sv) := hAd
    refine hAdd.ldAll (m := 6) rfl ⟨rfl, ?_⟩
    refine c_man_Same d3 (hshd.Up (Up.refl w2.drew).drew) (hok y hy) fun w3 u3 => ?_
    have u03 := (ud.trans (Up.refl w2.drew).drew).trans u3
    unfold sh_hold_Hold_Add_j1
    by_cases he : y.man = m
    · rw [if_pos he] at hk
      simp only [he, decide_true, B, IfV_true]
      exact hk w3 col bs (FrS.up u03 _ _) (q.up u03)
    · rw [if_neg he] at hk
      simp only [he, decide_false, B, IfV_false, Drew, NeNil_p1, IfV_true]
      exact hk _ col bs (FrS.up u03.drew _ _) (q.up u03.drew)
  | none =>
    have hy := alook_none_of_keys q.a5.1 hb
    rw [hy] at hk
    simp only at hk
    have udd : Up w w2.drew.drew := ud.drew
    have qdd := q.up udd.drew
    have hAdd : Arr w2.drew.drew.drew (sz w) ty_api_Manifest (manC m sv) := hAd
    have nv : kI (m.version : Int) = I (m.version : Int) := rfl
    unfold sh_hold_Hold_Add_j1
    simp only [true_and, Drew, NeNil_p0, IfV_false, NilCk_ptr, FA_ptr, Nat.reduceAdd, Nat.zero_add, hAdd.ld (k := 0) rfl, qdd.a1.ld (k := 2) rfl, qdd.a1.ld (k := 1) rfl]
    rw [kI_N, nv]
    simp only [Bin_leq]
    by_cases hle : (m.version : Int) ≤ x.active
    · rw [if_pos hle] at hk
      simp only [hle, decide_true, IfV_true]
      exact hk _ col bs (FrS.up udd.drew _ _) qdd
    rw [if_neg hle] at hk
    have hlen : bs.length = x.all.length := by have := congrArg List.length q.a5.1; simpa using this
    simp only [hle, decide_false, IfV_false, V_maplen mtHeld.u qdd.a3, hlen, Bin_geq_N, B]
    by_cases h3 : 3 ≤ x.all.length
    · rw [if_pos h3] at hk
      simp only [h3, decide_true, IfV_true]
      exact hk _ col bs (FrS.up udd.drew _ _) qdd
    rw [if_neg h3] at hk
    have hcat : ∀ K1 : Value → Prop, BinS .add (Str [77]) (Str (manB m)) K1 = K1 (Str (77 :: manB m)) := fun K1 => BinS_add _ _ (by simp; omega)
    simp only [h3, decide_false, IfV_false, FA_ptr, Nat.zero_add, qdd.a1.ld (k := 0) rfl]
    rw [hcat, V_eq bs38_1]
    have u3 : Up w (w2.drew.drew.drew.alloc (.cells [Str (77 :: manB m)].toArray 9)) := udd.drew.alloc _
    have hsl3 : Sl (w2.drew.drew.drew.alloc (.cells [Str (77 :: manB m)].toArray 9)) 1 (.slice (some ⟨sz w2.drew.drew.drew, 0, none⟩) 1 1) 1 [Str (77 :: manB m)] := Sl.fresh rfl
    have hAe : Arr (w2.drew.drew.drew.alloc (.cells [Str (77 :: manB m)].toArray 9)) (sz w) ty_api_Manifest (manC m sv) := hAdd.up ((Up.refl _).alloc _)
    have hs2 : sz w ≤ sz w2.drew.drew.drew := udd.drew.size
    have hs3 : sz w < sz w2.drew.drew.drew := hAdd.lt
    generalize w2.drew.drew.drew.alloc (.cells [Str (77 :: manB m)].toArray 9) = w3 at u3 hsl3 hAe ⊢
    generalize hs4 : sz w2.drew.drew.drew = s3 at hs2 hs3 hsl3 ⊢
    -- colours: the manifest's cell, and the record's
    have q3 : HoldAtX w3 (paint (paint col (sz w) (fun p => p = s3) (0, 0, 0)) (sz w) (fun p => p = sz w) (0, 0, 0)) k d j h x mb bs :=
      q.fr (S := fun _ => False) (((FrS.up u3 _ _).paint (Nat.le_refl _) _ _).paint (Nat.le_refl _) _ _) (fun h => h) (fun h => h) (fun h => h)
    have f3 : FrS (Rg k (k + 2)) w col w3 (paint (paint col (sz w) (fun p => p = s3) (0, 0, 0)) (sz w) (fun p => p = sz w) (0, 0, 0)) := ((FrS.up u3 _ _).paint (Nat.le_refl _) _ _).paint (Nat.le_refl _) _ _
    have hpc : paint (paint col (sz w) (fun p => p = s3) (0, 0, 0)) (sz w) (fun p => p = sz w) (0, 0, 0) s3 = (0, 0, 0) := by
      rw [paint_out (by omega)]; exact paint_in hs2 rfl
    have hpa : paint (paint col (sz w) (fun p => p = s3) (0, 0, 0)) (sz w) (fun p => p = sz w) (0, 0, 0) (sz w) = (0, 0, 0) := paint_in (Nat.le_refl _) rfl
    generalize paint (paint col (sz w) (fun p => p = s3) (0, 0, 0)) (sz w) (fun p => p = sz w) (0, 0, 0) = col3 at q3 f3 hpc hpa
    refine c_journal_Put q3.a6 hk0 (l := [77 :: manB m]) (v := .slice (some ⟨s3, 0, none⟩) 1 1) hsl3 (fun p hp => by
      have e0 : col3 p = (0, 0, 0) := by cases hp; exact hpc
      rw [e0]; exact fun e => by have := e.1; omega) (by simp; omega) (by simp) ?_ fun w4 col4 f4 j4 => ?_
    · rw [sealsL_one]
      exact ⟨by have := hsm.log; simp; omega, hsm.waits, hsm.all, hsm.bytes⟩
    have q4 := q3.jour f4 (by simp) j4
    have f04 := f3.trans (f4.rg (lo' := k) (hi' := k + 2) (Nat.le_refl _) (by omega))
    cases hp : (putJ x.j [77 :: manB m]).1 with
    | true =>
      rw [hp] at hk
      simp only [downV, if_true, NeNil_i1, IfV_true] at hk ⊢
      exact hk w4 col4 bs f04 q4
    | false =>
      rw [hp] at hk
      simp only [downV, Bool.false_eq_true, if_false, NeNil_i0, IfV_false] at hk ⊢
      have hA4 : Arr w4 (sz w) ty_api_Manifest (manC m sv) := (f4.keep hAe.lt (by rw [hpa]; exact fun e => by have := e.1; omega)).trans hAe
      refine hA4.ldAll (m := 6) rfl ?_
      have hsh4 : ShSl w4 sv m.shards := (hsh.Up u3).up fun r hr hi => f4.keep hr fun hr2 => by
        have h0 : r < sz w := hsh.lt hi
        rw [f3.ext r h0] at hr2
        exact hsc r hi ⟨hr2.1, by have := hr2.2; omega⟩
      exact c_hold_add q4 hk0 hsh4 hl hy fun w5 col5 bs5 f5 q5 => hk w5 col5 bs5 (f04.trans f5) q5
end Go.Proofs.Tryz

