/- Part of a proof (its text HoldPut): what is proved stands in the text Card. -/
import Derived.Test.YtfefpbfnmfebgaaGreatDoorHold
set_option linter.all false
namespace Go.Proofs.Tryz
open Go Go.Lad
set_option autoImplicit false
set_option maxRecDepth 100000
set_option linter.unusedSimpArgs false
set_option linter.unusedVariables false

/-! a hold, with the places of its versions -/
structure HoldAtX (w : World) (col : Col) (k d j h : Nat) (x : HoldM) (mb : Nat) (bs : List (Int × Nat)) : Prop where
  a1 : Arr w h ty_hold_Hold (holdC x j mb)
  a2 : col h = (k + 2, 7, 0)
  a3 : MapIs w mb kI ptrV bs
  a4 : col mb = (k + 2, 8, 0)
  a5 : HeldsAt w col k bs x.all
  a6 : JournalAt w col k d j x.j
section
variable {w w' : World} {col col' : Col} {k d j h mb : Nat} {x : HoldM} {bs : List (Int × Nat)}
theorem HoldAtX.at (q : HoldAtX w col k d j h x mb bs) : HoldAt w col k d j h x := ⟨⟨mb, bs, q.a1, q.a2, q.a3, q.a4, q.a5⟩, q.a6⟩
theorem HoldAt.toX (q : HoldAt w col k d j h x) : ∃ mb bs, HoldAtX w col k d j h x mb bs := by
  obtain ⟨⟨mb, bs, a1, a2, a3, a4, a5⟩, a6⟩ := q
  exact ⟨mb, bs, a1, a2, a3, a4, a5, a6⟩
theorem HoldAtX.fr {S : Nat → Prop} (q : HoldAtX w col k d j h x mb bs) (f : FrS S w col w' col') (h0 : ¬ S k) (h1 : ¬ S (k + 1)) (h2 : ¬ S (k + 2)) : HoldAtX w' col' k d j h x mb bs :=
  ⟨(f.keep q.a1.lt (by rw [q.a2]; exact h2)).trans q.a1, by rw [f.ext h q.a1.lt, q.a2], q.a3.up (f.keep q.a3.lt (by rw [q.a4]; exact h2)), by rw [f.ext mb q.a3.lt, q.a4], q.a5.fr f h2, q.a6.fr f h0 h1⟩
theorem HoldAtX.up (q : HoldAtX w col k d j h x mb bs) (u : Up w w') : HoldAtX w' col k d j h x mb bs :=
  q.fr (S := fun _ => False) (FrS.up u _ col) (fun h => h) (fun h => h) (fun h => h)
theorem HoldAtX.paint {lo : Nat} {S : Nat → Prop} {c : Clr} (q : HoldAtX w col k d j h x mb bs) (hlo : sz w ≤ lo) : HoldAtX w (Lad.paint col lo S c) k d j h x mb bs :=
  q.fr (S := fun _ => False) ⟨Mod.refl .., fun b hb => paint_old (by omega)⟩ (fun h => h) (fun h => h) (fun h => h)
/-- the journal's part has gone on -/
theorem HoldAtX.jour {S : Nat → Prop} (q : HoldAtX w col k d j h x mb bs) {j' : JournalM} (f : FrS S w col w' col') (h2 : ¬ S (k + 2)) (hj : JournalAt w' col' k d j j') : HoldAtX w' col' k d j h { x with j := j' } mb bs :=
  ⟨(f.keep q.a1.lt (by rw [q.a2]; exact h2)).trans q.a1, by rw [f.ext h q.a1.lt, q.a2], q.a3.up (f.keep q.a3.lt (by rw [q.a4]; exact h2)), by rw [f.ext mb q.a3.lt, q.a4], q.a5.fr f h2, hj⟩
theorem HoldAtX.held (q : HoldAtX w col k d j h x mb bs) {v : Int} {b : Nat} {y : HeldM} (hb : alook v bs = some b) (hy : alook v x.all = some y) : HeldAt w col k b v y := q.a5.2.2.1 v b y hb hy
theorem c_hold_knownX (q : HoldAtX w col k d j h x mb bs) {v : Int} {K : Value → World → Prop}
    (hbad : alook v x.all = none → K (.tuple #[.pointer none, eErr 13]) w)
    (hok : ∀ y b, alook v x.all = some y → alook v bs = some b → K (.tuple #[ptr b 0, .nilIface]) w) : CallF pg n_hold_Hold_known [ptr h 0, I v] w K := by
  apply ln_hold_Hold_known
  simp only [sh_hold_Hold_known, EqNil_p1, IfV_false, NilCk_ptr, FA_ptr, Nat.reduceAdd, q.a1.ld (k := 1) rfl]
  rw [show I v = kI v from rfl, V_lookup mtHeld keyT_I q.a3 v]
  cases hb : alook v bs with
  | none =>
    simp only [EqNil_p0, IfV_true]
    exact hbad (alook_none_of_keys q.a5.1 hb)
  | some b =>
    obtain ⟨y, hy⟩ := alook_some_of_keys q.a5.1 hb
    simp only [ptrV, EqNil_p1, IfV_false, NilCk_ptr, FA_ptr, Nat.reduceAdd, q.a1.ld (k := 1) rfl]
    rw [V_lookup mtHeld keyT_I q.a3 v, hb]
    exact hok y b hy hb
end

/-! where a block is to stand -/
instance (all : List (Int × HeldM)) (n : Int) : Decidable (usedS all n) := by unfold usedS; infer_instance
def slotF (x : HoldM) (y : HeldM) (i : Int) : Option Nat :=
  match alook i y.old with
  | some p => some p.1
  | none => (List.range x.j.disk.slots.length).find? (fun n : Nat => !decide (usedS x.all n))
def slotV : Option Nat → Value
  | some n => .tuple #[N n, .bool true]
  | none => .tuple #[N 0, .bool false]
theorem c_hold_slot {w : World} {col : Col} {k d j h mb b : Nat} {x : HoldM} {bs : List (Int × Nat)} (q : HoldAtX w col k d j h x mb bs) {v : Int} {y : HeldM} (hb : HeldAt w col k b v y) (i : Int) {K : Value → World → Prop}
    (hk : ∀ w', Up w w' → K (slotV (slotF x y i)) w') : CallF pg n_hold_Hold_slot [ptr h 0, ptr b 0, I i] w K := by
  apply ln_hold_Hold_slot
  obtain ⟨sv, mp, ob, b1, b2, b3, b4, b5, b6, b7, b8⟩ := hb
  simp only [sh_hold_Hold_slot, NilCk_ptr, FA_ptr, Nat.reduceAdd, b1.ld (k := 7) rfl]
  rw [show I i = kI i from rfl, V_lookup_ok mtPl keyT_I b7 i]
  unfold slotF at hk
  cases ho : alook i y.old with
  | some p =>
    rw [ho] at hk
    simp only [Ext_0, Ext_1]
    refine New_of (cs := [N 0, Str []]) fun w1 u1 hA hz1 => ?_
    refine hA.stAll (l := [N p.1, Str p.2]) rfl rfl rfl fun w2 e2 hA2 => ?_
    have u2 : Up w w2 := up_put u1 e2 (Nat.le_refl _)
    simp only [B, IfV_true, FA_ptr, Nat.zero_add, hA2.ld (k := 0) rfl]
    exact hk w2 u2
  | none =>
    rw [ho] at hk
    simp only [Ext_0, Ext_1]
    refine New_of (cs := [N 0, Str []]) fun w1 u1 hA hz1 => ?_
    refine hA.stAll (l := [N 0, Str []]) rfl rfl rfl fun w2 e2 hA2 => ?_
    have u2 : Up w w2 := up_put u1 e2 (Nat.le_refl _)
    simp only [B, IfV_false]
    refine c_hold_used (q.at.up u2) fun w3 r l u3 hr hm hQ => ?_
    have u03 := u2.trans u3
    have q3 := q.up u03
    obtain ⟨⟨va, j1, j2, j3⟩, j4⟩ := q3.a6
    simp only [NilCk_ptr, FA_ptr, Nat.zero_add, q3.a1.ld (k := 0) rfl, j1.ld (k := 0) rfl]
    refine c_disk_Slots j4 ?_
    have hls := j4.ls
    refine LoopV_of (fun xs w' => w' = w3 ∧ ∃ n, xs = [.map (some r), N x.j.disk.slots.length, N n] ∧ n ≤ x.j.disk.slots.length ∧ ∀ m, m < n → usedS x.all m) (fun xs _ => x.j.disk.slots.length - natOf (xs.getD 2 undef))
      ⟨rfl, 0, rfl, by omega, fun m hm => by omega⟩ ?_
    rintro k1 T w4 ⟨rfl, n, hT, hn, hall⟩ hk1
    simp only [temps, List.cons.injEq, and_true] at hT
    obtain ⟨t10, t33, t34⟩ := hT
    simp only [t10, t33, t34, Bin_lss_N]
    by_cases hlt : n < x.j.disk.slots.length
    · simp only [hlt, decide_true, IfV_true]
      rw [kI_N, V_lookup mtBool keyT_I hm (n : Int)]
      by_cases hu : usedS x.all n
      · rw [(hQ n).1 hu]
        simp (disch := omega) only [bV, NotV_b, Bool.not_true, IfV_false, ← kI_N, Bin_add_N]
        refine hk1 _ _ ⟨rfl, n + 1, rfl, by omega, fun m hm' => ?_⟩ (by simp [temps, t34]; omega)
        by_cases he : m = n
        · rw [he]; exact hu
        · exact hall m (by omega)
      · rw [(hQ n).2 hu]
        simp only [NotV_b, Bool.not_false, IfV_true, ← kI_N]
        have : (List.range x.j.disk.slots.length).find? (fun n : Nat => !decide (usedS x.all n)) = some n :=
          List.find?_range_eq_some.2 ⟨by simp [hu], by simpa using hlt, fun m hm' => by simp [hall m hm']⟩
        rw [this] at hk
        exact hk w4 u03
    · simp only [hlt, decide_false, IfV_false]
      have : (List.range x.j.disk.slots.length).find? (fun n : Nat => !decide (usedS x.all n)) = none :=
        List.find?_range_eq_none.2 fun m hm' => by simp [hall m (by omega)]
      rw [this] at hk
      exact hk w4 u03
end Go.Proofs.Tryz

namespace Go.Proofs.Tryz
open Go Go.Lad
set_option autoImplicit false
set_option maxRecDepth 100000
set_option linter.unusedSimpArgs false
set_option linter.unusedVariables false

section
variable {κ ν : Type} [DecidableEq κ]
theorem aset_keys {k : κ} {l : List (κ × ν)} {u : ν} (h : alook k l = some u) (v : ν) : (aset k v l).map (·.1) = l.map (·.1) := by
  induction l with
  | nil => cases h
  | cons p l ih =>
    simp only [alook] at h
    simp only [aset]
    split
    · rename_i hp; simp [hp]
    · rename_i hp; rw [if_neg hp] at h; simp [ih h]
end
/-- what is well-formed of a hold -/
structure HeldOk (y : HeldM) : Prop where
  shards : y.man.shards.length ≤ 1048576
  blocks : y.man.blocks < 1099511627776
  root : y.man.root.length ≤ 4096
  old : ∀ q ∈ y.old, q.2.1 < 4096
  put : ∀ q ∈ y.blocks, q.2.1 < 4096
theorem HeldAt.mod {w w' : World} {col : Col} {k b : Nat} {v : Int} {x : HeldM} {F : Nat → Prop} (h : HeldAt w col k b v x) (m : Mod w w' F) (hF : ∀ p, F p → (col p).2.2 ≠ v.toNat) : HeldAt w' col k b v x := by
  obtain ⟨sv, mb, ob, h1, h2, h3, h4, h5, h6, h7, h8⟩ := h
  have g : ∀ {q : Nat} {a c : Nat}, q < sz w → col q = (a, c, v.toNat) → gb w' q = gb w q := fun hq hc => m.keep _ hq fun hf => hF _ hf (by rw [hc])
  exact ⟨sv, mb, ob, (g h1.lt h2).trans h1, h2, h3.up fun q hq hi => g hq (h4 q hi), h4, h5.up (g h5.lt h6), h6, h7.up (g h7.lt h8), h8⟩
theorem HoldAtX.setHeld {w w' : World} {col : Col} {k d j h mb b : Nat} {x : HoldM} {bs : List (Int × Nat)} (q : HoldAtX w col k d j h x mb bs) {v : Int} {y y' : HeldM} (hb : alook v bs = some b) (hy : alook v x.all = some y)
    {F : Nat → Prop} (m : Mod w w' F) (hF : ∀ p, F p → (col p).1 = k + 2 ∧ 9 ≤ (col p).2.1 ∧ (col p).2.2 = v.toNat) (hn : HeldAt w' col k b v y') : HoldAtX w' col k d j h { x with all := aset v y' x.all } mb bs := by
  have ks := aset_keys hy y'
  have f : FrS (fun i => i = k + 2) w col w' col := .of_mod m fun p hp => .inl (hF p hp).1
  have kp : ∀ {q c : Nat}, q < sz w → c < 9 → col q = (k + 2, c, 0) → gb w' q = gb w q := fun hq hc he => m.keep _ hq fun hf => by
    have := (hF _ hf).2.1; rw [he] at this; simp at this; omega
  refine ⟨(kp q.a1.lt (by decide) q.a2).trans q.a1, q.a2, q.a3.up (kp q.a3.lt (by decide) q.a4), q.a4, ⟨q.a5.1.trans ks.symm, by rw [ks]; exact q.a5.2.1, fun v2 b2 x2 h1 h2 => ?_, fun p hp => ?_⟩, q.a6.fr f (by omega) (by omega)⟩
  · rw [alook_aset] at h2
    by_cases he : v2 = v
    · subst he
      rw [if_pos rfl] at h2; cases h2
      rw [hb] at h1; cases h1
      exact hn
    · rw [if_neg he] at h2
      refine (q.a5.2.2.1 v2 b2 x2 h1 h2).mod m fun p hp => ?_
      have h0 := q.a5.2.2.2 _ (alook_mem h2)
      have h3 := q.a5.2.2.2 _ (alook_mem hy)
      simp only at h0 h3
      rw [(hF p hp).2.2]; omega
  · have : p.1 ∈ (aset v y' x.all).map (·.1) := List.mem_map.2 ⟨p, hp, rfl⟩
    rw [ks] at this
    obtain ⟨p2, h1, h2⟩ := List.mem_map.1 this
    rw [← h2]; exact q.a5.2.2.2 p2 h1

/-- what Put does -/
def putH (x : HoldM) (v i : Nat) (s : List UInt8) (proof : List (List UInt8)) : Value × HoldM :=
  match alook (v : Int) x.all with
  | none => (eErr 13, x)
  | some y =>
    match upR i y.man.blocks (leafL s) proof with
    | .bad c => (eErr c, x)
    | .ok r =>
      if r = y.man.root then
        match alook (i : Int) y.blocks with
        | some _ => (.nilIface, x)
        | none =>
          match slotF x y i with
          | none => (eErr 7, x)
          | some n =>
            match (putSlotD x.j.disk n s).1 with
            | some c => (eErr c, { x with j := { x.j with disk := (putSlotD x.j.disk n s).2 } })
            | none =>
              let r2 := putJ { x.j with disk := (putSlotD x.j.disk n s).2 } [blockRecL v i (n, leafL s)]
              if r2.1 then (eErr 8, { x with j := r2.2 })
              else (.nilIface, { x with j := r2.2, all := aset (v : Int) { y with blocks := aset (i : Int) (n, leafL s) y.blocks, old := adel (i : Int) y.old } x.all })
      else (eFault i 11, x)
theorem sealsL_one (s : List UInt8) : (sealsL [s]).length = s.length + 6 := by simp [sealsL, sealL_length]
theorem blockRecL_length {v i : Nat} {p : Placed} (hv : v < 72057594037927936) (hi : i < 72057594037927936) (hp : p.1 < 72057594037927936) (hl : p.2.length ≤ 4096) : (blockRecL v i p).length ≤ 5000 := by
  have h1 := numsB_three hv hi hp
  have h2 := textL_length [p.2] 4096 (by simpa using hl) (by omega)
  simp only [blockRecL, List.length_append, List.length_cons] at h2 ⊢
  simp at h2
  omega
theorem bdPl (n : Nat) (s : List UInt8) (w : World) : (Instr.build ty_hold_placed [(0, N n), (1, Str s)].toArray).run pg w = .ok (plV (n, s)) w := by kernel_rfl
theorem upR_lt {i n : Nat} {leaf : List UInt8} {proof : List (List UInt8)} {r : List UInt8} (h : upR i n leaf proof = .ok r) : i < n ∧ n ≤ 1048576 := by
  unfold upR at h
  by_cases g : i < n ∧ n ≤ 1048576
  · exact g
  · rw [if_pos g] at h; cases h
theorem putSlotD_log (x : DiskM) (n : Nat) (s : List UInt8) : (putSlotD x n s).2.log = x.log ∧ (putSlotD x n s).2.waits.length ≤ x.waits.length + 1 := by
  obtain ⟨b1, b2, b3, b4, b5⟩ := burnD_keeps x
  unfold putSlotD
  cases slotE x n with
  | some c => exact ⟨rfl, by simp⟩
  | none =>
    simp only
    split
    · exact ⟨rfl, by simp⟩
    · unfold doesD
      split
      · exact ⟨b1, by rw [b3]; omega⟩
      · split
        · have : ¬ ((n : Int) = -1) := by omega
          simp [putD, this, b1, b3]
        · exact ⟨b1, by rw [b3]; omega⟩
theorem slotF_lt {x : HoldM} {y : HeldM} {i : Int} {n : Nat} (hy : HeldOk y) (hs : x.j.disk.slots.length ≤ 4096) (h : slotF x y i = some n) : n < 4096 := by
  unfold slotF at h
  cases ho : alook i y.old with
  | some p => rw [ho] at h; cases h; exact hy.old (i, p) (alook_mem ho)
  | none =>
    rw [ho] at h
    have := (List.find?_range_eq_some.1 h).2.1
    simp at this
    omega
theorem c_hold_Put {w : World} {col : Col} {k d j h mb : Nat} {x : HoldM} {bs : List (Int × Nat)} (q : HoldAtX w col k d j h x mb bs) (hk0 : k ≠ 0) {v i : Nat} (hv : v < 72057594037927936) {s : List UInt8} (hs : s.length ≤ 1000000) {proof : List (List UInt8)} {pv : Value} {m : Nat} (hp : Sl w 1 pv m (proof.map Str)) (hm : m < 1099511627776)
    (hok : ∀ y, alook (v : Int) x.all = some y → HeldOk y) (hsm : JSmall x.j 10000) (hw : x.j.disk.waits.length < 1000000) {K : Value → World → Prop}
    (hk : ∀ w' col', FrS (Rg k (k + 2)) w col w' col' → HoldAtX w' col' k d j h (putH x v i s proof).2 mb bs → K (putH x v i s proof).1 w') : CallF pg n_hold_Hold_Put [ptr h 0, N v, N i, Str s, pv] w K := by
  apply ln_hold_Hold_Put
  simp only [sh_hold_Hold_Put]
  unfold putH at hk
  refine c_hold_knownX q (v := (v : Int)) (fun hn => ?_) (fun y b hy hb => ?_)
  · rw [hn] at hk
    simp only [Ext_0, Ext_1, NeNil_i1, IfV_true]
    exact hk w col (FrS.refl ..) q
  rw [hy] at hk
  simp only at hk
  have hyo := hok y hy
  obtain ⟨sv, mp, ob, b1, b2, b3, b4, b5, b6, b7, b8⟩ := q.held hb hy
  have b1d : Arr w.drew b ty_hold_held (manC y.man sv ++ [.map (some mp), .map (some ob)]) := b1
  simp only [Ext_0, Ext_1, NeNil_i0, IfV_false, Drew, NilCk_ptr, FA_ptr, Nat.reduceAdd, b1d.ld (k := 5) rfl, b1d.ld (k := 4) rfl, true_and]
  have u1 : Up w w.drew := (Up.refl w).drew
  refine c_merkle_Check (root := y.man.root) (by have := hyo.blocks; omega) (by omega) (hp.Up u1) hm fun w2 u2 => ?_
  have u02 := u1.trans u2
  have q2 := q.up u02
  unfold checkV
  cases hup : upR i y.man.blocks (leafL s) proof with
  | bad c =>
    rw [hup] at hk
    simp only at hk
    simp only [true_and, NeNil_i1, IfV_true]
    exact hk w2 col (FrS.up u02 _ _) q2
  | ok r =>
  rw [hup] at hk
  have hil := upR_lt hup
  simp only at hk ⊢
  by_cases hr : ¬ (r = y.man.root)
  · rw [if_neg hr] at hk
    simp only [hr, if_false, true_and, NeNil_i1, IfV_true]
    exact hk w2 col (FrS.up u02 _ _) q2
  replace hr := Decidable.not_not.1 hr
  rw [if_pos hr] at hk
  simp only [hr, if_true, true_and, NeNil_i0, IfV_false, NilCk_ptr, FA_ptr, Nat.reduceAdd, (b1.up u02).ld (k := 6) rfl]
  rw [kI_N, V_lookup_ok mtPl keyT_I (b5.up (u02.keep _ b5.lt)) (i : Int)]
  cases hbl : alook (i : Int) y.blocks with
  | some p =>
    rw [hbl] at hk
    simp only at hk
    simp only [Ext_0, Ext_1]
    refine New_of (cs := [N 0, Str []]) fun w3 u3 hA hz3 => ?_
    refine hA.stAll (l := [N p.1, Str p.2]) rfl rfl rfl fun w4 e4 hA4 => ?_
    have u4 : Up w2 w4 := up_put u3 e4 (Nat.le_refl _)
    simp only [B, IfV_true]
    exact hk w4 col (FrS.up (u02.trans u4) _ _) (q.up (u02.trans u4))
  | none =>
  rw [hbl] at hk
  simp only at hk
  simp only [Ext_0, Ext_1]
  refine New_of (cs := [N 0, Str []]) fun w3 u3 hA hz3 => ?_
  refine hA.stAll (l := [N 0, Str []]) rfl rfl rfl fun w4 e4 hA4 => ?_
  have u4 : Up w2 w4 := up_put u3 e4 (Nat.le_refl _)
  have u04 := u02.trans u4
  simp only [B, IfV_false]
  rw [← kI_N]
  refine c_hold_slot (q.up u04) ((q.held hb hy).up u04) (i : Int) fun w5 u5 => ?_
  have u05 := u04.trans u5
  cases hsl : slotF x y i with
  | none =>
    rw [hsl] at hk
    simp only at hk
    simp only [slotV, Ext_0, Ext_1, NotV_b, Bool.not_false, IfV_true]
    exact hk w5 col (FrS.up u05 _ _) (q.up u05)
  | some n =>
  rw [hsl] at hk
  simp only at hk
  have hls := q.a6.disk.ls
  have hn := slotF_lt hyo hls hsl
  simp only [slotV, Ext_0, Ext_1, NotV_b, Bool.not_true, IfV_false]
  refine c_merkle_Leaf (by omega) fun w6 u6 => ?_
  have u06 := u05.trans u6
  have hleaf : (leafL s).length = 32 := shaL_length _
  rw [V_eq (bdPl n (leafL s) _)]
  refine New_of (cs := [N 0, Str []]) fun w7 u7 hB hz7 => ?_
  refine hB.stAll (l := [N n, Str (leafL s)]) rfl rfl rfl fun w8 e8 hB8 => ?_
  have u8 : Up w6 w8 := up_put u7 e8 (Nat.le_refl _)
  have u08 := u06.trans u8
  have q8 := q.up u08
  have hz8 : sz w6 < sz w8 := hB8.lt
  -- its block is painted as nobody's
  have q8 : HoldAtX w8 (paint col (sz w6) (fun p => p = sz w6) (0, 0, 0)) k d j h x mb bs :=
    q.fr (S := fun _ => False) ((FrS.up u08 _ _).paint (by have := u06.size; omega) _ _) (fun h => h) (fun h => h) (fun h => h)
  have f8 : FrS (Rg k (k + 2)) w col w8 (paint col (sz w6) (fun p => p = sz w6) (0, 0, 0)) := (FrS.up u08 _ _).paint (by have := u06.size; omega) _ _
  have hpc : paint col (sz w6) (fun p => p = sz w6) (0, 0, 0) (sz w6) = (0, 0, 0) := paint_in (Nat.le_refl _) rfl
  generalize paint col (sz w6) (fun p => p = sz w6) (0, 0, 0) = col8 at q8 f8 hpc
  obtain ⟨va, j1, j2, j3⟩ := q8.a6.o
  simp only [NilCk_ptr, FA_ptr, Nat.zero_add, q8.a1.ld (k := 0) rfl, j1.ld (k := 0) rfl]
  have hlog := hsm.log
  refine c_disk_Put q8.a6.disk (n := (n : Int)) (by omega) (by omega) hk0 fun w9 col9 f9 hd9 => ?_
  obtain ⟨hlg, hwt⟩ := putSlotD_log x.j.disk n s
  have j9 : JournalAt w9 col9 k d j { x.j with disk := (putSlotD x.j.disk n s).2 } := by
    refine ⟨⟨va, (f9.keep j1.lt (by rw [j2]; simp)).trans j1, by rw [f9.ext _ j1.lt, j2], j3.fr f9 (by simp)⟩, hd9⟩
  have q9 : HoldAtX w9 col9 k d j h { x with j := { x.j with disk := (putSlotD x.j.disk n s).2 } } mb bs := q8.jour f9 (by simp) j9
  have f09 := f8.trans (f9.rg (lo := k) (hi := k + 2) (Nat.le_refl _) (by omega))
  have hC9 : Arr w9 (sz w6) ty_hold_placed [N n, Str (leafL s)] := (f9.keep hz8 (by rw [hpc]; exact fun e => hk0 e.symm)).trans hB8
  have hpc9 : col9 (sz w6) = (0, 0, 0) := (f9.ext _ hz8).trans hpc
  cases hps : (putSlotD x.j.disk n s).1 with
  | some c =>
    rw [hps] at hk
    simp only at hk
    simp only [errV, NeNil_i1, IfV_true]
    exact hk w9 col9 f09 q9
  | none =>
  rw [hps] at hk
  simp only at hk
  simp only [errV, NeNil_i0, IfV_false, Drew]
  have u9 : Up w9 w9.drew := (Up.refl _).drew
  have q9d := q9.up u9
  have hC9d : Arr w9.drew (sz w6) ty_hold_placed [N n, Str (leafL s)] := hC9
  simp only [NilCk_ptr, FA_ptr, Nat.zero_add, q9d.a1.ld (k := 0) rfl, true_and]
  refine hC9d.ldAll (m := 2) rfl ⟨rfl, ?_⟩
  refine c_hold_blockRecord (p := (n, leafL s)) hv (by omega) (by simp; omega) (by simp [hleaf]) fun w10 u10 => ?_
  have u910 := u9.trans u10
  have q10 := q9.up u910
  have ej : Ld (ptr h 0) w10 (fun t57 w1 => w1 = w10 ∧ t57 = ptr j 0) := by
    rw [q10.a1.ld (k := 0) rfl]; exact ⟨rfl, rfl⟩
  refine ⟨⟨ej, trivial⟩, ?_⟩
  rw [V_eq bs38_1]
  have u11 : Up w9 (w10.alloc (.cells [Str (blockRecL v i (n, leafL s))].toArray 9)) := u910.alloc _
  have hsl11 : Sl (w10.alloc (.cells [Str (blockRecL v i (n, leafL s))].toArray 9)) 1 (.slice (some ⟨sz w10, 0, none⟩) 1 1) 1 [Str (blockRecL v i (n, leafL s))] := Sl.fresh rfl
  generalize hw11 : w10.alloc (.cells [Str (blockRecL v i (n, leafL s))].toArray 9) = w11 at u11 hsl11 ⊢
  have ej : Ld (ptr h 0) w11 (fun t56 w1 => w1 = w11 ∧ t56 = ptr j 0) := by
    rw [(q9.up u11).a1.ld (k := 0) rfl]; exact ⟨rfl, rfl⟩
  refine ⟨⟨ej, trivial⟩, ?_⟩
  have hs10 : sz w9 ≤ sz w10 := u910.size
  have q11 : HoldAtX w11 (paint col9 (sz w10) (fun p => p = sz w10) (0, 0, 0)) k d j h { x with j := { x.j with disk := (putSlotD x.j.disk n s).2 } } mb bs :=
    q9.fr (S := fun _ => False) ((FrS.up u11 _ _).paint hs10 _ _) (fun h => h) (fun h => h) (fun h => h)
  have f11 : FrS (Rg k (k + 2)) w9 col9 w11 (paint col9 (sz w10) (fun p => p = sz w10) (0, 0, 0)) := (FrS.up u11 _ _).paint hs10 _ _
  have hpc11 : paint col9 (sz w10) (fun p => p = sz w10) (0, 0, 0) (sz w10) = (0, 0, 0) := paint_in (Nat.le_refl _) rfl
  have hpo11 : paint col9 (sz w10) (fun p => p = sz w10) (0, 0, 0) (sz w6) = (0, 0, 0) := by
    have := hC9.lt
    rw [paint_old (by omega), hpc9]
  generalize paint col9 (sz w10) (fun p => p = sz w10) (0, 0, 0) = col11 at q11 f11 hpc11 hpo11
  have hrl := blockRecL_length (v := v) (i := i) (p := (n, leafL s)) hv (by omega) (by simp; omega) (by simp [hleaf])
  refine c_journal_Put q11.a6 hk0 (l := [blockRecL v i (n, leafL s)]) (v := .slice (some ⟨sz w10, 0, none⟩) 1 1) hsl11 (fun p hp => by
    have e0 : col11 p = (0, 0, 0) := by cases hp; exact hpc11
    rw [e0]; exact fun e => by have := e.1; omega) (by simpa using (by omega : (blockRecL v i (n, leafL s)).length ≤ 60000)) (by simp) ?_ fun w12 col12 f12 j12 => ?_
  · rw [sealsL_one]
    exact ⟨by simp only [hlg]; omega, by simp only; omega, hsm.all, hsm.bytes⟩
  have q12 := q11.jour f12 (by simp) j12
  have f012 := (f09.trans f11).trans (f12.rg (lo' := k) (hi' := k + 2) (Nat.le_refl _) (by omega))
  cases hpj : (putJ { x.j with disk := (putSlotD x.j.disk n s).2 } [blockRecL v i (n, leafL s)]).1 with
  | true =>
    rw [hpj] at hk
    simp only [if_true] at hk
    simp only [downV, if_true, true_and, NeNil_i1, IfV_true]
    exact hk w12 col12 f012 q12
  | false =>
  rw [hpj] at hk
  simp only [Bool.false_eq_true, if_false] at hk
  simp only [downV, Bool.false_eq_true, if_false, true_and, NeNil_i0, IfV_false, Drew]
  have q12d := q12.up (Up.refl w12).drew
  have hC11 : Arr w11 (sz w6) ty_hold_placed [N n, Str (leafL s)] := hC9.up u11
  have hC12 : Arr w12.drew (sz w6) ty_hold_placed [N n, Str (leafL s)] := (f12.keep hC11.lt (by rw [hpo11]; exact fun e => by have := e.1; omega)).trans hC11
  obtain ⟨sv', mp', ob', c1, c2, c3, c4, c5, c6, c7, c8⟩ := q12d.held hb hy
  simp only [NilCk_ptr, FA_ptr, Nat.reduceAdd, c1.ld (k := 6) rfl, true_and]
  refine hC12.ldAll (m := 2) rfl ⟨rfl, ?_⟩
  rw [kI_N]
  have emo : mp' ≠ ob' := fun e => by rw [e, c8] at c6; simp at c6
  have ebm : b ≠ mp' ∧ b ≠ ob' := ⟨fun e => by rw [e, c6] at c2; simp at c2, fun e => by rw [e, c8] at c2; simp at c2⟩
  refine U_update mtPl keyT_I c5 (i : Int) (n, leafL s) fun w13 ⟨o13, e13⟩ hm13 => ?_
  have m13 : Mod w12.drew w13 (fun p => p = mp' ∨ p = ob') := by rw [e13]; exact Mod.put _ _ (.inl rfl)
  have c1' : Arr w13 b ty_hold_held (manC y.man sv' ++ [.map (some mp'), .map (some ob')]) := (m13.keep b c1.lt (by rintro (e | e) <;> first | exact ebm.1 e | exact ebm.2 e)).trans c1
  simp only [true_and, NilCk_ptr, FA_ptr, Nat.reduceAdd, c1'.ld (k := 7) rfl]
  have c7' : MapIs w13 ob' kI plV y.old := c7.up (by rw [e13]; exact gb_putB_ne (Ne.symm emo))
  refine V_delete mtPl keyT_I c7' (i : Int) fun w14 ⟨o14, e14⟩ hm14 => ?_
  have m14 : Mod w13 w14 (fun p => p = mp' ∨ p = ob') := by rw [e14]; exact Mod.put _ _ (.inr rfl)
  have m := m13.trans m14
  have hF : ∀ p, (p = mp' ∨ p = ob') → (col12 p).1 = k + 2 ∧ 9 ≤ (col12 p).2.1 ∧ (col12 p).2.2 = (v : Int).toNat := by
    rintro p (rfl | rfl)
    · rw [c6]; exact ⟨rfl, by simp, rfl⟩
    · rw [c8]; exact ⟨rfl, by simp, rfl⟩
  refine hk w14 col12 ((f012.trans (FrS.up (Up.refl w12).drew _ _)).trans (.of_mod m fun p hp => .inl ⟨by rw [(hF p hp).1]; omega, by rw [(hF p hp).1]; omega⟩)) ?_
  refine q12d.setHeld hb hy m hF ⟨sv', mp', ob', ?_, c2, ?_, c4, ?_, c6, hm14, c8⟩
  · exact (m.keep b c1.lt (by rintro (e | e) <;> first | exact ebm.1 e | exact ebm.2 e)).trans c1
  · exact c3.up fun p hp hi => m.keep p hp (fun e => by
      have e4 := c4 _ hi
      rcases e with e | e
      · rw [e, c6] at e4; simp at e4
      · rw [e, c8] at e4; simp at e4)
  · exact hm13.up (by rw [e14]; exact gb_putB_ne emo)
end Go.Proofs.Tryz

