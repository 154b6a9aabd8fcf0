/- Part of a proof (its text Hold): what is proved stands in the text Card. -/
import Derived.Test.YtfefpbfnmfebgaaGreatDoorFormsHold
import Derived.Test.YtfefpbfnmfebgaaGreatDoorJournal
import Derived.Test.YtfefpbfnmfebgaaGreatDoorManB
import Derived.Test.YtfefpbfnmfebgaaGreatDoorMp
set_option linter.all false
namespace Go.Proofs.Tryz
open Go Go.Lad
set_option autoImplicit false
set_option maxRecDepth 100000
set_option linter.unusedSimpArgs false
set_option linter.unusedVariables false

/-! maps with keys of int -/
theorem findNow_I (k : Int) : ∀ (es : List MapEntry) (ks : List Int) (j : Nat), es.map (·.key) = ks.map (I ·) → ∃ r, Instr.findNow (.int .i64) (I k) es j = some r ∧
    ((k ∉ ks ∧ r = none) ∨ ∃ (i : Nat) (e : MapEntry), ks[i]? = some k ∧ k ∉ ks.take i ∧ es[i]? = some e ∧ r = some (j + i, e.val)) := by
  intro es
  induction es with
  | nil => intro ks j h; cases ks with
    | nil => exact ⟨none, rfl, .inl ⟨by simp, rfl⟩⟩
    | cons => cases h
  | cons e es ih =>
    intro ks j h
    cases ks with
    | nil => cases h
    | cons x ks =>
      simp only [List.map_cons, List.cons.injEq] at h
      have hs : Instr.sameNow (.int .i64) (I k) e.key = some (decide (k = x)) := by
        rw [h.1]
        simp [Instr.sameNow, -N_cast]
        rfl
      simp only [Instr.findNow, hs]
      by_cases hk : k = x
      · subst hk
        simp only [decide_true]
        exact ⟨_, rfl, .inr ⟨0, e, rfl, by simp, rfl, rfl⟩⟩
      · simp only [hk, decide_false]
        obtain ⟨r, h1, h2⟩ := ih ks (j + 1) h.2
        refine ⟨r, h1, ?_⟩
        rcases h2 with ⟨q1, q2⟩ | ⟨i, e', q1, q2, q3, q4⟩
        · exact .inl ⟨by simp [hk, q1], q2⟩
        · exact .inr ⟨i + 1, e', by simpa using q1, by simp [hk, q2], by simpa using q3, by rw [q4]; congr 2; omega⟩
def kI (k : Int) : Value := I k
theorem keyT_I : KeyT pg 3 kI := by
  refine ⟨?_, ?_, ?_⟩
  · intro em k w
    rw [show (10000 : Nat) = 9999 + 1 from rfl]
    unfold Instr.checkKey kI
    simp [run_underlying uint3, -N_cast]
  · intro k w es ks h
    obtain ⟨r, h1, h2⟩ := findNow_I k es ks 0 h
    refine ⟨r, ?_, ?_⟩
    · simp [Instr.findKey, run_underlying uint3, kI, h1]
    · rcases h2 with q | ⟨i, e, q1, q2, q3, q4⟩
      · exact .inl q
      · exact .inr ⟨i, e, q1, q2, q3, by simpa using q4⟩
  · intro k w
    have : Instr.sameBits 10000 (kI k) (kI k) = true := by simp [kI, Instr.sameBits, -N_cast]
    simp [Instr.keyThatStays, this]
theorem kI_N (n : Nat) : N n = kI (n : Int) := rfl
abbrev Placed := Nat × List UInt8
abbrev plV (p : Placed) : Value := .agg [N p.1, Str p.2].toArray
def ptrV (b : Nat) : Value := ptr b 0
theorem mtPl : MapT pg ty_m_int_hold_placed 3 ty_hold_placed (plV (0, [])) := ⟨by kernel_rfl, by kernel_rfl⟩
theorem mtHeld : MapT pg ty_m_int_p_hold_held 3 ty_p_hold_held (.pointer none) := ⟨by kernel_rfl, by kernel_rfl⟩
theorem mtBool : MapT pg ty_m_int_bool 3 4 (.bool false) := ⟨by kernel_rfl, by kernel_rfl⟩

/-! what is held -/
structure HeldM where
  man : Man
  blocks : List (Int × Placed)
  old : List (Int × Placed)
structure HoldM where
  j : JournalM
  all : List (Int × HeldM)
  active : Int
  prepared : Int
  looked : Int × Int
/-- where a version that is held lies -/
structure HeldAt (w : World) (col : Col) (k b : Nat) (v : Int) (x : HeldM) : Prop where
  o : ∃ sv mb ob, Arr w b ty_hold_held (manC x.man sv ++ [.map (some mb), .map (some ob)]) ∧ col b = (k + 2, 10, v.toNat) ∧ ShSl w sv x.man.shards ∧ (∀ q, InSl sv q → col q = (k + 2, 11, v.toNat)) ∧
    MapIs w mb kI plV x.blocks ∧ col mb = (k + 2, 12, v.toNat) ∧ MapIs w ob kI plV x.old ∧ col ob = (k + 2, 13, v.toNat)
def HeldsAt (w : World) (col : Col) (k : Nat) (bs : List (Int × Nat)) (all : List (Int × HeldM)) : Prop :=
  bs.map (·.1) = all.map (·.1) ∧ (all.map (·.1)).Nodup ∧ (∀ v b x, alook v bs = some b → alook v all = some x → HeldAt w col k b v x) ∧ ∀ p ∈ all, 0 ≤ p.1
abbrev holdC (x : HoldM) (j mb : Nat) : List Value := [ptr j 0, .map (some mb), I x.active, I x.prepared, I x.looked.1, I x.looked.2]
structure HoldAt (w : World) (col : Col) (k d j h : Nat) (x : HoldM) : Prop where
  o : ∃ mb bs, Arr w h ty_hold_Hold (holdC x j mb) ∧ col h = (k + 2, 7, 0) ∧ MapIs w mb kI ptrV bs ∧ col mb = (k + 2, 8, 0) ∧ HeldsAt w col k bs x.all
  j : JournalAt w col k d j x.j
section
variable {κ ν ν' : Type} [DecidableEq κ]
theorem alook_some_of_keys {k : κ} {a : List (κ × ν)} {b : List (κ × ν')} (h : a.map (·.1) = b.map (·.1)) {v : ν} (hv : alook k a = some v) : ∃ u, alook k b = some u := by
  induction a generalizing b with
  | nil => cases hv
  | cons p a ih =>
    cases b with
    | nil => cases h
    | cons q b =>
      simp only [List.map_cons, List.cons.injEq] at h
      simp only [alook] at hv ⊢
      rw [← h.1]
      split
      · exact ⟨_, rfl⟩
      · rename_i hne
        rw [if_neg hne] at hv
        exact ih h.2 hv
theorem alook_none_of_keys {k : κ} {a : List (κ × ν)} {b : List (κ × ν')} (h : a.map (·.1) = b.map (·.1)) (hv : alook k a = none) : alook k b = none := by
  cases hb : alook k b with
  | none => rfl
  | some u => obtain ⟨v, h2⟩ := alook_some_of_keys h.symm hb; rw [hv] at h2; cases h2
theorem alook_mem {k : κ} {a : List (κ × ν)} {v : ν} (h : alook k a = some v) : (k, v) ∈ a := by
  induction a with
  | nil => cases h
  | cons p a ih =>
    simp only [alook] at h
    split at h
    · rename_i hp; cases h; subst hp; exact List.mem_cons_self ..
    · exact List.mem_cons_of_mem _ (ih h)
theorem alook_of_mem {k : κ} {a : List (κ × ν)} {v : ν} (hn : (a.map (·.1)).Nodup) (h : (k, v) ∈ a) : alook k a = some v := by
  induction a with
  | nil => cases h
  | cons p a ih =>
    simp only [List.map_cons, List.nodup_cons] at hn
    simp only [alook]
    simp only [List.mem_cons] at h
    rcases h with rfl | h
    · simp
    · have : ¬ p.1 = k := fun e => hn.1 (by rw [e]; exact List.mem_map.2 ⟨_, h, rfl⟩)
      rw [if_neg this]; exact ih hn.2 h
end
theorem HeldAt.fr {S : Nat → Prop} {k : Nat} {w w' : World} {col col' : Col} {b : Nat} {v : Int} {x : HeldM} (h : HeldAt w col k b v x) (f : FrS S w col w' col') (hk : ¬ S (k + 2)) : HeldAt w' col' k b v x := by
  obtain ⟨sv, mb, ob, h1, h2, h3, h4, h5, h6, h7, h8⟩ := h
  have g : ∀ {q : Nat} {c : Nat × Nat}, q < sz w → col q = (k + 2, c) → gb w' q = gb w q ∧ col' q = (k + 2, c) := fun hq hc => ⟨f.keep hq (by rw [hc]; exact hk), by rw [f.ext _ hq, hc]⟩
  refine ⟨sv, mb, ob, (g h1.lt h2).1.trans h1, (g h1.lt h2).2, h3.up fun q hq hi => (g hq (h4 q hi)).1, fun q hi => (g (h3.lt hi) (h4 q hi)).2, h5.up (g h5.lt h6).1, (g h5.lt h6).2, h7.up (g h7.lt h8).1, (g h7.lt h8).2⟩
theorem HeldAt.up {k : Nat} {w w' : World} {col : Col} {b : Nat} {v : Int} {x : HeldM} (h : HeldAt w col k b v x) (u : Up w w') : HeldAt w' col k b v x :=
  h.fr (S := fun _ => False) (FrS.up u _ col) (fun h => h)
theorem HeldsAt.fr {S : Nat → Prop} {k : Nat} {w w' : World} {col col' : Col} {bs : List (Int × Nat)} {all : List (Int × HeldM)} (h : HeldsAt w col k bs all) (f : FrS S w col w' col') (hk : ¬ S (k + 2)) : HeldsAt w' col' k bs all :=
  ⟨h.1, h.2.1, fun v b x h1 h2 => (h.2.2.1 v b x h1 h2).fr f hk, h.2.2.2⟩
theorem HoldAt.fr {S : Nat → Prop} {k : Nat} {w w' : World} {col col' : Col} {d j h : Nat} {x : HoldM} (hh : HoldAt w col k d j h x) (f : FrS S w col w' col') (h0 : ¬ S k) (h1 : ¬ S (k + 1)) (h2 : ¬ S (k + 2)) : HoldAt w' col' k d j h x := by
  obtain ⟨⟨mb, bs, a1, a2, a3, a4, a5⟩, a6⟩ := hh
  exact ⟨⟨mb, bs, (f.keep a1.lt (by rw [a2]; exact h2)).trans a1, by rw [f.ext h a1.lt, a2], a3.up (f.keep a3.lt (by rw [a4]; exact h2)), by rw [f.ext mb a3.lt, a4], a5.fr f h2⟩, a6.fr f h0 h1⟩
theorem HoldAt.up {k : Nat} {w w' : World} {col : Col} {d j h : Nat} {x : HoldM} (hh : HoldAt w col k d j h x) (u : Up w w') : HoldAt w' col k d j h x :=
  hh.fr (S := fun _ => False) (FrS.up u _ col) (fun h => h) (fun h => h) (fun h => h)
/-- what else is painted anew is none of it -/
theorem HoldAt.paint {k : Nat} {w : World} {col : Col} {d j h : Nat} {x : HoldM} (hh : HoldAt w col k d j h x) {lo : Nat} {S : Nat → Prop} {c : Clr} (hlo : sz w ≤ lo) : HoldAt w (Lad.paint col lo S c) k d j h x :=
  hh.fr (S := fun _ => False) ⟨Mod.refl .., fun b hb => paint_old (by omega)⟩ (fun h => h) (fun h => h) (fun h => h)
theorem c_hold_Active {w : World} {col : Col} {k d j h : Nat} {x : HoldM} (hh : HoldAt w col k d j h x) {K : Value → World → Prop} (hk : K (I x.active) w) : CallF pg n_hold_Hold_Active [ptr h 0] w K := by
  apply ln_hold_Hold_Active
  obtain ⟨⟨mb, bs, a1, a2, a3, a4, a5⟩, a6⟩ := hh
  simp only [sh_hold_Hold_Active, EqNil_p1, IfV_false, NilCk_ptr, FA_ptr, Nat.reduceAdd, a1.ld (k := 2) rfl]
  exact hk
theorem c_hold_known {w : World} {col : Col} {k d j h : Nat} {x : HoldM} (hh : HoldAt w col k d j h x) {v : Int} {K : Value → World → Prop}
    (hbad : alook v x.all = none → K (.tuple #[.pointer none, eErr 13]) w)
    (hok : ∀ y b, alook v x.all = some y → HeldAt w col k b v y → K (.tuple #[ptr b 0, .nilIface]) w) : CallF pg n_hold_Hold_known [ptr h 0, I v] w K := by
  apply ln_hold_Hold_known
  obtain ⟨⟨mb, bs, a1, a2, a3, a4, a5⟩, a6⟩ := hh
  simp only [sh_hold_Hold_known, EqNil_p1, IfV_false, NilCk_ptr, FA_ptr, Nat.reduceAdd, a1.ld (k := 1) rfl]
  rw [show I v = kI v from rfl, V_lookup mtHeld keyT_I a3 v]
  cases hb : alook v bs with
  | none =>
    simp only [EqNil_p0, IfV_true]
    exact hbad (alook_none_of_keys a5.1 hb)
  | some b =>
    obtain ⟨y, hy⟩ := alook_some_of_keys a5.1 hb
    simp only [ptrV, EqNil_p1, IfV_false, NilCk_ptr, FA_ptr, Nat.reduceAdd, a1.ld (k := 1) rfl]
    rw [V_lookup mtHeld keyT_I a3 v, hb]
    exact hok y b hy (a5.2.2.1 v b y hb hy)
theorem c_hold_Manifest {w : World} {col : Col} {k d j h : Nat} {x : HoldM} (hh : HoldAt w col k d j h x) {v : Int} {K : Value → World → Prop}
    (hbad : alook v x.all = none → ∀ w', Up w w' → K (.tuple #[manV ⟨0, 0, 0, [], 0, []⟩ (.slice none 0 0), eErr 13]) w')
    (hok : ∀ y, alook v x.all = some y → y.man.shards.length ≤ 1048576 → ∀ w' sv, Up w w' → Own w' (sz w) ty_api_Shard 2 sv y.man.shards.length (shardsC y.man.shards) → K (.tuple #[manV y.man sv, .nilIface]) w') (hlen : ∀ y, alook v x.all = some y → y.man.shards.length ≤ 1048576) : CallF pg n_hold_Hold_Manifest [ptr h 0, I v] w K := by
  apply ln_hold_Hold_Manifest
  simp only [sh_hold_Hold_Manifest]
  refine New_of (cs := [N 0, N 0, N 0, .slice none 0 0, N 0, Str []]) fun w1 u1 hA hz1 => ?_
  refine c_hold_known (hh.up u1) (fun hn => ?_) (fun y b hy hb => ?_)
  · have eb : ∀ w, (Instr.build ty_api_Manifest [].toArray).run pg w = .ok (manV ⟨0, 0, 0, [], 0, []⟩ (.slice none 0 0)) w := by intro w; kernel_rfl
    simp only [Ext_0, Ext_1, NeNil_i1, IfV_true, V_eq (eb _)]
    refine hA.stAll (m := 6) (l := manC ⟨0, 0, 0, [], 0, []⟩ (.slice none 0 0)) rfl rfl rfl fun w2 e2 hA2 => ?_
    refine hA2.ldAll (m := 6) rfl ?_
    exact hbad hn _ (up_put u1 e2 (Nat.le_refl _))
  · obtain ⟨sv, mb, ob, b1, b2, b3, b4, b5, b6, b7, b8⟩ := hb
    simp only [Ext_0, Ext_1, NeNil_i0, IfV_false, NilCk_ptr, FA_ptr, Nat.reduceAdd]
    refine b1.ldN (k := 0) (m := 6) (by simp) ?_
    have e0 : ((manC y.man sv ++ [Value.map (some mb), .map (some ob)]).drop 0).take 6 = manC y.man sv := rfl
    rw [e0]
    refine c_man_Copy b3 (hlen y hy) fun w2 sv' u2 ho => ?_
    refine (hA.up u2).stAll (m := 6) (l := manC y.man sv') rfl rfl (by simp only [manC, List.all_cons, List.all_nil, ho.plain, Bool.and_true]; rfl) fun w3 e3 hA3 => ?_
    refine hA3.ldAll (m := 6) rfl ?_
    have hlt := hA.lt
    have ho3 : Own w3 (sz w1) ty_api_Shard 2 sv' _ _ := Own.up ho fun q hq hi => by rw [e3]; exact gb_putB_ne (by have := ho.inSl hi; omega)
    exact hok y hy (hlen y hy) w3 sv' (up_put (u1.trans u2) e3 (Nat.le_refl _)) (ho3.mono u1.size)

/-! records -/
theorem c_hold_numbers {l : List Nat} (hl : ∀ n ∈ l, n < 72057594037927936) (hll : l.length ≤ 1048576) {v : Value} {w : World} (hv : Sl w 1 v l.length (l.map N)) {K : Value → World → Prop}
    (h : ∀ w', Up w w' → K (Str (numsB l)) w') : CallF pg n_hold_numbers [v] w K := by
  apply ln_hold_numbers
  simp only [sh_hold_numbers]
  rw [hv.lenL]
  refine LoopV_of (fun xs w' => ∃ i, xs = [Str (numsB (l.take i)), v, N l.length, N i] ∧ i ≤ l.length ∧ Up w w') (fun xs _ => l.length - natOf (xs.getD 3 undef)) ⟨0, rfl, by omega, Up.refl _⟩ ?_
  rintro k1 T w1 ⟨i, hT, hi, hu⟩ hk1
  simp only [temps, List.cons.injEq, and_true] at hT
  obtain ⟨g3, g8, g9, g10⟩ := hT
  by_cases hlt : i < l.length
  · simp only [g3, g8, g9, g10, Bin_lss_N, hlt, decide_true, IfV_true]
    refine (hv.Up hu).ix1 (getN hlt) fun p => ?_
    have hgd : l.getD i 0 = l[i] := by rw [List.getD_eq_getElem?_getD, List.getElem?_eq_getElem hlt]; rfl
    have hbi : l.getD i 0 < 72057594037927936 := by rw [hgd]; exact hl _ (List.getElem_mem _)
    refine c_octet_PutShort hbi fun w2 u2 => ?_
    have b1 := numsB_le (l.take i) (fun n hn => hl n (List.mem_of_mem_take hn))
    have b2 := shortL_le hbi
    have b3 : (l.take i).length ≤ i := by simp; omega
    simp (disch := omega) only [Ext_0, Ext_1, Bin_add_N]
    rw [BinS_add _ _ (by omega)]
    refine hk1 _ _ ⟨i + 1, ?_, by omega, hu.trans u2⟩ (by simp [temps, g10]; omega)
    have : numsB (l.take (i + 1)) = numsB (l.take i) ++ shortL (l.getD i 0) := by
      rw [List.take_add_one, List.getElem?_eq_getElem hlt, hgd]
      simp only [numsB, Option.toList_some, List.flatMap_append, List.flatMap_cons, List.flatMap_nil, List.append_nil]
    rw [this]
  · have : i = l.length := by omega
    subst this
    simp only [g3, g8, g9, g10, Bin_lss_N, hlt, decide_false, IfV_false]
    rw [List.take_of_length_le (Nat.le_refl _)]
    exact h _ hu
/-- a block's record -/
def blockRecL (v i : Nat) (p : Placed) : List UInt8 := (66 :: numsB [v, i, p.1]) ++ textL [p.2]
theorem bsN3 {a b c : Nat} {w : World} : (Instr.buildSlice ty_s_int 3 [(0, N a), (1, N b), (2, N c)].toArray).run pg w = .ok (.slice (some ⟨sz w, 0, none⟩) 3 3) (w.alloc (.cells [N a, N b, N c].toArray 3)) := by kernel_rfl
theorem bsN1 {a : Nat} {w : World} : (Instr.buildSlice ty_s_int 1 [(0, N a)].toArray).run pg w = .ok (.slice (some ⟨sz w, 0, none⟩) 1 1) (w.alloc (.cells [N a].toArray 3)) := by kernel_rfl
theorem numsB_three {a b c : Nat} (ha : a < 72057594037927936) (hb : b < 72057594037927936) (hc : c < 72057594037927936) : (numsB [a, b, c]).length ≤ 24 := by
  have := numsB_le [a, b, c] (by intro n hn; simp at hn; rcases hn with rfl | rfl | rfl <;> assumption)
  simpa using this
theorem c_hold_blockRecord {v i : Nat} {p : Placed} (hv : v < 72057594037927936) (hi : i < 72057594037927936) (hp : p.1 < 72057594037927936) (hl : p.2.length ≤ 4096) {w : World} {K : Value → World → Prop}
    (h : ∀ w', Up w w' → K (Str (blockRecL v i p)) w') : CallF pg n_hold_blockRecord [N v, N i, plV p] w K := by
  apply ln_hold_blockRecord
  simp only [sh_hold_blockRecord]
  refine New_of (cs := [N p.1, Str p.2]) fun w1 u1 hA hz1 => ?_
  have hA1 : Arr w1.drew (sz w) ty_hold_placed [N p.1, Str p.2] := hA
  have u1d : Up w w1.drew := u1.drew
  simp only [Drew, FA_ptr, Nat.zero_add]
  generalize w1.drew = w2 at hA1 u1d ⊢
  have b3 := numsB_three hv hi hp
  have bl := shortL_le (n := p.2.length) (by omega)
  have hn3 : ∀ n ∈ [v, i, p.1], n < 72057594037927936 := by intro n hn; simp at hn; rcases hn with rfl | rfl | rfl <;> assumption
  have hcat : ∀ K1 : Value → Prop, BinS .add (Str [66]) (Str (numsB [v, i, p.1])) K1 = K1 (Str (66 :: numsB [v, i, p.1])) := fun K1 => BinS_add _ _ (by simp; omega)
  have hcat2 : ∀ K1 : Value → Prop, BinS .add (Str (66 :: numsB [v, i, p.1])) (Str (textL [p.2])) K1 = K1 (Str (blockRecL v i p)) := fun K1 => BinS_add _ _ (by simp only [textL, List.append_nil, List.length_append, List.length_cons]; omega)
  have hpt : ∀ s ∈ [p.2], s.length ≤ 67108864 := by intro s hs; simp at hs; subst hs; omega
  simp only [hA1.ld (k := 0) rfl, hA1.ld (k := 1) rfl, true_and]
  have sl3 : ∀ (w : World), Sl (w.alloc (.cells [N v, N i, N p.1].toArray 3)) 1 (.slice (some ⟨sz w, 0, none⟩) 3 3) 3 ([v, i, p.1].map N) := fun w => Sl.fresh rfl
  have sl1 : ∀ (w : World), Sl (w.alloc (.cells [Str p.2].toArray 9)) 1 (.slice (some ⟨sz w, 0, none⟩) 1 1) 1 ([p.2].map Str) := fun w => Sl.fresh rfl
  have ua : ∀ (w : World) (o : Obj), Up w (w.alloc o) := fun w o => (Up.refl w).alloc o
  refine ⟨?_, ?_⟩
  · rw [V_eq bsN3]
    have u3 := ua w2 (.cells [N v, N i, N p.1].toArray 3)
    have s3 := sl3 w2
    generalize w2.alloc (.cells [N v, N i, N p.1].toArray 3) = w3 at u3 s3 ⊢
    have hA3 := hA1.up u3
    refine ⟨by simp only [hA3.ld (k := 1) rfl, true_and, and_true, and_self], ?_, ?_⟩
    · refine c_hold_numbers hn3 (by simp) s3 fun w4 u4 => ?_
      have hA4 := hA3.up u4
      refine ⟨by simp only [hA4.ld (k := 1) rfl, true_and, and_true, and_self], ?_⟩
      rw [hcat, V_eq bs38_1]
      have u5 := ua w4 (.cells [Str p.2].toArray 9)
      have s5 := sl1 w4
      generalize w4.alloc (.cells [Str p.2].toArray 9) = w5 at u5 s5 ⊢
      have hA5 := hA4.up u5
      refine ⟨by simp only [hA5.ld (k := 0) rfl, true_and, and_true, and_self], ?_⟩
      refine c_octet_PutText s5 (by omega) hpt fun w6 u6 => ?_
      rw [hcat2]
      exact h _ ((((u1d.trans u3).trans u4).trans u5).trans u6)
    · rw [V_eq bs38_1]
      have u4 := ua w3 (.cells [Str p.2].toArray 9)
      have s4 := sl1 w3
      generalize w3.alloc (.cells [Str p.2].toArray 9) = w4 at u4 s4 ⊢
      have hA4 := hA3.up u4
      refine ⟨by simp only [hA4.ld (k := 0) rfl, true_and, and_true, and_self], ?_⟩
      refine c_hold_numbers hn3 (by simp) (s3.Up u4) fun w5 u5 => ?_
      have hA5 := hA4.up u5
      refine ⟨by simp only [hA5.ld (k := 1) rfl, true_and, and_true, and_self], ?_⟩
      rw [hcat]
      refine c_octet_PutText (s4.Up u5) (by omega) hpt fun w6 u6 => ?_
      rw [hcat2]
      exact h _ ((((u1d.trans u3).trans u4).trans u5).trans u6)
  · rw [V_eq bs38_1]
    have u3 := ua w2 (.cells [Str p.2].toArray 9)
    have s3 := sl1 w2
    generalize w2.alloc (.cells [Str p.2].toArray 9) = w3 at u3 s3 ⊢
    have hA3 := hA1.up u3
    refine ⟨by simp only [hA3.ld (k := 0) rfl, true_and, and_true, and_self], ?_⟩
    rw [V_eq bsN3]
    have u4 := ua w3 (.cells [N v, N i, N p.1].toArray 3)
    have s4 := sl3 w3
    generalize w3.alloc (.cells [N v, N i, N p.1].toArray 3) = w4 at u4 s4 ⊢
    have hA4 := hA3.up u4
    refine ⟨by simp only [hA4.ld (k := 1) rfl, true_and, and_true, and_self], ?_⟩
    refine c_hold_numbers hn3 (by simp) s4 fun w5 u5 => ?_
    have hA5 := hA4.up u5
    refine ⟨by simp only [hA5.ld (k := 1) rfl, true_and, and_true, and_self], ?_⟩
    rw [hcat]
    refine c_octet_PutText ((s3.Up u4).Up u5) (by omega) hpt fun w6 u6 => ?_
    rw [hcat2]
    exact h _ ((((u1d.trans u3).trans u4).trans u5).trans u6)
end Go.Proofs.Tryz

namespace Go.Proofs.Tryz
open Go Go.Lad
set_option autoImplicit false
set_option maxRecDepth 100000
set_option linter.unusedSimpArgs false
set_option linter.unusedVariables false

/-! the slots that are used -/
def bV (b : Bool) : Value := .bool b
def MemP (Q : Int → Prop) (l : List (Int × Bool)) : Prop := ∀ n, (Q n → alook n l = some true) ∧ (¬ Q n → alook n l = none)
theorem MemP.iff {Q R : Int → Prop} {l : List (Int × Bool)} (h : MemP Q l) (hq : ∀ n, Q n ↔ R n) : MemP R l := fun n => ⟨fun hr => (h n).1 ((hq n).2 hr), fun hr => (h n).2 (fun hh => hr ((hq n).1 hh))⟩
theorem MemP.set {Q : Int → Prop} {l : List (Int × Bool)} (h : MemP Q l) (s : Int) : MemP (fun n => Q n ∨ n = s) (aset s true l) := by
  intro n
  rw [alook_aset]
  by_cases hn : n = s
  · simp [hn]
  · simp only [hn, or_false, if_false]; exact h n
def slotsOf (l : List (Int × Placed)) : List Int := l.map fun p => (p.2.1 : Int)
theorem c_used_k3 {w : World} {mp r : Nat} {bl : List (Int × Placed)} (hm : MapIs w mp kI plV bl) {l : List (Int × Bool)} (hr : MapIs w r kI bV l) (hne : mp ≠ r) {Q : Int → Prop} (hQ : MemP Q l) {x3 x15 x28 x29 : Value} {i : Nat} {k2 : List Value → World → Prop} (hi : i < 1048576)
    (h : ∀ w' l', Mod w w' (· = r) → MapIs w' r kI bV l' → MemP (fun n => Q n ∨ n ∈ slotsOf bl) l' → k2 [.map (some r), x15, x28, x29, N (i + 1)] w') :
    V pg (Instr.range ty_m_int_hold_placed (.map (some mp))) w fun t21 w =>
      LoopV [3, 15, 28, 29, 30, 35] [.map (some r), x15, x28, x29, N i, t21] (fun k3 T3 w =>
        V pg (Instr.next (T3 35) false 0) w fun t22 w => Ext t22 0 fun t23 => IfV t23 (
          V pg (Instr.entry (T3 35)) w fun t24 w => Ext t24 1 fun t25 => New [(N 0), (Str [])] ty_hold_placed w fun t26 w => StN t26 t25 2 w fun t27 w => FA t26 0 fun t28 => Ld t28 w fun t29 w =>
          U pg (Instr.mapUpdate ty_m_int_bool (T3 3) t29 (.bool true)) w fun t30 w => k3 [(T3 3), (T3 15), (T3 28), (T3 29), (T3 30), (T3 35)] w) (
          Bin .add .i64 (T3 30) (N 1) fun t31 => k2 [(T3 3), (T3 15), (T3 28), (T3 29), t31] w)) w := by
  refine V_range mtPl.u hm fun w1 u1 hW hz1 => ?_
  have hrlt := hr.lt
  have hmlt := hm.lt
  refine LoopV_of (fun xs w' => ∃ (dn rest : List (Int × Placed)) (l' : List (Int × Bool)), xs = [.map (some r), x15, x28, x29, N i, ptr (sz w) 0] ∧ WalkAt w' (sz w) mp kI plV dn rest ∧ bl.Perm (dn ++ rest) ∧ MapIs w' r kI bV l' ∧ MemP (fun n => Q n ∨ n ∈ slotsOf dn) l' ∧ Mod w w' (· = r)) (fun xs w' => walkLeft w' (xs.getD 5 undef))
    ⟨[], bl, l, rfl, hW, List.Perm.refl _, hr.up (u1.keep r hrlt), hQ.iff (by simp [slotsOf]), u1.mod _⟩ ?_
  rintro k3 T w2 ⟨dn, rest, l', hT, hW, hp, hr2, hQ2, hmod⟩ hk3
  simp only [temps, List.cons.injEq, and_true] at hT
  obtain ⟨g3, g15, g28, g29, g30, g35⟩ := hT
  simp only [g3, g15, g28, g29, g30, g35]
  refine V_next hW (fun h0 => ?_) (fun a p b hab w3 hW3 hm3 hz3 => ?_)
  · subst h0
    simp (disch := omega) only [Ext_0, IfV_false, Bin_add_N]
    refine h _ _ hmod hr2 (hQ2.iff fun n => ?_)
    rw [List.append_nil] at hp
    have : n ∈ slotsOf bl ↔ n ∈ slotsOf dn := (hp.map _).mem_iff
    rw [this]
  · have hq := hW.lt
    simp only [Ext_0, IfV_true]
    refine V_entry hW3 ?_
    simp only [Ext_1]
    refine New_of (cs := [N 0, Str []]) fun w4 u4 hA4 hz4 => ?_
    refine hA4.stAll (l := [N p.2.1, Str p.2.2]) rfl rfl rfl fun w5 e5 hA5 => ?_
    simp only [FA_ptr, Nat.zero_add, hA5.ld (k := 0) rfl]
    have u5 : Up w3 w5 := up_put u4 e5 (Nat.le_refl _)
    have hr3 : MapIs w3 r kI bV l' := hr2.up (hm3.keep r hr2.lt (by omega))
    have hr5 : MapIs w5 r kI bV l' := hr3.up (u5.keep r hr3.lt)
    rw [kI_N, show Value.bool true = bV true from rfl]
    refine U_update mtBool keyT_I hr5 (p.2.1 : Int) true fun w6 hw6 hr6 => ?_
    obtain ⟨o6, e6⟩ := hw6
    have hW5 : WalkAt w5 (sz w) mp kI plV (dn ++ [p]) (a ++ b) := hW3.keep (u5.keep _ hW3.lt.1) (u5.keep _ hW3.lt.2.1)
    have hW6 : WalkAt w6 (sz w) mp kI plV (dn ++ [p]) (a ++ b) := hW5.keep (by rw [e6]; exact gb_putB_ne (by omega)) (by rw [e6]; exact gb_putB_ne hne)
    refine hk3 _ _ ⟨dn ++ [p], a ++ b, _, rfl, hW6, ?_, hr6, ?_, ?_⟩ ?_
    · rw [hab] at hp
      refine hp.trans ?_
      rw [List.append_assoc]
      refine List.Perm.append_left dn ?_
      simpa using (List.perm_middle (a := p) (l₁ := a) (l₂ := b))
    · refine (hQ2.set (p.2.1 : Int)).iff fun n => ?_
      simp only [slotsOf, List.map_append, List.map_cons, List.map_nil, List.mem_append, List.mem_singleton]
      rw [or_assoc]
    · refine ⟨?_, ?_, ?_, ?_, fun b' hb' hne' => ?_⟩
      · rw [e6]; exact (u5.os.trans hm3.os).trans hmod.os
      · rw [e6]; exact (u5.tape.trans hm3.tape).trans hmod.tape
      · rw [e6]; exact (u5.output.trans hm3.output).trans hmod.output
      · rw [e6, sz_putB]; have := hmod.size; have := hm3.size; have := u5.size; omega
      · have s1 := hmod.size
        have s3 := hm3.size
        rw [e6, gb_putB_ne hne', u5.keep b' (by omega), hm3.keep b' (by omega) (by omega), hmod.keep b' hb' hne']
    · have t1 := walkLeft_eq hW6
      have t2 := walkLeft_eq hW
      simp only [temps, List.getD_cons_succ, List.getD_cons_zero, g35]
      rw [t1, t2, hab]; simp
/-- the slots that a version uses -/
def slotsH (x : HeldM) : List Int := slotsOf x.blocks ++ slotsOf x.old
def usedS (all : List (Int × HeldM)) (n : Int) : Prop := ∃ p ∈ all, n ∈ slotsH p.2
theorem bsM2 {a b : Nat} {w : World} : (Instr.buildSlice ty_s_m_int_hold_placed 2 [(0, .map (some a)), (1, .map (some b))].toArray).run pg w = .ok (.slice (some ⟨sz w, 0, none⟩) 2 2) (w.alloc (.cells [.map (some a), .map (some b)].toArray ty_m_int_hold_placed)) := by kernel_rfl
theorem c_hold_used {w : World} {col : Col} {k d j h : Nat} {x : HoldM} (hh : HoldAt w col k d j h x) {K : Value → World → Prop}
    (hk : ∀ w' r l, Up w w' → sz w ≤ r → MapIs w' r kI bV l → MemP (usedS x.all) l → K (.map (some r)) w') : CallF pg n_hold_Hold_used [ptr h 0] w K := by
  apply ln_hold_Hold_used
  simp only [sh_hold_Hold_used]
  refine V_makeMap (kv := kI) (vv := bV) fun w1 u1 hr1 hz1 => ?_
  obtain ⟨⟨mb, bs, a1, a2, a3, a4, a5⟩, a6⟩ := hh
  have hmr : mb ≠ sz w := by have := a3.lt; omega
  have a3 : MapIs w1 mb kI ptrV bs := a3.up (u1.keep _ a3.lt)
  simp only [NilCk_ptr, FA_ptr, Nat.reduceAdd, (a1.up u1).ld (k := 1) rfl]
  refine V_range mtHeld.u a3 fun w2 u2 hW hz2 => ?_
  generalize hr : sz w = r at hr1 hmr ⊢
  have hrlt := hr1.lt
  refine LoopV_of (fun xs w' => ∃ (dn rest : List (Int × Nat)) (l' : List (Int × Bool)), xs = [.map (some r), ptr (sz w1) 0] ∧ WalkAt w' (sz w1) mb kI ptrV dn rest ∧ bs.Perm (dn ++ rest) ∧ MapIs w' r kI bV l' ∧ MemP (fun n => ∃ v b y, (v, b) ∈ dn ∧ alook v x.all = some y ∧ n ∈ slotsH y) l' ∧ Mod w1 w' (· = r)) (fun xs w' => walkLeft w' (xs.getD 1 undef))
    ⟨[], bs, [], rfl, hW, List.Perm.refl _, hr1.up (u2.keep r hrlt), fun n => ⟨fun ⟨_, _, _, hh, _⟩ => (by cases hh), fun _ => rfl⟩, u2.mod _⟩ ?_
  rintro k1 T w3 ⟨dn, rest, l', hT, hW, hp, hr2, hQ2, hmod⟩ hk1
  simp only [temps, List.cons.injEq, and_true] at hT
  obtain ⟨g3, g15⟩ := hT
  simp only [g3, g15]
  have hup3 : Up w w3 := hmod.up u1 (fun q hq => by rw [hq, ← hr]; exact Nat.le_refl _)
  refine V_next hW (fun h0 => ?_) (fun a p b hab w4 hW4 hm4 hz4 => ?_)
  · subst h0
    simp only [Ext_0, IfV_false]
    refine hk _ _ _ hup3 (by omega) hr2 (hQ2.iff fun n => ?_)
    rw [List.append_nil] at hp
    constructor
    · rintro ⟨v, b, y, h1, h2, h3⟩
      exact ⟨(v, y), alook_mem h2, h3⟩
    · rintro ⟨⟨v, y⟩, h1, h2⟩
      have hv := alook_of_mem a5.2.1 h1
      obtain ⟨b, hb⟩ := alook_some_of_keys a5.1.symm hv
      exact ⟨v, b, y, hp.mem_iff.1 (alook_mem hb), hv, h2⟩
  · have hq := hW.lt
    simp only [Ext_0, IfV_true]
    refine V_entry hW4 ?_
    simp only [Ext_1]
    obtain ⟨v, bb⟩ := p
    have hbs : (v, bb) ∈ bs := hp.mem_iff.2 (by rw [hab]; simp)
    have hvb : alook v bs = some bb := alook_of_mem (by rw [a5.1]; exact a5.2.1) hbs
    obtain ⟨y, hy⟩ := alook_some_of_keys a5.1 hvb
    obtain ⟨sv, mp, ob, b1, b2, b3, b4, b5, b6, b7, b8⟩ := a5.2.2.1 v bb y hvb hy
    have old : ∀ q, q < sz w → gb w4 q = gb w q := fun q hq1 => by
      have s3 := hmod.size
      rw [hm4.keep q (by omega) (by omega), hmod.keep q (by omega) (by omega), u1.keep q hq1]
    have hbr : bb ≠ r ∧ mp ≠ r ∧ ob ≠ r := by
      have l1 := b1.lt
      have l2 := b5.lt
      have l3 := b7.lt
      omega
    have b1' : Arr w4 bb ty_hold_held (manC y.man sv ++ [.map (some mp), .map (some ob)]) := (old bb b1.lt).trans b1
    have b1d : Arr w4.drew bb ty_hold_held (manC y.man sv ++ [.map (some mp), .map (some ob)]) := b1'
    simp only [Drew, ptrV, NilCk_ptr, FA_ptr, Nat.reduceAdd, b1d.ld (k := 6) rfl, b1d.ld (k := 7) rfl, true_and, V_eq bsM2]
    have u5 : Up w4 (w4.drew.alloc (.cells [.map (some mp), .map (some ob)].toArray ty_m_int_hold_placed)) := (Up.refl w4).drew.alloc _
    have hsl : Sl (w4.drew.alloc (.cells [.map (some mp), .map (some ob)].toArray ty_m_int_hold_placed)) 1 (.slice (some ⟨sz w4, 0, none⟩) 2 2) 2 [.map (some mp), .map (some ob)] := .at _ _ _ _ _ ⟨_, _, _, gb_alloc_new rfl, rfl⟩ rfl (Nat.le_refl _)
    have hs4 : sz w4.drew = sz w4 := rfl
    generalize w4.drew.alloc (.cells [.map (some mp), .map (some ob)].toArray ty_m_int_hold_placed) = w5 at u5 hsl ⊢
    rw [hs4] at *
    have s4 : sz w1 ≤ sz w4 := by have := hmod.size; have := hm4.size; omega
    have hmp5 : MapIs w5 mp kI plV y.blocks := b5.up ((u5.keep mp (by have := b5.lt; omega)).trans (old mp b5.lt))
    have hob5 : MapIs w5 ob kI plV y.old := b7.up ((u5.keep ob (by have := b7.lt; omega)).trans (old ob b7.lt))
    have hr4 : MapIs w4 r kI bV l' := hr2.up (hm4.keep r hr2.lt (by omega))
    have hr5 : MapIs w5 r kI bV l' := hr4.up (u5.keep r hr4.lt)
    have hW5 : WalkAt w5 (sz w1) mb kI ptrV (dn ++ [(v, bb)]) (a ++ b) := hW4.keep (u5.keep _ hW4.lt.1) (u5.keep _ hW4.lt.2.1)
    rw [hsl.lenL]
    refine LoopV_of (fun xs w' => ∃ (i : Nat) (l2 : List (Int × Bool)), xs = [.map (some r), ptr (sz w1) 0, .slice (some ⟨sz w4, 0, none⟩) 2 2, N 2, N i] ∧ i ≤ 2 ∧ Mod w5 w' (· = r) ∧ MapIs w' r kI bV l2 ∧
        MemP (fun n => (∃ v b y, (v, b) ∈ dn ∧ alook v x.all = some y ∧ n ∈ slotsH y) ∨ (1 ≤ i ∧ n ∈ slotsOf y.blocks) ∨ (2 ≤ i ∧ n ∈ slotsOf y.old)) l2) (fun xs _ => 2 - natOf (xs.getD 4 undef))
      ⟨0, l', rfl, by omega, Mod.refl .., hr5, hQ2.iff (by intro n; simp)⟩ ?_
    rintro k2 T2 w6 ⟨i, l2, hT2, hi, hmod6, hr6, hQ6⟩ hk2
    simp only [temps, List.cons.injEq, and_true] at hT2
    obtain ⟨t3, t15, t28, t29, t30⟩ := hT2
    have hrw4 : r < sz w4 := by omega
    have hsl6 : Sl w6 1 (.slice (some ⟨sz w4, 0, none⟩) 2 2) 2 [.map (some mp), .map (some ob)] := hsl.up fun q hq hi => hmod6.keep q hq (by cases hi; show sz w4 ≠ r; omega)
    have hmp6 : MapIs w6 mp kI plV y.blocks := hmp5.up (hmod6.keep mp hmp5.lt hbr.2.1)
    have hob6 : MapIs w6 ob kI plV y.old := hob5.up (hmod6.keep ob hob5.lt hbr.2.2)
    simp only [t3, t15, t28, t29, t30, Bin_lss_N]
    by_cases hlt : i < 2
    · simp only [hlt, decide_true, IfV_true]
      by_cases h0 : i = 0
      · subst h0
        refine hsl6.ix1 (i := 0) (x := .map (some mp)) rfl fun p => ?_
        refine c_used_k3 (x3 := undef) hmp6 hr6 hbr.2.1 hQ6 (by omega) fun w7 l3 hm7 hr7 hQ7 => ?_
        refine hk2 _ _ ⟨1, l3, rfl, by omega, hmod6.trans hm7, hr7, hQ7.iff fun n => ?_⟩ (by simp [temps, t30])
        simp
      · have h1 : i = 1 := by omega
        subst h1
        refine hsl6.ix1 (i := 1) (x := .map (some ob)) rfl fun p => ?_
        refine c_used_k3 (x3 := undef) hob6 hr6 hbr.2.2 hQ6 (by omega) fun w7 l3 hm7 hr7 hQ7 => ?_
        refine hk2 _ _ ⟨2, l3, rfl, by omega, hmod6.trans hm7, hr7, hQ7.iff fun n => ?_⟩ (by simp [temps, t30])
        simp [or_assoc]
    · have h2 : i = 2 := by omega
      subst h2
      simp only [hlt, decide_false, IfV_false]
      have hW6 : WalkAt w6 (sz w1) mb kI ptrV (dn ++ [(v, bb)]) (a ++ b) := hW5.keep (hmod6.keep _ hW5.lt.1 (by omega)) (hmod6.keep _ hW5.lt.2.1 hmr)
      refine hk1 _ _ ⟨dn ++ [(v, bb)], a ++ b, l2, rfl, hW6, ?_, hr6, hQ6.iff fun n => ?_, ?_⟩ ?_
      · rw [hab] at hp
        refine hp.trans ?_
        rw [List.append_assoc]
        refine List.Perm.append_left dn ?_
        simpa using (List.perm_middle (a := (v, bb)) (l₁ := a) (l₂ := b))
      · constructor
        · rintro (⟨v', b', y', q1, q2, q3⟩ | ⟨_, q⟩ | ⟨_, q⟩)
          · exact ⟨v', b', y', List.mem_append_left _ q1, q2, q3⟩
          · exact ⟨v, bb, y, by simp, hy, by simp [slotsH, q]⟩
          · exact ⟨v, bb, y, by simp, hy, by simp [slotsH, q]⟩
        · rintro ⟨v', b', y', q1, q2, q3⟩
          simp only [List.mem_append, List.mem_singleton, Prod.mk.injEq] at q1
          rcases q1 with q1 | ⟨rfl, rfl⟩
          · exact .inl ⟨v', b', y', q1, q2, q3⟩
          · rw [hy] at q2; cases q2
            simp only [slotsH, List.mem_append] at q3
            rcases q3 with q3 | q3
            · exact .inr (.inl ⟨by omega, q3⟩)
            · exact .inr (.inr ⟨by omega, q3⟩)
      · refine ⟨?_, ?_, ?_, ?_, fun q hq1 hq2 => ?_⟩
        · exact (((hmod6.os.trans u5.os).trans hm4.os).trans hmod.os)
        · exact (((hmod6.tape.trans u5.tape).trans hm4.tape).trans hmod.tape)
        · exact (((hmod6.output.trans u5.output).trans hm4.output).trans hmod.output)
        · have := hmod6.size; have := u5.size; omega
        · have := u5.size
          rw [hmod6.keep q (by omega) hq2, u5.keep q (by omega), hm4.keep q (by omega) (by omega), hmod.keep q (by omega) hq2]
      · have y1 := walkLeft_eq hW6
        have y2 := walkLeft_eq hW
        simp only [temps, List.getD_cons_succ, List.getD_cons_zero, g15]
        rw [y1, y2, hab]; simp
end Go.Proofs.Tryz

