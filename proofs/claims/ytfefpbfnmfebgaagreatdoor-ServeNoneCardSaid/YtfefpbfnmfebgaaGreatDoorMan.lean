/- Part of a proof (its text Man): what is proved stands in the text Card. -/
import Derived.Test.YtfefpbfnmfebgaaGreatDoorFormsManifest
import Derived.Test.YtfefpbfnmfebgaaGreatDoorShGet
import Derived.Test.YtfefpbfnmfebgaaGreatDoorNorm
import Derived.Test.YtfefpbfnmfebgaaGreatDoorMerkle
set_option linter.all false
namespace Go.Proofs.Tryz
open Go Go.Lad
set_option autoImplicit false
set_option maxRecDepth 100000
set_option linter.unusedSimpArgs false
set_option linter.unusedVariables false

/-- a manifest -/
structure Man where
  version : Nat
  nodes : Nat
  edges : Nat
  shards : List (Nat × Nat)
  blocks : Nat
  root : List UInt8
deriving DecidableEq
def shardsC (l : List (Nat × Nat)) : List Value := l.flatMap fun e => [N e.1, N e.2]
abbrev manC (m : Man) (sv : Value) : List Value := [N m.version, N m.nodes, N m.edges, sv, N m.blocks, Str m.root]
abbrev manV (m : Man) (sv : Value) : Value := .agg (manC m sv).toArray
theorem shardsC_length (l : List (Nat × Nat)) : (shardsC l).length = l.length * 2 := by
  induction l with
  | nil => rfl
  | cons e l ih => simp only [shardsC, List.flatMap_cons, List.length_append] at ih ⊢; rw [ih]; simp; omega
theorem shardsC_at (l : List (Nat × Nat)) (i : Nat) (h : i < l.length) : ((shardsC l).drop (i * 2)).take 2 = [N l[i].1, N l[i].2] := by
  induction l generalizing i with
  | nil => simp at h
  | cons e l ih =>
    cases i with
    | zero => simp [shardsC]
    | succ i =>
      have h2 : i < l.length := by simpa using h
      have := ih i h2
      simp only [List.getElem_cons_succ, ← this]
      rw [show (i + 1) * 2 = i * 2 + 2 by omega]
      rfl
theorem shardsC_append (a b : List (Nat × Nat)) : shardsC (a ++ b) = shardsC a ++ shardsC b := by simp [shardsC]
theorem shardsC_plain (l : List (Nat × Nat)) : (shardsC l).all plainV = true := by
  rw [List.all_eq_true]; intro x hx
  simp only [shardsC, List.mem_flatMap, List.mem_cons, List.not_mem_nil, or_false] at hx
  obtain ⟨e, _, rfl | rfl⟩ := hx <;> rfl
abbrev ShSl (w : World) (sv : Value) (l : List (Nat × Nat)) : Prop := Sl w 2 sv l.length (shardsC l)

theorem c_man_in {n a b : Nat} {w : World} {K : Value → World → Prop} (h : K (B (decide (a ≤ n ∧ n ≤ b))) w) : CallF pg n_manifest_in [N n, N a, N b] w K := by
  apply ln_manifest_in
  simp only [sh_manifest_in, Bin_geq_N, Bin_leq_N]
  by_cases h1 : a ≤ n
  · simpa [h1] using h
  · simpa [h1] using h
theorem neq_B (x y : Operand) (a b : Bool) (w : World) : (do eqGuard .neq 4 x y (.bool a) (.bool b); binOp .neq 4 (.bool a) (.bool b)).run pg w = .ok (B (a != b)) w := by
  cases a <;> cases b <;> kernel_rfl
def headsM (m : Man) : Option Nat :=
  if ¬ (1 ≤ m.version ∧ m.version ≤ 1099511627776) then some 0
  else if ¬ m.nodes ≤ 4096 then some 1
  else if ¬ m.edges ≤ 20000 then some 2
  else if 64 < m.shards.length ∨ ¬ (m.shards.length = 0 ↔ m.nodes = 0) then some 3
  else none
def optI : Option Nat → Value
  | some n => N n
  | none => I (-1)
theorem c_man_heads {m : Man} {sv : Value} {w : World} (hs : ShSl w sv m.shards) {K : Value → World → Prop} (h : ∀ w', Up w w' → K (optI (headsM m)) w') : CallF pg n_manifest_heads [manV m sv] w K := by
  apply ln_manifest_heads
  simp only [sh_manifest_heads]
  refine New_of (cs := manC m sv) fun w1 u1 hA hz1 => ?_
  have hs1 := hs.Up u1
  have h := h _ u1
  unfold headsM at h
  simp only [FA_ptr, Nat.zero_add, hA.ld (k := 0) rfl]
  refine c_man_in ?_
  simp only [NotV_b]
  by_cases q0 : 1 ≤ m.version ∧ m.version ≤ 1099511627776
  · rw [if_neg (by simpa using q0)] at h
    simp only [q0, decide_true, Bool.not_true, IfV_false, and_self, FA_ptr, Nat.zero_add, hA.ld (k := 1) rfl]
    refine c_man_in ?_
    simp only [NotV_b, Nat.zero_le, true_and]
    by_cases q1 : m.nodes ≤ 4096
    · rw [if_neg (by simpa using q1)] at h
      simp only [q1, decide_true, Bool.not_true, IfV_false, FA_ptr, Nat.zero_add, hA.ld (k := 2) rfl]
      refine c_man_in ?_
      simp only [NotV_b, Nat.zero_le, true_and]
      by_cases q2 : m.edges ≤ 20000
      · rw [if_neg (by simpa using q2)] at h
        simp only [q2, decide_true, Bool.not_true, IfV_false, FA_ptr, Nat.zero_add, hA.ld (k := 3) rfl, hs1.lenL, Bin_gtr_N]
        by_cases q3 : 64 < m.shards.length
        · rw [if_pos (.inl q3)] at h
          simp only [q3, decide_true, IfV_true]
          exact h
        · simp only [q3, decide_false, IfV_false, FA_ptr, Nat.zero_add, hA.ld (k := 3) rfl, hs1.lenL, hA.ld (k := 1) rfl, Bin_eql_N, V_eq (neq_B ..), IfV_bool]
          by_cases q4 : (m.shards.length = 0 ↔ m.nodes = 0)
          · rw [if_neg (by simp only [q3, false_or]; exact fun hh => hh q4)] at h
            have : (decide (m.shards.length = 0) != decide (m.nodes = 0)) = false := by simp [q4]
            simp only [this, Bool.false_eq_true, if_false]
            exact h
          · rw [if_pos (.inr q4)] at h
            have : (decide (m.shards.length = 0) != decide (m.nodes = 0)) = true := by
              by_cases a1 : m.shards.length = 0 <;> by_cases a2 : m.nodes = 0 <;> simp_all
            simp only [this, if_true]
            exact h
      · rw [if_pos (by simpa using q2)] at h
        simp only [q2, decide_false, Bool.not_false, IfV_true]
        exact h
    · rw [if_pos (by simpa using q1)] at h
      simp only [q1, decide_false, Bool.not_false, IfV_true]
      exact h
  · rw [if_pos q0] at h
    simp only [q0, decide_false, Bool.not_false, IfV_true]
    exact h
def firstOk (nodes : Nat) : Option Nat → Nat → Bool
  | none, f => decide (f = 0)
  | some p, f => decide (p + 1 ≤ f ∧ f ≤ nodes - 1)
/-- the first of the shards' numbers that may not be -/
def tabM (nodes : Nat) : Option Nat → Nat → List (Nat × Nat) → Option Nat
  | _, _, [] => none
  | prev, i, e :: l =>
    if firstOk nodes prev e.1 = false then some (4 + 2 * i)
    else if ¬ (3 ≤ e.2 ∧ e.2 ≤ 1048576) then some (5 + 2 * i)
    else tabM nodes (some e.1) (i + 1) l
def tablesM (m : Man) : Option Nat := tabM m.nodes none 0 m.shards
theorem c_man_tables {m : Man} (hn : m.shards ≠ [] → 1 ≤ m.nodes) (hn2 : m.nodes < 1099511627776) (hl : m.shards.length ≤ 1048576) (hb : ∀ e ∈ m.shards, e.1 < 1152921504606846976) {sv : Value} {w : World} (hs : ShSl w sv m.shards) {K : Value → World → Prop}
    (h : ∀ w', Up w w' → K (optI (tablesM m)) w') : CallF pg n_manifest_tables [manV m sv] w K := by
  apply ln_manifest_tables
  simp only [sh_manifest_tables]
  refine New_of (cs := manC m sv) fun w1 u1 hA hz1 => ?_
  simp only [FA_ptr, Nat.zero_add, hA.ld (k := 3) rfl, (hs.Up u1).lenL]
  refine LoopV_of (fun xs w' => ∃ i, xs = [ptr (sz w) 0, sv, N m.shards.length, N i] ∧ i ≤ m.shards.length ∧ Up w1 w' ∧ tablesM m = tabM m.nodes (if i = 0 then none else some (m.shards.getD (i - 1) (0, 0)).1) i (m.shards.drop i)) (fun xs _ => m.shards.length - natOf (xs.getD 3 undef))
    ⟨0, rfl, by omega, Up.refl _, rfl⟩ ?_
  rintro k1 T w2 ⟨i, hT, hi, hu, he⟩ hk1
  simp only [temps, List.cons.injEq, and_true] at hT
  obtain ⟨g1, g7, g8, g9⟩ := hT
  by_cases hlt : i < m.shards.length
  · simp only [g1, g7, g8, g9, Bin_lss_N, hlt, decide_true, IfV_true]
    refine (hs.Up (u1.trans hu)).ixN (by omega) hlt fun p => ?_
    rw [shardsC_at _ i hlt]
    rw [List.drop_eq_getElem_cons hlt] at he
    simp only [tabM] at he
    have hgd : ∀ j (hj : j < m.shards.length), m.shards.getD j (0, 0) = m.shards[j] := fun j hj => by rw [List.getD_eq_getElem?_getD, List.getElem?_eq_getElem hj]; rfl
    have hgi := hgd i hlt
    rw [← hgi] at he
    have hbi : (m.shards.getD i (0, 0)).1 < 1152921504606846976 := by rw [hgi]; exact hb _ (List.getElem_mem _)
    rw [← hgi]
    generalize he' : m.shards.getD i (0, 0) = e at he hbi ⊢
    refine New_of (cs := [N 0, N 0]) fun w3 u3 hA3 hz3 => ?_
    refine hA3.stAll (l := [N e.1, N e.2]) rfl rfl rfl fun w4 e4 hA4 => ?_
    have u4 : Up w2 w4 := up_put u3 e4 (Nat.le_refl _)
    have hne : m.shards ≠ [] := fun h => by rw [h] at hlt; simp at hlt
    have hn1 := hn hne
    -- the way on, when it is known whether the first number may be
    have tail : ∀ (w5 : World) (okf : Bool), Up w4 w5 → okf = firstOk m.nodes (if i = 0 then none else some (m.shards.getD (i - 1) (0, 0)).1) e.1 →
        sh_manifest_tables_j1 k1 (ptr (sz w) 0) (N i) (ptr (sz w2) 0) (.bool okf) sv (N m.shards.length) (N i) w5 K := by
      intro w5 okf u5 hok
      unfold sh_manifest_tables_j1
      simp only [NotV_b]
      have hA5 := hA4.up u5
      cases okf with
      | false =>
        rw [if_pos hok.symm] at he
        simp (disch := omega) only [Bool.not_false, IfV_true, Bin_mul_N, Bin_add_N]
        have := h _ ((u1.trans hu).trans (u4.trans u5))
        rw [he] at this
        exact this
      | true =>
        rw [if_neg (by rw [← hok]; simp)] at he
        simp only [Bool.not_true, IfV_false, FA_ptr, Nat.zero_add, hA5.ld (k := 1) rfl]
        refine c_man_in ?_
        simp only [NotV_b]
        by_cases q : 3 ≤ e.2 ∧ e.2 ≤ 1048576
        · rw [if_neg (by simpa using q)] at he
          simp (disch := omega) only [q, and_self, decide_true, Bool.not_true, IfV_false, Bin_add_N]
          refine hk1 _ _ ⟨i + 1, rfl, by omega, hu.trans (u4.trans u5), ?_⟩ (by simp [temps, g9]; omega)
          rw [he, if_neg (by omega), Nat.add_sub_cancel, he']
        · rw [if_pos q] at he
          simp (disch := omega) only [q, decide_false, Bool.not_false, IfV_true, Bin_mul_N, Bin_add_N]
          have := h _ ((u1.trans hu).trans (u4.trans u5))
          rw [he] at this
          exact this
    simp only [FA_ptr, Nat.zero_add, hA4.ld (k := 0) rfl, Bin_eql_N, Bin_gtr_N]
    by_cases h0 : i = 0
    · subst h0
      simp only [Nat.lt_irrefl, decide_false, IfV_false]
      exact tail w4 _ (Up.refl _) rfl
    · have hpos : 0 < i := by omega
      have hAd := (hA.up (hu.trans u4)).up (Up.refl w4).drew
      have hA4d : Arr w4.drew (sz w2) ty_api_Shard [N e.1, N e.2] := hA4
      have hsd : ShSl w4.drew sv m.shards := (hs.Up (u1.trans hu)).Up (u4.trans (Up.refl w4).drew)
      simp (disch := omega) only [hpos, decide_true, IfV_true, Drew, FA_ptr, Nat.zero_add, hA4d.ld (k := 0) rfl, hAd.ld (k := 3) rfl, true_and, Bin_sub_N]
      obtain ⟨b, k, hr, hix⟩ := hsd.ix (show i - 1 < m.shards.length by omega)
      rw [hix]
      have hcell : (shardsC m.shards)[(i - 1) * 2]? = some (N (m.shards.getD (i - 1) (0, 0)).1) := by
        have h1 := shardsC_at m.shards (i - 1) (by omega)
        have h2 : ((shardsC m.shards).drop ((i - 1) * 2))[0]? = some (N (m.shards[i - 1]'(by omega)).1) := by
          have := congrArg (fun l => l[0]?) h1
          simpa using this
        rw [List.getElem?_drop, Nat.add_zero] at h2
        rw [h2, hgd (i - 1) (by omega)]
      simp only [FA_ptr, Nat.add_zero]
      rw [hr.ld hcell]
      have hbp : (m.shards.getD (i - 1) (0, 0)).1 < 1152921504606846976 := by rw [hgd (i - 1) (by omega)]; exact hb _ (List.getElem_mem _)
      simp (disch := omega) only [true_and, Bin_add_N, hAd.ld (k := 1) rfl, Bin_sub_N]
      refine c_man_in ?_
      exact tail w4.drew _ (Up.refl w4).drew (by simp only [h0, if_false, firstOk])
  · have : i = m.shards.length := by omega
    subst this
    simp only [g1, g7, g8, g9, Bin_lss_N, hlt, decide_false, IfV_false]
    rw [List.drop_eq_nil_of_le (Nat.le_refl _)] at he
    have := h _ (u1.trans hu)
    rw [he] at this
    exact this
def totalM (l : List (Nat × Nat)) : Nat := (l.map (·.2)).sum
theorem c_man_Total {m : Man} (hb : ∀ e ∈ m.shards, e.2 ≤ 1048576) (hl : m.shards.length ≤ 65536) {sv : Value} {w : World} (hs : ShSl w sv m.shards) {K : Value → World → Prop}
    (h : ∀ w', Up w w' → K (N (totalM m.shards)) w') : CallF pg n_manifest_Total [manV m sv] w K := by
  apply ln_manifest_Total
  simp only [sh_manifest_Total]
  refine New_of (cs := manC m sv) fun w1 u1 hA hz1 => ?_
  simp only [FA_ptr, Nat.zero_add, hA.ld (k := 3) rfl, (hs.Up u1).lenL]
  have hbd : ∀ i, i ≤ m.shards.length → totalM (m.shards.take i) ≤ i * 1048576 := by
    intro i hi
    induction i with
    | zero => simp [totalM]
    | succ i ih =>
      have := ih (by omega)
      have h2 := hb m.shards[i] (List.getElem_mem _)
      rw [List.take_add_one, List.getElem?_eq_getElem (show i < m.shards.length by omega)]
      simp only [totalM, Option.toList_some, List.map_append, List.map_cons, List.map_nil, List.sum_append, List.sum_cons, List.sum_nil] at this ⊢
      omega
  refine LoopV_of (fun xs w' => ∃ i, xs = [N (totalM (m.shards.take i)), sv, N m.shards.length, N i] ∧ i ≤ m.shards.length ∧ Up w1 w') (fun xs _ => m.shards.length - natOf (xs.getD 3 undef)) ⟨0, rfl, by omega, Up.refl _⟩ ?_
  rintro k1 T w2 ⟨i, hT, hi, hu⟩ hk1
  simp only [temps, List.cons.injEq, and_true] at hT
  obtain ⟨g3, g7, g8, g9⟩ := hT
  by_cases hlt : i < m.shards.length
  · simp only [g3, g7, g8, g9, Bin_lss_N, hlt, decide_true, IfV_true]
    refine (hs.Up (u1.trans hu)).ixN (by omega) hlt fun p => ?_
    rw [shardsC_at _ i hlt]
    refine New_of (cs := [N 0, N 0]) fun w3 u3 hA3 hz3 => ?_
    refine hA3.stAll (l := [N m.shards[i].1, N m.shards[i].2]) rfl rfl rfl fun w4 e4 hA4 => ?_
    have h1 := hbd i hi
    have h2 := hb m.shards[i] (List.getElem_mem _)
    simp (disch := omega) only [FA_ptr, Nat.zero_add, hA4.ld (k := 1) rfl, Bin_add_N]
    refine hk1 _ _ ⟨i + 1, ?_, by omega, hu.trans (up_put u3 e4 (Nat.le_refl _))⟩ (by simp [temps, g9]; omega)
    rw [List.take_add_one, List.getElem?_eq_getElem hlt]
    simp only [totalM, Option.toList_some, List.map_append, List.map_cons, List.map_nil, List.sum_append, List.sum_cons, List.sum_nil, Nat.add_zero]
  · have : i = m.shards.length := by omega
    subst this
    simp only [g3, g7, g8, g9, Bin_lss_N, hlt, decide_false, IfV_false]
    rw [List.take_of_length_le (Nat.le_refl _)]
    exact h _ (u1.trans hu)
end Go.Proofs.Tryz

namespace Go.Proofs.Tryz
open Go Go.Lad
set_option autoImplicit false
set_option maxRecDepth 100000
set_option linter.unusedSimpArgs false
set_option linter.unusedVariables false

/-- the first number that may not be -/
def placeM (m : Man) : Option Nat :=
  match headsM m with
  | some i => some i
  | none =>
    match tablesM m with
    | some i => some i
    | none =>
      if m.blocks ≠ countN (totalM m.shards) ∨ 2048 < m.blocks then some (4 + 2 * m.shards.length)
      else if m.root.length ≠ 32 then some (4 + 2 * m.shards.length + 1)
      else none
theorem headsM_none {m : Man} (h : headsM m = none) : 1 ≤ m.version ∧ m.version ≤ 1099511627776 ∧ m.nodes ≤ 4096 ∧ m.edges ≤ 20000 ∧ m.shards.length ≤ 64 ∧ (m.shards.length = 0 ↔ m.nodes = 0) := by
  unfold headsM at h
  split at h
  · cases h
  · split at h
    · cases h
    · split at h
      · cases h
      · split at h
        · cases h
        · rename_i h1 h2 h3 h4
          have h5 : m.shards.length = 0 ↔ m.nodes = 0 := Classical.not_not.1 fun hh => h4 (.inr hh)
          have h6 : ¬ 64 < m.shards.length := fun hh => h4 (.inl hh)
          omega
theorem tabM_none {nodes : Nat} : ∀ {l : List (Nat × Nat)} {prev : Option Nat} {i : Nat}, tabM nodes prev i l = none → ∀ e ∈ l, e.2 ≤ 1048576 ∧ 3 ≤ e.2 := by
  intro l
  induction l with
  | nil => intro prev i _ e he; cases he
  | cons a l ih =>
    intro prev i h e he
    simp only [tabM] at h
    split at h
    · cases h
    · split at h
      · cases h
      · rename_i h1 h2
        simp only [List.mem_cons] at he
        rcases he with rfl | he
        · omega
        · exact ih h e he
/-- the numbers are those of a reader of short numbers -/
structure ManB (m : Man) : Prop where
  first : ∀ e ∈ m.shards, e.1 < 1152921504606846976
  blocks : m.blocks < 1152921504606846976
theorem c_man_place {m : Man} (hm : ManB m) {sv : Value} {w : World} (hs : ShSl w sv m.shards) {K : Value → World → Prop} (h : ∀ w', Up w w' → K (optI (placeM m)) w') : CallF pg n_manifest_place [manV m sv] w K := by
  apply ln_manifest_place
  simp only [sh_manifest_place]
  refine New_of (cs := manC m sv) fun w1 u1 hA hz1 => ?_
  refine hA.ldAll rfl ?_
  unfold placeM at h
  have neg1 : ∀ K1 : Value → Prop, Bin .geq .i64 (I (-1)) (N 0) K1 = K1 (B false) := fun K1 => by
    show Bin .geq .i64 (.int .i64 (-1)) (.int .i64 ((0 : Nat) : Int)) K1 = _
    rw [Bin_geq]; rfl
  refine c_man_heads (hs.Up u1) fun w2 u2 => ?_
  cases hh : headsM m with
  | some i =>
    rw [hh] at h
    simp only [optI, Bin_geq_N, Nat.zero_le, decide_true, IfV_true]
    exact h _ (u1.trans u2)
  | none =>
    rw [hh] at h
    obtain ⟨q1, q2, q3, q4, q5, q6⟩ := headsM_none hh
    simp only [optI, neg1, IfV_false]
    refine (hA.up u2).ldAll rfl ?_
    have hne : m.shards ≠ [] → 1 ≤ m.nodes := fun hn => by
      have : m.shards.length ≠ 0 := fun h0 => hn (List.eq_nil_of_length_eq_zero h0)
      omega
    refine c_man_tables hne (by omega) (by omega) hm.first (hs.Up (u1.trans u2)) fun w3 u3 => ?_
    simp only at h
    cases ht : tablesM m with
    | some i =>
      rw [ht] at h
      simp only [optI, Bin_geq_N, Nat.zero_le, decide_true, IfV_true]
      exact h _ ((u1.trans u2).trans u3)
    | none =>
      rw [ht] at h
      have hb := tabM_none ht
      have hA3 := (hA.up u2).up u3
      have hs3 := hs.Up ((u1.trans u2).trans u3)
      have hA3d : Arr w3.drew (sz w) ty_api_Manifest (manC m sv) := hA3
      simp (disch := omega) only [optI, neg1, IfV_false, FA_ptr, Nat.zero_add, hA3.ld (k := 3) rfl, hs3.lenL, Bin_mul_N, Bin_add_N, Drew, hA3d.ld (k := 4) rfl, true_and]
      refine hA3d.ldAll rfl ⟨rfl, ?_⟩
      refine c_man_Total (fun e he => (hb e he).1) (by omega) (hs3.Up (Up.refl w3).drew) fun w4 u4 => ?_
      have hA4 := hA3d.up u4
      have htot : totalM m.shards ≤ 67108864 := by
        show totalM m.shards ≤ 64 * 1048576
        have gen : ∀ l : List (Nat × Nat), (∀ e ∈ l, e.2 ≤ 1048576) → totalM l ≤ l.length * 1048576 := by
          intro l
          induction l with
          | nil => intro _; simp [totalM]
          | cons a l ih =>
            intro hl
            have h1 := ih (fun e he => hl e (List.mem_cons_of_mem _ he))
            have h2 := hl a (List.mem_cons_self ..)
            simp only [totalM, List.map_cons, List.sum_cons, List.length_cons] at h1 ⊢
            omega
        exact Nat.le_trans (gen m.shards (fun e he => (hb e he).1)) (Nat.mul_le_mul_right _ q5)
      simp only [hA4.ld (k := 4) rfl, true_and]
      refine c_block_Count (by omega) ?_
      have u4' : Up w w4 := (((u1.trans u2).trans u3).trans (Up.refl w3).drew).trans u4
      simp only [hA4.ld (k := 4) rfl, true_and, Bin_neq_N]
      by_cases h1 : m.blocks = countN (totalM m.shards)
      · have d1 : decide (m.blocks = countN (totalM m.shards)) = true := decide_eq_true h1
        simp only [d1, Bool.not_true, IfV_false, FA_ptr, Nat.zero_add, hA4.ld (k := 4) rfl, true_and, Bin_gtr_N]
        by_cases h2 : 2048 < m.blocks
        · rw [if_pos (.inr h2)] at h
          simp only [h2, decide_true, IfV_true]
          exact h _ u4'
        · rw [if_neg (by rintro (hh | hh); exact hh h1; exact h2 hh)] at h
          simp only [h2, decide_false, IfV_false, FA_ptr, Nat.zero_add, hA4.ld (k := 5) rfl, LenS_Str, Bin_neq_N]
          by_cases h3 : m.root.length = 32
          · rw [if_neg (by simpa using h3)] at h
            simp only [h3, decide_true, Bool.not_true, IfV_false]
            exact h _ u4'
          · rw [if_pos h3] at h
            simp (disch := omega) only [h3, decide_false, Bool.not_false, IfV_true, Bin_add_N]
            exact h _ u4'
      · rw [if_pos (.inl h1)] at h
        simp only [h1, decide_false, Bool.not_false, IfV_true]
        exact h _ u4'
/-- what Check tells -/
def checkM (m : Man) : Value :=
  match placeM m with
  | some i => eFault i 4
  | none => .nilIface
theorem c_man_Check {m : Man} (hm : ManB m) {sv : Value} {w : World} (hs : ShSl w sv m.shards) {K : Value → World → Prop} (h : ∀ w', Up w w' → K (checkM m) w') : CallF pg n_manifest_Check [manV m sv] w K := by
  apply ln_manifest_Check
  simp only [sh_manifest_Check]
  refine New_of (cs := manC m sv) fun w1 u1 hA hz1 => ?_
  refine hA.ldAll rfl ?_
  have neg1 : ∀ K1 : Value → Prop, Bin .geq .i64 (I (-1)) (N 0) K1 = K1 (B false) := fun K1 => by
    show Bin .geq .i64 (.int .i64 (-1)) (.int .i64 ((0 : Nat) : Int)) K1 = _
    rw [Bin_geq]; rfl
  refine c_man_place hm (hs.Up u1) fun w2 u2 => ?_
  unfold checkM at h
  cases hp : placeM m with
  | some i =>
    rw [hp] at h
    have : ∀ w, (Instr.build ty_api_Fault [(0, N i), (1, eErr 4)].toArray).run pg w = .ok (.agg #[N i, eErr 4]) w := by intro w; kernel_rfl
    simp only [optI, Bin_geq_N, Nat.zero_le, decide_true, IfV_true, V_eq (this _)]
    exact h _ (u1.trans u2)
  | none =>
    rw [hp] at h
    simp only [optI, neg1, IfV_false]
    exact h _ (u1.trans u2)
/-- a manifest's numbers -/
def manNums (m : Man) : List Nat := [m.version, m.nodes, m.edges, m.shards.length] ++ m.shards.flatMap (fun e => [e.1, e.2]) ++ [m.blocks]
def numsB (l : List Nat) : List UInt8 := l.flatMap shortL
/-- a manifest's bytes -/
def manB (m : Man) : List UInt8 := numsB (manNums m) ++ textL [m.root]
theorem numsB_le (l : List Nat) (h : ∀ n ∈ l, n < 72057594037927936) : (numsB l).length ≤ 8 * l.length := by
  induction l with
  | nil => simp [numsB]
  | cons a l ih =>
    have h1 := ih (fun n hn => h n (List.mem_cons_of_mem _ hn))
    have h2 := shortL_le (h a (List.mem_cons_self ..))
    simp only [numsB, List.flatMap_cons, List.length_append, List.length_cons] at h1 ⊢
    omega
theorem placeM_none {m : Man} (h : placeM m = none) : headsM m = none ∧ tablesM m = none ∧ m.blocks = countN (totalM m.shards) ∧ m.blocks ≤ 2048 ∧ m.root.length = 32 := by
  unfold placeM at h
  cases hh : headsM m with
  | some i => rw [hh] at h; cases h
  | none =>
    rw [hh] at h
    simp only at h
    cases ht : tablesM m with
    | some i => rw [ht] at h; cases h
    | none =>
      rw [ht] at h
      simp only at h
      split at h
      · cases h
      · split at h
        · cases h
        · rename_i h1 h2
          have a1 : m.blocks = countN (totalM m.shards) := Classical.not_not.1 fun hh => h1 (.inl hh)
          have a2 : ¬ 2048 < m.blocks := fun hh => h1 (.inr hh)
          exact ⟨rfl, rfl, a1, by omega, Classical.not_not.1 h2⟩
end Go.Proofs.Tryz

