/- Part of a proof (its text Norm): what is proved stands in the text Card. -/
import Derived.Test.YtfefpbfnmfebgaaGreatDoorFormsA
import Derived.Test.YtfefpbfnmfebgaaGreatDoorSlices
import Derived.Test.YtfefpbfnmfebgaaGreatDoorFrame
import Derived.Test.YtfefpbfnmfebgaaGreatDoorShelf
import Derived.Test.YtfefpbfnmfebgaaGreatDoorGap
set_option linter.all false
namespace Go.Proofs.Tryz
open Go Go.Lad
set_option autoImplicit false
set_option maxRecDepth 100000
set_option linter.unusedSimpArgs false

/-- the first edge that may not be -/
def badE (n : Nat) : List (Int × Int) → Nat → Option Nat
  | [], _ => none
  | e :: l, i => if min e.1 e.2 < 0 ∨ (n : Int) ≤ max e.1 e.2 then some i else badE n l (i + 1)
theorem c_edges_wrong {i c : Nat} {w : World} {K : Value → World → Prop} (h : K (eFault i c) w) : CallF pg n_edges_wrong [N i, eErr c] w K := by
  apply ln_edges_wrong
  have : (Instr.build ty_api_Fault [(0, N i), (1, eErr c)].toArray).run pg w = .ok (.agg #[N i, eErr c]) w := by kernel_rfl
  simp only [sh_edges_wrong, V_eq this]
  exact h
theorem min_I {a b : Int} {w : World} : (Builtin.min_ #[3, 3] 3 [I a, I b].toArray).run pg w = .ok (I (min a b)) w := by
  by_cases h : b < a
  · have : min a b = b := by omega
    simp [Builtin.min_, Builtin.min2, h, this, -N_cast]
  · have : min a b = a := by omega
    simp [Builtin.min_, Builtin.min2, h, this, -N_cast]
theorem max_I {a b : Int} {w : World} : (Builtin.max_ #[3, 3] 3 [I a, I b].toArray).run pg w = .ok (I (max a b)) w := by
  by_cases h : a < b
  · have : max a b = b := by omega
    simp [Builtin.max_, Builtin.max2, h, this, -N_cast]
  · have : max a b = a := by omega
    simp [Builtin.max_, Builtin.max2, h, this, -N_cast]

theorem plainV_I (x : Int) : plainV (I x) = true := rfl
theorem c_edges_Check {n : Nat} (hn : n ≤ 4096) {l : List (Int × Int)} {v : Value} {m : Nat} {w : World} (hv : Sl w 2 v m (edgesC l)) (hm : m ≤ 20000) {K : Value → World → Prop}
    (h : ∀ w', Up w w' → K (match badE n l 0 with | some i => eFault i 10 | none => .nilIface) w') : CallF pg n_edges_Check [N n, v] w K := by
  apply ln_edges_Check
  have hlm : l.length = m := by
    have := hv.len
    have e : (edgesC l).length = l.length * 2 := by
      clear this hv h
      induction l with
      | nil => rfl
      | cons e l ih => simp only [edgesC, List.flatMap_cons, List.length_append] at ih ⊢; rw [ih]; simp [edgeC]; omega
    omega
  have h1 : ¬ 4096 < n := by omega
  have h2 : ¬ 20000 < m := by omega
  simp only [sh_edges_Check, Bin_lss_N, Nat.not_lt_zero, decide_false, IfV_false, Bin_gtr_N, h1]
  rw [hv.lenL]
  simp only [Bin_gtr_N, h2, decide_false, IfV_false]
  rw [hv.lenL]
  refine LoopV_of (fun xs w' => ∃ i, xs = [N n, v, N m, N i] ∧ i ≤ m ∧ Up w w' ∧ badE n (l.drop i) i = badE n l 0) (fun xs _ => m - natOf (xs.getD 3 undef)) ⟨0, rfl, by omega, Up.refl _, rfl⟩ ?_
  rintro k1 T w1 ⟨i, hT, hi, hu, he⟩ hk1
  simp only [temps, List.cons.injEq, and_true] at hT
  obtain ⟨g0, g22, g23, g24⟩ := hT
  by_cases hlt : i < m
  · have hil : i < l.length := by omega
    simp only [g0, g22, g23, g24, Bin_lss_N, hlt, decide_true, IfV_true]
    refine (hv.Up hu).ixN (by omega) hlt fun p => ?_
    rw [edgesC_at l i hil]
    rw [List.drop_eq_getElem_cons hil] at he
    simp only [badE] at he
    generalize l[i] = e at he ⊢
    refine New_of fun w2 u2 A2 z2 => ?_
    refine A2.stAll (l := edgeC e) rfl rfl rfl fun w3 e3 A3 => ?_
    have hu3 : Up w w3 := up_put (hu.trans u2) e3 hu.size
    have n0 : N 0 = I 0 := rfl
    simp only [FA_ptr, Nat.zero_add, Nat.add_zero, A3.ld (k := 0) rfl, A3.ld (k := 1) rfl, V_eq min_I, n0, Bin_lss]
    by_cases hb : min e.1 e.2 < 0
    · simp only [hb, decide_true, IfV_true]
      rw [if_pos (.inl hb)] at he
      refine c_edges_wrong ?_
      have := h _ hu3
      rw [← he] at this
      exact this
    · simp only [hb, decide_false, IfV_false, FA_ptr, Nat.zero_add, Nat.add_zero, A3.ld (k := 0) rfl, A3.ld (k := 1) rfl, V_eq max_I]
      rw [show N n = I n from rfl, Bin_geq]
      by_cases hb2 : (n : Int) ≤ max e.1 e.2
      · simp only [hb2, decide_true, IfV_true]
        rw [if_pos (.inr hb2)] at he
        refine c_edges_wrong ?_
        have := h _ hu3
        rw [← he] at this
        exact this
      · simp (disch := omega) only [hb2, decide_false, IfV_false, Bin_add_N]
        rw [if_neg (by omega)] at he
        exact hk1 _ _ ⟨i + 1, rfl, by omega, hu3, he⟩ (by simp [temps, g24]; omega)
  · simp only [g0, g22, g23, g24, Bin_lss_N, hlt, decide_false, IfV_false]
    rw [List.drop_eq_nil_of_le (by omega)] at he
    have := h _ hu
    rw [← he] at this
    exact this

/-! the order -/
def cmpI (a b : Int) : Int := if a < b then -1 else if b < a then 1 else 0
theorem c_cmp_Compare {a b : Int} {w : World} {K : Value → World → Prop} (h : K (I (cmpI a b)) w) : CallF pg n_cmp_Compare_int [I a, I b] w K := by
  apply ln_cmp_Compare_int
  have nan : ∀ (x : Int) (K : Value → World → Prop), K (B false) w → CallF pg n_cmp_isNaN_int [I x] w K := by
    intro x K h
    apply ln_cmp_isNaN_int
    simpa [sh_cmp_isNaN_int] using h
  simp only [sh_cmp_Compare_int]
  refine nan _ _ (nan _ _ ?_)
  simp only [IfV_false, Bin_lss, Bin_gtr]
  unfold cmpI at h
  by_cases h1 : a < b
  · rw [if_pos h1] at h; simp only [h1, decide_true, IfV_true]; exact h
  · rw [if_neg h1] at h
    by_cases h2 : b < a
    · rw [if_pos h2] at h; simp only [h1, h2, decide_false, IfV_false, decide_true, IfV_true]; exact h
    · rw [if_neg h2] at h; simp only [h1, h2, decide_false, IfV_false]; exact h
theorem c_cmp_Or {a b : Int} {v : Value} {w : World} (hv : Sl w 1 v 2 [I a, I b]) {K : Value → World → Prop} (h : K (I (if a ≠ 0 then a else b)) w) : CallF pg n_cmp_Or_int [v] w K := by
  apply ln_cmp_Or_int
  simp only [sh_cmp_Or_int]
  rw [hv.lenL]
  refine LoopV_of (fun xs w' => w' = w ∧ ∃ i, xs = [N 0, v, N 2, N i] ∧ i ≤ 2 ∧ (1 ≤ i → a = 0) ∧ (2 ≤ i → b = 0)) (fun xs _ => 2 - natOf (xs.getD 3 undef)) ⟨rfl, 0, rfl, by omega, by omega, by omega⟩ ?_
  rintro k1 T w1 ⟨rfl, i, hT, hi, q1, q2⟩ hk1
  simp only [temps, List.cons.injEq, and_true] at hT
  obtain ⟨g3, g6, g7, g8⟩ := hT
  have n0 : N 0 = I 0 := rfl
  have eN : ∀ (x : Int) (K1 : Value → Prop), Bin .neq .i64 (I x) (N 0) K1 = K1 (B (decide (x ≠ 0))) := fun x K1 => Bin_neq .i64 x 0
  by_cases hlt : i < 2
  · simp only [g3, g6, g7, g8, Bin_lss_N, hlt, decide_true, IfV_true]
    by_cases h0 : i = 0
    · subst h0
      refine hv.ix1 (i := 0) (x := I a) rfl fun p => ?_
      rw [eN]
      by_cases ha : a = 0
      · subst ha
        simp (disch := omega) only [ne_eq, not_true_eq_false, decide_false, IfV_false, Bin_add_N]
        exact hk1 _ _ ⟨rfl, 1, rfl, by omega, fun _ => rfl, by omega⟩ (by simp [temps, g8])
      · simp only [ne_eq, ha, not_false_eq_true, decide_true, IfV_true]
        simpa [ha] using h
    · have h1 : i = 1 := by omega
      subst h1
      refine hv.ix1 (i := 1) (x := I b) rfl fun p => ?_
      rw [eN]
      have ha := q1 (by omega)
      by_cases hb : b = 0
      · subst hb
        simp (disch := omega) only [ne_eq, not_true_eq_false, decide_false, IfV_false, Bin_add_N]
        exact hk1 _ _ ⟨rfl, 2, rfl, by omega, fun _ => ha, fun _ => rfl⟩ (by simp [temps, g8])
      · simp only [ne_eq, hb, not_false_eq_true, decide_true, IfV_true]
        simpa [ha] using h
  · simp only [g3, g6, g7, g8, Bin_lss_N, hlt, decide_false, IfV_false]
    have ha := q1 (by omega); have hb := q2 (by omega)
    simpa [ha, hb, n0] using h

/-- blocks laid on, draws taken: nothing else -/
def Laid (w w' : World) : Prop := ∃ (q : Nat) (os : Array Obj), w' = { w with heap := w.heap ++ os, drawn := w.drawn + q }
theorem Laid.refl (w : World) : Laid w w := ⟨0, #[], by simp⟩
theorem Laid.alloc {a w : World} (h : Laid a w) (o : Obj) : Laid a (w.alloc o) := by
  obtain ⟨q, os, rfl⟩ := h
  refine ⟨q, os.push o, ?_⟩
  show ({ a with heap := (a.heap ++ os).push o, drawn := a.drawn + q } : World) = _
  rw [Array.append_push]
theorem Laid.drew {a w : World} (h : Laid a w) : Laid a w.drew := by
  obtain ⟨q, os, rfl⟩ := h
  exact ⟨q + 1, os, rfl⟩
theorem Laid.up {a w : World} (h : Laid a w) : Up a w := by
  obtain ⟨q, os, rfl⟩ := h
  refine ⟨rfl, rfl, rfl, by simp [sz], fun b hb => ?_⟩
  simp only [gb]
  exact Array.getElem?_append_left hb
def ordE (a b : Int × Int) : Int := if cmpI a.1 b.1 ≠ 0 then cmpI a.1 b.1 else cmpI a.2 b.2
theorem bs65 {a b : Int} {w : World} : (Instr.buildSlice ty_s_int 2 [(0, I a), (1, I b)].toArray).run pg w = .ok (.slice (some ⟨sz w, 0, none⟩) 2 2) (w.alloc (.cells [I a, I b].toArray 3)) := by kernel_rfl
theorem c_edges_order {a b : Int × Int} {w : World} {K : Value → World → Prop} (h : ∀ w', Laid w w' → K (I (ordE a b)) w') : CallF pg n_edges_order [.agg (edgeC a).toArray, .agg (edgeC b).toArray] w K := by
  apply ln_edges_order
  simp only [sh_edges_order, New]
  have hA : Arr (w.alloc (.cells (Value.cells (.agg (edgeC a).toArray)).toList.toArray ty_api_Edge)) (sz w) ty_api_Edge (edgeC a) := Arr.new
  have hL1 : Laid w (w.alloc (.cells (Value.cells (.agg (edgeC a).toArray)).toList.toArray ty_api_Edge)) := (Laid.refl w).alloc _
  have z1 : (w.alloc (.cells (Value.cells (.agg (edgeC a).toArray)).toList.toArray ty_api_Edge)).heap.size = sz w + 1 := sz_alloc ..
  rw [z1, show w.heap.size = sz w from rfl]
  generalize w.alloc (.cells (Value.cells (.agg (edgeC a).toArray)).toList.toArray ty_api_Edge) = w1 at hA hL1 z1 ⊢
  have hB : Arr (w1.alloc (.cells (Value.cells (.agg (edgeC b).toArray)).toList.toArray ty_api_Edge)) (sz w1) ty_api_Edge (edgeC b) := Arr.new
  have hA2 := hA.up ((Up.refl w1).alloc (.cells (Value.cells (.agg (edgeC b).toArray)).toList.toArray ty_api_Edge))
  have hL2 := hL1.alloc (.cells (Value.cells (.agg (edgeC b).toArray)).toList.toArray ty_api_Edge)
  rw [show sz w1 = sz w + 1 from z1] at hB
  generalize w1.alloc (.cells (Value.cells (.agg (edgeC b).toArray)).toList.toArray ty_api_Edge) = w2 at hB hA2 hL2 ⊢
  have A : Arr w2.drew (sz w) ty_api_Edge [I a.1, I a.2] := hA2
  have Bb : Arr w2.drew (sz w + 1) ty_api_Edge [I b.1, I b.2] := hB
  simp only [Drew, FA_ptr, Nat.zero_add, A.ld (k := 0) rfl, A.ld (k := 1) rfl, Bb.ld (k := 0) rfl, Bb.ld (k := 1) rfl, true_and]
  refine c_cmp_Compare ?_
  simp only [A.ld (k := 0) rfl, A.ld (k := 1) rfl, Bb.ld (k := 0) rfl, Bb.ld (k := 1) rfl, true_and, and_true]
  refine c_cmp_Compare ?_
  simp only [true_and, V_eq bs65]
  refine c_cmp_Or (Sl.fresh rfl) ?_
  exact h _ (hL2.drew.alloc _)
end Go.Proofs.Tryz

namespace Go.Proofs.Tryz
open Go Go.Lad
open Go.Sort
set_option autoImplicit false
set_option maxRecDepth 100000
set_option linter.unusedSimpArgs false

theorem edgesC_get (l : List (Int × Int)) (i : Nat) (h : i < l.length * 2) : (edgesC l)[i]? = (edgeC (l[i / 2]'(by omega)))[i % 2]? := by
  have h1 := edgesC_at l (i / 2) (by omega)
  have h2 : ((edgesC l).drop (i / 2 * 2)).take 2 = edgeC (l[i / 2]'(by omega)) := h1
  rw [← h2, List.getElem?_take, if_pos (by omega), List.getElem?_drop]
  congr 1; omega
theorem flat_edges (l : List (Int × Int)) : flatK edgeC 2 l.toArray = (edgesC l).toArray := by
  apply Array.ext_getElem?
  intro t
  by_cases h : t < l.length * 2
  · have e1 : (flatK edgeC 2 l.toArray)[t]? = some (flatK edgeC 2 l.toArray)[t]! := by
      rw [getElem!_pos _ t (by simpa using h)]; exact Array.getElem?_eq_getElem _
    rw [e1, get_flatK _ _ _ _ (by simpa using h)]
    have e2 : l.toArray[t / 2]! = l[t / 2]'(by omega) := by rw [getElem!_pos _ _ (by simp; omega)]; simp
    rw [e2, List.getElem?_toArray, edgesC_get l t h]
    have h3 : t % 2 < 2 := Nat.mod_lt _ (by omega)
    generalize t % 2 = r at h3
    match r, h3 with
    | 0, _ => rfl
    | 1, _ => rfl
  · rw [Array.getElem?_eq_none (by simp; omega), Array.getElem?_eq_none (by simp [edgesC_length]; omega)]

theorem toList_of {α : Type} (d : Array α) : d.toList.toArray = d := by simp
theorem sortWorld_arr {w : World} {g : Nat} {t : TypeId} {l : List (Int × Int)} {tl : List Value} (ha : Arr w g t (edgesC l ++ tl)) (n : Nat) (l' : List (Int × Int)) (hl : l'.length = l.length) (os : Array Obj) :
    Arr (sortWorldK edgeC 2 w g 0 n l'.toArray os) g t (edgesC l' ++ tl) ∧ w.grownBy (sortWorldK edgeC 2 w g 0 n l'.toArray os) (some g) := by
  have hlt : g < w.heap.size := ha.lt
  have hk : ∀ b, b < w.heap.size → (sortWorldK edgeC 2 w g 0 n l'.toArray os).heap[b]? = (w.heap.modify g (onCells (Sort.putCells id 0 (flatK edgeC 2 l'.toArray))))[b]? := by
    intro b hb
    show ((w.heap.modify g _) ++ os)[b]? = _
    exact Array.getElem?_append_left (by simpa using hb)
  refine ⟨?_, ⟨rfl, rfl, rfl, ?_, ?_⟩⟩
  · show _ = _
    unfold gb
    rw [hk g hlt, Array.getElem?_modify, if_pos rfl, show w.heap[g]? = some (.cells (edgesC l ++ tl).toArray t (0, 0)) from ha]
    simp only [Option.map_some, onCells, Sort.putCells]
    congr 2
    rw [flat_edges]
    apply Array.ext_getElem?
    intro j
    simp only [Array.getElem?_mapIdx, List.getElem?_toArray, Nat.zero_le, true_and, Nat.zero_add, List.size_toArray, edgesC_length, id_eq, Nat.sub_zero]
    by_cases hj : j < l'.length * 2
    · have h1 : j < (edgesC l).length := by rw [edgesC_length]; omega
      have h2 : j < (edgesC l').length := by rw [edgesC_length]; omega
      rw [List.getElem?_append_left h1, List.getElem?_append_left h2, List.getElem?_eq_getElem h1, List.getElem?_eq_getElem h2]
      simp only [Option.map_some, hj, if_true]
      rw [getElem!_pos _ j (by simpa using h2)]; simp
    · have h1 : (edgesC l).length ≤ j := by rw [edgesC_length]; omega
      have h2 : (edgesC l').length ≤ j := by rw [edgesC_length]; omega
      rw [List.getElem?_append_right h1, List.getElem?_append_right h2, edgesC_length, edgesC_length, hl]
      cases tl[j - l.length * 2]? with
      | none => rfl
      | some x => rw [hl] at hj; simp only [Option.map_some, hj, if_false]
  · show w.heap.size ≤ ((w.heap.modify g _) ++ os).size
    simp
  · intro b hb hne
    rw [hk b hb, Array.getElem?_modify, if_neg (fun e => hne (by rw [e]))]
theorem holdsE {w : World} {g : Nat} {t : TypeId} {l : List (Int × Int)} {tl : List Value} (ha : Arr w g t (edgesC l ++ tl)) : HoldsK edgeC 2 w g 0 l.toArray := by
  intro j hj
  simp only [size_flatK, List.size_toArray] at hj
  have h1 : j < (edgesC l).length := by rw [edgesC_length]; omega
  rw [cell?_gb, frozen?_gb, ha]
  refine ⟨?_, by simp⟩
  simp only [Nat.zero_add]
  rw [List.getElem?_append_left h1, List.getElem?_eq_getElem h1, flat_edges, getElem!_pos _ j (by simpa using h1)]
  simp

/-! the order -/
def leE (a b : Int × Int) : Bool := decide (a.1 < b.1 ∨ a.1 = b.1 ∧ a.2 ≤ b.2)
theorem ordE_lt (a b : Int × Int) : ltOf ordE a b = !leE b a := by
  obtain ⟨a1, a2⟩ := a
  obtain ⟨b1, b2⟩ := b
  unfold ltOf ordE cmpI leE
  by_cases h1 : a1 < b1
  · have : ¬ (b1 < a1 ∨ b1 = a1 ∧ b2 ≤ a2) := by omega
    simp [h1, this]
  · by_cases h2 : b1 < a1
    · simp [h1, h2]
    · have h3 : a1 = b1 := by omega
      subst h3
      by_cases h4 : a2 < b2
      · have : ¬ (b2 ≤ a2) := by omega
        simp [h4, this]
      · have h5 : b2 ≤ a2 := by omega
        by_cases h6 : b2 < a2 <;> simp [h4, h5, h6]
theorem swoE : SWO (ltOf ordE) where
  irrefl x := by rw [ordE_lt]; simp [leE]
  trans x y z h1 h2 := by rw [ordE_lt] at *; simp [leE] at *; omega
  ntrans x y z h1 h2 := by rw [ordE_lt] at *; simp [leE] at *; omega
def sortE (l : List (Int × Int)) : List (Int × Int) := l.mergeSort leE
theorem leE_trans (a b c : Int × Int) (h1 : leE a b = true) (h2 : leE b c = true) : leE a c = true := by simp [leE] at *; omega
theorem leE_total (a b : Int × Int) : (leE a b || leE b a) = true := by simp [leE]; omega
theorem leE_anti (a b : Int × Int) (h1 : leE a b = true) (h2 : leE b a = true) : a = b := by
  simp [leE] at *
  exact Prod.ext (by omega) (by omega)
theorem sorted_unique (l l' : List (Int × Int)) (hp : l'.Perm l) (hs : ∀ i j (hi : i < j) (hj : j < l'.length), leE (l'[i]'(by omega)) l'[j] = true) : l' = sortE l := by
  refine List.Perm.eq_of_pairwise (le := fun a b => leE a b = true) (fun a b _ _ h1 h2 => leE_anti a b h1 h2) ?_ ?_ (hp.trans (List.mergeSort_perm ..).symm)
  · rw [List.pairwise_iff_getElem]; intro i j h1 h2 h3; exact hs i j h3 h2
  · exact List.pairwise_mergeSort leE_trans leE_total l
theorem cmpLaysE (g0 off size : Nat) (w : World) : CmpLays pg n_edges_order #[] edgeC 2 ordE g0 off size w := by
  intro m os dk _ x y
  have := c_edges_order (a := x) (b := y) (w := sortWorldK edgeC 2 w g0 off m dk os) (K := fun v w' => v = I (ordE x y) ∧ Laid (sortWorldK edgeC 2 w g0 off m dk os) w') (fun w' h => ⟨rfl, h⟩)
  refine Calls.mono this ?_
  intro e w' h
  cases e <;> first | exact h.elim | skip
  obtain ⟨rfl, q, os', rfl⟩ := h
  exact ⟨rfl, q, os', rfl⟩
theorem ia_Edge : ∀ w, (isAgg ty_api_Edge).run pg w = .ok true w := by intro w; kernel_rfl
theorem so_Edge : ∀ w, (Go.sizeOf ty_api_Edge).run pg w = .ok 2 w := by intro w; kernel_rfl
theorem one_Edge : ∀ x, ∀ v ∈ edgeC x, v.oneCell' = true := fun x v hv => by simp [edgeC] at hv; rcases hv with rfl | rfl <;> rfl
theorem eg_order : ∀ args w, (callFunc n_edges_order args).run pg w = .ok (.enter n_edges_order args) w := fun args w => run_callFunc (by kernel_rfl) args w
theorem sortE_lit {g cap : Nat} {l : List (Int × Int)} {w : World} (hH : HoldsK edgeC 2 w g 0 l.toArray) (hlt : g < w.heap.size) (hsz : l.toArray.size < 4611686018427387904) :
    Calls pg n_slices_SortFunc_Edge #[.slice (some ⟨g, 0, none⟩) l.toArray.size cap, .func (.func n_edges_order) #[] #[]] w fun e w' =>
      e = .returned (.tuple #[]) ∧ ∃ d' n os, PermIn 0 l.toArray.size l.toArray d' ∧ SortedIn (ltOf ordE) 0 l.toArray.size d' ∧ w' = sortWorldK edgeC 2 w g 0 n d' os := by
  have hcon := AnyQ.slices_SortFunc Tryz.laySortE 2 ia_Edge so_Edge edgeC (fun _ => rfl) one_Edge ordE swoE n_edges_order #[] g 0 cap l.toArray w eg_order (cmpLaysE g 0 l.toArray.size w) hH hlt hsz
  exact hcon
theorem c_SortFunc_Edge {base : Nat} {v : Value} {n : Nat} {l : List (Int × Int)} {w : World} (ho : Own w base ty_api_Edge 2 v n (edgesC l)) (hn : n < 1099511627776) {K : Value → World → Prop}
    (h : ∀ w', Own w' base ty_api_Edge 2 v n (edgesC (sortE l)) → w.grownBy w' v.ownBlock → K (.tuple #[]) w') : CallF pg n_slices_SortFunc_Edge [v, .func (.func n_edges_order) #[] #[]] w K := by
  have hll : l.length = n := by have := ho.sl.len; rw [edgesC_length] at this; omega
  rcases ho.outA with ⟨rfl, rfl, hx⟩ | ⟨g, cap, tl, rfl, hb, ha, hc, hm, hcl, hxl⟩
  · have hl0 : l = [] := List.eq_nil_of_length_eq_zero hll
    subst hl0
    apply ln_slices_SortFunc_Edge
    have e := V_conv (P := pg) (w := w) (src := 3) (dst := ty_uint) (k := .u64) (j := .i64) (n := ((0 : Nat) : Int)) (by kernel_rfl) (by kernel_rfl) (K := fun t2 w => CallF pg n_math_bits_Len [t2] w fun t3 w =>
      CallF pg n_slices_pdqsortCmpFunc_Edge [.slice none 0 0, (N 0), N 0, t3, .func (.func n_edges_order) #[] #[]] w fun t4 w => K (.tuple #[]) w)
    simp only [sh_slices_SortFunc_Edge, LenL_N]
    refine e.mpr ?_
    refine Calls.mono (Tryz.bits_Len 0 w (by omega) (by omega)) ?_
    rintro e w' ⟨he, hw⟩
    subst he
    subst hw
    apply ln_slices_pdqsortCmpFunc_Edge
    simp only [sh_slices_pdqsortCmpFunc_Edge]
    refine LoopV_of (fun xs w1 => w1 = w' ∧ ∃ b, xs = [.slice none 0 0, N 0, N 0, b, .func (.func n_edges_order) #[] #[], .bool true, .bool true]) (fun xs _ => 0) ⟨rfl, _, rfl⟩ ?_
    rintro k1 T w1 ⟨rfl, b, hT⟩ hk1
    simp only [temps, List.cons.injEq, and_true] at hT
    obtain ⟨g0, g1, g2, g3, g4, g10, g11⟩ := hT
    simp (disch := omega) only [g0, g1, g2, g3, g4, g10, g11, Bin_sub_N, Bin_leq_N, Nat.zero_le, decide_true, IfV_true]
    apply ln_slices_insertionSortCmpFunc_Edge
    simp (disch := omega) only [sh_slices_insertionSortCmpFunc_Edge, Bin_add_N]
    refine LoopV_of (fun xs w' => w' = w1 ∧ xs = [.slice none 0 0, N 0, N 0, .func (.func n_edges_order) #[] #[], N 1]) (fun xs _ => 0) ⟨rfl, rfl⟩ ?_
    rintro k2 T2 w2 ⟨rfl, hT⟩ hk2
    simp only [temps, List.cons.injEq, and_true] at hT
    obtain ⟨t0, t1, t2, t3, t8⟩ := hT
    simp (disch := omega) only [t0, t1, t2, t3, t8, Bin_lss_N, show ¬ (1 : Nat) < 0 from by omega, decide_false, IfV_false]
    exact h _ (by simpa [sortE] using ho) ⟨rfl, rfl, rfl, Nat.le_refl _, fun _ _ _ => rfl⟩
  · have hcon := sortE_lit (cap := cap) (holdsE ha) ha.lt (by simp; omega)
    have e : l.toArray.size = n := by simp [hll]
    rw [e] at hcon
    refine Calls.mono hcon ?_
    · rw [← e] at *
      clear e
      rintro e w' ⟨rfl, d', nq, os, hp, hs, rfl⟩
      have hd : d'.toList.toArray = d' := by simp
      have hsz : d'.toList.length = l.length := by have := hp.1; simpa using this
      have hd' : d'.toList = sortE l := by
        refine sorted_unique _ _ ?_ ?_
        · have := hp.2.2
          have x1 : d'.extract 0 l.toArray.size = d' := by rw [← hp.1]; simp
          have x2 : l.toArray.extract 0 l.toArray.size = l.toArray := by simp
          rw [x1, x2] at this
          exact this
        · intro i j hi hj
          have := hs i j (Nat.zero_le _) hi (by rw [List.size_toArray, ← hsz]; exact hj)
          rw [ordE_lt] at this
          have e1 : d'[j]! = d'.toList[j] := by rw [getElem!_pos d' j (by simpa using hj)]; simp
          have hjs : j < d'.size := by simpa using hj
          have e2 : d'[i]! = d'.toList[i]'(by omega) := by rw [getElem!_pos d' i (by omega)]; simp
          rw [e1, e2] at this
          simpa using this
      have := sortWorld_arr ha nq (sortE l) (by rw [← hd', hsz]) os
      rw [← hd, hd']
      exact h _ (Own.of hb this.1 hc hm (by rw [← hcl]; simp [edgesC_length, ← hd', hsz]) (by rw [edgesC_length, ← hd', hsz, hll])) this.2

/-! edges.Norm -/
def normI (l : List (Int × Int)) : List (Int × Int) := compactL (sortE l)
theorem badE_none {n : Nat} {l : List (Int × Int)} {i : Nat} (h : badE n l i = none) : ∀ e ∈ l, 0 ≤ e.1 ∧ 0 ≤ e.2 ∧ e.1 < n ∧ e.2 < n := by
  induction l generalizing i with
  | nil => simp
  | cons a l ih =>
    simp only [badE] at h
    split at h
    · cases h
    · intro e he
      simp only [List.mem_cons] at he
      rcases he with rfl | he
      · omega
      · exact ih h e he
def natE (l : List (Int × Int)) : List NE := l.map fun e => (e.1.toNat, e.2.toNat)
theorem castE_natE {l : List (Int × Int)} (h : ∀ e ∈ l, 0 ≤ e.1 ∧ 0 ≤ e.2) : castE (natE l) = l := by
  simp only [castE, natE, List.map_map]
  conv => rhs; rw [← List.map_id l]
  refine List.map_congr_left fun e he => ?_
  have := h e he
  exact Prod.ext (by simp; omega) (by simp; omega)
/-- the normalised edges of a graph -/
def normE (l : List (Int × Int)) : List NE := natE (normI l)
theorem normI_mem {l : List (Int × Int)} {e : Int × Int} (h : e ∈ normI l) : e ∈ l := (List.mergeSort_perm l leE).mem_iff.1 (compactL_mem _ _ h)
theorem normI_length (l : List (Int × Int)) : (normI l).length ≤ l.length := by
  have := compactL_length (sortE l)
  simpa [sortE, normI] using this
theorem normE_length (l : List (Int × Int)) : (normE l).length ≤ l.length := by simpa [normE, natE] using normI_length l
theorem c_edges_Norm {n : Nat} (hn : n ≤ 4096) {l : List (Int × Int)} {v : Value} {m : Nat} {w : World} (hv : Sl w 2 v m (edgesC l)) (hm : m ≤ 20000) {K : Value → World → Prop}
    (hbad : ∀ i, badE n l 0 = some i → ∀ w', Up w w' → K (.tuple #[.slice none 0 0, eFault i 10]) w')
    (hok : badE n l 0 = none → ∀ w' v', Up w w' → Own w' (sz w) ty_api_Edge 2 v' (normE l).length (edgesC (castE (normE l))) → K (.tuple #[v', .nilIface]) w') : CallF pg n_edges_Norm [N n, v] w K := by
  apply ln_edges_Norm
  simp only [sh_edges_Norm]
  refine c_edges_Check hn hv hm fun w1 u1 => ?_
  cases hb : badE n l 0 with
  | some i => simp only [NeNil_i1, IfV_true]; exact hbad i hb _ u1
  | none =>
    simp only [NeNil_i0, IfV_false]
    have hll : l.length = m := by have := hv.len; rw [edgesC_length] at this; omega
    refine c_Clone_Edge (hv.Up u1) (edgesC_plain l) (by omega) fun v2 w2 u2 ho2 => ?_
    refine c_SortFunc_Edge ho2 (by omega) fun w3 ho3 hg3 => ?_
    have hsl : (sortE l).length = m := by simp [sortE, hll]
    refine c_Compact_Edge ho3 (by omega) fun v4 w4 ho4 hg4 => ?_
    have hc : castE (normE l) = normI l := castE_natE fun e he => by
      have := badE_none hb e (normI_mem he); omega
    have u3 : Up w w3 := Up.grow (u1.trans u2) hg3 (fun k hk => Nat.le_trans u1.size (ho2.inSl hk))
    have u4 : Up w w4 := Up.grow u3 hg4 (fun k hk => Nat.le_trans u1.size (ho3.inSl hk))
    refine hok hb _ _ u4 ?_
    rw [hc]
    have : (normE l).length = (compactL (sortE l)).length := by simp [normE, natE, normI]
    rw [this]
    exact Own.mono ho4 u1.size
theorem normE_lt {n : Nat} {l : List (Int × Int)} (hb : badE n l 0 = none) : ∀ e ∈ normE l, e.1 < n ∧ e.2 < n := by
  intro e he
  simp only [normE, natE, List.mem_map] at he
  obtain ⟨x, hx, rfl⟩ := he
  have := badE_none hb x (normI_mem hx)
  simp only; omega
theorem c_csr_Build {n : Nat} (hn : n ≤ 4096) {l : List (Int × Int)} {v : Value} {m : Nat} {w : World} (hv : Sl w 2 v m (edgesC l)) (hm : m ≤ 20000) {K : Value → World → Prop}
    (hbad : ∀ i, badE n l 0 = some i → ∀ w', Up w w' → K (.tuple #[.pointer none, eFault i 10]) w')
    (hok : badE n l 0 = none → ∀ w' c, Up w w' → CsrAt w' c n (normE l) → K (.tuple #[ptr c 0, .nilIface]) w') : CallF pg n_csr_Build [N n, v] w K := by
  apply ln_csr_Build
  simp only [sh_csr_Build]
  have hll : l.length = m := by have := hv.len; rw [edgesC_length] at this; omega
  have hnl := normE_length l
  refine c_edges_Norm hn hv hm (fun i hb w' u => ?_) (fun hb w' v' u ho => ?_)
  · simp only [Ext_0, Ext_1, NeNil_i1, IfV_true]; exact hbad i hb w' u
  · simp only [Ext_0, Ext_1, NeNil_i0, IfV_false]
    refine c_csr_rows ho.sl hn (by omega) (fun e he => (normE_lt hb e he).1) fun w2 c u2 hc => ?_
    exact hok hb _ _ (u.trans u2) hc
end Go.Proofs.Tryz

