/- Part of a proof (its text Gap): what is proved stands in the text Card. -/
import Derived.Test.YtfefpbfnmfebgaaGreatDoorFormsB
import Derived.Test.YtfefpbfnmfebgaaGreatDoorSlices
import Derived.Test.YtfefpbfnmfebgaaGreatDoorFormsC
import Derived.Test.YtfefpbfnmfebgaaGreatDoorFrame
set_option linter.all false
namespace Go.Proofs.Tryz
open Go Go.Lad
set_option autoImplicit false
set_option maxRecDepth 100000
set_option linter.unusedSimpArgs false

/-! graphs' rows -/
abbrev NE := Nat × Nat
def castE (l : List NE) : List (Int × Int) := l.map fun e => ((e.1 : Int), (e.2 : Int))
def cntE (l : List NE) (v : Nat) : Nat := (l.filter fun e => e.1 + 1 == v).length
def begE (l : List NE) (v : Nat) : Nat := (l.filter fun e => decide (e.1 < v)).length
theorem begE_succ (l : List NE) (v : Nat) : begE l (v + 1) = begE l v + cntE l (v + 1) := by
  have key : ∀ e : NE, (e.1 + 1 == v + 1) = (e.1 == v) := by intro e; by_cases h : e.1 = v <;> simp [h]
  induction l with
  | nil => rfl
  | cons e l ih =>
    simp only [begE, cntE, List.filter_cons, key] at ih ⊢
    by_cases h1 : e.1 < v
    · have h2 : e.1 < v + 1 := by omega
      have h3 : ¬ e.1 = v := by omega
      simp only [h1, h2, h3, decide_true, if_true, List.length_cons, beq_iff_eq, if_false, ih]; omega
    · by_cases h3 : e.1 = v
      · have h2 : e.1 < v + 1 := by omega
        simp only [h1, h2, h3, decide_true, decide_false, if_true, List.length_cons, beq_self_eq_true, Bool.false_eq_true, if_false, Nat.lt_succ_self, Nat.lt_irrefl, ih]; omega
      · have h2 : ¬ e.1 < v + 1 := by omega
        simp only [h1, h2, h3, decide_false, Bool.false_eq_true, if_false, beq_iff_eq, ih]
theorem begE_le (l : List NE) (v : Nat) : begE l v ≤ l.length := List.length_filter_le ..
theorem cntE_le (l : List NE) (v : Nat) : cntE l v ≤ l.length := List.length_filter_le ..
theorem cntE_snoc (l : List NE) (e : NE) (v : Nat) : cntE (l ++ [e]) v = cntE l v + if v = e.1 + 1 then 1 else 0 := by
  simp only [cntE, List.filter_append, List.length_append, List.filter_cons, List.filter_nil]
  by_cases h : e.1 + 1 = v
  · simp [h]
  · have h' : ¬ v = e.1 + 1 := fun e => h e.symm
    simp [h, h']
theorem begE_zero (l : List NE) : begE l 0 = 0 := by simp [begE]
theorem cntE_zero (l : List NE) : cntE l 0 = 0 := by
  simp only [cntE]
  rw [List.filter_eq_nil_iff.2]
  · rfl
  · intro e _; simp
theorem edgesC_cast_at (l : List NE) (i : Nat) (h : i < l.length) : ((edgesC (castE l)).drop (i * 2)).take 2 = [N l[i].1, N l[i].2] := by
  rw [edgesC_at _ _ (by simpa [castE] using h)]
  simp [edgeC, castE]
theorem castE_length (l : List NE) : (castE l).length = l.length := by simp [castE]
def rangeN (n : Nat) (f : Nat → Nat) : List Value := (List.range n).map fun v => N (f v)
theorem rangeN_get {n : Nat} {f : Nat → Nat} {i : Nat} (h : i < n) : (rangeN n f)[i]? = some (N (f i)) := by simp [rangeN, h]
theorem rangeN_length (n : Nat) (f : Nat → Nat) : (rangeN n f).length = n := by simp [rangeN]
theorem rangeN_set (n : Nat) (f g : Nat → Nat) (i x : Nat) (h : ∀ v, v < n → g v = if v = i then x else f v) : (rangeN n f).set i (N x) = rangeN n g := by
  apply List.ext_getElem?
  intro j
  rw [List.getElem?_set]
  by_cases hj : j < n
  · rw [rangeN_get hj, rangeN_get hj, h j hj]
    by_cases hij : i = j
    · subst hij; simp [rangeN_length, hj]
    · have : ¬ j = i := fun e => hij e.symm
      simp [hij, this]
  · have e1 : (rangeN n f)[j]? = none := List.getElem?_eq_none (by rw [rangeN_length]; omega)
    have e2 : (rangeN n g)[j]? = none := List.getElem?_eq_none (by rw [rangeN_length]; omega)
    rw [e1, e2]
    by_cases hij : i = j
    · simp [hij, rangeN_length]; omega
    · simp [hij]
/-- where a graph's rows lie -/
structure CsrAt (w : World) (c n : Nat) (l : List NE) : Prop where
  o : ∃ vb vt, Arr w c ty_csr_Csr [vb, vt] ∧ Sl w 1 vb (n + 1) (rangeN (n + 1) (begE l)) ∧ Sl w 1 vt l.length (l.map fun e => N e.2)
theorem CsrAt.Up {w w' : World} {c n : Nat} {l : List NE} (h : CsrAt w c n l) (u : Up w w') : CsrAt w' c n l := by
  obtain ⟨vb, vt, h1, h2, h3⟩ := h
  exact ⟨vb, vt, h1.up u, h2.Up u, h3.Up u⟩
theorem Sl.plainV {w : World} {m n : Nat} {v : Value} {cs : List Value} (h : Sl w m v n cs) : plainV v = true := by cases h <;> rfl

theorem c_csr_rows {n : Nat} {l : List NE} {v : Value} {w : World} (hv : Sl w 2 v l.length (edgesC (castE l))) (hn : n ≤ 4096) (hl : l.length ≤ 20000) (hb : ∀ e ∈ l, e.1 < n) {K : Value → World → Prop}
    (h : ∀ w' c, Up w w' → CsrAt w' c n l → K (ptr c 0) w') : CallF pg n_csr_rows [N n, v] w K := by
  apply ln_csr_rows
  simp (disch := omega) only [sh_csr_rows, Bin_add_N]
  refine V_make slT_int (base := sz w) (Nat.le_refl _) (by omega) (by omega) fun vb w1 ho1 u1 => ?_
  have hz0 : (List.replicate (n + 1) [N 0]).flatten = rangeN (n + 1) (cntE []) := by
    apply List.ext_getElem?; intro j
    have : (List.replicate (n + 1) [N 0]).flatten = List.replicate (n + 1) (N 0) := by
      generalize n + 1 = q
      induction q with
      | zero => rfl
      | succ q ih => simp only [List.replicate_succ, List.flatten_cons, ih]; rfl
    rw [this]
    by_cases hj : j < n + 1
    · rw [rangeN_get hj]; simp [hj, cntE]
    · rw [List.getElem?_eq_none (by simp; omega), List.getElem?_eq_none (by rw [rangeN_length]; omega)]
  rw [hz0] at ho1
  have hbd : (Instr.build ty_csr_Csr [(0, vb)].toArray).run pg w1 = .ok (.agg #[vb, .slice none 0 0]) w1 := by
    rcases ho1.outA with ⟨rfl, _⟩ | ⟨g, cap, tl, rfl, _⟩ <;> kernel_rfl
  rw [V_eq hbd]
  refine New_of (cs := [vb, .slice none 0 0]) fun w2 u2 hA2 hz2 => ?_
  rw [hv.lenL]
  have hvbp := ho1.plain
  have hvblt : ∀ b, InSl vb b → sz w ≤ b ∧ b < sz w1 := fun b hb => ⟨ho1.inSl hb, ho1.sl.lt hb⟩
  generalize hc : sz w1 = c at hA2 hz2 ⊢
  refine LoopV_of (fun xs w' => ∃ (i : Nat) (vt : Value), xs = [N n, ptr c 0, v, N l.length, N i] ∧ i ≤ l.length ∧ Up w w' ∧ Arr w' c ty_csr_Csr [vb, vt] ∧ Own w' (sz w) 3 1 vb (n + 1) (rangeN (n + 1) (cntE (l.take i))) ∧
      Own w' c 3 1 vt i ((l.take i).map fun e => N e.2)) (fun xs _ => l.length - natOf (xs.getD 4 undef)) ⟨0, _, rfl, by omega, u1.trans u2, hA2, ho1.Up u2, Own.nil ..⟩ ?_
  rintro k1 T w3 ⟨i, vt, hT, hi, hu, hA, hob, hot⟩ hk1
  simp only [temps, List.cons.injEq, and_true] at hT
  obtain ⟨g0, g5, g14, g15, g16⟩ := hT
  have hcw : sz w ≤ c := by rw [← hc]; exact u1.size
  by_cases hlt : i < l.length
  · simp only [g0, g5, g14, g15, g16, Bin_lss_N, hlt, decide_true, IfV_true]
    refine (hv.Up hu).ixN (by omega) hlt fun p => ?_
    rw [edgesC_cast_at l i hlt]
    have he : l[i].1 < n := hb _ (List.getElem_mem _)
    have htk : l.take (i + 1) = l.take i ++ [l[i]] := by rw [List.take_add_one, List.getElem?_eq_getElem hlt]; rfl
    generalize l[i] = e at he htk ⊢
    refine New_of (cs := [N 0, N 0]) fun w4 u4 hA4 hz4 => ?_
    refine hA4.stAll (l := [N e.1, N e.2]) rfl rfl rfl fun w5 e5 hA5 => ?_
    have u5 : Up w3 w5 := up_put u4 e5 (Nat.le_refl _)
    have hCd : Arr w5.drew c ty_csr_Csr [vb, vt] := Arr.up hA u5.drew
    have hEd : Arr w5.drew (sz w3) ty_api_Edge [N e.1, N e.2] := hA5
    have hob5 := Own.Up hob u5.drew
    have hot5 := Own.Up hot u5.drew
    simp (disch := omega) only [Drew, NilCk_ptr, FA_ptr, Nat.zero_add, Nat.add_zero, hCd.ld (k := 0) rfl, hEd.ld (k := 0) rfl, true_and, Bin_add_N]
    refine hob5.sl.ix1 (rangeN_get (by omega)) fun p => ?_
    refine ⟨rfl, ?_⟩
    have hcl := cntE_le (l.take i) (e.1 + 1)
    have htl : (l.take i).length ≤ l.length := by simp; omega
    simp (disch := omega) only [Bin_add_N]
    refine hob5.ixset (x := N (cntE (l.take i) (e.1 + 1) + 1)) rfl (by omega) fun p w6 hob6 hg6 hz6 => ?_
    rw [rangeN_set (n + 1) _ (cntE (l.take (i + 1))) _ _ (fun v _ => by rw [htk, cntE_snoc]; split <;> simp [*])] at hob6
    have hvc : ¬ InSl vb c := fun hi => by have := (hvblt c hi).2; omega
    have hvt : ∀ b, InSl vt b → vb.ownBlock ≠ some b := fun b hb hi => by
      have h1 := hot5.inSl hb; have h2 := (hvblt b hi).2; omega
    have hC6 : Arr w6 c ty_csr_Csr [vb, vt] := arr_grown hCd hg6 hvc
    have hE6 : Arr w6 (sz w3) ty_api_Edge [N e.1, N e.2] := arr_grown hEd hg6 (fun hi => by have := (hvblt _ hi).2; have := hA.lt; omega)
    have hot6 : Own w6 c 3 1 vt i ((l.take i).map fun e => N e.2) := Own.up hot5 fun b hb hi => hg6.block b hb (fun e => hvt b hi e.symm)
    have u6 : Up w w6 := Up.grow (hu.trans u5.drew) hg6 (fun k hk => (hvblt k hk).1)
    have hC7 : Arr w6.drew c ty_csr_Csr [vb, vt] := hC6
    have hE7 : Arr w6.drew (sz w3) ty_api_Edge [N e.1, N e.2] := hE6
    simp (disch := omega) only [Drew, NilCk_ptr, FA_ptr, Nat.zero_add, Nat.add_zero, hC7.ld (k := 1) rfl, hE7.ld (k := 1) rfl, true_and]
    have hcs : c ≤ sz w6.drew := Nat.le_of_lt hC7.lt
    refine V_build1 slT_int (cs := [N e.2]) rfl rfl (by omega) ?_
    have u8 : Up w6.drew (w6.drew.alloc (.cells [N e.2].toArray 3)) := (Up.refl _).alloc _
    have hsl : Sl (w6.drew.alloc (.cells [N e.2].toArray 3)) 1 (.slice (some ⟨sz w6.drew, 0, none⟩) 1 1) 1 [N e.2] := .at _ _ _ _ _ ⟨_, _, _, gb_alloc_new rfl, rfl⟩ rfl (Nat.le_refl _)
    generalize w6.drew.alloc (.cells [N e.2].toArray 3) = w8 at u8 hsl ⊢
    have hC8 := hC7.up u8
    have hob8 := Own.Up (show Own w6.drew _ _ _ _ _ _ from hob6) u8
    have hot8 := Own.Up (show Own w6.drew _ _ _ _ _ _ from hot6) u8
    simp only [hC8.ld (k := 1) rfl, true_and]
    refine V_append slT_int hot8 hsl rfl (Nat.le_of_lt hC8.lt) (by omega) fun vt' w9 hot9 hg9 => ?_
    have hvtb : ¬ InSl vt c := Own.apart hot8 hC8 (by decide)
    have hC9 : Arr w9 c ty_csr_Csr [vb, vt] := arr_grown hC8 hg9 hvtb
    have hob9 : Own w9 (sz w) 3 1 vb (n + 1) _ := Own.up hob8 fun b hb hi => hg9.block b hb (fun e => hvt b e.symm hi)
    have u9 : Up w w9 := Up.grow ((u6.trans ((Up.refl _).drew)).trans u8) hg9 (fun k hk => Nat.le_trans hcw (hot8.inSl hk))
    refine hC9.st hot9.plain (by simp) fun w10 e10 hC10 => ?_
    have hob10 : Own w10 (sz w) 3 1 vb (n + 1) _ := Own.up hob9 fun b hb hi => by rw [e10]; exact gb_putB_ne (fun e => hvc (e ▸ hi))
    have hvtb' : ¬ InSl vt' c := Own.apart hot9 hC9 (by decide)
    have hot10 : Own w10 c 3 1 vt' (i + 1) _ := Own.up hot9 fun b hb hi => by rw [e10]; exact gb_putB_ne (fun e => hvtb' (e ▸ hi))
    refine hk1 _ _ ⟨i + 1, vt', rfl, by omega, up_put u9 e10 hcw, hC10, hob10, ?_⟩ (by simp [temps, g16]; omega)
    rw [htk]; simpa using hot10
  · have hin : i = l.length := by omega
    subst hin
    simp only [g0, g5, g14, g15, g16, Bin_lss_N, hlt, decide_false, IfV_false]
    rw [List.take_of_length_le (Nat.le_refl _)] at hob hot
    clear hk1 T g0 g5 g14 g15 g16 k1
    refine LoopV_of (fun xs w' => ∃ (j : Nat), xs = [ptr c 0, N n, N j] ∧ j ≤ n ∧ Up w w' ∧ Arr w' c ty_csr_Csr [vb, vt] ∧ Own w' (sz w) 3 1 vb (n + 1) (rangeN (n + 1) (fun u => if u ≤ j then begE l u else cntE l u)) ∧
      Own w' c 3 1 vt l.length (l.map fun e => N e.2)) (fun xs _ => n - natOf (xs.getD 2 undef)) ⟨0, rfl, by omega, hu, hA, ?_, hot⟩ ?_
    · have : rangeN (n + 1) (fun u => if u ≤ 0 then begE l u else cntE l u) = rangeN (n + 1) (cntE l) := by
        simp only [rangeN]
        refine List.map_congr_left fun u _ => ?_
        by_cases h0 : u = 0
        · subst h0; simp [begE_zero, cntE_zero]
        · rw [if_neg (by omega)]
      rw [this]; exact hob
    rintro k2 T w4 ⟨j, hT, hj, hu4, hA4, hob4, hot4⟩ hk2
    simp only [temps, List.cons.injEq, and_true] at hT
    obtain ⟨g5, g43, g44⟩ := hT
    by_cases hlj : j < n
    · have hAd : Arr w4.drew c ty_csr_Csr [vb, vt] := hA4
      have hobd : Own w4.drew (sz w) 3 1 vb (n + 1) _ := hob4
      simp (disch := omega) only [g5, g43, g44, Bin_lss_N, hlj, decide_true, IfV_true, Drew, NilCk_ptr, FA_ptr, Nat.zero_add, hAd.ld (k := 0) rfl, true_and, Bin_add_N]
      refine hobd.sl.ix1 (rangeN_get (show j + 1 < n + 1 by omega)) fun p => ⟨rfl, ?_⟩
      refine hobd.sl.ix1 (rangeN_get (show j < n + 1 by omega)) fun p => ⟨rfl, ?_⟩
      have b1 := begE_le l j
      have b2 := cntE_le l (j + 1)
      rw [if_neg (show ¬ j + 1 ≤ j by omega), if_pos (Nat.le_refl j)]
      simp (disch := omega) only [Bin_add_N]
      refine hobd.ixset (x := N (cntE l (j + 1) + begE l j)) rfl (by omega) fun p w6 hob6 hg6 hz6 => ?_
      rw [rangeN_set (n + 1) _ (fun u => if u ≤ j + 1 then begE l u else cntE l u) _ _ (fun u _ => by
        by_cases h1 : u = j + 1
        · subst h1; simp [begE_succ]; omega
        · by_cases h2 : u ≤ j
          · simp [h1, h2, show u ≤ j + 1 by omega]
          · simp [h1, h2, show ¬ u ≤ j + 1 by omega])] at hob6
      have hvc : ¬ InSl vb c := fun hi => by have := (hvblt c hi).2; omega
      refine hk2 _ _ ⟨j + 1, rfl, by omega, Up.grow hu4.drew hg6 (fun k hk => (hvblt k hk).1), arr_grown hAd hg6 hvc, hob6, Own.up (show Own w4.drew _ _ _ _ _ _ from hot4) fun b hb hi => hg6.block b hb (fun e => by
          have h1 := hot4.inSl hi; have h2 := (hvblt b e.symm).2; omega)⟩ (by simp [temps, g44]; omega)
    · have : j = n := by omega
      subst this
      simp only [g5, g43, g44, Bin_lss_N, hlj, decide_false, IfV_false]
      refine h _ _ hu4 ⟨vb, vt, hA4, ?_, hot4.sl⟩
      have : rangeN (j + 1) (fun u => if u ≤ j then begE l u else cntE l u) = rangeN (j + 1) (begE l) := by
        simp only [rangeN]
        refine List.map_congr_left fun u hu => ?_
        rw [if_pos (by have := List.mem_range.1 hu; omega)]
      rw [← this]; exact hob4.sl

theorem c_Csr_Nodes {w : World} {c n : Nat} {l : List NE} (hc : CsrAt w c n l) (hn : n ≤ 4096) {K : Value → World → Prop} (h : K (N n) w) : CallF pg n_csr_Csr_Nodes [ptr c 0] w K := by
  apply ln_csr_Csr_Nodes
  obtain ⟨vb, vt, h1, h2, h3⟩ := hc
  simp (disch := omega) only [sh_csr_Csr_Nodes, EqNil_p1, IfV_false, NilCk_ptr, FA_ptr, Nat.zero_add, h1.ld (k := 0) rfl, h2.lenL, Bin_sub_N, Nat.add_sub_cancel]
  exact h
theorem c_Csr_Edges {w : World} {c n : Nat} {l : List NE} (hc : CsrAt w c n l) {K : Value → World → Prop} (h : K (N l.length) w) : CallF pg n_csr_Csr_Edges [ptr c 0] w K := by
  apply ln_csr_Csr_Edges
  obtain ⟨vb, vt, h1, h2, h3⟩ := hc
  simp (disch := omega) only [sh_csr_Csr_Edges, EqNil_p1, IfV_false, NilCk_ptr, FA_ptr, Nat.zero_add, h1.ld (k := 1) rfl, h3.lenL]
  exact h
/-- a node's row, out of the targets -/
def rowE (l : List NE) (v : Nat) : List Nat := ((l.map (·.2)).drop (begE l v)).take (begE l (v + 1) - begE l v)
theorem begE_mono (l : List NE) (v : Nat) : begE l v ≤ begE l (v + 1) := by rw [begE_succ]; omega
theorem rowE_length (l : List NE) (v : Nat) : (rowE l v).length = begE l (v + 1) - begE l v := by
  have := begE_le l (v + 1)
  simp [rowE]; omega
theorem Sl.sub {w : World} {v : Value} {n : Nat} {cs : List Value} (h : Sl w 1 v n cs) {lo hi : Nat} (h1 : lo ≤ hi) (h2 : hi ≤ n) {K : Value → World → Prop}
    (hk : ∀ v', Sl w 1 v' (hi - lo) ((cs.drop lo).take (hi - lo)) → (∀ b, InSl v' b → InSl v b) → K v' w) : V pg (Instr.sliceAt ty_s_int v (some (N lo)) (some (N hi)) none) w K := by
  have hl := h.len
  cases h with
  | nil =>
    have e1 : lo = 0 := by omega
    have e2 : hi = 0 := by omega
    subst e1; subst e2
    have : (Instr.sliceAt ty_s_int (.slice none 0 0) (some (N 0)) (some (N 0)) none).run pg w = .ok (.slice none 0 0) w := by kernel_rfl
    rw [V_eq this]
    exact hk _ Sl.nil (fun b hb => hb)
  | «at» b k n cap cs hr hn hc =>
    rw [V_eq (run_sliceLit slT_int h1 (by omega))]
    obtain ⟨c, t, fz, hb, he⟩ := hr
    refine hk _ ?_ (fun b' hb' => by split at hb' <;> exact hb')
    split
    · rename_i hcl
      have : hi = lo := by omega
      subst this
      simp only [Nat.sub_self, List.take_zero]
      exact .at _ _ _ _ _ ⟨c, t, fz, hb, by simp⟩ (by simp) (by omega)
    · refine .at _ _ _ _ _ ⟨c, t, fz, hb, ?_⟩ ?_ (by omega)
      · have hlen : ((cs.drop lo).take (hi - lo)).length = hi - lo := by simp; omega
        rw [hlen, Nat.mul_one]
        conv => rhs; rw [← he]
        rw [List.drop_take, List.drop_drop, List.take_take]
        congr 1; omega
      · simp; omega
theorem c_Csr_row {w : World} {c n : Nat} {l : List NE} (hc : CsrAt w c n l) (hn : n ≤ 4096) (hl : l.length ≤ 20000) {v : Nat} (hv : v < n) {K : Value → World → Prop}
    (h : ∀ w' s, Up w w' → Sl w' 1 s (rowE l v).length ((rowE l v).map N) → K (.tuple #[s, .nilIface]) w') : CallF pg n_csr_Csr_row [ptr c 0, N v] w K := by
  apply ln_csr_Csr_row
  have e1 : ¬ n ≤ v := by omega
  simp only [sh_csr_Csr_row, EqNil_p1, IfV_false, Bin_lss_N, Nat.not_lt_zero, decide_false]
  refine c_Csr_Nodes hc hn ?_
  have hcd := hc.Up ((Up.refl w).drew)
  obtain ⟨vb, vt, h1, h2, h3⟩ := hcd
  have b1 := begE_le l (v + 1)
  simp (disch := omega) only [Bin_geq_N, e1, decide_false, IfV_false, Drew, NilCk_ptr, FA_ptr, Nat.zero_add, h1.ld (k := 0) rfl, h1.ld (k := 1) rfl, true_and]
  refine h2.ix1 (rangeN_get (show v < n + 1 by omega)) fun p => ⟨rfl, ?_⟩
  simp (disch := omega) only [h1.ld (k := 0) rfl, true_and, Bin_add_N]
  refine h2.ix1 (rangeN_get (show v + 1 < n + 1 by omega)) fun p => ⟨rfl, ?_⟩
  refine Sl.sub h3 (begE_mono l v) b1 fun s hs _ => ⟨rfl, h _ s (Up.refl w).drew ?_⟩
  rw [rowE_length]
  have e : ((l.map fun e => N e.2).drop (begE l v)).take (begE l (v + 1) - begE l v) = (rowE l v).map N := by
    simp only [rowE, ← List.map_drop, ← List.map_take, List.map_map]; rfl
  rw [← e]; exact hs
theorem plain_N (l : List Nat) : (l.map N).all plainV = true := by
  rw [List.all_eq_true]; intro x hx; obtain ⟨n, _, rfl⟩ := List.mem_map.1 hx; rfl
theorem c_Csr_Targets {w : World} {c n : Nat} {l : List NE} (hc : CsrAt w c n l) (hn : n ≤ 4096) (hl : l.length ≤ 20000) {v : Nat} (hv : v < n) {K : Value → World → Prop}
    (h : ∀ w' s, Up w w' → Own w' (sz w) 3 1 s (rowE l v).length ((rowE l v).map N) → K (.tuple #[s, .nilIface]) w') : CallF pg n_csr_Csr_Targets [ptr c 0, N v] w K := by
  apply ln_csr_Csr_Targets
  simp only [sh_csr_Csr_Targets]
  refine c_Csr_row hc hn hl hv fun w1 s u1 hs => ?_
  simp only [Ext_0, Ext_1]
  have := rowE_length l v
  have := begE_le l (v + 1)
  refine c_Clone_int hs (plain_N _) (by omega) fun s2 w2 u2 ho => ?_
  exact h _ _ (u1.trans u2) (ho.mono u1.size)
end Go.Proofs.Tryz

namespace Go.Proofs.Tryz
open Go Go.Lad
set_option autoImplicit false
set_option maxRecDepth 100000
set_option linter.unusedSimpArgs false
set_option linter.unusedVariables false

theorem c_gap_may {n v : Nat} (hn : n ≤ 4096) (hv : v < n) {w : World} {K : Value → World → Prop} (h : K .nilIface w) : CallF pg n_gap_may [N n, N v] w K := by
  apply ln_gap_may
  have e1 : ¬ 4096 < n := by omega
  have e2 : ¬ n ≤ v := by omega
  simp only [sh_gap_may, sh_gap_may_j1, Bin_lss_N, Nat.not_lt_zero, decide_false, IfV_false, Bin_gtr_N, e1, Bin_geq_N, e2]
  exact h
theorem c_gap_wrong {i c : Nat} {w : World} {K : Value → World → Prop} (h : K (eFault i c) w) : CallF pg n_gap_wrong [N i, eErr c] w K := by
  apply ln_gap_wrong
  have : (Instr.build ty_api_Fault [(0, N i), (1, eErr c)].toArray).run pg w = .ok (.agg #[N i, eErr c]) w := by kernel_rfl
  simp only [sh_gap_wrong, V_eq this]
  exact h
/-- a row's bytes: one target's -/
def gapP (v : Nat) (l : List Nat) (i : Nat) : List UInt8 :=
  if i = 0 then shortL (turnN ((l.getD 0 0 : Int) - v)) else shortL (l.getD i 0 - l.getD (i - 1) 0 - 1)
def gapF (v : Nat) (l : List Nat) : Nat → List UInt8
  | 0 => []
  | k + 1 => gapF v l k ++ gapP v l k
/-- a row's bytes -/
def gapL (v : Nat) (l : List Nat) : List UInt8 := shortL l.length ++ gapF v l l.length
/-- a row of a graph of n nodes -/
structure RowOk (n : Nat) (l : List Nat) : Prop where
  lt : ∀ t ∈ l, t < n
  up : ∀ i, i + 1 < l.length → l.getD i 0 < l.getD (i + 1) 0
theorem RowOk.get {n : Nat} {l : List Nat} (h : RowOk n l) (i : Nat) (hi : i < l.length) : l.getD i 0 < n := by
  rw [List.getD_eq_getElem?_getD, List.getElem?_eq_getElem hi]; exact h.lt _ (List.getElem_mem _)
theorem gapP_length {n : Nat} {l : List Nat} (h : RowOk n l) (hn : n ≤ 4096) (v : Nat) (hv : v < n) (i : Nat) (hi : i < l.length) : (gapP v l i).length ≤ 8 := by
  unfold gapP
  split
  · have := h.get 0 (by omega)
    refine shortL_le ?_
    unfold turnN; split <;> omega
  · have := h.get i hi
    exact shortL_le (by omega)
theorem gapF_length {n : Nat} {l : List Nat} (h : RowOk n l) (hn : n ≤ 4096) (v : Nat) (hv : v < n) (k : Nat) (hk : k ≤ l.length) : (gapF v l k).length ≤ 8 * k := by
  induction k with
  | zero => simp [gapF]
  | succ k ih =>
    have := ih (by omega)
    have := gapP_length h hn v hv k (by omega)
    simp only [gapF, List.length_append]; omega
theorem gapL_length {n : Nat} {l : List Nat} (h : RowOk n l) (hn : n ≤ 4096) (v : Nat) (hv : v < n) (hl : l.length ≤ 20000) : (gapL v l).length ≤ 8 + 8 * l.length := by
  have h1 := shortL_le (n := l.length) (by omega)
  have h2 := gapF_length h hn v hv l.length (Nat.le_refl _)
  simp only [gapL, List.length_append]; omega
theorem getN {l : List Nat} {i : Nat} (h : i < l.length) : (l.map N)[i]? = some (N (l.getD i 0)) := by
  simp [List.getElem?_eq_getElem h]
theorem Bin_subI {a b : Nat} {K1 : Value → Prop} (ha : a < 1099511627776 ∧ b < 1099511627776) : Bin .sub .i64 (N a) (N b) K1 = K1 (I ((a : Int) - b)) := by
  unfold N; rw [Bin_sub, wrap64 (by omega)]
theorem c_gap_Put {n v : Nat} {l : List Nat} {s : Value} {w : World} (hs : Sl w 1 s l.length (l.map N)) (hn : n ≤ 4096) (hv : v < n) (hr : RowOk n l) (hl : l.length ≤ 20000) {K : Value → World → Prop}
    (h : ∀ w', Up w w' → K (.tuple #[Str (gapL v l), .nilIface]) w') : CallF pg n_gap_Put [N n, N v, s] w K := by
  apply ln_gap_Put
  simp only [sh_gap_Put]
  refine c_gap_may hn hv ?_
  simp only [NeNil_i0, IfV_false]
  rw [hs.lenL]
  refine LoopV_of (fun xs w' => w' = w ∧ ∃ (i : Nat) (last : Int), xs = [N n, N v, s, I last, s, N l.length, N i] ∧ i ≤ l.length ∧ last = (if i = 0 then -1 else (l.getD (i - 1) 0 : Int))) (fun xs _ => l.length - natOf (xs.getD 6 undef)) ⟨rfl, 0, -1, rfl, by omega, rfl⟩ ?_
  rintro k1 T w1 ⟨rfl, i, last, hT, hi, hla⟩ hk1
  simp only [temps, List.cons.injEq, and_true] at hT
  obtain ⟨g0, g1, g2, g9, g23, g24, g25⟩ := hT
  by_cases hlt : i < l.length
  · simp only [g0, g1, g2, g9, g23, g24, g25, Bin_lss_N, hlt, decide_true, IfV_true]
    refine hs.ix1 (getN hlt) fun p => ?_
    have e0 : ∀ K1 : Value → Prop, Bin .leq .i64 (N (l.getD i 0)) (I last) K1 = K1 (B (decide ((l.getD i 0 : Int) ≤ last))) := fun K1 => Bin_leq .i64 _ _
    have e1 : ¬ ((l.getD i 0 : Int) ≤ last) := by
      rw [hla]
      split
      · omega
      · have := hr.up (i - 1) (by omega)
        rw [show i - 1 + 1 = i by omega] at this; omega
    have e2 : ¬ n ≤ l.getD i 0 := by have := hr.get i hlt; omega
    simp (disch := omega) only [e0, e1, decide_false, IfV_false, Bin_geq_N, e2, Bin_add_N]
    refine hk1 _ _ ⟨rfl, i + 1, (l.getD i 0 : Int), rfl, by omega, ?_⟩ (by simp [temps, g25]; omega)
    simp
  · have hil : i = l.length := by omega
    subst hil
    simp only [g0, g1, g2, g9, g23, g24, g25, Bin_lss_N, hlt, decide_false, IfV_false]
    rw [hs.lenL]
    refine c_octet_PutShort (by omega) fun w2 u2 => ?_
    simp only [Ext_0, Ext_1]
    rw [hs.lenL]
    clear hk1 g0 g1 g2 g9 g23 g24 g25 T
    refine LoopV_of (fun xs w' => Up w1 w' ∧ ∃ (i : Nat), xs = [N v, s, Str (shortL l.length ++ gapF v l i), s, N l.length, N i] ∧ i ≤ l.length) (fun xs _ => l.length - natOf (xs.getD 5 undef)) ⟨u2, 0, by simp [gapF], by omega⟩ ?_
    rintro k2 T w3 ⟨u3, i, hT, hi⟩ hk2
    simp only [temps, List.cons.injEq, and_true] at hT
    obtain ⟨g1, g2, g12, g49, g50, g51⟩ := hT
    by_cases hlt : i < l.length
    · simp only [g1, g2, g12, g49, g50, g51, Bin_lss_N, hlt, decide_true, IfV_true]
      refine (hs.Up u3).ix1 (getN hlt) fun p => ?_
      have hb1 := shortL_le (n := l.length) (by omega)
      have hb2 := gapF_length hr hn v hv i hi
      have hb3 := gapP_length hr hn v hv i hlt
      have hgt := hr.get i hlt
      simp only [Bin_eql_N]
      by_cases h0 : i = 0
      · subst h0
        simp (disch := omega) only [decide_true, IfV_true, Bin_subI]
        refine c_octet_PutTurned (by omega) (by omega) fun w4 u4 => ?_
        simp (disch := omega) only [Ext_0, Ext_1, Bin_add_N]
        have hp : gapP v l 0 = shortL (turnN ((l.getD 0 0 : Int) - v)) := by simp [gapP]
        rw [← hp]
        rw [BinS_add _ _ (by simp only [List.length_append]; omega)]
        refine hk2 _ _ ⟨u3.trans u4, 0 + 1, ?_, by omega⟩ (by simp [temps, g51]; omega)
        simp [gapF]
      · simp (disch := omega) only [h0, decide_false, IfV_false, Bin_sub_N]
        refine (hs.Up u3).ix1 (getN (show i - 1 < l.length by omega)) fun p => ?_
        have hup := hr.up (i - 1) (by omega)
        rw [show i - 1 + 1 = i by omega] at hup
        simp (disch := omega) only [Bin_sub_N]
        refine c_octet_PutShort (by omega) fun w4 u4 => ?_
        simp (disch := omega) only [Ext_0, Ext_1, Bin_add_N]
        have hp : gapP v l i = shortL (l.getD i 0 - l.getD (i - 1) 0 - 1) := by simp [gapP, h0]
        rw [← hp]
        rw [BinS_add _ _ (by simp only [List.length_append]; omega)]
        refine hk2 _ _ ⟨u3.trans u4, i + 1, ?_, by omega⟩ (by simp [temps, g51]; omega)
        simp [gapF]
    · have hil : i = l.length := by omega
      subst hil
      simp only [g1, g2, g12, g49, g50, g51, Bin_lss_N, hlt, decide_false, IfV_false]
      exact h _ u3

/-! rows that are read -/
def rdCount (s : List UInt8) (at_ nodes : Nat) : Rd Nat :=
  match rdShort s at_ with
  | .bad p c => .bad p c
  | .ok n next => if nodes < n then .bad at_ 4 else .ok n next
theorem c_gap_count {s : List UInt8} {at_ n : Nat} (hs : s.length < 1099511627776) {w : World} {K : Value → World → Prop} (h : K ((rdCount s at_ n).val N (N 0) at_) w) : CallF pg n_gap_count [Str s, N at_, N n] w K := by
  apply ln_gap_count
  simp only [sh_gap_count]
  refine c_octet_Short hs ?_
  unfold rdCount at h
  cases hr : rdShort s at_ with
  | bad p c => rw [hr] at h; simpa [Rd.val] using h
  | ok x next =>
    rw [hr] at h
    simp only [Rd.val, Ext_0, Ext_1, Ext_2, NeNil_i0, IfV_false, Bin_gtr_N] at h ⊢
    by_cases h1 : n < x
    · rw [if_pos h1] at h
      simp only [h1, decide_true, IfV_true]
      exact c_gap_wrong h
    · rw [if_neg h1] at h
      simp only [h1, decide_false, IfV_false]
      exact h
/-- a step along a row: the target, and the place behind -/
def rdStep (s : List UInt8) (at_ nodes now : Nat) (first : Bool) : Rd Nat :=
  match rdShort s at_ with
  | .bad p c => .bad p c
  | .ok x next =>
    let d : Int := if first then backI x else (x : Int) + 1
    if d < -(now : Int) ∨ (nodes : Int) - now ≤ d then .bad at_ 4 else .ok ((now : Int) + d).toNat next
theorem backI_lt {x : Nat} (h : x < 72057594037927936) : -72057594037927936 ≤ backI x ∧ backI x < 72057594037927936 := by unfold backI; split <;> omega
theorem run_neg (n : Nat) (h : n < 1099511627776) (w : World) : (Op.unary .neg (N n)).run pg w = .ok (I (-(n : Int))) w := by
  simp [Op.unary, N, Op.intArith, -N_cast]
  rw [wrap64 (by omega)]
theorem c_step_j1 {d : Int} {next at_ n now : Nat} {s : List UInt8} (hd : -72057594037927936 ≤ d ∧ d ≤ 72057594037927936) (hn : n ≤ 4096) (hnow : now < n) {r : Nat} {w : World} (hr : Arr w r ty_gap_reader [Str s, N at_, N n, N now]) {K : Value → World → Prop}
    (hbad : d < -(now : Int) ∨ (n : Int) - now ≤ d → ∀ w', Up w w' → K (eFault at_ 4) w')
    (hok : ¬ (d < -(now : Int) ∨ (n : Int) - now ≤ d) → ∀ w', Mod w w' (· = r) → Arr w' r ty_gap_reader [Str s, N next, N n, N ((now : Int) + d).toNat] → K .nilIface w') : sh_gap_reader_step_j1 (ptr r 0) (I d) (N next) .nilIface w K := by
  have hr1 : Arr w.drew r ty_gap_reader [Str s, N at_, N n, N now] := hr
  unfold sh_gap_reader_step_j1
  simp (disch := omega) only [NeNil_i0, IfV_false, Drew, NilCk_ptr, FA_ptr, Nat.zero_add, hr1.ld (k := 3) rfl, true_and, V_eq (run_neg now (by omega) _), Bin_lss]
  by_cases h1 : d < -(now : Int)
  · simp only [h1, decide_true, IfV_true, NilCk_ptr, FA_ptr, Nat.zero_add, hr1.ld (k := 1) rfl]
    exact c_gap_wrong (hbad (.inl h1) _ (Up.refl w).drew)
  · have e2 : ∀ K1 : Value → Prop, Bin .geq .i64 (I d) (N (n - now)) K1 = K1 (B (decide ((n : Int) - now ≤ d))) := by
      intro K1; unfold N; rw [Bin_geq]; rw [show ((n - now : Nat) : Int) = (n : Int) - now by omega]
    simp (disch := omega) only [h1, decide_false, IfV_false, NilCk_ptr, FA_ptr, Nat.zero_add, hr1.ld (k := 2) rfl, hr1.ld (k := 3) rfl, hr1.ld (k := 1) rfl, true_and, Bin_sub_N, e2]
    by_cases h2 : (n : Int) - now ≤ d
    · simp only [h2, decide_true, IfV_true]
      exact c_gap_wrong (hbad (.inr h2) _ (Up.refl w).drew)
    · have e3 : ∀ K1 : Value → Prop, Bin .add .i64 (N now) (I d) K1 = K1 (N ((now : Int) + d).toNat) := by
        intro K1; unfold N; rw [Bin_add, wrap64 (by omega), show (((now : Int) + d).toNat : Int) = (now : Int) + d by omega]
      simp only [h2, decide_false, IfV_false, e3]
      refine hr1.st rfl (by simp) fun w2 e4 hr2 => ?_
      refine hr2.st rfl (by simp) fun w3 e5 hr3 => ?_
      refine hok (by omega) _ ?_ hr3
      rw [e5]
      have m1 : Mod w w2 (· = r) := by rw [e4]; exact ((Up.refl w).drew.mod _).trans (Mod.put _ _ rfl)
      exact m1.trans (Mod.put _ _ rfl)
theorem c_gap_step {s : List UInt8} {at_ n now : Nat} {first : Bool} (hs : s.length < 1099511627776) (hn : n ≤ 4096) (hnow : now < n) {r : Nat} {w : World} (hr : Arr w r ty_gap_reader [Str s, N at_, N n, N now]) {K : Value → World → Prop}
    (hbad : ∀ p c, rdStep s at_ n now first = .bad p c → ∀ w', Up w w' → K (eFault p c) w')
    (hok : ∀ x next, rdStep s at_ n now first = .ok x next → ∀ w', Mod w w' (· = r) → Arr w' r ty_gap_reader [Str s, N next, N n, N x] → K .nilIface w') : CallF pg n_gap_reader_step [ptr r 0, B first] w K := by
  apply ln_gap_reader_step
  have hr1 : Arr w.drew r ty_gap_reader [Str s, N at_, N n, N now] := hr
  have sp := rdShort_spec s at_
  unfold rdStep at hbad hok
  cases first with
  | true =>
    simp only [sh_gap_reader_step, IfV_true, Drew, NilCk_ptr, FA_ptr, Nat.zero_add, hr1.ld (k := 0) rfl, hr1.ld (k := 1) rfl, true_and]
    refine c_octet_Turned hs ?_
    cases hq : rdShort s at_ with
    | bad p c =>
      rw [hq] at hbad
      simp only [Rd.val, Ext_0, Ext_1, Ext_2, true_and, sh_gap_reader_step_j1, NeNil_i1, IfV_true]
      exact hbad p c rfl _ (Up.refl w).drew
    | ok x next =>
      rw [hq] at hbad hok sp
      simp only [ShortOk] at sp
      simp only [Rd.val, Ext_0, Ext_1, Ext_2, true_and]
      have hb := backI_lt sp.1
      refine c_step_j1 ⟨hb.1, by omega⟩ hn hnow hr1 (fun h w' u => hbad at_ 4 ?_ w' ((Up.refl w).drew.trans u)) (fun h w' m a => hok _ next ?_ w' (((Up.refl w).drew.mod _).trans m) a)
      · simp only [if_true]; rw [if_pos h]
      · simp only [if_true]; rw [if_neg h]
  | false =>
    simp only [sh_gap_reader_step, IfV_false, Drew, NilCk_ptr, FA_ptr, Nat.zero_add, hr1.ld (k := 0) rfl, hr1.ld (k := 1) rfl, true_and]
    refine c_octet_Short hs ?_
    cases hq : rdShort s at_ with
    | bad p c =>
      rw [hq] at hbad
      simp (disch := omega) only [Rd.val, Ext_0, Ext_1, Ext_2, true_and, Bin_add_N, sh_gap_reader_step_j1, NeNil_i1, IfV_true]
      exact hbad p c rfl _ (Up.refl w).drew
    | ok x next =>
      rw [hq] at hbad hok sp
      simp only [ShortOk] at sp
      simp (disch := omega) only [Rd.val, Ext_0, Ext_1, Ext_2, true_and, Bin_add_N]
      have e : N (x + 1) = I ((x : Int) + 1) := by unfold N; norm_cast
      rw [e]
      refine c_step_j1 ⟨by omega, by omega⟩ hn hnow hr1 (fun h w' u => hbad at_ 4 ?_ w' ((Up.refl w).drew.trans u)) (fun h w' m a => hok _ next ?_ w' (((Up.refl w).drew.mod _).trans m) a)
      · simp only [Bool.false_eq_true, if_false]; rw [if_pos h]
      · simp only [Bool.false_eq_true, if_false]; rw [if_neg h]

/-- the targets behind a row's count -/
def rdT (s : List UInt8) (nodes : Nat) : Nat → Nat → Nat → Bool → List Nat → Rd (List Nat)
  | 0, at_, _, _, acc => .ok acc at_
  | k + 1, at_, now, first, acc =>
    match rdStep s at_ nodes now first with
    | .bad p c => .bad p c
    | .ok x next => rdT s nodes k next x false (acc ++ [x])
def rdRow (s : List UInt8) (at_ nodes v : Nat) : Rd (List Nat) :=
  match rdCount s at_ nodes with
  | .bad p c => .bad p c
  | .ok n next => rdT s nodes n next v true []
theorem rdStep_lt {s : List UInt8} {at_ nodes now x next : Nat} {first : Bool} (h : rdStep s at_ nodes now first = .ok x next) : x < nodes ∧ next ≤ s.length := by
  unfold rdStep at h
  have sp := rdShort_spec s at_
  cases hq : rdShort s at_ with
  | bad p c => rw [hq] at h; cases h
  | ok y nx =>
    rw [hq] at h sp
    simp only [ShortOk] at sp
    cases first <;> simp only [if_true, Bool.false_eq_true, if_false] at h <;> split at h <;> first | (cases h; done) | (cases h; omega)
theorem rdCount_ok {s : List UInt8} {at_ nodes x next : Nat} (h : rdCount s at_ nodes = .ok x next) : x ≤ nodes ∧ next ≤ s.length ∧ at_ < next := by
  unfold rdCount at h
  have sp := rdShort_spec s at_
  cases hq : rdShort s at_ with
  | bad p c => rw [hq] at h; cases h
  | ok y nx =>
    rw [hq] at h sp
    simp only [ShortOk] at sp
    simp only at h
    split at h
    · cases h
    · cases h; omega
theorem c_gap_Get {s : List UInt8} {at_ n v : Nat} (hs : s.length < 1099511627776) (hn : n ≤ 4096) (hv : v < n) {w : World} {K : Value → World → Prop}
    (hbad : ∀ p c, rdRow s at_ n v = .bad p c → ∀ w', Up w w' → K (.tuple #[.slice none 0 0, N at_, eFault p c]) w')
    (hok : ∀ l next, rdRow s at_ n v = .ok l next → ∀ w' sv, Up w w' → Own w' (sz w) 3 1 sv l.length (l.map N) → K (.tuple #[sv, N next, .nilIface]) w') : CallF pg n_gap_Get [Str s, N at_, N n, N v] w K := by
  apply ln_gap_Get
  simp only [sh_gap_Get]
  refine c_gap_may hn hv ?_
  simp only [NeNil_i0, IfV_false]
  refine c_gap_count hs ?_
  unfold rdRow at hbad hok
  cases hq : rdCount s at_ n with
  | bad p c =>
    rw [hq] at hbad
    simp only [Rd.val, Ext_0, Ext_1, Ext_2, NeNil_i1, IfV_true]
    exact hbad p c rfl _ (Up.refl w)
  | ok m next =>
    rw [hq] at hbad hok
    have hm := rdCount_ok hq
    simp only at hbad hok
    simp only [Rd.val, Ext_0, Ext_1, Ext_2, NeNil_i0, IfV_false]
    have eb : (Instr.build ty_gap_reader [(0, Str s), (1, N next), (2, N n), (3, N v)].toArray).run pg w = .ok (.agg #[Str s, N next, N n, N v]) w := by kernel_rfl
    rw [V_eq eb]
    refine New_of (cs := [Str s, N next, N n, N v]) fun w1 u1 hA1 hz1 => ?_
    generalize hr : sz w = r at hA1 ⊢
    refine LoopV_of (fun xs w' => ∃ (i at1 now : Nat) (first : Bool) (l : List Nat) (sv : Value), xs = [N at_, ptr r 0, sv, N m, N i] ∧ i ≤ m ∧ first = decide (i = 0) ∧ now < n ∧ l.length = i ∧ Up w w' ∧ Arr w' r ty_gap_reader [Str s, N at1, N n, N now] ∧ Own w' r 3 1 sv i (l.map N) ∧
        rdT s n m next v true [] = rdT s n (m - i) at1 now first l) (fun xs _ => m - natOf (xs.getD 4 undef)) ⟨0, next, v, true, [], _, rfl, by omega, rfl, hv, rfl, u1, hA1, Own.nil .., rfl⟩ ?_
    rintro k1 T w2 ⟨i, at1, now, first, l, sv, hT, hi, hf, hnow, hll, hu, hA, ho, he⟩ hk1
    simp only [temps, List.cons.injEq, and_true] at hT
    obtain ⟨g1, g15, g16, g46, g47⟩ := hT
    by_cases hlt : i < m
    · simp only [g1, g15, g16, g46, g47, Bin_lss_N, hlt, decide_true, IfV_true, Bin_eql_N]
      rw [show m - i = (m - (i + 1)) + 1 by omega, rdT] at he
      rw [← hf]
      refine c_gap_step hs hn hnow hA (fun p c hst w' u => ?_) (fun x nx hst w' md hA' => ?_)
      · rw [hst] at he
        simp only [NeNil_i1, IfV_true]
        exact hbad p c he w' (hu.trans u)
      · rw [hst] at he
        simp only at he
        have hA'' : Arr w' r ty_gap_reader ([Str s, N nx, N n] ++ [N x]) := hA'
        have hx := rdStep_lt hst
        have ho' : Own w' r 3 1 sv i (l.map N) := Own.up ho fun b hb hi => md.keep b hb (fun e => (Own.apart ho hA (by decide)) (e ▸ hi))
        have hu' : Up w w' := md.up hu (fun q hq => by rw [hq, ← hr]; exact Nat.le_refl _)
        simp only [NeNil_i0, IfV_false, NilCk_ptr, FA_ptr, Nat.zero_add, hA'.ld (k := 3) rfl]
        refine V_push (cs := [N x]) slT_int ho' rfl rfl rfl (Nat.le_of_lt hA'.lt) (by omega) (by omega) fun s2 v2 w3 ho3 hg3 => ?_
        simp (disch := omega) only [Bin_add_N]
        refine hk1 _ _ ⟨i + 1, nx, x, false, l ++ [x], v2, rfl, by omega, by simp, hx.1, by simp [hll], hu'.push hg3 ho' (by rw [hr]; exact Nat.le_refl _), arr_grown hA' hg3 (Own.apart ho' hA' (by decide)), ?_, he⟩ (by simp [temps, g47]; omega)
        simpa using ho3
    · have : i = m := by omega
      subst this
      have hAd : Arr w2.drew r ty_gap_reader [Str s, N at1, N n, N now] := hA
      simp only [g1, g15, g16, g46, g47, Bin_lss_N, hlt, decide_false, IfV_false, Drew, NilCk_ptr, FA_ptr, Nat.zero_add, hAd.ld (k := 1) rfl, true_and]
      rw [Nat.sub_self, rdT] at he
      subst hll
      exact hok _ _ he _ _ hu.drew (hr ▸ (show Own w2.drew _ _ _ _ _ _ from ho))
end Go.Proofs.Tryz

