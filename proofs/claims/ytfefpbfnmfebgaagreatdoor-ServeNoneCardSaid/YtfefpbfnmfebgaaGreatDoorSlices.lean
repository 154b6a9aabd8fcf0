/- Part of a proof (its text Slices): what is proved stands in the text Card. -/
import Derived.Test.YtfefpbfnmfebgaaGreatDoorBase
import Derived.Test.YtfefpbfnmfebgaaGreatDoorFormsC
set_option linter.all false
namespace Go.Proofs.Tryz
open Go Go.Lad
set_option autoImplicit false
set_option maxRecDepth 100000
set_option linter.unusedSimpArgs false

/-! structs of two ints: are they one -/
def fields2 (o : Option TypeDesc) : Option (List (Bool × TypeId × Nat)) :=
  match o with
  | some (.struct fs) => some (fs.toList.map fun f => (f.name == "_", f.type, f.offset))
  | _ => none
theorem two_of {α : Type} {l : List α} (h : l.length = 2) : ∃ a b, l = [a, b] := match l, h with | [a, b], _ => ⟨a, b, rfl⟩
theorem fields2_of {o : Option TypeDesc} {t1 t2 : TypeId} {o1 o2 : Nat} (h : fields2 o = some [(false, t1, o1), (false, t2, o2)]) :
    ∃ f1 f2 : Field, o = some (.struct #[f1, f2]) ∧ ¬ f1.name = "_" ∧ ¬ f2.name = "_" ∧ f1.type = t1 ∧ f2.type = t2 ∧ f1.offset = o1 ∧ f2.offset = o2 := by
  unfold fields2 at h
  split at h
  · rename_i fs
    obtain ⟨l⟩ := fs
    simp only [Option.some.injEq] at h
    have hl : l.length = 2 := by have := congrArg List.length h; simpa using this
    obtain ⟨f1, f2, rfl⟩ := two_of hl
    simp at h
    exact ⟨f1, f2, rfl, h.1.1, h.2.1, h.1.2.1, h.2.2.1, h.1.2.2, h.2.2.2⟩
  · cases h
theorem uint3 : pg.underlying 3 = some (.int .i64) := by kernel_rfl
theorem eq2I {t : TypeId} (hf : fields2 (pg.underlying t) = some [(false, 3, 0), (false, 3, 1)]) (hs : pg.stoodInHeld t = false) (a b c d : Int) (w : World) :
    (Op.equal t (.agg #[I a, I b]) (.agg #[I c, I d])).run pg w = .ok (decide (a = c ∧ b = d)) w := by
  obtain ⟨f1, f2, hu, h2, h4, h5, h6, h7, h8⟩ := fields2_of hf
  have e1 : ∀ (x y : Int) (k : Nat), (Op.equalIn (k + 1) 3 (I x) (I y)).run pg w = .ok (decide (x = y)) w := by
    intro x y k
    simp [Op.equalIn, run_underlying uint3, -N_cast]
    rfl
  have p1 : ∀ x y : Value, (part 3 #[x, y] 0).run pg w = .ok x w := by intro x y; simp [part, isAgg, run_underlying uint3]
  have p2 : ∀ x y : Value, (part 3 #[x, y] 1).run pg w = .ok y w := by intro x y; simp [part, isAgg, run_underlying uint3]
  have : Op.maxDepth = 9998 + 1 + 1 := rfl
  unfold Op.equal
  rw [this]
  rw [show Op.equalIn (9998 + 1 + 1) = Op.equalIn ((9998 + 1) + 1) from rfl]
  unfold Op.equalIn
  simp [run_underlying hu, hs, h2, h4, h5, h6, h7, h8, p1, p2, e1]
  by_cases ha : a = c <;> by_cases hb : b = d <;> simp [ha, hb]
theorem V_eq2I {t : TypeId} (hf : fields2 (pg.underlying t) = some [(false, 3, 0), (false, 3, 1)]) (hs : pg.stoodInHeld t = false) (hg : pg.eqGuardType pg.depth t = false) (a b c d : Int) (x y : Operand) (w : World) :
    (do eqGuard .eql t x y (.agg #[I a, I b]) (.agg #[I c, I d]); binOp .eql t (.agg #[I a, I b]) (.agg #[I c, I d])).run pg w = .ok (B (decide (a = c ∧ b = d))) w := by
  have e : (eqGuard .eql t x y (.agg #[I a, I b]) (.agg #[I c, I d])).run pg w = .ok () w := by
    simp [eqGuard, hg, program, Sem.run]
  rw [Sem.run_bind, e]
  simp only [Result.andThen_ok, binOp]
  simp [eq2I hf hs]
theorem V_ne2I {t : TypeId} (hf : fields2 (pg.underlying t) = some [(false, 3, 0), (false, 3, 1)]) (hs : pg.stoodInHeld t = false) (hg : pg.eqGuardType pg.depth t = false) (a b c d : Int) (x y : Operand) (w : World) :
    (do eqGuard .neq t x y (.agg #[I a, I b]) (.agg #[I c, I d]); binOp .neq t (.agg #[I a, I b]) (.agg #[I c, I d])).run pg w = .ok (B (!decide (a = c ∧ b = d))) w := by
  have e : (eqGuard .neq t x y (.agg #[I a, I b]) (.agg #[I c, I d])).run pg w = .ok () w := by
    simp [eqGuard, hg, program, Sem.run]
  rw [Sem.run_bind, e]
  simp only [Result.andThen_ok, binOp]
  simp [eq2I hf hs]
theorem fl_Edge : fields2 (pg.underlying ty_api_Edge) = some [(false, 3, 0), (false, 3, 1)] := by kernel_rfl
theorem si_Edge : pg.stoodInHeld ty_api_Edge = false := by kernel_rfl
theorem gt_Edge : pg.eqGuardType pg.depth ty_api_Edge = false := by kernel_rfl
end Go.Proofs.Tryz

namespace Go.Proofs.Tryz
open Go Go.Lad
set_option autoImplicit false
set_option maxRecDepth 100000
set_option linter.unusedSimpArgs false
set_option linter.unusedSectionVars false

theorem slT_Edge : SlT pg ty_s_api_Edge ty_api_Edge 2 16 [N 0, N 0] := ⟨by kernel_rfl, by kernel_rfl, rfl, by decide⟩
theorem slT_int : SlT pg ty_s_int 3 1 8 [N 0] := ⟨by kernel_rfl, by kernel_rfl, rfl, by decide⟩
theorem slT_string : SlT pg ty_s_string 9 1 16 [Str []] := ⟨by kernel_rfl, by kernel_rfl, rfl, by decide⟩
theorem slT_Shard : SlT pg ty_s_api_Shard ty_api_Shard 2 16 [N 0, N 0] := ⟨by kernel_rfl, by kernel_rfl, rfl, by decide⟩

section
variable {n : Nat} {v : Value} {cs : List Value} {w : World} {K : Value → World → Prop}
theorem c_Clone_Edge (hv : Sl w 2 v n cs) (hp : cs.all plainV = true) (hn : n ≤ 1099511627776) (h : ∀ v' w', Up w w' → Own w' (sz w) ty_api_Edge 2 v' n cs → K v' w') : CallF pg n_slices_Clone_Edge [v] w K :=
  ln_slices_Clone_Edge (V_clone slT_Edge hv hp (by omega) h)
theorem c_Clone_int (hv : Sl w 1 v n cs) (hp : cs.all plainV = true) (hn : n ≤ 1099511627776) (h : ∀ v' w', Up w w' → Own w' (sz w) 3 1 v' n cs → K v' w') : CallF pg n_slices_Clone_int [v] w K :=
  ln_slices_Clone_int (V_clone slT_int hv hp (by omega) h)
theorem c_Clone_string (hv : Sl w 1 v n cs) (hp : cs.all plainV = true) (hn : n ≤ 1099511627776) (h : ∀ v' w', Up w w' → Own w' (sz w) 9 1 v' n cs → K v' w') : CallF pg n_slices_Clone_string [v] w K :=
  ln_slices_Clone_string (V_clone slT_string hv hp (by omega) h)
theorem c_Clone_Shard (hv : Sl w 2 v n cs) (hp : cs.all plainV = true) (hn : n ≤ 1099511627776) (h : ∀ v' w', Up w w' → Own w' (sz w) ty_api_Shard 2 v' n cs → K v' w') : CallF pg n_slices_Clone_Shard [v] w K :=
  ln_slices_Clone_Shard (V_clone slT_Shard hv hp (by omega) h)
end

/-! edges -/
/-- an edge's cells -/
def edgeC (e : Int × Int) : List Value := [I e.1, I e.2]
def edgesC (l : List (Int × Int)) : List Value := l.flatMap edgeC
theorem edgesC_at (l : List (Int × Int)) (i : Nat) (h : i < l.length) : ((edgesC l).drop (i * 2)).take 2 = edgeC l[i] := by
  induction l generalizing i with
  | nil => simp at h
  | cons e l ih =>
    cases i with
    | zero => simp [edgesC, edgeC]
    | succ i =>
      have h2 : i < l.length := by simpa using h
      have := ih i h2
      simp only [List.getElem_cons_succ, ← this]
      rw [show (i + 1) * 2 = i * 2 + 2 by omega]
      rfl
theorem edgesC_length (l : List (Int × Int)) : (edgesC l).length = l.length * 2 := by
  induction l with
  | nil => rfl
  | cons e l ih => simp only [edgesC, List.flatMap_cons, List.length_append] at ih ⊢; rw [ih]; simp [edgeC]; omega
theorem edgesC_append (a b : List (Int × Int)) : edgesC (a ++ b) = edgesC a ++ edgesC b := by simp [edgesC]
theorem edgesC_plain (l : List (Int × Int)) : (edgesC l).all plainV = true := by
  rw [List.all_eq_true]; intro x hx
  simp only [edgesC, List.mem_flatMap, edgeC, List.mem_cons, List.not_mem_nil, or_false] at hx
  obtain ⟨e, _, rfl | rfl⟩ := hx <;> rfl
theorem edgesC_take (l : List (Int × Int)) (i : Nat) : (edgesC l).take (i * 2) = edgesC (l.take i) := by
  by_cases h : i ≤ l.length
  · conv => lhs; rw [← List.take_append_drop i l, edgesC_append]
    rw [List.take_left' (by rw [edgesC_length, List.length_take, Nat.min_eq_left h])]
  · rw [List.take_of_length_le (by rw [edgesC_length]; omega), List.take_of_length_le (by omega)]
theorem edgesC_drop (l : List (Int × Int)) (i : Nat) : (edgesC l).drop (i * 2) = edgesC (l.drop i) := by
  by_cases h : i ≤ l.length
  · conv => lhs; rw [← List.take_append_drop i l, edgesC_append]
    rw [List.drop_left' (by rw [edgesC_length, List.length_take, Nat.min_eq_left h])]
  · rw [List.drop_eq_nil_of_le (by rw [edgesC_length]; omega), List.drop_eq_nil_of_le (by omega)]; rfl

/-! Compact -/
section
variable {α : Type} [DecidableEq α]
/-- one of equal ones that stand together -/
def compactFrom (a : α) : List α → List α
  | [] => []
  | b :: l => if b = a then compactFrom a l else b :: compactFrom b l
def compactL : List α → List α
  | [] => []
  | a :: l => a :: compactFrom a l
def lastFrom (a : α) : List α → α
  | [] => a
  | b :: l => lastFrom b l
theorem compactFrom_snoc (a b : α) (l : List α) : compactFrom a (l ++ [b]) = compactFrom a l ++ if b = lastFrom a l then [] else [b] := by
  induction l generalizing a with
  | nil => rfl
  | cons c l ih =>
    simp only [List.cons_append, compactFrom, lastFrom]
    split
    · rename_i hc; subst hc; rw [ih]; rfl
    · rw [ih, List.cons_append]; rfl
theorem lastFrom_eq (a : α) (l : List α) : lastFrom a l = (a :: l)[l.length]'(by simp) := by
  induction l generalizing a with
  | nil => rfl
  | cons c l ih => simp only [lastFrom, ih]; rfl
theorem compactL_take (l : List α) (m : Nat) (h1 : 1 ≤ m) (h2 : m < l.length) : compactL (l.take (m + 1)) = compactL (l.take m) ++ if l[m] = l[m - 1] then [] else [l[m]] := by
  have e : l.take (m + 1) = l.take m ++ [l[m]] := by rw [List.take_add_one, List.getElem?_eq_getElem h2]; rfl
  rw [e]
  have hlen : (l.take m).length = m := by simp; omega
  cases hl : l.take m with
  | nil => rw [hl] at hlen; simp at hlen; omega
  | cons a t =>
    have h3 : lastFrom a t = l[m - 1] := by
      rw [lastFrom_eq]
      rw [hl] at hlen
      simp only [List.length_cons] at hlen
      have h4 : (l.take m)[m - 1]? = l[m - 1]? := by rw [List.getElem?_take, if_pos (by omega)]
      rw [hl, List.getElem?_eq_getElem (show m - 1 < l.length by omega)] at h4
      have h5 : (a :: t)[t.length]? = some l[m - 1] := by rw [← h4]; congr 1; omega
      rw [List.getElem?_eq_getElem (by simp)] at h5
      exact Option.some.inj h5
    simp only [List.cons_append, compactL]
    rw [compactFrom_snoc, h3]
theorem compactFrom_length (a : α) (l : List α) : (compactFrom a l).length ≤ l.length := by
  induction l generalizing a with
  | nil => simp [compactFrom]
  | cons b l ih => simp only [compactFrom]; split <;> simp <;> (have := ih a; have := ih b; omega)
theorem compactL_length (l : List α) : (compactL l).length ≤ l.length := by
  cases l with
  | nil => simp [compactL]
  | cons a l => simpa [compactL] using compactFrom_length a l
theorem compactFrom_mem (a x : α) (l : List α) (h : x ∈ compactFrom a l) : x ∈ l := by
  induction l generalizing a with
  | nil => simp [compactFrom] at h
  | cons b l ih =>
    simp only [compactFrom] at h
    split at h
    · exact List.mem_cons_of_mem _ (ih a h)
    · simp only [List.mem_cons] at h ⊢
      rcases h with h | h
      · exact .inl h
      · exact .inr (ih b h)
theorem compactL_mem (x : α) (l : List α) (h : x ∈ compactL l) : x ∈ l := by
  cases l with
  | nil => simp [compactL] at h
  | cons a l => simp only [compactL, List.mem_cons] at h ⊢; rcases h with h | h
                · exact .inl h
                · exact .inr (compactFrom_mem a x l h)
end

theorem grown_up {w w' : World} (u : Up w w') (r : Option Nat) : w.grownBy w' r := ⟨u.os, u.tape, u.output, u.size, fun b hb _ => u.keep b hb⟩
theorem grown_put {w w1 w' : World} {g : Nat} (u : w.grownBy w1 (some g)) {o : Obj} (e : w' = putB w1 g o) : w.grownBy w' (some g) := by
  subst e
  exact ⟨u.os, u.tape, u.output, by show sz w ≤ sz (putB w1 g o); rw [sz_putB]; exact u.size, fun b hb hr => by
    show gb (putB w1 g o) b = _
    rw [gb_putB_ne (fun e => hr (by rw [e]))]; exact u.block b hb hr⟩
theorem grown_drew {w w1 : World} {r : Option Nat} (u : w.grownBy w1 r) : w.grownBy w1.drew r := ⟨u.os, u.tape, u.output, u.size, u.block⟩
theorem c_Compact_Edge {base : Nat} {v : Value} {n : Nat} {l : List (Int × Int)} {w : World} (ho : Own w base ty_api_Edge 2 v n (edgesC l)) (hn : n < 1099511627776) {K : Value → World → Prop}
    (h : ∀ v' w', Own w' base ty_api_Edge 2 v' (compactL l).length (edgesC (compactL l)) → w.grownBy w' v.ownBlock → K v' w') : CallF pg n_slices_Compact_Edge [v] w K := by
  apply ln_slices_Compact_Edge
  have hll : l.length = n := by have := ho.sl.len; rw [edgesC_length] at this; omega
  have gr : w.grownBy w v.ownBlock := ⟨rfl, rfl, rfl, Nat.le_refl _, fun _ _ _ => rfl⟩
  simp only [sh_slices_Compact_Edge]
  rw [ho.sl.lenL]
  simp only [Bin_lss_N]
  by_cases h2 : n < 2
  · simp only [h2, decide_true, IfV_true]
    have e : compactL l = l := by
      match l, hll with
      | [], _ => rfl
      | [a], _ => rfl
      | a :: b :: t, hll => simp at hll; omega
    rw [e, hll] at h
    exact h _ _ ho gr
  · simp only [h2, decide_false, IfV_false]
    obtain ⟨g, cap, tl, rfl, hb, ha, hc, hm, hcl, hxl⟩ := ho.out (by omega)
    refine LoopV_of (fun xs w' => ∃ i, Up w w' ∧ sz w' = sz w ∧ xs = [.slice (some ⟨g, 0, none⟩) n cap, N i] ∧ 1 ≤ i ∧ i ≤ n ∧ compactL (l.take i) = l.take i) (fun xs _ => n - natOf (xs.getD 1 undef))
      ⟨1, Up.refl w, rfl, rfl, by omega, by omega, ?_⟩ ?_
    · cases l with
      | nil => simp at hll; omega
      | cons a t => simp [compactL, compactFrom]
    rintro k1 T w1 ⟨i, hu, hz, hT, h1i, hi, hci⟩ hk1
    simp only [temps, List.cons.injEq, and_true] at hT
    obtain ⟨g0, g3⟩ := hT
    by_cases hlt : i < n
    · have hil : i < l.length := by omega
      have ha1 : Arr w1.drew g ty_api_Edge (edgesC l ++ tl) := Arr.up ha hu.drew
      have lde : ∀ (j : Nat) (hj : j < l.length) (w' : World) (K : Value → World → Prop), Arr w' g ty_api_Edge (edgesC l ++ tl) → K (.agg #[I l[j].1, I l[j].2]) w' → LdN (ptr g (0 + j * 2)) 2 w' K := by
        intro j hj w' K ha hK
        refine ha.ldN (by simp [edgesC_length]; omega) ?_
        rw [Nat.zero_add, List.drop_append_of_le_length (by rw [edgesC_length]; omega), List.take_append_of_le_length (by rw [List.length_drop, edgesC_length]; omega), edgesC_at l j hj]
        exact hK
      simp (disch := omega) only [g0, g3, LenL_N, Bin_lss_N, hlt, decide_true, IfV_true, Drew, Bin_sub_N, ixLit]
      refine lde i hil _ _ ha1 ⟨rfl, ?_⟩
      refine lde (i - 1) (by omega) _ _ ha1 ⟨rfl, ?_⟩
      rw [V_eq (V_eq2I fl_Edge si_Edge gt_Edge _ _ _ _ _ _ _)]
      refine ⟨rfl, ?_⟩
      have hcmp : decide (l[i].1 = l[i - 1].1 ∧ l[i].2 = l[i - 1].2) = decide (l[i] = l[i - 1]) := decide_eq_decide.2 Prod.ext_iff.symm
      rw [hcmp]
      have hct := compactL_take l i h1i hil
      by_cases heq : l[i] = l[i - 1]
      · -- the first one that is to go
        rw [if_pos heq, List.append_nil, hci] at hct
        simp (disch := omega) only [heq, decide_true, IfV_true]
        rw [V_eq (run_sliceLitFrom slT_Edge (by omega))]
        rw [if_neg (show ¬ cap = i by omega)]
        obtain ⟨cap2, hcap2⟩ : ∃ c, cap - i = c := ⟨_, rfl⟩
        rw [hcap2, show 0 + i * 2 = i * 2 by omega]
        -- what has been kept, and what has not been looked at
        refine LoopV_of (fun xs w' => ∃ (j k : Nat), xs = [.slice (some ⟨g, 0, none⟩) n cap, N k, .slice (some ⟨g, i * 2, none⟩) (n - i) cap2, N j] ∧ 1 ≤ j ∧ i + j ≤ n ∧ k < i + j ∧ (compactL (l.take (i + j))).length = k ∧
            Arr w' g ty_api_Edge (edgesC (compactL (l.take (i + j))) ++ (edgesC (l.drop k) ++ tl)) ∧ w.grownBy w' (some g)) (fun xs _ => n - i - natOf (xs.getD 3 undef)) ⟨1, i, rfl, by omega, by omega, by omega, ?_, ?_, ?_⟩ ?_
        · rw [hct]; simp; omega
        · rw [hct, ← List.append_assoc, ← edgesC_append, List.take_append_drop]; exact ha1
        · exact grown_up hu.drew _
        rintro k2 T2 w2 ⟨j, k, hT2, h1j, hj, hkj, hck, ha2, hg2⟩ hk2
        simp only [temps, List.cons.injEq, and_true] at hT2
        obtain ⟨t0, t3, t4, t5⟩ := hT2
        by_cases hlj : j < n - i
        · have ha3 : Arr w2.drew g ty_api_Edge (edgesC (compactL (l.take (i + j))) ++ (edgesC (l.drop k) ++ tl)) := ha2
          have lde2 : ∀ (q : Nat) (hq : q < l.length) (hkq : k ≤ q) (w' : World) (K : Value → World → Prop), Arr w' g ty_api_Edge (edgesC (compactL (l.take (i + j))) ++ (edgesC (l.drop k) ++ tl)) → K (.agg #[I l[q].1, I l[q].2]) w' → LdN (ptr g (q * 2)) 2 w' K := by
            intro q hq hkq w' K ha hK
            refine ha.ldN (by simp [edgesC_length]; omega) ?_
            have e1 : List.drop (q * 2) (edgesC (compactL (l.take (i + j))) ++ (edgesC (l.drop k) ++ tl)) = List.drop ((q - k) * 2) (edgesC (l.drop k) ++ tl) := by
              rw [List.drop_append, List.drop_eq_nil_of_le (by rw [edgesC_length]; omega), List.nil_append, edgesC_length, hck, ← Nat.sub_mul]
            have e2 : ((edgesC (l.drop k)).drop ((q - k) * 2)).take 2 = edgeC l[q] := by
              rw [edgesC_at _ _ (by simp; omega)]
              congr 1
              rw [List.getElem_drop]; congr 1; omega
            rw [e1, List.drop_append_of_le_length (by rw [edgesC_length, List.length_drop]; omega), List.take_append_of_le_length (by rw [List.length_drop, edgesC_length, List.length_drop]; omega), e2]
            exact hK
          simp (disch := omega) only [t0, t3, t4, t5, LenL_N, Bin_lss_N, hlj, decide_true, IfV_true, Drew, Bin_sub_N, ixLit]
          rw [show i * 2 + j * 2 = (i + j) * 2 by omega, show i * 2 + (j - 1) * 2 = (i + j - 1) * 2 by omega]
          refine lde2 (i + j) (by omega) (by omega) _ _ ha3 ⟨rfl, ?_⟩
          refine lde2 (i + j - 1) (by omega) (by omega) _ _ ha3 ⟨rfl, ?_⟩
          rw [V_eq (V_ne2I fl_Edge si_Edge gt_Edge _ _ _ _ _ _ _)]
          refine ⟨rfl, ?_⟩
          have hil2 : i + j < l.length := by omega
          have hcmp2 : decide (l[i + j].1 = l[i + j - 1].1 ∧ l[i + j].2 = l[i + j - 1].2) = decide (l[i + j] = l[i + j - 1]) := decide_eq_decide.2 Prod.ext_iff.symm
          rw [hcmp2]
          have hct2 := compactL_take l (i + j) (by omega) hil2
          by_cases hne : l[i + j] = l[i + j - 1]
          · rw [if_pos hne, List.append_nil] at hct2
            simp (disch := omega) only [hne, decide_true, Bool.not_true, IfV_false, Bin_add_N]
            refine hk2 _ _ ⟨j + 1, k, rfl, by omega, by omega, by omega, ?_, ?_, grown_drew hg2⟩ (by simp [temps, t5]; omega)
            · rw [← Nat.add_assoc, hct2]; exact hck
            · rw [← Nat.add_assoc, hct2]; exact ha3
          · rw [if_neg hne] at hct2
            simp (disch := omega) only [hne, decide_false, Bool.not_false, IfV_true]
            refine lde2 (i + j) hil2 (by omega) _ _ ha3 ?_
            refine Arr.stR (l := edgeC l[i + j]) ha3 rfl (by simp [edgesC_length]; omega) rfl fun w4 e4 ha4 => ?_
            simp (disch := omega) only [Bin_add_N]
            refine hk2 _ _ ⟨j + 1, k + 1, rfl, by omega, by omega, by omega, ?_, ?_, grown_put (grown_drew hg2) e4⟩ (by simp [temps, t5]; omega)
            · rw [← Nat.add_assoc, hct2]; simp [hck]
            · rw [← Nat.add_assoc, hct2]
              have e5 : (edgesC (compactL (l.take (i + j))) ++ (edgesC (l.drop k) ++ tl)).take (0 + k * 2) = edgesC (compactL (l.take (i + j))) := List.take_left' (by rw [edgesC_length, hck]; omega)
              have e6 : (edgesC (compactL (l.take (i + j))) ++ (edgesC (l.drop k) ++ tl)).drop (0 + k * 2 + 2) = edgesC (l.drop (k + 1)) ++ tl := by
                rw [List.drop_append, List.drop_eq_nil_of_le (by rw [edgesC_length]; omega), List.nil_append, edgesC_length, hck, show 0 + k * 2 + 2 - k * 2 = 1 * 2 by omega,
                  List.drop_append_of_le_length (by rw [edgesC_length, List.length_drop]; omega), edgesC_drop, List.drop_drop]
              rw [e5, e6] at ha4
              rw [edgesC_append, List.append_assoc]
              rw [List.append_assoc] at ha4
              have e7 : edgesC [l[i + j]] = edgeC l[i + j] := by simp [edgesC]
              rw [e7]; exact ha4
        · have hj' : i + j = n := by omega
          simp (disch := omega) only [t0, t3, t4, t5, LenL_N, Bin_lss_N, hlj, decide_false, IfV_false]
          rw [hj', List.take_of_length_le (by omega)] at hck ha2
          rw [V_eq (run_sliceLitFrom slT_Edge (by omega)), if_neg (show ¬ cap = k by omega)]
          have hlen2 : (edgesC (compactL l) ++ (edgesC (l.drop k) ++ tl)).length = cap * 2 := by
            rw [← hcl]; simp [edgesC_length, hck]; omega
          refine V_clearLit slT_Edge rfl ha2 (by rw [hlen2]; omega) fun w5 lz hlz he5 ha5 => ?_
          rw [V_eq (run_sliceLitTo slT_Edge (by omega))]
          have e8 : (edgesC (compactL l) ++ (edgesC (l.drop k) ++ tl)).take (0 + k * 2) = edgesC (compactL l) := List.take_left' (by rw [edgesC_length, hck]; omega)
          rw [e8, List.append_assoc] at ha5
          rw [hck] at h
          refine h _ _ (Own.of hb ha5 (by omega) hm ?_ (by rw [edgesC_length, hck])) ?_
          · simp only [List.length_append, hlz, List.length_drop, hlen2, edgesC_length, hck]; omega
          · rcases he5 with rfl | ⟨o, rfl⟩
            · exact hg2
            · exact grown_put hg2 rfl
      · rw [if_neg heq, hci] at hct
        simp (disch := omega) only [heq, decide_false, IfV_false, Bin_add_N]
        refine hk1 _ _ ⟨i + 1, hu.drew, hz, rfl, by omega, by omega, ?_⟩ (by simp [temps, g3]; omega)
        rw [hct, List.take_add_one, List.getElem?_eq_getElem hil]; rfl
    · have : i = n := by omega
      subst this
      simp (disch := omega) only [g0, g3, LenL_N, Bin_lss_N, hlt, decide_false, IfV_false]
      rw [List.take_of_length_le (by omega)] at hci
      rw [hci, hll] at h
      exact h _ _ (Own.of hb (Arr.up ha hu) hc hm hcl hxl) (grown_up hu _)
end Go.Proofs.Tryz

