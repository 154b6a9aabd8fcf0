/- Part of a proof (its text Frame): what is proved stands in the text Card. -/
import Derived.Test.YtfefpbfnmfebgaaGreatDoorSha
import Derived.Test.YtfefpbfnmfebgaaGreatDoorFormsB
import Derived.Test.YtfefpbfnmfebgaaGreatDoorMerkle
import Derived.Test.YtfefpbfnmfebgaaGreatDoorFormsA
set_option linter.all false
namespace Go.Proofs.Tryz
open Go Go.Lad
set_option autoImplicit false
set_option maxRecDepth 100000
set_option linter.unusedSimpArgs false

def ShortOk (lo hi : Nat) : Rd Nat → Prop
  | .ok y next => y < 72057594037927936 ∧ lo < next ∧ next ≤ hi
  | .bad _ c => c = 1 ∨ c = 3 ∨ c = 4
theorem shortFrom_spec (s : List UInt8) (at_ : Nat) : ∀ (fuel i x : Nat), at_ + i + fuel ≤ s.length → i ≤ 7 → x < 2 ^ (7 * i) → ShortOk at_ s.length (shortFrom s at_ fuel i x) := by
  intro fuel
  induction fuel with
  | zero => intro i x _ _ _; simp [shortFrom, ShortOk]
  | succ fuel ih =>
    intro i x h hi hx
    simp only [shortFrom]
    have hc := (bat s (at_ + i)).toNat_lt
    have hp : 2 ^ (7 * i) ≤ 2 ^ 49 := Nat.pow_le_pow_right (by omega) (by omega)
    have hb : (bat s (at_ + i)).toNat % 128 * 2 ^ (7 * i) ≤ 127 * 2 ^ (7 * i) := Nat.mul_le_mul_right _ (by omega)
    split
    · simp [ShortOk]
    · split
      · rename_i h1 h2
        have hi' : i ≤ 6 := by omega
        have e : 7 * (i + 1) = 7 * i + 7 := by omega
        have hx' : x + (bat s (at_ + i)).toNat % 128 * 2 ^ (7 * i) < 2 ^ (7 * (i + 1)) := by rw [e, Nat.pow_add]; omega
        exact ih (i + 1) _ (by omega) (by omega) hx'
      · split
        · simp [ShortOk]
        · simp only [ShortOk]; omega
theorem rdShort_spec (s : List UInt8) (at_ : Nat) : ShortOk at_ s.length (rdShort s at_) := by
  unfold rdShort
  split
  · exact shortFrom_spec s at_ (s.length - at_) 0 0 (by omega) (by omega) (by simp)
  · simp [ShortOk]

/-- a text that is read -/
def rdText (s : List UInt8) (at_ longest : Nat) : Rd (List UInt8) :=
  match rdShort s at_ with
  | .bad p c => .bad p c
  | .ok n from_ => if longest < n then .bad at_ 6 else if s.length - from_ < n then .bad s.length 3 else .ok ((s.drop from_).take n) (from_ + n)
theorem c_octet_Text {s : List UInt8} {at_ longest : Nat} (hs : s.length < 1099511627776) {w : World} {K : Value → World → Prop}
    (h : K ((rdText s at_ longest).val Str (Str []) at_) w) : CallF pg n_octet_Text [Str s, N at_, N longest] w K := by
  apply ln_octet_Text
  simp only [sh_octet_Text]
  refine c_octet_Short hs ?_
  have sp := rdShort_spec s at_
  unfold rdText at h
  cases hr : rdShort s at_ with
  | bad p c => rw [hr] at h; simpa [Rd.val] using h
  | ok n from_ =>
    rw [hr] at h sp
    simp only at h
    simp only [ShortOk] at sp
    simp only [Rd.val, Ext_0, Ext_1, Ext_2, NeNil_i0, IfV_false, Bin_gtr_N]
    by_cases h1 : longest < n
    · simp only [h1, decide_true, IfV_true]
      rw [if_pos h1] at h
      exact c_octet_fault h
    · rw [if_neg h1] at h
      simp (disch := omega) only [h1, decide_false, IfV_false, LenS_Str, Bin_sub_N, Bin_gtr_N]
      by_cases h2 : s.length - from_ < n
      · simp only [h2, decide_true, IfV_true]
        rw [if_pos h2] at h
        exact c_octet_fault h
      · rw [if_neg h2] at h
        simp (disch := omega) only [h2, decide_false, IfV_false, Bin_add_N]
        refine V_sliceStr un9 (by omega) (by omega) ?_
        rw [show from_ + n - from_ = n by omega]
        exact h
/-- a turned number that is read -/
theorem c_octet_Turned {s : List UInt8} {at_ : Nat} (hs : s.length < 1099511627776) {w : World} {K : Value → World → Prop}
    (h : K ((rdShort s at_).val (fun n => I (backI n)) (N 0) at_) w) : CallF pg n_octet_Turned [Str s, N at_] w K := by
  apply ln_octet_Turned
  simp only [sh_octet_Turned]
  refine c_octet_Short hs ?_
  have sp := rdShort_spec s at_
  cases hr : rdShort s at_ with
  | bad p c => rw [hr] at h; simpa [Rd.val] using h
  | ok n next =>
    rw [hr] at h sp
    simp only [ShortOk] at sp
    simp only [Rd.val, Ext_0, Ext_1, Ext_2, NeNil_i0, IfV_false] at h ⊢
    apply ln_octet_Back
    simp (disch := omega) only [sh_octet_Back, Bin_lss_N, Nat.not_lt_zero, decide_false, IfV_false, Bin_rem_N, Bin_eql_N, Bin_quo_N]
    by_cases h1 : n % 2 = 1
    · have e1 : (Op.unary .neg (N (n / 2))).run pg w = .ok (I (-((n / 2 : Nat) : Int))) w := by
        simp [Op.unary, N, Op.intArith, -N_cast]
        rw [wrap64 (by omega)]
      have e2 : ∀ K1 : Value → Prop, Bin .sub .i64 (I (-((n / 2 : Nat) : Int))) (N 1) K1 = K1 (I (backI n)) := by
        intro K1; unfold N; rw [Bin_sub, wrap64 (by omega)]; simp only [backI, h1, if_true]; rfl
      simp only [h1, decide_true, IfV_true, V_eq e1, e2]
      exact h
    · simp only [h1, decide_false, IfV_false]
      have : N (n / 2) = I (backI n) := by simp only [backI, h1, if_false]; rfl
      rw [this]; exact h
end Go.Proofs.Tryz

namespace Go.Proofs.Tryz
open Go Go.Lad
set_option autoImplicit false
set_option maxRecDepth 100000
set_option linter.unusedSimpArgs false

def crc1 (x : UInt32) : UInt32 := if x &&& 1 = 1 then (x >>> UInt32.ofNat 1) ^^^ 2197175160 else x >>> UInt32.ofNat 1
def crcN : Nat → UInt32 → UInt32
  | 0, x => x
  | n + 1, x => crcN n (crc1 x)
def crcStep (x : UInt32) (b : UInt8) : UInt32 := crcN 8 (x ^^^ UInt32.ofNat b.toNat)
def crcL (x : UInt32) (l : List UInt8) : UInt32 := l.foldl crcStep x
/-- frame.Sum -/
def sumL (l : List UInt8) : Nat := (~~~(crcL 4294967295 l)).toNat
theorem sumL_lt (l : List UInt8) : sumL l < 4294967296 := UInt32.toNat_lt _

theorem c_frame_step {x : UInt32} {b : UInt8} {w : World} {K : Value → World → Prop} (h : K (W (crcStep x b)) w) : CallF pg n_frame_step [W x, Y b] w K := by
  apply ln_frame_step
  simp only [sh_frame_step, cv_5_464, Bin_xor_W]
  refine LoopV_of (fun xs w' => w' = w ∧ ∃ (i : Nat) (y : UInt32), xs = [W y, N i] ∧ i ≤ 8 ∧ crcN (8 - i) y = crcStep x b) (fun xs _ => 8 - natOf (xs.getD 1 undef)) ⟨rfl, 0, _, rfl, by omega, rfl⟩ ?_
  rintro k1 T w1 ⟨rfl, i, y, hT, hi, he⟩ hk1
  simp only [temps, List.cons.injEq, and_true] at hT
  obtain ⟨g0, g10⟩ := hT
  by_cases hlt : i < 8
  · simp (disch := omega) only [g0, g10, Bin_lss_N, hlt, decide_true, IfV_true, Bin_and_W, Shf_shr_Wlit, Bin_eql_W]
    rw [show 8 - i = (8 - (i + 1)) + 1 by omega, crcN] at he
    by_cases h1 : y &&& 1 = 1
    · simp (disch := omega) only [h1, decide_true, IfV_true, Bin_xor_W, Bin_add_N]
      refine hk1 _ _ ⟨rfl, i + 1, _, rfl, by omega, ?_⟩ (by simp [temps, g10]; omega)
      rw [← he]; unfold crc1; rw [if_pos h1]
    · simp (disch := omega) only [h1, decide_false, IfV_false, Bin_add_N]
      refine hk1 _ _ ⟨rfl, i + 1, _, rfl, by omega, ?_⟩ (by simp [temps, g10]; omega)
      rw [← he]; unfold crc1; rw [if_neg h1]
  · have : i = 8 := by omega
    subst this
    simp only [g0, g10, Bin_lss_N, hlt, decide_false, IfV_false]
    rw [show y = crcStep x b from he]
    exact h

@[simp] theorem cv_464_3 {x : UInt32} {w : World} {K : Value → World → Prop} : V pg (convert ty_uint32 3 (W x)) w K = K (N x.toNat) w := by
  have := V_conv (P := pg) (w := w) (K := K) (src := ty_uint32) (dst := 3) (k := .i64) (j := .u32) (n := (x.toNat : Int)) (by kernel_rfl) (by kernel_rfl)
  have h := x.toNat_lt
  rw [i64_nat _ (by omega)] at this
  exact this

theorem c_frame_Sum {l : List (List UInt8)} {v : Value} {n : Nat} {w : World} (hv : Sl w 1 v n (l.map Str)) (hn : n < 1099511627776) (hl : ∀ s ∈ l, s.length < 1099511627776) {K : Value → World → Prop}
    (h : K (N (sumL l.flatten)) w) : CallF pg n_frame_Sum [v] w K := by
  apply ln_frame_Sum
  simp only [sh_frame_Sum]
  have hln : l.length = n := by have := hv.len; simpa using this
  rw [hv.lenL]
  refine LoopV_of (fun xs w' => w' = w ∧ ∃ (i : Nat), xs = [W (crcL 4294967295 (l.take i).flatten), v, N n, N i] ∧ i ≤ n) (fun xs _ => n - natOf (xs.getD 3 undef)) ⟨rfl, 0, rfl, by omega⟩ ?_
  rintro k1 T w1 ⟨rfl, i, hT, hi⟩ hk1
  simp only [temps, List.cons.injEq, and_true] at hT
  obtain ⟨g3, g7, g8, g9⟩ := hT
  by_cases hlt : i < n
  · simp only [g3, g7, g8, g9, Bin_lss_N, hlt, decide_true, IfV_true]
    have hget : (l.map Str)[i]? = some (Str l[i]) := by simp [List.getElem?_eq_getElem (show i < l.length by omega)]
    refine hv.ix1 hget fun p => ?_
    have hs := hl l[i] (List.getElem_mem _)
    have hfl : (l.take (i + 1)).flatten = (l.take i).flatten ++ l[i] := by
      rw [List.take_add_one, List.getElem?_eq_getElem (show i < l.length by omega)]
      simp only [Option.toList_some, List.flatten_append, List.flatten_cons, List.flatten_nil, List.append_nil]
    generalize l[i] = s at hfl hs
    simp only [LenS_Str]
    refine LoopV_of (fun xs w' => w' = w1 ∧ ∃ (j : Nat), xs = [W (crcL (crcL 4294967295 (l.take i).flatten) (s.take j)), Str s, v, N n, N i, N s.length, N j] ∧ j ≤ s.length) (fun xs _ => s.length - natOf (xs.getD 6 undef)) ⟨rfl, 0, rfl, by omega⟩ ?_
    rintro k2 T2 w2 ⟨rfl, j, hT, hj⟩ hk2
    simp only [temps, List.cons.injEq, and_true] at hT
    obtain ⟨t3, t5, t7, t8, t9, t14, t15⟩ := hT
    by_cases hlj : j < s.length
    · simp (disch := omega) only [t3, t5, t7, t8, t9, t14, t15, Bin_lss_N, hlj, decide_true, IfV_true, IxStr_N]
      refine c_frame_step ?_
      simp (disch := omega) only [Bin_add_N]
      refine hk2 _ _ ⟨rfl, j + 1, ?_, by omega⟩ (by simp [temps, t15]; omega)
      have hg : s[j]? = some (bat s j) := by simp [bat, List.getElem?_eq_getElem hlj]
      rw [List.take_add_one, hg, Option.toList_some]
      simp only [crcL, List.foldl_append, List.foldl_cons, List.foldl_nil]
    · simp (disch := omega) only [t3, t5, t7, t8, t9, t14, t15, Bin_lss_N, hlj, decide_false, IfV_false, Bin_add_N]
      have hts : s.take j = s := List.take_of_length_le (by omega)
      rw [hts]
      refine hk1 _ _ ⟨rfl, i + 1, ?_, by omega⟩ (by simp [temps, g9]; omega)
      rw [hfl]
      simp only [crcL, List.foldl_append]
  · have : i = n := by omega
    subst this
    simp only [g3, g7, g8, g9, Bin_lss_N, hlt, decide_false, IfV_false, V_eq (un_not _ _), cv_464_3]
    rw [List.take_of_length_le (by omega)]
    exact h

/-- a frame -/
def sealL (s : List UInt8) : List UInt8 := (fixedL 4 (sumL (fixedL 2 s.length ++ s)) ++ fixedL 2 s.length) ++ s
theorem c_frame_Seal {s : List UInt8} (hs : s.length ≤ 60000) {w : World} {K : Value → World → Prop} (h : ∀ w', Up w w' → K (.tuple #[Str (sealL s), .nilIface]) w') : CallF pg n_frame_Seal [Str s] w K := by
  apply ln_frame_Seal
  have h1 : ¬ 60000 < s.length := by omega
  simp only [sh_frame_Seal, LenS_Str, Bin_gtr_N, h1, decide_false, IfV_false]
  refine c_octet_PutFixed (by omega) (by omega) (by omega) fun w1 hu1 => ?_
  simp only [Ext_0, Ext_1]
  rw [V_eq bs38_2]
  have hf := fixedL_length 2 s.length
  have hf4 := fixedL_length 4 (sumL (fixedL 2 s.length ++ s))
  refine c_frame_Sum (l := [fixedL 2 s.length, s]) (n := 2) (Sl.fresh rfl) (by omega) (by intro q hq; simp at hq; rcases hq with rfl | rfl <;> omega) ?_
  have e : [fixedL 2 s.length, s].flatten = fixedL 2 s.length ++ s := by simp
  rw [e]
  have hlt := sumL_lt (fixedL 2 s.length ++ s)
  refine c_octet_PutFixed (by omega) (by omega) (by omega) fun w2 hu2 => ?_
  simp only [Ext_0, Ext_1]
  rw [BinS_add _ _ (by omega), BinS_add _ _ (by simp; omega)]
  exact h _ ((hu1.trans ((Up.refl _).alloc _)).trans hu2)
end Go.Proofs.Tryz

namespace Go.Proofs.Tryz
open Go Go.Lad
open Go.RowKit (Below)
set_option autoImplicit false
set_option maxRecDepth 100000
set_option linter.unusedSimpArgs false

def countN (total : Nat) : Nat := if total < 1 then 0 else (total - 1) / 64 + 1
def sizeN (total i : Nat) : Nat := if countN total ≤ i then 0 else min 64 (total - i * 64)
theorem c_block_Count {n : Nat} (hn : n < 1099511627776) {w : World} {K : Value → World → Prop} (h : K (N (countN n)) w) : CallF pg n_block_Count [N n] w K := by
  apply ln_block_Count
  unfold countN at h
  simp only [sh_block_Count, Bin_lss_N]
  by_cases h1 : n < 1
  · rw [if_pos h1] at h; simpa [h1] using h
  · rw [if_neg h1] at h
    simp (disch := omega) only [h1, decide_false, IfV_false, Bin_sub_N, Bin_quo_N, Bin_add_N]
    exact h
theorem countN_mul {n i : Nat} (h : i < countN n) : i * 64 < n := by
  unfold countN at h; split at h <;> omega
theorem min_N {a b : Nat} {w : World} : (Builtin.min_ #[3, 3] 3 [N a, N b].toArray).run pg w = .ok (N (min a b)) w := by
  unfold N
  by_cases h : (b : Int) < a
  · have : min a b = b := by omega
    simp [Builtin.min_, Builtin.min2, h, this, -N_cast]
  · have : min a b = a := by omega
    simp [Builtin.min_, Builtin.min2, h, this, -N_cast]
theorem c_block_Size {n i : Nat} (hn : n < 1099511627776) {w : World} {K : Value → World → Prop} (h : K (N (sizeN n i)) w) : CallF pg n_block_Size [N n, N i] w K := by
  apply ln_block_Size
  unfold sizeN at h
  simp only [sh_block_Size, Bin_lss_N, Nat.not_lt_zero, decide_false, IfV_false]
  refine c_block_Count hn ?_
  simp only [Bin_geq_N]
  by_cases h1 : countN n ≤ i
  · rw [if_pos h1] at h; simpa [h1] using h
  · rw [if_neg h1] at h
    have := countN_mul (n := n) (i := i) (by omega)
    simp (disch := omega) only [h1, decide_false, IfV_false, Bin_mul_N, Bin_sub_N, V_eq min_N]
    exact h

/-- strings.Join without a word between -/
theorem c_Join {l : List (List UInt8)} {v : Value} {n : Nat} {w : World} (hv : Sl w 1 v n (l.map Str)) (hn : n < 1099511627776) (hl : l.flatten.length < 1099511627776) {K : Value → World → Prop}
    (h : ∀ w', Up w w' → K (Str l.flatten) w') : CallF pg n_strings_Join [v, Str []] w K := by
  apply ln_strings_Join
  have hln : l.length = n := by have := hv.len; simpa using this
  simp only [sh_strings_Join]
  rw [hv.lenL]
  simp only [Bin_eql_N]
  have hlast : ∀ i, (l.take i).flatten.length ≤ l.flatten.length := by
    intro i
    conv => rhs; rw [← List.take_append_drop i l, List.flatten_append, List.length_append]
    omega
  have hstep : ∀ i (hi : i < l.length), (l.take (i + 1)).flatten = (l.take i).flatten ++ l[i] := by
    intro i hi
    rw [List.take_add_one, List.getElem?_eq_getElem hi]
    simp only [Option.toList_some, List.flatten_append, List.flatten_cons, List.flatten_nil, List.append_nil]
  by_cases h0 : n = 0
  · have : l = [] := List.eq_nil_of_length_eq_zero (by omega)
    subst this
    simp only [h0, decide_true, IfV_true]
    exact h _ (Up.refl w)
  · by_cases h1 : n = 1
    · simp only [h1, show ¬ (1 = 0) from by omega, decide_false, IfV_false, decide_true, IfV_true]
      obtain ⟨x, rfl⟩ := List.length_eq_one_iff.1 (hln.trans h1)
      refine hv.ix1 (i := 0) (x := Str x) rfl fun p => ?_
      have := h _ (Up.refl w)
      simpa using this
    · simp only [h0, h1, decide_false, IfV_false, LenS_Str, List.length_nil, Bin_gtr_N, Nat.lt_irrefl]
      unfold sh_strings_Join_j1
      rw [hv.lenL]
      refine LoopV_of (fun xs w' => w' = w ∧ ∃ i, xs = [v, Str [], N (l.take i).flatten.length, v, N n, N i] ∧ i ≤ n) (fun xs _ => n - natOf (xs.getD 5 undef)) ⟨rfl, 0, rfl, by omega⟩ ?_
      rintro k1 T w1 ⟨rfl, i, hT, hi⟩ hk1
      simp only [temps, List.cons.injEq, and_true] at hT
      obtain ⟨g0, g1, g5, g39, g40, g41⟩ := hT
      by_cases hlt : i < n
      · simp only [g0, g1, g5, g39, g40, g41, Bin_lss_N, hlt, decide_true, IfV_true]
        have hget : (l.map Str)[i]? = some (Str l[i]) := by simp [List.getElem?_eq_getElem (show i < l.length by omega)]
        refine hv.ix1 hget fun p => ?_
        have e1 := hstep i (by omega)
        have e2 := hlast (i + 1)
        rw [e1, List.length_append] at e2
        have h3 : ¬ 9223372036854775807 - (l.take i).flatten.length < l[i].length := by omega
        simp (disch := omega) only [LenS_Str, Bin_sub_N, Bin_gtr_N, h3, decide_false, IfV_false, Bin_add_N]
        refine hk1 _ _ ⟨rfl, i + 1, ?_, by omega⟩ (by simp [temps, g41]; omega)
        rw [e1, List.length_append]
      · have hin : i = n := by omega
        subst hin
        simp only [g0, g1, g5, g39, g40, g41, Bin_lss_N, hlt, decide_false, IfV_false]
        rw [List.take_of_length_le (by omega)]
        refine New_of fun w2 u2 A2 z2 => ?_
        have hbs : sz w1 ≤ w2.heap.size := u2.size
        refine Calls.mono (Tryz.Builder_Grow_fresh (sz w1) (sz w1) l.flatten.length w2 (Nat.le_refl _) A2 hbs (by omega)) ?_
        rintro e w3 ⟨rfl, hB3, hw3⟩
        simp only
        have hu3 : Up w1 w3 := ex_of_below (u2.below.trans hw3)
        have hl0 : 0 < l.length := by omega
        have hget : (l.map Str)[0]? = some (Str l[0]) := by simp [List.getElem?_eq_getElem hl0]
        refine (hv.Up hu3).ix1 hget fun p => ?_
        have e1 := hstep 0 hl0
        have e2 := hlast 1
        simp only [List.take_zero, List.flatten_nil, List.nil_append, Nat.zero_add] at e1
        rw [e1] at e2
        have hB3' : IsB (sz w1) (sz w1) [] w3 := .inr hB3
        refine c_WriteString hB3' hu3.size (by simp; omega) fun w4 hB4 hw4 => ?_
        have hu4 : Up w1 w4 := ex_of_below (hu3.below.trans hw4)
        have hT38 : SlT pg ty_s_string 9 1 16 [Str []] := st_38
        refine V_sliceSlFrom hT38 (hv.Up hu4) (a := 1) (by omega) fun v' hv' hin => ?_
        rw [hv'.lenL]
        rw [List.nil_append, ← e1] at hB4
        refine LoopV_of (fun xs w' => ∃ j, xs = [Str [], ptr (sz w1) 0, v', N (i - 1), N j] ∧ j ≤ i - 1 ∧ IsB (sz w1) (sz w1) ((l.take (j + 1)).flatten) w' ∧ Up w1 w' ∧ Sl w' 1 v' (i - 1) ((l.map Str).drop (1 * 1)))
          (fun xs _ => i - natOf (xs.getD 4 undef)) ⟨0, rfl, by omega, hB4, hu4, hv'⟩ ?_
        rintro k2 T2 w5 ⟨j, hT, hj, hB5, hu5, hv5⟩ hk2
        simp only [temps, List.cons.injEq, and_true] at hT
        obtain ⟨t1, t8, t63, t64, t65⟩ := hT
        by_cases hlj : j < i - 1
        · simp only [t1, t8, t63, t64, t65, Bin_lss_N, hlj, decide_true, IfV_true]
          have hget : ((l.map Str).drop (1 * 1))[j]? = some (Str l[j + 1]) := by
            rw [List.getElem?_drop]; simp [List.getElem?_eq_getElem (show 1 + j < l.length by omega), Nat.add_comm 1 j]
          refine hv5.ix1 hget fun p => ?_
          have e3 := hstep (j + 1) (by omega)
          have e4 := hlast (j + 1 + 1)
          rw [e3, List.length_append] at e4
          refine c_WriteString hB5 hu5.size (by show _ + 0 ≤ _; omega) fun w6 hB6 hw6 => ?_
          rw [List.append_nil] at hB6
          have hu6 : Up w1 w6 := ex_of_below (hu5.below.trans hw6)
          refine c_WriteString hB6 hu6.size (by omega) fun w7 hB7 hw7 => ?_
          have hu7 : Up w1 w7 := ex_of_below (hu6.below.trans hw7)
          simp (disch := omega) only [Bin_add_N]
          rw [← e3] at hB7
          refine hk2 _ _ ⟨j + 1, rfl, by omega, hB7, hu7, ?_⟩ (by simp [temps, t65]; omega)
          exact hv5.up fun q _ hq => (hw6.trans hw7).block q (hv.lt (hin q hq))
        · simp only [t1, t8, t63, t64, t65, Bin_lss_N, hlj, decide_false, IfV_false]
          rw [List.take_of_length_le (by omega)] at hB5
          exact c_Builder_String hB5 hu5.size fun w6 hw6 => h _ (ex_of_below (hu5.below.trans hw6))

/-- bytes, cut in blocks -/
def blockAt (all : List UInt8) (i : Nat) : List UInt8 := (all.drop (i * 64)).take (sizeN all.length i)
def blocksL (all : List UInt8) : Nat → List (List UInt8)
  | 0 => []
  | n + 1 => blocksL all n ++ [blockAt all n]
theorem blocksL_length (all : List UInt8) (n : Nat) : (blocksL all n).length = n := by induction n with | zero => rfl | succ n ih => simp [blocksL, ih]
def cutL (all : List UInt8) : List (List UInt8) := blocksL all (countN all.length)
theorem c_block_Cut {l : List (List UInt8)} {v : Value} {n : Nat} {w : World} (hv : Sl w 1 v n (l.map Str)) (hn : n < 1099511627776) (hl : l.flatten.length < 1073741824) {K : Value → World → Prop}
    (h : ∀ w' v', Up w w' → Own w' (sz w) 9 1 v' (cutL l.flatten).length ((cutL l.flatten).map Str) → K v' w') : CallF pg n_block_Cut [v] w K := by
  apply ln_block_Cut
  simp only [sh_block_Cut]
  refine c_Join hv hn (by omega) fun w1 hu1 => ?_
  simp only [LenS_Str]
  refine c_block_Count (by omega) ?_
  unfold cutL at h
  generalize l.flatten = all at h hl ⊢
  have hcn : countN all.length ≤ all.length := by unfold countN; split <;> omega
  generalize hc : countN all.length = c at h hcn ⊢
  rw [blocksL_length] at h
  refine LoopV_of (fun xs w' => ∃ (vo : Value) (i : Nat), xs = [Str all, vo, N c, N i] ∧ i ≤ c ∧ Up w w' ∧ Own w' (sz w) 9 1 vo i ((blocksL all i).map Str)) (fun xs _ => c - natOf (xs.getD 3 undef)) ⟨_, 0, rfl, by omega, hu1, Own.nil ..⟩ ?_
  rintro k1 T w2 ⟨vo, i, hT, hi, hu, ho⟩ hk1
  simp only [temps, List.cons.injEq, and_true] at hT
  obtain ⟨g3, g4, g10, g11⟩ := hT
  by_cases hlt : i < c
  · have hm := countN_mul (n := all.length) (i := i) (by omega)
    have hsz : sizeN all.length i = min 64 (all.length - i * 64) := by unfold sizeN; rw [if_neg (by omega)]
    simp (disch := omega) only [g3, g4, g10, g11, Bin_lss_N, hlt, decide_true, IfV_true, Bin_mul_N, LenS_Str]
    refine c_block_Size (by omega) ?_
    have hle : i * 64 + sizeN all.length i ≤ all.length := by rw [hsz]; omega
    simp (disch := omega) only [Bin_add_N]
    refine V_sliceStr un9 (by omega) hle ?_
    rw [show i * 64 + sizeN all.length i - i * 64 = sizeN all.length i by omega]
    refine V_push (cs := [Str (blockAt all i)]) st_38 ho rfl rfl rfl hu.size (by omega) (by omega) fun s v2 w3 ho3 hg3 => ?_
    refine hk1 _ _ ⟨v2, i + 1, rfl, by omega, hu.push hg3 ho (Nat.le_refl _), ?_⟩ (by simp [temps, g11]; omega)
    simpa only [blocksL, List.map_append, List.map_cons, List.map_nil] using ho3
  · have : i = c := by omega
    subst this
    simp only [g3, g4, g10, g11, Bin_lss_N, hlt, decide_false, IfV_false]
    exact h _ _ hu ho
end Go.Proofs.Tryz

namespace Go.Proofs.Tryz
open Go Go.Lad
set_option autoImplicit false
set_option maxRecDepth 100000
set_option linter.unusedSimpArgs false
set_option linter.unusedVariables false

/-- the next frame -/
def rdFrame (s : List UInt8) (at_ : Nat) : Rd (List UInt8) :=
  if s.length < at_ then .bad at_ 1
  else if s.length - at_ < 6 then .bad at_ 3
  else if 60000 < leN ((s.drop (at_ + 4)).take 2) then .bad at_ 6
  else if s.length - (at_ + 6) < leN ((s.drop (at_ + 4)).take 2) then .bad at_ 3
  else if sumL ((s.drop (at_ + 4)).take (2 + leN ((s.drop (at_ + 4)).take 2))) ≠ leN ((s.drop at_).take 4) then .bad at_ 5
  else .ok ((s.drop (at_ + 6)).take (leN ((s.drop (at_ + 4)).take 2))) (at_ + 6 + leN ((s.drop (at_ + 4)).take 2))
theorem c_frame_c1 {p at_ c : Nat} {w : World} (hp : Arr w p 3 [N at_]) {K : Value → World → Prop} (h : K (.tuple #[Str [], N at_, eFault at_ c]) w.drew) : CallV pg (.func (.func n_frame_Next_c1) #[] #[ptr p 0]) [eErr c] w K := by
  refine ⟨by kernel_rfl, ?_⟩
  show CallF pg n_frame_Next_c1 [eErr c, ptr p 0] w K
  apply ln_frame_Next_c1
  have hpd : Arr w.drew p 3 [N at_] := hp
  have eb : ∀ w, (Instr.build ty_api_Fault [(0, N at_), (1, eErr c)].toArray).run pg w = .ok (.agg #[N at_, eErr c]) w := by intro w; kernel_rfl
  simp only [sh_frame_Next_c1, Drew, hpd.ld (k := 0) rfl, true_and, V_eq (eb _)]
  exact h
theorem c_frame_Next {s : List UInt8} {at_ : Nat} (hs : s.length < 1099511627776) {w : World} {K : Value → World → Prop} (h : ∀ w', Up w w' → K ((rdFrame s at_).val Str (Str []) at_) w') : CallF pg n_frame_Next [Str s, N at_] w K := by
  apply ln_frame_Next
  simp only [sh_frame_Next]
  refine New_of (cs := [N at_]) fun w1 u1 hA hz1 => ?_
  generalize sz w = p at hA ⊢
  unfold rdFrame at h
  have hAd : Arr w1.drew p 3 [N at_] := hA
  simp only [hA.ld (k := 0) rfl, Bin_lss_N, Nat.not_lt_zero, decide_false, IfV_false, LenS_Str, Bin_gtr_N]
  unfold sh_frame_Next_j1
  by_cases g1 : s.length < at_
  · rw [if_pos g1] at h
    simp only [g1, decide_true, IfV_true]
    refine c_frame_c1 hA ?_
    simp only [Ext_0, Ext_1, Ext_2]
    exact h _ u1.drew
  · rw [if_neg g1] at h
    simp (disch := omega) only [g1, decide_false, IfV_false, LenS_Str, hA.ld (k := 0) rfl, Bin_sub_N, Bin_lss_N]
    by_cases g2 : s.length - at_ < 6
    · rw [if_pos g2] at h
      simp only [g2, decide_true, IfV_true]
      refine c_frame_c1 hA ?_
      simp only [Ext_0, Ext_1, Ext_2]
      exact h _ u1.drew
    · rw [if_neg g2] at h
      simp only [g2, decide_false, IfV_false, hA.ld (k := 0) rfl]
      refine c_octet_Fixed (by omega) (by omega) (by omega) hs ?_
      simp only [Ext_0, Ext_1, Ext_2]
      refine c_octet_Fixed (by omega) (by omega) (by omega) hs ?_
      have hb := leN_lt ((s.drop (at_ + 4)).take 2)
      have hl2 : ((s.drop (at_ + 4)).take 2).length = 2 := by simp; omega
      rw [hl2] at hb
      generalize hn : leN ((s.drop (at_ + 4)).take 2) = n at h hb ⊢
      simp only [Ext_0, Ext_1, Ext_2, Bin_gtr_N]
      by_cases g3 : 60000 < n
      · rw [if_pos g3] at h
        simp only [g3, decide_true, IfV_true]
        refine c_frame_c1 hA ?_
        simp only [Ext_0, Ext_1, Ext_2]
        exact h _ u1.drew
      · rw [if_neg g3] at h
        simp (disch := omega) only [g3, decide_false, IfV_false, LenS_Str, Bin_sub_N, Bin_gtr_N, Nat.add_assoc, Nat.reduceAdd]
        by_cases g4 : s.length - (at_ + 6) < n
        · rw [if_pos g4] at h
          simp only [g4, decide_true, IfV_true]
          refine c_frame_c1 hA ?_
          simp only [Ext_0, Ext_1, Ext_2]
          exact h _ u1.drew
        · rw [if_neg g4] at h
          simp (disch := omega) only [g4, decide_false, IfV_false, Bin_add_N]
          refine V_sliceStr un9 (by omega) (by omega) ?_
          rw [show at_ + 6 + n - (at_ + 4) = 2 + n by omega]
          rw [V_eq bs38_1]
          refine c_frame_Sum (l := [(s.drop (at_ + 4)).take (2 + n)]) (n := 1) (Sl.fresh rfl) (by omega) (by intro q hq; simp at hq; subst hq; simp; omega) ?_
          have u2 : Up w (w1.alloc (.cells [Str ((s.drop (at_ + 4)).take (2 + n))].toArray 9)) := u1.alloc _
          have hA2 : Arr (w1.alloc (.cells [Str ((s.drop (at_ + 4)).take (2 + n))].toArray 9)) p 3 [N at_] := hA.up ((Up.refl w1).alloc _)
          simp only [List.flatten_cons, List.flatten_nil, List.append_nil, Bin_neq_N]
          by_cases g5 : sumL ((s.drop (at_ + 4)).take (2 + n)) = leN ((s.drop at_).take 4)
          · rw [if_neg (by simpa using g5)] at h
            simp (disch := omega) only [g5, decide_true, Bool.not_true, IfV_false, Bin_add_N]
            refine V_sliceStr un9 (by omega) (by omega) ?_
            rw [show at_ + 6 + n - (at_ + 6) = n by omega]
            exact h _ u2
          · rw [if_pos g5] at h
            simp only [g5, decide_false, Bool.not_false, IfV_true]
            refine c_frame_c1 hA2 ?_
            simp only [Ext_0, Ext_1, Ext_2]
            exact h _ u2.drew
/-- all frames: these, and the place behind -/
def rdAll (s : List UInt8) : Nat → Nat → List (List UInt8) → List (List UInt8) × Nat
  | 0, at_, acc => (acc, at_)
  | f + 1, at_, acc =>
    match rdFrame s at_ with
    | .bad _ _ => (acc, at_)
    | .ok x next => rdAll s f next (acc ++ [x])
theorem rdFrame_ok {s x : List UInt8} {at_ next : Nat} (h : rdFrame s at_ = .ok x next) : at_ < next ∧ next ≤ s.length := by
  unfold rdFrame at h
  split at h
  · cases h
  · split at h
    · cases h
    · split at h
      · cases h
      · split at h
        · cases h
        · split at h
          · cases h
          · cases h; omega
theorem c_frame_All {s : List UInt8} (hs : s.length < 1073741824) {w : World} {K : Value → World → Prop}
    (h : ∀ w' v, Up w w' → Own w' (sz w) 9 1 v (rdAll s (s.length + 1) 0 []).1.length ((rdAll s (s.length + 1) 0 []).1.map Str) → K (.tuple #[v, N (rdAll s (s.length + 1) 0 []).2]) w') : CallF pg n_frame_All [Str s] w K := by
  apply ln_frame_All
  simp only [sh_frame_All]
  refine LoopV_of (fun xs w' => ∃ (v : Value) (at_ f : Nat) (acc : List (List UInt8)), xs = [Str s, v, N at_] ∧ Up w w' ∧ Own w' (sz w) 9 1 v acc.length (acc.map Str) ∧ at_ ≤ s.length ∧ s.length - at_ < f ∧ acc.length ≤ at_ ∧ rdAll s (s.length + 1) 0 [] = rdAll s f at_ acc) (fun xs _ => s.length - natOf (xs.getD 2 undef))
    ⟨_, 0, s.length + 1, [], rfl, Up.refl w, Own.nil .., by omega, by omega, by simp, rfl⟩ ?_
  rintro k1 T w1 ⟨v, at_, f, acc, hT, hu, ho, hat, hf, hal, he⟩ hk1
  simp only [temps, List.cons.injEq, and_true] at hT
  obtain ⟨g0, g4, g5⟩ := hT
  obtain ⟨f', rfl⟩ : ∃ f', f = f' + 1 := ⟨f - 1, by omega⟩
  simp only [g0, g4, g5]
  refine c_frame_Next (by omega) fun w2 u2 => ?_
  simp only [rdAll] at he
  cases hr : rdFrame s at_ with
  | bad p c =>
    rw [hr] at he
    simp only at he
    simp only [Rd.val, Ext_0, Ext_1, Ext_2, NeNil_i1, IfV_true]
    have he' : rdAll s (s.length + 1) 0 [] = (acc, at_) := he
    rw [he'] at h
    exact h _ _ (hu.trans u2) (Own.Up ho u2)
  | ok x next =>
    rw [hr] at he
    have hn := rdFrame_ok hr
    simp only at he
    simp only [Rd.val, Ext_0, Ext_1, Ext_2, NeNil_i0, IfV_false]
    refine V_push (cs := [Str x]) st_38 (Own.Up ho u2) rfl rfl rfl (hu.trans u2).size (by omega) (by omega) fun s2 v2 w3 ho3 hg3 => ?_
    refine hk1 _ _ ⟨v2, next, f', acc ++ [x], rfl, (hu.trans u2).push hg3 (Own.Up ho u2) (Nat.le_refl _), by simpa using ho3, hn.2, by omega, by simp; omega, he⟩ (by simp [temps, g5]; omega)
end Go.Proofs.Tryz

