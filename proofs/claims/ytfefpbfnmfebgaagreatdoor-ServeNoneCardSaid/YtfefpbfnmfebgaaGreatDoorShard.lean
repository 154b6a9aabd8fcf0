/- Part of a proof (its text Shard): what is proved stands in the text Card. -/
import Derived.Lib.UnsafeStr
import Derived.Test.YtfefpbfnmfebgaaGreatDoorFormsA
import Derived.Test.YtfefpbfnmfebgaaGreatDoorMp
import Derived.Test.YtfefpbfnmfebgaaGreatDoorOctet
import Derived.Test.YtfefpbfnmfebgaaGreatDoorFormsShard
import Derived.Test.YtfefpbfnmfebgaaGreatDoorGap
import Derived.Test.YtfefpbfnmfebgaaGreatDoorFrame
set_option linter.all false
namespace Go.Proofs.Tryz
open Go Go.Lad
set_option autoImplicit false
set_option maxRecDepth 100000
set_option linter.unusedSimpArgs false

/-! a builder, and what it writes to -/
structure BAt (w : World) (base b : Nat) (v : Value) (l : List UInt8) : Prop where
  c : ∃ p, Arr w b ty_strings_Builder [p, v] ∧ (p = .pointer none ∨ p = ptr b 0)
  o : Own w base 5 1 v l.length (l.map Y)
theorem BAt.new {w : World} : BAt (w.alloc (.cells [.pointer none, .slice none 0 0].toArray ty_strings_Builder (0, 0))) (sz w) (sz w) (.slice none 0 0) [] :=
  ⟨⟨_, Arr.new, .inl rfl⟩, Own.nil ..⟩
theorem BAt.ne {w : World} {base b : Nat} {v : Value} {l : List UInt8} (h : BAt w base b v l) : ¬ InSl v b := by
  obtain ⟨⟨p, h1, _⟩, h2⟩ := h
  exact Own.apart h2 h1 (by decide)
theorem BAt.mod {w w' : World} {base b : Nat} {v : Value} {l : List UInt8} {F : Nat → Prop} (h : BAt w base b v l) (m : Mod w w' F) (h1 : ¬ F b) (h2 : ∀ q, InSl v q → ¬ F q) : BAt w' base b v l := by
  obtain ⟨⟨p, h3, h4⟩, h5⟩ := h
  exact ⟨⟨p, (m.keep b h3.lt h1).trans h3, h4⟩, Own.up h5 fun q hq hi => m.keep q hq (h2 q hi)⟩
theorem BAt.lt {w : World} {base b : Nat} {v : Value} {l : List UInt8} (h : BAt w base b v l) : b < sz w := by
  obtain ⟨⟨p, h1, _⟩, h2⟩ := h
  exact h1.lt
theorem mod_put {w w' : World} {b : Nat} {o : Obj} (e : w' = putB w b o) {F : Nat → Prop} (hF : F b) : Mod w w' F := e ▸ Mod.put w o hF
theorem grown_mod {w w' : World} {v : Value} (g : w.grownBy w' v.ownBlock) : Mod w w' (fun q => InSl v q) := ⟨g.os, g.tape, g.output, g.size, fun i hi hf => g.block i hi (fun e => hf e.symm)⟩
theorem c_copyCheck2 {base b : Nat} {v : Value} {l : List UInt8} {w : World} {K : Value → World → Prop} (hB : BAt w base b v l)
    (h : ∀ w', Arr w' b ty_strings_Builder [ptr b 0, v] → Own w' base 5 1 v l.length (l.map Y) → Mod w w' (· = b) → sz w' = sz w → K (.tuple #[]) w') : CallF pg n_strings_Builder_copyCheck [ptr b 0] w K := by
  have hne := hB.ne
  obtain ⟨⟨p, hA, hp⟩, ho⟩ := hB
  apply ln_strings_Builder_copyCheck
  obtain ⟨i, hi, hz⟩ := Option.map_eq_some_iff.1 in373
  simp only [sh_strings_Builder_copyCheck, NilCk_ptr, FA_ptr, Nat.add_zero, hA.ld (k := 0) rfl]
  rcases hp with rfl | rfl
  · have hs : w.shape? b = some (ty_strings_Builder, 2) := by
      unfold World.shape?
      have : w.heap[b]? = _ := hA
      rw [this]; rfl
    have e1 : (convert ty_p_strings_Builder ty_unsafe_Pointer (ptr b 0)).run pg w = .ok (ptr b 0) w := Lib.run_to_unsafe w ⟨b, 0, none⟩ un371 un560 hi (by omega) hs (by show 0 < 2; omega)
    have e2 : (convert ty_unsafe_Pointer ty_p_strings_Builder (ptr b 0)).run pg w = .ok (ptr b 0) w := Lib.run_from_unsafe w ⟨b, 0, none⟩ un560 un371 hi hs (by kernel_rfl)
    have e3 : (callFunc n_internal_abi_NoEscape [ptr b 0].toArray).run pg w = .ok (.value (ptr b 0)) w := by kernel_rfl
    simp only [EqNil_p0, IfV_true, V_eq e1, V_eq e2, CallX, e3]
    refine hA.st rfl (by simp) fun w1 e4 hA1 => ?_
    exact h _ hA1 (Own.up ho fun q hq hi => by rw [e4]; exact gb_putB_ne (fun e => hne (e ▸ hi))) (mod_put e4 rfl) (by rw [e4]; exact sz_putB ..)
  · have e : (do eqGuard .neq ty_p_strings_Builder (.tmp 17) (.tmp 18) (ptr b 0) (ptr b 0); binOp .neq ty_p_strings_Builder (ptr b 0) (ptr b 0) : Sem Value).run pg w = .ok (.bool false) w := by
      have := Lib.run_neq_ptr_same (P := pg) w ⟨b, 0, none⟩ un371 hi
      simp [eqGuard, this]
    simp only [EqNil_p1, IfV_false, V_eq e]
    exact h w hA ho (Mod.refl ..) rfl
theorem c_WriteString2 {base b : Nat} {v : Value} {l s : List UInt8} {w : World} {K : Value → World → Prop} (hB : BAt w base b v l) (hb : base ≤ sz w) (hl : l.length + s.length ≤ 140737488355328)
    (h : ∀ w' v', BAt w' base b v' (l ++ s) → Mod w w' (fun q => q = b ∨ InSl v q) → (∀ q, InSl v' q → InSl v q ∨ sz w ≤ q) → K (.tuple #[N s.length, .nilIface]) w') : CallF pg n_strings_Builder_WriteString [ptr b 0, Str s] w K := by
  have hne := hB.ne
  apply ln_strings_Builder_WriteString
  simp only [sh_strings_Builder_WriteString]
  refine c_copyCheck2 hB fun w1 hA1 ho1 hm1 hz1 => ?_
  simp only [NilCk_ptr, FA_ptr, Nat.zero_add, hA1.ld (k := 1) rfl]
  obtain ⟨i, hi, hz⟩ := Option.map_eq_some_iff.1 in5
  have hiz := in5z; rw [hi] at hiz; simp at hiz hz
  obtain ⟨v', w2, hrun, hown2, hgr, _⟩ := Lib.run_append_own_string (P := pg) w1 base ty_s_uint8 9 ty_s_uint8 5 i un236 un9 hi hiz hz.1 hz.2 v _ _ ho1 ⟨⟨s⟩⟩
    (by simp [size_mk, maxLen]; omega) (by simp [size_mk]; omega) (by show base ≤ sz w1; omega)
  have hwh := append_where_string (P := pg) (ty := ty_s_uint8) un236 un9 hi hiz hz.1 hz.2 ho1 ⟨⟨s⟩⟩ (by simp [size_mk]; omega) hrun
  rw [V_eq hrun]
  have hA2 : Arr w2 b ty_strings_Builder [ptr b 0, v] := arr_grown hA1 hgr hne
  have hown3 : Own w2 base 5 1 v' (l ++ s).length ((l ++ s).map Y) := by
    have e1 : ((l ++ s).map Y) = l.map Y ++ Lib.strCells ⟨⟨s⟩⟩ := by simp only [List.map_append]; rfl
    have e2 : (l ++ s).length = l.length + (⟨⟨s⟩⟩ : ByteArray).size := by simp [size_mk]
    rw [e1, e2]; exact hown2
  have hne2 : ¬ InSl v' b := Own.apart hown3 hA2 (by decide)
  refine hA2.st hown3.plain (by simp) fun w3 e3 hA3 => ?_
  simp only [LenS_Str]
  refine h _ v' ⟨⟨_, hA3, .inr rfl⟩, Own.up hown3 fun q hq hi => by rw [e3]; exact gb_putB_ne (fun e => hne2 (e ▸ hi))⟩ ?_ (fun q hq => ?_)
  · exact ((hm1.mono (fun q hq => .inl hq)).trans ((grown_mod hgr).mono (fun q hq => .inr hq))).trans (mod_put e3 (.inl rfl))
  · rcases hwh q hq with h1 | h1
    · exact .inl h1
    · exact .inr (by omega)
theorem c_Builder_Len {base b : Nat} {v : Value} {l : List UInt8} {w : World} {K : Value → World → Prop} (hB : BAt w base b v l) (h : K (N l.length) w) : CallF pg n_strings_Builder_Len [ptr b 0] w K := by
  apply ln_strings_Builder_Len
  obtain ⟨⟨p, hA, hp⟩, ho⟩ := hB
  simp only [sh_strings_Builder_Len, NilCk_ptr, FA_ptr, Nat.zero_add, hA.ld (k := 1) rfl, ho.sl.lenL]
  exact h
theorem un_pu8 : pg.underlying ty_p_uint8 = some (.pointer 5) := by kernel_rfl
theorem freeze_mod {w : World} {g n : Nat} : Mod w (w.freeze ⟨g, 0, none⟩ n) (· = g) := by
  unfold World.freeze
  split
  · exact Mod.refl ..
  · refine ⟨rfl, rfl, rfl, ?_, fun i hi hf => ?_⟩
    · show w.heap.size ≤ (w.heap.modify g _).size
      simp
    · show (w.heap.modify g _)[i]? = _
      rw [Array.getElem?_modify, if_neg (fun e => hf e.symm)]; rfl
theorem c_Builder_String2 {base b : Nat} {v : Value} {l : List UInt8} {w : World} {K : Value → World → Prop} (hB : BAt w base b v l)  (hl : l.length ≤ 140737488355328)
    (h : ∀ w', Mod w w' (fun q => InSl v q) → K (Str l) w') : CallF pg n_strings_Builder_String [ptr b 0] w K := by
  apply ln_strings_Builder_String
  obtain ⟨⟨p, hA, hp⟩, ho⟩ := hB
  have hA1 : Arr w.drew b ty_strings_Builder [p, v] := hA
  have hm : Mod w w.drew (fun q => InSl v q) := (Up.refl w).drew.mod _
  simp only [sh_strings_Builder_String, Drew, NilCk_ptr, FA_ptr, Nat.zero_add, hA1.ld (k := 1) rfl, true_and, ho.sl.lenL, and_true]
  have ho1 : Own w.drew base 5 1 v l.length (l.map Y) := ho
  rcases ho1.outA with ⟨rfl, hn, hx⟩ | ⟨g, cap, tl, rfl, hb, ha, hc, hmx, hcl, hxl⟩
  · have hl0 : l = [] := by simpa using hx
    subst hl0
    rw [V_eq (Lib.run_unsafeSliceData_nil (P := pg) w.drew #[ty_s_uint8] ty_p_uint8 0 0)]
    simp only [hA1.ld (k := 1) rfl, true_and, and_true]
    rw [show N ([] : List UInt8).length = Value.int .i64 0 from rfl]
    rw [V_eq (Lib.run_unsafeString_none (P := pg) w.drew ty_p_uint8 3 9 none)]
    exact h _ hm
  · by_cases h0 : l = []
    · subst h0
      by_cases hcap : cap = 0
      · subst hcap
        have hsh : w.drew.shape? g = some (5, ([] ++ tl : List Value).length) := by
          unfold World.shape?
          have : w.drew.heap[g]? = _ := ha
          rw [this]; rfl
        rw [V_eq (Lib.run_unsafeSliceData_zero (P := pg) w.drew #[ty_s_uint8] ty_p_uint8 5 un_pu8 ⟨g, 0, none⟩ _ _ hsh)]
        have hA2 := hA1.up ((Up.refl w.drew).alloc (.view ⟨g, 0, none⟩ 5))
        simp only [hA2.ld (k := 1) rfl, true_and, and_true]
        rw [show N ([] : List UInt8).length = Value.int .i64 0 from rfl]
        rw [V_eq (Lib.run_unsafeString_none (P := pg) _ ty_p_uint8 3 9 _)]
        exact h _ (hm.trans (((Up.refl w.drew).alloc _).mod _))
      · rw [V_eq (Lib.run_unsafeSliceData_row (P := pg) w.drew #[ty_s_uint8] ty_p_uint8 ⟨g, 0, none⟩ _ cap hcap)]
        simp only [hA1.ld (k := 1) rfl, true_and, and_true]
        rw [show N ([] : List UInt8).length = Value.int .i64 0 from rfl]
        rw [V_eq (Lib.run_unsafeString_none (P := pg) w.drew ty_p_uint8 3 9 (some ⟨g, 0, none⟩))]
        exact h _ hm
    · have hpos : 0 < l.length := List.length_pos_iff.2 h0
      rw [V_eq (Lib.run_unsafeSliceData_row (P := pg) w.drew #[ty_s_uint8] ty_p_uint8 ⟨g, 0, none⟩ _ cap (by omega))]
      simp only [hA1.ld (k := 1) rfl, true_and, and_true]
      have hsh : w.drew.shape? g = some (5, (l.map Y ++ tl).length) := by
        unfold World.shape?
        have : w.drew.heap[g]? = _ := ha
        rw [this]; rfl
      have hr := Lib.run_unsafeString_row (P := pg) w.drew ty_p_uint8 3 9 5 un_pu8 (by kernel_rfl) g _ hsh l h0 (by simp) (by omega) (fun j x hj => by
        rw [Addr.add_lit, cell?_gb, ha]
        simp only [Nat.zero_add]
        obtain ⟨hj1, hj2⟩ := List.getElem?_eq_some_iff.1 hj
        rw [List.getElem?_append_left (by simpa using hj1), List.getElem?_map, hj]; rfl)
      rw [show N l.length = Value.int .i64 (l.length : Int) from rfl]
      rw [V_eq hr]
      exact h _ (hm.trans (freeze_mod.mono (fun q hq => by subst hq; rfl)))
end Go.Proofs.Tryz

namespace Go.Proofs.Tryz
open Go Go.Lad
set_option autoImplicit false
set_option maxRecDepth 100000
set_option linter.unusedSimpArgs false
set_option linter.unusedVariables false

theorem c_shard_short {n : Nat} (hn : n < 72057594037927936) {w : World} {K : Value → World → Prop} (h : ∀ w', Up w w' → K (Str (shortL n)) w') : CallF pg n_shard_short [N n] w K := by
  apply ln_shard_short
  simp only [sh_shard_short]
  refine c_octet_PutShort hn fun w1 u1 => ?_
  simp only [Ext_0, Ext_1]
  exact h _ u1
theorem c_shard_wrong {i c : Nat} {w : World} {K : Value → World → Prop} (h : K (eFault i c) w) : CallF pg n_shard_wrong [N i, eErr c] w K := by
  apply ln_shard_wrong
  have : (Instr.build ty_api_Fault [(0, N i), (1, eErr c)].toArray).run pg w = .ok (.agg #[N i, eErr c]) w := by kernel_rfl
  simp only [sh_shard_wrong, V_eq this]
  exact h

/-! a shard's bytes -/
def rowsB (l : List NE) (first : Nat) : Nat → List UInt8
  | 0 => []
  | k + 1 => rowsB l first k ++ gapL (first + k) (rowE l (first + k))
def indexB (l : List NE) (first : Nat) : Nat → List UInt8
  | 0 => []
  | k + 1 => indexB l first k ++ if k % 8 = 0 then shortL (rowsB l first k).length else []
structure RowsOk (n : Nat) (l : List NE) : Prop where
  r : ∀ v, v < n → RowOk n (rowE l v)
  len : l.length ≤ 20000
theorem begE_le_add (l : List NE) (v k : Nat) : begE l v ≤ begE l (v + k) := by
  induction k with
  | zero => exact Nat.le_refl _
  | succ k ih => exact Nat.le_trans ih (begE_mono l (v + k))
theorem rowsB_length {n : Nat} {l : List NE} (hr : RowsOk n l) (hn : n ≤ 4096) (first k : Nat) (hk : first + k ≤ n) : (rowsB l first k).length ≤ 8 * k + 8 * (begE l (first + k) - begE l first) := by
  induction k with
  | zero => simp [rowsB]
  | succ k ih =>
    have h1 := ih (by omega)
    have h2 := rowE_length l (first + k)
    have h3 := begE_le l (first + k + 1)
    have h4 := gapL_length (hr.r (first + k) (by omega)) hn (first + k) (by omega) (by have := hr.len; omega)
    have h5 := begE_mono l (first + k)
    have h6 := begE_le_add l first k
    simp only [rowsB, List.length_append]
    rw [show first + (k + 1) = first + k + 1 by omega]
    omega
theorem rowsB_le {n : Nat} {l : List NE} (hr : RowsOk n l) (hn : n ≤ 4096) (first k : Nat) (hk : first + k ≤ n) : (rowsB l first k).length ≤ 200000 := by
  have h1 := rowsB_length hr hn first k hk
  have h2 := begE_le l (first + k)
  have := hr.len
  omega
theorem indexB_le {n : Nat} {l : List NE} (hr : RowsOk n l) (hn : n ≤ 4096) (first k : Nat) (hk : first + k ≤ n) : (indexB l first k).length ≤ 8 * k := by
  induction k with
  | zero => simp [indexB]
  | succ k ih =>
    have h1 := ih (by omega)
    have h2 := rowsB_le hr hn first k (by omega)
    simp only [indexB, List.length_append]
    split
    · have := shortL_le (n := (rowsB l first k).length) (by omega); omega
    · simp; omega
theorem notIn_nil (q : Nat) : ¬ InSl (.slice none 0 0) q := fun h => by cases h
theorem c_shard_laid {c n : Nat} {l : List NE} {w : World} (hc : CsrAt w c n l) (hn : n ≤ 4096) (hr : RowsOk n l) {first many : Nat} (hf : first + many ≤ n) {K : Value → World → Prop}
    (h : ∀ w', Up w w' → K (.tuple #[Str (indexB l first many), Str (rowsB l first many)]) w') : CallF pg n_shard_laid [ptr c 0, N first, N many] w K := by
  apply ln_shard_laid
  simp only [sh_shard_laid]
  have hl20 := hr.len
  refine New_of (cs := [.pointer none, .slice none 0 0]) fun w1 u1 hA1 hz1 => ?_
  refine New_of (cs := [.pointer none, .slice none 0 0]) fun w2 u2 hA2 hz2 => ?_
  have hB1 : BAt w2 (sz w) (sz w) (.slice none 0 0) [] := ⟨⟨_, hA1.up u2, .inl rfl⟩, Own.nil ..⟩
  have hB2 : BAt w2 (sz w) (sz w1) (.slice none 0 0) [] := ⟨⟨_, hA2, .inl rfl⟩, Own.nil ..⟩
  generalize hb1 : sz w = b1 at hB1 hB2 ⊢
  generalize hb2 : sz w1 = b2 at hB2 ⊢
  refine LoopV_of (fun xs w' => ∃ (k : Nat) (v1 v2 : Value), xs = [ptr c 0, N first, N many, ptr b1 0, ptr b2 0, N (first + k)] ∧ k ≤ many ∧ Up w w' ∧ BAt w' b1 b1 v1 (indexB l first k) ∧ BAt w' b1 b2 v2 (rowsB l first k) ∧
      (∀ q, InSl v1 q → ¬ InSl v2 q) ∧ ¬ InSl v1 b2 ∧ ¬ InSl v2 b1) (fun xs _ => first + many - natOf (xs.getD 5 undef))
    ⟨0, _, _, rfl, by omega, u1.trans u2, hB1, hB2, fun q hq => absurd hq (notIn_nil q), notIn_nil _, notIn_nil _⟩ ?_
  rintro k1 T w3 ⟨k, v1, v2, hT, hk, hu, hB1, hB2, hd, hn1, hn2⟩ hk1
  simp only [temps, List.cons.injEq, and_true] at hT
  obtain ⟨g0, g1, g2, g8, g9, g10⟩ := hT
  have hrl := rowsB_le hr hn first k (by omega)
  have hil := indexB_le hr hn first k (by omega)
  by_cases hlt : k < many
  · have e1 : first + k < first + many := by omega
    simp (disch := omega) only [g0, g1, g2, g8, g9, g10, Bin_add_N, Bin_lss_N, e1, decide_true, IfV_true, Bin_sub_N, Bin_rem_N, Bin_eql_N, show first + k - first = k from by omega]
    have hb12 : b1 ≠ b2 := by omega
    -- the row's bytes
    have tail : ∀ (w4 : World) (v1' : Value), Up w w4 → BAt w4 b1 b1 v1' (indexB l first (k + 1)) → BAt w4 b1 b2 v2 (rowsB l first k) → (∀ q, InSl v1' q → ¬ InSl v2 q) → ¬ InSl v1' b2 →
        sh_shard_laid_j1 k1 (ptr c 0) (N first) (N many) (ptr b1 0) (ptr b2 0) (N (first + k)) w4 K := by
      intro w4 v1' hu4 hB1 hB2 hd hn1
      unfold sh_shard_laid_j1
      refine c_Csr_Targets (hc.Up hu4) hn hl20 (show first + k < n by omega) fun w5 s u5 ho5 => ?_
      simp only [Ext_0, Ext_1]
      refine c_Csr_Nodes ((hc.Up hu4).Up u5) hn ?_
      have hrow := hr.r (first + k) (by omega)
      have hrwl := rowE_length l (first + k)
      have hbl := begE_le l (first + k + 1)
      refine c_gap_Put ho5.sl hn (by omega) hrow (by omega) fun w6 u6 => ?_
      simp only [Ext_0, Ext_1]
      have hgl := gapL_length hrow hn (first + k) (by omega) (by omega)
      have hu6 := (hu4.trans u5).trans u6
      have hB1' : BAt w6 b1 b1 v1' _ := hB1.mod ((u5.trans u6).mod (fun _ => False)) (fun h => h) (fun _ _ h => h)
      have hB2' : BAt w6 b1 b2 v2 _ := hB2.mod ((u5.trans u6).mod (fun _ => False)) (fun h => h) (fun _ _ h => h)
      refine c_WriteString2 hB2' (by have := hu6.size; omega) (by omega) fun w7 v2' hB2n hm7 hw7 => ?_
      simp (disch := omega) only [Bin_add_N]
      have hu7 : Up w w7 := hm7.up hu6 (fun q hq => by
        rcases hq with rfl | hq
        · have := u1.size; omega
        · have := hB2'.o.inSl hq; omega)
      have hd' : ∀ q, InSl v1' q → ¬ InSl v2' q := fun q hq hi => by
        rcases hw7 q hi with h1 | h1
        · exact hd q hq h1
        · have := hB1'.o.sl.lt hq; omega
      have hn2' : ¬ InSl v2' b1 := fun hi => by
        rcases hw7 _ hi with h1 | h1
        · exact hn2 h1
        · have := hB1'.lt; omega
      refine hk1 _ _ ⟨k + 1, v1', v2', by rw [Nat.add_assoc], by omega, hu7, hB1'.mod hm7 (fun h => ?_) (fun q hq h => ?_), hB2n, hd', hn1, hn2'⟩ (by simp [temps, g10]; omega)
      · rcases h with h | h
        · exact hb12 h
        · exact hn2 h
      · rcases h with h | h
        · exact hn1 (h ▸ hq)
        · exact hd q hq h
    by_cases h8 : k % 8 = 0
    · simp only [h8, decide_true, IfV_true]
      refine c_Builder_Len hB2 ?_
      refine c_shard_short (by omega) fun w4 u4 => ?_
      have hsl := shortL_le (n := (rowsB l first k).length) (by omega)
      have hB1' : BAt w4 b1 b1 v1 _ := hB1.mod (u4.mod (fun _ => False)) (fun h => h) (fun _ _ h => h)
      have hB2' : BAt w4 b1 b2 v2 _ := hB2.mod (u4.mod (fun _ => False)) (fun h => h) (fun _ _ h => h)
      refine c_WriteString2 hB1' (by have := (hu.trans u4).size; omega) (by omega) fun w5 v1' hB1n hm5 hw5 => ?_
      have hu5 : Up w w5 := hm5.up (hu.trans u4) (fun q hq => by
        rcases hq with rfl | hq
        · omega
        · have := hB1'.o.inSl hq; omega)
      refine tail w5 v1' hu5 (by simpa only [indexB, h8, if_true] using hB1n) (hB2'.mod hm5 (fun h => ?_) (fun q hq h => ?_)) (fun q hq hi => ?_) (fun hi => ?_)
      · rcases h with h | h
        · exact hb12 h.symm
        · exact hn1 h
      · rcases h with h | h
        · exact hn2 (h ▸ hq)
        · exact hd q h hq
      · rcases hw5 q hq with h1 | h1
        · exact hd q h1 hi
        · have := hB2'.o.sl.lt hi; omega
      · rcases hw5 _ hi with h1 | h1
        · exact hn1 h1
        · have := hB2'.lt; omega
    · simp only [h8, decide_false, IfV_false]
      exact tail w3 v1 hu (by simpa only [indexB, h8, if_false, List.append_nil] using hB1) hB2 hd hn1
  · have : k = many := by omega
    subst this
    simp (disch := omega) only [g0, g1, g2, g8, g9, g10, Bin_add_N, Bin_lss_N, Nat.lt_irrefl, decide_false, IfV_false]
    refine c_Builder_String2 hB1 (by omega) fun w4 hm4 => ?_
    have hB2' : BAt w4 b1 b2 v2 _ := hB2.mod hm4 hn1 (fun q hq h => hd q h hq)
    refine c_Builder_String2 hB2' (by omega) fun w5 hm5 => ?_
    refine h _ (hm5.up (hm4.up hu (fun q hq => ?_)) (fun q hq => ?_))
    · have := hB1.o.inSl hq; omega
    · have := hB2'.o.inSl hq; omega
/-- a shard -/
def shardB (l : List NE) (first many : Nat) : List UInt8 := ((shortL first ++ shortL many) ++ indexB l first many) ++ rowsB l first many
theorem c_shard_Put {c n : Nat} {l : List NE} {w : World} (hc : CsrAt w c n l) (hn : n ≤ 4096) (hr : RowsOk n l) {first many : Nat} (hf : first + many ≤ n) (hm : 1 ≤ many) {K : Value → World → Prop}
    (h : ∀ w', Up w w' → K (.tuple #[Str (shardB l first many), .nilIface]) w') : CallF pg n_shard_Put [ptr c 0, N first, N many] w K := by
  apply ln_shard_Put
  have e1 : ¬ many < 1 := by omega
  have e2 : ¬ n < first := by omega
  have e3 : ¬ n - first < many := by omega
  simp only [sh_shard_Put, EqNil_p1, IfV_false, Bin_lss_N, Nat.not_lt_zero, decide_false, e1]
  refine c_Csr_Nodes hc hn ?_
  simp only [Bin_gtr_N, e2, decide_false, IfV_false]
  refine c_Csr_Nodes hc hn ?_
  simp (disch := omega) only [Bin_sub_N, Bin_gtr_N, e3, decide_false, IfV_false]
  refine c_shard_laid hc hn hr hf fun w1 u1 => ?_
  simp only [Ext_0, Ext_1]
  refine c_shard_short (by omega) fun w2 u2 => c_shard_short (by omega) fun w3 u3 => ?_
  have h1 := shortL_le (n := first) (by omega)
  have h2 := shortL_le (n := many) (by omega)
  have h3 := rowsB_le hr hn first many hf
  have h4 := indexB_le hr hn first many hf
  rw [BinS_add _ _ (by omega), BinS_add _ _ (by simp only [List.length_append]; omega), BinS_add _ _ (by simp only [List.length_append]; omega)]
  exact h _ ((u1.trans u2).trans u3)
end Go.Proofs.Tryz

namespace Go.Proofs.Tryz
open Go Go.Lad
set_option autoImplicit false
set_option maxRecDepth 100000
set_option linter.unusedSimpArgs false
set_option linter.unusedVariables false

/-- a graph's shards: so many of them -/
def splitL (l : List NE) (n each : Nat) : Nat → List (List UInt8)
  | 0 => []
  | k + 1 => splitL l n each k ++ [shardB l (k * each) (min each (n - k * each))]
def shardsN (n each : Nat) : Nat := (n + each - 1) / each
theorem splitL_length (l : List NE) (n each k : Nat) : (splitL l n each k).length = k := by
  induction k with
  | zero => rfl
  | succ k ih => simp [splitL, ih]
theorem shardsN_lt {n each i : Nat} (h1 : 1 ≤ each) : i < shardsN n each ↔ i * each < n := by
  unfold shardsN
  rw [Nat.lt_div_iff_mul_lt (by omega)]
  omega
theorem c_shard_Split {c n each : Nat} {l : List NE} {w : World} (hc : CsrAt w c n l) (hn : n ≤ 4096) (hr : RowsOk n l) (h1 : 1 ≤ each) (h2 : each < 4096) (h64 : shardsN n each ≤ 64) {K : Value → World → Prop}
    (h : ∀ w' v, Up w w' → Own w' (sz w) 9 1 v (shardsN n each) ((splitL l n each (shardsN n each)).map Str) → K (.tuple #[v, .nilIface]) w') : CallF pg n_shard_Split [ptr c 0, N each] w K := by
  apply ln_shard_Split
  have e1 : ¬ each < 1 := by omega
  have e3 : ¬ 64 < (n + each - 1) / each := by unfold shardsN at h64; omega
  simp only [sh_shard_Split, sh_shard_Split_j1, EqNil_p1, IfV_false, Bin_lss_N, e1, decide_false, h2, decide_true, IfV_true]
  refine c_Csr_Nodes hc hn ?_
  simp (disch := omega) only [Bin_add_N, Bin_sub_N, Bin_quo_N, Bin_gtr_N, e3, decide_false, IfV_false]
  unfold sh_shard_Split_j2
  refine LoopV_of (fun xs w' => ∃ (i : Nat) (v : Value), xs = [ptr c 0, N each, v, N (i * each)] ∧ i ≤ shardsN n each ∧ Up w w' ∧ Own w' (sz w) 9 1 v i ((splitL l n each i).map Str)) (fun xs _ => n - natOf (xs.getD 3 undef))
    ⟨0, _, by simp, by omega, Up.refl w, Own.nil ..⟩ ?_
  rintro k1 T w1 ⟨i, v, hT, hi, hu, ho⟩ hk1
  simp only [temps, List.cons.injEq, and_true] at hT
  obtain ⟨g0, g1, g6, g7⟩ := hT
  simp only [g0, g1, g6, g7]
  refine c_Csr_Nodes (hc.Up hu) hn ?_
  simp only [Bin_lss_N]
  by_cases hlt : i < shardsN n each
  · have hlt' := (shardsN_lt h1).1 hlt
    simp only [hlt', decide_true, IfV_true]
    refine c_Csr_Nodes (hc.Up hu) hn ?_
    simp (disch := omega) only [Bin_sub_N, V_eq min_N]
    refine c_shard_Put (hc.Up hu) hn hr (by omega) (by omega) fun w2 u2 => ?_
    simp only [Ext_0, Ext_1, NeNil_i0, IfV_false]
    refine V_push (cs := [Str _]) slT_string (Own.Up ho u2) rfl rfl rfl (by have := (hu.trans u2).size; omega) (by omega) (by omega) fun s v2 w3 ho3 hg3 => ?_
    rw [show min each 4096 = each by omega]
    simp (disch := omega) only [Bin_add_N]
    refine hk1 _ _ ⟨i + 1, v2, by rw [Nat.add_mul, Nat.one_mul], by omega, (hu.trans u2).push hg3 (Own.Up ho u2) (Nat.le_refl _), ?_⟩ (by simp [temps, g7]; omega)
    simpa only [splitL, List.map_append, List.map_cons, List.map_nil] using ho3
  · have hlt' : ¬ i * each < n := fun hh => hlt ((shardsN_lt h1).2 hh)
    have : i = shardsN n each := by omega
    subst this
    simp only [hlt', decide_false, IfV_false]
    exact h _ _ hu ho

/-! shards that are read -/
/-- a shard's head: first, many, where the index is -/
def rdHead (s : List UInt8) (nodes : Nat) : Rd (Nat × Nat) :=
  match rdShort s 0 with
  | .bad p c => .bad p c
  | .ok first mid =>
    match rdShort s mid with
    | .bad p c => .bad p c
    | .ok many at_ => if many < 1 ∨ nodes < first ∨ nodes - first < many then .bad mid 4 else .ok (first, many) at_
abbrev headV (f m a : Nat) : Value := .agg [N f, N m, N a].toArray
theorem rdHead_ok {s : List UInt8} {nodes f m at_ : Nat} (h : rdHead s nodes = .ok (f, m) at_) : 1 ≤ m ∧ f + m ≤ nodes ∧ at_ ≤ s.length := by
  unfold rdHead at h
  cases h1 : rdShort s 0 with
  | bad p c => rw [h1] at h; cases h
  | ok first mid =>
    rw [h1] at h
    simp only at h
    have sp := rdShort_spec s mid
    cases h2 : rdShort s mid with
    | bad p c => rw [h2] at h; cases h
    | ok many a =>
      rw [h2] at h sp
      simp only [ShortOk] at sp
      simp only at h
      split at h
      · cases h
      · cases h; omega
theorem c_shard_heads {s : List UInt8} {n : Nat} (hs : s.length < 1099511627776) (hn : n ≤ 4096) {w : World} {K : Value → World → Prop}
    (hbad : ∀ p c, rdHead s n = .bad p c → ∀ w', Up w w' → K (.tuple #[headV 0 0 0, eFault p c]) w')
    (hok : ∀ f m a, rdHead s n = .ok (f, m) a → ∀ w', Up w w' → K (.tuple #[headV f m a, .nilIface]) w') : CallF pg n_shard_heads [Str s, N n] w K := by
  apply ln_shard_heads
  have e1 : ¬ 4096 < n := by omega
  simp only [sh_shard_heads, Bin_lss_N, Nat.not_lt_zero, decide_false, IfV_false, Bin_gtr_N, e1]
  refine New_of (cs := [N 0, N 0, N 0]) fun w1 u1 hA1 hz1 => ?_
  unfold rdHead at hbad hok
  have b0 : ∀ w, (Instr.build ty_shard_head [].toArray).run pg w = .ok (headV 0 0 0) w := by intro w; kernel_rfl
  have b3 : ∀ f m a w, (Instr.build ty_shard_head [(0, N f), (1, N m), (2, N a)].toArray).run pg w = .ok (headV f m a) w := by intro f m a w; kernel_rfl
  have fin0 : ∀ (e : Value) (w2 : World), Up w w2 → Arr w2 (sz w) ty_shard_head [N 0, N 0, N 0] → (∀ w', Up w w' → K (.tuple #[headV 0 0 0, e]) w') →
      StN (ptr (sz w) 0) (headV 0 0 0) 3 w2 fun _ w => LdN (ptr (sz w1 - 1) 0) 3 w fun t _ => K (.tuple #[t, e]) w := by
    intro e w2 u2 hA2 hk
    refine hA2.stAll (l := [N 0, N 0, N 0]) rfl rfl rfl fun w3 e3 hA3 => ?_
    rw [show sz w1 - 1 = sz w by omega]
    exact hA3.ldAll rfl (hk _ (up_put u2 e3 (Nat.le_refl _)))
  rw [show sz w1 - 1 = sz w by omega] at fin0
  refine c_octet_Short hs ?_
  cases h1 : rdShort s 0 with
  | bad p c =>
    rw [h1] at hbad
    simp only [Rd.val, Ext_0, Ext_1, Ext_2, NeNil_i1, IfV_true, V_eq (b0 _)]
    exact fin0 _ _ u1 hA1 (hbad p c rfl)
  | ok first mid =>
    rw [h1] at hbad hok
    simp only [Rd.val, Ext_0, Ext_1, Ext_2, NeNil_i0, IfV_false]
    refine c_octet_Short hs ?_
    have sp := rdShort_spec s mid
    simp only at hbad hok
    cases h2 : rdShort s mid with
    | bad p c =>
      rw [h2] at hbad
      simp only [Rd.val, Ext_0, Ext_1, Ext_2, NeNil_i1, IfV_true, V_eq (b0 _)]
      exact fin0 _ _ u1 hA1 (hbad p c rfl)
    | ok many at_ =>
      rw [h2] at hbad hok sp
      simp only [ShortOk] at sp
      simp only at hbad hok
      simp only [Rd.val, Ext_0, Ext_1, Ext_2, NeNil_i0, IfV_false, Bin_lss_N]
      by_cases q1 : many < 1
      · rw [if_pos (.inl q1)] at hbad
        simp only [q1, decide_true, IfV_true, V_eq (b0 _)]
        exact c_shard_wrong (fin0 _ _ u1 hA1 (hbad _ _ rfl))
      · simp only [q1, decide_false, IfV_false, Bin_gtr_N]
        by_cases q2 : n < first
        · rw [if_pos (.inr (.inl q2))] at hbad
          simp only [q2, decide_true, IfV_true, V_eq (b0 _)]
          exact c_shard_wrong (fin0 _ _ u1 hA1 (hbad _ _ rfl))
        · simp (disch := omega) only [q2, decide_false, IfV_false, Bin_sub_N, Bin_gtr_N]
          by_cases q3 : n - first < many
          · rw [if_pos (.inr (.inr q3))] at hbad
            simp only [q3, decide_true, IfV_true, V_eq (b0 _)]
            exact c_shard_wrong (fin0 _ _ u1 hA1 (hbad _ _ rfl))
          · rw [if_neg (by omega)] at hok
            simp only [q3, decide_false, IfV_false, V_eq (b3 ..)]
            refine hA1.stAll (l := [N first, N many, N at_]) rfl rfl rfl fun w3 e3 hA3 => ?_
            exact hA3.ldAll rfl (hok _ _ _ rfl _ (up_put u1 e3 (Nat.le_refl _)))
theorem c_shard_marks {f m a : Nat} (hm : m ≤ 4096) {w : World} {K : Value → World → Prop} (h : ∀ w', Up w w' → K (N ((m + 8 - 1) / 8)) w') : CallF pg n_shard_head_marks [headV f m a] w K := by
  apply ln_shard_head_marks
  simp only [sh_shard_head_marks]
  refine New_of (cs := [N f, N m, N a]) fun w1 u1 hA1 hz1 => ?_
  simp (disch := omega) only [FA_ptr, Nat.zero_add, hA1.ld (k := 1) rfl, Bin_add_N, Bin_sub_N, Bin_quo_N]
  exact h _ u1
/-- so many numbers of the index: these, their places, and the place behind -/
def rdIndex (s : List UInt8) : Nat → Nat → List Nat → List Nat → Rd (List Nat × List Nat)
  | 0, at_, ms, ps => .ok (ms, ps) at_
  | k + 1, at_, ms, ps =>
    match rdShort s at_ with
    | .bad p c => .bad p c
    | .ok x next => rdIndex s k next (ms ++ [x]) (ps ++ [at_])
theorem c_shard_index {s : List UInt8} {f m a k : Nat} (hs : s.length < 1099511627776) (hk : k ≤ 4096) {w : World} {K : Value → World → Prop}
    (hbad : ∀ p c, rdIndex s k a [] [] = .bad p c → ∀ w', Up w w' → K (.tuple #[.slice none 0 0, .slice none 0 0, N 0, eFault p c]) w')
    (hok : ∀ ms ps at_, rdIndex s k a [] [] = .ok (ms, ps) at_ → ∀ w' v1 v2, Up w w' → Sl w' 1 v1 k (ms.map N) → Sl w' 1 v2 k (ps.map N) → ms.length = k → ps.length = k → K (.tuple #[v1, v2, N at_, .nilIface]) w') : CallF pg n_shard_head_index [headV f m a, Str s, N k] w K := by
  apply ln_shard_head_index
  simp only [sh_shard_head_index]
  refine New_of (cs := [N f, N m, N a]) fun w1 u1 hA1 hz1 => ?_
  simp only [FA_ptr, Nat.zero_add, hA1.ld (k := 2) rfl]
  refine LoopV_of (fun xs w' => ∃ (i at1 : Nat) (v1 v2 : Value) (ms ps : List Nat), xs = [Str s, v1, v2, N at1, N k, N i] ∧ i ≤ k ∧ ms.length = i ∧ ps.length = i ∧ Up w w' ∧ Own w' (sz w) 3 1 v1 i (ms.map N) ∧ Own w' (sz w) 3 1 v2 i (ps.map N) ∧
      (∀ q, InSl v1 q → ¬ InSl v2 q) ∧ rdIndex s k a [] [] = rdIndex s (k - i) at1 ms ps) (fun xs _ => k - natOf (xs.getD 5 undef)) ⟨0, a, _, _, [], [], rfl, by omega, rfl, rfl, u1, Own.nil .., Own.nil .., fun q hq => absurd hq (notIn_nil q), rfl⟩ ?_
  rintro k1 T w2 ⟨i, at1, v1, v2, ms, ps, hT, hi, hml, hpl, hu, ho1, ho2, hd, he⟩ hk1
  simp only [temps, List.cons.injEq, and_true] at hT
  obtain ⟨g1, g10, g11, g12, g18, g19⟩ := hT
  by_cases hlt : i < k
  · simp only [g1, g10, g11, g12, g18, g19, Bin_lss_N, hlt, decide_true, IfV_true]
    refine c_octet_Short hs ?_
    rw [show k - i = (k - (i + 1)) + 1 by omega, rdIndex] at he
    cases hq : rdShort s at1 with
    | bad p c =>
      rw [hq] at he
      simp only [Rd.val, Ext_0, Ext_1, Ext_2, NeNil_i1, IfV_true]
      exact hbad p c he _ hu
    | ok x next =>
      rw [hq] at he
      simp only at he
      simp only [Rd.val, Ext_0, Ext_1, Ext_2, NeNil_i0, IfV_false]
      refine V_push' (cs := [N x]) slT_int ho1 rfl rfl rfl hu.size (by omega) (by omega) fun s1 v1' w3 ho3 hg3 hw3 => ?_
      have u3 : Up w w3 := hu.push hg3 ho1 (Nat.le_refl _)
      have ho2' : Own w3 (sz w) 3 1 v2 i (ps.map N) := Own.up ho2 fun b hb hi => hg3.block b hb (fun e => hd b e.symm hi)
      have hd3 : ∀ q, InSl v1' q → ¬ InSl v2 q := fun q h1 h2 => by
        rcases hw3 q h1 with h | h
        · exact hd q h h2
        · have := ho2.sl.lt h2; omega
      refine V_push' (cs := [N at1]) slT_int ho2' rfl rfl rfl u3.size (by omega) (by omega) fun s2 v2' w4 ho4 hg4 hw4 => ?_
      have ho3' : Own w4 (sz w) 3 1 v1' (i + 1) _ := Own.up ho3 fun b hb hi => hg4.block b hb (fun e => hd3 b hi e.symm)
      simp (disch := omega) only [Bin_add_N]
      refine hk1 _ _ ⟨i + 1, next, v1', v2', ms ++ [x], ps ++ [at1], rfl, by omega, by simp [hml], by simp [hpl], u3.push hg4 ho2' (Nat.le_refl _), by simpa using ho3', by simpa using ho4, fun q h1 h2 => ?_, he⟩ (by simp [temps, g19]; omega)
      rcases hw4 q h2 with h | h
      · exact hd3 q h1 h
      · have := ho3.sl.lt h1; omega
  · have : i = k := by omega
    subst this
    simp only [g1, g10, g11, g12, g18, g19, Bin_lss_N, hlt, decide_false, IfV_false]
    rw [Nat.sub_self, rdIndex] at he
    exact hok _ _ _ he _ _ _ hu ho1.sl ho2.sl hml hpl
end Go.Proofs.Tryz

