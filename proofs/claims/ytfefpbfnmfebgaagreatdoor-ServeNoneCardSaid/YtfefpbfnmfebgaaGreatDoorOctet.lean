/- Part of a proof (its text Octet): what is proved stands in the text Card. -/
import Derived.Lib.Builder
import Derived.Lib.AppendStr
import Derived.Test.YtfefpbfnmfebgaaGreatDoorFormsA
import Derived.Test.YtfefpbfnmfebgaaGreatDoorShelf
import Derived.Test.YtfefpbfnmfebgaaGreatDoorFormsD
set_option linter.all false
namespace Go.Proofs.Tryz
open Go Go.Lad
open Go.RowKit (Below)
set_option autoImplicit false
set_option maxRecDepth 100000
set_option linter.unusedSimpArgs false

theorem un371 : pg.underlying ty_p_strings_Builder = some (.pointer ty_strings_Builder) := by kernel_rfl
theorem un560 : pg.underlying ty_unsafe_Pointer = some .unsafePointer := by kernel_rfl
theorem un236 : pg.underlying ty_s_uint8 = some (.slice 5) := by kernel_rfl
theorem un9 : pg.underlying 9 = some .string := by kernel_rfl
theorem in373 : (pg.info? ty_strings_Builder).map (·.size) = some 2 := by kernel_rfl
theorem in5 : (pg.info? 5).map (fun i => (i.size, i.bytes)) = some (1, 1) := by kernel_rfl
theorem in5z : (pg.info? 5).bind (fun i => i.zero) = some (.int .u8 0) := by kernel_rfl

abbrev IsB (base b : Nat) (l : List UInt8) (w : World) : Prop := Lib.IsBuilder ty_strings_Builder 5 base b (l.map Y) w
theorem BAt_up {base b : Nat} {p : Value} {bs : List Value} {w w' : World} (h : Lib.BuilderAt ty_strings_Builder 5 base b p bs w) (u : Up w w') : Lib.BuilderAt ty_strings_Builder 5 base b p bs w' := by
  obtain ⟨hB, v, hb, hown, hne⟩ := h
  exact ⟨hB, v, u.gb hb, Own.Up hown u, hne⟩
theorem IsB.up {base b : Nat} {l : List UInt8} {w w' : World} (h : IsB base b l w) (u : Up w w') : IsB base b l w' := h.imp (fun x => BAt_up x u) (fun x => BAt_up x u)
theorem setCell_below {w : World} {base b k : Nat} {v : Value} (h : base ≤ b) : Below base w (w.setCell ⟨b, k, none⟩ v) :=
  ⟨rfl, rfl, rfl, by simp [World.setCell], fun i hi => by simp [World.setCell, Array.getElem?_modify]; intro e; omega⟩

theorem c_copyCheck {base b : Nat} {bs : List Value} {w : World} {K : Value → World → Prop} (hB : Lib.IsBuilder ty_strings_Builder 5 base b bs w)
    (h : ∀ w', Lib.BuilderAt ty_strings_Builder 5 base b (ptr b 0) bs w' → Below base w w' → sz w' = sz w → K (.tuple #[]) w') : CallF pg n_strings_Builder_copyCheck [ptr b 0] w K := by
  apply ln_strings_Builder_copyCheck
  simp only [sh_strings_Builder_copyCheck, NilCk_ptr, FA_ptr, Nat.add_zero]
  rcases hB with hB | hB
  · have hc := hB.cell0
    have hs : w.shape? b = some (ty_strings_Builder, 2) := hB.shape
    have hf := hB.frozen0
    obtain ⟨i, hi, hz⟩ := Option.map_eq_some_iff.1 in373
    have e1 : (convert ty_p_strings_Builder ty_unsafe_Pointer (ptr b 0)).run pg w = .ok (ptr b 0) w := Lib.run_to_unsafe w ⟨b, 0, none⟩ un371 un560 hi (by omega) hs (by show 0 < 2; omega)
    have e2 : (convert ty_unsafe_Pointer ty_p_strings_Builder (ptr b 0)).run pg w = .ok (ptr b 0) w := Lib.run_from_unsafe w ⟨b, 0, none⟩ un560 un371 hi hs (by kernel_rfl)
    have e3 : (callFunc n_internal_abi_NoEscape [ptr b 0].toArray).run pg w = .ok (.value (ptr b 0)) w := by kernel_rfl
    simp only [Ld, hc, EqNil_p0, IfV_true, V_eq e1, V_eq e2, CallX, e3, St, hf, plainV]
    refine ⟨trivial, rfl, trivial, ?_⟩
    exact h _ (hB.used (ptr b 0)) (setCell_below hB.1) (by simp [sz, World.setCell])
  · have hc := hB.cell0
    obtain ⟨i, hi, hz⟩ := Option.map_eq_some_iff.1 in373
    simp only [Ld, hc, EqNil_p1, IfV_false]
    have e : (do eqGuard .neq ty_p_strings_Builder (.tmp 17) (.tmp 18) (ptr b 0) (ptr b 0); binOp .neq ty_p_strings_Builder (ptr b 0) (ptr b 0) : Sem Value).run pg w = .ok (.bool false) w := by
      have := Lib.run_neq_ptr_same (P := pg) w ⟨b, 0, none⟩ un371 hi
      simp [eqGuard, this]
    simp only [V_eq e, IfV_false]
    exact h w hB (Below.refl _ _) rfl

theorem c_WriteString {base b : Nat} {l s : List UInt8} {w : World} {K : Value → World → Prop} (hB : IsB base b l w) (hb : base ≤ sz w) (hl : l.length + s.length ≤ 140737488355328)
    (h : ∀ w', IsB base b (l ++ s) w' → Below base w w' → K (.tuple #[N s.length, .nilIface]) w') : CallF pg n_strings_Builder_WriteString [ptr b 0, Str s] w K := by
  apply ln_strings_Builder_WriteString
  simp only [sh_strings_Builder_WriteString]
  apply c_copyCheck hB
  intro w1 hB1 hw1 hz1
  simp only [NilCk_ptr, FA_ptr]
  obtain ⟨hbb, v, hbk, hown, hne⟩ := hB1
  have hc1 : w1.cell? ⟨b, 0 + 1, none⟩ = some v := by rw [Lib.cell_of_heap hbk]; rfl
  simp only [Ld, hc1]
  obtain ⟨i, hi, hz⟩ := Option.map_eq_some_iff.1 in5
  have hiz := in5z; rw [hi] at hiz; simp at hiz hz
  obtain ⟨v', w2, hrun, hown2, hgr, _⟩ := Lib.run_append_own_string (P := pg) w1 base ty_s_uint8 9 ty_s_uint8 5 i un236 un9 hi hiz hz.1 hz.2 v _ _ hown ⟨⟨s⟩⟩
    (by simp [size_mk, maxLen]; omega) (by simp [size_mk]; omega) (by rw [show w1.heap.size = sz w1 from rfl, hz1]; exact hb)
  simp only [V_eq hrun]
  have hbk2 : w2.heap[b]? = some (.cells #[ptr b 0, v] ty_strings_Builder (0, 0)) := by rw [hgr.block b (lt_of_gb hbk) (fun e => hne e.symm)]; exact hbk
  have hc2 : w2.cell? ⟨b, 0 + 1, none⟩ = some v := by rw [Lib.cell_of_heap hbk2]; rfl
  have hf2 : w2.frozen? ⟨b, 0 + 1, none⟩ = false := Lib.frozen_of_heap hbk2 _
  have hp : plainV v' = true := by
    rcases hown2.2 with ⟨rfl, _⟩ | ⟨g, cap, cur, rfl, _⟩ <;> rfl
  simp only [St, hc2, hf2, hp, LenS_Str]
  refine ⟨trivial, rfl, trivial, ?_⟩
  have hown3 : w2.ownsRow base 5 1 v' ((l ++ s).map Y).length ((l ++ s).map Y) := by
    have : ((l ++ s).map Y) = l.map Y ++ Lib.strCells ⟨⟨s⟩⟩ := by simp [Lib.strCells]
    rw [this]
    have e : (l.map Y ++ Lib.strCells ⟨⟨s⟩⟩).length = (l.map Y).length + (⟨⟨s⟩⟩ : ByteArray).size := by simp [Lib.strCells_length]
    rw [e]; exact hown2
  refine h _ (.inr (Lib.BuilderAt.put hbb hbk2 hown3 (by decide))) ?_
  refine Below.trans hw1 (Below.trans (b := w2) ?_ (setCell_below hbb))
  exact ⟨hgr.os, hgr.tape, hgr.output, hgr.size, fun k hk => by
    rcases Nat.lt_or_ge k w1.heap.size with h1 | h1
    · refine hgr.block k h1 (fun e => ?_)
      have := (World.ownsRow.lt hown k e.symm).1
      omega
    · exfalso; rw [show w1.heap.size = sz w1 from rfl, hz1] at h1; omega⟩

theorem c_Builder_String {base b : Nat} {l : List UInt8} {w : World} {K : Value → World → Prop} (hB : IsB base b l w) (hb : base ≤ sz w)
    (h : ∀ w', Below base w w' → K (Str l) w') : CallF pg n_strings_Builder_String [ptr b 0] w K := by
  refine Calls.mono (Tryz.Builder_String_any base b l w hB hb) ?_
  rintro e w' ⟨rfl, hw⟩
  exact h w' hw

theorem V_appendStr {base n : Nat} {v : Value} {xs l : List UInt8} {w : World} {K : Value → World → Prop} (ho : Own w base 5 1 v n (xs.map Y)) (hb : base ≤ sz w) (hl : n + l.length ≤ 140737488355328)
    (hk : ∀ v' w', Own w' base 5 1 v' (n + l.length) ((xs ++ l).map Y) → w.grownBy w' v.ownBlock → K v' w') : V pg (Builtin.append_ #[ty_s_uint8, 9] ty_s_uint8 [v, Str l].toArray) w K := by
  obtain ⟨i, hi, hz⟩ := Option.map_eq_some_iff.1 in5
  have hiz := in5z; rw [hi] at hiz; simp at hiz hz
  obtain ⟨v', w2, hrun, hown2, hgr, _⟩ := Lib.run_append_own_string (P := pg) w base ty_s_uint8 9 ty_s_uint8 5 i un236 un9 hi hiz hz.1 hz.2 v _ _ ho ⟨⟨l⟩⟩
    (by simp [size_mk, maxLen]; omega) (by simp [size_mk]; omega) hb
  rw [V_eq hrun]
  refine hk _ _ ?_ hgr
  have : ((xs ++ l).map Y) = xs.map Y ++ Lib.strCells ⟨⟨l⟩⟩ := by simp only [List.map_append]; rfl
  rw [this]
  exact hown2
end Go.Proofs.Tryz

namespace Go.Proofs.Tryz
open Go Go.Lad
open Go.RowKit (Below)
set_option autoImplicit false
set_option maxRecDepth 100000
set_option linter.unusedSimpArgs false

theorem st_236 : SlT pg ty_s_uint8 5 1 1 [.int .u8 0] := ⟨by kernel_rfl, by kernel_rfl, rfl, by decide⟩
@[simp] theorem cv_5_3 {b : UInt8} {w : World} {K : Value → World → Prop} : V pg (convert 5 3 (Y b)) w K = K (N b.toNat) w := by
  have := V_conv (P := pg) (w := w) (K := K) (src := 5) (dst := 3) (k := .i64) (j := .u8) (n := (b.toNat : Int)) (by kernel_rfl) (by kernel_rfl)
  have h := b.toNat_lt
  rw [i64_nat _ (by omega)] at this
  exact this
theorem wrap_u8N (n : Nat) : IntKind.u8.wrap (n : Int) = ((UInt8.ofNat n).toNat : Int) := by rw [IntKind.wrap_u8]; simp
@[simp] theorem cv_3_5 {n : Nat} {w : World} {K : Value → World → Prop} : V pg (convert 3 5 (N n)) w K = K (Y (UInt8.ofNat n)) w := by
  have := V_conv (P := pg) (w := w) (K := K) (src := 3) (dst := 5) (k := .u8) (j := .i64) (n := (n : Int)) (by kernel_rfl) (by kernel_rfl)
  rw [wrap_u8N] at this
  exact this

theorem c_octet_there {s : List UInt8} {at_ : Nat} {w : World} {K : Value → World → Prop}
    (h : K (B (decide (at_ ≤ s.length))) w) : CallF pg n_octet_there [Str s, N at_] w K := by
  apply ln_octet_there
  simpa [sh_octet_there] using h

/-- an error value (api.Err), and one at a place (api.Fault) -/
abbrev eErr (n : Nat) : Value := .iface ty_api_Errno (N n)
abbrev eFault (at_ : Nat) (n : Nat) : Value := .iface ty_api_Fault (.agg #[N at_, eErr n])

theorem c_octet_fault {at_ n : Nat} {w : World} {K : Value → World → Prop}
    (h : K (eFault at_ n) w) : CallF pg n_octet_fault [N at_, eErr n] w K := by
  apply ln_octet_fault
  have : (Instr.build ty_api_Fault [(0, N at_), (1, eErr n)].toArray).run pg w = .ok (.agg #[N at_, eErr n]) w := by kernel_rfl
  simp only [sh_octet_fault, V_eq this]
  exact h

/-- a short number's bytes -/
def shortL (n : Nat) : List UInt8 :=
  if h : n < 128 then [UInt8.ofNat n] else UInt8.ofNat (n % 128 + 128) :: shortL (n / 128)
termination_by n
decreasing_by omega

theorem shortL_length : ∀ (j n : Nat), n < 128 ^ (j + 1) → (shortL n).length ≤ j + 1 := by
  intro j
  induction j with
  | zero => intro n h; rw [shortL, dif_pos (by omega)]; simp
  | succ j ih =>
    intro n h
    rw [shortL]
    split
    · simp
    · simp only [List.length_cons]
      have := ih (n / 128) (by rw [Nat.div_lt_iff_lt_mul (by omega)]; rwa [← Nat.pow_succ])
      omega
theorem shortL_le {n : Nat} (h : n < 72057594037927936) : (shortL n).length ≤ 8 := shortL_length 7 n (by simpa using h)
theorem and127 (m : Nat) : m &&& 127 = m % 128 := Nat.and_two_pow_sub_one_eq_mod m 7
theorem or128 (m : Nat) : m % 128 ||| 128 = m % 128 + 128 := by
  have h7 : m % 128 < 2 ^ 7 := by omega
  have := Nat.two_pow_add_eq_or_of_lt h7 1
  rw [Nat.or_comm]; simp at this; omega

theorem c_octet_short {n : Nat} (hn : n < 72057594037927936) {w : World} {K : Value → World → Prop}
    (h : ∀ w', Up w w' → K (Str (shortL n)) w') : CallF pg n_octet_short [N n] w K := by
  apply ln_octet_short
  simp only [sh_octet_short]
  refine LoopV_of (fun xs w' => ∃ (m : Nat) (v : Value) (k : Nat) (l : List UInt8), xs = [N m, v] ∧ m < 72057594037927936 ∧ Own w' (sz w) 5 1 v k (l.map Y) ∧ Up w w' ∧ l ++ shortL m = shortL n)
    (fun xs _ => natOf (xs.headD undef)) ⟨n, .slice none 0 0, 0, [], rfl, hn, Own.nil .., Up.refl _, rfl⟩ ?_
  rintro k1 T w' ⟨m, v, k, l, hT, hm, ho, hu, hl⟩ hk1
  simp only [temps, List.cons.injEq, and_true] at hT
  obtain ⟨h0, h3⟩ := hT
  have hk : k ≤ 8 := by have h1 := ho.1; have h2 := congrArg List.length hl; have h3 := shortL_le hn; simp at h1 h2; omega
  simp (disch := omega) [h0, h3]
  split
  · rename_i hge
    rw [and127, Bin_or_N _ _ (by omega), cv_3_5, or128]
    refine V_push (cs := [Y (UInt8.ofNat (m % 128 + 128))]) st_236 ho rfl rfl rfl hu.size (by omega) (by omega) ?_
    intro s v' w1 ho' hg
    refine hk1 _ _ ⟨m / 128, _, k + 1, l ++ [UInt8.ofNat (m % 128 + 128)], rfl, by omega, by simpa only [List.map_append, List.map_cons, List.map_nil] using ho', hu.push hg ho (Nat.le_refl _), ?_⟩ ?_
    · rw [← hl]; conv => rhs; rw [shortL]
      simp [show ¬ m < 128 by omega]
    · simp [temps, h0]; omega
  · rename_i hge
    refine V_push (cs := [Y (UInt8.ofNat m)]) st_236 ho rfl rfl rfl hu.size (by omega) (by omega) ?_
    intro s v' w1 ho' hg
    refine V_bts (e := 5) (l := l ++ [UInt8.ofNat m]) (by kernel_rfl) (by kernel_rfl) (by kernel_rfl) (by simpa using ho'.sl) ?_
    have : shortL n = l ++ [UInt8.ofNat m] := by rw [← hl]; rw [shortL]; simp [show m < 128 by omega]
    rw [← this]
    exact h _ (hu.push hg ho (Nat.le_refl _))

/-! reading -/
/-- what a read tells -/
inductive Rd (α : Type) where
  | ok (x : α) (next : Nat)
  | bad (at_ code : Nat)
def Rd.val {α : Type} (f : α → Value) (z : Value) (at_ : Nat) : Rd α → Value
  | .ok x n => .tuple #[f x, N n, .nilIface]
  | .bad p c => .tuple #[z, N at_, eFault p c]

def shortFrom (s : List UInt8) (at_ : Nat) : (fuel i x : Nat) → Rd Nat
  | 0, _, _ => .bad s.length 3
  | n + 1, i, x =>
    let c := (bat s (at_ + i)).toNat
    let x' := x + (c % 128) * 2 ^ (7 * i)
    if 128 ≤ c ∧ i = 7 then .bad at_ 4
    else if 128 ≤ c then shortFrom s at_ n (i + 1) x'
    else if c = 0 ∧ 0 < i then .bad at_ 4
    else .ok x' (at_ + i + 1)
/-- a short number that is read -/
def rdShort (s : List UInt8) (at_ : Nat) : Rd Nat := if at_ ≤ s.length then shortFrom s at_ (s.length - at_) 0 0 else .bad at_ 1

theorem and127_8 (c : UInt8) : (c &&& 127).toNat = c.toNat % 128 := by
  simp; exact Nat.and_two_pow_sub_one_eq_mod _ 7
theorem or_add (x c i : Nat) (hx : x < 2 ^ i) : x ||| c * 2 ^ i = x + c * 2 ^ i := by
  have := Nat.two_pow_add_eq_or_of_lt hx c
  rw [Nat.mul_comm] at this
  rw [Nat.or_comm]; omega
theorem c_octet_Short {s : List UInt8} {at_ : Nat} (hs : s.length < 1099511627776) {w : World} {K : Value → World → Prop}
    (h : K ((rdShort s at_).val N (N 0) at_) w) : CallF pg n_octet_Short [Str s, N at_] w K := by
  apply ln_octet_Short
  simp only [sh_octet_Short]
  apply c_octet_there
  unfold rdShort at h
  by_cases hat : at_ ≤ s.length
  · rw [if_pos hat] at h
    simp (disch := omega) [hat]
    refine LoopV_of (fun xs w' => w' = w ∧ ∃ (i x : Nat), xs = [Str s, N at_, N x, N (s.length - at_), N i] ∧ i ≤ s.length - at_ ∧ i ≤ 7 ∧ x < 2 ^ (7 * i) ∧
        shortFrom s at_ (s.length - at_ - i) i x = shortFrom s at_ (s.length - at_) 0 0)
      (fun xs _ => s.length - natOf (xs.getD 4 undef)) ?_ ?_
    · exact ⟨rfl, 0, 0, rfl, by omega, by omega, by simp, rfl⟩
    · rintro k1 T w' ⟨rfl, i, x, hT, hi, hi7, hx, he⟩ hk1
      simp only [temps, List.cons.injEq, and_true] at hT
      obtain ⟨h0, h1, h7, h21, h22⟩ := hT
      rw [← he] at h
      by_cases hlt : i < s.length - at_
      · have hc := (bat s (at_ + i)).toNat_lt
        have hp : 2 ^ (7 * i) ≤ 2 ^ 49 := Nat.pow_le_pow_right (by omega) (by omega)
        have hb : (bat s (at_ + i)).toNat % 128 * 2 ^ (7 * i) ≤ 127 * 2 ^ 49 := Nat.mul_le_mul (by omega) hp
        obtain ⟨n, hn⟩ : ∃ n, s.length - at_ - i = n + 1 := ⟨s.length - at_ - i - 1, by omega⟩
        rw [hn, shortFrom] at h
        simp (disch := omega) only [h0, h1, h22, h21, h7, hlt, Bin_lss_N, decide_true, IfV_true, Bin_add_N, IxStr_N, Bin_and_Y, cv_5_3, Bin_mul_N, and127_8, Shf_shl_N, Bin_or_N, or_add _ _ _ hx, Bin_geq_Y]
        have h128 : (UInt8.toNat 128) = 128 := rfl
        rw [h128]
        generalize hcc : bat s (at_ + i) = c at *
        by_cases hge : 128 ≤ c.toNat
        · by_cases h7 : i = 7
          · simp [hge, h7] at h
            simp [hge, h7, sh_octet_Short_j1]
            exact c_octet_fault h
          · simp [hge, h7] at h
            simp (disch := omega) [hge, h7, sh_octet_Short_j1]
            refine hk1 _ _ ⟨rfl, i + 1, _, rfl, by omega, by omega, ?_, ?_⟩ (by simp [temps, h22]; omega)
            · have : 7 * (i + 1) = 7 * i + 7 := by omega
              rw [this, Nat.pow_add]
              have : c.toNat % 128 * 2 ^ (7 * i) ≤ 127 * 2 ^ (7 * i) := Nat.mul_le_mul_right _ (by omega)
              omega
            · rw [← he, hn, shortFrom, hcc]
              simp [hge, h7]
              rw [show s.length - at_ - (i + 1) = n by omega]
        · simp only [hge, if_false, false_and] at h
          have hz : (c = 0) ↔ c.toNat = 0 := by rw [← UInt8.toNat_inj]; rfl
          by_cases hc0 : c.toNat = 0
          · by_cases hi0 : 0 < i
            · simp [hc0, hi0] at h
              simp (disch := omega) [hge, hz, hc0, hi0, sh_octet_Short_j1]
              exact c_octet_fault h
            · simp [hc0, hi0] at h
              simp (disch := omega) [hge, hz, hc0, hi0, sh_octet_Short_j1]
              exact h
          · simp [hc0] at h
            simp (disch := omega) [hge, hz, hc0, sh_octet_Short_j1]
            exact h
      · have : s.length - at_ - i = 0 := by omega
        rw [this, shortFrom] at h
        simp [h0, h1, h22, h21, h7, hlt]
        apply c_octet_fault
        exact h
  · rw [if_neg hat] at h
    simp [hat]
    apply c_octet_fault
    exact h

theorem c_octet_PutShort {n : Nat} (hn : n < 72057594037927936) {w : World} {K : Value → World → Prop}
    (h : ∀ w', Up w w' → K (.tuple #[Str (shortL n), .nilIface]) w') : CallF pg n_octet_PutShort [N n] w K := by
  apply ln_octet_PutShort
  simp only [sh_octet_PutShort]
  have h1 : ¬ 72057594037927935 < n := by omega
  simp [h1]
  exact c_octet_short hn h
theorem c_octet_PutShort_big {n : Nat} (hn : ¬ n < 72057594037927936) {w : World} {K : Value → World → Prop}
    (h : K (.tuple #[Str [], eErr 2]) w) : CallF pg n_octet_PutShort [N n] w K := by
  apply ln_octet_PutShort
  simp only [sh_octet_PutShort]
  have h1 : 72057594037927935 < n := by omega
  simpa [h1] using h

/-- a number's n bytes -/
def fixedL : Nat → Nat → List UInt8
  | 0, _ => []
  | n + 1, x => UInt8.ofNat x :: fixedL n (x / 256)
theorem fixedL_length (n x : Nat) : (fixedL n x).length = n := by
  induction n generalizing x with
  | zero => rfl
  | succ n ih => simp [fixedL, ih]
theorem fixedL_get (n x i : Nat) (hi : i < n) : (fixedL n x)[i]? = some (UInt8.ofNat (x / 2 ^ (8 * i))) := by
  induction n generalizing x i with
  | zero => omega
  | succ n ih =>
    cases i with
    | zero => simp [fixedL]
    | succ i =>
      simp only [fixedL, List.getElem?_cons_succ]
      rw [ih _ _ (by omega), Nat.div_div_eq_div_mul, show 8 * (i + 1) = 8 + 8 * i by omega, Nat.pow_add]

theorem c_octet_PutFixed {n x : Nat} (h1 : 1 ≤ n) (h7 : n ≤ 7) (hx : x < 2 ^ (8 * n)) {w : World} {K : Value → World → Prop}
    (h : ∀ w', Up w w' → K (.tuple #[Str (fixedL n x), .nilIface]) w') : CallF pg n_octet_PutFixed [N n, N x] w K := by
  apply ln_octet_PutFixed
  simp only [sh_octet_PutFixed]
  have e1 : ¬ n < 1 := by omega
  have e2 : ¬ 7 < n := by omega
  have e3 : x / 2 ^ (8 * n) = 0 := Nat.div_eq_of_lt hx
  simp (disch := omega) [e1, e2, sh_octet_PutFixed_j1, e3]
  refine V_make st_236 (base := sz w) (Nat.le_refl _) (by omega) (by omega) ?_
  intro v w1 ho hu
  rw [ho.sl.lenL]
  refine LoopV_of (fun xs w' => ∃ (i : Nat) (l : List UInt8), xs = [N x, v, N n, N i] ∧ i ≤ n ∧ l.length = n ∧ Own w' (sz w) 5 1 v n (l.map Y) ∧ Up w w' ∧ sz w' = sz w1 ∧ l.take i = (fixedL n x).take i)
    (fun xs _ => n - natOf (xs.getD 3 undef)) ⟨0, List.replicate n 0, rfl, by omega, by simp, ?_, hu, rfl, by simp⟩ ?_
  · have : (List.replicate n [Value.int IntKind.u8 0]).flatten = (List.replicate n (0 : UInt8)).map Y := by
      rw [List.map_replicate]
      have : Y 0 = Value.int .u8 0 := rfl
      rw [this]
      exact List.flatten_replicate_singleton
    rw [← this]; exact ho
  · rintro k1 T w' ⟨i, l, hT, hi, hl, ho, hu, hz, ht⟩ hk1
    simp only [temps, List.cons.injEq, and_true] at hT
    obtain ⟨h0, h3, h4, h5⟩ := hT
    by_cases hlt : i < n
    · simp (disch := omega) only [h0, h3, h4, h5, Bin_lss_N, hlt, decide_true, IfV_true, Bin_mul_N, Shf_shr_N, cv_3_5]
      refine Own.ixset ho rfl hlt ?_
      intro p w2 ho2 hg hz2
      simp (disch := omega) only [Bin_add_N]
      refine hk1 _ _ ⟨i + 1, l.set i (UInt8.ofNat (x / 2 ^ (8 * i))), rfl, by omega, by simpa using hl, by simpa only [List.map_set] using ho2, hu.push hg ho (Nat.le_refl _), by omega, ?_⟩ (by simp [temps, h5]; omega)
      rw [List.take_add_one, List.take_add_one, List.take_set_of_le (Nat.le_refl _), ht, List.getElem?_set_self (by omega), fixedL_get _ _ _ hlt]
    · simp (disch := omega) only [h0, h3, h4, h5, Bin_lss_N, hlt, decide_false, IfV_false]
      have : l = fixedL n x := by
        have hi' : i = n := by omega
        rw [hi'] at ht
        rwa [List.take_of_length_le (by omega), List.take_of_length_le (by rw [fixedL_length]; omega)] at ht
      subst this
      exact V_bts (e := 5) (by kernel_rfl) (by kernel_rfl) (by kernel_rfl) ho.sl (h _ hu)

/-- texts' bytes -/
def textL : List (List UInt8) → List UInt8
  | [] => []
  | s :: l => shortL s.length ++ s ++ textL l
theorem textL_append (a : List (List UInt8)) (s : List UInt8) : textL (a ++ [s]) = textL a ++ (shortL s.length ++ s) := by
  induction a with
  | nil => simp [textL]
  | cons x a ih => simp [textL, ih]
theorem textL_length (a : List (List UInt8)) (m : Nat) (h : ∀ s ∈ a, s.length ≤ m) (hm : m < 72057594037927936) : (textL a).length ≤ a.length * (m + 8) := by
  induction a with
  | nil => simp [textL]
  | cons x a ih =>
    have h1 := h x (by simp)
    have h2 := shortL_le (n := x.length) (by omega)
    have h3 := ih (fun s hs => h s (by simp [hs]))
    simp only [textL, List.length_append, List.length_cons, Nat.add_mul]
    omega

theorem c_octet_PutText {l : List (List UInt8)} {v : Value} {n : Nat} {w : World} (hv : Sl w 1 v n (l.map Str)) (hn : n ≤ 1048576) (hl : ∀ s ∈ l, s.length ≤ 67108864) {K : Value → World → Prop}
    (h : ∀ w', Up w w' → K (Str (textL l)) w') : CallF pg n_octet_PutText [v] w K := by
  apply ln_octet_PutText
  simp only [sh_octet_PutText, New]
  have hnl : l.length = n := by have := hv.len; simpa using this
  rw [hv.lenL]
  refine LoopV_of (fun xs w' => ∃ (i : Nat), xs = [ptr (sz w) 0, v, N n, N i] ∧ i ≤ n ∧ IsB (sz w) (sz w) (textL (l.take i)) w' ∧ Below (sz w) w w')
    (fun xs _ => n - natOf (xs.getD 3 undef)) ⟨0, rfl, by omega, Lib.fresh_isBuilder ty_strings_Builder 5 w, ?_⟩ ?_
  · exact ((Up.refl w).alloc _).below
  · rintro k1 T w' ⟨i, hT, hi, hB, hu⟩ hk1
    simp only [temps, List.cons.injEq, and_true] at hT
    obtain ⟨h0, h3, h4, h5⟩ := hT
    have hv' : Sl w' 1 v n (l.map Str) := hv.Up (ex_of_below hu)
    by_cases hlt : i < n
    · simp (disch := omega) only [h0, h3, h4, h5, Bin_lss_N, hlt, decide_true, IfV_true]
      have hget : (l.map Str)[i]? = some (Str l[i]) := by simp [List.getElem?_eq_getElem (show i < l.length by omega)]
      have hs := hl l[i] (List.getElem_mem _)
      refine hv'.ix1 hget fun p => ?_
      simp only [LenS_Str]
      refine c_octet_short (by omega) fun w2 hu2 => ?_
      have h8 := shortL_le (n := l[i].length) (by omega)
      rw [BinS_add _ _ (by omega)]
      have hB2 : IsB (sz w) (sz w) (textL (l.take i)) w2 := hB.up hu2
      have htl := textL_length (l.take i) 67108864 (fun s hs => hl s (List.mem_of_mem_take hs)) (by omega)
      have hti : (l.take i).length ≤ 1048576 := by simp; omega
      have : (l.take i).length * (67108864 + 8) ≤ 1048576 * (67108864 + 8) := Nat.mul_le_mul_right _ hti
      refine c_WriteString hB2 (Nat.le_trans hu.size hu2.size) (by simp; omega) fun w3 hB3 hw3 => ?_
      simp (disch := omega) only [Bin_add_N]
      refine hk1 _ _ ⟨i + 1, rfl, by omega, ?_, Below.trans hu (Below.trans (b := w2) (hu2.below.mono hu.size) hw3)⟩ (by simp [temps, h5]; omega)
      rw [List.take_add_one, List.getElem?_eq_getElem (show i < l.length by omega), Option.toList_some, textL_append]
      exact hB3
    · simp (disch := omega) only [h0, h3, h4, h5, Bin_lss_N, hlt, decide_false, IfV_false]
      rw [List.take_of_length_le (by omega)] at hB
      refine c_Builder_String hB hu.size fun w2 hw2 => ?_
      exact h _ (ex_of_below (Below.trans hu hw2))

/-! turned numbers, fixed numbers, texts: reading -/
def turnN (x : Int) : Nat := if x < 0 then (-2 * x - 1).toNat else (2 * x).toNat
def backI (x : Nat) : Int := if x % 2 = 1 then -((x / 2 : Nat) : Int) - 1 else ((x / 2 : Nat) : Int)
theorem c_octet_PutTurned {x : Int} (h1 : -36028797018963968 ≤ x) (h2 : x < 36028797018963968) {w : World} {K : Value → World → Prop}
    (h : ∀ w', Up w w' → K (.tuple #[Str (shortL (turnN x)), .nilIface]) w') : CallF pg n_octet_PutTurned [I x] w K := by
  apply ln_octet_PutTurned
  have e1 : ¬ x < -36028797018963968 := by omega
  have e2 : ¬ (36028797018963968 : Int) ≤ x := by omega
  have n1 : N 36028797018963968 = I 36028797018963968 := rfl
  have n0 : N 0 = I 0 := rfl
  have n2 : N 2 = I 2 := rfl
  have n3 : N 1 = I 1 := rfl
  simp only [sh_octet_PutTurned, n1, Bin_lss, Bin_geq, e1, e2, decide_false, IfV_false]
  apply ln_octet_Turn
  simp only [sh_octet_Turn, n1, n0, n2, n3, Bin_lss, Bin_geq, e1, e2, decide_false, IfV_false]
  by_cases hx : x < 0
  · simp only [hx, decide_true, IfV_true, Bin_mul, Bin_sub]
    rw [wrap64 (x := -2 * x) (by omega), wrap64 (x := -2 * x - 1) (by omega)]
    have e : (-2 * x - 1) = ((turnN x : Nat) : Int) := by simp only [turnN, hx, if_true]; omega
    rw [e]
    exact c_octet_short (by simp only [turnN, hx, if_true]; omega) h
  · simp only [hx, decide_false, IfV_false, Bin_mul]
    rw [wrap64 (x := 2 * x) (by omega)]
    have e : (2 * x) = ((turnN x : Nat) : Int) := by simp only [turnN, hx, if_false]; omega
    rw [e]
    exact c_octet_short (by simp only [turnN, hx, if_false]; omega) h

/-- a number's bytes, read -/
def leN : List UInt8 → Nat
  | [] => 0
  | b :: l => b.toNat + 256 * leN l
theorem leN_append (a : List UInt8) (b : UInt8) : leN (a ++ [b]) = leN a + b.toNat * 2 ^ (8 * a.length) := by
  induction a with
  | nil => simp [leN]
  | cons x a ih =>
    simp only [List.cons_append, leN, ih, List.length_cons, show 8 * (a.length + 1) = 8 + 8 * a.length by omega, Nat.pow_add]
    rw [Nat.mul_add, Nat.add_assoc]; congr 2
    rw [← Nat.mul_assoc, ← Nat.mul_assoc, Nat.mul_comm 256 b.toNat]
theorem leN_lt (a : List UInt8) : leN a < 2 ^ (8 * a.length) := by
  induction a with
  | nil => simp [leN]
  | cons x a ih =>
    have := x.toNat_lt
    simp only [leN, List.length_cons, show 8 * (a.length + 1) = 8 + 8 * a.length by omega, Nat.pow_add]
    omega
theorem c_octet_Fixed {s : List UInt8} {at_ n : Nat} {w : World} {K : Value → World → Prop} (h1 : 1 ≤ n) (h7 : n ≤ 7) (h4 : at_ + n ≤ s.length) (hs : s.length < 1099511627776)
    (h : K (.tuple #[N (leN ((s.drop at_).take n)), N (at_ + n), .nilIface]) w) : CallF pg n_octet_Fixed [Str s, N at_, N n] w K := by
  apply ln_octet_Fixed
  simp only [sh_octet_Fixed]
  apply c_octet_there
  have e0 : at_ ≤ s.length := by omega
  have e1 : ¬ n < 1 := by omega
  have e2 : ¬ 7 < n := by omega
  have e3 : ¬ s.length - at_ < n := by omega
  simp (disch := omega) [e0, e1, e2, e3, sh_octet_Fixed_j1]
  refine LoopV_of (fun xs w' => w' = w ∧ ∃ i, xs = [Str s, N at_, N n, N (leN ((s.drop at_).take i)), N n, N i] ∧ i ≤ n)
    (fun xs _ => n - natOf (xs.getD 5 undef)) ⟨rfl, 0, rfl, by omega⟩ ?_
  rintro k1 T w' ⟨rfl, i, hT, hi⟩ hk1
  simp only [temps, List.cons.injEq, and_true] at hT
  obtain ⟨t0, t1, t2, t9, t40, t41⟩ := hT
  by_cases hlt : i < n
  · have hlen : ((s.drop at_).take i).length = i := by simp; omega
    have hle := leN_lt ((s.drop at_).take i)
    rw [hlen] at hle
    have hc := (bat s (at_ + i)).toNat_lt
    have hp : 2 ^ (8 * i) ≤ 2 ^ 48 := Nat.pow_le_pow_right (by omega) (by omega)
    have hb : (bat s (at_ + i)).toNat * 2 ^ (8 * i) ≤ 255 * 2 ^ 48 := Nat.mul_le_mul (by omega) hp
    simp (disch := omega) only [t0, t1, t2, t9, t40, t41, Bin_lss_N, hlt, decide_true, IfV_true, Bin_add_N, IxStr_N, cv_5_3, Bin_mul_N, Shf_shl_N, Bin_or_N]
    rw [or_add _ _ _ hle]
    refine hk1 _ _ ⟨rfl, i + 1, ?_, by omega⟩ (by simp [temps, t41]; omega)
    have hg : (s.drop at_)[i]? = some (bat s (at_ + i)) := by
      rw [List.getElem?_drop]
      simp [bat, List.getElem?_eq_getElem (show at_ + i < s.length by omega)]
    rw [List.take_add_one, hg, Option.toList_some, leN_append, hlen]
  · have : i = n := by omega
    subst this
    simp (disch := omega) only [t0, t1, t2, t9, t40, t41, Bin_lss_N, hlt, decide_false, IfV_false, Bin_add_N]
    exact h
end Go.Proofs.Tryz

