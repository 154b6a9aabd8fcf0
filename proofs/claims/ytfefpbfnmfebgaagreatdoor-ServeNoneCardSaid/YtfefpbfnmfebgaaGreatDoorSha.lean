/- Part of a proof (its text Sha): what is proved stands in the text Card. -/
import Derived.Test.YtfefpbfnmfebgaaGreatDoorFormsSha
import Derived.Test.YtfefpbfnmfebgaaGreatDoorOctet
set_option linter.all false
namespace Go.Proofs.Tryz
open Go Go.Lad
open Go.RowKit (Below)
set_option autoImplicit false
set_option maxRecDepth 100000
set_option linter.unusedSimpArgs false

def rotr (x : UInt32) (n : Nat) : UInt32 := (x <<< UInt32.ofNat (32 - n)) ||| (x >>> UInt32.ofNat n)
theorem c_sha_right {x : UInt32} {n : Nat} (h1 : 1 ≤ n) (h2 : n ≤ 31) {w : World} {K : Value → World → Prop} (h : K (W (rotr x n)) w) : CallF pg n_sha_right [W x, N n] w K := by
  apply ln_sha_right
  have e1 : (Op.unary .neg (N n)).run pg w = .ok (I (-(n : Int))) w := by
    simp [Op.unary, N, Op.intArith, -N_cast]
    rw [wrap64 (by omega)]
  simp only [sh_sha_right, V_eq e1]
  apply ln_math_bits_RotateLeft32
  have e2 : IntKind.u64.wrap (-(n : Int)) = ((18446744073709551616 - n : Nat) : Int) := by rw [IntKind.wrap_u64]; omega
  simp only [sh_math_bits_RotateLeft32]
  rw [V_conv (k := .u64) (by kernel_rfl) (by kernel_rfl), e2]
  have e3 : ∀ K1 : Value → Prop, Bin .and .u64 (.int .u64 ((18446744073709551616 - n : Nat) : Int)) (Q 31) K1 = K1 (.int .u64 ((32 - n : Nat) : Int)) := by
    intro K1
    have := u64_and_nat (18446744073709551616 - n) 31 (by omega) (by omega)
    have e4 : (18446744073709551616 - n) &&& 31 = 32 - n := by
      rw [show (31 : Nat) = 2 ^ 5 - 1 from rfl, Nat.and_two_pow_sub_one_eq_mod]; omega
    unfold Q Bin; simp only [true_and]
    exact congrArg (fun n => K1 (.int .u64 n)) (this.trans (by rw [e4]))
  rw [e3, Shf_shl_W _ _ _ (by omega)]
  have e5 : ∀ K1 : Value → Prop, Bin .sub .u64 (Q 32) (.int .u64 ((32 - n : Nat) : Int)) K1 = K1 (.int .u64 ((n : Nat) : Int)) := by
    intro K1
    unfold Q; rw [Bin_sub, IntKind.wrap_u64]
    congr 2; omega
  rw [e5, Shf_shr_W _ _ _ (by omega), Bin_or_W]
  exact h

/-! the words -/
def word (l : List UInt8) (i : Nat) : UInt32 :=
  (((UInt32.ofNat (bat l (4 * i)).toNat <<< UInt32.ofNat 24) ||| (UInt32.ofNat (bat l (4 * i + 1)).toNat <<< UInt32.ofNat 16)) ||| (UInt32.ofNat (bat l (4 * i + 2)).toNat <<< UInt32.ofNat 8)) ||| UInt32.ofNat (bat l (4 * i + 3)).toNat
def words (l : List UInt8) : Nat → List UInt32
  | 0 => []
  | n + 1 => words l n ++ [word l n]
theorem words_length (l : List UInt8) (n : Nat) : (words l n).length = n := by induction n with | zero => rfl | succ n ih => simp [words, ih]
def nextW (ws : List UInt32) (i : Nat) : UInt32 :=
  wat ws (i - 16) + ((rotr (wat ws (i - 15)) 7 ^^^ rotr (wat ws (i - 15)) 18) ^^^ (wat ws (i - 15) >>> UInt32.ofNat 3)) + wat ws (i - 7) + ((rotr (wat ws (i - 2)) 17 ^^^ rotr (wat ws (i - 2)) 19) ^^^ (wat ws (i - 2) >>> UInt32.ofNat 10))
def spreadL : Nat → List UInt32 → List UInt32
  | 0, ws => ws
  | n + 1, ws => spreadL n (ws ++ [nextW ws ws.length])
theorem spreadL_length (n : Nat) (ws : List UInt32) : (spreadL n ws).length = ws.length + n := by
  induction n generalizing ws with
  | zero => rfl
  | succ n ih => simp [spreadL, ih]; omega

theorem wat_left (a b : List UInt32) (i : Nat) (h : i < a.length) : wat (a ++ b) i = wat a i := by
  simp [wat, List.getElem?_append_left h]
theorem set_next (a : List UInt32) (x : UInt32) (n : Nat) : ((a ++ List.replicate (n + 1) 0).map W).set a.length (W x) = ((a ++ [x]) ++ List.replicate n 0).map W := by
  rw [← List.map_set, List.set_append_right _ _ (Nat.le_refl _)]
  simp [List.replicate_succ]

@[simp] theorem cv_5_464 {b : UInt8} {w : World} {K : Value → World → Prop} : V pg (convert 5 ty_uint32 (Y b)) w K = K (W (UInt32.ofNat b.toNat)) w := by
  have := V_conv (P := pg) (w := w) (K := K) (src := 5) (dst := ty_uint32) (k := .u32) (j := .u8) (n := (b.toNat : Int)) (by kernel_rfl) (by kernel_rfl)
  have h := b.toNat_lt
  have e : IntKind.u32.wrap (b.toNat : Int) = ((UInt32.ofNat b.toNat).toNat : Int) := by rw [IntKind.wrap_u32]; simp; omega
  rw [e] at this
  exact this

theorem c_sha_spread {l : List UInt8} {v : Value} {n : Nat} {w : World} (hv : Sl w 1 v n (l.map Y)) (hl : 64 ≤ l.length) (hn : n < 1099511627776) {K : Value → World → Prop}
    (h : ∀ w', Up w w' → K (.agg ((spreadL 48 (words l 16)).map W).toArray) w') : CallF pg n_sha_spread [v] w K := by
  apply ln_sha_spread
  have hln : l.length = n := by have := hv.len; simpa using this
  simp only [sh_sha_spread, New]
  refine LoopV_of (fun xs w' => ∃ i, xs = [v, ptr (sz w) 0, ptr (sz w + 1) 0, N i] ∧ i ≤ 16 ∧ Up w w' ∧ Arr w' (sz w) ty_sha_table (List.replicate 64 (W 0)) ∧ Arr w' (sz w + 1) ty_sha_table ((words l i ++ List.replicate (64 - i) 0).map W))
    (fun xs _ => 16 - natOf (xs.getD 3 undef)) ?_ ?_
  · refine ⟨0, ?_, by omega, ((Up.refl w).alloc _).alloc _, ?_, ?_⟩
    · simp [sz]
    · exact Arr.up (w := w.alloc _) Arr.new ((Up.refl _).alloc _)
    · have := Arr.new (w := w.alloc (.cells (List.replicate 64 (W 0)).toArray ty_sha_table)) (t := ty_sha_table) (cs := List.replicate 64 (W 0))
      rw [sz_alloc] at this
      exact this
  · rintro k1 T w' ⟨i, hT, hi, hu, hA, hB⟩ hk1
    simp only [temps, List.cons.injEq, and_true] at hT
    obtain ⟨h0, h2, h3, h8⟩ := hT
    by_cases hlt : i < 16
    · have hv1 := (hv.Up hu).Up (Up.drew (Up.refl w'))
      simp (disch := omega) only [h0, h2, h3, h8, Bin_lss_N, hlt, decide_true, IfV_true, Drew, Bin_mul_N, Bin_add_N]
      have hb : ∀ j, j < l.length → (l.map Y)[j]? = some (Y (bat l j)) := by
        intro j hj; simp [bat, List.getElem?_eq_getElem hj]
      refine hv1.ix1 (hb (4 * i) (by omega)) fun p => ?_
      simp (disch := omega) only [true_and, cv_5_464, Shf_shl_Wlit]
      refine hv1.ix1 (hb (4 * i + 1) (by omega)) fun p => ?_
      simp (disch := omega) only [true_and, cv_5_464, Shf_shl_Wlit, Bin_or_W]
      refine hv1.ix1 (hb (4 * i + 2) (by omega)) fun p => ?_
      simp (disch := omega) only [true_and, cv_5_464, Shf_shl_Wlit, Bin_or_W]
      refine hv1.ix1 (hb (4 * i + 3) (by omega)) fun p => ?_
      simp (disch := omega) only [true_and, cv_5_464, Bin_or_W, IxA_N, Nat.mul_one]
      refine (show Arr w'.drew _ _ _ from hB).st rfl (by simp [words_length]; omega) fun w2 e2 hB2 => ?_
      refine hk1 _ _ ⟨i + 1, rfl, by omega, up_put hu.drew e2 (by omega), arr_put (show Arr w'.drew _ _ _ from hA) e2 (by omega), ?_⟩ (by simp [temps, h8]; omega)
      have e := set_next (words l i) (word l i) (64 - (i + 1))
      rw [words_length, show 64 - (i + 1) + 1 = 64 - i by omega] at e
      simp only [words]
      rw [← e]
      exact hB2
    · have hi16 : i = 16 := by omega
      subst hi16
      simp (disch := omega) only [h0, h2, h3, h8, Bin_lss_N, hlt, decide_false, IfV_false]
      refine LoopV_of (fun xs w' => ∃ (ws : List UInt32), xs = [ptr (sz w) 0, ptr (sz w + 1) 0, N ws.length] ∧ 16 ≤ ws.length ∧ ws.length ≤ 64 ∧ spreadL (64 - ws.length) ws = spreadL 48 (words l 16) ∧ Up w w' ∧
          Arr w' (sz w) ty_sha_table (List.replicate 64 (W 0)) ∧ Arr w' (sz w + 1) ty_sha_table ((ws ++ List.replicate (64 - ws.length) 0).map W))
        (fun xs _ => 64 - natOf (xs.getD 2 undef)) ⟨words l 16, by rw [words_length], by simp [words_length], by simp [words_length], by rw [words_length], hu, hA, by rw [words_length]; exact hB⟩ ?_
      rintro k2 T2 w2 ⟨ws, hT, hw1, hw2, hs, hu, hA, hB⟩ hk2
      simp only [temps, List.cons.injEq, and_true] at hT
      obtain ⟨g2, g3, g5⟩ := hT
      by_cases hlt : ws.length < 64
      · simp (disch := omega) only [g2, g3, g5, Bin_lss_N, hlt, decide_true, IfV_true, Drew, Bin_sub_N, IxA_N, Nat.mul_one]
        have hB1 : Arr w2.drew (sz w + 1) ty_sha_table ((ws ++ List.replicate (64 - ws.length) 0).map W) := hB
        have hld : ∀ (w3 : World), Arr w3 (sz w + 1) ty_sha_table ((ws ++ List.replicate (64 - ws.length) 0).map W) → ∀ j, j < ws.length → ∀ K, Ld (ptr (sz w + 1) j) w3 K = K (W (wat ws j)) w3 := by
          intro w3 h3 j hj K
          have := map_wat (ws ++ List.replicate (64 - ws.length) 0) j (by simp; omega)
          rw [wat_left _ _ _ hj] at this
          exact h3.ld this
        have hld1 := hld _ hB1
        have hld2 := hld w2.drew.drew hB
        simp (disch := omega) only [hld1, hld2, true_and, Shf_shr_Wlit, Bin_xor_W, Bin_add_W]
        refine c_sha_right (by omega) (by omega) ?_
        simp (disch := omega) only [hld1, hld2, true_and, Bin_xor_W, Bin_add_W]
        refine c_sha_right (by omega) (by omega) ?_
        simp (disch := omega) only [hld1, hld2, true_and, Bin_xor_W, Bin_add_W]
        refine c_sha_right (by omega) (by omega) ?_
        simp (disch := omega) only [hld1, hld2, true_and, Bin_xor_W, Bin_add_W]
        refine c_sha_right (by omega) (by omega) ?_
        simp (disch := omega) only [hld1, hld2, true_and, Bin_xor_W, Bin_add_W, Bin_add_N]
        refine (show Arr w2.drew.drew _ _ _ from hB).st rfl (by simp; omega) fun w4 e4 hB4 => ?_
        refine hk2 _ _ ⟨ws ++ [nextW ws ws.length], by simp, by simp; omega, by simp; omega, ?_, up_put hu.drew.drew e4 (by omega), arr_put (show Arr w2.drew.drew _ _ _ from hA) e4 (by omega), ?_⟩ (by simp [temps, g5]; omega)
        · rw [← hs, show 64 - ws.length = (64 - (ws ++ [nextW ws ws.length]).length) + 1 by simp; omega]; rfl
        · have e := set_next ws (nextW ws ws.length) (64 - (ws.length + 1))
          rw [show 64 - (ws.length + 1) + 1 = 64 - ws.length by omega] at e
          rw [List.length_append, List.length_singleton, ← e]
          exact hB4
      · have h64 : ws.length = 64 := by omega
        simp (disch := omega) only [g2, g3, g5, Bin_lss_N, hlt, decide_false, IfV_false]
        rw [h64] at hB hs
        simp only [Nat.sub_self, List.replicate_zero, List.append_nil] at hB
        refine hB.ldAll (by simpa using h64) ?_
        refine hA.stAll (by simpa using h64) (by simp) (W_plain _) fun w3 e3 hA3 => ?_
        refine hA3.ldAll (by simpa using h64) ?_
        rw [show ws = spreadL 48 (words l 16) from hs]
        exact h _ (up_put hu e3 (by omega))

/-! one piece -/
def kL : List UInt32 := [1116352408, 1899447441, 3049323471, 3921009573, 961987163, 1508970993, 2453635748, 2870763221, 3624381080, 310598401, 607225278, 1426881987, 1925078388, 2162078206, 2614888103, 3248222580, 3835390401, 4022224774, 264347078, 604807628, 770255983, 1249150122, 1555081692, 1996064986, 2554220882, 2821834349, 2952996808, 3210313671, 3336571891, 3584528711, 113926993, 338241895, 666307205, 773529912, 1294757372, 1396182291, 1695183700, 1986661051, 2177026350, 2456956037, 2730485921, 2820302411, 3259730800, 3345764771, 3516065817, 3600352804, 4094571909, 275423344, 430227734, 506948616, 659060556, 883997877, 958139571, 1322822218, 1537002063, 1747873779, 1955562222, 2024104815, 2227730452, 2361852424, 2428436474, 2756734187, 3204031479, 3329325298]
def rnd (s : List UInt32) (k w : UInt32) : List UInt32 :=
  let t1 := wat s 7 + ((rotr (wat s 4) 6 ^^^ rotr (wat s 4) 11) ^^^ rotr (wat s 4) 25) + ((wat s 4 &&& wat s 5) ^^^ (~~~(wat s 4) &&& wat s 6)) + k + w
  let t2 := ((rotr (wat s 0) 2 ^^^ rotr (wat s 0) 13) ^^^ rotr (wat s 0) 22) + (((wat s 0 &&& wat s 1) ^^^ (wat s 0 &&& wat s 2)) ^^^ (wat s 1 &&& wat s 2))
  [t1 + t2, wat s 0, wat s 1, wat s 2, wat s 3 + t1, wat s 4, wat s 5, wat s 6]
def rnds (ws s : List UInt32) : Nat → List UInt32
  | 0 => s
  | n + 1 => rnd (rnds ws s n) (wat kL n) (wat ws n)
theorem rnds_length (ws s : List UInt32) (h : s.length = 8) (n : Nat) : (rnds ws s n).length = 8 := by
  cases n with
  | zero => exact h
  | succ n => rfl
def addTo (s c : List UInt32) : Nat → List UInt32
  | 0 => s
  | n + 1 => (addTo s c n).set n (wat (addTo s c n) n + wat c n)
theorem addTo_length (s c : List UInt32) (n : Nat) : (addTo s c n).length = s.length := by induction n with | zero => rfl | succ n ih => simp [addTo, ih]
/-- what a piece of 64 bytes makes of the words -/
def takeL (c : List UInt32) (l : List UInt8) : List UInt32 := addTo (rnds (spreadL 48 (words l 16)) c 64) c 8
theorem takeL_length (c : List UInt32) (l : List UInt8) (h : c.length = 8) : (takeL c l).length = 8 := by
  unfold takeL; rw [addTo_length, rnds_length _ _ h]

theorem un_not (x : UInt32) (w : World) : (Op.unary .xor (W x)).run pg w = .ok (W (~~~x)) w := by
  have e : UInt32.ofNat 4294967295 ^^^ x = ~~~x := by
    rw [← UInt32.toBitVec_inj]
    show BitVec.ofNat 32 4294967295 ^^^ x.toBitVec = ~~~ x.toBitVec
    have : BitVec.ofNat 32 4294967295 = BitVec.allOnes 32 := by decide
    rw [this, BitVec.allOnes_xor]
  have h := u32_xor_nat 4294967295 x.toNat (by omega) x.toNat_lt
  have h2 : (4294967295 ^^^ x.toNat : Nat) = (~~~x).toNat := by rw [← e]; simp
  rw [h2] at h
  have : (Op.unary .xor (W x)).run pg w = .ok (.int .u32 (bits .xor .u32 4294967295 (x.toNat : Int))) w := rfl
  rw [this]
  exact congrArg (fun n => Result.ok (Value.int .u32 n) w) h

theorem V_pure {s : Sem Value} {v : Value} {w : World} {K : Value → World → Prop} (h : ∀ w, s.run pg w = .ok v w) : V pg s w K = K v w := V_eq (h w)

theorem build_466 (x0 x1 x2 x3 x4 x5 x6 x7 : UInt32) (w : World) : (Instr.build ty_sha_chain [(0, W x0), (1, W x1), (2, W x2), (3, W x3), (4, W x4), (5, W x5), (6, W x6), (7, W x7)].toArray).run pg w = .ok (.agg [W x0, W x1, W x2, W x3, W x4, W x5, W x6, W x7].toArray) w := by kernel_rfl
set_option maxHeartbeats 1000000 in
theorem c_sha_take {c : List UInt32} (hc : c.length = 8) {l : List UInt8} {v : Value} {n kb : Nat} {w : World} (hk : Arr w kb ty_sha_table (kL.map W)) (hv : Sl w 1 v n (l.map Y)) (hl : 64 ≤ l.length) (hn : n < 1099511627776) {K : Value → World → Prop}
    (h : ∀ w', Up w w' → K (.agg ((takeL c l).map W).toArray) w') : CallF pg n_sha_chain_take [.agg (c.map W).toArray, ptr kb 0, v] w K := by
  apply ln_sha_chain_take
  simp only [sh_sha_chain_take]
  refine New_of fun w1 u1 A1 z1 => ?_
  rw [show (Value.cells (.agg (c.map W).toArray)).toList = c.map W from rfl] at A1
  refine New_of fun w2 u2 A2 z2 => ?_
  refine c_sha_spread ((hv.Up u1).Up u2) hl hn fun w3 u3 => ?_
  have hws : (spreadL 48 (words l 16)).length = 64 := by rw [spreadL_length, words_length]
  unfold takeL at h
  generalize spreadL 48 (words l 16) = ws at hws h ⊢
  refine New_of fun w4 u4 A4 z4 => ?_
  refine A4.stAll (by simpa using hws) rfl (W_plain _) fun w5 e5 A4 => ?_
  have A1' := ((A1.up u2).up u3).up u4
  have A2' := (A2.up u3).up u4
  have hz3 := u3.size
  have lt4 := u4.size
  refine (arr_put A1' e5 (by omega)).ldAll (by simpa using hc) ?_
  have z5 : sz w5 = sz w4 := by rw [e5]; simp
  refine New_of fun w6 u6 A7 z6 => ?_
  refine A7.stAll (by simpa using hc) rfl (W_plain _) fun w7 e7 A7 => ?_
  have q1 : Arr w7 (sz w) ty_sha_chain (c.map W) := arr_put ((arr_put A1' e5 (by omega)).up u6) e7 (by omega)
  have q2 : Arr w7 (sz w1) ty_sha_chain [W 0, W 0, W 0, W 0, W 0, W 0, W 0, W 0] := arr_put ((arr_put A2' e5 (by omega)).up u6) e7 (by omega)
  have q4 : Arr w7 (sz w3) ty_sha_table (ws.map W) := arr_put (A4.up u6) e7 (by omega)
  have qu : Up w w7 := up_put ((up_put (((u1.trans u2).trans u3).trans u4) e5 (by omega)).trans u6) e7 (by omega)
  have zw5 := z5
  generalize hb1 : sz w = b1 at *
  generalize hb2 : sz w1 = b2 at *
  generalize hb4 : sz w3 = b4 at *
  generalize hb7 : sz w5 = b7 at *
  refine LoopV_of (fun xs w' => ∃ i, xs = [ptr kb 0, ptr b1 0, ptr b2 0, ptr b4 0, ptr b7 0, N i] ∧ i ≤ 64 ∧ Up w w' ∧ Arr w' b1 ty_sha_chain (c.map W) ∧ Arr w' b2 ty_sha_chain [W 0, W 0, W 0, W 0, W 0, W 0, W 0, W 0] ∧ Arr w' b4 ty_sha_table (ws.map W) ∧ Arr w' b7 ty_sha_chain ((rnds ws c i).map W))
    (fun xs _ => 64 - natOf (xs.getD 5 undef)) ⟨0, rfl, by omega, qu, q1, q2, q4, A7⟩ ?_
  clear A1 A2 A4 A1' A2' q1 q2 q4 qu A7
  rintro k1 T w8 ⟨i, hT, hi, hu, q1, q2, q4, q7⟩ hk1
  simp only [temps, List.cons.injEq, and_true] at hT
  obtain ⟨g1, g3, g6, g7, g8, g18⟩ := hT
  by_cases hlt : i < 64
  · have hs8 := rnds_length ws c hc i
    generalize hss : rnds ws c i = s at *
    have qk : Arr w8 kb ty_sha_table (kL.map W) := hk.up hu
    have l7 : ∀ (w9 : World), gb w9 b7 = gb w8 b7 → ∀ j, j < 8 → ∀ K, Ld (ptr b7 j) w9 K = K (W (wat s j)) w9 := by
      intro w9 e j hj K
      exact (show Arr w9 b7 ty_sha_chain (s.map W) from e.trans q7).ld (map_wat s j (by omega))
    have l4 : ∀ (w9 : World), gb w9 b4 = gb w8 b4 → ∀ j, j < 64 → ∀ K, Ld (ptr b4 j) w9 K = K (W (wat ws j)) w9 := by
      intro w9 e j hj K
      exact (show Arr w9 b4 ty_sha_table (ws.map W) from e.trans q4).ld (map_wat ws j (by omega))
    have lk : ∀ (w9 : World), gb w9 kb = gb w8 kb → ∀ j, j < 64 → ∀ K, Ld (ptr kb j) w9 K = K (W (wat kL j)) w9 := by
      intro w9 e j hj K
      exact (show Arr w9 kb ty_sha_table (kL.map W) from e.trans qk).ld (map_wat kL j (by simpa [kL] using hj))
    have r1 := l7 w8.drew rfl
    have r2 := l7 w8.drew.drew rfl
    have r3 := l7 w8.drew.drew.drew rfl
    have r4 := l4 w8.drew.drew rfl
    have r5 := lk w8.drew.drew rfl
    simp (disch := omega) only [g1, g3, g6, g7, g8, g18, Bin_lss_N, hlt, decide_true, IfV_true, Drew, IxA_N, Nat.mul_one, Nat.zero_mul, Nat.one_mul, r1, r2, r4, r5, true_and, Bin_and_W, V_pure (un_not _), Bin_xor_W, NilCk_ptr]
    refine c_sha_right (by omega) (by omega) ?_
    simp (disch := omega) only [r1, r2, r3, r4, r5, true_and, and_true, Bin_xor_W, Bin_add_W, Bin_and_W]
    refine c_sha_right (by omega) (by omega) ?_
    simp (disch := omega) only [r1, r2, r3, r4, r5, true_and, and_true, Bin_xor_W, Bin_add_W, Bin_and_W]
    refine c_sha_right (by omega) (by omega) ?_
    simp (disch := omega) only [r1, r2, r3, r4, r5, true_and, and_true, Bin_xor_W, Bin_add_W, Bin_and_W]
    refine c_sha_right (by omega) (by omega) ?_
    simp (disch := omega) only [r1, r2, r3, r4, r5, true_and, and_true, Bin_xor_W, Bin_add_W, Bin_and_W]
    refine c_sha_right (by omega) (by omega) ?_
    simp (disch := omega) only [r1, r2, r3, r4, r5, true_and, and_true, Bin_xor_W, Bin_add_W, Bin_and_W]
    refine c_sha_right (by omega) (by omega) ?_
    simp (disch := omega) only [r1, r2, r3, r4, r5, true_and, and_true, Bin_xor_W, Bin_add_W, Bin_and_W]
    rw [V_eq (build_466 _ _ _ _ _ _ _ _ _)]
    have q7d : Arr w8.drew.drew.drew b7 ty_sha_chain (s.map W) := q7
    refine q7d.stAll ?_ (by simpa using hs8) ?_ ?_
    · rfl
    · rfl
    intro w9 e9 q7'
    simp (disch := omega) only [Bin_add_N]
    refine hk1 _ _ ⟨i + 1, rfl, by omega, up_put hu.drew.drew.drew e9 (by omega), arr_put (show Arr w8.drew.drew.drew _ _ _ from q1) e9 (by omega), arr_put (show Arr w8.drew.drew.drew _ _ _ from q2) e9 (by omega), arr_put (show Arr w8.drew.drew.drew _ _ _ from q4) e9 (by omega), ?_⟩ (by simp [temps, g18]; omega)
    rw [rnds, hss]; exact q7'
  · have h64 : i = 64 := by omega
    subst h64
    simp (disch := omega) only [g1, g3, g6, g7, g8, g18, Bin_lss_N, hlt, decide_false, IfV_false]
    generalize hss : rnds ws c 64 = s at *
    have hs8 : s.length = 8 := by rw [← hss]; exact rnds_length ws c hc 64
    refine LoopV_of (fun xs w' => ∃ i, xs = [ptr b1 0, ptr b2 0, ptr b7 0, N i] ∧ i ≤ 8 ∧ Up w w' ∧ Arr w' b1 ty_sha_chain (c.map W) ∧ Arr w' b2 ty_sha_chain [W 0, W 0, W 0, W 0, W 0, W 0, W 0, W 0] ∧ Arr w' b7 ty_sha_chain ((addTo s c i).map W))
      (fun xs _ => 8 - natOf (xs.getD 3 undef)) ⟨0, rfl, by omega, hu, q1, q2, q7⟩ ?_
    rintro k2 T2 w9 ⟨i, hT, hi, hu, q1, q2, q7⟩ hk2
    simp only [temps, List.cons.injEq, and_true] at hT
    obtain ⟨g3, g6, g8, g100⟩ := hT
    by_cases hlt : i < 8
    · have hla := addTo_length s c i
      have r7 : ∀ j, j < 8 → ∀ K, Ld (ptr b7 j) w9.drew K = K (W (wat (addTo s c i) j)) w9.drew := fun j hj K =>
        (show Arr w9.drew b7 ty_sha_chain ((addTo s c i).map W) from q7).ld (map_wat _ j (by omega))
      have r1 : ∀ j, j < 8 → ∀ K, Ld (ptr b1 j) w9.drew K = K (W (wat c j)) w9.drew := fun j hj K =>
        (show Arr w9.drew b1 ty_sha_chain (c.map W) from q1).ld (map_wat _ j (by omega))
      simp (disch := omega) only [g3, g6, g8, g100, Bin_lss_N, hlt, decide_true, IfV_true, Drew, IxA_N, Nat.mul_one, r7, r1, true_and, Bin_add_W, Bin_add_N]
      refine (show Arr w9.drew b7 ty_sha_chain _ from q7).st rfl (by simp; omega) fun w10 e10 q7' => ?_
      refine hk2 _ _ ⟨i + 1, rfl, by omega, up_put hu.drew e10 (by omega), arr_put (show Arr w9.drew _ _ _ from q1) e10 (by omega), arr_put (show Arr w9.drew _ _ _ from q2) e10 (by omega), ?_⟩ (by simp [temps, g100]; omega)
      rw [addTo, List.map_set]; exact q7'
    · have h8 : i = 8 := by omega
      subst h8
      simp (disch := omega) only [g3, g6, g8, g100, Bin_lss_N, hlt, decide_false, IfV_false]
      have hla := addTo_length s c 8
      refine q7.ldAll (by simp; omega) ?_
      refine q2.stAll (by simp; omega) rfl (W_plain _) fun w10 e10 q2 => ?_
      refine q2.ldAll (by simp; omega) ?_
      exact h _ (up_put hu e10 (by omega))

/-! all pieces -/
def allL : Nat → List UInt32 → List UInt8 → List UInt32
  | 0, c, _ => c
  | n + 1, c, l => allL n (takeL c l) (l.drop 64)
theorem allL_length (n : Nat) (c : List UInt32) (l : List UInt8) (h : c.length = 8) : (allL n c l).length = 8 := by
  induction n generalizing c l with
  | zero => exact h
  | succ n ih => exact ih _ _ (takeL_length c l h)

theorem c_sha_all {c : List UInt32} (hc : c.length = 8) {l : List UInt8} {v : Value} {n kb : Nat} {w : World} (hk : Arr w kb ty_sha_table (kL.map W)) (hv : Sl w 1 v n (l.map Y)) (hn : n < 1099511627776) {K : Value → World → Prop}
    (h : ∀ w' v', Up w w' → Sl w' 1 v' (n - 64 * (n / 64)) ((l.drop (64 * (n / 64))).map Y) → (∀ b, InSl v' b → InSl v b) → K (.tuple #[.agg ((allL (n / 64) c l).map W).toArray, v']) w') : CallF pg n_sha_chain_all [.agg (c.map W).toArray, ptr kb 0, v] w K := by
  apply ln_sha_chain_all
  simp only [sh_sha_chain_all]
  refine New_of fun w1 u1 A1 z1 => ?_
  rw [show (Value.cells (.agg (c.map W).toArray)).toList = c.map W from rfl] at A1
  refine New_of fun w2 u2 A2 z2 => ?_
  have A1 := A1.up u2
  have hln : l.length = n := by have := hv.len; simpa using this
  have hlt2 : sz w < sz w1 := by omega
  refine LoopV_of (fun xs w' => ∃ (c' : List UInt32) (l' : List UInt8) (v' : Value), xs = [ptr kb 0, v', ptr (sz w) 0, ptr (sz w1) 0] ∧ c'.length = 8 ∧ Up w w' ∧ Sl w' 1 v' l'.length (l'.map Y) ∧ (∀ b, InSl v' b → InSl v b) ∧ l'.length ≤ n ∧
      Arr w' (sz w) ty_sha_chain (c'.map W) ∧ Arr w' (sz w1) ty_sha_chain [W 0, W 0, W 0, W 0, W 0, W 0, W 0, W 0] ∧ allL (l'.length / 64) c' l' = allL (n / 64) c l ∧ l'.drop (64 * (l'.length / 64)) = l.drop (64 * (n / 64)))
    (fun xs _ => sliceLen (xs.getD 1 undef)) ⟨c, l, v, rfl, hc, u1.trans u2, by rw [hln]; exact (hv.Up u1).Up u2, fun b hb => hb, by omega, A1, A2, by rw [hln], by rw [hln]⟩ ?_
  rintro k1 T w3 ⟨c', l', v', hT, hc', hu, hv', hin, hle, B1, B2, e1, e2⟩ hk1
  simp only [temps, List.cons.injEq, and_true] at hT
  obtain ⟨g1, g2, g3, g6⟩ := hT
  simp only [g1, g2, g3, g6]
  rw [hv'.lenL]
  by_cases hge : 64 ≤ l'.length
  · simp only [Bin_geq_N, hge, decide_true, IfV_true]
    refine B1.ldAll (by simpa using hc') ?_
    refine c_sha_take hc' (hk.up hu) hv' hge (by omega) fun w4 u4 => ?_
    refine (B1.up u4).stAll (by simpa using takeL_length c' l' hc') (by simpa using hc') (W_plain _) fun w5 e5 B1' => ?_
    have hv5 : Sl w5 1 v' l'.length (l'.map Y) := (hv'.Up u4).up (fun b hb hi => by
      rw [e5]; apply gb_putB_ne
      have := hv.lt (hin b hi)
      omega)
    refine V_sliceSlFrom st_236 hv5 hge fun v6 hv6 hin6 => ?_
    have hd : (l'.drop 64).length = l'.length - 64 := by simp
    have hq : l'.length / 64 = (l'.drop 64).length / 64 + 1 := by rw [hd]; omega
    refine hk1 _ _ ⟨takeL c' l', l'.drop 64, v6, rfl, takeL_length _ _ hc', up_put (hu.trans u4) e5 (Nat.le_refl _), ?_, fun b hb => hin b (hin6 b hb), by rw [hd]; omega, B1', arr_put (B2.up u4) e5 (by omega), ?_, ?_⟩ ?_
    · rw [hd, List.map_drop]; simpa using hv6
    · rw [← e1, hq]; rfl
    · rw [← e2, hq, List.drop_drop, Nat.mul_add]; congr 1; omega
    · simp only [temps, g2, List.getD_cons_succ, List.getD_cons_zero, hv6.slen, hv'.slen]
      omega
  · have hq : l'.length / 64 = 0 := by omega
    simp only [Bin_geq_N, hge, decide_false, IfV_false]
    refine B1.ldAll (by simpa using hc') ?_
    refine B2.stAll (by simpa using hc') rfl (W_plain _) fun w5 e5 B2' => ?_
    refine B2'.ldAll (by simpa using hc') ?_
    rw [hq] at e1 e2
    have e1' : c' = allL (n / 64) c l := e1
    have e2' : l' = l.drop (64 * (n / 64)) := by simpa using e2
    have hlen : l'.length = n - 64 * (n / 64) := by rw [e2']; simp [hln]
    rw [e1']
    refine h _ _ (up_put hu e5 (by omega)) ?_ hin
    rw [← e2', ← hlen]
    exact hv'.up (fun b hb hi => by
      rw [e5]; apply gb_putB_ne
      have := hv.lt (hin b hi)
      omega)

/-! the end -/
def beL (x : Nat) : Nat → List UInt8
  | 0 => []
  | j + 1 => beL x j ++ [UInt8.ofNat (x / 2 ^ (8 * (7 - j)))]
theorem beL_length (x j : Nat) : (beL x j).length = j := by induction j with | zero => rfl | succ j ih => simp [beL, ih]
def zerosN (n : Nat) : Nat := (56 + 64 - (n + 1) % 64) % 64
def endL (rest : List UInt8) (many : Nat) : List UInt8 := (rest ++ [128]) ++ List.replicate (zerosN rest.length) 0 ++ beL (8 * many) 8
theorem endL_length (rest : List UInt8) (many : Nat) : (endL rest many).length = rest.length + 1 + zerosN rest.length + 8 := by simp [endL, beL_length]; omega

theorem c_sha_end {l : List UInt8} {v : Value} {n many : Nat} {w : World} (hv : Sl w 1 v n (l.map Y)) (hn : n < 1099511627776) (hm : many < 1099511627776) {K : Value → World → Prop}
    (h : ∀ w' v' , Up w w' → Own w' (sz w) 5 1 v' (endL l many).length ((endL l many).map Y) → K v' w') : CallF pg n_sha_end [v, N many] w K := by
  apply ln_sha_end
  simp only [sh_sha_end]
  have hln : l.length = n := by have := hv.len; simpa using this
  have hY : ∀ l : List UInt8, (l.map Y).all plainV = true := by intro l; simp [show ∀ x, plainV (Y x) = true from fun _ => rfl]
  refine V_append st_236 (Own.nil w (sz w) 5 1) hv (hY l) (Nat.le_refl _) (by omega) fun v1 w1 ho1 hg1 => ?_
  have hu1 : Up w w1 := (Up.refl w).grow hg1 (by simp [Value.ownBlock])
  refine V_push (cs := [Y 128]) st_236 ho1 rfl rfl rfl hu1.size (by omega) (by omega) fun s2 v2 w2 ho2 hg2 => ?_
  have hu2 := hu1.push hg2 ho1 (Nat.le_refl _)
  have hz : zerosN l.length < 64 := Nat.mod_lt _ (by omega)
  have hz2 : (l.length + 1 + zerosN l.length) % 64 = 56 := by unfold zerosN; omega
  refine LoopV_of (fun xs w' => ∃ (v : Value) (j : Nat), xs = [N many, v] ∧ j ≤ zerosN l.length ∧ Up w w' ∧ Own w' (sz w) 5 1 v (l.length + 1 + j) (((l ++ [128]) ++ List.replicate j 0).map Y))
    (fun xs _ => zerosN l.length + l.length + 1 - sliceLen (xs.getD 1 undef)) ⟨v2, 0, rfl, by omega, hu2, by simpa [hln] using ho2⟩ ?_
  rintro k1 T w3 ⟨v3, j, hT, hj, hu3, ho3⟩ hk1
  simp only [temps, List.cons.injEq, and_true] at hT
  obtain ⟨g1, g5⟩ := hT
  simp only [g1, g5]
  rw [ho3.sl.lenL]
  simp (disch := omega) only [Bin_rem_N, Bin_neq_N]
  by_cases h56 : (l.length + 1 + j) % 64 = 56
  · have hjz : j = zerosN l.length := by omega
    simp only [h56, decide_true, Bool.not_true, IfV_false]
    refine LoopV_of (fun xs w' => ∃ (v c : Value) (i : Nat), xs = [N many, v, c] ∧ i ≤ 8 ∧ (i < 8 → c = N (7 - i)) ∧ (i = 8 → c = I (-1)) ∧ Up w w' ∧ Own w' (sz w) 5 1 v (l.length + 1 + j + i) ((((l ++ [128]) ++ List.replicate j 0) ++ beL (8 * many) i).map Y))
      (fun xs _ => 8 + j + l.length + 1 - sliceLen (xs.getD 1 undef)) ⟨v3, N 7, 0, rfl, by omega, fun _ => rfl, by omega, hu3, by simpa [beL] using ho3⟩ ?_
    rintro k2 T2 w4 ⟨v4, c, i, hT, hi, hc1, hc2, hu4, ho4⟩ hk2
    simp only [temps, List.cons.injEq, and_true] at hT
    obtain ⟨t1, t5, t6⟩ := hT
    by_cases hlt : i < 8
    · simp (disch := omega) only [t1, t5, t6, hc1 hlt, Bin_geq_N, Nat.zero_le, decide_true, IfV_true, Bin_mul_N, Shf_shr_N, cv_3_5]
      refine V_push (cs := [Y (UInt8.ofNat (8 * many / 2 ^ (8 * (7 - i))))]) st_236 ho4 rfl rfl rfl hu4.size (by omega) (by omega) fun s5 v5 w5 ho5 hg5 => ?_
      have hfin : ∀ c', (i + 1 < 8 → c' = N (7 - (i + 1))) → (i + 1 = 8 → c' = I (-1)) → k2 [N many, v5, c'] w5 := by
        intro c' q1 q2
        refine hk2 _ _ ⟨v5, c', i + 1, rfl, by omega, q1, q2, hu4.push hg5 ho4 (Nat.le_refl _), ?_⟩ ?_
        · have : (((l ++ [128]) ++ List.replicate j 0) ++ beL (8 * many) (i + 1)).map Y = (((l ++ [128]) ++ List.replicate j 0) ++ beL (8 * many) i).map Y ++ [Y (UInt8.ofNat (8 * many / 2 ^ (8 * (7 - i))))] := by
            simp only [beL, List.map_append, List.map_cons, List.map_nil, List.append_assoc]
          rw [this]; exact ho5
        · simp only [temps, t5, List.getD_cons_succ, List.getD_cons_zero, ho5.sl.slen, ho4.sl.slen]; omega
      by_cases h7 : i = 7
      · subst h7
        have e : ∀ K1 : Value → Prop, Bin .sub .i64 (N (7 - 7)) (N 1) K1 = K1 (I (-1)) := by
          intro K1; unfold N; rw [Bin_sub]; rfl
        rw [e]
        exact hfin _ (by omega) (fun _ => rfl)
      · simp (disch := omega) only [Bin_sub_N]
        exact hfin _ (fun _ => by rw [show 7 - i - 1 = 7 - (i + 1) by omega]) (by omega)
    · have h8 : i = 8 := by omega
      subst h8
      have e : ∀ K1 : Value → Prop, Bin .geq .i64 (I (-1)) (N 0) K1 = K1 (B false) := by
        intro K1; unfold N; rw [Bin_geq]; rfl
      simp only [t1, t5, t6, hc2 rfl, e, IfV_false]
      have hlen : (endL l many).length = l.length + 1 + j + 8 := by rw [endL_length, hjz]
      refine h _ _ hu4 ?_
      rw [hlen]
      unfold endL
      rw [← hjz]; exact ho4
  · simp only [h56, decide_false, Bool.not_false, IfV_true]
    have hjz : j < zerosN l.length := by
      rcases Nat.lt_or_ge j (zerosN l.length) with h1 | h1
      · exact h1
      · exfalso; have : j = zerosN l.length := by omega
        rw [this] at h56; omega
    refine V_push (cs := [Y 0]) st_236 ho3 rfl rfl rfl hu3.size (by omega) (by omega) fun s4 v4 w4 ho4 hg4 => ?_
    refine hk1 _ _ ⟨v4, j + 1, rfl, by omega, hu3.push hg4 ho3 (Nat.le_refl _), ?_⟩ ?_
    · have : ((l ++ [128]) ++ List.replicate (j + 1) 0).map Y = ((l ++ [128]) ++ List.replicate j 0).map Y ++ [Y 0] := by
        rw [List.replicate_succ']; simp only [List.map_append, List.map_cons, List.map_nil, List.append_assoc]
      rw [this]; exact ho4
    · simp only [temps, g5, List.getD_cons_succ, List.getD_cons_zero, ho4.sl.slen, ho3.sl.slen]; omega

/-! the state -/
def h0L : List UInt32 := [1779033703, 3144134277, 1013904242, 2773480762, 1359893119, 2600822924, 528734635, 1541459225]
theorem c_sha_k {w : World} {K : Value → World → Prop} (h : ∀ w', Up w w' → Arr w' (sz w) ty_sha_table (kL.map W) → sz w' = sz w + 1 → K (ptr (sz w) 0) w') : CallF pg n_sha_k [] w K := by
  apply ln_sha_k (u := undef)
  simp only [sh_sha_k]
  have eb : ∀ w, (Instr.build ty_sha_table [(0, (W 1116352408)), (1, (W 1899447441)), (2, (W 3049323471)), (3, (W 3921009573)), (4, (W 961987163)), (5, (W 1508970993)), (6, (W 2453635748)), (7, (W 2870763221)), (8, (W 3624381080)), (9, (W 310598401)), (10, (W 607225278)), (11, (W 1426881987)), (12, (W 1925078388)), (13, (W 2162078206)), (14, (W 2614888103)), (15, (W 3248222580)), (16, (W 3835390401)), (17, (W 4022224774)), (18, (W 264347078)), (19, (W 604807628)), (20, (W 770255983)), (21, (W 1249150122)), (22, (W 1555081692)), (23, (W 1996064986)), (24, (W 2554220882)), (25, (W 2821834349)), (26, (W 2952996808)), (27, (W 3210313671)), (28, (W 3336571891)), (29, (W 3584528711)), (30, (W 113926993)), (31, (W 338241895)), (32, (W 666307205)), (33, (W 773529912)), (34, (W 1294757372)), (35, (W 1396182291)), (36, (W 1695183700)), (37, (W 1986661051)), (38, (W 2177026350)), (39, (W 2456956037)), (40, (W 2730485921)), (41, (W 2820302411)), (42, (W 3259730800)), (43, (W 3345764771)), (44, (W 3516065817)), (45, (W 3600352804)), (46, (W 4094571909)), (47, (W 275423344)), (48, (W 430227734)), (49, (W 506948616)), (50, (W 659060556)), (51, (W 883997877)), (52, (W 958139571)), (53, (W 1322822218)), (54, (W 1537002063)), (55, (W 1747873779)), (56, (W 1955562222)), (57, (W 2024104815)), (58, (W 2227730452)), (59, (W 2361852424)), (60, (W 2428436474)), (61, (W 2756734187)), (62, (W 3204031479)), (63, (W 3329325298))].toArray).run pg w = .ok (.agg (kL.map W).toArray) w := by intro w; kernel_rfl
  rw [V_eq (eb w)]
  exact New_of fun w1 u1 A1 z1 => h _ u1 A1 z1

/-- a state that has taken these bytes -/
structure ShaAt (w : World) (lo b kb : Nat) (all : List UInt8) : Prop where
  hb : lo ≤ b
  hkb : lo ≤ kb
  hne : b ≠ kb
  hk : Arr w kb ty_sha_table (kL.map W)
  hr : ∃ vr, Arr w b ty_sha_State ((allL (all.length / 64) h0L all).map W ++ [ptr kb 0, vr, N all.length]) ∧ Own w lo 5 1 vr (all.drop (64 * (all.length / 64))).length ((all.drop (64 * (all.length / 64))).map Y)
theorem ShaAt.up {w w' : World} {lo b kb : Nat} {all : List UInt8} (h : ShaAt w lo b kb all) (u : Up w w') : ShaAt w' lo b kb all := by
  obtain ⟨h1, h2, h3, h4, vr, h5, h6⟩ := h
  exact ⟨h1, h2, h3, h4.up u, vr, h5.up u, Own.Up h6 u⟩

theorem c_sha_New {lo : Nat} {w : World} (hlo : lo ≤ sz w) {K : Value → World → Prop} (h : ∀ w' b kb, Up w w' → ShaAt w' lo b kb [] → K (ptr b 0) w') : CallF pg n_sha_New [] w K := by
  apply ln_sha_New (u := undef)
  simp only [sh_sha_New]
  rw [V_eq (build_466 _ _ _ _ _ _ _ _ _)]
  refine c_sha_k fun w1 u1 A1 z1 => ?_
  have eb : ∀ (q : Nat) (w : World), (Instr.build ty_sha_State [(0, .agg [W 1779033703, W 3144134277, W 1013904242, W 2773480762, W 1359893119, W 2600822924, W 528734635, W 1541459225].toArray), (1, ptr q 0)].toArray).run pg w = .ok (.agg [W 1779033703, W 3144134277, W 1013904242, W 2773480762, W 1359893119, W 2600822924, W 528734635, W 1541459225, ptr q 0, .slice none 0 0, N 0].toArray) w := by intro q w; kernel_rfl
  rw [V_eq (eb _ _)]
  refine New_of fun w2 u2 A2 z2 => ?_
  have hu1 := u1.size
  exact h _ _ _ (u1.trans u2) ⟨by omega, hlo, by omega, A1.up u2, .slice none 0 0, A2, Own.nil ..⟩

theorem V_makeY {n : Nat} {w : World} {K : Value → World → Prop} (hn : n < 1099511627776) (hk : ∀ v w' xs, Own w' (sz w) 5 1 v n xs → Up w w' → K v w') : V pg (Instr.makeSlice ty_s_uint8 (N n) (N n)) w K :=
  V_make st_236 (base := sz w) (Nat.le_refl _) (by omega) (by omega) fun v w' ho hu => hk v w' _ ho hu

theorem c_Write_j1 {k1 : List Value → World → Prop} {b nb kb lo : Nat} {c cz : List UInt32} {rest : List UInt8} {v old : Value} {m : Nat} {x10 x11 : Value} {i : Nat} {w : World} {K : Value → World → Prop}
    (hc : c.length = 8) (hcz : cz.length = 8) (hb : Arr w b ty_sha_State (cz.map W ++ [ptr kb 0, old, N m])) (hnb : Arr w nb ty_sha_chain (c.map W)) (hne : b ≠ nb) (hlb : lo ≤ b) (hv : Sl w 1 v rest.length (rest.map Y)) (hvb : ¬ InSl v b) (hr : rest.length < 1099511627776) (hi : i < 1099511627776) (hlo : lo ≤ sz w)
    (h : ∀ w' v', Below lo w w' → Arr w' b ty_sha_State (c.map W ++ [ptr kb 0, v', N m]) → Own w' lo 5 1 v' rest.length (rest.map Y) → (∀ q, q < sz w → q ≠ b → gb w' q = gb w q) → k1 [ptr b 0, x10, x11, N (i + 1)] w') :
    sh_sha_State_Write_j1 k1 (ptr b 0) (ptr nb 0) v x10 x11 (N i) w K := by
  have hY : ∀ l : List UInt8, (l.map Y).all plainV = true := by intro l; simp [show ∀ x, plainV (Y x) = true from fun _ => rfl]
  unfold sh_sha_State_Write_j1
  have hnb' : Arr w.drew nb ty_sha_chain (c.map W ++ []) := by rw [List.append_nil]; exact hnb
  have hb' : Arr w.drew b ty_sha_State (cz.map W ++ [ptr kb 0, old, N m]) := hb
  have ltb := hb.lt
  simp only [Drew, hnb'.ldPre (by simpa using hc), true_and]
  rw [hv.lenL]
  simp only [NilCk_ptr, FA_ptr, Nat.zero_add]
  -- the tail, common to both orders
  have tail : ∀ (w3 w5 : World) (vn : Value) (xs : List Value), w3 = w5 → True := fun _ _ _ _ _ => trivial
  clear tail
  refine ⟨?_, ?_⟩
  · refine V_makeY hr fun vn w2 xs ho hu => ?_
    have nb2 : Arr w2 nb ty_sha_chain (c.map W ++ []) := Arr.up hnb' hu
    simp only [nb2.ldPre (by simpa using hc), true_and, and_true]
    refine (Arr.up hb' hu).stN (by simpa using hc) (by simpa using hcz) (W_plain _) fun w3 e3 hb3 => ?_
    refine hb3.stAt (j := 1) ho.plain (by simp [hc]) (by simp) fun w4 e4 hb4 => ?_
    simp only [List.set_cons_succ, List.set_cons_zero] at hb4 e4
    rw [hb4.ldAt (j := 1) (by simp [hc]) (by rfl)]
    have hin : ∀ q, InSl vn q → sz w ≤ q := fun q hq => Own.inSl ho hq
    have ho4 : Own w4 (sz w.drew) 5 1 vn rest.length xs := (Own.up (Own.up ho (w' := w3) (fun q _ hq => by rw [e3]; exact gb_putB_ne (by have := hin q hq; omega)))) (fun q _ hq => by rw [e4]; exact gb_putB_ne (by have := hin q hq; omega))
    have keep4 : ∀ q, q < sz w → q ≠ b → gb w4 q = gb w q := fun q hq hqb => by rw [e4, gb_putB_ne hqb, e3, gb_putB_ne hqb]; exact hu.keep q hq
    have hv4 : Sl w4 1 v rest.length (rest.map Y) := hv.up fun q hq hqi => keep4 q hq (fun e => hvb (e ▸ hqi))
    refine V_copy st_236 ho4 hv4 (hY _) fun w5 ho5 hg5 hz5 => ?_
    simp (disch := omega) only [Bin_add_N]
    have hz4 : sz w4 = sz w2 := by rw [e4, e3]; simp
    have hsz := hu.size
    refine h w5 vn ?_ (arr_grown hb4 hg5 (fun hq => by have := hin _ hq; omega)) (ho5.mono (by simpa using hlo)) ?_
    · refine ⟨?_, ?_, ?_, ?_, ?_⟩
      · rw [hg5.os, e4, e3]; exact hu.os
      · rw [hg5.tape, e4, e3]; exact hu.tape
      · rw [hg5.output, e4, e3]; exact hu.output
      · show sz w ≤ sz w5; rw [hz5, hz4]; exact hu.size
      · intro q hq
        show gb w5 q = gb w q
        rw [show gb w5 q = gb w4 q from hg5.block q (by show q < sz w4; rw [hz4]; simp at hsz; omega) (fun e => by have := hin q e.symm; omega)]
        exact keep4 q (by omega) (by omega)
    · intro q hq hqb
      rw [show gb w5 q = gb w4 q from hg5.block q (by show q < sz w4; rw [hz4]; simp at hsz; omega) (fun e => by have := hin q e.symm; omega)]
      exact keep4 q hq hqb
  · refine hb'.stN (by simpa using hc) (by simpa using hcz) (W_plain _) fun w3 e3 hb3 => ?_
    refine V_makeY hr fun vn w2 xs ho hu => ?_
    have nb2 : Arr w2 nb ty_sha_chain (c.map W ++ []) := Arr.up (arr_put hnb' e3 (fun e => hne e.symm)) hu
    simp only [nb2.ldPre (by simpa using hc), true_and, and_true]
    refine (Arr.up hb3 hu).stAt (j := 1) ho.plain (by simp [hc]) (by simp) fun w4 e4 hb4 => ?_
    simp only [List.set_cons_succ, List.set_cons_zero] at hb4 e4
    rw [hb4.ldAt (j := 1) (by simp [hc]) (by rfl)]
    have hz3 : sz w3 = sz w := by rw [e3]; simp
    have hin : ∀ q, InSl vn q → sz w ≤ q := fun q hq => by have := Own.inSl ho hq; omega
    have ho4 : Own w4 (sz w3) 5 1 vn rest.length xs := (Own.up ho (fun q _ hq => by rw [e4]; exact gb_putB_ne (by have := hin q hq; omega)))
    have keep4 : ∀ q, q < sz w → q ≠ b → gb w4 q = gb w q := fun q hq hqb => by rw [e4, gb_putB_ne hqb, hu.keep q (by omega), e3, gb_putB_ne hqb]; rfl
    have hv4 : Sl w4 1 v rest.length (rest.map Y) := hv.up fun q hq hqi => keep4 q hq (fun e => hvb (e ▸ hqi))
    refine V_copy st_236 ho4 hv4 (hY _) fun w5 ho5 hg5 hz5 => ?_
    simp (disch := omega) only [Bin_add_N]
    have hz4 : sz w4 = sz w2 := by rw [e4]; simp
    have hsz := hu.size
    refine h w5 vn ?_ (arr_grown hb4 hg5 (fun hq => by have := hin _ hq; omega)) (ho5.mono (by omega)) ?_
    · refine ⟨?_, ?_, ?_, ?_, ?_⟩
      · rw [hg5.os, e4]; exact hu.os.trans (by rw [e3]; rfl)
      · rw [hg5.tape, e4]; exact hu.tape.trans (by rw [e3]; rfl)
      · rw [hg5.output, e4]; exact hu.output.trans (by rw [e3]; rfl)
      · show sz w ≤ sz w5; omega
      · intro q hq
        show gb w5 q = gb w q
        rw [show gb w5 q = gb w4 q from hg5.block q (by show q < sz w4; omega) (fun e => by have := hin q e.symm; omega)]
        exact keep4 q (by omega) (by omega)
    · intro q hq hqb
      rw [show gb w5 q = gb w4 q from hg5.block q (by show q < sz w4; omega) (fun e => by have := hin q e.symm; omega)]
      exact keep4 q hq hqb

/-! pieces, one behind the other -/
theorem allL_add (n m : Nat) (c : List UInt32) (l : List UInt8) : allL (n + m) c l = allL m (allL n c l) (l.drop (64 * n)) := by
  induction n generalizing c l with
  | zero => simp [allL]
  | succ n ih =>
    rw [Nat.succ_add]
    simp only [allL]
    rw [ih, List.drop_drop]
    congr 2; omega
theorem bat_append (l t : List UInt8) (i : Nat) (h : i < l.length) : bat (l ++ t) i = bat l i := by simp [bat, List.getElem?_append_left h]
theorem words_append (l t : List UInt8) : ∀ n, 4 * n ≤ l.length → words (l ++ t) n = words l n := by
  intro n
  induction n with
  | zero => intro _; rfl
  | succ n ih =>
    intro h
    simp only [words, ih (by omega), word]
    rw [bat_append _ _ _ (by omega), bat_append _ _ _ (by omega), bat_append _ _ _ (by omega), bat_append _ _ _ (by omega)]
theorem takeL_append (c : List UInt32) (l t : List UInt8) (h : 64 ≤ l.length) : takeL c (l ++ t) = takeL c l := by
  unfold takeL; rw [words_append l t 16 (by omega)]
theorem allL_append (n : Nat) (c : List UInt32) (l t : List UInt8) (h : 64 * n ≤ l.length) : allL n c (l ++ t) = allL n c l := by
  induction n generalizing c l with
  | zero => rfl
  | succ n ih =>
    simp only [allL]
    rw [takeL_append c l t (by omega), List.drop_append_of_le_length (by omega), ih _ _ (by simp; omega)]
/-- bytes taken piece by piece -/
theorem allL_more (a t : List UInt8) :
    allL (((a.drop (64 * (a.length / 64))) ++ t).length / 64) (allL (a.length / 64) h0L a) ((a.drop (64 * (a.length / 64))) ++ t) = allL ((a ++ t).length / 64) h0L (a ++ t) ∧
    ((a.drop (64 * (a.length / 64))) ++ t).drop (64 * (((a.drop (64 * (a.length / 64))) ++ t).length / 64)) = (a ++ t).drop (64 * ((a ++ t).length / 64)) := by
  have h1 : 64 * (a.length / 64) ≤ a.length := by omega
  have e : (a.drop (64 * (a.length / 64))) ++ t = (a ++ t).drop (64 * (a.length / 64)) := by rw [List.drop_append_of_le_length h1]
  have hl : (a ++ t).length / 64 = a.length / 64 + ((a ++ t).drop (64 * (a.length / 64))).length / 64 := by simp; omega
  rw [e]
  constructor
  · rw [hl, allL_add, allL_append _ _ _ _ h1]
  · rw [List.drop_drop, ← Nat.mul_add, ← hl]

set_option maxHeartbeats 1000000 in
theorem c_sha_Write {lo b kb : Nat} {all : List UInt8} {l : List (List UInt8)} {v : Value} {n : Nat} {w : World} (hs : ShaAt w lo b kb all) (hv : Sl w 1 v n (l.map Str)) (hvl : ∀ q, InSl v q → q < lo) (hlo : lo ≤ sz w)
    (hlen : all.length + l.flatten.length < 1099511627776) (hn : n < 1099511627776) {K : Value → World → Prop}
    (h : ∀ w', ShaAt w' lo b kb (all ++ l.flatten) → Below lo w w' → K (.tuple #[]) w') : CallF pg n_sha_State_Write [ptr b 0, v] w K := by
  apply ln_sha_State_Write
  simp only [sh_sha_State_Write, EqNil_p1, IfV_false]
  rw [hv.lenL]
  have hnl : l.length = n := by have := hv.len; simpa using this
  refine LoopV_of (fun xs w' => ∃ i, xs = [ptr b 0, v, N n, N i] ∧ i ≤ n ∧ ShaAt w' lo b kb (all ++ (l.take i).flatten) ∧ Below lo w w')
    (fun xs _ => n - natOf (xs.getD 3 undef)) ⟨0, rfl, by omega, by simpa using hs, Below.refl _ _⟩ ?_
  rintro k1 T w1 ⟨i, hT, hi, hs1, hw1⟩ hk1
  simp only [temps, List.cons.injEq, and_true] at hT
  obtain ⟨g0, g10, g11, g12⟩ := hT
  by_cases hlt : i < n
  · have hv1 : Sl w1 1 v n (l.map Str) := hv.up fun q _ hq => hw1.block q (hvl q hq)
    have hsz1 : lo ≤ sz w1 := Nat.le_trans hlo hw1.size
    simp only [g0, g10, g11, g12, Bin_lss_N, hlt, decide_true, IfV_true]
    have hget : (l.map Str)[i]? = some (Str l[i]) := by simp [List.getElem?_eq_getElem (show i < l.length by omega)]
    refine hv1.ix1 hget fun p => ?_
    have hfl : (l.take (i + 1)).flatten = (l.take i).flatten ++ l[i] := by
      rw [List.take_add_one, List.getElem?_eq_getElem (show i < l.length by omega)]
      simp only [Option.toList_some, List.flatten_append, List.flatten_cons, List.flatten_nil, List.append_nil]
    have hle : (l.take (i + 1)).flatten.length ≤ l.flatten.length := by
      conv => rhs; rw [← List.take_append_drop (i + 1) l, List.flatten_append, List.length_append]
      omega
    rw [hfl, List.length_append] at hle
    have hgoal : all ++ (l.take (i + 1)).flatten = (all ++ (l.take i).flatten) ++ l[i] := by rw [hfl, List.append_assoc]
    have hal : (all ++ (l.take i).flatten).length + l[i].length < 1099511627776 := by simp only [List.length_append]; omega
    generalize all ++ (l.take i).flatten = a at hs1 hgoal hal
    generalize l[i] = t at hgoal hal
    obtain ⟨hb, hkb, hne, hk, vr, hr, hown⟩ := hs1
    have hc := allL_length (a.length / 64) h0L a rfl
    have hmore := allL_more a t
    have hlast : (a.drop (64 * (a.length / 64))).length < 64 := by simp; omega
    have hra : (a.drop (64 * (a.length / 64))).length ≤ a.length := by simp
    generalize hcc : allL (a.length / 64) h0L a = c at *
    generalize hrr : a.drop (64 * (a.length / 64)) = rest at *
    simp (disch := omega) only [NilCk_ptr, FA_ptr, Nat.zero_add, LenS_Str, hr.ldAt (k := 10) (j := 2) (by simp [hc]) rfl, Bin_add_N]
    refine hr.stAt (j := 2) rfl (by simp [hc]) (by simp) fun w2 e2 hr2 => ?_
    simp only [List.set_cons_succ, List.set_cons_zero] at hr2 e2
    have hvrb : ¬ InSl vr b := Own.apart hown hr (by decide)
    have hown2 : Own w2 lo 5 1 vr rest.length (rest.map Y) := Own.up hown fun q _ hq => by rw [e2]; exact gb_putB_ne (fun e => hvrb (e ▸ hq))
    have hk2 : Arr w2 kb ty_sha_table (kL.map W) := arr_put hk e2 (fun e => hne e.symm)
    have hw2 : Below lo w w2 := hw1.trans ⟨by rw [e2]; rfl, by rw [e2]; rfl, by rw [e2]; rfl, by rw [e2]; show sz w1 ≤ sz (putB w1 _ _); simp, fun q hq => by rw [e2]; exact gb_putB_ne (by omega)⟩
    have hz2 : sz w2 = sz w1 := by rw [e2]; simp
    simp only [Drew]
    replace hr2 : Arr w2.drew b ty_sha_State (c.map W ++ [ptr kb 0, vr, N (a.length + t.length)]) := hr2
    replace hown2 : Own w2.drew lo 5 1 vr rest.length (rest.map Y) := hown2
    replace hk2 : Arr w2.drew kb ty_sha_table (kL.map W) := hk2
    replace hw2 : Below lo w w2.drew := hw2.drew
    replace hz2 : sz w2.drew = sz w1 := hz2
    generalize w2.drew = w3 at *
    have ldc : ∀ w', Arr w' b ty_sha_State (c.map W ++ [ptr kb 0, vr, N (a.length + t.length)]) → ∀ K, LdN (ptr b 0) 8 w' K = K (.agg (c.map W).toArray) w' := fun w' h K => h.ldPre (by simpa using hc)
    have ldk : ∀ w', Arr w' b ty_sha_State (c.map W ++ [ptr kb 0, vr, N (a.length + t.length)]) → ∀ K, Ld (ptr b 8) w' K = K (ptr kb 0) w' := fun w' h K => h.ldAt (j := 0) (by simp [hc]) rfl
    have ldr : ∀ w', Arr w' b ty_sha_State (c.map W ++ [ptr kb 0, vr, N (a.length + t.length)]) → ∀ K, Ld (ptr b 9) w' K = K vr w' := fun w' h K => h.ldAt (j := 1) (by simp [hc]) rfl
    simp only [ldc w3 hr2, ldk w3 hr2, ldr w3 hr2, true_and]
    have hrt : rest.length + t.length ≤ 140737488355328 := by omega
    have hrl : (rest ++ t).length = rest.length + t.length := by simp
    -- behind all: the chain is stored, and the join
    have fin : ∀ (w5 : World) (nb : Nat) (v5 : Value) (cz : List UInt32), Below lo w w5 → lo ≤ sz w5 → Arr w5 b ty_sha_State (c.map W ++ [ptr kb 0, vr, N (a.length + t.length)]) → Arr w5 kb ty_sha_table (kL.map W) → Arr w5 nb ty_sha_chain (cz.map W) → cz.length = 8 → lo ≤ nb → nb ≠ b → nb ≠ kb →
        Sl w5 1 v5 ((rest ++ t).length - 64 * ((rest ++ t).length / 64)) (((rest ++ t).drop (64 * ((rest ++ t).length / 64))).map Y) → ¬ InSl v5 b → ¬ InSl v5 nb →
        StN (ptr nb 0) (.agg ((allL ((rest ++ t).length / 64) c (rest ++ t)).map W).toArray) 8 w5 (fun _ w => sh_sha_State_Write_j1 k1 (ptr b 0) (ptr nb 0) v5 v (N n) (N i) w K) := by
      intro w5 nb v5 cz hw5 hz5 hr5 hk5 hnb hcz hlnb hnbb hnbk hv5 hv5b hv5n
      have hca := allL_length ((rest ++ t).length / 64) c (rest ++ t) hc
      refine hnb.stAll (by simpa using hca) (by simpa using hcz) (W_plain _) fun w6 e6 hnb6 => ?_
      have hlr : ((rest ++ t).drop (64 * ((rest ++ t).length / 64))).length = (rest ++ t).length - 64 * ((rest ++ t).length / 64) := by simp
      rw [← hlr] at hv5
      refine c_Write_j1 (lo := lo) hca hc (arr_put hr5 e6 (fun e => hnbb e.symm)) hnb6 (fun e => hnbb e.symm) hb (hv5.up fun q _ hq => by rw [e6]; exact gb_putB_ne (fun e => hv5n (e ▸ hq))) hv5b (by rw [hlr]; omega) (by omega) (by rw [e6]; simpa using hz5) ?_
      intro w7 v7 hw7 hr7 hown7 hkeep
      have hz6 : sz w6 = sz w5 := by rw [e6]; simp
      have hw6 : Below lo w5 w6 := ⟨by rw [e6]; rfl, by rw [e6]; rfl, by rw [e6]; rfl, by show sz w5 ≤ sz w6; omega, fun q hq => by rw [e6]; exact gb_putB_ne (by omega)⟩
      refine hk1 _ _ ⟨i + 1, rfl, by omega, ?_, (hw5.trans hw6).trans hw7⟩ (by simp [temps, g12]; omega)
      rw [hgoal]
      have hk6 : Arr w6 kb ty_sha_table (kL.map W) := arr_put hk5 e6 (fun e => hnbk e.symm)
      refine ⟨hb, hkb, hne, (hkeep kb hk6.lt (fun e => hne e.symm)).trans hk6, v7, ?_, ?_⟩
      · have hat : (a ++ t).length = a.length + t.length := List.length_append
        rw [← hmore.1, hat]; exact hr7
      · rw [← hmore.2]; exact hown7
    have hYall : ∀ q, q < sz w3 → True := fun _ _ => trivial
    refine ⟨?_, ?_⟩
    · refine V_appendStr hown2 (by omega) hrt fun v4 w4 hown4 hg4 => ?_
      have hr4 : Arr w4 b ty_sha_State _ := arr_grown hr2 hg4 (Own.apart hown2 hr2 (by decide))
      have hk4 : Arr w4 kb ty_sha_table _ := arr_grown hk2 hg4 (Own.apart hown2 hk2 (by decide))
      have hw4 : Below lo w w4 := hw2.trans ⟨hg4.os, hg4.tape, hg4.output, hg4.size, fun q hq => hg4.block q (by show q < sz w3; omega) (fun e => by have := Own.inSl hown2 e.symm; omega)⟩
      have hz4 : sz w3 ≤ sz w4 := hg4.size
      simp only [ldc w4 hr4, ldk w4 hr4, true_and, and_true]
      rw [← hrl] at hown4
      have hnb4 : ∀ q, InSl v4 q → q < sz w4 := fun q hq => hown4.sl.lt hq
      refine ⟨?_, ?_⟩
      · refine c_sha_all hc hk4 hown4.sl (by omega) fun w5 v5 hu5 hv5 hin5 => ?_
        have hr5 := hr4.up hu5
        have hu5s := hu5.size
        simp only [Ext_0, Ext_1, true_and]
        refine New_of fun w6 u6 A6 z6 => ?_
        have hr6 := hr5.up u6
        simp only [ldc w6 hr6, ldk w6 hr6, ldr w6 hr6, true_and, and_true]
        refine fin w6 (sz w5) v5 [0, 0, 0, 0, 0, 0, 0, 0] (hw4.trans ((hu5.trans u6).below.mono (by show lo ≤ sz w4; omega))) (by omega) hr6 ((hk4.up hu5).up u6) A6 rfl (by omega) ?_ ?_ (hv5.Up u6) ?_ ?_
        · have := hr4.lt; omega
        · have := hk4.lt; omega
        · exact fun hq => Own.apart hown4 hr4 (by decide) (hin5 _ hq)
        · exact fun hq => by have := hnb4 _ (hin5 _ hq); omega
      · refine New_of fun w6 u6 A6 z6 => ?_
        have hr6 := hr4.up u6
        simp only [ldc w6 hr6, ldk w6 hr6, ldr w6 hr6, true_and, and_true]
        refine c_sha_all hc (hk4.up u6) (hown4.sl.Up u6) (by omega) fun w5 v5 hu5 hv5 hin5 => ?_
        simp only [Ext_0, Ext_1, true_and]
        have hu5s := hu5.size
        refine fin w5 (sz w4) v5 [0, 0, 0, 0, 0, 0, 0, 0] (hw4.trans ((u6.trans hu5).below.mono (by show lo ≤ sz w4; omega))) (by omega) (hr6.up hu5) ((hk4.up u6).up hu5) (Arr.up A6 hu5) rfl (by omega) ?_ ?_ hv5 ?_ ?_
        · have := hr4.lt; omega
        · have := hk4.lt; omega
        · exact fun hq => Own.apart hown4 hr4 (by decide) (hin5 _ hq)
        · exact fun hq => by have := hnb4 _ (hin5 _ hq); omega
    · refine New_of fun w4 u4 A4 z4 => ?_
      have hr4 := hr2.up u4
      have hown4' : Own w4 lo 5 1 vr rest.length (rest.map Y) := Own.Up hown2 u4
      simp only [ldc w4 hr4, ldk w4 hr4, ldr w4 hr4, true_and, and_true]
      refine V_appendStr hown4' (by omega) hrt fun v6 w6 hown6 hg6 => ?_
      have hr6 : Arr w6 b ty_sha_State _ := arr_grown hr4 hg6 (Own.apart hown4' hr4 (by decide))
      have hk6 : Arr w6 kb ty_sha_table _ := arr_grown (hk2.up u4) hg6 (Own.apart hown4' (hk2.up u4) (by decide))
      have A6 : Arr w6 (sz w3) ty_sha_chain _ := arr_grown A4 hg6 (Own.apart hown4' A4 (by decide))
      have hw6 : Below lo w w6 := (hw2.trans (u4.below.mono (by show lo ≤ sz w3; omega))).trans ⟨hg6.os, hg6.tape, hg6.output, hg6.size, fun q hq => hg6.block q (by show q < sz w4; omega) (fun e => by have := Own.inSl hown4' e.symm; omega)⟩
      have hz6 : sz w4 ≤ sz w6 := hg6.size
      simp only [ldc w6 hr6, ldk w6 hr6, true_and, and_true]
      rw [← hrl] at hown6
      refine c_sha_all hc hk6 hown6.sl (by omega) fun w5 v5 hu5 hv5 hin5 => ?_
      have hu5s := hu5.size
      simp only [Ext_0, Ext_1, true_and]
      refine fin w5 (sz w3) v5 [0, 0, 0, 0, 0, 0, 0, 0] (hw6.trans (hu5.below.mono (by show lo ≤ sz w6; omega))) (by omega) (hr6.up hu5) (hk6.up hu5) (Arr.up A6 hu5) rfl (by omega) ?_ ?_ hv5 ?_ ?_
      · have := hr2.lt; omega
      · have := hk2.lt; omega
      · exact fun hq => Own.apart hown6 hr6 (by decide) (hin5 _ hq)
      · exact fun hq => Own.apart hown6 A6 (by decide) (hin5 _ hq)
  · have : i = n := by omega
    subst this
    simp only [g0, g10, g11, g12, Bin_lss_N, hlt, decide_false, IfV_false]
    rw [List.take_of_length_le (by omega)] at hs1
    exact h _ hs1 hw1

/-! the digest -/
def outL : List UInt32 → List UInt8
  | [] => []
  | x :: l => UInt8.ofNat (x >>> UInt32.ofNat 24).toNat :: UInt8.ofNat (x >>> UInt32.ofNat 16).toNat :: UInt8.ofNat (x >>> UInt32.ofNat 8).toNat :: UInt8.ofNat x.toNat :: outL l
theorem outL_append (a b : List UInt32) : outL (a ++ b) = outL a ++ outL b := by induction a with | nil => rfl | cons x a ih => simp [outL, ih]
theorem outL_length (a : List UInt32) : (outL a).length = 4 * a.length := by induction a with | nil => rfl | cons x a ih => simp [outL, ih]; omega
/-- SHA-256 -/
def shaL (all : List UInt8) : List UInt8 :=
  let e := endL (all.drop (64 * (all.length / 64))) all.length
  outL (allL (e.length / 64) (allL (all.length / 64) h0L all) e)
theorem shaL_length (all : List UInt8) : (shaL all).length = 32 := by
  unfold shaL; rw [outL_length, allL_length _ _ _ (allL_length _ _ _ rfl)]

@[simp] theorem cv_464_5 {x : UInt32} {w : World} {K : Value → World → Prop} : V pg (convert ty_uint32 5 (W x)) w K = K (Y (UInt8.ofNat x.toNat)) w := by
  have := V_conv (P := pg) (w := w) (K := K) (src := ty_uint32) (dst := 5) (k := .u8) (j := .u32) (n := (x.toNat : Int)) (by kernel_rfl) (by kernel_rfl)
  rw [wrap_u8N] at this
  exact this
theorem un466 : pg.underlying ty_sha_chain = some (.array 8 ty_uint32) := by kernel_rfl
theorem in464 : (pg.info? ty_uint32).map (·.size) = some 1 := by kernel_rfl
theorem ag464 : pg.underlying ty_uint32 = some (.int .u32) := by kernel_rfl
theorem ix_466 {c : List UInt32} (hc : c.length = 8) {i : Nat} (hi : i < 8) {w : World} : (Instr.index ty_sha_chain (.agg (c.map W).toArray) (N i)).run pg w = .ok (W (wat c i)) w := by
  obtain ⟨j, hj, hz⟩ := Option.map_eq_some_iff.1 in464
  have h1 : (0 : Int) ≤ i ∧ (i : Int) < 8 := by omega
  have h2 := map_wat c i (by omega)
  unfold N
  simp [Instr.index, asIntOf, run_underlying un466, h1, sizeOf, typeInfo, hj, hz, part, isAgg, run_underlying ag464, -N_cast]
  rw [List.getElem?_map] at h2
  cases hg : c[i]? with
  | none => rw [hg] at h2; cases h2
  | some x => rw [hg] at h2; simp at h2; simp [h2]; intro hh; omega
theorem build4 {x0 x1 x2 x3 : UInt8} {w : World} : (Instr.buildSlice ty_s_uint8 4 [(0, Y x0), (1, Y x1), (2, Y x2), (3, Y x3)].toArray).run pg w = .ok (.slice (some ⟨sz w, 0, none⟩) 4 4) (w.alloc (.cells [Y x0, Y x1, Y x2, Y x3].toArray 5)) := by kernel_rfl

theorem c_Sum_j1 {nb : Nat} {c : List UInt32} (hc : c.length = 8) {w : World} (hb : Arr w nb ty_sha_chain (c.map W)) {K : Value → World → Prop} (h : ∀ w', Up w w' → K (Str (outL c)) w') : sh_sha_State_Sum_j1 (ptr nb 0) w K := by
  unfold sh_sha_State_Sum_j1
  refine hb.ldAll (by simpa using hc) ?_
  refine LoopV_of (fun xs w' => ∃ (v : Value) (i : Nat), xs = [v, .agg (c.map W).toArray, N i] ∧ i ≤ 8 ∧ Up w w' ∧ Own w' (sz w) 5 1 v (4 * i) ((outL (c.take i)).map Y))
    (fun xs _ => 8 - natOf (xs.getD 2 undef)) ⟨_, 0, rfl, by omega, Up.refl _, Own.nil ..⟩ ?_
  rintro k1 T w1 ⟨v, i, hT, hi, hu, ho⟩ hk1
  simp only [temps, List.cons.injEq, and_true] at hT
  obtain ⟨g5, g31, g32⟩ := hT
  by_cases hlt : i < 8
  · simp only [g5, g31, g32, Bin_lss_N, hlt, decide_true, IfV_true, V_eq (ix_466 hc hlt), Shf_shr_Wlit, show (24 : Nat) < 32 from by omega, show (16 : Nat) < 32 from by omega, show (8 : Nat) < 32 from by omega, cv_464_5, V_eq build4]
    have hu1 : Up w1 (w1.alloc (.cells [Y (UInt8.ofNat (wat c i >>> UInt32.ofNat 24).toNat), Y (UInt8.ofNat (wat c i >>> UInt32.ofNat 16).toNat), Y (UInt8.ofNat (wat c i >>> UInt32.ofNat 8).toNat), Y (UInt8.ofNat (wat c i).toNat)].toArray 5)) := (Up.refl _).alloc _
    refine V_append (k := 4) (ys := [Y (UInt8.ofNat (wat c i >>> UInt32.ofNat 24).toNat), Y (UInt8.ofNat (wat c i >>> UInt32.ofNat 16).toNat), Y (UInt8.ofNat (wat c i >>> UInt32.ofNat 8).toNat), Y (UInt8.ofNat (wat c i).toNat)]) st_236 (Own.Up ho hu1)
      (Sl.at (sz w1) 0 4 4 _ ⟨_, 5, (0, 0), gb_alloc_new rfl, by simp⟩ rfl (by omega)) rfl (Nat.le_trans hu.size hu1.size) (by omega) fun v2 w2 ho2 hg2 => ?_
    simp (disch := omega) only [Bin_add_N]
    have hu2 : Up w w2 := (hu.trans hu1).grow hg2 (fun k hk => Own.inSl ho hk)
    refine hk1 _ _ ⟨v2, i + 1, rfl, by omega, hu2, ?_⟩ (by simp [temps, g32]; omega)
    have : (outL (c.take (i + 1))).map Y = (outL (c.take i)).map Y ++ [Y (UInt8.ofNat (wat c i >>> UInt32.ofNat 24).toNat), Y (UInt8.ofNat (wat c i >>> UInt32.ofNat 16).toNat), Y (UInt8.ofNat (wat c i >>> UInt32.ofNat 8).toNat), Y (UInt8.ofNat (wat c i).toNat)] := by
      have hg : c[i]? = some (wat c i) := by simp [wat, List.getElem?_eq_getElem (show i < c.length by omega)]
      rw [List.take_add_one, hg, Option.toList_some, outL_append, List.map_append]; rfl
    rw [this, show 4 * (i + 1) = 4 * i + 4 by omega]
    exact ho2
  · have : i = 8 := by omega
    subst this
    simp only [g5, g31, g32, Bin_lss_N, hlt, decide_false, IfV_false]
    rw [List.take_of_length_le (by omega)] at ho
    exact V_bts (e := 5) (by kernel_rfl) (by kernel_rfl) (by kernel_rfl) ho.sl (h _ hu)

theorem c_State_Sum {lo b kb : Nat} {all : List UInt8} {w : World} (hs : ShaAt w lo b kb all) (hall : all.length < 1099511627776) {K : Value → World → Prop}
    (h : ∀ w', Up w w' → K (Str (shaL all)) w') : CallF pg n_sha_State_Sum [ptr b 0] w K := by
  apply ln_sha_State_Sum
  simp only [sh_sha_State_Sum, EqNil_p1, IfV_false, Drew]
  obtain ⟨hb, hkb, hne, hk, vr, hr, hown⟩ := hs
  have hc := allL_length (all.length / 64) h0L all rfl
  have hlast : (all.drop (64 * (all.length / 64))).length < 64 := by simp; omega
  unfold shaL at h
  simp only at h
  generalize hcc : allL (all.length / 64) h0L all = c at *
  generalize hrr : all.drop (64 * (all.length / 64)) = rest at *
  have ldc : ∀ w', Arr w' b ty_sha_State (c.map W ++ [ptr kb 0, vr, N all.length]) → ∀ K, LdN (ptr b 0) 8 w' K = K (.agg (c.map W).toArray) w' := fun w' h K => h.ldPre (by simpa using hc)
  have ldk : ∀ w', Arr w' b ty_sha_State (c.map W ++ [ptr kb 0, vr, N all.length]) → ∀ K, Ld (ptr b 8) w' K = K (ptr kb 0) w' := fun w' h K => h.ldAt (j := 0) (by simp [hc]) rfl
  have ldr : ∀ w', Arr w' b ty_sha_State (c.map W ++ [ptr kb 0, vr, N all.length]) → ∀ K, Ld (ptr b 9) w' K = K vr w' := fun w' h K => h.ldAt (j := 1) (by simp [hc]) rfl
  have ldm : ∀ w', Arr w' b ty_sha_State (c.map W ++ [ptr kb 0, vr, N all.length]) → ∀ K, Ld (ptr b 10) w' K = K (N all.length) w' := fun w' h K => h.ldAt (j := 2) (by simp [hc]) rfl
  replace hr : Arr w.drew b ty_sha_State (c.map W ++ [ptr kb 0, vr, N all.length]) := hr
  replace hk : Arr w.drew kb ty_sha_table (kL.map W) := hk
  replace hown : Own w.drew lo 5 1 vr rest.length (rest.map Y) := hown
  have hu0 : Up w w.drew := (Up.refl w).drew
  generalize w.drew = w0 at *
  simp only [NilCk_ptr, FA_ptr, Nat.zero_add, ldc w0 hr, ldk w0 hr, ldr w0 hr, ldm w0 hr, true_and]
  have hel := endL_length rest all.length
  have hz : zerosN rest.length < 64 := Nat.mod_lt _ (by omega)
  have hca := allL_length ((endL rest all.length).length / 64) c (endL rest all.length) hc
  refine ⟨?_, ?_⟩
  · refine c_sha_end hown.sl (by omega) hall fun w1 v1 hu1 ho1 => ?_
    have hr1 := hr.up hu1
    simp only [ldc w1 hr1, ldk w1 hr1, true_and, and_true]
    refine ⟨?_, ?_⟩
    · refine c_sha_all hc (hk.up hu1) ho1.sl (by omega) fun w2 v2 hu2 hv2 hin2 => ?_
      simp only [Ext_0, Ext_1, true_and]
      refine New_of fun w3 u3 A3 z3 => ?_
      have hr3 := (hr1.up hu2).up u3
      simp only [ldc w3 hr3, ldk w3 hr3, ldr w3 hr3, ldm w3 hr3, true_and, and_true]
      refine A3.stAll (by simpa using hca) rfl (W_plain _) fun w4 e4 A4 => ?_
      refine c_Sum_j1 hca A4 fun w5 hu5 => h _ ?_
      have := hu1.size; have := hu2.size
      exact (up_put ((hu0.trans hu1).trans (hu2.trans u3)) e4 (by have := hu0.size; omega)).trans hu5
    · refine New_of fun w3 u3 A3 z3 => ?_
      have hr3 := hr1.up u3
      simp only [ldc w3 hr3, ldk w3 hr3, ldr w3 hr3, ldm w3 hr3, true_and, and_true]
      refine c_sha_all hc ((hk.up hu1).up u3) (ho1.sl.Up u3) (by omega) fun w2 v2 hu2 hv2 hin2 => ?_
      simp only [Ext_0, Ext_1, true_and]
      refine (Arr.up A3 hu2).stAll (by simpa using hca) rfl (W_plain _) fun w4 e4 A4 => ?_
      refine c_Sum_j1 hca A4 fun w5 hu5 => h _ ?_
      have := hu1.size
      exact (up_put ((hu0.trans hu1).trans (u3.trans hu2)) e4 (by have := hu0.size; omega)).trans hu5
  · refine New_of fun w3 u3 A3 z3 => ?_
    have hr3 := hr.up u3
    simp only [ldc w3 hr3, ldk w3 hr3, ldr w3 hr3, ldm w3 hr3, true_and, and_true]
    refine c_sha_end (hown.sl.Up u3) (by omega) hall fun w1 v1 hu1 ho1 => ?_
    have hr1 := hr3.up hu1
    simp only [ldc w1 hr1, ldk w1 hr1, true_and, and_true]
    refine c_sha_all hc ((hk.up u3).up hu1) ho1.sl (by omega) fun w2 v2 hu2 hv2 hin2 => ?_
    simp only [Ext_0, Ext_1, true_and]
    refine ((Arr.up A3 hu1).up hu2).stAll (by simpa using hca) rfl (W_plain _) fun w4 e4 A4 => ?_
    refine c_Sum_j1 hca A4 fun w5 hu5 => h _ ?_
    exact (up_put ((hu0.trans u3).trans (hu1.trans hu2)) e4 hu0.size).trans hu5

/-- sha.Sum: the digest of all texts, one behind the other -/
theorem c_sha_Sum {l : List (List UInt8)} {v : Value} {n : Nat} {w : World} (hv : Sl w 1 v n (l.map Str)) (hlen : l.flatten.length < 1099511627776) (hn : n < 1099511627776) {K : Value → World → Prop}
    (h : ∀ w', Up w w' → K (Str (shaL l.flatten)) w') : CallF pg n_sha_Sum [v] w K := by
  apply ln_sha_Sum
  simp only [sh_sha_Sum]
  refine c_sha_New (lo := sz w) (Nat.le_refl _) fun w1 b kb hu1 hs1 => ?_
  refine c_sha_Write hs1 (hv.Up hu1) (fun q hq => hv.lt hq) hu1.size (by simpa using hlen) hn fun w2 hs2 hw2 => ?_
  rw [List.nil_append] at hs2
  refine c_State_Sum hs2 hlen fun w3 hu3 => h _ ?_
  exact (ex_of_below (hu1.below.trans hw2)).trans hu3
end Go.Proofs.Tryz

