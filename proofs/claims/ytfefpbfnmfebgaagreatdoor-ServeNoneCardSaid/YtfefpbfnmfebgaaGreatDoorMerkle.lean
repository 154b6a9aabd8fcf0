/- Part of a proof (its text Merkle): what is proved stands in the text Card. -/
import Derived.Test.YtfefpbfnmfebgaaGreatDoorFormsMerkle
import Derived.Test.YtfefpbfnmfebgaaGreatDoorSha
set_option linter.all false
namespace Go.Proofs.Tryz
open Go Go.Lad
open Go.RowKit (Below)
set_option autoImplicit false
set_option maxRecDepth 100000
set_option linter.unusedSimpArgs false

/-! spans as keys -/
def fieldsOf (o : Option TypeDesc) : Option (List (Bool × TypeId × Nat)) :=
  match o with
  | some (.struct fs) => some (fs.toList.map fun f => (f.name == "_", f.type, f.offset))
  | _ => none
theorem len2 {α : Type} {l : List α} (h : l.length = 2) : ∃ a b, l = [a, b] := match l, h with | [a, b], _ => ⟨a, b, rfl⟩
theorem fieldsOf_two {o : Option TypeDesc} {t1 t2 : TypeId} {o1 o2 : Nat} (h : fieldsOf o = some [(false, t1, o1), (false, t2, o2)]) :
    ∃ f1 f2 : Field, o = some (.struct #[f1, f2]) ∧ ¬ f1.name = "_" ∧ ¬ f2.name = "_" ∧ f1.type = t1 ∧ f2.type = t2 ∧ f1.offset = o1 ∧ f2.offset = o2 := by
  unfold fieldsOf at h
  split at h
  · rename_i fs
    obtain ⟨l⟩ := fs
    simp only [Option.some.injEq] at h
    have hl : l.length = 2 := by have := congrArg List.length h; simpa using this
    obtain ⟨f1, f2, rfl⟩ := len2 hl
    simp at h
    exact ⟨f1, f2, rfl, h.1.1, h.2.1, h.1.2.1, h.2.2.1, h.1.2.2, h.2.2.2⟩
  · cases h
theorem fl339 : fieldsOf (pg.underlying ty_merkle_span) = some [(false, 3, 0), (false, 3, 1)] := by kernel_rfl
theorem un3 : pg.underlying 3 = some (.int .i64) := by kernel_rfl
theorem st339 : pg.stoodInHeld ty_merkle_span = false := by kernel_rfl
abbrev spanV (p : Nat × Nat) : Value := .agg [N p.1, N p.2].toArray
theorem eq339 (a b c d : Nat) (w : World) : (Op.equal ty_merkle_span (.agg #[N a, N b]) (.agg #[N c, N d])).run pg w = .ok (decide (a = c ∧ b = d)) w := by
  obtain ⟨f1, f2, hu, h2, h4, h5, h6, h7, h8⟩ := fieldsOf_two fl339
  have e1 : ∀ (x y : Nat) (k : Nat), (Op.equalIn (k + 1) 3 (N x) (N y)).run pg w = .ok (decide (x = y)) w := by
    intro x y k
    unfold N
    simp [Op.equalIn, run_underlying un3, -N_cast]
    have : ((x : Int) == (y : Int)) = decide (x = y) := by by_cases h : x = y <;> simp [h]; omega
    rw [this]
  have p1 : ∀ x y : Value, (part 3 #[x, y] 0).run pg w = .ok x w := by intro x y; simp [part, isAgg, run_underlying un3]
  have p2 : ∀ x y : Value, (part 3 #[x, y] 1).run pg w = .ok y w := by intro x y; simp [part, isAgg, run_underlying un3]
  have : Op.maxDepth = 9998 + 1 + 1 := rfl
  unfold Op.equal
  rw [this]
  rw [show Op.equalIn (9998 + 1 + 1) = Op.equalIn ((9998 + 1) + 1) from rfl]
  unfold Op.equalIn
  simp [run_underlying hu, st339, h2, h4, h5, h6, h7, h8, p1, p2, e1]
  by_cases ha : a = c <;> by_cases hb : b = d <;> simp [ha, hb]
theorem ask339 (k : Nat × Nat) (w : World) : ∀ (es : List MapEntry) (ks : List (Nat × Nat)) (j : Nat), es.map (·.key) = ks.map spanV → ∃ r, (Instr.findAsking ty_merkle_span (spanV k) es j).run pg w = .ok r w ∧
    ((k ∉ ks ∧ r = none) ∨ ∃ (i : Nat) (e : MapEntry), ks[i]? = some k ∧ k ∉ ks.take i ∧ es[i]? = some e ∧ r = some (j + i, e.val)) := by
  intro es
  induction es with
  | nil => intro ks j h; cases ks with
    | nil => exact ⟨none, rfl, .inl ⟨by simp, rfl⟩⟩
    | cons => cases h
  | cons e es ih =>
    intro ks j h
    cases ks with
    | nil => cases h
    | cons x ks =>
      simp only [List.map_cons, List.cons.injEq] at h
      have hs : (Op.equal ty_merkle_span (spanV k) e.key).run pg w = .ok (decide (k = x)) w := by
        rw [h.1]
        rw [show decide (k = x) = decide (k.1 = x.1 ∧ k.2 = x.2) from decide_eq_decide.2 Prod.ext_iff]
        exact eq339 ..
      simp only [Instr.findAsking, Sem.run_bind, hs, Result.andThen_ok]
      by_cases hk : k = x
      · subst hk
        simp only [decide_true, if_true, Sem.run_pure]
        exact ⟨_, rfl, .inr ⟨0, e, rfl, by simp, rfl, rfl⟩⟩
      · simp only [hk, decide_false, Bool.false_eq_true, if_false]
        obtain ⟨r, h1, h2⟩ := ih ks (j + 1) h.2
        refine ⟨r, h1, ?_⟩
        rcases h2 with ⟨q1, q2⟩ | ⟨i, e', q1, q2, q3, q4⟩
        · exact .inl ⟨by simp [hk, q1], q2⟩
        · exact .inr ⟨i + 1, e', by simpa using q1, by simp [hk, q2], by simpa using q3, by rw [q4]; congr 2; omega⟩
theorem keyT_span : KeyT pg ty_merkle_span spanV := by
  refine ⟨?_, ?_, ?_⟩
  · intro em k w
    cases em <;> kernel_rfl
  · intro k w es ks h
    cases es with
    | nil =>
      cases ks with
      | nil => exact ⟨none, by kernel_rfl, .inl ⟨by simp, rfl⟩⟩
      | cons => cases h
    | cons e es =>
      obtain ⟨r, h1, h2⟩ := ask339 k w (e :: es) ks 0 h
      refine ⟨r, ?_, ?_⟩
      · obtain ⟨f1, f2, hu, _⟩ := fieldsOf_two fl339
        simp only [Instr.findKey, Sem.run_bind, run_underlying hu, Result.andThen_ok, Instr.findNow, Instr.sameNow]
        exact h1
      · rcases h2 with q | ⟨i, e, q1, q2, q3, q4⟩
        · exact .inl q
        · exact .inr ⟨i, e, q1, q2, q3, by simpa using q4⟩
  · intro k w
    have : Instr.sameBits 10000 (spanV k) (spanV k) = true := by
      rw [show (10000 : Nat) = 9999 + 1 from rfl]
      simp [spanV, N, Instr.sameBits, -N_cast]
    simp [Instr.keyThatStays, this]

/-! digests -/
def leafL (s : List UInt8) : List UInt8 := shaL (0 :: s)
def nodeL (a b : List UInt8) : List UInt8 := shaL (1 :: (a ++ b))
theorem bs38_2 {x y : List UInt8} {w : World} : (Instr.buildSlice ty_s_string 2 [(0, Str x), (1, Str y)].toArray).run pg w = .ok (.slice (some ⟨sz w, 0, none⟩) 2 2) (w.alloc (.cells [Str x, Str y].toArray 9)) := by kernel_rfl
theorem bs38_3 {x y z : List UInt8} {w : World} : (Instr.buildSlice ty_s_string 3 [(0, Str x), (1, Str y), (2, Str z)].toArray).run pg w = .ok (.slice (some ⟨sz w, 0, none⟩) 3 3) (w.alloc (.cells [Str x, Str y, Str z].toArray 9)) := by kernel_rfl
theorem bs38_1 {x : List UInt8} {w : World} : (Instr.buildSlice ty_s_string 1 [(0, Str x)].toArray).run pg w = .ok (.slice (some ⟨sz w, 0, none⟩) 1 1) (w.alloc (.cells [Str x].toArray 9)) := by kernel_rfl
theorem Sl.fresh {w : World} {t : TypeId} {m n : Nat} {cs : List Value} (h : cs.length = n * m) : Sl (w.alloc (.cells cs.toArray t)) m (.slice (some ⟨sz w, 0, none⟩) n n) n cs :=
  Sl.at (sz w) 0 n n cs ⟨cs.toArray, t, (0, 0), gb_alloc_new rfl, by simp⟩ h (Nat.le_refl _)

theorem c_merkle_Leaf {s : List UInt8} (hs : s.length < 1099511627700) {w : World} {K : Value → World → Prop} (h : ∀ w', Up w w' → K (Str (leafL s)) w') : CallF pg n_merkle_Leaf [Str s] w K := by
  apply ln_merkle_Leaf
  simp only [sh_merkle_Leaf]
  rw [V_eq bs38_2]
  refine c_sha_Sum (l := [[0], s]) (n := 2) (Sl.fresh rfl) (by simp; omega) (by omega) fun w' hu => ?_
  have e : [[(0 : UInt8)], s].flatten = 0 :: s := by simp
  rw [e]
  exact h _ (((Up.refl w).alloc _).trans hu)
theorem c_merkle_Node {a b : List UInt8} (hs : a.length + b.length < 1099511627700) {w : World} {K : Value → World → Prop} (h : ∀ w', Up w w' → K (Str (nodeL a b)) w') : CallF pg n_merkle_Node [Str a, Str b] w K := by
  apply ln_merkle_Node
  simp only [sh_merkle_Node]
  rw [V_eq bs38_3]
  refine c_sha_Sum (l := [[1], a, b]) (n := 3) (Sl.fresh rfl) (by simp; omega) (by omega) fun w' hu => ?_
  have e : [[(1 : UInt8)], a, b].flatten = 1 :: (a ++ b) := by simp
  rw [e]
  exact h _ (((Up.refl w).alloc _).trans hu)

/-- where a span is cut -/
def splitN (n : Nat) : Nat := 2 ^ (Lib.bitLen (n - 1) - 1)
theorem bitLenAux_le : ∀ (f x : Nat), 0 < x → x < 2 ^ f → 1 ≤ Lib.bitLenAux f x ∧ 2 ^ (Lib.bitLenAux f x - 1) ≤ x ∧ Lib.bitLenAux f x ≤ f := by
  intro f
  induction f with
  | zero => intro x h1 h2; simp at h2; omega
  | succ f ih =>
    intro x h1 h2
    simp only [Lib.bitLenAux, if_neg (show ¬ x = 0 by omega)]
    by_cases hx : x = 1
    · subst hx
      have : Lib.bitLenAux f (1 / 2) = 0 := by cases f <;> simp [Lib.bitLenAux]
      rw [this]; simp
    · obtain ⟨q1, q2, q3⟩ := ih (x / 2) (by omega) (by rw [Nat.pow_succ] at h2; omega)
      refine ⟨by omega, ?_, by omega⟩
      have e : 1 + Lib.bitLenAux f (x / 2) - 1 = (Lib.bitLenAux f (x / 2) - 1) + 1 := by omega
      rw [e, Nat.pow_succ]; omega
theorem splitN_lt {n : Nat} (h1 : 2 ≤ n) (h2 : n ≤ 18446744073709551615) : 1 ≤ splitN n ∧ splitN n < n ∧ Lib.bitLen (n - 1) ≤ 64 ∧ 1 ≤ Lib.bitLen (n - 1) := by
  obtain ⟨q1, q2, q3⟩ := bitLenAux_le 64 (n - 1) (by omega) (by omega)
  refine ⟨Nat.one_le_two_pow, ?_, q3, q1⟩
  show 2 ^ (Lib.bitLenAux 64 (n - 1) - 1) < n
  omega
theorem c_merkle_split {n : Nat} (h1 : 2 ≤ n) (h2 : n < 4611686018427387904) {w : World} {K : Value → World → Prop} (h : K (N (splitN n)) w) : CallF pg n_merkle_split [N n] w K := by
  apply ln_merkle_split
  simp (disch := omega) only [sh_merkle_split, Bin_sub_N]
  have e := V_conv (P := pg) (w := w) (src := 3) (dst := ty_uint) (k := .u64) (j := .i64) (n := ((n - 1 : Nat) : Int)) (by kernel_rfl) (by kernel_rfl) (K := fun t2 w =>
    CallF pg n_math_bits_Len [t2] w fun t3 w => Bin .sub .i64 t3 (N 1) fun t4 => Shf .shl .i64 (N 1) t4 fun t5 => K t5 w)
  rw [show N (n - 1) = .int .i64 ((n - 1 : Nat) : Int) from rfl, e]
  have ew : IntKind.u64.wrap ((n - 1 : Nat) : Int) = ((n - 1 : Nat) : Int) := by rw [IntKind.wrap_u64]; omega
  rw [ew]
  refine Calls.mono (Tryz.bits_Len ((n - 1 : Nat) : Int) w (by omega) (by omega)) ?_
  rintro e w' ⟨rfl, rfl⟩
  obtain ⟨q1, q2, q3, q4⟩ := splitN_lt h1 (by omega)
  simp only [Int.toNat_natCast, N_cast]
  have hp : 1 * 2 ^ (Lib.bitLen (n - 1) - 1) < 9223372036854775808 := by
    have : 2 ^ (Lib.bitLen (n - 1) - 1) = splitN n := rfl
    omega
  rw [Bin_sub_N _ _ (by omega), Shf_shl_N _ _ ⟨by omega, hp⟩, Nat.one_mul]
  exact h

/-! the tree -/
def dig (leaves : List (List UInt8)) : Nat → Nat → Nat → List UInt8
  | 0, a, _ => leaves.getD a []
  | f + 1, a, m => if m ≤ 1 then leaves.getD a [] else nodeL (dig leaves f a (splitN m)) (dig leaves f (a + splitN m) (m - splitN m))
theorem dig_fuel (leaves : List (List UInt8)) : ∀ (f g a m : Nat), m ≤ f → m ≤ g → m ≤ 18446744073709551615 → dig leaves f a m = dig leaves g a m := by
  intro f
  induction f with
  | zero =>
    intro g a m h1 h2 h3
    cases g with
    | zero => rfl
    | succ g => simp only [dig]; rw [if_pos (by omega)]
  | succ f ih =>
    intro g a m h1 h2 h3
    cases g with
    | zero => simp only [dig]; rw [if_pos (by omega)]
    | succ g =>
      simp only [dig]
      split
      · rfl
      · obtain ⟨q1, q2, _⟩ := splitN_lt (n := m) (by omega) h3
        rw [ih g a (splitN m) (by omega) (by omega) (by omega), ih g (a + splitN m) (m - splitN m) (by omega) (by omega) (by omega)]
/-- the digest of a span -/
def digest (leaves : List (List UInt8)) (a m : Nat) : List UInt8 := dig leaves m a m
theorem digest_one (leaves : List (List UInt8)) (a : Nat) : digest leaves a 1 = leaves.getD a [] := rfl
theorem digest_node (leaves : List (List UInt8)) (a m : Nat) (h1 : 2 ≤ m) (h2 : m ≤ 18446744073709551615) : digest leaves a m = nodeL (digest leaves a (splitN m)) (digest leaves (a + splitN m) (m - splitN m)) := by
  obtain ⟨q1, q2, _⟩ := splitN_lt (n := m) h1 h2
  unfold digest
  obtain ⟨f, rfl⟩ : ∃ f, m = f + 1 := ⟨m - 1, by omega⟩
  simp only [dig]
  rw [if_neg (by omega), dig_fuel leaves f (splitN (f + 1)) a _ (by omega) (by omega) (by omega), dig_fuel leaves f (f + 1 - splitN (f + 1)) _ _ (by omega) (by omega) (by omega)]
theorem digest_length (leaves : List (List UInt8)) (hl : ∀ s ∈ leaves, s.length = 32) (a m : Nat) (h : a + m ≤ leaves.length) (h1 : 1 ≤ m) (h2 : m ≤ 18446744073709551615) : (digest leaves a m).length = 32 := by
  by_cases hm : m = 1
  · subst hm
    rw [digest_one, List.getD_eq_getElem?_getD, List.getElem?_eq_getElem (by omega)]
    exact hl _ (List.getElem_mem _)
  · rw [digest_node _ _ _ (by omega) h2]; exact shaL_length _

inductive SubS : Nat → Nat → Nat × Nat → Prop
  | self (a m : Nat) : SubS a m (a, m)
  | left (a m : Nat) (s : Nat × Nat) (h : 2 ≤ m) (hs : SubS a (splitN m) s) : SubS a m s
  | right (a m : Nat) (s : Nat × Nat) (h : 2 ≤ m) (hs : SubS (a + splitN m) (m - splitN m) s) : SubS a m s
theorem SubS.trans {a m : Nat} {s t : Nat × Nat} (h : SubS a m s) (k : SubS s.1 s.2 t) : SubS a m t := by
  induction h with
  | self a m => exact k
  | left a m s h hs ih => exact .left _ _ _ h (ih k)
  | right a m s h hs ih => exact .right _ _ _ h (ih k)

structure TreeAt (w : World) (tb mb : Nat) (leaves : List (List UInt8)) (nodes : List ((Nat × Nat) × List UInt8)) : Prop where
  t : ∃ vl, Arr w tb ty_merkle_Tree [vl, .map (some mb)] ∧ Sl w 1 vl leaves.length (leaves.map Str) ∧ ¬ InSl vl mb
  m : MapIs w mb spanV Str nodes
  good : ∀ k v, alook k nodes = some v → v = digest leaves k.1 k.2
theorem TreeAt.up {w w' : World} {tb mb : Nat} {leaves : List (List UInt8)} {nodes : List ((Nat × Nat) × List UInt8)} (h : TreeAt w tb mb leaves nodes) (u : Up w w') : TreeAt w' tb mb leaves nodes := by
  obtain ⟨⟨vl, h1, h2, h3⟩, h4, h5⟩ := h
  exact ⟨⟨vl, h1.up u, h2.Up u, h3⟩, h4.up (u.keep _ h4.lt), h5⟩

theorem mt335 : MapT pg ty_m_merkle_span_string ty_merkle_span 9 (Str []) := ⟨by kernel_rfl, by kernel_rfl⟩
theorem bd339 {a b : Nat} {w : World} : (Instr.build ty_merkle_span [(0, N a), (1, N b)].toArray).run pg w = .ok (spanV (a, b)) w := by kernel_rfl

/-- the map is set at a span -/
theorem tree_set {tb mb : Nat} {leaves : List (List UInt8)} {nodes : List ((Nat × Nat) × List UInt8)} {w : World} (h : TreeAt w tb mb leaves nodes) (k : Nat × Nat) {v : List UInt8} (hv : v = digest leaves k.1 k.2) {K : Value → World → Prop}
    (hk : ∀ w', TreeAt w' tb mb leaves (aset k v nodes) → Mod w w' (· = mb) → K undef w') : U pg (Instr.mapUpdate ty_m_merkle_span_string (.map (some mb)) (spanV k) (Str v)) w K := by
  obtain ⟨⟨vl, h1, h2, h3⟩, h4, h5⟩ := h
  refine U_update mt335 keyT_span h4 k v ?_
  rintro w' ⟨o, rfl⟩ hm
  have hne : tb ≠ mb := by
    rintro rfl
    obtain ⟨es, c, q, _⟩ := h4
    have h1' : gb w tb = _ := h1
    rw [q] at h1'; cases h1'
  refine hk _ ⟨⟨vl, arr_put h1 rfl hne, h2.up (fun b _ hb => gb_putB_ne (fun e => h3 (e ▸ hb))), h3⟩, hm, ?_⟩ (Mod.put w o rfl)
  intro s u hs
  rw [alook_aset] at hs
  split at hs
  · rename_i e; subst e; cases hs; exact hv
  · exact h5 _ _ hs

theorem c_Tree_fill {leaves : List (List UInt8)} (hl : ∀ s ∈ leaves, s.length = 32) {tb mb : Nat} : ∀ (m a : Nat) (nodes : List ((Nat × Nat) × List UInt8)) (w : World) (K : Value → World → Prop), 1 ≤ m → a + m ≤ leaves.length → leaves.length < 1099511627776 → TreeAt w tb mb leaves nodes →
    (∀ w' nodes', TreeAt w' tb mb leaves nodes' → Mod w w' (· = mb) → (∀ s, SubS a m s → (alook s nodes').isSome = true) → (∀ s, (alook s nodes).isSome = true → (alook s nodes').isSome = true) → K (Str (digest leaves a m)) w') →
    CallF pg n_merkle_Tree_fill [ptr tb 0, spanV (a, m)] w K := by
  intro m
  induction m using Nat.strongRecOn with
  | _ m ih =>
  intro a nodes w K h1 h2 hb ht hk
  apply ln_merkle_Tree_fill
  simp only [sh_merkle_Tree_fill]
  refine New_of fun w1 u1 A1 z1 => ?_
  replace A1 : Arr w1 (sz w) ty_merkle_span [N a, N m] := A1
  have ht1 := ht.up u1
  simp only [FA_ptr, Nat.zero_add, Nat.add_zero, A1.ld (k := 1) rfl, Bin_eql_N]
  have ltw : mb < sz w := ht.m.lt
  by_cases hm : m = 1
  · subst hm
    simp only [decide_true, IfV_true, Drew, NilCk_ptr, FA_ptr, Nat.zero_add]
    obtain ⟨⟨vl, g1, g2, g3⟩, g4, g5⟩ := ht1
    have g1d : Arr w1.drew tb ty_merkle_Tree [vl, .map (some mb)] := g1
    have A1d : Arr w1.drew (sz w) ty_merkle_span [N a, N 1] := A1
    simp only [g1d.ld (k := 0) rfl, A1d.ld (k := 0) rfl, true_and]
    have g2d : Sl w1.drew 1 vl leaves.length (leaves.map Str) := g2.Up (Up.refl _).drew
    refine g2d.ix1 (i := a) (x := Str (leaves.getD a [])) (by simp [List.getElem?_eq_getElem (show a < leaves.length by omega)]) fun p => ?_
    have g1e : Arr w1.drew.drew tb ty_merkle_Tree [vl, .map (some mb)] := g1
    have A1e : Arr w1.drew.drew (sz w) ty_merkle_span ([N a, N 1] ++ []) := A1
    simp only [true_and, g1e.ld (k := 1) rfl, A1e.ldPre (m := 2) rfl]
    have ht2 : TreeAt w1.drew.drew tb mb leaves nodes := (⟨⟨vl, g1, g2, g3⟩, g4, g5⟩ : TreeAt w1 tb mb leaves nodes).up ((Up.refl _).drew.drew)
    refine tree_set ht2 (a, 1) rfl fun w3 ht3 hm3 => ?_
    refine hk _ _ ht3 (((u1.drew.drew).mod _).trans hm3) ?_ ?_
    · intro s hs
      cases hs with
      | self => rw [alook_aset]; simp
      | left _ _ _ h => omega
      | right _ _ _ h => omega
    · intro s hs; rw [alook_aset]; split
      · rfl
      · exact hs
  · have hsp := splitN_lt (n := m) (by omega) (by omega)
    simp only [hm, decide_false, IfV_false]
    refine c_merkle_split (by omega) (by omega) ?_
    have A1d : Arr w1.drew (sz w) ty_merkle_span [N a, N m] := A1
    simp (disch := omega) only [Drew, A1d.ld (k := 0) rfl, A1d.ld (k := 1) rfl, V_eq bd339, true_and, Bin_add_N, Bin_sub_N]
    have htd : TreeAt w1.drew tb mb leaves nodes := ht1.up (Up.refl _).drew
    refine ih (splitN m) hsp.2.1 a nodes w1.drew _ hsp.1 (by omega) hb htd fun w2 n2 ht2 hm2 hs2 hp2 => ?_
    have A2 : Arr w2 (sz w) ty_merkle_span [N a, N m] := (hm2.keep _ A1d.lt (by omega)).trans A1d
    simp (disch := omega) only [A2.ld (k := 0) rfl, A2.ld (k := 1) rfl, V_eq bd339, true_and, and_true]
    refine ih (m - splitN m) (by omega) (a + splitN m) n2 w2 _ (by omega) (by omega) hb ht2 fun w3 n3 ht3 hm3 hs3 hp3 => ?_
    have d1 := digest_length leaves hl a (splitN m) (by omega) hsp.1 (by omega)
    have d2 := digest_length leaves hl (a + splitN m) (m - splitN m) (by omega) (by omega) (by omega)
    refine c_merkle_Node (by omega) fun w4 u4 => ?_
    have A3 : Arr w3 (sz w) ty_merkle_span [N a, N m] := (hm3.keep _ A2.lt (by omega)).trans A2
    have A4 : Arr w4.drew (sz w) ty_merkle_span ([N a, N m] ++ []) := A3.up u4.drew
    have ht4 : TreeAt w4.drew tb mb leaves n3 := ht3.up u4.drew
    obtain ⟨⟨vl, g1, g2, g3⟩, g4, g5⟩ := ht4
    simp only [true_and, NilCk_ptr, FA_ptr, Nat.zero_add, g1.ld (k := 1) rfl, A4.ldPre (m := 2) rfl]
    have hd := digest_node leaves a m (by omega) (by omega)
    refine tree_set (⟨⟨vl, g1, g2, g3⟩, g4, g5⟩ : TreeAt w4.drew tb mb leaves n3) (a, m) hd.symm fun w5 ht5 hm5 => ?_
    rw [← hd]
    refine hk _ _ ht5 (((u1.drew).mod _).trans (hm2.trans (hm3.trans ((u4.drew.mod _).trans hm5)))) ?_ ?_
    · intro s hs
      rw [alook_aset]; split
      · rfl
      · rename_i hne
        cases hs with
        | self => exact absurd rfl hne
        | left _ _ _ _ h => exact hp3 _ (hs2 _ h)
        | right _ _ _ _ h => exact hs3 _ h
    · intro s hs; rw [alook_aset]; split
      · rfl
      · exact hp3 _ (hp2 _ hs)

theorem st_38 : SlT pg ty_s_string 9 1 16 [Str []] := ⟨by kernel_rfl, by kernel_rfl, rfl, by decide⟩
theorem bd337 {r : Nat} {w : World} : (Instr.build ty_merkle_Tree [(1, .map (some r))].toArray).run pg w = .ok (.agg [.slice none 0 0, .map (some r)].toArray) w := by kernel_rfl
theorem map_apart {κ ν : Type} [DecidableEq κ] {w : World} {r b : Nat} {kv : κ → Value} {vv : ν → Value} {l : List (κ × ν)} {t : TypeId} {cs : List Value} (h : MapIs w r kv vv l) (a : Arr w b t cs) : b ≠ r := by
  rintro rfl
  obtain ⟨es, c, q, _⟩ := h
  have a' : gb w b = _ := a
  rw [q] at a'; cases a'
theorem own_apart_map {κ ν : Type} [DecidableEq κ] {w : World} {r : Nat} {kv : κ → Value} {vv : ν → Value} {l : List (κ × ν)} {base n m : Nat} {e : TypeId} {v : Value} {xs : List Value} (h : MapIs w r kv vv l) (o : Own w base e m v n xs) : ¬ InSl v r := by
  intro hi
  rcases o.2 with ⟨rfl, _⟩ | ⟨g, cap, cur, rfl, _, hg, _⟩
  · cases hi
  · cases hi
    obtain ⟨es, c, q, _⟩ := h
    have h2 : gb w g = some (.cells cur e (0, 0)) := hg
    rw [q] at h2; cases h2

set_option maxHeartbeats 1000000 in
theorem c_merkle_New {l : List (List UInt8)} (hl : ∀ s ∈ l, s.length < 1099511627700) {v : Value} {n : Nat} {w : World} (hv : Sl w 1 v n (l.map Str)) (hn : n < 1048576) {K : Value → World → Prop}
    (h : ∀ w' tb mb nodes, Up w w' → sz w ≤ tb → sz w ≤ mb → TreeAt w' tb mb (l.map leafL) nodes → (0 < n → ∀ s, SubS 0 n s → (alook s nodes).isSome = true) → K (ptr tb 0) w') : CallF pg n_merkle_New [v] w K := by
  apply ln_merkle_New
  simp only [sh_merkle_New]
  have hln : l.length = n := by have := hv.len; simpa using this
  refine V_makeMap (κ := Nat × Nat) (ν := List UInt8) (kv := spanV) (vv := Str) fun w1 u1 M1 z1 => ?_
  rw [V_eq bd337]
  refine New_of fun w2 u2 A2 z2 => ?_
  replace A2 : Arr w2 (sz w1) ty_merkle_Tree [.slice none 0 0, .map (some (sz w))] := A2
  have M2 := M1.up (u2.keep _ (by omega))
  rw [hv.lenL]
  refine LoopV_of (fun xs w' => ∃ (vl : Value) (i : Nat), xs = [v, ptr (sz w1) 0, v, N n, N i] ∧ i ≤ n ∧ Up w w' ∧ Arr w' (sz w1) ty_merkle_Tree [vl, .map (some (sz w))] ∧ Own w' (sz w) 9 1 vl i (((l.take i).map leafL).map Str) ∧ MapIs w' (sz w) spanV Str ([] : List ((Nat × Nat) × List UInt8)))
    (fun xs _ => n - natOf (xs.getD 4 undef)) ⟨.slice none 0 0, 0, rfl, by omega, u1.trans u2, A2, Own.nil .., M2⟩ ?_
  rintro k1 T w3 ⟨vl, i, hT, hi, hu, hA, ho, hM⟩ hk1
  simp only [temps, List.cons.injEq, and_true] at hT
  obtain ⟨g0, g3, g9, g10, g11⟩ := hT
  have hv3 := hv.Up hu
  by_cases hlt : i < n
  · simp only [g0, g3, g9, g10, g11, Bin_lss_N, hlt, decide_true, IfV_true]
    have hget : (l.map Str)[i]? = some (Str l[i]) := by simp [List.getElem?_eq_getElem (show i < l.length by omega)]
    refine hv3.ix1 hget fun p => ?_
    have hAd : Arr w3.drew (sz w1) ty_merkle_Tree [vl, .map (some (sz w))] := hA
    simp only [Drew, NilCk_ptr, FA_ptr, Nat.zero_add, hAd.ld (k := 0) rfl, true_and]
    refine c_merkle_Leaf (hl _ (List.getElem_mem _)) fun w4 u4 => ?_
    have hA4 := hAd.up u4
    have ho4 : Own w4 (sz w) 9 1 vl i (((l.take i).map leafL).map Str) := Own.Up ho ((Up.refl _).drew.trans u4)
    have hM4 : MapIs w4 (sz w) spanV Str ([] : List ((Nat × Nat) × List UInt8)) := hM.up (u4.keep _ hM.lt)
    have hu4 : Up w w4 := hu.drew.trans u4
    simp only [hA4.ld (k := 0) rfl, true_and, and_true]
    rw [V_eq bs38_1]
    have hua : Up w4 (w4.alloc (.cells [Str (leafL l[i])].toArray 9)) := (Up.refl _).alloc _
    have hA5 := hA4.up hua
    simp only [hA5.ld (k := 0) rfl, true_and, and_true]
    refine V_append (k := 1) (ys := [Str (leafL l[i])]) st_38 (Own.Up ho4 hua) (Sl.fresh rfl) rfl (Nat.le_trans hu4.size hua.size) (by omega) fun v6 w6 ho6 hg6 => ?_
    have hA6 : Arr w6 (sz w1) ty_merkle_Tree _ := arr_grown hA5 hg6 (Own.apart (Own.Up ho4 hua) hA5 (by decide))
    have hM6 : MapIs w6 (sz w) spanV Str ([] : List ((Nat × Nat) × List UInt8)) := by
      have hM5 := hM4.up (hua.keep _ hM4.lt)
      exact hM5.up (hg6.block _ hM5.lt (fun e => own_apart_map hM5 (Own.Up ho4 hua) e.symm))
    have hu6 : Up w w6 := (hu4.trans hua).grow hg6 (fun k hk => Own.inSl ho hk)
    have hnb : ¬ InSl v6 (sz w1) := Own.apart ho6 hA6 (by decide)
    refine hA6.st (k := 0) ho6.plain (by simp) fun w7 e7 hA7 => ?_
    have hM7 : MapIs w7 (sz w) spanV Str ([] : List ((Nat × Nat) × List UInt8)) := hM6.up (by rw [e7]; exact gb_putB_ne (by omega))
    have ho7 : Own w7 (sz w) 9 1 v6 (i + 1) ((((l.take i).map leafL).map Str) ++ [Str (leafL l[i])]) := Own.up ho6 fun q _ hq => by rw [e7]; exact gb_putB_ne (fun e => hnb (e ▸ hq))
    simp (disch := omega) only [Bin_add_N]
    refine hk1 _ _ ⟨v6, i + 1, rfl, by omega, up_put hu6 e7 (by omega), hA7, ?_, hM7⟩ (by simp [temps, g11]; omega)
    have : ((l.take (i + 1)).map leafL).map Str = (((l.take i).map leafL).map Str) ++ [Str (leafL l[i])] := by
      rw [List.take_add_one, List.getElem?_eq_getElem (show i < l.length by omega)]
      simp only [Option.toList_some, List.map_append, List.map_cons, List.map_nil]
    rw [this]; exact ho7
  · have hin : i = n := by omega
    subst hin
    simp only [g0, g3, g9, g10, g11, Bin_lss_N, hlt, decide_false, IfV_false]
    rw [List.take_of_length_le (by omega)] at ho
    have hlm : (l.map leafL).length = i := by simpa using hln
    have hT0 : TreeAt w3 (sz w1) (sz w) (l.map leafL) [] := ⟨⟨vl, hA, by rw [hlm]; exact ho.sl, own_apart_map hM ho⟩, hM, fun k v h => by cases h⟩
    rw [hv3.lenL]
    by_cases h0 : 0 < i
    · simp only [Bin_gtr_N, h0, decide_true, IfV_true]
      rw [hv3.lenL, V_eq bd339]
      refine c_Tree_fill (fun s hs => by obtain ⟨x, _, rfl⟩ := List.mem_map.1 hs; exact shaL_length _) i 0 [] w3 _ h0 (by omega) (by omega) hT0 fun w4 n4 ht4 hm4 hs4 _ => ?_
      exact h _ _ _ n4 (hm4.up hu (fun q hq => by omega)) (by omega) (Nat.le_refl _) ht4 (fun _ => hs4)
    · simp only [Bin_gtr_N, h0, decide_false, IfV_false]
      exact h _ _ _ [] hu (by omega) (Nat.le_refl _) hT0 (fun q => absurd q h0)

/-- the root of some blocks -/
def rootOf (leaves : List (List UInt8)) : List UInt8 := if leaves.length = 0 then shaL [2] else digest leaves 0 leaves.length
theorem c_Tree_Root {leaves : List (List UInt8)} {tb mb : Nat} {nodes : List ((Nat × Nat) × List UInt8)} {w : World} (ht : TreeAt w tb mb leaves nodes) (hs : 0 < leaves.length → (alook (0, leaves.length) nodes).isSome = true) {K : Value → World → Prop}
    (h : ∀ w', Up w w' → K (Str (rootOf leaves)) w') : CallF pg n_merkle_Tree_Root [ptr tb 0] w K := by
  apply ln_merkle_Tree_Root
  obtain ⟨⟨vl, g1, g2, g3⟩, g4, g5⟩ := ht
  simp only [sh_merkle_Tree_Root, EqNil_p1, IfV_false, NilCk_ptr, FA_ptr, Nat.zero_add, g1.ld (k := 0) rfl, g2.lenL, Bin_eql_N]
  by_cases h0 : leaves.length = 0
  · simp only [h0, decide_true, IfV_true]
    rw [V_eq bs38_1]
    refine c_sha_Sum (l := [[2]]) (n := 1) (Sl.fresh rfl) (by simp) (by omega) fun w' hu => ?_
    have e : [[(2 : UInt8)]].flatten = [2] := rfl
    rw [e]
    have := h _ (((Up.refl w).alloc _).trans hu)
    unfold rootOf at this
    rw [if_pos h0] at this
    exact this
  · have g1d : Arr w.drew tb ty_merkle_Tree [vl, .map (some mb)] := g1
    have g4d : MapIs w.drew mb spanV Str nodes := g4
    have hsome := hs (by omega)
    obtain ⟨d, hd⟩ := Option.isSome_iff_exists.1 hsome
    have hdd := g5 _ _ hd
    simp only [h0, decide_false, IfV_false, Drew, g1d.ld (k := 0) rfl, g1d.ld (k := 1) rfl, true_and, g2.lenL, V_eq bd339, V_lookup mt335 keyT_span g4d, hd]
    have := h _ (Up.refl w).drew
    unfold rootOf at this
    rw [if_neg h0] at this
    rw [hdd]
    exact this
theorem c_merkle_Root {l : List (List UInt8)} (hl : ∀ s ∈ l, s.length < 1099511627700) {v : Value} {n : Nat} {w : World} (hv : Sl w 1 v n (l.map Str)) (hn : n < 1048576) {K : Value → World → Prop}
    (h : ∀ w', Up w w' → K (Str (rootOf (l.map leafL))) w') : CallF pg n_merkle_Root [v] w K := by
  apply ln_merkle_Root
  simp only [sh_merkle_Root]
  have hln : (l.map leafL).length = n := by have := hv.len; simpa using this
  refine c_merkle_New hl hv hn fun w1 tb mb nodes hu _ _ ht hs => ?_
  refine c_Tree_Root ht (fun h0 => ?_) fun w2 hu2 => h _ (hu.trans hu2)
  rw [hln] at h0 ⊢
  exact hs h0 _ (.self 0 n)

/-! proofs -/
def sidesF : Nat → Nat → Nat → List Bool
  | 0, _, _ => []
  | f + 1, i, n => if n ≤ 1 then [] else if i < splitN n then true :: sidesF f i (splitN n) else false :: sidesF f (i - splitN n) (n - splitN n)
def sidesL (i n : Nat) : List Bool := sidesF n i n
theorem sidesF_one (f i n : Nat) (h : n ≤ 1) : sidesF f i n = [] := by
  cases f with
  | zero => rfl
  | succ f => simp [sidesF, h]
theorem st_75 : SlT pg ty_s_bool 4 1 1 [.bool false] := ⟨by kernel_rfl, by kernel_rfl, rfl, by decide⟩
theorem sidesF_length (f i n : Nat) (h : n ≤ 18446744073709551615) : (sidesF f i n).length ≤ n := by
  induction f generalizing i n with
  | zero => simp [sidesF]
  | succ f ih =>
    simp only [sidesF]
    split
    · simp
    · rename_i hn
      obtain ⟨q1, q2, _⟩ := splitN_lt (n := n) (by omega) h
      split
      · have := ih i (splitN n) (by omega); simp; omega
      · have := ih (i - splitN n) (n - splitN n) (by omega); simp; omega
theorem c_merkle_sides {i n : Nat} (hin : i < n) (hn : n ≤ 1048576) {w : World} {K : Value → World → Prop}
    (h : ∀ w' v, Up w w' → Own w' (sz w) 4 1 v (sidesL i n).length ((sidesL i n).map B) → K v w') : CallF pg n_merkle_sides [N i, N n] w K := by
  apply ln_merkle_sides
  simp only [sh_merkle_sides]
  have hlen := sidesF_length n i n (by omega)
  refine LoopV_of (fun xs w' => ∃ (i' n' f : Nat) (acc : List Bool) (v : Value), xs = [N i', N n', v] ∧ i' < n' ∧ n' ≤ n ∧ n' ≤ f ∧ acc ++ sidesF f i' n' = sidesF n i n ∧ Up w w' ∧ Own w' (sz w) 4 1 v acc.length (acc.map B))
    (fun xs _ => natOf (xs.getD 1 undef)) ⟨i, n, n, [], _, rfl, hin, Nat.le_refl _, Nat.le_refl _, rfl, Up.refl _, Own.nil ..⟩ ?_
  rintro k1 T w1 ⟨i', n', f, acc, v, hT, hi, hn', hf, he, hu, ho⟩ hk1
  simp only [temps, List.cons.injEq, and_true] at hT
  obtain ⟨g0, g1, g5⟩ := hT
  have hacc : acc.length ≤ n := by have := congrArg List.length he; simp at this; omega
  by_cases h1 : 1 < n'
  · obtain ⟨q1, q2, _⟩ := splitN_lt (n := n') (by omega) (by omega)
    obtain ⟨f, rfl⟩ : ∃ g, f = g + 1 := ⟨f - 1, by omega⟩
    simp only [sidesF, if_neg (show ¬ n' ≤ 1 by omega)] at he
    simp only [g0, g1, g5, Bin_gtr_N, h1, decide_true, IfV_true]
    refine c_merkle_split (by omega) (by omega) ?_
    by_cases hs : i' < splitN n'
    · simp only [Bin_lss_N, hs, decide_true, IfV_true]
      rw [if_pos hs] at he
      refine V_push (cs := [B true]) st_75 ho rfl rfl rfl hu.size (by omega) (by omega) fun s v2 w2 ho2 hg2 => ?_
      refine hk1 _ _ ⟨i', splitN n', f, acc ++ [true], v2, rfl, hs, by omega, by omega, by simpa using he, hu.push hg2 ho (Nat.le_refl _), ?_⟩ (by simp [temps, g1]; omega)
      simpa using ho2
    · simp only [Bin_lss_N, hs, decide_false, IfV_false]
      rw [if_neg hs] at he
      refine V_push (cs := [B false]) st_75 ho rfl rfl rfl hu.size (by omega) (by omega) fun s v2 w2 ho2 hg2 => ?_
      simp (disch := omega) only [Bin_sub_N]
      refine hk1 _ _ ⟨i' - splitN n', n' - splitN n', f, acc ++ [false], v2, rfl, by omega, by omega, by omega, by simpa using he, hu.push hg2 ho (Nat.le_refl _), ?_⟩ (by simp [temps, g1]; omega)
      simpa using ho2
  · simp only [g0, g1, g5, Bin_gtr_N, h1, decide_false, IfV_false]
    rw [sidesF_one _ _ _ (by omega), List.append_nil] at he
    subst he
    exact h _ _ hu ho

theorem c_merkle_there {i n : Nat} {w : World} {K : Value → World → Prop} (h : K (B (decide (i < n ∧ n ≤ 1048576))) w) : CallF pg n_merkle_there [N i, N n] w K := by
  apply ln_merkle_there
  simp only [sh_merkle_there, Bin_geq_N, Nat.zero_le, decide_true, IfV_true, Bin_lss_N]
  by_cases h1 : i < n
  · simpa [h1] using h
  · simpa [h1] using h

def upL : List Bool → List (List UInt8) → List UInt8 → List UInt8
  | s :: ss, p :: ps, d => upL ss ps (if s then nodeL d p else nodeL p d)
  | _, _, d => d
theorem upL_length (ss : List Bool) (ps : List (List UInt8)) (d : List UInt8) (h : d.length = 32) : (upL ss ps d).length = 32 := by
  induction ss generalizing ps d with
  | nil => exact h
  | cons s ss ih =>
    cases ps with
    | nil => exact h
    | cons p ps => simp only [upL]; apply ih; split <;> exact shaL_length _
inductive UpR where
  | ok (d : List UInt8)
  | bad (code : Nat)
def UpR.val : UpR → Value
  | .ok d => .tuple #[Str d, .nilIface]
  | .bad c => .tuple #[Str [], eErr c]
def upR (i n : Nat) (leaf : List UInt8) (proof : List (List UInt8)) : UpR :=
  if ¬ (i < n ∧ n ≤ 1048576) then .bad 2
  else if proof.length ≠ (sidesL i n).length then .bad 11
  else if leaf.length ≠ 32 then .bad 11
  else if proof.all (fun p => p.length == 32) then .ok (upL (sidesL i n).reverse proof leaf) else .bad 11

theorem c_merkle_Up {i n : Nat} {leaf : List UInt8} {proof : List (List UInt8)} (hn : n < 1099511627776) (hl : leaf.length < 1099511627776) {v : Value} {m : Nat} {w : World} (hv : Sl w 1 v m (proof.map Str)) (hm : m < 1099511627776) {K : Value → World → Prop}
    (h : ∀ w', Up w w' → K (upR i n leaf proof).val w') : CallF pg n_merkle_Up [N i, N n, Str leaf, v] w K := by
  apply ln_merkle_Up
  simp only [sh_merkle_Up]
  refine c_merkle_there ?_
  have hpm : proof.length = m := by have := hv.len; simpa using this
  by_cases ht : i < n ∧ n ≤ 1048576
  · simp only [ht, and_self, decide_true, NotV_b, Bool.not_true, IfV_false]
    refine c_merkle_sides ht.1 ht.2 fun w1 sv hu ho => ?_
    have hv1 := hv.Up hu
    rw [hv1.lenL, ho.sl.lenL]
    simp only [Bin_neq_N]
    have hlen := sidesF_length n i n (by omega)
    by_cases h1 : m = (sidesL i n).length
    · simp only [h1, decide_true, Bool.not_true, IfV_false, LenS_Str, Bin_neq_N]
      by_cases h2 : leaf.length = 32
      · simp only [h2, decide_true, Bool.not_true, IfV_false]
        rw [hv1.lenL]
        have hup : upR i n leaf proof = if proof.all (fun p => p.length == 32) then .ok (upL (sidesL i n).reverse proof leaf) else .bad 11 := by
          unfold upR
          rw [if_neg (by simpa using ht), if_neg (by omega), if_neg (by omega)]
        rw [hup] at h
        generalize hss : sidesL i n = ss at *
        refine LoopV_of (fun xs w' => ∃ (j : Nat) (d : List UInt8), xs = [sv, Str d, v, N m, N j] ∧ j ≤ m ∧ d.length = 32 ∧ Up w w' ∧ Own w' (sz w) 4 1 sv ss.length (ss.map B) ∧ (∀ p ∈ proof.take j, p.length = 32) ∧
            upL (ss.reverse.drop j) (proof.drop j) d = upL ss.reverse proof leaf)
          (fun xs _ => m - natOf (xs.getD 4 undef)) ⟨0, leaf, rfl, by omega, h2, hu, ho, by simp, rfl⟩ ?_
        rintro k1 T w2 ⟨j, d, hT, hj, hd, hu2, ho2, hp, he⟩ hk1
        simp only [temps, List.cons.injEq, and_true] at hT
        obtain ⟨g10, g11, g34, g35, g36⟩ := hT
        by_cases hlt : j < m
        · simp only [g10, g11, g34, g35, g36, Bin_lss_N, hlt, decide_true, IfV_true]
          have hjp : j < proof.length := by omega
          have hget : (proof.map Str)[j]? = some (Str proof[j]) := by simp [List.getElem?_eq_getElem hjp]
          refine (hv.Up hu2).ix1 hget fun p => ?_
          simp only [LenS_Str, Bin_neq_N]
          by_cases h32 : proof[j].length = 32
          · simp only [h32, decide_true, Bool.not_true, IfV_false]
            rw [ho2.sl.lenL]
            have hidx : ss.length - 1 - j < ss.length := by omega
            simp (disch := omega) only [Bin_sub_N]
            have hsg : (ss.map B)[ss.length - 1 - j]? = some (B ss[ss.length - 1 - j]) := by simp [List.getElem?_eq_getElem hidx]
            refine ho2.sl.ix1 hsg fun q => ?_
            have hrev : ss.reverse.drop j = ss[ss.length - 1 - j] :: ss.reverse.drop (j + 1) := by
              rw [List.drop_eq_getElem_cons (by simp; omega)]
              congr 1
              rw [List.getElem_reverse]
            have hpd : proof.drop j = proof[j] :: proof.drop (j + 1) := List.drop_eq_getElem_cons hjp
            rw [hrev, hpd] at he
            simp only [upL] at he
            have hpt : ∀ p ∈ proof.take (j + 1), p.length = 32 := by
              intro p hpp
              rw [List.take_add_one, List.getElem?_eq_getElem hjp] at hpp
              simp only [Option.toList_some, List.mem_append, List.mem_singleton] at hpp
              rcases hpp with hpp | rfl
              · exact hp p hpp
              · exact h32
            cases hb : ss[ss.length - 1 - j] with
            | true =>
              rw [hb] at he
              simp only [IfV_true]
              refine c_merkle_Node (by omega) fun w3 hu3 => ?_
              simp (disch := omega) only [Bin_add_N]
              exact hk1 _ _ ⟨j + 1, _, rfl, by omega, shaL_length _, hu2.trans hu3, Own.Up ho2 hu3, hpt, by simpa using he⟩ (by simp [temps, g36]; omega)
            | false =>
              rw [hb] at he
              simp only [IfV_false]
              refine c_merkle_Node (by omega) fun w3 hu3 => ?_
              simp (disch := omega) only [Bin_add_N]
              exact hk1 _ _ ⟨j + 1, _, rfl, by omega, shaL_length _, hu2.trans hu3, Own.Up ho2 hu3, hpt, by simpa using he⟩ (by simp [temps, g36]; omega)
          · simp only [h32, decide_false, Bool.not_false, IfV_true]
            have hf : proof.all (fun p => p.length == 32) = false := by
              rw [List.all_eq_false]
              exact ⟨proof[j], List.getElem_mem _, by simpa using h32⟩
            rw [hf] at h
            exact h _ hu2
        · simp only [g10, g11, g34, g35, g36, Bin_lss_N, hlt, decide_false, IfV_false]
          have hjm : j = m := by omega
          have hall : proof.all (fun p => p.length == 32) = true := by
            rw [List.all_eq_true]
            intro p hpp
            have := hp p (by rw [List.take_of_length_le (by omega)]; exact hpp)
            simpa using this
          rw [hall] at h
          have hdn : upL (ss.reverse.drop j) (proof.drop j) d = d := by
            rw [List.drop_eq_nil_of_le (by simp; omega)]; rfl
          rw [hdn] at he
          subst he
          exact h _ hu2
      · simp only [h2, decide_false, Bool.not_false, IfV_true]
        have := h _ hu
        unfold upR at this
        rw [if_neg (by simpa using ht), if_neg (by omega), if_pos h2] at this
        exact this
    · simp only [h1, decide_false, Bool.not_false, IfV_true]
      have := h _ hu
      unfold upR at this
      rw [if_neg (by simpa using ht), if_pos (by omega)] at this
      exact this
  · simp only [ht, decide_false, NotV_b, Bool.not_false, IfV_true]
    have := h _ (Up.refl w)
    unfold upR at this
    rw [if_pos ht] at this
    exact this

/-- what merkle.Check answers -/
def checkV (root : List UInt8) (i n : Nat) (s : List UInt8) (proof : List (List UInt8)) : Value :=
  match upR i n (leafL s) proof with
  | .bad c => eErr c
  | .ok d => if d = root then .nilIface else eFault i 11
theorem c_merkle_Check {root : List UInt8} {i n : Nat} {s : List UInt8} {proof : List (List UInt8)} (hn : n < 1099511627776) (hs : s.length < 1099511627700) {v : Value} {m : Nat} {w : World} (hv : Sl w 1 v m (proof.map Str)) (hm : m < 1099511627776) {K : Value → World → Prop}
    (h : ∀ w', Up w w' → K (checkV root i n s proof) w') : CallF pg n_merkle_Check [Str root, N i, N n, Str s, v] w K := by
  apply ln_merkle_Check
  simp only [sh_merkle_Check]
  refine c_merkle_Leaf hs fun w1 hu1 => ?_
  have hl : (leafL s).length = 32 := shaL_length _
  refine c_merkle_Up hn (by omega) (hv.Up hu1) hm fun w2 hu2 => ?_
  have h' := h _ (hu1.trans hu2)
  unfold checkV at h'
  have eb : ∀ w, (Instr.build ty_api_Fault [(0, N i), (1, eErr 11)].toArray).run pg w = .ok (.agg #[N i, eErr 11]) w := by intro w; kernel_rfl
  cases hr : upR i n (leafL s) proof with
  | bad c => rw [hr] at h'; simp only [UpR.val, Ext_0, Ext_1, NeNil_i1, IfV_true]; exact h'
  | ok d =>
    rw [hr] at h'
    simp only [UpR.val, Ext_0, Ext_1, NeNil_i0, IfV_false, BinS_neq]
    by_cases hd : d = root
    · simp only [hd, ne_eq, not_true_eq_false, decide_false, IfV_false]
      simpa [hd] using h'
    · simp only [hd, ne_eq, not_false_eq_true, decide_true, IfV_true, V_eq (eb w2)]
      simpa [hd] using h'
end Go.Proofs.Tryz

