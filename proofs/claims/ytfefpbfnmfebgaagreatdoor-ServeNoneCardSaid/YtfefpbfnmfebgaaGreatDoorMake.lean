/- Part of a proof (its text Make): what is proved stands in the text Card. -/
import Derived.Test.YtfefpbfnmfebgaaGreatDoorShard
import Derived.Test.YtfefpbfnmfebgaaGreatDoorNorm
import Derived.Test.YtfefpbfnmfebgaaGreatDoorMerkle
import Derived.Test.YtfefpbfnmfebgaaGreatDoorMp
import Derived.Test.YtfefpbfnmfebgaaGreatDoorManB
set_option linter.all false
namespace Go.Proofs.Tryz
open Go Go.Lad
set_option autoImplicit false
set_option linter.unusedSimpArgs false
set_option linter.unusedVariables false

/-! the normalised edges ascend -/
theorem compactFrom_pair (a : Int × Int) (l : List (Int × Int)) (h : (a :: l).Pairwise (fun x y => leE x y = true)) :
    (a :: compactFrom a l).Pairwise (fun x y => leE x y = true ∧ x ≠ y) := by
  induction l generalizing a with
  | nil => simp [compactFrom]
  | cons b l ih =>
    simp only [compactFrom]
    split
    · rename_i hb
      subst hb
      exact ih _ (List.Pairwise.tail h)
    · rename_i hb
      have h1 := ih b (List.Pairwise.tail h)
      rw [List.pairwise_cons] at h ⊢
      refine ⟨fun y hy => ⟨?_, fun e => ?_⟩, h1⟩
      · simp only [List.mem_cons] at hy
        rcases hy with rfl | hy
        · exact h.1 _ (List.mem_cons_self ..)
        · exact h.1 _ (List.mem_cons_of_mem _ (compactFrom_mem _ _ _ hy))
      · subst e
        simp only [List.mem_cons] at hy
        rcases hy with e | hy
        · exact hb e.symm
        · have h3 : leE a b = true := h.1 b (List.mem_cons_self ..)
          have h4 : leE b a = true := (List.pairwise_cons.1 h.2).1 a (compactFrom_mem _ _ _ hy)
          exact hb (leE_anti _ _ h4 h3)
theorem normI_pair (l : List (Int × Int)) : (normI l).Pairwise (fun x y => leE x y = true ∧ x ≠ y) := by
  have h : (sortE l).Pairwise (fun x y => leE x y = true) := List.pairwise_mergeSort leE_trans leE_total l
  unfold normI
  cases hs : sortE l with
  | nil => simp [compactL]
  | cons a t => rw [hs] at h; exact compactFrom_pair a t h
def ltE (a b : NE) : Prop := a.1 < b.1 ∨ a.1 = b.1 ∧ a.2 < b.2
theorem normE_pair {n : Nat} {l : List (Int × Int)} (hb : badE n l 0 = none) : (normE l).Pairwise ltE := by
  unfold normE natE
  rw [List.pairwise_map]
  refine List.Pairwise.imp_of_mem ?_ (normI_pair l)
  intro a b ha hb' h
  have h1 := badE_none hb a (normI_mem ha)
  have h2 := badE_none hb b (normI_mem hb')
  obtain ⟨h3, h4⟩ := h
  simp only [leE, decide_eq_true_eq] at h3
  have h5 : ¬ (a.1 = b.1 ∧ a.2 = b.2) := fun hh => h4 (Prod.ext hh.1 hh.2)
  simp only [ltE]
  omega
theorem begE_iff {l : List NE} (h : l.Pairwise ltE) (v : Nat) : ∀ (i : Nat) (hi : i < l.length), i < begE l v ↔ l[i].1 < v := by
  induction l with
  | nil => intro i hi; simp at hi
  | cons a l ih =>
    rw [List.pairwise_cons] at h
    intro i hi
    by_cases ha : a.1 < v
    · have e : begE (a :: l) v = begE l v + 1 := by simp [begE, ha]
      rw [e]
      cases i with
      | zero => simp [ha]
      | succ i =>
        have := ih h.2 i (by simpa using hi)
        simp only [List.getElem_cons_succ]; omega
    · have e : begE (a :: l) v = 0 := by
        simp only [begE]
        rw [List.filter_eq_nil_iff.2]
        · rfl
        · intro x hx
          simp only [List.mem_cons] at hx
          rcases hx with rfl | hx
          · simpa using ha
          · have := h.1 x hx
            simp only [ltE] at this
            simp; omega
      rw [e]
      cases i with
      | zero => simp [ha]
      | succ i =>
        have := h.1 (l[i]'(by simpa using hi)) (List.getElem_mem _)
        simp only [ltE] at this
        simp only [List.getElem_cons_succ]; omega
theorem rowE_get {l : List NE} (h : l.Pairwise ltE) (v i : Nat) (hi : i < (rowE l v).length) : ∃ hj : begE l v + i < l.length, (rowE l v)[i] = l[begE l v + i].2 ∧ l[begE l v + i].1 = v := by
  have h1 := rowE_length l v
  have h2 := begE_le l (v + 1)
  have hj : begE l v + i < l.length := by omega
  refine ⟨hj, ?_, ?_⟩
  · simp [rowE]
  · have a1 := begE_iff h v _ hj
    have a2 := begE_iff h (v + 1) _ hj
    omega
theorem rowsOk_of {n : Nat} {l : List NE} (h : l.Pairwise ltE) (hn : ∀ e ∈ l, e.1 < n ∧ e.2 < n) (hl : l.length ≤ 20000) : RowsOk n l := by
  refine ⟨fun v hv => ⟨fun t ht => ?_, fun i hi => ?_⟩, hl⟩
  · obtain ⟨i, hi, rfl⟩ := List.getElem_of_mem ht
    obtain ⟨hj, e1, e2⟩ := rowE_get h v i hi
    rw [e1]; exact (hn _ (List.getElem_mem _)).2
  · obtain ⟨hj, e1, e2⟩ := rowE_get h v i (by omega)
    obtain ⟨hj', e1', e2'⟩ := rowE_get h v (i + 1) hi
    have hg : ∀ j (hj : j < (rowE l v).length), (rowE l v).getD j 0 = (rowE l v)[j] := fun j hj => by rw [List.getD_eq_getElem?_getD, List.getElem?_eq_getElem hj]; rfl
    rw [hg i (by omega), hg (i + 1) hi, e1, e1']
    have := List.pairwise_iff_getElem.1 h (begE l v + i) (begE l v + (i + 1)) hj hj' (by omega)
    simp only [ltE] at this
    omega
theorem normE_rows {n : Nat} {l : List (Int × Int)} (hb : badE n l 0 = none) (hl : l.length ≤ 20000) : RowsOk n (normE l) :=
  rowsOk_of (normE_pair hb) (normE_lt hb) (Nat.le_trans (normE_length l) hl)
end Go.Proofs.Tryz

namespace Go.Proofs.Tryz
open Go Go.Lad
set_option autoImplicit false
set_option maxRecDepth 100000
set_option linter.unusedSimpArgs false
set_option linter.unusedVariables false

/-- a block's proof: the digests beside its way, from the leaf upwards -/
def proofF (leaves : List (List UInt8)) (i : Nat) : Nat → Nat → Nat → List (List UInt8) → List (List UInt8)
  | 0, _, _, acc => acc
  | f + 1, a, m, acc =>
    if m ≤ 1 then acc
    else if i < a + splitN m then proofF leaves i f a (splitN m) (digest leaves (a + splitN m) (m - splitN m) :: acc)
    else proofF leaves i f (a + splitN m) (m - splitN m) (digest leaves a (splitN m) :: acc)
def proofL (leaves : List (List UInt8)) (i : Nat) : List (List UInt8) := proofF leaves i leaves.length 0 leaves.length []
theorem proofF_fuel (leaves : List (List UInt8)) (i : Nat) : ∀ (f g a m : Nat) (acc : List (List UInt8)), m ≤ f → m ≤ g → m ≤ 1048576 → proofF leaves i f a m acc = proofF leaves i g a m acc := by
  intro f
  induction f with
  | zero =>
    intro g a m acc h1 h2 h3
    cases g with
    | zero => rfl
    | succ g => simp only [proofF]; rw [if_pos (by omega)]
  | succ f ih =>
    intro g a m acc h1 h2 h3
    cases g with
    | zero => simp only [proofF]; rw [if_pos (by omega)]
    | succ g =>
      simp only [proofF]
      by_cases hm : m ≤ 1
      · rw [if_pos hm, if_pos hm]
      · rw [if_neg hm, if_neg hm]
        obtain ⟨q1, q2, q3, q4⟩ := splitN_lt (n := m) (by omega) (by omega)
        split
        · exact ih _ _ _ _ (by omega) (by omega) (by omega)
        · exact ih _ _ _ _ (by omega) (by omega) (by omega)
theorem bdS (a b : Nat) (w : World) (K : Value → World → Prop) : V pg (Instr.build ty_merkle_span [(0, N a), (1, N b)].toArray) w K = K (spanV (a, b)) w := V_eq bd339
def spanMany (w : World) : Value → Nat
  | .pointer (some a) => (match gb w a.block with | some (.cells c _ _) => natOf (c.toList.getD 1 undef) | _ => 0)
  | _ => 0
theorem spanMany_arr {w : World} {p : Nat} {t : TypeId} {a m : Nat} (h : Arr w p t [N a, N m]) : spanMany w (ptr p 0) = m := by
  simp only [spanMany]
  rw [h]
  simp
theorem Sl_one {w : World} {x : List UInt8} : Sl (w.alloc (.cells [Str x].toArray 9)) 1 (.slice (some ⟨sz w, 0, none⟩) 1 1) 1 [Str x] := Sl.fresh rfl
theorem Own_one {w : World} {x : List UInt8} : Own (w.alloc (.cells [Str x].toArray 9)) (sz w) 9 1 (.slice (some ⟨sz w, 0, none⟩) 1 1) 1 [Str x] :=
  Own.of (tl := []) (Nat.le_refl _) (by rw [List.append_nil]; exact Arr.new) (Nat.le_refl _) (by simp [maxLen]) rfl rfl

theorem c_proof_j1 {leaves : List (List UInt8)} {tb mb : Nat} {nodes : List ((Nat × Nat) × List UInt8)} {w0 w : World} {k1 : List Value → World → Prop} {K : Value → World → Prop}
    (ht : TreeAt w0 tb mb leaves nodes) (hall : ∀ s, SubS 0 leaves.length s → (alook s nodes).isSome = true) {i a m : Nat} (hi : a ≤ i ∧ i < a + m) (h2 : 2 ≤ m) (hm : m ≤ 1048576) (ham : a + m ≤ 1048576) (hsub : SubS 0 leaves.length (a, m))
    {p pf pr : Nat} {v : Value} {acc : List (List UInt8)} (hu : Up w0 w) (hp0 : sz w0 ≤ p) (hp : Arr w p ty_merkle_span [N a, N m]) (hf : Arr w pf ty_merkle_span [N a, N (splitN m)]) (hr : Arr w pr ty_merkle_span [N (a + splitN m), N (m - splitN m)])
    (hfp : pf ≠ p) (hrp : pr ≠ p) (ho : Own w (sz w0) 9 1 v acc.length (acc.map Str)) (hacc : acc.length < 1048576)
    (h : ∀ w' p' v' a' m' acc', Up w0 w' → sz w0 ≤ p' → Arr w' p' ty_merkle_span [N a', N m'] → Own w' (sz w0) 9 1 v' acc'.length (acc'.map Str) → acc'.length = acc.length + 1 → m' < m → 1 ≤ m' → a' ≤ i → i < a' + m' → a' + m' ≤ a + m → SubS 0 leaves.length (a', m') →
      (∀ f, proofF leaves i (f + 1) a m acc = proofF leaves i f a' m' acc') → k1 [ptr tb 0, N i, v', ptr p' 0] w') : sh_merkle_Tree_Proof_j1 k1 (ptr tb 0) (N i) v (ptr p 0) (N (splitN m)) (ptr pf 0) (ptr pr 0) w K := by
  obtain ⟨q1, q2, q3, q4⟩ := splitN_lt (n := m) h2 (by omega)
  have hlook : ∀ (a' m' : Nat), SubS 0 leaves.length (a', m') → alook (a', m') nodes = some (digest leaves a' m') := by
    intro a' m' hs
    obtain ⟨u, hu⟩ := Option.isSome_iff_exists.1 (hall _ hs)
    rw [hu, ht.good _ _ hu]
  have sl : SubS 0 leaves.length (a, splitN m) := hsub.trans (.left _ _ _ h2 (.self ..))
  have sr : SubS 0 leaves.length (a + splitN m, m - splitN m) := hsub.trans (.right _ _ _ h2 (.self ..))
  have hpd : Arr w.drew p ty_merkle_span [N a, N m] := hp
  have hfd : Arr w.drew pf ty_merkle_span [N a, N (splitN m)] := hf
  have hrd : Arr w.drew pr ty_merkle_span [N (a + splitN m), N (m - splitN m)] := hr
  have htd := (ht.up hu).up (Up.refl w).drew
  obtain ⟨⟨vl, t1, t2, t3⟩, t4, t5⟩ := htd
  -- what is done with the digest of the other half, and this half
  have fin : ∀ (a' m' b' n' : Nat) (ps po : Nat), Arr w.drew ps ty_merkle_span [N a', N m'] → Arr w.drew po ty_merkle_span [N b', N n'] → ps ≠ p → m' < m → 1 ≤ m' → a' ≤ i → i < a' + m' → a' + m' ≤ a + m → SubS 0 leaves.length (a', m') → SubS 0 leaves.length (b', n') →
      (∀ f, proofF leaves i (f + 1) a m acc = proofF leaves i f a' m' (digest leaves b' n' :: acc)) →
      (NilCk (ptr tb 0) fun t39 => FA t39 1 fun t40 => Ld t40 w.drew fun t41 w1 => (w1 = w.drew) ∧ (LdN (ptr po 0) 2 w.drew fun t42 w1 => (w1 = w.drew) ∧ (V pg (Instr.lookup ty_m_merkle_span_string t41 t42 false) w.drew fun t43 w1 => (w1 = w.drew) ∧ (
        LdN (ptr ps 0) 2 w.drew fun t44 w1 => (w1 = w.drew) ∧ (V pg (Instr.buildSlice ty_s_string 1 [(0, t43)].toArray) w.drew fun t45 w => ((LdN (ptr ps 0) 2 w fun t52 w1 => w1 = w ∧ t52 = t44) ∧ True) ∧ (
        V pg (Builtin.append_ #[ty_s_string, ty_s_string] ty_s_string [t45, v].toArray) w fun t46 w => ((LdN (ptr ps 0) 2 w fun t51 w1 => w1 = w ∧ t51 = t44) ∧ True) ∧ (StN (ptr p 0) t44 2 w fun t47 w => (True) ∧ (
        LdN (ptr p 0) 2 w fun t48 w => New [(N 0), (N 0)] ty_merkle_span w fun t49 w => StN t49 t48 2 w fun t50 w => k1 [ptr tb 0, N i, t46, t49] w)))))))) := by
    intro a' m' b' n' ps po hps hpo hpsp hm1 hm2 hi1 hi2 ham' hsb hsb2 hpr
    simp only [NilCk_ptr, FA_ptr, Nat.zero_add, t1.ld (k := 1) rfl, true_and]
    refine hpo.ldAll rfl ⟨rfl, ?_⟩
    rw [show Value.agg [N b', N n'].toArray = spanV (b', n') from rfl]
    rw [V_lookup mt335 keyT_span t4 (b', n'), hlook b' n' hsb2]
    dsimp only
    refine ⟨rfl, hps.ldAll rfl ⟨rfl, ?_⟩⟩
    rw [V_eq bs38_1]
    have u1 : Up w.drew (w.drew.alloc (.cells [Str (digest leaves b' n')].toArray 9)) := (Up.refl w.drew).alloc _
    have o1 : Own (w.drew.alloc (.cells [Str (digest leaves b' n')].toArray 9)) (sz w.drew) 9 1 (.slice (some ⟨sz w.drew, 0, none⟩) 1 1) 1 [Str (digest leaves b' n')] := Own_one
    generalize w.drew.alloc (.cells [Str (digest leaves b' n')].toArray 9) = w1 at u1 o1 ⊢
    refine ⟨⟨(hps.up u1).ldAll rfl ⟨rfl, rfl⟩, trivial⟩, ?_⟩
    have hv1 : Sl w1 1 v acc.length (acc.map Str) := (ho.sl.Up (Up.refl w).drew).Up u1
    refine V_append st_38 o1 hv1 (by rw [List.all_eq_true]; intro x hx; obtain ⟨y, _, rfl⟩ := List.mem_map.1 hx; rfl) u1.size (by omega) fun v2 w2 o2 g2 => ?_
    have u2 : Up w w2 := Up.grow ((Up.refl w).drew.trans u1) g2 (fun k hk => by cases hk; exact Nat.le_refl _)
    refine ⟨⟨(Arr.up (show Arr w ps _ _ from hps) u2).ldAll rfl ⟨rfl, rfl⟩, trivial⟩, ?_⟩
    have hp2 : Arr w2 p ty_merkle_span [N a, N m] := Arr.up hp u2
    refine hp2.stAll (l := [N a', N m']) rfl rfl rfl fun w3 e3 hp3 => ?_
    refine hp3.ldAll rfl ?_
    have hlt := hp2.lt
    have o3 : Own w3 (sz w.drew) 9 1 v2 (1 + acc.length) ([Str (digest leaves b' n')] ++ acc.map Str) := Own.up o2 fun b hb hi => by rw [e3]; exact gb_putB_ne (by have h1 := o2.inSl hi; have h2 := hp.lt; rw [sz_drew] at h1; omega)
    have hz3 : sz w3 = sz w2 := by rw [e3]; exact sz_putB ..
    refine New_of (cs := [N 0, N 0]) fun w4 u4 hA4 hz4 => ?_
    refine hA4.stAll (l := [N a', N m']) rfl rfl rfl fun w5 e5 hA5 => ?_
    have o5 : Own w5 (sz w.drew) 9 1 v2 (1 + acc.length) ([Str (digest leaves b' n')] ++ acc.map Str) := Own.up (Own.Up o3 u4) fun b hb hi => by rw [e5]; exact gb_putB_ne (by have h1 := o3.sl.lt hi; omega)
    have h0 : sz w0 ≤ sz w := hu.size
    have h5 : sz w ≤ sz w2 := u2.size
    have hu5 : Up w0 w5 := up_put ((up_put (hu.trans u2) e3 hp0).trans u4) e5 (by omega)
    refine h w5 (sz w3) v2 a' m' (digest leaves b' n' :: acc) hu5 (by omega) hA5 ?_ rfl hm1 hm2 hi1 hi2 ham' hsb hpr
    have : Own w5 (sz w0) 9 1 v2 (1 + acc.length) _ := o5.mono (by rw [sz_drew]; omega)
    rw [Nat.add_comm] at this
    simpa using this
  have p1 : ∀ f, proofF leaves i (f + 1) a m acc = if i < a + splitN m then proofF leaves i f a (splitN m) (digest leaves (a + splitN m) (m - splitN m) :: acc) else proofF leaves i f (a + splitN m) (m - splitN m) (digest leaves a (splitN m) :: acc) := by
    intro f; simp only [proofF]; rw [if_neg (by omega)]
  unfold sh_merkle_Tree_Proof_j1
  simp (disch := omega) only [FA_ptr, Nat.zero_add, hp.ld (k := 0) rfl, Bin_add_N, Bin_lss_N]
  by_cases hlt : i < a + splitN m
  · simp only [hlt, decide_true, IfV_true, Drew]
    exact fin a (splitN m) _ _ pf pr hfd hrd hfp (by omega) (by omega) hi.1 hlt (by omega) sl sr (fun f => by rw [p1, if_pos hlt])
  · simp only [hlt, decide_false, IfV_false, Drew]
    exact fin (a + splitN m) (m - splitN m) _ _ pr pf hrd hfd hrp (by omega) (by omega) (by omega) (by omega) (by omega) sr sl (fun f => by rw [p1, if_neg hlt])
theorem c_Tree_Proof {leaves : List (List UInt8)} {tb mb : Nat} {nodes : List ((Nat × Nat) × List UInt8)} {w : World} (ht : TreeAt w tb mb leaves nodes) (hall : ∀ s, SubS 0 leaves.length s → (alook s nodes).isSome = true) (hn : leaves.length ≤ 1048576)
    {i : Nat} (hi : i < leaves.length) {K : Value → World → Prop}
    (h : ∀ w' v, Up w w' → Own w' (sz w) 9 1 v (proofL leaves i).length ((proofL leaves i).map Str) → K (.tuple #[v, .nilIface]) w') : CallF pg n_merkle_Tree_Proof [ptr tb 0, N i] w K := by
  apply ln_merkle_Tree_Proof
  have e1 : ¬ leaves.length ≤ i := by omega
  obtain ⟨⟨vl, t1, t2, t3⟩, t4, t5⟩ := id ht
  simp only [sh_merkle_Tree_Proof, EqNil_p1, IfV_false, Bin_lss_N, Nat.not_lt_zero, decide_false, NilCk_ptr, FA_ptr, Nat.zero_add, t1.ld (k := 0) rfl, t2.lenL, Bin_geq_N, e1, bdS]
  refine New_of (cs := [N 0, N 0]) fun w1 u1 hA1 hz1 => ?_
  refine hA1.stAll (l := [N 0, N leaves.length]) rfl rfl rfl fun w2 e2 hA2 => ?_
  have u2 : Up w w2 := up_put u1 e2 (Nat.le_refl _)
  refine LoopV_of (fun xs w' => ∃ (p : Nat) (v : Value) (a m : Nat) (acc : List (List UInt8)), xs = [ptr tb 0, N i, v, ptr p 0] ∧ Up w w' ∧ sz w ≤ p ∧ Arr w' p ty_merkle_span [N a, N m] ∧ Own w' (sz w) 9 1 v acc.length (acc.map Str) ∧ 1 ≤ m ∧ a ≤ i ∧ i < a + m ∧ a + m ≤ leaves.length ∧
      acc.length + m ≤ leaves.length ∧ SubS 0 leaves.length (a, m) ∧ ∃ f, m ≤ f ∧ f ≤ leaves.length ∧ proofL leaves i = proofF leaves i f a m acc) (fun xs w' => spanMany w' (xs.getD 3 undef))
    ⟨sz w, _, 0, leaves.length, [], rfl, u2, Nat.le_refl _, hA2, Own.nil .., by omega, by omega, by omega, by omega, by simp, .self .., leaves.length, Nat.le_refl _, Nat.le_refl _, rfl⟩ ?_
  rintro k1 T w3 ⟨p, v, a, m, acc, hT, hu, hp0, hA, ho, hm1, hai, him, ham, hacc, hsub, f, hf1, hf2, hpr⟩ hk1
  simp only [temps, List.cons.injEq, and_true] at hT
  obtain ⟨g0, g1, g6, g7⟩ := hT
  simp only [g0, g1, g6, g7, FA_ptr, Nat.zero_add, hA.ld (k := 1) rfl, Bin_gtr_N]
  by_cases h2 : 1 < m
  · obtain ⟨q1, q2, q3, q4⟩ := splitN_lt (n := m) (by omega) (by omega)
    simp only [h2, decide_true, IfV_true, FA_ptr, Nat.zero_add, hA.ld (k := 1) rfl]
    refine c_merkle_split (by omega) (by omega) ?_
    have hAd : Arr w3.drew p ty_merkle_span [N a, N m] := hA
    simp (disch := omega) only [Drew, FA_ptr, Nat.zero_add, hAd.ld (k := 0) rfl, hAd.ld (k := 1) rfl, true_and, bdS, Bin_add_N, Bin_sub_N]
    have hplt := hA.lt
    obtain ⟨f', rfl⟩ : ∃ f', f = f' + 1 := ⟨f - 1, by omega⟩
    have step : ∀ (w4 : World) (pf pr : Nat), Up w3 w4 → Arr w4 pf ty_merkle_span [N a, N (splitN m)] → Arr w4 pr ty_merkle_span [N (a + splitN m), N (m - splitN m)] → pf ≠ p → pr ≠ p →
        sh_merkle_Tree_Proof_j1 k1 (ptr tb 0) (N i) v (ptr p 0) (N (splitN m)) (ptr pf 0) (ptr pr 0) w4 K := by
      intro w4 pf pr u4 hf hr hfp hrp
      refine c_proof_j1 ht hall ⟨hai, him⟩ (by omega) (by omega) (by omega) hsub (hu.trans u4) hp0 (hA.up u4) hf hr hfp hrp (Own.Up ho u4) (by omega) ?_
      intro w' p' v' a' m' acc' hu' hp' hA' ho' hl' hm' hm1' ha' hi' ham' hs' hpf
      refine hk1 _ _ ⟨p', v', a', m', acc', rfl, hu', hp', hA', ho', hm1', ha', hi', by omega, by omega, hs', f', by omega, by omega, by rw [hpr, hpf]⟩ ?_
      simp only [temps, List.getD_cons_succ, List.getD_cons_zero, g7]
      rw [spanMany_arr hA', spanMany_arr hA]; exact hm'
    constructor
    · refine New_of (cs := [N 0, N 0]) fun w4 u4 hB4 hz4 => ?_
      have hA4 := hAd.up u4
      simp only [hA4.ld (k := 0) rfl, hA4.ld (k := 1) rfl, true_and, and_true, bdS, and_self]
      refine New_of (cs := [N 0, N 0]) fun w5 u5 hC5 hz5 => ?_
      have hA5 := hA4.up u5
      simp only [hA5.ld (k := 0) rfl, hA5.ld (k := 1) rfl, true_and, and_true, bdS, and_self]
      refine (hB4.up u5).stAll (l := [N a, N (splitN m)]) rfl rfl rfl fun w6 e6 hB6 => ?_
      have hA6 := arr_put hA5 e6 (by have : sz w3.drew = sz w3 := rfl; omega)
      simp only [hA6.ld (k := 0) rfl, hA6.ld (k := 1) rfl, true_and, and_true, bdS, and_self]
      have hC6 := arr_put hC5 e6 (by omega)
      refine hC6.stAll (l := [N (a + splitN m), N (m - splitN m)]) rfl rfl rfl fun w7 e7 hC7 => ?_
      have hs : sz w3.drew = sz w3 := rfl
      refine step w7 _ _ ?_ (arr_put hB6 e7 (by omega)) hC7 (by omega) (by omega)
      exact up_put (up_put (((Up.refl w3).drew.trans u4).trans u5) e6 (by omega)) e7 (by omega)
    · refine New_of (cs := [N 0, N 0]) fun w4 u4 hB4 hz4 => ?_
      have hA4 := hAd.up u4
      simp only [hA4.ld (k := 0) rfl, hA4.ld (k := 1) rfl, true_and, and_true, bdS, and_self]
      refine New_of (cs := [N 0, N 0]) fun w5 u5 hC5 hz5 => ?_
      have hA5 := hA4.up u5
      simp only [hA5.ld (k := 0) rfl, hA5.ld (k := 1) rfl, true_and, and_true, bdS, and_self]
      refine hC5.stAll (l := [N a, N (splitN m)]) rfl rfl rfl fun w6 e6 hC6 => ?_
      have hs : sz w3.drew = sz w3 := rfl
      have hA6 := arr_put hA5 e6 (by omega)
      simp only [hA6.ld (k := 0) rfl, hA6.ld (k := 1) rfl, true_and, and_true, bdS, and_self]
      have hB6 := arr_put (hB4.up u5) e6 (by omega)
      refine hB6.stAll (l := [N (a + splitN m), N (m - splitN m)]) rfl rfl rfl fun w7 e7 hB7 => ?_
      refine step w7 _ _ ?_ (arr_put hC6 e7 (by omega)) hB7 (by omega) (by omega)
      exact up_put (up_put (((Up.refl w3).drew.trans u4).trans u5) e6 (by omega)) e7 (by omega)
  · simp only [h2, decide_false, IfV_false]
    have hmf : proofL leaves i = acc := by
      rw [hpr]
      cases f with
      | zero => rfl
      | succ f => simp only [proofF]; rw [if_pos (by omega)]
    rw [hmf] at h
    exact h _ _ hu ho
end Go.Proofs.Tryz

namespace Go.Proofs.Tryz
open Go Go.Lad
set_option autoImplicit false
set_option maxRecDepth 100000
set_option linter.unusedSimpArgs false
set_option linter.unusedVariables false

theorem bdShard (a b : Nat) (w : World) : (Instr.build ty_api_Shard [(0, N a), (1, N b)].toArray).run pg w = .ok (.agg #[N a, N b]) w := by kernel_rfl
theorem c_shard_Table {n : Nat} (hn : n ≤ 4096) {ls : List (List UInt8)} {fo : List UInt8 → Nat} (hall : ∀ s ∈ ls, s.length < 1099511627776 ∧ ∃ rs a, rdShard s n = .ok (fo s, rs) a) (hl : ls.length ≤ 1048576) {v : Value} {w : World} (hv : Sl w 1 v ls.length (ls.map Str)) {K : Value → World → Prop}
    (h : ∀ w' tv, Up w w' → Own w' (sz w) ty_api_Shard 2 tv ls.length (shardsC (ls.map fun s => (fo s, s.length))) → K (.tuple #[tv, .nilIface]) w') : CallF pg n_shard_Table [N n, v] w K := by
  apply ln_shard_Table
  simp only [sh_shard_Table]
  rw [hv.lenL]
  refine LoopV_of (fun xs w' => ∃ (i : Nat) (tv : Value), xs = [N n, tv, v, N ls.length, N i] ∧ i ≤ ls.length ∧ Up w w' ∧ Own w' (sz w) ty_api_Shard 2 tv i (shardsC ((ls.take i).map fun s => (fo s, s.length)))) (fun xs _ => ls.length - natOf (xs.getD 4 undef))
    ⟨0, _, rfl, by omega, Up.refl w, Own.nil ..⟩ ?_
  rintro k1 T w1 ⟨i, tv, hT, hi, hu, ho⟩ hk1
  simp only [temps, List.cons.injEq, and_true] at hT
  obtain ⟨g0, g6, g11, g12, g13⟩ := hT
  by_cases hlt : i < ls.length
  · simp only [g0, g6, g11, g12, g13, Bin_lss_N, hlt, decide_true, IfV_true]
    have hget : (ls.map Str)[i]? = some (Str ls[i]) := by simp [List.getElem?_eq_getElem hlt]
    refine (hv.Up hu).ix1 hget fun p => ?_
    obtain ⟨hsl, rs, a, hrd⟩ := hall ls[i] (List.getElem_mem _)
    have htk : ls.take (i + 1) = ls.take i ++ [ls[i]] := by rw [List.take_add_one, List.getElem?_eq_getElem hlt]; rfl
    generalize ls[i] = s at hsl hrd htk ⊢
    refine c_shard_Get hsl hn (fun p c hh => by rw [hrd] at hh; cases hh) (fun f rs' a' hh w2 rv vs u2 hor hro => ?_)
    rw [hrd] at hh
    cases hh
    simp only [Ext_0, Ext_1]
    refine New_of (cs := [N 0, .slice none 0 0]) fun w3 u3 hA3 hz3 => ?_
    refine hA3.stAll (l := [N (fo s), rv]) rfl rfl (by simp only [List.all_cons, List.all_nil, hor.plain, Bool.and_true]; rfl) fun w4 e4 hA4 => ?_
    have u4 : Up w1 w4 := up_put (u2.trans u3) e4 u2.size
    simp only [NeNil_i0, IfV_false, FA_ptr, Nat.zero_add, hA4.ld (k := 0) rfl, LenS_Str, V_eq (bdShard ..)]
    refine V_push (cs := [N (fo s), N s.length]) slT_Shard (Own.Up ho u4) rfl rfl rfl (by have := hu.size; have := u4.size; omega) (by omega) (by omega) fun sx tv' w5 ho5 hg5 => ?_
    simp (disch := omega) only [Bin_add_N]
    refine hk1 _ _ ⟨i + 1, tv', rfl, by omega, (hu.trans u4).push hg5 (Own.Up ho u4) (Nat.le_refl _), ?_⟩ (by simp [temps, g13]; omega)
    rw [htk, List.map_append, shardsC_append]
    simpa [shardsC] using ho5
  · have : i = ls.length := by omega
    subst this
    simp only [g0, g6, g11, g12, g13, Bin_lss_N, hlt, decide_false, IfV_false]
    rw [List.take_of_length_le (Nat.le_refl _)] at ho
    exact h _ _ hu ho
/-- a version: its manifest, and its blocks -/
structure Ver where
  man : Man
  list : List (List UInt8)
/-- where a version lies -/
def VerAt (w : World) (b : Nat) (v : Ver) : Prop := ∃ sv lv, Arr w b ty_manifest_Version (manC v.man sv ++ [lv]) ∧ ShSl w sv v.man.shards ∧ Sl w 1 lv v.list.length (v.list.map Str)
/-- the same, and where its blocks lie -/
def VerP (P : Nat → Prop) (w : World) (b : Nat) (v : Ver) : Prop := ∃ sv lv, Arr w b ty_manifest_Version (manC v.man sv ++ [lv]) ∧ P b ∧ ShSl w sv v.man.shards ∧ (∀ q, InSl sv q → P q) ∧ Sl w 1 lv v.list.length (v.list.map Str) ∧ (∀ q, InSl lv q → P q)
theorem VerP.at {P : Nat → Prop} {w : World} {b : Nat} {v : Ver} (h : VerP P w b v) : VerAt w b v := by
  obtain ⟨sv, lv, h1, h2, h3, h4, h5, h6⟩ := h
  exact ⟨sv, lv, h1, h3, h5⟩
theorem VerP.keep {P Q : Nat → Prop} {w w' : World} {b : Nat} {v : Ver} (h : VerP P w b v) (hk : ∀ q, P q → q < sz w → gb w' q = gb w q ∧ Q q) : VerP Q w' b v := by
  obtain ⟨sv, lv, h1, h2, h3, h4, h5, h6⟩ := h
  exact ⟨sv, lv, (hk b h2 h1.lt).1.trans h1, (hk b h2 h1.lt).2, h3.up fun q hq hi => (hk q (h4 q hi) hq).1, fun q hi => (hk q (h4 q hi) (h3.lt hi)).2, h5.up fun q hq hi => (hk q (h6 q hi) hq).1, fun q hi => (hk q (h6 q hi) (h5.lt hi)).2⟩
theorem VerAt.Up {w w' : World} {b : Nat} {v : Ver} (h : VerAt w b v) (u : Up w w') : VerAt w' b v := by
  obtain ⟨sv, lv, h1, h2, h3⟩ := h
  exact ⟨sv, lv, h1.up u, h2.Up u, h3.Up u⟩
/-- all of a graph's bytes -/
def graphB (l : List NE) (n each : Nat) : List UInt8 := (splitL l n each (shardsN n each)).flatten
def firstOf (s : List UInt8) (n : Nat) : Nat :=
  match rdShard s n with
  | .ok (f, _) _ => f
  | .bad _ _ => 0
/-- a graph's version -/
def makeV (version n each : Nat) (l : List NE) : Ver :=
  let parts := splitL l n each (shardsN n each)
  let list := cutL (graphB l n each)
  { man := { version := version, nodes := n, edges := l.length, shards := parts.map fun s => (firstOf s n, s.length), blocks := list.length, root := rootOf (list.map leafL) }, list := list }
theorem blocksL_len (all : List UInt8) (k : Nat) : (blocksL all k).length = k := by
  induction k with
  | zero => rfl
  | succ k ih => simp [blocksL, ih]
theorem cutL_length (all : List UInt8) : (cutL all).length = countN all.length := blocksL_len ..
theorem cutL_mem (all : List UInt8) : ∀ s ∈ cutL all, s.length ≤ 64 := by
  have gen : ∀ k, ∀ s ∈ blocksL all k, s.length ≤ 64 := by
    intro k
    induction k with
    | zero => intro s hs; cases hs
    | succ k ih =>
      intro s hs
      simp only [blocksL, List.mem_append, List.mem_singleton] at hs
      rcases hs with hs | rfl
      · exact ih s hs
      · simp only [blockAt, List.length_take]
        have : sizeN all.length k ≤ 64 := by unfold sizeN; split <;> omega
        omega
  exact gen _
theorem shardB_le {n : Nat} {l : List NE} (hr : RowsOk n l) (hn : n ≤ 4096) (first k : Nat) (hk : first + k ≤ n) : (shardB l first k).length ≤ 16 + 16 * k + 8 * (begE l (first + k) - begE l first) := by
  have h1 := rowsB_length hr hn first k hk
  have h2 := indexB_le hr hn first k hk
  have h3 := shortL_le (n := first) (by omega)
  have h4 := shortL_le (n := k) (by omega)
  simp only [shardB, List.length_append]
  omega
theorem splitL_flat {n each : Nat} {l : List NE} (hr : RowsOk n l) (hn : n ≤ 4096) (h1 : 1 ≤ each) (k : Nat) (hk : k ≤ shardsN n each) : (splitL l n each k).flatten.length ≤ 16 * k + 16 * (k * each) + 8 * begE l (min (k * each) n) := by
  induction k with
  | zero => simp [splitL]
  | succ k ih =>
    have h2 := ih (by omega)
    have h3 := (shardsN_lt (n := n) h1).1 (show k < shardsN n each by omega)
    have h4 := shardB_le hr hn (k * each) (min each (n - k * each)) (by omega)
    have e1 : (k + 1) * each = k * each + each := by rw [Nat.add_mul, Nat.one_mul]
    have e2 : k * each + min each (n - k * each) = min ((k + 1) * each) n := by omega
    have e3 : min (k * each) n = k * each := by omega
    have h5 := begE_le_add l (k * each) (min each (n - k * each))
    rw [e2] at h4 h5
    rw [e3] at h2
    simp only [splitL, List.flatten_append, List.flatten_cons, List.flatten_nil, List.append_nil, List.length_append]
    omega
theorem graphB_le {n each : Nat} {l : List NE} (hr : RowsOk n l) (hn : n ≤ 4096) (h1 : 1 ≤ each) (h2 : each < 4096) : (graphB l n each).length ≤ 500000 := by
  have hle : shardsN n each ≤ n := by
    unfold shardsN
    rcases Nat.eq_zero_or_pos n with rfl | hp
    · rw [Nat.div_le_iff_le_mul (by omega)]; omega
    · rw [Nat.div_le_iff_le_mul (by omega)]
      have : n ≤ n * each := Nat.le_mul_of_pos_right _ (by omega)
      omega
  have hm : shardsN n each * each ≤ n + each := by
    have := Nat.div_mul_le_self (n + each - 1) each
    unfold shardsN; omega
  have h3 := splitL_flat hr hn h1 (shardsN n each) (Nat.le_refl _)
  have h4 := begE_le l (min (shardsN n each * each) n)
  have := hr.len
  unfold graphB
  omega
theorem bdMan (v n e b : Nat) (sv : Value) (root : List UInt8) (w : World) (hs : plainV sv = true) : (Instr.build ty_api_Manifest [(0, N v), (1, N n), (2, N e), (3, sv), (4, N b), (5, Str root)].toArray).run pg w = .ok (.agg [N v, N n, N e, sv, N b, Str root].toArray) w := by
  cases sv <;> first | (cases hs; done) | kernel_rfl
theorem bdVer (v n e b : Nat) (sv lv : Value) (root : List UInt8) (w : World) (hs : plainV sv = true) (hl : plainV lv = true) : (Instr.build ty_manifest_Version [(0, .agg [N v, N n, N e, sv, N b, Str root].toArray), (1, lv)].toArray).run pg w = .ok (.agg [N v, N n, N e, sv, N b, Str root, lv].toArray) w := by
  cases sv <;> first | (cases hs; done) | (cases lv <;> first | (cases hl; done) | kernel_rfl)
/-- the shards of a graph are read as they were written -/
def Trips (l : List NE) (n each : Nat) : Prop := ∀ s ∈ splitL l n each (shardsN n each), ∃ f rs a, rdShard s n = .ok (f, rs) a
theorem c_manifest_Make {version n each : Nat} (hv1 : 1 ≤ version) (hv2 : version ≤ 1099511627776) (hn : n ≤ 4096) (he1 : 1 ≤ each) (he2 : each < 4096) (h64 : shardsN n each ≤ 64) {l : List (Int × Int)} {v : Value} {m : Nat} {w : World} (hv : Sl w 2 v m (edgesC l)) (hm : m ≤ 20000) {K : Value → World → Prop}
    (hbad : ∀ i, badE n l 0 = some i → ∀ w', Up w w' → K (.tuple #[.pointer none, eFault i 10]) w')
    (htrip : badE n l 0 = none → Trips (normE l) n each) (hcount : badE n l 0 = none → countN (graphB (normE l) n each).length ≤ 2048)
    (hok : badE n l 0 = none → ∀ w' b, Up w w' → VerP (fun q => sz w ≤ q) w' b (makeV version n each (normE l)) → K (.tuple #[ptr b 0, .nilIface]) w') : CallF pg n_manifest_Make [N version, N n, N each, v] w K := by
  apply ln_manifest_Make
  have e1 : ¬ version < 1 := by omega
  have e2 : ¬ 1099511627776 < version := by omega
  have hll : l.length = m := by have := hv.len; rw [edgesC_length] at this; omega
  simp only [sh_manifest_Make, Bin_lss_N, e1, decide_false, IfV_false, Bin_gtr_N, e2]
  refine c_csr_Build hn hv hm (fun i hb w1 u1 => ?_) (fun hb w1 c u1 hc => ?_)
  · simp only [Ext_0, Ext_1, NeNil_i1, IfV_true]
    exact hbad i hb w1 u1
  · have hr : RowsOk n (normE l) := normE_rows hb (by omega)
    have htr := htrip hb
    have hct := hcount hb
    have hok := hok hb
    generalize normE l = g at hc hr htr hct hok
    simp only [Ext_0, Ext_1, NeNil_i0, IfV_false]
    refine c_shard_Split hc hn hr he1 he2 h64 fun w2 pv u2 hp => ?_
    simp only [Ext_0, Ext_1, NeNil_i0, IfV_false]
    have hgl := graphB_le hr hn he1 he2
    refine c_block_Cut hp.sl (by omega) (by unfold graphB at hgl; omega) fun w3 lv u3 hl3 => ?_
    have hcl := cutL_length (graphB g n each)
    have e3 : ¬ 2048 < (cutL (graphB g n each)).length := by omega
    have hl3' : Own w3 (sz w2) 9 1 lv (cutL (graphB g n each)).length ((cutL (graphB g n each)).map Str) := hl3
    rw [hl3'.sl.lenL]
    simp only [Bin_gtr_N, e3, decide_false, IfV_false]
    have hps := splitL_length g n each (shardsN n each)
    have hpsl : Sl w3 1 pv (splitL g n each (shardsN n each)).length ((splitL g n each (shardsN n each)).map Str) := by rw [hps]; exact hp.sl.Up u3
    refine c_shard_Table (fo := fun s => firstOf s n) hn (fun s hs => ?_) (by omega) hpsl fun w4 tv u4 ht4 => ?_
    · obtain ⟨f, rs, a, hrd⟩ := htr s hs
      refine ⟨?_, rs, a, ?_⟩
      · have h1 : s.length ≤ (graphB g n each).length := by
          unfold graphB
          obtain ⟨a, b, hab⟩ := List.append_of_mem hs
          rw [hab]; simp; omega
        omega
      · simp only [firstOf, hrd]
    · simp only [Ext_0, Ext_1, NeNil_i0, IfV_false]
      refine c_Csr_Edges (((hc.Up u2).Up u3).Up u4) ?_
      have hl4 : Own w4 (sz w2) 9 1 lv _ _ := Own.Up hl3' u4
      rw [hl4.sl.lenL]
      have hle64 := cutL_mem (graphB g n each)
      refine c_merkle_Root (fun s hs => by have := hle64 s hs; omega) hl4.sl (by omega) fun w5 u5 => ?_
      rw [V_eq (bdMan _ _ _ _ _ _ _ ht4.plain)]
      refine New_of (cs := [N 0, N 0, N 0, .slice none 0 0, N 0, Str []]) fun w6 u6 hA6 hz6 => ?_
      refine hA6.stAll (m := 6) (l := [N version, N n, N g.length, tv, N (cutL (graphB g n each)).length, Str (rootOf ((cutL (graphB g n each)).map leafL))]) rfl rfl (by simp only [List.all_cons, List.all_nil, ht4.plain, Bool.and_true]; rfl) fun w7 e7 hA7 => ?_
      refine hA7.ldAll (m := 6) rfl ?_
      rw [V_eq (bdVer _ _ _ _ _ _ _ _ ht4.plain hl4.plain)]
      refine New_of (cs := [N version, N n, N g.length, tv, N (cutL (graphB g n each)).length, Str (rootOf ((cutL (graphB g n each)).map leafL)), lv]) fun w8 u8 hA8 hz8 => ?_
      have u7 : Up w5 w7 := up_put u6 e7 (Nat.le_refl _)
      have uall : Up w w7 := ((((u1.trans u2).trans u3).trans u4).trans u5).trans u7
      refine hok w8 _ (uall.trans u8) ⟨tv, lv, hA8, uall.size, ?_, fun q hq => ?_, ?_, fun q hq => ?_⟩
      · have := ht4.sl.Up ((u5.trans u7).trans u8)
        show Sl w8 2 tv (List.map (fun s => (firstOf s n, s.length)) (splitL g n each (shardsN n each))).length _
        rw [List.length_map]; exact this
      · have := ht4.inSl hq
        have := u1.size; have := u2.size; have := u3.size; omega
      · exact hl4.sl.Up ((u5.trans u7).trans u8)
      · have := hl4.inSl hq
        have := u1.size; have := u2.size; omega
theorem c_Version_Tree {b : Nat} {v : Ver} {w : World} (hv : VerAt w b v) (hl : ∀ s ∈ v.list, s.length < 1099511627700) (hn : v.list.length < 1048576) {K : Value → World → Prop}
    (h : ∀ w' tb mb nodes, Up w w' → sz w ≤ tb → sz w ≤ mb → TreeAt w' tb mb (v.list.map leafL) nodes → (0 < v.list.length → ∀ s, SubS 0 v.list.length s → (alook s nodes).isSome = true) → K (ptr tb 0) w') : CallF pg n_manifest_Version_Tree [ptr b 0] w K := by
  apply ln_manifest_Version_Tree
  obtain ⟨sv, lv, h1, h2, h3⟩ := hv
  simp only [sh_manifest_Version_Tree, EqNil_p1, IfV_false, NilCk_ptr, FA_ptr, Nat.zero_add, h1.ld (k := 6) rfl]
  exact c_merkle_New hl h3 hn h
end Go.Proofs.Tryz

