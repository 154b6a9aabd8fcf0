/- Part of a proof (its text ManB): what is proved stands in the text Card. -/
import Derived.Test.YtfefpbfnmfebgaaGreatDoorMan
set_option linter.all false
namespace Go.Proofs.Tryz
open Go Go.Lad
set_option autoImplicit false
set_option maxRecDepth 100000
set_option linter.unusedSimpArgs false
set_option linter.unusedVariables false

theorem tabM_none2 {nodes : Nat} : ∀ {l : List (Nat × Nat)} {prev : Option Nat} {i : Nat}, tabM nodes prev i l = none → ∀ e ∈ l, e.1 ≤ nodes := by
  intro l
  induction l with
  | nil => intro prev i _ e he; cases he
  | cons a l ih =>
    intro prev i h e he
    simp only [tabM] at h
    split at h
    · cases h
    · split at h
      · cases h
      · rename_i h1 h2
        simp only [List.mem_cons] at he
        rcases he with rfl | he
        · cases prev with
          | none => simp [firstOk] at h1; omega
          | some p => simp [firstOk] at h1; omega
        · exact ih h e he
theorem manNums_lt {m : Man} (h : placeM m = none) : ∀ n ∈ manNums m, n < 72057594037927936 := by
  obtain ⟨h1, h2, h3, h4, h5⟩ := placeM_none h
  obtain ⟨q1, q2, q3, q4, q5, q6⟩ := headsM_none h1
  have b1 := tabM_none h2
  have b2 := tabM_none2 h2
  intro n hn
  simp only [manNums, List.mem_append, List.mem_cons, List.mem_flatMap, List.not_mem_nil, or_false] at hn
  rcases hn with (((rfl | rfl | rfl | rfl) | ⟨e, he, rfl | rfl⟩) | rfl)
  · omega
  · omega
  · omega
  · omega
  · have := b2 e he; omega
  · have := b1 e he; omega
  · omega
theorem bsN2 {a b : Nat} {w : World} : (Instr.buildSlice ty_s_int 2 [(0, N a), (1, N b)].toArray).run pg w = .ok (.slice (some ⟨sz w, 0, none⟩) 2 2) (w.alloc (.cells [N a, N b].toArray 3)) := by kernel_rfl
theorem bsN4 {a b c d : Nat} {w : World} : (Instr.buildSlice ty_s_int 4 [(0, N a), (1, N b), (2, N c), (3, N d)].toArray).run pg w = .ok (.slice (some ⟨sz w, 0, none⟩) 4 4) (w.alloc (.cells [N a, N b, N c, N d].toArray 3)) := by kernel_rfl
theorem Own.fresh {w : World} {t : TypeId} {m n : Nat} {cs : List Value} (h : cs.length = n * m) (hn : n ≤ 1048576) : Own (w.alloc (.cells cs.toArray t)) (sz w) t m (.slice (some ⟨sz w, 0, none⟩) n n) n cs := by
  have ha : Arr (w.alloc (.cells cs.toArray t)) (sz w) t (cs ++ []) := by rw [List.append_nil]; exact Arr.new
  exact Own.of (Nat.le_refl _) ha (Nat.le_refl _) (by simp [maxLen]; omega) (by simpa using h) h
theorem numsB_append (a b : List Nat) : numsB (a ++ b) = numsB a ++ numsB b := by simp [numsB]
theorem c_man_Put {m : Man} (hm : ManB m) {sv : Value} {w : World} (hs : ShSl w sv m.shards) {K : Value → World → Prop}
    (hbad : ∀ i, placeM m = some i → ∀ w', Up w w' → K (.tuple #[Str [], eFault i 4]) w')
    (hok : placeM m = none → ∀ w', Up w w' → K (.tuple #[Str (manB m), .nilIface]) w') : CallF pg n_manifest_Put [manV m sv] w K := by
  apply ln_manifest_Put
  simp only [sh_manifest_Put]
  refine New_of (cs := manC m sv) fun w1 u1 hA hz1 => ?_
  refine hA.ldAll rfl ?_
  refine c_man_Check hm (hs.Up u1) fun w2 u2 => ?_
  unfold checkM
  cases hp : placeM m with
  | some i =>
    simp only [NeNil_i1, IfV_true]
    exact hbad i hp _ (u1.trans u2)
  | none =>
    have hlt := manNums_lt hp
    obtain ⟨h1, h2, h3, h4, h5⟩ := placeM_none hp
    obtain ⟨q1, q2, q3, q4, q5, q6⟩ := headsM_none h1
    have hA2 := hA.up u2
    have hs2 := hs.Up (u1.trans u2)
    simp only [NeNil_i0, IfV_false, FA_ptr, Nat.zero_add, hA2.ld (k := 0) rfl, hA2.ld (k := 1) rfl, hA2.ld (k := 2) rfl, hA2.ld (k := 3) rfl, hs2.lenL, V_eq bsN4]
    have u3 : Up w2 (w2.alloc (.cells [N m.version, N m.nodes, N m.edges, N m.shards.length].toArray 3)) := (Up.refl w2).alloc _
    have ho3 : Own (w2.alloc (.cells [N m.version, N m.nodes, N m.edges, N m.shards.length].toArray 3)) (sz w2) 3 1 (.slice (some ⟨sz w2, 0, none⟩) 4 4) 4 [N m.version, N m.nodes, N m.edges, N m.shards.length] := Own.fresh rfl (by omega)
    generalize w2.alloc (.cells [N m.version, N m.nodes, N m.edges, N m.shards.length].toArray 3) = w3 at u3 ho3 ⊢
    generalize hv3 : Value.slice (some ⟨sz w2, 0, none⟩) 4 4 = v3 at ho3 ⊢
    have hA3 := hA2.up u3
    have hs3 := hs2.Up u3
    simp only [hA3.ld (k := 3) rfl, hs3.lenL]
    have hu3 : Up w w3 := (u1.trans u2).trans u3
    refine LoopV_of (fun xs w' => ∃ (i : Nat) (v : Value), xs = [ptr (sz w) 0, v, sv, N m.shards.length, N i] ∧ i ≤ m.shards.length ∧ Up w1 w' ∧ sz w2 ≤ sz w' ∧
        Own w' (sz w2) 3 1 v (4 + 2 * i) (([m.version, m.nodes, m.edges, m.shards.length] ++ (m.shards.take i).flatMap (fun e => [e.1, e.2])).map N)) (fun xs _ => m.shards.length - natOf (xs.getD 4 undef))
      ⟨0, v3, rfl, by omega, u2.trans u3, u3.size, ho3⟩ ?_
    rintro k1 T w4 ⟨i, v, hT, hi, hu, hz4, ho⟩ hk1
    simp only [temps, List.cons.injEq, and_true] at hT
    obtain ⟨g1, g5, g29, g30, g31⟩ := hT
    by_cases hil : i < m.shards.length
    · simp only [g1, g5, g29, g30, g31, Bin_lss_N, hil, decide_true, IfV_true]
      refine (hs.Up (u1.trans hu)).ixN (by omega) hil fun p => ?_
      rw [shardsC_at _ i hil]
      have htk : m.shards.take (i + 1) = m.shards.take i ++ [m.shards[i]] := by rw [List.take_add_one, List.getElem?_eq_getElem hil]; rfl
      generalize m.shards[i] = e at htk ⊢
      refine New_of (cs := [N 0, N 0]) fun w5 u5 hA5 hz5 => ?_
      refine hA5.stAll (l := [N e.1, N e.2]) rfl rfl rfl fun w6 e6 hA6 => ?_
      have u6 : Up w4 w6 := up_put u5 e6 (Nat.le_refl _)
      simp only [FA_ptr, Nat.zero_add, hA6.ld (k := 0) rfl, hA6.ld (k := 1) rfl, V_eq bsN2]
      have u7 : Up w6 (w6.alloc (.cells [N e.1, N e.2].toArray 3)) := (Up.refl w6).alloc _
      have hsl : Sl (w6.alloc (.cells [N e.1, N e.2].toArray 3)) 1 (.slice (some ⟨sz w6, 0, none⟩) 2 2) 2 [N e.1, N e.2] := Sl.fresh rfl
      have hz6 := u6.size
      have hz7 := u7.size
      refine V_append slT_int (Own.Up ho (u6.trans u7)) hsl rfl (by omega) (by omega) fun v' w8 ho8 hg8 => ?_
      simp (disch := omega) only [Bin_add_N]
      refine hk1 _ _ ⟨i + 1, v', rfl, by omega, Up.grow (hu.trans (u6.trans u7)) hg8 (fun k hk => by have := (Own.Up ho (u6.trans u7)).inSl hk; have := u2.size; omega), Nat.le_trans (by omega) (show sz (w6.alloc (.cells [N e.1, N e.2].toArray 3)) ≤ sz w8 from hg8.size), ?_⟩ (by simp [temps, g31]; omega)
      rw [show 4 + 2 * (i + 1) = 4 + 2 * i + 2 by omega, htk]
      simpa only [List.flatMap_append, List.map_append, List.flatMap_cons, List.flatMap_nil, List.append_nil, List.map_cons, List.map_nil, List.append_assoc] using ho8
    · have him : i = m.shards.length := by omega
      subst him
      have hA4 := hA.up hu
      simp only [g1, g5, g29, g30, g31, Bin_lss_N, hil, decide_false, IfV_false, FA_ptr, Nat.zero_add, hA4.ld (k := 4) rfl]
      rw [List.take_of_length_le (Nat.le_refl _)] at ho
      refine V_push (cs := [N m.blocks]) slT_int ho rfl rfl rfl hz4 (by omega) (by omega) fun s v' w5 ho5 hg5 => ?_
      have hu5 : Up w1 w5 := Up.grow hu hg5 (fun k hk => by have := ho.inSl hk; have := u2.size; omega)
      have hl5 : ([m.version, m.nodes, m.edges, m.shards.length] ++ m.shards.flatMap (fun e => [e.1, e.2])).map N ++ [N m.blocks] = (manNums m).map N := by simp [manNums]
      rw [hl5] at ho5
      have hnl : (manNums m).length = 4 + 2 * m.shards.length + 1 := by have := ho5.sl.len; simp at this; omega
      rw [← hnl] at ho5
      rw [ho5.sl.lenL]
      clear hk1 g1 g5 g29 g30 g31 T
      refine LoopV_of (fun xs w' => ∃ i, xs = [ptr (sz w) 0, Str (numsB ((manNums m).take i)), v', N (manNums m).length, N i] ∧ i ≤ (manNums m).length ∧ Up w5 w') (fun xs _ => (manNums m).length - natOf (xs.getD 4 undef)) ⟨0, rfl, by omega, Up.refl _⟩ ?_
      rintro k2 T w6 ⟨i, hT, hi, hu6⟩ hk2
      simp only [temps, List.cons.injEq, and_true] at hT
      obtain ⟨g1, g8, g47, g48, g49⟩ := hT
      by_cases hin : i < (manNums m).length
      · simp only [g1, g8, g47, g48, g49, Bin_lss_N, hin, decide_true, IfV_true]
        refine (ho5.sl.Up hu6).ix1 (getN hin) fun p => ?_
        have hgd : (manNums m).getD i 0 = (manNums m)[i] := by rw [List.getD_eq_getElem?_getD, List.getElem?_eq_getElem hin]; rfl
        have hbi : (manNums m).getD i 0 < 72057594037927936 := by rw [hgd]; exact hlt _ (List.getElem_mem _)
        refine c_octet_PutShort hbi fun w7 u7 => ?_
        have b1 := numsB_le ((manNums m).take i) (fun n hn => hlt n (List.mem_of_mem_take hn))
        have b2 := shortL_le hbi
        have b3 : ((manNums m).take i).length ≤ i := by simp; omega
        simp (disch := omega) only [Ext_0, Ext_1, Bin_add_N]
        rw [BinS_add _ _ (by omega)]
        refine hk2 _ _ ⟨i + 1, ?_, by omega, hu6.trans u7⟩ (by simp [temps, g49]; omega)
        have : numsB ((manNums m).take (i + 1)) = numsB ((manNums m).take i) ++ shortL ((manNums m).getD i 0) := by
          rw [List.take_add_one, List.getElem?_eq_getElem hin, hgd]
          simp only [numsB, Option.toList_some, List.flatMap_append, List.flatMap_cons, List.flatMap_nil, List.append_nil]
        rw [this]
      · have : i = (manNums m).length := by omega
        subst this
        have hA6 := (hA.up hu5).up hu6
        simp only [g1, g8, g47, g48, g49, Bin_lss_N, hin, decide_false, IfV_false, FA_ptr, Nat.zero_add, hA6.ld (k := 5) rfl]
        rw [V_eq bs38_1, List.take_of_length_le (Nat.le_refl _)]
        refine c_octet_PutText (l := [m.root]) (n := 1) (Sl.fresh rfl) (by omega) (by intro q hq; simp at hq; subst hq; omega) fun w7 u7 => ?_
        have b1 := numsB_le (manNums m) hlt
        have b2 := shortL_le (n := m.root.length) (by omega)
        rw [BinS_add _ _ (by simp only [textL, List.append_nil, List.length_append]; omega)]
        exact hok hp _ ((u1.trans hu5).trans (hu6.trans (((Up.refl w6).alloc _).trans u7)))
/-! two manifests -/
theorem fl_Shard : fields2 (pg.underlying ty_api_Shard) = some [(false, 3, 0), (false, 3, 1)] := by kernel_rfl
theorem si_Shard : pg.stoodInHeld ty_api_Shard = false := by kernel_rfl
theorem gt_Shard : pg.eqGuardType pg.depth ty_api_Shard = false := by kernel_rfl
theorem ne2Shard (a b c d : Nat) (x y : Operand) (w : World) :
    (do eqGuard .neq ty_api_Shard x y (.agg #[N a, N b]) (.agg #[N c, N d]); binOp .neq ty_api_Shard (.agg #[N a, N b]) (.agg #[N c, N d])).run pg w = .ok (B (!decide ((a, b) = (c, d)))) w := by
  have := V_ne2I fl_Shard si_Shard gt_Shard (a : Int) (b : Int) (c : Int) (d : Int) x y w
  have hd : decide ((a : Int) = (c : Int) ∧ (b : Int) = (d : Int)) = decide ((a, b) = (c, d)) := decide_eq_decide.2 ⟨fun hh => by rw [Prod.mk.injEq]; omega, fun hh => by rw [Prod.mk.injEq] at hh; omega⟩
  rw [hd] at this
  exact this
theorem c_Equal_Shard {a b : List (Nat × Nat)} {va vb : Value} {w : World} (ha : ShSl w va a) (hb : ShSl w vb b) (hl : a.length < 1099511627776) {K : Value → World → Prop}
    (h : ∀ w', Up w w' → K (B (decide (a = b))) w') : CallF pg n_slices_Equal_Shard [va, vb] w K := by
  apply ln_slices_Equal_Shard
  simp only [sh_slices_Equal_Shard]
  rw [ha.lenL, hb.lenL]
  simp only [Bin_neq_N]
  by_cases hlen : a.length = b.length
  · simp only [hlen, decide_true, Bool.not_true, IfV_false]
    rw [ha.lenL]
    refine LoopV_of (fun xs w' => Up w w' ∧ ∃ i, xs = [va, vb, N a.length, N i] ∧ i ≤ a.length ∧ a.take i = b.take i) (fun xs _ => a.length - natOf (xs.getD 3 undef)) ⟨Up.refl w, 0, rfl, by omega, rfl⟩ ?_
    rintro k1 T w1 ⟨hu, i, hT, hi, he⟩ hk1
    simp only [temps, List.cons.injEq, and_true] at hT
    obtain ⟨g0, g1, g12, g13⟩ := hT
    by_cases hlt : i < a.length
    · have had := (ha.Up hu).Up (Up.refl w1).drew
      have hbd := (hb.Up hu).Up (Up.refl w1).drew
      simp only [g0, g1, g12, g13, Bin_lss_N, hlt, decide_true, IfV_true, Drew]
      refine had.ixN (by omega) hlt fun p => ⟨rfl, ?_⟩
      refine hbd.ixN (by omega) (by omega) fun p => ⟨rfl, ?_⟩
      rw [shardsC_at _ i hlt, shardsC_at _ i (by omega)]
      rw [V_eq (ne2Shard a[i].1 a[i].2 (b[i]'(by omega)).1 (b[i]'(by omega)).2 (.tmp 19) (.tmp 23) w1.drew)]
      refine ⟨rfl, ?_⟩
      by_cases hq : a[i] = b[i]'(by omega)
      · simp (disch := omega) only [hq, decide_true, Bool.not_true, IfV_false, Bin_add_N]
        refine hk1 _ _ ⟨hu.drew, i + 1, rfl, by omega, ?_⟩ (by simp [temps, g13]; omega)
        rw [List.take_add_one, List.take_add_one, he, List.getElem?_eq_getElem hlt, List.getElem?_eq_getElem (show i < b.length by omega), hq]
      · simp only [hq, decide_false, Bool.not_false, IfV_true]
        have hne : a ≠ b := fun hh => hq (by subst hh; rfl)
        have := h _ hu.drew
        simpa [hne] using this
    · have : i = a.length := by omega
      subst this
      simp only [g0, g1, g12, g13, Bin_lss_N, hlt, decide_false, IfV_false]
      rw [List.take_of_length_le (Nat.le_refl _), List.take_of_length_le (by omega)] at he
      have := h _ hu
      simpa [he] using this
  · simp only [hlen, decide_false, Bool.not_false, IfV_true]
    have hne : a ≠ b := fun hh => hlen (by rw [hh])
    have := h _ (Up.refl w)
    simpa [hne] using this
theorem c_man_Same {m m' : Man} {sv sv' : Value} {w : World} (hs : ShSl w sv m.shards) (hs' : ShSl w sv' m'.shards) (hl : m.shards.length < 1099511627776) {K : Value → World → Prop}
    (h : ∀ w', Up w w' → K (B (decide (m = m'))) w') : CallF pg n_manifest_Same [manV m sv, manV m' sv'] w K := by
  apply ln_manifest_Same
  simp only [sh_manifest_Same]
  refine New_of (cs := manC m sv) fun w1 u1 hA hz1 => ?_
  refine New_of (cs := manC m' sv') fun w2 u2 hB hz2 => ?_
  have hA2 := hA.up u2
  have hu := u1.trans u2
  have hne : m ≠ m' → K (B false) w2 := fun hh => by have := h _ hu; simpa [hh] using this
  simp only [FA_ptr, Nat.zero_add, hA2.ld (k := 0) rfl, hB.ld (k := 0) rfl, Bin_eql_N]
  by_cases q1 : m.version = m'.version
  · simp only [q1, decide_true, IfV_true, FA_ptr, Nat.zero_add, hA2.ld (k := 1) rfl, hB.ld (k := 1) rfl, Bin_eql_N]
    by_cases q2 : m.nodes = m'.nodes
    · simp only [q2, decide_true, IfV_true, FA_ptr, Nat.zero_add, hA2.ld (k := 2) rfl, hB.ld (k := 2) rfl, Bin_eql_N]
      by_cases q3 : m.edges = m'.edges
      · simp only [q3, decide_true, IfV_true, FA_ptr, Nat.zero_add, hA2.ld (k := 4) rfl, hB.ld (k := 4) rfl, Bin_eql_N]
        by_cases q4 : m.blocks = m'.blocks
        · simp only [q4, decide_true, IfV_true, FA_ptr, Nat.zero_add, hA2.ld (k := 5) rfl, hB.ld (k := 5) rfl, BinS_eql]
          by_cases q5 : m.root = m'.root
          · simp only [q5, decide_true, IfV_true, FA_ptr, Nat.zero_add, hA2.ld (k := 3) rfl, hB.ld (k := 3) rfl]
            refine c_Equal_Shard (hs.Up hu) (hs'.Up hu) hl fun w3 u3 => ?_
            have := h _ (hu.trans u3)
            have e : decide (m.shards = m'.shards) = decide (m = m') := decide_eq_decide.2 ⟨fun hh => by cases m; cases m'; simp_all, fun hh => by rw [hh]⟩
            rw [e]; exact this
          · simp only [q5, decide_false, IfV_false]; exact hne (fun hh => q5 (by rw [hh]))
        · simp only [q4, decide_false, IfV_false]; exact hne (fun hh => q4 (by rw [hh]))
      · simp only [q3, decide_false, IfV_false]; exact hne (fun hh => q3 (by rw [hh]))
    · simp only [q2, decide_false, IfV_false]; exact hne (fun hh => q2 (by rw [hh]))
  · simp only [q1, decide_false, IfV_false]; exact hne (fun hh => q1 (by rw [hh]))
theorem c_man_Copy {m : Man} {sv : Value} {w : World} (hs : ShSl w sv m.shards) (hl : m.shards.length ≤ 1048576) {K : Value → World → Prop}
    (h : ∀ w' sv', Up w w' → Own w' (sz w) ty_api_Shard 2 sv' m.shards.length (shardsC m.shards) → K (manV m sv') w') : CallF pg n_manifest_Copy [manV m sv] w K := by
  apply ln_manifest_Copy
  simp only [sh_manifest_Copy]
  refine New_of (cs := manC m sv) fun w1 u1 hA hz1 => ?_
  refine New_of (cs := [N 0, N 0, N 0, .slice none 0 0, N 0, Str []]) fun w2 u2 hB hz2 => ?_
  have hA2 := hA.up u2
  have hu := u1.trans u2
  simp only [FA_ptr, Nat.zero_add, hA2.ld (k := 3) rfl]
  refine c_Clone_Shard (hs.Up hu) (shardsC_plain _) (by omega) fun sv' w3 u3 ho3 => ?_
  have hA3 := hA2.up u3
  have hB3 := hB.up u3
  have hz2' := u2.size
  have hz3' := u3.size
  refine hA3.st ho3.plain (by simp) fun w4 e4 hA4 => ?_
  have ho4 : Own w4 (sz w2) ty_api_Shard 2 sv' _ _ := Own.up ho3 fun b hb hi => by rw [e4]; exact gb_putB_ne (by have := ho3.inSl hi; omega)
  have hB4 := arr_put hB3 e4 (by omega)
  refine hA4.ldAll (m := 6) rfl ?_
  refine hB4.stAll (l := manC m sv') rfl rfl (by simp only [manC, List.all_cons, List.all_nil, ho3.plain, Bool.and_true]; rfl) fun w5 e5 hB5 => ?_
  refine hB5.ldAll rfl ?_
  have ho5 : Own w5 (sz w2) ty_api_Shard 2 sv' _ _ := Own.up ho4 fun b hb hi => by rw [e5]; exact gb_putB_ne (by have := ho4.inSl hi; omega)
  exact h _ sv' (up_put (up_put (hu.trans u3) e4 (Nat.le_refl _)) e5 (by omega)) (ho5.mono (by omega))
end Go.Proofs.Tryz

