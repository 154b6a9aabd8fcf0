/- Part of a proof (its text HoldOpen): what is proved stands in the text Card. -/
import Derived.Test.YtfefpbfnmfebgaaGreatDoorShelf
import Derived.Test.YtfefpbfnmfebgaaGreatDoorHoldAdd
set_option linter.all false
namespace Go.Proofs
open Go.RowKit Go.Maps Go.Sort Go.Shelf
/-- slices.Sort's two contracts, at the fence that asks nothing. -/
theorem Tryz.sortsI (m : Nat) : AnyZI.SortsIn Tryz.prog Tryz.sortedI_ren Fence.wide m :=
  ⟨fun blk off cap ss W hH hblk hsz => callsIn_wide.2 (AnyM.slices_Sort_int Tryz.sortI blk off cap ss W hH hblk hsz),
   fun p cap W => callsIn_wide.2 (AnyM.slices_Sort_int_none Tryz.sortI p cap W)⟩
end Go.Proofs
namespace Go.Proofs.Tryz
open Go Go.Lad Go.RowKit Go.Maps Go.Sort Go.Shelf
open Go.WideElems (rg)
set_option autoImplicit false
set_option maxRecDepth 100000
set_option linter.unusedSimpArgs false
set_option linter.unusedVariables false

/-- keys, sorted -/
def sortZ (l : List Int) : List Int := l.mergeSort (fun x y => decide (x ≤ y))
theorem sortZ_perm {l l' : List Int} (h : l.Perm l') : sortZ l = sortZ l' := by
  unfold sortZ
  have tr : ∀ a b c : Int, decide (a ≤ b) = true → decide (b ≤ c) = true → decide (a ≤ c) = true := fun a b c h1 h2 => by simp only [decide_eq_true_eq] at *; omega
  have to : ∀ a b : Int, (decide (a ≤ b) || decide (b ≤ a)) = true := fun a b => by simp only [Bool.or_eq_true, decide_eq_true_eq]; omega
  refine List.Perm.eq_of_pairwise (le := fun a b => decide (a ≤ b) = true) (fun a b _ _ h1 h2 => ?_) (List.pairwise_mergeSort tr to l) (List.pairwise_mergeSort tr to l') (((List.mergeSort_perm l _).trans h).trans (List.mergeSort_perm l' _).symm)
  simp only [decide_eq_true_eq] at h1 h2
  omega
theorem insert_perm {H : Type} (x : Lit × DataW H) (l : List (Lit × DataW H)) : (DataW.insert x l).Perm (x :: l) := by
  induction l with
  | nil => exact List.Perm.refl _
  | cons y r ih =>
    simp only [DataW.insert]
    split
    · exact List.Perm.refl _
    · exact (List.Perm.cons y ih).trans (List.Perm.swap x y r)
theorem foldr_perm {H : Type} (l : List (Lit × DataW H)) : (l.foldr DataW.insert []).Perm l := by
  induction l with
  | nil => exact List.Perm.refl _
  | cons x l ih => exact (insert_perm x _).trans (List.Perm.cons x ih)
theorem wf_I {a : Int} (h1 : -9223372036854775808 ≤ a) (h2 : a ≤ 9223372036854775807) : (Lit.int .i64 a).wf = true := by
  simp only [Lit.wf, Bool.and_eq_true, decide_eq_true_eq]
  exact ⟨h1, h2⟩
/-- a map of ints, as the kit speaks of it -/
theorem ownsOf {ν : Type} {vv : ν → Value} {w : World} {r : Nat} {l : List (Int × ν)} (h : MapIs w r kI vv l) (hn : (l.map (·.1)).Nodup) (hb : ∀ p ∈ l, -9223372036854775808 ≤ p.1 ∧ p.1 ≤ 9223372036854775807) (hl : l.length < 1073741824) :
    ∃ D0 : DataW Unit, w.ownsMap pg 3 (fun _ => some (.nil, [])) r l.length D0 ∧ (intKeys D0).Perm (l.map (·.1)) ∧ Maps.size D0 = l.length := by
  obtain ⟨es, c, h1, h2, h3, h4, h5⟩ := h
  have hu : pg.underlying 3 = some (.int .i64) := uint3
  have hlen : es.toList.length = l.length := by have := congrArg List.length h2; simpa using this
  have hk : ∀ e ∈ es.toList, ∃ p ∈ l, e.key = kI p.1 := fun e he => by
    have : e.key ∈ es.toList.map (·.key) := List.mem_map.2 ⟨e, he, rfl⟩
    rw [h2] at this
    obtain ⟨p, hp, e1⟩ := List.mem_map.1 this
    exact ⟨p, hp, e1.symm⟩
  have hrd : ∀ e ∈ es.toList, ∃ p ∈ l, e.key = kI p.1 ∧ WideElems.rd (H := Unit) pg 3 (fun _ => some (.nil, [])) e = some (.int .i64 p.1, .nil) := fun e he => by
    obtain ⟨p, hp, e1⟩ := hk e he
    refine ⟨p, hp, e1, ?_⟩
    have := Maps.keyOf_int_mk hu (a := p.1) (wf_I (hb p hp).1 (hb p hp).2)
    simp only [WideElems.rd, e1, kI]
    rw [show I p.1 = .int .i64 p.1 from rfl, this]
    rfl
  have hkeys : (es.toList.map (rg (H := Unit) pg 3 (fun _ => some (.nil, [])))).map (fun p => Go.intOf p.1) = l.map (·.1) := by
    rw [List.map_map]
    apply List.ext_getElem?
    intro i
    have e0 := congrArg (fun q => q[i]?) h2
    simp only [List.getElem?_map] at e0 ⊢
    cases he : es.toList[i]? with
    | none =>
      rw [he] at e0
      cases hl2 : l[i]? with
      | none => rfl
      | some p => rw [hl2] at e0; cases e0
    | some e =>
      rw [he] at e0
      cases hl2 : l[i]? with
      | none => rw [hl2] at e0; cases e0
      | some p =>
        rw [hl2] at e0
        simp only [Option.map_some, Option.some.injEq] at e0 ⊢
        obtain ⟨p', hp', e1, e2⟩ := hrd e (List.mem_of_getElem? he)
        have : p'.1 = p.1 := by
          have := e1.symm.trans e0
          simpa [kI] using this
        simp only [Function.comp, WideElems.rg_of e2, Go.intOf]
        exact this
  refine ⟨.map ((es.toList.map (rg pg 3 (fun _ => some (.nil, [])))).foldr DataW.insert []), ⟨es, c, h1, ⟨?_, ⟨h4, h5, ?_⟩, fun e he => ?_⟩, ?_, rfl⟩, ?_, ?_⟩
  · have e0 : es.toList.length = es.size := by simp
    rw [← e0, hlen]
    unfold maxLen
    omega
  · rw [h2]
    rw [show (fun (p : Int × ν) => kI p.1) = kI ∘ (·.1) from rfl, ← List.map_map]
    exact List.Pairwise.map kI (fun a b hab e => hab (by simpa [kI] using e)) hn
  · obtain ⟨p, _, _, e2⟩ := hrd e he
    exact ⟨_, e2⟩
  · have e0 : es.toList.length = es.size := by simp
    rw [← e0, hlen]
    exact Nat.le_refl _
  · rw [← hkeys]
    exact (foldr_perm _).map _
  · rw [Maps.size_eq, (foldr_perm _).length_eq, List.length_map, hlen]
theorem c_Keys_held_Sorted {ν : Type} {vv : ν → Value} {w : World} {r : Nat} {l : List (Int × ν)} (h : MapIs w r kI vv l) (hn : (l.map (·.1)).Nodup) (hb : ∀ p ∈ l, -9223372036854775808 ≤ p.1 ∧ p.1 ≤ 9223372036854775807) (hl : l.length < 1073741824) {K : Value → World → Prop}
    (hk : ∀ w' v, Up w w' → Own w' (sz w) 3 1 v l.length ((sortZ (l.map (·.1))).map I) → K v w') :
    CallF pg n_maps_Keys_map_held [.map (some r)] w fun t w => CallF pg n_slices_Sorted_int [t] w K := by
  obtain ⟨D0, hown, hperm, hsize⟩ := ownsOf h hn hb hl
  refine (callsIn_wide (n := 5)).1 ((AnyZI.keys_in Tryz.keysH Fence.wide 5 trivial rfl (some r) w).mono ?_)
  rintro e w' ⟨rfl, rfl⟩
  have hbl := hown.lt
  have hseq : SeqGives Fence.wide 2 pg n_maps_Keys_map_held_c1 #[.pointer (some ⟨w.heap.size, 0, none⟩)] encZ (fun ss => ss.Perm (intKeys D0)) (Maps.size D0) (w.alloc (.cells #[.map (some r)] ty_m_int_p_hold_held)) :=
    AnyZI.keys_gives (ρ := Tryz.keysH_ren) { Tryz.keysH with } Fence.wide _ trivial rfl (by omega) w.heap.size r l.length D0 _ (by simp) (by simp) (by
      obtain ⟨es, clock, hb, Ft, hs, hD⟩ := hown
      exact ⟨es, clock, (Below.heap_alloc _ _ r hbl).trans hb, Ft, hs, hD⟩)
  have cS := AnyZI.sorted_in Tryz.sortedI Fence.wide 5 trivial trivial trivial trivial rfl (by omega) (Tryz.sortsI _) (enters_of Tryz.func68 (by kernel_rfl) rfl) n_maps_Keys_map_held_c1 #[.pointer (some ⟨w.heap.size, 0, none⟩)] trivial (enters_of Tryz.func114 (by kernel_rfl) rfl) _ _ (by rw [hsize]; unfold maxLen; omega) (by rw [hsize]; omega) _ hseq
  refine (callsIn_wide (n := 5)).1 (cS.mono ?_)
  rintro e w' ⟨v, ss, rfl, hS, hrow, hnil, hbel⟩
  have hp : ss.Perm (l.map (·.1)) := hS.trans hperm
  have hss : ss.mergeSort (fun x y => decide (x ≤ y)) = sortZ (l.map (·.1)) := sortZ_perm hp
  rw [hss, show ss.length = l.length by have := hp.length_eq; simpa using this] at hrow
  refine hk w' v (((Up.refl w).alloc _).trans (ex_of_below hbel)) (Own.mono hrow ?_)
  show sz w ≤ sz (w.alloc _)
  rw [sz_alloc]; omega
end Go.Proofs.Tryz

namespace Go.Proofs.Tryz
open Go Go.Lad
set_option autoImplicit false
set_option maxRecDepth 100000
set_option linter.unusedSimpArgs false
set_option linter.unusedVariables false

theorem c_hold_Versions {w : World} {col : Col} {k d j h mb : Nat} {x : HoldM} {bs : List (Int × Nat)} (q : HoldAtX w col k d j h x mb bs) (hb : ∀ p ∈ x.all, p.1 ≤ 9223372036854775807) (hl : x.all.length < 1073741824) {K : Value → World → Prop}
    (hk : ∀ w' v, Up w w' → Own w' (sz w) 3 1 v x.all.length ((sortZ (x.all.map (·.1))).map I) → K v w') : CallF pg n_hold_Hold_Versions [ptr h 0] w K := by
  apply ln_hold_Hold_Versions
  simp only [sh_hold_Hold_Versions, EqNil_p1, IfV_false, NilCk_ptr, FA_ptr, Nat.reduceAdd, q.a1.ld (k := 1) rfl]
  have hlen : bs.length = x.all.length := by have := congrArg List.length q.a5.1; simpa using this
  refine c_Keys_held_Sorted q.a3 (by rw [q.a5.1]; exact q.a5.2.1) (fun p hp => ?_) (by omega) fun w' v u ho => hk w' v u (by rw [← q.a5.1, ← hlen]; exact ho)
  have : p.1 ∈ bs.map (·.1) := List.mem_map.2 ⟨p, hp, rfl⟩
  rw [q.a5.1] at this
  obtain ⟨p2, h1, h2⟩ := List.mem_map.1 this
  rw [← h2]
  exact ⟨by have := q.a5.2.2.2 p2 h1; omega, hb p2 h1⟩
theorem bdHold (j mb : Nat) (w : World) : (Instr.build ty_hold_Hold [(0, ptr j 0), (1, .map (some mb))].toArray).run pg w = .ok (.agg [ptr j 0, Value.map (some mb), I 0, I 0, I 0, I 0].toArray) w := by kernel_rfl
/-- a hold of nothing -/
def emptyH (j : JournalM) : HoldM := { j := j, all := [], active := 0, prepared := 0, looked := (0, 0) }
theorem c_hold_Open0 {w : World} {col : Col} {k d : Nat} {x : DiskM} (hd : DiskAt w col k d x) (hl : x.log.length < 1073741824) (hall : (openJ x).all = []) {K : Value → World → Prop}
    (hbad : (openJ x).err = true → ∀ w' col', Fr k w col w' col' → DiskAt w' col' k d (openJ x).disk → K (.tuple #[.pointer none, eErr 8]) w')
    (hok : (openJ x).err = false → ∀ w' col' j h mb, FrS (Rg k (k + 2)) w col w' col' → sz w ≤ h → HoldAtX w' col' k d j h (emptyH ⟨(openJ x).disk, [], (openJ x).at_⟩) mb [] → K (.tuple #[ptr h 0, .nilIface]) w') : CallF pg n_hold_Open [ptr d 0] w K := by
  apply ln_hold_Open
  simp only [sh_hold_Open]
  refine c_journal_Open hd hl (fun he w1 col1 f1 hd1 => ?_) (fun he w1 col1 j f1 hj hj1 => ?_)
  · simp only [Ext_0, Ext_1, NeNil_i1, IfV_true]
    exact hbad he w1 col1 f1 hd1
  simp only [Ext_0, Ext_1, NeNil_i0, IfV_false]
  refine V_makeMap (kv := kI) (vv := ptrV) fun w2 u2 hm2 hz2 => ?_
  rw [V_eq (bdHold j (sz w1) w2)]
  refine New_of (cs := [ptr j 0, Value.map (some (sz w1)), I 0, I 0, I 0, I 0]) fun w3 u3 hA hz3 => ?_
  have u13 := u2.trans u3
  let c1 := paint col1 (sz w1) (fun r => r = sz w1) (k + 2, 8, 0)
  let c2 := paint c1 (sz w1) (fun r => r = sz w2) (k + 2, 7, 0)
  have s2 := u2.size
  have e1 : c2 (sz w2) = (k + 2, 7, 0) := paint_in s2 rfl
  have e2 : c2 (sz w1) = (k + 2, 8, 0) := by
    show paint c1 _ _ _ _ = _
    rw [paint_out (S := fun r => r = sz w2) (show ¬ (sz w1 = sz w2) by omega)]
    exact paint_in (Nat.le_refl _) rfl
  have f3 : ∀ S, FrS S w1 col1 w3 c2 := fun S => ((FrS.up u13 S col1).paint (Nat.le_refl _) _ _).paint (Nat.le_refl _) _ _
  generalize c2 = cc at e1 e2 f3
  clear_value c1
  rw [hall] at hj1
  have q3 : HoldAtX w3 cc k d j (sz w2) (emptyH ⟨(openJ x).disk, [], (openJ x).at_⟩) (sz w1) [] :=
    ⟨hA, e1, hm2.up (u3.keep _ hm2.lt), e2, ⟨rfl, by simp [emptyH], fun v b y hb => (by cases hb), fun p hp => (by cases hp)⟩, hj1.fr (f3 (fun _ => False)) (fun h => h) (fun h => h)⟩
  have f03 : FrS (Rg k (k + 2)) w col w3 cc := (f1.rg (lo := k) (hi := k + 2) (Nat.le_refl _) (by omega)).trans (f3 _)
  have hs1 : sz w ≤ sz w1 := f1.size
  refine c_journal_All q3.a6 (by simp [emptyH]) fun w4 v4 u4 ho4 => ?_
  rw [ho4.sl.lenL]
  refine LoopV_of (fun xs w' => xs = [ptr (sz w2) 0, v4, N 0, N 0] ∧ w' = w4) (fun _ _ => 0) ⟨rfl, rfl⟩ ?_
  rintro k1 T w5 ⟨hT, rfl⟩ -
  simp only [temps, List.cons.injEq, and_true] at hT
  obtain ⟨t6, t28, t29, t30⟩ := hT
  simp only [t6, t28, t29, t30, Bin_lss_N, Nat.lt_irrefl, decide_false, IfV_false]
  refine c_hold_Versions (q3.up u4) (fun p hp => by cases hp) (by simp [emptyH]) fun w6 v6 u6 ho6 => ?_
  rw [ho6.sl.lenL]
  refine LoopV_of (fun xs w' => xs = [ptr (sz w2) 0, v6, N 0, N 0] ∧ w' = w6) (fun _ _ => 0) ⟨rfl, rfl⟩ ?_
  rintro k2 T2 w7 ⟨hT2, rfl⟩ -
  simp only [temps, List.cons.injEq, and_true] at hT2
  obtain ⟨t6', t39, t40, t41⟩ := hT2
  simp only [t6', t39, t40, t41, Bin_lss_N, Nat.lt_irrefl, decide_false, IfV_false]
  exact hok he w7 cc j (sz w2) (sz w1) (f03.trans (FrS.up (u4.trans u6) _ _)) (by omega) (q3.up (u4.trans u6))
/-- Source -/
theorem c_hold_Source {v1 v2 : Value} {w : World} {K : Value → World → Prop} (h1 : (Value.cells v1).toList = [v1]) (h2 : (Value.cells v2).toList = [v2])
    (hk : ∀ w' p1 p2, Up w w' → sz w ≤ p1 → sz w ≤ p2 → Arr w' p1 ty_p_hold_Hold [v1] → Arr w' p2 3 [v2] → K (.func (.func n_hold_Hold_Source_c1) #[] #[ptr p1 0, ptr p2 0]) w') : CallF pg n_hold_Hold_Source [v1, v2] w K := by
  apply ln_hold_Hold_Source
  simp only [sh_hold_Hold_Source, h1, h2]
  refine New_of (cs := [v1]) fun w1 u1 hA hz1 => ?_
  refine New_of (cs := [v2]) fun w2 u2 hB hz2 => ?_
  exact hk w2 _ _ (u1.trans u2) (Nat.le_refl _) (by omega) (hA.up u2) hB
end Go.Proofs.Tryz

