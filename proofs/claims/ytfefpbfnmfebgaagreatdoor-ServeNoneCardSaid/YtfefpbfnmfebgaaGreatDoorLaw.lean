/- Part of a proof (its text Law): what is proved stands in the text Card. -/
import Derived.Test.YtfefpbfnmfebgaaGreatDoorOkH
import Derived.Test.YtfefpbfnmfebgaaGreatDoorServe
import Derived.Test.YtfefpbfnmfebgaaGreatDoorFormsServe
set_option linter.all false
namespace Go.Proofs.Tryz
open Go Go.Lad
set_option autoImplicit false
set_option maxRecDepth 100000
set_option linter.unusedSimpArgs false
set_option linter.unusedVariables false

/-! versions, and how they are put -/
structure VerOk (v : Ver) : Prop where
  place : placeM v.man = none
  b : ManB v.man
  list : v.man.blocks = v.list.length
  each : ∀ s ∈ v.list, s.length ≤ 64
  bytes : (manB v.man).length ≤ 50000
theorem placeM_nones {m : Man} (h : placeM m = none) : headsM m = none ∧ m.blocks ≤ 2048 ∧ m.root.length = 32 := by
  unfold placeM at h
  cases hh : headsM m with
  | some i => rw [hh] at h; cases h
  | none =>
    rw [hh] at h
    simp only at h
    cases ht : tablesM m with
    | some i => rw [ht] at h; cases h
    | none =>
      rw [ht] at h
      simp only at h
      split at h
      · cases h
      · split at h
        · cases h
        · rename_i h1 h2
          refine ⟨rfl, ?_, ?_⟩
          · have : ¬ 2048 < m.blocks := fun hh => h1 (.inr hh)
            omega
          · exact Decidable.not_not.1 h2
theorem VerOk.facts {v : Ver} (h : VerOk v) : v.man.shards.length ≤ 64 ∧ v.man.version ≤ 1099511627776 ∧ 1 ≤ v.man.version ∧ v.list.length ≤ 2048 ∧ HeldOk ⟨v.man, [], []⟩ := by
  obtain ⟨h1, h2, h3⟩ := placeM_nones h.place
  obtain ⟨g1, g2, g3, g4, g5, g6⟩ := headsM_none h1
  have := h.list
  exact ⟨g5, g2, g1, by omega, ⟨by simp only; omega, by simp only; omega, by simp only; omega, fun q hq => (by cases hq), fun q hq => (by cases hq)⟩⟩
/-- a version that lies where others' calls don't write -/
def VerK (S : Nat → Prop) (w : World) (col : Col) (b : Nat) (v : Ver) : Prop :=
  ∃ sv lv, Arr w b ty_manifest_Version (manC v.man sv ++ [lv]) ∧ ¬ S (col b).1 ∧ ShSl w sv v.man.shards ∧ (∀ q, InSl sv q → ¬ S (col q).1) ∧ Sl w 1 lv v.list.length (v.list.map Str) ∧ (∀ q, InSl lv q → ¬ S (col q).1)
theorem VerK.fr {S : Nat → Prop} {w w' : World} {col col' : Col} {b : Nat} {v : Ver} (h : VerK S w col b v) (f : FrS S w col w' col') : VerK S w' col' b v := by
  obtain ⟨sv, lv, h1, h2, h3, h4, h5, h6⟩ := h
  exact ⟨sv, lv, (f.keep h1.lt h2).trans h1, by rw [f.ext b h1.lt]; exact h2, h3.up fun q hq hi => f.keep hq (h4 q hi), fun q hi => by rw [f.ext q (h3.lt hi)]; exact h4 q hi, h5.up fun q hq hi => f.keep hq (h6 q hi), fun q hi => by rw [f.ext q (h5.lt hi)]; exact h6 q hi⟩
theorem VerK.mono {S T : Nat → Prop} {w : World} {col : Col} {b : Nat} {v : Ver} (h : VerK S w col b v) (hs : ∀ i, T i → S i) : VerK T w col b v := by
  obtain ⟨sv, lv, h1, h2, h3, h4, h5, h6⟩ := h
  exact ⟨sv, lv, h1, fun h => h2 (hs _ h), h3, fun q hi h => h4 q hi (hs _ h), h5, fun q hi h => h6 q hi (hs _ h)⟩
theorem VerK.at {S : Nat → Prop} {w : World} {col : Col} {b : Nat} {v : Ver} (h : VerK S w col b v) : VerAt w b v := by
  obtain ⟨sv, lv, h1, h2, h3, h4, h5, h6⟩ := h
  exact ⟨sv, lv, h1, h3, h5⟩
theorem VerK.lt {S : Nat → Prop} {w : World} {col : Col} {b : Nat} {v : Ver} (h : VerK S w col b v) : b < sz w := by
  obtain ⟨sv, lv, h1, h2, h3, h4, h5, h6⟩ := h
  exact h1.lt
/-- all of a version's blocks are put -/
def putsH (v : Ver) : Nat → Nat → HoldM → Bool × HoldM
  | 0, _, x => (true, x)
  | f + 1, i, x =>
    if isErr (putH x v.man.version i (v.list.getD i []) (proofL (v.list.map leafL) i)).1 then (false, (putH x v.man.version i (v.list.getD i []) (proofL (v.list.map leafL) i)).2)
    else putsH v f (i + 1) (putH x v.man.version i (v.list.getD i []) (proofL (v.list.map leafL) i)).2
theorem putsH_ok {v : Ver} (hv : VerOk v) : ∀ (f i m : Nat) (x : HoldM), OkH x (m + f) → OkH (putsH v f i x).2 m := by
  obtain ⟨g1, g2, g3, g4, g5⟩ := hv.facts
  intro f
  induction f with
  | zero => intro i m x h; exact h
  | succ f ih =>
    intro i m x h
    unfold putsH
    have := putH_ok (m := m + f) (x := x) (v := v.man.version) (i := i) (s := v.list.getD i []) (proof := proofL (v.list.map leafL) i) h (by omega)
    split
    · exact this.le (by omega)
    · exact ih (i + 1) m _ this
theorem proofF_len (leaves : List (List UInt8)) (i : Nat) : ∀ (f a m : Nat) (acc : List (List UInt8)), (proofF leaves i f a m acc).length ≤ f + acc.length := by
  intro f
  induction f with
  | zero => intro a m acc; simp [proofF]
  | succ f ih =>
    intro a m acc
    simp only [proofF]
    split
    · omega
    · split
      · refine Nat.le_trans (ih _ _ _) ?_
        simp; omega
      · refine Nat.le_trans (ih _ _ _) ?_
        simp; omega
theorem sz_le_of_own {w : World} {base n : Nat} {v : Value} {xs : List Value} (h : Own w base 9 1 v n xs) : n = xs.length := by
  have := h.sl.len; omega
theorem c_put {w : World} {col : Col} {k d j h mb b : Nat} {x : HoldM} {bs : List (Int × Nat)} (q : HoldAtX w col k d j h x mb bs) (hk0 : k ≠ 0) {v : Ver} (hv : VerOk v) (hat : VerK (Rg k (k + 2)) w col b v) {m : Nat} (hok : OkH x (m + v.list.length)) {K : Value → World → Prop}
    (hk : ∀ w' col', FrS (Rg k (k + 2)) w col w' col' → HoldAtX w' col' k d j h (putsH v v.list.length 0 x).2 mb bs → K (.bool (putsH v v.list.length 0 x).1) w') : CallF pg n_ladinglaw24_put [ptr h 0, ptr b 0] w K := by
  apply ln_ladinglaw24_put
  obtain ⟨g1, g2, g3, g4, g5⟩ := hv.facts
  obtain ⟨sv, lv, a1, a2, a3, a4, a5, a6⟩ := id hat
  simp only [sh_ladinglaw24_put, NilCk_ptr, FA_ptr, Nat.zero_add, a1.ld (k := 6) rfl]
  rw [a5.lenL]
  refine LoopV_of (fun xs w' => ∃ (i : Nat) (x' : HoldM) (col' : Col), xs = [ptr h 0, ptr b 0, lv, N v.list.length, N i] ∧ i ≤ v.list.length ∧ FrS (Rg k (k + 2)) w col w' col' ∧ HoldAtX w' col' k d j h x' mb bs ∧ OkH x' (m + (v.list.length - i)) ∧ putsH v v.list.length 0 x = putsH v (v.list.length - i) i x')
    (fun xs _ => v.list.length - natOf (xs.getD 4 undef)) ⟨0, x, col, rfl, by omega, FrS.refl .., q, hok, rfl⟩ ?_
  rintro k1 T w1 ⟨i, x', col1, hT, hi, f1, q1, hok1, he⟩ hk1
  simp only [temps, List.cons.injEq, and_true] at hT
  obtain ⟨t0, t1, t12, t13, t14⟩ := hT
  simp only [t0, t1, t12, t13, t14, Bin_lss_N]
  have hat1 := hat.fr f1
  by_cases hlt : i < v.list.length
  · simp only [hlt, decide_true, IfV_true]
    have a51 : Sl w1 1 lv v.list.length (v.list.map Str) := a5.up fun r hr hi => f1.keep hr (a6 r hi)
    refine a51.ix1 (i := i) (x := Str (v.list.getD i [])) (by simp [List.getD_eq_getElem?_getD, hlt]) fun p => ?_
    refine c_Version_Tree hat1.at (fun s hs => by have := hv.each s hs; omega) (by omega) fun w2 tb tmb nodes u2 h1 h2 ht hall => ?_
    refine c_Tree_Proof ht (by simpa using hall (by omega)) (by simp; omega) (by simpa using hlt) fun w3 pv u3 ho => ?_
    have u13 := u2.trans u3
    have f13 : FrS (Rg k (k + 2)) w1 col1 w3 col1 := FrS.up u13 _ _
    obtain ⟨sv', lv', c1, c2, c3, c4, c5, c6⟩ := hat1.fr f13
    have q3 := q1.up u13
    simp only [Ext_0, Ext_1, NeNil_i0, IfV_false, NilCk_ptr, FA_ptr, Nat.zero_add, c1.ld (k := 0) rfl]
    have hgl : (v.list.getD i []).length ≤ 64 := by
      rw [List.getD_eq_getElem?_getD]
      simp only [hlt, List.getElem?_eq_getElem, Option.getD_some]
      exact hv.each _ (List.getElem_mem _)
    have hpl : (proofL (v.list.map leafL) i).length < 1099511627776 := by
      have := proofF_len (v.list.map leafL) i (v.list.map leafL).length 0 (v.list.map leafL).length []
      simp only [List.length_map, List.length_nil] at this
      unfold proofL
      simp only [List.length_map]
      omega
    have hok' : OkH x' (m + (v.list.length - (i + 1)) + 1) := by
      rw [show m + (v.list.length - (i + 1)) + 1 = m + (v.list.length - i) by omega]; exact hok1
    refine c_hold_Put q3 hk0 (by omega) (by omega) ho.sl hpl (fun y hy => hok'.held _ y hy) (JSmall.le hok'.small (by omega)) (by have := hok'.waits; omega) fun w4 col4 f4 q4 => ?_
    rw [NeNil_err (putH_err ..)]
    have hnext : putsH v (v.list.length - i) i x' = if isErr (putH x' v.man.version i (v.list.getD i []) (proofL (v.list.map leafL) i)).1 then (false, (putH x' v.man.version i (v.list.getD i []) (proofL (v.list.map leafL) i)).2)
        else putsH v (v.list.length - (i + 1)) (i + 1) (putH x' v.man.version i (v.list.getD i []) (proofL (v.list.map leafL) i)).2 := by
      rw [show v.list.length - i = (v.list.length - (i + 1)) + 1 by omega]
      rfl
    have f04 := (f1.trans f13).trans f4
    have hok4 := putH_ok (v := v.man.version) (i := i) (s := v.list.getD i []) (proof := proofL (v.list.map leafL) i) hok' (by omega)
    generalize putH x' v.man.version i (v.list.getD i []) (proofL (v.list.map leafL) i) = r at q4 hnext hok4 ⊢
    cases hr : isErr r.1 with
    | true =>
      rw [hr] at hnext
      simp only [if_true] at hnext
      rw [he, hnext] at hk
      simp only [IfV_true]
      exact hk w4 col4 f04 q4
    | false =>
      rw [hr] at hnext
      simp only [Bool.false_eq_true, if_false] at hnext
      simp (disch := omega) only [IfV_false, Bin_add_N]
      exact hk1 _ _ ⟨i + 1, r.2, col4, rfl, by omega, f04, q4, hok4, by rw [he, hnext]⟩ (by simp [temps, t14]; omega)
  · have hie : i = v.list.length := by omega
    subst hie
    simp only [hlt, decide_false, IfV_false]
    rw [he, Nat.sub_self] at hk
    exact hk w1 col1 f1 q1
end Go.Proofs.Tryz

namespace Go.Proofs.Tryz
open Go Go.Lad
set_option autoImplicit false
set_option maxRecDepth 100000
set_option linter.unusedSimpArgs false
set_option linter.unusedVariables false

theorem addsH_err (x : HoldM) (m : Man) : ErrLike (addsH x m).1 := by
  unfold addsH
  cases placeM m with
  | some i => exact .fault _ _
  | none =>
    simp only
    cases alook (m.version : Int) x.all with
    | some y => simp only; split <;> first | exact .err _ | exact .inl rfl
    | none =>
      simp only
      split
      · exact .err _
      · split
        · exact .err _
        · split <;> first | exact .err _ | exact .inl rfl
theorem addsH_ok {x : HoldM} {v : Ver} (hv : VerOk v) {m : Nat} (h : OkH x (m + 6)) : OkH (addsH x v.man).2 m := by
  obtain ⟨g1, g2, g3, g4, g5⟩ := hv.facts
  have h0 := h.le (show m ≤ m + 6 by omega)
  have hb := hv.bytes
  have j1 := putJ_on x.j (77 :: manB v.man)
  have b1 := j1.disk.log
  have b2 := j1.disk.waits
  have b3 := j1.disk.slots
  have b4 := j1.all
  have b5 := j1.bytes
  simp only [List.length_cons] at b1 b5
  obtain ⟨d1, d2, d3, d4, d5, d6⟩ := h
  unfold addsH
  rw [hv.place]
  simp only
  cases hy : alook (v.man.version : Int) x.all with
  | some y => simp only; split <;> exact h0
  | none =>
    simp only
    split
    · exact h0
    · split
      · exact h0
      · split
        · exact ⟨by simp only; omega, by simp only; omega, by simp only; omega, by simp only; omega, by simp only; omega, d6⟩
        · refine ⟨by simp only [addH]; omega, by simp only [addH]; omega, by simp only [addH]; omega, by simp only [addH]; omega, by simp only [addH]; omega, fun v2 y2 h2 => ?_⟩
          simp only [addH, alook_aset] at h2
          split at h2
          · cases h2; exact g5
          · exact d6 _ _ h2
/-- versions become known, and are put -/
def startsH : List Ver → HoldM → Bool × HoldM
  | [], x => (true, x)
  | v :: l, x =>
    if isErr (addsH x v.man).1 then (false, (addsH x v.man).2)
    else if (putsH v v.list.length 0 (addsH x v.man).2).1 then startsH l (putsH v v.list.length 0 (addsH x v.man).2).2
    else (false, (putsH v v.list.length 0 (addsH x v.man).2).2)
theorem startsH_cons (v : Ver) (l : List Ver) (x : HoldM) : startsH (v :: l) x = if isErr (addsH x v.man).1 then (false, (addsH x v.man).2)
    else if (putsH v v.list.length 0 (addsH x v.man).2).1 then startsH l (putsH v v.list.length 0 (addsH x v.man).2).2
    else (false, (putsH v v.list.length 0 (addsH x v.man).2).2) := rfl
theorem openJ_new (n : Nat) : openJ (newD n) = ⟨false, newD n, [], 0⟩ := by
  have e : rdAll [] 1 0 [] = ([], 0) := by simp [rdAll, rdFrame]
  simp [openJ, newD, e, openJ2]
def begin0 : HoldM := emptyH ⟨newD 60, [], 0⟩
theorem begin0_ok : OkH begin0 60000 := ⟨by simp [begin0, emptyH, newD], by simp [begin0, emptyH, newD], by simp [begin0, emptyH, newD], by simp [begin0, emptyH, newD], by simp [begin0, emptyH, newD], fun v y h => by simp [begin0, emptyH, alook] at h⟩
theorem c_begun {w : World} {col : Col} {k : Nat} (hk0 : k ≠ 0) {ps : List Ver} {bp : List Nat} {pv : Value} (hpv : Sl w 1 pv ps.length (bp.map fun b => ptr b 0)) (hpc : ∀ q, InSl pv q → ¬ Rg k (k + 3) (col q).1)
    (hps : ∀ (i : Nat) (v : Ver) (b : Nat), ps[i]? = some v → bp[i]? = some b → VerK (Rg k (k + 3)) w col b v) (hok : ∀ v ∈ ps, VerOk v) (h3 : ps.length ≤ 3) (hst : (startsH ps begin0).1 = true) {K : Value → World → Prop}
    (hk : ∀ w' col' d j h mb bs s smb, FrS (Rg k (k + 3)) w col w' col' → HoldAtX w' col' k d j h (startsH ps begin0).2 mb bs → ServeAt w' col' (k + 3) h s ⟨-1, 0, []⟩ smb → OkH (startsH ps begin0).2 10000 → K (.tuple #[ptr h 0, ptr d 0, ptr s 0, .bool true]) w') : CallF pg n_ladinglaw24_begun [pv] w K := by
  apply ln_ladinglaw24_begun
  simp only [sh_ladinglaw24_begun]
  refine c_disk_New (n := 60) (by omega) (col := col) (k := k) fun w1 col1 d u1 x1 hd hdk => ?_
  have f1 : FrS (Rg k (k + 3)) w col w1 col1 := ⟨u1.mod _, x1⟩
  have ho := openJ_new 60
  refine c_hold_Open0 hdk (by simp [newD]) (by rw [ho]) (fun he => by rw [ho] at he; cases he) (fun _ w2 col2 j h mb f2 hh q2 => ?_)
  rw [ho] at q2
  simp only at q2
  have f02 : FrS (Rg k (k + 3)) w col w2 col2 := f1.trans (f2.rg (lo' := k) (hi' := k + 3) (Nat.le_refl _) (by omega))
  have e3 : ¬ 3 < ps.length := by omega
  simp only [Ext_0, Ext_1, NeNil_i0, IfV_false]
  rw [hpv.lenL, Bin_gtr_N]
  simp only [e3, decide_false, IfV_false]
  rw [hpv.lenL]
  refine LoopV_of (fun xs w' => ∃ (i : Nat) (x' : HoldM) (col' : Col) (bs' : List (Int × Nat)), xs = [ptr d 0, ptr h 0, pv, N ps.length, N i] ∧ i ≤ ps.length ∧ FrS (Rg k (k + 3)) w col w' col' ∧ HoldAtX w' col' k d j h x' mb bs' ∧ OkH x' (10000 + (ps.length - i) * 3000) ∧ startsH ps begin0 = startsH (ps.drop i) x')
    (fun xs _ => ps.length - natOf (xs.getD 4 undef)) ⟨0, _, col2, [], rfl, by omega, f02, q2, begin0_ok.le (by omega), rfl⟩ ?_
  rintro k1 T w3 ⟨i, x', col3, bs3, hT, hi, f3, q3, hok3, he⟩ hk1
  simp only [temps, List.cons.injEq, and_true] at hT
  obtain ⟨t6, t7, t25, t26, t27⟩ := hT
  simp only [t6, t7, t25, t26, t27, Bin_lss_N]
  have hbl : bp.length = ps.length := by have := hpv.len; simpa using this
  by_cases hlt : i < ps.length
  · simp only [hlt, decide_true, IfV_true]
    obtain ⟨v, hv⟩ : ∃ v, ps[i]? = some v := ⟨_, List.getElem?_eq_getElem hlt⟩
    obtain ⟨b, hb⟩ : ∃ b, bp[i]? = some b := ⟨_, List.getElem?_eq_getElem (by omega)⟩
    have hpv3 : Sl w3 1 pv ps.length (bp.map fun b => ptr b 0) := hpv.up fun r hr hi => f3.keep hr (hpc r hi)
    refine hpv3.ix1 (i := i) (x := ptr b 0) (by simp [hb]) fun p => ?_
    have hvok := hok v (List.mem_of_getElem? hv)
    obtain ⟨g1, g2, g3, g4, g5⟩ := hvok.facts
    have hvk := (hps i v b hv hb).fr f3
    obtain ⟨sv, lv, a1, a2, a3, a4, a5, a6⟩ := id hvk
    simp only [NilCk_ptr, FA_ptr, Nat.zero_add]
    refine a1.ldPre (m := 6) rfl ▸ ?_
    have ok6 : OkH x' ((10000 + (ps.length - (i + 1)) * 3000 + v.list.length) + 6) := hok3.le (by omega)
    have hdrop : ps.drop i = v :: ps.drop (i + 1) := by
      obtain ⟨hi2, e2⟩ := List.getElem?_eq_some_iff.1 hv
      rw [List.drop_eq_getElem_cons hi2, e2]
    rw [hdrop] at he
    refine c_hold_Add q3 hk0 hvok.b a3 (fun r hr hh => a4 r hr ⟨hh.1, by have := hh.2; omega⟩) (by omega) hvok.bytes (fun y hy => by have := (hok3.held _ y hy).shards; omega) hok3.small fun w4 col4 bs4 f4 q4 => ?_
    rw [NeNil_err (addsH_err ..)]
    have ok4 := addsH_ok hvok ok6
    have f04 := f3.trans (f4.rg (lo' := k) (hi' := k + 3) (Nat.le_refl _) (by omega))
    rw [startsH_cons] at he
    generalize addsH x' v.man = r at q4 he ok4 ⊢
    cases hr : isErr r.1 with
    | true =>
      rw [hr] at he
      simp only [if_true] at he
      rw [he] at hst; cases hst
    | false =>
      rw [hr] at he
      simp only [Bool.false_eq_true, if_false] at he
      simp only [IfV_false]
      have hvk4 : VerK (Rg k (k + 2)) w4 col4 b v := ((hps i v b hv hb).fr f04).mono fun i hi => ⟨hi.1, by have := hi.2; omega⟩
      refine c_put q4 hk0 hvok hvk4 ok4 fun w5 col5 f5 q5 => ?_
      have ok5 := putsH_ok hvok v.list.length 0 _ _ ok4
      have f05 := f04.trans (f5.rg (lo' := k) (hi' := k + 3) (Nat.le_refl _) (by omega))
      cases hp : (putsH v v.list.length 0 r.2).1 with
      | false =>
        rw [hp] at he
        simp only [Bool.false_eq_true, if_false] at he
        rw [he] at hst; cases hst
      | true =>
        rw [hp] at he
        simp only [if_true] at he
        simp (disch := omega) only [NotV_b, Bool.not_true, IfV_false, Bin_add_N]
        exact hk1 _ _ ⟨i + 1, _, col5, bs4, rfl, by omega, f05, q5, ok5, he⟩ (by simp [temps, t27]; omega)
  · have hie : i = ps.length := by omega
    subst hie
    simp only [hlt, decide_false, IfV_false]
    rw [List.drop_length] at he
    have he' : startsH ps begin0 = (true, x') := he
    rw [he'] at hk
    simp only at hk
    refine c_serve_New (col := col3) (h := h) (ks := k + 3) fun w4 col4 s smb u4 x4 hs4 qs4 => ?_
    have f4 : ∀ S, FrS S w3 col3 w4 col4 := fun S => ⟨u4.mod _, x4⟩
    simp only [Ext_0, Ext_1, EqNil_i0, IfV_true, NeNil_p1]
    exact hk w4 col4 d j h mb bs3 s smb (f3.trans (f4 _)) (q3.fr (f4 (fun _ => False)) (fun h => h) (fun h => h) (fun h => h)) qs4 (hok3.le (by omega))
end Go.Proofs.Tryz

namespace Go.Proofs.Tryz
open Go Go.Lad
set_option autoImplicit false
set_option maxRecDepth 100000
set_option linter.unusedSimpArgs false
set_option linter.unusedVariables false

theorem slT_pVer : SlT pg ty_s_p_manifest_Version ty_p_manifest_Version 1 8 [.pointer none] := ⟨by kernel_rfl, by kernel_rfl, rfl, by decide⟩
def PoolOk (L : List (List (Int × Int))) : Prop := L.length ≤ 6 ∧ ∀ l ∈ L, l.length ≤ 60 ∧ badE 40 l 0 = none
def poolV (L : List (List (Int × Int))) : List Ver := L.mapIdx fun i l => makeV (i + 1) 40 10 (normE l)
theorem c_Pool {L : List (List (Int × Int))} {vs : List Value} {a0 : Value} {n : Nat} {w : World} (ha : Sl w 1 a0 n vs) (hn : vs.length = L.length) (hvs : ∀ (i : Nat) (v : Value) (l : List (Int × Int)), vs[i]? = some v → L[i]? = some l → ∃ m, Sl w 2 v m (edgesC l)) (hbig : ∀ l ∈ L, l.length ≤ 20000)
    (htrip : ∀ l ∈ L, badE 40 l 0 = none → l.length ≤ 60 → Trips (normE l) 40 10) (hcount : ∀ l ∈ L, badE 40 l 0 = none → l.length ≤ 60 → countN (graphB (normE l) 40 10).length ≤ 2048) {K : Value → World → Prop}
    (hbad : ¬ PoolOk L → ∀ w', Up w w' → K (.slice none 0 0) w')
    (hok : PoolOk L → ∀ w' v (bp : List Nat), Up w w' → Own w' (sz w) ty_p_manifest_Version 1 v L.length (bp.map fun b => ptr b 0) → (∀ (i : Nat) (l : List (Int × Int)) (b : Nat), L[i]? = some l → bp[i]? = some b → VerP (fun q => sz w ≤ q) w' b (makeV (i + 1) 40 10 (normE l))) → K v w') : CallF pg n_ladinglaw16_Pool [a0] w K := by
  apply ln_ladinglaw16_Pool
  simp only [sh_ladinglaw16_Pool]
  have hnl : n = L.length := by have := ha.len; omega
  subst hnl
  rw [ha.lenL, Bin_gtr_N]
  by_cases h6 : 6 < L.length
  · simp only [h6, decide_true, IfV_true]
    exact hbad (fun h => by have := h.1; omega) w (Up.refl w)
  simp only [h6, decide_false, IfV_false]
  rw [ha.lenL]
  refine LoopV_of (fun xs w' => ∃ (i : Nat) (v : Value) (bp : List Nat), xs = [v, a0, N L.length, N i] ∧ i ≤ L.length ∧ bp.length = i ∧ Up w w' ∧ Own w' (sz w) ty_p_manifest_Version 1 v i (bp.map fun b => ptr b 0) ∧ (∀ (k : Nat) (l : List (Int × Int)), k < i → L[k]? = some l → l.length ≤ 60 ∧ badE 40 l 0 = none) ∧
      (∀ (k : Nat) (l : List (Int × Int)) (b : Nat), L[k]? = some l → bp[k]? = some b → VerP (fun q => sz w ≤ q ∧ ¬ InSl v q) w' b (makeV (k + 1) 40 10 (normE l)))) (fun xs _ => L.length - natOf (xs.getD 3 undef))
    ⟨0, _, [], rfl, by omega, rfl, Up.refl w, Own.nil .., fun k l hk => by omega, fun k l b h1 h2 => by simp at h2⟩ ?_
  rintro k1 T w1 ⟨i, v, bp, hT, hi, hbl, u1, ho, hall, hver⟩ hk1
  simp only [temps, List.cons.injEq, and_true] at hT
  obtain ⟨t3, t11, t12, t13⟩ := hT
  simp only [t3, t11, t12, t13, Bin_lss_N]
  by_cases hlt : i < L.length
  · simp only [hlt, decide_true, IfV_true]
    obtain ⟨l, hl⟩ : ∃ l, L[i]? = some l := ⟨_, List.getElem?_eq_getElem hlt⟩
    obtain ⟨x, hx⟩ : ∃ x, vs[i]? = some x := ⟨_, List.getElem?_eq_getElem (by omega)⟩
    obtain ⟨m, hm⟩ := hvs i x l hx hl
    have hmem := List.mem_of_getElem? hl
    have hml : l.length = m := by have := hm.len; rw [edgesC_length] at this; omega
    refine (ha.Up u1).ix1 (i := i) (x := x) hx fun p => ?_
    have hm1 := hm.Up u1
    rw [hm1.lenL, Bin_gtr_N]
    by_cases h60 : 60 < m
    · simp only [h60, decide_true, IfV_true]
      exact hbad (fun h => by have := (h.2 l hmem).1; omega) w1 u1
    simp (disch := omega) only [h60, decide_false, IfV_false, Bin_add_N]
    refine c_manifest_Make (version := i + 1) (n := 40) (each := 10) (by omega) (by omega) (by omega) (by omega) (by omega) (by decide) hm1 (by omega) (fun j hj w2 u2 => ?_) (fun hb => htrip l hmem hb (by omega)) (fun hb => hcount l hmem hb (by omega)) (fun hb w2 b u2 hV => ?_)
    · simp only [Ext_0, Ext_1, NeNil_i1, IfV_true]
      exact hbad (fun h => by have := (h.2 l hmem).2; rw [this] at hj; cases hj) w2 (u1.trans u2)
    · simp only [Ext_0, Ext_1, NeNil_i0, IfV_false, EqNil_p1]
      have u02 := u1.trans u2
      refine V_push' (cs := [ptr b 0]) slT_pVer (Own.Up ho u2) rfl rfl rfl u02.size (by omega) (by omega) fun s v' w3 ho3 hg3 hw3 => ?_
      have u03 : Up w w3 := Up.push u02 hg3 (Own.Up ho u2) (Nat.le_refl _)
      have m3 := grown_mod hg3
      have s1 := u1.size
      have s2 := u2.size
      refine hk1 _ _ ⟨i + 1, v', bp ++ [b], rfl, by omega, by simp [hbl], u03, by simpa using ho3, fun k l' hk hl' => ?_, fun k l' b' hl' hb' => ?_⟩ (by simp [temps, t13]; omega)
      · by_cases hki : k = i
        · subst hki; rw [hl] at hl'; cases hl'; exact ⟨by omega, hb⟩
        · exact hall k l' (by omega) hl'
      · by_cases hki : k < bp.length
        · rw [List.getElem?_append_left hki] at hb'
          refine (hver k l' b' hl' hb').keep fun q hq hlq => ⟨?_, hq.1, fun hi => ?_⟩
          · rw [m3.keep q (by omega) hq.2, u2.keep q hlq]
          · rcases hw3 q hi with h | h
            · exact hq.2 h
            · omega
        · rw [List.getElem?_append_right (by omega)] at hb'
          have hk0 : k = i := by
            have : k - bp.length < 1 := by
              rcases Nat.lt_or_ge (k - bp.length) 1 with h | h
              · exact h
              · rw [List.getElem?_eq_none (by simpa using h)] at hb'; cases hb'
            omega
          subst hk0
          rw [hbl, Nat.sub_self] at hb'
          simp at hb'
          subst hb'
          rw [hl] at hl'; cases hl'
          have hnv : ∀ q, sz w1 ≤ q → ¬ InSl v q := fun q hq hi => by have := ho.sl.lt hi; omega
          refine hV.keep fun q hq hlq => ⟨m3.keep q hlq (hnv q hq), by omega, fun hi => ?_⟩
          rcases hw3 q hi with h | h
          · exact hnv q hq h
          · omega
  · have hie : i = L.length := by omega
    subst hie
    simp only [hlt, decide_false, IfV_false]
    refine hok ⟨by omega, fun l hl => ?_⟩ w1 v bp u1 ho fun k l b h1 h2 => (hver k l b h1 h2).keep fun q hq _ => ⟨rfl, hq.1⟩
    obtain ⟨k, hk, rfl⟩ := List.mem_iff_getElem.1 hl
    exact hall k _ hk (List.getElem?_eq_getElem hk)
end Go.Proofs.Tryz

