/- Part of a proof (its text Journal): what is proved stands in the text Card. -/
import Derived.Test.YtfefpbfnmfebgaaGreatDoorDisk
import Derived.Test.YtfefpbfnmfebgaaGreatDoorFormsB
import Derived.Test.YtfefpbfnmfebgaaGreatDoorFrame
set_option linter.all false
namespace Go.Proofs.Tryz
open Go Go.Lad
set_option autoImplicit false
set_option maxRecDepth 100000
set_option linter.unusedSimpArgs false
set_option linter.unusedVariables false

theorem plain_Str (l : List (List UInt8)) : (l.map Str).all plainV = true := by
  rw [List.all_eq_true]; intro x hx; obtain ⟨n, _, rfl⟩ := List.mem_map.1 hx; rfl
theorem bdContent (s : List UInt8) (v : Value) (w : World) (hv : plainV v = true) : (Instr.build ty_disk_content [(0, Str s), (1, v)].toArray).run pg w = .ok (.agg [Str s, v].toArray) w := by
  cases v <;> first | (cases hv; done) | kernel_rfl
theorem bdContent1 (v : Value) (w : World) (hv : plainV v = true) : (Instr.build ty_disk_content [(1, v)].toArray).run pg w = .ok (.agg [Str [], v].toArray) w := by
  cases v <;> first | (cases hv; done) | kernel_rfl
theorem c_content_copied {s : List UInt8} {v : Value} {l : List (List UInt8)} {w : World} (hv : Sl w 1 v l.length (l.map Str)) (hl : l.length ≤ 1048576) {K : Value → World → Prop}
    (h : ∀ w' v', Up w w' → Own w' (sz w) 9 1 v' l.length (l.map Str) → K (.agg [Str s, v'].toArray) w') : CallF pg n_disk_content_copied [.agg [Str s, v].toArray] w K := by
  apply ln_disk_content_copied
  simp only [sh_disk_content_copied]
  refine New_of (cs := [Str s, v]) fun w1 u1 hA hz1 => ?_
  refine New_of (cs := [Str [], .slice none 0 0]) fun w2 u2 hB hz2 => ?_
  have hA2 : Arr w2.drew (sz w) ty_disk_content [Str s, v] := hA.up u2.drew
  have hB2 : Arr w2.drew (sz w1) ty_disk_content [Str [], .slice none 0 0] := hB
  have u3 : Up w w2.drew := (u1.trans u2).drew
  simp only [Drew, FA_ptr, Nat.zero_add, hA2.ld (k := 0) rfl, hA2.ld (k := 1) rfl, true_and]
  refine c_Clone_string (hv.Up u3) (plain_Str l) (by omega) fun v' w3 u4 ho => ?_
  have hA3 := hA2.up u4
  have hB3 := hB2.up u4
  simp only [hA3.ld (k := 0) rfl, true_and, and_true, V_eq (bdContent s v' w3 ho.plain)]
  refine hB3.stAll (l := [Str s, v']) rfl rfl (by simp only [List.all_cons, List.all_nil, ho.plain, Bool.and_true]; rfl) fun w4 e4 hB4 => ?_
  refine hB4.ldAll rfl ?_
  have hs2 : sz w2.drew = sz w2 := rfl
  have := u4.size
  have ho4 : Own w4 (sz w2.drew) 9 1 v' _ _ := Own.up ho fun b hb hi => by rw [e4]; exact gb_putB_ne (by have := ho.inSl hi; omega)
  exact h _ v' (up_put (u3.trans u4) e4 (by omega)) (ho4.mono (by omega))
/-- all lasts -/
def settleD (x : DiskM) : DiskM := { x with llog := x.log, lslots := x.slots, waits := [] }
theorem c_disk_settle {w : World} {col : Col} {k d : Nat} {x : DiskM} (hd : DiskAt w col k d x) {K : Value → World → Prop}
    (h : ∀ w' col', Fr k w col w' col' → DiskAt w' col' k d (settleD x) → K (.tuple #[]) w') : CallF pg n_disk_Disk_settle [ptr d 0] w K := by
  apply ln_disk_Disk_settle
  obtain ⟨⟨v1, v2, v3, h1, h2, h3, h4, h5⟩, q1, q2, q3, q4⟩ := id hd
  simp only [sh_disk_Disk_settle, NilCk_ptr, FA_ptr, Nat.reduceAdd, Nat.zero_add]
  refine h1.ldN (k := 2) (m := 2) (by simp) ?_
  have e0 : ((diskC x v1 v2 v3).drop 2).take 2 = [Str x.log, v1] := rfl
  rw [e0]
  refine c_content_copied h3.1.sl (by omega) fun w1 v' u1 ho => ?_
  have h11 := h1.up u1
  refine Arr.stR (l := [Str x.log, v']) h11 rfl (by simp) (by simp only [List.all_cons, List.all_nil, ho.plain, Bool.and_true]; rfl) fun w2 e2 h12 => ?_
  have e5 : (diskC x v1 v2 v3).take 4 ++ [Str x.log, v'] ++ (diskC x v1 v2 v3).drop (4 + 2) = [I x.left, .bool x.down, Str x.log, v1, Str x.log, v', v3] := rfl
  rw [e5] at h12
  refine h12.st rfl (by simp) fun w3 e3 h13 => ?_
  have h13' : Arr w3 d ty_disk_Disk (diskC (settleD x) v1 v' (.slice none 0 0)) := by simpa [settleD] using h13
  have hlt : d < sz w := h1.lt
  have hm : Mod w1 w3 (· = d) := by
    have a1 : Mod w1 w2 (· = d) := by rw [e2]; exact Mod.put _ _ rfl
    have a2 : Mod w2 w3 (· = d) := by rw [e3]; exact Mod.put _ _ rfl
    exact a1.trans a2
  have f1 : Fr k w col w3 col := (Fr.up u1 k col).trans (Fr.of_mod hm fun b hb => .inl (by rw [hb, h2]))
  have hned : ∀ {c : Clr}, c ≠ (k, 1, 0) → ∀ b, b = d → col b ≠ c := fun hc b hb e => hc (by rw [← e, hb, h2])
  have h33 := (h3.up u1).mod hm (hned (by simp))
  have ho3 : Own w3 (sz w) 9 1 v' _ _ := Own.up ho fun b hb hi => hm.keep b hb (by have := ho.inSl hi; omega)
  have hp := OwnK.painted (lo := sz w) (v := .slice none 0 0) (col := col) (c := (k, 3, 0)) ho3 (fun q hq => .inr (ho3.inSl hq)) (fun b hb => absurd hb (by intro hh; cases hh))
  have f5 := f1.paint (lo := sz w) (Nat.le_refl _) (InSl v') (k, 3, 0)
  refine h w3 _ f5 ⟨⟨v1, v', .slice none 0 0, h13', ?_, h33.paint fun b hb => .inl (h3.1.sl.lt hb), ?_, ?_⟩, q1, q2, rfl, q4⟩
  · rw [paint_old hlt]; exact h2
  · exact hp
  · exact ⟨Own.nil .., fun b hb => by cases hb⟩
/-- Sync -/
def syncD (x : DiskM) : Bool × DiskM := if x.down then (true, x) else if (burnD x).1 then (true, (burnD x).2) else (false, settleD (burnD x).2)
theorem c_disk_Sync {w : World} {col : Col} {k d : Nat} {x : DiskM} (hd : DiskAt w col k d x) {K : Value → World → Prop}
    (h : ∀ w' col', Fr k w col w' col' → DiskAt w' col' k d (syncD x).2 → K (downV (syncD x).1) w') : CallF pg n_disk_Disk_Sync [ptr d 0] w K := by
  apply ln_disk_Disk_Sync
  simp only [sh_disk_Disk_Sync]
  refine c_disk_bars hd ?_
  unfold syncD at h
  cases hx : x.down <;> rw [hx] at h
  · simp only [Bool.false_eq_true, if_false, NeNil_i0, IfV_false, NilCk_ptr, FA_ptr, Nat.reduceAdd] at h ⊢
    refine c_disk_burn hd fun w1 f1 hd1 => ?_
    cases hb : (burnD x).1 <;> rw [hb] at h
    · simp only [downV, Bool.false_eq_true, if_false, NeNil_i0, IfV_false] at h ⊢
      exact c_disk_settle hd1 fun w2 col2 f2 hd2 => h _ _ (f1.trans f2) hd2
    · simp only [downV, if_true, NeNil_i1, IfV_true] at h ⊢
      exact h _ _ f1 hd1
  · simp only [if_true, NeNil_i1, IfV_true, downV] at h ⊢
    exact h w col (Fr.refl ..) hd
def newD (n : Nat) : DiskM := { left := -1, down := false, log := [], slots := List.replicate n [], llog := [], lslots := List.replicate n [], waits := [] }
theorem max_N {a b : Nat} {w : World} : (Builtin.max_ #[3, 3] 3 [N a, N b].toArray).run pg w = .ok (N (max a b)) w := by
  unfold N
  by_cases h : (a : Int) < b
  · have : max a b = b := by omega
    simp [Builtin.max_, Builtin.max2, h, this, -N_cast]
  · have : max a b = a := by omega
    simp [Builtin.max_, Builtin.max2, h, this, -N_cast]
theorem bdFuse1 (w : World) : (Instr.build ty_disk_fuse [(0, (.int .i64 (-1)))].toArray).run pg w = .ok (.agg [I (-1), .bool false].toArray) w := by kernel_rfl
theorem bdDisk (v1 v2 : Value) (w : World) (h1 : plainV v1 = true) (h2 : plainV v2 = true) : (Instr.build ty_disk_Disk [(0, .agg [I (-1), .bool false].toArray), (1, .agg [Str [], v1].toArray), (2, .agg [Str [], v2].toArray)].toArray).run pg w = .ok (.agg [I (-1), .bool false, Str [], v1, Str [], v2, .slice none 0 0].toArray) w := by
  cases v1 <;> first | (cases h1; done) | (cases v2 <;> first | (cases h2; done) | kernel_rfl)
theorem flat_Str (n : Nat) : (List.replicate n [Str []]).flatten = (List.replicate n ([] : List UInt8)).map Str := by
  induction n with
  | zero => rfl
  | succ n ih => simp only [List.replicate_succ, List.flatten_cons, ih, List.map_cons]; rfl
theorem c_disk_New {n : Nat} (hn : n ≤ 4096) {w : World} {col : Col} {k : Nat} {K : Value → World → Prop}
    (h : ∀ w' col' d, Up w w' → (∀ b, b < sz w → col' b = col b) → sz w ≤ d → DiskAt w' col' k d (newD n) → K (ptr d 0) w') : CallF pg n_disk_New [N n] w K := by
  apply ln_disk_New
  have hmk : ∀ (w1 w2 w3 w4 : World) (va vb : Value), Up w w1 → Own w1 (sz w) 9 1 va n (List.replicate n [Str []]).flatten → Up w1 w2 → Own w2 (sz w1) 9 1 vb n (List.replicate n [Str []]).flatten →
      (∀ (w3 : World), Arr w3 (sz w2) ty_disk_Disk [I (-1), .bool false, Str [], va, Str [], vb, .slice none 0 0] → Up w2 w3 → K (ptr (sz w2) 0) w3) ∧ (∀ (w3 : World), Arr w3 (sz w2) ty_disk_Disk [I (-1), .bool false, Str [], vb, Str [], va, .slice none 0 0] → Up w2 w3 → K (ptr (sz w2) 0) w3) := by
    intro w1 w2 w3 w4 va vb u1 oa u2 ob
    rw [flat_Str] at oa ob
    have key : ∀ (v1 v2 : Value) (c1 c2 : Clr) (w3 : World), Up w2 w3 → Own w2 (sz w) 9 1 v1 n ((List.replicate n ([] : List UInt8)).map Str) → Own w2 (sz w) 9 1 v2 n ((List.replicate n ([] : List UInt8)).map Str) → (∀ q, InSl v1 q → ¬ InSl v2 q) →
        Arr w3 (sz w2) ty_disk_Disk [I (-1), .bool false, Str [], v1, Str [], v2, .slice none 0 0] → K (ptr (sz w2) 0) w3 := by
      intro v1 v2 c1 c2 w3 u3 o1 o2 hd hA
      have l1 : ∀ q, InSl v1 q → sz w ≤ q ∧ q < sz w2 := fun q hq => ⟨o1.inSl hq, o1.sl.lt hq⟩
      have l2 : ∀ q, InSl v2 q → sz w ≤ q ∧ q < sz w2 := fun q hq => ⟨o2.inSl hq, o2.sl.lt hq⟩
      have hw2 : sz w ≤ sz w2 := Nat.le_trans u1.size u2.size
      refine h w3 (paint (paint (paint col (sz w) (InSl v1) (k, 2, 0)) (sz w) (InSl v2) (k, 3, 0)) (sz w) (fun b => b = sz w2) (k, 1, 0)) (sz w2) ((u1.trans u2).trans u3) (fun b hb => by rw [paint_old hb, paint_old hb, paint_old hb]) hw2 ?_
      refine ⟨⟨v1, v2, .slice none 0 0, hA, paint_in hw2 rfl, ⟨?_, fun b hb => ?_⟩, ⟨?_, fun b hb => ?_⟩, ⟨Own.nil .., fun b hb => by cases hb⟩⟩, by simp [newD], by simp [newD], rfl, by simp [newD]; omega⟩
      · have := (Own.Up o1 u3).mono (Nat.zero_le _)
        simpa [newD] using this
      · have := l1 b hb
        rw [paint_out (by omega), paint_out (hd b hb), paint_in this.1 hb]
      · have := (Own.Up o2 u3).mono (Nat.zero_le _)
        simpa [newD] using this
      · have := l2 b hb
        rw [paint_out (by omega), paint_in this.1 hb]
    have oa2 : Own w2 (sz w) 9 1 va n _ := Own.Up oa u2
    have ob2 : Own w2 (sz w) 9 1 vb n _ := ob.mono u1.size
    have hd : ∀ q, InSl va q → ¬ InSl vb q := fun q h1 h2 => by have := oa.sl.lt h1; have := ob.inSl h2; omega
    exact ⟨fun w3 hA u3 => key va vb (0, 0, 0) (0, 0, 0) w3 u3 oa2 ob2 hd hA, fun w3 hA u3 => key vb va (0, 0, 0) (0, 0, 0) w3 u3 ob2 oa2 (fun q h1 h2 => hd q h2 h1) hA⟩
  simp only [sh_disk_New, V_eq max_N, V_eq min_N, show min (max n 0) 4096 = n from by omega, Drew, V_eq (bdFuse1 _), true_and]
  constructor
  · refine V_make slT_string (base := sz w) (Nat.le_refl _) (by omega) (by omega) fun va w1 oa u1 => ?_
    simp only [V_eq (bdFuse1 _), true_and, and_true, and_self, V_eq (bdContent1 va _ oa.plain)]
    refine V_make slT_string (base := sz w1) (Nat.le_refl _) (by omega) (by omega) fun vb w2 ob u2 => ?_
    simp only [V_eq (bdFuse1 _), true_and, and_true, and_self, V_eq (bdContent1 va _ oa.plain), V_eq (bdContent1 vb _ ob.plain), V_eq (bdDisk va vb _ oa.plain ob.plain)]
    refine New_of (cs := [I (-1), .bool false, Str [], va, Str [], vb, .slice none 0 0]) fun w3 u3 hA hz3 => ?_
    exact (hmk w1 w2 w3 w3 va vb ((Up.refl w).drew.trans u1) oa u2 ob).1 w3 hA u3
  · refine V_make slT_string (base := sz w) (Nat.le_refl _) (by omega) (by omega) fun va w1 oa u1 => ?_
    simp only [V_eq (bdFuse1 _), true_and, and_true, and_self, V_eq (bdContent1 va _ oa.plain)]
    refine V_make slT_string (base := sz w1) (Nat.le_refl _) (by omega) (by omega) fun vb w2 ob u2 => ?_
    simp only [V_eq (bdFuse1 _), true_and, and_true, and_self, V_eq (bdContent1 va _ oa.plain), V_eq (bdContent1 vb _ ob.plain), V_eq (bdDisk vb va _ ob.plain oa.plain)]
    refine New_of (cs := [I (-1), .bool false, Str [], vb, Str [], va, .slice none 0 0]) fun w3 u3 hA hz3 => ?_
    exact (hmk w1 w2 w3 w3 va vb ((Up.refl w).drew.trans u1) oa u2 ob).2 w3 hA u3
end Go.Proofs.Tryz

namespace Go.Proofs.Tryz
open Go Go.Lad
set_option autoImplicit false
set_option maxRecDepth 100000
set_option linter.unusedSimpArgs false
set_option linter.unusedVariables false

/-- Cut, within the log -/
def cutD (x : DiskM) (n : Nat) : Bool × DiskM := if x.down then (true, x) else if (burnD x).1 then (true, (burnD x).2) else (false, settleD { (burnD x).2 with log := x.log.take n })
theorem run_sliceStrTo {s : List UInt8} {n : Nat} (hn : n ≤ s.length) (w : World) : (Instr.sliceAt 9 (Str s) none (some (N n)) none).run pg w = .ok (Str (s.take n)) w := by
  have e2 := run_sliceBound_in (P := pg) (w := w) n s.length .sliceAlen hn
  have hsz : (⟨⟨s⟩⟩ : ByteArray).size = s.length := rfl
  have e3 : (⟨⟨s⟩⟩ : ByteArray).extract 0 n = ⟨⟨s.take n⟩⟩ := by
    apply ByteArray.ext
    simp [ByteArray.data_extract]
  simp [Instr.sliceAt, Instr.slice, run_underlying un9, Instr.sliceBounds, e2, hsz, e3]
theorem c_disk_Cut {w : World} {col : Col} {k d : Nat} {x : DiskM} (hd : DiskAt w col k d x) {n : Nat} (hn : n ≤ x.log.length) {K : Value → World → Prop}
    (h : ∀ w' col', Fr k w col w' col' → DiskAt w' col' k d (cutD x n).2 → K (downV (cutD x n).1) w') : CallF pg n_disk_Disk_Cut [ptr d 0, N n] w K := by
  apply ln_disk_Disk_Cut
  simp only [sh_disk_Disk_Cut]
  refine c_disk_bars hd ?_
  unfold cutD at h
  cases hx : x.down <;> rw [hx] at h
  · have e1 : ¬ x.log.length < n := by omega
    obtain ⟨⟨v1, v2, v3, h1, h2, h3, h4, h5⟩, q1, q2, q3, q4⟩ := id hd
    simp only [Bool.false_eq_true, if_false, NeNil_i0, IfV_false, Bin_lss_N, Nat.not_lt_zero, decide_false, NilCk_ptr, FA_ptr, Nat.reduceAdd, h1.ld (k := 2) rfl, LenS_Str, Bin_gtr_N, e1] at h ⊢
    refine c_disk_burn hd fun w1 f1 hd1 => ?_
    cases hb : (burnD x).1 <;> rw [hb] at h
    · obtain ⟨b1, b2, b3, b4, b5⟩ := burnD_keeps x
      obtain ⟨⟨v1, v2, v3, h1, h2, h3, h4, h5⟩, q1, q2, q3, q4⟩ := id hd1
      simp only [downV, Bool.false_eq_true, if_false, NeNil_i0, IfV_false, NilCk_ptr, FA_ptr, Nat.reduceAdd, h1.ld (k := 2) rfl] at h ⊢
      rw [b1, V_eq (run_sliceStrTo hn w1)]
      refine h1.st rfl (by simp) fun w2 e2 hA2 => ?_
      have e3 : Arr w2 d ty_disk_Disk (diskC { (burnD x).2 with log := x.log.take n } v1 v2 v3) := by simpa using hA2
      obtain ⟨r1, r2⟩ := DiskAt.st (x' := { (burnD x).2 with log := x.log.take n }) hd1 h1 ⟨_, e2⟩ e3 rfl rfl rfl q1 q2
      exact c_disk_settle r1 fun w3 col3 f3 hd3 => h _ _ ((f1.trans r2).trans f3) hd3
    · simp only [downV, if_true, NeNil_i1, IfV_true] at h ⊢
      exact h _ _ f1 hd1
  · simp only [if_true, NeNil_i1, IfV_true, downV] at h ⊢
    exact h w col (Fr.refl ..) hd

structure JournalM where
  disk : DiskM
  all : List (List UInt8)
  bytes : Nat
structure JournalAt (w : World) (col : Col) (k d j : Nat) (x : JournalM) : Prop where
  o : ∃ va, Arr w j ty_journal_Journal [ptr d 0, va, N x.bytes] ∧ col j = (k + 1, 5, 0) ∧ OwnK w col (k + 1, 6, 0) 9 1 va x.all.length (x.all.map Str)
  disk : DiskAt w col k d x.disk
theorem JournalAt.fr {S : Nat → Prop} {k : Nat} {w w' : World} {col col' : Col} {d j : Nat} {x : JournalM} (h : JournalAt w col k d j x) (f : FrS S w col w' col') (hk : ¬ S k) (hk1 : ¬ S (k + 1)) : JournalAt w' col' k d j x := by
  obtain ⟨⟨va, h1, h2, h3⟩, h4⟩ := h
  exact ⟨⟨va, (f.keep h1.lt (by rw [h2]; exact hk1)).trans h1, by rw [f.ext j h1.lt, h2], h3.fr f hk1⟩, h4.fr f hk⟩
theorem JournalAt.up {k : Nat} {w w' : World} {col : Col} {d j : Nat} {x : JournalM} (h : JournalAt w col k d j x) (u : Up w w') : JournalAt w' col k d j x := by
  obtain ⟨⟨va, h1, h2, h3⟩, h4⟩ := h
  exact ⟨⟨va, h1.up u, h2, h3.up u⟩, h4.up u⟩

/-- a disk's journal is opened -/
structure OpenJ where
  err : Bool
  disk : DiskM
  all : List (List UInt8)
  at_ : Nat
def openJ2 (x : DiskM) (e : Bool) (all : List (List UInt8)) (at_ : Nat) : OpenJ :=
  if e then ⟨true, x, all, at_⟩
  else if 0 < x.waits.length then ⟨(syncD x).1, (syncD x).2, all, at_⟩ else ⟨false, x, all, at_⟩
def openJ (x : DiskM) : OpenJ :=
  if x.down then ⟨true, x, [], 0⟩
  else
    let r := rdAll x.log (x.log.length + 1) 0 []
    if r.2 < x.log.length then openJ2 (cutD x r.2).2 (cutD x r.2).1 r.1 r.2 else openJ2 x false r.1 r.2
theorem bdJournal (d n : Nat) (v : Value) (w : World) (hv : plainV v = true) : (Instr.build ty_journal_Journal [(0, ptr d 0), (1, v), (2, N n)].toArray).run pg w = .ok (.agg [ptr d 0, v, N n].toArray) w := by
  cases v <;> first | (cases hv; done) | kernel_rfl
theorem rdAll_bounds (s : List UInt8) : ∀ (f at_ : Nat) (acc : List (List UInt8)), at_ ≤ s.length → acc.length ≤ at_ → (rdAll s f at_ acc).2 ≤ s.length ∧ (rdAll s f at_ acc).1.length ≤ s.length := by
  intro f
  induction f with
  | zero => intro at_ acc h1 h2; simp only [rdAll]; omega
  | succ f ih =>
    intro at_ acc h1 h2
    simp only [rdAll]
    cases hr : rdFrame s at_ with
    | bad p c => simp only; omega
    | ok x next => have := rdFrame_ok hr; exact ih next _ this.2 (by simp; omega)
theorem c_journal_Open {w : World} {col : Col} {k d : Nat} {x : DiskM} (hd : DiskAt w col k d x) (hl : x.log.length < 1073741824) {K : Value → World → Prop}
    (hbad : (openJ x).err = true → ∀ w' col', Fr k w col w' col' → DiskAt w' col' k d (openJ x).disk → K (.tuple #[.pointer none, eErr 8]) w')
    (hok : (openJ x).err = false → ∀ w' col' j, Fr k w col w' col' → sz w ≤ j → JournalAt w' col' k d j ⟨(openJ x).disk, (openJ x).all, (openJ x).at_⟩ → K (.tuple #[ptr j 0, .nilIface]) w') : CallF pg n_journal_Open [ptr d 0] w K := by
  apply ln_journal_Open
  simp only [sh_journal_Open]
  refine c_disk_Log hd ?_
  unfold openJ at hbad hok
  cases hx : x.down <;> rw [hx] at hbad hok
  · simp only [Bool.false_eq_true, if_false, Ext_0, Ext_1, NeNil_i0, IfV_false] at hbad hok ⊢
    refine c_frame_All hl fun w1 v u1 ho => ?_
    have hrb := rdAll_bounds x.log (x.log.length + 1) 0 [] (Nat.zero_le _) (by simp)
    generalize rdAll x.log (x.log.length + 1) 0 [] = r at hbad hok ho hrb ⊢
    have hd1 := hd.up u1
    have f1 : Fr k w col w1 col := Fr.up u1 k col
    simp only [Ext_0, Ext_1, LenS_Str, Bin_lss_N]
    -- the records lie in blocks that are new
    have fin : ∀ (w2 : World) (col2 : Col) (x2 : DiskM), Fr k w1 (paint col (sz w) (InSl v) (k + 1, 6, 0)) w2 col2 → DiskAt w2 col2 k d x2 →
        (∀ w' col' j, Fr k w col w' col' → sz w ≤ j → JournalAt w' col' k d j ⟨x2, r.1, r.2⟩ → K (.tuple #[ptr j 0, .nilIface]) w') → sh_journal_Open_j2 (ptr d 0) .nilIface v (N r.2) w2 K := by
      intro w2 col2 x2 f2 hd2 hk
      unfold sh_journal_Open_j2
      have hp := OwnK.painted (lo := sz w) (v := .slice none 0 0) (col := col) (c := (k + 1, 6, 0)) ho (fun q hq => .inr (ho.inSl hq)) (fun b hb => absurd hb (by intro hh; cases hh))
      have hp2 := hp.fr f2 (by simp)
      simp only [NeNil_i0, IfV_false, V_eq (bdJournal d r.2 v w2 ho.plain)]
      refine New_of (cs := [ptr d 0, v, N r.2]) fun w3 u3 hA hz3 => ?_
      have f12 : Fr k w col w2 col2 := (f1.paint (Nat.le_refl _) _ _).trans f2
      have f13 : Fr k w col w3 col2 := f12.trans (Fr.up u3 k col2)
      have f14 := f13.paint (lo := sz w2) f12.size (fun b => b = sz w2) (k + 1, 5, 0)
      refine hk w3 _ (sz w2) f14 f12.size ⟨⟨v, hA, paint_in (Nat.le_refl _) rfl, ?_⟩, ?_⟩
      · refine (hp2.up u3).paint fun b hb => .inl (hp2.1.sl.lt hb)
      · exact (hd2.paint (Nat.le_refl _)).up u3
    have hd1p : DiskAt w1 (paint col (sz w) (InSl v) (k + 1, 6, 0)) k d x := (hd.paint (Nat.le_refl _)).up u1
    have f1p : Fr k w col w1 (paint col (sz w) (InSl v) (k + 1, 6, 0)) := f1.paint (Nat.le_refl _) _ _
    have j1 : ∀ (w2 : World) (col2 : Col) (x2 : DiskM) (e : Bool), Fr k w1 (paint col (sz w) (InSl v) (k + 1, 6, 0)) w2 col2 → DiskAt w2 col2 k d x2 →
        ((openJ2 x2 e r.1 r.2).err = true → ∀ w' col', Fr k w col w' col' → DiskAt w' col' k d (openJ2 x2 e r.1 r.2).disk → K (.tuple #[.pointer none, eErr 8]) w') →
        ((openJ2 x2 e r.1 r.2).err = false → ∀ w' col' j, Fr k w col w' col' → sz w ≤ j → JournalAt w' col' k d j ⟨(openJ2 x2 e r.1 r.2).disk, (openJ2 x2 e r.1 r.2).all, (openJ2 x2 e r.1 r.2).at_⟩ → K (.tuple #[ptr j 0, .nilIface]) w') →
        sh_journal_Open_j1 (ptr d 0) (downV e) v (N r.2) w2 K := by
      intro w2 col2 x2 e f2 hd2 hb hk
      unfold sh_journal_Open_j1
      cases e with
      | true =>
        simp only [downV, if_true, EqNil_i1, IfV_false]
        unfold sh_journal_Open_j2
        simp only [NeNil_i1, IfV_true]
        exact hb rfl w2 col2 (f1p.trans f2) hd2
      | false =>
        simp only [openJ2, Bool.false_eq_true, if_false] at hb hk
        simp only [downV, Bool.false_eq_true, if_false, EqNil_i0, IfV_true]
        refine c_disk_Waits hd2 ?_
        simp only [Bin_gtr_N]
        by_cases hw : 0 < x2.waits.length
        · rw [if_pos hw] at hb hk
          simp only [hw, decide_true, IfV_true]
          refine c_disk_Sync hd2 fun w3 col3 f3 hd3 => ?_
          cases hs : (syncD x2).1 with
          | true =>
            rw [hs] at hb
            simp only [downV, if_true]
            unfold sh_journal_Open_j2
            simp only [NeNil_i1, IfV_true]
            exact hb rfl w3 col3 (f1p.trans (f2.trans f3)) hd3
          | false =>
            rw [hs] at hk
            simp only [downV, Bool.false_eq_true, if_false]
            exact fin w3 col3 _ (f2.trans f3) hd3 (hk rfl)
        · rw [if_neg hw] at hb hk
          simp only [hw, decide_false, IfV_false]
          exact fin w2 col2 x2 f2 hd2 (hk rfl)
    by_cases hc : r.2 < x.log.length
    · rw [if_pos hc] at hbad hok
      simp only [hc, decide_true, IfV_true]
      refine c_disk_Cut hd1p (by omega) fun w2 col2 f2 hd2 => ?_
      exact j1 w2 col2 _ _ f2 hd2 hbad hok
    · rw [if_neg hc] at hbad hok
      simp only [hc, decide_false, IfV_false]
      exact j1 w1 _ x false (FrS.refl ..) hd1p hbad hok
  · simp only [if_true, Ext_0, Ext_1, NeNil_i1, IfV_true] at hbad hok ⊢
    exact hbad trivial w col (Fr.refl ..) hd

/-- records' bytes in the log -/
def sealsL (l : List (List UInt8)) : List UInt8 := l.flatMap sealL
theorem sealL_length (s : List UInt8) : (sealL s).length = s.length + 6 := by
  simp only [sealL, List.length_append, fixedL_length]; omega
/-- Put -/
def putJ (x : JournalM) (l : List (List UInt8)) : Bool × JournalM :=
  if (appendD x.disk (sealsL l)).1 then (true, { x with disk := (appendD x.disk (sealsL l)).2 })
  else (false, { disk := (appendD x.disk (sealsL l)).2, all := x.all ++ l, bytes := x.bytes + (sealsL l).length })
theorem sealsL_append (a b : List (List UInt8)) : sealsL (a ++ b) = sealsL a ++ sealsL b := by simp [sealsL]
theorem sealsL_take (l : List (List UInt8)) (i : Nat) : (sealsL (l.take i)).length ≤ (sealsL l).length := by
  conv => rhs; rw [← List.take_append_drop i l, sealsL_append, List.length_append]
  omega
/-- how great a journal may be for a call -/
structure JSmall (x : JournalM) (m : Nat) : Prop where
  log : x.disk.log.length + m < 1073741824
  waits : x.disk.waits.length < 1073741824
  all : x.all.length < 1073741824
  bytes : x.bytes < 1073741824
theorem c_journal_Put {w : World} {col : Col} {k d j : Nat} {x : JournalM} (hj : JournalAt w col k d j x) (hk0 : k ≠ 0) {l : List (List UInt8)} {v : Value} (hv : Sl w 1 v l.length (l.map Str)) (hvc : ∀ b, InSl v b → ¬ Rg k (k + 1) (col b).1) (hl : ∀ s ∈ l, s.length ≤ 60000) (hll : l.length < 1048576) (hsm : JSmall x (sealsL l).length) {K : Value → World → Prop}
    (h : ∀ w' col', FrS (Rg k (k + 1)) w col w' col' → JournalAt w' col' k d j (putJ x l).2 → K (downV (putJ x l).1) w') : CallF pg n_journal_Journal_Put [ptr j 0, v] w K := by
  apply ln_journal_Journal_Put
  obtain ⟨s1, s2, s3, s4⟩ := hsm
  simp only [sh_journal_Journal_Put, EqNil_p1, IfV_false]
  rw [hv.lenL]
  refine LoopV_of (fun xs w' => Up w w' ∧ ∃ i, xs = [ptr j 0, v, Str (sealsL (l.take i)), v, N l.length, N i] ∧ i ≤ l.length) (fun xs _ => l.length - natOf (xs.getD 5 undef)) ⟨Up.refl w, 0, rfl, by omega⟩ ?_
  rintro k1 T w1 ⟨hu, i, hT, hi⟩ hk1
  simp only [temps, List.cons.injEq, and_true] at hT
  obtain ⟨g0, g1, g5, g14, g15, g16⟩ := hT
  have htl := sealsL_take l
  by_cases hlt : i < l.length
  · simp only [g0, g1, g5, g14, g15, g16, Bin_lss_N, hlt, decide_true, IfV_true]
    have hget : (l.map Str)[i]? = some (Str l[i]) := by simp [List.getElem?_eq_getElem hlt]
    refine (hv.Up hu).ix1 hget fun p => ?_
    have htk : sealsL (l.take (i + 1)) = sealsL (l.take i) ++ sealL l[i] := by
      rw [List.take_add_one, List.getElem?_eq_getElem hlt]
      simp only [sealsL, Option.toList_some, List.flatMap_append, List.flatMap_cons, List.flatMap_nil, List.append_nil]
    have h1 := htl (i + 1)
    rw [htk, List.length_append] at h1
    refine c_frame_Seal (hl _ (List.getElem_mem _)) fun w2 u2 => ?_
    simp (disch := omega) only [Ext_0, Ext_1, NeNil_i0, IfV_false, Bin_add_N]
    rw [BinS_add _ _ (by omega)]
    refine hk1 _ _ ⟨hu.trans u2, i + 1, by rw [htk], by omega⟩ (by simp [temps, g16]; omega)
  · have : i = l.length := by omega
    subst this
    rw [List.take_of_length_le (Nat.le_refl _)] at g5
    have hj1 := hj.up hu
    obtain ⟨⟨va, h1, h2, h3⟩, h4⟩ := hj1
    simp only [g0, g1, g5, g14, g15, g16, Bin_lss_N, hlt, decide_false, IfV_false, NilCk_ptr, FA_ptr, Nat.reduceAdd, h1.ld (k := 0) rfl]
    refine c_disk_Append h4 (by omega) (by omega) hk0 fun w2 col2 f2 hd2 => ?_
    have f02 : FrS (Rg k (k + 1)) w col w2 col2 := (FrS.up hu _ col).trans (f2.rg (Nat.le_refl _) (by omega))
    have hk1' : ¬ (fun i => i = k) (k + 1) := by simp
    have h12 : Arr w2 j ty_journal_Journal [ptr d 0, va, N x.bytes] := (f2.keep h1.lt (by rw [h2]; exact hk1')).trans h1
    have h22 : col2 j = (k + 1, 5, 0) := by rw [f2.ext j h1.lt, h2]
    have h32 := h3.fr f2 hk1'
    unfold putJ at h
    cases ha : (appendD x.disk (sealsL l)).1 with
    | true =>
      rw [ha] at h
      simp only [downV, if_true, NeNil_i1, IfV_true] at h ⊢
      exact h w2 col2 f02 ⟨⟨va, h12, h22, h32⟩, hd2⟩
    | false =>
      rw [ha] at h
      simp only [downV, Bool.false_eq_true, if_false, NeNil_i0, IfV_false, NilCk_ptr, FA_ptr, Nat.reduceAdd, h12.ld (k := 1) rfl] at h ⊢
      have hv2 : Sl w2 1 v l.length (l.map Str) := (hv.Up hu).up fun b hb hi => f2.keep hb fun e => hvc b hi (by simp only [Rg]; omega)
      refine V_append' slT_string h32.1 hv2 (plain_Str l) (Nat.zero_le _) (by omega) fun va' w3 ho3 hg3 hw3 => ?_
      have hm3 : Mod w2 w3 (fun q => InSl va q) := ⟨hg3.os, hg3.tape, hg3.output, hg3.size, fun i hi hf => hg3.block i hi (fun e => hf e.symm)⟩
      have hnd : ¬ InSl va j := fun hi => by have := h32.2 j hi; rw [h22] at this; simp at this
      have h13 : Arr w3 j ty_journal_Journal [ptr d 0, va, N x.bytes] := (hm3.keep j h12.lt hnd).trans h12
      have hnd' : ¬ InSl va' j := Own.apart ho3 h13 (by decide)
      refine h13.st ho3.plain (by simp) fun w4 e4 h14 => ?_
      have h14' : Arr w4 j ty_journal_Journal [ptr d 0, va', N x.bytes] := by simpa using h14
      simp (disch := omega) only [LenS_Str, NilCk_ptr, FA_ptr, Nat.reduceAdd, h14'.ld (k := 2) rfl, Bin_add_N]
      refine h14'.st rfl (by simp) fun w5 e5 h15 => ?_
      have hm4 : Mod w3 w5 (· = j) := by
        have a1 : Mod w3 w4 (· = j) := by rw [e4]; exact Mod.put _ _ rfl
        have a2 : Mod w4 w5 (· = j) := by rw [e5]; exact Mod.put _ _ rfl
        exact a1.trans a2
      have ho5 : Own w5 0 9 1 va' (x.all.length + l.length) (x.all.map Str ++ l.map Str) := Own.up ho3 fun b hb hi => hm4.keep b hb (fun e => hnd' (e ▸ hi))
      have hk := OwnK.painted ho5 hw3 h32.2
      have f25 : FrS (Rg k (k + 1)) w2 col2 w5 col2 := by
        refine (FrS.of_mod hm3 fun b hb => .inl ?_).trans (FrS.of_mod hm4 fun b hb => .inl ?_)
        · rw [h32.2 b hb]; simp [Rg]
        · rw [hb, h22]; simp [Rg]
      have f5 := (f02.trans f25).paint (Nat.le_trans (Nat.le_refl _) f02.size) (InSl va') (k + 1, 6, 0)
      have f25k : FrS (fun i => i = k + 1) w2 col2 w5 col2 := by
        refine (FrS.of_mod hm3 fun b hb => .inl ?_).trans (FrS.of_mod hm4 fun b hb => .inl ?_)
        · rw [h32.2 b hb]
        · rw [hb, h22]
      refine h w5 _ f5 ⟨⟨va', by simpa using h15, by rw [paint_old h12.lt]; exact h22, ?_⟩, ?_⟩
      · simpa using hk
      · exact hd2.fr (f25k.paint (Nat.le_refl _) _ _) (by simp)
theorem c_journal_Flush {w : World} {col : Col} {k d j : Nat} {x : JournalM} (hj : JournalAt w col k d j x) {K : Value → World → Prop}
    (h : ∀ w' col', FrS (Rg k (k + 1)) w col w' col' → JournalAt w' col' k d j { x with disk := (syncD x.disk).2 } → K (downV (syncD x.disk).1) w') : CallF pg n_journal_Journal_Flush [ptr j 0] w K := by
  apply ln_journal_Journal_Flush
  obtain ⟨⟨va, h1, h2, h3⟩, h4⟩ := hj
  simp only [sh_journal_Journal_Flush, EqNil_p1, IfV_false, NilCk_ptr, FA_ptr, Nat.reduceAdd, h1.ld (k := 0) rfl]
  refine c_disk_Sync h4 fun w2 col2 f2 hd2 => ?_
  have hk1' : ¬ (fun i => i = k) (k + 1) := by simp
  exact h w2 col2 (f2.rg (Nat.le_refl _) (by omega)) ⟨⟨va, (f2.keep h1.lt (by rw [h2]; exact hk1')).trans h1, by rw [f2.ext j h1.lt, h2], h3.fr f2 hk1'⟩, hd2⟩
/-- Write -/
def writeJ (x : JournalM) (l : List (List UInt8)) : Bool × JournalM :=
  if (putJ x l).1 then (true, (putJ x l).2) else ((syncD (putJ x l).2.disk).1, { (putJ x l).2 with disk := (syncD (putJ x l).2.disk).2 })
theorem c_journal_Write {w : World} {col : Col} {k d j : Nat} {x : JournalM} (hj : JournalAt w col k d j x) (hk0 : k ≠ 0) {l : List (List UInt8)} {v : Value} (hv : Sl w 1 v l.length (l.map Str)) (hvc : ∀ b, InSl v b → ¬ Rg k (k + 1) (col b).1) (hl : ∀ s ∈ l, s.length ≤ 60000) (hll : l.length < 1048576) (hsm : JSmall x (sealsL l).length) {K : Value → World → Prop}
    (h : ∀ w' col', FrS (Rg k (k + 1)) w col w' col' → JournalAt w' col' k d j (writeJ x l).2 → K (downV (writeJ x l).1) w') : CallF pg n_journal_Journal_Write [ptr j 0, v] w K := by
  apply ln_journal_Journal_Write
  simp only [sh_journal_Journal_Write]
  unfold writeJ at h
  refine c_journal_Put hj hk0 hv hvc hl hll hsm fun w1 col1 f1 hj1 => ?_
  cases hp : (putJ x l).1 with
  | true =>
    rw [hp] at h
    simp only [downV, if_true, NeNil_i1, IfV_true] at h ⊢
    exact h w1 col1 f1 hj1
  | false =>
    rw [hp] at h
    simp only [downV, Bool.false_eq_true, if_false, NeNil_i0, IfV_false] at h ⊢
    exact c_journal_Flush hj1 fun w2 col2 f2 hj2 => h w2 col2 (f1.trans f2) hj2
theorem c_journal_All {w : World} {col : Col} {k d j : Nat} {x : JournalM} (hj : JournalAt w col k d j x) (hl : x.all.length < 1073741824) {K : Value → World → Prop}
    (h : ∀ w' v, Up w w' → Own w' (sz w) 9 1 v x.all.length (x.all.map Str) → K v w') : CallF pg n_journal_Journal_All [ptr j 0] w K := by
  apply ln_journal_Journal_All
  obtain ⟨⟨va, h1, h2, h3⟩, h4⟩ := hj
  simp only [sh_journal_Journal_All, EqNil_p1, IfV_false, NilCk_ptr, FA_ptr, Nat.reduceAdd, h1.ld (k := 1) rfl]
  exact c_Clone_string h3.1.sl (plain_Str _) (by omega) fun v w' u ho => h w' v u ho
end Go.Proofs.Tryz

