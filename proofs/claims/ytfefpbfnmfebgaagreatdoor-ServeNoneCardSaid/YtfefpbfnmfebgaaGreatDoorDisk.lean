/- Part of a proof (its text Disk): what is proved stands in the text Card. -/
import Derived.Test.YtfefpbfnmfebgaaGreatDoorFormsD
import Derived.Test.YtfefpbfnmfebgaaGreatDoorMp
import Derived.Test.YtfefpbfnmfebgaaGreatDoorSlices
import Derived.Test.YtfefpbfnmfebgaaGreatDoorOctet
import Derived.Test.YtfefpbfnmfebgaaGreatDoorFrame
set_option linter.all false
namespace Go.Proofs.Tryz
open Go Go.Lad
set_option autoImplicit false
set_option maxRecDepth 100000
set_option linter.unusedSimpArgs false
set_option linter.unusedVariables false

/-- a write that waits: to the log (-1), or a slot -/
structure Wr where
  slot : Int
  s : List UInt8
deriving DecidableEq
structure DiskM where
  left : Int
  down : Bool
  log : List UInt8
  slots : List (List UInt8)
  llog : List UInt8
  lslots : List (List UInt8)
  waits : List Wr
def wrC (x : Wr) : List Value := [I x.slot, Str x.s]
def wrsC (l : List Wr) : List Value := l.flatMap wrC
theorem wrsC_length (l : List Wr) : (wrsC l).length = l.length * 2 := by
  induction l with
  | nil => rfl
  | cons e l ih => simp only [wrsC, List.flatMap_cons, List.length_append] at ih ⊢; rw [ih]; simp [wrC]; omega
theorem wrsC_append (a b : List Wr) : wrsC (a ++ b) = wrsC a ++ wrsC b := by simp [wrsC]
abbrev diskC (x : DiskM) (v1 v2 v3 : Value) : List Value := [I x.left, .bool x.down, Str x.log, v1, Str x.llog, v2, v3]
structure DiskAt (w : World) (col : Col) (k d : Nat) (x : DiskM) : Prop where
  o : ∃ v1 v2 v3, Arr w d ty_disk_Disk (diskC x v1 v2 v3) ∧ col d = (k, 1, 0) ∧ OwnK w col (k, 2, 0) 9 1 v1 x.slots.length (x.slots.map Str) ∧ OwnK w col (k, 3, 0) 9 1 v2 x.lslots.length (x.lslots.map Str) ∧
    OwnK w col (k, 4, 0) ty_disk_write 2 v3 x.waits.length (wrsC x.waits)
  lo : -1 ≤ x.left
  hi : x.left ≤ 9223372036854775807
  lls : x.lslots.length = x.slots.length
  ls : x.slots.length ≤ 4096
theorem DiskAt.fr {S : Nat → Prop} {k : Nat} {w w' : World} {col col' : Col} {d : Nat} {x : DiskM} (h : DiskAt w col k d x) (f : FrS S w col w' col') (hk : ¬ S k) : DiskAt w' col' k d x := by
  obtain ⟨⟨v1, v2, v3, h1, h2, h3, h4, h5⟩, q1, q2, q3, q4⟩ := h
  exact ⟨⟨v1, v2, v3, (f.keep h1.lt (by rw [h2]; exact hk)).trans h1, by rw [f.ext d h1.lt, h2], h3.fr f hk, h4.fr f hk, h5.fr f hk⟩, q1, q2, q3, q4⟩
theorem DiskAt.up {k : Nat} {w w' : World} {col : Col} {d : Nat} {x : DiskM} (h : DiskAt w col k d x) (u : Up w w') : DiskAt w' col k d x := by
  obtain ⟨⟨v1, v2, v3, h1, h2, h3, h4, h5⟩, q1, q2, q3, q4⟩ := h
  exact ⟨⟨v1, v2, v3, h1.up u, h2, h3.up u, h4.up u, h5.up u⟩, q1, q2, q3, q4⟩
theorem DiskAt.paint {k : Nat} {w : World} {col : Col} {d : Nat} {x : DiskM} (h : DiskAt w col k d x) {lo : Nat} {S : Nat → Prop} {c : Clr} (hlo : sz w ≤ lo) : DiskAt w (Lad.paint col lo S c) k d x := by
  obtain ⟨⟨v1, v2, v3, h1, h2, h3, h4, h5⟩, q1, q2, q3, q4⟩ := h
  have g : ∀ {c : Clr} {e : TypeId} {m n : Nat} {v : Value} {xs : List Value}, OwnK w col c e m v n xs → ∀ b, InSl v b → b < lo := fun h b hb => by have := h.1.sl.lt hb; omega
  refine ⟨⟨v1, v2, v3, h1, ?_, h3.paint fun b hb => .inl (g h3 b hb), h4.paint fun b hb => .inl (g h4 b hb), h5.paint fun b hb => .inl (g h5 b hb)⟩, q1, q2, q3, q4⟩
  rw [paint_old (by have := h1.lt; omega)]; exact h2

theorem c_disk_bars {w : World} {col : Col} {k d : Nat} {x : DiskM} (hd : DiskAt w col k d x) {K : Value → World → Prop} (h : K (if x.down then eErr 8 else .nilIface) w) : CallF pg n_disk_Disk_bars [ptr d 0] w K := by
  apply ln_disk_Disk_bars
  obtain ⟨⟨v1, v2, v3, h1, h2, h3, h4, h5⟩, q1, q2, q3, q4⟩ := hd
  simp only [sh_disk_Disk_bars, EqNil_p1, IfV_false, NilCk_ptr, FA_ptr, Nat.reduceAdd, h1.ld (k := 1) rfl]
  cases hx : x.down <;> rw [hx] at h <;> simpa [IfV_bool] using h
theorem c_disk_bars_nil {w : World} {K : Value → World → Prop} (h : K (eErr 1) w) : CallF pg n_disk_Disk_bars [.pointer none] w K := by
  apply ln_disk_Disk_bars
  simp only [sh_disk_Disk_bars, EqNil_p0, IfV_true]
  exact h
theorem c_disk_Log {w : World} {col : Col} {k d : Nat} {x : DiskM} (hd : DiskAt w col k d x) {K : Value → World → Prop} (h : K (if x.down then .tuple #[Str [], eErr 8] else .tuple #[Str x.log, .nilIface]) w) : CallF pg n_disk_Disk_Log [ptr d 0] w K := by
  apply ln_disk_Disk_Log
  simp only [sh_disk_Disk_Log]
  refine c_disk_bars hd ?_
  obtain ⟨⟨v1, v2, v3, h1, h2, h3, h4, h5⟩, q1, q2, q3, q4⟩ := hd
  cases hx : x.down <;> rw [hx] at h
  · simp only [Bool.false_eq_true, if_false, NeNil_i0, IfV_false, NilCk_ptr, FA_ptr, Nat.reduceAdd, h1.ld (k := 2) rfl] at h ⊢
    exact h
  · simp only [if_true, NeNil_i1, IfV_true] at h ⊢
    exact h
theorem c_disk_Slots {w : World} {col : Col} {k d : Nat} {x : DiskM} (hd : DiskAt w col k d x) {K : Value → World → Prop} (h : K (N x.slots.length) w) : CallF pg n_disk_Disk_Slots [ptr d 0] w K := by
  apply ln_disk_Disk_Slots
  obtain ⟨⟨v1, v2, v3, h1, h2, h3, h4, h5⟩, q1, q2, q3, q4⟩ := hd
  simp only [sh_disk_Disk_Slots, EqNil_p1, IfV_false, NilCk_ptr, FA_ptr, Nat.reduceAdd, h1.ld (k := 3) rfl, h3.1.sl.lenL]
  exact h
theorem c_disk_Waits {w : World} {col : Col} {k d : Nat} {x : DiskM} (hd : DiskAt w col k d x) {K : Value → World → Prop} (h : K (N x.waits.length) w) : CallF pg n_disk_Disk_Waits [ptr d 0] w K := by
  apply ln_disk_Disk_Waits
  obtain ⟨⟨v1, v2, v3, h1, h2, h3, h4, h5⟩, q1, q2, q3, q4⟩ := hd
  simp only [sh_disk_Disk_Waits, EqNil_p1, IfV_false, NilCk_ptr, FA_ptr, Nat.reduceAdd, h1.ld (k := 6) rfl, h5.1.sl.lenL]
  exact h
/-- what bars a call with a slot -/
def slotE (x : DiskM) (n : Int) : Option Nat := if x.down then some 8 else if n < 0 ∨ (x.slots.length : Int) ≤ n then some 2 else none
def errV : Option Nat → Value
  | some c => eErr c
  | none => .nilIface
theorem c_disk_slot {w : World} {col : Col} {k d : Nat} {x : DiskM} (hd : DiskAt w col k d x) {n : Int} {K : Value → World → Prop} (h : K (errV (slotE x n)) w) : CallF pg n_disk_Disk_slot [ptr d 0, I n] w K := by
  apply ln_disk_Disk_slot
  simp only [sh_disk_Disk_slot]
  refine c_disk_bars hd ?_
  obtain ⟨⟨v1, v2, v3, h1, h2, h3, h4, h5⟩, q1, q2, q3, q4⟩ := hd
  unfold slotE at h
  have n0 : N 0 = I 0 := rfl
  cases hx : x.down <;> rw [hx] at h
  · simp only [Bool.false_eq_true, if_false] at h
    simp only [Bool.false_eq_true, if_false, NeNil_i0, IfV_false, n0, Bin_lss]
    by_cases g1 : n < 0
    · rw [if_pos (.inl g1)] at h
      simp only [g1, decide_true, IfV_true]; exact h
    · have e : ∀ K1 : Value → Prop, Bin .geq .i64 (I n) (N x.slots.length) K1 = K1 (B (decide ((x.slots.length : Int) ≤ n))) := fun K1 => Bin_geq .i64 _ _
      simp only [g1, decide_false, IfV_false, NilCk_ptr, FA_ptr, Nat.reduceAdd, h1.ld (k := 3) rfl, h3.1.sl.lenL, e]
      by_cases g2 : (x.slots.length : Int) ≤ n
      · rw [if_pos (.inr g2)] at h
        simp only [g2, decide_true, IfV_true]; exact h
      · rw [if_neg (by omega)] at h
        simp only [g2, decide_false, IfV_false]; exact h
  · simp only [if_true, NeNil_i1, IfV_true] at h ⊢
    exact h
theorem c_disk_Get {w : World} {col : Col} {k d : Nat} {x : DiskM} (hd : DiskAt w col k d x) {n : Int} {K : Value → World → Prop}
    (h : K (match slotE x n with | some c => .tuple #[Str [], eErr c] | none => .tuple #[Str (x.slots.getD n.toNat []), .nilIface]) w) : CallF pg n_disk_Disk_Get [ptr d 0, I n] w K := by
  apply ln_disk_Disk_Get
  simp only [sh_disk_Disk_Get]
  refine c_disk_slot hd ?_
  obtain ⟨⟨v1, v2, v3, h1, h2, h3, h4, h5⟩, q1, q2, q3, q4⟩ := hd
  cases hs : slotE x n with
  | some c => rw [hs] at h; simp only [errV, NeNil_i1, IfV_true]; exact h
  | none =>
    rw [hs] at h
    have hn : ¬ (n < 0 ∨ (x.slots.length : Int) ≤ n) := by
      unfold slotE at hs
      split at hs
      · cases hs
      · split at hs
        · cases hs
        · assumption
    have e : I n = N n.toNat := by unfold N; congr 1; omega
    simp only [errV, NeNil_i0, IfV_false, NilCk_ptr, FA_ptr, Nat.reduceAdd, h1.ld (k := 3) rfl, e]
    have hget : (x.slots.map Str)[n.toNat]? = some (Str (x.slots.getD n.toNat [])) := by
      simp [List.getElem?_eq_getElem (show n.toNat < x.slots.length by omega)]
    refine h3.1.sl.ix1 hget fun p => ?_
    exact h
/-- a call more is done: has it burnt down, and the disk behind it -/
def burnD (x : DiskM) : Bool × DiskM :=
  if x.left = 0 then (true, { x with left := -1, down := true })
  else if 0 < x.left then (false, { x with left := x.left - 1 }) else (false, x)
def downV (b : Bool) : Value := if b then eErr 8 else .nilIface
theorem col_ne {a b : Clr} (h : a.2.1 ≠ b.2.1) : a ≠ b := fun e => h (by rw [e])
theorem DiskAt.st {w w' : World} {col : Col} {k d : Nat} {x x' : DiskM} {v1 v2 v3 : Value} (hd : DiskAt w col k d x) (h0 : Arr w d ty_disk_Disk (diskC x v1 v2 v3)) (e : ∃ o, w' = putB w d o) (h1 : Arr w' d ty_disk_Disk (diskC x' v1 v2 v3))
    (hs : x'.slots = x.slots) (hl : x'.lslots = x.lslots) (hw : x'.waits = x.waits) (lo : -1 ≤ x'.left) (hi : x'.left ≤ 9223372036854775807) : DiskAt w' col k d x' ∧ Fr k w col w' col := by
  obtain ⟨⟨u1, u2, u3, g1, g2, g3, g4, g5⟩, q1, q2, q3, q4⟩ := hd
  have he : Obj.cells (diskC x v1 v2 v3).toArray ty_disk_Disk (0, 0) = Obj.cells (diskC x u1 u2 u3).toArray ty_disk_Disk (0, 0) := Option.some.inj (h0.symm.trans g1)
  have he2 : v1 = u1 ∧ v2 = u2 ∧ v3 = u3 := by simpa using he
  obtain ⟨rfl, rfl, rfl⟩ := he2
  obtain ⟨o, rfl⟩ := e
  have hm : Mod w (putB w d o) (· = d) := Mod.put w o rfl
  have hn : ∀ {c : Clr}, c.2.1 ≠ 1 → ∀ b, b = d → col b ≠ c := fun hc b hb e => by subst hb; rw [g2] at e; subst e; exact hc rfl
  refine ⟨⟨⟨v1, v2, v3, h1, g2, ?_, ?_, ?_⟩, lo, hi, by rw [hs, hl]; exact q3, by rw [hs]; exact q4⟩, Fr.of_mod hm fun b hb => .inl (by rw [hb, g2])⟩
  · rw [hs]; exact g3.mod hm (hn (by simp))
  · rw [hl]; exact g4.mod hm (hn (by simp))
  · rw [hw]; exact g5.mod hm (hn (by simp))
theorem c_disk_burn {w : World} {col : Col} {k d : Nat} {x : DiskM} (hd : DiskAt w col k d x) {K : Value → World → Prop} (h : ∀ w', Fr k w col w' col → DiskAt w' col k d (burnD x).2 → K (downV (burnD x).1) w') : CallF pg n_disk_fuse_burn [ptr d 0] w K := by
  apply ln_disk_fuse_burn
  obtain ⟨⟨v1, v2, v3, h1, h2, h3, h4, h5⟩, q1, q2, q3, q4⟩ := id hd
  have n0 : N 0 = I 0 := rfl
  have n1 : N 1 = I 1 := rfl
  unfold burnD at h
  simp only [sh_disk_fuse_burn, NilCk_ptr, FA_ptr, Nat.reduceAdd, h1.ld (k := 0) rfl, n0, Bin_eql]
  by_cases g0 : x.left = 0
  · rw [if_pos g0] at h
    have eb : (Instr.build ty_disk_fuse [(0, (.int .i64 (-1))), (1, (.bool true))].toArray).run pg w = .ok (.agg [I (-1), .bool true].toArray) w := by kernel_rfl
    simp only [g0, decide_true, IfV_true, V_eq eb, NilCk_ptr]
    refine Arr.stR (l := [I (-1), .bool true]) h1 rfl (by simp) rfl fun w1 e1 hA1 => ?_
    obtain ⟨r1, r2⟩ := DiskAt.st (x' := { x with left := -1, down := true }) hd h1 ⟨_, e1⟩ (by simpa using hA1) rfl rfl rfl (by simp) (by simp)
    exact h _ r2 r1
  · rw [if_neg g0] at h
    simp only [g0, decide_false, IfV_false, NilCk_ptr, FA_ptr, Nat.reduceAdd, h1.ld (k := 0) rfl, n0, Bin_gtr]
    by_cases g1 : 0 < x.left
    · rw [if_pos g1] at h
      have e2 : ∀ K1 : Value → Prop, Bin .sub .i64 (I x.left) (N 1) K1 = K1 (I (x.left - 1)) := fun K1 => by rw [n1, Bin_sub, wrap64 (by omega)]
      simp only [g1, decide_true, IfV_true, NilCk_ptr, FA_ptr, Nat.reduceAdd, h1.ld (k := 0) rfl, e2]
      refine h1.st rfl (by simp) fun w1 e1 hA1 => ?_
      obtain ⟨r1, r2⟩ := DiskAt.st (x' := { x with left := x.left - 1 }) hd h1 ⟨_, e1⟩ (by simpa using hA1) rfl rfl rfl (by simp; omega) (by simp; omega)
      exact h _ r2 r1
    · rw [if_neg g1] at h
      simp only [g1, decide_false, IfV_false]
      exact h w (Fr.refl ..) hd
end Go.Proofs.Tryz

namespace Go.Proofs.Tryz
open Go Go.Lad
set_option autoImplicit false
set_option maxRecDepth 100000
set_option linter.unusedSimpArgs false
set_option linter.unusedVariables false

/-- a write is done -/
def putD (x : DiskM) (u : Wr) : DiskM := if u.slot = -1 then { x with log := x.log ++ u.s } else { x with slots := x.slots.set u.slot.toNat u.s }
theorem slT_wr : SlT pg ty_s_disk_write ty_disk_write 2 24 [N 0, Str []] := ⟨by kernel_rfl, by kernel_rfl, rfl, by decide⟩
theorem c_content_put {w : World} {col : Col} {k d : Nat} {x : DiskM} (hd : DiskAt w col k d x) {u : Wr} (hu : u.slot = -1 ∨ (0 ≤ u.slot ∧ u.slot < x.slots.length)) (hlen : x.log.length + u.s.length < 1099511627776) {K : Value → World → Prop}
    (h : ∀ w', Fr k w col w' col → DiskAt w' col k d (putD x u) → K (.tuple #[]) w') : CallF pg n_disk_content_put [ptr d 2, .agg (wrC u).toArray] w K := by
  apply ln_disk_content_put
  simp only [sh_disk_content_put]
  refine New_of (cs := wrC u) fun w1 u1 hA hz1 => ?_
  have hd1 := hd.up u1
  obtain ⟨⟨v1, v2, v3, h1, h2, h3, h4, h5⟩, q1, q2, q3, q4⟩ := id hd1
  have f1 : Fr k w col w1 col := Fr.up u1 k col
  simp only [FA_ptr, Nat.zero_add, hA.ld (k := 0) rfl, Bin_eql]
  have h1d : Arr w1.drew d ty_disk_Disk (diskC x v1 v2 v3) := h1
  have hAd : Arr w1.drew (sz w) ty_disk_write (wrC u) := hA
  unfold putD at h
  by_cases g : u.slot = -1
  · rw [if_pos g] at h
    simp only [g, decide_true, IfV_true, Drew, NilCk_ptr, FA_ptr, Nat.reduceAdd, Nat.zero_add, h1d.ld (k := 2) rfl, hAd.ld (k := 1) rfl, true_and]
    rw [BinS_add _ _ (by omega)]
    refine h1d.st rfl (by simp) fun w2 e2 hA2 => ?_
    have e3 : Arr w2 d ty_disk_Disk (diskC { x with log := x.log ++ u.s } v1 v2 v3) := by simpa using hA2
    obtain ⟨r1, r2⟩ := DiskAt.st (x' := { x with log := x.log ++ u.s }) (hd1.up (Up.refl w1).drew) h1d ⟨_, e2⟩ e3 rfl rfl rfl q1 q2
    exact h _ ((f1.trans (Fr.up (Up.refl w1).drew k col)).trans r2) r1
  · rw [if_neg g] at h
    have hs : 0 ≤ u.slot ∧ u.slot < x.slots.length := by omega
    have e : I u.slot = N u.slot.toNat := by unfold N; congr 1; omega
    simp only [g, decide_false, IfV_false, Drew, NilCk_ptr, FA_ptr, Nat.reduceAdd, Nat.zero_add, h1d.ld (k := 3) rfl, hAd.ld (k := 0) rfl, hAd.ld (k := 1) rfl, true_and, e]
    have h3d : OwnK w1.drew col (k, 2, 0) 9 1 v1 x.slots.length (x.slots.map Str) := h3.up (Up.refl w1).drew
    refine h3d.1.ixset (x := Str u.s) rfl (by omega) fun p w2 ho2 hg2 hz2 => ?_
    have hm : Mod w1.drew w2 (fun q => InSl v1 q) := ⟨hg2.os, hg2.tape, hg2.output, hg2.size, fun i hi hf => hg2.block i hi (fun e => hf e.symm)⟩
    have hset : (x.slots.map Str).set u.slot.toNat (Str u.s) = (x.slots.set u.slot.toNat u.s).map Str := by rw [List.map_set]
    rw [hset] at ho2
    have hsl : (x.slots.set u.slot.toNat u.s).length = x.slots.length := by simp
    have hne : ∀ {c : Clr}, c ≠ (k, 2, 0) → ∀ b, InSl v1 b → col b ≠ c := fun hc b hb e => hc (by rw [← e, h3.2 b hb])
    refine h w2 ((f1.trans (Fr.up (Up.refl w1).drew k col)).trans (Fr.of_mod hm fun b hb => .inl (by rw [h3.2 b hb]))) ⟨⟨v1, v2, v3, ?_, h2, ⟨by rw [hsl]; exact ho2, h3.2⟩, (h4.up (Up.refl w1).drew).mod hm (hne (by simp)), (h5.up (Up.refl w1).drew).mod hm (hne (by simp))⟩, q1, q2, by simpa using q3, by simpa using q4⟩
    exact (hm.keep d h1d.lt (fun hi => by have := h3.2 d hi; rw [h2] at this; simp at this)).trans h1d
/-- a write is done, if the disk lasts so long -/
def doesD (x : DiskM) (u : Wr) : Bool × DiskM :=
  if (burnD x).1 then (true, (burnD x).2)
  else if u.slot ≠ -1 ∨ u.s ≠ [] then (false, { putD (burnD x).2 u with waits := (burnD x).2.waits ++ [u] }) else (false, (burnD x).2)
theorem burnD_keeps (x : DiskM) : (burnD x).2.log = x.log ∧ (burnD x).2.slots = x.slots ∧ (burnD x).2.waits = x.waits ∧ (burnD x).2.llog = x.llog ∧ (burnD x).2.lslots = x.lslots := by
  unfold burnD; split
  · simp
  · split <;> simp
theorem putD_keeps (x : DiskM) (u : Wr) : (putD x u).waits = x.waits ∧ (putD x u).left = x.left ∧ (putD x u).down = x.down ∧ (putD x u).lslots = x.lslots ∧ (putD x u).llog = x.llog ∧ (putD x u).slots.length = x.slots.length := by
  unfold putD; split <;> simp
theorem c_disk_does_j1 {w : World} {col : Col} {k d : Nat} {x : DiskM} (hd : DiskAt w col k d x) {u : Wr} {p : Nat} (hA : Arr w p ty_disk_write (wrC u)) (hpc : (col p).1 ≠ k) (hu : u.slot = -1 ∨ (0 ≤ u.slot ∧ u.slot < x.slots.length)) (hlen : x.log.length + u.s.length < 1099511627776) (hwl : x.waits.length < 1099511627776) {K : Value → World → Prop}
    (h : ∀ w' col', Fr k w col w' col' → DiskAt w' col' k d { putD x u with waits := x.waits ++ [u] } → K .nilIface w') : sh_disk_Disk_does_j1 (ptr d 0) (ptr p 0) (.bool true) w K := by
  unfold sh_disk_Disk_does_j1
  have hAd : Arr w.drew p ty_disk_write (wrC u) := hA
  have hdd := hd.up (Up.refl w).drew
  simp only [IfV_true, Drew, NilCk_ptr, FA_ptr, Nat.reduceAdd, Nat.zero_add]
  refine hAd.ldAll rfl ⟨rfl, ?_⟩
  refine c_content_put hdd hu hlen fun w1 f1 hd1 => ?_
  have hA1 : Arr w1 p ty_disk_write (wrC u) := (f1.keep hAd.lt hpc).trans hAd
  have f01 : Fr k w col w1 col := (Fr.up (Up.refl w).drew k col).trans f1
  obtain ⟨p1, p2, p3, p4, p5, p6⟩ := putD_keeps x u
  obtain ⟨⟨v1, v2, v3, h1, h2, h3, h4, h5⟩, q1, q2, q3, q4⟩ := hd1
  have h1d : Arr w1.drew d ty_disk_Disk (diskC (putD x u) v1 v2 v3) := h1
  have hA1d : Arr w1.drew p ty_disk_write (wrC u) := hA1
  simp only [true_and, FA_ptr, Nat.reduceAdd, Nat.zero_add, h1d.ld (k := 6) rfl]
  refine hA1d.ldAll rfl ⟨rfl, ?_⟩
  have hcells : Value.cells (.agg (wrC u).toArray) = (wrC u).toArray := rfl
  refine V_build1 slT_wr (cs := wrC u) hcells rfl (by omega) ?_
  have u2 : Up w1.drew (w1.drew.alloc (.cells (wrC u).toArray ty_disk_write)) := (Up.refl w1.drew).alloc _
  have hsl : Sl (w1.drew.alloc (.cells (wrC u).toArray ty_disk_write)) 2 (.slice (some ⟨sz w1.drew, 0, none⟩) 1 1) 1 (wrC u) := .at _ _ _ _ _ ⟨_, _, _, gb_alloc_new rfl, rfl⟩ rfl (Nat.le_refl _)
  generalize w1.drew.alloc (.cells (wrC u).toArray ty_disk_write) = w2 at u2 hsl ⊢
  have h12 : Arr w2 d ty_disk_Disk (diskC (putD x u) v1 v2 v3) := h1d.up u2
  simp only [h12.ld (k := 6) rfl, true_and, and_true]
  have u12 : Up w1 w2 := ((Up.refl w1).drew).trans u2
  have h52 := h5.up u12
  have hwl1 : (putD x u).waits.length < 1099511627776 := by rw [p1]; exact hwl
  refine V_append' slT_wr h52.1 hsl rfl (Nat.zero_le _) (by omega) fun v3' w3 ho3 hg3 hw3 => ?_
  have hm3 : Mod w2 w3 (fun q => InSl v3 q) := ⟨hg3.os, hg3.tape, hg3.output, hg3.size, fun i hi hf => hg3.block i hi (fun e => hf e.symm)⟩
  have hnd : ¬ InSl v3 d := fun hi => by have := h5.2 d hi; rw [h2] at this; simp at this
  have h13 : Arr w3 d ty_disk_Disk (diskC (putD x u) v1 v2 v3) := (hm3.keep d h12.lt hnd).trans h12
  have hnd' : ¬ InSl v3' d := Own.apart ho3 h13 (by decide)
  refine h13.st ho3.plain (by simp) fun w4 e4 h14 => ?_
  have hne : ∀ {c : Clr}, c ≠ (k, 4, 0) → ∀ b, InSl v3 b → col b ≠ c := fun hc b hb e => hc (by rw [← e, h5.2 b hb])
  have hned : ∀ {c : Clr}, c ≠ (k, 1, 0) → ∀ b, b = d → col b ≠ c := fun hc b hb e => hc (by rw [← e, hb, h2])
  have hm4 : Mod w3 w4 (· = d) := by rw [e4]; exact Mod.put _ _ rfl
  have h34 := ((h3.up u12).mod hm3 (hne (by simp))).mod hm4 (hned (by simp))
  have h44 := ((h4.up u12).mod hm3 (hne (by simp))).mod hm4 (hned (by simp))
  have ho4 : Own w4 0 ty_disk_write 2 v3' ((putD x u).waits.length + 1) (wrsC (putD x u).waits ++ wrC u) := Own.up ho3 fun b hb hi => hm4.keep b hb (fun e => hnd' (e ▸ hi))
  have hk := OwnK.painted ho4 hw3 h52.2
  have f14 : Fr k w col w4 col := by
    refine (f01.trans (Fr.up u12 k col)).trans ((Fr.of_mod hm3 fun b hb => .inl ?_).trans (Fr.of_mod hm4 fun b hb => .inl ?_))
    · rw [h5.2 b hb]
    · rw [hb, h2]
  have hz4 : sz w2 ≤ sz w4 := Nat.le_trans hm3.size hm4.size
  have f5 := f14.paint (Nat.le_trans f01.size u12.size) (InSl v3') (k, 4, 0)
  refine h w4 _ f5 ⟨⟨v1, v2, v3', by simpa using h14, ?_, h34.paint fun b hb => .inl ?_, h44.paint fun b hb => .inl ?_, ?_⟩, q1, q2, q3, q4⟩
  · rw [paint_old h12.lt]; exact h2
  · exact (h3.up u12).1.sl.lt hb
  · exact (h4.up u12).1.sl.lt hb
  · have e1 : (putD x u).waits = x.waits := p1
    rw [e1] at hk
    have e2 : (x.waits ++ [u]).length = x.waits.length + 1 := by simp
    have e3 : wrsC (x.waits ++ [u]) = wrsC x.waits ++ wrC u := by rw [wrsC_append]; simp [wrsC]
    show OwnK w4 _ (k, 4, 0) ty_disk_write 2 v3' (x.waits ++ [u]).length (wrsC (x.waits ++ [u]))
    rw [e2, e3]; exact hk
theorem c_disk_does {w : World} {col : Col} {k d : Nat} {x : DiskM} (hd : DiskAt w col k d x) {u : Wr} (hu : u.slot = -1 ∨ (0 ≤ u.slot ∧ u.slot < x.slots.length)) (hlen : x.log.length + u.s.length < 1099511627776) (hwl : x.waits.length < 1099511627776) {K : Value → World → Prop} (hk0 : k ≠ 0)
    (h : ∀ w' col', Fr k w col w' col' → DiskAt w' col' k d (doesD x u).2 → K (downV (doesD x u).1) w') : CallF pg n_disk_Disk_does [ptr d 0, .agg (wrC u).toArray] w K := by
  apply ln_disk_Disk_does
  simp only [sh_disk_Disk_does]
  refine New_of (cs := wrC u) fun w1 u1 hA hz1 => ?_
  have f1 : Fr k w col w1 (paint col (sz w) (fun b => b = sz w) (0, 0, 0)) := (Fr.up u1 k col).paint (Nat.le_refl _) _ _
  have hd1 : DiskAt w1 (paint col (sz w) (fun b => b = sz w) (0, 0, 0)) k d x := hd.fr (S := fun i => i = k + 1) ((Fr.up u1 (k + 1) col).paint (Nat.le_refl _) _ _) (by omega)
  have hpc : paint col (sz w) (fun b => b = sz w) (0, 0, 0) (sz w) = (0, 0, 0) := paint_in (Nat.le_refl _) rfl
  generalize paint col (sz w) (fun b => b = sz w) (0, 0, 0) = col1 at f1 hd1 hpc
  simp only [NilCk_ptr, FA_ptr, Nat.reduceAdd]
  refine c_disk_burn hd1 fun w2 f2 hd2 => ?_
  obtain ⟨b1, b2, b3, b4, b5⟩ := burnD_keeps x
  unfold doesD at h
  cases hb : (burnD x).1 with
  | true =>
    rw [hb] at h
    simp only [if_true, downV, NeNil_i1, IfV_true] at h ⊢
    exact h _ _ (f1.trans f2) hd2
  | false =>
    rw [hb] at h
    simp only [Bool.false_eq_true, if_false] at h
    have hA2 : Arr w2 (sz w) ty_disk_write (wrC u) := (f2.keep hA.lt (by rw [hpc]; exact fun e => hk0 e.symm)).trans hA
    simp only [downV, Bool.false_eq_true, if_false, NeNil_i0, IfV_false, FA_ptr, Nat.zero_add, hA2.ld (k := 0) rfl, Bin_neq]
    by_cases g : u.slot = -1
    · simp only [g, ne_eq, not_true_eq_false, decide_false, IfV_false, FA_ptr, Nat.zero_add, hA2.ld (k := 1) rfl, BinS_neq]
      by_cases g2 : u.s = []
      · rw [if_neg (by simp [g, g2])] at h
        have : sh_disk_Disk_does_j1 (ptr d 0) (ptr (sz w) 0) (.bool (decide (¬ u.s = []))) w2 K := by
          simp only [g2, not_true_eq_false, decide_false]
          unfold sh_disk_Disk_does_j1
          simp only [IfV_false]
          exact h _ _ (f1.trans f2) hd2
        exact this
      · rw [if_pos (.inr g2)] at h
        simp only [g2, ne_eq, not_false_eq_true, decide_true]
        refine c_disk_does_j1 hd2 hA2 (by rw [hpc]; exact fun e => hk0 e.symm) (by rw [b2]; exact hu) (by rw [b1]; exact hlen) (by rw [b3]; exact hwl) fun w3 col3 f3 hd3 => ?_
        exact h _ _ ((f1.trans f2).trans f3) hd3
    · rw [if_pos (.inl g)] at h
      simp only [g, ne_eq, not_false_eq_true, decide_true, IfV_true]
      refine c_disk_does_j1 hd2 hA2 (by rw [hpc]; exact fun e => hk0 e.symm) (by rw [b2]; exact hu) (by rw [b1]; exact hlen) (by rw [b3]; exact hwl) fun w3 col3 f3 hd3 => ?_
      exact h _ _ ((f1.trans f2).trans f3) hd3
theorem bdWr (a : Int) (s : List UInt8) (w : World) : (Instr.build ty_disk_write [(0, I a), (1, Str s)].toArray).run pg w = .ok (.agg (wrC ⟨a, s⟩).toArray) w := by kernel_rfl
/-- Append -/
def appendD (x : DiskM) (s : List UInt8) : Bool × DiskM := if x.down then (true, x) else doesD x ⟨-1, s⟩
theorem c_disk_Append {w : World} {col : Col} {k d : Nat} {x : DiskM} (hd : DiskAt w col k d x) {s : List UInt8} (hlen : x.log.length + s.length < 1099511627776) (hwl : x.waits.length < 1099511627776) (hk0 : k ≠ 0) {K : Value → World → Prop}
    (h : ∀ w' col', Fr k w col w' col' → DiskAt w' col' k d (appendD x s).2 → K (downV (appendD x s).1) w') : CallF pg n_disk_Disk_Append [ptr d 0, Str s] w K := by
  apply ln_disk_Disk_Append
  simp only [sh_disk_Disk_Append]
  refine c_disk_bars hd ?_
  unfold appendD at h
  cases hx : x.down <;> rw [hx] at h
  · simp only [Bool.false_eq_true, if_false, NeNil_i0, IfV_false, V_eq (bdWr (-1) s w)] at h ⊢
    exact c_disk_does hd (.inl rfl) hlen hwl hk0 h
  · simp only [if_true, NeNil_i1, IfV_true, downV] at h ⊢
    exact h w col (Fr.refl ..) hd
/-- Put: what bars it, or it is done -/
def putSlotD (x : DiskM) (n : Int) (s : List UInt8) : Option Nat × DiskM :=
  match slotE x n with
  | some c => (some c, x)
  | none => if 64 < s.length then (some 6, x) else ((if (doesD x ⟨n, s⟩).1 then some 8 else none), (doesD x ⟨n, s⟩).2)
theorem c_disk_Put {w : World} {col : Col} {k d : Nat} {x : DiskM} (hd : DiskAt w col k d x) {n : Int} {s : List UInt8} (hlen : x.log.length + s.length < 1099511627776) (hwl : x.waits.length < 1099511627776) (hk0 : k ≠ 0) {K : Value → World → Prop}
    (h : ∀ w' col', Fr k w col w' col' → DiskAt w' col' k d (putSlotD x n s).2 → K (errV (putSlotD x n s).1) w') : CallF pg n_disk_Disk_Put [ptr d 0, I n, Str s] w K := by
  apply ln_disk_Disk_Put
  simp only [sh_disk_Disk_Put]
  refine c_disk_slot hd ?_
  unfold putSlotD at h
  cases hs : slotE x n with
  | some c =>
    rw [hs] at h
    simp only [errV, NeNil_i1, IfV_true] at h ⊢
    exact h w col (Fr.refl ..) hd
  | none =>
    rw [hs] at h
    have hn : ¬ (n < 0 ∨ (x.slots.length : Int) ≤ n) := by
      unfold slotE at hs
      split at hs
      · cases hs
      · split at hs
        · cases hs
        · assumption
    simp only [errV, NeNil_i0, IfV_false, LenS_Str, Bin_gtr_N] at h ⊢
    by_cases g : 64 < s.length
    · rw [if_pos g] at h
      simp only [g, decide_true, IfV_true]
      exact h w col (Fr.refl ..) hd
    · rw [if_neg g] at h
      simp only [g, decide_false, IfV_false, V_eq (bdWr n s w)]
      refine c_disk_does hd (.inr ⟨(by omega : (0 : Int) ≤ n), (by omega : n < x.slots.length)⟩) hlen hwl hk0 fun w' col' f hd' => ?_
      have := h w' col' f hd'
      cases hx : (doesD x ⟨n, s⟩).1 <;> rw [hx] at this <;> exact this
end Go.Proofs.Tryz

