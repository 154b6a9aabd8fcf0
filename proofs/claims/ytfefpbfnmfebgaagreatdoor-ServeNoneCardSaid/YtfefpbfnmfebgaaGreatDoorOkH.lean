/- Part of a proof (its text OkH): what is proved stands in the text Card. -/
import Derived.Test.YtfefpbfnmfebgaaGreatDoorHoldOpen
import Derived.Test.YtfefpbfnmfebgaaGreatDoorMake
set_option linter.all false
namespace Go.Proofs.Tryz
open Go Go.Lad
set_option autoImplicit false
set_option maxRecDepth 100000
set_option linter.unusedSimpArgs false
set_option linter.unusedVariables false

/-! what is small enough of a hold, for so many calls more -/
structure OkH (x : HoldM) (m : Nat) : Prop where
  log : x.j.disk.log.length + m * 10000 + 60000 < 1073741824
  waits : x.j.disk.waits.length + m * 4 + 4 < 1000000
  all : x.j.all.length + m + 1 < 1073741824
  bytes : x.j.bytes + m * 10000 + 60000 < 1073741824
  slots : x.j.disk.slots.length ≤ 4096
  held : ∀ v y, alook v x.all = some y → HeldOk y
theorem OkH.le {x : HoldM} {m n : Nat} (h : OkH x m) (hn : n ≤ m) : OkH x n := by
  obtain ⟨h1, h2, h3, h4, h5, h6⟩ := h
  exact ⟨by omega, by omega, by omega, by omega, h5, h6⟩
theorem OkH.small {x : HoldM} {m : Nat} (h : OkH x m) : JSmall x.j 60000 := by
  obtain ⟨h1, h2, h3, h4, h5, h6⟩ := h
  exact ⟨by omega, by omega, by omega, by omega⟩
theorem JSmall.le {x : JournalM} {m n : Nat} (h : JSmall x m) (hn : n ≤ m) : JSmall x n := ⟨by have := h.log; omega, h.waits, h.all, h.bytes⟩
/-- how a disk may have gone on -/
structure DOn (x y : DiskM) (l k : Nat) : Prop where
  log : y.log.length ≤ x.log.length + l
  waits : y.waits.length ≤ x.waits.length + k
  slots : y.slots.length = x.slots.length
theorem burnD_on (x : DiskM) : DOn x (burnD x).2 0 0 := by
  obtain ⟨b1, b2, b3, b4, b5⟩ := burnD_keeps x
  exact ⟨by rw [b1]; omega, by rw [b3]; omega, by rw [b2]⟩
theorem doesD_on (x : DiskM) (u : Wr) : DOn x (doesD x u).2 u.s.length 1 := by
  obtain ⟨b1, b2, b3, b4, b5⟩ := burnD_keeps x
  unfold doesD
  split
  · exact ⟨by rw [b1]; omega, by rw [b3]; omega, by rw [b2]⟩
  · split
    · unfold putD
      split
      · exact ⟨by simp [b1], by simp [b3], by simp [b2]⟩
      · exact ⟨by simp [b1], by simp [b3], by simp [b2]⟩
    · exact ⟨by rw [b1]; omega, by rw [b3]; omega, by rw [b2]⟩
theorem appendD_on (x : DiskM) (s : List UInt8) : DOn x (appendD x s).2 s.length 1 := by
  unfold appendD
  split
  · exact ⟨by simp, by simp, rfl⟩
  · exact doesD_on x ⟨-1, s⟩
theorem putSlotD_on (x : DiskM) (n : Nat) (s : List UInt8) : DOn x (putSlotD x n s).2 0 1 := by
  obtain ⟨h1, h2⟩ := putSlotD_log x n s
  refine ⟨by rw [h1]; omega, h2, ?_⟩
  unfold putSlotD
  cases slotE x n with
  | some c => rfl
  | none =>
    simp only
    split
    · rfl
    · exact (doesD_on x _).slots
theorem syncD_on (x : DiskM) : DOn x (syncD x).2 0 0 := by
  obtain ⟨h1, h2⟩ := syncD_log x
  refine ⟨by rw [h1]; omega, by omega, ?_⟩
  unfold syncD
  split
  · rfl
  · split
    · exact (burnD_on x).slots
    · exact (burnD_on x).slots
theorem DOn.trans {x y z : DiskM} {a b c d : Nat} (h : DOn x y a b) (g : DOn y z c d) : DOn x z (a + c) (b + d) :=
  ⟨by have := h.log; have := g.log; omega, by have := h.waits; have := g.waits; omega, g.slots.trans h.slots⟩
/-- how a journal may have gone on -/
structure JOn (x y : JournalM) (l k : Nat) : Prop where
  disk : DOn x.disk y.disk l k
  all : y.all.length ≤ x.all.length + 1
  bytes : y.bytes ≤ x.bytes + l
theorem putJ_on (x : JournalM) (s : List UInt8) : JOn x (putJ x [s]).2 (s.length + 6) 1 := by
  have h := appendD_on x.disk (sealsL [s])
  rw [sealsL_one] at h
  unfold putJ
  split
  · exact ⟨h, by simp, by simp⟩
  · exact ⟨h, by simp, by simp only; rw [sealsL_one]; omega⟩
theorem writeJ_on (x : JournalM) (s : List UInt8) : JOn x (writeJ x [s]).2 (s.length + 6) 1 := by
  have h := putJ_on x s
  unfold writeJ
  split
  · exact h
  · exact ⟨h.disk.trans (syncD_on _), h.all, h.bytes⟩
/-! errors are nil, or aren't -/
def isErr : Value → Bool
  | .nilIface => false
  | _ => true
def ErrLike (v : Value) : Prop := v = .nilIface ∨ ∃ t u, v = .iface t u
theorem NeNil_err {v : Value} (h : ErrLike v) (K1 : Value → Prop) : NeNil .iface v K1 = K1 (.bool (isErr v)) := by
  rcases h with rfl | ⟨t, u, rfl⟩ <;> rfl
theorem ErrLike.err (n : Nat) : ErrLike (eErr n) := .inr ⟨_, _, rfl⟩
theorem ErrLike.fault (i n : Nat) : ErrLike (eFault i n) := .inr ⟨_, _, rfl⟩
theorem ErrLike.down (b : Bool) : ErrLike (downV b) := by
  cases b
  · exact .inl rfl
  · exact .inr ⟨_, _, rfl⟩
theorem putH_err (x : HoldM) (v i : Nat) (s : List UInt8) (proof : List (List UInt8)) : ErrLike (putH x v i s proof).1 := by
  unfold putH
  repeat' first | split | exact .err _ | exact .fault _ _ | exact .inl rfl
  all_goals first | exact .err _ | exact .fault _ _ | exact .inl rfl | skip
  all_goals (simp only; split <;> first | exact .err _ | exact .inl rfl)
theorem mem_aset {κ ν : Type} [DecidableEq κ] {k : κ} {v : ν} {l : List (κ × ν)} {q : κ × ν} (h : q ∈ aset k v l) : q = (k, v) ∨ q ∈ l := by
  induction l with
  | nil => simp [aset] at h; exact .inl h
  | cons p l ih =>
    simp only [aset] at h
    split at h
    · simp only [List.mem_cons] at h ⊢
      rcases h with h | h
      · exact .inl h
      · exact .inr (.inr h)
    · simp only [List.mem_cons] at h ⊢
      rcases h with h | h
      · exact .inr (.inl h)
      · rcases ih h with h | h
        · exact .inl h
        · exact .inr (.inr h)
theorem HeldOk.puts {y : HeldM} (h : HeldOk y) {i : Int} {n : Nat} {s : List UInt8} (hn : n < 4096) : HeldOk { y with blocks := aset i (n, s) y.blocks, old := adel i y.old } := by
  refine ⟨h.shards, h.blocks, h.root, fun q hq => h.old q (adel_sub.subset hq), fun q hq => ?_⟩
  rcases mem_aset hq with rfl | hq
  · exact hn
  · exact h.put q hq
theorem putH_ok {x : HoldM} {m : Nat} (h : OkH x (m + 1)) {v i : Nat} (hv : v < 72057594037927936) {s : List UInt8} {proof : List (List UInt8)} : OkH (putH x v i s proof).2 m := by
  have h0 := h.le (Nat.le_succ m)
  unfold putH
  cases hy : alook (v : Int) x.all with
  | none => exact h0
  | some y =>
  have hyo := h.held _ _ hy
  simp only
  cases hu : upR i y.man.blocks (leafL s) proof with
  | bad c => exact h0
  | ok r =>
  have hil := upR_lt hu
  simp only
  split
  · cases hb : alook (i : Int) y.blocks with
    | some p => exact h0
    | none =>
    simp only
    cases hs : slotF x y i with
    | none => exact h0
    | some n =>
    have hn := slotF_lt hyo h.slots hs
    have d1 := putSlotD_on x.j.disk n s
    simp only
    obtain ⟨g1, g2, g3, g4, g5, g6⟩ := h
    cases hp : (putSlotD x.j.disk n s).1 with
    | some c => exact ⟨by have := d1.log; simp only; omega, by have := d1.waits; simp only; omega, by simp only; omega, by simp only; omega, by simp only; rw [d1.slots]; exact g5, g6⟩
    | none =>
    simp only
    have j1 := putJ_on { x.j with disk := (putSlotD x.j.disk n s).2 } (blockRecL v i (n, leafL s))
    have hl := blockRecL_length (v := v) (i := i) (p := (n, leafL s)) hv (by omega) (by simp; omega) (by simp [leafL, shaL_length])
    have a1 := d1.log
    have a2 := d1.waits
    have a3 := d1.slots
    have b1 := j1.disk.log
    have b2 := j1.disk.waits
    have b3 := j1.disk.slots
    have b4 := j1.all
    have b5 := j1.bytes
    simp only at b1 b2 b3 b4 b5
    split
    · exact ⟨by simp only; omega, by simp only; omega, by simp only; omega, by simp only; omega, by simp only; omega, g6⟩
    · refine ⟨by simp only; omega, by simp only; omega, by simp only; omega, by simp only; omega, by simp only; omega, fun v2 y2 h2 => ?_⟩
      simp only [alook_aset] at h2
      split at h2
      · cases h2; exact hyo.puts hn
      · exact g6 _ _ h2
  · exact h0
end Go.Proofs.Tryz

