/- Part of a proof (its text Prim): what is proved stands in the text Card. -/
import Derived.Below
import Derived.Laws.BitsLemmas
import Derived.Laws.BitsAllLaws
import Derived.Laws.AppendOwn
import Derived.Laws.MakeOwn
import Derived.Laws.BytesString
import Derived.Laws.Strings2
import Derived.Laws.Concat
import Derived.Test.YtfefpbfnmfebgaaGreatDoorDr
set_option linter.all false
namespace Go.Lad
set_option autoImplicit false
open Go.RowKit (Below)

/-! words -/
abbrev ptr (b k : Nat) : Value := .pointer (some ⟨b, k, none⟩)
abbrev Str (l : List UInt8) : Value := .string ⟨⟨l⟩⟩
abbrev I (n : Int) : Value := .int .i64 n
abbrev B (b : Bool) : Value := .bool b

/-- a block -/
def gb (w : World) (b : Nat) : Option Obj := w.heap[b]?
def sz (w : World) : Nat := w.heap.size
def putB (w : World) (b : Nat) (o : Obj) : World := { w with heap := w.heap.setIfInBounds b o }

@[simp] theorem gb_drew (w : World) (b : Nat) : gb w.drew b = gb w b := rfl
@[simp] theorem sz_drew (w : World) : sz w.drew = sz w := rfl
@[simp] theorem sz_alloc (w : World) (o : Obj) : sz (w.alloc o) = sz w + 1 := by show (w.heap.push o).size = _; simp [sz]
@[simp] theorem sz_putB (w : World) (b : Nat) (o : Obj) : sz (putB w b o) = sz w := by simp [sz, putB]
theorem gb_alloc_new {w : World} {o : Obj} {b : Nat} (h : b = sz w) : gb (w.alloc o) b = some o := by subst h; show (w.heap.push o)[w.heap.size]? = _; simp
theorem gb_alloc_old {w : World} {o : Obj} {b : Nat} (h : b < sz w) : gb (w.alloc o) b = gb w b := by
  show (w.heap.push o)[b]? = _; unfold sz at h; rw [Array.getElem?_push, if_neg (by omega)]; rfl
theorem gb_putB_same {w : World} {o : Obj} {b : Nat} (h : b < sz w) : gb (putB w b o) b = some o := by
  simp only [gb, putB]; exact Array.getElem?_setIfInBounds_self_of_lt h
theorem gb_putB_ne {w : World} {o : Obj} {b b' : Nat} (h : b' ≠ b) : gb (putB w b o) b' = gb w b' := by
  simp only [gb, putB]; exact Array.getElem?_setIfInBounds_ne (fun e => h e.symm)
@[simp] theorem putB_putB (w : World) (b : Nat) (o o' : Obj) : putB (putB w b o) b o' = putB w b o' := by
  simp only [putB]; congr 1; apply Array.ext_getElem?; intro i; by_cases h : b = i <;> simp [Array.getElem?_setIfInBounds, h]
theorem lt_of_gb {w : World} {b : Nat} {o : Obj} (h : gb w b = some o) : b < sz w := (Array.getElem?_eq_some_iff.1 h).1

/-! the world moves on: what was there stands -/
structure Up (w w' : World) : Prop where
  os : w'.os = w.os
  tape : w'.tape = w.tape
  output : w'.output = w.output
  size : sz w ≤ sz w'
  keep : ∀ b, b < sz w → gb w' b = gb w b
theorem Up.refl (w : World) : Up w w := ⟨rfl, rfl, rfl, Nat.le_refl _, fun _ _ => rfl⟩
theorem Up.trans {a b c : World} (h : Up a b) (k : Up b c) : Up a c :=
  ⟨k.os.trans h.os, k.tape.trans h.tape, k.output.trans h.output, Nat.le_trans h.size k.size, fun i hi => (k.keep i (Nat.lt_of_lt_of_le hi h.size)).trans (h.keep i hi)⟩
theorem Up.drew {a w : World} (h : Up a w) : Up a w.drew := ⟨h.os, h.tape, h.output, h.size, h.keep⟩
theorem Up.alloc {a w : World} (h : Up a w) (o : Obj) : Up a (w.alloc o) :=
  h.trans ⟨rfl, rfl, rfl, by simp, fun _ hb => gb_alloc_old hb⟩
theorem Up.putB {a w : World} (h : Up a w) {b : Nat} (hb : sz a ≤ b) (o : Obj) : Up a (putB w b o) :=
  ⟨h.os, h.tape, h.output, by simpa using h.size, fun i hi => by rw [gb_putB_ne (by omega)]; exact h.keep i hi⟩
theorem Up.gb {w w' : World} (h : Up w w') {b : Nat} {o : Obj} (hb : gb w b = some o) : gb w' b = some o := by rw [h.keep b (lt_of_gb hb)]; exact hb
theorem Up.below {w w' : World} (h : Up w w') : Below w.heap.size w w' := ⟨h.os, h.tape, h.output, h.size, h.keep⟩
theorem ex_of_below {w w' : World} (h : Below w.heap.size w w') : Up w w' := ⟨h.os, h.tape, h.output, h.size, h.block⟩

/-! cells -/
theorem cell?_gb (w : World) (b k : Nat) : w.cell? ⟨b, k, none⟩ = match gb w b with | some (.cells c _ _) => c.toList[k]? | _ => none := by
  unfold World.cell? gb
  cases w.heap[b]? with
  | none => rfl
  | some o => cases o <;> simp
theorem frozen?_gb (w : World) (b k : Nat) : w.frozen? ⟨b, k, none⟩ = match gb w b with | some (.cells _ _ (lo, hi)) => decide (lo ≤ k ∧ k < hi) | _ => false := by
  unfold World.frozen? gb
  cases w.heap[b]? with
  | none => rfl
  | some o => cases o <;> simp
theorem setCell_gb {w : World} {b k : Nat} {v : Value} {c : Array Value} {t : TypeId} {fz : Nat × Nat} (h : gb w b = some (.cells c t fz)) :
    w.setCell ⟨b, k, none⟩ v = putB w b (.cells (c.toList.set k v).toArray t fz) := by
  unfold World.setCell putB gb at *
  congr 1
  apply Array.ext_getElem?
  intro i
  by_cases hi : b = i
  · subst hi
    have hlt : b < w.heap.size := (Array.getElem?_eq_some_iff.1 h).1
    rw [Array.getElem?_modify, if_pos rfl, h, Array.getElem?_setIfInBounds_self_of_lt hlt]
    have : c.setIfInBounds k v = (c.toList.set k v).toArray := by apply Array.toList_inj.1; simp
    simp [this]
  · rw [Array.getElem?_modify, if_neg hi, Array.getElem?_setIfInBounds_ne hi]

def LdB (o : Option Obj) (k : Nat) (K : Value → Prop) : Prop :=
  match o with
  | some (.cells c _ _) => (match c.toList[k]? with | some v => K v | none => False)
  | _ => False
theorem Ld_ptr (b k : Nat) (w : World) (K : Value → World → Prop) : Ld (.pointer (some ⟨b, k, none⟩)) w K = LdB (gb w b) k (fun v => K v w) := by
  unfold Ld LdB
  simp only [cell?_gb]
  cases gb w b with
  | none => rfl
  | some o => cases o <;> rfl
theorem LdB_cells (c : Array Value) (t : TypeId) (fz : Nat × Nat) (k : Nat) (K : Value → Prop) : LdB (some (.cells c t fz)) k K = (match c.toList[k]? with | some v => K v | none => False) := rfl

theorem cellsAt_gb {w : World} {b : Nat} {c : Array Value} {t : TypeId} {fz : Nat × Nat} (h : gb w b = some (.cells c t fz)) :
    ∀ (n k i : Nat), k + i + n ≤ c.toList.length → cellsAt w ⟨b, k, none⟩ i n = some ((c.toList.drop (k + i)).take n) := by
  intro n
  induction n with
  | zero => intro k i _; simp [cellsAt]
  | succ n ih =>
    intro k i hle
    have hlt : k + i < c.toList.length := by omega
    simp only [cellsAt]
    have e : (⟨b, k, none⟩ : Addr).add i = ⟨b, k + i, none⟩ := Addr.add_lit b k i
    rw [e, cell?_gb, h]
    simp only [List.getElem?_eq_getElem hlt]
    rw [ih k (i + 1) (by omega)]
    have e3 : k + (i + 1) = k + i + 1 := by omega
    rw [e3, List.drop_eq_getElem_cons hlt]
    rfl
def LdNB (o : Option Obj) (k n : Nat) (K : Value → Prop) : Prop :=
  match o with
  | some (.cells c _ _) => k + n ≤ c.toList.length ∧ K (.agg ((c.toList.drop k).take n).toArray)
  | _ => False
theorem LdN_ptr {b k n : Nat} {w : World} {K : Value → World → Prop} (h : LdNB (gb w b) k n (fun v => K v w)) : LdN (.pointer (some ⟨b, k, none⟩)) n w K := by
  unfold LdNB at h
  unfold LdN
  split at h
  · rename_i c t fz hb
    simp only [cellsAt_gb hb n k 0 (by omega)]
    exact h.2
  · exact h.elim

def StB (o : Option Obj) (k : Nat) (v : Value) (K : Obj → Prop) : Prop :=
  match o with
  | some (.cells c t (lo, hi)) => plainV v = true ∧ k < c.toList.length ∧ (hi ≤ lo) ∧ K (.cells (c.toList.set k v).toArray t (lo, hi))
  | _ => False
theorem St_ptr {b k : Nat} {v : Value} {w : World} {K : Value → World → Prop} (h : StB (gb w b) k v (fun o => K undef (putB w b o))) : St (.pointer (some ⟨b, k, none⟩)) v w K := by
  unfold StB at h
  unfold St
  split at h
  · rename_i c t lo hi hb
    obtain ⟨h1, h2, h3, hk⟩ := h
    refine ⟨h1, ?_, ?_, ?_⟩
    · rw [cell?_gb, hb]; simp only [List.getElem?_eq_getElem h2]; rfl
    · rw [frozen?_gb, hb]; simp; omega
    · rw [setCell_gb hb]; exact hk
  · exact h.elim

def setN (c : List Value) (k : Nat) : List Value → List Value
  | [] => c
  | v :: l => setN (c.set k v) (k + 1) l
theorem setN_length (c : List Value) (k : Nat) (l : List Value) : (setN c k l).length = c.length := by
  induction l generalizing c k with
  | nil => rfl
  | cons v l ih => simp [setN, ih]
def StNB (o : Option Obj) (k n : Nat) (l : List Value) (K : Obj → Prop) : Prop :=
  match o with
  | some (.cells c t (lo, hi)) => l.length = n ∧ l.all plainV = true ∧ k + n ≤ c.toList.length ∧ hi ≤ lo ∧ K (.cells (setN c.toList k l).toArray t (lo, hi))
  | _ => False
theorem putCells_gb {b : Nat} : ∀ (l : List Value) (w : World) (c : List Value) (t : TypeId) (lo hi k i : Nat), gb w b = some (.cells c.toArray t (lo, hi)) → hi ≤ lo → l.all plainV = true → k + i + l.length ≤ c.length →
    stOk w ⟨b, k, none⟩ i l ∧ putCells w ⟨b, k, none⟩ i l = putB w b (.cells (setN c (k + i) l).toArray t (lo, hi)) := by
  intro l
  induction l with
  | nil =>
    intro w c t lo hi k i hb _ _ _
    refine ⟨trivial, ?_⟩
    simp only [putCells, setN]
    have : w.heap = w.heap.setIfInBounds b (.cells c.toArray t (lo, hi)) := by
      apply Array.ext_getElem?
      intro j
      by_cases hj : b = j
      · subst hj
        rw [Array.getElem?_setIfInBounds_self_of_lt (lt_of_gb hb)]; exact hb
      · rw [Array.getElem?_setIfInBounds_ne hj]
    cases w
    simp only [putB] at *
    rw [← this]
  | cons v l ih =>
    intro w c t lo hi k i hb hf hp hle
    simp only [List.all_cons, Bool.and_eq_true, List.length_cons] at hp hle
    have e : (⟨b, k, none⟩ : Addr).add i = ⟨b, k + i, none⟩ := Addr.add_lit b k i
    have hset := setCell_gb (k := k + i) (v := v) hb
    have hlt : b < sz w := lt_of_gb hb
    have hb' : gb (w.setCell ⟨b, k + i, none⟩ v) b = some (.cells (c.set (k + i) v).toArray t (lo, hi)) := by
      rw [hset, gb_putB_same hlt]
    obtain ⟨h1, h2⟩ := ih (w.setCell ⟨b, k + i, none⟩ v) (c.set (k + i) v) t lo hi k (i + 1) hb' hf hp.2 (by simp; omega)
    simp only [stOk, putCells, e, setN]
    have e3 : k + (i + 1) = k + i + 1 := by omega
    rw [e3] at h2
    refine ⟨⟨hp.1, ?_, ?_, ?_⟩, ?_⟩
    · rw [cell?_gb, hb]; simp [List.getElem?_eq_getElem (show k + i < c.length by omega)]
    · rw [frozen?_gb, hb]; simp; omega
    · -- stOk does not hang on the stored values
      have keep : ∀ (l : List Value) (j : Nat), stOk (w.setCell ⟨b, k + i, none⟩ v) ⟨b, k, none⟩ j l → stOk w ⟨b, k, none⟩ j l := by
        intro l
        induction l with
        | nil => intro j _; trivial
        | cons u l ih =>
          intro j hj
          simp only [stOk] at hj ⊢
          have ej : (⟨b, k, none⟩ : Addr).add j = ⟨b, k + j, none⟩ := Addr.add_lit b k j
          rw [ej] at hj ⊢
          refine ⟨hj.1, ?_, by simpa using hj.2.2.1, ih _ hj.2.2.2⟩
          have := hj.2.1
          rw [cell?_gb, hb'] at this
          rw [cell?_gb, hb]
          simp only [List.getElem?_set] at this
          by_cases hij : k + i = k + j
          · rw [← hij]; simp [List.getElem?_eq_getElem (show k + i < c.length by omega)]
          · rw [if_neg hij] at this; simpa using this
      exact keep l (i + 1) h1
    · rw [h2, hset, putB_putB]
theorem StN_ptr {b k n : Nat} {l : List Value} {w : World} {K : Value → World → Prop} (h : StNB (gb w b) k n l (fun o => K undef (putB w b o))) : StN (.pointer (some ⟨b, k, none⟩)) (.agg l.toArray) n w K := by
  unfold StNB at h
  unfold StN
  split at h
  · rename_i c t lo hi hb
    obtain ⟨h1, h2, h3, h4, hk⟩ := h
    have := putCells_gb l w c.toList t lo hi k 0 (by simpa using hb) h4 h2 (by omega)
    refine ⟨h1, this.1, ?_⟩
    simp only
    rw [this.2]
    exact hk
  · exact h.elim

end Go.Lad

namespace Go.Lad
set_option autoImplicit false

/-! the continuation is left alone -/
section congr
variable {P : Program} {K : Value → World → Prop} {K1 : Value → Prop}
@[congr] theorem V_congr {s s' : Sem Value} {w w' : World} (hs : s = s') (hw : w = w') : V P s w K = V P s' w' K := by rw [hs, hw]
@[congr] theorem U_congr {s s' : Sem Unit} {w w' : World} (hs : s = s') (hw : w = w') : U P s w K = U P s' w' K := by rw [hs, hw]
@[congr] theorem CallF_congr {f : FuncId} {a a' : List Value} {w w' : World} (ha : a = a') (hw : w = w') : CallF P f a w K = CallF P f a' w' K := by rw [ha, hw]
@[congr] theorem CallV_congr {x x' : Value} {a a' : List Value} {w w' : World} (hx : x = x') (ha : a = a') (hw : w = w') : CallV P x a w K = CallV P x' a' w' K := by rw [hx, ha, hw]
@[congr] theorem CallI_congr {x x' : Value} {n : String} {a a' : List Value} {w w' : World} (hx : x = x') (ha : a = a') (hw : w = w') : CallI P x n a w K = CallI P x' n a' w' K := by rw [hx, ha, hw]
@[congr] theorem CallX_congr {f : FuncId} {a a' : List Value} {w w' : World} (ha : a = a') (hw : w = w') : CallX P f a w K = CallX P f a' w' K := by rw [ha, hw]
@[congr] theorem Pick_congr {c c' a a' b b' : Value} (hc : c = c') (ha : a = a') (hb : b = b') : Pick c a b K1 = Pick c' a' b' K1 := by rw [hc, ha, hb]
@[congr] theorem Ext_congr {x x' : Value} {i : Nat} (h : x = x') : Ext x i K1 = Ext x' i K1 := by rw [h]
@[congr] theorem NilCk_congr {x x' : Value} (h : x = x') : NilCk x K1 = NilCk x' K1 := by rw [h]
@[congr] theorem IfV_congr {x x' : Value} {A C : Prop} (h : x = x') : IfV x A C = IfV x' A C := by rw [h]
@[congr] theorem FA_congr {x x' : Value} {o : Nat} (h : x = x') : FA x o K1 = FA x' o K1 := by rw [h]
@[congr] theorem Ld_congr {x x' : Value} {w w' : World} (h : x = x') (hw : w = w') : Ld x w K = Ld x' w' K := by rw [h, hw]
@[congr] theorem LdN_congr {x x' : Value} {n : Nat} {w w' : World} (h : x = x') (hw : w = w') : LdN x n w K = LdN x' n w' K := by rw [h, hw]
@[congr] theorem LdB_congr {o o' : Option Obj} {k : Nat} (h : o = o') : LdB o k K1 = LdB o' k K1 := by rw [h]
@[congr] theorem St_congr {x x' v v' : Value} {w w' : World} (h : x = x') (hv : v = v') (hw : w = w') : St x v w K = St x' v' w' K := by rw [h, hv, hw]
@[congr] theorem StN_congr {x x' v v' : Value} {n : Nat} {w w' : World} (h : x = x') (hv : v = v') (hw : w = w') : StN x v n w K = StN x' v' n w' K := by rw [h, hv, hw]
@[congr] theorem New_congr {l l' : List Value} {t : TypeId} {w w' : World} (h : l = l') (hw : w = w') : New l t w K = New l' t w' K := by rw [h, hw]
@[congr] theorem IxS_congr {x x' i i' : Value} {n : Nat} (h : x = x') (hi : i = i') : IxS x i n K1 = IxS x' i' n K1 := by rw [h, hi]
@[congr] theorem IxA_congr {x x' i i' : Value} {l n : Nat} (h : x = x') (hi : i = i') : IxA x i l n K1 = IxA x' i' l n K1 := by rw [h, hi]
@[congr] theorem IxStr_congr {x x' i i' : Value} (h : x = x') (hi : i = i') : IxStr x i K1 = IxStr x' i' K1 := by rw [h, hi]
@[congr] theorem Bin_congr {op : BinOp} {k : IntKind} {x x' y y' : Value} (h : x = x') (hy : y = y') : Bin op k x y K1 = Bin op k x' y' K1 := by rw [h, hy]
@[congr] theorem Shf_congr {op : BinOp} {k : IntKind} {x x' y y' : Value} (h : x = x') (hy : y = y') : Shf op k x y K1 = Shf op k x' y' K1 := by rw [h, hy]
@[congr] theorem BinS_congr {op : BinOp} {x x' y y' : Value} (h : x = x') (hy : y = y') : BinS op x y K1 = BinS op x' y' K1 := by rw [h, hy]
@[congr] theorem EqNil_congr {k : KTy} {x x' : Value} (h : x = x') : EqNil k x K1 = EqNil k x' K1 := by rw [h]
@[congr] theorem NeNil_congr {k : KTy} {x x' : Value} (h : x = x') : NeNil k x K1 = NeNil k x' K1 := by rw [h]
@[congr] theorem NotV_congr {x x' : Value} (h : x = x') : NotV x K1 = NotV x' K1 := by rw [h]
@[congr] theorem LenS_congr {x x' : Value} (h : x = x') : LenS x K1 = LenS x' K1 := by rw [h]
@[congr] theorem LenL_congr {x x' : Value} (h : x = x') : LenL x K1 = LenL x' K1 := by rw [h]
@[congr] theorem LoopV_congr {live : List Nat} {x x' : List Value} {body : (List Value → World → Prop) → Tm → World → Prop} {w w' : World} (hx : x = x') (hw : w = w') : LoopV live x body w = LoopV live x' body w' := by rw [hx, hw]
end congr

/-! one step -/
section steps
variable {P : Program} {w : World} {K : Value → World → Prop} {K1 : Value → Prop} {A C : Prop}
@[simp] theorem Pick_true (a b : Value) : Pick (.bool true) a b K1 = K1 a := rfl
@[simp] theorem Pick_false (a b : Value) : Pick (.bool false) a b K1 = K1 b := rfl
@[simp] theorem IfV_true : IfV (.bool true) A C = A := rfl
@[simp] theorem IfV_false : IfV (.bool false) A C = C := rfl
theorem IfV_dec (p : Prop) [Decidable p] : IfV (.bool (decide p)) A C = if p then A else C := by by_cases h : p <;> simp [h, IfV]
theorem IfV_b (b : Bool) : IfV (.bool b) A C = if b = true then A else C := by cases b <;> simp [IfV]
@[simp] theorem NilCk_ptr (a : Addr) : NilCk (.pointer (some a)) K1 = K1 (.pointer (some a)) := rfl
@[simp] theorem NilCk_func (f : FuncId) (a b : Array Value) : NilCk (.func (.func f) a b) K1 = K1 (.func (.func f) a b) := rfl
@[simp] theorem FA_ptr (b k o : Nat) : FA (.pointer (some ⟨b, k, none⟩)) o K1 = K1 (.pointer (some ⟨b, k + o, none⟩)) := by unfold FA; simp only [Addr.add_lit]
@[simp] theorem Ext_0 (a : Value) (l : List Value) : Ext (.tuple (a :: l).toArray) 0 K1 = K1 a := rfl
@[simp] theorem Ext_1 (a b : Value) (l : List Value) : Ext (.tuple (a :: b :: l).toArray) 1 K1 = K1 b := rfl
@[simp] theorem Ext_2 (a b c : Value) (l : List Value) : Ext (.tuple (a :: b :: c :: l).toArray) 2 K1 = K1 c := rfl
@[simp] theorem EqNil_i0 : EqNil .iface .nilIface K1 = K1 (.bool true) := rfl
@[simp] theorem EqNil_i1 (t : TypeId) (v : Value) : EqNil .iface (.iface t v) K1 = K1 (.bool false) := rfl
@[simp] theorem EqNil_p0 : EqNil .ptr (.pointer none) K1 = K1 (.bool true) := rfl
@[simp] theorem EqNil_p1 (a : Addr) : EqNil .ptr (.pointer (some a)) K1 = K1 (.bool false) := rfl
@[simp] theorem EqNil_f0 : EqNil .func .nilFunc K1 = K1 (.bool true) := rfl
@[simp] theorem EqNil_f1 (f : Fn) (a b : Array Value) : EqNil .func (.func f a b) K1 = K1 (.bool false) := rfl
@[simp] theorem NeNil_i0 : NeNil .iface .nilIface K1 = K1 (.bool false) := rfl
@[simp] theorem NeNil_i1 (t : TypeId) (v : Value) : NeNil .iface (.iface t v) K1 = K1 (.bool true) := rfl
@[simp] theorem NeNil_p0 : NeNil .ptr (.pointer none) K1 = K1 (.bool false) := rfl
@[simp] theorem NeNil_p1 (a : Addr) : NeNil .ptr (.pointer (some a)) K1 = K1 (.bool true) := rfl
@[simp] theorem NotV_b (b : Bool) : NotV (.bool b) K1 = K1 (.bool !b) := rfl
@[simp] theorem LenS_s (s : ByteArray) : LenS (.string s) K1 = K1 (.int .i64 s.size) := rfl
@[simp] theorem LenL_s (a : Option Addr) (n c : Nat) : LenL (.slice a n c) K1 = K1 (.int .i64 n) := rfl
section bin
variable (k : IntKind) (a b : Int)
@[simp] theorem Bin_add : Bin .add k (.int k a) (.int k b) K1 = K1 (.int k (k.wrap (a + b))) := by simp [Bin]
@[simp] theorem Bin_sub : Bin .sub k (.int k a) (.int k b) K1 = K1 (.int k (k.wrap (a - b))) := by simp [Bin]
@[simp] theorem Bin_mul : Bin .mul k (.int k a) (.int k b) K1 = K1 (.int k (k.wrap (a * b))) := by simp [Bin]
@[simp] theorem Bin_eql : Bin .eql k (.int k a) (.int k b) K1 = K1 (.bool (decide (a = b))) := by simp [Bin]; rfl
@[simp] theorem Bin_neq : Bin .neq k (.int k a) (.int k b) K1 = K1 (.bool (decide (a ≠ b))) := by
  simp only [Bin, true_and]; have : (a != b) = decide (a ≠ b) := by by_cases h : a = b <;> simp [h]
  rw [this]
@[simp] theorem Bin_lss : Bin .lss k (.int k a) (.int k b) K1 = K1 (.bool (decide (a < b))) := by simp [Bin]
@[simp] theorem Bin_leq : Bin .leq k (.int k a) (.int k b) K1 = K1 (.bool (decide (a ≤ b))) := by simp [Bin]
@[simp] theorem Bin_gtr : Bin .gtr k (.int k a) (.int k b) K1 = K1 (.bool (decide (b < a))) := by simp [Bin]
@[simp] theorem Bin_geq : Bin .geq k (.int k a) (.int k b) K1 = K1 (.bool (decide (b ≤ a))) := by simp [Bin]
theorem Bin_quo (h : b ≠ 0) : Bin .quo k (.int k a) (.int k b) K1 = K1 (.int k (k.wrap (a.tdiv b))) := by simp [Bin, h]
theorem Bin_rem (h : b ≠ 0) : Bin .rem k (.int k a) (.int k b) K1 = K1 (.int k (a.tmod b)) := by simp [Bin, h]
end bin
@[simp] theorem Ld_ptr' (b k : Nat) : Ld (.pointer (some ⟨b, k, none⟩)) w K = LdB (gb w b) k (fun v => K v w) := Ld_ptr b k w K
@[simp] theorem LdB_cells' (c : Array Value) (t : TypeId) (fz : Nat × Nat) (k : Nat) : LdB (some (.cells c t fz)) k K1 = (match c.toList[k]? with | some v => K1 v | none => False) := rfl
theorem wrap64 {x : Int} (h : -9223372036854775808 ≤ x ∧ x ≤ 9223372036854775807) : IntKind.i64.wrap x = x := by
  rw [IntKind.wrap_i64]; omega
@[simp] theorem upd_app (T : Tm) (k : Nat) (v : Value) (i : Nat) : upd T k v i = if i = k then v else T i := by
  unfold upd
  by_cases h : i = k
  · subst h; simp [Nat.beq_refl]
  · simp [h, nat_beq_ne h]
@[simp] theorem argT_cons_zero (a : Value) (l : List Value) : argT (a :: l) 0 = a := rfl
@[simp] theorem argT_cons_succ (a : Value) (l : List Value) (n : Nat) : argT (a :: l) (n + 1) = argT l n := rfl
@[simp] theorem IfV_bool (b : Bool) : IfV (.bool b) A C = if b = true then A else C := by cases b <;> simp [IfV]
theorem LoopV_of {live : List Nat} {x : List Value} {body : (List Value → World → Prop) → Tm → World → Prop} (I : List Value → World → Prop) (μ : List Value → World → Nat) (h0 : I x w)
    (h : ∀ (k : List Value → World → Prop) (T : Tm) (w : World), I (temps T live) w → (∀ y w', I y w' → μ y w' < μ (temps T live) w → k y w') → body k T w) : LoopV live x body w :=
  ⟨I, μ, h0, fun T w hi => h _ T w hi fun _ _ h1 h2 => ⟨h1, h2⟩⟩

/-! numbers of int -/
section i64
theorem i64_nat (n : Nat) (h : n < 9223372036854775808) : IntKind.i64.wrap (n : Int) = n := wrap64 (by omega)
theorem ofInt_i64 (a : Nat) (ha : a < 9223372036854775808) : (BitVec.ofInt 64 (a : Int)).toNat = a := by
  simp only [BitVec.toNat_ofInt]; norm_cast; exact Nat.mod_eq_of_lt (by omega)
theorem Bin_and_nat (a b : Nat) (ha : a < 9223372036854775808) (hb : b < 9223372036854775808) :
    Bin .and .i64 (.int .i64 (a : Int)) (.int .i64 (b : Int)) K1 = K1 (.int .i64 ((a &&& b : Nat) : Int)) := by
  have h : a &&& b < 9223372036854775808 := Nat.lt_of_le_of_lt Nat.and_le_left ha
  simp only [Bin, true_and]
  show K1 (.int .i64 (IntKind.i64.wrap ((BitVec.ofInt 64 (a : Int) &&& BitVec.ofInt 64 (b : Int)).toNat : Int))) = _
  rw [BitVec.toNat_and, ofInt_i64 a ha, ofInt_i64 b hb, i64_nat _ h]
theorem Bin_or_nat (a b : Nat) (ha : a < 9223372036854775808) (hb : b < 9223372036854775808) :
    Bin .or .i64 (.int .i64 (a : Int)) (.int .i64 (b : Int)) K1 = K1 (.int .i64 ((a ||| b : Nat) : Int)) := by
  have h : a ||| b < 2 ^ 63 := Nat.or_lt_two_pow ha hb
  simp only [Bin, true_and]
  show K1 (.int .i64 (IntKind.i64.wrap ((BitVec.ofInt 64 (a : Int) ||| BitVec.ofInt 64 (b : Int)).toNat : Int))) = _
  rw [BitVec.toNat_or, ofInt_i64 a ha, ofInt_i64 b hb, i64_nat _ h]
theorem Shf_shl_nat (a b : Nat) (k : IntKind) (hb : b ≤ 63) (h : a * 2 ^ b < 9223372036854775808) :
    Shf .shl .i64 (.int .i64 (a : Int)) (.int k (b : Int)) K1 = K1 (.int .i64 ((a * 2 ^ b : Nat) : Int)) := by
  have e : min ((b : Int).toNat) 64 = b := by omega
  have hb0 : (0 : Int) ≤ b := by omega
  simp only [Shf, true_and, IntKind.bits, e, hb0]
  have : ((a : Int) * 2 ^ b) = ((a * 2 ^ b : Nat) : Int) := by norm_cast
  rw [this, i64_nat _ h]
theorem Shf_shr_nat (a b : Nat) (k : IntKind) (hb : b ≤ 64) :
    Shf .shr .i64 (.int .i64 (a : Int)) (.int k (b : Int)) K1 = K1 (.int .i64 ((a / 2 ^ b : Nat) : Int)) := by
  have e : min ((b : Int).toNat) 64 = b := by omega
  have hb0 : (0 : Int) ≤ b := by omega
  simp only [Shf, true_and, IntKind.bits, e, hb0]
  have : Int.fdiv (a : Int) (2 ^ b) = ((a / 2 ^ b : Nat) : Int) := by
    have h2 : ((2 : Int) ^ b) = ((2 ^ b : Nat) : Int) := by norm_cast
    rw [h2, Int.fdiv_eq_ediv_of_nonneg _ (Int.natCast_nonneg _)]; norm_cast
  rw [this]
end i64

/-! natural numbers of int, by a name of their own (so that simp leaves the casts alone) -/
section N
theorem i64_wrapN (n : Nat) (h : n < 9223372036854775808) : IntKind.i64.wrap (n : Int) = n := i64_nat n h
end N
end steps
/-- a natural number -/
def N (n : Nat) : Value := .int .i64 (n : Int)
def natOf : Value → Nat
  | .int _ m => m.toNat
  | _ => 0
@[simp] theorem N_inj (a b : Nat) : (N a = N b) = (a = b) := by unfold N; simp; omega
@[simp] theorem natOf_N (n : Nat) : natOf (N n) = n := by simp [natOf, N]
/-- a count of places -/
def Q (n : Nat) : Value := .int .u64 (n : Int)
section N
variable {P : Program} {w : World} {K : Value → World → Prop} {K1 : Value → Prop} {A C : Prop}
@[simp] theorem N_cast (n : Nat) : Value.int .i64 (n : Int) = N n := rfl
@[simp] theorem Bin_add_N (a b : Nat) (h : a + b < 9223372036854775808) : Bin .add .i64 (N a) (N b) K1 = K1 (N (a + b)) := by
  unfold N; rw [Bin_add]; rw [wrap64 (by omega)]; norm_cast
@[simp] theorem Bin_sub_N (a b : Nat) (h : b ≤ a ∧ a < 9223372036854775808) : Bin .sub .i64 (N a) (N b) K1 = K1 (N (a - b)) := by
  unfold N; rw [Bin_sub]; rw [wrap64 (by omega)]; rw [show (a : Int) - b = ((a - b : Nat) : Int) by omega]
@[simp] theorem Bin_mul_N (a b : Nat) (h : a * b < 9223372036854775808) : Bin .mul .i64 (N a) (N b) K1 = K1 (N (a * b)) := by
  unfold N; rw [Bin_mul]; rw [show (a : Int) * b = ((a * b : Nat) : Int) by norm_cast, i64_nat _ h]
@[simp] theorem Bin_eql_N (a b : Nat) : Bin .eql .i64 (N a) (N b) K1 = K1 (B (decide (a = b))) := by
  unfold N; rw [Bin_eql, show decide ((a : Int) = b) = decide (a = b) from decide_eq_decide.2 (by omega)]
@[simp] theorem Bin_neq_N (a b : Nat) : Bin .neq .i64 (N a) (N b) K1 = K1 (B (!decide (a = b))) := by
  unfold N; rw [Bin_neq, show decide ((a : Int) ≠ b) = !decide (a = b) by by_cases h : a = b <;> simp [h] <;> omega]
@[simp] theorem Bin_lss_N (a b : Nat) : Bin .lss .i64 (N a) (N b) K1 = K1 (B (decide (a < b))) := by
  unfold N; rw [Bin_lss]; simp
@[simp] theorem Bin_leq_N (a b : Nat) : Bin .leq .i64 (N a) (N b) K1 = K1 (B (decide (a ≤ b))) := by
  unfold N; rw [Bin_leq]; simp
@[simp] theorem Bin_gtr_N (a b : Nat) : Bin .gtr .i64 (N a) (N b) K1 = K1 (B (decide (b < a))) := by
  unfold N; rw [Bin_gtr]; simp
@[simp] theorem Bin_geq_N (a b : Nat) : Bin .geq .i64 (N a) (N b) K1 = K1 (B (decide (b ≤ a))) := by
  unfold N; rw [Bin_geq]; simp
@[simp] theorem Bin_quo_N (a b : Nat) (h : 0 < b ∧ a < 9223372036854775808) : Bin .quo .i64 (N a) (N b) K1 = K1 (N (a / b)) := by
  have h2 : a / b ≤ a := Nat.div_le_self ..
  unfold N; rw [Bin_quo _ _ _ (by omega)]; rw [show Int.tdiv (a : Int) b = ((a / b : Nat) : Int) from rfl, i64_nat _ (by omega)]
@[simp] theorem Bin_rem_N (a b : Nat) (h : 0 < b) : Bin .rem .i64 (N a) (N b) K1 = K1 (N (a % b)) := by
  unfold N; rw [Bin_rem _ _ _ (by omega)]; rfl
@[simp] theorem Bin_and_N (a b : Nat) (h : a < 9223372036854775808 ∧ b < 9223372036854775808) : Bin .and .i64 (N a) (N b) K1 = K1 (N (a &&& b)) := Bin_and_nat a b h.1 h.2
@[simp] theorem Bin_or_N (a b : Nat) (h : a < 9223372036854775808 ∧ b < 9223372036854775808) : Bin .or .i64 (N a) (N b) K1 = K1 (N (a ||| b)) := Bin_or_nat a b h.1 h.2
@[simp] theorem Shf_shl_N (a b : Nat) (h : b ≤ 63 ∧ a * 2 ^ b < 9223372036854775808) : Shf .shl .i64 (N a) (N b) K1 = K1 (N (a * 2 ^ b)) := Shf_shl_nat a b _ h.1 h.2
@[simp] theorem Shf_shr_N (a b : Nat) (h : b ≤ 64) : Shf .shr .i64 (N a) (N b) K1 = K1 (N (a / 2 ^ b)) := Shf_shr_nat a b _ h
@[simp] theorem Shf_shl_lit (a b : Nat) (h : b ≤ 63 ∧ a * 2 ^ b < 9223372036854775808) : Shf .shl .i64 (N a) (Q b) K1 = K1 (N (a * 2 ^ b)) := Shf_shl_nat a b _ h.1 h.2
@[simp] theorem Shf_shr_lit (a b : Nat) (h : b ≤ 64) : Shf .shr .i64 (N a) (Q b) K1 = K1 (N (a / 2 ^ b)) := Shf_shr_nat a b _ h
@[simp high] theorem LenL_N (a : Option Addr) (n c : Nat) : LenL (.slice a n c) K1 = K1 (N n) := rfl
end N
/-- a byte -/
def Y (b : UInt8) : Value := .int .u8 (b.toNat : Int)
section Y
variable {P : Program} {w : World} {K : Value → World → Prop} {K1 : Value → Prop} {A C : Prop}
@[simp] theorem Y_cast (b : UInt8) : Value.int .u8 (b.toNat : Int) = Y b := rfl
@[simp] theorem Bin_and_Y (a b : UInt8) : Bin .and .u8 (Y a) (Y b) K1 = K1 (Y (a &&& b)) := by
  have := u8_and_nat a.toNat b.toNat a.toNat_lt b.toNat_lt
  unfold Y Bin; simp only [true_and]
  exact congrArg (fun n => K1 (.int .u8 n)) (this.trans (by simp))
@[simp] theorem Bin_or_Y (a b : UInt8) : Bin .or .u8 (Y a) (Y b) K1 = K1 (Y (a ||| b)) := by
  have := u8_or_nat a.toNat b.toNat a.toNat_lt b.toNat_lt
  unfold Y Bin; simp only [true_and]
  exact congrArg (fun n => K1 (.int .u8 n)) (this.trans (by simp))
@[simp] theorem Bin_xor_Y (a b : UInt8) : Bin .xor .u8 (Y a) (Y b) K1 = K1 (Y (a ^^^ b)) := by
  have := u8_xor_nat a.toNat b.toNat a.toNat_lt b.toNat_lt
  unfold Y Bin; simp only [true_and]
  exact congrArg (fun n => K1 (.int .u8 n)) (this.trans (by simp))
@[simp] theorem Bin_geq_Y (a b : UInt8) : Bin .geq .u8 (Y a) (Y b) K1 = K1 (B (decide (b.toNat ≤ a.toNat))) := by unfold Y; rw [Bin_geq]; simp
@[simp] theorem Bin_eql_Y (a b : UInt8) : Bin .eql .u8 (Y a) (Y b) K1 = K1 (B (decide (a = b))) := by
  unfold Y; rw [Bin_eql, show decide ((a.toNat : Int) = b.toNat) = decide (a = b) from decide_eq_decide.2 (by rw [← UInt8.toNat_inj]; omega)]
/-- a word of 32 bits -/
def W (b : UInt32) : Value := .int .u32 (b.toNat : Int)
@[simp] theorem W_cast (b : UInt32) : Value.int .u32 (b.toNat : Int) = W b := rfl
@[simp] theorem Bin_and_W (a b : UInt32) : Bin .and .u32 (W a) (W b) K1 = K1 (W (a &&& b)) := by
  have := u32_and_nat a.toNat b.toNat a.toNat_lt b.toNat_lt
  unfold W Bin; simp only [true_and]
  exact congrArg (fun n => K1 (.int .u32 n)) (this.trans (by simp))
@[simp] theorem Bin_or_W (a b : UInt32) : Bin .or .u32 (W a) (W b) K1 = K1 (W (a ||| b)) := by
  have := u32_or_nat a.toNat b.toNat a.toNat_lt b.toNat_lt
  unfold W Bin; simp only [true_and]
  exact congrArg (fun n => K1 (.int .u32 n)) (this.trans (by simp))
@[simp] theorem Bin_xor_W (a b : UInt32) : Bin .xor .u32 (W a) (W b) K1 = K1 (W (a ^^^ b)) := by
  have := u32_xor_nat a.toNat b.toNat a.toNat_lt b.toNat_lt
  unfold W Bin; simp only [true_and]
  exact congrArg (fun n => K1 (.int .u32 n)) (this.trans (by simp))
@[simp] theorem Bin_add_W (a b : UInt32) : Bin .add .u32 (W a) (W b) K1 = K1 (W (a + b)) := by
  unfold W; rw [Bin_add]; congr 2
@[simp] theorem Bin_eql_W (a b : UInt32) : Bin .eql .u32 (W a) (W b) K1 = K1 (B (decide (a = b))) := by
  unfold W; rw [Bin_eql, show decide ((a.toNat : Int) = b.toNat) = decide (a = b) from decide_eq_decide.2 (by rw [← UInt32.toNat_inj]; omega)]
theorem Shf_shr_W (a : UInt32) (k : IntKind) (b : Nat) (hb : b < 32) : Shf .shr .u32 (W a) (.int k (b : Int)) K1 = K1 (W (a >>> UInt32.ofNat b)) := by
  have e : min ((b : Int).toNat) 32 = b := by omega
  have hb0 : (0 : Int) ≤ b := by omega
  unfold W
  simp only [Shf, true_and, IntKind.bits, e, hb0]
  congr 2
  have h2 : ((2 : Int) ^ b) = ((2 ^ b : Nat) : Int) := by norm_cast
  rw [h2, Int.fdiv_eq_ediv_of_nonneg _ (Int.natCast_nonneg _)]
  rw [UInt32.toNat_shiftRight, UInt32.toNat_ofNat']
  rw [Nat.mod_eq_of_lt (show b % 2 ^ 32 < 32 by omega), Nat.mod_eq_of_lt (show b < 2 ^ 32 by omega), Nat.shiftRight_eq_div_pow]
  norm_cast
theorem Shf_shl_W (a : UInt32) (k : IntKind) (b : Nat) (hb : b < 32) : Shf .shl .u32 (W a) (.int k (b : Int)) K1 = K1 (W (a <<< UInt32.ofNat b)) := by
  have e : min ((b : Int).toNat) 32 = b := by omega
  have hb0 : (0 : Int) ≤ b := by omega
  have key : IntKind.u32.wrap ((a.toNat : Int) * 2 ^ b) = ((a <<< UInt32.ofNat b).toNat : Int) := by
    rw [IntKind.wrap_u32, UInt32.toNat_shiftLeft, UInt32.toNat_ofNat']
    rw [Nat.mod_eq_of_lt (show b % 2 ^ 32 < 32 by omega), Nat.mod_eq_of_lt (show b < 2 ^ 32 by omega), Nat.shiftLeft_eq]
    have h3 : ((a.toNat : Int) * 2 ^ b) = ((a.toNat * 2 ^ b : Nat) : Int) := by norm_cast
    rw [h3]
    exact (Int.natCast_emod _ _).symm
  have : Shf .shl .u32 (W a) (.int k (b : Int)) K1 = (IntKind.u32 = IntKind.u32 ∧ (0 : Int) ≤ b ∧ K1 (.int .u32 (IntKind.u32.wrap ((a.toNat : Int) * 2 ^ (min ((b : Int).toNat) 32))))) := rfl
  rw [this, e, key]
  simp only [true_and, hb0]
  rfl
@[simp] theorem Shf_shr_Wlit (a : UInt32) (b : Nat) (hb : b < 32) : Shf .shr .u32 (W a) (Q b) K1 = K1 (W (a >>> UInt32.ofNat b)) := Shf_shr_W a .u64 b hb
@[simp] theorem Shf_shl_Wlit (a : UInt32) (b : Nat) (hb : b < 32) : Shf .shl .u32 (W a) (Q b) K1 = K1 (W (a <<< UInt32.ofNat b)) := Shf_shl_W a .u64 b hb
@[simp] theorem Shf_shr_WN (a : UInt32) (b : Nat) (hb : b < 32) : Shf .shr .u32 (W a) (N b) K1 = K1 (W (a >>> UInt32.ofNat b)) := Shf_shr_W a .i64 b hb
@[simp] theorem Shf_shl_WN (a : UInt32) (b : Nat) (hb : b < 32) : Shf .shl .u32 (W a) (N b) K1 = K1 (W (a <<< UInt32.ofNat b)) := Shf_shl_W a .i64 b hb
end Y
end Go.Lad

namespace Go.Lad
set_option autoImplicit false
set_option linter.unusedSimpArgs false
section
variable {P : Program} {w : World} {K : Value → World → Prop} {K1 : Value → Prop}

theorem V_of {s : Sem Value} {v : Value} {w' : World} (h : s.run P w = .ok v w') (k : K v w') : V P s w K := by unfold V; rw [h]; exact k
theorem V_eq {s : Sem Value} {v : Value} {w' : World} (h : s.run P w = .ok v w') : V P s w K = K v w' := by unfold V; rw [h]

/-! strings -/
theorem size_mk (l : List UInt8) : (⟨⟨l⟩⟩ : ByteArray).size = l.length := rfl
@[simp high] theorem LenS_Str (l : List UInt8) : LenS (.string ⟨⟨l⟩⟩) K1 = K1 (N l.length) := rfl
/-- a string's byte -/
def bat (l : List UInt8) (i : Nat) : UInt8 := l.getD i 0
@[simp] theorem IxStr_N (l : List UInt8) (i : Nat) (h : i < l.length) : IxStr (.string ⟨⟨l⟩⟩) (N i) K1 = K1 (Y (bat l i)) := by
  unfold N Y bat
  have h1 : ((i : Int) < ((⟨⟨l⟩⟩ : ByteArray).size : Int)) := by rw [size_mk]; omega
  simp only [IxStr, Int.toNat_natCast, h1, true_and, Int.natCast_nonneg]
theorem BinS_add (a b : List UInt8) (h : a.length + b.length ≤ 9223372036854775807) : BinS .add (.string ⟨⟨a⟩⟩) (.string ⟨⟨b⟩⟩) K1 = K1 (Str (a ++ b)) := by
  have h1 : (((⟨⟨a⟩⟩ : ByteArray).size + (⟨⟨b⟩⟩ : ByteArray).size : Nat) : Int) ≤ 9223372036854775807 := by simp only [size_mk]; omega
  simp only [BinS, h1, true_and]
  have := ByteArray.mk_append_mk a b
  show K1 (.string (ByteArray.mk a.toArray ++ ByteArray.mk b.toArray)) = _
  rw [this]
theorem toList_mk (l : List UInt8) : (⟨⟨l⟩⟩ : ByteArray).toList = l := by rw [ByteArray.toList_eq]
@[simp] theorem BinS_eql (a b : List UInt8) : BinS .eql (.string ⟨⟨a⟩⟩) (.string ⟨⟨b⟩⟩) K1 = K1 (B (decide (a = b))) := by
  simp only [BinS, toList_mk]; have : (a == b) = decide (a = b) := by by_cases h : a = b <;> simp [h]
  rw [this]
@[simp] theorem BinS_neq (a b : List UInt8) : BinS .neq (.string ⟨⟨a⟩⟩) (.string ⟨⟨b⟩⟩) K1 = K1 (B (decide (a ≠ b))) := by
  simp only [BinS, toList_mk]; congr 2; by_cases h : a = b <;> simp [h]

/-! conversions of numbers -/
theorem V_conv {src dst : TypeId} {k j : IntKind} {n : Int} (hs : (P.underlying src).isSome = true) (hd : P.underlying dst = some (.int k)) :
    V P (convert src dst (.int j n)) w K = K (.int k (k.wrap n)) w := by
  obtain ⟨d, hs⟩ := Option.isSome_iff_exists.1 hs
  apply V_eq
  simp [convert, run_underlying hs, run_underlying hd, Conv.intToInt]

/-! slices that are read -/
def RdC (w : World) (b k : Nat) (cs : List Value) : Prop := ∃ c t fz, gb w b = some (.cells c t fz) ∧ (c.toList.drop k).take cs.length = cs
theorem RdC.get {b k : Nat} {cs : List Value} (h : RdC w b k cs) (j : Nat) (hj : j < cs.length) : w.cell? ⟨b, k + j, none⟩ = some cs[j] := by
  obtain ⟨c, t, fz, h, e⟩ := h
  rw [cell?_gb, h]
  have this : cs[j]? = some cs[j] := List.getElem?_eq_getElem hj
  generalize cs[j] = x at this ⊢
  rw [← e, List.getElem?_take, if_pos hj, List.getElem?_drop] at this
  exact this
theorem RdC.up {w w' : World} {b k : Nat} {cs : List Value} (h : RdC w b k cs) (u : gb w' b = gb w b) : RdC w' b k cs := by
  obtain ⟨c, t, fz, h, e⟩ := h
  exact ⟨c, t, fz, by rw [u]; exact h, e⟩
theorem RdC.lt {b k : Nat} {cs : List Value} (h : RdC w b k cs) : b < sz w := by
  obtain ⟨c, t, fz, h, e⟩ := h
  exact lt_of_gb h
theorem RdC.ld {b k : Nat} {cs : List Value} (h : RdC w b k cs) {j : Nat} {x : Value} (hx : cs[j]? = some x) : Ld (.pointer (some ⟨b, k + j, none⟩)) w K = K x w := by
  obtain ⟨hj, e⟩ := List.getElem?_eq_some_iff.1 hx
  unfold Ld
  simp only [h.get j hj, e]
theorem RdC.ldN {b k : Nat} {cs : List Value} (h : RdC w b k cs) {j m : Nat} (hm : 0 < m) (hj : j + m ≤ cs.length) (hk : K (.agg ((cs.drop j).take m).toArray) w) :
    LdN (.pointer (some ⟨b, k + j, none⟩)) m w K := by
  obtain ⟨c, t, fz, h, e⟩ := h
  apply LdN_ptr
  rw [h]
  have hl : ((c.toList.drop k).take cs.length).length = cs.length := by rw [e]
  simp only [List.length_take, List.length_drop] at hl
  refine ⟨by omega, ?_⟩
  have : ((c.toList.drop (k + j)).take m) = (cs.drop j).take m := by
    rw [← e, List.drop_take, List.take_take, List.drop_drop]
    congr 1; omega
  rw [this]; exact hk

/-- a slice, elements of m cells, that reads so -/
inductive Sl (w : World) (m : Nat) : Value → Nat → List Value → Prop
  | nil : Sl w m (.slice none 0 0) 0 []
  | at (b k n cap : Nat) (cs : List Value) (h : RdC w b k cs) (hn : cs.length = n * m) (hc : n ≤ cap) : Sl w m (.slice (some ⟨b, k, none⟩) n cap) n cs
theorem Sl.len {m n : Nat} {v : Value} {cs : List Value} (h : Sl w m v n cs) : cs.length = n * m := by cases h with | nil => simp | «at» => assumption
theorem Sl.lenL {m n : Nat} {v : Value} {cs : List Value} (h : Sl w m v n cs) : LenL v K1 = K1 (N n) := by cases h <;> rfl
def sliceLen : Value → Nat
  | .slice _ n _ => n
  | _ => 0
theorem Sl.slen {m n : Nat} {v : Value} {cs : List Value} (h : Sl w m v n cs) : sliceLen v = n := by cases h <;> rfl
/-- where it lies -/
def InSl (v : Value) (b : Nat) : Prop := v.ownBlock = some b
theorem Sl.up {w w' : World} {m n : Nat} {v : Value} {cs : List Value} (h : Sl w m v n cs) (u : ∀ b, b < sz w → InSl v b → gb w' b = gb w b) : Sl w' m v n cs := by
  cases h with
  | nil => exact .nil
  | «at» b k n cap cs h hn hc => exact .at b k n cap cs (h.up (u b h.lt rfl)) hn hc
theorem Sl.Up {w w' : World} {m n : Nat} {v : Value} {cs : List Value} (h : Sl w m v n cs) (u : Up w w') : Sl w' m v n cs := h.up fun b hb _ => u.keep b hb
theorem Sl.lt {m n : Nat} {v : Value} {cs : List Value} (h : Sl w m v n cs) {b : Nat} (hb : InSl v b) : b < sz w := by
  cases h with
  | nil => cases hb
  | «at» b' k n cap cs h hn hc => cases hb; exact h.lt
/-- an index, and what is read there -/
theorem Sl.ix {m n : Nat} {v : Value} {cs : List Value} (h : Sl w m v n cs) {i : Nat} (hi : i < n) :
    ∃ b k, RdC w b k cs ∧ ∀ K1, IxS v (N i) m K1 = K1 (.pointer (some ⟨b, k + i * m, none⟩)) := by
  cases h with
  | nil => omega
  | «at» b k n cap cs h hn hc =>
    refine ⟨b, k, h, fun K1 => ?_⟩
    have : ((i : Int) < (n : Int)) := by omega
    unfold N
    simp only [IxS, Int.natCast_nonneg, true_and, this, Int.toNat_natCast, Addr.add_lit]
theorem Sl.ix1 {n : Nat} {v : Value} {cs : List Value} (h : Sl w 1 v n cs) {i : Nat} {x : Value} (hx : cs[i]? = some x) {K2 : Value → Value → World → Prop}
    (hk : ∀ p, K2 p x w) : IxS v (N i) 1 (fun p => Ld p w (K2 p)) := by
  have hl := h.len
  obtain ⟨hi, _⟩ := List.getElem?_eq_some_iff.1 hx
  obtain ⟨b, k, hr, e⟩ := h.ix (show i < n by omega)
  rw [e]
  have := hr.ld (K := K2 (.pointer (some ⟨b, k + i * 1, none⟩))) hx
  rw [Nat.mul_one] at *
  rw [this]; exact hk _
theorem Sl.ixN {m n : Nat} {v : Value} {cs : List Value} (h : Sl w m v n cs) (hm : 0 < m) {i : Nat} (hi : i < n) {K2 : Value → Value → World → Prop}
    (hk : ∀ p, K2 p (.agg ((cs.drop (i * m)).take m).toArray) w) : IxS v (N i) m (fun p => LdN p m w (K2 p)) := by
  have hl := h.len
  obtain ⟨b, k, hr, e⟩ := h.ix hi
  rw [e]
  refine hr.ldN hm ?_ (hk _)
  rw [hl, ← Nat.succ_mul]
  exact Nat.mul_le_mul_right _ hi

/-! slices that grow -/
structure SlT (P : Program) (t e : TypeId) (m bytes : Nat) (z : List Value) : Prop where
  u : P.underlying t = some (.slice e)
  i : (P.info? e).map (fun i => (i.size, i.bytes, i.zero.map (fun v => v.cells.toList))) = some (m, bytes, some z)
  zl : z.length = m
  pos : 0 < m
theorem SlT.ex {t e : TypeId} {m bytes : Nat} {z : List Value} (h : SlT P t e m bytes z) : ∃ i zv, P.info? e = some i ∧ i.zero = some zv ∧ i.size = m ∧ i.bytes = bytes ∧ zv.cells = z.toArray := by
  have hi := h.i
  cases hp : P.info? e with
  | none => rw [hp] at hi; cases hi
  | some i =>
    rw [hp] at hi
    simp only [Option.map_some, Option.some.injEq, Prod.mk.injEq, Option.map_eq_some_iff] at hi
    obtain ⟨h1, h2, zv, h3, h4⟩ := hi
    exact ⟨i, zv, rfl, h3, h1, h2, by rw [← h4]⟩

abbrev Own (w : World) (base : Nat) (e : TypeId) (m : Nat) (v : Value) (n : Nat) (xs : List Value) : Prop := w.ownsRow base e m v n xs
theorem Own.nil (w : World) (base : Nat) (e : TypeId) (m : Nat) : Own w base e m (.slice none 0 0) 0 [] := World.ownsRow_nil ..
theorem Own.sl {base : Nat} {e : TypeId} {m n : Nat} {v : Value} {xs : List Value} (h : Own w base e m v n xs) : Sl w m v n xs := by
  obtain ⟨hl, h⟩ := h
  rcases h with ⟨rfl, rfl⟩ | ⟨g, cap, cur, rfl, hb, hg, hc, hm, hs, ht⟩
  · have : xs = [] := List.eq_nil_of_length_eq_zero (by simpa using hl)
    subst this; exact .nil
  · refine .at g 0 n cap xs ⟨cur, e, (0, 0), hg, ?_⟩ hl hc
    simp only [List.drop_zero]; rw [hl]; exact ht
theorem Own.inSl {base : Nat} {e : TypeId} {m n : Nat} {v : Value} {xs : List Value} (h : Own w base e m v n xs) {b : Nat} (hb : InSl v b) : base ≤ b := (World.ownsRow.lt h b hb).1
theorem Own.up {w' : World} {base : Nat} {e : TypeId} {m n : Nat} {v : Value} {xs : List Value} (h : Own w base e m v n xs) (u : ∀ b, b < sz w → InSl v b → gb w' b = gb w b) : Own w' base e m v n xs := by
  refine ⟨h.1, ?_⟩
  rcases h.2 with hn | ⟨g, cap, cur, rfl, hb, hgg, rest⟩
  · exact .inl hn
  · refine .inr ⟨g, cap, cur, rfl, hb, ?_, rest⟩
    have := u g (lt_of_gb hgg) rfl
    unfold gb at this; rw [this]; exact hgg
theorem Own.Up {w' : World} {base : Nat} {e : TypeId} {m n : Nat} {v : Value} {xs : List Value} (h : Own w base e m v n xs) (u : Up w w') : Own w' base e m v n xs := Own.up h fun b hb _ => u.keep b hb
theorem Up.grow {a w w' : World} (h : Up a w) {r : Option Nat} (g : w.grownBy w' r) (hr : ∀ k, r = some k → sz a ≤ k) : Up a w' :=
  ⟨g.os.trans h.os, g.tape.trans h.tape, g.output.trans h.output, Nat.le_trans h.size g.size, fun b hb => (g.block b (Nat.lt_of_lt_of_le hb h.size) (fun e => by have := hr b e.symm; omega)).trans (h.keep b hb)⟩

theorem V_append {t e : TypeId} {ty : TypeId} {m bytes : Nat} {z : List Value} (hT : SlT P t e m bytes z) {base n k : Nat} {v x : Value} {xs ys : List Value} (ho : Own w base e m v n xs) (hx : Sl w m x k ys)
    (hy : ys.all plainV = true) (hb : base ≤ sz w) (hn : (n + k) * (bytes + 1) ≤ 140737488355328)
    (hk : ∀ v' w', Own w' base e m v' (n + k) (xs ++ ys) → w.grownBy w' v.ownBlock → K v' w') : V P (Builtin.append_ #[t, t] ty [v, x].toArray) w K := by
  obtain ⟨i, zv, hi, hz, hs, hby, hzc⟩ := hT.ex
  obtain ⟨hu, _, hzl, hpos⟩ := hT
  have h1 : (n + k) * bytes ≤ (n + k) * (bytes + 1) := Nat.mul_le_mul_left _ (by omega)
  have h2 : n + k ≤ (n + k) * (bytes + 1) := Nat.le_mul_of_pos_right _ (by omega)
  cases hx with
  | nil =>
    refine V_of (v := v) (w' := w) ?_ (hk v w (by simpa using ho) ⟨rfl, rfl, rfl, Nat.le_refl _, fun _ _ _ => rfl⟩)
    obtain ⟨_, hv⟩ := ho
    rcases hv with ⟨rfl, rfl⟩ | ⟨g, cap, cur, rfl, hb, hg, hc, hm, hs', ht⟩
    · simp [Builtin.append_, run_underlying hu, sizeOf, typeInfo, hi, Builtin.lenOf, Builtin.firstCells, loadCells, loadCellsFrom]
    · have hc' : n ≤ cap := hc
      simp [Builtin.append_, run_underlying hu, sizeOf, typeInfo, hi, Builtin.lenOf, Builtin.firstCells, loadCells, loadCellsFrom, hc', storeCells]
  | «at» b o k cap ys hr hl hc' =>
    obtain ⟨v', w', hrun, hown, hgr, _⟩ := run_append_own (P := P) w base t ty e i zv m bytes hu hi hz hs hby (by rw [hzc]; simpa using hzl) hpos v n xs ho ⟨b, o, none⟩ k cap ys hl
      (fun j u hj => by obtain ⟨hj', e⟩ := List.getElem?_eq_some_iff.1 hj; rw [Addr.add_lit, hr.get j hj', e])
      (fun u hu => by have := List.all_eq_true.1 hy u hu; cases u <;> simp_all [plainV, Value.oneCell'])
      (by simp only [maxLen]; omega) (by omega) hb
    exact V_of hrun (hk _ _ hown hgr)

theorem zeros_size (z : List Value) (m : Nat) : ((Array.range (1 * m)).map (fun i => z.toArray[i % z.toArray.size]!)).size = m := by simp
theorem V_build1 {t e : TypeId} {m bytes : Nat} {z : List Value} (hT : SlT P t e m bytes z) {x : Value} {cs : List Value} (hc : x.cells = cs.toArray) (hl : cs.length = m) (hm : m ≤ 16777216)
    (hk : K (.slice (some ⟨sz w, 0, none⟩) 1 1) (w.alloc (.cells cs.toArray e))) : V P (Instr.buildSlice t 1 [(0, x)].toArray) w K := by
  obtain ⟨i, zv, hi, hz, hs, hby, hzc⟩ := hT.ex
  obtain ⟨hu, _, hzl, hpos⟩ := hT
  have fold : ∀ (l : List Value) (base j : Nat) (cur : Array Value), base + j + l.length ≤ cur.size →
      (l.zipIdx j).foldl (fun cs (c, j) => cs.setIfInBounds (base + j) c) cur = (cur.toList.take (base + j) ++ l ++ cur.toList.drop (base + j + l.length)).toArray := by
    intro l
    induction l with
    | nil => intro base j cur h; simp
    | cons v l ih =>
      intro base j cur h
      simp only [List.zipIdx_cons, List.foldl_cons, List.length_cons] at h ⊢
      rw [ih base (j + 1) _ (by simp; omega)]
      congr 1
      have hlt : base + j < cur.toList.length := by simp; omega
      simp only [Array.toList_setIfInBounds]
      rw [show base + (j + 1) = base + j + 1 by omega, List.drop_set_of_lt (by omega), List.take_add_one, List.take_set_of_le (Nat.le_refl _), List.getElem?_set_self hlt]
      simp only [List.append_assoc, Option.toList_some, List.cons_append, List.nil_append]
      congr 4
      omega
  have hfold := fold cs 0 0 ((Array.range (1 * m)).map (fun i => z.toArray[i % z.toArray.size]!)) (by rw [zeros_size]; omega)
  have hm0 : ¬ (m = 0) := by omega
  have hm1 : ¬ (16777216 < m) := by omega
  refine V_of ?_ hk
  have hz1 : List.drop m ((Array.range m).map (fun i => z.toArray[i % z.toArray.size]!)).toList = [] := by
    apply List.drop_eq_nil_of_le; simp
  simp only [Nat.one_mul, Nat.zero_add, List.take_zero, List.nil_append, hl, hz1, List.append_nil] at hfold
  simp [Instr.buildSlice, run_underlying hu, sizeOf, typeInfo, hi, zeroValue, hz, hs, hm0, hm1, Instr.fill, hc, hl, hzc, newRow]
  simp at hfold
  rw [hfold]
  exact ⟨rfl, rfl⟩

theorem Sl.loadCells {m n : Nat} {v : Value} {cs : List Value} (h : Sl w m v n cs) : (Builtin.firstCells m n v).run P w = .ok cs.toArray w := by
  cases h with
  | nil => simp [Builtin.firstCells]
  | «at» b k n cap cs hr hl hc' =>
    simp only [Builtin.firstCells, ← hl]
    exact run_loadCells_list (P := P) w ⟨b, k, none⟩ cs (fun j v hj => by obtain ⟨hj', e⟩ := List.getElem?_eq_some_iff.1 hj; rw [Addr.add_lit, hr.get j hj', e])

theorem V_bts {src dst e : TypeId} (hs : P.underlying src = some (.slice e)) (he : P.underlying e = some (.int .u8)) (hd : P.underlying dst = some .string)
    {n : Nat} {v : Value} {l : List UInt8} (h : Sl w 1 v n (l.map Y)) (hk : K (Str l) w) : V P (convert src dst v) w K := by
  have hl := h.len
  have hc := h.loadCells (P := P)
  generalize hcs : l.map Y = cs at h hl hc
  cases h with
  | nil =>
    refine V_of ?_ hk
    rw [run_convert_bytes_string w src dst e _ _ _ hs he hd]
    have : l = [] := by simpa using hcs
    subst this
    simp [Conv.bytesToString]
    rfl
  | «at» b k n cap cs hr hl hc' =>
    refine V_of ?_ hk
    rw [run_convert_bytes_string w src dst e _ _ _ hs he hd]
    simp only [Builtin.firstCells, Nat.mul_one] at hc
    have e2 : l.map Y = (l.map fun b => (b.toNat : Int)).map (Value.int .u8) := by simp only [List.map_map]; rfl
    rw [← hcs, e2] at hc
    rw [run_bytesToString w ⟨b, k, none⟩ n cap _ hc]
    congr 2
    have gen : ∀ (l : List UInt8) (s : List UInt8), (l.map fun b => (b.toNat : Int)).foldl (fun r n => r.push (UInt8.ofNat n.toNat)) (⟨⟨s⟩⟩ : ByteArray) = ⟨⟨s ++ l⟩⟩ := by
      intro l
      induction l with
      | nil => intro s; simp
      | cons b l ih =>
        intro s
        simp only [List.map_cons, List.foldl_cons, Int.toNat_natCast, UInt8.ofNat_toNat]
        have : (⟨⟨s⟩⟩ : ByteArray).push b = ⟨⟨s ++ [b]⟩⟩ := by simp [ByteArray.push]
        rw [this, ih]; simp
    exact gen l []

theorem grownBy_trans_alloc {w w' : World} {o : Obj} {r : Option Nat} (h : (w.alloc o).grownBy w' r) : w.grownBy w' r :=
  ⟨h.os, h.tape, h.output, Nat.le_trans (by simp) h.size, fun k hk hr => by
    rw [h.block k (by simp; omega) hr]
    exact gb_alloc_old hk⟩
/-- append of one element, written out -/
theorem V_push {t e ty : TypeId} {m bytes : Nat} {z : List Value} (hT : SlT P t e m bytes z) {base n : Nat} {v x : Value} {xs cs : List Value} (ho : Own w base e m v n xs)
    (hc : x.cells = cs.toArray) (hl : cs.length = m) (hp : cs.all plainV = true) (hb : base ≤ sz w) (hm : m ≤ 16777216) (hn : (n + 1) * (bytes + 1) ≤ 140737488355328) {K2 : Value → Value → World → Prop}
    (hk : ∀ s v' w', Own w' base e m v' (n + 1) (xs ++ cs) → w.grownBy w' v.ownBlock → K2 s v' w') :
    V P (Instr.buildSlice t 1 [(0, x)].toArray) w (fun s w => V P (Builtin.append_ #[t, t] ty [v, s].toArray) w (K2 s)) := by
  refine V_build1 hT hc hl hm ?_
  have hu : Up w (w.alloc (.cells cs.toArray e)) := (Up.refl w).alloc _
  refine V_append (base := base) (k := 1) hT (ho.Up hu) (Sl.at (sz w) 0 1 1 cs ⟨cs.toArray, e, (0, 0), gb_alloc_new rfl, by simp⟩ (by omega) (by omega)) hp (by simp; omega) hn ?_
  intro v' w' h1 h2
  exact hk _ _ _ h1 (grownBy_trans_alloc h2)
theorem Up.push {a w w' : World} (h : Up a w) {base n m : Nat} {e : TypeId} {v : Value} {xs : List Value} (g : w.grownBy w' v.ownBlock) (ho : Own w base e m v n xs) (hb : sz a ≤ base) : Up a w' :=
  h.grow g fun _ hk => Nat.le_trans hb (Own.inSl ho hk)

/-! cuts -/
theorem run_sliceBound_in (x : Nat) (y : Nat) (code : BoundsCode) (h : x ≤ y) : (Instr.sliceBound (N x) y code).run P w = .ok x w := by
  have h1 : 0 ≤ (x : Int) ∧ (x : Int) ≤ (y : Int) := by omega
  unfold N
  simp [Instr.sliceBound, asIntOf, h1, -N_cast]
theorem V_sliceStr {t : TypeId} (ht : P.underlying t = some .string) {s : List UInt8} {a b : Nat} (hab : a ≤ b) (hb : b ≤ s.length) (hk : K (Str ((s.drop a).take (b - a))) w) :
    V P (Instr.sliceAt t (Str s) (some (N a)) (some (N b)) none) w K := by
  refine V_of ?_ hk
  have e1 := run_sliceBound_in (P := P) (w := w) b (⟨⟨s⟩⟩ : ByteArray).size .sliceAlen hb
  have e2 := run_sliceBound_in (P := P) (w := w) a b .sliceB hab
  have e3 := ByteArray.extract_mk s a b
  simp only [Instr.sliceAt, Instr.slice, Sem.run_bind, run_underlying ht, Result.andThen_ok, Instr.sliceBounds, e1, e2, Option.isSome_none, Bool.false_eq_true, if_false, Sem.run_pure]
  show Result.ok (Value.string ((ByteArray.mk s.toArray).extract a b)) w = _
  rw [e3]
theorem V_sliceStrFrom {t : TypeId} (ht : P.underlying t = some .string) {s : List UInt8} {a : Nat} (ha : a ≤ s.length) (hk : K (Str (s.drop a)) w) :
    V P (Instr.sliceAt t (Str s) (some (N a)) none none) w K := by
  refine V_of ?_ hk
  have e2 := run_sliceBound_in (P := P) (w := w) a (⟨⟨s⟩⟩ : ByteArray).size .sliceB ha
  have e3 := ByteArray.extract_mk s a s.length
  simp only [Instr.sliceAt, Instr.slice, Sem.run_bind, run_underlying ht, Result.andThen_ok, Instr.sliceBounds, e2, Option.isSome_none, Bool.false_eq_true, if_false, Sem.run_pure]
  show Result.ok (Value.string ((ByteArray.mk s.toArray).extract a s.length)) w = _
  rw [e3]
  have : List.take (s.length - a) (List.drop a s) = List.drop a s := List.take_of_length_le (by simp)
  rw [this]

/-! cells that are set, rows that are made -/
theorem Own.ixset {base n : Nat} {e : TypeId} {v x : Value} {xs : List Value} (ho : Own w base e 1 v n xs) (hx : plainV x = true) {i : Nat} (hi : i < n) {K2 : Value → Value → World → Prop}
    (hk : ∀ p w', Own w' base e 1 v n (xs.set i x) → w.grownBy w' v.ownBlock → sz w' = sz w → K2 p undef w') : IxS v (N i) 1 (fun p => St p x w (K2 p)) := by
  obtain ⟨hl, h⟩ := ho
  rcases h with ⟨rfl, rfl⟩ | ⟨g, cap, cur, rfl, hb, hg, hc, hm, hs, ht⟩
  · omega
  · have hin : ((i : Int) < (n : Int)) := by omega
    unfold N
    simp only [IxS, Int.natCast_nonneg, true_and, hin, Int.toNat_natCast, Addr.add_lit, Nat.zero_add, Nat.mul_one]
    have hg' : gb w g = some (.cells cur e (0, 0)) := hg
    have hlt : i < cur.toList.length := by simp; omega
    refine St_ptr ?_
    rw [hg']
    refine ⟨hx, hlt, Nat.le_refl _, ?_⟩
    refine hk _ _ ⟨by simpa using hl, .inr ⟨g, cap, _, rfl, hb, gb_putB_same (lt_of_gb hg'), hc, hm, by simpa using hs, ?_⟩⟩ ⟨rfl, rfl, rfl, by simp [putB], fun k hk hr => gb_putB_ne (fun e => hr (by simp [Value.ownBlock, e]))⟩ (by simp)
    rw [← ht]
    simp [List.take_set]
theorem V_make {t e : TypeId} {m bytes : Nat} {z : List Value} (hT : SlT P t e m bytes z) {base n : Nat} (hb : base ≤ sz w) (hn : bytes * n ≤ 281474976710656) (hn' : n ≤ 4611686018427387904)
    (hk : ∀ v w', Own w' base e m v n (List.replicate n z).flatten → Up w w' → K v w') : V P (Instr.makeSlice t (N n) (N n)) w K := by
  obtain ⟨i, zv, hi, hz, hs, hby, hzc⟩ := hT.ex
  obtain ⟨hu, _, hzl, hpos⟩ := hT
  have hbn : (i.bytes : Int) * (n : Int) ≤ 281474976710656 := by
    have h1 : ((bytes * n : Nat) : Int) ≤ 281474976710656 := by omega
    rw [hby]; rwa [Int.natCast_mul] at h1
  have hr := run_make (P := P) w t e i zv hu hi hz .i64 .i64 (n : Int) (n : Int) (by omega) (by omega) hbn (by omega)
  refine V_of hr (hk _ _ ?_ ((Up.refl w).alloc _))
  have hcells : (madeCells zv.cells ((n : Int).toNat * i.size)).toList = (List.replicate n z).flatten := by
    rw [hs, hzc, Int.toNat_natCast]
    simp only [madeCells]
    apply List.ext_getElem?
    intro j
    have hlen : (List.replicate n z).flatten.length = n * m := by simp [hzl]
    by_cases hj : j < n * m
    · have h2 : j % m < z.length := by rw [hzl]; exact Nat.mod_lt _ hpos
      have e1 : ∀ (n j : Nat), j < n * m → (List.replicate n z).flatten[j]? = z[j % m]? := by
        intro n
        induction n with
        | zero => intro j h; omega
        | succ n ih =>
          intro j h
          simp only [List.replicate_succ, List.flatten_cons]
          by_cases hjm : j < m
          · rw [List.getElem?_append_left (by omega), Nat.mod_eq_of_lt hjm]
          · rw [List.getElem?_append_right (by omega), hzl, ih (j - m) (by rw [Nat.add_mul, Nat.one_mul] at h; omega)]
            rw [← Nat.mod_eq_sub_mod (by omega)]
      rw [e1 n j hj]
      simp [hj, hzl]
      rw [List.getElem?_eq_getElem h2]
      simp
    · rw [List.getElem?_eq_none (by simp; omega), List.getElem?_eq_none (by omega)]
  refine ⟨by simp [hzl], .inr ⟨_, _, _, rfl, hb, heap_alloc_new w _, by simp, ?_, by simp [size_madeCells, hs], ?_⟩⟩
  · simp [maxLen]; omega
  · rw [hcells]
    exact List.take_of_length_le (by simp [hzl])

theorem V_sliceSlFrom {t e : TypeId} {m bytes : Nat} {z : List Value} (hT : SlT P t e m bytes z) {v : Value} {n a : Nat} {cs : List Value} (h : Sl w m v n cs) (ha : a ≤ n)
    (hk : ∀ v', Sl w m v' (n - a) (cs.drop (a * m)) → (∀ b, InSl v' b → InSl v b) → K v' w) : V P (Instr.sliceAt t v (some (N a)) none none) w K := by
  obtain ⟨i, zv, hi, hz, hs, hby, hzc⟩ := hT.ex
  obtain ⟨hu, _, hzl, hpos⟩ := hT
  cases h with
  | nil =>
    have : a = 0 := by omega
    subst this
    have e2 := run_sliceBound_in (P := P) (w := w) 0 0 .sliceB (by omega)
    refine V_of ?_ (hk (.slice none 0 0) (by simpa using Sl.nil) (fun b hb => hb))
    simp [Instr.sliceAt, Instr.slice, run_underlying hu, Instr.sliceBounds, e2, sizeOf, typeInfo, hi]
  | «at» b k n cap cs hr hl hc' =>
    have e2 := run_sliceBound_in (P := P) (w := w) a n .sliceB ha
    by_cases hca : cap = a
    · have hna : n = a := by omega
      subst hna
      refine V_of ?_ (hk (.slice (some ⟨b, k, none⟩) 0 0) ?_ (fun b hb => hb))
      · simp [Instr.sliceAt, Instr.slice, run_underlying hu, Instr.sliceBounds, e2, sizeOf, typeInfo, hi, hca]
      · rw [List.drop_eq_nil_of_le (by omega), Nat.sub_self]
        obtain ⟨c, t, fz, h, e⟩ := hr
        exact .at b k 0 0 [] ⟨c, t, fz, h, by simp⟩ (by simp) (by omega)
    · refine V_of ?_ (hk (.slice (some ⟨b, k + a * m, none⟩) (n - a) (cap - a)) (.at _ _ _ _ _ ?_ ?_ (by omega)) (fun b hb => hb))
      · simp [Instr.sliceAt, Instr.slice, run_underlying hu, Instr.sliceBounds, e2, sizeOf, typeInfo, hi, hca, hs, Addr.add_lit]
      · obtain ⟨c, t, fz, h, e⟩ := hr
        refine ⟨c, t, fz, h, ?_⟩
        have : List.take (cs.length - a * m) (List.drop (k + a * m) c.toList) = (List.take cs.length (List.drop k c.toList)).drop (a * m) := by
          rw [List.drop_take, List.drop_drop]
        rw [List.length_drop, this, e]
      · rw [List.length_drop, hl, Nat.sub_mul]

theorem V_copy {t e : TypeId} {ty : TypeId} {m bytes : Nat} {z : List Value} (hT : SlT P t e m bytes z) {base n : Nat} {v x : Value} {xs ys : List Value} (ho : Own w base e m v n xs) (hx : Sl w m x n ys)
    (hy : ys.all plainV = true) (hk : ∀ w', Own w' base e m v n ys → w.grownBy w' v.ownBlock → sz w' = sz w → K (N n) w') : V P (Builtin.copy_ #[t, t] ty [v, x].toArray) w K := by
  obtain ⟨i, zv, hi, hz, hs, hby, hzc⟩ := hT.ex
  obtain ⟨hu, _, hzl, hpos⟩ := hT
  have hc := hx.loadCells (P := P)
  have hlen := hx.len
  obtain ⟨hl, h⟩ := ho
  have hlenOf : (Builtin.lenOf x).run P w = .ok n w := by cases hx <;> rfl
  have hmin : Nat.min n n = n := Nat.min_self n
  rcases h with ⟨rfl, rfl⟩ | ⟨g, cap, cur, rfl, hb, hg, hcp, hm, hsz, ht⟩
  · have hys : ys = [] := List.eq_nil_of_length_eq_zero (by simpa using hlen)
    subst hys
    refine V_of (v := N 0) (w' := w) ?_ (hk w (World.ownsRow_nil ..) ⟨rfl, rfl, rfl, Nat.le_refl _, fun _ _ _ => rfl⟩ rfl)
    have hm0 : Nat.min 0 0 = 0 := rfl
    simp [Builtin.copy_, run_underlying hu, sizeOf, typeInfo, hi, hs, hlenOf, hc, goInt, -N_cast]
    rfl
  · have hst := run_storeCells_at P g 0 e ys 0 cur w hg (by rw [hlen, hsz]; simpa using Nat.mul_le_mul_right m hcp)
      (fun u hu => by have := List.all_eq_true.1 hy u hu; cases u <;> simp_all [plainV, Value.oneCell'])
    refine V_of (v := N n) ?_ (hk (w.setRow g (cur.toList.take 0 ++ ys ++ cur.toList.drop (0 + ys.length)).toArray) ⟨hlen, .inr ⟨g, cap, _, rfl, hb, setRow_heap w g cur _ e _ hg, hcp, hm, ?_, ?_⟩⟩ ⟨rfl, rfl, rfl, by simp, fun k hk hr => setRow_other w g k _ (fun e => hr (by simp [Value.ownBlock, e]))⟩ ?_)
    · simp only [Nat.add_zero] at hst
      simp [Builtin.copy_, run_underlying hu, sizeOf, typeInfo, hi, hs, hlenOf, hmin, hc, goInt, hst, -N_cast]
      rfl
    · have h2 : ys.length ≤ cur.size := by rw [hlen, hsz]; exact Nat.mul_le_mul_right m hcp
      simp; omega
    · rw [← hlen]; simp
    · simp [sz]
end
end Go.Lad

