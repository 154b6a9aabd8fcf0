/- Part of a proof (its text Mp): what is proved stands in the text Card. -/
import Derived.Lib.SliceRun
import Derived.WalkSpells
import Derived.Lib.AppendStr
import Derived.Laws.IdiomRangeMap
import Derived.Test.YtfefpbfnmfebgaaGreatDoorPrim
set_option linter.all false
namespace Go.Lad
set_option autoImplicit false
set_option linter.unusedSimpArgs false
section
variable {P : Program} {w : World} {K : Value → World → Prop} {K1 : Value → Prop}
/-- a block that holds these cells -/
abbrev Arr (w : World) (b : Nat) (t : TypeId) (cs : List Value) : Prop := gb w b = some (.cells cs.toArray t (0, 0))
theorem Arr.new {w : World} {t : TypeId} {cs : List Value} : Arr (w.alloc (.cells cs.toArray t (0, 0))) (sz w) t cs := gb_alloc_new rfl
theorem New_of {cs : List Value} {t : TypeId} (h : ∀ w', Up w w' → Arr w' (sz w) t cs → sz w' = sz w + 1 → K (ptr (sz w) 0) w') : New cs t w K :=
  h _ ((Up.refl w).alloc _) Arr.new (sz_alloc ..)
theorem IxA_N (b i len m : Nat) (h : i < len) : IxA (ptr b 0) (N i) len m K1 = K1 (ptr b (i * m)) := by
  have : ((i : Int) < (len : Int)) := by omega
  unfold N
  simp only [IxA, Int.natCast_nonneg, true_and, this, Int.toNat_natCast, Addr.add_lit, Nat.zero_add]
theorem Arr.ld {b : Nat} {t : TypeId} {cs : List Value} (h : Arr w b t cs) {k : Nat} {x : Value} (hx : cs[k]? = some x) : Ld (ptr b k) w K = K x w := by
  rw [Ld_ptr, h]; simp only [LdB, hx]
theorem Arr.ldN {b : Nat} {t : TypeId} {cs : List Value} (h : Arr w b t cs) {k m : Nat} (hm : k + m ≤ cs.length) (hk : K (.agg ((cs.drop k).take m).toArray) w) : LdN (ptr b k) m w K := by
  apply LdN_ptr; rw [h]; exact ⟨hm, hk⟩
theorem Arr.ldAll {b m : Nat} {t : TypeId} {cs : List Value} (h : Arr w b t cs) (hm : cs.length = m) (hk : K (.agg cs.toArray) w) : LdN (ptr b 0) m w K := by
  refine h.ldN (by omega) ?_
  rw [List.drop_zero, List.take_of_length_le (by omega)]; exact hk
theorem Arr.st {b : Nat} {t : TypeId} {cs : List Value} (h : Arr w b t cs) {k : Nat} {x : Value} (hp : plainV x = true) (hk : k < cs.length)
    (hK : ∀ w', w' = putB w b (.cells (cs.set k x).toArray t (0, 0)) → Arr w' b t (cs.set k x) → K undef w') : St (ptr b k) x w K := by
  apply St_ptr; rw [h]
  exact ⟨hp, hk, Nat.le_refl _, hK _ rfl (gb_putB_same (lt_of_gb h))⟩
theorem setN_all (c l : List Value) (h : c.length = l.length) : setN c 0 l = l := by
  have gen : ∀ (l c pre : List Value), c.length = l.length → setN (pre ++ c) pre.length l = pre ++ l := by
    intro l
    induction l with
    | nil => intro c pre h; simp [setN]; exact List.eq_nil_of_length_eq_zero h
    | cons v l ih =>
      intro c pre h
      cases c with
      | nil => cases h
      | cons x c =>
        simp only [setN]
        have := ih c (pre ++ [v]) (by simpa using h)
        simp only [List.append_assoc, List.cons_append, List.nil_append, List.length_append, List.length_singleton] at this
        rw [← this]
        congr 1
        simp
  simpa using gen l c [] h
theorem Arr.stAll {b m : Nat} {t : TypeId} {cs l : List Value} (h : Arr w b t cs) (hm : l.length = m) (hm' : cs.length = m) (hp : l.all plainV = true)
    (hK : ∀ w', w' = putB w b (.cells l.toArray t (0, 0)) → Arr w' b t l → K undef w') : StN (ptr b 0) (.agg l.toArray) m w K := by
  apply StN_ptr; rw [h]
  refine ⟨hm, hp, by simp; omega, Nat.le_refl _, ?_⟩
  simp only [setN_all _ _ (hm'.trans hm.symm)]
  exact hK _ rfl (gb_putB_same (lt_of_gb h))
/-- a word of a list -/
def wat (l : List UInt32) (i : Nat) : UInt32 := l.getD i 0
theorem map_wat (l : List UInt32) (i : Nat) (h : i < l.length) : (l.map W)[i]? = some (W (wat l i)) := by
  simp [wat, List.getElem?_eq_getElem h]
theorem plainV_W (x : UInt32) : plainV (W x) = true := rfl
theorem W_plain (l : List UInt32) : (l.map W).all plainV = true := by
  simp [plainV_W]
/-- what is written is from n on -/
theorem up_put {a w w' : World} (h : Up a w) {b : Nat} {o : Obj} (e : w' = putB w b o) (hb : sz a ≤ b) : Up a w' := e ▸ h.putB hb o
theorem arr_put {w w' : World} {b b' : Nat} {t : TypeId} {cs : List Value} {o : Obj} (h : Arr w b t cs) (e : w' = putB w b' o) (hn : b ≠ b') : Arr w' b t cs := by
  subst e; show gb _ _ = _; rw [gb_putB_ne hn]; exact h
theorem Arr.up {w w' : World} {b : Nat} {t : TypeId} {cs : List Value} (h : Arr w b t cs) (u : Up w w') : Arr w' b t cs := u.gb h
theorem Arr.lt {b : Nat} {t : TypeId} {cs : List Value} (h : Arr w b t cs) : b < sz w := lt_of_gb h

theorem setN_pre (c l : List Value) (tl : List Value) (h : c.length = l.length) : setN (c ++ tl) 0 l = l ++ tl := by
  have gen : ∀ (l c pre : List Value), c.length = l.length → setN (pre ++ (c ++ tl)) pre.length l = pre ++ (l ++ tl) := by
    intro l
    induction l with
    | nil =>
      intro c pre h
      have : c = [] := List.eq_nil_of_length_eq_zero h
      subst this; simp [setN]
    | cons v l ih =>
      intro c pre h
      cases c with
      | nil => cases h
      | cons x c =>
        simp only [setN]
        have := ih c (pre ++ [v]) (by simpa using h)
        simp only [List.append_assoc, List.cons_append, List.nil_append, List.length_append, List.length_singleton] at this
        simp only [List.cons_append] at this ⊢
        rw [← this]
        congr 1
        simp
  simpa using gen l c [] h
theorem Arr.stN {b m : Nat} {t : TypeId} {c l tl : List Value} (h : Arr w b t (c ++ tl)) (hm : l.length = m) (hm' : c.length = m) (hp : l.all plainV = true)
    (hK : ∀ w', w' = putB w b (.cells (l ++ tl).toArray t (0, 0)) → Arr w' b t (l ++ tl) → K undef w') : StN (ptr b 0) (.agg l.toArray) m w K := by
  apply StN_ptr; rw [h]
  refine ⟨hm, hp, by simp; omega, Nat.le_refl _, ?_⟩
  simp only [setN_pre _ _ _ (hm'.trans hm.symm)]
  exact hK _ rfl (gb_putB_same (lt_of_gb h))
theorem Arr.ldPre {b m : Nat} {t : TypeId} {c tl : List Value} (h : Arr w b t (c ++ tl)) (hm : c.length = m) : LdN (ptr b 0) m w K = K (.agg c.toArray) w := by
  have e : cellsAt w ⟨b, 0, none⟩ 0 m = some c := by
    rw [cellsAt_gb h m 0 0 (by simp; omega)]
    simp [← hm]
  simp only [LdN, e]
theorem Arr.ldAt {b : Nat} {t : TypeId} {c tl : List Value} (h : Arr w b t (c ++ tl)) {k j : Nat} (hk : k = c.length + j) {x : Value} (hx : tl[j]? = some x) : Ld (ptr b k) w K = K x w := by
  refine h.ld ?_
  rw [List.getElem?_append_right (by omega), hk, Nat.add_sub_cancel_left]; exact hx
theorem Arr.stAt {b : Nat} {t : TypeId} {c tl : List Value} (h : Arr w b t (c ++ tl)) {k j : Nat} {x : Value} (hp : plainV x = true) (hk : k = c.length + j) (hj : j < tl.length)
    (hK : ∀ w', w' = putB w b (.cells (c ++ tl.set j x).toArray t (0, 0)) → Arr w' b t (c ++ tl.set j x) → K undef w') : St (ptr b k) x w K := by
  have e : (c ++ tl).set k x = c ++ tl.set j x := by
    rw [List.set_append_right _ _ (by omega), hk, Nat.add_sub_cancel_left]
  refine h.st hp (by simp; omega) ?_
  rw [e]; exact hK
theorem Own.mono {base base' n m : Nat} {e : TypeId} {v : Value} {xs : List Value} (h : Own w base e m v n xs) (hb : base' ≤ base) : Own w base' e m v n xs := by
  refine ⟨h.1, ?_⟩
  rcases h.2 with hn | ⟨g, cap, cur, hv, hb', rest⟩
  · exact .inl hn
  · exact .inr ⟨g, cap, cur, hv, Nat.le_trans hb hb', rest⟩
theorem Own.plain {base n m : Nat} {e : TypeId} {v : Value} {xs : List Value} (h : Own w base e m v n xs) : plainV v = true := by
  rcases h.2 with ⟨rfl, _⟩ | ⟨g, cap, cur, rfl, _⟩ <;> rfl
/-- an owned slice lies in no block of another type -/
theorem Own.apart {base n m : Nat} {e t : TypeId} {v : Value} {xs : List Value} (h : Own w base e m v n xs) {b : Nat} {cs : List Value} (hb : Arr w b t cs) (ht : t ≠ e) : ¬ InSl v b := by
  intro hi
  rcases h.2 with ⟨rfl, _⟩ | ⟨g, cap, cur, rfl, _, hg, _⟩
  · cases hi
  · cases hi
    have h2 : gb w g = some (.cells cur e (0, 0)) := hg
    have h3 : gb w g = some (.cells cs.toArray t (0, 0)) := hb
    rw [h2] at h3
    injection h3 with h3
    injection h3 with _ h3 _
    exact ht h3.symm
theorem arr_grown {w w' : World} {b : Nat} {t : TypeId} {cs : List Value} {v : Value} (h : Arr w b t cs) (g : w.grownBy w' v.ownBlock) (hn : ¬ InSl v b) : Arr w' b t cs := by
  show gb w' b = _
  rw [show gb w' b = gb w b from g.block b h.lt (fun e => hn e.symm)]; exact h
end
end Go.Lad

namespace Go.Lad
set_option autoImplicit false
set_option linter.unusedSimpArgs false
set_option linter.unusedSectionVars false

/-- keys of a kind: told apart as the values are -/
structure KeyT {κ : Type} [DecidableEq κ] (P : Program) (kt : TypeId) (kv : κ → Value) : Prop where
  check : ∀ (em : Bool) (k : κ) (w : World), (Instr.checkKey em 10000 kt (kv k)).run P w = .ok () w
  same : ∀ (k : κ) (w : World) (es : List MapEntry) (ks : List κ), es.map (·.key) = ks.map kv → ∃ r, (Instr.findKey kt (kv k) es).run P w = .ok r w ∧
    ((k ∉ ks ∧ r = none) ∨ ∃ (i : Nat) (e : MapEntry), ks[i]? = some k ∧ k ∉ ks.take i ∧ es[i]? = some e ∧ r = some (i, e.val))
  stays : ∀ (k : κ) (w : World), (Instr.keyThatStays (kv k) (kv k)).run P w = .ok (kv k) w

section
variable {κ ν : Type} [DecidableEq κ]
/-- a map's content, in the order in which the keys came -/
def MapIs (w : World) (r : Nat) (kv : κ → Value) (vv : ν → Value) (l : List (κ × ν)) : Prop :=
  ∃ (es : Array MapEntry) (clock : Nat), gb w r = some (.map es clock) ∧ es.toList.map (·.key) = l.map (fun p => kv p.1) ∧ es.toList.map (·.val) = l.map (fun p => vv p.2) ∧
    (∀ e ∈ es.toList, e.born < clock) ∧ (es.toList.map (·.born)).Nodup
def alook (k : κ) : List (κ × ν) → Option ν
  | [] => none
  | p :: l => if p.1 = k then some p.2 else alook k l
def aset (k : κ) (v : ν) : List (κ × ν) → List (κ × ν)
  | [] => [(k, v)]
  | p :: l => if p.1 = k then (k, v) :: l else p :: aset k v l
def adel (k : κ) : List (κ × ν) → List (κ × ν)
  | [] => []
  | p :: l => if p.1 = k then l else p :: adel k l
theorem alook_none {k : κ} {l : List (κ × ν)} : alook k l = none ↔ k ∉ l.map (·.1) := by
  induction l with
  | nil => simp [alook]
  | cons p l ih =>
    simp only [alook, List.map_cons, List.mem_cons, not_or]
    split
    · rename_i h; simp [h]
    · rename_i h; rw [ih]; exact ⟨fun h2 => ⟨fun e => h e.symm, h2⟩, fun h2 => h2.2⟩
theorem alook_at {k : κ} {l : List (κ × ν)} {i : Nat} (h : (l.map (·.1))[i]? = some k) (hn : k ∉ (l.map (·.1)).take i) : ∃ v, l[i]? = some (k, v) ∧ alook k l = some v ∧ (∀ u, aset k u l = l.set i (k, u)) ∧ adel k l = l.eraseIdx i := by
  induction l generalizing i with
  | nil => simp at h
  | cons p l ih =>
    cases i with
    | zero =>
      simp at h; subst h
      exact ⟨p.2, rfl, by simp [alook], fun u => by simp [aset], by simp [adel]⟩
    | succ i =>
      simp only [List.map_cons, List.getElem?_cons_succ] at h
      simp only [List.map_cons, List.take_succ_cons, List.mem_cons, not_or] at hn
      obtain ⟨v, h1, h2, h3, h4⟩ := ih h hn.2
      have hne : ¬ p.1 = k := fun e => hn.1 e.symm
      exact ⟨v, by simpa using h1, by simp [alook, hne, h2], fun u => by simp [aset, hne, h3], by simp [adel, hne, h4]⟩
theorem aset_none {k : κ} {l : List (κ × ν)} (h : k ∉ l.map (·.1)) (v : ν) : aset k v l = l ++ [(k, v)] := by
  induction l with
  | nil => rfl
  | cons p l ih =>
    simp only [List.map_cons, List.mem_cons, not_or] at h
    have hne : ¬ p.1 = k := fun e => h.1 e.symm
    simp [aset, hne, ih h.2]
theorem adel_none {k : κ} {l : List (κ × ν)} (h : k ∉ l.map (·.1)) : adel k l = l := by
  induction l with
  | nil => rfl
  | cons p l ih =>
    simp only [List.map_cons, List.mem_cons, not_or] at h
    have hne : ¬ p.1 = k := fun e => h.1 e.symm
    simp [adel, hne, ih h.2]

variable {P : Program} {w : World} {K : Value → World → Prop} {kv : κ → Value} {vv : ν → Value}
theorem MapIs.up {w w' : World} {r : Nat} {l : List (κ × ν)} (h : MapIs w r kv vv l) (u : gb w' r = gb w r) : MapIs w' r kv vv l := by
  obtain ⟨es, c, h1, h2⟩ := h
  exact ⟨es, c, u.trans h1, h2⟩
theorem MapIs.lt {r : Nat} {l : List (κ × ν)} (h : MapIs w r kv vv l) : r < sz w := by
  obtain ⟨es, c, h1, h2⟩ := h
  exact lt_of_gb h1
theorem run_getObj_gb {r : Nat} {es : Array MapEntry} {c : Nat} (h : gb w r = some (.map es c)) : (getObj r).run P w = .ok (.map es c) w := by
  unfold gb at h
  simp [getObj, Sem.run, h]
theorem run_setObj_gb {r : Nat} {es : Array MapEntry} {c : Nat} (h : gb w r = some (.map es c)) (o : Obj) : (setObj r o).run P w = .ok () (putB w r o) := by
  unfold gb at h
  simp [setObj, Sem.run, h, putB]

structure MapT (P : Program) (t kt et : TypeId) (z : Value) : Prop where
  u : P.underlying t = some (.map kt et)
  z : (P.info? et).bind (fun i => i.zero) = some z
theorem MapT.zero {t kt et : TypeId} {z : Value} (h : MapT P t kt et z) (w : World) : (zeroValue et).run P w = .ok z w := by
  have := h.z
  cases hi : P.info? et with
  | none => rw [hi] at this; cases this
  | some i => rw [hi] at this; simp at this; simp [zeroValue, typeInfo, hi, this]

theorem V_makeMap {t : TypeId} (hk : ∀ w', Up w w' → MapIs w' (sz w) kv vv [] → sz w' = sz w + 1 → K (.map (some (sz w))) w') : V P (Instr.makeMap t none) w K := by
  refine V_of (v := .map (some (sz w))) (w' := w.alloc (.map #[] 0)) ?_ (hk _ ((Up.refl w).alloc _) ⟨#[], 0, gb_alloc_new rfl, rfl, rfl, by simp, by simp⟩ (sz_alloc ..))
  simp [Instr.makeMap]
  rfl

theorem MapIs.find {kt : TypeId} (hK : KeyT P kt kv) {r : Nat} {l : List (κ × ν)} (h : MapIs w r kv vv l) (k : κ) :
    ∃ (es : Array MapEntry) (c : Nat), gb w r = some (.map es c) ∧ es.toList.map (·.key) = l.map (fun p => kv p.1) ∧ es.toList.map (·.val) = l.map (fun p => vv p.2) ∧
    (∀ e ∈ es.toList, e.born < c) ∧ (es.toList.map (·.born)).Nodup ∧
    (((Instr.findKey kt (kv k) es.toList).run P w = .ok none w ∧ alook k l = none ∧ (∀ u, aset k u l = l ++ [(k, u)]) ∧ adel k l = l) ∨
     ∃ i v e, (Instr.findKey kt (kv k) es.toList).run P w = .ok (some (i, vv v)) w ∧ es.toList[i]? = some e ∧ e.key = kv k ∧ alook k l = some v ∧ l[i]? = some (k, v) ∧ (∀ u, aset k u l = l.set i (k, u)) ∧ adel k l = l.eraseIdx i) := by
  obtain ⟨es, c, h1, h2, h3, h4, h5⟩ := h
  refine ⟨es, c, h1, h2, h3, h4, h5, ?_⟩
  obtain ⟨r', hr, hc⟩ := hK.same k w es.toList (l.map (·.1)) (by rw [h2, List.map_map]; rfl)
  rcases hc with ⟨hn, rfl⟩ | ⟨i, e, hi, hn, he, rfl⟩
  · exact .inl ⟨hr, alook_none.2 hn, fun u => aset_none hn u, adel_none hn⟩
  · obtain ⟨v, q1, q2, q3, q4⟩ := alook_at hi hn
    have hv : e.val = vv v := by
      have := congrArg (fun q => q[i]?) h3
      simp [he, q1] at this
      exact this
    have hke : e.key = kv k := by
      have := congrArg (fun q => q[i]?) h2
      simp [he, q1] at this
      exact this
    exact .inr ⟨i, v, e, by rw [hr, hv], he, hke, q2, q1, q3, q4⟩

theorem V_lookup {t kt et : TypeId} {z : Value} (hT : MapT P t kt et z) (hK : KeyT P kt kv) {r : Nat} {l : List (κ × ν)} (h : MapIs w r kv vv l) (k : κ) :
    V P (Instr.lookup t (.map (some r)) (kv k) false) w K = K (match alook k l with | some v => vv v | none => z) w := by
  obtain ⟨es, c, h1, h2, h3, h4, h5, h6⟩ := h.find hK k
  apply V_eq
  rcases h6 with ⟨q1, q2, _⟩ | ⟨i, v, e, q1, _, _, q2, _⟩
  · simp [Instr.lookup, run_underlying hT.u, run_getObj_gb h1, hK.check, q1, q2, hT.zero]
  · simp [Instr.lookup, run_underlying hT.u, run_getObj_gb h1, hK.check, q1, q2]
theorem V_lookup_ok {t kt et : TypeId} {z : Value} (hT : MapT P t kt et z) (hK : KeyT P kt kv) {r : Nat} {l : List (κ × ν)} (h : MapIs w r kv vv l) (k : κ) :
    V P (Instr.lookup t (.map (some r)) (kv k) true) w K = K (match alook k l with | some v => .tuple [vv v, B true].toArray | none => .tuple [z, B false].toArray) w := by
  obtain ⟨es, c, h1, h2, h3, h4, h5, h6⟩ := h.find hK k
  apply V_eq
  rcases h6 with ⟨q1, q2, _⟩ | ⟨i, v, e, q1, _, _, q2, _⟩
  · simp [Instr.lookup, run_underlying hT.u, run_getObj_gb h1, hK.check, q1, q2, hT.zero]
  · simp [Instr.lookup, run_underlying hT.u, run_getObj_gb h1, hK.check, q1, q2]
theorem U_update {t kt et : TypeId} {z : Value} (hT : MapT P t kt et z) (hK : KeyT P kt kv) {r : Nat} {l : List (κ × ν)} (h : MapIs w r kv vv l) (k : κ) (v : ν)
    (hk : ∀ w', (∃ o, w' = putB w r o) → MapIs w' r kv vv (aset k v l) → K undef w') : U P (Instr.mapUpdate t (.map (some r)) (kv k) (vv v)) w K := by
  obtain ⟨es, c, h1, h2, h3, h4, h5, h6⟩ := h.find hK k
  have lt := lt_of_gb h1
  unfold U
  rcases h6 with ⟨q1, q2, q3, _⟩ | ⟨i, v0, e, q1, he, hke, q2, hli, q3, _⟩
  · have hr : (Instr.mapUpdate t (.map (some r)) (kv k) (vv v)).run P w = .ok () (putB w r (.map (es.push { key := kv k, val := vv v, born := c }) (c + 1))) := by
      simp [Instr.mapUpdate, run_underlying hT.u, run_getObj_gb h1, hK.check, q1, run_setObj_gb h1]
    rw [hr]
    refine hk _ ⟨_, rfl⟩ ⟨_, _, gb_putB_same lt, ?_, ?_, ?_, ?_⟩
    · simp [h2, q3]
    · simp [h3, q3]
    · intro e he
      simp at he
      rcases he with he | rfl
      · have := h4 e (by simpa using he); omega
      · simp
    · simp only [Array.toList_push, List.map_append, List.map_cons, List.map_nil]
      rw [List.nodup_append]
      refine ⟨h5, by simp, ?_⟩
      intro a ha b hb
      simp at hb; subst hb
      simp only [List.mem_map] at ha
      obtain ⟨e, he, rfl⟩ := ha
      have := h4 e he; omega
  · have hge : es[i]? = some e := by rw [← Array.getElem?_toList]; exact he
    have hr : (Instr.mapUpdate t (.map (some r)) (kv k) (vv v)).run P w = .ok () (putB w r (.map (es.modify i fun e => { e with key := kv k, val := vv v }) c)) := by
      simp [Instr.mapUpdate, run_underlying hT.u, run_getObj_gb h1, hK.check, q1, run_setObj_gb h1, hge, hke, hK.stays]
    rw [hr]
    have hmod : (es.modify i fun e => { e with key := kv k, val := vv v }).toList = es.toList.set i { e with key := kv k, val := vv v } := by
      rw [Array.toList_modify]
      apply List.ext_getElem?; intro j
      rw [List.getElem?_modify, List.getElem?_set]
      by_cases hij : i = j
      · subst hij
        have hlt : i < es.toList.length := (List.getElem?_eq_some_iff.1 he).1
        rw [he]; simp only [if_true, hlt]; rfl
      · simp [hij]
    refine hk _ ⟨_, rfl⟩ ⟨_, _, gb_putB_same lt, ?_, ?_, ?_, ?_⟩
    · rw [hmod, List.map_set, h2, q3, List.map_set]
    · rw [hmod, List.map_set, h3, q3, List.map_set]
    · intro e' he'
      rw [hmod] at he'
      rcases List.mem_or_eq_of_mem_set he' with h7 | rfl
      · exact h4 _ h7
      · exact h4 e (List.mem_of_getElem? he)
    · rw [hmod, List.map_set]
      have : (es.toList.map (·.born)).set i e.born = es.toList.map (·.born) := by
        apply List.ext_getElem?; intro j
        rw [List.getElem?_set]
        split
        · rename_i hij; subst hij; simp [he]; have := (List.getElem?_eq_some_iff.1 he).1; simpa using this
        · rfl
      rw [this]; exact h5

theorem map_eraseIdx' {α β : Type} (f : α → β) (l : List α) (i : Nat) : (l.eraseIdx i).map f = (l.map f).eraseIdx i := by
  induction l generalizing i with
  | nil => rfl
  | cons a l ih => cases i with
    | zero => rfl
    | succ i => simp [ih]
theorem V_delete {t kt et : TypeId} {z : Value} (hT : MapT P t kt et z) (hK : KeyT P kt kv) {ty : TypeId} {r : Nat} {l : List (κ × ν)} (h : MapIs w r kv vv l) (k : κ)
    (hk : ∀ w', (∃ o, w' = putB w r o) → MapIs w' r kv vv (adel k l) → K (.tuple #[]) w') : V P (Builtin.delete_ #[t, kt] ty [.map (some r), kv k].toArray) w K := by
  obtain ⟨es, c, h1, h2, h3, h4, h5, h6⟩ := h.find hK k
  have lt := lt_of_gb h1
  rcases h6 with ⟨q1, q2, _, q4⟩ | ⟨i, v0, e, q1, he, hke, q2, hli, _, q4⟩
  · have hr : (Builtin.delete_ #[t, kt] ty [.map (some r), kv k].toArray).run P w = .ok (.tuple #[]) (putB w r (.map es c)) := by
      simp [Builtin.delete_, run_underlying hT.u, run_getObj_gb h1, hK.check, q1, run_setObj_gb h1]
    rw [V_eq hr]
    exact hk _ ⟨_, rfl⟩ ⟨_, _, gb_putB_same lt, by rw [q4]; exact h2, by rw [q4]; exact h3, h4, h5⟩
  · have hlt : i < es.toList.length := (List.getElem?_eq_some_iff.1 he).1
    have hr : (Builtin.delete_ #[t, kt] ty [.map (some r), kv k].toArray).run P w = .ok (.tuple #[]) (putB w r (.map (es.eraseIdxIfInBounds i) c)) := by
      simp [Builtin.delete_, run_underlying hT.u, run_getObj_gb h1, hK.check, q1, run_setObj_gb h1]
    rw [V_eq hr]
    have hmod : (es.eraseIdxIfInBounds i).toList = es.toList.eraseIdx i := by
      unfold Array.eraseIdxIfInBounds
      rw [dif_pos (by simpa using hlt)]; simp
    refine hk _ ⟨_, rfl⟩ ⟨_, _, gb_putB_same lt, ?_, ?_, ?_, ?_⟩
    · rw [hmod, map_eraseIdx', h2, q4, map_eraseIdx']
    · rw [hmod, map_eraseIdx', h3, q4, map_eraseIdx']
    · intro e' he'
      rw [hmod] at he'
      exact h4 _ (List.mem_of_mem_eraseIdx he')
    · rw [hmod, map_eraseIdx']
      exact h5.eraseIdx i
theorem V_maplen {t kt et : TypeId} (hu : P.underlying t = some (.map kt et)) {ty : TypeId} {r : Nat} {l : List (κ × ν)} (h : MapIs w r kv vv l) : V P (Builtin.len_ #[t] ty [.map (some r)].toArray) w K = K (N l.length) w := by
  obtain ⟨es, c, h1, h2, h3, h4, h5⟩ := h
  have hl : es.size = l.length := by have := congrArg List.length h2; simpa using this
  apply V_eq
  simp [Builtin.len_, run_underlying hu, run_getObj_gb h1, goInt, hl]

theorem findNow_int (k : Nat) : ∀ (es : List MapEntry) (ks : List Nat) (j : Nat), es.map (·.key) = ks.map N → ∃ r, Instr.findNow (.int .i64) (N k) es j = some r ∧
    ((k ∉ ks ∧ r = none) ∨ ∃ (i : Nat) (e : MapEntry), ks[i]? = some k ∧ k ∉ ks.take i ∧ es[i]? = some e ∧ r = some (j + i, e.val)) := by
  intro es
  induction es with
  | nil => intro ks j h; cases ks with
    | nil => exact ⟨none, rfl, .inl ⟨by simp, rfl⟩⟩
    | cons => cases h
  | cons e es ih =>
    intro ks j h
    cases ks with
    | nil => cases h
    | cons x ks =>
      simp only [List.map_cons, List.cons.injEq] at h
      have hs : Instr.sameNow (.int .i64) (N k) e.key = some (decide (k = x)) := by
        rw [h.1]; unfold N
        simp [Instr.sameNow, -N_cast]
        by_cases hk : k = x
        · simp [hk]
        · simp [hk]; omega
      simp only [Instr.findNow, hs]
      by_cases hk : k = x
      · subst hk
        simp only [decide_true]
        exact ⟨_, rfl, .inr ⟨0, e, rfl, by simp, rfl, rfl⟩⟩
      · simp only [hk, decide_false]
        obtain ⟨r, h1, h2⟩ := ih ks (j + 1) h.2
        refine ⟨r, h1, ?_⟩
        rcases h2 with ⟨q1, q2⟩ | ⟨i, e', q1, q2, q3, q4⟩
        · exact .inl ⟨by simp [hk, q1], q2⟩
        · exact .inr ⟨i + 1, e', by simpa using q1, by simp [hk, q2], by simpa using q3, by rw [q4]; congr 2; omega⟩
theorem keyT_int {kt : TypeId} (hu : P.underlying kt = some (.int .i64)) : KeyT P kt N := by
  refine ⟨?_, ?_, ?_⟩
  · intro em k w
    rw [show (10000 : Nat) = 9999 + 1 from rfl]
    unfold Instr.checkKey N
    simp [run_underlying hu, -N_cast]
  · intro k w es ks h
    obtain ⟨r, h1, h2⟩ := findNow_int k es ks 0 h
    refine ⟨r, ?_, ?_⟩
    · simp [Instr.findKey, run_underlying hu, h1]
    · rcases h2 with q | ⟨i, e, q1, q2, q3, q4⟩
      · exact .inl q
      · exact .inr ⟨i, e, q1, q2, q3, by simpa using q4⟩
  · intro k w
    have : Instr.sameBits 10000 (N k) (N k) = true := by simp [N, Instr.sameBits, -N_cast]
    simp [Instr.keyThatStays, this]

theorem alook_aset (s k : κ) (v : ν) (l : List (κ × ν)) : alook s (aset k v l) = if s = k then some v else alook s l := by
  induction l with
  | nil => simp only [aset, alook]; by_cases h : s = k
           · simp [h]
           · have h' : ¬ k = s := fun e => h e.symm
             simp [h, h']
  | cons p l ih =>
    simp only [aset]
    by_cases hp : p.1 = k
    · simp only [hp, if_true, alook]
      by_cases h : s = k
      · simp [h]
      · have h' : ¬ k = s := fun e => h e.symm
        simp [h, h']
    · simp only [hp, if_false, alook, ih]
      by_cases h : p.1 = s
      · have : ¬ s = k := fun e => hp (h.trans e)
        simp [h, this]
      · simp [h]
end
/-- the world moves on, but for what F tells -/
structure Mod (w w' : World) (F : Nat → Prop) : Prop where
  os : w'.os = w.os
  tape : w'.tape = w.tape
  output : w'.output = w.output
  size : sz w ≤ sz w'
  keep : ∀ b, b < sz w → ¬ F b → gb w' b = gb w b
theorem Mod.refl (w : World) (F : Nat → Prop) : Mod w w F := ⟨rfl, rfl, rfl, Nat.le_refl _, fun _ _ _ => rfl⟩
theorem Mod.trans {a b c : World} {F : Nat → Prop} (h : Mod a b F) (k : Mod b c F) : Mod a c F :=
  ⟨k.os.trans h.os, k.tape.trans h.tape, k.output.trans h.output, Nat.le_trans h.size k.size, fun i hi hf => (k.keep i (Nat.lt_of_lt_of_le hi h.size) hf).trans (h.keep i hi hf)⟩
theorem Mod.mono {a b : World} {F G : Nat → Prop} (h : Mod a b F) (hg : ∀ q, F q → G q) : Mod a b G := ⟨h.os, h.tape, h.output, h.size, fun i hi hf => h.keep i hi (fun q => hf (hg _ q))⟩
theorem Up.mod {a b : World} (h : Up a b) (F : Nat → Prop) : Mod a b F := ⟨h.os, h.tape, h.output, h.size, fun i hi _ => h.keep i hi⟩
theorem Mod.put (w : World) {b : Nat} (o : Obj) {F : Nat → Prop} (hF : F b) : Mod w (putB w b o) F := ⟨rfl, rfl, rfl, by simp, fun i _ hf => gb_putB_ne (fun e => hf (e ▸ hF))⟩
theorem Mod.up {a w w' : World} {F : Nat → Prop} (h : Mod w w' F) (u : Up a w) (hF : ∀ q, F q → sz a ≤ q) : Up a w' :=
  ⟨h.os.trans u.os, h.tape.trans u.tape, h.output.trans u.output, Nat.le_trans u.size h.size, fun i hi => (h.keep i (Nat.lt_of_lt_of_le hi u.size) (fun q => by have := hF _ q; omega)).trans (u.keep i hi)⟩
end Go.Lad

namespace Go.Lad
set_option autoImplicit false
set_option linter.unusedSimpArgs false
section
variable {P : Program} {w : World} {K : Value → World → Prop} {K1 : Value → Prop}

def isNilS : Value → Bool
  | .slice none _ _ => true
  | _ => false
theorem V_eqNilS {t e : TypeId} {x y : Operand} {m n : Nat} {v : Value} {cs : List Value} (hu : P.underlying t = some (.slice e)) (hv : Sl w m v n cs) :
    V P (do eqGuard .eql t x y v (.slice none 0 0); binOp .eql t v (.slice none 0 0)) w K = K (B (isNilS v)) w := by
  apply V_eq
  cases hv with
  | nil => exact Lib.run_eql_slice_nil w t e none 0 0 0 0 hu
  | «at» b k n cap cs h hn hc => exact Lib.run_eql_slice_nil w t e _ n cap 0 0 hu

theorem V_build0 {t e : TypeId} {m bytes : Nat} {z : List Value} (hT : SlT P t e m bytes z)
    (hk : K (.slice (some ⟨sz w, 0, none⟩) 0 0) (w.alloc (.cells #[] e))) : V P (Instr.buildSlice t 0 [].toArray) w K := by
  obtain ⟨i, zv, hi, hz, hs, hby, hzc⟩ := hT.ex
  obtain ⟨hu, _, hzl, hpos⟩ := hT
  refine V_of ?_ hk
  simp [Instr.buildSlice, run_underlying hu, sizeOf, typeInfo, hi, zeroValue, hz, hs, newRow, Instr.fill]
  refine ⟨rfl, ?_⟩
  have e0 : Array.map (fun (_ : Nat) => (default : Value)) (Array.range 0) = #[] := by simp
  rw [e0]
theorem Own.empty {e : TypeId} {m : Nat} {w : World} : Own (w.alloc (.cells #[] e)) (sz w) e m (.slice (some ⟨sz w, 0, none⟩) 0 0) 0 [] :=
  ⟨by simp, .inr ⟨_, _, _, rfl, Nat.le_refl _, heap_alloc_new w _, Nat.le_refl _, by simp [maxLen], by simp, by simp⟩⟩
theorem V_clone {t e : TypeId} {m bytes : Nat} {z : List Value} (hT : SlT P t e m bytes z) {x y : Operand} {n : Nat} {v : Value} {cs : List Value} (hv : Sl w m v n cs) (hp : cs.all plainV = true)
    (hn : n * (bytes + 1) ≤ 140737488355328) (h : ∀ v' w', Up w w' → Own w' (sz w) e m v' n cs → K v' w') :
    V P (do eqGuard .eql t x y v (.slice none 0 0); binOp .eql t v (.slice none 0 0)) w fun t1 w => IfV t1 (K (.slice none 0 0) w) (V P (Instr.buildSlice t 0 [].toArray) w fun t2 w =>
      V P (Builtin.append_ #[t, t] t [t2, v].toArray) w fun t3 w => K t3 w) := by
  rw [V_eqNilS hT.u hv]
  cases hb : isNilS v with
  | true =>
    cases hv with
    | nil => simp only [IfV_bool, if_true]; exact h _ _ (Up.refl w) (Own.nil ..)
    | «at» => cases hb
  | false =>
    simp only [IfV_bool, Bool.false_eq_true, if_false]
    refine V_build0 hT ?_
    have u1 : Up w (w.alloc (.cells #[] e)) := (Up.refl w).alloc _
    refine V_append hT Own.empty (hv.Up u1) hp u1.size (by rw [Nat.zero_add]; exact hn) fun v' w' ho hg => ?_
    rw [Nat.zero_add] at ho
    refine h _ _ (u1.grow hg ?_) (by simpa using ho)
    intro k hk
    cases hk
    exact Nat.le_refl _
end
end Go.Lad

namespace Go.Lad
set_option autoImplicit false
set_option linter.unusedSimpArgs false
section
variable {P : Program} {w : World} {K : Value → World → Prop} {K1 : Value → Prop}

/-! slices, written out -/
theorem ixLit (b k n cap i m : Nat) (h : i < n) : IxS (.slice (some ⟨b, k, none⟩) n cap) (N i) m K1 = K1 (ptr b (k + i * m)) := by
  have : ((i : Int) < (n : Int)) := by omega
  unfold N
  simp only [IxS, Int.natCast_nonneg, true_and, this, Int.toNat_natCast, Addr.add_lit]
theorem Own.outA {base n m : Nat} {e : TypeId} {v : Value} {xs : List Value} (h : Own w base e m v n xs) :
    (v = .slice none 0 0 ∧ n = 0 ∧ xs = []) ∨ ∃ g cap tl, v = .slice (some ⟨g, 0, none⟩) n cap ∧ base ≤ g ∧ Arr w g e (xs ++ tl) ∧ n ≤ cap ∧ cap ≤ maxLen ∧ (xs ++ tl).length = cap * m ∧ xs.length = n * m := by
  obtain ⟨hl, h⟩ := h
  rcases h with ⟨rfl, rfl⟩ | ⟨g, cap, cur, rfl, hb, hg, hc, hm, hs, ht⟩
  · exact .inl ⟨rfl, rfl, List.eq_nil_of_length_eq_zero (by simpa using hl)⟩
  · refine .inr ⟨g, cap, cur.toList.drop (n * m), rfl, hb, ?_, hc, hm, ?_, hl⟩
    · show gb w g = _
      rw [← ht, List.take_append_drop]; exact hg
    · rw [← ht, List.take_append_drop]; simpa using hs
theorem Own.out {base n m : Nat} {e : TypeId} {v : Value} {xs : List Value} (h : Own w base e m v n xs) (hn : 0 < n) :
    ∃ g cap tl, v = .slice (some ⟨g, 0, none⟩) n cap ∧ base ≤ g ∧ Arr w g e (xs ++ tl) ∧ n ≤ cap ∧ cap ≤ maxLen ∧ (xs ++ tl).length = cap * m ∧ xs.length = n * m := by
  rcases h.outA with ⟨_, h0, _⟩ | h
  · omega
  · exact h
theorem Own.of {base n m g cap : Nat} {e : TypeId} {xs tl : List Value} (hb : base ≤ g) (ha : Arr w g e (xs ++ tl)) (hc : n ≤ cap) (hm : cap ≤ maxLen) (hl : (xs ++ tl).length = cap * m) (hx : xs.length = n * m) :
    Own w base e m (.slice (some ⟨g, 0, none⟩) n cap) n xs :=
  ⟨hx, .inr ⟨g, cap, _, rfl, hb, ha, hc, hm, by simpa using hl, by simp [← hx]⟩⟩
theorem ixLd {b k n cap i m : Nat} {e : TypeId} {cs : List Value} {x : Value} (ha : Arr w b e cs) (hi : i < n) (hm : m = 1) (hx : cs[k + i]? = some x) {K2 : Value → Value → World → Prop}
    (hk : K2 (ptr b (k + i)) x w) : IxS (.slice (some ⟨b, k, none⟩) n cap) (N i) m (fun p => Ld p w (K2 p)) := by
  subst hm
  rw [ixLit _ _ _ _ _ _ hi, Nat.mul_one]
  rw [ha.ld hx]; exact hk
theorem run_sliceLit {t e : TypeId} {m bytes : Nat} {z : List Value} (hT : SlT P t e m bytes z) {b k n cap lo hi : Nat} (h1 : lo ≤ hi) (h2 : hi ≤ cap) :
    (Instr.sliceAt t (.slice (some ⟨b, k, none⟩) n cap) (some (N lo)) (some (N hi)) none).run P w = .ok (.slice (some (if cap = lo then ⟨b, k, none⟩ else ⟨b, k + lo * m, none⟩)) (hi - lo) (cap - lo)) w := by
  obtain ⟨i, zv, hi', hz, hs, hby, hzc⟩ := hT.ex
  obtain ⟨hu, _, hzl, hpos⟩ := hT
  have e1 := run_sliceBound_in (P := P) (w := w) lo hi .sliceB h1
  have e2 := run_sliceBound_in (P := P) (w := w) hi cap .sliceAcap h2
  by_cases hc : cap = lo
  · subst hc
    simp [Instr.sliceAt, Instr.slice, run_underlying hu, Instr.sliceBounds, e1, e2, sizeOf, typeInfo, hi']
  · simp [Instr.sliceAt, Instr.slice, run_underlying hu, Instr.sliceBounds, e1, e2, sizeOf, typeInfo, hi', hc, hs, Addr.add_lit]
theorem run_sliceLitTo {t e : TypeId} {m bytes : Nat} {z : List Value} (hT : SlT P t e m bytes z) {b k n cap hi : Nat} (h2 : hi ≤ cap) :
    (Instr.sliceAt t (.slice (some ⟨b, k, none⟩) n cap) none (some (N hi)) none).run P w = .ok (.slice (some ⟨b, k, none⟩) hi cap) w := by
  obtain ⟨i, zv, hi', hz, hs, hby, hzc⟩ := hT.ex
  obtain ⟨hu, _, hzl, hpos⟩ := hT
  have e2 := run_sliceBound_in (P := P) (w := w) hi cap .sliceAcap h2
  by_cases hc : cap = 0
  · have : hi = 0 := by omega
    subst this
    subst hc
    simp [Instr.sliceAt, Instr.slice, run_underlying hu, Instr.sliceBounds, e2, sizeOf, typeInfo, hi']
  · simp [Instr.sliceAt, Instr.slice, run_underlying hu, Instr.sliceBounds, e2, sizeOf, typeInfo, hi', hc, hs, Addr.add_lit]
theorem run_sliceLitFrom {t e : TypeId} {m bytes : Nat} {z : List Value} (hT : SlT P t e m bytes z) {b k n cap lo : Nat} (h1 : lo ≤ n) :
    (Instr.sliceAt t (.slice (some ⟨b, k, none⟩) n cap) (some (N lo)) none none).run P w = .ok (.slice (some (if cap = lo then ⟨b, k, none⟩ else ⟨b, k + lo * m, none⟩)) (n - lo) (cap - lo)) w := by
  obtain ⟨i, zv, hi', hz, hs, hby, hzc⟩ := hT.ex
  obtain ⟨hu, _, hzl, hpos⟩ := hT
  have e1 := run_sliceBound_in (P := P) (w := w) lo n .sliceB h1
  by_cases hc : cap = lo
  · simp [Instr.sliceAt, Instr.slice, run_underlying hu, Instr.sliceBounds, e1, sizeOf, typeInfo, hi', hc]
  · simp [Instr.sliceAt, Instr.slice, run_underlying hu, Instr.sliceBounds, e1, sizeOf, typeInfo, hi', hc, hs, Addr.add_lit]

/-! stores of some cells -/
theorem setN_eq (c l : List Value) (k : Nat) (h : k + l.length ≤ c.length) : setN c k l = c.take k ++ l ++ c.drop (k + l.length) := by
  induction l generalizing c k with
  | nil => simp [setN]
  | cons v l ih =>
    simp only [List.length_cons] at h
    simp only [setN]
    rw [ih _ _ (by simp; omega)]
    have h2 : k < c.length := by omega
    rw [List.take_set, List.drop_set_of_lt (by omega)]
    rw [List.set_eq_take_append_cons_drop, List.length_take, if_pos (by omega)]
    have h3 : (c.take (k + 1)).take k = c.take k := by rw [List.take_take]; congr 1; omega
    have h4 : (c.take (k + 1)).drop (k + 1) = [] := by apply List.drop_eq_nil_of_le; simp; omega
    rw [h3, h4]
    simp [Nat.add_assoc, Nat.add_comm 1]
theorem Arr.stR {b k m : Nat} {t : TypeId} {cs l : List Value} (h : Arr w b t cs) (hm : l.length = m) (hk : k + m ≤ cs.length) (hp : l.all plainV = true)
    (hK : ∀ w', w' = putB w b (.cells (cs.take k ++ l ++ cs.drop (k + m)).toArray t (0, 0)) → Arr w' b t (cs.take k ++ l ++ cs.drop (k + m)) → K undef w') : StN (ptr b k) (.agg l.toArray) m w K := by
  apply StN_ptr; rw [h]
  refine ⟨hm, hp, hk, Nat.le_refl _, ?_⟩
  simp only
  rw [setN_eq _ _ _ (by omega), hm]
  exact hK _ rfl (gb_putB_same (lt_of_gb h))
theorem storeCells_arr {b k : Nat} {t : TypeId} {cs l : List Value} (h : Arr w b t cs) (hk : k + l.length ≤ cs.length) (hp : l.all plainV = true) :
    (storeCells ⟨b, k, none⟩ l 0).run P w = .ok () (putB w b (.cells (cs.take k ++ l ++ cs.drop (k + l.length)).toArray t (0, 0))) := by
  obtain ⟨h1, h2⟩ := putCells_gb l w cs t 0 0 k 0 h (Nat.le_refl _) hp (by omega)
  rw [putCells_run _ _ _ h1, h2, Nat.add_zero, setN_eq _ _ _ hk]
theorem V_clearLit {t e : TypeId} {ty : TypeId} {m bytes : Nat} {z : List Value} (hT : SlT P t e m bytes z) (hzp : z.all plainV = true) {b k n cap : Nat} {cs : List Value} (ha : Arr w b e cs) (hk : k + n * m ≤ cs.length)
    (hK : ∀ w' l, l.length = n * m → (w' = w ∨ ∃ o, w' = putB w b o) → Arr w' b e (cs.take k ++ l ++ cs.drop (k + n * m)) → K (.tuple #[]) w') : V P (Builtin.clear_ #[t] ty [.slice (some ⟨b, k, none⟩) n cap].toArray) w K := by
  obtain ⟨i, zv, hi', hz, hs, hby, hzc⟩ := hT.ex
  obtain ⟨hu, _, hzl, hpos⟩ := hT
  by_cases h0 : n = 0
  · subst h0
    refine V_of (v := .tuple #[]) (w' := w) ?_ (hK w [] (by simp) (.inl rfl) (by simpa using ha))
    simp [Builtin.clear_, run_underlying hu]
  · have hl : (Builtin.zeroCells zv.cells n).toList.length = n * m := by simp [Builtin.zeroCells, hzc, hzl]
    have hp : (Builtin.zeroCells zv.cells n).toList.all plainV = true := by
      rw [List.all_eq_true]
      intro x hx
      simp only [Builtin.zeroCells, hzc, Array.toList_map, List.mem_map] at hx
      obtain ⟨j, _, rfl⟩ := hx
      have hlt : j % z.toArray.size < z.length := by have : z.toArray.size = m := by simpa using hzl
                                                     rw [this, hzl]; exact Nat.mod_lt _ hpos
      have : z.toArray[j % z.toArray.size]! = z[j % z.toArray.size] := by
        rw [getElem!_pos _ _ (by simpa using hlt)]; simp
      rw [this]
      exact List.all_eq_true.1 hzp _ (List.getElem_mem _)
    have hst := storeCells_arr (P := P) ha (k := k) (by rw [hl]; exact hk) hp
    rw [hl] at hst
    refine V_of (v := .tuple #[]) ?_ (hK _ _ hl (.inr ⟨_, rfl⟩) (gb_putB_same (lt_of_gb ha)))
    simp only [Builtin.clear_, Sem.run_bind, Sem.run_pure, run_underlying hu, Result.andThen_ok]
    simp [run_underlying hu, zeroValue, typeInfo, hi', hz, hst, h0]
end
end Go.Lad

namespace Go.Lad
set_option autoImplicit false
set_option linter.unusedSimpArgs false
section
variable {P : Program} {w : World} {K : Value → World → Prop} {K1 : Value → Prop}

/-- where what has been appended to lies: where it lay, or anew -/
theorem append_where {t e : TypeId} {ty : TypeId} {m bytes : Nat} {z : List Value} (hT : SlT P t e m bytes z) {base n k : Nat} {v x : Value} {xs ys : List Value} (ho : Own w base e m v n xs) (hx : Sl w m x k ys)
    (hy : ys.all plainV = true) (hn : (n + k) * (bytes + 1) ≤ 140737488355328) {v' : Value} {w' : World} (hr : (Builtin.append_ #[t, t] ty [v, x].toArray).run P w = .ok v' w') :
    ∀ q, InSl v' q → InSl v q ∨ sz w ≤ q := by
  obtain ⟨i, zv, hi, hz, hs, hby, hzc⟩ := hT.ex
  obtain ⟨hu, _, hzl, hpos⟩ := hT
  subst hs; subst hby
  have h1 : (n + k) * i.bytes ≤ (n + k) * (i.bytes + 1) := Nat.mul_le_mul_left _ (by omega)
  have h2 : n + k ≤ (n + k) * (i.bytes + 1) := Nat.le_mul_of_pos_right _ (by omega)
  obtain ⟨hl, hv⟩ := ho
  intro q hq
  cases hx with
  | nil =>
    have hr' : (Builtin.append_ #[t, t] ty [v, .slice none 0 0].toArray).run P w = .ok v w := by
      rcases hv with ⟨rfl, rfl⟩ | ⟨g, cap, cur, rfl, hb, hg, hc, hm, hs', ht⟩
      · simp [Builtin.append_, run_underlying hu, sizeOf, typeInfo, hi, Builtin.lenOf, Builtin.firstCells, loadCells, loadCellsFrom]
      · have hc' : n ≤ cap := hc
        simp [Builtin.append_, run_underlying hu, sizeOf, typeInfo, hi, Builtin.lenOf, Builtin.firstCells, loadCells, loadCellsFrom, hc', storeCells]
    rw [hr'] at hr
    cases hr
    exact .inl hq
  | «at» b o k cap2 ys hrd hlen hc' =>
    have hnews : ∀ j u, ys[j]? = some u → w.cell? ((⟨b, o, none⟩ : Addr).add j) = some u := fun j u hj => by obtain ⟨hj', e⟩ := List.getElem?_eq_some_iff.1 hj; rw [Addr.add_lit, hrd.get j hj', e]
    have h1c : ∀ u ∈ ys, u.oneCell' = true := fun u hu => by have := List.all_eq_true.1 hy u hu; cases u <;> simp_all [plainV, Value.oneCell']
    rcases hv with ⟨rfl, rfl⟩ | ⟨g, cap, cur, rfl, hb, hg, hc, hm, hs', ht⟩
    · by_cases hk : k = 0
      · subst hk
        have hys : ys = [] := List.eq_nil_of_length_eq_zero (by simpa using hlen)
        subst hys
        have hr' : (Builtin.append_ #[t, t] ty [.slice none 0 0, .slice (some ⟨b, o, none⟩) 0 cap2].toArray).run P w = .ok (.slice none 0 0) w := by
          simp [Builtin.append_, run_underlying hu, sizeOf, typeInfo, hi, Builtin.lenOf, Builtin.firstCells, loadCells, loadCellsFrom]
        rw [hr'] at hr
        cases hr
        exact .inl hq
      · have hr' := run_append_nil (P := P) w t ty e i zv hu hi hz ⟨b, o, none⟩ k cap2 ys hlen hnews (by omega) (by omega) (by rw [Nat.zero_add] at h1 hn; omega)
        have := hr'.symm.trans hr
        cases this
        cases hq
        exact .inr (Nat.le_refl _)
    · by_cases hroom : n + k ≤ cap
      · have hfit : n * i.size + ys.length ≤ cur.size := by rw [hlen, hs', ← Nat.add_mul]; exact Nat.mul_le_mul_right _ hroom
        have hr' := run_append_room (P := P) w t ty e i hu hi g n cap cur hg ⟨b, o, none⟩ k cap2 ys hlen hnews h1c hroom hfit
        have := hr'.symm.trans hr
        cases this
        cases hq
        exact .inl rfl
      · have holds : ∀ j u, xs[j]? = some u → w.cell? ((⟨g, 0, none⟩ : Addr).add j) = some u :=
          World.ownsRow.cells (w := w) (base := base) (e := e) (size := i.size) (n := n) (xs := xs) ⟨hl, .inr ⟨g, cap, cur, rfl, hb, hg, hc, hm, hs', ht⟩⟩ (g := g) rfl
        have hr' := run_append_grow (P := P) w t ty e i zv hu hi hz ⟨g, 0, none⟩ n cap xs hl holds ⟨b, o, none⟩ k cap2 ys hlen hnews (by omega) (by omega) (growslice_fits (by omega) (by omega))
        have := hr'.symm.trans hr
        cases this
        cases hq
        exact .inr (Nat.le_refl _)
theorem append_where_string {t u ty e : TypeId} {i : TypeInfo} (ht : P.underlying t = some (.slice e)) (hu : P.underlying u = some .string) (hi : P.info? e = some i) (hz : i.zero = some (.int .u8 0)) (hsize : i.size = 1) (hby : i.bytes = 1)
    {base n : Nat} {v : Value} {xs : List Value} (ho : Own w base e 1 v n xs) (s : ByteArray) (hbytes : n + s.size ≤ 140737488355328) {v' : Value} {w' : World} (hr : (Builtin.append_ #[t, u] ty [v, .string s].toArray).run P w = .ok v' w') :
    ∀ q, InSl v' q → InSl v q ∨ sz w ≤ q := by
  obtain ⟨hl, hv⟩ := ho
  have hxl : xs.length = n := by simpa using hl
  intro q hq
  rcases hv with ⟨rfl, rfl⟩ | ⟨g, cap, cur, rfl, hb, hg, hc, hm, hs', htk⟩
  · by_cases hk : s.size = 0
    · have hn : Lib.strCells s = [] := List.eq_nil_of_length_eq_zero (by rw [Lib.strCells_length]; exact hk)
      have hr' : (Builtin.append_ #[t, u] ty [.slice none 0 0, .string s].toArray).run P w = .ok (.slice none 0 0) w := by
        have hf := Lib.run_firstCells_string (P := P) w 1 s
        rw [hk] at hf
        simp [Builtin.append_, run_underlying ht, run_underlying hu, sizeOf, typeInfo, hi, hsize, Builtin.lenOf, hk, hf]
      rw [hr'] at hr
      cases hr
      exact .inl hq
    · have hr' := run_append_nil_string (P := P) w t u ty e i (.int .u8 0) ht hu hi hz s (by omega) (by omega) (by rw [hby]; omega)
      have := hr'.symm.trans hr
      cases this
      cases hq
      exact .inr (Nat.le_refl _)
  · by_cases hroom : n + s.size ≤ cap
    · have hcs' : cur.size = cap := by simpa using hs'
      have hr' := Lib.run_append_room_string (P := P) w t u ty e i ht hu hi hsize g n cap cur hg s hroom (by omega)
      have := hr'.symm.trans hr
      cases this
      cases hq
      exact .inl rfl
    · have holds : ∀ j u, xs[j]? = some u → w.cell? ((⟨g, 0, none⟩ : Addr).add j) = some u :=
        World.ownsRow.cells (w := w) (base := base) (e := e) (size := 1) (n := n) (xs := xs) ⟨hl, .inr ⟨g, cap, cur, rfl, hb, hg, hc, hm, hs', htk⟩⟩ (g := g) rfl
      have hr' := Lib.run_append_grow_string (P := P) w t u ty e i (.int .u8 0) ht hu hi hz ⟨g, 0, none⟩ n cap xs (by rw [hsize]; simpa using hxl) holds s (by omega) (by omega) (by rw [hby]; exact growslice_fits (by omega) (by omega))
      have := hr'.symm.trans hr
      cases this
      cases hq
      exact .inr (Nat.le_refl _)
/-- append, with the place told -/
theorem V_append' {t e : TypeId} {ty : TypeId} {m bytes : Nat} {z : List Value} (hT : SlT P t e m bytes z) {base n k : Nat} {v x : Value} {xs ys : List Value} (ho : Own w base e m v n xs) (hx : Sl w m x k ys)
    (hy : ys.all plainV = true) (hb : base ≤ sz w) (hn : (n + k) * (bytes + 1) ≤ 140737488355328)
    (hk : ∀ v' w', Own w' base e m v' (n + k) (xs ++ ys) → w.grownBy w' v.ownBlock → (∀ q, InSl v' q → InSl v q ∨ sz w ≤ q) → K v' w') : V P (Builtin.append_ #[t, t] ty [v, x].toArray) w K := by
  have h := V_append (K := fun v' w' => (Builtin.append_ #[t, t] ty [v, x].toArray).run P w = .ok v' w' ∧ Own w' base e m v' (n + k) (xs ++ ys) ∧ w.grownBy w' v.ownBlock) (ty := ty) hT ho hx hy hb hn
  unfold V at h ⊢
  cases hr : (Builtin.append_ #[t, t] ty [v, x].toArray).run P w with
  | ok v' w' =>
    rw [hr] at h
    have h0 := V_append (P := P) (K := fun v1 w1 => v1 = v' → w1 = w' → Own w' base e m v' (n + k) (xs ++ ys) ∧ w.grownBy w' v.ownBlock) (ty := ty) hT ho hx hy hb hn (fun v1 w1 a b e1 e2 => by subst e1; subst e2; exact ⟨a, b⟩)
    unfold V at h0
    rw [hr] at h0
    obtain ⟨a, b⟩ := h0 rfl rfl
    exact hk _ _ a b (append_where hT ho hx hy hn hr)
  | halt x' w' =>
    have h0 := V_append (P := P) (K := fun v1 w1 => True) (ty := ty) hT ho hx hy hb hn (fun _ _ _ _ => trivial)
    unfold V at h0
    rw [hr] at h0
    exact h0
theorem V_push' {t e ty : TypeId} {m bytes : Nat} {z : List Value} (hT : SlT P t e m bytes z) {base n : Nat} {v x : Value} {xs cs : List Value} (ho : Own w base e m v n xs)
    (hc : x.cells = cs.toArray) (hl : cs.length = m) (hp : cs.all plainV = true) (hb : base ≤ sz w) (hm : m ≤ 16777216) (hn : (n + 1) * (bytes + 1) ≤ 140737488355328) {K2 : Value → Value → World → Prop}
    (hk : ∀ s v' w', Own w' base e m v' (n + 1) (xs ++ cs) → w.grownBy w' v.ownBlock → (∀ q, InSl v' q → InSl v q ∨ sz w ≤ q) → K2 s v' w') :
    V P (Instr.buildSlice t 1 [(0, x)].toArray) w (fun s w => V P (Builtin.append_ #[t, t] ty [v, s].toArray) w (K2 s)) := by
  refine V_build1 hT hc hl hm ?_
  have hu : Up w (w.alloc (.cells cs.toArray e)) := (Up.refl w).alloc _
  refine V_append' (base := base) (k := 1) hT (ho.Up hu) (Sl.at (sz w) 0 1 1 cs ⟨cs.toArray, e, (0, 0), gb_alloc_new rfl, by simp⟩ (by omega) (by omega)) hp (by simp; omega) hn ?_
  intro v' w' h1 h2 h3
  refine hk _ _ _ h1 (grownBy_trans_alloc h2) (fun q hq => ?_)
  rcases h3 q hq with h | h
  · exact .inl h
  · rw [sz_alloc] at h; exact .inr (by omega)
end
end Go.Lad

namespace Go.Lad
set_option autoImplicit false
set_option linter.unusedSimpArgs false

/-! who owns a block: an instance, a part of it, and a number -/
abbrev Clr := Nat × Nat × Nat
abbrev Col := Nat → Clr
/-- what some instances' calls leave as it was: the blocks of all others -/
structure FrS (S : Nat → Prop) (w : World) (col : Col) (w' : World) (col' : Col) : Prop where
  mod : Mod w w' (fun b => S (col b).1)
  ext : ∀ b, b < sz w → col' b = col b
section
variable {S : Nat → Prop}
theorem FrS.refl (S : Nat → Prop) (w : World) (col : Col) : FrS S w col w col := ⟨Mod.refl .., fun _ _ => rfl⟩
theorem FrS.trans {w1 w2 w3 : World} {c1 c2 c3 : Col} (h : FrS S w1 c1 w2 c2) (g : FrS S w2 c2 w3 c3) : FrS S w1 c1 w3 c3 := by
  refine ⟨⟨g.mod.os.trans h.mod.os, g.mod.tape.trans h.mod.tape, g.mod.output.trans h.mod.output, Nat.le_trans h.mod.size g.mod.size, fun b hb hf => ?_⟩, fun b hb => ?_⟩
  · rw [g.mod.keep b (Nat.lt_of_lt_of_le hb h.mod.size) (by rw [h.ext b hb]; exact hf), h.mod.keep b hb hf]
  · rw [g.ext b (Nat.lt_of_lt_of_le hb h.mod.size), h.ext b hb]
theorem FrS.mono {T : Nat → Prop} {w w' : World} {c c' : Col} (h : FrS S w c w' c') (hs : ∀ i, S i → T i) : FrS T w c w' c' := ⟨h.mod.mono fun q hq => hs _ hq, h.ext⟩
theorem FrS.up {w w' : World} (u : Up w w') (S : Nat → Prop) (col : Col) : FrS S w col w' col := ⟨u.mod _, fun _ _ => rfl⟩
theorem FrS.of_mod {w w' : World} {col : Col} {F : Nat → Prop} (m : Mod w w' F) (h : ∀ b, F b → S (col b).1 ∨ sz w ≤ b) : FrS S w col w' col := by
  refine ⟨⟨m.os, m.tape, m.output, m.size, fun b hb hf => m.keep b hb fun hF => ?_⟩, fun _ _ => rfl⟩
  rcases h b hF with h | h
  · exact hf h
  · omega
theorem FrS.size {w w' : World} {c c' : Col} (h : FrS S w c w' c') : sz w ≤ sz w' := h.mod.size
theorem FrS.keep {w w' : World} {c c' : Col} (h : FrS S w c w' c') {b : Nat} (hb : b < sz w) (hk : ¬ S (c b).1) : gb w' b = gb w b := h.mod.keep b hb hk
/-- what lay there before all instances of these stands -/
theorem FrS.base {w0 w w' : World} {c c' : Col} (h : FrS S w c w' c') (u : Up w0 w) (hb : ∀ b, b < sz w0 → ¬ S (c b).1) : Up w0 w' :=
  ⟨h.mod.os.trans u.os, h.mod.tape.trans u.tape, h.mod.output.trans u.output, Nat.le_trans u.size h.size, fun b hlt => (h.keep (Nat.lt_of_lt_of_le hlt u.size) (hb b hlt)).trans (u.keep b hlt)⟩
end
/-- one instance -/
abbrev Fr (k : Nat) (w : World) (col : Col) (w' : World) (col' : Col) : Prop := FrS (fun i => i = k) w col w' col'
theorem Fr.refl (k : Nat) (w : World) (col : Col) : Fr k w col w col := FrS.refl ..
theorem Fr.up {w w' : World} (u : Up w w') (k : Nat) (col : Col) : Fr k w col w' col := FrS.up u _ col
theorem Fr.of_mod {k : Nat} {w w' : World} {col : Col} {F : Nat → Prop} (m : Mod w w' F) (h : ∀ b, F b → (col b).1 = k ∨ sz w ≤ b) : Fr k w col w' col := FrS.of_mod m h
/-- instances from one to another one -/
abbrev Rg (lo hi : Nat) : Nat → Prop := fun i => lo ≤ i ∧ i ≤ hi
theorem Fr.rg {k lo hi : Nat} {w w' : World} {c c' : Col} (h : Fr k w c w' c') (h1 : lo ≤ k) (h2 : k ≤ hi) : FrS (Rg lo hi) w c w' c' := FrS.mono h fun i hi => by subst hi; exact ⟨h1, h2⟩
theorem FrS.rg {lo hi lo' hi' : Nat} {w w' : World} {c c' : Col} (h : FrS (Rg lo hi) w c w' c') (h1 : lo' ≤ lo) (h2 : hi ≤ hi') : FrS (Rg lo' hi') w c w' c' := FrS.mono h fun i hi => ⟨Nat.le_trans h1 hi.1, Nat.le_trans hi.2 h2⟩
open Classical in
/-- colours for new blocks -/
noncomputable def paint (col : Col) (lo : Nat) (S : Nat → Prop) (c : Clr) : Col := fun b => if lo ≤ b ∧ S b then c else col b
theorem paint_old {col : Col} {lo b : Nat} {S : Nat → Prop} {c : Clr} (h : b < lo) : paint col lo S c b = col b := by unfold paint; rw [if_neg (fun hh => by omega)]
theorem paint_in {col : Col} {lo b : Nat} {S : Nat → Prop} {c : Clr} (h : lo ≤ b) (hs : S b) : paint col lo S c b = c := by unfold paint; rw [if_pos ⟨h, hs⟩]
theorem paint_out {col : Col} {lo b : Nat} {S : Nat → Prop} {c : Clr} (hs : ¬ S b) : paint col lo S c b = col b := by unfold paint; rw [if_neg (fun hh => hs hh.2)]
theorem FrS.paint {T : Nat → Prop} {w w' : World} {col col' : Col} (h : FrS T w col w' col') {lo : Nat} (hlo : sz w ≤ lo) (S : Nat → Prop) (c : Clr) : FrS T w col w' (paint col' lo S c) :=
  ⟨h.mod, fun b hb => by rw [paint_old (Nat.lt_of_lt_of_le hb hlo)]; exact h.ext b hb⟩

/-- an owned slice of a colour -/
def OwnK (w : World) (col : Col) (c : Clr) (e : TypeId) (m : Nat) (v : Value) (n : Nat) (xs : List Value) : Prop := Own w 0 e m v n xs ∧ ∀ b, InSl v b → col b = c
theorem OwnK.fr {S : Nat → Prop} {w w' : World} {col col' : Col} {c : Clr} {e : TypeId} {m n : Nat} {v : Value} {xs : List Value} (h : OwnK w col c e m v n xs) (f : FrS S w col w' col') (hc : ¬ S c.1) : OwnK w' col' c e m v n xs :=
  ⟨Own.up h.1 fun b hb hi => f.keep hb (by rw [h.2 b hi]; exact hc), fun b hb => by rw [f.ext b (h.1.sl.lt hb)]; exact h.2 b hb⟩
/-- the same, when just some blocks of other colours are written to -/
theorem OwnK.mod {w w' : World} {col : Col} {c : Clr} {e : TypeId} {m n : Nat} {v : Value} {xs : List Value} {F : Nat → Prop} (h : OwnK w col c e m v n xs) (f : Mod w w' F) (hc : ∀ b, F b → col b ≠ c) : OwnK w' col c e m v n xs :=
  ⟨Own.up h.1 fun b hb hi => f.keep b hb (fun hF => hc b hF (h.2 b hi)), h.2⟩
theorem OwnK.up {w w' : World} {col : Col} {c : Clr} {e : TypeId} {m n : Nat} {v : Value} {xs : List Value} (h : OwnK w col c e m v n xs) (u : Up w w') : OwnK w' col c e m v n xs := ⟨Own.Up h.1 u, h.2⟩
theorem OwnK.paint {w : World} {col : Col} {c : Clr} {e : TypeId} {m n : Nat} {v : Value} {xs : List Value} (h : OwnK w col c e m v n xs) {lo : Nat} {S : Nat → Prop} {c' : Clr} (hlo : ∀ b, InSl v b → b < lo ∨ ¬ S b) : OwnK w (paint col lo S c') c e m v n xs :=
  ⟨h.1, fun b hb => by rcases hlo b hb with h1 | h1
                       · rw [paint_old h1]; exact h.2 b hb
                       · rw [paint_out h1]; exact h.2 b hb⟩
/-- what has been appended to keeps its colour, when the new block is painted -/
theorem OwnK.painted {w : World} {col : Col} {c : Clr} {e : TypeId} {m n : Nat} {v v' : Value} {xs : List Value} {base lo : Nat} (h : Own w base e m v' n xs) (hw : ∀ q, InSl v' q → InSl v q ∨ lo ≤ q) (hc : ∀ b, InSl v b → col b = c) : OwnK w (Lad.paint col lo (InSl v') c) c e m v' n xs := by
  refine ⟨Own.mono h (Nat.zero_le _), fun b hb => ?_⟩
  by_cases hlo : lo ≤ b
  · exact paint_in hlo hb
  · rw [paint_old (by omega)]
    rcases hw b hb with h1 | h1
    · exact hc b h1
    · omega
end Go.Lad

namespace Go.Lad
set_option autoImplicit false
set_option linter.unusedSimpArgs false
section
variable {κ ν : Type} [DecidableEq κ] {P : Program} {w : World} {K : Value → World → Prop} {kv : κ → Value} {vv : ν → Value}

/-- a walk over a map: what has come, and what is still to come -/
def WalkAt (w : World) (q r : Nat) (kv : κ → Value) (vv : ν → Value) (dn rest : List (κ × ν)) : Prop :=
  ∃ (es : Array MapEntry) (clock : Nat) (seen : Array Nat) (ed er : List MapEntry), gb w r = some (.map es clock) ∧ gb w q = some (.mapIter (some r) clock seen clock) ∧
    (∀ e ∈ es.toList, e.born < clock) ∧ (es.toList.map (·.born)).Nodup ∧ es.toList.Perm (ed ++ er) ∧ seen.toList = ed.map (·.born) ∧
    ed.map (fun e => (e.key, e.val)) = dn.map (fun p => (kv p.1, vv p.2)) ∧ er.map (fun e => (e.key, e.val)) = rest.map (fun p => (kv p.1, vv p.2))
omit [DecidableEq κ] in
theorem WalkAt.keep {w w' : World} {q r : Nat} {dn rest : List (κ × ν)} (h : WalkAt w q r kv vv dn rest) (h1 : gb w' q = gb w q) (h2 : gb w' r = gb w r) : WalkAt w' q r kv vv dn rest := by
  obtain ⟨es, c, seen, ed, er, a1, a2, rest⟩ := h
  exact ⟨es, c, seen, ed, er, h2.trans a1, h1.trans a2, rest⟩
omit [DecidableEq κ] in
theorem WalkAt.lt {w : World} {q r : Nat} {dn rest : List (κ × ν)} (h : WalkAt w q r kv vv dn rest) : q < sz w ∧ r < sz w ∧ q ≠ r := by
  obtain ⟨es, c, seen, ed, er, a1, a2, _⟩ := h
  exact ⟨lt_of_gb a2, lt_of_gb a1, fun e => by subst e; rw [a1] at a2; cases a2⟩
omit [DecidableEq κ] in
theorem V_range {t kt et : TypeId} (hu : P.underlying t = some (.map kt et)) {r : Nat} {l : List (κ × ν)} (h : MapIs w r kv vv l)
    (hk : ∀ w', Up w w' → WalkAt w' (sz w) r kv vv [] l → sz w' = sz w + 1 → K (ptr (sz w) 0) w') : V P (Instr.range t (.map (some r))) w K := by
  obtain ⟨es, c, h1, h2, h3, h4, h5⟩ := h
  have hrun := run_range_map (P := P) w t kt et r es c hu h1
  rw [V_eq hrun]
  have hlt := lt_of_gb h1
  refine hk _ ((Up.refl w).alloc _) ⟨es, c, #[], [], es.toList, (gb_alloc_old hlt).trans h1, gb_alloc_new rfl, h4, h5, List.Perm.refl _, rfl, rfl, ?_⟩ (sz_alloc ..)
  have hl : es.toList.length = l.length := by have := congrArg List.length h2; simpa using this
  apply List.ext_getElem?
  intro i
  have e1 := congrArg (fun q => q[i]?) h2
  have e2 := congrArg (fun q => q[i]?) h3
  simp only [List.getElem?_map] at e1 e2 ⊢
  cases hi : es.toList[i]? with
  | none =>
    rw [hi] at e1
    cases hj : l[i]? with
    | none => rfl
    | some p => rw [hj] at e1; cases e1
  | some e =>
    rw [hi] at e1 e2
    cases hj : l[i]? with
    | none => rw [hj] at e1; cases e1
    | some p => rw [hj] at e1 e2; simp at e1 e2; simp [e1, e2]
theorem split_map {α β : Type} {f : α → β} {l : List α} {xs : List β} {y : β} {zs : List β} (h : l.map f = xs ++ y :: zs) : ∃ a p b, l = a ++ p :: b ∧ a.map f = xs ∧ f p = y ∧ b.map f = zs := by
  obtain ⟨a, c, rfl, h1, h2⟩ := List.map_eq_append_iff.1 h
  obtain ⟨p, b, rfl, h3, h4⟩ := List.map_eq_cons_iff.1 h2
  exact ⟨a, p, b, rfl, h1, h3, h4⟩
omit [DecidableEq κ] in
theorem V_next {q r : Nat} {dn rest : List (κ × ν)} (h : WalkAt w q r kv vv dn rest) {ty : TypeId} (h0 : rest = [] → K (.tuple [.bool false].toArray) w)
    (h1 : ∀ a p b, rest = a ++ p :: b → ∀ w', WalkAt w' q r kv vv (dn ++ [p]) (a ++ b) → Mod w w' (· = q) → sz w' = sz w → K (.tuple [.bool true, kv p.1, vv p.2].toArray) w') : V P (Instr.next (ptr q 0) false ty) w K := by
  have hlt := h.lt
  obtain ⟨es, c, seen, ed, er, a1, a2, a3, a4, a5, a6, a7, a8⟩ := h
  have a1' : w.heap[r]? = _ := a1
  have a2' : w.heap[q]? = _ := a2
  have key : ((leftOf es seen).size = 0 ∧ (Instr.next (ptr q 0) false ty).run P w = .ok (.tuple [.bool false].toArray) w) ∨
      ∃ e ∈ (leftOf es seen).toList, ∃ w1 : World, (w1 = w ∨ w1 = w.drew) ∧ (Instr.next (ptr q 0) false ty).run P w = .ok (.tuple [.bool true, e.key, e.val].toArray) (putB w1 q (.mapIter (some r) c (seen.push e.born) c)) := by
    simp only [Instr.next, getObj, Sem.run_bind, Sem.run, a2', a1', Result.andThen, next_test_false seen es c c a3 (Nat.le_refl _), Bool.false_eq_true, if_false]
    unfold leftOf
    have hmem : ∀ x ∈ (Array.filter (fun e => !seen.contains e.born) es).toList, x.born < c := fun x hx => a3 x (by simp at hx ⊢; exact hx.1)
    generalize Array.filter (fun e => !seen.contains e.born) es = L at hmem ⊢
    have e1 : L.filter (fun x => decide (x.born < c)) = L := Array.filter_eq_self.2 (fun x hx => by simpa using hmem x (by simpa using hx))
    have e2 : L.filter (fun x => decide (x.born ≥ c)) = #[] := by
      rw [Array.filter_eq_empty_iff]
      intro x hx
      have := hmem x (by simpa using hx)
      simp
      omega
    simp only [e1, e2, Array.append_empty]
    by_cases h0 : L.size = 0
    · left
      have : L = #[] := Array.eq_empty_of_size_eq_zero h0
      subst this
      refine ⟨rfl, ?_⟩
      simp [choose, Sem.run, Question.forced]
    · right
      have hne : L.isEmpty = false := by simp [Array.isEmpty, h0]
      simp only [hne, Bool.false_eq_true, if_false, Array.empty_append, Array.size_map]
      have hch : ∃ (j : Nat) (w1 : World), j < L.size ∧ (w1 = w ∨ w1 = w.drew) ∧ (choose (Question.mapNext L.size)).run P w = .ok j w1 := by
        by_cases hf : L.size ≤ 1
        · exact ⟨0, w, by omega, .inl rfl, by simp [choose, Sem.run, Question.forced, hf]⟩
        · exact ⟨_, w.drew, Nat.mod_lt _ (by omega), .inr rfl, by
            simp only [choose, Sem.run, Question.forced, decide_eq_true_eq, hf, if_false, Question.cut]
            rfl⟩
      obtain ⟨j, w1, hj, hal, hrun⟩ := hch
      refine ⟨L[j], by simp, w1, hal, ?_⟩
      have hset : (setObj q (.mapIter (some r) c (seen.push L[j].born) c)).run P w1 = .ok () (putB w1 q (.mapIter (some r) c (seen.push L[j].born) c)) := by
        have : w1.heap[q]? = some (.mapIter (some r) c seen c) := by rcases hal with rfl | rfl <;> exact a2'
        simp [setObj, Sem.run, this, putB]
      simp only [hrun, Array.getElem?_map, Array.getElem?_eq_getElem hj, Option.map_some, Sem.run_bind, hset, Result.andThen]
      rfl
  have hseen : ∀ e ∈ es.toList, seen.contains e.born = true ↔ e ∈ ed := by
    intro e he
    rw [← Array.contains_toList, List.contains_iff_mem, a6]
    constructor
    · intro hm
      obtain ⟨x, hx, hxe⟩ := List.mem_map.1 hm
      have hxes : x ∈ es.toList := a5.mem_iff.2 (List.mem_append_left _ hx)
      have := born_inj a4 hxes he hxe
      subst this; exact hx
    · intro hm; exact List.mem_map.2 ⟨e, hm, rfl⟩
  have hnd : (ed ++ er).Nodup := by
    have h9 : es.toList.Nodup := by
      have := a4
      rw [List.nodup_iff_pairwise_ne, List.pairwise_map] at this
      exact this.imp fun hh e => hh (by rw [e])
    exact a5.nodup_iff.1 h9
  rcases key with ⟨k0, k1⟩ | ⟨e, he, w1, hw1, hrun⟩
  · have her : er = [] := by
      cases er with
      | nil => rfl
      | cons x er =>
        exfalso
        have hx : x ∈ es.toList := a5.mem_iff.2 (List.mem_append_right _ (List.mem_cons_self ..))
        have h9 := all_seen es seen k0 x hx
        have h10 := (hseen x hx).1 h9
        rw [List.nodup_append] at hnd
        exact hnd.2.2 x h10 x (List.mem_cons_self ..) rfl
    subst her
    have hr : rest = [] := by simpa using a8.symm
    rw [V_eq k1]
    exact h0 hr
  · obtain ⟨hm1, hm2⟩ := mem_left he
    have hne : e ∉ ed := fun hh => by have := (hseen e hm1).2 hh; rw [this] at hm2; cases hm2
    have her : e ∈ er := by
      have := a5.mem_iff.1 hm1
      rw [List.mem_append] at this
      rcases this with hh | hh
      · exact absurd hh hne
      · exact hh
    obtain ⟨e1, e2, rfl⟩ := List.append_of_mem her
    rw [List.map_append, List.map_cons] at a8
    obtain ⟨a, p, b, rfl, b1, b2, b3⟩ := split_map a8.symm
    simp only [Prod.mk.injEq] at b2
    rw [V_eq hrun, ← b2.1, ← b2.2]
    have hq1 : q < sz w1 := by rcases hw1 with rfl | rfl <;> exact hlt.1
    have hr1 : gb w1 r = some (.map es c) := by rcases hw1 with rfl | rfl <;> exact a1
    refine h1 a p b rfl _ ⟨es, c, _, ed ++ [e], e1 ++ e2, ?_, gb_putB_same hq1, a3, a4, ?_, ?_, ?_, ?_⟩ ?_ ?_
    · rw [gb_putB_ne (fun e => hlt.2.2 e.symm)]; exact hr1
    · refine a5.trans ?_
      rw [List.append_assoc]
      refine List.Perm.append_left ed ?_
      simpa using (List.perm_middle (a := e) (l₁ := e1) (l₂ := e2))
    · simp [a6]
    · simp [a7, b2]
    · simp [b1, b3]
    · rcases hw1 with rfl | rfl
      · exact Mod.put _ _ rfl
      · exact ((Up.refl w).drew.mod _).trans (Mod.put _ _ rfl)
    · rw [sz_putB]; rcases hw1 with rfl | rfl <;> rfl
/-- how many entries are still to come -/
def walkLeft (w : World) : Value → Nat
  | .pointer (some a) => (match gb w a.block with
    | some (.mapIter (some r) _ seen _) => (match gb w r with | some (.map es _) => es.size - seen.size | _ => 0)
    | _ => 0)
  | _ => 0
omit [DecidableEq κ] in
theorem walkLeft_eq {q r : Nat} {dn rest : List (κ × ν)} (h : WalkAt w q r kv vv dn rest) : walkLeft w (ptr q 0) = rest.length := by
  obtain ⟨es, c, seen, ed, er, a1, a2, a3, a4, a5, a6, a7, a8⟩ := h
  simp only [walkLeft, a2, a1]
  have h1 : es.size = ed.length + er.length := by have := a5.length_eq; simpa using this
  have h2 : seen.size = ed.length := by have := congrArg List.length a6; simpa using this
  have h3 : er.length = rest.length := by have := congrArg List.length a8; simpa using this
  omega
omit [DecidableEq κ] in
theorem V_entry {q r : Nat} {dn rest : List (κ × ν)} {p : κ × ν} (h : WalkAt w q r kv vv (dn ++ [p]) rest) (hk : K (.tuple [kv p.1, vv p.2].toArray) w) : V P (Instr.entry (ptr q 0)) w K := by
  obtain ⟨es, c, seen, ed, er, a1, a2, a3, a4, a5, a6, a7, a8⟩ := h
  have a1' : w.heap[r]? = _ := a1
  have a2' : w.heap[q]? = _ := a2
  rw [List.map_append, List.map_cons, List.map_nil] at a7
  obtain ⟨x, e, y, rfl, b1, b2, b3⟩ := split_map a7
  have hy : y = [] := by simpa using b3
  subst hy
  have he : e ∈ es.toList := a5.mem_iff.2 (by simp)
  have hf : es.find? (·.born == e.born) = some e := by rw [← Array.find?_toList]; exact find_born e es.toList a4 he
  have hb : seen.back? = some e.born := by
    rw [← Array.getLast?_toList, a6]; simp
  simp only [Prod.mk.injEq] at b2
  have hrun : (Instr.entry (ptr q 0)).run P w = .ok (.tuple [e.key, e.val].toArray) w := by
    simp only [Instr.entry, getObj, Sem.run_bind, Sem.run, a2', a1', Result.andThen, hb, bne_self_eq_false, Bool.false_eq_true, if_false, hf]
    rfl
  rw [V_eq hrun, b2.1, b2.2]
  exact hk
end
end Go.Lad

