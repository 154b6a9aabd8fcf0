/- Part of a proof (its text Code): what is proved stands in the text Card. -/
import Derived.LaidEql
import Derived.Stop.Asserts
import Derived.RowKitTokens
import Derived.Test.YtfefpbfnmfebgaaGreatDoorBase
import Derived.Test.YtfefpbfnmfebgaaGreatDoorFormsB
import Derived.Test.YtfefpbfnmfebgaaGreatDoorOctet
set_option linter.all false
namespace Go.Proofs.Tryz
open Go Go.RowKit Go.Extern.Stop Go.Stop Go.Extern Go.Lad
set_option autoImplicit false
set_option maxRecDepth 100000

/-! what internal/reflectlite's entries answer, at the types of errors.As's target *api.Errno -/
theorem as_valueOfP (t : Addr) (w : World) : (ReflectliteValue.unpack (.iface 100 (.pointer (some t)))).run Tryz.prog w
    = .ok (.agg #[.pointer (some ⟨2, 100, none⟩), .pointer (some ⟨w.heap.size, 0, none⟩), .int .u64 150]) (w.alloc (.cells #[.pointer (some t)] 100)) := by kernel_rfl
theorem as_typeP (a : Addr) (w : World) : (ReflectliteValue.methodAny (ReflectliteValue.valueError "reflectlite.Value.Type" 0) (fun t _ _ _ => ReflectliteType.toType t) #[.agg #[.pointer (some ⟨2, 100, none⟩), .pointer (some a), .int .u64 150]]).run Tryz.prog w
    = .ok (.iface 213 (.agg #[.pointer (some ⟨2, 100, none⟩)])) w := by kernel_rfl
theorem as_methodKind (h : Value) (w : World) : (Go.method 492 213 (.agg #[h]) "Kind").run Tryz.prog w = .ok (273, h) w := by kernel_rfl
theorem as_kindP (w : World) : ((ReflectliteType.abiMethod fun t => (fun a : Nat => Value.int IntKind.u8 (a : Int)) <$> Rtype.kind t) #[.pointer (some ⟨2, 100, none⟩)]).run Tryz.prog w = .ok (.int .u8 22) w := by kernel_rfl
theorem as_kindE (w : World) : ((ReflectliteType.abiMethod fun t => (fun a : Nat => Value.int IntKind.u8 (a : Int)) <$> Rtype.kind t) #[.pointer (some ⟨2, 88, none⟩)]).run Tryz.prog w = .ok (.int .u8 2) w := by kernel_rfl
theorem as_rlm (z : Sem Value) (f : TypeId → Addr → Nat → Nat → Sem Value) (v : Value) :
    ReflectliteValue.method z f #[v] = (do match ← ReflectliteValue.parts v with | none => z | some (t, a, fl) => f t a fl (fl % 32)) := rfl
theorem as_partsP (a : Addr) (w : World) : (ReflectliteValue.parts (.agg #[.pointer (some ⟨2, 100, none⟩), .pointer (some a), .int .u64 150])).run Tryz.prog w = .ok (some (100, a, 150)) w := by kernel_rfl
theorem as_uP : Tryz.prog.underlying 100 = some (.pointer 88) := by kernel_rfl
theorem as_uE : Tryz.prog.underlying 88 = some (.int .i64) := by kernel_rfl
theorem as_isNilP (a p : Addr) (W : World) (ha : W.cell? a = some (.pointer (some p))) :
    (ReflectliteValue.method (ReflectliteValue.valueError "reflectlite.Value.IsNil" 0) ReflectliteValue.isNil #[.agg #[.pointer (some ⟨2, 100, none⟩), .pointer (some a), .int .u64 150]]).run Tryz.prog W = .ok (.bool false) W := by
  rw [as_rlm]
  simp only [Sem.run_bind, as_partsP, Result.andThen]
  simp [ReflectliteValue.isNil, loadVar, isAgg, run_underlying as_uP, ha, Result.andThen]
theorem as_methodElem (h : Value) (w : World) : (Go.method 492 213 (.agg #[h]) "Elem").run Tryz.prog w = .ok (287, .agg #[h]) w := by kernel_rfl
theorem as_methodImplements (h : Value) (w : World) : (Go.method 492 213 (.agg #[h]) "Implements").run Tryz.prog w = .ok (288, .agg #[h]) w := by kernel_rfl
theorem as_methodAssignableTo (h : Value) (w : World) : (Go.method 492 213 (.agg #[h]) "AssignableTo").run Tryz.prog w = .ok (285, .agg #[h]) w := by kernel_rfl
theorem as_elemP (w : World) : (ReflectliteType.method ReflectliteType.elem #[.agg #[.pointer (some ⟨2, 100, none⟩)]]).run Tryz.prog w = .ok (.iface 213 (.agg #[.pointer (some ⟨2, 88, none⟩)])) w := by kernel_rfl
theorem as_implementsE (w : World) : (ReflectliteType.relation "Implements" ReflectliteType.implements_ #[.agg #[.pointer (some ⟨2, 88, none⟩)], .iface 213 (.agg #[.pointer (some ⟨2, 25, none⟩)])]).run Tryz.prog w = .ok (.bool true) w := by kernel_rfl
theorem as_typeOfE (v : Value) (w : World) : (ReflectliteType.typeOf #[.iface 88 v]).run Tryz.prog w = .ok (.iface 213 (.agg #[.pointer (some ⟨2, 88, none⟩)])) w := by kernel_rfl
theorem as_assignableE (w : World) : (ReflectliteType.relation "AssignableTo" ReflectliteType.assignableTo #[.agg #[.pointer (some ⟨2, 88, none⟩)], .iface 213 (.agg #[.pointer (some ⟨2, 88, none⟩)])]).run Tryz.prog w = .ok (.bool true) w := by kernel_rfl
theorem as_valueOfE (n : Int) (w : World) : (ReflectliteValue.unpack (.iface 88 (.int .i64 n))).run Tryz.prog w
    = .ok (.agg #[.pointer (some ⟨2, 88, none⟩), .pointer (some ⟨w.heap.size, 0, none⟩), .int .u64 130]) (w.alloc (.cells #[.int .i64 n] 88)) := by kernel_rfl
theorem as_elemOfP (w : World) : (Rtype.elem? 100).run Tryz.prog w = .ok (some 88) w := by kernel_rfl
theorem as_mkE (p : Addr) (w : World) : (ReflectliteValue.mk 88 p ReflectliteValue.flagAddr).run Tryz.prog w = .ok (.agg #[.pointer (some ⟨2, 88, none⟩), .pointer (some p), .int .u64 386]) w := by kernel_rfl
theorem as_elemVP (a p : Addr) (W : World) (ha : W.cell? a = some (.pointer (some p))) :
    (ReflectliteValue.method (ReflectliteValue.valueError "reflectlite.Value.Elem" 0) ReflectliteValue.elem #[.agg #[.pointer (some ⟨2, 100, none⟩), .pointer (some a), .int .u64 150]]).run Tryz.prog W
      = .ok (.agg #[.pointer (some ⟨2, 88, none⟩), .pointer (some p), .int .u64 386]) W := by
  rw [as_rlm]
  simp only [Sem.run_bind, as_partsP, Result.andThen]
  simp [ReflectliteValue.elem, loadVar, isAgg, run_underlying as_uP, ha, Result.andThen, as_elemOfP, as_mkE]
theorem as_rls (v x : Value) : ReflectliteValue.set #[v, x] = (do
    let (some (dst, a, fl), some (src, b, _)) := (← ReflectliteValue.parts v, ← ReflectliteValue.parts x)
      | unsupported (.noEntry "extern/(internal/reflectlite.Value).Set.zeroValue")
    if fl / ReflectliteValue.flagAddr % 2 == 0 then unsupported (.noEntry "extern/(internal/reflectlite.Value).Set.unaddressable")
    let val ← loadVar src b
    if ← Rtype.directlyAssignable dst src then storeVar dst a val
    else if ← Rtype.implements dst src then
      if (← Rtype.kind src) == 20 then
        match val with
        | .nilIface => unsupported (.noEntry "extern/reflectlite: a nil value of one interface type handed on as a value of another")
        | _ => storeVar dst a val
      else storeVar dst a (.iface src val)
    else panicString ("reflectlite.Set: value of type " ++ (← Rtype.spelt src) ++ " is not assignable to type " ++ (← Rtype.spelt dst))
    pure (.tuple #[])) := rfl
theorem as_partsEa (a : Addr) (w : World) : (ReflectliteValue.parts (.agg #[.pointer (some ⟨2, 88, none⟩), .pointer (some a), .int .u64 386])).run Tryz.prog w = .ok (some (88, a, 386)) w := by kernel_rfl
theorem as_partsE (a : Addr) (w : World) : (ReflectliteValue.parts (.agg #[.pointer (some ⟨2, 88, none⟩), .pointer (some a), .int .u64 130])).run Tryz.prog w = .ok (some (88, a, 130)) w := by kernel_rfl
theorem as_directE (w : World) : (Rtype.directlyAssignable 88 88).run Tryz.prog w = .ok true w := by kernel_rfl
theorem as_setE (ta b : Addr) (n : Int) (old : Value) (W : World) (hb : W.cell? b = some (.int .i64 n)) (ht : W.cell? ta = some old) (hf : W.frozen? ta = false) :
    (ReflectliteValue.set #[.agg #[.pointer (some ⟨2, 88, none⟩), .pointer (some ta), .int .u64 386], .agg #[.pointer (some ⟨2, 88, none⟩), .pointer (some b), .int .u64 130]]).run Tryz.prog W
      = .ok (.tuple #[]) (W.setCell ta (.int .i64 n)) := by
  rw [as_rls]
  simp only [Sem.run_bind, as_partsEa, as_partsE, Result.andThen]
  simp [ReflectliteValue.flagAddr, loadVar, isAgg, run_underlying as_uE, hb, Result.andThen, as_directE, storeVar, Value.cells, storeCells, Addr.add]
  rw [run_store Tryz.prog W ta _ _ (by rfl)]
  simp [ht, hf]

set_option maxHeartbeats 4000000 in
theorem as_hit (n : Int) (t : Addr) (old : Value) (w : World) (hg : w.cell? ⟨0, 0, none⟩ = some (.iface 213 (.agg #[.pointer (some ⟨2, 25, none⟩)]))) (ht0 : w.cell? t = some old) (hf0 : w.frozen? t = false) :
    Calls Tryz.prog 33 #[.iface 88 (.int .i64 n), .iface 100 (.pointer (some t))] w fun ev w' => ev = .returned (.bool true) ∧ w' = ((((w.alloc (.cells #[.pointer (some t)] 100)).alloc (.cells #[.pointer (some ⟨2, 100, none⟩), .pointer (some ⟨w.heap.size, 0, none⟩), .int .u64 150] 158)).alloc (.cells #[.pointer (some ⟨2, 100, none⟩), .pointer (some ⟨w.heap.size, 0, none⟩), .int .u64 150] 158)).alloc (.cells #[.int .i64 n] 88)).setCell t (.int .i64 n) := by
  have h6 := @run_callFunc_extern Tryz.prog 75 _ (fun args => ReflectliteValue.unpack (args.getD 0 (.tuple #[]))) Tryz.func75 (by kernel_rfl) (by kernel_rfl) (by kernel_rfl) (by kernel_rfl)
  have h7 := @run_callFunc_extern Tryz.prog 76 _ (ReflectliteValue.methodAny (ReflectliteValue.valueError "reflectlite.Value.Type" 0) (fun t _ _ _ => ReflectliteType.toType t)) Tryz.func76 (by kernel_rfl) (by kernel_rfl) (by kernel_rfl) (by kernel_rfl)
  have h8 := @run_callFunc_extern Tryz.prog 77 _ (ReflectliteValue.method (ReflectliteValue.valueError "reflectlite.Value.IsNil" 0) ReflectliteValue.isNil) Tryz.func77 (by kernel_rfl) (by kernel_rfl) (by kernel_rfl) (by kernel_rfl)
  have h27 := @run_callFunc_extern Tryz.prog 273 _ (ReflectliteType.abiMethod fun t => do pure (.int .u8 (← Rtype.kind t))) Tryz.func273 (by kernel_rfl) (by kernel_rfl) (by kernel_rfl) (by kernel_rfl)
  have h37 := @run_callFunc_extern Tryz.prog 287 _ (ReflectliteType.method ReflectliteType.elem) Tryz.func287 (by kernel_rfl) (by kernel_rfl) (by kernel_rfl) (by kernel_rfl)
  have h38 := @run_callFunc_extern Tryz.prog 288 _ (ReflectliteType.relation "Implements" ReflectliteType.implements_) Tryz.func288 (by kernel_rfl) (by kernel_rfl) (by kernel_rfl) (by kernel_rfl)
  have h10 := @run_callFunc_extern Tryz.prog 73 _ ReflectliteType.typeOf Tryz.func73 (by kernel_rfl) (by kernel_rfl) (by kernel_rfl) (by kernel_rfl)
  have h35 := @run_callFunc_extern Tryz.prog 285 _ (ReflectliteType.relation "AssignableTo" ReflectliteType.assignableTo) Tryz.func285 (by kernel_rfl) (by kernel_rfl) (by kernel_rfl) (by kernel_rfl)
  have h11 := @run_callFunc_extern Tryz.prog 120 _ (ReflectliteValue.method (ReflectliteValue.valueError "reflectlite.Value.Elem" 0) ReflectliteValue.elem) Tryz.func120 (by kernel_rfl) (by kernel_rfl) (by kernel_rfl) (by kernel_rfl)
  have h12 := @run_callFunc_extern Tryz.prog 121 _ ReflectliteValue.set Tryz.func121 (by kernel_rfl) (by kernel_rfl) (by kernel_rfl) (by kernel_rfl)
  have tO := as_typeOfE
  have mA := as_methodAssignableTo
  have a25 := as_assignableE
  have v25 := as_valueOfE
  have f6 := as_valueOfP
  have f7 := as_typeP
  have mK := as_methodKind
  have mE := as_methodElem
  have mI := as_methodImplements
  have k27 := as_kindP
  have k25 := as_kindE
  have e27 := as_elemP
  have i25 := as_implementsE
  have n8 := as_isNilP ⟨w.heap.size, 0, none⟩ t ((w.alloc (.cells #[.pointer (some t)] 100)).alloc (.cells #[.pointer (some ⟨2, 100, none⟩), .pointer (some ⟨w.heap.size, 0, none⟩), .int .u64 150] 158)) (by simp)
  have hlt : 0 < w.heap.size := by
    rcases Nat.eq_zero_or_pos w.heap.size with h0 | h
    · simp [World.cell?, h0] at hg
    · exact h
  have hg2 : ((w.alloc (.cells #[.pointer (some t)] 100)).alloc (.cells #[.pointer (some ⟨2, 100, none⟩), .pointer (some ⟨w.heap.size, 0, none⟩), .int .u64 150] 158)).cell? ⟨0, 0, none⟩ = some (.iface 213 (.agg #[.pointer (some ⟨2, 25, none⟩)])) := by
    rw [World.cell?_alloc_lt _ _ ⟨0, 0, none⟩ (by simp), World.cell?_alloc_lt _ _ ⟨0, 0, none⟩ hlt]; exact hg
  have htl : t.block < w.heap.size := by
    rcases Nat.lt_or_ge t.block w.heap.size with h | h
    · exact h
    · simp [World.cell?, Array.getElem?_eq_none h] at ht0
  have el := as_elemVP ⟨w.heap.size, 0, none⟩ t (((w.alloc (.cells #[.pointer (some t)] 100)).alloc (.cells #[.pointer (some ⟨2, 100, none⟩), .pointer (some ⟨w.heap.size, 0, none⟩), .int .u64 150] 158)).alloc (.cells #[.pointer (some ⟨2, 100, none⟩), .pointer (some ⟨w.heap.size, 0, none⟩), .int .u64 150] 158)) (by rw [World.cell?_alloc_lt _ _ ⟨w.heap.size, 0, none⟩ (by simp; omega)]; simp)
  have st := as_setE t ⟨w.heap.size + 1 + 1 + 1, 0, none⟩ n old ((((w.alloc (.cells #[.pointer (some t)] 100)).alloc (.cells #[.pointer (some ⟨2, 100, none⟩), .pointer (some ⟨w.heap.size, 0, none⟩), .int .u64 150] 158)).alloc (.cells #[.pointer (some ⟨2, 100, none⟩), .pointer (some ⟨w.heap.size, 0, none⟩), .int .u64 150] 158)).alloc (.cells #[.int .i64 n] 88))
    (by rw [World.cell?_alloc_at _ _ _ _ (by simp)]; rfl)
    (by rw [World.cell?_alloc_lt _ _ t (by simp; omega), World.cell?_alloc_lt _ _ t (by simp; omega), World.cell?_alloc_lt _ _ t (by simp; omega), World.cell?_alloc_lt _ _ t htl]; exact ht0)
    (by rw [World.frozen?_alloc_old _ _ t (by simp; omega), World.frozen?_alloc_old _ _ t (by simp; omega), World.frozen?_alloc_old _ _ t (by simp; omega), World.frozen?_alloc_old _ _ t (Nat.ne_of_lt htl)]; exact hf0)
  go_enter Tryz.func33, Tryz.ntmps33
  go_wp2
  refine wp_loop_rounds 1 ?_
  rw [rounds_succ]
  go_wp2
  go_ret
  exact ⟨rfl, rfl⟩
end Go.Proofs.Tryz

namespace Go.Proofs.Tryz
open Go Go.Lad
set_option autoImplicit false
set_option maxRecDepth 100000
set_option linter.unusedSimpArgs false
set_option linter.unusedVariables false

/-- the laid variable: errors.errorType -/
def ErrG (w : World) : Prop := w.cell? ⟨0, 0, none⟩ = some (.iface ty_reflectlite_rtype (.agg #[.pointer (some ⟨2, ty_error, none⟩)]))
theorem ErrG.lt {w : World} (h : ErrG w) : 0 < sz w := by
  rcases Nat.eq_zero_or_pos (sz w) with h0 | h1
  · have : w.heap.size = 0 := h0
    simp [ErrG, World.cell?, this] at h
  · exact h1
theorem ErrG.keep {w w' : World} (h : ErrG w) (u : gb w' 0 = gb w 0) : ErrG w' := by
  unfold ErrG World.cell? at *
  rw [show w'.heap[0]? = w.heap[0]? from u]
  exact h
theorem ErrG.up {w w' : World} (h : ErrG w) (u : Up w w') : ErrG w' := h.keep (u.keep 0 h.lt)
theorem c_api_Code_nil {w : World} {K : Value → World → Prop} (hk : K (N 0) w) : CallF pg n_api_Code [.nilIface] w K := by
  apply ln_api_Code
  simp only [sh_api_Code, EqNil_i0, IfV_true]
  exact hk
theorem c_api_Code_err {n : Nat} {w : World} (hg : ErrG w) {K : Value → World → Prop} (hk : ∀ w', Up w w' → K (N n) w') : CallF pg n_api_Code [eErr n] w K := by
  apply ln_api_Code
  simp only [sh_api_Code, EqNil_i1, IfV_false]
  refine New_of (cs := [N 0]) fun w1 u1 hA hz1 => ?_
  have hg1 := hg.up u1
  have ht : w1.cell? ⟨sz w, 0, none⟩ = some (N 0) := by
    unfold World.cell?
    rw [show w1.heap[sz w]? = _ from hA]; rfl
  have hf : w1.frozen? ⟨sz w, 0, none⟩ = false := by
    unfold World.frozen?
    rw [show w1.heap[sz w]? = _ from hA]; rfl
  refine (as_hit (n : Int) ⟨sz w, 0, none⟩ (N 0) w1 hg1 ht hf).mono ?_
  rintro e w' ⟨rfl, rfl⟩
  simp only [IfV_true]
  have u2 : Up w1 ((((w1.alloc (.cells #[.pointer (some ⟨sz w, 0, none⟩)] 100)).alloc (.cells #[.pointer (some ⟨2, 100, none⟩), .pointer (some ⟨w1.heap.size, 0, none⟩), .int .u64 150] 158)).alloc (.cells #[.pointer (some ⟨2, 100, none⟩), .pointer (some ⟨w1.heap.size, 0, none⟩), .int .u64 150] 158)).alloc (.cells #[.int .i64 n] 88)) := ((((Up.refl w1).alloc _).alloc _).alloc _).alloc _
  have hA2 := hA.up u2
  have u02 := u1.trans u2
  generalize (((w1.alloc (.cells #[.pointer (some ⟨sz w, 0, none⟩)] 100)).alloc (.cells #[.pointer (some ⟨2, 100, none⟩), .pointer (some ⟨w1.heap.size, 0, none⟩), .int .u64 150] 158)).alloc (.cells #[.pointer (some ⟨2, 100, none⟩), .pointer (some ⟨w1.heap.size, 0, none⟩), .int .u64 150] 158)).alloc (.cells #[.int .i64 n] 88) = w2 at u2 hA2 u02 ⊢
  have ht2 : w2.cell? ⟨sz w, 0, none⟩ = some (N 0) := by
    unfold World.cell?
    rw [show w2.heap[sz w]? = _ from hA2]; rfl
  have hc : (w2.setCell ⟨sz w, 0, none⟩ (.int .i64 n)).cell? ⟨sz w, 0, none⟩ = some (N n) := World.cell?_setCell_same (a := ⟨sz w, 0, none⟩) (v := .int .i64 n) w2 ht2
  have u3 : Up w (w2.setCell ⟨sz w, 0, none⟩ (.int .i64 n)) := by
    have hb : RowKit.Below (sz w) w2 (w2.setCell ⟨sz w, 0, none⟩ (.int .i64 n)) :=
      ⟨rfl, rfl, rfl, by simp [World.setCell], fun i hi => by simp [World.setCell, Array.getElem?_modify]; intro e; omega⟩
    exact ⟨hb.os.trans u02.os, hb.tape.trans u02.tape, hb.output.trans u02.output, Nat.le_trans u02.size hb.size, fun b hb' => (hb.block b hb').trans (u02.keep b hb')⟩
  simp only [Ld, hc]
  exact hk _ u3
end Go.Proofs.Tryz

