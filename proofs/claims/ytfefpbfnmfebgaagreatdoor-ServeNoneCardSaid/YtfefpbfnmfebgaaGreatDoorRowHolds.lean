/- Part of a proof (its text RowHolds): what is proved stands in the text Card. -/
import Derived.ChangeSame
import Derived.ChangeVars
import Derived.JoinedOf
import Derived.RowKit
import Derived.RowKitTokens
import Derived.LaidLaws
import Derived.LaidHandle
import Derived.Stop.Joined
import Derived.SevenTiedAt
import Derived.Test.YtfefpbfnmfebgaaGreatDoorAwake
import Derived.Test.YtfefpbfnmfebgaaGreatDoorRows
import Derived.Test.YtfefpbfnmfebgaaGreatDoorCards
import Derived.Test.YtfefpbfnmfebgaaGreatDoorTie
set_option linter.all false
namespace Go.Proofs.YtfefpbfnmfebgaaGreatDoor
open Go Go.ChangeShapes Go.WideShapes Go.RowKit
set_option maxRecDepth 100000

theorem row_own : ownKnob Tryz.prog.godebug = none := by kernel_rfl
theorem row_et : Tryz.prog.globalNamed "errors.errorType" = some 0 := by kernel_rfl
theorem row_rt : (Tryz.prog.cutTypes.find? (·.1 == "internal/reflectlite.rtype")).map (·.2) = some Tryz.ty_reflectlite_rtype := by kernel_rfl
theorem row_one : ((List.range 392).filter fun t => Tryz.prog.rowNamed t [101, 114, 114, 111, 114]) = [Tryz.ty_error] := by kernel_rfl
theorem row_size : Tryz.prog.types.size = 392 := by kernel_rfl
/-- what the condition gives a walk: the variable's one cell -/
theorem handle_of_laid {W : World} (h : laidMetH Tryz.prog Rows.serveNoneRow.laid W) : Tryz.ErrG W := by
  have h' : laidMet Tryz.prog [] W ∧ handlesMet Tryz.prog Rows.serveNoneRow.laid W := h
  obtain ⟨name, u, ty, e1, e2, e3, e4, e5⟩ := h'.2 _ (List.mem_singleton.2 rfl)
  have en : name = [101, 114, 114, 111, 114] := (Option.some.inj e1).symm
  subst en
  obtain rfl := Option.some.inj (row_rt.symm.trans e2)
  have hm : ty ∈ (List.range 392).filter fun t => Tryz.prog.rowNamed t [101, 114, 114, 111, 114] := List.mem_filter.2 ⟨List.mem_range.2 (by rw [← row_size]; exact e3), e4⟩
  rw [row_one] at hm
  obtain rfl := List.mem_singleton.1 hm
  have hh : typeHandle Tryz.prog Tryz.ty_error = .pointer (some ⟨2, Tryz.ty_error, none⟩) := by kernel_rfl
  rw [hh] at e5
  have := World.var?_cell row_et e5 0
  unfold Tryz.ErrG
  simpa using this
/-- a world that meets the condition: the settled one, the variable's cell laid -/
noncomputable def laidWorld (os : Os) : World :=
  let w0 := World.holding Tryz.prog os ⟨#[], #[], []⟩
  { w0 with heap := w0.heap.modify 0 fun
      | .cells _ t frozen => .cells #[.iface Tryz.ty_reflectlite_rtype (.agg #[.pointer (some ⟨2, Tryz.ty_error, none⟩)])] t frozen
      | o => o }
theorem laidWorld_met (os : Os) (args : Array Value) : laidMetH Tryz.prog Rows.serveNoneRow.laid ((laidWorld os).forCall (fun _ _ => 0) ⟨#[], args, []⟩).memory :=
  laidMetH_of_parts (laidMet_nil _ _) (by kernel_rfl)
theorem row_u3 : Tryz.prog.underlying 3 = some (.int .i64) := by kernel_rfl
theorem row_u4 : Tryz.prog.underlying 4 = some .bool := by kernel_rfl

theorem row_lifted (os : Os) (started : os.Started) (H : Type) (enc : TypeId × Value → H) :
    ReturnsInHanded {} Tryz.checked os 3 .any (fun w args => (Rows.serveNoneSpec.pre enc Tryz.prog Tryz.f3 [] false w args ∧ laidMetH Tryz.prog Rows.serveNoneRow.laid w) ∧ sizedMet enc Tryz.prog Tryz.f3 (OpenSpec.ofChange Rows.serveNoneSpec) false w args)
      (Rows.serveNoneSpec.post enc Tryz.prog Tryz.f3 false true false false) := by
  refine returnsInHanded_of_change_and (C := Tryz.checked) (X := fun w _ => laidMetH Tryz.prog Rows.serveNoneRow.laid w) (fun _ _ _ hh h => h.of_heap hh) row_own started (by kernel_rfl) Tryz.func3
    (ChangeSpec.witness_at (enc := enc) (C := Tryz.checked) (os := os) (X := fun w _ => laidMetH Tryz.prog Rows.serveNoneRow.laid w) false (laidWorld os) #[.int .i64 0, .int .i64 0, .int .i64 0] 8 rfl (by kernel_rfl) (by kernel_rfl) (by kernel_rfl) (by kernel_rfl) (by kernel_rfl) (laidWorld_met os _)) ?_
  intro W base args ds gs before hval0 hW _ _ hL _
  have hval : ∀ (j : Nat) t v, Tryz.f3.params[j]? = some t → args[j]? = some v → Value.okWide Tryz.prog W .any base t v := hval0
  have hW' := hW
  obtain ⟨p, q, hA0, hV0, rfl, hfz, hnd⟩ := hW
  have hA : DataW.TrodAll enc Tryz.prog W 0 (fun _ => true) true Tryz.f3.params.toList args.toList ds p := hA0
  have hV : DataW.TrodVars enc Tryz.prog W (fun _ => true) [] gs q := hV0
  rw [Tryz.params3] at hA hval
  obtain ⟨v0, v1, v2, d0, d1, d2, p0, p1, p2, rfl, rfl, rfl, h0, h1, h2⟩ := trodAll_three hA
  obtain ⟨a, rfl, rfl, rfl, wa⟩ := open_int row_u3 (hval 0 3 v0 rfl rfl) h0
  obtain ⟨b, rfl, rfl, rfl, wb⟩ := open_int row_u3 (hval 1 3 v1 rfl rfl) h1
  obtain ⟨c, rfl, rfl, rfl, wc⟩ := open_int row_u3 (hval 2 3 v2 rfl rfl) h2
  have hg := handle_of_laid hL
  obtain ⟨rfl, rfl⟩ : gs = [] ∧ q = [] := by
    cases gs with
    | nil => exact ⟨rfl, hV⟩
    | cons g r => exact absurd hV (by intro h; cases h)
  have e1 : Rows.serveNoneSpec.fn H ([.lit (.int .i64 a), .lit (.int .i64 b), .lit (.int .i64 c)] ++ []) = { results := [.lit (.bool true)], args := [.lit (.int .i64 a), .lit (.int .i64 b), .lit (.int .i64 c)] } := by simp [Rows.serveNoneSpec]
  have hlo : -9223372036854775808 ≤ c := by
    simp only [Lit.wf, Bool.and_eq_true, decide_eq_true_eq] at wc
    exact wc.1
  have hc := Tryz.c_ServeNone (id := a) (v := b) (now := c) hlo hg (K := fun r w' => r = .bool true ∧ Lad.Up W w') fun w' u => ⟨rfl, u⟩
  refine Calls.mono hc ?_
  rintro e W' he
  cases e with
  | returned v =>
    obtain ⟨rfl, hu⟩ := he
    refine ⟨_, rfl, _, _, _, [], [], [], hW', ?_, ?_, ?_, hu.below.frame _, fun h => by cases h⟩
    · rw [e1]; exact trodAll_mk1 (shut_bool row_u4 true)
    · rw [e1]; exact trodAll_mk3 (shut_int row_u3 wa) (shut_int row_u3 wb) (shut_int row_u3 wc)
    · rw [e1]; rfl
  | _ => cases he
end Go.Proofs.YtfefpbfnmfebgaaGreatDoor

