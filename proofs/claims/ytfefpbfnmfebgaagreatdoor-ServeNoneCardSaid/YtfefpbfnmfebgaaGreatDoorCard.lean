/- For every three integers id, v and now, of Go's int, the statement ServeNone of ladinglaw24 returns true, over the given program, and each argument reads behind the call as it read before.
   Conditions: the row's own cells: package-level variables start as the program's text lays them (errors.errorType: tied by the given tie); this is the tied card Rows.ServeNoneCardSaid. Nothing else is asked: no bound on the arguments but Go's own. -/
import Derived.Test.YtfefpbfnmfebgaaGreatDoorRowHolds
set_option linter.all false
namespace Go.Proofs.YtfefpbfnmfebgaaGreatDoor
open Go Go.ChangeShapes Go.WideShapes Go.RowKit
set_option maxRecDepth 100000
theorem row_holds : Rows.ServeNoneSaid :=
  OpenClaim.holds_of_wide 3 Tryz.f3 rfl rfl rfl rfl rfl rfl rfl ⟨rfl, rfl, rfl, rfl, rfl⟩ rfl rfl rfl rfl rfl (by kernel_rfl) Tryz.func3 (by kernel_rfl)
    (of_decide_eq_true (by kernel_rfl)) (by unfold Func.isWrapper; rw [if_neg (of_decide_eq_false (by kernel_rfl))]; exact ⟨rfl, rfl⟩)
    (fun os started H enc _ => row_lifted os started H enc)
theorem card_holds : Rows.ServeNoneCardSaid :=
  Claim7.holds_tied_plain_at .later [] [.handle] true (true, "df1be82558c8bf4f449ae04ffb254dc1203bfb1561a1766d27d768e5d654fe4f") true
    row_holds (fun _ h => by cases h) (by kernel_rfl) (fun _ h => by cases h) serveNone_row_tie rfl ⟨rfl, rfl⟩ (by kernel_rfl) rfl
    (fun f fn hf hfn => by
      obtain rfl : f = 3 := Option.some.inj ((show Tryz.prog.funcNamed "lading/ladinglaw24.ServeNone" = some 3 by kernel_rfl).symm.trans hf) |>.symm
      obtain rfl : fn = Tryz.f3 := (Option.some.inj (Tryz.func3.symm.trans hfn)).symm
      exact ⟨by kernel_rfl, fun j t ht => by
        rw [Tryz.params3] at ht
        have h3 : t = 3 := by
          rcases j with _ | _ | _ | j
          · simpa using ht.symm
          · simpa using ht.symm
          · simpa using ht.symm
          · simp at ht
        subst h3
        exact (show Tryz.prog.wantsStandIn 3 = false by kernel_rfl)⟩)
    (by kernel_rfl)
end Go.Proofs.YtfefpbfnmfebgaaGreatDoor

