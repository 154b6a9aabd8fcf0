/-
  DERIVED. GIVEN WITH THE SEED: THE CARDS: each row of YtfefpbfnmfebgaaGreatDoorRows.lean that lists a variable, with what it lists TIED to the program's text (the seventh form; the later family's looks); each row that meets fmt, with fmt's text TOLD by the authors' own Lean function (tested against real Go, not proved from fmt's source: count such statements apart). THE CARD IS WHAT COUNTS. Prove the row's statement (the work); the ties are given (YtfefpbfnmfebgaaGreatDoorTie.lean); close each card by the builder's one call (the guide's Derived/Test/ToyasCard.lean, 'card_holds'). Laid BY PROGRAM, IN A SANDBOX (cutbox-door.mjs). By AI agents, Wed Nov 11 2026. No macro, syntax, notation, axiom, sorry.
-/
import Derived.Test.YtfefpbfnmfebgaaGreatDoorRows
import GoSem.ClaimSeven
namespace Go.Proofs.YtfefpbfnmfebgaaGreatDoor
namespace Rows

/-- THE TIED CARD OF 'ladinglaw24.ServeNone'. -/
def serveNoneCard : Claim7 := { stood := { row := serveNoneRow, standIns := [], harness := (true, "df1be82558c8bf4f449ae04ffb254dc1203bfb1561a1766d27d768e5d654fe4f"), looks := true }, kinds := [], alts := [], laidByText := true, laidKinds := [.handle], laidTests := true, laidLooks := .later }
def ServeNoneCardSaid : Prop := Claim7.holds Tryz.pinned (.plain (OpenSpec.ofChange serveNoneSpec)) serveNoneCard

/-- THE SECOND FORM's CARD OF 'ladinglaw24.ServeNone'. -/
def serveNoneUptoCard : Claim7 := { stood := { row := serveNoneUptoRow, standIns := [], harness := (true, "df1be82558c8bf4f449ae04ffb254dc1203bfb1561a1766d27d768e5d654fe4f"), looks := true }, kinds := [], alts := [], laidByText := true, laidKinds := [.handle], laidTests := true, laidLooks := .later }
def ServeNoneUptoCardSaid : Prop := Claim7.holds Tryz.pinned (.plain (OpenSpec.upto serveNoneSpec)) serveNoneUptoCard
end Rows
end Go.Proofs.YtfefpbfnmfebgaaGreatDoor
