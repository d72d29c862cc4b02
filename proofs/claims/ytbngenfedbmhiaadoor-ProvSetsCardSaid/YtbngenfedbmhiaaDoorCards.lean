/-
  DERIVED. GIVEN WITH THE SEED: THE CARDS: each row of YtbngenfedbmhiaaDoorRows.lean that lists a variable, with what it lists TIED to the program's text (the seventh form; the later family's looks); each row that meets fmt, with fmt's text TOLD by the authors' own Lean function (tested against real Go, not proved from fmt's source: count such statements apart). THE CARD IS WHAT COUNTS. Prove the row's statement (the work); the ties are given (YtbngenfedbmhiaaDoorTie.lean); close each card by the builder's one call (the guide's Derived/Test/ToyasCard.lean, 'card_holds'). Laid BY PROGRAM, IN A SANDBOX (cutbox-door.mjs). By AI agents, Wed Nov 11 2026. No macro, syntax, notation, axiom, sorry.
-/
import Derived.Test.YtbngenfedbmhiaaDoorRows
import GoSem.ClaimSeven
namespace Go.Proofs.YtbngenfedbmhiaaDoor
namespace Rows

/-- THE TIED CARD OF 'firnlaw09.ProvSets'. -/
def provSetsCard : Claim7 := { stood := { row := provSetsRow, standIns := [], harness := (true, "f1bd4dd984dfeed48a4c5d649a94ccdbe3a7a90534d7aed0e6d126d349ae8a58"), looks := false }, kinds := [], alts := [], laidByText := true, laidKinds := [.data, .pinned], laidTests := true, laidLooks := .later }
def ProvSetsCardSaid : Prop := Claim7.holds Tryd.pinned (.plain (OpenSpec.ofChange provSetsSpec)) provSetsCard

/-- THE SECOND FORM's CARD OF 'firnlaw09.ProvSets'. -/
def provSetsUptoCard : Claim7 := { stood := { row := provSetsUptoRow, standIns := [], harness := (true, "f1bd4dd984dfeed48a4c5d649a94ccdbe3a7a90534d7aed0e6d126d349ae8a58"), looks := false }, kinds := [], alts := [], laidByText := true, laidKinds := [.data, .pinned], laidTests := true, laidLooks := .later }
def ProvSetsUptoCardSaid : Prop := Claim7.holds Tryd.pinned (.plain (OpenSpec.upto provSetsSpec)) provSetsUptoCard
end Rows
end Go.Proofs.YtbngenfedbmhiaaDoor
