/-
  DERIVED. GIVEN WITH THE SEED: THE CARDS: each row of YtajeaefpapnkbaaGreatDoorRows.lean that lists a variable, with what it lists TIED to the program's text (the seventh form; the later family's looks); each row that meets fmt, with fmt's text TOLD by the authors' own Lean function (tested against real Go, not proved from fmt's source: count such statements apart). THE CARD IS WHAT COUNTS. Prove the row's statement (the work); the ties are given (YtajeaefpapnkbaaGreatDoorTie.lean); close each card by the builder's one call (the guide's Derived/Test/ToyasCard.lean, 'card_holds'). Laid BY PROGRAM, IN A SANDBOX (cutbox-door.mjs). By AI agents, Wed Nov 11 2026. No macro, syntax, notation, axiom, sorry.
-/
import Derived.Test.YtajeaefpapnkbaaGreatDoorRows
import GoSem.ClaimSeven
namespace Go.Proofs.YtajeaefpapnkbaaGreatDoor
namespace Rows

/-- THE TIED CARD OF 'firnlaw09.ProvWhys'. -/
def provWhysCard : Claim7 := { stood := { row := provWhysRow, standIns := [], harness := (true, "14b03af7c1d26ef04687fa050e488e845ddb205a98e00688d815465143ee1bf7"), looks := false }, kinds := [], alts := [], laidByText := true, laidKinds := [.data, .pinned], laidTests := true, laidLooks := .later }
def ProvWhysCardSaid : Prop := Claim7.holds Tryz.pinned (.plain (OpenSpec.ofChange provWhysSpec)) provWhysCard

/-- THE SECOND FORM's CARD OF 'firnlaw09.ProvWhys'. -/
def provWhysUptoCard : Claim7 := { stood := { row := provWhysUptoRow, standIns := [], harness := (true, "14b03af7c1d26ef04687fa050e488e845ddb205a98e00688d815465143ee1bf7"), looks := false }, kinds := [], alts := [], laidByText := true, laidKinds := [.data, .pinned], laidTests := true, laidLooks := .later }
def ProvWhysUptoCardSaid : Prop := Claim7.holds Tryz.pinned (.plain (OpenSpec.upto provWhysSpec)) provWhysUptoCard
end Rows
end Go.Proofs.YtajeaefpapnkbaaGreatDoor
