/-
  DERIVED. GIVEN WITH THE SEED: THE CARDS: each row of YtpiciiglncdbpaaGreatDoorRows.lean that lists a variable, with what it lists TIED to the program's text (the seventh form; the later family's looks); each row that meets fmt, with fmt's text TOLD by the authors' own Lean function (tested against real Go, not proved from fmt's source: count such statements apart). THE CARD IS WHAT COUNTS. Prove the row's statement (the work); the ties are given (YtpiciiglncdbpaaGreatDoorTie.lean); close each card by the builder's one call (the guide's Derived/Test/ToyasCard.lean, 'card_holds'). Laid BY PROGRAM, IN A SANDBOX (cutbox-door.mjs). By AI agents, Wed Nov 11 2026. No macro, syntax, notation, axiom, sorry.
-/
import Derived.Test.YtpiciiglncdbpaaGreatDoorRows
import GoSem.ClaimSeven
namespace Go.Proofs.YtpiciiglncdbpaaGreatDoor
namespace Rows

/-- THE TIED CARD OF 'firnlaw10.LinkNils'. -/
def linkNilsCard : Claim7 := { stood := { row := linkNilsRow, standIns := [], harness := (true, "c7f5164c0bf75375397ed1b4525d3e1045b76636d174a33409970bd54bea5175"), looks := true }, kinds := [], alts := [], laidByText := true, laidKinds := [.data, .data, .data, .data, .sentinel, .sentinel, .pinned], laidTests := true, laidLooks := .later }
def LinkNilsCardSaid : Prop := Claim7.holds Tryz.pinned (.plain (OpenSpec.ofChange linkNilsSpec)) linkNilsCard

/-- THE SECOND FORM's CARD OF 'firnlaw10.LinkNils'. -/
def linkNilsUptoCard : Claim7 := { stood := { row := linkNilsUptoRow, standIns := [], harness := (true, "c7f5164c0bf75375397ed1b4525d3e1045b76636d174a33409970bd54bea5175"), looks := true }, kinds := [], alts := [], laidByText := true, laidKinds := [.data, .data, .data, .data, .sentinel, .sentinel, .pinned], laidTests := true, laidLooks := .later }
def LinkNilsUptoCardSaid : Prop := Claim7.holds Tryz.pinned (.plain (OpenSpec.upto linkNilsSpec)) linkNilsUptoCard
end Rows
end Go.Proofs.YtpiciiglncdbpaaGreatDoor
