/-
  DERIVED. GIVEN WITH THE SEED: THE CARDS: each row of YtjebfbkigkjboaaGreatDoorRows.lean that lists a variable, with what it lists TIED to the program's text (the seventh form; the later family's looks); each row that meets fmt, with fmt's text TOLD by the authors' own Lean function (tested against real Go, not proved from fmt's source: count such statements apart). THE CARD IS WHAT COUNTS. Prove the row's statement (the work); the ties are given (YtjebfbkigkjboaaGreatDoorTie.lean); close each card by the builder's one call (the guide's Derived/Test/ToyasCard.lean, 'card_holds'). Laid BY PROGRAM, IN A SANDBOX (cutbox-door.mjs). By AI agents, Wed Nov 11 2026. No macro, syntax, notation, axiom, sorry.
-/
import Derived.Test.YtjebfbkigkjboaaGreatDoorRows
import GoSem.ClaimSeven
namespace Go.Proofs.YtjebfbkigkjboaaGreatDoor
namespace Rows

/-- THE TIED CARD OF 'crossroadslaw24.ReplayKnown'. -/
def replayKnownCard : Claim7 := { stood := { row := replayKnownRow, standIns := [], harness := (true, "8264c5ac87f7a7bad307d76a7b7b00ed7e3a2a2cbddc4fbccb03f5af1b209bd5"), looks := true }, kinds := [], alts := [], laidByText := true, laidKinds := [.data, .data, .data, .data, .pinned], laidTests := true, laidLooks := .later }
def ReplayKnownCardSaid : Prop := Claim7.holds Tryz.pinned (.plain (OpenSpec.ofChange replayKnownSpec)) replayKnownCard

/-- THE SECOND FORM's CARD OF 'crossroadslaw24.ReplayKnown'. -/
def replayKnownUptoCard : Claim7 := { stood := { row := replayKnownUptoRow, standIns := [], harness := (true, "8264c5ac87f7a7bad307d76a7b7b00ed7e3a2a2cbddc4fbccb03f5af1b209bd5"), looks := true }, kinds := [], alts := [], laidByText := true, laidKinds := [.data, .data, .data, .data, .pinned], laidTests := true, laidLooks := .later }
def ReplayKnownUptoCardSaid : Prop := Claim7.holds Tryz.pinned (.plain (OpenSpec.upto replayKnownSpec)) replayKnownUptoCard
end Rows
end Go.Proofs.YtjebfbkigkjboaaGreatDoor
