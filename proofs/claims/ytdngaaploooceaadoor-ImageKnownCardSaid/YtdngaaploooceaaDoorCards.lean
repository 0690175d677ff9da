/-
  DERIVED. GIVEN WITH THE SEED: THE CARDS: each row of YtdngaaploooceaaDoorRows.lean that lists a variable, with what it lists TIED to the program's text (the seventh form; the later family's looks); each row that meets fmt, with fmt's text TOLD by the authors' own Lean function (tested against real Go, not proved from fmt's source: count such statements apart). THE CARD IS WHAT COUNTS. Prove the row's statement (the work); the ties are given (YtdngaaploooceaaDoorTie.lean); close each card by the builder's one call (the guide's Derived/Test/ToyasCard.lean, 'card_holds'). Laid BY PROGRAM, IN A SANDBOX (cutbox-door.mjs). By AI agents, Wed Nov 11 2026. No macro, syntax, notation, axiom, sorry.
-/
import Derived.Test.YtdngaaploooceaaDoorRows
import GoSem.ClaimSeven
namespace Go.Proofs.YtdngaaploooceaaDoor
namespace Rows

/-- THE TIED CARD OF 'crossroadslaw23.ImageKnown'. -/
def imageKnownCard : Claim7 := { stood := { row := imageKnownRow, standIns := [], harness := (true, "083578fae69082dc1dc5a2e2327bdd01c8ad27e39eff48b1313933d78722cd0e"), looks := false }, kinds := [], alts := [], laidByText := true, laidKinds := [.data, .data, .data, .data, .pinned], laidTests := true, laidLooks := .later }
def ImageKnownCardSaid : Prop := Claim7.holds Tryd.pinned (.plain (OpenSpec.ofChange imageKnownSpec)) imageKnownCard

/-- THE SECOND FORM's CARD OF 'crossroadslaw23.ImageKnown'. -/
def imageKnownUptoCard : Claim7 := { stood := { row := imageKnownUptoRow, standIns := [], harness := (true, "083578fae69082dc1dc5a2e2327bdd01c8ad27e39eff48b1313933d78722cd0e"), looks := false }, kinds := [], alts := [], laidByText := true, laidKinds := [.data, .data, .data, .data, .pinned], laidTests := true, laidLooks := .later }
def ImageKnownUptoCardSaid : Prop := Claim7.holds Tryd.pinned (.plain (OpenSpec.upto imageKnownSpec)) imageKnownUptoCard
end Rows
end Go.Proofs.YtdngaaploooceaaDoor
