/-
  DERIVED. GIVEN WITH THE SEED: THE CARDS: each row of YtdngaaploooceaaGreatDoorRows.lean that lists a variable, with what it lists TIED to the program's text (the seventh form; the later family's looks); each row that meets fmt, with fmt's text TOLD by the authors' own Lean function (tested against real Go, not proved from fmt's source: count such statements apart). THE CARD IS WHAT COUNTS. Prove the row's statement (the work); the ties are given (YtdngaaploooceaaGreatDoorTie.lean); close each card by the builder's one call (the guide's Derived/Test/ToyasCard.lean, 'card_holds'). Laid BY PROGRAM, IN A SANDBOX (cutbox-door.mjs). By AI agents, Wed Nov 11 2026. No macro, syntax, notation, axiom, sorry.
-/
import Derived.Test.YtdngaaploooceaaGreatDoorRows
import GoSem.ClaimSeven
namespace Go.Proofs.YtdngaaploooceaaGreatDoor
namespace Rows

/-- THE TIED CARD OF 'crossroadslaw23.ImageTurns'. -/
def imageTurnsCard : Claim7 := { stood := { row := imageTurnsRow, standIns := [], harness := (true, "75bf66c8274738bd2263a312287e2a18742c093a30f4f9913bf07cf6ba0f1c1f"), looks := false }, kinds := [], alts := [], laidByText := true, laidKinds := [.data, .data, .data, .data, .pinned], laidTests := true, laidLooks := .later }
def ImageTurnsCardSaid : Prop := Claim7.holds Tryz.pinned (.plain (OpenSpec.ofChange imageTurnsSpec)) imageTurnsCard

/-- THE TIED CARD OF 'crossroadslaw23.ImageReads'. -/
def imageReadsCard : Claim7 := { stood := { row := imageReadsRow, standIns := [], harness := (true, "75bf66c8274738bd2263a312287e2a18742c093a30f4f9913bf07cf6ba0f1c1f"), looks := false }, kinds := [], alts := [], laidByText := true, laidKinds := [.data, .data, .data, .data, .pinned], laidTests := true, laidLooks := .later }
def ImageReadsCardSaid : Prop := Claim7.holds Tryz.pinned (.plain (OpenSpec.ofChange imageReadsSpec)) imageReadsCard

/-- THE TIED CARD OF 'crossroadslaw23.ImageApart'. -/
def imageApartCard : Claim7 := { stood := { row := imageApartRow, standIns := [], harness := (true, "75bf66c8274738bd2263a312287e2a18742c093a30f4f9913bf07cf6ba0f1c1f"), looks := false }, kinds := [], alts := [], laidByText := true, laidKinds := [.data, .data, .data, .data, .pinned], laidTests := true, laidLooks := .later }
def ImageApartCardSaid : Prop := Claim7.holds Tryz.pinned (.plain (OpenSpec.ofChange imageApartSpec)) imageApartCard

/-- THE SECOND FORM's CARD OF 'crossroadslaw23.ImageTurns'. -/
def imageTurnsUptoCard : Claim7 := { stood := { row := imageTurnsUptoRow, standIns := [], harness := (true, "75bf66c8274738bd2263a312287e2a18742c093a30f4f9913bf07cf6ba0f1c1f"), looks := false }, kinds := [], alts := [], laidByText := true, laidKinds := [.data, .data, .data, .data, .pinned], laidTests := true, laidLooks := .later }
def ImageTurnsUptoCardSaid : Prop := Claim7.holds Tryz.pinned (.plain (OpenSpec.upto imageTurnsSpec)) imageTurnsUptoCard

/-- THE SECOND FORM's CARD OF 'crossroadslaw23.ImageReads'. -/
def imageReadsUptoCard : Claim7 := { stood := { row := imageReadsUptoRow, standIns := [], harness := (true, "75bf66c8274738bd2263a312287e2a18742c093a30f4f9913bf07cf6ba0f1c1f"), looks := false }, kinds := [], alts := [], laidByText := true, laidKinds := [.data, .data, .data, .data, .pinned], laidTests := true, laidLooks := .later }
def ImageReadsUptoCardSaid : Prop := Claim7.holds Tryz.pinned (.plain (OpenSpec.upto imageReadsSpec)) imageReadsUptoCard

/-- THE SECOND FORM's CARD OF 'crossroadslaw23.ImageApart'. -/
def imageApartUptoCard : Claim7 := { stood := { row := imageApartUptoRow, standIns := [], harness := (true, "75bf66c8274738bd2263a312287e2a18742c093a30f4f9913bf07cf6ba0f1c1f"), looks := false }, kinds := [], alts := [], laidByText := true, laidKinds := [.data, .data, .data, .data, .pinned], laidTests := true, laidLooks := .later }
def ImageApartUptoCardSaid : Prop := Claim7.holds Tryz.pinned (.plain (OpenSpec.upto imageApartSpec)) imageApartUptoCard
end Rows
end Go.Proofs.YtdngaaploooceaaGreatDoor
