/-
  DERIVED. GIVEN WITH THE SEED: THE CARDS: each row of YtnooelecdbbfkaaGreatDoorRows.lean that lists a variable, with what it lists TIED to the program's text (the seventh form; the later family's looks); each row that meets fmt, with fmt's text TOLD by the authors' own Lean function (tested against real Go, not proved from fmt's source: count such statements apart). THE CARD IS WHAT COUNTS. Prove the row's statement (the work); the ties are given (YtnooelecdbbfkaaGreatDoorTie.lean); close each card by the builder's one call (the guide's Derived/Test/ToyasCard.lean, 'card_holds'). Laid BY PROGRAM, IN A SANDBOX (cutbox-door.mjs). By AI agents, Wed Nov 11 2026. No macro, syntax, notation, axiom, sorry.
-/
import Derived.Test.YtnooelecdbbfkaaGreatDoorRows
import GoSem.ClaimSeven
namespace Go.Proofs.YtnooelecdbbfkaaGreatDoor
namespace Rows

/-- THE TIED CARD OF 'isoglosslaw13.ImageRight'. -/
def imageRightCard : Claim7 := { stood := { row := imageRightRow, standIns := [], harness := (true, "667d66a8612b2d65880df56fea20b6c0468add3a3805b0384a0d740cb67777aa"), looks := true }, kinds := [], alts := [], laidByText := true, laidKinds := [.data], laidTests := true, laidLooks := .later }
def ImageRightCardSaid : Prop := Claim7.holds Tryz.pinned (.plain (OpenSpec.ofChange imageRightSpec)) imageRightCard

/-- THE TIED CARD OF 'isoglosslaw13.ImageTurned'. -/
def imageTurnedCard : Claim7 := { stood := { row := imageTurnedRow, standIns := [], harness := (true, "667d66a8612b2d65880df56fea20b6c0468add3a3805b0384a0d740cb67777aa"), looks := true }, kinds := [], alts := [], laidByText := true, laidKinds := [.data], laidTests := true, laidLooks := .later }
def ImageTurnedCardSaid : Prop := Claim7.holds Tryz.pinned (.plain (OpenSpec.ofChange imageTurnedSpec)) imageTurnedCard

/-- THE TIED CARD OF 'isoglosslaw15.DataTells'. -/
def dataTellsCard : Claim7 := { stood := { row := dataTellsRow, standIns := [], harness := (true, "667d66a8612b2d65880df56fea20b6c0468add3a3805b0384a0d740cb67777aa"), looks := true }, kinds := [], alts := [], laidByText := true, laidKinds := [.data], laidTests := true, laidLooks := .later }
def DataTellsCardSaid : Prop := Claim7.holds Tryz.pinned (.plain (OpenSpec.ofChange dataTellsSpec)) dataTellsCard

/-- THE TIED CARD OF 'isoglosslaw13.ImageLess'. -/
def imageLessCard : Claim7 := { stood := { row := imageLessRow, standIns := [], harness := (true, "667d66a8612b2d65880df56fea20b6c0468add3a3805b0384a0d740cb67777aa"), looks := true }, kinds := [], alts := [], laidByText := true, laidKinds := [.handle, .data], laidTests := true, laidLooks := .later }
def ImageLessCardSaid : Prop := Claim7.holds Tryz.pinned (.plain (OpenSpec.ofChange imageLessSpec)) imageLessCard

/-- THE TIED CARD OF 'isoglosslaw13.ImageMany'. -/
def imageManyCard : Claim7 := { stood := { row := imageManyRow, standIns := [], harness := (true, "667d66a8612b2d65880df56fea20b6c0468add3a3805b0384a0d740cb67777aa"), looks := true }, kinds := [], alts := [], laidByText := true, laidKinds := [.handle, .data], laidTests := true, laidLooks := .later }
def ImageManyCardSaid : Prop := Claim7.holds Tryz.pinned (.plain (OpenSpec.ofChange imageManySpec)) imageManyCard

/-- THE TIED CARD OF 'isoglosslaw13.ImageEncodes'. -/
def imageEncodesCard : Claim7 := { stood := { row := imageEncodesRow, standIns := [], harness := (true, "667d66a8612b2d65880df56fea20b6c0468add3a3805b0384a0d740cb67777aa"), looks := true }, kinds := [], alts := [], laidByText := true, laidKinds := [.handle, .data], laidTests := true, laidLooks := .later }
def ImageEncodesCardSaid : Prop := Claim7.holds Tryz.pinned (.plain (OpenSpec.ofChange imageEncodesSpec)) imageEncodesCard

/-- THE TIED CARD OF 'isoglosslaw13.ImageBack'. -/
def imageBackCard : Claim7 := { stood := { row := imageBackRow, standIns := [], harness := (true, "667d66a8612b2d65880df56fea20b6c0468add3a3805b0384a0d740cb67777aa"), looks := true }, kinds := [], alts := [], laidByText := true, laidKinds := [.data], laidTests := true, laidLooks := .later }
def ImageBackCardSaid : Prop := Claim7.holds Tryz.pinned (.plain (OpenSpec.ofChange imageBackSpec)) imageBackCard

/-- THE TIED CARD OF 'isoglosslaw13.ImageDecodes'. -/
def imageDecodesCard : Claim7 := { stood := { row := imageDecodesRow, standIns := [], harness := (true, "667d66a8612b2d65880df56fea20b6c0468add3a3805b0384a0d740cb67777aa"), looks := true }, kinds := [], alts := [], laidByText := true, laidKinds := [.handle, .data], laidTests := true, laidLooks := .later }
def ImageDecodesCardSaid : Prop := Claim7.holds Tryz.pinned (.plain (OpenSpec.ofChange imageDecodesSpec)) imageDecodesCard

/-- THE SECOND FORM's CARD OF 'isoglosslaw13.ImageRight'. -/
def imageRightUptoCard : Claim7 := { stood := { row := imageRightUptoRow, standIns := [], harness := (true, "667d66a8612b2d65880df56fea20b6c0468add3a3805b0384a0d740cb67777aa"), looks := true }, kinds := [], alts := [], laidByText := true, laidKinds := [.data], laidTests := true, laidLooks := .later }
def ImageRightUptoCardSaid : Prop := Claim7.holds Tryz.pinned (.plain (OpenSpec.upto imageRightSpec)) imageRightUptoCard

/-- THE SECOND FORM's CARD OF 'isoglosslaw13.ImageTurned'. -/
def imageTurnedUptoCard : Claim7 := { stood := { row := imageTurnedUptoRow, standIns := [], harness := (true, "667d66a8612b2d65880df56fea20b6c0468add3a3805b0384a0d740cb67777aa"), looks := true }, kinds := [], alts := [], laidByText := true, laidKinds := [.data], laidTests := true, laidLooks := .later }
def ImageTurnedUptoCardSaid : Prop := Claim7.holds Tryz.pinned (.plain (OpenSpec.upto imageTurnedSpec)) imageTurnedUptoCard

/-- THE SECOND FORM's CARD OF 'isoglosslaw15.DataTells'. -/
def dataTellsUptoCard : Claim7 := { stood := { row := dataTellsUptoRow, standIns := [], harness := (true, "667d66a8612b2d65880df56fea20b6c0468add3a3805b0384a0d740cb67777aa"), looks := true }, kinds := [], alts := [], laidByText := true, laidKinds := [.data], laidTests := true, laidLooks := .later }
def DataTellsUptoCardSaid : Prop := Claim7.holds Tryz.pinned (.plain (OpenSpec.upto dataTellsSpec)) dataTellsUptoCard

/-- THE SECOND FORM's CARD OF 'isoglosslaw13.ImageLess'. -/
def imageLessUptoCard : Claim7 := { stood := { row := imageLessUptoRow, standIns := [], harness := (true, "667d66a8612b2d65880df56fea20b6c0468add3a3805b0384a0d740cb67777aa"), looks := true }, kinds := [], alts := [], laidByText := true, laidKinds := [.handle, .data], laidTests := true, laidLooks := .later }
def ImageLessUptoCardSaid : Prop := Claim7.holds Tryz.pinned (.plain (OpenSpec.upto imageLessSpec)) imageLessUptoCard

/-- THE SECOND FORM's CARD OF 'isoglosslaw13.ImageMany'. -/
def imageManyUptoCard : Claim7 := { stood := { row := imageManyUptoRow, standIns := [], harness := (true, "667d66a8612b2d65880df56fea20b6c0468add3a3805b0384a0d740cb67777aa"), looks := true }, kinds := [], alts := [], laidByText := true, laidKinds := [.handle, .data], laidTests := true, laidLooks := .later }
def ImageManyUptoCardSaid : Prop := Claim7.holds Tryz.pinned (.plain (OpenSpec.upto imageManySpec)) imageManyUptoCard

/-- THE SECOND FORM's CARD OF 'isoglosslaw13.ImageEncodes'. -/
def imageEncodesUptoCard : Claim7 := { stood := { row := imageEncodesUptoRow, standIns := [], harness := (true, "667d66a8612b2d65880df56fea20b6c0468add3a3805b0384a0d740cb67777aa"), looks := true }, kinds := [], alts := [], laidByText := true, laidKinds := [.handle, .data], laidTests := true, laidLooks := .later }
def ImageEncodesUptoCardSaid : Prop := Claim7.holds Tryz.pinned (.plain (OpenSpec.upto imageEncodesSpec)) imageEncodesUptoCard

/-- THE SECOND FORM's CARD OF 'isoglosslaw13.ImageBack'. -/
def imageBackUptoCard : Claim7 := { stood := { row := imageBackUptoRow, standIns := [], harness := (true, "667d66a8612b2d65880df56fea20b6c0468add3a3805b0384a0d740cb67777aa"), looks := true }, kinds := [], alts := [], laidByText := true, laidKinds := [.data], laidTests := true, laidLooks := .later }
def ImageBackUptoCardSaid : Prop := Claim7.holds Tryz.pinned (.plain (OpenSpec.upto imageBackSpec)) imageBackUptoCard

/-- THE SECOND FORM's CARD OF 'isoglosslaw13.ImageDecodes'. -/
def imageDecodesUptoCard : Claim7 := { stood := { row := imageDecodesUptoRow, standIns := [], harness := (true, "667d66a8612b2d65880df56fea20b6c0468add3a3805b0384a0d740cb67777aa"), looks := true }, kinds := [], alts := [], laidByText := true, laidKinds := [.handle, .data], laidTests := true, laidLooks := .later }
def ImageDecodesUptoCardSaid : Prop := Claim7.holds Tryz.pinned (.plain (OpenSpec.upto imageDecodesSpec)) imageDecodesUptoCard
end Rows
end Go.Proofs.YtnooelecdbbfkaaGreatDoor
