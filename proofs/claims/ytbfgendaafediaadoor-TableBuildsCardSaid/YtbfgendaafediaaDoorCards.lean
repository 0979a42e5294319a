/-
  DERIVED. GIVEN WITH THE SEED: THE CARDS: each row of YtbfgendaafediaaDoorRows.lean that lists a variable, with what it lists TIED to the program's text (the seventh form; the later family's looks); each row that meets fmt, with fmt's text TOLD by the authors' own Lean function (tested against real Go, not proved from fmt's source: count such statements apart). THE CARD IS WHAT COUNTS. Prove the row's statement (the work); the ties are given (YtbfgendaafediaaDoorTie.lean); close each card by the builder's one call (the guide's Derived/Test/ToyasCard.lean, 'card_holds'). Laid BY PROGRAM, IN A SANDBOX (cutbox-door.mjs). By AI agents, Wed Nov 11 2026. No macro, syntax, notation, axiom, sorry.
-/
import Derived.Test.YtbfgendaafediaaDoorRows
import GoSem.ClaimSeven
namespace Go.Proofs.YtbfgendaafediaaDoor
namespace Rows

/-- THE TIED CARD OF 'isoglosslaw11.TableFinds'. -/
def tableFindsCard : Claim7 := { stood := { row := tableFindsRow, standIns := [], harness := (true, "119de0aa058b74442210ff80b95cdbe1b7e9ae9c2a0ff9bcc40a584bbdaea4cf"), looks := true }, kinds := [], alts := [], laidByText := true, laidKinds := [.handle], laidTests := true, laidLooks := .later }
def TableFindsCardSaid : Prop := Claim7.holds Tryd.pinned (.plain (OpenSpec.ofChange tableFindsSpec)) tableFindsCard

/-- THE TIED CARD OF 'isoglosslaw11.TableStops'. -/
def tableStopsCard : Claim7 := { stood := { row := tableStopsRow, standIns := [], harness := (true, "119de0aa058b74442210ff80b95cdbe1b7e9ae9c2a0ff9bcc40a584bbdaea4cf"), looks := true }, kinds := [], alts := [], laidByText := true, laidKinds := [.handle], laidTests := true, laidLooks := .later }
def TableStopsCardSaid : Prop := Claim7.holds Tryd.pinned (.plain (OpenSpec.ofChange tableStopsSpec)) tableStopsCard

/-- THE TIED CARD OF 'isoglosslaw11.TableOrder'. -/
def tableOrderCard : Claim7 := { stood := { row := tableOrderRow, standIns := [], harness := (true, "119de0aa058b74442210ff80b95cdbe1b7e9ae9c2a0ff9bcc40a584bbdaea4cf"), looks := true }, kinds := [], alts := [], laidByText := true, laidKinds := [.handle], laidTests := true, laidLooks := .later }
def TableOrderCardSaid : Prop := Claim7.holds Tryd.pinned (.plain (OpenSpec.ofChange tableOrderSpec)) tableOrderCard

/-- THE TIED CARD OF 'isoglosslaw11.TableLess'. -/
def tableLessCard : Claim7 := { stood := { row := tableLessRow, standIns := [], harness := (true, "119de0aa058b74442210ff80b95cdbe1b7e9ae9c2a0ff9bcc40a584bbdaea4cf"), looks := true }, kinds := [], alts := [], laidByText := true, laidKinds := [.handle], laidTests := true, laidLooks := .later }
def TableLessCardSaid : Prop := Claim7.holds Tryd.pinned (.plain (OpenSpec.ofChange tableLessSpec)) tableLessCard

/-- THE TIED CARD OF 'isoglosslaw11.TableBuilds'. -/
def tableBuildsCard : Claim7 := { stood := { row := tableBuildsRow, standIns := [], harness := (true, "119de0aa058b74442210ff80b95cdbe1b7e9ae9c2a0ff9bcc40a584bbdaea4cf"), looks := true }, kinds := [], alts := [], laidByText := true, laidKinds := [.handle], laidTests := true, laidLooks := .later }
def TableBuildsCardSaid : Prop := Claim7.holds Tryd.pinned (.plain (OpenSpec.ofChange tableBuildsSpec)) tableBuildsCard

/-- THE SECOND FORM's CARD OF 'isoglosslaw11.TableFinds'. -/
def tableFindsUptoCard : Claim7 := { stood := { row := tableFindsUptoRow, standIns := [], harness := (true, "119de0aa058b74442210ff80b95cdbe1b7e9ae9c2a0ff9bcc40a584bbdaea4cf"), looks := true }, kinds := [], alts := [], laidByText := true, laidKinds := [.handle], laidTests := true, laidLooks := .later }
def TableFindsUptoCardSaid : Prop := Claim7.holds Tryd.pinned (.plain (OpenSpec.upto tableFindsSpec)) tableFindsUptoCard

/-- THE SECOND FORM's CARD OF 'isoglosslaw11.TableStops'. -/
def tableStopsUptoCard : Claim7 := { stood := { row := tableStopsUptoRow, standIns := [], harness := (true, "119de0aa058b74442210ff80b95cdbe1b7e9ae9c2a0ff9bcc40a584bbdaea4cf"), looks := true }, kinds := [], alts := [], laidByText := true, laidKinds := [.handle], laidTests := true, laidLooks := .later }
def TableStopsUptoCardSaid : Prop := Claim7.holds Tryd.pinned (.plain (OpenSpec.upto tableStopsSpec)) tableStopsUptoCard

/-- THE SECOND FORM's CARD OF 'isoglosslaw11.TableOrder'. -/
def tableOrderUptoCard : Claim7 := { stood := { row := tableOrderUptoRow, standIns := [], harness := (true, "119de0aa058b74442210ff80b95cdbe1b7e9ae9c2a0ff9bcc40a584bbdaea4cf"), looks := true }, kinds := [], alts := [], laidByText := true, laidKinds := [.handle], laidTests := true, laidLooks := .later }
def TableOrderUptoCardSaid : Prop := Claim7.holds Tryd.pinned (.plain (OpenSpec.upto tableOrderSpec)) tableOrderUptoCard

/-- THE SECOND FORM's CARD OF 'isoglosslaw11.TableLess'. -/
def tableLessUptoCard : Claim7 := { stood := { row := tableLessUptoRow, standIns := [], harness := (true, "119de0aa058b74442210ff80b95cdbe1b7e9ae9c2a0ff9bcc40a584bbdaea4cf"), looks := true }, kinds := [], alts := [], laidByText := true, laidKinds := [.handle], laidTests := true, laidLooks := .later }
def TableLessUptoCardSaid : Prop := Claim7.holds Tryd.pinned (.plain (OpenSpec.upto tableLessSpec)) tableLessUptoCard

/-- THE SECOND FORM's CARD OF 'isoglosslaw11.TableBuilds'. -/
def tableBuildsUptoCard : Claim7 := { stood := { row := tableBuildsUptoRow, standIns := [], harness := (true, "119de0aa058b74442210ff80b95cdbe1b7e9ae9c2a0ff9bcc40a584bbdaea4cf"), looks := true }, kinds := [], alts := [], laidByText := true, laidKinds := [.handle], laidTests := true, laidLooks := .later }
def TableBuildsUptoCardSaid : Prop := Claim7.holds Tryd.pinned (.plain (OpenSpec.upto tableBuildsSpec)) tableBuildsUptoCard
end Rows
end Go.Proofs.YtbfgendaafediaaDoor
