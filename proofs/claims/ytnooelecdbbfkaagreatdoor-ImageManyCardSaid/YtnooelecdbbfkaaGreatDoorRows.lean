/-
  NARROWER THAN 'FOR EVERY INPUT', by the rows' own cells (each row's printed sentence says how): ImageRight: laid · ImageTurned: laid · DataTells: laid · ImageLess: laid · ImageMany: laid · ImageEncodes: laid · ImageBack: laid · ImageDecodes: laid.
  DERIVED. THE GIVEN ROWS OF THIS SEAT. 8 by the template 'for every input the law returns true; each argument reads behind the call as it read before'; 0 by the template 'total and deterministic' (their statements: YtnooelecdbbfkaaGreatDoorTotals.lean).
  GIVEN WITH THE SEED: the statements are not yours to turn. If you find one false, say at which input.
  Laid BY PROGRAM, IN A SANDBOX (cutbox-rows.mjs): the forced cells as the released guide's own fill.sh prints them over the translation b5bb35d625171231… (all of the seat's roots in one cut). By AI agents, Wed Nov 11 2026. No macro, syntax, notation, axiom, sorry.
-/
import Derived.Test.YtnooelecdbbfkaaGreatDoorChecked
import GoSem.Claim
import GoSem.ClaimJoined
import GoSem.ClaimMapViews
import Derived.JoinedTies
import Derived.KernelRfl
namespace Go.Proofs.YtnooelecdbbfkaaGreatDoor
/- THE CELL 'sum', in the pinned program and in every row, IS THE sha256 OF THE DUMP (.gsa) THAT YtnooelecdbbfkaaGreatDoorProg.lean LOADS. Nothing in Lean hashes anything: it is a label: what it is worth is what the hold of that sum in a sandbox is worth. -/
noncomputable def Tryz.pinned : Pinned := { name := "ytnooelecdbbfkaagreatdoor", sum := "b5bb35d6251712319f9f621471372a89fb73878e62266771d78682f40b921def", checked := Tryz.checked }
namespace Rows
def none {H : Type} : Left H := { results := [], args := [] }

/- WHAT THE LISTED PACKAGE-LEVEL VARIABLES READ AS WHEN THE CALL BEGINS. Each datum BY PROGRAM (the guide's laid-datum.mjs) off the statement by which the dump's own 'gosem.cut.vars' lays the variable. In a bare row this is a premise. The card (YtnooelecdbbfkaaGreatDoorCards.lean) ties it to the program's text. -/
def laid_isogloss_grand_names {H : Type} : DataW H := .agg [.lit (.string [97, 114, 116, 45, 108, 111, 106, 98, 97, 110]), .lit (.string [99, 101, 108, 45, 103, 97, 117, 108, 105, 115, 104]), .lit (.string [101, 110, 45, 103, 98, 45, 111, 101, 100]), .lit (.string [105, 45, 97, 109, 105]), .lit (.string [105, 45, 98, 110, 110]), .lit (.string [105, 45, 100, 101, 102, 97, 117, 108, 116]), .lit (.string [105, 45, 101, 110, 111, 99, 104, 105, 97, 110]), .lit (.string [105, 45, 104, 97, 107]), .lit (.string [105, 45, 107, 108, 105, 110, 103, 111, 110]), .lit (.string [105, 45, 108, 117, 120]), .lit (.string [105, 45, 109, 105, 110, 103, 111]), .lit (.string [105, 45, 110, 97, 118, 97, 106, 111]), .lit (.string [105, 45, 112, 119, 110]), .lit (.string [105, 45, 116, 97, 111]), .lit (.string [105, 45, 116, 97, 121]), .lit (.string [105, 45, 116, 115, 117]), .lit (.string [110, 111, 45, 98, 111, 107]), .lit (.string [110, 111, 45, 110, 121, 110]), .lit (.string [115, 103, 110, 45, 98, 101, 45, 102, 114]), .lit (.string [115, 103, 110, 45, 98, 101, 45, 110, 108]), .lit (.string [115, 103, 110, 45, 99, 104, 45, 100, 101]), .lit (.string [122, 104, 45, 103, 117, 111, 121, 117]), .lit (.string [122, 104, 45, 104, 97, 107, 107, 97]), .lit (.string [122, 104, 45, 109, 105, 110]), .lit (.string [122, 104, 45, 109, 105, 110, 45, 110, 97, 110]), .lit (.string [122, 104, 45, 120, 105, 97, 110, 103])]
def laid_errors_errorType {H : Type} : DataW H := .iface "internal/reflectlite.rtype" (.agg [.ptr (.lit (.string [101, 114, 114, 111, 114]))])

/-- 'isoglosslaw13.ImageRight': WHATEVER THE INPUT: true; the input reads as it did. -/
def imageRightSpec : ChangeSpec := { name := "imageRight", fn := fun _ => fun
  | [d1, d2, d3] => { results := [.lit (.bool true)], args := [d1, d2, d3] }
  | _ => none }
def imageRightRow : OpenClaim := { program := "ytnooelecdbbfkaagreatdoor", sum := "b5bb35d6251712319f9f621471372a89fb73878e62266771d78682f40b921def", func := "isogloss/isoglosslaw13.ImageRight", spec := "imageRight", inPlace := ["internal/abi.NoEscape", "internal/bytealg.IndexByteString", "internal/bytealg.IndexString", "internal/bytealg.MakeNoZero"], unfollowed := true, recurses := true, named := ["isogloss/grand.names", "internal/bytealg.MaxLen"], apart := false, laid := [("isogloss/grand.names", laid_isogloss_grand_names)] }
def ImageRightSaid : Prop := imageRightRow.holds Tryz.pinned (OpenSpec.ofChange imageRightSpec)

/-- ITS FALSE NEIGHBOUR: 'it returns false'. Refute it at one input. -/
def imageRightWrong : ChangeSpec := { name := "imageRight", fn := fun _ => fun
  | [d1, d2, d3] => { results := [.lit (.bool false)], args := [d1, d2, d3] }
  | _ => none }
def ImageRightWrongFalsely : Prop := imageRightRow.holds Tryz.pinned (OpenSpec.ofChange imageRightWrong)

/-- 'isoglosslaw13.ImageTurned': WHATEVER THE INPUT: true; the input reads as it did. -/
def imageTurnedSpec : ChangeSpec := { name := "imageTurned", fn := fun _ => fun
  | [d1, d2] => { results := [.lit (.bool true)], args := [d1, d2] }
  | _ => none }
def imageTurnedRow : OpenClaim := { program := "ytnooelecdbbfkaagreatdoor", sum := "b5bb35d6251712319f9f621471372a89fb73878e62266771d78682f40b921def", func := "isogloss/isoglosslaw13.ImageTurned", spec := "imageTurned", inPlace := ["internal/abi.NoEscape", "internal/bytealg.IndexByteString", "internal/bytealg.IndexString", "internal/bytealg.MakeNoZero"], unfollowed := true, recurses := true, named := ["isogloss/grand.names", "internal/bytealg.MaxLen"], apart := false, laid := [("isogloss/grand.names", laid_isogloss_grand_names)] }
def ImageTurnedSaid : Prop := imageTurnedRow.holds Tryz.pinned (OpenSpec.ofChange imageTurnedSpec)

/-- ITS FALSE NEIGHBOUR: 'it returns false'. Refute it at one input. -/
def imageTurnedWrong : ChangeSpec := { name := "imageTurned", fn := fun _ => fun
  | [d1, d2] => { results := [.lit (.bool false)], args := [d1, d2] }
  | _ => none }
def ImageTurnedWrongFalsely : Prop := imageTurnedRow.holds Tryz.pinned (OpenSpec.ofChange imageTurnedWrong)

/-- 'isoglosslaw15.DataTells': WHATEVER THE INPUT: true; the input reads as it did. -/
def dataTellsSpec : ChangeSpec := { name := "dataTells", fn := fun _ => fun
  | [d] => { results := [.lit (.bool true)], args := [d] }
  | _ => none }
def dataTellsRow : OpenClaim := { program := "ytnooelecdbbfkaagreatdoor", sum := "b5bb35d6251712319f9f621471372a89fb73878e62266771d78682f40b921def", func := "isogloss/isoglosslaw15.DataTells", spec := "dataTells", inPlace := ["internal/abi.NoEscape", "internal/bytealg.IndexByteString", "internal/bytealg.IndexString", "internal/bytealg.MakeNoZero"], unfollowed := true, recurses := true, named := ["isogloss/grand.names", "internal/bytealg.MaxLen"], apart := false, laid := [("isogloss/grand.names", laid_isogloss_grand_names)] }
def DataTellsSaid : Prop := dataTellsRow.holds Tryz.pinned (OpenSpec.ofChange dataTellsSpec)

/-- ITS FALSE NEIGHBOUR: 'it returns false'. Refute it at one input. -/
def dataTellsWrong : ChangeSpec := { name := "dataTells", fn := fun _ => fun
  | [d] => { results := [.lit (.bool false)], args := [d] }
  | _ => none }
def DataTellsWrongFalsely : Prop := dataTellsRow.holds Tryz.pinned (OpenSpec.ofChange dataTellsWrong)

/-- 'isoglosslaw13.ImageLess': WHATEVER THE INPUT: true; the input reads as it did. -/
def imageLessSpec : ChangeSpec := { name := "imageLess", fn := fun _ => fun
  | [d1, d2] => { results := [.lit (.bool true)], args := [d1, d2] }
  | _ => none }
def imageLessRow : OpenClaim := { program := "ytnooelecdbbfkaagreatdoor", sum := "b5bb35d6251712319f9f621471372a89fb73878e62266771d78682f40b921def", func := "isogloss/isoglosslaw13.ImageLess", spec := "imageLess", inPlace := ["internal/abi.NoEscape", "internal/bytealg.IndexByteString", "internal/bytealg.IndexString", "internal/bytealg.MakeNoZero", "internal/reflectlite.ValueOf", "(internal/reflectlite.Value).Type", "(internal/reflectlite.Value).IsNil", "internal/reflectlite.TypeOf", "(internal/reflectlite.Value).Elem", "(internal/reflectlite.Value).Set"], unfollowed := true, recurses := true, named := ["isogloss/grand.names", "internal/bytealg.MaxLen", "errors.errorType"], apart := false, laid := [("errors.errorType", laid_errors_errorType), ("isogloss/grand.names", laid_isogloss_grand_names)] }
def ImageLessSaid : Prop := imageLessRow.holds Tryz.pinned (OpenSpec.ofChange imageLessSpec)

/-- ITS FALSE NEIGHBOUR: 'it returns false'. Refute it at one input. -/
def imageLessWrong : ChangeSpec := { name := "imageLess", fn := fun _ => fun
  | [d1, d2] => { results := [.lit (.bool false)], args := [d1, d2] }
  | _ => none }
def ImageLessWrongFalsely : Prop := imageLessRow.holds Tryz.pinned (OpenSpec.ofChange imageLessWrong)

/-- 'isoglosslaw13.ImageMany': WHATEVER THE INPUT: true; the input reads as it did. -/
def imageManySpec : ChangeSpec := { name := "imageMany", fn := fun _ => fun
  | [d] => { results := [.lit (.bool true)], args := [d] }
  | _ => none }
def imageManyRow : OpenClaim := { program := "ytnooelecdbbfkaagreatdoor", sum := "b5bb35d6251712319f9f621471372a89fb73878e62266771d78682f40b921def", func := "isogloss/isoglosslaw13.ImageMany", spec := "imageMany", inPlace := ["internal/abi.NoEscape", "internal/bytealg.IndexByteString", "internal/bytealg.IndexString", "internal/bytealg.MakeNoZero", "internal/reflectlite.ValueOf", "(internal/reflectlite.Value).Type", "(internal/reflectlite.Value).IsNil", "internal/reflectlite.TypeOf", "(internal/reflectlite.Value).Elem", "(internal/reflectlite.Value).Set"], unfollowed := true, recurses := true, named := ["isogloss/grand.names", "internal/bytealg.MaxLen", "errors.errorType"], apart := false, laid := [("errors.errorType", laid_errors_errorType), ("isogloss/grand.names", laid_isogloss_grand_names)] }
def ImageManySaid : Prop := imageManyRow.holds Tryz.pinned (OpenSpec.ofChange imageManySpec)

/-- ITS FALSE NEIGHBOUR: 'it returns false'. Refute it at one input. -/
def imageManyWrong : ChangeSpec := { name := "imageMany", fn := fun _ => fun
  | [d] => { results := [.lit (.bool false)], args := [d] }
  | _ => none }
def ImageManyWrongFalsely : Prop := imageManyRow.holds Tryz.pinned (OpenSpec.ofChange imageManyWrong)

/-- 'isoglosslaw13.ImageEncodes': WHATEVER THE INPUT: true; the input reads as it did. -/
def imageEncodesSpec : ChangeSpec := { name := "imageEncodes", fn := fun _ => fun
  | [d1, d2] => { results := [.lit (.bool true)], args := [d1, d2] }
  | _ => none }
def imageEncodesRow : OpenClaim := { program := "ytnooelecdbbfkaagreatdoor", sum := "b5bb35d6251712319f9f621471372a89fb73878e62266771d78682f40b921def", func := "isogloss/isoglosslaw13.ImageEncodes", spec := "imageEncodes", inPlace := ["internal/abi.NoEscape", "internal/bytealg.IndexByteString", "internal/bytealg.IndexString", "internal/bytealg.MakeNoZero", "internal/reflectlite.ValueOf", "(internal/reflectlite.Value).Type", "(internal/reflectlite.Value).IsNil", "internal/reflectlite.TypeOf", "(internal/reflectlite.Value).Elem", "(internal/reflectlite.Value).Set"], unfollowed := true, recurses := true, named := ["isogloss/grand.names", "internal/bytealg.MaxLen", "errors.errorType"], apart := false, laid := [("errors.errorType", laid_errors_errorType), ("isogloss/grand.names", laid_isogloss_grand_names)] }
def ImageEncodesSaid : Prop := imageEncodesRow.holds Tryz.pinned (OpenSpec.ofChange imageEncodesSpec)

/-- ITS FALSE NEIGHBOUR: 'it returns false'. Refute it at one input. -/
def imageEncodesWrong : ChangeSpec := { name := "imageEncodes", fn := fun _ => fun
  | [d1, d2] => { results := [.lit (.bool false)], args := [d1, d2] }
  | _ => none }
def ImageEncodesWrongFalsely : Prop := imageEncodesRow.holds Tryz.pinned (OpenSpec.ofChange imageEncodesWrong)

/-- 'isoglosslaw13.ImageBack': WHATEVER THE INPUT: true; the input reads as it did. -/
def imageBackSpec : ChangeSpec := { name := "imageBack", fn := fun _ => fun
  | [d1, d2] => { results := [.lit (.bool true)], args := [d1, d2] }
  | _ => none }
def imageBackRow : OpenClaim := { program := "ytnooelecdbbfkaagreatdoor", sum := "b5bb35d6251712319f9f621471372a89fb73878e62266771d78682f40b921def", func := "isogloss/isoglosslaw13.ImageBack", spec := "imageBack", inPlace := ["internal/abi.NoEscape", "internal/bytealg.IndexByteString", "internal/bytealg.IndexString", "internal/bytealg.MakeNoZero"], unfollowed := true, recurses := true, named := ["isogloss/grand.names", "internal/bytealg.MaxLen"], apart := false, laid := [("isogloss/grand.names", laid_isogloss_grand_names)] }
def ImageBackSaid : Prop := imageBackRow.holds Tryz.pinned (OpenSpec.ofChange imageBackSpec)

/-- ITS FALSE NEIGHBOUR: 'it returns false'. Refute it at one input. -/
def imageBackWrong : ChangeSpec := { name := "imageBack", fn := fun _ => fun
  | [d1, d2] => { results := [.lit (.bool false)], args := [d1, d2] }
  | _ => none }
def ImageBackWrongFalsely : Prop := imageBackRow.holds Tryz.pinned (OpenSpec.ofChange imageBackWrong)

/-- 'isoglosslaw13.ImageDecodes': WHATEVER THE INPUT: true; the input reads as it did. -/
def imageDecodesSpec : ChangeSpec := { name := "imageDecodes", fn := fun _ => fun
  | [d1, d2, d3] => { results := [.lit (.bool true)], args := [d1, d2, d3] }
  | _ => none }
def imageDecodesRow : OpenClaim := { program := "ytnooelecdbbfkaagreatdoor", sum := "b5bb35d6251712319f9f621471372a89fb73878e62266771d78682f40b921def", func := "isogloss/isoglosslaw13.ImageDecodes", spec := "imageDecodes", inPlace := ["internal/abi.NoEscape", "internal/bytealg.IndexByteString", "internal/bytealg.IndexString", "internal/bytealg.MakeNoZero", "internal/reflectlite.ValueOf", "(internal/reflectlite.Value).Type", "(internal/reflectlite.Value).IsNil", "internal/reflectlite.TypeOf", "(internal/reflectlite.Value).Elem", "(internal/reflectlite.Value).Set"], unfollowed := true, recurses := true, named := ["isogloss/grand.names", "internal/bytealg.MaxLen", "errors.errorType"], apart := false, laid := [("errors.errorType", laid_errors_errorType), ("isogloss/grand.names", laid_isogloss_grand_names)] }
def ImageDecodesSaid : Prop := imageDecodesRow.holds Tryz.pinned (OpenSpec.ofChange imageDecodesSpec)

/-- ITS FALSE NEIGHBOUR: 'it returns false'. Refute it at one input. -/
def imageDecodesWrong : ChangeSpec := { name := "imageDecodes", fn := fun _ => fun
  | [d1, d2, d3] => { results := [.lit (.bool false)], args := [d1, d2, d3] }
  | _ => none }
def ImageDecodesWrongFalsely : Prop := imageDecodesRow.holds Tryz.pinned (OpenSpec.ofChange imageDecodesWrong)

/- THE SECOND FORM. 'bulk': how many values and letters a reading holds, each counted each time it is reached (what is shared counts as often as it is met; a slice's spare places count too). A statement '..UptoSaid' is the law's where the arguments, and the package variables that the reading takes, are together of bulk at most 1048576: NARROWER than '..Said'. Prove '..Said' where nothing that the law and all that it calls make is longer than what came in: it says more and counts as full. Else prove '..UptoSaid'. A law counts once. -/
mutual
def uptoBulk {H : Type} : DataW H → Nat
  | .lit (.string bytes) => bytes.length + 1
  | .lit _ => 1
  | .nil => 1
  | .ptr d => uptoBulk d + 1
  | .slice elems spare => uptoBulkAll elems + uptoBulkAll spare + 1
  | .agg parts => uptoBulkAll parts + 1
  | .iface _ d => uptoBulk d + 1
  | .map entries => uptoBulkEntries entries + 1
  | .held _ => 1
def uptoBulkAll {H : Type} : List (DataW H) → Nat
  | [] => 0
  | d :: r => uptoBulk d + uptoBulkAll r
def uptoBulkEntries {H : Type} : List (Lit × DataW H) → Nat
  | [] => 0
  | x :: r => uptoBulkEntry x + uptoBulkEntries r
def uptoBulkEntry {H : Type} : Lit × DataW H → Nat
  | (.string bytes, d) => bytes.length + uptoBulk d + 1
  | (_, d) => uptoBulk d + 1
 end
def uptoSmall : (H : Type) → List (DataW H) → Bool := fun _ ds => decide (uptoBulkAll ds ≤ 1048576)
def OpenSpec.upto (s : _root_.Go.ChangeSpec) : _root_.Go.OpenSpec := { _root_.Go.OpenSpec.ofChange s with cond := some uptoSmall }

/-- 'isoglosslaw13.ImageRight', WHERE WHAT IT READS IS OF BULK AT MOST 1048576: true; the input reads as it did. -/
def imageRightUptoRow : OpenClaim := { program := "ytnooelecdbbfkaagreatdoor", sum := "b5bb35d6251712319f9f621471372a89fb73878e62266771d78682f40b921def", func := "isogloss/isoglosslaw13.ImageRight", spec := "imageRight", inPlace := ["internal/abi.NoEscape", "internal/bytealg.IndexByteString", "internal/bytealg.IndexString", "internal/bytealg.MakeNoZero"], unfollowed := true, recurses := true, named := ["isogloss/grand.names", "internal/bytealg.MaxLen"], apart := false, laid := [("isogloss/grand.names", laid_isogloss_grand_names)], narrowed := true }
def ImageRightUptoSaid : Prop := imageRightUptoRow.holds Tryz.pinned (OpenSpec.upto imageRightSpec)

/-- 'isoglosslaw13.ImageTurned', WHERE WHAT IT READS IS OF BULK AT MOST 1048576: true; the input reads as it did. -/
def imageTurnedUptoRow : OpenClaim := { program := "ytnooelecdbbfkaagreatdoor", sum := "b5bb35d6251712319f9f621471372a89fb73878e62266771d78682f40b921def", func := "isogloss/isoglosslaw13.ImageTurned", spec := "imageTurned", inPlace := ["internal/abi.NoEscape", "internal/bytealg.IndexByteString", "internal/bytealg.IndexString", "internal/bytealg.MakeNoZero"], unfollowed := true, recurses := true, named := ["isogloss/grand.names", "internal/bytealg.MaxLen"], apart := false, laid := [("isogloss/grand.names", laid_isogloss_grand_names)], narrowed := true }
def ImageTurnedUptoSaid : Prop := imageTurnedUptoRow.holds Tryz.pinned (OpenSpec.upto imageTurnedSpec)

/-- 'isoglosslaw15.DataTells', WHERE WHAT IT READS IS OF BULK AT MOST 1048576: true; the input reads as it did. -/
def dataTellsUptoRow : OpenClaim := { program := "ytnooelecdbbfkaagreatdoor", sum := "b5bb35d6251712319f9f621471372a89fb73878e62266771d78682f40b921def", func := "isogloss/isoglosslaw15.DataTells", spec := "dataTells", inPlace := ["internal/abi.NoEscape", "internal/bytealg.IndexByteString", "internal/bytealg.IndexString", "internal/bytealg.MakeNoZero"], unfollowed := true, recurses := true, named := ["isogloss/grand.names", "internal/bytealg.MaxLen"], apart := false, laid := [("isogloss/grand.names", laid_isogloss_grand_names)], narrowed := true }
def DataTellsUptoSaid : Prop := dataTellsUptoRow.holds Tryz.pinned (OpenSpec.upto dataTellsSpec)

/-- 'isoglosslaw13.ImageLess', WHERE WHAT IT READS IS OF BULK AT MOST 1048576: true; the input reads as it did. -/
def imageLessUptoRow : OpenClaim := { program := "ytnooelecdbbfkaagreatdoor", sum := "b5bb35d6251712319f9f621471372a89fb73878e62266771d78682f40b921def", func := "isogloss/isoglosslaw13.ImageLess", spec := "imageLess", inPlace := ["internal/abi.NoEscape", "internal/bytealg.IndexByteString", "internal/bytealg.IndexString", "internal/bytealg.MakeNoZero", "internal/reflectlite.ValueOf", "(internal/reflectlite.Value).Type", "(internal/reflectlite.Value).IsNil", "internal/reflectlite.TypeOf", "(internal/reflectlite.Value).Elem", "(internal/reflectlite.Value).Set"], unfollowed := true, recurses := true, named := ["isogloss/grand.names", "internal/bytealg.MaxLen", "errors.errorType"], apart := false, laid := [("errors.errorType", laid_errors_errorType), ("isogloss/grand.names", laid_isogloss_grand_names)], narrowed := true }
def ImageLessUptoSaid : Prop := imageLessUptoRow.holds Tryz.pinned (OpenSpec.upto imageLessSpec)

/-- 'isoglosslaw13.ImageMany', WHERE WHAT IT READS IS OF BULK AT MOST 1048576: true; the input reads as it did. -/
def imageManyUptoRow : OpenClaim := { program := "ytnooelecdbbfkaagreatdoor", sum := "b5bb35d6251712319f9f621471372a89fb73878e62266771d78682f40b921def", func := "isogloss/isoglosslaw13.ImageMany", spec := "imageMany", inPlace := ["internal/abi.NoEscape", "internal/bytealg.IndexByteString", "internal/bytealg.IndexString", "internal/bytealg.MakeNoZero", "internal/reflectlite.ValueOf", "(internal/reflectlite.Value).Type", "(internal/reflectlite.Value).IsNil", "internal/reflectlite.TypeOf", "(internal/reflectlite.Value).Elem", "(internal/reflectlite.Value).Set"], unfollowed := true, recurses := true, named := ["isogloss/grand.names", "internal/bytealg.MaxLen", "errors.errorType"], apart := false, laid := [("errors.errorType", laid_errors_errorType), ("isogloss/grand.names", laid_isogloss_grand_names)], narrowed := true }
def ImageManyUptoSaid : Prop := imageManyUptoRow.holds Tryz.pinned (OpenSpec.upto imageManySpec)

/-- 'isoglosslaw13.ImageEncodes', WHERE WHAT IT READS IS OF BULK AT MOST 1048576: true; the input reads as it did. -/
def imageEncodesUptoRow : OpenClaim := { program := "ytnooelecdbbfkaagreatdoor", sum := "b5bb35d6251712319f9f621471372a89fb73878e62266771d78682f40b921def", func := "isogloss/isoglosslaw13.ImageEncodes", spec := "imageEncodes", inPlace := ["internal/abi.NoEscape", "internal/bytealg.IndexByteString", "internal/bytealg.IndexString", "internal/bytealg.MakeNoZero", "internal/reflectlite.ValueOf", "(internal/reflectlite.Value).Type", "(internal/reflectlite.Value).IsNil", "internal/reflectlite.TypeOf", "(internal/reflectlite.Value).Elem", "(internal/reflectlite.Value).Set"], unfollowed := true, recurses := true, named := ["isogloss/grand.names", "internal/bytealg.MaxLen", "errors.errorType"], apart := false, laid := [("errors.errorType", laid_errors_errorType), ("isogloss/grand.names", laid_isogloss_grand_names)], narrowed := true }
def ImageEncodesUptoSaid : Prop := imageEncodesUptoRow.holds Tryz.pinned (OpenSpec.upto imageEncodesSpec)

/-- 'isoglosslaw13.ImageBack', WHERE WHAT IT READS IS OF BULK AT MOST 1048576: true; the input reads as it did. -/
def imageBackUptoRow : OpenClaim := { program := "ytnooelecdbbfkaagreatdoor", sum := "b5bb35d6251712319f9f621471372a89fb73878e62266771d78682f40b921def", func := "isogloss/isoglosslaw13.ImageBack", spec := "imageBack", inPlace := ["internal/abi.NoEscape", "internal/bytealg.IndexByteString", "internal/bytealg.IndexString", "internal/bytealg.MakeNoZero"], unfollowed := true, recurses := true, named := ["isogloss/grand.names", "internal/bytealg.MaxLen"], apart := false, laid := [("isogloss/grand.names", laid_isogloss_grand_names)], narrowed := true }
def ImageBackUptoSaid : Prop := imageBackUptoRow.holds Tryz.pinned (OpenSpec.upto imageBackSpec)

/-- 'isoglosslaw13.ImageDecodes', WHERE WHAT IT READS IS OF BULK AT MOST 1048576: true; the input reads as it did. -/
def imageDecodesUptoRow : OpenClaim := { program := "ytnooelecdbbfkaagreatdoor", sum := "b5bb35d6251712319f9f621471372a89fb73878e62266771d78682f40b921def", func := "isogloss/isoglosslaw13.ImageDecodes", spec := "imageDecodes", inPlace := ["internal/abi.NoEscape", "internal/bytealg.IndexByteString", "internal/bytealg.IndexString", "internal/bytealg.MakeNoZero", "internal/reflectlite.ValueOf", "(internal/reflectlite.Value).Type", "(internal/reflectlite.Value).IsNil", "internal/reflectlite.TypeOf", "(internal/reflectlite.Value).Elem", "(internal/reflectlite.Value).Set"], unfollowed := true, recurses := true, named := ["isogloss/grand.names", "internal/bytealg.MaxLen", "errors.errorType"], apart := false, laid := [("errors.errorType", laid_errors_errorType), ("isogloss/grand.names", laid_isogloss_grand_names)], narrowed := true }
def ImageDecodesUptoSaid : Prop := imageDecodesUptoRow.holds Tryz.pinned (OpenSpec.upto imageDecodesSpec)

end Rows
end Go.Proofs.YtnooelecdbbfkaaGreatDoor
