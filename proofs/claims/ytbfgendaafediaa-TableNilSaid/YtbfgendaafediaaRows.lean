/-
  No cell of these rows narrows 'for every input' (looked for: loops, veiled, ifaces, maps, wideKeys, modest, calm, conditions, laid).
  DERIVED. THE GIVEN ROWS OF THIS SEAT. 7 by the template 'for every input the law returns true; each argument reads behind the call as it read before'; 0 by the template 'total and deterministic' (their statements: YtbfgendaafediaaTotals.lean).
  GIVEN WITH THE SEED: the statements are not yours to turn. If you find one false, say at which input.
  Laid BY PROGRAM, IN A SANDBOX (cutbox-rows.mjs): the forced cells as the released guide's own fill.sh prints them over the translation 37fea2825fe97140… (all of the seat's roots in one cut). By AI agents, Wed Nov 11 2026. No macro, syntax, notation, axiom, sorry.
-/
import Derived.Test.YtbfgendaafediaaChecked
import GoSem.Claim
import GoSem.ClaimJoined
import GoSem.ClaimMapViews
import Derived.JoinedTies
import Derived.KernelRfl
namespace Go.Proofs.Ytbfgendaafediaa
/- THE CELL 'sum', in the pinned program and in every row, IS THE sha256 OF THE DUMP (.gsa) THAT YtbfgendaafediaaProg.lean LOADS. Nothing in Lean hashes anything: it is a label: what it is worth is what the hold of that sum in a sandbox is worth. -/
noncomputable def Try.pinned : Pinned := { name := "ytbfgendaafediaa", sum := "37fea2825fe97140a2cbb38a9f01d331a932b9ef908ac778648b12e6d75521b4", checked := Try.checked }
namespace Rows
def none {H : Type} : Left H := { results := [], args := [] }

/-- 'isoglosslaw11.TableNil': WHATEVER THE INPUT: true; the input reads as it did. -/
def tableNilSpec : ChangeSpec := { name := "tableNil", fn := fun _ => fun
  | [d] => { results := [.lit (.bool true)], args := [d] }
  | _ => none }
def tableNilRow : OpenClaim := { program := "ytbfgendaafediaa", sum := "37fea2825fe97140a2cbb38a9f01d331a932b9ef908ac778648b12e6d75521b4", func := "isogloss/isoglosslaw11.TableNil", spec := "tableNil", inPlace := ["internal/abi.NoEscape", "internal/bytealg.MakeNoZero"], unfollowed := true, recurses := true, apart := false }
def TableNilSaid : Prop := tableNilRow.holds Try.pinned (OpenSpec.ofChange tableNilSpec)

/-- ITS FALSE NEIGHBOUR: 'it returns false'. Refute it at one input. -/
def tableNilWrong : ChangeSpec := { name := "tableNil", fn := fun _ => fun
  | [d] => { results := [.lit (.bool false)], args := [d] }
  | _ => none }
def TableNilWrongFalsely : Prop := tableNilRow.holds Try.pinned (OpenSpec.ofChange tableNilWrong)

/-- 'isoglosslaw09.KeywordReads': WHATEVER THE INPUT: true; the input reads as it did. -/
def keywordReadsSpec : ChangeSpec := { name := "keywordReads", fn := fun _ => fun
  | [d1, d2] => { results := [.lit (.bool true)], args := [d1, d2] }
  | _ => none }
def keywordReadsRow : OpenClaim := { program := "ytbfgendaafediaa", sum := "37fea2825fe97140a2cbb38a9f01d331a932b9ef908ac778648b12e6d75521b4", func := "isogloss/isoglosslaw09.KeywordReads", spec := "keywordReads", unfollowed := true, recurses := true, apart := false }
def KeywordReadsSaid : Prop := keywordReadsRow.holds Try.pinned (OpenSpec.ofChange keywordReadsSpec)

/-- ITS FALSE NEIGHBOUR: 'it returns false'. Refute it at one input. -/
def keywordReadsWrong : ChangeSpec := { name := "keywordReads", fn := fun _ => fun
  | [d1, d2] => { results := [.lit (.bool false)], args := [d1, d2] }
  | _ => none }
def KeywordReadsWrongFalsely : Prop := keywordReadsRow.holds Try.pinned (OpenSpec.ofChange keywordReadsWrong)

/-- 'isoglosslaw09.KeywordBack': WHATEVER THE INPUT: true; the input reads as it did. -/
def keywordBackSpec : ChangeSpec := { name := "keywordBack", fn := fun _ => fun
  | [d] => { results := [.lit (.bool true)], args := [d] }
  | _ => none }
def keywordBackRow : OpenClaim := { program := "ytbfgendaafediaa", sum := "37fea2825fe97140a2cbb38a9f01d331a932b9ef908ac778648b12e6d75521b4", func := "isogloss/isoglosslaw09.KeywordBack", spec := "keywordBack", unfollowed := true, recurses := true, apart := false }
def KeywordBackSaid : Prop := keywordBackRow.holds Try.pinned (OpenSpec.ofChange keywordBackSpec)

/-- ITS FALSE NEIGHBOUR: 'it returns false'. Refute it at one input. -/
def keywordBackWrong : ChangeSpec := { name := "keywordBack", fn := fun _ => fun
  | [d] => { results := [.lit (.bool false)], args := [d] }
  | _ => none }
def KeywordBackWrongFalsely : Prop := keywordBackRow.holds Try.pinned (OpenSpec.ofChange keywordBackWrong)

/-- 'isoglosslaw09.KeywordOrdered': WHATEVER THE INPUT: true; the input reads as it did. -/
def keywordOrderedSpec : ChangeSpec := { name := "keywordOrdered", fn := fun _ => fun
  | [d] => { results := [.lit (.bool true)], args := [d] }
  | _ => none }
def keywordOrderedRow : OpenClaim := { program := "ytbfgendaafediaa", sum := "37fea2825fe97140a2cbb38a9f01d331a932b9ef908ac778648b12e6d75521b4", func := "isogloss/isoglosslaw09.KeywordOrdered", spec := "keywordOrdered", unfollowed := true, recurses := true, apart := false }
def KeywordOrderedSaid : Prop := keywordOrderedRow.holds Try.pinned (OpenSpec.ofChange keywordOrderedSpec)

/-- ITS FALSE NEIGHBOUR: 'it returns false'. Refute it at one input. -/
def keywordOrderedWrong : ChangeSpec := { name := "keywordOrdered", fn := fun _ => fun
  | [d] => { results := [.lit (.bool false)], args := [d] }
  | _ => none }
def KeywordOrderedWrongFalsely : Prop := keywordOrderedRow.holds Try.pinned (OpenSpec.ofChange keywordOrderedWrong)

/-- 'isoglosslaw09.KeywordJoins': WHATEVER THE INPUT: true; the input reads as it did. -/
def keywordJoinsSpec : ChangeSpec := { name := "keywordJoins", fn := fun _ => fun
  | [d1, d2] => { results := [.lit (.bool true)], args := [d1, d2] }
  | _ => none }
def keywordJoinsRow : OpenClaim := { program := "ytbfgendaafediaa", sum := "37fea2825fe97140a2cbb38a9f01d331a932b9ef908ac778648b12e6d75521b4", func := "isogloss/isoglosslaw09.KeywordJoins", spec := "keywordJoins", unfollowed := true, recurses := true, apart := false }
def KeywordJoinsSaid : Prop := keywordJoinsRow.holds Try.pinned (OpenSpec.ofChange keywordJoinsSpec)

/-- ITS FALSE NEIGHBOUR: 'it returns false'. Refute it at one input. -/
def keywordJoinsWrong : ChangeSpec := { name := "keywordJoins", fn := fun _ => fun
  | [d1, d2] => { results := [.lit (.bool false)], args := [d1, d2] }
  | _ => none }
def KeywordJoinsWrongFalsely : Prop := keywordJoinsRow.holds Try.pinned (OpenSpec.ofChange keywordJoinsWrong)

/-- 'isoglosslaw09.KeywordKeeps': WHATEVER THE INPUT: true; the input reads as it did. -/
def keywordKeepsSpec : ChangeSpec := { name := "keywordKeeps", fn := fun _ => fun
  | [d1, d2] => { results := [.lit (.bool true)], args := [d1, d2] }
  | _ => none }
def keywordKeepsRow : OpenClaim := { program := "ytbfgendaafediaa", sum := "37fea2825fe97140a2cbb38a9f01d331a932b9ef908ac778648b12e6d75521b4", func := "isogloss/isoglosslaw09.KeywordKeeps", spec := "keywordKeeps", unfollowed := true, recurses := true, apart := false }
def KeywordKeepsSaid : Prop := keywordKeepsRow.holds Try.pinned (OpenSpec.ofChange keywordKeepsSpec)

/-- ITS FALSE NEIGHBOUR: 'it returns false'. Refute it at one input. -/
def keywordKeepsWrong : ChangeSpec := { name := "keywordKeeps", fn := fun _ => fun
  | [d1, d2] => { results := [.lit (.bool false)], args := [d1, d2] }
  | _ => none }
def KeywordKeepsWrongFalsely : Prop := keywordKeepsRow.holds Try.pinned (OpenSpec.ofChange keywordKeepsWrong)

/-- 'isoglosslaw09.KeywordSets': WHATEVER THE INPUT: true; the input reads as it did. -/
def keywordSetsSpec : ChangeSpec := { name := "keywordSets", fn := fun _ => fun
  | [d1, d2, d3] => { results := [.lit (.bool true)], args := [d1, d2, d3] }
  | _ => none }
def keywordSetsRow : OpenClaim := { program := "ytbfgendaafediaa", sum := "37fea2825fe97140a2cbb38a9f01d331a932b9ef908ac778648b12e6d75521b4", func := "isogloss/isoglosslaw09.KeywordSets", spec := "keywordSets", unfollowed := true, recurses := true, apart := false }
def KeywordSetsSaid : Prop := keywordSetsRow.holds Try.pinned (OpenSpec.ofChange keywordSetsSpec)

/-- ITS FALSE NEIGHBOUR: 'it returns false'. Refute it at one input. -/
def keywordSetsWrong : ChangeSpec := { name := "keywordSets", fn := fun _ => fun
  | [d1, d2, d3] => { results := [.lit (.bool false)], args := [d1, d2, d3] }
  | _ => none }
def KeywordSetsWrongFalsely : Prop := keywordSetsRow.holds Try.pinned (OpenSpec.ofChange keywordSetsWrong)

/- THE SECOND FORM. 'bulk': how many values and letters a reading holds, each counted each time it is reached (what is shared counts as often as it is met; a slice's spare places count too). A statement '..UptoSaid' is the law's where the arguments, and the package variables that the reading takes, are together of bulk at most 1048576: NARROWER than '..Said'. Prove '..Said' where nothing that the law and all that it calls make is longer than what came in: it says more and counts as full. Else prove '..UptoSaid'. A law counts once. -/
mutual
def uptoBulk {H : Type} : DataW H → Nat
  | .lit (.string bytes) => bytes.length + 1
  | .lit _ => 1
  | .nil => 1
  | .ptr d => uptoBulk d + 1
  | .slice elems spare => uptoBulkAll elems + uptoBulkAll spare + 1
  | .agg parts => uptoBulkAll parts + 1
  | .iface _ d => uptoBulk d + 1
  | .map entries => uptoBulkEntries entries + 1
  | .held _ => 1
def uptoBulkAll {H : Type} : List (DataW H) → Nat
  | [] => 0
  | d :: r => uptoBulk d + uptoBulkAll r
def uptoBulkEntries {H : Type} : List (Lit × DataW H) → Nat
  | [] => 0
  | x :: r => uptoBulkEntry x + uptoBulkEntries r
def uptoBulkEntry {H : Type} : Lit × DataW H → Nat
  | (.string bytes, d) => bytes.length + uptoBulk d + 1
  | (_, d) => uptoBulk d + 1
 end
def uptoSmall : (H : Type) → List (DataW H) → Bool := fun _ ds => decide (uptoBulkAll ds ≤ 1048576)
def OpenSpec.upto (s : _root_.Go.ChangeSpec) : _root_.Go.OpenSpec := { _root_.Go.OpenSpec.ofChange s with cond := some uptoSmall }

/-- 'isoglosslaw11.TableNil', WHERE WHAT IT READS IS OF BULK AT MOST 1048576: true; the input reads as it did. -/
def tableNilUptoRow : OpenClaim := { program := "ytbfgendaafediaa", sum := "37fea2825fe97140a2cbb38a9f01d331a932b9ef908ac778648b12e6d75521b4", func := "isogloss/isoglosslaw11.TableNil", spec := "tableNil", inPlace := ["internal/abi.NoEscape", "internal/bytealg.MakeNoZero"], unfollowed := true, recurses := true, apart := false, narrowed := true }
def TableNilUptoSaid : Prop := tableNilUptoRow.holds Try.pinned (OpenSpec.upto tableNilSpec)

/-- 'isoglosslaw09.KeywordReads', WHERE WHAT IT READS IS OF BULK AT MOST 1048576: true; the input reads as it did. -/
def keywordReadsUptoRow : OpenClaim := { program := "ytbfgendaafediaa", sum := "37fea2825fe97140a2cbb38a9f01d331a932b9ef908ac778648b12e6d75521b4", func := "isogloss/isoglosslaw09.KeywordReads", spec := "keywordReads", unfollowed := true, recurses := true, apart := false, narrowed := true }
def KeywordReadsUptoSaid : Prop := keywordReadsUptoRow.holds Try.pinned (OpenSpec.upto keywordReadsSpec)

/-- 'isoglosslaw09.KeywordBack', WHERE WHAT IT READS IS OF BULK AT MOST 1048576: true; the input reads as it did. -/
def keywordBackUptoRow : OpenClaim := { program := "ytbfgendaafediaa", sum := "37fea2825fe97140a2cbb38a9f01d331a932b9ef908ac778648b12e6d75521b4", func := "isogloss/isoglosslaw09.KeywordBack", spec := "keywordBack", unfollowed := true, recurses := true, apart := false, narrowed := true }
def KeywordBackUptoSaid : Prop := keywordBackUptoRow.holds Try.pinned (OpenSpec.upto keywordBackSpec)

/-- 'isoglosslaw09.KeywordOrdered', WHERE WHAT IT READS IS OF BULK AT MOST 1048576: true; the input reads as it did. -/
def keywordOrderedUptoRow : OpenClaim := { program := "ytbfgendaafediaa", sum := "37fea2825fe97140a2cbb38a9f01d331a932b9ef908ac778648b12e6d75521b4", func := "isogloss/isoglosslaw09.KeywordOrdered", spec := "keywordOrdered", unfollowed := true, recurses := true, apart := false, narrowed := true }
def KeywordOrderedUptoSaid : Prop := keywordOrderedUptoRow.holds Try.pinned (OpenSpec.upto keywordOrderedSpec)

/-- 'isoglosslaw09.KeywordJoins', WHERE WHAT IT READS IS OF BULK AT MOST 1048576: true; the input reads as it did. -/
def keywordJoinsUptoRow : OpenClaim := { program := "ytbfgendaafediaa", sum := "37fea2825fe97140a2cbb38a9f01d331a932b9ef908ac778648b12e6d75521b4", func := "isogloss/isoglosslaw09.KeywordJoins", spec := "keywordJoins", unfollowed := true, recurses := true, apart := false, narrowed := true }
def KeywordJoinsUptoSaid : Prop := keywordJoinsUptoRow.holds Try.pinned (OpenSpec.upto keywordJoinsSpec)

/-- 'isoglosslaw09.KeywordKeeps', WHERE WHAT IT READS IS OF BULK AT MOST 1048576: true; the input reads as it did. -/
def keywordKeepsUptoRow : OpenClaim := { program := "ytbfgendaafediaa", sum := "37fea2825fe97140a2cbb38a9f01d331a932b9ef908ac778648b12e6d75521b4", func := "isogloss/isoglosslaw09.KeywordKeeps", spec := "keywordKeeps", unfollowed := true, recurses := true, apart := false, narrowed := true }
def KeywordKeepsUptoSaid : Prop := keywordKeepsUptoRow.holds Try.pinned (OpenSpec.upto keywordKeepsSpec)

/-- 'isoglosslaw09.KeywordSets', WHERE WHAT IT READS IS OF BULK AT MOST 1048576: true; the input reads as it did. -/
def keywordSetsUptoRow : OpenClaim := { program := "ytbfgendaafediaa", sum := "37fea2825fe97140a2cbb38a9f01d331a932b9ef908ac778648b12e6d75521b4", func := "isogloss/isoglosslaw09.KeywordSets", spec := "keywordSets", unfollowed := true, recurses := true, apart := false, narrowed := true }
def KeywordSetsUptoSaid : Prop := keywordSetsUptoRow.holds Try.pinned (OpenSpec.upto keywordSetsSpec)

end Rows
end Go.Proofs.Ytbfgendaafediaa
