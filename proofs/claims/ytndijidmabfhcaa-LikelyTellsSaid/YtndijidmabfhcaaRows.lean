/-
  No cell of these rows narrows 'for every input' (looked for: loops, veiled, ifaces, maps, wideKeys, modest, calm, conditions, laid).
  DERIVED. THE GIVEN ROWS OF THIS SEAT. 10 by the template 'for every input the law returns true; each argument reads behind the call as it read before'; 0 by the template 'total and deterministic' (their statements: YtndijidmabfhcaaTotals.lean).
  GIVEN WITH THE SEED: the statements are not yours to turn. If you find one false, say at which input.
  Laid BY PROGRAM, IN A SANDBOX (cutbox-rows.mjs): the forced cells as the released guide's own fill.sh prints them over the translation 4600c6e8b0626e53… (all of the seat's roots in one cut). By AI agents, Wed Nov 11 2026. No macro, syntax, notation, axiom, sorry.
-/
import Derived.Test.YtndijidmabfhcaaChecked
import GoSem.Claim
import GoSem.ClaimJoined
import GoSem.ClaimMapViews
import Derived.JoinedTies
import Derived.KernelRfl
namespace Go.Proofs.Ytndijidmabfhcaa
/- THE CELL 'sum', in the pinned program and in every row, IS THE sha256 OF THE DUMP (.gsa) THAT YtndijidmabfhcaaProg.lean LOADS. Nothing in Lean hashes anything: it is a label: what it is worth is what the hold of that sum in a sandbox is worth. -/
noncomputable def Try.pinned : Pinned := { name := "ytndijidmabfhcaa", sum := "4600c6e8b0626e536fb14d6961d62dc70d5acc9c9040ac26306983cd0965937e", checked := Try.checked }
namespace Rows
def none {H : Type} : Left H := { results := [], args := [] }

/-- 'isoglosslaw15.DataFinds': WHATEVER THE INPUT: true; the input reads as it did. -/
def dataFindsSpec : ChangeSpec := { name := "dataFinds", fn := fun _ => fun
  | [d1, d2, d3] => { results := [.lit (.bool true)], args := [d1, d2, d3] }
  | _ => none }
def dataFindsRow : OpenClaim := { program := "ytndijidmabfhcaa", sum := "4600c6e8b0626e536fb14d6961d62dc70d5acc9c9040ac26306983cd0965937e", func := "isogloss/isoglosslaw15.DataFinds", spec := "dataFinds", unfollowed := true, recurses := true, plainKeys := false, apart := false }
def DataFindsSaid : Prop := dataFindsRow.holds Try.pinned (OpenSpec.ofChange dataFindsSpec)

/-- ITS FALSE NEIGHBOUR: 'it returns false'. Refute it at one input. -/
def dataFindsWrong : ChangeSpec := { name := "dataFinds", fn := fun _ => fun
  | [d1, d2, d3] => { results := [.lit (.bool false)], args := [d1, d2, d3] }
  | _ => none }
def DataFindsWrongFalsely : Prop := dataFindsRow.holds Try.pinned (OpenSpec.ofChange dataFindsWrong)

/-- 'isoglosslaw15.DataEnds': WHATEVER THE INPUT: true; the input reads as it did. -/
def dataEndsSpec : ChangeSpec := { name := "dataEnds", fn := fun _ => fun
  | [d] => { results := [.lit (.bool true)], args := [d] }
  | _ => none }
def dataEndsRow : OpenClaim := { program := "ytndijidmabfhcaa", sum := "4600c6e8b0626e536fb14d6961d62dc70d5acc9c9040ac26306983cd0965937e", func := "isogloss/isoglosslaw15.DataEnds", spec := "dataEnds", unfollowed := true, recurses := true, plainKeys := false, apart := false }
def DataEndsSaid : Prop := dataEndsRow.holds Try.pinned (OpenSpec.ofChange dataEndsSpec)

/-- ITS FALSE NEIGHBOUR: 'it returns false'. Refute it at one input. -/
def dataEndsWrong : ChangeSpec := { name := "dataEnds", fn := fun _ => fun
  | [d] => { results := [.lit (.bool false)], args := [d] }
  | _ => none }
def DataEndsWrongFalsely : Prop := dataEndsRow.holds Try.pinned (OpenSpec.ofChange dataEndsWrong)

/-- 'isoglosslaw18.LikelyLadder': WHATEVER THE INPUT: true; the input reads as it did. -/
def likelyLadderSpec : ChangeSpec := { name := "likelyLadder", fn := fun _ => fun
  | [d1, d2] => { results := [.lit (.bool true)], args := [d1, d2] }
  | _ => none }
def likelyLadderRow : OpenClaim := { program := "ytndijidmabfhcaa", sum := "4600c6e8b0626e536fb14d6961d62dc70d5acc9c9040ac26306983cd0965937e", func := "isogloss/isoglosslaw18.LikelyLadder", spec := "likelyLadder", unfollowed := true, recurses := true, plainKeys := false, apart := false }
def LikelyLadderSaid : Prop := likelyLadderRow.holds Try.pinned (OpenSpec.ofChange likelyLadderSpec)

/-- ITS FALSE NEIGHBOUR: 'it returns false'. Refute it at one input. -/
def likelyLadderWrong : ChangeSpec := { name := "likelyLadder", fn := fun _ => fun
  | [d1, d2] => { results := [.lit (.bool false)], args := [d1, d2] }
  | _ => none }
def LikelyLadderWrongFalsely : Prop := likelyLadderRow.holds Try.pinned (OpenSpec.ofChange likelyLadderWrong)

/-- 'isoglosslaw18.LikelyMore': WHATEVER THE INPUT: true; the input reads as it did. -/
def likelyMoreSpec : ChangeSpec := { name := "likelyMore", fn := fun _ => fun
  | [d1, d2, d3] => { results := [.lit (.bool true)], args := [d1, d2, d3] }
  | _ => none }
def likelyMoreRow : OpenClaim := { program := "ytndijidmabfhcaa", sum := "4600c6e8b0626e536fb14d6961d62dc70d5acc9c9040ac26306983cd0965937e", func := "isogloss/isoglosslaw18.LikelyMore", spec := "likelyMore", unfollowed := true, recurses := true, plainKeys := false, apart := false }
def LikelyMoreSaid : Prop := likelyMoreRow.holds Try.pinned (OpenSpec.ofChange likelyMoreSpec)

/-- ITS FALSE NEIGHBOUR: 'it returns false'. Refute it at one input. -/
def likelyMoreWrong : ChangeSpec := { name := "likelyMore", fn := fun _ => fun
  | [d1, d2, d3] => { results := [.lit (.bool false)], args := [d1, d2, d3] }
  | _ => none }
def LikelyMoreWrongFalsely : Prop := likelyMoreRow.holds Try.pinned (OpenSpec.ofChange likelyMoreWrong)

/-- 'isoglosslaw18.LikelyOwn': WHATEVER THE INPUT: true; the input reads as it did. -/
def likelyOwnSpec : ChangeSpec := { name := "likelyOwn", fn := fun _ => fun
  | [d1, d2] => { results := [.lit (.bool true)], args := [d1, d2] }
  | _ => none }
def likelyOwnRow : OpenClaim := { program := "ytndijidmabfhcaa", sum := "4600c6e8b0626e536fb14d6961d62dc70d5acc9c9040ac26306983cd0965937e", func := "isogloss/isoglosslaw18.LikelyOwn", spec := "likelyOwn", unfollowed := true, recurses := true, plainKeys := false, apart := false }
def LikelyOwnSaid : Prop := likelyOwnRow.holds Try.pinned (OpenSpec.ofChange likelyOwnSpec)

/-- ITS FALSE NEIGHBOUR: 'it returns false'. Refute it at one input. -/
def likelyOwnWrong : ChangeSpec := { name := "likelyOwn", fn := fun _ => fun
  | [d1, d2] => { results := [.lit (.bool false)], args := [d1, d2] }
  | _ => none }
def LikelyOwnWrongFalsely : Prop := likelyOwnRow.holds Try.pinned (OpenSpec.ofChange likelyOwnWrong)

/-- 'isoglosslaw18.LikelyTells': WHATEVER THE INPUT: true; the input reads as it did. -/
def likelyTellsSpec : ChangeSpec := { name := "likelyTells", fn := fun _ => fun
  | [d1, d2, d3] => { results := [.lit (.bool true)], args := [d1, d2, d3] }
  | _ => none }
def likelyTellsRow : OpenClaim := { program := "ytndijidmabfhcaa", sum := "4600c6e8b0626e536fb14d6961d62dc70d5acc9c9040ac26306983cd0965937e", func := "isogloss/isoglosslaw18.LikelyTells", spec := "likelyTells", unfollowed := true, recurses := true, plainKeys := false, apart := false }
def LikelyTellsSaid : Prop := likelyTellsRow.holds Try.pinned (OpenSpec.ofChange likelyTellsSpec)

/-- ITS FALSE NEIGHBOUR: 'it returns false'. Refute it at one input. -/
def likelyTellsWrong : ChangeSpec := { name := "likelyTells", fn := fun _ => fun
  | [d1, d2, d3] => { results := [.lit (.bool false)], args := [d1, d2, d3] }
  | _ => none }
def LikelyTellsWrongFalsely : Prop := likelyTellsRow.holds Try.pinned (OpenSpec.ofChange likelyTellsWrong)

/-- 'isoglosslaw19.MinimalTells': WHATEVER THE INPUT: true; the input reads as it did. -/
def minimalTellsSpec : ChangeSpec := { name := "minimalTells", fn := fun _ => fun
  | [d1, d2, d3] => { results := [.lit (.bool true)], args := [d1, d2, d3] }
  | _ => none }
def minimalTellsRow : OpenClaim := { program := "ytndijidmabfhcaa", sum := "4600c6e8b0626e536fb14d6961d62dc70d5acc9c9040ac26306983cd0965937e", func := "isogloss/isoglosslaw19.MinimalTells", spec := "minimalTells", unfollowed := true, recurses := true, plainKeys := false, apart := false }
def MinimalTellsSaid : Prop := minimalTellsRow.holds Try.pinned (OpenSpec.ofChange minimalTellsSpec)

/-- ITS FALSE NEIGHBOUR: 'it returns false'. Refute it at one input. -/
def minimalTellsWrong : ChangeSpec := { name := "minimalTells", fn := fun _ => fun
  | [d1, d2, d3] => { results := [.lit (.bool false)], args := [d1, d2, d3] }
  | _ => none }
def MinimalTellsWrongFalsely : Prop := minimalTellsRow.holds Try.pinned (OpenSpec.ofChange minimalTellsWrong)

/-- 'isoglosslaw19.MinimalLeast': WHATEVER THE INPUT: true; the input reads as it did. -/
def minimalLeastSpec : ChangeSpec := { name := "minimalLeast", fn := fun _ => fun
  | [d1, d2, d3] => { results := [.lit (.bool true)], args := [d1, d2, d3] }
  | _ => none }
def minimalLeastRow : OpenClaim := { program := "ytndijidmabfhcaa", sum := "4600c6e8b0626e536fb14d6961d62dc70d5acc9c9040ac26306983cd0965937e", func := "isogloss/isoglosslaw19.MinimalLeast", spec := "minimalLeast", unfollowed := true, recurses := true, plainKeys := false, apart := false }
def MinimalLeastSaid : Prop := minimalLeastRow.holds Try.pinned (OpenSpec.ofChange minimalLeastSpec)

/-- ITS FALSE NEIGHBOUR: 'it returns false'. Refute it at one input. -/
def minimalLeastWrong : ChangeSpec := { name := "minimalLeast", fn := fun _ => fun
  | [d1, d2, d3] => { results := [.lit (.bool false)], args := [d1, d2, d3] }
  | _ => none }
def MinimalLeastWrongFalsely : Prop := minimalLeastRow.holds Try.pinned (OpenSpec.ofChange minimalLeastWrong)

/-- 'isoglosslaw19.MinimalStops': WHATEVER THE INPUT: true; the input reads as it did. -/
def minimalStopsSpec : ChangeSpec := { name := "minimalStops", fn := fun _ => fun
  | [d1, d2, d3] => { results := [.lit (.bool true)], args := [d1, d2, d3] }
  | _ => none }
def minimalStopsRow : OpenClaim := { program := "ytndijidmabfhcaa", sum := "4600c6e8b0626e536fb14d6961d62dc70d5acc9c9040ac26306983cd0965937e", func := "isogloss/isoglosslaw19.MinimalStops", spec := "minimalStops", unfollowed := true, recurses := true, plainKeys := false, apart := false }
def MinimalStopsSaid : Prop := minimalStopsRow.holds Try.pinned (OpenSpec.ofChange minimalStopsSpec)

/-- ITS FALSE NEIGHBOUR: 'it returns false'. Refute it at one input. -/
def minimalStopsWrong : ChangeSpec := { name := "minimalStops", fn := fun _ => fun
  | [d1, d2, d3] => { results := [.lit (.bool false)], args := [d1, d2, d3] }
  | _ => none }
def MinimalStopsWrongFalsely : Prop := minimalStopsRow.holds Try.pinned (OpenSpec.ofChange minimalStopsWrong)

/-- 'isoglosslaw19.MinimalKeeps': WHATEVER THE INPUT: true; the input reads as it did. -/
def minimalKeepsSpec : ChangeSpec := { name := "minimalKeeps", fn := fun _ => fun
  | [d1, d2, d3] => { results := [.lit (.bool true)], args := [d1, d2, d3] }
  | _ => none }
def minimalKeepsRow : OpenClaim := { program := "ytndijidmabfhcaa", sum := "4600c6e8b0626e536fb14d6961d62dc70d5acc9c9040ac26306983cd0965937e", func := "isogloss/isoglosslaw19.MinimalKeeps", spec := "minimalKeeps", unfollowed := true, recurses := true, plainKeys := false, apart := false }
def MinimalKeepsSaid : Prop := minimalKeepsRow.holds Try.pinned (OpenSpec.ofChange minimalKeepsSpec)

/-- ITS FALSE NEIGHBOUR: 'it returns false'. Refute it at one input. -/
def minimalKeepsWrong : ChangeSpec := { name := "minimalKeeps", fn := fun _ => fun
  | [d1, d2, d3] => { results := [.lit (.bool false)], args := [d1, d2, d3] }
  | _ => none }
def MinimalKeepsWrongFalsely : Prop := minimalKeepsRow.holds Try.pinned (OpenSpec.ofChange minimalKeepsWrong)

/- THE SECOND FORM. 'bulk': how many values and letters a reading holds, each counted each time it is reached (what is shared counts as often as it is met; a slice's spare places count too). A statement '..UptoSaid' is the law's where the arguments, and the package variables that the reading takes, are together of bulk at most 1048576: NARROWER than '..Said'. Prove '..Said' where nothing that the law and all that it calls make is longer than what came in: it says more and counts as full. Else prove '..UptoSaid'. A law counts once. -/
mutual
def uptoBulk {H : Type} : DataW H → Nat
  | .lit (.string bytes) => bytes.length + 1
  | .lit _ => 1
  | .nil => 1
  | .ptr d => uptoBulk d + 1
  | .slice elems spare => uptoBulkAll elems + uptoBulkAll spare + 1
  | .agg parts => uptoBulkAll parts + 1
  | .iface _ d => uptoBulk d + 1
  | .map entries => uptoBulkEntries entries + 1
  | .held _ => 1
def uptoBulkAll {H : Type} : List (DataW H) → Nat
  | [] => 0
  | d :: r => uptoBulk d + uptoBulkAll r
def uptoBulkEntries {H : Type} : List (Lit × DataW H) → Nat
  | [] => 0
  | x :: r => uptoBulkEntry x + uptoBulkEntries r
def uptoBulkEntry {H : Type} : Lit × DataW H → Nat
  | (.string bytes, d) => bytes.length + uptoBulk d + 1
  | (_, d) => uptoBulk d + 1
 end
def uptoSmall : (H : Type) → List (DataW H) → Bool := fun _ ds => decide (uptoBulkAll ds ≤ 1048576)
def OpenSpec.upto (s : _root_.Go.ChangeSpec) : _root_.Go.OpenSpec := { _root_.Go.OpenSpec.ofChange s with cond := some uptoSmall }

/-- 'isoglosslaw15.DataFinds', WHERE WHAT IT READS IS OF BULK AT MOST 1048576: true; the input reads as it did. -/
def dataFindsUptoRow : OpenClaim := { program := "ytndijidmabfhcaa", sum := "4600c6e8b0626e536fb14d6961d62dc70d5acc9c9040ac26306983cd0965937e", func := "isogloss/isoglosslaw15.DataFinds", spec := "dataFinds", unfollowed := true, recurses := true, plainKeys := false, apart := false, narrowed := true }
def DataFindsUptoSaid : Prop := dataFindsUptoRow.holds Try.pinned (OpenSpec.upto dataFindsSpec)

/-- 'isoglosslaw15.DataEnds', WHERE WHAT IT READS IS OF BULK AT MOST 1048576: true; the input reads as it did. -/
def dataEndsUptoRow : OpenClaim := { program := "ytndijidmabfhcaa", sum := "4600c6e8b0626e536fb14d6961d62dc70d5acc9c9040ac26306983cd0965937e", func := "isogloss/isoglosslaw15.DataEnds", spec := "dataEnds", unfollowed := true, recurses := true, plainKeys := false, apart := false, narrowed := true }
def DataEndsUptoSaid : Prop := dataEndsUptoRow.holds Try.pinned (OpenSpec.upto dataEndsSpec)

/-- 'isoglosslaw18.LikelyLadder', WHERE WHAT IT READS IS OF BULK AT MOST 1048576: true; the input reads as it did. -/
def likelyLadderUptoRow : OpenClaim := { program := "ytndijidmabfhcaa", sum := "4600c6e8b0626e536fb14d6961d62dc70d5acc9c9040ac26306983cd0965937e", func := "isogloss/isoglosslaw18.LikelyLadder", spec := "likelyLadder", unfollowed := true, recurses := true, plainKeys := false, apart := false, narrowed := true }
def LikelyLadderUptoSaid : Prop := likelyLadderUptoRow.holds Try.pinned (OpenSpec.upto likelyLadderSpec)

/-- 'isoglosslaw18.LikelyMore', WHERE WHAT IT READS IS OF BULK AT MOST 1048576: true; the input reads as it did. -/
def likelyMoreUptoRow : OpenClaim := { program := "ytndijidmabfhcaa", sum := "4600c6e8b0626e536fb14d6961d62dc70d5acc9c9040ac26306983cd0965937e", func := "isogloss/isoglosslaw18.LikelyMore", spec := "likelyMore", unfollowed := true, recurses := true, plainKeys := false, apart := false, narrowed := true }
def LikelyMoreUptoSaid : Prop := likelyMoreUptoRow.holds Try.pinned (OpenSpec.upto likelyMoreSpec)

/-- 'isoglosslaw18.LikelyOwn', WHERE WHAT IT READS IS OF BULK AT MOST 1048576: true; the input reads as it did. -/
def likelyOwnUptoRow : OpenClaim := { program := "ytndijidmabfhcaa", sum := "4600c6e8b0626e536fb14d6961d62dc70d5acc9c9040ac26306983cd0965937e", func := "isogloss/isoglosslaw18.LikelyOwn", spec := "likelyOwn", unfollowed := true, recurses := true, plainKeys := false, apart := false, narrowed := true }
def LikelyOwnUptoSaid : Prop := likelyOwnUptoRow.holds Try.pinned (OpenSpec.upto likelyOwnSpec)

/-- 'isoglosslaw18.LikelyTells', WHERE WHAT IT READS IS OF BULK AT MOST 1048576: true; the input reads as it did. -/
def likelyTellsUptoRow : OpenClaim := { program := "ytndijidmabfhcaa", sum := "4600c6e8b0626e536fb14d6961d62dc70d5acc9c9040ac26306983cd0965937e", func := "isogloss/isoglosslaw18.LikelyTells", spec := "likelyTells", unfollowed := true, recurses := true, plainKeys := false, apart := false, narrowed := true }
def LikelyTellsUptoSaid : Prop := likelyTellsUptoRow.holds Try.pinned (OpenSpec.upto likelyTellsSpec)

/-- 'isoglosslaw19.MinimalTells', WHERE WHAT IT READS IS OF BULK AT MOST 1048576: true; the input reads as it did. -/
def minimalTellsUptoRow : OpenClaim := { program := "ytndijidmabfhcaa", sum := "4600c6e8b0626e536fb14d6961d62dc70d5acc9c9040ac26306983cd0965937e", func := "isogloss/isoglosslaw19.MinimalTells", spec := "minimalTells", unfollowed := true, recurses := true, plainKeys := false, apart := false, narrowed := true }
def MinimalTellsUptoSaid : Prop := minimalTellsUptoRow.holds Try.pinned (OpenSpec.upto minimalTellsSpec)

/-- 'isoglosslaw19.MinimalLeast', WHERE WHAT IT READS IS OF BULK AT MOST 1048576: true; the input reads as it did. -/
def minimalLeastUptoRow : OpenClaim := { program := "ytndijidmabfhcaa", sum := "4600c6e8b0626e536fb14d6961d62dc70d5acc9c9040ac26306983cd0965937e", func := "isogloss/isoglosslaw19.MinimalLeast", spec := "minimalLeast", unfollowed := true, recurses := true, plainKeys := false, apart := false, narrowed := true }
def MinimalLeastUptoSaid : Prop := minimalLeastUptoRow.holds Try.pinned (OpenSpec.upto minimalLeastSpec)

/-- 'isoglosslaw19.MinimalStops', WHERE WHAT IT READS IS OF BULK AT MOST 1048576: true; the input reads as it did. -/
def minimalStopsUptoRow : OpenClaim := { program := "ytndijidmabfhcaa", sum := "4600c6e8b0626e536fb14d6961d62dc70d5acc9c9040ac26306983cd0965937e", func := "isogloss/isoglosslaw19.MinimalStops", spec := "minimalStops", unfollowed := true, recurses := true, plainKeys := false, apart := false, narrowed := true }
def MinimalStopsUptoSaid : Prop := minimalStopsUptoRow.holds Try.pinned (OpenSpec.upto minimalStopsSpec)

/-- 'isoglosslaw19.MinimalKeeps', WHERE WHAT IT READS IS OF BULK AT MOST 1048576: true; the input reads as it did. -/
def minimalKeepsUptoRow : OpenClaim := { program := "ytndijidmabfhcaa", sum := "4600c6e8b0626e536fb14d6961d62dc70d5acc9c9040ac26306983cd0965937e", func := "isogloss/isoglosslaw19.MinimalKeeps", spec := "minimalKeeps", unfollowed := true, recurses := true, plainKeys := false, apart := false, narrowed := true }
def MinimalKeepsUptoSaid : Prop := minimalKeepsUptoRow.holds Try.pinned (OpenSpec.upto minimalKeepsSpec)

end Rows
end Go.Proofs.Ytndijidmabfhcaa
