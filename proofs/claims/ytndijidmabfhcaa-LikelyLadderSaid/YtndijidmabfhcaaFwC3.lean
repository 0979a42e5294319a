/- LikelyLadder: for every input the law returns true, and its arguments read as they did. -/
import Derived.Test.YtndijidmabfhcaaFwRC
import Derived.Test.YtndijidmabfhcaaFwLE
import Derived.Test.YtndijidmabfhcaaRows
namespace Go.Proofs.Ytndijidmabfhcaa
open Go Go.RowKit Go.WideShapes Go.ChangeShapes
open Fw

theorem likelyLadder_call (xs : List D) (h : All2 (ShpV T) [45, 3] xs) : CallsTo Try.prog 5 xs (.bool true) := by
  obtain ⟨x, y, rfl, h1, h2⟩ := all2_inv2 h
  obtain ⟨a, b, c, rfl⟩ := shp_ints3 h1 rfl
  obtain ⟨n, rfl⟩ := shp_int (k := .i64) rfl h2
  exact call5 a b c n

theorem likelyLadder_left {H : Type} : ∀ ds : List (DataW H), ds.length = 2 → Rows.likelyLadderSpec.fn H ds = { results := [.lit (.bool true)], args := ds }
  | [_, _], _ => rfl

set_option maxRecDepth 100000
theorem likelyLadder_lifted (os : Os) (started : os.Started) (H : Type) (enc : TypeId × Value → H) :
    ReturnsInHanded {} Try.checked os 5 .any (Rows.likelyLadderSpec.pre6 enc Try.prog Try.f5 Rows.likelyLadderRow.domain false) (Rows.likelyLadderSpec.post enc Try.prog Try.f5 false true false false) := by
  refine returnsInHanded_of_change (C := Try.checked) (s := Rows.likelyLadderSpec) own started (by kernel_rfl) Try.func5
    (ChangeSpec.witness6 (C := Try.checked) false ⟨#[], #[.agg #[.int .i64 0, .int .i64 0, .int .i64 0], .int .i64 0], []⟩ 8 (by kernel_rfl) (by kernel_rfl) (by kernel_rfl) (by kernel_rfl)) ?_
  intro W base args ds gs before hval hW _ _
  refine law_contract tyOK laid rfl rfl (by kernel_rfl) (by kernel_rfl) (fun ds hl => ?_) (fun xs hx => ?_) W base args ds gs before hval hW
  · exact likelyLadder_left ds hl
  · exact likelyLadder_call xs hx

theorem likelyLadder_holds : Rows.LikelyLadderSaid :=
  OpenClaim.holds_of_wide 5 Try.f5 rfl rfl rfl rfl rfl rfl rfl ⟨rfl, rfl, rfl, rfl, rfl⟩ rfl rfl rfl rfl rfl (by kernel_rfl) Try.func5 (by kernel_rfl)
    (of_decide_eq_true (by kernel_rfl)) (by unfold Func.isWrapper; first | (rw [if_pos (by decide +kernel)]; kernel_rfl) | (rw [if_neg (by decide +kernel)]; exact ⟨rfl, rfl⟩))
    (fun os started H enc _ => likelyLadder_lifted os started H enc)
end Go.Proofs.Ytndijidmabfhcaa
