/- LikelyTells: for every input the law returns true, and its arguments read as they did. -/
import Derived.Test.YtndijidmabfhcaaRows
import Derived.Test.YtndijidmabfhcaaFwC10k5
namespace Go.Proofs.Ytndijidmabfhcaa
open Go Go.RowKit Go.WideShapes Go.ChangeShapes
open Fw

theorem likelyTells_call (xs : List D) (h : All2 (ShpV T) [59, 66, 45] xs) : CallsTo Try.prog 8 xs (.bool true) := by
  obtain ⟨x, y, z, rfl, h1, h2, h3⟩ := all2_inv3 h
  obtain ⟨q, rfl⟩ := shp_sd13 h1
  obtain ⟨d, rfl⟩ := shp_sd06 h2
  obtain ⟨a, b, c, rfl⟩ := shp_ints3 h3 rfl
  exact tells8 q d a b c
theorem likelyTells_left {H : Type} : ∀ ds : List (DataW H), ds.length = 3 → Rows.likelyTellsSpec.fn H ds = { results := [.lit (.bool true)], args := ds }
  | [_, _, _], _ => rfl

set_option maxRecDepth 100000
theorem likelyTells_lifted (os : Os) (started : os.Started) (H : Type) (enc : TypeId × Value → H) :
    ReturnsInHanded {} Try.checked os 8 .any (Rows.likelyTellsSpec.pre6 enc Try.prog Try.f8 Rows.likelyTellsRow.domain false) (Rows.likelyTellsSpec.post enc Try.prog Try.f8 false true false false) := by
  refine returnsInHanded_of_change (C := Try.checked) (s := Rows.likelyTellsSpec) own started (by kernel_rfl) Try.func8
    (ChangeSpec.witness6 (C := Try.checked) false ⟨#[], #[.agg #[.slice none 0 0, .slice none 0 0, .slice none 0 0, .slice none 0 0, .int .i64 0, .int .i64 0, .int .i64 0], .agg #[.int .i64 0, .int .i64 0, .int .i64 0, .int .i64 0, .slice none 0 0, .slice none 0 0, .slice none 0 0, .int .i64 0], .agg #[.int .i64 0, .int .i64 0, .int .i64 0]], []⟩ 8 (by kernel_rfl) (by kernel_rfl) (by kernel_rfl) (by kernel_rfl)) ?_
  intro W base args ds gs before hval hW _ _
  refine law_contract tyOK laid rfl rfl (by kernel_rfl) (by kernel_rfl) (fun ds hl => ?_) (fun xs hx => ?_) W base args ds gs before hval hW
  · exact likelyTells_left ds hl
  · exact likelyTells_call xs hx

theorem likelyTells_holds : Rows.LikelyTellsSaid :=
  OpenClaim.holds_of_wide 8 Try.f8 rfl rfl rfl rfl rfl rfl rfl ⟨rfl, rfl, rfl, rfl, rfl⟩ rfl rfl rfl rfl rfl (by kernel_rfl) Try.func8 (by kernel_rfl)
    (of_decide_eq_true (by kernel_rfl)) (by unfold Func.isWrapper; first | (rw [if_pos (by decide +kernel)]; kernel_rfl) | (rw [if_neg (by decide +kernel)]; exact ⟨rfl, rfl⟩))
    (fun os started H enc _ => likelyTells_lifted os started H enc)
end Go.Proofs.Ytndijidmabfhcaa
