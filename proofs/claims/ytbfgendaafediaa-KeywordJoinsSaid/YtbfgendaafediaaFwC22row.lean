/- KeywordJoins: for every input the law returns true, and its arguments read as they did. -/
import Derived.Test.YtbfgendaafediaaRows
import Derived.Test.YtbfgendaafediaaFwKk6
namespace Go.Proofs.Ytbfgendaafediaa
open Go Go.RowKit Go.WideShapes Go.ChangeShapes
open Fw

theorem keywordJoins_call (xs : List D) (h : All2 (ShpV T) [34, 34] xs) : CallsTo Try.prog 7 xs (.bool true) := by
  obtain ⟨x, y, rfl, h1, h2⟩ := all2_inv2 h
  obtain ⟨a, rfl, ha, hs⟩ := shp_strs h1
  obtain ⟨b, rfl, hb, hs2⟩ := shp_strs h2
  exact call7' a b ha hb
theorem keywordJoins_left {H : Type} : ∀ ds : List (DataW H), ds.length = 2 → Rows.keywordJoinsSpec.fn H ds = { results := [.lit (.bool true)], args := ds }
  | [_, _], _ => rfl

set_option maxRecDepth 100000
theorem keywordJoins_lifted (os : Os) (started : os.Started) (H : Type) (enc : TypeId × Value → H) :
    ReturnsInHanded {} Try.checked os 7 .any (Rows.keywordJoinsSpec.pre6 enc Try.prog Try.f7 Rows.keywordJoinsRow.domain false) (Rows.keywordJoinsSpec.post enc Try.prog Try.f7 false true false false) := by
  refine returnsInHanded_of_change (C := Try.checked) (s := Rows.keywordJoinsSpec) own started (by kernel_rfl) Try.func7
    (ChangeSpec.witness6 (C := Try.checked) false ⟨#[], #[.slice none 0 0, .slice none 0 0], []⟩ 8 (by kernel_rfl) (by kernel_rfl) (by kernel_rfl) (by kernel_rfl)) ?_
  intro W base args ds gs before hval hW _ _
  refine law_contract tyOK laid rfl rfl (by kernel_rfl) (by kernel_rfl) (fun ds hl => ?_) (fun xs hx => ?_) W base args ds gs before hval hW
  · exact keywordJoins_left ds hl
  · exact keywordJoins_call xs hx

theorem keywordJoins_holds : Rows.KeywordJoinsSaid :=
  OpenClaim.holds_of_wide 7 Try.f7 rfl rfl rfl rfl rfl rfl rfl ⟨rfl, rfl, rfl, rfl, rfl⟩ rfl rfl rfl rfl rfl (by kernel_rfl) Try.func7 (by kernel_rfl)
    (of_decide_eq_true (by kernel_rfl)) (by unfold Func.isWrapper; first | (rw [if_pos (by decide +kernel)]; kernel_rfl) | (rw [if_neg (by decide +kernel)]; exact ⟨rfl, rfl⟩))
    (fun os started H enc _ => keywordJoins_lifted os started H enc)
end Go.Proofs.Ytbfgendaafediaa
