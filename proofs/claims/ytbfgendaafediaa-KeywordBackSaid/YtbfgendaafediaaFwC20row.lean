/- KeywordBack: for every input the law returns true, and its arguments read as they did. -/
import Derived.Test.YtbfgendaafediaaRows
import Derived.Test.YtbfgendaafediaaFwKk6
namespace Go.Proofs.Ytbfgendaafediaa
open Go Go.RowKit Go.WideShapes Go.ChangeShapes
open Fw

theorem keywordBack_call (xs : List D) (h : All2 (ShpV T) [34] xs) : CallsTo Try.prog 5 xs (.bool true) := by
  obtain ⟨x, rfl, h1⟩ := all2_inv1 h
  obtain ⟨l, rfl, hl, hs⟩ := shp_strs h1
  exact call5' l hl
theorem keywordBack_left {H : Type} : ∀ ds : List (DataW H), ds.length = 1 → Rows.keywordBackSpec.fn H ds = { results := [.lit (.bool true)], args := ds }
  | [_], _ => rfl

set_option maxRecDepth 100000
theorem keywordBack_lifted (os : Os) (started : os.Started) (H : Type) (enc : TypeId × Value → H) :
    ReturnsInHanded {} Try.checked os 5 .any (Rows.keywordBackSpec.pre6 enc Try.prog Try.f5 Rows.keywordBackRow.domain false) (Rows.keywordBackSpec.post enc Try.prog Try.f5 false true false false) := by
  refine returnsInHanded_of_change (C := Try.checked) (s := Rows.keywordBackSpec) own started (by kernel_rfl) Try.func5
    (ChangeSpec.witness6 (C := Try.checked) false ⟨#[], #[.slice none 0 0], []⟩ 8 (by kernel_rfl) (by kernel_rfl) (by kernel_rfl) (by kernel_rfl)) ?_
  intro W base args ds gs before hval hW _ _
  refine law_contract tyOK laid rfl rfl (by kernel_rfl) (by kernel_rfl) (fun ds hl => ?_) (fun xs hx => ?_) W base args ds gs before hval hW
  · exact keywordBack_left ds hl
  · exact keywordBack_call xs hx

theorem keywordBack_holds : Rows.KeywordBackSaid :=
  OpenClaim.holds_of_wide 5 Try.f5 rfl rfl rfl rfl rfl rfl rfl ⟨rfl, rfl, rfl, rfl, rfl⟩ rfl rfl rfl rfl rfl (by kernel_rfl) Try.func5 (by kernel_rfl)
    (of_decide_eq_true (by kernel_rfl)) (by unfold Func.isWrapper; first | (rw [if_pos (by decide +kernel)]; kernel_rfl) | (rw [if_neg (by decide +kernel)]; exact ⟨rfl, rfl⟩))
    (fun os started H enc _ => keywordBack_lifted os started H enc)
end Go.Proofs.Ytbfgendaafediaa
