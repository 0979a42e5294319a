/- KeywordOrdered: for every input the law returns true, and its arguments read as they did. -/
import Derived.Test.YtbfgendaafediaaRows
import Derived.Test.YtbfgendaafediaaFwKk7
namespace Go.Proofs.Ytbfgendaafediaa
open Go Go.RowKit Go.WideShapes Go.ChangeShapes
open Fw

theorem keywordOrdered_call (xs : List D) (h : All2 (ShpV T) [37] xs) : CallsTo Try.prog 6 xs (.bool true) := by
  obtain ⟨x, rfl, h1⟩ := all2_inv1 h
  obtain ⟨k, rfl, hk⟩ := shp_kws h1
  exact call6 k hk
theorem keywordOrdered_left {H : Type} : ∀ ds : List (DataW H), ds.length = 1 → Rows.keywordOrderedSpec.fn H ds = { results := [.lit (.bool true)], args := ds }
  | [_], _ => rfl

set_option maxRecDepth 100000
theorem keywordOrdered_lifted (os : Os) (started : os.Started) (H : Type) (enc : TypeId × Value → H) :
    ReturnsInHanded {} Try.checked os 6 .any (Rows.keywordOrderedSpec.pre6 enc Try.prog Try.f6 Rows.keywordOrderedRow.domain false) (Rows.keywordOrderedSpec.post enc Try.prog Try.f6 false true false false) := by
  refine returnsInHanded_of_change (C := Try.checked) (s := Rows.keywordOrderedSpec) own started (by kernel_rfl) Try.func6
    (ChangeSpec.witness6 (C := Try.checked) false ⟨#[], #[.agg #[.slice none 0 0, .slice none 0 0]], []⟩ 8 (by kernel_rfl) (by kernel_rfl) (by kernel_rfl) (by kernel_rfl)) ?_
  intro W base args ds gs before hval hW _ _
  refine law_contract tyOK laid rfl rfl (by kernel_rfl) (by kernel_rfl) (fun ds hl => ?_) (fun xs hx => ?_) W base args ds gs before hval hW
  · exact keywordOrdered_left ds hl
  · exact keywordOrdered_call xs hx

theorem keywordOrdered_holds : Rows.KeywordOrderedSaid :=
  OpenClaim.holds_of_wide 6 Try.f6 rfl rfl rfl rfl rfl rfl rfl ⟨rfl, rfl, rfl, rfl, rfl⟩ rfl rfl rfl rfl rfl (by kernel_rfl) Try.func6 (by kernel_rfl)
    (of_decide_eq_true (by kernel_rfl)) (by unfold Func.isWrapper; first | (rw [if_pos (by decide +kernel)]; kernel_rfl) | (rw [if_neg (by decide +kernel)]; exact ⟨rfl, rfl⟩))
    (fun os started H enc _ => keywordOrdered_lifted os started H enc)
end Go.Proofs.Ytbfgendaafediaa
