/- KeywordSets: for every input the law returns true, and its arguments read as they did. -/
import Derived.Test.YtbfgendaafediaaRows
import Derived.Test.YtbfgendaafediaaFwKk7
namespace Go.Proofs.Ytbfgendaafediaa
open Go Go.RowKit Go.WideShapes Go.ChangeShapes
open Fw

theorem keywordSets_call (xs : List D) (h : All2 (ShpV T) [37, 9, 34] xs) : CallsTo Try.prog 9 xs (.bool true) := by
  obtain ⟨x, y, z, rfl, h1, h2, h3⟩ := all2_inv3 h
  obtain ⟨k, rfl, hk⟩ := shp_kws h1
  obtain ⟨s, rfl, hs⟩ := shp_str rfl h2
  obtain ⟨v, rfl, hv, hvs⟩ := shp_strs h3
  exact call9 k s v hk hv
theorem keywordSets_left {H : Type} : ∀ ds : List (DataW H), ds.length = 3 → Rows.keywordSetsSpec.fn H ds = { results := [.lit (.bool true)], args := ds }
  | [_, _, _], _ => rfl

set_option maxRecDepth 100000
theorem keywordSets_lifted (os : Os) (started : os.Started) (H : Type) (enc : TypeId × Value → H) :
    ReturnsInHanded {} Try.checked os 9 .any (Rows.keywordSetsSpec.pre6 enc Try.prog Try.f9 Rows.keywordSetsRow.domain false) (Rows.keywordSetsSpec.post enc Try.prog Try.f9 false true false false) := by
  refine returnsInHanded_of_change (C := Try.checked) (s := Rows.keywordSetsSpec) own started (by kernel_rfl) Try.func9
    (ChangeSpec.witness6 (C := Try.checked) false ⟨#[], #[.agg #[.slice none 0 0, .slice none 0 0], .string ⟨#[]⟩, .slice none 0 0], []⟩ 8 (by kernel_rfl) (by kernel_rfl) (by kernel_rfl) (by kernel_rfl)) ?_
  intro W base args ds gs before hval hW _ _
  refine law_contract tyOK laid rfl rfl (by kernel_rfl) (by kernel_rfl) (fun ds hl => ?_) (fun xs hx => ?_) W base args ds gs before hval hW
  · exact keywordSets_left ds hl
  · exact keywordSets_call xs hx

theorem keywordSets_holds : Rows.KeywordSetsSaid :=
  OpenClaim.holds_of_wide 9 Try.f9 rfl rfl rfl rfl rfl rfl rfl ⟨rfl, rfl, rfl, rfl, rfl⟩ rfl rfl rfl rfl rfl (by kernel_rfl) Try.func9 (by kernel_rfl)
    (of_decide_eq_true (by kernel_rfl)) (by unfold Func.isWrapper; first | (rw [if_pos (by decide +kernel)]; kernel_rfl) | (rw [if_neg (by decide +kernel)]; exact ⟨rfl, rfl⟩))
    (fun os started H enc _ => keywordSets_lifted os started H enc)
end Go.Proofs.Ytbfgendaafediaa
