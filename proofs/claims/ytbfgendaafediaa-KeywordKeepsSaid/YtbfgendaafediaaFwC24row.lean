/- KeywordKeeps: for every input the law returns true, and its arguments read as they did. -/
import Derived.Test.YtbfgendaafediaaRows
import Derived.Test.YtbfgendaafediaaFwKk6
namespace Go.Proofs.Ytbfgendaafediaa
open Go Go.RowKit Go.WideShapes Go.ChangeShapes
open Fw

theorem keywordKeeps_call (xs : List D) (h : All2 (ShpV T) [37, 34] xs) : CallsTo Try.prog 8 xs (.bool true) := by
  obtain ⟨x, y, rfl, h1, h2⟩ := all2_inv2 h
  obtain ⟨k, rfl, hk⟩ := shp_kws h1
  obtain ⟨v, rfl, hv, hs⟩ := shp_strs h2
  exact call8 k v hk hv
theorem keywordKeeps_left {H : Type} : ∀ ds : List (DataW H), ds.length = 2 → Rows.keywordKeepsSpec.fn H ds = { results := [.lit (.bool true)], args := ds }
  | [_, _], _ => rfl

set_option maxRecDepth 100000
theorem keywordKeeps_lifted (os : Os) (started : os.Started) (H : Type) (enc : TypeId × Value → H) :
    ReturnsInHanded {} Try.checked os 8 .any (Rows.keywordKeepsSpec.pre6 enc Try.prog Try.f8 Rows.keywordKeepsRow.domain false) (Rows.keywordKeepsSpec.post enc Try.prog Try.f8 false true false false) := by
  refine returnsInHanded_of_change (C := Try.checked) (s := Rows.keywordKeepsSpec) own started (by kernel_rfl) Try.func8
    (ChangeSpec.witness6 (C := Try.checked) false ⟨#[], #[.agg #[.slice none 0 0, .slice none 0 0], .slice none 0 0], []⟩ 8 (by kernel_rfl) (by kernel_rfl) (by kernel_rfl) (by kernel_rfl)) ?_
  intro W base args ds gs before hval hW _ _
  refine law_contract tyOK laid rfl rfl (by kernel_rfl) (by kernel_rfl) (fun ds hl => ?_) (fun xs hx => ?_) W base args ds gs before hval hW
  · exact keywordKeeps_left ds hl
  · exact keywordKeeps_call xs hx

theorem keywordKeeps_holds : Rows.KeywordKeepsSaid :=
  OpenClaim.holds_of_wide 8 Try.f8 rfl rfl rfl rfl rfl rfl rfl ⟨rfl, rfl, rfl, rfl, rfl⟩ rfl rfl rfl rfl rfl (by kernel_rfl) Try.func8 (by kernel_rfl)
    (of_decide_eq_true (by kernel_rfl)) (by unfold Func.isWrapper; first | (rw [if_pos (by decide +kernel)]; kernel_rfl) | (rw [if_neg (by decide +kernel)]; exact ⟨rfl, rfl⟩))
    (fun os started H enc _ => keywordKeeps_lifted os started H enc)
end Go.Proofs.Ytbfgendaafediaa
