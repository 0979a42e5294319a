/- LikelyOwn: for every input the law returns true, and its arguments read as they did. -/
import Derived.Test.YtndijidmabfhcaaRows
import Derived.Test.YtndijidmabfhcaaFwC5k5
namespace Go.Proofs.Ytndijidmabfhcaa
open Go Go.RowKit Go.WideShapes Go.ChangeShapes
open Fw

theorem likelyOwn_call (xs : List D) (h : All2 (ShpV T) [59, 3] xs) : CallsTo Try.prog 7 xs (.bool true) := by
  obtain ⟨x, y, rfl, h1, h2⟩ := all2_inv2 h
  obtain ⟨q, rfl⟩ := shp_sd13 h1
  obtain ⟨n, rfl⟩ := shp_int (k := .i64) rfl h2
  exact own7 q n
theorem likelyOwn_left {H : Type} : ∀ ds : List (DataW H), ds.length = 2 → Rows.likelyOwnSpec.fn H ds = { results := [.lit (.bool true)], args := ds }
  | [_, _], _ => rfl

set_option maxRecDepth 100000
theorem likelyOwn_lifted (os : Os) (started : os.Started) (H : Type) (enc : TypeId × Value → H) :
    ReturnsInHanded {} Try.checked os 7 .any (Rows.likelyOwnSpec.pre6 enc Try.prog Try.f7 Rows.likelyOwnRow.domain false) (Rows.likelyOwnSpec.post enc Try.prog Try.f7 false true false false) := by
  refine returnsInHanded_of_change (C := Try.checked) (s := Rows.likelyOwnSpec) own started (by kernel_rfl) Try.func7
    (ChangeSpec.witness6 (C := Try.checked) false ⟨#[], #[.agg #[.slice none 0 0, .slice none 0 0, .slice none 0 0, .slice none 0 0, .int .i64 0, .int .i64 0, .int .i64 0], .int .i64 0], []⟩ 8 (by kernel_rfl) (by kernel_rfl) (by kernel_rfl) (by kernel_rfl)) ?_
  intro W base args ds gs before hval hW _ _
  refine law_contract tyOK laid rfl rfl (by kernel_rfl) (by kernel_rfl) (fun ds hl => ?_) (fun xs hx => ?_) W base args ds gs before hval hW
  · exact likelyOwn_left ds hl
  · exact likelyOwn_call xs hx

theorem likelyOwn_holds : Rows.LikelyOwnSaid :=
  OpenClaim.holds_of_wide 7 Try.f7 rfl rfl rfl rfl rfl rfl rfl ⟨rfl, rfl, rfl, rfl, rfl⟩ rfl rfl rfl rfl rfl (by kernel_rfl) Try.func7 (by kernel_rfl)
    (of_decide_eq_true (by kernel_rfl)) (by unfold Func.isWrapper; first | (rw [if_pos (by decide +kernel)]; kernel_rfl) | (rw [if_neg (by decide +kernel)]; exact ⟨rfl, rfl⟩))
    (fun os started H enc _ => likelyOwn_lifted os started H enc)
end Go.Proofs.Ytndijidmabfhcaa
