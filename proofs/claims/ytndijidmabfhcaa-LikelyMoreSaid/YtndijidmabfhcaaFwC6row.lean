/- LikelyMore: for every input the law returns true, and its arguments read as they did. -/
import Derived.Test.YtndijidmabfhcaaRows
import Derived.Test.YtndijidmabfhcaaFwC6k5
namespace Go.Proofs.Ytndijidmabfhcaa
open Go Go.RowKit Go.WideShapes Go.ChangeShapes
open Fw

theorem likelyMore_call (xs : List D) (h : All2 (ShpV T) [59, 45, 3] xs) : CallsTo Try.prog 6 xs (.bool true) := by
  obtain ⟨x, y, z, rfl, h1, h2, h3⟩ := all2_inv3 h
  obtain ⟨q, rfl⟩ := shp_sd13 h1
  obtain ⟨a, b, c, rfl⟩ := shp_ints3 h2 rfl
  obtain ⟨n, rfl⟩ := shp_int (k := .i64) rfl h3
  exact more6 q a b c n
theorem likelyMore_left {H : Type} : ∀ ds : List (DataW H), ds.length = 3 → Rows.likelyMoreSpec.fn H ds = { results := [.lit (.bool true)], args := ds }
  | [_, _, _], _ => rfl

set_option maxRecDepth 100000
theorem likelyMore_lifted (os : Os) (started : os.Started) (H : Type) (enc : TypeId × Value → H) :
    ReturnsInHanded {} Try.checked os 6 .any (Rows.likelyMoreSpec.pre6 enc Try.prog Try.f6 Rows.likelyMoreRow.domain false) (Rows.likelyMoreSpec.post enc Try.prog Try.f6 false true false false) := by
  refine returnsInHanded_of_change (C := Try.checked) (s := Rows.likelyMoreSpec) own started (by kernel_rfl) Try.func6
    (ChangeSpec.witness6 (C := Try.checked) false ⟨#[], #[.agg #[.slice none 0 0, .slice none 0 0, .slice none 0 0, .slice none 0 0, .int .i64 0, .int .i64 0, .int .i64 0], .agg #[.int .i64 0, .int .i64 0, .int .i64 0], .int .i64 0], []⟩ 8 (by kernel_rfl) (by kernel_rfl) (by kernel_rfl) (by kernel_rfl)) ?_
  intro W base args ds gs before hval hW _ _
  refine law_contract tyOK laid rfl rfl (by kernel_rfl) (by kernel_rfl) (fun ds hl => ?_) (fun xs hx => ?_) W base args ds gs before hval hW
  · exact likelyMore_left ds hl
  · exact likelyMore_call xs hx

theorem likelyMore_holds : Rows.LikelyMoreSaid :=
  OpenClaim.holds_of_wide 6 Try.f6 rfl rfl rfl rfl rfl rfl rfl ⟨rfl, rfl, rfl, rfl, rfl⟩ rfl rfl rfl rfl rfl (by kernel_rfl) Try.func6 (by kernel_rfl)
    (of_decide_eq_true (by kernel_rfl)) (by unfold Func.isWrapper; first | (rw [if_pos (by decide +kernel)]; kernel_rfl) | (rw [if_neg (by decide +kernel)]; exact ⟨rfl, rfl⟩))
    (fun os started H enc _ => likelyMore_lifted os started H enc)
end Go.Proofs.Ytndijidmabfhcaa
