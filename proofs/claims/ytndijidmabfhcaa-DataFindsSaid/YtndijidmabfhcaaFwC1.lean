/- DataFinds: for every input the law returns true, and its arguments read as they did. -/
import Derived.Test.YtndijidmabfhcaaFwRC
import Derived.Test.YtndijidmabfhcaaFwDG
import Derived.Test.YtndijidmabfhcaaRows
namespace Go.Proofs.Ytndijidmabfhcaa
open Go Go.RowKit Go.WideShapes Go.ChangeShapes

open Fw

theorem dataFinds_call (xs : List D) (h : All2 (ShpV T) [3, 22, 3] xs) : CallsTo Try.prog 3 xs (.bool true) := by
    obtain ⟨x, y, z, rfl, h1, h2, h3⟩ := all2_inv3 h
    obtain ⟨k, rfl⟩ := shp_int (k := .i64) rfl h1
    obtain ⟨a, b, c, rfl⟩ := shp_strs3 h2
    obtain ⟨n, rfl⟩ := shp_int (k := .i64) rfl h3
    exact call3 k n a b c

theorem dataFinds_left {H : Type} : ∀ ds : List (DataW H), ds.length = 3 → Rows.dataFindsSpec.fn H ds = { results := [.lit (.bool true)], args := ds }
  | [_, _, _], _ => rfl

set_option maxRecDepth 100000
theorem dataFinds_lifted (os : Os) (started : os.Started) (H : Type) (enc : TypeId × Value → H) :
    ReturnsInHanded {} Try.checked os 3 .any (Rows.dataFindsSpec.pre6 enc Try.prog Try.f3 Rows.dataFindsRow.domain false) (Rows.dataFindsSpec.post enc Try.prog Try.f3 false true false false) := by
  refine returnsInHanded_of_change (C := Try.checked) (s := Rows.dataFindsSpec) own started (by kernel_rfl) Try.func3
    (ChangeSpec.witness6 (C := Try.checked) false ⟨#[], #[.int .i64 0, .agg #[.string ⟨#[]⟩, .string ⟨#[]⟩, .string ⟨#[]⟩], .int .i64 0], []⟩ 8 (by kernel_rfl) (by kernel_rfl) (by kernel_rfl) (by kernel_rfl)) ?_
  intro W base args ds gs before hval hW _ _
  refine law_contract tyOK laid rfl rfl (by kernel_rfl) (by kernel_rfl) (fun ds hl => ?_) (fun xs hx => ?_) W base args ds gs before hval hW
  · exact dataFinds_left ds hl
  · exact dataFinds_call xs hx

theorem dataFinds_holds : Rows.DataFindsSaid :=
  OpenClaim.holds_of_wide 3 Try.f3 rfl rfl rfl rfl rfl rfl rfl ⟨rfl, rfl, rfl, rfl, rfl⟩ rfl rfl rfl rfl rfl (by kernel_rfl) Try.func3 (by kernel_rfl)
    (of_decide_eq_true (by kernel_rfl)) (by unfold Func.isWrapper; first | (rw [if_pos (by decide +kernel)]; kernel_rfl) | (rw [if_neg (by decide +kernel)]; exact ⟨rfl, rfl⟩))
    (fun os started H enc _ => dataFinds_lifted os started H enc)
end Go.Proofs.Ytndijidmabfhcaa
