/- DataEnds: for every input the law returns true, and its arguments read as they did. -/
import Derived.Test.YtndijidmabfhcaaFwRC
import Derived.Test.YtndijidmabfhcaaFwDI
import Derived.Test.YtndijidmabfhcaaRows
namespace Go.Proofs.Ytndijidmabfhcaa
open Go Go.RowKit Go.WideShapes Go.ChangeShapes
open Fw

theorem dataEnds_call (xs : List D) (h : All2 (ShpV T) [3] xs) : CallsTo Try.prog 4 xs (.bool true) := by
  obtain ⟨x, rfl, h1⟩ := all2_inv1 h
  obtain ⟨n, rfl⟩ := shp_int (k := .i64) rfl h1
  exact call4 n

theorem dataEnds_left {H : Type} : ∀ ds : List (DataW H), ds.length = 1 → Rows.dataEndsSpec.fn H ds = { results := [.lit (.bool true)], args := ds }
  | [_], _ => rfl

set_option maxRecDepth 100000
theorem dataEnds_lifted (os : Os) (started : os.Started) (H : Type) (enc : TypeId × Value → H) :
    ReturnsInHanded {} Try.checked os 4 .any (Rows.dataEndsSpec.pre6 enc Try.prog Try.f4 Rows.dataEndsRow.domain false) (Rows.dataEndsSpec.post enc Try.prog Try.f4 false true false false) := by
  refine returnsInHanded_of_change (C := Try.checked) (s := Rows.dataEndsSpec) own started (by kernel_rfl) Try.func4
    (ChangeSpec.witness6 (C := Try.checked) false ⟨#[], #[.int .i64 0], []⟩ 8 (by kernel_rfl) (by kernel_rfl) (by kernel_rfl) (by kernel_rfl)) ?_
  intro W base args ds gs before hval hW _ _
  refine law_contract tyOK laid rfl rfl (by kernel_rfl) (by kernel_rfl) (fun ds hl => ?_) (fun xs hx => ?_) W base args ds gs before hval hW
  · exact dataEnds_left ds hl
  · exact dataEnds_call xs hx

theorem dataEnds_holds : Rows.DataEndsSaid :=
  OpenClaim.holds_of_wide 4 Try.f4 rfl rfl rfl rfl rfl rfl rfl ⟨rfl, rfl, rfl, rfl, rfl⟩ rfl rfl rfl rfl rfl (by kernel_rfl) Try.func4 (by kernel_rfl)
    (of_decide_eq_true (by kernel_rfl)) (by unfold Func.isWrapper; first | (rw [if_pos (by decide +kernel)]; kernel_rfl) | (rw [if_neg (by decide +kernel)]; exact ⟨rfl, rfl⟩))
    (fun os started H enc _ => dataEnds_lifted os started H enc)
end Go.Proofs.Ytndijidmabfhcaa
