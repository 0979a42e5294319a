/- MinimalStops: for every input the law returns true, and its arguments read as they did. -/
import Derived.Test.YtndijidmabfhcaaRows
import Derived.Test.YtndijidmabfhcaaFwC4k5
namespace Go.Proofs.Ytndijidmabfhcaa
open Go Go.RowKit Go.WideShapes Go.ChangeShapes
open Fw

theorem minimalStops_call (xs : List D) (h : All2 (ShpV T) [66, 4, 3] xs) : CallsTo Try.prog 11 xs (.bool true) := by
  obtain ⟨x, y, z, rfl, h1, h2, h3⟩ := all2_inv3 h
  obtain ⟨q, rfl⟩ := shp_sd06 h1
  obtain ⟨b, rfl⟩ := shp_bool rfl h2
  obtain ⟨n, rfl⟩ := shp_int (k := .i64) rfl h3
  exact stops q b n
theorem minimalStops_left {H : Type} : ∀ ds : List (DataW H), ds.length = 3 → Rows.minimalStopsSpec.fn H ds = { results := [.lit (.bool true)], args := ds }
  | [_, _, _], _ => rfl

set_option maxRecDepth 100000
theorem minimalStops_lifted (os : Os) (started : os.Started) (H : Type) (enc : TypeId × Value → H) :
    ReturnsInHanded {} Try.checked os 11 .any (Rows.minimalStopsSpec.pre6 enc Try.prog Try.f11 Rows.minimalStopsRow.domain false) (Rows.minimalStopsSpec.post enc Try.prog Try.f11 false true false false) := by
  refine returnsInHanded_of_change (C := Try.checked) (s := Rows.minimalStopsSpec) own started (by kernel_rfl) Try.func11
    (ChangeSpec.witness6 (C := Try.checked) false ⟨#[], #[.agg #[.int .i64 0, .int .i64 0, .int .i64 0, .int .i64 0, .slice none 0 0, .slice none 0 0, .slice none 0 0, .int .i64 0], .bool false, .int .i64 0], []⟩ 8 (by kernel_rfl) (by kernel_rfl) (by kernel_rfl) (by kernel_rfl)) ?_
  intro W base args ds gs before hval hW _ _
  refine law_contract tyOK laid rfl rfl (by kernel_rfl) (by kernel_rfl) (fun ds hl => ?_) (fun xs hx => ?_) W base args ds gs before hval hW
  · exact minimalStops_left ds hl
  · exact minimalStops_call xs hx

theorem minimalStops_holds : Rows.MinimalStopsSaid :=
  OpenClaim.holds_of_wide 11 Try.f11 rfl rfl rfl rfl rfl rfl rfl ⟨rfl, rfl, rfl, rfl, rfl⟩ rfl rfl rfl rfl rfl (by kernel_rfl) Try.func11 (by kernel_rfl)
    (of_decide_eq_true (by kernel_rfl)) (by unfold Func.isWrapper; first | (rw [if_pos (by decide +kernel)]; kernel_rfl) | (rw [if_neg (by decide +kernel)]; exact ⟨rfl, rfl⟩))
    (fun os started H enc _ => minimalStops_lifted os started H enc)
end Go.Proofs.Ytndijidmabfhcaa
