/- TableNil: for every input the law returns true, and its arguments read as they did. -/
import Derived.Test.YtbfgendaafediaaRows
import Derived.Test.YtbfgendaafediaaFwTk6
namespace Go.Proofs.Ytbfgendaafediaa
open Go Go.RowKit Go.WideShapes Go.ChangeShapes
open Fw

theorem tableNil_call (xs : List D) (h : All2 (ShpV T) [9] xs) : CallsTo Try.prog 3 xs (.bool true) := by
  obtain ⟨x, rfl, h1⟩ := all2_inv1 h
  obtain ⟨s, rfl, hs⟩ := shp_str rfl h1
  exact call3 s
theorem tableNil_left {H : Type} : ∀ ds : List (DataW H), ds.length = 1 → Rows.tableNilSpec.fn H ds = { results := [.lit (.bool true)], args := ds }
  | [_], _ => rfl

set_option maxRecDepth 100000
theorem tableNil_lifted (os : Os) (started : os.Started) (H : Type) (enc : TypeId × Value → H) :
    ReturnsInHanded {} Try.checked os 3 .any (Rows.tableNilSpec.pre6 enc Try.prog Try.f3 Rows.tableNilRow.domain false) (Rows.tableNilSpec.post enc Try.prog Try.f3 false true false false) := by
  refine returnsInHanded_of_change (C := Try.checked) (s := Rows.tableNilSpec) own started (by kernel_rfl) Try.func3
    (ChangeSpec.witness6 (C := Try.checked) false ⟨#[], #[.string ⟨#[]⟩], []⟩ 8 (by kernel_rfl) (by kernel_rfl) (by kernel_rfl) (by kernel_rfl)) ?_
  intro W base args ds gs before hval hW _ _
  refine law_contract tyOK laid rfl rfl (by kernel_rfl) (by kernel_rfl) (fun ds hl => ?_) (fun xs hx => ?_) W base args ds gs before hval hW (globW_none (by kernel_rfl))
  · exact tableNil_left ds hl
  · exact tableNil_call xs hx

theorem tableNil_holds : Rows.TableNilSaid :=
  OpenClaim.holds_of_wide 3 Try.f3 rfl rfl rfl rfl rfl rfl rfl ⟨rfl, rfl, rfl, rfl, rfl⟩ rfl rfl rfl rfl rfl (by kernel_rfl) Try.func3 (by kernel_rfl)
    (of_decide_eq_true (by kernel_rfl)) (by unfold Func.isWrapper; first | (rw [if_pos (by decide +kernel)]; kernel_rfl) | (rw [if_neg (by decide +kernel)]; exact ⟨rfl, rfl⟩))
    (fun os started H enc _ => tableNil_lifted os started H enc)
end Go.Proofs.Ytbfgendaafediaa
