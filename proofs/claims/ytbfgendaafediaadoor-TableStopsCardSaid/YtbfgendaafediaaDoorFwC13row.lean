/- TableStops: for every input the law returns true, and its arguments read as they did; the variable that the code reads is tied to the program's text. -/
import Derived.Test.YtbfgendaafediaaDoorFwSk6
namespace Go.Proofs.YtbfgendaafediaaDoor
open Go Go.RowKit Go.WideShapes Go.ChangeShapes
open Fw

theorem tableStops_call (xs : List D) (h : All2 (ShpV T) [22, 41] xs) : CallsTo Tryd.prog 4 xs (.bool true) := by
  obtain ⟨x, y, rfl, h1, h2⟩ := all2_inv2 h
  obtain ⟨l, rfl, hl, _⟩ := shp_strs h1
  obtain ⟨a, b, rfl⟩ := shp_ints2 h2
  exact call4 l a b hl
theorem tableStops_left {H : Type} : ∀ ds : List (DataW H), ds.length = 2 → Rows.tableStopsSpec.fn H ds = { results := [.lit (.bool true)], args := ds }
  | [_, _], _ => rfl

set_option maxRecDepth 100000
theorem tableStops_lifted (os : Os) (started : os.Started) (H : Type) (enc : TypeId × Value → H) :
    ReturnsInHanded {} Tryd.checked os 4 .any (fun w args => (Rows.tableStopsSpec.pre enc Tryd.prog Tryd.f4 [] false w args ∧ laidMetH Tryd.prog laidE w) ∧ sizedMet enc Tryd.prog Tryd.f4 (OpenSpec.ofChange Rows.tableStopsSpec) false w args)
      (Rows.tableStopsSpec.post enc Tryd.prog Tryd.f4 false true false false) := by
  refine returnsInHanded_of_change_and (C := Tryd.checked) (X := fun w _ => laidMetH Tryd.prog laidE w) (fun _ _ _ hh h => h.of_heap hh) own started (by kernel_rfl) Tryd.func4
    (ChangeSpec.witness_at (enc := enc) (C := Tryd.checked) (os := os) (X := fun w _ => laidMetH Tryd.prog laidE w) false (laidWorld os) #[.slice none 0 0, .agg #[.int .i64 0, .int .i64 0]] 8 rfl (by kernel_rfl) (by kernel_rfl) (by kernel_rfl) (by kernel_rfl) (by kernel_rfl) (laidWorld_met os _)) ?_
  intro W base args ds gs before hval hW _ _ hL _
  refine law_contract tyOK laid rfl rfl (by kernel_rfl) (by kernel_rfl) (fun ds hl => ?_) (fun xs hx => ?_) W base args ds gs before hval hW (glob_of_laid hL)
  · exact tableStops_left ds hl
  · exact tableStops_call xs hx

theorem tableStops_row : Rows.TableStopsSaid :=
  OpenClaim.holds_of_wide 4 Tryd.f4 rfl rfl rfl rfl rfl rfl rfl ⟨rfl, rfl, rfl, rfl, rfl⟩ rfl rfl rfl rfl rfl (by kernel_rfl) Tryd.func4 (by kernel_rfl)
    (of_decide_eq_true (by kernel_rfl)) (by unfold Func.isWrapper; first | (rw [if_pos (by decide +kernel)]; kernel_rfl) | (rw [if_neg (by decide +kernel)]; exact ⟨rfl, rfl⟩))
    (fun os started H enc _ => tableStops_lifted os started H enc)
theorem tableStops_holds : Rows.TableStopsCardSaid :=
  Claim7.holds_tied_plain_at .later [] [.handle] true (true, "119de0aa058b74442210ff80b95cdbe1b7e9ae9c2a0ff9bcc40a584bbdaea4cf") true
    tableStops_row (fun _ h => by cases h) (by kernel_rfl) (fun _ h => by cases h) tableStops_row_tie rfl ⟨rfl, rfl⟩ (by kernel_rfl) rfl
    (fun f fn hf hfn => by
      obtain rfl : f = 4 := Option.some.inj ((show Tryd.prog.funcNamed "isogloss/isoglosslaw11.TableStops" = some 4 by kernel_rfl).symm.trans hf) |>.symm
      obtain rfl : fn = Tryd.f4 := (Option.some.inj (Tryd.func4.symm.trans hfn)).symm
      exact ⟨by kernel_rfl, fun j t ht => by
        rw [Tryd.params4] at ht
        rcases j with _ | _ | j
        · obtain rfl : t = 22 := by simpa using ht.symm
          exact (show Tryd.prog.wantsStandIn 22 = false by kernel_rfl)
        · obtain rfl : t = 41 := by simpa using ht.symm
          exact (show Tryd.prog.wantsStandIn 41 = false by kernel_rfl)
        · simp at ht⟩)
    (by kernel_rfl)
end Go.Proofs.YtbfgendaafediaaDoor
