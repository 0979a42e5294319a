/- TableOrder: for every input the law returns true, and its arguments read as they did; the variable that the code reads is tied to the program's text. -/
import Derived.Test.YtbfgendaafediaaDoorFwOk6
namespace Go.Proofs.YtbfgendaafediaaDoor
open Go Go.RowKit Go.WideShapes Go.ChangeShapes
open Fw

theorem tableOrder_call (xs : List D) (h : All2 (ShpV T) [22, 47] xs) : CallsTo Tryd.prog 5 xs (.bool true) := by
  obtain ⟨x, y, rfl, h1, h2⟩ := all2_inv2 h
  obtain ⟨l, rfl, hl, _⟩ := shp_strs h1
  obtain ⟨a, b, c, rfl⟩ := shp_ints3 h2
  exact call5 l a b c hl
theorem tableOrder_left {H : Type} : ∀ ds : List (DataW H), ds.length = 2 → Rows.tableOrderSpec.fn H ds = { results := [.lit (.bool true)], args := ds }
  | [_, _], _ => rfl

set_option maxRecDepth 100000
theorem tableOrder_lifted (os : Os) (started : os.Started) (H : Type) (enc : TypeId × Value → H) :
    ReturnsInHanded {} Tryd.checked os 5 .any (fun w args => (Rows.tableOrderSpec.pre enc Tryd.prog Tryd.f5 [] false w args ∧ laidMetH Tryd.prog laidE w) ∧ sizedMet enc Tryd.prog Tryd.f5 (OpenSpec.ofChange Rows.tableOrderSpec) false w args)
      (Rows.tableOrderSpec.post enc Tryd.prog Tryd.f5 false true false false) := by
  refine returnsInHanded_of_change_and (C := Tryd.checked) (X := fun w _ => laidMetH Tryd.prog laidE w) (fun _ _ _ hh h => h.of_heap hh) own started (by kernel_rfl) Tryd.func5
    (ChangeSpec.witness_at (enc := enc) (C := Tryd.checked) (os := os) (X := fun w _ => laidMetH Tryd.prog laidE w) false (laidWorld os) #[.slice none 0 0, .agg #[.int .i64 0, .int .i64 0, .int .i64 0]] 8 rfl (by kernel_rfl) (by kernel_rfl) (by kernel_rfl) (by kernel_rfl) (by kernel_rfl) (laidWorld_met os _)) ?_
  intro W base args ds gs before hval hW _ _ hL _
  refine law_contract tyOK laid rfl rfl (by kernel_rfl) (by kernel_rfl) (fun ds hl => ?_) (fun xs hx => ?_) W base args ds gs before hval hW (glob_of_laid hL)
  · exact tableOrder_left ds hl
  · exact tableOrder_call xs hx

theorem tableOrder_row : Rows.TableOrderSaid :=
  OpenClaim.holds_of_wide 5 Tryd.f5 rfl rfl rfl rfl rfl rfl rfl ⟨rfl, rfl, rfl, rfl, rfl⟩ rfl rfl rfl rfl rfl (by kernel_rfl) Tryd.func5 (by kernel_rfl)
    (of_decide_eq_true (by kernel_rfl)) (by unfold Func.isWrapper; first | (rw [if_pos (by decide +kernel)]; kernel_rfl) | (rw [if_neg (by decide +kernel)]; exact ⟨rfl, rfl⟩))
    (fun os started H enc _ => tableOrder_lifted os started H enc)
theorem tableOrder_holds : Rows.TableOrderCardSaid :=
  Claim7.holds_tied_plain_at .later [] [.handle] true (true, "119de0aa058b74442210ff80b95cdbe1b7e9ae9c2a0ff9bcc40a584bbdaea4cf") true
    tableOrder_row (fun _ h => by cases h) (by kernel_rfl) (fun _ h => by cases h) tableOrder_row_tie rfl ⟨rfl, rfl⟩ (by kernel_rfl) rfl
    (fun f fn hf hfn => by
      obtain rfl : f = 5 := Option.some.inj ((show Tryd.prog.funcNamed "isogloss/isoglosslaw11.TableOrder" = some 5 by kernel_rfl).symm.trans hf) |>.symm
      obtain rfl : fn = Tryd.f5 := (Option.some.inj (Tryd.func5.symm.trans hfn)).symm
      exact ⟨by kernel_rfl, fun j t ht => by
        rw [Tryd.params5] at ht
        rcases j with _ | _ | j
        · obtain rfl : t = 22 := by simpa using ht.symm
          exact (show Tryd.prog.wantsStandIn 22 = false by kernel_rfl)
        · obtain rfl : t = 47 := by simpa using ht.symm
          exact (show Tryd.prog.wantsStandIn 47 = false by kernel_rfl)
        · simp at ht⟩)
    (by kernel_rfl)
end Go.Proofs.YtbfgendaafediaaDoor
