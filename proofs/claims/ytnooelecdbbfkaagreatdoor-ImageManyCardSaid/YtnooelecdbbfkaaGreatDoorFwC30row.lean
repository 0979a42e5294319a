/- ImageMany: for every input the law returns true, and its arguments read as they did; the variables that the code reads are tied to the program's text. -/
import Derived.Test.YtnooelecdbbfkaaGreatDoorFwK3k7
namespace Go.Proofs.YtnooelecdbbfkaaGreatDoor
open Go Go.RowKit Go.WideShapes Go.ChangeShapes
open Fw

theorem imageMany_call (xs : List D) (h : All2 (ShpV T) [3] xs) : CallsTo Tryz.prog 7 xs (.bool true) := by
  obtain ⟨x, rfl, h1⟩ := all2_inv1 h
  obtain ⟨n, rfl⟩ := shp_int rfl h1
  exact calls Tryz.func7 rfl (by decide) (run7 errH n)
theorem imageMany_left {H : Type} : ∀ ds : List (DataW H), ds.length = 1 → Rows.imageManySpec.fn H ds = { results := [.lit (.bool true)], args := ds }
  | [_], _ => rfl

set_option maxRecDepth 100000
theorem imageMany_lifted (os : Os) (started : os.Started) (H : Type) (enc : TypeId × Value → H) :
    ReturnsInHanded {} Tryz.checked os 7 .any (fun w args => (Rows.imageManySpec.pre enc Tryz.prog Tryz.f7 [] false w args ∧ laidMetH Tryz.prog laidE w) ∧ sizedMet enc Tryz.prog Tryz.f7 (OpenSpec.ofChange Rows.imageManySpec) false w args)
      (Rows.imageManySpec.post enc Tryz.prog Tryz.f7 false true false false) := by
  refine returnsInHanded_of_change_and (C := Tryz.checked) (X := fun w _ => laidMetH Tryz.prog laidE w) (fun _ _ _ hh h => h.of_heap hh) own started (by kernel_rfl) Tryz.func7
    (ChangeSpec.witness_at (enc := enc) (C := Tryz.checked) (os := os) (X := fun w _ => laidMetH Tryz.prog laidE w) false (laidWorld os) #[.int .i64 0] 8 rfl (by kernel_rfl) (by kernel_rfl) (by kernel_rfl) (by kernel_rfl) (by kernel_rfl) (laidWorld_met os _)) ?_
  intro W base args ds gs before hval hW _ _ hL _
  refine law_contract tyOK laid rfl rfl (by kernel_rfl) (by kernel_rfl) (fun ds hl => ?_) (fun xs hx => ?_) W base args ds gs before hval hW (glob_of_laid hL)
  · exact imageMany_left ds hl
  · exact imageMany_call xs hx

theorem imageMany_row : Rows.ImageManySaid :=
  OpenClaim.holds_of_wide 7 Tryz.f7 rfl rfl rfl rfl rfl rfl rfl ⟨rfl, rfl, rfl, rfl, rfl⟩ rfl rfl rfl rfl rfl (by kernel_rfl) Tryz.func7 (by kernel_rfl)
    (of_decide_eq_true (by kernel_rfl)) (by unfold Func.isWrapper; first | (rw [if_pos (by decide +kernel)]; kernel_rfl) | (rw [if_neg (by decide +kernel)]; exact ⟨rfl, rfl⟩))
    (fun os started H enc _ => imageMany_lifted os started H enc)
theorem imageMany_holds : Rows.ImageManyCardSaid :=
  Claim7.holds_tied_plain_at .later [] [.handle, .data] true (true, "667d66a8612b2d65880df56fea20b6c0468add3a3805b0384a0d740cb67777aa") true
    imageMany_row (fun _ h => by cases h) (by kernel_rfl) (fun _ h => by cases h) imageMany_row_tie rfl ⟨rfl, rfl⟩ (by kernel_rfl) rfl
    (fun f fn hf hfn => by
      obtain rfl : f = 7 := Option.some.inj ((show Tryz.prog.funcNamed "isogloss/isoglosslaw13.ImageMany" = some 7 by kernel_rfl).symm.trans hf) |>.symm
      obtain rfl : fn = Tryz.f7 := (Option.some.inj (Tryz.func7.symm.trans hfn)).symm
      exact ⟨by kernel_rfl, fun j t ht => by
        rw [Tryz.params7] at ht
        rcases j with _ | j
        · obtain rfl : t = 3 := by simpa using ht.symm
          exact (show Tryz.prog.wantsStandIn 3 = false by kernel_rfl)
        · simp at ht⟩)
    (by kernel_rfl)
end Go.Proofs.YtnooelecdbbfkaaGreatDoor
