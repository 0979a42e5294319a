/- ImageRight: for every input the law returns true, and its arguments read as they did; the variable that the code reads is tied to the program's text. -/
import Derived.Test.YtnooelecdbbfkaaGreatDoorFwK1k7
namespace Go.Proofs.YtnooelecdbbfkaaGreatDoor
open Go Go.RowKit Go.WideShapes Go.ChangeShapes
open Fw

theorem imageRight_call (xs : List D) (h : All2 (ShpV T) [23, 26, 30] xs) : CallsTo Tryz.prog 3 xs (.bool true) := by
  obtain ⟨x, y, z, rfl, h1, h2, h3⟩ := all2_inv3 h
  obtain ⟨l, s, r, tl, ts, tr, rfl⟩ := shp_likely h1
  obtain ⟨lv, n, one, d0, d1, d2, s0, s1, s2, rfl⟩ := shp_rule h2
  obtain ⟨q, rfl⟩ := shp_sd13 h3
  obtain ⟨m, hm, hc⟩ := made13 q
  exact calls Tryz.func3 rfl (by decide) (run3 l s r tl ts tr d0 d1 d2 s0 s1 s2 lv n one (q.al.map Sd12.d) (q.ls.map intD) (q.rs.map intD) (q.ms.map intD) q.th q.dm q.o m hm hc)
theorem imageRight_left {H : Type} : ∀ ds : List (DataW H), ds.length = 3 → Rows.imageRightSpec.fn H ds = { results := [.lit (.bool true)], args := ds }
  | [_, _, _], _ => rfl

set_option maxRecDepth 100000
theorem imageRight_lifted (os : Os) (started : os.Started) (H : Type) (enc : TypeId × Value → H) :
    ReturnsInHanded {} Tryz.checked os 3 .any (fun w args => (Rows.imageRightSpec.pre enc Tryz.prog Tryz.f3 [] false w args ∧ laidMetH Tryz.prog laidE w) ∧ sizedMet enc Tryz.prog Tryz.f3 (OpenSpec.ofChange Rows.imageRightSpec) false w args)
      (Rows.imageRightSpec.post enc Tryz.prog Tryz.f3 false true false false) := by
  refine returnsInHanded_of_change_and (C := Tryz.checked) (X := fun w _ => laidMetH Tryz.prog laidE w) (fun _ _ _ hh h => h.of_heap hh) own started (by kernel_rfl) Tryz.func3
    (ChangeSpec.witness_at (enc := enc) (C := Tryz.checked) (os := os) (X := fun w _ => laidMetH Tryz.prog laidE w) false (laidWorld os) #[.agg #[.string ⟨#[]⟩, .string ⟨#[]⟩, .string ⟨#[]⟩, .string ⟨#[]⟩, .string ⟨#[]⟩, .string ⟨#[]⟩], .agg #[.int .i64 0, .int .i64 0, .bool false, .string ⟨#[]⟩, .string ⟨#[]⟩, .string ⟨#[]⟩, .string ⟨#[]⟩, .string ⟨#[]⟩, .string ⟨#[]⟩], .agg #[.slice none 0 0, .slice none 0 0, .slice none 0 0, .slice none 0 0, .int .i64 0, .int .i64 0, .int .i64 0]] 8 rfl (by kernel_rfl) (by kernel_rfl) (by kernel_rfl) (by kernel_rfl) (by kernel_rfl) (laidWorld_met os _)) ?_
  intro W base args ds gs before hval hW _ _ hL _
  refine law_contract tyOK laid rfl rfl (by kernel_rfl) (by kernel_rfl) (fun ds hl => ?_) (fun xs hx => ?_) W base args ds gs before hval hW glob_of_laid
  · exact imageRight_left ds hl
  · exact imageRight_call xs hx

theorem imageRight_row : Rows.ImageRightSaid :=
  OpenClaim.holds_of_wide 3 Tryz.f3 rfl rfl rfl rfl rfl rfl rfl ⟨rfl, rfl, rfl, rfl, rfl⟩ rfl rfl rfl rfl rfl (by kernel_rfl) Tryz.func3 (by kernel_rfl)
    (of_decide_eq_true (by kernel_rfl)) (by unfold Func.isWrapper; first | (rw [if_pos (by decide +kernel)]; kernel_rfl) | (rw [if_neg (by decide +kernel)]; exact ⟨rfl, rfl⟩))
    (fun os started H enc _ => imageRight_lifted os started H enc)
theorem imageRight_holds : Rows.ImageRightCardSaid :=
  Claim7.holds_tied_plain_at .later [] [.data] true (true, "667d66a8612b2d65880df56fea20b6c0468add3a3805b0384a0d740cb67777aa") true
    imageRight_row (fun _ h => by cases h) (by kernel_rfl) (fun _ h => by cases h) imageRight_row_tie rfl ⟨rfl, rfl⟩ (by kernel_rfl) rfl
    (fun f fn hf hfn => by
      obtain rfl : f = 3 := Option.some.inj ((show Tryz.prog.funcNamed "isogloss/isoglosslaw13.ImageRight" = some 3 by kernel_rfl).symm.trans hf) |>.symm
      obtain rfl : fn = Tryz.f3 := (Option.some.inj (Tryz.func3.symm.trans hfn)).symm
      exact ⟨by kernel_rfl, fun j t ht => by
        rw [Tryz.params3] at ht
        rcases j with _ | _ | _ | j
        · obtain rfl : t = 23 := by simpa using ht.symm
          exact (show Tryz.prog.wantsStandIn 23 = false by kernel_rfl)
        · obtain rfl : t = 26 := by simpa using ht.symm
          exact (show Tryz.prog.wantsStandIn 26 = false by kernel_rfl)
        · obtain rfl : t = 30 := by simpa using ht.symm
          exact (show Tryz.prog.wantsStandIn 30 = false by kernel_rfl)
        · simp at ht⟩)
    (by kernel_rfl)
end Go.Proofs.YtnooelecdbbfkaaGreatDoor
