/- Texts LI, PD, RD of the proof, in one. -/
import Derived.Test.YtbfgendaafediaaDoorRows
import Derived.Test.YtbfgendaafediaaDoorTie
import Derived.Test.YtbfgendaafediaaDoorCards
import Derived.ChangeSame
import Derived.ChangeVars
import Derived.JoinedOf
import Derived.RowKit
import Derived.RowKitTokens
import Derived.LaidLaws
import Derived.LaidHandle
import Derived.Stop.Joined
import Derived.SevenTiedAt
import Derived.Test.YtbfgendaafediaaDoorFwBk6
set_option linter.unusedSimpArgs false
set_option linter.unusedVariables false
set_option linter.unusedSectionVars false
set_option linter.unnecessarySimpa false

/- The document's answer: making a table of its bytes. -/
namespace Go.Proofs.YtbfgendaafediaaDoor.Fw
open Go Go.RowKit
set_option maxRecDepth 100000
set_option maxHeartbeats 4000000
def gotD (L : List S8) (e a : Int) : D := .agg [.sl 0 1 (L.map D.str), .int .i64 e, .int .i64 a]
theorem run24c (w k : Nat) (S : List S8) (h : 1 ≤ k ∧ k ≤ w ∧ w ≤ 255) (hl : S.length ≤ 1000) (hw : ∀ x ∈ S, x.length = w) (hr : risesK k S) : Runs Tryd.prog T 74 (Tryd.f24.body.getD .skip) Tryd.f24.results.toList [.int .i64 w, .int .i64 k, .str S.flatten] (.agg [.sl 0 1 (S.map D.str), .int .i64 0, .int .i64 0]) := by
  refine ⟨Nat.le_of_ble_eq_true rfl, ?_⟩
  conv => whnf
  have hfl := flat_len hw
  rw [decide_eq_false (by omega : ¬ ((k : Int) < 1)), decide_eq_false (by omega : ¬ ((w : Int) < (k : Int))), decide_eq_false (by omega : ¬ ((255 : Int) < (w : Int)))]
  conv => whnf
  refine sideB_intro (fun _ => decide_eq_true (by omega)) ?_
  conv => whnf
  have e : (Int.tmod (S.flatten.length : Int) (w : Int) != 0) = false := by
    have : Int.tmod (S.flatten.length : Int) (w : Int) = ((S.flatten.length % w : Nat) : Int) := rfl
    rw [this, hfl, Nat.mul_mod_left]; rfl
  rw [e]
  conv => whnf
  refine ⟨[.nilB 7 0 9 1], ?_⟩
  conv => whnf
  refine loop_at (σ := Nat) (fun i env => (env.setT 8 (.int .i64 ((i * w : Nat) : Int))).setC1 7 0 (.sl 2 1 ((S.take i).map D.str))) (fun i => S.length - i) (fun i => i ≤ S.length) 0 (Nat.zero_le _) (by rw [Nat.zero_mul]; rfl) ?_
  rintro i hi ih
  have hmul : i * w ≤ S.length * w := Nat.mul_le_mul_right _ hi
  have hmax : S.length * w ≤ 1000 * 255 := Nat.mul_le_mul hl h.2.2
  conv => whnf
  refine ifB_intro (fun hc => ?_) (fun hc => ?_)
  · have hc : ((i * w : Nat) : Int) < (S.flatten.length : Int) := of_decide_eq_true hc
    have hlt : i < S.length := by
      refine Nat.lt_of_not_le fun hge => ?_
      have : i = S.length := by omega
      subst this; omega
    have hx : S[i]? = some S[i] := List.getElem?_eq_getElem hlt
    have hm1 : (i + 1) * w = i * w + w := by rw [Nat.add_mul, Nat.one_mul]
    have hm2 : (i + 1) * w ≤ S.length * w := Nat.mul_le_mul_right _ hlt
    have hwa : IntKind.i64.wrap (((i * w : Nat) : Int) + (w : Int)) = (((i + 1) * w : Nat) : Int) := by rw [IntKind.wrap_i64, hm1]; omega
    have hxw := hw _ (List.getElem_mem hlt)
    have hrow : sliceD S.flatten (Int.toNat ((i * w : Nat) : Int)) (Int.toNat (((i + 1) * w : Nat) : Int)) = S[i] := by
      unfold sliceD
      rw [Int.toNat_natCast, Int.toNat_natCast, List.drop_take, hm1, Nat.add_sub_cancel_left]
      exact flat_row hw hx
    conv => whnf
    rw [hwa]
    refine sideB_intro (fun _ => decide_eq_true ⟨by omega, by omega, by omega⟩) ?_
    rw [hrow]
    conv => whnf
    have hln : ((S.take i).map D.str).length = i := by rw [List.length_map, List.length_take]; omega
    have htk : (S.take (i + 1)).map D.str = (S.take i).map D.str ++ [.str S[i]] := by rw [List.take_add_one, hx, Option.toList_some, List.map_append]; rfl
    have ih' := ih (i + 1) (by omega) (by omega)
    by_cases h0 : i = 0
    · subst h0
      refine ⟨rfl, ?_⟩
      conv => whnf
      have hg0 : decide ((0 : Int) < (((S.take 0).map D.str).length : Int)) = true → False := by simp
      repeat (refine ⟨fun hg => hg0 hg, ?_⟩; conv => whnf)
      refine sideB_intro (fun _ => decide_eq_true (by omega)) ?_
      conv => whnf
      repeat (refine ⟨fun hg => hg0 hg, ?_⟩; conv => whnf)
      rw [hwa]
      rw [htk] at ih'
      exact ih'
    · have hi1 : i - 1 < S.length := by omega
      have hy : (S.take i)[i - 1]? = some S[i - 1] := by rw [List.getElem?_take, if_pos (by omega)]; exact List.getElem?_eq_getElem hi1
      have hyw := hw _ (List.getElem_mem hi1)
      have hwi : IntKind.i64.wrap ((((S.take i).map D.str).length : Int) - 1) = ((i - 1 : Nat) : Int) := by rw [hln, IntKind.wrap_i64]; omega
      have e1 : ∀ s : S8, sliceD s (Int.toNat ((0 : Nat) : Int)) (Int.toNat (k : Int)) = s.take k := fun s => by simp [sliceD]
      refine ⟨rfl, ?_⟩
      conv => whnf
      rw [hwi]
      refine sideB_intro (fun _ => decide_eq_true (by rw [hln]; omega)) ?_
      rw [getD_enc (enc := D.str) (x := S[i - 1]) (show (S.take i)[((i - 1 : Nat) : Int).toNat]? = some S[i - 1] from hy)]
      conv => whnf
      refine sideB_intro (fun _ => decide_eq_true (by omega)) ?_
      rw [e1]
      conv => whnf
      refine sideB_intro (fun _ => decide_eq_true (by omega)) ?_
      rw [e1]
      conv => whnf
      rw [hln, decide_eq_true (by omega : (0 : Int) < (i : Int))]
      have hub := hr (i - 1) S[i - 1] S[i] (List.getElem?_eq_getElem hi1) (by rw [show i - 1 + 1 = i from by omega]; exact hx)
      rw [show bytesLess (S[i - 1].take k) (S[i].take k) = true from hub]
      conv => whnf
      refine sideB_intro (fun _ => decide_eq_true (by rw [hln]; exact ⟨by simp; omega, by simp; omega⟩)) ?_
      conv => whnf
      rw [hwa, ← htk]
      exact ih'
  · have hc : ¬ (((i * w : Nat) : Int) < (S.flatten.length : Int)) := of_decide_eq_false hc
    have hge : i = S.length := by
      refine Nat.le_antisymm hi (Nat.le_of_not_lt fun hlt => hc ?_)
      have hm2 : (i + 1) * w ≤ S.length * w := Nat.mul_le_mul_right _ hlt
      have hm1 : (i + 1) * w = i * w + w := by rw [Nat.add_mul, Nat.one_mul]
      omega
    rw [List.take_of_length_le (by omega)]
    conv => whnf
    exact ⟨rfl, rfl⟩
theorem run24d (w k : Nat) (S : List S8) (h : 1 ≤ k ∧ k ≤ w ∧ w ≤ 255) (hl : S.length ≤ 1000) (hw : ∀ x ∈ S, x.length = w) (q : Nat) (x y : S8) (hqx : S[q]? = some x) (hqy : S[q + 1]? = some y) (hb : lt8 (x.take k) (y.take k) = false) (hu : ∀ j, j < q → upAt k S j) : Runs Tryd.prog T 74 (Tryd.f24.body.getD .skip) Tryd.f24.results.toList [.int .i64 w, .int .i64 k, .str S.flatten] (.agg [.sl 0 1 [], .int .i64 13, .int .i64 (((q + 1) * w : Nat) : Int)]) := by
  refine ⟨Nat.le_of_ble_eq_true rfl, ?_⟩
  conv => whnf
  have hfl := flat_len hw
  rw [decide_eq_false (by omega : ¬ ((k : Int) < 1)), decide_eq_false (by omega : ¬ ((w : Int) < (k : Int))), decide_eq_false (by omega : ¬ ((255 : Int) < (w : Int)))]
  conv => whnf
  refine sideB_intro (fun _ => decide_eq_true (by omega)) ?_
  conv => whnf
  have e : (Int.tmod (S.flatten.length : Int) (w : Int) != 0) = false := by
    have : Int.tmod (S.flatten.length : Int) (w : Int) = ((S.flatten.length % w : Nat) : Int) := rfl
    rw [this, hfl, Nat.mul_mod_left]; rfl
  rw [e]
  conv => whnf
  refine ⟨[.nilB 7 0 9 1], ?_⟩
  conv => whnf
  refine loop_at (σ := Nat) (fun i env => (env.setT 8 (.int .i64 ((i * w : Nat) : Int))).setC1 7 0 (.sl 2 1 ((S.take i).map D.str))) (fun i => S.length - i) (fun i => i ≤ q + 1) 0 (Nat.zero_le _) (by rw [Nat.zero_mul]; rfl) ?_
  have hql := (List.getElem?_eq_some_iff.1 hqy).1
  rintro i hi' ih
  have hi : i ≤ S.length := by omega
  have hmul : i * w ≤ S.length * w := Nat.mul_le_mul_right _ hi
  have hmax : S.length * w ≤ 1000 * 255 := Nat.mul_le_mul hl h.2.2
  conv => whnf
  refine ifB_intro (fun hc => ?_) (fun hc => ?_)
  · have hc : ((i * w : Nat) : Int) < (S.flatten.length : Int) := of_decide_eq_true hc
    have hlt : i < S.length := by
      refine Nat.lt_of_not_le fun hge => ?_
      have : i = S.length := by omega
      subst this; omega
    have hx : S[i]? = some S[i] := List.getElem?_eq_getElem hlt
    have hm1 : (i + 1) * w = i * w + w := by rw [Nat.add_mul, Nat.one_mul]
    have hm2 : (i + 1) * w ≤ S.length * w := Nat.mul_le_mul_right _ hlt
    have hwa : IntKind.i64.wrap (((i * w : Nat) : Int) + (w : Int)) = (((i + 1) * w : Nat) : Int) := by rw [IntKind.wrap_i64, hm1]; omega
    have hxw := hw _ (List.getElem_mem hlt)
    have hrow : sliceD S.flatten (Int.toNat ((i * w : Nat) : Int)) (Int.toNat (((i + 1) * w : Nat) : Int)) = S[i] := by
      unfold sliceD
      rw [Int.toNat_natCast, Int.toNat_natCast, List.drop_take, hm1, Nat.add_sub_cancel_left]
      exact flat_row hw hx
    conv => whnf
    rw [hwa]
    refine sideB_intro (fun _ => decide_eq_true ⟨by omega, by omega, by omega⟩) ?_
    rw [hrow]
    conv => whnf
    have hln : ((S.take i).map D.str).length = i := by rw [List.length_map, List.length_take]; omega
    have htk : (S.take (i + 1)).map D.str = (S.take i).map D.str ++ [.str S[i]] := by rw [List.take_add_one, hx, Option.toList_some, List.map_append]; rfl
    by_cases h0 : i = 0
    · have ih' := ih (i + 1) (by omega) (by omega)
      subst h0
      refine ⟨rfl, ?_⟩
      conv => whnf
      have hg0 : decide ((0 : Int) < (((S.take 0).map D.str).length : Int)) = true → False := by simp
      repeat (refine ⟨fun hg => hg0 hg, ?_⟩; conv => whnf)
      refine sideB_intro (fun _ => decide_eq_true (by omega)) ?_
      conv => whnf
      repeat (refine ⟨fun hg => hg0 hg, ?_⟩; conv => whnf)
      rw [hwa]
      rw [htk] at ih'
      exact ih'
    · have hi1 : i - 1 < S.length := by omega
      have hy : (S.take i)[i - 1]? = some S[i - 1] := by rw [List.getElem?_take, if_pos (by omega)]; exact List.getElem?_eq_getElem hi1
      have hyw := hw _ (List.getElem_mem hi1)
      have hwi : IntKind.i64.wrap ((((S.take i).map D.str).length : Int) - 1) = ((i - 1 : Nat) : Int) := by rw [hln, IntKind.wrap_i64]; omega
      have e1 : ∀ s : S8, sliceD s (Int.toNat ((0 : Nat) : Int)) (Int.toNat (k : Int)) = s.take k := fun s => by simp [sliceD]
      refine ⟨rfl, ?_⟩
      conv => whnf
      rw [hwi]
      refine sideB_intro (fun _ => decide_eq_true (by rw [hln]; omega)) ?_
      rw [getD_enc (enc := D.str) (x := S[i - 1]) (show (S.take i)[((i - 1 : Nat) : Int).toNat]? = some S[i - 1] from hy)]
      conv => whnf
      refine sideB_intro (fun _ => decide_eq_true (by omega)) ?_
      rw [e1]
      conv => whnf
      refine sideB_intro (fun _ => decide_eq_true (by omega)) ?_
      rw [e1]
      conv => whnf
      rw [hln, decide_eq_true (by omega : (0 : Int) < (i : Int))]
      by_cases hiq : i = q + 1
      · have e3 : S[i - 1] = x := by
          have : S[i - 1]? = some x := by rw [show i - 1 = q from by omega]; exact hqx
          rw [List.getElem?_eq_getElem hi1] at this; exact Option.some.inj this
        have e4 : S[i] = y := by
          have : S[i]? = some y := by rw [hiq]; exact hqy
          rw [hx] at this; exact Option.some.inj this
        rw [show bytesLess (S[i - 1].take k) (S[i].take k) = false from by rw [e3, e4]; exact hb]
        conv => whnf
        subst hiq
        exact ⟨rfl, rfl⟩
      · have ih' := ih (i + 1) (by omega) (by omega)
        have hub := hu (i - 1) (by omega) S[i - 1] S[i] (List.getElem?_eq_getElem hi1) (by rw [show i - 1 + 1 = i from by omega]; exact hx)
        rw [show bytesLess (S[i - 1].take k) (S[i].take k) = true from hub]
        conv => whnf
        refine sideB_intro (fun _ => decide_eq_true (by rw [hln]; exact ⟨by simp; omega, by simp; omega⟩)) ?_
        conv => whnf
        rw [hwa, ← htk]
        exact ih'
  · exfalso
    have hc : ¬ (((i * w : Nat) : Int) < (S.flatten.length : Int)) := of_decide_eq_false hc
    refine hc ?_
    have hm2 : (i + 1) * w ≤ S.length * w := Nat.mul_le_mul_right _ (by omega)
    have hm1 : (i + 1) * w = i * w + w := by rw [Nat.add_mul, Nat.one_mul]
    omega
theorem ref_ok (w k : Nat) (S : List S8) (h : 1 ≤ k ∧ k ≤ w ∧ w ≤ 255) (hl : S.length ≤ 1000) (hw : ∀ x ∈ S, x.length = w) (hr : risesK k S) : CallsTo Tryd.prog 24 [.int .i64 w, .int .i64 k, .str S.flatten] (gotD S 0 0) := calls Tryd.func24 rfl (by decide) (run24c w k S h hl hw hr)
theorem ref_bad (w k : Nat) (S : List S8) (h : 1 ≤ k ∧ k ≤ w ∧ w ≤ 255) (hl : S.length ≤ 1000) (hw : ∀ x ∈ S, x.length = w) (q : Nat) (x y : S8) (hqx : S[q]? = some x) (hqy : S[q + 1]? = some y) (hb : lt8 (x.take k) (y.take k) = false) (hu : ∀ j, j < q → upAt k S j) :
    CallsTo Tryd.prog 24 [.int .i64 w, .int .i64 k, .str S.flatten] (gotD [] 13 (((q + 1) * w : Nat) : Int)) := calls Tryd.func24 rfl (by decide) (run24d w k S h hl hw q x y hqx hqy hb hu)
end Go.Proofs.YtbfgendaafediaaDoor.Fw

/- Rows, and bytes, are put in order, or refused, as the document says: one by one. -/
namespace Go.Proofs.YtbfgendaafediaaDoor.Fw
open Go Go.RowKit
set_option maxRecDepth 100000
set_option maxHeartbeats 4000000
theorem call40e (e a k : Int) (he : e ≠ 0) : CallsTo Tryd.prog 40 [.nilp, fltD e a TABLE, .agg [.sl 0 1 [], .int .i64 e, .int .i64 a], .int .i64 k] (.bool true) := calls Tryd.func40 rfl (by decide) (run40e e a k he)
theorem call40k (w k : Nat) (S : List S8) (h : 1 ≤ k ∧ k ≤ w ∧ w ≤ 255) (hl : S.length ≤ 1000) (hw : ∀ x ∈ S, x.length = w) (hr : risesK k S) : CallsTo Tryd.prog 40 [(tabOf w k S).d, .nili, .agg [.sl 0 1 (S.map D.str), .int .i64 0, .int .i64 0], .int .i64 k] (.bool true) := calls Tryd.func40 rfl (by decide) (run40k w k S h hl hw hr)
theorem run23e (w k : Int) (s : S8) (e a : Int) (he : e ≠ 0) (h18 : CallsTo Tryd.prog 18 [.int .i64 w, .int .i64 k, .str s] (.tup [.nilp, fltD e a TABLE])) (h24 : CallsTo Tryd.prog 24 [.int .i64 w, .int .i64 k, .str s] (.agg [.sl 0 1 [], .int .i64 e, .int .i64 a])) : Runs Tryd.prog T 24 (Tryd.f23.body.getD .skip) Tryd.f23.results.toList [.int .i64 w, .int .i64 k, .str s] (.bool true) := by
  refine ⟨Nat.le_of_ble_eq_true rfl, ?_⟩
  conv => whnf
  refine ⟨_, fun _ => h18, ?_⟩
  conv => whnf
  refine ⟨_, fun _ => h24, ?_⟩
  conv => whnf
  refine ⟨_, fun _ => call40e e a k he, ?_⟩
  conv => whnf
  exact ⟨rfl, rfl⟩
theorem run23k (w k : Nat) (S : List S8) (h : 1 ≤ k ∧ k ≤ w ∧ w ≤ 255) (hl : S.length ≤ 1000) (hw : ∀ x ∈ S, x.length = w) (hr : risesK k S) : Runs Tryd.prog T 24 (Tryd.f23.body.getD .skip) Tryd.f23.results.toList [.int .i64 w, .int .i64 k, .str S.flatten] (.bool true) := by
  refine ⟨Nat.le_of_ble_eq_true rfl, ?_⟩
  conv => whnf
  refine ⟨_, fun _ => new_ok w k S h hl hw hr, ?_⟩
  conv => whnf
  refine ⟨_, fun _ => ref_ok w k S h hl hw hr, ?_⟩
  conv => whnf
  refine ⟨_, fun _ => call40k w k S h hl hw hr, ?_⟩
  conv => whnf
  exact ⟨rfl, rfl⟩
theorem run22e (w k : Int) (l : List S8) (e a : Int) (he : e ≠ 0) (h12 : CallsTo Tryd.prog 12 [.int .i64 w, .int .i64 k, .sl 0 1 (l.map D.str)] (.tup [.nilp, fltD e a TABLE])) (h10 : CallsTo Tryd.prog 10 [.int .i64 w, .int .i64 k, .sl 0 1 (l.map D.str)] (.agg [.sl 0 1 [], .int .i64 e, .int .i64 a])) : Runs Tryd.prog T 24 (Tryd.f22.body.getD .skip) Tryd.f22.results.toList [.int .i64 w, .int .i64 k, .sl 0 1 (l.map D.str)] (.bool true) := by
  refine ⟨Nat.le_of_ble_eq_true rfl, ?_⟩
  conv => whnf
  refine ⟨_, fun _ => h12, ?_⟩
  conv => whnf
  refine ⟨_, fun _ => h10, ?_⟩
  conv => whnf
  refine ⟨_, fun _ => call40e e a k he, ?_⟩
  conv => whnf
  exact ⟨rfl, rfl⟩
theorem run22k (w k : Nat) (l : List S8) (h : 1 ≤ k ∧ k ≤ w ∧ w ≤ 255) (hl : l.length ≤ 12) (hw : ∀ x ∈ l, x.length = w) (hr : risesK k (srt k l)) : Runs Tryd.prog T 24 (Tryd.f22.body.getD .skip) Tryd.f22.results.toList [.int .i64 w, .int .i64 k, .sl 0 1 (l.map D.str)] (.bool true) := by
  refine ⟨Nat.le_of_ble_eq_true rfl, ?_⟩
  conv => whnf
  refine ⟨_, fun _ => build_ok w k l h hl hw hr, ?_⟩
  conv => whnf
  refine ⟨_, fun _ => call10 w k l h hl hw (srt k l) 0 0 (ref_ok w k (srt k l) h (by rw [srt_len]; omega) (srt_all hw) hr), ?_⟩
  conv => whnf
  refine ⟨_, fun _ => call40k w k (srt k l) h (by rw [srt_len]; omega) (srt_all hw) hr, ?_⟩
  conv => whnf
  exact ⟨rfl, rfl⟩
theorem nats_of {w k : Int} (h : 1 ≤ k ∧ k ≤ w ∧ w ≤ 255) : ∃ W K : Nat, w = W ∧ k = K ∧ 1 ≤ K ∧ K ≤ W ∧ W ≤ 255 := ⟨w.toNat, k.toNat, by omega, by omega, by omega, by omega, by omega⟩
theorem call23 (w k : Int) (s : S8) (hs : s.length ≤ 60) : CallsTo Tryd.prog 23 [.int .i64 w, .int .i64 k, .str s] (.bool true) := by
  by_cases h : 1 ≤ k ∧ k ≤ w ∧ w ≤ 255
  · obtain ⟨W, K, rfl, rfl, hn⟩ := nats_of h
    clear h
    have h := hn
    by_cases hm : s.length % W = 0
    · obtain ⟨S, rfl, hSl, hSw⟩ := cut_rows (w := W) (by omega) (s.length / W) s (by have := Nat.div_add_mod s.length W; rw [hm, Nat.add_zero, Nat.mul_comm] at this; exact this.symm)
      have hl : S.length ≤ 1000 := by rw [hSl]; have := Nat.div_le_self S.flatten.length W; omega
      by_cases hr : risesK K S
      · exact calls Tryd.func23 rfl (by decide) (run23k W K S h hl hSw hr)
      · obtain ⟨q, ⟨x, y, hx, hy, hb⟩, hu⟩ := first_bad hr
        exact calls Tryd.func23 rfl (by decide) (run23e W K S.flatten 13 _ (by decide) (new_bad W K S h hl hSw q x y hx hy hb hu) (ref_bad W K S h hl hSw q x y hx hy hb hu))
    · exact calls Tryd.func23 rfl (by decide) (run23e W K s 12 _ (by decide) (call18b W K s h hm) (call24b W K s h hm))
  · exact calls Tryd.func23 rfl (by decide) (run23e w k s 1 0 (by decide) (call18a w k s h) (call24a w k s h))
theorem call22 (w k : Int) (l : List S8) (hl : l.length ≤ 12) (h9 : ∀ x ∈ l, x.length ≤ 9) : CallsTo Tryd.prog 22 [.int .i64 w, .int .i64 k, .sl 0 1 (l.map D.str)] (.bool true) := by
  by_cases h : 1 ≤ k ∧ k ≤ w ∧ w ≤ 255
  · obtain ⟨W, K, rfl, rfl, hn⟩ := nats_of h
    clear h
    have h := hn
    by_cases hw : ∃ q : Nat, ∃ z : S8, l[q]? = some z ∧ z.length ≠ W
    · obtain ⟨q, ⟨z, hz, hq⟩, hmin⟩ := least_of hw
      have hpre : ∀ j y, j < q → l[j]? = some y → y.length = W := fun j y hj hy => Classical.byContradiction fun hn => hmin j hj ⟨y, hy, hn⟩
      exact calls Tryd.func22 rfl (by decide) (run22e W K l 12 q (by decide) (call12b W K l h (by omega) q z hz hq hpre) (call10b W K l h hl h9 q z hz hq hpre))
    · have hw : ∀ x ∈ l, x.length = W := fun x hx => Classical.byContradiction fun hn => by
        obtain ⟨j, hj, rfl⟩ := List.mem_iff_getElem.1 hx
        exact hw ⟨j, _, List.getElem?_eq_getElem hj, hn⟩
      by_cases hr : risesK K (srt K l)
      · exact calls Tryd.func22 rfl (by decide) (run22k W K l h hl hw hr)
      · obtain ⟨q, ⟨x, y, hx, hy, hb⟩, hu⟩ := first_bad hr
        exact calls Tryd.func22 rfl (by decide) (run22e W K l 13 _ (by decide) (build_bad W K l h hl hw q x y hx hy hb hu) (call10 W K l h hl hw [] 13 _ (ref_bad W K (srt K l) h (by rw [srt_len]; omega) (srt_all hw) q x y hx hy hb hu)))
  · exact calls Tryd.func22 rfl (by decide) (run22e w k l 1 0 (by decide) (call12a w k l h) (call10a w k l h))
theorem run7 (l : List S8) (s : S8) (a b c e : Int) (hl : l.length ≤ maxLen) (hs : s.length ≤ maxLen) : Runs Tryd.prog T 80 (Tryd.f7.body.getD .skip) Tryd.f7.results.toList [.sl 0 1 (l.map D.str), .str s, .agg [.int .i64 a, .int .i64 b, .int .i64 c, .int .i64 e]] (.bool true) := by
  refine ⟨Nat.le_of_ble_eq_true rfl, ?_⟩
  conv => whnf
  refine ⟨_, fun _ => call8, ?_⟩
  conv => whnf
  refine ⟨_, fun _ => call9 a 10 (by decide) (by decide), ?_⟩
  conv => whnf
  obtain ⟨_, hrw, _⟩ := restN_eq a (n := 10) (by decide)
  generalize restN a 10 = w at hrw
  refine ⟨_, fun _ => call9 b 10 (by decide) (by decide), ?_⟩
  conv => whnf
  obtain ⟨_, hrk, _⟩ := restN_eq b (n := 10) (by decide)
  generalize restN b 10 = k at hrk
  refine ⟨_, fun _ => call14 s, ?_⟩
  conv => whnf
  have hs60 : (s.take 60).length ≤ 60 := by rw [List.length_take]; omega
  generalize s.take 60 = sh at hs60
  have h11 := fun b => call11 l w b hl (by omega)
  have h22 := fun (w' k' b : Int) => call22 w' k' (rowsL w b l) (rowsL_le w b l) (fun x h => rowsL_len (by omega) h)
  have h23 := fun (w' k' : Int) => call23 w' k' sh hs60
  generalize hR : (fun b => rowsL w b l) = R at h11 h22
  have eR : ∀ b, rowsL w b l = R b := fun b => by rw [← hR]
  simp only [eR] at h11 h22
  refine ⟨rfl, ?_⟩
  conv => whnf
  refine ⟨_, fun _ => h11 c, ?_⟩
  conv => whnf
  refine ⟨_, fun _ => h22 _ _ c, ?_⟩
  conv => whnf
  refine ⟨_, fun _ => h11 0, ?_⟩
  conv => whnf
  refine ⟨_, fun _ => h22 _ _ 0, ?_⟩
  conv => whnf
  refine ⟨_, fun _ => h11 c, ?_⟩
  conv => whnf
  refine ⟨_, fun _ => h22 _ _ c, ?_⟩
  conv => whnf
  refine ⟨_, fun _ => h23 _ _, ?_⟩
  conv => whnf
  refine ⟨_, fun _ => h23 _ _, ?_⟩
  conv => whnf
  refine ⟨_, fun _ => h23 _ _, ?_⟩
  conv => whnf
  refine ⟨_, fun _ => h23 _ _, ?_⟩
  conv => whnf
  refine ⟨_, fun _ => h23 _ _, ?_⟩
  conv => whnf
  refine ⟨_, fun _ => h23 _ _, ?_⟩
  conv => whnf
  exact ⟨rfl, rfl⟩
theorem call7 (l : List S8) (s : S8) (a b c e : Int) (hl : l.length ≤ maxLen) (hs : s.length ≤ maxLen) : CallsTo Tryd.prog 7 [.sl 0 1 (l.map D.str), .str s, .agg [.int .i64 a, .int .i64 b, .int .i64 c, .int .i64 e]] (.bool true) := calls Tryd.func7 rfl (by decide) (run7 l s a b c e hl hs)
end Go.Proofs.YtbfgendaafediaaDoor.Fw

/- What every row of this seat asks of the variable that is laid. -/
namespace Go.Proofs.YtbfgendaafediaaDoor
open Go Go.RowKit Go.WideShapes Go.ChangeShapes
open Fw

abbrev laidE : List (String × DataW Unit) := [("errors.errorType", Rows.laid_errors_errorType)]
theorem erT : Tryd.prog.globalNamed "errors.errorType" = some 0 := by kernel_rfl
theorem erR : (Tryd.prog.cutTypes.find? (·.1 == "internal/reflectlite.rtype")).map (·.2) = some 118 := by kernel_rfl
theorem erO : ((List.range 175).filter fun t => Tryd.prog.rowNamed t [101, 114, 114, 111, 114]) = [33] := by kernel_rfl
theorem erS : Tryd.prog.types.size = 175 := by kernel_rfl
theorem handle_of_laid {W : World} (h : laidMetH Tryd.prog laidE W) : W.cell? ⟨0, 0, none⟩ = some (.iface 118 (.agg #[.pointer (some ⟨2, 33, none⟩)])) := by
  have h' : laidMet Tryd.prog [] W ∧ handlesMet Tryd.prog laidE W := h
  obtain ⟨name, u, ty, e1, e2, e3, e4, e5⟩ := h'.2 _ (List.mem_singleton.2 rfl)
  have en : name = [101, 114, 114, 111, 114] := (Option.some.inj e1).symm
  subst en
  obtain rfl := Option.some.inj (erR.symm.trans e2)
  have hm : ty ∈ (List.range 175).filter fun t => Tryd.prog.rowNamed t [101, 114, 114, 111, 114] := List.mem_filter.2 ⟨List.mem_range.2 (by rw [← erS]; exact e3), e4⟩
  rw [erO] at hm
  obtain rfl := List.mem_singleton.1 hm
  have hh : typeHandle Tryd.prog 33 = .pointer (some ⟨2, 33, none⟩) := by kernel_rfl
  rw [hh] at e5
  simpa using World.var?_cell erT e5 0
/-- A world in which it is so. -/
noncomputable def laidWorld (os : Os) : World :=
  let w0 := World.holding Tryd.prog os ⟨#[], #[], []⟩
  { w0 with heap := w0.heap.modify 0 fun
      | .cells _ t frozen => .cells #[.iface 118 (.agg #[.pointer (some ⟨2, 33, none⟩)])] t frozen
      | o => o }
theorem laidWorld_met (os : Os) (args : Array Value) : laidMetH Tryd.prog laidE ((laidWorld os).forCall (fun _ _ => 0) ⟨#[], args, []⟩).memory :=
  laidMetH_of_parts (laidMet_nil _ _) (by kernel_rfl)
theorem glob_of_laid {W : World} (h : laidMetH Tryd.prog laidE W) : GlobW Tryd.prog (old W) W := fun g v e => by
  have hc := handle_of_laid h
  rw [glof] at e
  cases e
  refine ⟨?_, hc⟩
  rcases Nat.lt_or_ge 0 W.heap.size with h1 | h1
  · exact h1
  · simp [World.cell?, Array.getElem?_eq_none h1] at hc
end Go.Proofs.YtbfgendaafediaaDoor
