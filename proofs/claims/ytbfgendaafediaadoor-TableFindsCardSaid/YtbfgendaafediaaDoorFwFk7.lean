/- Texts LN, RD of the proof, in one. -/
import Derived.Test.YtbfgendaafediaaDoorRows
import Derived.Test.YtbfgendaafediaaDoorTie
import Derived.Test.YtbfgendaafediaaDoorCards
import Derived.ChangeSame
import Derived.ChangeVars
import Derived.JoinedOf
import Derived.RowKit
import Derived.RowKitTokens
import Derived.LaidLaws
import Derived.LaidHandle
import Derived.Stop.Joined
import Derived.SevenTiedAt
import Derived.Test.YtbfgendaafediaaDoorFwFk6
set_option linter.unusedSimpArgs false
set_option linter.unusedVariables false
set_option linter.unusedSectionVars false
set_option linter.unnecessarySimpa false

/- A row is found by its key, or not. -/
namespace Go.Proofs.YtbfgendaafediaaDoor.Fw
open Go Go.RowKit
set_option maxRecDepth 100000
set_option maxHeartbeats 4000000
theorem run3 (l : List S8) (s : S8) (a b c e : Int) (hl : l.length ≤ maxLen) (hs : s.length ≤ maxLen) : Runs Tryd.prog T 134 (Tryd.f3.body.getD .skip) Tryd.f3.results.toList [.sl 0 1 (l.map D.str), .str s, .agg [.int .i64 a, .int .i64 b, .int .i64 c, .int .i64 e]] (.bool true) := by
  refine ⟨Nat.le_of_ble_eq_true rfl, ?_⟩
  conv => whnf
  refine ⟨_, fun _ => call8, ?_⟩
  conv => whnf
  refine ⟨_, fun _ => call9 a 9 (by decide) (by decide), ?_⟩
  conv => whnf
  obtain ⟨_, hr9, _⟩ := restN_eq a (n := 9) (by decide)
  generalize restN a 9 = w0 at hr9
  have hw : IntKind.i64.wrap (1 + (w0 : Int)) = ((w0 + 1 : Nat) : Int) := by rw [IntKind.wrap_i64]; omega
  rw [hw]
  refine ⟨_, fun _ => call9 b (w0 + 1) (by omega) (by omega), ?_⟩
  conv => whnf
  obtain ⟨_, hrk, _⟩ := restN_eq b (n := w0 + 1) (by omega)
  generalize restN b (w0 + 1) = k0 at hrk
  have hk : IntKind.i64.wrap (1 + (k0 : Int)) = ((k0 + 1 : Nat) : Int) := by rw [IntKind.wrap_i64]; omega
  rw [hk]
  have hc11 := call11 l (w0 + 1) 0 hl (by omega)
  have hk : 1 ≤ k0 + 1 ∧ k0 + 1 ≤ w0 + 1 ∧ w0 + 1 ≤ 255 := by omega
  have hrl := rowsL_le (w0 + 1) 0 l
  have hrw : ∀ x ∈ rowsL (w0 + 1) 0 l, x.length = w0 + 1 := fun x h => rowsL0_len (by omega) h
  generalize rowsL (w0 + 1) 0 l = L at hrl hrw hc11
  generalize w0 + 1 = w at *
  generalize k0 + 1 = k at *
  refine ⟨_, fun _ => hc11, ?_⟩
  conv => whnf
  by_cases hr : risesK k (srt k L)
  · have hS12 : (srt k L).length ≤ 12 := by rw [srt_len]; exact hrl
    have hSw := srt_all (k := k) hrw
    refine ⟨_, fun _ => call10 w k L hk hrl hrw (srt k L) 0 0 (ref_ok w k (srt k L) hk (by omega) hSw hr), ?_⟩
    conv => whnf
    refine ⟨_, fun _ => hc11, ?_⟩
    conv => whnf
    refine ⟨_, fun _ => build_ok w k L hk hrl hrw hr, ?_⟩
    conv => whnf
    have h15 := call15 w k (srt k L) hk hS12 hSw hr
    have ht : (tabOf w k (srt k L)).ok := tabOf_ok hk hSw (by omega)
    generalize srt k L = S at hS12 hSw h15 ht
    generalize tabOf w k S = t at h15 ht
    have h14 := call14 s
    refine ⟨_, fun _ => h14, ?_⟩
    conv => whnf
    have hs60 : (s.take 60).length ≤ 60 := by rw [List.length_take]; omega
    generalize s.take 60 = sh at hs60 h14
    refine ifB_intro (fun hlen => ?_) (fun hlen => ?_)
    · have hlen : (0 : Int) < ((S.map D.str).length : Int) := of_decide_eq_true hlen
      have hml : (S.map D.str).length = S.length := List.length_map ..
      conv => whnf
      refine ⟨rfl, ?_⟩
      conv => whnf
      refine ⟨_, fun _ => call9 c (S.map D.str).length (by omega) (by omega), ?_⟩
      conv => whnf
      obtain ⟨_, hrn, _⟩ := restN_eq c (n := (S.map D.str).length) (by omega)
      generalize restN c (S.map D.str).length = n at hrn
      have hlt : n < S.length := by omega
      have hx : S[n]? = some S[n] := List.getElem?_eq_getElem hlt
      have hxw := hSw _ (List.getElem_mem hlt)
      generalize S[n] = x at hx hxw
      refine sideB_intro (fun _ => decide_eq_true (by omega)) ?_
      rw [getD_enc (enc := D.str) (x := x) (show S[(n : Int).toNat]? = some x from hx)]
      conv => whnf
      refine sideB_intro (fun _ => decide_eq_true (by omega)) ?_
      have e1 : sliceD x (Int.toNat ((0 : Nat) : Int)) (Int.toNat (k : Int)) = x.take k := by simp [sliceD]
      rw [e1]
      have hX : (x.take k).length ≤ 300 := by rw [List.length_take]; omega
      generalize x.take k = X at hX
      conv => whnf
      refine ifB_intro (fun hne => ?_) (fun hne => ?_)
      · conv => whnf
        have hXn : 0 < X.length := by
          cases X with
          | nil => cases hne
          | cons u v => simp
        refine ⟨_, fun _ => call9 e X.length hXn (by omega), ?_⟩
        conv => whnf
        obtain ⟨_, hrm, _⟩ := restN_eq e (n := X.length) hXn
        generalize restN e X.length = m at hrm
        refine ⟨rfl, ?_⟩
        conv => whnf
        refine sideB_intro (fun _ => decide_eq_true (by omega)) ?_
        conv => whnf
        have hsl1 : (sliceD X (Int.toNat ((0 : Nat) : Int)) (Int.toNat (m : Int))).length ≤ 300 := by simp [sliceD]; omega
        refine sideB_intro (fun _ => decide_eq_true (by show _ + 1 ≤ _; omega)) ?_
        generalize sliceD X (Int.toNat ((0 : Nat) : Int)) (Int.toNat (m : Int)) = X1 at hsl1
        conv => whnf
        have hwm : IntKind.i64.wrap ((m : Int) + 1) = ((m + 1 : Nat) : Int) := by rw [IntKind.wrap_i64]; omega
        rw [hwm]
        refine sideB_intro (fun _ => decide_eq_true ⟨by omega, by omega, by omega⟩) ?_
        have hsl2 : (sliceD X (Int.toNat ((m + 1 : Nat) : Int)) (Int.toNat (X.length : Int))).length ≤ 300 := by simp [sliceD]; omega
        generalize sliceD X (Int.toNat ((m + 1 : Nat) : Int)) (Int.toNat (X.length : Int)) = X2 at hsl2
        conv => whnf
        refine sideB_intro (fun _ => decide_eq_true (by rw [List.length_append]; show _ + 1 + _ ≤ _; omega)) ?_
        conv => whnf
        refine ⟨rfl, ?_⟩
        conv => whnf
        refine ⟨_, fun _ => h14, ?_⟩
        conv => whnf
        refine ⟨_, fun _ => h15 _, ?_⟩
        conv => whnf
        refine ⟨_, fun _ => h15 _, ?_⟩
        conv => whnf
        refine ⟨_, fun _ => h15 _, ?_⟩
        conv => whnf
        refine sideB_intro (fun _ => decide_eq_true (by show X.length + 1 ≤ _; omega)) ?_
        conv => whnf
        refine ⟨_, fun _ => h15 _, ?_⟩
        conv => whnf
        refine ⟨_, fun _ => h15 _, ?_⟩
        conv => whnf
        exact ⟨rfl, rfl⟩
      · conv => whnf
        refine ⟨rfl, ?_⟩
        conv => whnf
        refine ⟨_, fun _ => h14, ?_⟩
        conv => whnf
        refine ⟨_, fun _ => h15 _, ?_⟩
        conv => whnf
        refine ⟨_, fun _ => h15 _, ?_⟩
        conv => whnf
        refine ⟨_, fun _ => h15 _, ?_⟩
        conv => whnf
        refine sideB_intro (fun _ => decide_eq_true (by show X.length + 1 ≤ _; omega)) ?_
        conv => whnf
        refine ⟨_, fun _ => h15 _, ?_⟩
        conv => whnf
        refine ⟨_, fun _ => h15 _, ?_⟩
        conv => whnf
        exact ⟨rfl, rfl⟩
    · have hX : sh.length ≤ 300 := by omega
      conv => whnf
      refine ifB_intro (fun hne => ?_) (fun hne => ?_)
      · conv => whnf
        have hXn : 0 < sh.length := by
          cases sh with
          | nil => cases hne
          | cons u v => simp
        refine ⟨_, fun _ => call9 e sh.length hXn (by omega), ?_⟩
        conv => whnf
        obtain ⟨_, hrm, _⟩ := restN_eq e (n := sh.length) hXn
        generalize restN e sh.length = m at hrm
        refine ⟨rfl, ?_⟩
        conv => whnf
        refine sideB_intro (fun _ => decide_eq_true (by omega)) ?_
        conv => whnf
        have hsl1 : (sliceD sh (Int.toNat ((0 : Nat) : Int)) (Int.toNat (m : Int))).length ≤ 300 := by simp [sliceD]; omega
        refine sideB_intro (fun _ => decide_eq_true (by show _ + 1 ≤ _; omega)) ?_
        generalize sliceD sh (Int.toNat ((0 : Nat) : Int)) (Int.toNat (m : Int)) = X1 at hsl1
        conv => whnf
        have hwm : IntKind.i64.wrap ((m : Int) + 1) = ((m + 1 : Nat) : Int) := by rw [IntKind.wrap_i64]; omega
        rw [hwm]
        refine sideB_intro (fun _ => decide_eq_true ⟨by omega, by omega, by omega⟩) ?_
        have hsl2 : (sliceD sh (Int.toNat ((m + 1 : Nat) : Int)) (Int.toNat (sh.length : Int))).length ≤ 300 := by simp [sliceD]; omega
        generalize sliceD sh (Int.toNat ((m + 1 : Nat) : Int)) (Int.toNat (sh.length : Int)) = X2 at hsl2
        conv => whnf
        refine sideB_intro (fun _ => decide_eq_true (by rw [List.length_append]; show _ + 1 + _ ≤ _; omega)) ?_
        conv => whnf
        refine ⟨rfl, ?_⟩
        conv => whnf
        refine ⟨_, fun _ => h14, ?_⟩
        conv => whnf
        refine ⟨_, fun _ => h15 _, ?_⟩
        conv => whnf
        refine ⟨_, fun _ => h15 _, ?_⟩
        conv => whnf
        refine ⟨_, fun _ => h15 _, ?_⟩
        conv => whnf
        refine sideB_intro (fun _ => decide_eq_true (by show sh.length + 1 ≤ _; omega)) ?_
        conv => whnf
        refine ⟨_, fun _ => h15 _, ?_⟩
        conv => whnf
        refine ⟨_, fun _ => h15 _, ?_⟩
        conv => whnf
        exact ⟨rfl, rfl⟩
      · conv => whnf
        refine ⟨rfl, ?_⟩
        conv => whnf
        refine ⟨_, fun _ => h14, ?_⟩
        conv => whnf
        refine ⟨_, fun _ => h15 _, ?_⟩
        conv => whnf
        refine ⟨_, fun _ => h15 _, ?_⟩
        conv => whnf
        refine ⟨_, fun _ => h15 _, ?_⟩
        conv => whnf
        refine sideB_intro (fun _ => decide_eq_true (by show sh.length + 1 ≤ _; omega)) ?_
        conv => whnf
        refine ⟨_, fun _ => h15 _, ?_⟩
        conv => whnf
        refine ⟨_, fun _ => h15 _, ?_⟩
        conv => whnf
        exact ⟨rfl, rfl⟩
  · obtain ⟨q, ⟨x, y, hx, hy, hb⟩, hu⟩ := first_bad hr
    refine ⟨_, fun _ => call10 w k L hk hrl hrw [] 13 (((q + 1) * w : Nat) : Int) (ref_bad w k (srt k L) hk (by rw [srt_len]; omega) (srt_all hrw) q x y hx hy hb hu), ?_⟩
    conv => whnf
    refine ⟨_, fun _ => hc11, ?_⟩
    conv => whnf
    refine ⟨_, fun _ => build_bad w k L hk hrl hrw q x y hx hy hb hu, ?_⟩
    conv => whnf
    refine ⟨rfl, ?_⟩
    conv => whnf
    refine ⟨_, fun _ => call13 13 _ TABLE, ?_⟩
    conv => whnf
    exact ⟨rfl, rfl⟩
theorem call3 (l : List S8) (s : S8) (a b c e : Int) (hl : l.length ≤ maxLen) (hs : s.length ≤ maxLen) : CallsTo Tryd.prog 3 [.sl 0 1 (l.map D.str), .str s, .agg [.int .i64 a, .int .i64 b, .int .i64 c, .int .i64 e]] (.bool true) := calls Tryd.func3 rfl (by decide) (run3 l s a b c e hl hs)
end Go.Proofs.YtbfgendaafediaaDoor.Fw

/- What every row of this seat asks of the variable that is laid. -/
namespace Go.Proofs.YtbfgendaafediaaDoor
open Go Go.RowKit Go.WideShapes Go.ChangeShapes
open Fw

abbrev laidE : List (String × DataW Unit) := [("errors.errorType", Rows.laid_errors_errorType)]
theorem erT : Tryd.prog.globalNamed "errors.errorType" = some 0 := by kernel_rfl
theorem erR : (Tryd.prog.cutTypes.find? (·.1 == "internal/reflectlite.rtype")).map (·.2) = some 118 := by kernel_rfl
theorem erO : ((List.range 175).filter fun t => Tryd.prog.rowNamed t [101, 114, 114, 111, 114]) = [33] := by kernel_rfl
theorem erS : Tryd.prog.types.size = 175 := by kernel_rfl
theorem handle_of_laid {W : World} (h : laidMetH Tryd.prog laidE W) : W.cell? ⟨0, 0, none⟩ = some (.iface 118 (.agg #[.pointer (some ⟨2, 33, none⟩)])) := by
  have h' : laidMet Tryd.prog [] W ∧ handlesMet Tryd.prog laidE W := h
  obtain ⟨name, u, ty, e1, e2, e3, e4, e5⟩ := h'.2 _ (List.mem_singleton.2 rfl)
  have en : name = [101, 114, 114, 111, 114] := (Option.some.inj e1).symm
  subst en
  obtain rfl := Option.some.inj (erR.symm.trans e2)
  have hm : ty ∈ (List.range 175).filter fun t => Tryd.prog.rowNamed t [101, 114, 114, 111, 114] := List.mem_filter.2 ⟨List.mem_range.2 (by rw [← erS]; exact e3), e4⟩
  rw [erO] at hm
  obtain rfl := List.mem_singleton.1 hm
  have hh : typeHandle Tryd.prog 33 = .pointer (some ⟨2, 33, none⟩) := by kernel_rfl
  rw [hh] at e5
  simpa using World.var?_cell erT e5 0
/-- A world in which it is so. -/
noncomputable def laidWorld (os : Os) : World :=
  let w0 := World.holding Tryd.prog os ⟨#[], #[], []⟩
  { w0 with heap := w0.heap.modify 0 fun
      | .cells _ t frozen => .cells #[.iface 118 (.agg #[.pointer (some ⟨2, 33, none⟩)])] t frozen
      | o => o }
theorem laidWorld_met (os : Os) (args : Array Value) : laidMetH Tryd.prog laidE ((laidWorld os).forCall (fun _ _ => 0) ⟨#[], args, []⟩).memory :=
  laidMetH_of_parts (laidMet_nil _ _) (by kernel_rfl)
theorem glob_of_laid {W : World} (h : laidMetH Tryd.prog laidE W) : GlobW Tryd.prog (old W) W := fun g v e => by
  have hc := handle_of_laid h
  rw [glof] at e
  cases e
  refine ⟨?_, hc⟩
  rcases Nat.lt_or_ge 0 W.heap.size with h1 | h1
  · exact h1
  · simp [World.cell?, Array.getElem?_eq_none h1] at hc
end Go.Proofs.YtbfgendaafediaaDoor
