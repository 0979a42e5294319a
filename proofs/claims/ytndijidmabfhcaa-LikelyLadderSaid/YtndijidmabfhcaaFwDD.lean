/- The law's own helpers. -/
import Derived.Test.YtndijidmabfhcaaFwDC
namespace Go.Proofs.Ytndijidmabfhcaa.Fw
open Go Go.RowKit

set_option maxRecDepth 100000
set_option maxHeartbeats 4000000
theorem run13 : Runs Try.prog T 13 (Try.f13.body.getD .skip) Try.f13.results.toList [] (.bool true) := by
  refine ⟨Nat.le_of_ble_eq_true rfl, ?_⟩
  conv => whnf
  refine ⟨_, fun _ => call16 2 [115, 103, 110] [117, 115], ?_⟩
  conv => whnf
  exact ⟨rfl, rfl⟩
theorem call13 : CallsTo Try.prog 13 [] (.bool true) := calls Try.func13 rfl (by decide) run13
theorem run15 (x n : Int) (h : 0 < n) : Runs Try.prog T 12 (Try.f15.body.getD .skip) Try.f15.results.toList [.int .i64 x, .int .i64 n] (.int .i64 ((IntKind.i64.wrap (x.tmod n + n)).tmod n)) := by
  refine ⟨Nat.le_of_ble_eq_true rfl, ?_⟩
  conv => whnf
  refine sideB_intro (fun _ => decide_eq_true (by omega)) ?_
  conv => whnf
  refine sideB_intro (fun _ => decide_eq_true (by omega)) ?_
  conv => whnf
  exact ⟨rfl, rfl⟩
theorem run19 (l : List UInt8) : Runs Try.prog T 9 (Try.f19.body.getD .skip) Try.f19.results.toList [.str l] (.str (l.take 10)) := by
  refine ⟨Nat.le_of_ble_eq_true rfl, ?_⟩
  conv => whnf
  refine ifB_intro (fun h => ?_) (fun h => ?_)
  · have h := of_decide_eq_true h
    conv => whnf
    refine sideB_intro (fun _ => decide_eq_true (by omega)) ?_
    conv => whnf
    exact ⟨rfl, rfl⟩
  · have h := of_decide_eq_false h
    conv => whnf
    exact ⟨rfl, by show D.str l = _; rw [List.take_of_length_le (by omega)]⟩
theorem call15 (x n : Int) (h : 0 < n) : CallsTo Try.prog 15 [.int .i64 x, .int .i64 n] (.int .i64 ((IntKind.i64.wrap (x.tmod n + n)).tmod n)) := calls Try.func15 rfl (by decide) (run15 x n h)
theorem call19 (l : List UInt8) : CallsTo Try.prog 19 [.str l] (.str (l.take 10)) := calls Try.func19 rfl (by decide) (run19 l)

end Go.Proofs.Ytndijidmabfhcaa.Fw
