/- The law's own helpers: awake, plain, Pick, rest. -/
import Derived.Test.YtndijidmabfhcaaFwLC
import Derived.Test.YtndijidmabfhcaaFwDE
namespace Go.Proofs.Ytndijidmabfhcaa.Fw
open Go Go.RowKit
set_option maxRecDepth 100000
set_option maxHeartbeats 4000000
theorem rest_nat' (x : Int) (n : Nat) (h : 0 < n) (hn : n ≤ 1000000) : ∃ i : Nat, i < n ∧ (IntKind.i64.wrap (x.tmod n + n)).tmod n = (i : Int) := by
  have h1 := Int.tmod_lt_of_pos x (show (0 : Int) < n by omega)
  have h2 : -(n : Int) < x.tmod n := by have := Int.lt_tmod_of_pos x (show (0 : Int) < n by omega); omega
  rw [show IntKind.i64.wrap (x.tmod n + n) = x.tmod n + n by rw [IntKind.wrap_i64]; omega]
  refine ⟨((x.tmod n + n).tmod n).toNat, ?_, ?_⟩
  · have h3 := Int.tmod_lt_of_pos (x.tmod n + n) (show (0 : Int) < n by omega)
    have h4 := Int.tmod_nonneg n (show 0 ≤ x.tmod n + n by omega)
    omega
  · have h4 := Int.tmod_nonneg n (show 0 ≤ x.tmod n + n by omega)
    omega
theorem run25 (x n : Int) (h : 0 < n) : Runs Try.prog T 12 (Try.f25.body.getD .skip) Try.f25.results.toList [.int .i64 x, .int .i64 n] (.int .i64 ((IntKind.i64.wrap (x.tmod n + n)).tmod n)) := by
  refine ⟨Nat.le_of_ble_eq_true rfl, ?_⟩
  conv => whnf
  refine sideB_intro (fun _ => decide_eq_true (by omega)) ?_
  conv => whnf
  refine sideB_intro (fun _ => decide_eq_true (by omega)) ?_
  conv => whnf
  exact ⟨rfl, rfl⟩
theorem call25 (x n : Int) (h : 0 < n) : CallsTo Try.prog 25 [.int .i64 x, .int .i64 n] (.int .i64 ((IntKind.i64.wrap (x.tmod n + n)).tmod n)) := calls Try.func25 rfl (by decide) (run25 x n h)
theorem run51 (l : List S8) (x : Int) (i : Nat) (hi : i < l.length) (h : 0 < (List.map D.str l).length) (e : (IntKind.i64.wrap (x.tmod (List.map D.str l).length + (List.map D.str l).length)).tmod (List.map D.str l).length = (i : Int)) : Runs Try.prog T 18 (Try.f51.body.getD .skip) Try.f51.results.toList [.sl 0 1 (l.map .str), .int .i64 x] (.str l[i]) := by
  refine ⟨Nat.le_of_ble_eq_true rfl, ?_⟩
  conv => whnf
  refine sideB_intro (fun _ => decide_eq_true (by clear e; omega)) ?_
  conv => whnf
  refine sideB_intro (fun _ => decide_eq_true (by clear e; omega)) ?_
  conv => whnf
  rw [e]
  refine sideB_intro (fun _ => decide_eq_true (by simp; omega)) ?_
  rw [getD_map (enc := D.str) hi]
  conv => whnf
  exact ⟨rfl, rfl⟩
theorem call51 (l : List S8) (x : Int) (h : 0 < l.length) (h2 : l.length ≤ 1000000) : ∃ i, ∃ hi : i < l.length, CallsTo Try.prog 51 [.sl 0 1 (l.map .str), .int .i64 x] (.str l[i]) := by
  obtain ⟨i, hi, e⟩ := rest_nat' x (List.map D.str l).length (by simpa using h) (by simpa using h2)
  have hi' : i < l.length := by simpa using hi
  exact ⟨i, hi', calls Try.func51 rfl (by decide) (run51 l x i hi' (by simpa using h) e)⟩
def langs9 : List S8 := [[101, 110], [122, 104], [115, 114], [117, 110, 100], [100, 101], [120, 120], [104, 101], [114, 117], []]
def scripts7 : List S8 := [[], [], [108, 97, 116, 110], [99, 121, 114, 108], [104, 97, 110, 116], [104, 97, 110, 115], [122, 122, 122, 122]]
def regions9 : List S8 := [[], [], [117, 115], [116, 119], [52, 49, 57], [109, 101], [103, 98], [99, 110], [122, 122]]
theorem run23 (a b c : Int) (l s r : S8) (h1 : CallsTo Try.prog 51 [.sl 0 1 (langs9.map .str), .int .i64 a] (.str l)) (h2 : CallsTo Try.prog 51 [.sl 0 1 (scripts7.map .str), .int .i64 b] (.str s)) (h3 : CallsTo Try.prog 51 [.sl 0 1 (regions9.map .str), .int .i64 c] (.str r)) :
    Runs Try.prog T 22 (Try.f23.body.getD .skip) Try.f23.results.toList [.agg [.int .i64 a, .int .i64 b, .int .i64 c]] (tagZ l s r []) := by
  refine ⟨Nat.le_of_ble_eq_true rfl, ?_⟩
  conv => whnf
  refine ⟨rfl, ?_⟩
  conv => whnf
  refine ⟨_, fun _ => h1, ?_⟩
  conv => whnf
  refine ⟨_, fun _ => h2, ?_⟩
  conv => whnf
  refine ⟨_, fun _ => h3, ?_⟩
  conv => whnf
  exact ⟨rfl, rfl⟩
theorem call23 (a b c : Int) : ∃ l s r, l ∈ langs9 ∧ s ∈ scripts7 ∧ r ∈ regions9 ∧ CallsTo Try.prog 23 [.agg [.int .i64 a, .int .i64 b, .int .i64 c]] (tagT l s r []).d := by
  obtain ⟨i, hi, h1⟩ := call51 langs9 a (by decide) (by decide)
  obtain ⟨j, hj, h2⟩ := call51 scripts7 b (by decide) (by decide)
  obtain ⟨k, hk, h3⟩ := call51 regions9 c (by decide) (by decide)
  exact ⟨_, _, _, List.getElem_mem hi, List.getElem_mem hj, List.getElem_mem hk, callsTo_res (calls Try.func23 rfl (by decide) (run23 a b c _ _ _ h1 h2 h3)) fun _ _ _ => tagZ_iff.1⟩
theorem run22 (xs : List Al) (ls : List Lk) (rs ms : List D) (ta tb tc : Tg) (ha : ta.s = [104, 97, 110, 116]) (hb : tb.l = [114, 117]) (hb2 : tb.r = [114, 117]) (hc : tc.r = [103, 98]) (h20 : CallsTo Try.prog 20 [] (imgD xs ls rs ms 40 5))
    (h1 : CallsTo Try.prog 50 [imgD xs ls rs ms 40 5, tagZ [122, 104] [] [116, 119] []] (.tup [ta.d, .bool true])) (h2 : CallsTo Try.prog 50 [imgD xs ls rs ms 40 5, tagZ [117, 110, 100] [99, 121, 114, 108] [] []] (.tup [tb.d, .bool true])) (h3 : CallsTo Try.prog 50 [imgD xs ls rs ms 40 5, tagZ [101, 110] [115, 104, 97, 119] [] []] (.tup [tc.d, .bool true])) :
    Runs Try.prog T 54 (Try.f22.body.getD .skip) Try.f22.results.toList [] (.bool true) := by
  refine ⟨Nat.le_of_ble_eq_true rfl, ?_⟩
  conv => whnf
  refine ⟨_, fun _ => h20, ?_⟩
  conv => whnf
  refine ⟨_, fun _ => h1, ?_⟩
  conv => whnf
  refine ⟨_, fun _ => h2, ?_⟩
  conv => whnf
  refine ⟨_, fun _ => h3, ?_⟩
  conv => whnf
  exact ⟨rfl, congrArg D.bool (show (bif bif bif bif bif bif true then ta.s == [104, 97, 110, 116] else false then true else false then tb.l == [114, 117] else false then tb.r == [114, 117] else false then true else false then tc.r == [103, 98] else false) = true from by rw [ha, hb, hb2, hc]; rfl)⟩
theorem max1 : maxi (rowsM likelyL) (tagT [122, 104] [] [116, 119] []) (ladL [122, 104] [] [116, 119]) = .tup [(tagT [122, 104] [104, 97, 110, 116] [116, 119] []).d, .bool true] := by kernel_rfl
theorem max2 : maxi (rowsM likelyL) (tagT [117, 110, 100] [99, 121, 114, 108] [] []) (ladL [117, 110, 100] [99, 121, 114, 108] []) = .tup [(tagT [114, 117] [99, 121, 114, 108] [114, 117] []).d, .bool true] := by kernel_rfl
theorem max3 : maxi (rowsM likelyL) (tagT [101, 110] [115, 104, 97, 119] [] []) (ladL [101, 110] [115, 104, 97, 119] []) = .tup [(tagT [101, 110] [115, 104, 97, 119] [103, 98] []).d, .bool true] := by kernel_rfl
theorem call22 : CallsTo Try.prog 22 [] (.bool true) := by
  have c := fun l s r => call50z aliasesL likelyL (rulesL.map Ru.d) (membersL.map Me.d) 40 5 (by decide) l s r []
  have c1 := c [122, 104] [] [116, 119]
  have c2 := c [117, 110, 100] [99, 121, 114, 108] []
  have c3 := c [101, 110] [115, 104, 97, 119] []
  rw [max1] at c1
  rw [max2] at c2
  rw [max3] at c3
  exact calls Try.func22 rfl (by decide) (run22 aliasesL likelyL _ _ _ _ _ rfl rfl rfl rfl call20 c1 c2 c3)
end Go.Proofs.Ytndijidmabfhcaa.Fw
