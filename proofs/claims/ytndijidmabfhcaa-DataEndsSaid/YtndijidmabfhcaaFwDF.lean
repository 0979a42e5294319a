/- The law's own loops over an image's rows: finds. -/
import Derived.Test.YtndijidmabfhcaaFwDE
namespace Go.Proofs.Ytndijidmabfhcaa.Fw
open Go Go.RowKit
set_option maxRecDepth 100000
set_option maxHeartbeats 4000000
theorem run18 (xs : List Al) (ls : List Lk) (rs ms : List D) (kind : Int) (a b c : S8) (y : Al) (z : Bool) (y2 : Lk) (z2 : Bool) (h16 : CallsTo Try.prog 16 [.int .i64 kind, .str a, .str b] (.tup [y.d, .bool z])) (h17 : CallsTo Try.prog 17 [.str a, .str b, .str c] (.tup [y2.d, .bool z2])) (H1 : ∀ x ∈ xs, (bif isAl kind a b x then (bif !z then true else !(y.k == x.k && (y.a == x.a && (y.b == x.b && (y.l == x.l && (y.s == x.s && (y.r == x.r && true))))))) else false) = false) (H2 : ∀ x ∈ ls, (bif isLk a b c x then (bif !z2 then true else !(y2.l == x.l && (y2.s == x.s && (y2.r == x.r && (y2.tl == x.tl && (y2.ts == x.ts && (y2.tr == x.tr && true))))))) else false) = false) (H3 : (bif bif bif !z then (y.k == 0 && (y.a == [] && (y.b == [] && (y.l == [] && (y.s == [] && (y.r == [] && true)))))) else false then true else bif bif bif z then y.k == kind else false then y.a == a else false then y.b == b else false then bif bif !z2 then (y2.l == [] && (y2.s == [] && (y2.r == [] && (y2.tl == [] && (y2.ts == [] && (y2.tr == [] && true)))))) else false then true else bif bif bif z2 then y2.l == a else false then y2.s == b else false then y2.r == c else false else false) = true) (hx : xs.length ≤ 1000000) (hl : ls.length ≤ 1000000) :
    Runs Try.prog T 165 (Try.f18.body.getD .skip) Try.f18.results.toList [.agg [.sl 0 6 (xs.map Al.d), .sl 0 6 (ls.map Lk.d), .sl 0 9 rs, .sl 0 2 ms, .int .i64 40, .int .i64 5], .int .i64 kind, .str a, .str b, .str c] (.bool true) := by
  refine ⟨Nat.le_of_ble_eq_true rfl, ?_⟩
  conv => whnf
  refine ⟨_, fun _ => h16, ?_⟩
  conv => whnf
  refine ⟨_, fun _ => h17, ?_⟩
  conv => whnf
  refine ⟨_, loop_rule (σ := Nat) (fun i => ⟨165, [(4, .str c), (3, .str b), (2, .str a), (1, .int .i64 kind), (0, .agg [.sl 0 6 (List.map Al.d xs), .sl 0 6 (List.map Lk.d ls), .sl 0 9 rs, .sl 0 2 ms, .int .i64 40, .int .i64 5]), (5, .loc 5 0), (10, .bool false), (20, .int .i64 kind), (21, .str a), (22, .str b), (23, .undef), (19, .undef), (24, .agg [.int .i64 y.k, .str y.a, .str y.b, .str y.l, .str y.s, .str y.r]), (25, .bool z), (11, .loc 11 0), (12, .bool z), (27, .str a), (28, .str b), (29, .str c), (30, .undef), (26, .undef), (31, .agg [.str y2.l, .str y2.s, .str y2.r, .str y2.tl, .str y2.ts, .str y2.tr]), (32, .bool z2), (13, .loc 13 0), (14, .bool z2), (15, .int .i64 (i : Int))], [], [(5, ⟨[.sl 0 6 (List.map Al.d xs), .sl 0 6 (List.map Lk.d ls), .sl 0 9 rs, .sl 0 2 ms, .int .i64 40, .int .i64 5], true, false⟩), (11, ⟨[.int .i64 y.k, .str y.a, .str y.b, .str y.l, .str y.s, .str y.r], true, false⟩), (13, ⟨[.str y2.l, .str y2.s, .str y2.r, .str y2.tl, .str y2.ts, .str y2.tr], true, false⟩)], [], [], []⟩) (fun i => xs.length - i) (fun i => i ≤ xs.length) ?_ 0 (Nat.zero_le _)⟩
  rintro i hi ih
  conv => whnf
  refine ifB_intro (fun h => ?_) (fun h => ?_)
  · have h := of_decide_eq_true h
    have hlt : i < xs.length := by simpa using h
    conv => whnf
    refine sideB_intro (fun _ => decide_eq_true (by simp; omega)) ?_
    rw [getD_map (enc := Al.d) hlt]
    conv => whnf
    refine ifB_intro (fun hb => ?_) (fun hb => ?_)
    · exact absurd hb (by
        exact fun hb => Bool.noConfusion (Eq.trans (H1 _ (List.getElem_mem hlt)).symm hb))
    · conv => whnf
      have hw : IntKind.i64.wrap ((i : Int) + 1) = ((i + 1 : Nat) : Int) := by rw [IntKind.wrap_i64]; omega
      rw [hw]
      exact ih (i + 1) hlt (by omega)
  · have h := of_decide_eq_false h
    conv => whnf
    refine ⟨_, loop_rule (σ := Nat) (fun j => ⟨165, [(15, .int .i64 (i : Int)), (14, .bool z2), (13, .loc 13 0), (32, .bool z2), (31, .agg [.str y2.l, .str y2.s, .str y2.r, .str y2.tl, .str y2.ts, .str y2.tr]), (26, .undef), (30, .undef), (29, .str c), (28, .str b), (27, .str a), (12, .bool z), (11, .loc 11 0), (25, .bool z), (24, .agg [.int .i64 y.k, .str y.a, .str y.b, .str y.l, .str y.s, .str y.r]), (19, .undef), (23, .undef), (22, .str b), (21, .str a), (20, .int .i64 kind), (10, .bool false), (5, .loc 5 0), (0, .agg [.sl 0 6 (List.map Al.d xs), .sl 0 6 (List.map Lk.d ls), .sl 0 9 rs, .sl 0 2 ms, .int .i64 40, .int .i64 5]), (1, .int .i64 kind), (2, .str a), (3, .str b), (4, .str c), (33, .int .i64 (i : Int)), (34, .loc 5 0), (35, .sl 0 6 (List.map Al.d xs)), (36, .int .i64 (List.map Al.d xs).length), (37, .bool (decide ((i : Int) < (List.map Al.d xs).length))), (17, .int .i64 (j : Int))], [], [(13, ⟨[.str y2.l, .str y2.s, .str y2.r, .str y2.tl, .str y2.ts, .str y2.tr], true, false⟩), (11, ⟨[.int .i64 y.k, .str y.a, .str y.b, .str y.l, .str y.s, .str y.r], true, false⟩), (5, ⟨[.sl 0 6 (List.map Al.d xs), .sl 0 6 (List.map Lk.d ls), .sl 0 9 rs, .sl 0 2 ms, .int .i64 40, .int .i64 5], true, false⟩)], [], [], []⟩) (fun i => ls.length - i) (fun i => i ≤ ls.length) ?_ 0 (Nat.zero_le _)⟩
    rintro j hj ih2
    conv => whnf
    refine ifB_intro (fun h => ?_) (fun h => ?_)
    · have h := of_decide_eq_true h
      have hlt : j < ls.length := by simpa using h
      conv => whnf
      refine sideB_intro (fun _ => decide_eq_true (by simp; omega)) ?_
      rw [getD_map (enc := Lk.d) hlt]
      conv => whnf
      refine ifB_intro (fun hb => ?_) (fun hb => ?_)
      · exact absurd hb (by
          exact fun hb => Bool.noConfusion (Eq.trans (H2 _ (List.getElem_mem hlt)).symm hb))
      · conv => whnf
        have hw : IntKind.i64.wrap ((j : Int) + 1) = ((j + 1 : Nat) : Int) := by rw [IntKind.wrap_i64]; omega
        rw [hw]
        exact ih2 (j + 1) hlt (by omega)
    · have h := of_decide_eq_false h
      conv => whnf
      exact ⟨rfl, Eq.trans (congrArg D.bool H3) rfl⟩
end Go.Proofs.Ytndijidmabfhcaa.Fw
