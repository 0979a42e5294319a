/- What aliases are of: the program's own map of sources. -/
import Derived.Test.YtndijidmabfhcaaFwDG
import Derived.Test.YtndijidmabfhcaaFwMP
namespace Go.Proofs.Ytndijidmabfhcaa.Fw
open Go Go.RowKit
set_option maxRecDepth 100000
set_option maxHeartbeats 4000000
structure Src where
  k : Int
  a : S8
  b : S8
  deriving DecidableEq
def Src.d (x : Src) : D := .agg [.int .i64 x.k, .str x.a, .str x.b]
theorem srcEnc : KeyEnc T 125 Src.d := by
  refine ⟨fun x y => ?_, fun x y => ?_, fun _ => rfl⟩
  · obtain ⟨k, a, b⟩ := x
    obtain ⟨k', a', b'⟩ := y
    show (eqCs [.int .i64 k, .str a, .str b] [.int .i64 k', .str a', .str b']).getD false = _
    simp [eqCs, eqD, beq_dec]
  · obtain ⟨k, a, b⟩ := x
    obtain ⟨k', a', b'⟩ := y
    conv => lhs; whnf
    dsimp only
    generalize (k == k') = p
    generalize (a == a') = q
    generalize (b == b') = r
    cases p <;> cases q <;> cases r <;> rfl
def srcOf (L : List Src) (x : Al) : List Src :=
  if x.k = 2 ∨ x.k = 3 then insS ⟨3, x.a, []⟩ L
  else if x.k = 4 ∨ x.k = 5 ∨ x.k = 6 then insS ⟨x.k, x.a, []⟩ L
  else if x.k = 7 then insS ⟨x.k, x.a, x.b⟩ L else L
def srcs (xs : List Al) : List Src := xs.foldl srcOf []
theorem srcs_take {xs : List Al} {i : Nat} (h : i < xs.length) : srcs (xs.take (i + 1)) = srcOf (srcs (xs.take i)) xs[i] := by
  rw [srcs, List.take_succ_eq_append_getElem h, List.foldl_append]; rfl
theorem run49 (xs : List Al) (ls : List Lk) (rs ms : List D) (th dm : Int) (hx : xs.length ≤ 1000000) :
    Runs Try.prog T 48 (Try.f49.body.getD .skip) Try.f49.results.toList [.agg [.sl 0 6 (xs.map Al.d), .sl 0 6 (ls.map Lk.d), .sl 0 9 rs, .sl 0 2 ms, .int .i64 th, .int .i64 dm]] (setD Src.d (srcs xs)) := by
  refine ⟨Nat.le_of_ble_eq_true rfl, ?_⟩
  conv => whnf
  refine ⟨_, loop_rule (σ := Nat) (fun i => ⟨48, [(0, .agg [.sl 0 6 (List.map Al.d xs), .sl 0 6 (List.map Lk.d ls), .sl 0 9 rs, .sl 0 2 ms, .int .i64 th, .int .i64 dm]), (1, .loc 1 0), (2, .nilm), (6, .mapr 6), (3, .mapr 6), (7, .loc 1 0), (8, .sl 0 6 (List.map Al.d xs)), (9, .int .i64 (List.map Al.d xs).length), (10, .int .i64 (i : Int))], [], [(1, ⟨[.sl 0 6 (List.map Al.d xs), .sl 0 6 (List.map Lk.d ls), .sl 0 9 rs, .sl 0 2 ms, .int .i64 th, .int .i64 dm], true, false⟩)], [(6, ⟨(srcs (xs.take i)).map Src.d, (srcs (xs.take i)).map fun _ => .bool true, false⟩)], [], []⟩) (fun i => xs.length - i) (fun i => i ≤ xs.length) ?_ 0 (Nat.zero_le _)⟩
  rintro i hi ih
  conv => whnf
  refine ifB_intro (fun h => ?_) (fun h => ?_)
  · have h := of_decide_eq_true h
    have hlt : i < xs.length := by simpa using h
    have hw : IntKind.i64.wrap ((i : Int) + 1) = ((i + 1 : Nat) : Int) := by rw [IntKind.wrap_i64]; omega
    have hs := srcs_take hlt
    have ih' := ih (i + 1) hlt (by omega)
    rw [hs] at ih'
    clear ih hs
    revert ih'
    generalize srcs (xs.take i) = L
    intro ih
    conv => whnf
    refine sideB_intro (fun _ => decide_eq_true (by simp; omega)) ?_
    rw [getD_map (enc := Al.d) hlt]
    revert ih
    generalize xs[i] = x
    intro ih
    obtain ⟨k, a, b, l, s, r⟩ := x
    have lay : ∀ y : Src, putD y.d (.bool true) (L.map Src.d) (L.map fun _ => .bool true) = ((insS y L).map Src.d, (insS y L).map fun _ => .bool true) := fun y => putD_set srcEnc _ y L
    have lay' : ∀ y : Src, ∀ k' v' : D, k' = y.d → v' = .bool true → putD k' v' (L.map Src.d) (L.map fun _ => .bool true) = ((insS y L).map Src.d, (insS y L).map fun _ => .bool true) := fun y k' v' h1 h2 => by rw [h1, h2]; exact lay y
    have fits : ∀ y : Src, keysFit T 125 y.d (L.map Src.d) = true := fun y => keysFit_enc srcEnc y L
    by_cases e2 : k = 2
    · subst e2
      replace ih : loopEv _ _ _ _ _ _ _ := ih
      simp only [srcOf] at ih
      conv => whnf
      refine ⟨fits ⟨3, a, []⟩, ?_⟩
      conv => whnf
      rw [lay' ⟨3, a, []⟩, hw]
      · exact ih
      · rfl
      · rfl
    by_cases e3 : k = 3
    · subst e3
      replace ih : loopEv _ _ _ _ _ _ _ := ih
      simp only [srcOf] at ih
      conv => whnf
      refine ⟨fits ⟨3, a, []⟩, ?_⟩
      conv => whnf
      rw [lay' ⟨3, a, []⟩, hw]
      · exact ih
      · rfl
      · rfl
    by_cases e4 : k = 4
    · subst e4
      replace ih : loopEv _ _ _ _ _ _ _ := ih
      simp only [srcOf] at ih
      conv => whnf
      refine ⟨fits ⟨4, a, []⟩, ?_⟩
      conv => whnf
      rw [lay' ⟨4, a, []⟩, hw]
      · exact ih
      · rfl
      · rfl
    by_cases e5 : k = 5
    · subst e5
      replace ih : loopEv _ _ _ _ _ _ _ := ih
      simp only [srcOf] at ih
      conv => whnf
      refine ⟨fits ⟨5, a, []⟩, ?_⟩
      conv => whnf
      rw [lay' ⟨5, a, []⟩, hw]
      · exact ih
      · rfl
      · rfl
    by_cases e6 : k = 6
    · subst e6
      replace ih : loopEv _ _ _ _ _ _ _ := ih
      simp only [srcOf] at ih
      conv => whnf
      refine ⟨fits ⟨6, a, []⟩, ?_⟩
      conv => whnf
      rw [lay' ⟨6, a, []⟩, hw]
      · exact ih
      · rfl
      · rfl
    by_cases e7 : k = 7
    · subst e7
      replace ih : loopEv _ _ _ _ _ _ _ := ih
      simp only [srcOf] at ih
      conv => whnf
      refine ⟨fits ⟨7, a, b⟩, ?_⟩
      conv => whnf
      rw [lay' ⟨7, a, b⟩, hw]
      · exact ih
      · rfl
      · rfl
    have c : ∀ m : Int, k ≠ m → (k == m) = false := fun m hm => by simpa using hm
    conv => whnf
    refine ifB_intro (fun h2 => absurd ((c 2 e2).symm.trans h2) (by decide)) (fun _ => ?_)
    conv => whnf
    refine ifB_intro (fun h2 => absurd ((c 3 e3).symm.trans h2) (by decide)) (fun _ => ?_)
    conv => whnf
    refine ifB_intro (fun h2 => absurd ((c 4 e4).symm.trans h2) (by decide)) (fun _ => ?_)
    conv => whnf
    refine ifB_intro (fun h2 => absurd ((c 5 e5).symm.trans h2) (by decide)) (fun _ => ?_)
    conv => whnf
    refine ifB_intro (fun h2 => absurd ((c 6 e6).symm.trans h2) (by decide)) (fun _ => ?_)
    conv => whnf
    refine ifB_intro (fun h2 => absurd ((c 7 e7).symm.trans h2) (by decide)) (fun _ => ?_)
    conv => whnf
    simp only [srcOf, e2, e3, e4, e5, e6, e7, or_self, if_false] at ih
    rw [hw]
    exact ih
  · have h := of_decide_eq_false h
    conv => whnf
    have hd : xs.take i = xs := List.take_of_length_le (by simpa using h)
    rw [hd]
    exact ⟨rfl, rfl⟩
theorem call49 (xs : List Al) (ls : List Lk) (rs ms : List D) (th dm : Int) (hx : xs.length ≤ 1000000) : CallsTo Try.prog 49 [.agg [.sl 0 6 (xs.map Al.d), .sl 0 6 (ls.map Lk.d), .sl 0 9 rs, .sl 0 2 ms, .int .i64 th, .int .i64 dm]] (setD Src.d (srcs xs)) :=
  calls Try.func49 rfl (by decide) (run49 xs ls rs ms th dm hx)
end Go.Proofs.Ytndijidmabfhcaa.Fw
