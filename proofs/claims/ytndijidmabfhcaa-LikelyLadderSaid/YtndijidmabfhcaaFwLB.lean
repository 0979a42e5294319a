/- The map of an image's likely rows. -/
import Derived.Test.YtndijidmabfhcaaFwLA
namespace Go.Proofs.Ytndijidmabfhcaa.Fw
open Go Go.RowKit
set_option maxRecDepth 100000
set_option maxHeartbeats 4000000
def Lk.key (x : Lk) : R3 := ⟨x.l, x.s, x.r⟩
def rowOf (L : List (R3 × Lk)) (x : Lk) : List (R3 × Lk) := bif (assoc x.key L).isSome then L else putA x.key x L
def rowsM (xs : List Lk) : List (R3 × Lk) := xs.foldl rowOf []
theorem rowsM_take {xs : List Lk} {i : Nat} (h : i < xs.length) : rowsM (xs.take (i + 1)) = rowOf (rowsM (xs.take i)) xs[i] := by
  rw [rowsM, List.take_succ_eq_append_getElem h, List.foldl_append]; rfl
def mapD (L : List (R3 × Lk)) : D := .mapv (L.map fun p => p.1.d) (L.map fun p => p.2.d)
def imgD (xs : List Al) (ls : List Lk) (rs ms : List D) (th dm : Int) : D := .agg [.sl 0 6 (xs.map Al.d), .sl 0 6 (ls.map Lk.d), .sl 0 9 rs, .sl 0 2 ms, .int .i64 th, .int .i64 dm]
theorem run77 (xs : List Al) (ls : List Lk) (rs ms : List D) (th dm : Int) (hx : ls.length ≤ 1000000) :
    Runs Try.prog T 37 (Try.f77.body.getD .skip) Try.f77.results.toList [imgD xs ls rs ms th dm] (mapD (rowsM ls)) := by
  refine ⟨Nat.le_of_ble_eq_true rfl, ?_⟩
  conv => whnf
  refine ⟨_, loop_rule (σ := Nat × List (R3 × Lk)) (fun q => ⟨37, [(0, imgD xs ls rs ms th dm), (1, .loc 1 0), (2, .nilm), (9, .mapr 9), (3, .mapr 9), (10, .loc 1 1), (11, .sl 0 6 (List.map Lk.d ls)), (12, .int .i64 (List.map Lk.d ls).length), (13, .int .i64 (q.1 : Int))], [], [(1, ⟨[.sl 0 6 (List.map Al.d xs), .sl 0 6 (List.map Lk.d ls), .sl 0 9 rs, .sl 0 2 ms, .int .i64 th, .int .i64 dm], true, false⟩)], [(9, ⟨q.2.map fun p => p.1.d, q.2.map fun p => p.2.d, false⟩)], [], [], none⟩) (fun q => ls.length - q.1) (fun q => q.1 ≤ ls.length ∧ q.2 = rowsM (ls.take q.1)) ?_ (0, []) ⟨Nat.zero_le _, rfl⟩⟩
  rintro ⟨i, L⟩ ⟨hi, hL⟩ ih
  replace hi : i ≤ ls.length := hi
  replace hL : L = rowsM (ls.take i) := hL
  conv => whnf
  refine ifB_intro (fun h => ?_) (fun h => ?_)
  · replace h : (i : Int) < (List.map Lk.d ls).length := of_decide_eq_true h
    have hlt : i < ls.length := by simpa using h
    have hw : IntKind.i64.wrap ((i : Int) + 1) = ((i + 1 : Nat) : Int) := by rw [IntKind.wrap_i64]; omega
    have hs := rowsM_take hlt
    rw [← hL] at hs
    have ih' := ih (i + 1, rowOf L ls[i]) ⟨hlt, hs.symm⟩ (by show ls.length - i = ls.length - (i + 1) + 1; omega)
    conv => whnf
    refine sideB_intro (fun _ => decide_eq_true (by simp; omega)) ?_
    rw [getD_map (enc := Lk.d) hlt]
    clear hs
    revert ih'
    generalize ls[i] = x
    intro ih'
    have fits : keysFit T 22 x.key.d (L.map fun p => p.1.d) = true := by
      have := keysFit_enc r3Enc x.key (L.map (·.1))
      rwa [List.map_map] at this
    conv => whnf
    refine sideB_intro (fun _ => fits) ?_
    have look : findD x.key.d (L.map fun p => p.1.d) (L.map fun p => p.2.d) = (assoc x.key L).map Lk.d := findD_map r3Enc Lk.d x.key L
    conv => whnf
    cases hm : assoc x.key L with
    | none =>
      rw [hm] at look
      have hr : rowOf L x = putA x.key x L := by simp [rowOf, hm]
      rw [hr] at ih'
      have lay : ∀ k' v' : D, k' = x.key.d → v' = x.d → putD k' v' (L.map fun p => p.1.d) (L.map fun p => p.2.d) = ((putA x.key x L).map fun p => p.1.d, (putA x.key x L).map fun p => p.2.d) := fun k' v' h1 h2 => by rw [h1, h2]; exact putD_map r3Enc Lk.d x.key x L
      refine fO_of look ?_
      conv => whnf
      refine ⟨fits, ?_⟩
      conv => whnf
      rw [lay, hw]
      · exact ih'
      · rfl
      · rfl
    | some y =>
      rw [hm] at look
      have hr : rowOf L x = L := by simp [rowOf, hm]
      rw [hr] at ih'
      refine fO_of look ?_
      conv => whnf
      rw [hw]
      exact ih'
  · replace h : ¬ ((i : Int) < (List.map Lk.d ls).length) := of_decide_eq_false h
    have hd : ls.take i = ls := List.take_of_length_le (by simpa using h)
    rw [hd] at hL
    subst hL
    conv => whnf
    exact ⟨rfl, rfl⟩
theorem call77 (xs : List Al) (ls : List Lk) (rs ms : List D) (th dm : Int) (hx : ls.length ≤ 1000000) : CallsTo Try.prog 77 [imgD xs ls rs ms th dm] (mapD (rowsM ls)) := calls Try.func77 rfl (by decide) (run77 xs ls rs ms th dm hx)
end Go.Proofs.Ytndijidmabfhcaa.Fw
