/- The ladder, as an iterator. -/
import Derived.Test.YtndijidmabfhcaaFwDE
import Derived.Test.YtndijidmabfhcaaFwMP
namespace Go.Proofs.Ytndijidmabfhcaa.Fw
open Go Go.RowKit
set_option maxRecDepth 100000
set_option maxHeartbeats 4000000
structure R3 where
  a : S8
  b : S8
  c : S8
  deriving DecidableEq
def R3.d (x : R3) : D := .agg [.str x.a, .str x.b, .str x.c]
theorem r3Enc : KeyEnc T 22 R3.d := by
  refine ⟨fun x y => ?_, fun x y => ?_, fun _ => rfl⟩
  · obtain ⟨k, a, b⟩ := x
    obtain ⟨k', a', b'⟩ := y
    show (eqCs [.str k, .str a, .str b] [.str k', .str a', .str b']).getD false = _
    simp [eqCs, eqD, beq_dec]
  · obtain ⟨k, a, b⟩ := x
    obtain ⟨k', a', b'⟩ := y
    conv => lhs; whnf
    dsimp only
    generalize (k == k') = p
    generalize (a == a') = q
    generalize (b == b') = r
    cases p <;> cases q <;> cases r <;> rfl
def ladGo (lang : S8) : List R3 → List R3 → List R3
  | _, [] => []
  | there, x :: xs => bif (bif there.contains x then true else bif x.a != lang then x.b == [] else false) then ladGo lang there xs else x :: ladGo lang (insS x there) xs
def rows5 (l s r : S8) : List R3 := [⟨l, s, r⟩, ⟨l, [], r⟩, ⟨l, s, []⟩, ⟨l, [], []⟩, ⟨[117, 110, 100], s, []⟩]
def ladL (l s r : S8) : List R3 := bif l == [] then [] else ladGo l [] (rows5 l s r)
structure Tg where
  l : S8
  ex : List D
  s : S8
  r : S8
  va : List D
  xt : List D
  pv : List D
  g : S8
def Tg.d (t : Tg) : D := .agg [.str t.l, .sl 0 1 t.ex, .str t.s, .str t.r, .sl 0 1 t.va, .sl 0 2 t.xt, .sl 0 1 t.pv, .str t.g]
theorem yields52 (t : Tg) : Yields Try.prog T 61 (Try.f52.body.getD .skip) [.eptr t.d 0] ((ladL t.l t.s t.r).map fun x => [x.d]) := by
  refine ⟨Nat.le_of_ble_eq_true rfl, fun yl => ?_⟩
  unfold ladL
  cases hl : t.l == [] with
  | true =>
    conv => whnf
    refine ifB_intro (fun _ => ?_) (fun h => by rw [hl] at h; cases h)
    conv => whnf
    trivial
  | false =>
    simp only [cond_false]
    conv => whnf
    refine ifB_intro (fun h => by rw [hl] at h; cases h) (fun _ => ?_)
    conv => whnf
    refine ⟨_, loop_rule (σ := Nat × List R3 × List R3) (fun q => ⟨61, [(1, .eptr t.d 0), (0, .yld yl), (6, .eptr t.d 0), (7, .str t.l), (8, .bool (t.l == [])), (9, .mapr 9), (3, .mapr 9), (10, .eptr t.d 0), (11, .str t.l), (12, .eptr t.d 2), (13, .str t.s), (14, .eptr t.d 3), (15, .str t.r), (16, .agg [.str t.l, .str t.s, .str t.r]), (17, .eptr t.d 0), (18, .str t.l), (19, .eptr t.d 3), (20, .str t.r), (21, .agg [.str t.l, .str [], .str t.r]), (22, .eptr t.d 0), (23, .str t.l), (24, .eptr t.d 2), (25, .str t.s), (26, .agg [.str t.l, .str t.s, .str []]), (27, .eptr t.d 0), (28, .str t.l), (29, .agg [.str t.l, .str [], .str []]), (30, .eptr t.d 2), (31, .str t.s), (32, .agg [.str [117, 110, 100], .str t.s, .str []]), (33, .sl 0 3 (List.map R3.d (rows5 t.l t.s t.r))), (34, .int .i64 5), (35, .int .i64 (q.1 : Int))], [], [], [(9, ⟨q.2.1.map R3.d, q.2.1.map fun _ => .bool true, false⟩)], [], [], some (yl, List.map (fun x => [x.d]) q.2.2)⟩) (fun q => 5 - q.1) (fun q => q.1 ≤ 5 ∧ q.2.2 = ladGo t.l q.2.1 ((rows5 t.l t.s t.r).drop q.1)) ?_ (0, [], _) ⟨Nat.zero_le _, rfl⟩⟩
    rintro ⟨i, L, out⟩ ⟨hi, hout⟩ ih
    replace hi : i ≤ 5 := hi
    replace hout : out = ladGo t.l L ((rows5 t.l t.s t.r).drop i) := hout
    have hlen : (rows5 t.l t.s t.r).length = 5 := rfl
    conv => whnf
    refine ifB_intro (fun h => ?_) (fun h => ?_)
    · replace h : (i : Int) < 5 := of_decide_eq_true h
      have hlt : i < (rows5 t.l t.s t.r).length := by rw [hlen]; omega
      have hw : IntKind.i64.wrap ((i : Int) + 1) = ((i + 1 : Nat) : Int) := by rw [IntKind.wrap_i64]; omega
      have hdrop := List.drop_eq_getElem_cons hlt
      rw [hdrop] at hout
      have fits : ∀ y : R3, keysFit T 22 y.d (L.map R3.d) = true := fun y => keysFit_enc r3Enc y L
      have look : ∀ y : R3, findD y.d (L.map R3.d) (L.map fun _ => .bool true) = bif L.contains y then some (.bool true) else none := fun y => findD_set r3Enc _ y L
      have lay : ∀ y : R3, putD y.d (.bool true) (L.map R3.d) (L.map fun _ => .bool true) = ((insS y L).map R3.d, (insS y L).map fun _ => .bool true) := fun y => putD_set r3Enc _ y L
      rw [ladGo] at hout
      cases hc : (bif L.contains (rows5 t.l t.s t.r)[i] then true else bif (rows5 t.l t.s t.r)[i].a != t.l then (rows5 t.l t.s t.r)[i].b == [] else false) with
      | true =>
        rw [hc, cond_true] at hout
        have ih' := ih (i + 1, L, out) ⟨by show i + 1 ≤ 5; omega, hout⟩ (by show 5 - i = 5 - (i + 1) + 1; omega)
        conv => whnf
        refine sideB_intro (fun _ => decide_eq_true (by simp [hlen]; omega)) ?_
        rw [getD_map (enc := R3.d) hlt]
        revert hc
        generalize (rows5 t.l t.s t.r)[i] = x
        intro hc
        have look := look x
        conv => whnf
        refine sideB_intro (fun _ => fits x) ?_
        cases hcon : L.contains x with
        | true =>
          rw [hcon] at look
          conv => whnf
          refine fO_of look ?_
          conv => whnf
          rw [hw]
          exact ih'
        | false =>
          rw [hcon] at look hc
          conv => whnf
          refine fO_of look ?_
          conv => whnf
          refine ifB_intro (fun hb => ?_) (fun hb => Bool.noConfusion (Eq.trans hb.symm hc))
          conv => whnf
          rw [hw]
          exact ih'
      | false =>
        rw [hc, cond_false] at hout
        subst hout
        have ih' := ih (i + 1, insS (rows5 t.l t.s t.r)[i] L, ladGo t.l (insS (rows5 t.l t.s t.r)[i] L) (List.drop (i + 1) (rows5 t.l t.s t.r))) ⟨by show i + 1 ≤ 5; omega, rfl⟩ (by show 5 - i = 5 - (i + 1) + 1; omega)
        conv => whnf
        refine sideB_intro (fun _ => decide_eq_true (by simp [hlen]; omega)) ?_
        rw [getD_map (enc := R3.d) hlt]
        revert hc ih'
        generalize (rows5 t.l t.s t.r)[i] = x
        intro hc ih'
        have hcon : L.contains x = false := by
          cases hcon : L.contains x with
          | true => rw [hcon] at hc; cases hc
          | false => rfl
        have look := look x
        rw [hcon] at look hc
        conv => whnf
        refine sideB_intro (fun _ => fits x) ?_
        conv => whnf
        refine fO_of look ?_
        conv => whnf
        refine ifB_intro (fun hb => Bool.noConfusion (Eq.trans hb.symm hc)) (fun hb => ?_)
        conv => whnf
        refine ⟨fits x, ?_⟩
        conv => whnf
        refine ⟨⟨rfl, rfl⟩, ?_, ?_⟩
        · conv => whnf
          have e : putD (.agg [.str x.a, .str x.b, .str x.c]) (.bool true) (L.map R3.d) (L.map fun _ => .bool true) = _ := lay x
          rw [e, hw]
          exact ih'
        · conv => whnf
          trivial
    · replace h : ¬ ((i : Int) < 5) := of_decide_eq_false h
      have hd : (rows5 t.l t.s t.r).drop i = [] := List.drop_eq_nil_iff.2 (by rw [hlen]; omega)
      rw [hd] at hout
      subst hout
      conv => whnf
      trivial
theorem iter52 (t : Tg) : IterTo Try.prog 52 [.eptr t.d 0] ((ladL t.l t.s t.r).map fun x => [x.d]) := iters Try.func52 rfl (by decide) rfl (yields52 t)
theorem run24 (t : Tg) : Runs Try.prog T 4 (Try.f24.body.getD .skip) Try.f24.results.toList [t.d] (.fn 52 [.eptr t.d 0]) := by
  refine ⟨Nat.le_of_ble_eq_true rfl, ?_⟩
  conv => whnf
  exact ⟨rfl, rfl⟩
theorem call24 (t : Tg) : CallsTo Try.prog 24 [t.d] (.fn 52 [.eptr t.d 0]) := calls Try.func24 rfl (by decide) (run24 t)
end Go.Proofs.Ytndijidmabfhcaa.Fw
