/- Maximize. -/
import Derived.Test.YtndijidmabfhcaaFwLB
namespace Go.Proofs.Ytndijidmabfhcaa.Fw
open Go Go.RowKit
set_option maxRecDepth 100000
set_option maxHeartbeats 4000000
def maxRow (M : List (R3 × Lk)) : List R3 → Option Lk
  | [] => none
  | x :: xs => match assoc x M with
    | some y => some y
    | none => maxRow M xs
def fill (t : Tg) (x : Lk) : Tg := ⟨bif t.l == [117, 110, 100] then x.tl else t.l, t.ex, bif t.s == [] then x.ts else t.s, bif t.r == [] then x.tr else t.r, t.va, t.xt, t.pv, t.g⟩
def maxi (M : List (R3 × Lk)) (t : Tg) (rows : List R3) : D := match maxRow M rows with
  | some x => .tup [(fill t x).d, .bool true]
  | none => .tup [t.d, .bool false]
theorem run50 (xs : List Al) (ls : List Lk) (rs ms : List D) (th dm : Int) (t : Tg) (M : List (R3 × Lk)) (rows : List R3) (h77 : CallsTo Try.prog 77 [imgD xs ls rs ms th dm] (mapD M)) (h52 : IterTo Try.prog 52 [.eptr t.d 0] (rows.map fun x => [x.d])) :
    Runs Try.prog T 58 (Try.f50.body.getD .skip) Try.f50.results.toList [imgD xs ls rs ms th dm, t.d] (maxi M t rows) := by
  refine ⟨Nat.le_of_ble_eq_true rfl, ?_⟩
  conv => whnf
  refine ⟨_, fun _ => h77, ?_⟩
  conv => whnf
  refine ⟨_, fun _ => call24 t, ?_⟩
  conv => whnf
  refine ⟨_, h52, ?_⟩
  clear h52
  generalize hm : maxi M t rows = res
  induction rows with
  | nil =>
    conv => whnf
    exact ⟨rfl, hm⟩
  | cons x rows ih =>
    have fits : keysFit T 22 x.d (M.map fun p => p.1.d) = true := by
      have := keysFit_enc r3Enc x (M.map (·.1))
      rwa [List.map_map] at this
    have look : findD x.d (M.map fun p => p.1.d) (M.map fun p => p.2.d) = (assoc x M).map Lk.d := findD_map r3Enc Lk.d x M
    conv => whnf
    refine sideB_intro (fun _ => fits) ?_
    conv => whnf
    cases ha : assoc x M with
    | none =>
      rw [ha] at look
      refine fO_of look ?_
      conv => whnf
      exact seqEv_tm 58 (ih (by rw [← hm]; simp only [maxi, maxRow, ha]))
    | some y =>
      rw [ha] at look
      clear ih
      refine fO_of look ?_
      conv => whnf
      have hr : res = .tup [(fill t y).d, .bool true] := by rw [← hm]; simp only [maxi, maxRow, ha]
      subst hr
      clear hm look fits
      refine ⟨4, ?_⟩
      conv => whnf
      refine ⟨rfl, ?_⟩
      conv => whnf
      have k : ∀ (res : D), .tup [(fill t y).d, .bool true] = res → res = .tup [(fill t y).d, .bool true] := fun _ e => e.symm
      refine ifB_intro (fun h1 => ?_) (fun h1 => ?_)
      all_goals
        conv => whnf
        refine ⟨rfl, ?_⟩
        conv => whnf
        refine ifB_intro (fun h2 => ?_) (fun h2 => ?_)
        all_goals
          conv => whnf
          refine ⟨rfl, ?_⟩
          conv => whnf
          refine ifB_intro (fun h3 => ?_) (fun h3 => ?_)
          all_goals
            conv => whnf
            refine ⟨rfl, k _ ?_⟩
            unfold fill
            rw [show (t.l == [117, 110, 100]) = _ from h1, show (t.s == []) = _ from h2, show (t.r == []) = _ from h3]
            rfl
theorem call50 (xs : List Al) (ls : List Lk) (rs ms : List D) (th dm : Int) (hx : ls.length ≤ 1000000) (t : Tg) : CallsTo Try.prog 50 [imgD xs ls rs ms th dm, t.d] (maxi (rowsM ls) t (ladL t.l t.s t.r)) :=
  calls Try.func50 rfl (by decide) (run50 xs ls rs ms th dm t _ _ (call77 xs ls rs ms th dm hx) (iter52 t))

theorem callsTo_args {P : Program} {f : Nat} {ds ds' : List D} {d : D} (h : CallsTo P f ds d) (ha : ∀ I w vs, RepL I w ds' vs → RepL I w ds vs) : CallsTo P f ds' d := ⟨h.1, fun I w vs him hr => h.2 I w vs him (ha I w vs hr)⟩
theorem callsTo_res {P : Program} {f : Nat} {ds : List D} {d d' : D} (h : CallsTo P f ds d) (hd : ∀ I w v, Rep I w d v → Rep I w d' v) : CallsTo P f ds d' :=
  ⟨h.1, fun I w vs him hr => Calls.mono (h.2 I w vs him hr) fun e w' ⟨v, I', h1, h2, h3, h4, h5, h6⟩ => ⟨v, I', h1, h2, h3, h4, hd _ _ _ h5, h6⟩⟩
/-- A tag without extlangs, variants, extensions and private subtags. -/
def tagZ (l s r g : S8) : D := .agg [.str l, .sl 0 0 [], .str s, .str r, .sl 0 0 [], .sl 0 0 [], .sl 0 0 [], .str g]
def tagT (l s r g : S8) : Tg := ⟨l, [], s, r, [], [], [], g⟩
theorem tagZ_iff {l s r g : S8} {I : Im} {w : World} {v : Value} : Rep I w (tagZ l s r g) v ↔ Rep I w (tagT l s r g).d v := by
  simp only [tagZ, tagT, Tg.d, Rep, RepL, RepRow, D.isCell, List.all_cons, List.all_nil]
theorem repL_tagZ {l s r g : S8} {I : Im} {w : World} {d : D} {vs : List Value} (h : RepL I w [d, tagZ l s r g] vs) : RepL I w [d, (tagT l s r g).d] vs := by
  obtain ⟨v, us, rfl, h1, v2, us2, rfl, h2, h3⟩ := h
  exact ⟨v, _, rfl, h1, v2, _, rfl, tagZ_iff.1 h2, h3⟩
theorem repL_tagZ1 {l s r g : S8} {I : Im} {w : World} {vs : List Value} (h : RepL I w [tagZ l s r g] vs) : RepL I w [(tagT l s r g).d] vs := by
  obtain ⟨v2, us2, rfl, h2, h3⟩ := h
  exact ⟨v2, _, rfl, tagZ_iff.1 h2, h3⟩
theorem call50z (xs : List Al) (ls : List Lk) (rs ms : List D) (th dm : Int) (hx : ls.length ≤ 1000000) (l s r g : S8) : CallsTo Try.prog 50 [imgD xs ls rs ms th dm, tagZ l s r g] (maxi (rowsM ls) (tagT l s r g) (ladL l s r)) :=
  callsTo_args (call50 xs ls rs ms th dm hx (tagT l s r g)) fun _ _ _ => repL_tagZ
end Go.Proofs.Ytndijidmabfhcaa.Fw
