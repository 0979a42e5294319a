/- Texts KH, KI, KB, KC, KJ, KK, KD, KE, KF, KG, KL, KM, KQ, KN, KR, KO, KP, KS, KT, KU, KV of the proof, in one. -/
import Derived.Test.YtbfgendaafediaaFwKk5
set_option linter.unusedSimpArgs false
set_option linter.unusedVariables false
set_option linter.unusedSectionVars false
set_option linter.unnecessarySimpa false

/- Whether rows are the same. -/
namespace Go.Proofs.Ytbfgendaafediaa.Fw
open Go Go.RowKit
set_option maxRecDepth 100000
set_option maxHeartbeats 4000000

theorem eq_of_get {α : Type} {a b : List α} (hl : a.length = b.length) (h : ∀ j, j < a.length → a[j]? = b[j]?) : a = b := by
  apply List.ext_getElem?
  intro j
  by_cases hj : j < a.length
  · exact h j hj
  · rw [List.getElem?_eq_none (by omega), List.getElem?_eq_none (by omega)]
theorem ne_of_get {α : Type} {a b : List α} {j : Nat} {x y : α} (hx : a[j]? = some x) (hy : b[j]? = some y) (h : x ≠ y) : a ≠ b := fun e => by
  subst e; rw [hx] at hy; exact h (Option.some.inj hy)
theorem run43 (a b : List S8) (ha : a.length ≤ 1000000 ∨ b.length ≤ 1000000) : Runs Try.prog T 26 (Try.f43.body.getD .skip) Try.f43.results.toList [.sl 0 1 (a.map D.str), .sl 0 1 (b.map D.str)] (.bool (decide (a = b))) := by
  refine ⟨Nat.le_of_ble_eq_true rfl, ?_⟩
  conv => whnf
  refine ifB_intro (fun h => ?_) (fun h => ?_)
  · conv => whnf
    have h : ((a.map D.str).length : Int) ≠ ((b.map D.str).length : Int) := by simpa using h
    rw [List.length_map, List.length_map] at h
    exact ⟨rfl, congrArg D.bool (decide_eq_false (fun e => h (by rw [e]))).symm⟩
  have hn : ((a.map D.str).length : Int) = ((b.map D.str).length : Int) := by simpa using h
  rw [List.length_map, List.length_map] at hn
  have hn : a.length = b.length := by omega
  conv => whnf
  refine ⟨[], ?_⟩
  conv => whnf
  refine loop_at (σ := Nat) (fun i => Env.setT 13 (.int .i64 (i : Int))) (fun i => a.length - i) (fun i => i ≤ a.length ∧ ∀ j, j < i → a[j]? = b[j]?) 0 ⟨Nat.zero_le _, fun j hj => absurd hj (Nat.not_lt_zero j)⟩ rfl ?_
  rintro i ⟨hi, hpre⟩ ih
  conv => whnf
  refine ifB_intro (fun h => ?_) (fun h => ?_)
  · have h : (i : Int) < ((a.map D.str).length : Int) := of_decide_eq_true h
    rw [List.length_map] at h
    have hia : i < a.length := by omega
    have hib : i < b.length := by omega
    obtain ⟨x, hx⟩ : ∃ x, a[i]? = some x := ⟨_, List.getElem?_eq_getElem hia⟩
    obtain ⟨y, hy⟩ : ∃ y, b[i]? = some y := ⟨_, List.getElem?_eq_getElem hib⟩
    have hw : IntKind.i64.wrap ((i : Int) + 1) = ((i + 1 : Nat) : Int) := by rw [IntKind.wrap_i64]; omega
    conv => whnf
    refine ⟨rfl, ?_⟩
    conv => whnf
    refine sideB_intro (fun _ => decide_eq_true (by simp only [List.length_map]; omega)) ?_
    rw [getD_enc (enc := D.str) (x := x) (show a[(i : Int).toNat]? = some x from hx)]
    conv => whnf
    refine sideB_intro (fun _ => decide_eq_true (by simp only [List.length_map]; omega)) ?_
    rw [getD_enc (enc := D.str) (x := y) (show b[(i : Int).toNat]? = some y from hy)]
    conv => whnf
    refine ifB_intro (fun he => ?_) (fun he => ?_)
    · have he : x ≠ y := by simpa using he
      conv => whnf
      exact ⟨rfl, congrArg D.bool (decide_eq_false (ne_of_get hx hy he)).symm⟩
    · have he : x = y := by simpa using he
      subst he
      conv => whnf
      rw [hw]
      refine ih (i + 1) ⟨by omega, fun j hj => ?_⟩ (by omega)
      rcases Nat.lt_or_ge j i with hlt | hge
      · exact hpre j hlt
      · rw [show j = i from by omega, hx, hy]
  · conv => whnf
    have h : ¬ ((i : Int) < ((a.map D.str).length : Int)) := of_decide_eq_false h
    rw [List.length_map] at h
    exact ⟨rfl, congrArg D.bool (decide_eq_true (eq_of_get hn fun j hj => hpre j (by omega))).symm⟩
theorem call43 (a b : List S8) (ha : a.length ≤ 1000000 ∨ b.length ≤ 1000000) : CallsTo Try.prog 43 [.sl 0 1 (a.map D.str), .sl 0 1 (b.map D.str)] (.bool (decide (a = b))) := calls Try.func43 rfl (by decide) (run43 a b ha)
theorem run23 (a b : List S8) (ha : a.length ≤ 1000000) : Runs Try.prog T 26 (Try.f23.body.getD .skip) Try.f23.results.toList [.sl 0 1 (a.map D.str), .sl 0 1 (b.map D.str)] (.bool (decide (a = b))) := by
  refine ⟨Nat.le_of_ble_eq_true rfl, ?_⟩
  conv => whnf
  refine ifB_intro (fun h => ?_) (fun h => ?_)
  · conv => whnf
    have h : ((a.map D.str).length : Int) ≠ ((b.map D.str).length : Int) := by simpa using h
    rw [List.length_map, List.length_map] at h
    exact ⟨rfl, congrArg D.bool (decide_eq_false (fun e => h (by rw [e]))).symm⟩
  have hn : ((a.map D.str).length : Int) = ((b.map D.str).length : Int) := by simpa using h
  rw [List.length_map, List.length_map] at hn
  have hn : a.length = b.length := by omega
  conv => whnf
  refine ⟨[], ?_⟩
  conv => whnf
  refine loop_at (σ := Nat) (fun i => Env.setT 5 (.int .i64 (i : Int))) (fun i => a.length - i) (fun i => i ≤ a.length ∧ ∀ j, j < i → a[j]? = b[j]?) 0 ⟨Nat.zero_le _, fun j hj => absurd hj (Nat.not_lt_zero j)⟩ rfl ?_
  rintro i ⟨hi, hpre⟩ ih
  conv => whnf
  refine ifB_intro (fun h => ?_) (fun h => ?_)
  · have h : (i : Int) < ((a.map D.str).length : Int) := of_decide_eq_true h
    rw [List.length_map] at h
    have hia : i < a.length := by omega
    have hib : i < b.length := by omega
    obtain ⟨x, hx⟩ : ∃ x, a[i]? = some x := ⟨_, List.getElem?_eq_getElem hia⟩
    obtain ⟨y, hy⟩ : ∃ y, b[i]? = some y := ⟨_, List.getElem?_eq_getElem hib⟩
    have hw : IntKind.i64.wrap ((i : Int) + 1) = ((i + 1 : Nat) : Int) := by rw [IntKind.wrap_i64]; omega
    conv => whnf
    refine ⟨rfl, ?_⟩
    conv => whnf
    refine sideB_intro (fun _ => decide_eq_true (by simp only [List.length_map]; omega)) ?_
    rw [getD_enc (enc := D.str) (x := x) (show a[(i : Int).toNat]? = some x from hx)]
    conv => whnf
    refine sideB_intro (fun _ => decide_eq_true (by simp only [List.length_map]; omega)) ?_
    rw [getD_enc (enc := D.str) (x := y) (show b[(i : Int).toNat]? = some y from hy)]
    conv => whnf
    refine ifB_intro (fun he => ?_) (fun he => ?_)
    · have he : x ≠ y := by simpa using he
      conv => whnf
      exact ⟨rfl, congrArg D.bool (decide_eq_false (ne_of_get hx hy he)).symm⟩
    · have he : x = y := by simpa using he
      subst he
      conv => whnf
      rw [hw]
      refine ih (i + 1) ⟨by omega, fun j hj => ?_⟩ (by omega)
      rcases Nat.lt_or_ge j i with hlt | hge
      · exact hpre j hlt
      · rw [show j = i from by omega, hx, hy]
  · conv => whnf
    have h : ¬ ((i : Int) < ((a.map D.str).length : Int)) := of_decide_eq_false h
    rw [List.length_map] at h
    exact ⟨rfl, congrArg D.bool (decide_eq_true (eq_of_get hn fun j hj => hpre j (by omega))).symm⟩
theorem call23 (a b : List S8) (ha : a.length ≤ 1000000) : CallsTo Try.prog 23 [.sl 0 1 (a.map D.str), .sl 0 1 (b.map D.str)] (.bool (decide (a = b))) := calls Try.func23 rfl (by decide) (run23 a b ha)
instance : DecidableEq Ext := fun a b => decidable_of_iff (a.key = b.key ∧ a.subs = b.subs) (by cases a; cases b; simp)
instance : DecidableEq Kws := fun a b => decidable_of_iff (a.attrs = b.attrs ∧ a.keys = b.keys) (by cases a; cases b; simp)
def Kws.small (k : Kws) : Prop := k.attrs.length ≤ 1000000 ∧ k.keys.length ≤ 1000000 ∧ ∀ e ∈ k.keys, e.subs.length ≤ 1000000
theorem run36 (a b : List Ext) (ha : a.length ≤ 1000000) (hs : ∀ e ∈ a, e.subs.length ≤ 1000000) : Runs Try.prog T 44 (Try.f36.body.getD .skip) Try.f36.results.toList [.sl 0 2 (a.map Ext.d), .sl 0 2 (b.map Ext.d)] (.bool (decide (a = b))) := by
  refine ⟨Nat.le_of_ble_eq_true rfl, ?_⟩
  conv => whnf
  refine ifB_intro (fun h => ?_) (fun h => ?_)
  · conv => whnf
    have h : ((a.map Ext.d).length : Int) ≠ ((b.map Ext.d).length : Int) := by simpa using h
    rw [List.length_map, List.length_map] at h
    exact ⟨rfl, congrArg D.bool (decide_eq_false (fun e => h (by rw [e]))).symm⟩
  have hn : ((a.map Ext.d).length : Int) = ((b.map Ext.d).length : Int) := by simpa using h
  rw [List.length_map, List.length_map] at hn
  have hn : a.length = b.length := by omega
  conv => whnf
  refine ⟨[], ?_⟩
  conv => whnf
  refine loop_at (σ := Nat) (fun i => Env.setT 5 (.int .i64 (i : Int))) (fun i => a.length - i) (fun i => i ≤ a.length ∧ ∀ j, j < i → a[j]? = b[j]?) 0 ⟨Nat.zero_le _, fun j hj => absurd hj (Nat.not_lt_zero j)⟩ rfl ?_
  rintro i ⟨hi, hpre⟩ ih
  conv => whnf
  refine ifB_intro (fun h => ?_) (fun h => ?_)
  · have h : (i : Int) < ((a.map Ext.d).length : Int) := of_decide_eq_true h
    rw [List.length_map] at h
    have hia : i < a.length := by omega
    have hib : i < b.length := by omega
    obtain ⟨x, hx⟩ : ∃ x, a[i]? = some x := ⟨_, List.getElem?_eq_getElem hia⟩
    obtain ⟨y, hy⟩ : ∃ y, b[i]? = some y := ⟨_, List.getElem?_eq_getElem hib⟩
    have hw : IntKind.i64.wrap ((i : Int) + 1) = ((i + 1 : Nat) : Int) := by rw [IntKind.wrap_i64]; omega
    conv => whnf
    refine ⟨rfl, ?_⟩
    conv => whnf
    refine sideB_intro (fun _ => decide_eq_true (by simp only [List.length_map]; omega)) ?_
    rw [getD_enc (enc := Ext.d) (x := x) (show a[(i : Int).toNat]? = some x from hx)]
    conv => whnf
    refine sideB_intro (fun _ => decide_eq_true (by simp only [List.length_map]; omega)) ?_
    rw [getD_enc (enc := Ext.d) (x := y) (show b[(i : Int).toNat]? = some y from hy)]
    conv => whnf
    refine ⟨_, fun _ => call23 x.subs y.subs (hs x (List.mem_of_getElem? hx)), ?_⟩
    conv => whnf
    refine ⟨rfl, ?_⟩
    conv => whnf
    refine sideB_intro (fun _ => decide_eq_true (by simp only [List.length_map]; omega)) ?_
    rw [getD_enc (enc := Ext.d) (x := x) (show a[(i : Int).toNat]? = some x from hx)]
    conv => whnf
    refine sideB_intro (fun _ => decide_eq_true (by simp only [List.length_map]; omega)) ?_
    rw [getD_enc (enc := Ext.d) (x := y) (show b[(i : Int).toNat]? = some y from hy)]
    conv => whnf
    have hxy : (bif !decide (x.subs = y.subs) then true else !(x.key == y.key)) = !decide (x = y) := by
      by_cases h1 : x.subs = y.subs
      · by_cases h2 : x.key = y.key
        · have : x = y := by cases x; cases y; simp_all
          simp [this]
        · have : x ≠ y := fun e => h2 (by rw [e])
          simp [h1, h2, this]
      · have : x ≠ y := fun e => h1 (by rw [e])
        simp [h1, this]
    refine ifB_intro (fun he => ?_) (fun he => ?_)
    · have he : (bif !decide (x.subs = y.subs) then true else !(x.key == y.key)) = true := he
      rw [hxy] at he
      have he : x ≠ y := by simpa using he
      conv => whnf
      exact ⟨rfl, congrArg D.bool (decide_eq_false (ne_of_get hx hy he)).symm⟩
    · have he : (bif !decide (x.subs = y.subs) then true else !(x.key == y.key)) = false := he
      rw [hxy] at he
      have he : x = y := by simpa using he
      subst he
      conv => whnf
      rw [hw]
      refine ih (i + 1) ⟨by omega, fun j hj => ?_⟩ (by omega)
      rcases Nat.lt_or_ge j i with hlt | hge
      · exact hpre j hlt
      · rw [show j = i from by omega, hx, hy]
  · conv => whnf
    have h : ¬ ((i : Int) < ((a.map Ext.d).length : Int)) := of_decide_eq_false h
    rw [List.length_map] at h
    exact ⟨rfl, congrArg D.bool (decide_eq_true (eq_of_get hn fun j hj => hpre j (by omega))).symm⟩
theorem call36 (a b : List Ext) (ha : a.length ≤ 1000000) (hs : ∀ e ∈ a, e.subs.length ≤ 1000000) : CallsTo Try.prog 36 [.sl 0 2 (a.map Ext.d), .sl 0 2 (b.map Ext.d)] (.bool (decide (a = b))) := calls Try.func36 rfl (by decide) (run36 a b ha hs)
theorem run20 (a b : Kws) (ha : a.small) : Runs Try.prog T 21 (Try.f20.body.getD .skip) Try.f20.results.toList [a.d, b.d] (.bool (decide (a = b))) := by
  refine ⟨Nat.le_of_ble_eq_true rfl, ?_⟩
  conv => whnf
  refine ⟨_, fun _ => call23 a.attrs b.attrs ha.1, ?_⟩
  conv => whnf
  refine ⟨_, fun _ => call36 a.keys b.keys ha.2.1 ha.2.2, ?_⟩
  conv => whnf
  have : (bif decide (a.attrs = b.attrs) then decide (a.keys = b.keys) else false) = decide (a = b) := by
    by_cases h1 : a.attrs = b.attrs
    · by_cases h2 : a.keys = b.keys
      · have : a = b := by cases a; cases b; simp_all
        simp [this]
      · have : a ≠ b := fun e => h2 (by rw [e])
        simp [h1, h2, this]
    · have : a ≠ b := fun e => h1 (by rw [e])
      simp [h1, this]
  exact ⟨rfl, congrArg D.bool this⟩
theorem call20 (a b : Kws) (ha : a.small) : CallsTo Try.prog 20 [a.d, b.d] (.bool (decide (a = b))) := calls Try.func20 rfl (by decide) (run20 a b ha)
end Go.Proofs.Ytbfgendaafediaa.Fw

/- Reading of keywords. -/
namespace Go.Proofs.Ytbfgendaafediaa.Fw
open Go Go.RowKit
set_option maxRecDepth 100000
set_option maxHeartbeats 4000000

/-- It is no key. -/
def nk (s : S8) : Bool := !decide (s.length = 2)
def upN (l : List S8) : Nat := (l.takeWhile nk).length
theorem upN_le (l : List S8) : upN l ≤ l.length := by
  induction l with
  | nil => exact Nat.le_refl _
  | cons x l ih =>
    unfold upN at *
    rw [List.takeWhile_cons]
    split
    · simp only [List.length_cons]; omega
    · simp
theorem take_upN (l : List S8) : l.take (upN l) = l.takeWhile nk := by
  induction l with
  | nil => rfl
  | cons x l ih =>
    unfold upN at *
    rw [List.takeWhile_cons]
    split
    · simp [ih]
    · simp
theorem drop_upN (l : List S8) : l.drop (upN l) = l.dropWhile nk := by
  induction l with
  | nil => rfl
  | cons x l ih =>
    unfold upN at *
    rw [List.takeWhile_cons, List.dropWhile_cons]
    split
    · simp [ih]
    · simp
theorem upN_at {l : List S8} {i : Nat} {x : S8} (h : ∀ j y, j < i → l[j]? = some y → nk y = true) (hx : l[i]? = some x) (hn : nk x = false) : upN l = i := by
  induction l generalizing i with
  | nil => simp at hx
  | cons y l ih =>
    unfold upN at *
    cases i with
    | zero =>
      simp only [List.getElem?_cons_zero, Option.some.injEq] at hx; subst hx
      rw [List.takeWhile_cons, hn]; rfl
    | succ i =>
      have hy := h 0 y (by omega) rfl
      rw [List.takeWhile_cons, if_pos hy, List.length_cons, ih (i := i) (fun j z hj hz => h (j + 1) z (by omega) (by simpa using hz)) (by simpa using hx)]
theorem upN_all {l : List S8} (h : ∀ j y, j < l.length → l[j]? = some y → nk y = true) : upN l = l.length := by
  induction l with
  | nil => rfl
  | cons y l ih =>
    unfold upN at *
    have hy := h 0 y (by simp) rfl
    rw [List.takeWhile_cons, if_pos hy, List.length_cons, List.length_cons, ih fun j z hj hz => h (j + 1) z (by simpa using hj) (by simpa using hz)]
theorem sliceD_at {α : Type} {l : List α} (i : Nat) : sliceD l (Int.toNat (i : Int)) (Int.toNat (l.length : Int)) = l.drop i := by
  simp [sliceD]
theorem run64 (l : List S8) (hl : l.length ≤ 1000000) : Runs Try.prog T 19 (Try.f64.body.getD .skip) Try.f64.results.toList [.sl 0 1 (l.map D.str), .fn 65 []] (.int .i64 (if upN l < l.length then (upN l : Int) else -1)) := by
  refine ⟨Nat.le_of_ble_eq_true rfl, ?_⟩
  conv => whnf
  refine ⟨[], ?_⟩
  conv => whnf
  refine loop_at (σ := Nat) (fun i => Env.setT 8 (.int .i64 (i : Int))) (fun i => l.length - i) (fun i => i ≤ l.length ∧ ∀ j y, j < i → l[j]? = some y → nk y = true) 0 ⟨Nat.zero_le _, fun j y hj => absurd hj (Nat.not_lt_zero j)⟩ rfl ?_
  rintro i ⟨hi, hpre⟩ ih
  conv => whnf
  refine ifB_intro (fun h => ?_) (fun h => ?_)
  · have h : (i : Int) < ((l.map D.str).length : Int) := of_decide_eq_true h
    rw [List.length_map] at h
    have hlt : i < l.length := by omega
    obtain ⟨x, hx⟩ : ∃ x, l[i]? = some x := ⟨_, List.getElem?_eq_getElem hlt⟩
    have hw : IntKind.i64.wrap ((i : Int) + 1) = ((i + 1 : Nat) : Int) := by rw [IntKind.wrap_i64]; omega
    conv => whnf
    refine sideB_intro (fun _ => decide_eq_true (by simp only [List.length_map]; omega)) ?_
    rw [getD_enc (enc := D.str) (x := x) (show l[(i : Int).toNat]? = some x from hx)]
    conv => whnf
    refine ⟨_, fun _ => call65 x, ?_⟩
    conv => whnf
    refine ifB_intro (fun hb => ?_) (fun hb => ?_)
    · have hb : ((x.length : Int) == 2) = true := hb
      have hn : nk x = false := by simp at hb; simp [nk]; omega
      have hu := upN_at hpre hx hn
      conv => whnf
      exact ⟨rfl, congrArg (D.int .i64) (by rw [hu, if_pos hlt])⟩
    · have hb : ((x.length : Int) == 2) = false := hb
      have hn : nk x = true := by simp at hb; simp [nk]; omega
      conv => whnf
      rw [hw]
      refine ih (i + 1) ⟨by omega, fun j y hj hy => ?_⟩ (by omega)
      rcases Nat.lt_or_ge j i with hlt | hge
      · exact hpre j y hlt hy
      · rw [show j = i from by omega, hx] at hy; cases hy; exact hn
  · have h : ¬ ((i : Int) < ((l.map D.str).length : Int)) := of_decide_eq_false h
    rw [List.length_map] at h
    conv => whnf
    have hu : upN l = l.length := upN_all fun j y hj hy => hpre j y (by omega) hy
    exact ⟨rfl, congrArg (D.int .i64) (by rw [hu, if_neg (Nat.lt_irrefl _)])⟩
theorem call64 (l : List S8) (hl : l.length ≤ 1000000) : CallsTo Try.prog 64 [.sl 0 1 (l.map D.str), .fn 65 []] (.int .i64 (if upN l < l.length then (upN l : Int) else -1)) := calls Try.func64 rfl (by decide) (run64 l hl)
theorem run37 (l : List S8) (hl : l.length ≤ 1000000) : Runs Try.prog T 18 (Try.f37.body.getD .skip) Try.f37.results.toList [.sl 0 1 (l.map D.str)] (.tup [.sl 0 1 ((l.takeWhile nk).map D.str), .sl 0 1 ((l.dropWhile nk).map D.str)]) := by
  refine ⟨Nat.le_of_ble_eq_true rfl, ?_⟩
  conv => whnf
  have hc := call64 l hl
  have hle := upN_le l
  by_cases hu : upN l < l.length
  · rw [if_pos hu] at hc
    refine ⟨_, fun _ => hc, ?_⟩
    conv => whnf
    refine ⟨rfl, ?_⟩
    conv => whnf
    refine sideB_intro (fun _ => decide_eq_true ?_) ?_
    · rw [List.length_map]; omega
    conv => whnf
    refine sideB_intro (fun _ => decide_eq_true ?_) ?_
    · rw [List.length_map]; omega
    conv => whnf
    have e1 : sliceD (l.map D.str) (Int.toNat 0) (Int.toNat (upN l : Int)) = (l.takeWhile nk).map D.str := by
      rw [← take_upN, List.map_take]; simp [sliceD]
    have e2 : sliceD (l.map D.str) (Int.toNat (upN l : Int)) (Int.toNat ((l.map D.str).length : Int)) = (l.dropWhile nk).map D.str := by
      rw [← drop_upN, List.map_drop]; exact sliceD_at _
    rw [← e1, ← e2]
    exact ⟨rfl, rfl⟩
  · rw [if_neg hu] at hc
    refine ⟨_, fun _ => hc, ?_⟩
    conv => whnf
    refine ⟨rfl, ?_⟩
    conv => whnf
    refine sideB_intro (fun _ => decide_eq_true ?_) ?_
    · rw [List.length_map]; omega
    conv => whnf
    refine sideB_intro (fun _ => decide_eq_true ?_) ?_
    · rw [List.length_map]; omega
    conv => whnf
    have hul : upN l = l.length := by omega
    have e1 : sliceD (l.map D.str) (Int.toNat 0) (Int.toNat ((l.map D.str).length : Int)) = (l.takeWhile nk).map D.str := by
      rw [← take_upN, List.map_take, hul]; simp [sliceD]
    have e2 : sliceD (l.map D.str) (Int.toNat ((l.map D.str).length : Int)) (Int.toNat ((l.map D.str).length : Int)) = (l.dropWhile nk).map D.str := by
      rw [← drop_upN, List.map_drop, hul]; simp [sliceD]
    rw [← e1, ← e2]
    exact ⟨rfl, rfl⟩
theorem call37 (l : List S8) (hl : l.length ≤ 1000000) : CallsTo Try.prog 37 [.sl 0 1 (l.map D.str)] (.tup [.sl 0 1 ((l.takeWhile nk).map D.str), .sl 0 1 ((l.dropWhile nk).map D.str)]) := calls Try.func37 rfl (by decide) (run37 l hl)
theorem run38 (l : List S8) (hl : l.length ≤ 1000000) (hs : ∀ s ∈ l, s.length ≤ 1000000) : Runs Try.prog T 19 (Try.f38.body.getD .skip) Try.f38.results.toList [.sl 0 1 (l.map D.str)] (.sl 0 1 ((l.map low).map D.str)) := by
  refine ⟨Nat.le_of_ble_eq_true rfl, ?_⟩
  conv => whnf
  refine ⟨[.nilT 3 9 1], ?_⟩
  conv => whnf
  refine loop_at (σ := Nat) (fun i env => (env.setT 8 (.int .i64 (i : Int))).setT 3 (.sl 2 1 (((l.take i).map low).map D.str))) (fun i => l.length - i) (fun i => i ≤ l.length) 0 (Nat.zero_le _) rfl ?_
  rintro i hi ih
  conv => whnf
  refine ifB_intro (fun h => ?_) (fun h => ?_)
  · have h : (i : Int) < ((l.map D.str).length : Int) := of_decide_eq_true h
    rw [List.length_map] at h
    have hlt : i < l.length := by omega
    obtain ⟨x, hx⟩ : ∃ x, l[i]? = some x := ⟨_, List.getElem?_eq_getElem hlt⟩
    have hw : IntKind.i64.wrap ((i : Int) + 1) = ((i + 1 : Nat) : Int) := by rw [IntKind.wrap_i64]; omega
    conv => whnf
    refine sideB_intro (fun _ => decide_eq_true (by simp only [List.length_map]; omega)) ?_
    rw [getD_enc (enc := D.str) (x := x) (show l[(i : Int).toNat]? = some x from hx)]
    conv => whnf
    refine ⟨_, fun _ => call49 x (hs x (List.mem_of_getElem? hx)), ?_⟩
    conv => whnf
    refine sideB_intro (fun _ => ?_) ?_
    · simp; omega
    conv => whnf
    rw [hw]
    have ih' := ih (i + 1) hlt (by omega)
    rw [List.take_add_one, hx, Option.toList_some, List.map_append, List.map_append] at ih'
    exact ih'
  · have h : ¬ ((i : Int) < ((l.map D.str).length : Int)) := of_decide_eq_false h
    rw [List.length_map] at h
    conv => whnf
    rw [List.take_of_length_le (by omega)]
    exact ⟨rfl, rfl⟩
theorem call38 (l : List S8) (hl : l.length ≤ 1000000) (hs : ∀ s ∈ l, s.length ≤ 1000000) : CallsTo Try.prog 38 [.sl 0 1 (l.map D.str)] (.sl 0 1 ((l.map low).map D.str)) := calls Try.func38 rfl (by decide) (run38 l hl hs)
/-- Keys, with what comes behind each. -/
def keysOfL : Nat → List S8 → List Ext
  | 0, _ => []
  | _, [] => []
  | n + 1, k :: r => ⟨k, r.takeWhile nk⟩ :: keysOfL n (r.dropWhile nk)
def readK (l : List S8) : List Ext := keysOfL l.length l
theorem keysOfL_eq : ∀ {n m : Nat} {l : List S8}, l.length ≤ n → l.length ≤ m → keysOfL n l = keysOfL m l
  | 0, m, l, h, _ => by
    rw [List.eq_nil_of_length_eq_zero (by omega : l.length = 0)]
    cases m <;> rfl
  | n + 1, 0, l, _, h => by
    rw [List.eq_nil_of_length_eq_zero (by omega : l.length = 0)]; rfl
  | n + 1, m + 1, [], _, _ => rfl
  | n + 1, m + 1, k :: r, h, h' => by
    have := (List.dropWhile_suffix nk (l := r)).length_le
    simp only [List.length_cons] at h h'
    rw [keysOfL, keysOfL, keysOfL_eq (n := n) (m := m) (by omega) (by omega)]
theorem readK_nil : readK [] = [] := rfl
theorem readK_cons (k : S8) (r : List S8) : readK (k :: r) = ⟨k, r.takeWhile nk⟩ :: readK (r.dropWhile nk) := by
  unfold readK
  have := (List.dropWhile_suffix nk (l := r)).length_le
  rw [List.length_cons, keysOfL, keysOfL_eq (n := r.length) (m := (r.dropWhile nk).length) this (Nat.le_refl _)]
theorem readK_len : ∀ (n : Nat) (l : List S8), l.length ≤ n → (readK l).length ≤ l.length
  | 0, l, h => by rw [List.eq_nil_of_length_eq_zero (by omega : l.length = 0)]; exact Nat.le_refl _
  | n + 1, [], _ => Nat.le_refl _
  | n + 1, k :: r, h => by
    have := (List.dropWhile_suffix nk (l := r)).length_le
    simp only [List.length_cons] at h
    have ih := readK_len n (r.dropWhile nk) (by omega)
    rw [readK_cons]; simp only [List.length_cons]; omega
def readS (l : List S8) : Kws := ⟨(l.map low).takeWhile nk, readK ((l.map low).dropWhile nk)⟩
theorem run21 (l : List S8) (hl : l.length ≤ 1000000) (hs : ∀ s ∈ l, s.length ≤ 1000000) : Runs Try.prog T 34 (Try.f21.body.getD .skip) Try.f21.results.toList [.sl 0 1 (l.map D.str)] ((readS l).d) := by
  refine ⟨Nat.le_of_ble_eq_true rfl, ?_⟩
  conv => whnf
  refine ⟨_, fun _ => call38 l hl hs, ?_⟩
  conv => whnf
  refine ⟨_, fun _ => call37 (l.map low) (by rw [List.length_map]; exact hl), ?_⟩
  conv => whnf
  refine ⟨[.nilB 3 1 47 2], ?_⟩
  conv => whnf
  have hl0 : ((l.map low).dropWhile nk).length ≤ 1000000 := Nat.le_trans (List.dropWhile_suffix nk).length_le (by rw [List.length_map]; exact hl)
  unfold readS
  generalize (l.map low).takeWhile nk = A
  revert hl0
  generalize (l.map low).dropWhile nk = R0
  intro hl0
  refine loop_at (σ := List Ext × List S8) (fun q env => (env.setT 4 (.sl 0 1 (q.2.map D.str))).setC1 3 1 (.sl 2 2 (q.1.map Ext.d))) (fun q => (readK q.2).length) (fun q => q.1 ++ readK q.2 = readK R0 ∧ q.1.length + q.2.length ≤ 1000000) ([], R0) ⟨rfl, by simpa using hl0⟩ rfl ?_
  rintro ⟨K, R⟩ ⟨hK, hlen⟩ ih
  replace hK : K ++ readK R = readK R0 := hK
  replace hlen : K.length + R.length ≤ 1000000 := hlen
  cases R with
  | nil =>
    conv => whnf
    have hK' : readK R0 = K := by rw [← hK, readK_nil, List.append_nil]
    rw [hK']
    exact ⟨rfl, rfl⟩
  | cons k r =>
    simp only [List.length_cons] at hlen
    have e1 : sliceD (((k :: r)).map D.str) (Int.toNat 1) (Int.toNat (((k :: r).map D.str).length : Int)) = r.map D.str := by
      rw [show (1 : Int) = ((1 : Nat) : Int) from rfl, sliceD_at]; rfl
    have hlc : ((k :: r).map D.str).length = r.length + 1 := by simp
    rw [readK_cons] at hK
    conv => whnf
    refine ifB_intro (fun _ => ?_) (fun h => ?_)
    · conv => whnf
      refine sideB_intro (fun _ => decide_eq_true ?_) ?_
      · show 0 ≤ (0 : Int) ∧ (0 : Int) < (((k :: r).map D.str).length : Int)
        rw [hlc]; omega
      conv => whnf
      refine sideB_intro (fun _ => decide_eq_true ?_) ?_
      · show (0 : Int) ≤ 1 ∧ (1 : Int) ≤ (((k :: r).map D.str).length : Int) ∧ (((k :: r).map D.str).length : Int) ≤ (((k :: r).map D.str).length : Int) ∧ (((k :: r).map D.str).length : Int) ≤ (((k :: r).map D.str).length : Int)
        rw [hlc]; omega
      rw [e1]
      conv => whnf
      refine ⟨_, fun _ => call37 r (by omega), ?_⟩
      conv => whnf
      refine sideB_intro (fun _ => ?_) ?_
      · simp; omega
      conv => whnf
      have hdl := (List.dropWhile_suffix nk (l := r)).length_le
      have ih' := ih (K ++ [⟨k, r.takeWhile nk⟩], r.dropWhile nk) ⟨by rw [List.append_assoc]; exact hK, by simp only [List.length_append, List.length_singleton]; omega⟩ (by simp only [readK_cons, List.length_cons])
      rw [List.map_append] at ih'
      exact ih'
    · exfalso
      have h : decide ((0 : Int) < (((k :: r).map D.str).length : Int)) = false := h
      rw [hlc] at h
      have := of_decide_eq_false h
      omega
theorem call21 (l : List S8) (hl : l.length ≤ 1000000) (hs : ∀ s ∈ l, s.length ≤ 1000000) : CallsTo Try.prog 21 [.sl 0 1 (l.map D.str)] ((readS l).d) := calls Try.func21 rfl (by decide) (run21 l hl hs)
end Go.Proofs.Ytbfgendaafediaa.Fw

/- Sorting of rows by insertion. -/
namespace Go.Proofs.Ytbfgendaafediaa.Fw
open Go Go.RowKit
set_option maxRecDepth 100000
set_option maxHeartbeats 4000000

section
variable {α : Type} (lt : α → α → Bool)
/-- An element goes down as long as it is ahead of the one below it. -/
def sift : Nat → List α → List α
  | 0, L => L
  | j + 1, L => match L[j + 1]?, L[j]? with
    | some a, some b => bif lt a b then sift j ((L.set (j + 1) b).set j a) else L
    | _, _ => L
def sortTo (L : List α) : Nat → List α
  | 0 => L
  | i + 1 => sift lt i (sortTo L i)
theorem sift_length : ∀ (j : Nat) (L : List α), (sift lt j L).length = L.length
  | 0, L => rfl
  | j + 1, L => by
    unfold sift
    split
    · rename_i a b _ _
      cases lt a b
      · rfl
      · rw [cond_true, sift_length j]; simp
    · rfl
theorem sortTo_length (L : List α) : ∀ i, (sortTo lt L i).length = L.length
  | 0 => rfl
  | i + 1 => by rw [sortTo, sift_length, sortTo_length L i]
def isort (L : List α) : List α := sortTo lt L L.length
end

abbrev hS : List (Nat × Nat) := [(1000000, rowMark)]
def hR (u es : Nat) (xs : List D) : List (Nat × RowC) := [(1000000, ⟨u, es, xs, false⟩)]
theorem run82 (l : List S8) (hl : l.length ≤ 1000000) : RunsR Try.prog T 49 (Try.f82.body.getD .skip) Try.f82.results.toList ([]) (hS) (hR 9 1 (l.map D.str)) [.rsl 1000000 1 0 l.length, .int .i64 0, .int .i64 l.length] (fun d bx rw => d = .tup [] ∧ bx = [] ∧ rw = hR 9 1 ((isort lt8 l).map D.str)) (hS) := by
  refine ⟨Nat.le_of_ble_eq_true rfl, rfl, ?_⟩
  conv => whnf
  refine ⟨[], ?_⟩
  conv => whnf
  refine loop_at (σ := Nat) (fun i env => (env.setT 6 (.int .i64 ((i + 1 : Nat) : Int))).setX 1000000 ((sortTo lt8 l (i + 1)).map D.str)) (fun i => l.length - i) (fun i => i + 1 ≤ l.length ∨ i = 0) 0 (.inr rfl) rfl ?_
  rintro i hi ih
  conv => whnf
  refine ifB_intro (fun h => ?_) (fun h => ?_)
  · have h : ((i + 1 : Nat) : Int) < (l.length : Int) := of_decide_eq_true h
    have hlt : i + 1 < l.length := by omega
    have hw : IntKind.i64.wrap (((i + 1 : Nat) : Int) + 1) = ((i + 1 + 1 : Nat) : Int) := by rw [IntKind.wrap_i64]; omega
    have ih' := ih (i + 1) (.inl hlt) (by omega)
    have hlen := sortTo_length lt8 l (i + 1)
    rw [sortTo] at ih'
    revert ih' hlen
    generalize sortTo lt8 l (i + 1) = L0
    intro ih' hlen
    conv => whnf
    refine ⟨[], ?_⟩
    conv => whnf
    refine loop_at (σ := Nat × List S8) (fun q env => (env.setT 7 (.int .i64 (q.1 : Int))).setX 1000000 (q.2.map D.str)) (fun q => q.1 + (l.length - l.length)) (fun q => q.1 ≤ i + 1 ∧ q.2.length = l.length ∧ sift lt8 q.1 q.2 = sift lt8 (i + 1) L0) (i + 1, L0) ⟨Nat.le_refl _, hlen, rfl⟩ rfl ?_
    rintro ⟨j, M⟩ ⟨hj, hM, hs⟩ ih2
    replace hj : j ≤ i + 1 := hj
    replace hM : M.length = l.length := hM
    replace hs : sift lt8 j M = sift lt8 (i + 1) L0 := hs
    have hjl : j < M.length := by omega
    have hj1 : j - 1 < M.length := by omega
    obtain ⟨x, hx⟩ : ∃ x, M[j]? = some x := ⟨_, List.getElem?_eq_getElem hjl⟩
    obtain ⟨y, hy⟩ : ∃ y, M[j - 1]? = some y := ⟨_, List.getElem?_eq_getElem hj1⟩
    have hk := zero_toNat j
    have hk1 : 0 + Int.toNat (IntKind.i64.wrap ((j : Int) - 1)) = j - 1 := by rw [IntKind.wrap_i64]; omega
    conv => whnf
    refine ⟨rfl, ?_⟩
    conv => whnf
    refine sideB_intro (fun _ => decide_eq_true (by dsimp only; omega)) ?_
    conv => whnf
    refine fD_of (getD_enc (enc := D.str) (x := x) (by dsimp only; rw [hk]; exact hx)) ?_
    conv => whnf
    refine sideB_intro (fun _ => blt_of (by simp only [List.length_map]; omega)) ?_
    conv => whnf
    refine sideB_intro (fun hg => ?_) ?_
    · have hg : decide ((0 : Int) < (j : Int)) = true := hg
      have hg := of_decide_eq_true hg
      exact decide_eq_true (by dsimp only; rw [IntKind.wrap_i64]; omega)
    conv => whnf
    refine fD_of (getD_enc (enc := D.str) (x := y) (by dsimp only; rw [hk1]; exact hy)) ?_
    conv => whnf
    refine sideB_intro (fun _ => blt_of (by simp only [List.length_map]; omega)) ?_
    conv => whnf
    refine ⟨_, fun _ => call88 x y, ?_⟩
    conv => whnf
    refine ifB_intro (fun hb => ?_) (fun hb => ?_)
    · have hb : 0 < j ∧ lt8 x y = true := by
        have hb : (bif decide ((0 : Int) < (j : Int)) then lt8 x y else false) = true := hb
        by_cases h0 : (0 : Int) < (j : Int)
        · rw [decide_eq_true h0, cond_true] at hb; exact ⟨by omega, hb⟩
        · rw [decide_eq_false h0] at hb; cases hb
      obtain ⟨j, rfl⟩ : ∃ k, j = k + 1 := ⟨j - 1, by omega⟩
      have hsw : sift lt8 (j + 1) M = sift lt8 j ((M.set (j + 1) y).set j x) := by
        rw [sift, hx, show M[j]? = some y from hy]
        simp only [hb.2, cond_true]
      have ih3 := ih2 (j, (M.set (j + 1) y).set j x) ⟨by show j ≤ i + 1; omega, by simp [hM], hsw.symm.trans hs⟩ (by dsimp only; omega)
      have hw2 : IntKind.i64.wrap (((j + 1 : Nat) : Int) - 1) = (j : Int) := by rw [IntKind.wrap_i64]; omega
      have hkj := zero_toNat j
      conv => whnf
      refine ⟨rfl, ?_⟩
      conv => whnf
      refine sideB_intro (fun _ => decide_eq_true (by dsimp only; rw [hw2]; omega)) ?_
      conv => whnf
      refine fD_of (getD_enc (enc := D.str) (x := y) (by dsimp only; rw [hk1]; exact hy)) ?_
      conv => whnf
      refine sideB_intro (fun _ => blt_of (by simp only [List.length_map]; omega)) ?_
      conv => whnf
      refine sideB_intro (fun _ => decide_eq_true (by dsimp only; omega)) ?_
      conv => whnf
      refine fD_of (getD_enc (enc := D.str) (x := x) (by dsimp only; rw [hk]; exact hx)) ?_
      conv => whnf
      refine sideB_intro (fun _ => blt_of (by simp only [List.length_map]; omega)) ?_
      conv => whnf
      refine sideB_intro (fun _ => decide_eq_true (by dsimp only; omega)) ?_
      conv => whnf
      refine sideB_intro (fun _ => blt_of (by simp only [List.length_map]; omega)) ?_
      conv => whnf
      refine sideB_intro (fun _ => decide_eq_true (by dsimp only; rw [hw2]; omega)) ?_
      conv => whnf
      refine sideB_intro (fun _ => blt_of (by simp only [List.length_map, List.length_set]; omega)) ?_
      conv => whnf
      rw [hw2, hkj, hk, set_enc (enc := D.str) (x := y) rfl, set_enc (enc := D.str) (x := x) rfl]
      exact ih3
    · have hb : ¬ (0 < j ∧ lt8 x y = true) := fun ⟨h0, h1⟩ => by
        have hb : (bif decide ((0 : Int) < (j : Int)) then lt8 x y else false) = false := hb
        rw [decide_eq_true (by omega), cond_true, h1] at hb; cases hb
      have he : sift lt8 j M = M := by
        cases j with
        | zero => rfl
        | succ j =>
          rw [sift, hx, show M[j]? = some y from hy]
          have : lt8 x y = false := by
            cases h1 : lt8 x y with
            | false => rfl
            | true => exact absurd ⟨by omega, h1⟩ hb
          simp only [this, cond_false]
      rw [he] at hs
      conv => whnf
      rw [hs, hw]
      exact ih'
  · conv => whnf
    have h : ¬ (((i + 1 : Nat) : Int) < (l.length : Int)) := of_decide_eq_false h
    refine ⟨rfl, rfl, rfl, ?_⟩
    have : sortTo lt8 l (i + 1) = isort lt8 l := by
      rcases hi with hi | rfl
      · rw [isort, show i + 1 = l.length from by omega]
      · rw [isort]
        rcases (show l.length = 0 ∨ l.length = 1 from by omega) with e | e
        · rw [List.eq_nil_of_length_eq_zero e]; rfl
        · rw [e]
    rw [this]; rfl
end Go.Proofs.Ytbfgendaafediaa.Fw

/- Copies of rows, the sorter's front. -/
namespace Go.Proofs.Ytbfgendaafediaa.Fw
open Go Go.RowKit
set_option maxRecDepth 100000
set_option maxHeartbeats 4000000

def Ctx.no (c : Ctx) (k : Nat) : Ctx := { c with σ := fun s => if s = k then none else c.σ s }
theorem memOut_new {c c' : Ctx} {w w' : World} (M : MemOut c c' [] [] [] [] [] [] w w') {k q : Nat} {rw' : List (Nat × RowC)} (hk : k < bigS) (hrow : ∀ st r, look st rw' = some r → RowOK (c'.no k) (memEnv [] [(k, q)] rw') w' st r) : MemOut c (c'.no k) [] [] [] [(k, q)] [] rw' w w' := by
  have hus : ∀ st, (look st [(k, q)]).isSome = true → st = k := fun st h => by
    rw [look_cons] at h
    split at h
    · rename_i e; exact e.symm
    · cases h
  have hσ : ∀ st, (look st [(k, q)]).isSome = true → (c'.no k).σ st = none := fun st h => by rw [hus st h]; simp [Ctx.no]
  exact ⟨⟨fun s b h => (by cases h), fun s s' h => (by cases h), fun s h => (by cases h), fun st st' g h1 h2 h3 => (by rw [hσ st h1] at h3; cases h3), fun st g h1 h3 => (by rw [hσ st h1] at h3; cases h3), M.mem.im, hrow⟩,
    M.keeps, M.os, M.tape, M.output, M.size, M.block, M.imNew, fun s h => (by cases h), fun st g h1 h3 => (by rw [hσ st h1] at h3; cases h3), fun st hb h1 => (by have := hus st h1; omega)⟩
section
variable {P : Program} {f : Nat} {ds : List D} {k u es es0 : Nat}
/-- Nothing, as a row that is changed in place. -/
theorem callsR_row0 (hk2 : 2 ≤ k) (hk : k < bigS) (hes : es ≠ 0) (h : CallsR P f [] [] [] ds (.sl 1 es0 []) [] [] []) : CallsR P f [] [] [] ds (.rsl k es 0 0) [] [(k, rowMark)] [(k, ⟨u, es, [], false⟩)] := by
  refine ⟨h.1, fun c w vs hm hrep => Calls.mono (h.2 c w vs hm hrep) fun e w' he => ?_⟩
  obtain ⟨v, c', e1, M, e2⟩ := he
  have hr : RepC c' (memEnv [] [] []) w' (.sl 1 es0 []) v := e2
  have h1 := repC_one hr
  obtain ⟨_, h2⟩ := hr
  obtain ⟨b, hv⟩ : ∃ b, v = .slice b 0 0 := by
    rcases h2 with h2 | h2 | h2
    · cases h2
    · exact h2.2
    · exact absurd h2.1 (by omega)
  refine ⟨v, c'.no k, e1, memOut_new M hk fun st r hl => ?_, ?_⟩
  · rw [look_cons] at hl
    split at hl
    · rename_i e; subst e; cases hl
      exact ⟨hk2, by simp [memEnv, look_cons], .inr ⟨Nat.pos_of_ne_zero hes, by simp [Ctx.no]⟩⟩
    · cases hl
  · show RepC (c'.no k) (memEnv [] [(k, rowMark)] [(k, ⟨u, es, [], false⟩)]) w' (.rsl k es 0 0) v
    refine ⟨by simp [memEnv, look_cons], h1, .inr ?_⟩
    simp only [Ctx.no, if_true]
    exact ⟨trivial, trivial, b, hv⟩
/-- Nothing, as a row that may be appended to. -/
theorem callsR_own0 (hk2 : 2 ≤ k) (hk : k < bigS) (hu : u ≠ rowMark) (h : CallsR P f [] [] [] ds (.sl 1 es0 []) [] [] []) : CallsR P f [] [] [] ds (.sl k es []) [] [(k, u)] [] := by
  refine ⟨h.1, fun c w vs hm hrep => Calls.mono (h.2 c w vs hm hrep) fun e w' he => ?_⟩
  obtain ⟨v, c', e1, M, e2⟩ := he
  have hr : RepC c' (memEnv [] [] []) w' (.sl 1 es0 []) v := e2
  have h1 := repC_one hr
  obtain ⟨h0, h2⟩ := hr
  obtain ⟨b, hv⟩ : ∃ b, v = .slice b 0 0 := by
    rcases h2 with h2 | h2 | h2
    · cases h2
    · exact h2.2
    · exact absurd h2.1 (by omega)
  refine ⟨v, c'.no k, e1, memOut_new M hk fun st r hl => (by cases hl), ?_⟩
  · show RepC (c'.no k) (memEnv [] [(k, u)] []) w' (.sl k es []) v
    refine ⟨⟨rfl, ?_⟩, .inr (.inr ⟨hk2, u, by simp [memEnv, look_cons], hu, .inr ?_⟩)⟩
    · rcases h0.2 with ⟨h3, h4⟩ | ⟨a, cap, h3, h4, h5⟩
      · exact .inl ⟨h3, h4⟩
      · exact .inr ⟨a, cap, h3, h4, by simp only [RepRow]⟩
    · simp only [Ctx.no, if_true]
      exact ⟨b, hv⟩
end

theorem callsR_imp {P : Program} {f : Nat} {bx us rw ds us'} {Q : D → List (Nat × BoxC) → List (Nat × RowC) → Prop} {d bx' rw'} (h : ∃ d bx' rw', Q d bx' rw' ∧ CallsR P f bx us rw ds d bx' us' rw') (e : ∀ a b c, Q a b c → a = d ∧ b = bx' ∧ c = rw') : CallsR P f bx us rw ds d bx' us' rw' := by
  obtain ⟨a, b, c, h1, h2⟩ := h
  obtain ⟨rfl, rfl, rfl⟩ := e a b c h1
  exact h2

abbrev Ts := Tm [] [9]
abbrev hN (es u n : Nat) (xs : List D) : D × List (Nat × RowC) := (.rsl 17 es 0 n, [(17, ⟨u, es, xs, false⟩)])
theorem run39a (x : S8) (l : List S8) (hl : l.length ≤ 1000000) : RunsR Try.prog Ts 8 (Try.f39.body.getD .skip) Try.f39.results.toList ([]) ([]) ([]) [.sl 0 1 ((x :: l).map D.str)] (fun d bx rw => d = .rsl 17 1 0 (l.length + 1) ∧ bx = [] ∧ rw = [(17, ⟨9, 1, (x :: l).map D.str, false⟩)]) ([(17, rowMark)]) := by
  refine ⟨Nat.le_of_ble_eq_true rfl, rfl, ?_⟩
  conv => whnf
  refine sideB_intro (fun _ => ?_) ?_
  · simp [appendSide]; omega
  conv => whnf
  exact ⟨rfl, congrArg (D.rsl 17 1 0) (by simp), rfl, rfl⟩
theorem run39b  : RunsR Try.prog Ts 8 (Try.f39.body.getD .skip) Try.f39.results.toList ([]) ([]) ([]) [.sle] (fun d bx rw => d = .rsl 17 1 0 0 ∧ bx = [] ∧ rw = [(17, ⟨9, 1, [], false⟩)]) ([(17, rowMark)]) := by
  refine ⟨Nat.le_of_ble_eq_true rfl, rfl, ?_⟩
  conv => whnf
  exact ⟨rfl, rfl, rfl, rfl⟩
theorem run39c  : RunsR Try.prog Ts 8 (Try.f39.body.getD .skip) Try.f39.results.toList ([]) ([]) ([]) [.nils] (fun d bx rw => d = .sl 1 0 [] ∧ bx = [] ∧ rw = []) ([]) := by
  refine ⟨Nat.le_of_ble_eq_true rfl, rfl, ?_⟩
  conv => whnf
  exact ⟨rfl, rfl, rfl, rfl⟩
theorem run39d (x : S8) (l : List S8) (hl : l.length ≤ 1000000) : RunsM Try.prog T 8 (Try.f39.body.getD .skip) Try.f39.results.toList [] [] [.sl 0 1 ((x :: l).map D.str)] (fun d bx => d = .sl 17 1 ((x :: l).map D.str) ∧ bx = []) [(17, 9)] := by
  refine ⟨Nat.le_of_ble_eq_true rfl, rfl, ?_⟩
  conv => whnf
  refine sideB_intro (fun _ => ?_) ?_
  · simp; omega
  conv => whnf
  exact ⟨rfl, rfl, rfl⟩
theorem run39e  : RunsM Try.prog T 8 (Try.f39.body.getD .skip) Try.f39.results.toList [] [] [.sle] (fun d bx => d = .sl 17 1 [] ∧ bx = []) [(17, 9)] := by
  refine ⟨Nat.le_of_ble_eq_true rfl, rfl, ?_⟩
  conv => whnf
  exact ⟨rfl, rfl, rfl⟩
abbrev Tx := Tm [] [47]
theorem run48a (x : Ext) (l : List Ext) (hl : l.length ≤ 1000000) : RunsR Try.prog Tx 8 (Try.f48.body.getD .skip) Try.f48.results.toList ([]) ([]) ([]) [.sl 0 2 ((x :: l).map Ext.d)] (fun d bx rw => d = .rsl 17 2 0 (l.length + 1) ∧ bx = [] ∧ rw = [(17, ⟨47, 2, (x :: l).map Ext.d, false⟩)]) ([(17, rowMark)]) := by
  refine ⟨Nat.le_of_ble_eq_true rfl, rfl, ?_⟩
  conv => whnf
  refine sideB_intro (fun _ => ?_) ?_
  · simp [appendSide]; omega
  conv => whnf
  exact ⟨rfl, congrArg (D.rsl 17 2 0) (by simp), rfl, rfl⟩
theorem run48b  : RunsR Try.prog Tx 8 (Try.f48.body.getD .skip) Try.f48.results.toList ([]) ([]) ([]) [.sle] (fun d bx rw => d = .rsl 17 2 0 0 ∧ bx = [] ∧ rw = [(17, ⟨47, 2, [], false⟩)]) ([(17, rowMark)]) := by
  refine ⟨Nat.le_of_ble_eq_true rfl, rfl, ?_⟩
  conv => whnf
  exact ⟨rfl, rfl, rfl, rfl⟩
theorem run48c  : RunsR Try.prog Tx 8 (Try.f48.body.getD .skip) Try.f48.results.toList ([]) ([]) ([]) [.nils] (fun d bx rw => d = .sl 1 0 [] ∧ bx = [] ∧ rw = []) ([]) := by
  refine ⟨Nat.le_of_ble_eq_true rfl, rfl, ?_⟩
  conv => whnf
  exact ⟨rfl, rfl, rfl, rfl⟩

/-- A copy, as a row that is changed in place. -/
theorem call39 (l : List S8) (hl : l.length ≤ 1000000) : CallsR Try.prog 39 [] [] [] [.sl 0 1 (l.map D.str)] (.rsl 17 1 0 l.length) [] [(17, rowMark)] [(17, ⟨9, 1, l.map D.str, false⟩)] := by
  cases l with
  | cons x l => exact callsR_imp (callsR Try.func39 rfl (by decide) (run39a x l (by simp at hl; omega))) fun a b c h => h
  | nil => exact callsR_nil (callsR_row0 (by decide) (by decide) (by decide) (callsR_imp (callsR Try.func39 rfl (by decide) run39c) fun a b c h => h)) (callsR_imp (callsR Try.func39 rfl (by decide) run39b) fun a b c h => h)
theorem call48 (l : List Ext) (hl : l.length ≤ 1000000) : CallsR Try.prog 48 [] [] [] [.sl 0 2 (l.map Ext.d)] (.rsl 17 2 0 l.length) [] [(17, rowMark)] [(17, ⟨47, 2, l.map Ext.d, false⟩)] := by
  cases l with
  | cons x l => exact callsR_imp (callsR Try.func48 rfl (by decide) (run48a x l (by simp at hl; omega))) fun a b c h => h
  | nil => exact callsR_nil (callsR_row0 (by decide) (by decide) (by decide) (callsR_imp (callsR Try.func48 rfl (by decide) run48c) fun a b c h => h)) (callsR_imp (callsR Try.func48 rfl (by decide) run48b) fun a b c h => h)
/-- A copy, as a row that may be appended to. -/
theorem call39m (l : List S8) (hl : l.length ≤ 1000000) : CallsM Try.prog 39 [] [] [.sl 0 1 (l.map D.str)] (.sl 17 1 (l.map D.str)) [] [(17, 9)] := by
  cases l with
  | cons x l =>
    obtain ⟨d, bx', ⟨rfl, rfl⟩, h⟩ := callsM Try.func39 rfl (by decide) (run39d x l (by simp at hl; omega))
    exact h
  | nil =>
    refine callsR_nil (callsR_own0 (es0 := 0) (by decide) (by decide) (by decide) (callsR_imp (callsR Try.func39 rfl (by decide) run39c) fun a b c h => h)) ?_
    obtain ⟨d, bx', ⟨rfl, rfl⟩, h⟩ := callsM Try.func39 rfl (by decide) run39e
    exact h
end Go.Proofs.Ytbfgendaafediaa.Fw

/- Few, small letters, writing. -/
namespace Go.Proofs.Ytbfgendaafediaa.Fw
open Go Go.RowKit
set_option maxRecDepth 100000
set_option maxHeartbeats 4000000

def cut9 (s : S8) : S8 := s.take 9
def fewS (l : List S8) (n : Nat) : List S8 := (l.take n).map cut9
theorem run18 (l : List S8) (n : Nat) (hl : l.length ≤ maxLen) (hn : n ≤ 100) : Runs Try.prog T 33 (Try.f18.body.getD .skip) Try.f18.results.toList [.sl 0 1 (l.map D.str), .int .i64 n] (.sl 0 1 ((fewS l n).map D.str)) := by
  refine ⟨Nat.le_of_ble_eq_true rfl, ?_⟩
  conv => whnf
  refine ⟨[.nilT 5 9 1], ?_⟩
  conv => whnf
  refine loop_at (σ := Nat) (fun i env => (env.setT 6 (.int .i64 (i : Int))).setT 5 (.sl 2 1 ((fewS l i).map D.str))) (fun i => n - i) (fun i => i ≤ n ∧ i ≤ l.length) 0 ⟨Nat.zero_le _, Nat.zero_le _⟩ rfl ?_
  rintro i ⟨hi, hil⟩ ih
  conv => whnf
  refine ifB_intro (fun h => ?_) (fun h => ?_)
  · have h : (bif decide ((i : Int) < ((l.map D.str).length : Int)) then decide ((i : Int) < (n : Int)) else false) = true := h
    have hh : i < l.length ∧ i < n := by
      rw [List.length_map] at h
      simp at h; omega
    obtain ⟨hlt, hn2⟩ := hh
    obtain ⟨x, hx⟩ : ∃ x, l[i]? = some x := ⟨_, List.getElem?_eq_getElem hlt⟩
    have hw : IntKind.i64.wrap ((i : Int) + 1) = ((i + 1 : Nat) : Int) := by rw [IntKind.wrap_i64]; omega
    have ih' := ih (i + 1) ⟨hn2, hlt⟩ (by omega)
    rw [fewS, List.take_add_one, hx, Option.toList_some, List.map_append, List.map_append] at ih'
    conv => whnf
    refine sideB_intro (fun _ => decide_eq_true (by simp only [List.length_map]; omega)) ?_
    rw [getD_enc (enc := D.str) (x := x) (show l[(i : Int).toNat]? = some x from hx)]
    conv => whnf
    refine ifB_intro (fun h9 => ?_) (fun h9 => ?_)
    · have h9 : (9 : Int) < (x.length : Int) := of_decide_eq_true h9
      have hc : sliceD x (Int.toNat ((0 : Nat) : Int)) (Int.toNat 9) = cut9 x := by simp [sliceD, cut9]
      conv => whnf
      refine sideB_intro (fun _ => decide_eq_true ?_) ?_
      · exact ⟨by decide, by decide, by omega⟩
      conv => whnf
      refine sideB_intro (fun _ => ?_) ?_
      · simp [fewS]; omega
      conv => whnf
      rw [hw]
      have e : ((l.take i).map cut9).map D.str ++ [D.str (cut9 x)] = ((fewS l i).map D.str) ++ [D.str (sliceD x (Int.toNat ((0 : Nat) : Int)) (Int.toNat 9))] := by rw [hc]; rfl
      rw [show List.map D.str (List.map cut9 [x]) = [D.str (cut9 x)] from rfl, e] at ih'
      exact ih'
    · have h9 : ¬ ((9 : Int) < (x.length : Int)) := of_decide_eq_false h9
      have hc : cut9 x = x := List.take_of_length_le (by omega)
      conv => whnf
      refine sideB_intro (fun _ => ?_) ?_
      · simp [fewS]; omega
      conv => whnf
      rw [hw]
      rw [show List.map D.str (List.map cut9 [x]) = [D.str (cut9 x)] from rfl, hc] at ih'
      exact ih'
  · have h : (bif decide ((i : Int) < ((l.map D.str).length : Int)) then decide ((i : Int) < (n : Int)) else false) = false := h
    have hh : i = l.length ∨ i = n := by
      rw [List.length_map] at h
      simp at h; omega
    have hf : fewS l i = fewS l n := by
      rcases hh with e | e
      · rw [fewS, fewS, List.take_of_length_le (by omega), List.take_of_length_le (by omega)]
      · rw [e]
    conv => whnf
    rw [hf]
    exact ⟨rfl, rfl⟩
theorem call18 (l : List S8) (n : Nat) (hl : l.length ≤ maxLen) (hn : n ≤ 100) : CallsTo Try.prog 18 [.sl 0 1 (l.map D.str), .int .i64 n] (.sl 0 1 ((fewS l n).map D.str)) := calls Try.func18 rfl (by decide) (run18 l n hl hn)
theorem run46 (b : UInt8) : Runs Try.prog T 13 (Try.f46.body.getD .skip) Try.f46.results.toList [.int .u8 b.toNat] (.int .u8 (lowB b).toNat) := by
  refine ⟨Nat.le_of_ble_eq_true rfl, ?_⟩
  conv => whnf
  have hb := lowB_int b
  have hl : b.toNat < 256 := b.toNat_lt
  refine ifB_intro (fun h => ?_) (fun h => ?_)
  · have h : ((65 : Int) ≤ b.toNat) ∧ ((b.toNat : Int) ≤ 90) := by
      revert h
      cases h1 : decide ((65 : Int) ≤ b.toNat) <;> simp_all
    conv => whnf
    refine ⟨rfl, congrArg (D.int .u8) ?_⟩
    rw [hb, if_pos (by omega), wrap_u8 (n := (b.toNat : Int) - 65) (by omega) (by omega), wrap_u8 (by omega) (by omega)]
    omega
  · conv => whnf
    refine ⟨rfl, congrArg (D.int .u8) ?_⟩
    have h : ¬ (((65 : Int) ≤ b.toNat) ∧ ((b.toNat : Int) ≤ 90)) := by
      intro h2
      rw [decide_eq_true h2.1, decide_eq_true h2.2] at h
      cases h
    rw [hb, if_neg (by omega)]
theorem call46 (b : UInt8) : CallsTo Try.prog 46 [.int .u8 b.toNat] (.int .u8 (lowB b).toNat) := calls Try.func46 rfl (by decide) (run46 b)
theorem conv_u8 {T : Ty} {g : Option (Nat × Bool)} {ρ : Operand → D} {bx : List (Nat × BoxC)} {mp : List (Nat × MapC)} {rw : List (Nat × RowC)} {dst s t st : Nat} {x : Operand} {xs : List D} {l : List UInt8} (hx : unw g (ρ x) = .sl st 1 xs) (hT : ∀ xs, convD T s t (.sl st 1 xs) = (u8s xs).map .str) (hu : u8s xs = some l) :
    opR T g ρ bx mp rw dst (.convert s t x) = some { d := .str l } := by
  simp only [opR, opV, hx, hT, hu]; rfl
theorem run28 (s : S8) (hs : s.length ≤ 1000000) : Runs Try.prog T 20 (Try.f28.body.getD .skip) Try.f28.results.toList [.str s] (.str (low s)) := by
  refine ⟨Nat.le_of_ble_eq_true rfl, ?_⟩
  conv => whnf
  refine ⟨[.nilT 3 5 1], ?_⟩
  conv => whnf
  refine loop_at (σ := Nat) (fun i env => (env.setT 4 (.int .i64 (i : Int))).setT 3 (.sl 2 1 ((low (s.take i)).map byD))) (fun i => s.length - i) (fun i => i ≤ s.length) 0 (Nat.zero_le _) rfl ?_
  rintro i hi ih
  conv => whnf
  refine ifB_intro (fun h => ?_) (fun h => ?_)
  · have h : (i : Int) < (s.length : Int) := of_decide_eq_true h
    have hlt : i < s.length := by omega
    have hw : IntKind.i64.wrap ((i : Int) + 1) = ((i + 1 : Nat) : Int) := by rw [IntKind.wrap_i64]; omega
    have ih' := ih (i + 1) hlt (by omega)
    obtain ⟨b, hb⟩ : ∃ b, s[i]? = some b := ⟨_, List.getElem?_eq_getElem hlt⟩
    have hg : List.getD s (i : Int).toNat 0 = b := by
      rw [Int.toNat_natCast, List.getD_eq_getElem?_getD, hb]; rfl
    rw [List.take_add_one, hb, Option.toList_some, low, List.map_append, List.map_append] at ih'
    conv => whnf
    refine sideB_intro (fun _ => decide_eq_true (by omega)) ?_
    rw [hg]
    conv => whnf
    refine ⟨_, fun _ => call46 b, ?_⟩
    conv => whnf
    refine sideB_intro (fun _ => ?_) ?_
    · simp [low]; omega
    conv => whnf
    rw [hw]
    exact ih'
  · have h : ¬ ((i : Int) < (s.length : Int)) := of_decide_eq_false h
    rw [List.take_of_length_le (by omega)]
    conv => whnf
    refine dO_of (r := ?rr) ?hh ?kk
    case hh =>
      refine conv_u8 (st := ?st) ?h1 ?_ (u8s_by (low s))
      case h1 => rfl
      exact fun _ => rfl
    conv => whnf
    exact ⟨rfl, rfl⟩
theorem call28 (s : S8) (hs : s.length ≤ 1000000) : CallsTo Try.prog 28 [.str s] (.str (low s)) := calls Try.func28 rfl (by decide) (run28 s hs)
end Go.Proofs.Ytbfgendaafediaa.Fw

/- Writing; few keywords. -/
namespace Go.Proofs.Ytbfgendaafediaa.Fw
open Go Go.RowKit
set_option maxRecDepth 100000
set_option maxHeartbeats 4000000

def Ext.w (e : Ext) : List S8 := e.key :: e.subs
def Kws.w (k : Kws) : List S8 := k.attrs ++ k.keys.flatMap Ext.w
theorem flat_le {α β : Type} (f : α → List β) (l : List α) (i : Nat) : ((l.take i).flatMap f).length ≤ (l.flatMap f).length := by
  conv => rhs; rw [← List.take_append_drop i l, List.flatMap_append, List.length_append]
  omega
theorem keys_le : ∀ (l : List Ext), l.length ≤ (l.flatMap Ext.w).length
  | [] => Nat.le_refl _
  | e :: l => by
    have := keys_le l
    rw [List.flatMap_cons]
    simp [Ext.w] at *; omega
abbrev Tw := Tm [39] []
theorem run24 (k : Kws) (hk : k.w.length ≤ 1000000) : Runs Try.prog Tw 26 (Try.f24.body.getD .skip) Try.f24.results.toList [k.d] (.sl 0 1 (k.w.map D.str)) := by
  refine ⟨Nat.le_of_ble_eq_true rfl, ?_⟩
  conv => whnf
  have hal : k.attrs.length ≤ 1000000 := by rw [Kws.w, List.length_append] at hk; omega
  have hkl : k.keys.length ≤ 1000000 := by have := keys_le k.keys; rw [Kws.w, List.length_append] at hk; omega
  refine ⟨⟨[], [], .sl 17 1 (k.attrs.map D.str), [], [(17, 9)], []⟩, ?_⟩
  conv => whnf
  refine ⟨rfl, call39m k.attrs hal, ?_⟩
  conv => whnf
  refine ⟨[.drop 8], ?_⟩
  conv => whnf
  refine loop_at (σ := Nat) (fun i env => (env.setT 12 (.int .i64 (i : Int))).setT 3 (.sl 2 1 ((k.attrs ++ (k.keys.take i).flatMap Ext.w).map D.str))) (fun i => k.keys.length - i) (fun i => i ≤ k.keys.length) 0 (Nat.zero_le _) (by simp only [List.take_zero, List.flatMap_nil, List.append_nil]; rfl) ?_
  rintro i hi ih
  conv => whnf
  refine ifB_intro (fun h => ?_) (fun h => ?_)
  · have h : (i : Int) < ((k.keys.map Ext.d).length : Int) := of_decide_eq_true h
    rw [List.length_map] at h
    have hlt : i < k.keys.length := by omega
    obtain ⟨e, he⟩ : ∃ e, k.keys[i]? = some e := ⟨_, List.getElem?_eq_getElem hlt⟩
    have hw : IntKind.i64.wrap ((i : Int) + 1) = ((i + 1 : Nat) : Int) := by rw [IntKind.wrap_i64]; omega
    have ih' := ih (i + 1) hlt (by omega)
    have hle := flat_le Ext.w k.keys (i + 1)
    rw [List.take_add_one, he, Option.toList_some, List.flatMap_append] at hle
    rw [List.take_add_one, he, Option.toList_some, List.flatMap_append] at ih'
    have hle2 : (k.attrs ++ (k.keys.take i).flatMap Ext.w).length + e.subs.length + 1 ≤ 1000000 := by
      simp [Kws.w, Ext.w] at hk hle ⊢; omega
    revert ih' hle2
    generalize hX : k.attrs ++ (k.keys.take i).flatMap Ext.w = X
    rw [← List.append_assoc, hX]
    intro ih' hle2
    rw [show ((X ++ [e].flatMap Ext.w).map D.str) = X.map D.str ++ [D.str e.key] ++ e.subs.map D.str from by simp [Ext.w]] at ih'
    conv => whnf
    refine sideB_intro (fun _ => decide_eq_true (by simp only [List.length_map]; omega)) ?_
    rw [getD_enc (enc := Ext.d) (x := e) (show k.keys[(i : Int).toNat]? = some e from he)]
    conv => whnf
    refine ⟨rfl, ?_⟩
    conv => whnf
    refine sideB_intro (fun _ => ?_) ?_
    · simp; omega
    conv => whnf
    refine sideB_intro (fun _ => ?_) ?_
    · simp; omega
    conv => whnf
    rw [hw]
    exact ih'
  · have h : ¬ ((i : Int) < ((k.keys.map Ext.d).length : Int)) := of_decide_eq_false h
    rw [List.length_map] at h
    conv => whnf
    rw [List.take_of_length_le (by omega)]
    exact ⟨rfl, rfl⟩
theorem call24 (k : Kws) (hk : k.w.length ≤ 1000000) : CallsTo Try.prog 24 [k.d] (.sl 0 1 (k.w.map D.str)) := calls Try.func24 rfl (by decide) (run24 k hk)
def cutE (e : Ext) : Ext := ⟨cut9 e.key, fewS e.subs 3⟩
def fewK (k : Kws) : Kws := ⟨fewS k.attrs 5, (k.keys.take 5).map cutE⟩
theorem run19 (k : Kws) (hk : k.ok) : Runs Try.prog T 44 (Try.f19.body.getD .skip) Try.f19.results.toList [k.d] ((fewK k).d) := by
  refine ⟨Nat.le_of_ble_eq_true rfl, ?_⟩
  conv => whnf
  refine ⟨_, fun _ => call18 k.attrs 5 hk.1 (by decide), ?_⟩
  conv => whnf
  refine ⟨[.nilB 3 1 47 2], ?_⟩
  conv => whnf
  refine loop_at (σ := Nat) (fun i env => (env.setT 4 (.int .i64 (i : Int))).setC1 3 1 (.sl 2 2 (((k.keys.take i).map cutE).map Ext.d))) (fun i => 5 - i) (fun i => i ≤ k.keys.length ∧ i ≤ 5) 0 ⟨Nat.zero_le _, Nat.zero_le _⟩ rfl ?_
  rintro i ⟨hi, hi5⟩ ih
  conv => whnf
  refine ifB_intro (fun h => ?_) (fun h => ?_)
  · have h : (bif decide ((i : Int) < ((k.keys.map Ext.d).length : Int)) then decide ((i : Int) < 5) else false) = true := h
    have hh : i < k.keys.length ∧ i < 5 := by
      rw [List.length_map] at h
      simp at h; omega
    obtain ⟨hlt, hn2⟩ := hh
    obtain ⟨e, he⟩ : ∃ e, k.keys[i]? = some e := ⟨_, List.getElem?_eq_getElem hlt⟩
    have hw : IntKind.i64.wrap ((i : Int) + 1) = ((i + 1 : Nat) : Int) := by rw [IntKind.wrap_i64]; omega
    have ih' := ih (i + 1) ⟨hlt, hn2⟩ (by omega)
    rw [List.take_add_one, he, Option.toList_some, List.map_append, List.map_append] at ih'
    have hke := hk.2.2.2 e (List.mem_of_getElem? he)
    conv => whnf
    refine ⟨rfl, ?_⟩
    conv => whnf
    refine sideB_intro (fun _ => decide_eq_true (by simp only [List.length_map]; omega)) ?_
    rw [getD_enc (enc := Ext.d) (x := e) (show k.keys[(i : Int).toNat]? = some e from he)]
    conv => whnf
    refine ⟨_, fun _ => call18 [e.key] 1 (show 1 ≤ maxLen from by decide) (by decide), ?_⟩
    conv => whnf
    refine sideB_intro (fun _ => decide_eq_true (by simp only [List.length_map]; omega)) ?_
    rw [getD_enc (enc := Ext.d) (x := e) (show k.keys[(i : Int).toNat]? = some e from he)]
    conv => whnf
    refine ⟨_, fun _ => call18 e.subs 3 hke.2.1 (by decide), ?_⟩
    conv => whnf
    refine sideB_intro (fun _ => ?_) ?_
    · simp; omega
    conv => whnf
    rw [hw]
    exact ih'
  · have h : (bif decide ((i : Int) < ((k.keys.map Ext.d).length : Int)) then decide ((i : Int) < 5) else false) = false := h
    have hh : i = k.keys.length ∨ i = 5 := by
      rw [List.length_map] at h
      simp at h; omega
    have hf : k.keys.take i = k.keys.take 5 := by
      rcases hh with e | e
      · rw [List.take_of_length_le (by omega), List.take_of_length_le (by omega)]
      · rw [e]
    conv => whnf
    rw [hf]
    exact ⟨rfl, rfl⟩
theorem call19 (k : Kws) (hk : k.ok) : CallsTo Try.prog 19 [k.d] ((fewK k).d) := calls Try.func19 rfl (by decide) (run19 k hk)
end Go.Proofs.Ytbfgendaafediaa.Fw

/- The sorter's front: rows of at most 12. -/
namespace Go.Proofs.Ytbfgendaafediaa.Fw
open Go Go.RowKit
set_option maxRecDepth 100000
set_option maxHeartbeats 4000000

theorem run92 (n : Nat) (hn : n ≤ 12) : RunsQ Try.prog T 25 (Try.f92.body.getD .skip) Try.f92.results.toList [.int .u64 n] (fun d => ∃ m, d = .int .i64 m) := by
  refine ⟨Nat.le_of_ble_eq_true rfl, ?_⟩
  conv => whnf
  refine ifB_intro (fun h => ?_) (fun h => ?_)
  · have := of_decide_eq_true h; omega
  conv => whnf
  refine ifB_intro (fun h => ?_) (fun h => ?_)
  · have := of_decide_eq_true h; omega
  conv => whnf
  refine ifB_intro (fun h => ?_) (fun h => ?_)
  · have := of_decide_eq_true h; omega
  conv => whnf
  have hw : IntKind.u8.wrap (n : Int) = n := by
    rcases (show n = 0 ∨ n = 1 ∨ n = 2 ∨ n = 3 ∨ n = 4 ∨ n = 5 ∨ n = 6 ∨ n = 7 ∨ n = 8 ∨ n = 9 ∨ n = 10 ∨ n = 11 ∨ n = 12 from by omega) with rfl | rfl | rfl | rfl | rfl | rfl | rfl | rfl | rfl | rfl | rfl | rfl | rfl <;> rfl
  refine sideB_intro (fun _ => decide_eq_true ?_) ?_
  · rw [hw]
    exact ⟨by omega, by show (n : Int) < 256; omega⟩
  conv => whnf
  exact ⟨rfl, _, rfl⟩
theorem call92 (n : Nat) (hn : n ≤ 12) : ∃ d, (fun d => ∃ m, d = .int .i64 m) d ∧ CallsTo Try.prog 92 [.int .u64 n] d := by
  obtain ⟨d, h, k⟩ := runsQ_one (run92 n hn)
  exact ⟨d, h, calls Try.func92 rfl (by decide) k⟩
theorem run67 (n : Nat) (hn : n ≤ 12) : RunsQ Try.prog T 8 (Try.f67.body.getD .skip) Try.f67.results.toList [.int .u64 n] (fun d => ∃ m, d = .int .i64 m) := by
  refine ⟨Nat.le_of_ble_eq_true rfl, ?_⟩
  conv => whnf
  obtain ⟨d, ⟨m, rfl⟩, hc⟩ := call92 n hn
  refine ⟨_, fun _ => hc, ?_⟩
  conv => whnf
  exact ⟨rfl, _, rfl⟩
theorem call67 (n : Nat) (hn : n ≤ 12) : ∃ d, (fun d => ∃ m, d = .int .i64 m) d ∧ CallsTo Try.prog 67 [.int .u64 n] d := by
  obtain ⟨d, h, k⟩ := runsQ_one (run67 n hn)
  exact ⟨d, h, calls Try.func67 rfl (by decide) k⟩
theorem len12 (n : Nat) (hn : n ≤ 12) : ∃ m, CallsTo Try.prog 67 [.int .u64 (IntKind.u64.wrap (n : Int))] (.int .i64 m) := by
  have hw : IntKind.u64.wrap (n : Int) = n := by
    rcases (show n = 0 ∨ n = 1 ∨ n = 2 ∨ n = 3 ∨ n = 4 ∨ n = 5 ∨ n = 6 ∨ n = 7 ∨ n = 8 ∨ n = 9 ∨ n = 10 ∨ n = 11 ∨ n = 12 from by omega) with rfl | rfl | rfl | rfl | rfl | rfl | rfl | rfl | rfl | rfl | rfl | rfl | rfl <;> rfl
  obtain ⟨d, ⟨m, rfl⟩, hc⟩ := call67 n hn
  exact ⟨m, by rw [hw]; exact hc⟩
theorem call82 (l : List S8) (hl : l.length ≤ 1000000) : CallsR Try.prog 82 [] hS (hR 9 1 (l.map D.str)) [.rsl 1000000 1 0 l.length, .int .i64 0, .int .i64 l.length] (.tup []) [] hS (hR 9 1 ((isort lt8 l).map D.str)) := callsR_imp (callsR Try.func82 rfl (by decide) (run82 l hl)) fun a b c h => h
abbrev Tp := Tm [82] []
theorem run66 (l : List S8) (hl : l.length ≤ 12) (m : Int) : RunsR Try.prog Tp 134 (Try.f66.body.getD .skip) Try.f66.results.toList ([]) (hS) (hR 9 1 (l.map D.str)) [.rsl 1000000 1 0 l.length, .int .i64 0, .int .i64 l.length, .int .i64 m] (fun d bx rw => d = .tup [] ∧ bx = [] ∧ rw = hR 9 1 ((isort lt8 l).map D.str)) (hS) := by
  refine ⟨Nat.le_of_ble_eq_true rfl, rfl, ?_⟩
  conv => whnf
  refine ⟨[], ?_⟩
  conv => whnf
  refine ⟨1, ?_⟩
  conv => whnf
  refine ifB_intro (fun _ => ?_) (fun h => ?_)
  · conv => whnf
    refine ⟨⟨[], [(1000000, 1000000)], .tup [], [], hS, hR 9 1 ((isort lt8 l).map D.str)⟩, ?_⟩
    conv => whnf
    refine ⟨rfl, call82 l (by omega), ?_⟩
    conv => whnf
    exact ⟨rfl, rfl, rfl, rfl⟩
  · exfalso
    have h := of_decide_eq_false h
    rw [IntKind.wrap_i64] at h; omega
theorem call66 (l : List S8) (hl : l.length ≤ 12) (m : Int) : CallsR Try.prog 66 [] hS (hR 9 1 (l.map D.str)) [.rsl 1000000 1 0 l.length, .int .i64 0, .int .i64 l.length, .int .i64 m] (.tup []) [] hS (hR 9 1 ((isort lt8 l).map D.str)) := callsR_imp (callsR Try.func66 rfl (by decide) (run66 l hl m)) fun a b c h => h
abbrev Tq := Tm [66] []
theorem run40 (l : List S8) (hl : l.length ≤ 12) : RunsR Try.prog Tq 11 (Try.f40.body.getD .skip) Try.f40.results.toList ([]) (hS) (hR 9 1 (l.map D.str)) [.rsl 1000000 1 0 l.length] (fun d bx rw => d = .tup [] ∧ bx = [] ∧ rw = hR 9 1 ((isort lt8 l).map D.str)) (hS) := by
  refine ⟨Nat.le_of_ble_eq_true rfl, rfl, ?_⟩
  conv => whnf
  obtain ⟨m, hc⟩ := len12 l.length hl
  refine ⟨_, fun _ => hc, ?_⟩
  conv => whnf
  refine ⟨⟨[], [(1000000, 1000000)], .tup [], [], hS, hR 9 1 ((isort lt8 l).map D.str)⟩, ?_⟩
  conv => whnf
  refine ⟨rfl, call66 l hl m, ?_⟩
  conv => whnf
  exact ⟨rfl, rfl, rfl, rfl⟩
theorem call40 (l : List S8) (hl : l.length ≤ 12) : CallsR Try.prog 40 [] hS (hR 9 1 (l.map D.str)) [.rsl 1000000 1 0 l.length] (.tup []) [] hS (hR 9 1 ((isort lt8 l).map D.str)) := callsR_imp (callsR Try.func40 rfl (by decide) (run40 l hl)) fun a b c h => h
end Go.Proofs.Ytbfgendaafediaa.Fw

/- Sorting of keys by insertion, and the sorter's front for them. -/
namespace Go.Proofs.Ytbfgendaafediaa.Fw
open Go Go.RowKit
set_option maxRecDepth 100000
set_option maxHeartbeats 4000000

abbrev ltk (a b : Ext) : Bool := lt8 a.key b.key
theorem cmp_lt (a b : S8) : decide (cmp8 a b < 0) = lt8 a b := by
  unfold cmp8
  cases h : lt8 a b with
  | true => simp
  | false =>
    by_cases e : a = b
    · simp [e]
    · simp [e]
theorem run109 (l : List Ext) (hl : l.length ≤ 1000000) : RunsR Try.prog T 53 (Try.f109.body.getD .skip) Try.f109.results.toList ([]) (hS) (hR 47 2 (l.map Ext.d)) [.rsl 1000000 2 0 l.length, .int .i64 0, .int .i64 l.length, .fn 69 []] (fun d bx rw => d = .tup [] ∧ bx = [] ∧ rw = hR 47 2 ((isort ltk l).map Ext.d)) (hS) := by
  refine ⟨Nat.le_of_ble_eq_true rfl, rfl, ?_⟩
  conv => whnf
  refine ⟨[], ?_⟩
  conv => whnf
  refine loop_at (σ := Nat) (fun i env => (env.setT 8 (.int .i64 ((i + 1 : Nat) : Int))).setX 1000000 ((sortTo ltk l (i + 1)).map Ext.d)) (fun i => l.length - i) (fun i => i + 1 ≤ l.length ∨ i = 0) 0 (.inr rfl) rfl ?_
  rintro i hi ih
  conv => whnf
  refine ifB_intro (fun h => ?_) (fun h => ?_)
  · have h : ((i + 1 : Nat) : Int) < (l.length : Int) := of_decide_eq_true h
    have hlt : i + 1 < l.length := by omega
    have hw : IntKind.i64.wrap (((i + 1 : Nat) : Int) + 1) = ((i + 1 + 1 : Nat) : Int) := by rw [IntKind.wrap_i64]; omega
    have ih' := ih (i + 1) (.inl hlt) (by omega)
    have hlen := sortTo_length ltk l (i + 1)
    rw [sortTo] at ih'
    revert ih' hlen
    generalize sortTo ltk l (i + 1) = L0
    intro ih' hlen
    conv => whnf
    refine ⟨[], ?_⟩
    conv => whnf
    refine loop_at (σ := Nat × List Ext) (fun q env => (env.setT 9 (.int .i64 (q.1 : Int))).setX 1000000 (q.2.map Ext.d)) (fun q => q.1 + (l.length - l.length)) (fun q => q.1 ≤ i + 1 ∧ q.2.length = l.length ∧ sift ltk q.1 q.2 = sift ltk (i + 1) L0) (i + 1, L0) ⟨Nat.le_refl _, hlen, rfl⟩ rfl ?_
    rintro ⟨j, M⟩ ⟨hj, hM, hs⟩ ih2
    replace hj : j ≤ i + 1 := hj
    replace hM : M.length = l.length := hM
    replace hs : sift ltk j M = sift ltk (i + 1) L0 := hs
    have hjl : j < M.length := by omega
    have hj1 : j - 1 < M.length := by omega
    obtain ⟨x, hx⟩ : ∃ x, M[j]? = some x := ⟨_, List.getElem?_eq_getElem hjl⟩
    obtain ⟨y, hy⟩ : ∃ y, M[j - 1]? = some y := ⟨_, List.getElem?_eq_getElem hj1⟩
    have hk := zero_toNat j
    have hk1 : 0 + Int.toNat (IntKind.i64.wrap ((j : Int) - 1)) = j - 1 := by rw [IntKind.wrap_i64]; omega
    conv => whnf
    refine ⟨rfl, ?_⟩
    conv => whnf
    refine sideB_intro (fun _ => decide_eq_true (by dsimp only; omega)) ?_
    conv => whnf
    refine fD_of (getD_enc (enc := Ext.d) (x := x) (by dsimp only; rw [hk]; exact hx)) ?_
    conv => whnf
    refine sideB_intro (fun _ => blt_of (by simp only [List.length_map]; omega)) ?_
    conv => whnf
    refine sideB_intro (fun hg => ?_) ?_
    · have hg : decide ((0 : Int) < (j : Int)) = true := hg
      have hg := of_decide_eq_true hg
      exact decide_eq_true (by dsimp only; rw [IntKind.wrap_i64]; omega)
    conv => whnf
    refine fD_of (getD_enc (enc := Ext.d) (x := y) (by dsimp only; rw [hk1]; exact hy)) ?_
    conv => whnf
    refine sideB_intro (fun _ => blt_of (by simp only [List.length_map]; omega)) ?_
    conv => whnf
    refine ⟨_, fun _ => call69 x y, ?_⟩
    conv => whnf
    refine ifB_intro (fun hb => ?_) (fun hb => ?_)
    · have hb : 0 < j ∧ ltk x y = true := by
        have hb : (bif decide ((0 : Int) < (j : Int)) then decide (cmp8 x.key y.key < 0) else false) = true := hb
        rw [cmp_lt] at hb
        by_cases h0 : (0 : Int) < (j : Int)
        · rw [decide_eq_true h0, cond_true] at hb; exact ⟨by omega, hb⟩
        · rw [decide_eq_false h0] at hb; cases hb
      obtain ⟨j, rfl⟩ : ∃ k, j = k + 1 := ⟨j - 1, by omega⟩
      have hsw : sift ltk (j + 1) M = sift ltk j ((M.set (j + 1) y).set j x) := by
        rw [sift, hx, show M[j]? = some y from hy]
        simp only [hb.2, cond_true]
      have ih3 := ih2 (j, (M.set (j + 1) y).set j x) ⟨by show j ≤ i + 1; omega, by simp [hM], hsw.symm.trans hs⟩ (by dsimp only; omega)
      have hw2 : IntKind.i64.wrap (((j + 1 : Nat) : Int) - 1) = (j : Int) := by rw [IntKind.wrap_i64]; omega
      have hkj := zero_toNat j
      conv => whnf
      refine ⟨rfl, ?_⟩
      conv => whnf
      refine sideB_intro (fun _ => decide_eq_true (by dsimp only; rw [hw2]; omega)) ?_
      conv => whnf
      refine fD_of (getD_enc (enc := Ext.d) (x := y) (by dsimp only; rw [hk1]; exact hy)) ?_
      conv => whnf
      refine sideB_intro (fun _ => blt_of (by simp only [List.length_map]; omega)) ?_
      conv => whnf
      refine sideB_intro (fun _ => decide_eq_true (by dsimp only; omega)) ?_
      conv => whnf
      refine fD_of (getD_enc (enc := Ext.d) (x := x) (by dsimp only; rw [hk]; exact hx)) ?_
      conv => whnf
      refine sideB_intro (fun _ => blt_of (by simp only [List.length_map]; omega)) ?_
      conv => whnf
      refine sideB_intro (fun _ => decide_eq_true (by dsimp only; omega)) ?_
      conv => whnf
      refine sideB_intro (fun _ => blt_of (by simp only [List.length_map]; omega)) ?_
      conv => whnf
      refine sideB_intro (fun _ => decide_eq_true (by dsimp only; rw [hw2]; omega)) ?_
      conv => whnf
      refine sideB_intro (fun _ => blt_of (by simp only [List.length_map, List.length_set]; omega)) ?_
      conv => whnf
      rw [hw2, hkj, hk, set_enc (enc := Ext.d) (x := y) (d := .agg [.str y.key, .sl 0 1 (y.subs.map D.str)]) rfl, set_enc (enc := Ext.d) (x := x) (d := .agg [.str x.key, .sl 0 1 (x.subs.map D.str)]) rfl]
      exact ih3
    · have hb : ¬ (0 < j ∧ ltk x y = true) := fun ⟨h0, h1⟩ => by
        have hb : (bif decide ((0 : Int) < (j : Int)) then decide (cmp8 x.key y.key < 0) else false) = false := hb
        rw [cmp_lt] at hb
        rw [decide_eq_true (by omega), cond_true, show lt8 x.key y.key = true from h1] at hb; cases hb
      have he : sift ltk j M = M := by
        cases j with
        | zero => rfl
        | succ j =>
          rw [sift, hx, show M[j]? = some y from hy]
          have : ltk x y = false := by
            cases h1 : ltk x y with
            | false => rfl
            | true => exact absurd ⟨by omega, h1⟩ hb
          simp only [this, cond_false]
      rw [he] at hs
      conv => whnf
      rw [hs, hw]
      exact ih'
  · conv => whnf
    have h : ¬ (((i + 1 : Nat) : Int) < (l.length : Int)) := of_decide_eq_false h
    refine ⟨rfl, rfl, rfl, ?_⟩
    have : sortTo ltk l (i + 1) = isort ltk l := by
      rcases hi with hi | rfl
      · rw [isort, show i + 1 = l.length from by omega]
      · rw [isort]
        rcases (show l.length = 0 ∨ l.length = 1 from by omega) with e | e
        · rw [List.eq_nil_of_length_eq_zero e]; rfl
        · rw [e]
    rw [this]; rfl
theorem call109 (l : List Ext) (hl : l.length ≤ 1000000) : CallsR Try.prog 109 [] hS (hR 47 2 (l.map Ext.d)) [.rsl 1000000 2 0 l.length, .int .i64 0, .int .i64 l.length, .fn 69 []] (.tup []) [] hS (hR 47 2 ((isort ltk l).map Ext.d)) := callsR_imp (callsR Try.func109 rfl (by decide) (run109 l hl)) fun a b c h => h
abbrev Tp2 := Tm [109] []
theorem run93 (l : List Ext) (hl : l.length ≤ 12) (m : Int) : RunsR Try.prog Tp2 148 (Try.f93.body.getD .skip) Try.f93.results.toList ([]) (hS) (hR 47 2 (l.map Ext.d)) [.rsl 1000000 2 0 l.length, .int .i64 0, .int .i64 l.length, .int .i64 m, .fn 69 []] (fun d bx rw => d = .tup [] ∧ bx = [] ∧ rw = hR 47 2 ((isort ltk l).map Ext.d)) (hS) := by
  refine ⟨Nat.le_of_ble_eq_true rfl, rfl, ?_⟩
  conv => whnf
  refine ⟨[], ?_⟩
  conv => whnf
  refine ⟨1, ?_⟩
  conv => whnf
  refine ifB_intro (fun _ => ?_) (fun h => ?_)
  · conv => whnf
    refine ⟨⟨[], [(1000000, 1000000)], .tup [], [], hS, hR 47 2 ((isort ltk l).map Ext.d)⟩, ?_⟩
    conv => whnf
    refine ⟨rfl, call109 l (by omega), ?_⟩
    conv => whnf
    exact ⟨rfl, rfl, rfl, rfl⟩
  · exfalso
    have h := of_decide_eq_false h
    rw [IntKind.wrap_i64] at h; omega
theorem call93 (l : List Ext) (hl : l.length ≤ 12) (m : Int) : CallsR Try.prog 93 [] hS (hR 47 2 (l.map Ext.d)) [.rsl 1000000 2 0 l.length, .int .i64 0, .int .i64 l.length, .int .i64 m, .fn 69 []] (.tup []) [] hS (hR 47 2 ((isort ltk l).map Ext.d)) := callsR_imp (callsR Try.func93 rfl (by decide) (run93 l hl m)) fun a b c h => h
abbrev Tq2 := Tm [93] []
theorem run68 (l : List Ext) (hl : l.length ≤ 12) : RunsR Try.prog Tq2 14 (Try.f68.body.getD .skip) Try.f68.results.toList ([]) (hS) (hR 47 2 (l.map Ext.d)) [.rsl 1000000 2 0 l.length, .fn 69 []] (fun d bx rw => d = .tup [] ∧ bx = [] ∧ rw = hR 47 2 ((isort ltk l).map Ext.d)) (hS) := by
  refine ⟨Nat.le_of_ble_eq_true rfl, rfl, ?_⟩
  conv => whnf
  obtain ⟨m, hc⟩ := len12 l.length hl
  refine ⟨_, fun _ => hc, ?_⟩
  conv => whnf
  refine ⟨⟨[], [(1000000, 1000000)], .tup [], [], hS, hR 47 2 ((isort ltk l).map Ext.d)⟩, ?_⟩
  conv => whnf
  refine ⟨rfl, call93 l hl m, ?_⟩
  conv => whnf
  exact ⟨rfl, rfl, rfl, rfl⟩
theorem call68 (l : List Ext) (hl : l.length ≤ 12) : CallsR Try.prog 68 [] hS (hR 47 2 (l.map Ext.d)) [.rsl 1000000 2 0 l.length, .fn 69 []] (.tup []) [] hS (hR 47 2 ((isort ltk l).map Ext.d)) := callsR_imp (callsR Try.func68 rfl (by decide) (run68 l hl)) fun a b c h => h
end Go.Proofs.Ytbfgendaafediaa.Fw

/- Compact. -/
namespace Go.Proofs.Ytbfgendaafediaa.Fw
open Go Go.RowKit
set_option maxRecDepth 100000
set_option maxHeartbeats 4000000

/-- Each of the first k, but for those that are as the one ahead of them. -/
def cpt (l : List S8) : Nat → List S8
  | 0 => []
  | k + 1 => match l[k]? with
    | none => cpt l k
    | some y => bif Nat.beq k 0 then [y] else bif l[k - 1]? == some y then cpt l k else cpt l k ++ [y]
def compact (l : List S8) : List S8 := cpt l l.length
theorem cpt_le (l : List S8) : ∀ k, (cpt l k).length ≤ k
  | 0 => Nat.le_refl _
  | k + 1 => by
    have ih := cpt_le l k
    unfold cpt
    split
    · omega
    · cases Nat.beq k 0 with
      | true => simp
      | false =>
        rw [cond_false]
        cases l[k - 1]? == some _ with
        | true => rw [cond_true]; omega
        | false => rw [cond_false]; simp; omega
theorem cpt_same {l : List S8} {k : Nat} {y : S8} (h : l[k]? = some y) (h0 : 0 < k) (h1 : l[k - 1]? = some y) : cpt l (k + 1) = cpt l k := by
  rw [cpt, h]
  simp only [show Nat.beq k 0 = false from nbeq_f.2 (by omega), cond_false, h1, beq_self_eq_true, cond_true]
theorem cpt_new {l : List S8} {k : Nat} {y z : S8} (h : l[k]? = some y) (h0 : 0 < k) (h1 : l[k - 1]? = some z) (hne : y ≠ z) : cpt l (k + 1) = cpt l k ++ [y] := by
  rw [cpt, h]
  have : (some z == some y) = false := by simp [Ne.symm hne]
  simp only [show Nat.beq k 0 = false from nbeq_f.2 (by omega), cond_false, h1, this]
/-- The row, with those laid ahead. -/
def cptX (l : List S8) (k : Nat) : List S8 := cpt l k ++ l.drop (cpt l k).length
theorem cptX_length {l : List S8} {k : Nat} (h : k ≤ l.length) : (cptX l k).length = l.length := by
  have := cpt_le l k
  simp [cptX]; omega
theorem cptX_get {l : List S8} {k j : Nat} (h : (cpt l k).length ≤ j) : (cptX l k)[j]? = l[j]? := by
  unfold cptX
  rw [List.getElem?_append_right h, List.getElem?_drop]
  congr 1; omega
theorem cptX_set {l : List S8} {k : Nat} {y z : S8} (h : l[k]? = some y) (h0 : 0 < k) (h1 : l[k - 1]? = some z) (hne : y ≠ z) : (cptX l k).set (cpt l k).length y = cptX l (k + 1) := by
  have hk := cpt_le l k
  have hl := (List.getElem?_eq_some_iff.1 h).1
  unfold cptX
  rw [cpt_new h h0 h1 hne, List.set_append_right _ _ (Nat.le_refl _), Nat.sub_self, List.drop_eq_getElem_cons (by omega), List.set_cons_zero]
  simp
theorem cptX_same {l : List S8} {k : Nat} {y : S8} (h : l[k]? = some y) (h0 : 0 < k) (h1 : l[k - 1]? = some y) : cptX l (k + 1) = cptX l k := by unfold cptX; rw [cpt_same h h0 h1]
theorem run41 (l : List S8) (hl : l.length ≤ 1000000) : RunsR Try.prog T 61 (Try.f41.body.getD .skip) Try.f41.results.toList ([]) (hS) (hR 9 1 (l.map D.str)) [.rsl 1000000 1 0 l.length] (fun d bx rw => d = .rsl 1000000 1 0 (compact l).length ∧ bx = [] ∧ rw = hR 9 1 ((compact l ++ List.replicate (l.length - (compact l).length) []).map D.str)) (hS) := by
  refine ⟨Nat.le_of_ble_eq_true rfl, rfl, ?_⟩
  conv => whnf
  refine ifB_intro (fun h2 => ?_) (fun h2 => ?_)
  · have h2 : (l.length : Int) < 2 := of_decide_eq_true h2
    conv => whnf
    have hc : compact l = l := by
      rcases (show l.length = 0 ∨ l.length = 1 from by omega) with e | e
      · rw [List.eq_nil_of_length_eq_zero e]; rfl
      · obtain ⟨x, rfl⟩ := List.length_eq_one_iff.1 e; rfl
    rw [hc]
    exact ⟨rfl, rfl, rfl, by simp [hR]; rfl⟩
  have h2 : ¬ ((l.length : Int) < 2) := of_decide_eq_false h2
  have hc1 : cpt l 1 = l.take 1 := by
    match l, h2 with
    | x :: _, _ => rfl
  conv => whnf
  refine ⟨[], ?_⟩
  conv => whnf
  refine loop_at (σ := Nat) (fun i env => env.setT 3 (.int .i64 (i : Int))) (fun i => l.length - i) (fun i => 1 ≤ i ∧ i ≤ l.length ∧ cpt l i = l.take i) 1 ⟨Nat.le_refl _, by omega, hc1⟩ rfl ?_
  rintro i ⟨hi1, hi2, hci⟩ ih
  conv => whnf
  refine ifB_intro (fun h => ?_) (fun h => ?_)
  · have h : (i : Int) < (l.length : Int) := of_decide_eq_true h
    have hil : i < l.length := by omega
    obtain ⟨y, hy⟩ : ∃ y, l[i]? = some y := ⟨_, List.getElem?_eq_getElem hil⟩
    obtain ⟨z, hz⟩ : ∃ z, l[i - 1]? = some z := ⟨_, List.getElem?_eq_getElem (by omega)⟩
    have hw : IntKind.i64.wrap ((i : Int) + 1) = ((i + 1 : Nat) : Int) := by rw [IntKind.wrap_i64]; omega
    have hk := zero_toNat i
    have hwk : IntKind.i64.wrap ((i : Int) - 1) = ((i - 1 : Nat) : Int) := by rw [IntKind.wrap_i64]; omega
    have hk1 : 0 + Int.toNat (IntKind.i64.wrap ((i : Int) - 1)) = i - 1 := by rw [hwk]; omega
    conv => whnf
    refine ⟨rfl, ?_⟩
    conv => whnf
    refine sideB_intro (fun _ => decide_eq_true (by omega)) ?_
    conv => whnf
    refine fD_of (getD_enc (enc := D.str) (x := y) (by rw [hk]; exact hy)) ?_
    conv => whnf
    refine sideB_intro (fun _ => blt_of (by simp only [List.length_map]; omega)) ?_
    conv => whnf
    refine sideB_intro (fun _ => decide_eq_true (by rw [hwk]; omega)) ?_
    conv => whnf
    refine fD_of (getD_enc (enc := D.str) (x := z) (by rw [hk1]; exact hz)) ?_
    conv => whnf
    refine sideB_intro (fun _ => blt_of (by simp only [List.length_map]; omega)) ?_
    conv => whnf
    refine ifB_intro (fun he => ?_) (fun he => ?_)
    · have he : y = z := by simpa using he
      subst he
      have e1 : (cpt l (i + 1)).length = i := by rw [cpt_same hy (by omega) hz, hci]; simp; omega
      have e2 : cptX l (i + 1) = l := by rw [cptX_same hy (by omega) hz, cptX, hci, List.length_take, Nat.min_eq_left hi2]; exact List.take_append_drop i l
      conv => whnf
      refine sideB_intro (fun _ => decide_eq_true (by omega)) ?_
      conv => whnf
      refine ⟨[], ?_⟩
      conv => whnf
      refine loop_at (σ := Nat) (fun k env => ((env.setT 3 (.int .i64 ((cpt l (i + k)).length : Int))).setT 5 (.int .i64 (k : Int))).setX 1000000 ((cptX l (i + k)).map D.str)) (fun k => l.length - (i + k)) (fun k => 1 ≤ k ∧ i + k ≤ l.length ∧ (cpt l (i + k)).length + 1 ≤ i + k) 1 ⟨Nat.le_refl _, by omega, by omega⟩ (by simp only [e1, e2]; rfl) ?_
      rintro k ⟨hk1', hk2', hk3'⟩ ih2
      have hlen := cptX_length hk2'
      have hcl := cpt_le l (i + k)
      conv => whnf
      refine ifB_intro (fun h => ?_) (fun h => ?_)
      · have h : (k : Int) < (((l.length : Int).toNat - (i : Int).toNat : Nat) : Int) := of_decide_eq_true h
        have hil2 : i + k < l.length := by omega
        obtain ⟨a, ha⟩ : ∃ a, l[i + k]? = some a := ⟨_, List.getElem?_eq_getElem hil2⟩
        obtain ⟨b, hb⟩ : ∃ b, l[i + k - 1]? = some b := ⟨_, List.getElem?_eq_getElem (by omega)⟩
        have hga := cptX_get (l := l) (k := i + k) (j := i + k) (by omega)
        have hgb := cptX_get (l := l) (k := i + k) (j := i + k - 1) (by omega)
        rw [ha] at hga
        rw [hb] at hgb
        have qw : IntKind.i64.wrap ((k : Int) + 1) = ((k + 1 : Nat) : Int) := by rw [IntKind.wrap_i64]; omega
        have qwk : IntKind.i64.wrap ((k : Int) - 1) = ((k - 1 : Nat) : Int) := by rw [IntKind.wrap_i64]; omega
        have qk : 0 + Int.toNat (i : Int) + Int.toNat (k : Int) = i + k := by omega
        have qk1 : 0 + Int.toNat (i : Int) + Int.toNat (IntKind.i64.wrap ((k : Int) - 1)) = i + k - 1 := by rw [qwk]; omega
        conv => whnf
        refine ⟨rfl, ?_⟩
        conv => whnf
        refine sideB_intro (fun _ => decide_eq_true (by omega)) ?_
        conv => whnf
        refine fD_of (getD_enc (enc := D.str) (x := a) (by rw [qk]; exact hga)) ?_
        conv => whnf
        refine sideB_intro (fun _ => blt_of (by simp only [List.length_map]; omega)) ?_
        conv => whnf
        refine sideB_intro (fun _ => decide_eq_true (by rw [qwk]; omega)) ?_
        conv => whnf
        refine fD_of (getD_enc (enc := D.str) (x := b) (by rw [qk1]; exact hgb)) ?_
        conv => whnf
        refine sideB_intro (fun _ => blt_of (by simp only [List.length_map]; omega)) ?_
        conv => whnf
        refine ifB_intro (fun he => ?_) (fun he => ?_)
        · have he : a ≠ b := by simpa using he
          have hset := cptX_set (l := l) (k := i + k) ha (by omega) hb he
          have hnew := cpt_new (l := l) (k := i + k) ha (by omega) hb he
          have qc := zero_toNat (cpt l (i + k)).length
          have qcw : IntKind.i64.wrap (((cpt l (i + k)).length : Int) + 1) = ((cpt l (i + (k + 1))).length : Int) := by
            rw [IntKind.wrap_i64, show i + (k + 1) = i + k + 1 from rfl, hnew]
            simp only [List.length_append, List.length_singleton]
            omega
          have ih3 := ih2 (k + 1) ⟨by omega, by omega, by rw [show i + (k + 1) = i + k + 1 from rfl, hnew]; simp; omega⟩ (by omega)
          conv => whnf
          refine sideB_intro (fun _ => decide_eq_true (by omega)) ?_
          conv => whnf
          refine fD_of (getD_enc (enc := D.str) (x := a) (by rw [qk]; exact hga)) ?_
          conv => whnf
          refine sideB_intro (fun _ => blt_of (by simp only [List.length_map]; omega)) ?_
          conv => whnf
          refine sideB_intro (fun _ => decide_eq_true (by omega)) ?_
          conv => whnf
          refine sideB_intro (fun _ => blt_of (by simp only [List.length_map]; omega)) ?_
          conv => whnf
          rw [qw, qc, set_enc (enc := D.str) (x := a) rfl, hset, qcw]
          exact ih3
        · have he : a = b := by simpa using he
          subst he
          have hsame := cpt_same (l := l) (k := i + k) ha (by omega) hb
          have hsameX := cptX_same (l := l) (k := i + k) ha (by omega) hb
          have ih3 := ih2 (k + 1) ⟨by omega, by omega, by rw [show i + (k + 1) = i + k + 1 from rfl, hsame]; omega⟩ (by omega)
          rw [show i + (k + 1) = i + k + 1 from rfl, hsame, hsameX] at ih3
          conv => whnf
          rw [qw]
          exact ih3
      · have h : ¬ ((k : Int) < (((l.length : Int).toNat - (i : Int).toNat : Nat) : Int)) := of_decide_eq_false h
        have hik : i + k = l.length := by omega
        have hcc : cpt l (i + k) = compact l := by rw [hik]; rfl
        conv => whnf
        refine sideB_intro (fun _ => decide_eq_true (by omega)) ?_
        conv => whnf
        refine sideB_intro (fun _ => ble_of (by simp only [List.length_map]; omega)) ?_
        conv => whnf
        refine sideB_intro (fun _ => decide_eq_true (by omega)) ?_
        conv => whnf
        have hx : ((cptX l (i + k)).map D.str).take (0 + ((cpt l (i + k)).length : Int).toNat) ++ List.replicate ((l.length : Int).toNat - ((cpt l (i + k)).length : Int).toNat) (D.str []) ++ ((cptX l (i + k)).map D.str).drop (0 + ((cpt l (i + k)).length : Int).toNat + ((l.length : Int).toNat - ((cpt l (i + k)).length : Int).toNat)) = (compact l ++ List.replicate (l.length - (compact l).length) []).map D.str := by
          rw [List.drop_eq_nil_of_le (by simp only [List.length_map]; omega), List.append_nil, ← List.map_take, List.map_append, List.map_replicate]
          simp only [Int.toNat_natCast, Nat.zero_add]
          rw [← hcc]
          congr 2
          exact List.take_left
        exact ⟨rfl, by rw [← hcc]; rfl, rfl, congrArg (hR 9 1) hx⟩
    · have he : y ≠ z := by simpa using he
      conv => whnf
      rw [hw]
      refine ih (i + 1) ⟨by omega, by omega, ?_⟩ (by omega)
      rw [cpt_new hy (by omega) hz he, hci, List.take_add_one, hy]; rfl
  · have h : ¬ ((i : Int) < (l.length : Int)) := of_decide_eq_false h
    have hi : i = l.length := by omega
    subst hi
    have hc : compact l = l := by rw [compact, hci, List.take_length]
    conv => whnf
    rw [hc]
    exact ⟨rfl, rfl, rfl, by simp [hR]; rfl⟩
theorem call41 (l : List S8) (hl : l.length ≤ 1000000) : CallsR Try.prog 41 [] hS (hR 9 1 (l.map D.str)) [.rsl 1000000 1 0 l.length] (.rsl 1000000 1 0 (compact l).length) [] hS (hR 9 1 ((compact l ++ List.replicate (l.length - (compact l).length) []).map D.str)) := callsR_imp (callsR Try.func41 rfl (by decide) (run41 l hl)) fun a b c h => h
end Go.Proofs.Ytbfgendaafediaa.Fw

/- First of each key, by key. -/
namespace Go.Proofs.Ytbfgendaafediaa.Fw
open Go Go.RowKit
set_option maxRecDepth 100000
set_option maxHeartbeats 4000000

theorem s8Enc {m u : List Nat} : KeyEnc (Tm m u) 9 D.str := ⟨fun a b => by
    show (eqCs [.str a] [.str b]).getD false = _
    simp [eqCs, eqD, beq_dec], fun a b => by
    conv => lhs; whnf
    dsimp only
    generalize (a == b) = p
    cases p <;> rfl, fun _ => rfl⟩
def has (K : List S8) (k : S8) : Bool := decide (k ∈ K)
/-- The first of each key, and the keys, of the first k. -/
def fSt (l : List Ext) : Nat → List Ext × List S8
  | 0 => ([], [])
  | k + 1 => match l[k]? with
    | none => fSt l k
    | some e => (bif has (fSt l k).2 e.key then (fSt l k).1 else (fSt l k).1 ++ [e], insS e.key (fSt l k).2)
theorem fSt_le (l : List Ext) : ∀ k, (fSt l k).1.length ≤ k
  | 0 => Nat.le_refl _
  | k + 1 => by
    have ih := fSt_le l k
    unfold fSt
    split
    · omega
    · simp only
      cases has (fSt l k).2 _ with
      | true => rw [cond_true]; omega
      | false => rw [cond_false]; simp; omega
def firsts (l : List Ext) : List Ext := (fSt l l.length).1
abbrev Tf := Tm [68] [47]
theorem run42 (l : List Ext) (hl : l.length ≤ 12) : RunsR Try.prog Tf 30 (Try.f42.body.getD .skip) Try.f42.results.toList ([]) ([]) ([]) [.sl 0 2 (l.map Ext.d)] (fun d bx rw => d = .rsl 2 2 0 (firsts l).length ∧ bx = [] ∧ rw = [(2, ⟨47, 2, (isort ltk (firsts l)).map Ext.d, false⟩)]) ([(2, rowMark)]) := by
  refine ⟨Nat.le_of_ble_eq_true rfl, rfl, ?_⟩
  conv => whnf
  refine ⟨[.rowT 4 47 2], ?_⟩
  conv => whnf
  refine loop_at (σ := Nat) (fun i env => (((env.setT 10 (.int .i64 (i : Int))).setT 4 (.rsl 2 2 0 (fSt l i).1.length)).setX 2 ((fSt l i).1.map Ext.d)).setM 7 ((fSt l i).2.map D.str) ((fSt l i).2.map fun _ => .bool true)) (fun i => l.length - i) (fun i => i ≤ l.length) 0 (Nat.zero_le _) rfl ?_
  rintro i hi ih
  conv => whnf
  refine ifB_intro (fun h => ?_) (fun h => ?_)
  · have h : (i : Int) < ((l.map Ext.d).length : Int) := of_decide_eq_true h
    rw [List.length_map] at h
    have hlt : i < l.length := by omega
    obtain ⟨e, he⟩ : ∃ e, l[i]? = some e := ⟨_, List.getElem?_eq_getElem hlt⟩
    have hw : IntKind.i64.wrap ((i : Int) + 1) = ((i + 1 : Nat) : Int) := by rw [IntKind.wrap_i64]; omega
    have ih' := ih (i + 1) hlt (by omega)
    have hle := fSt_le l i
    rw [fSt, he] at ih'
    revert ih' hle
    generalize fSt l i = q
    obtain ⟨G, K⟩ := q
    intro ih' hle
    dsimp only at ih'
    replace hle : G.length ≤ i := hle
    have fits : keysFit Tf 9 (.str e.key) (K.map D.str) = true := keysFit_enc s8Enc e.key K
    have look : findD (.str e.key) (K.map D.str) (K.map fun _ => .bool true) = bif has K e.key then some (.bool true) else none := by
      rw [findD_set (s8Enc (m := []) (u := []))]
      by_cases h : e.key ∈ K <;> simp [has, h]
    have hput : putD (.str e.key) (.bool true) (K.map D.str) (K.map fun _ => .bool true) = ((insS e.key K).map D.str, (insS e.key K).map fun _ => .bool true) := putD_set (s8Enc (m := []) (u := [])) _ e.key K
    have hlen1 : (G ++ [e]).length = G.length + 1 := by simp
    have happ : (G ++ [e]).map Ext.d = List.take G.length (G.map Ext.d) ++ [D.agg [D.str e.key, D.sl 0 1 (e.subs.map D.str)]] := by
      rw [List.take_of_length_le (by simp), List.map_append]; rfl
    conv => whnf
    refine sideB_intro (fun _ => decide_eq_true (by simp only [List.length_map]; omega)) ?_
    rw [getD_enc (enc := Ext.d) (x := e) (show l[(i : Int).toNat]? = some e from he)]
    conv => whnf
    refine sideB_intro (fun _ => fits) ?_
    conv => whnf
    refine fO_of look ?_
    cases hc : has K e.key with
    | true =>
      rw [hc, cond_true] at ih'
      conv => whnf
      refine ⟨fits, ?_⟩
      conv => whnf
      rw [hw, hput]
      exact ih'
    | false =>
      rw [hc, cond_false, hlen1, happ] at ih'
      conv => whnf
      refine sideB_intro (fun _ => ?_) ?_
      · simp [appendSide]; omega
      conv => whnf
      refine ⟨fits, ?_⟩
      conv => whnf
      rw [hw, hput]
      exact ih'
  · conv => whnf
    refine ⟨⟨[], [(1000000, 2)], .tup [], [], hS, hR 47 2 ((isort ltk (fSt l i).1).map Ext.d)⟩, ?_⟩
    conv => whnf
    refine ⟨rfl, call68 (fSt l i).1 (by have := fSt_le l i; omega), ?_⟩
    conv => whnf
    have h : ¬ ((i : Int) < ((l.map Ext.d).length : Int)) := of_decide_eq_false h
    rw [List.length_map] at h
    have hf : fSt l i = fSt l l.length := by rw [show i = l.length from by omega]
    rw [hf]
    have hlen : (isort ltk (firsts l)).length = (firsts l).length := sortTo_length ltk _ _
    exact ⟨rfl, rfl, rfl, rfl⟩
theorem call42 (l : List Ext) (hl : l.length ≤ 12) : CallsR Try.prog 42 [] [] [] [.sl 0 2 (l.map Ext.d)] (.rsl 2 2 0 (firsts l).length) [] [(2, rowMark)] [(2, ⟨47, 2, (isort ltk (firsts l)).map Ext.d, false⟩)] := callsR_imp (callsR Try.func42 rfl (by decide) (run42 l hl)) fun a b c h => h
end Go.Proofs.Ytbfgendaafediaa.Fw

/- Ordering of keywords. -/
namespace Go.Proofs.Ytbfgendaafediaa.Fw
open Go Go.RowKit
set_option maxRecDepth 100000
set_option maxHeartbeats 4000000

def TRUE : S8 := [116, 114, 117, 101]
def noTrue (e : Ext) : Ext := if e.subs = [TRUE] then ⟨e.key, []⟩ else e
def orderK (k : Kws) : Kws := ⟨compact (isort lt8 k.attrs), (isort ltk (firsts k.keys)).map noTrue⟩
def noTrueD (e : Ext) : D := if e.subs = [TRUE] then .agg [.str e.key, .sl 0 0 []] else e.d
def rowI (G : List Ext) (i : Nat) : List D := (G.take i).map noTrueD ++ (G.drop i).map Ext.d
theorem rowI_get {G : List Ext} {i : Nat} {e : Ext} (h : G[i]? = some e) : (rowI G i).getD i .undef = e.d := by
  have hlt := (List.getElem?_eq_some_iff.1 h).1
  unfold rowI
  rw [List.getD_eq_getElem?_getD, List.getElem?_append_right (by rw [List.length_map, List.length_take]; omega), List.length_map, List.length_take, Nat.min_eq_left (by omega), Nat.sub_self, List.getElem?_map, List.getElem?_drop, Nat.add_zero, h]
  rfl
theorem rowI_set {G : List Ext} {i : Nat} {e : Ext} (h : G[i]? = some e) : (rowI G i).set i (noTrueD e) = rowI G (i + 1) := by
  have hlt := (List.getElem?_eq_some_iff.1 h).1
  unfold rowI
  have hd : G.drop i = e :: G.drop (i + 1) := by
    rw [List.drop_eq_getElem_cons hlt, (List.getElem?_eq_some_iff.1 h).2]
  rw [hd, List.map_cons, List.set_append, if_neg (by rw [List.length_map, List.length_take]; omega), List.length_map, List.length_take, Nat.min_eq_left (by omega), Nat.sub_self, List.set_cons_zero, List.take_add_one, h, Option.toList_some, List.map_append, List.append_assoc]
  rfl
theorem rowI_len (G : List Ext) (i : Nat) : (rowI G i).length = G.length := by
  unfold rowI; rw [List.length_append, List.length_map, List.length_map, List.length_take, List.length_drop]; omega
theorem set_self {α : Type} {l : List α} {i : Nat} {d : α} (h : l[i]? = some d) : l.set i d = l := by
  apply List.ext_getElem? ; intro j
  rw [List.getElem?_set]
  split
  · rename_i e; subst e
    split
    · exact h.symm
    · rename_i hn; exact absurd (List.getElem?_eq_some_iff.1 h).1 hn
  · rfl
theorem rowI_same {G : List Ext} {i : Nat} {e : Ext} (h : G[i]? = some e) (hn : e.subs ≠ [TRUE]) : rowI G i = rowI G (i + 1) := by
  rw [← rowI_set h]
  have hd : noTrueD e = e.d := if_neg hn
  have hlt := (List.getElem?_eq_some_iff.1 h).1
  have hg := rowI_get h
  rw [List.getD_eq_getElem?_getD] at hg
  have : (rowI G i)[i]? = some e.d := by
    have hl : i < (rowI G i).length := by rw [rowI_len]; exact hlt
    rw [List.getElem?_eq_getElem hl] at hg ⊢
    simpa using hg
  rw [hd, set_self this]
abbrev To := Tm [39, 40, 41, 42] [9, 47]
theorem run26 (k : Kws) (h1 : k.attrs.length ≤ 12) (h2 : k.keys.length ≤ 12) : RunsR Try.prog To 37 (Try.f26.body.getD .skip) Try.f26.results.toList ([]) ([]) ([]) [k.d] (fun d bx rw => d = .agg [.rsl 4 1 0 (compact (isort lt8 k.attrs)).length, .rsl 2 2 0 (firsts k.keys).length] ∧ bx = [] ∧ rw = [(4, ⟨9, 1, (compact (isort lt8 k.attrs) ++ List.replicate (k.attrs.length - (compact (isort lt8 k.attrs)).length) []).map D.str, false⟩), (2, ⟨47, 2, (isort ltk (firsts k.keys)).map noTrueD, false⟩)]) ([(4, rowMark), (2, rowMark)]) := by
  refine ⟨Nat.le_of_ble_eq_true rfl, rfl, ?_⟩
  conv => whnf
  refine ⟨⟨[], [], .rsl 17 1 0 k.attrs.length, [], [(17, rowMark)], [(17, ⟨9, 1, k.attrs.map D.str, false⟩)]⟩, ?_⟩
  conv => whnf
  refine ⟨rfl, call39 k.attrs (by omega), ?_⟩
  conv => whnf
  refine ⟨⟨[], [(1000000, 2291)], .tup [], [], hS, hR 9 1 ((isort lt8 k.attrs).map D.str)⟩, ?_⟩
  conv => whnf
  refine ⟨rfl, call40 k.attrs h1, ?_⟩
  conv => whnf
  have hsl : (isort lt8 k.attrs).length = k.attrs.length := sortTo_length lt8 _ _
  have hc41 := call41 (isort lt8 k.attrs) (by omega)
  rw [hsl] at hc41
  have hc42 := call42 k.keys h2
  have hgl : (isort ltk (firsts k.keys)).length = (firsts k.keys).length := sortTo_length ltk _ _
  have hfl : (firsts k.keys).length ≤ 12 := Nat.le_trans (fSt_le k.keys k.keys.length) h2
  generalize isort lt8 k.attrs = S at hc41 hsl
  generalize isort ltk (firsts k.keys) = G at hc42 hgl
  refine ⟨[(0, ?e1_0), (1, ?e1_1), (5, ?e1_2), (7, ?e1_3), (13, ?e1_4), (69, ?e1_5), (15, ?e1_6), (71, ?e1_7), (77, ?e1_8), (31, ?e1_9), (79, ?e1_10), (63, ?e1_11), (95, ?e1_12), (127, ?e1_13), (255, ?e1_14)], ?eF1, ?_, ?_, ?_⟩
  rotate_left 16
  · exact rfl
  refine tab_F rfl fun F hF => ?_
  obtain ⟨hF0, hF1, hF5, hF7, hF13, hF69, hF15, hF71, hF77, hF31, hF79, hF63, hF95, hF127, hF255, -⟩ := hF
  refine tab_1 rfl ?_ ?_
  · conv => whnf
    exact hF1
  refine tab_1 rfl ?_ ?_
  · conv => whnf
    exact hF5
  refine tab_3 rfl ?_ ?_ ?_ ?_
  · conv => whnf
    refine ⟨⟨[], [(1000000, 2291)], .rsl 1000000 1 0 (compact S).length, [], hS, hR 9 1 ((compact S ++ List.replicate (k.attrs.length - (compact S).length) []).map D.str)⟩, ?_⟩
    conv => whnf
    refine ⟨rfl, hc41, ?_⟩
    conv => whnf
    exact hF7
  · conv => whnf
    exact hF13
  · conv => whnf
    exact hF69
  refine tab_2 rfl ?_ ?_ ?_
  · conv => whnf
    exact hF15
  · conv => whnf
    exact hF71
  refine tab_2 rfl ?_ ?_ ?_
  · conv => whnf
    refine ⟨⟨[], [(1000000, 2291)], .rsl 1000000 1 0 (compact S).length, [], hS, hR 9 1 ((compact S ++ List.replicate (k.attrs.length - (compact S).length) []).map D.str)⟩, ?_⟩
    conv => whnf
    refine ⟨rfl, hc41, ?_⟩
    conv => whnf
    exact hF15
  · conv => whnf
    exact hF77
  refine tab_2 rfl ?_ ?_ ?_
  · conv => whnf
    refine ⟨⟨[], [(1000000, 2291)], .rsl 1000000 1 0 (compact S).length, [], hS, hR 9 1 ((compact S ++ List.replicate (k.attrs.length - (compact S).length) []).map D.str)⟩, ?_⟩
    conv => whnf
    refine ⟨rfl, hc41, ?_⟩
    conv => whnf
    exact hF71
  · conv => whnf
    exact hF77
  refine tab_2 rfl ?_ ?_ ?_
  · conv => whnf
    refine ⟨⟨[], [], .rsl 2 2 0 (firsts k.keys).length, [], [(2, rowMark)], [(2, ⟨47, 2, G.map Ext.d, false⟩)]⟩, ?_⟩
    conv => whnf
    refine ⟨rfl, hc42, ?_⟩
    conv => whnf
    exact hF31
  · conv => whnf
    exact hF79
  refine tab_1 rfl ?_ ?_
  · conv => whnf
    exact hF79
  refine tab_1 rfl ?_ ?_
  · conv => whnf
    refine ⟨⟨[], [(1000000, 2291)], .rsl 1000000 1 0 (compact S).length, [], hS, hR 9 1 ((compact S ++ List.replicate (k.attrs.length - (compact S).length) []).map D.str)⟩, ?_⟩
    conv => whnf
    refine ⟨rfl, hc41, ?_⟩
    conv => whnf
    exact hF79
  refine tab_2 rfl ?_ ?_ ?_
  · conv => whnf
    exact hF63
  · conv => whnf
    exact hF95
  refine tab_1 rfl ?_ ?_
  · conv => whnf
    refine ⟨⟨[], [], .rsl 2 2 0 (firsts k.keys).length, [], [(2, rowMark)], [(2, ⟨47, 2, G.map Ext.d, false⟩)]⟩, ?_⟩
    conv => whnf
    refine ⟨rfl, hc42, ?_⟩
    conv => whnf
    exact hF95
  refine tab_1 rfl ?_ ?_
  · conv => whnf
    exact hF127
  refine tab_1 rfl ?_ ?_
  · conv => whnf
    exact hF127
  refine tab_1 rfl ?_ ?_
  · conv => whnf
    exact hF255
  refine tab_0 rfl ?_ trivial
  · conv => whnf
    try exact rfl
  refine ⟨rfl, ?_⟩
  conv => whnf
  refine ⟨[], ?_⟩
  conv => whnf
  refine loop_at (σ := Nat) (fun i env => (env.setT 21 (.int .i64 (i : Int))).setX 2 (rowI G i)) (fun i => G.length - i) (fun i => i ≤ G.length) 0 (Nat.zero_le _) rfl ?_
  rintro i hi ih
  conv => whnf
  refine ifB_intro (fun h => ?_) (fun h => ?_)
  · have h : (i : Int) < ((firsts k.keys).length : Int) := of_decide_eq_true h
    have hlt : i < G.length := by omega
    obtain ⟨e, he⟩ : ∃ e, G[i]? = some e := ⟨_, List.getElem?_eq_getElem hlt⟩
    have hw : IntKind.i64.wrap ((i : Int) + 1) = ((i + 1 : Nat) : Int) := by rw [IntKind.wrap_i64]; omega
    have hz : 0 + ((i : Nat) : Int).toNat = i := by omega
    have ih' := ih (i + 1) hlt (by omega)
    conv => whnf
    refine sideB_intro (fun _ => decide_eq_true (by omega)) ?_
    conv => whnf
    refine fD_of (show _ = e.d from by dsimp only; rw [hz]; exact rowI_get he) ?_
    conv => whnf
    have hbl : Nat.blt (0 + ((i : Nat) : Int).toNat) (rowI G i).length = true := blt_of (by rw [hz, rowI_len]; exact hlt)
    refine sideB_intro (fun _ => hbl) ?_
    conv => whnf
    refine ⟨_, fun _ => call43 e.subs [TRUE] (.inr (by decide)), ?_⟩
    conv => whnf
    refine ifB_intro (fun hb => ?_) (fun hb => ?_)
    · have hb : e.subs = [TRUE] := of_decide_eq_true hb
      have hset : (rowI G i).set i (.agg [.str e.key, .sl 0 0 []]) = rowI G (i + 1) := by
        rw [← rowI_set he, noTrueD, if_pos hb]
      conv => whnf
      refine sideB_intro (fun _ => decide_eq_true (by omega)) ?_
      conv => whnf
      refine fD_of (show _ = e.d from by dsimp only; rw [hz]; exact rowI_get he) ?_
      conv => whnf
      refine sideB_intro (fun _ => hbl) ?_
      conv => whnf
      rw [hw]
      conv at ih' => rw [← hset]
      simp only [hz]
      exact ih'
    · have hb : ¬ e.subs = [TRUE] := of_decide_eq_false hb
      have hs := rowI_same he hb
      conv => whnf
      rw [hw, hs]
      exact ih'
  · have h : ¬ ((i : Int) < ((firsts k.keys).length : Int)) := of_decide_eq_false h
    have hf : rowI G i = G.map noTrueD := by
      unfold rowI; rw [List.take_of_length_le (by omega), List.drop_of_length_le (by omega), List.map_nil, List.append_nil]
    rw [hf]
    conv => whnf
    exact ⟨rfl, rfl, rfl, rfl⟩
end Go.Proofs.Ytbfgendaafediaa.Fw

/- What is read is written to the same; read again it is the same. -/
namespace Go.Proofs.Ytbfgendaafediaa.Fw
open Go Go.RowKit
set_option maxRecDepth 100000
set_option maxHeartbeats 4000000

theorem lowB_idem (b : UInt8) : lowB (lowB b) = lowB b := by
  have h : (lowB (lowB b)).toNat = (lowB b).toNat := by
    rw [lowB_int (lowB b), lowB_int b]
    split <;> (try split) <;> omega
  exact UInt8.toNat_inj.1 h
theorem low_idem (s : S8) : low (low s) = low s := by
  unfold low
  rw [List.map_map]
  exact List.map_congr_left fun b _ => lowB_idem b
theorem low_len (s : S8) : (low s).length = s.length := by unfold low; rw [List.length_map]
theorem map_low_idem (l : List S8) : (l.map low).map low = l.map low := by
  rw [List.map_map]
  exact List.map_congr_left fun s _ => low_idem s
theorem readK_w : ∀ (n : Nat) (l : List S8), l.length ≤ n → (∀ x ∈ l.head?, nk x = false) → (readK l).flatMap Ext.w = l
  | 0, l, h, _ => by rw [List.eq_nil_of_length_eq_zero (by omega : l.length = 0)]; rfl
  | n + 1, [], _, _ => rfl
  | n + 1, k :: r, h, hk => by
    have hd := (List.dropWhile_suffix nk (l := r)).length_le
    simp only [List.length_cons] at h
    have ih := readK_w n (r.dropWhile nk) (by omega) (fun x hx => by
      have := List.head?_dropWhile_not nk r
      cases hd : (r.dropWhile nk).head? with
      | none => rw [hd] at hx; cases hx
      | some y =>
        rw [hd] at hx this
        cases hx
        simpa using this)
    rw [readK_cons, List.flatMap_cons, ih]
    simp [Ext.w, List.takeWhile_append_dropWhile]
theorem readS_w (l : List S8) : (readS l).w = l.map low := by
  unfold readS Kws.w
  rw [readK_w _ _ (Nat.le_refl _) (fun x hx => by
    have := List.head?_dropWhile_not nk (l.map low)
    cases hd : ((l.map low).dropWhile nk).head? with
    | none => rw [hd] at hx; cases hx
    | some y =>
      rw [hd] at hx this
      cases hx
      simpa using this), List.takeWhile_append_dropWhile]
theorem readS_low (l : List S8) : readS (l.map low) = readS l := by
  unfold readS; rw [map_low_idem]
theorem fewS_len (l : List S8) (n : Nat) : (fewS l n).length ≤ n := by
  unfold fewS; rw [List.length_map, List.length_take]; omega
theorem fewS_mem {l : List S8} {n : Nat} {s : S8} (h : s ∈ fewS l n) : s.length ≤ 9 := by
  unfold fewS at h
  obtain ⟨x, _, rfl⟩ := List.mem_map.1 h
  unfold cut9; rw [List.length_take]; omega
theorem readK_mem : ∀ (n : Nat) (l : List S8), l.length ≤ n → ∀ e ∈ readK l, e.subs.length ≤ l.length ∧ e.key ∈ l ∧ ∀ s ∈ e.subs, s ∈ l
  | 0, l, h, e, he => by rw [List.eq_nil_of_length_eq_zero (by omega : l.length = 0)] at he; cases he
  | n + 1, [], _, e, he => by cases he
  | n + 1, k :: r, h, e, he => by
    have hd := (List.dropWhile_suffix nk (l := r)).length_le
    have ht := (List.takeWhile_prefix nk (l := r)).length_le
    simp only [List.length_cons] at h
    rw [readK_cons] at he
    rcases List.mem_cons.1 he with rfl | he
    · exact ⟨by simp only [List.length_cons]; omega, List.mem_cons_self .., fun s hs => List.mem_cons_of_mem _ ((List.takeWhile_prefix nk).subset hs)⟩
    · have ih := readK_mem n (r.dropWhile nk) (by omega) e he
      exact ⟨by simp only [List.length_cons]; omega, List.mem_cons_of_mem _ ((List.dropWhile_suffix nk).subset ih.2.1), fun s hs => List.mem_cons_of_mem _ ((List.dropWhile_suffix nk).subset (ih.2.2 s hs))⟩
theorem readS_small (l : List S8) (h : l.length ≤ 1000000) : (readS l).small := by
  have hd := (List.dropWhile_suffix nk (l := l.map low)).length_le
  have ht := (List.takeWhile_prefix nk (l := l.map low)).length_le
  rw [List.length_map] at hd ht
  refine ⟨by unfold readS; simp only; omega, ?_, fun e he => ?_⟩
  · have := readK_len _ ((l.map low).dropWhile nk) (Nat.le_refl _)
    unfold readS; simp only; omega
  · have := (readK_mem _ _ (Nat.le_refl _) e he).1
    omega
theorem run5 (l : List S8) (hl : l.length ≤ maxLen) (h17 : CallsTo Try.prog 17 [] (.bool true)) : Runs Try.prog T 44 (Try.f5.body.getD .skip) Try.f5.results.toList [.sl 0 1 (l.map D.str)] (.bool true) := by
  refine ⟨Nat.le_of_ble_eq_true rfl, ?_⟩
  conv => whnf
  refine ⟨_, fun _ => h17, ?_⟩
  conv => whnf
  refine ⟨_, fun _ => call18 l 10 hl (by decide), ?_⟩
  conv => whnf
  have hF := fewS_len l 10
  have hm : ∀ s ∈ fewS l 10, s.length ≤ 1000000 := fun s hs => Nat.le_trans (fewS_mem hs) (by decide)
  generalize fewS l 10 = F at hF hm
  refine ⟨_, fun _ => call21 F (by omega) hm, ?_⟩
  conv => whnf
  have hc := call24 (readS F) (by rw [readS_w, List.length_map]; omega)
  rw [readS_w] at hc
  refine ⟨_, fun _ => hc, ?_⟩
  conv => whnf
  refine ifB_intro (fun h => ?_) (fun h => ?_)
  · simp at h
  · conv => whnf
    refine ⟨[], ?_⟩
    conv => whnf
    refine loop_at (σ := Nat) (fun i env => (env.setT 6 (.int .i64 (i : Int)))) (fun i => F.length - i) (fun i => i ≤ F.length) 0 (Nat.zero_le _) rfl ?_
    rintro i hi ih
    conv => whnf
    refine ifB_intro (fun h2 => ?_) (fun h2 => ?_)
    · have h2 : (i : Int) < ((F.map D.str).length : Int) := of_decide_eq_true h2
      rw [List.length_map] at h2
      have hlt : i < F.length := by omega
      obtain ⟨x, hx⟩ : ∃ x, F[i]? = some x := ⟨_, List.getElem?_eq_getElem hlt⟩
      have hx2 : (F.map low)[i]? = some (low x) := by rw [List.getElem?_map, hx]; rfl
      have hw : IntKind.i64.wrap ((i : Int) + 1) = ((i + 1 : Nat) : Int) := by rw [IntKind.wrap_i64]; omega
      have ih' := ih (i + 1) hlt (by omega)
      conv => whnf
      refine ⟨rfl, ?_⟩
      conv => whnf
      refine sideB_intro (fun _ => decide_eq_true (by simp only [List.length_map]; omega)) ?_
      rw [getD_enc (enc := D.str) (x := low x) (show (F.map low)[(i : Int).toNat]? = some (low x) from hx2)]
      conv => whnf
      refine sideB_intro (fun _ => decide_eq_true (by simp only [List.length_map]; omega)) ?_
      rw [getD_enc (enc := D.str) (x := x) (show F[(i : Int).toNat]? = some x from hx)]
      conv => whnf
      refine ⟨_, fun _ => call28 x (hm x (List.mem_of_getElem? hx)), ?_⟩
      conv => whnf
      refine ifB_intro (fun h3 => ?_) (fun h3 => ?_)
      · have h3 : (!(low x == low x)) = true := h3
        simp at h3
      · conv => whnf
        rw [hw]
        exact ih'
    · conv => whnf
      refine ⟨rfl, ?_⟩
      conv => whnf
      have hc21 := call21 (F.map low) (by rw [List.length_map]; omega) (fun s hs => by
        obtain ⟨y, hy, rfl⟩ := List.mem_map.1 hs
        rw [low_len]; exact hm y hy)
      rw [readS_low] at hc21
      refine ⟨_, fun _ => hc21, ?_⟩
      conv => whnf
      refine ⟨_, fun _ => call20 (readS F) (readS F) (readS_small F (by omega)), ?_⟩
      conv => whnf
      have e : decide (readS F = readS F) = true := decide_eq_true rfl
      rw [e]
      exact ⟨rfl, rfl⟩
theorem call5 (l : List S8) (hl : l.length ≤ maxLen) (h17 : CallsTo Try.prog 17 [] (.bool true)) : CallsTo Try.prog 5 [.sl 0 1 (l.map D.str)] (.bool true) := calls Try.func5 rfl (by decide) (run5 l hl h17)
end Go.Proofs.Ytbfgendaafediaa.Fw

/- Rows that read the same; ordering, told in two ways; the chapter's example. -/
namespace Go.Proofs.Ytbfgendaafediaa.Fw
open Go Go.RowKit
set_option maxRecDepth 100000
set_option maxHeartbeats 4000000

structure ElEq (d d' : D) : Prop where
  rep : All2 RkD d.cells d'.cells
  agg : d.isAgg = d'.isAgg
  cell : d.cells.all D.isCell = true → d'.cells.all D.isCell = true
structure RowEq (r r' : RowC) : Prop where
  u : r.u = r'.u
  es : r.es = r'.es
  sh : r.sh = r'.sh
  xs : All2 ElEq r.xs r'.xs
theorem RkD.rfl' (d : D) : RkD d d := fun _ _ _ h => h
theorem all2_rk {I : Im} {w : World} : ∀ {cs cs' : List D} {vs : List Value}, All2 RkD cs cs' → All2 (Rep I w) cs vs → All2 (Rep I w) cs' vs
  | [], [], [], _, _ => trivial
  | _ :: _, _ :: _, _ :: _, h, k => ⟨h.1 _ _ _ k.1, all2_rk h.2 k.2⟩
  | [], [], _ :: _, _, k => k.elim
  | [], _ :: _, _, h, _ => h.elim
  | _ :: _, [], _, h, _ => h.elim
  | _ :: _, _ :: _, [], _, k => k.elim
theorem all2_elEq : ∀ {xs ys : List D}, All2 ElEq xs ys → All2 RkD (xs.flatMap D.cells) (ys.flatMap D.cells)
  | [], [], _ => trivial
  | x :: xs, y :: ys, h => by
    rw [List.flatMap_cons, List.flatMap_cons]
    exact h.1.rep.append (all2_elEq h.2)
  | [], _ :: _, h => h.elim
  | _ :: _, [], h => h.elim
theorem all2_mem {α β : Type} {R : α → β → Prop} : ∀ {xs : List α} {ys : List β}, All2 R xs ys → ∀ b ∈ ys, ∃ a ∈ xs, R a b
  | [], [], _, b, hb => by cases hb
  | a :: xs, b' :: ys, h, b, hb => by
    rcases List.mem_cons.1 hb with rfl | hb
    · exact ⟨a, List.mem_cons_self .., h.1⟩
    · obtain ⟨a', h1, h2⟩ := all2_mem h.2 b hb
      exact ⟨a', List.mem_cons_of_mem _ h1, h2⟩
  | [], _ :: _, h, _, _ => h.elim
  | _ :: _, [], h, _, _ => h.elim
theorem rowOK_eq {c : Ctx} {env : Env} {w : World} {st : Nat} {r r' : RowC} (h : RowOK c env w st r) (e : RowEq r r') : RowOK c env w st r' := by
  obtain ⟨u, es, xs, sh⟩ := r
  obtain ⟨u', es', xs', sh'⟩ := r'
  obtain ⟨e1, e2, e3, e4⟩ := e
  simp only at e1 e2 e3 e4
  subst e1; subst e2; subst e3
  obtain ⟨h1, h2, h3⟩ := h
  refine ⟨h1, h2, h3.imp id fun h3 => ⟨h3.1, ?_⟩⟩
  have h4 := h3.2
  cases hs : c.σ st with
  | none =>
    rw [hs] at h4
    simp only at h4 ⊢
    subst h4
    cases xs' with
    | nil => rfl
    | cons _ _ => exact e4.elim
  | some g =>
    rw [hs] at h4
    simp only at h4 ⊢
    obtain ⟨vs, rest, fr, q1, q2, q3, q4, q5⟩ := h4
    refine ⟨vs, rest, fr, q1, q2, all2_rk (all2_elEq e4) q3, fun d hd => ?_, q5⟩
    obtain ⟨a, ha, hae⟩ := all2_mem e4 d hd
    obtain ⟨p1, p2, p3⟩ := q4 a ha
    exact ⟨hae.rep.length ▸ p1, hae.cell p2, fun hf => p3 (hae.agg.trans hf)⟩
theorem look_rowEq {st : Nat} : ∀ {rw rw' : List (Nat × RowC)}, All2 (fun p q => p.1 = q.1 ∧ RowEq p.2 q.2) rw rw' → ∀ {r' : RowC}, look st rw' = some r' → ∃ r, look st rw = some r ∧ RowEq r r'
  | [], [], _, _, h => by cases h
  | (k, x) :: l, (k', x') :: l', e, r', h => by
    obtain ⟨⟨e1, e2⟩, e3⟩ := e
    simp only at e1 e2
    subst e1
    rw [look_cons] at h ⊢
    split at h
    · rename_i hk; cases h; rw [if_pos hk]; exact ⟨x, rfl, e2⟩
    · rename_i hk; rw [if_neg hk]; exact look_rowEq e3 h
  | [], _ :: _, h, _, _ => h.elim
  | _ :: _, [], h, _, _ => h.elim
theorem callsR_rows {P : Program} {f : Nat} {bx bx' : List (Nat × BoxC)} {us us' : List (Nat × Nat)} {rw rw' rw'' : List (Nat × RowC)} {ds : List D} {d : D} (h : CallsR P f bx us rw ds d bx' us' rw') (e : All2 (fun p q => p.1 = q.1 ∧ RowEq p.2 q.2) rw' rw'') : CallsR P f bx us rw ds d bx' us' rw'' := by
  refine ⟨h.1, fun c w vs hm hrep => Calls.mono (h.2 c w vs hm hrep) fun ee w' he => ?_⟩
  obtain ⟨v, c', e1, M, e2⟩ := he
  have S : Step c' (memEnv bx' us' rw') w' c' (memEnv bx' us' rw'') w' := .of (Keeps.refl _ _) (fun s hs => ⟨hs, rfl⟩) (fun s hs => ⟨hs, rfl⟩) (fun st u hs => hs) (fun st hs => hs) (fun _ _ _ => ⟨rfl, fun _ _ => ⟨rfl, fun _ h => h⟩⟩) (fun st _ h => h)
  refine ⟨v, c', e1, { M with mem := ?_ }, S.repT e2⟩
  have Q := M.mem
  exact ⟨fun s b hs => (Q.var s b hs).step S rfl rfl (fun _ x => x), Q.inj, Q.lt, Q.ownInj, Q.ownLt, Q.im, fun st r hr => by
    obtain ⟨r0, g1, g2⟩ := look_rowEq e hr
    exact rowOK_eq (S.rowOK (S.same st) (Q.row st r0 g1)) g2⟩
theorem noTrueD_eq (e : Ext) : ElEq (noTrueD e) (noTrue e).d := by
  unfold noTrueD noTrue
  split
  · exact ⟨⟨RkD.rfl' _, RkD.nil, trivial⟩, rfl, fun h => h⟩
  · exact ⟨⟨RkD.rfl' _, RkD.rfl' _, trivial⟩, rfl, fun h => h⟩
theorem ElEq.rfl' {d : D} : ElEq d d := ⟨by
  generalize d.cells = cs
  induction cs with
  | nil => trivial
  | cons x cs ih => exact ⟨RkD.rfl' x, ih⟩, rfl, fun h => h⟩
theorem all2_maps {α β γ : Type} {R : β → γ → Prop} {f : α → β} {g : α → γ} (h : ∀ x, R (f x) (g x)) : ∀ l : List α, All2 R (l.map f) (l.map g)
  | [] => trivial
  | x :: l => ⟨h x, all2_maps h l⟩
theorem all2_self {α : Type} {R : α → α → Prop} (h : ∀ x, R x x) : ∀ l : List α, All2 R l l
  | [] => trivial
  | x :: l => ⟨h x, all2_self h l⟩
/-- What Order leaves in its attributes' row. -/
def ordA (k : Kws) : List S8 := compact (isort lt8 k.attrs) ++ List.replicate (k.attrs.length - (compact (isort lt8 k.attrs)).length) []
theorem call26r (k : Kws) (h1 : k.attrs.length ≤ 12) (h2 : k.keys.length ≤ 12) : CallsR Try.prog 26 [] [] [] [k.d] (.agg [.rsl 4 1 0 (orderK k).attrs.length, .rsl 2 2 0 (orderK k).keys.length]) [] [(4, rowMark), (2, rowMark)] [(4, ⟨9, 1, (ordA k).map D.str, false⟩), (2, ⟨47, 2, (orderK k).keys.map Ext.d, false⟩)] := by
  have hl : (orderK k).keys.length = (firsts k.keys).length := by
    unfold orderK; rw [List.length_map]; exact sortTo_length ltk _ _
  rw [hl]
  refine callsR_rows (callsR_imp (callsR Try.func26 rfl (by decide) (run26 k h1 h2)) fun a b c h => h) ⟨⟨rfl, ⟨rfl, rfl, rfl, all2_self (fun _ => ElEq.rfl') _⟩⟩, ⟨rfl, ⟨rfl, rfl, rfl, ?_⟩⟩, trivial⟩
  show All2 ElEq ((isort ltk (firsts k.keys)).map noTrueD) (List.map Ext.d ((isort ltk (firsts k.keys)).map noTrue))
  rw [List.map_map]
  exact all2_maps noTrueD_eq _
theorem sliceD_all {α : Type} {l : List α} {n : Nat} (h : n = l.length) : sliceD l 0 (0 + n) = l := by
  subst h; simp [sliceD]
theorem call26 (k : Kws) (h1 : k.attrs.length ≤ 12) (h2 : k.keys.length ≤ 12) : CallsTo Try.prog 26 [k.d] (orderK k).d := by
  refine callsTo_of_callsR (call26r k h1 h2) ⟨_, rfl, ⟨_, rfl, rfl, ?_, ?_⟩, ⟨_, rfl, rfl, ?_, ?_⟩, trivial⟩
  · simp [ordA, orderK]
  · show D.sl 0 1 ((orderK k).attrs.map D.str) = .sl 0 1 (sliceD ((ordA k).map D.str) 0 (0 + (orderK k).attrs.length))
    unfold ordA
    rw [List.map_append, sliceD, Nat.zero_add, List.drop_zero, List.take_append_of_le_length (by rw [List.length_map]; exact Nat.le_refl _), List.take_of_length_le (by rw [List.length_map]; exact Nat.le_refl _)]
    rfl
  · simp
  · show D.sl 0 2 ((orderK k).keys.map Ext.d) = .sl 0 2 (sliceD ((orderK k).keys.map Ext.d) 0 (0 + (orderK k).keys.length))
    rw [sliceD_all (by simp)]
end Go.Proofs.Ytbfgendaafediaa.Fw

/- Subtags that begin with a key, behind others. -/
namespace Go.Proofs.Ytbfgendaafediaa.Fw
open Go Go.RowKit
set_option maxRecDepth 100000
set_option maxHeartbeats 4000000

theorem tw_key (A B : List S8) {k : S8} (hk : nk k = false) : (A ++ k :: B).takeWhile nk = A.takeWhile nk := by
  induction A with
  | nil => rw [List.nil_append, List.takeWhile_cons, hk]; rfl
  | cons x A ih =>
    rw [List.cons_append, List.takeWhile_cons, List.takeWhile_cons, ih]
theorem dw_key (A B : List S8) {k : S8} (hk : nk k = false) : (A ++ k :: B).dropWhile nk = A.dropWhile nk ++ k :: B := by
  induction A with
  | nil => rw [List.nil_append, List.dropWhile_cons, hk]; rfl
  | cons x A ih =>
    rw [List.cons_append, List.dropWhile_cons, List.dropWhile_cons, ih]
    cases nk x <;> rfl
theorem readK_app : ∀ (n : Nat) (R B : List S8) {k : S8}, R.length ≤ n → nk k = false → readK (R ++ k :: B) = readK R ++ readK (k :: B)
  | 0, R, B, k, h, _ => by rw [List.eq_nil_of_length_eq_zero (by omega : R.length = 0)]; rfl
  | n + 1, [], B, k, _, _ => rfl
  | n + 1, x :: R, B, k, h, hk => by
    have hd := (List.dropWhile_suffix nk (l := R)).length_le
    simp only [List.length_cons] at h
    rw [List.cons_append, readK_cons, readK_cons, tw_key R B hk, dw_key R B hk, readK_app n _ B (by omega) hk]
    rfl
def CA : S8 := [99, 97]
theorem readS_ca (b : List S8) : (readS (CA :: b)).attrs = [] ∧ (readS (CA :: b)).keys = readK (CA :: b.map low) := ⟨rfl, rfl⟩
theorem readS_joins (a b : List S8) : readS (a ++ CA :: b) = ⟨(readS a).attrs, (readS a).keys ++ (readS (CA :: b)).keys⟩ := by
  have hk : nk CA = false := rfl
  rw [(readS_ca b).2]
  show Kws.mk ((List.map low (a ++ CA :: b)).takeWhile nk) (readK ((List.map low (a ++ CA :: b)).dropWhile nk)) = Kws.mk ((List.map low a).takeWhile nk) _
  rw [List.map_append, List.map_cons, show low CA = CA from rfl, tw_key _ _ hk, dw_key _ _ hk, readK_app _ _ _ (Nat.le_refl _) hk]
  rfl
theorem run7 (a b : List S8) (ha : a.length ≤ maxLen) (hb : b.length ≤ maxLen) (h17 : CallsTo Try.prog 17 [] (.bool true)) : Runs Try.prog T 57 (Try.f7.body.getD .skip) Try.f7.results.toList [.sl 0 1 (a.map D.str), .sl 0 1 (b.map D.str)] (.bool true) := by
  refine ⟨Nat.le_of_ble_eq_true rfl, ?_⟩
  conv => whnf
  refine ⟨_, fun _ => h17, ?_⟩
  conv => whnf
  refine ⟨_, fun _ => call18 a 10 ha (by decide), ?_⟩
  conv => whnf
  refine ⟨_, fun _ => call18 b 10 hb (by decide), ?_⟩
  conv => whnf
  have hF := fewS_len a 10
  have hm : ∀ s ∈ fewS a 10, s.length ≤ 1000000 := fun s hs => Nat.le_trans (fewS_mem hs) (by decide)
  generalize fewS a 10 = F at hF hm
  have hG := fewS_len b 10
  have hn : ∀ s ∈ fewS b 10, s.length ≤ 1000000 := fun s hs => Nat.le_trans (fewS_mem hs) (by decide)
  generalize fewS b 10 = G at hG hn
  refine sideB_intro (fun _ => ?_) ?_
  · simp; omega
  conv => whnf
  refine ⟨_, fun _ => call21 F (by omega) hm, ?_⟩
  conv => whnf
  have hn2 : ∀ s ∈ CA :: G, s.length ≤ 1000000 := fun s hs => by
    rcases List.mem_cons.1 hs with rfl | hs
    · decide
    · exact hn s hs
  refine ⟨_, fun _ => call21 (CA :: G) (by simp only [List.length_cons]; omega) hn2, ?_⟩
  conv => whnf
  refine sideB_intro (fun _ => ?_) ?_
  · simp; omega
  conv => whnf
  refine sideB_intro (fun _ => ?_) ?_
  · simp; omega
  conv => whnf
  have hc := call21 (F ++ CA :: G) (by simp only [List.length_append, List.length_cons]; omega) (fun s hs => by
    rcases List.mem_append.1 hs with hs | hs
    · exact hm s hs
    · exact hn2 s hs)
  rw [show (F ++ CA :: G).map D.str = [] ++ F.map D.str ++ (D.str CA :: G.map D.str) from by simp] at hc
  rw [readS_joins] at hc
  have hsm : (Kws.mk (readS F).attrs ((readS F).keys ++ (readS (CA :: G)).keys)).small := by
    rw [← readS_joins]
    exact readS_small _ (by simp only [List.length_append, List.length_cons]; omega)
  have hk1 : (readS F).keys.length ≤ 1000000 := (readS_small F (by omega)).2.1
  have hk2 : (readS (CA :: G)).keys.length ≤ 1000000 := (readS_small (CA :: G) (by simp only [List.length_cons]; omega)).2.1
  refine ⟨_, fun _ => hc, ?_⟩
  conv => whnf
  refine ⟨rfl, ?_⟩
  conv => whnf
  refine sideB_intro (fun _ => ?_) ?_
  · simp; omega
  conv => whnf
  refine sideB_intro (fun _ => ?_) ?_
  · simp; omega
  conv => whnf
  have h20 := call20 (Kws.mk (readS F).attrs ((readS F).keys ++ (readS (CA :: G)).keys)) (Kws.mk (readS F).attrs ((readS F).keys ++ (readS (CA :: G)).keys)) hsm
  rw [decide_eq_true rfl] at h20
  have e2 : (Kws.mk (readS F).attrs ((readS F).keys ++ (readS (CA :: G)).keys)).d = .agg [.sl 0 1 ((readS F).attrs.map D.str), .sl 0 2 ([] ++ (readS F).keys.map Ext.d ++ (readS (CA :: G)).keys.map Ext.d)] := by
    simp [Kws.d]
  have e3 : [(Kws.mk (readS F).attrs ((readS F).keys ++ (readS (CA :: G)).keys)).d, (Kws.mk (readS F).attrs ((readS F).keys ++ (readS (CA :: G)).keys)).d] = [.agg [.sl 0 1 ((readS F).attrs.map D.str), .sl 0 2 (((readS F).keys ++ (readS (CA :: G)).keys).map Ext.d)], .agg [.sl 0 1 ((readS F).attrs.map D.str), .sl 0 2 ([] ++ (readS F).keys.map Ext.d ++ (readS (CA :: G)).keys.map Ext.d)]] := by
    rw [e2]; simp
  rw [e3] at h20
  refine ⟨_, fun _ => h20, ?_⟩
  conv => whnf
  have e4 : (readS (CA :: G)).attrs = [] := (readS_ca G).1
  have e5 : (readS (CA :: G)).keys = ⟨CA, (G.map low).takeWhile nk⟩ :: readK ((G.map low).dropWhile nk) := by rw [(readS_ca G).2, readK_cons]
  rw [e4, e5]
  refine ⟨rfl, congrArg D.bool (?_ : (_ : Bool) = true)⟩
  simp
  try omega
theorem call7 (a b : List S8) (ha : a.length ≤ maxLen) (hb : b.length ≤ maxLen) (h17 : CallsTo Try.prog 17 [] (.bool true)) : CallsTo Try.prog 7 [.sl 0 1 (a.map D.str), .sl 0 1 (b.map D.str)] (.bool true) := calls Try.func7 rfl (by decide) (run7 a b ha hb h17)
end Go.Proofs.Ytbfgendaafediaa.Fw

/- The chapter's example; what is read is written to the same; joined. -/
namespace Go.Proofs.Ytbfgendaafediaa.Fw
open Go Go.RowKit
set_option maxRecDepth 100000
set_option maxHeartbeats 4000000

def AWK : List S8 := [[102, 111, 111], [99, 111], [116, 114, 117, 101], [98, 97, 114], [99, 97], [98, 117, 100, 100, 104, 105, 115, 116], [99, 111], [112, 104, 111, 110, 101, 98, 107]]
def AWK2 : List S8 := [[102, 111, 111], [99, 97], [98, 117, 100, 100, 104, 105, 115, 116], [99, 111], [116, 114, 117, 101], [98, 97, 114]]
theorem awk_w : (orderK (readS AWK)).w = AWK2 := by decide +kernel
theorem run17  : Runs Try.prog T 11 (Try.f17.body.getD .skip) Try.f17.results.toList [] (.bool true) := by
  refine ⟨Nat.le_of_ble_eq_true rfl, ?_⟩
  conv => whnf
  refine ⟨_, fun _ => call21 AWK (by decide) (by decide), ?_⟩
  conv => whnf
  refine ⟨_, fun _ => call26 (readS AWK) (by decide +kernel) (by decide +kernel), ?_⟩
  conv => whnf
  have h24 := call24 (orderK (readS AWK)) (by rw [awk_w]; decide)
  rw [awk_w] at h24
  refine ⟨_, fun _ => h24, ?_⟩
  conv => whnf
  have h23 := call23 AWK2 AWK2 (by decide)
  rw [decide_eq_true rfl] at h23
  refine ⟨_, fun _ => h23, ?_⟩
  conv => whnf
  exact ⟨rfl, rfl⟩
theorem call17  : CallsTo Try.prog 17 [] (.bool true) := calls Try.func17 rfl (by decide) (run17)
theorem call5' (l : List S8) (hl : l.length ≤ maxLen) : CallsTo Try.prog 5 [.sl 0 1 (l.map D.str)] (.bool true) := call5 l hl call17
theorem call7' (a b : List S8) (ha : a.length ≤ maxLen) (hb : b.length ≤ maxLen) : CallsTo Try.prog 7 [.sl 0 1 (a.map D.str), .sl 0 1 (b.map D.str)] (.bool true) := call7 a b ha hb call17
end Go.Proofs.Ytbfgendaafediaa.Fw

/- Great letters; where a key stands; its value. -/
namespace Go.Proofs.Ytbfgendaafediaa.Fw
open Go Go.RowKit
set_option maxRecDepth 100000
set_option maxHeartbeats 4000000

def upB (b : UInt8) : UInt8 := if 97 ≤ b ∧ b ≤ 122 then b - 32 else b
def upS (s : S8) : S8 := s.map upB
theorem upB_int (b : UInt8) : (upB b).toNat = if 97 ≤ b.toNat ∧ b.toNat ≤ 122 then b.toNat - 32 else b.toNat := by
  unfold upB
  have h1 : (97 ≤ b ∧ b ≤ 122) ↔ (97 ≤ b.toNat ∧ b.toNat ≤ 122) := by
    rw [UInt8.le_iff_toNat_le, UInt8.le_iff_toNat_le]; exact Iff.rfl
  by_cases h : 97 ≤ b ∧ b ≤ 122
  · rw [if_pos h, if_pos (h1.1 h), UInt8.toNat_sub_of_le _ _ (by rw [UInt8.le_iff_toNat_le]; have := (h1.1 h).1; show 32 ≤ _; omega)]; rfl
  · rw [if_neg h, if_neg (fun x => h (h1.2 x))]
theorem lowB_upB (b : UInt8) : lowB (upB b) = lowB b := by
  have h : (lowB (upB b)).toNat = (lowB b).toNat := by
    rw [lowB_int, upB_int, lowB_int]
    split <;> (try split) <;> (try split) <;> omega
  exact UInt8.toNat_inj.1 h
theorem low_up (s : S8) : low (upS s) = low s := by
  unfold low upS
  rw [List.map_map]
  exact List.map_congr_left fun b _ => lowB_upB b
theorem up_len (s : S8) : (upS s).length = s.length := by unfold upS; rw [List.length_map]
theorem run75 (b : UInt8) : Runs Try.prog T 13 (Try.f75.body.getD .skip) Try.f75.results.toList [.int .u8 b.toNat] (.int .u8 (upB b).toNat) := by
  refine ⟨Nat.le_of_ble_eq_true rfl, ?_⟩
  conv => whnf
  have hb := upB_int b
  have hl : b.toNat < 256 := b.toNat_lt
  refine ifB_intro (fun h => ?_) (fun h => ?_)
  · have h : ((97 : Int) ≤ b.toNat) ∧ ((b.toNat : Int) ≤ 122) := by
      revert h
      cases h1 : decide ((97 : Int) ≤ b.toNat) <;> simp_all
    conv => whnf
    refine ⟨rfl, congrArg (D.int .u8) ?_⟩
    rw [hb, if_pos (by omega), wrap_u8 (n := (b.toNat : Int) - 97) (by omega) (by omega), wrap_u8 (by omega) (by omega)]
    omega
  · conv => whnf
    refine ⟨rfl, congrArg (D.int .u8) ?_⟩
    have h : ¬ (((97 : Int) ≤ b.toNat) ∧ ((b.toNat : Int) ≤ 122)) := by
      intro h2
      rw [decide_eq_true h2.1, decide_eq_true h2.2] at h
      cases h
    rw [hb, if_neg (by omega)]
theorem call75 (b : UInt8) : CallsTo Try.prog 75 [.int .u8 b.toNat] (.int .u8 (upB b).toNat) := calls Try.func75 rfl (by decide) (run75 b)
theorem run53 (s : S8) (hs : s.length ≤ 1000000) : Runs Try.prog T 20 (Try.f53.body.getD .skip) Try.f53.results.toList [.str s] (.str (upS s)) := by
  refine ⟨Nat.le_of_ble_eq_true rfl, ?_⟩
  conv => whnf
  refine ⟨[.nilT 3 5 1], ?_⟩
  conv => whnf
  refine loop_at (σ := Nat) (fun i env => (env.setT 4 (.int .i64 (i : Int))).setT 3 (.sl 2 1 ((upS (s.take i)).map byD))) (fun i => s.length - i) (fun i => i ≤ s.length) 0 (Nat.zero_le _) rfl ?_
  rintro i hi ih
  conv => whnf
  refine ifB_intro (fun h => ?_) (fun h => ?_)
  · have h : (i : Int) < (s.length : Int) := of_decide_eq_true h
    have hlt : i < s.length := by omega
    have hw : IntKind.i64.wrap ((i : Int) + 1) = ((i + 1 : Nat) : Int) := by rw [IntKind.wrap_i64]; omega
    have ih' := ih (i + 1) hlt (by omega)
    obtain ⟨b, hb⟩ : ∃ b, s[i]? = some b := ⟨_, List.getElem?_eq_getElem hlt⟩
    have hg : List.getD s (i : Int).toNat 0 = b := by
      rw [Int.toNat_natCast, List.getD_eq_getElem?_getD, hb]; rfl
    rw [List.take_add_one, hb, Option.toList_some, upS, List.map_append, List.map_append] at ih'
    conv => whnf
    refine sideB_intro (fun _ => decide_eq_true (by omega)) ?_
    rw [hg]
    conv => whnf
    refine ⟨_, fun _ => call75 b, ?_⟩
    conv => whnf
    refine sideB_intro (fun _ => ?_) ?_
    · simp [upS]; omega
    conv => whnf
    rw [hw]
    exact ih'
  · have h : ¬ ((i : Int) < (s.length : Int)) := of_decide_eq_false h
    rw [List.take_of_length_le (by omega)]
    conv => whnf
    refine dO_of (r := ?rr) ?hh ?kk
    case hh =>
      refine conv_u8 (st := ?st) ?h1 ?_ (u8s_by (upS s))
      case h1 => rfl
      exact fun _ => rfl
    conv => whnf
    exact ⟨rfl, rfl⟩
theorem call53 (s : S8) (hs : s.length ≤ 1000000) : CallsTo Try.prog 53 [.str s] (.str (upS s)) := calls Try.func53 rfl (by decide) (run53 s hs)

/-- Where the first one is that is so. -/
theorem findIdx_at {α : Type} {p : α → Bool} {l : List α} {i : Nat} {x : α} (h : ∀ j y, j < i → l[j]? = some y → p y = false) (hx : l[i]? = some x) (hp : p x = true) : l.findIdx p = i := by
  induction l generalizing i with
  | nil => simp at hx
  | cons y l ih =>
    cases i with
    | zero =>
      simp only [List.getElem?_cons_zero, Option.some.injEq] at hx; subst hx
      rw [List.findIdx_cons, hp]; rfl
    | succ i =>
      have hy := h 0 y (by omega) rfl
      rw [List.findIdx_cons, hy, cond_false, ih (i := i) (fun j z hj hz => h (j + 1) z (by omega) (by simpa using hz)) (by simpa using hx)]
theorem findIdx_all {α : Type} {p : α → Bool} {l : List α} (h : ∀ j y, j < l.length → l[j]? = some y → p y = false) : l.findIdx p = l.length := by
  induction l with
  | nil => rfl
  | cons y l ih =>
    have hy := h 0 y (by simp) rfl
    rw [List.findIdx_cons, hy, cond_false, ih fun j z hj hz => h (j + 1) z (by simpa using hj) (by simpa using hz)]
    rfl
def isK (key : S8) (e : Ext) : Bool := e.key == low key
def atK (l : List Ext) (key : S8) : Nat := l.findIdx (isK key)
def atI (l : List Ext) (key : S8) : Int := if atK l key < l.length then (atK l key : Int) else -1
theorem run71 (e : Ext) (key : S8) (hk : key.length ≤ 1000000) : Runs Try.prog T 9 (Try.f71.body.getD .skip) Try.f71.results.toList [e.d, .eptr (.str key) 0] (.bool (isK key e)) := by
  refine ⟨Nat.le_of_ble_eq_true rfl, ?_⟩
  conv => whnf
  refine ⟨rfl, ?_⟩
  conv => whnf
  refine ⟨_, fun _ => call49 key hk, ?_⟩
  conv => whnf
  exact ⟨rfl, rfl⟩
theorem call71 (e : Ext) (key : S8) (hk : key.length ≤ 1000000) : CallsTo Try.prog 71 [e.d, .eptr (.str key) 0] (.bool (isK key e)) := calls Try.func71 rfl (by decide) (run71 e key hk)
theorem run70 (l : List Ext) (key : S8) (hl : l.length ≤ 1000000) (hk : key.length ≤ 1000000) : Runs Try.prog T 19 (Try.f70.body.getD .skip) Try.f70.results.toList [.sl 0 2 (l.map Ext.d), .fn 71 [.eptr (.str key) 0]] (.int .i64 (atI l key)) := by
  refine ⟨Nat.le_of_ble_eq_true rfl, ?_⟩
  conv => whnf
  refine ⟨[], ?_⟩
  conv => whnf
  refine loop_at (σ := Nat) (fun i => Env.setT 8 (.int .i64 (i : Int))) (fun i => l.length - i) (fun i => i ≤ l.length ∧ ∀ j y, j < i → l[j]? = some y → isK key y = false) 0 ⟨Nat.zero_le _, fun j y hj => absurd hj (Nat.not_lt_zero j)⟩ rfl ?_
  rintro i ⟨hi, hpre⟩ ih
  conv => whnf
  refine ifB_intro (fun h => ?_) (fun h => ?_)
  · have h : (i : Int) < ((l.map Ext.d).length : Int) := of_decide_eq_true h
    rw [List.length_map] at h
    have hlt : i < l.length := by omega
    obtain ⟨x, hx⟩ : ∃ x, l[i]? = some x := ⟨_, List.getElem?_eq_getElem hlt⟩
    have hw : IntKind.i64.wrap ((i : Int) + 1) = ((i + 1 : Nat) : Int) := by rw [IntKind.wrap_i64]; omega
    conv => whnf
    refine sideB_intro (fun _ => decide_eq_true (by simp only [List.length_map]; omega)) ?_
    rw [getD_enc (enc := Ext.d) (x := x) (show l[(i : Int).toNat]? = some x from hx)]
    conv => whnf
    refine ⟨_, fun _ => call71 x key hk, ?_⟩
    conv => whnf
    refine ifB_intro (fun hb => ?_) (fun hb => ?_)
    · have hu : atK l key = i := findIdx_at hpre hx hb
      conv => whnf
      exact ⟨rfl, congrArg (D.int .i64) (by rw [atI, hu, if_pos hlt])⟩
    · conv => whnf
      rw [hw]
      refine ih (i + 1) ⟨by omega, fun j y hj hy => ?_⟩ (by omega)
      rcases Nat.lt_or_ge j i with hlt | hge
      · exact hpre j y hlt hy
      · rw [show j = i from by omega, hx] at hy; cases hy; exact hb
  · have h : ¬ ((i : Int) < ((l.map Ext.d).length : Int)) := of_decide_eq_false h
    rw [List.length_map] at h
    conv => whnf
    have hu : atK l key = l.length := findIdx_all fun j y hj hy => hpre j y (by omega) hy
    exact ⟨rfl, congrArg (D.int .i64) (by rw [atI, hu, if_neg (Nat.lt_irrefl _)])⟩
theorem call70 (l : List Ext) (key : S8) (hl : l.length ≤ 1000000) (hk : key.length ≤ 1000000) : CallsTo Try.prog 70 [.sl 0 2 (l.map Ext.d), .fn 71 [.eptr (.str key) 0]] (.int .i64 (atI l key)) := calls Try.func70 rfl (by decide) (run70 l key hl hk)
theorem run47 (k : Kws) (key : S8) (hl : k.keys.length ≤ 1000000) (hk : key.length ≤ 1000000) : Runs Try.prog T 9 (Try.f47.body.getD .skip) Try.f47.results.toList [k.d, .str key] (.int .i64 (atI k.keys key)) := by
  refine ⟨Nat.le_of_ble_eq_true rfl, ?_⟩
  conv => whnf
  refine ⟨_, fun _ => call70 k.keys key hl hk, ?_⟩
  conv => whnf
  exact ⟨rfl, rfl⟩
theorem call47 (k : Kws) (key : S8) (hl : k.keys.length ≤ 1000000) (hk : key.length ≤ 1000000) : CallsTo Try.prog 47 [k.d, .str key] (.int .i64 (atI k.keys key)) := calls Try.func47 rfl (by decide) (run47 k key hl hk)
theorem run50 (k : Kws) (key : S8) (hl : k.keys.length ≤ 1000000) (hk : key.length ≤ 1000000) : Runs Try.prog T 23 (Try.f50.body.getD .skip) Try.f50.results.toList [k.d, .str key] (.int .i64 (atI k.keys key)) := by
  refine ⟨Nat.le_of_ble_eq_true rfl, ?_⟩
  conv => whnf
  refine ⟨[], ?_⟩
  conv => whnf
  refine loop_at (σ := Nat) (fun i => Env.setT 5 (.int .i64 (i : Int))) (fun i => k.keys.length - i) (fun i => i ≤ k.keys.length ∧ ∀ j y, j < i → k.keys[j]? = some y → isK key y = false) 0 ⟨Nat.zero_le _, fun j y hj => absurd hj (Nat.not_lt_zero j)⟩ rfl ?_
  rintro i ⟨hi, hpre⟩ ih
  conv => whnf
  refine ifB_intro (fun h => ?_) (fun h => ?_)
  · have h : (i : Int) < ((k.keys.map Ext.d).length : Int) := of_decide_eq_true h
    rw [List.length_map] at h
    have hlt : i < k.keys.length := by omega
    obtain ⟨x, hx⟩ : ∃ x, k.keys[i]? = some x := ⟨_, List.getElem?_eq_getElem hlt⟩
    have hw : IntKind.i64.wrap ((i : Int) + 1) = ((i + 1 : Nat) : Int) := by rw [IntKind.wrap_i64]; omega
    conv => whnf
    refine ⟨rfl, ?_⟩
    conv => whnf
    refine sideB_intro (fun _ => decide_eq_true (by simp only [List.length_map]; omega)) ?_
    rw [getD_enc (enc := Ext.d) (x := x) (show k.keys[(i : Int).toNat]? = some x from hx)]
    conv => whnf
    refine ⟨_, fun _ => call28 key hk, ?_⟩
    conv => whnf
    refine ifB_intro (fun hb => ?_) (fun hb => ?_)
    · have hb : isK key x = true := hb
      have hu : atK k.keys key = i := findIdx_at hpre hx hb
      conv => whnf
      exact ⟨rfl, congrArg (D.int .i64) (by rw [atI, hu, if_pos hlt])⟩
    · have hb : isK key x = false := hb
      conv => whnf
      rw [hw]
      refine ih (i + 1) ⟨by omega, fun j y hj hy => ?_⟩ (by omega)
      rcases Nat.lt_or_ge j i with hlt | hge
      · exact hpre j y hlt hy
      · rw [show j = i from by omega, hx] at hy; cases hy; exact hb
  · have h : ¬ ((i : Int) < ((k.keys.map Ext.d).length : Int)) := of_decide_eq_false h
    rw [List.length_map] at h
    conv => whnf
    have hu : atK k.keys key = k.keys.length := findIdx_all fun j y hj hy => hpre j y (by omega) hy
    exact ⟨rfl, congrArg (D.int .i64) (by rw [atI, hu, if_neg (Nat.lt_irrefl _)])⟩
theorem call50 (k : Kws) (key : S8) (hl : k.keys.length ≤ 1000000) (hk : key.length ≤ 1000000) : CallsTo Try.prog 50 [k.d, .str key] (.int .i64 (atI k.keys key)) := calls Try.func50 rfl (by decide) (run50 k key hl hk)
end Go.Proofs.Ytbfgendaafediaa.Fw

/- A key's value; setting it. -/
namespace Go.Proofs.Ytbfgendaafediaa.Fw
open Go Go.RowKit
set_option maxRecDepth 100000
set_option maxHeartbeats 4000000

theorem atI_neg {l : List Ext} {key : S8} (h : l.length ≤ atK l key) : atI l key = -1 := if_neg (by omega)
theorem atI_pos {l : List Ext} {key : S8} (h : atK l key < l.length) : atI l key = (atK l key : Int) := if_pos h
theorem run51f (k : Kws) (key : S8) (hl : k.keys.length ≤ 1000000) (hk : key.length ≤ 1000000) (h : k.keys.length ≤ atK k.keys key) : Runs Try.prog Tw 19 (Try.f51.body.getD .skip) Try.f51.results.toList [k.d, .str key] (.tup [.sl 0 0 [], .bool false]) := by
  refine ⟨Nat.le_of_ble_eq_true rfl, ?_⟩
  conv => whnf
  have hc := call47 k key hl hk
  rw [atI_neg h] at hc
  refine ⟨_, fun _ => hc, ?_⟩
  conv => whnf
  exact ⟨rfl, rfl⟩
theorem call51f (k : Kws) (key : S8) (hl : k.keys.length ≤ 1000000) (hk : key.length ≤ 1000000) (h : k.keys.length ≤ atK k.keys key) : CallsTo Try.prog 51 [k.d, .str key] (.tup [.sl 0 0 [], .bool false]) := calls Try.func51 rfl (by decide) (run51f k key hl hk h)
theorem run51t (k : Kws) (key : S8) (hl : k.keys.length ≤ 1000000) (hk : key.length ≤ 1000000) (e : Ext) (h : k.keys[atK k.keys key]? = some e) (he : e.subs.length ≤ 1000000) : Runs Try.prog Tw 19 (Try.f51.body.getD .skip) Try.f51.results.toList [k.d, .str key] (.tup [.sl 0 1 (e.subs.map D.str), .bool true]) := by
  refine ⟨Nat.le_of_ble_eq_true rfl, ?_⟩
  conv => whnf
  have hc := call47 k key hl hk
  have hlt : atK k.keys key < k.keys.length := (List.getElem?_eq_some_iff.1 h).1
  rw [atI_pos hlt] at hc
  refine ⟨_, fun _ => hc, ?_⟩
  conv => whnf
  refine sideB_intro (fun _ => decide_eq_true (by simp only [List.length_map]; omega)) ?_
  rw [getD_enc (enc := Ext.d) (x := e) (show k.keys[(atK k.keys key : Int).toNat]? = some e from h)]
  conv => whnf
  refine ⟨⟨[], [], .sl 17 1 (e.subs.map D.str), [], [(17, 9)], []⟩, ?_⟩
  conv => whnf
  refine ⟨rfl, call39m e.subs he, ?_⟩
  conv => whnf
  exact ⟨rfl, rfl⟩
theorem call51t (k : Kws) (key : S8) (hl : k.keys.length ≤ 1000000) (hk : key.length ≤ 1000000) (e : Ext) (h : k.keys[atK k.keys key]? = some e) (he : e.subs.length ≤ 1000000) : CallsTo Try.prog 51 [k.d, .str key] (.tup [.sl 0 1 (e.subs.map D.str), .bool true]) := calls Try.func51 rfl (by decide) (run51t k key hl hk e h he)
/-- Set. -/
def setAt (l : List Ext) (i : Nat) (v : List S8) : List Ext := match l[i]? with
  | some e => l.set i ⟨e.key, v.map low⟩
  | none => l
def setE (l : List Ext) (key : S8) (v : List S8) : List Ext :=
  if atK l key < l.length then setAt l (atK l key) v else l ++ [⟨low key, v.map low⟩]
def setK (k : Kws) (key : S8) (v : List S8) : Kws := if key.length = 2 then ⟨k.attrs, setE k.keys key v⟩ else k
theorem setAt_map {l : List Ext} {i : Nat} {e : Ext} {v : List S8} (h : l[i]? = some e) : (setAt l i v).map Ext.d = (l.map Ext.d).set i (.agg [.str e.key, .sl 0 1 ((v.map low).map D.str)]) := by
  unfold setAt; rw [h]; simp only [List.map_set]; rfl
theorem setAt_len {l : List Ext} {i : Nat} {v : List S8} : (setAt l i v).length = l.length := by
  unfold setAt; split <;> simp
abbrev TsK := Tm [48] [47]
theorem setE_len (l : List Ext) (key : S8) (v : List S8) : (setE l key v).length = if atK l key < l.length then l.length else l.length + 1 := by
  unfold setE; split
  · exact setAt_len
  · simp
theorem run29t (k : Kws) (key : S8) (v : List S8) (h2 : key.length = 2) (hl : k.keys.length ≤ 1000000) (hv : v.length ≤ 1000000) (hvs : ∀ s ∈ v, s.length ≤ 1000000) (e : Ext) (he : k.keys[atK k.keys key]? = some e) : RunsR Try.prog TsK 40 (Try.f29.body.getD .skip) Try.f29.results.toList ([]) ([]) ([]) [k.d, .str key, .sl 0 1 (v.map D.str)] (fun d bx rw => d = .agg [.sl 0 1 (k.attrs.map D.str), .rsl 2547 2 0 k.keys.length] ∧ bx = [] ∧ rw = [(2547, ⟨47, 2, (setE k.keys key v).map Ext.d, false⟩)]) ([(2547, rowMark)]) := by
  refine ⟨Nat.le_of_ble_eq_true rfl, rfl, ?_⟩
  conv => whnf
  refine ifB_intro (fun hb => ?_) (fun hb => ?_)
  · exfalso
    have hb : (!((key.length : Int) == 2)) = true := hb
    rw [h2] at hb; simp at hb
  · have hc := call47 k key hl (by omega)
    have hlt : atK k.keys key < k.keys.length := (List.getElem?_eq_some_iff.1 he).1
    rw [atI_pos hlt] at hc
    conv => whnf
    refine ⟨_, fun _ => hc, ?_⟩
    conv => whnf
    refine ⟨⟨[], [], .rsl 17 2 0 k.keys.length, [], [(17, rowMark)], [(17, ⟨47, 2, k.keys.map Ext.d, false⟩)]⟩, ?_⟩
    conv => whnf
    refine ⟨rfl, call48 k.keys hl, ?_⟩
    conv => whnf
    refine ⟨rfl, ?_⟩
    conv => whnf
    refine ⟨_, fun _ => call38 v hv hvs, ?_⟩
    conv => whnf
    refine sideB_intro (fun _ => decide_eq_true (by omega)) ?_
    conv => whnf
    refine fD_of (getD_enc (enc := Ext.d) (x := e) (show k.keys[0 + (atK k.keys key : Int).toNat]? = some e from by rw [Nat.zero_add]; exact he)) ?_
    conv => whnf
    refine sideB_intro (fun _ => ?_) ?_
    · exact blt_of (by rw [List.length_map]; omega)
    conv => whnf
    have hx : setE k.keys key v = setAt k.keys (atK k.keys key) v := if_pos hlt
    rw [hx, setAt_map he]
    refine ⟨rfl, rfl, rfl, ?_⟩
    have hz : 0 + (atK k.keys key : Int).toNat = atK k.keys key := by omega
    conv => lhs; whnf
    simp only [hz]
    rfl
theorem run29f (k : Kws) (key : S8) (v : List S8) (h2 : key.length = 2) (hl : k.keys.length ≤ 1000000) (hv : v.length ≤ 1000000) (hvs : ∀ s ∈ v, s.length ≤ 1000000) (he : k.keys.length ≤ atK k.keys key) : RunsR Try.prog TsK 40 (Try.f29.body.getD .skip) Try.f29.results.toList ([]) ([]) ([]) [k.d, .str key, .sl 0 1 (v.map D.str)] (fun d bx rw => d = .agg [.sl 0 1 (k.attrs.map D.str), .rsl 63 2 0 (k.keys.length + 1)] ∧ bx = [] ∧ rw = [(63, ⟨47, 2, (setE k.keys key v).map Ext.d, false⟩)]) ([(63, rowMark)]) := by
  refine ⟨Nat.le_of_ble_eq_true rfl, rfl, ?_⟩
  conv => whnf
  refine ifB_intro (fun hb => ?_) (fun hb => ?_)
  · exfalso
    have hb : (!((key.length : Int) == 2)) = true := hb
    rw [h2] at hb; simp at hb
  · have hc := call47 k key hl (by omega)
    rw [atI_neg he] at hc
    conv => whnf
    refine ⟨_, fun _ => hc, ?_⟩
    conv => whnf
    refine ⟨⟨[], [], .rsl 17 2 0 k.keys.length, [], [(17, rowMark)], [(17, ⟨47, 2, k.keys.map Ext.d, false⟩)]⟩, ?_⟩
    conv => whnf
    refine ⟨rfl, call48 k.keys hl, ?_⟩
    conv => whnf
    refine ⟨rfl, ?_⟩
    conv => whnf
    refine ⟨_, fun _ => call49 key (by omega), ?_⟩
    conv => whnf
    refine sideB_intro (fun _ => (by simp [appendSide]; omega)) ?_
    conv => whnf
    refine ⟨rfl, ?_⟩
    conv => whnf
    refine ⟨_, fun _ => call38 v hv hvs, ?_⟩
    conv => whnf
    have hx : setE k.keys key v = k.keys ++ [⟨low key, v.map low⟩] := if_neg (by omega)
    have hap : List.take k.keys.length (k.keys.map Ext.d) = k.keys.map Ext.d := List.take_of_length_le (by simp)
    rw [hap]
    have hw : (k.keys.map Ext.d ++ [Ext.d ⟨low key, []⟩]) = (k.keys ++ [Ext.mk (low key) []]).map Ext.d := by simp
    refine sideB_intro (fun _ => decide_eq_true (by simp; omega)) ?_
    conv => whnf
    refine fD_of (show _ = Ext.d (Ext.mk (low key) []) from by dsimp only; rw [Int.toNat_natCast, Nat.zero_add]; simp [List.getD_eq_getElem?_getD]; rfl) ?_
    conv => whnf
    refine sideB_intro (fun _ => ?_) ?_
    · exact blt_of (by simp)
    conv => whnf
    have hz : 0 + ((k.keys.length : Nat) : Int).toNat = k.keys.length := by omega
    have hs : (k.keys ++ [Ext.mk (low key) (v.map low)]).map Ext.d = (k.keys.map Ext.d ++ [D.agg [D.str (low key), D.sl 0 1 []]]).set k.keys.length (.agg [.str (low key), .sl 0 1 ((v.map low).map D.str)]) := by
      simp [Ext.d]
    rw [hx, hs]
    refine ⟨rfl, rfl, rfl, ?_⟩
    conv => lhs; whnf
    simp only [hz]
    rfl
theorem call29t (k : Kws) (key : S8) (v : List S8) (h2 : key.length = 2) (hl : k.keys.length ≤ 1000000) (hv : v.length ≤ 1000000) (hvs : ∀ s ∈ v, s.length ≤ 1000000) (h : atK k.keys key < k.keys.length) : CallsR Try.prog 29 [] [] [] [k.d, .str key, .sl 0 1 (v.map D.str)] (.agg [.sl 0 1 (k.attrs.map D.str), .rsl 2547 2 0 (setE k.keys key v).length]) [] [(2547, rowMark)] [(2547, ⟨47, 2, (setE k.keys key v).map Ext.d, false⟩)] := by
  rw [setE_len, if_pos h]
  exact callsR_imp (callsR Try.func29 rfl (by decide) (run29t k key v h2 hl hv hvs k.keys[atK k.keys key] (List.getElem?_eq_getElem h))) fun a b c h => h
theorem call29f (k : Kws) (key : S8) (v : List S8) (h2 : key.length = 2) (hl : k.keys.length ≤ 1000000) (hv : v.length ≤ 1000000) (hvs : ∀ s ∈ v, s.length ≤ 1000000) (h : ¬ atK k.keys key < k.keys.length) : CallsR Try.prog 29 [] [] [] [k.d, .str key, .sl 0 1 (v.map D.str)] (.agg [.sl 0 1 (k.attrs.map D.str), .rsl 63 2 0 (setE k.keys key v).length]) [] [(63, rowMark)] [(63, ⟨47, 2, (setE k.keys key v).map Ext.d, false⟩)] := by
  rw [setE_len, if_neg h]
  exact callsR_imp (callsR Try.func29 rfl (by decide) (run29f k key v h2 hl hv hvs (by omega))) fun a b c h => h
theorem run29n (k : Kws) (key : S8) (v : List S8) (h2 : key.length ≠ 2) : Runs Try.prog TsK 40 (Try.f29.body.getD .skip) Try.f29.results.toList [k.d, .str key, .sl 0 1 (v.map D.str)] (k.d) := by
  refine ⟨Nat.le_of_ble_eq_true rfl, ?_⟩
  conv => whnf
  refine ifB_intro (fun hb => ?_) (fun hb => ?_)
  · exact ⟨rfl, rfl⟩
  · exfalso
    have hb : (!((key.length : Int) == 2)) = false := hb
    simp at hb; omega
theorem call29 (k : Kws) (key : S8) (v : List S8) (hl : k.keys.length ≤ 1000000) (hv : v.length ≤ 1000000) (hvs : ∀ s ∈ v, s.length ≤ 1000000) : CallsTo Try.prog 29 [k.d, .str key, .sl 0 1 (v.map D.str)] (setK k key v).d := by
  unfold setK
  by_cases h2 : key.length = 2
  · rw [if_pos h2]
    have fin : ∀ st, ClT [(st, ⟨47, 2, (setE k.keys key v).map Ext.d, false⟩)] (.agg [.sl 0 1 (k.attrs.map D.str), .rsl st 2 0 (setE k.keys key v).length]) (Kws.mk k.attrs (setE k.keys key v)).d := by
      intro st
      refine ⟨_, rfl, rfl, ⟨⟨47, 2, (setE k.keys key v).map Ext.d, false⟩, ?_, rfl, ?_, ?_⟩, trivial⟩
      · simp [look]
      · simp
      · simp only [sliceD, Nat.zero_add, List.drop_zero]
        rw [List.take_of_length_le (by simp)]
    by_cases h : atK k.keys key < k.keys.length
    · exact callsTo_of_callsR (call29t k key v h2 hl hv hvs h) (fin _)
    · exact callsTo_of_callsR (call29f k key v h2 hl hv hvs h) (fin _)
  · rw [if_neg h2]
    exact calls Try.func29 rfl (by decide) (run29n k key v h2)
end Go.Proofs.Ytbfgendaafediaa.Fw

/- What is ordered, or set, leaves what it is made of as it was. -/
namespace Go.Proofs.Ytbfgendaafediaa.Fw
open Go Go.RowKit
set_option maxRecDepth 100000
set_option maxHeartbeats 4000000

theorem fewK_small (k : Kws) : (fewK k).attrs.length ≤ 5 ∧ (fewK k).keys.length ≤ 5 ∧ (∀ s ∈ (fewK k).attrs, s.length ≤ 9) ∧ ∀ e ∈ (fewK k).keys, e.key.length ≤ 9 ∧ e.subs.length ≤ 3 ∧ ∀ s ∈ e.subs, s.length ≤ 9 := by
  refine ⟨fewS_len _ _, ?_, fun s hs => fewS_mem hs, fun e he => ?_⟩
  · unfold fewK; rw [List.length_map, List.length_take]; omega
  · obtain ⟨x, _, rfl⟩ := List.mem_map.1 he
    refine ⟨?_, fewS_len _ _, fun s hs => fewS_mem hs⟩
    unfold cutE cut9; rw [List.length_take]; omega
theorem fewK_sm (k : Kws) : (fewK k).small := by
  obtain ⟨h1, h2, _, h4⟩ := fewK_small k
  exact ⟨by omega, by omega, fun e he => by have := (h4 e he).2.1; omega⟩
theorem compact_len (l : List S8) : (compact l).length ≤ l.length := cpt_le l l.length
theorem orderK_len (k : Kws) : (orderK k).attrs.length ≤ k.attrs.length ∧ (orderK k).keys.length ≤ k.keys.length := by
  unfold orderK
  refine ⟨?_, ?_⟩
  · have := compact_len (isort lt8 k.attrs)
    rw [show (isort lt8 k.attrs).length = k.attrs.length from sortTo_length lt8 _ _] at this
    exact this
  · rw [List.length_map, show (isort ltk (firsts k.keys)).length = (firsts k.keys).length from sortTo_length ltk _ _]
    exact fSt_le _ _
def ZZZ : S8 := [122, 122, 122]
def ZZ : S8 := [122, 122]
def ZY : S8 := [122, 121]
def CO : S8 := [99, 111]
abbrev Tk := Tm [26, 29] []
theorem run8 (k : Kws) (v : List S8) (hk : k.ok) (hv : v.length ≤ maxLen) : Runs Try.prog Tk 69 (Try.f8.body.getD .skip) Try.f8.results.toList [k.d, .sl 0 1 (v.map D.str)] (.bool true) := by
  refine ⟨Nat.le_of_ble_eq_true rfl, ?_⟩
  conv => whnf
  refine ⟨_, fun _ => call17, ?_⟩
  conv => whnf
  refine ⟨_, fun _ => call19 k hk, ?_⟩
  conv => whnf
  refine ⟨_, fun _ => call19 k hk, ?_⟩
  conv => whnf
  refine ⟨_, fun _ => call18 v 3 hv (by decide), ?_⟩
  conv => whnf
  obtain ⟨x1, x2, x3, x4⟩ := fewK_small k
  have x5 := fewK_sm k
  generalize fewK k = X at x1 x2 x3 x4 x5
  have hV := fewS_len v 3
  have hVs : ∀ s ∈ fewS v 3, s.length ≤ 1000000 := fun s hs => Nat.le_trans (fewS_mem hs) (by decide)
  generalize fewS v 3 = V at hV hVs
  refine ⟨⟨[], [], .agg [.rsl 4 1 0 (orderK X).attrs.length, .rsl 2 2 0 (orderK X).keys.length], [], [(4, rowMark), (2, rowMark)], [(4, ⟨9, 1, (ordA X).map D.str, false⟩), (2, ⟨47, 2, (orderK X).keys.map Ext.d, false⟩)]⟩, ?_⟩
  conv => whnf
  refine ⟨rfl, call26r X (by omega) (by omega), ?_⟩
  conv => whnf
  have hoa : (orderK X).attrs.length ≤ (ordA X).length := by
    show (compact (isort lt8 X.attrs)).length ≤ _
    unfold ordA; rw [List.length_append]; exact Nat.le_add_right _ _
  have hob : (orderK X).attrs.length ≤ 1000000 := by
    have := (orderK_len X).1; omega
  generalize ordA X = A at hoa
  generalize (orderK X).attrs.length = na at hoa hob
  have hoc : (orderK X).keys.length ≤ 1000000 := by
    have := (orderK_len X).2; omega
  generalize (orderK X).keys = OK at hoc
  by_cases hat : atK X.keys CO < X.keys.length
  · have h29 := call29t X CO V rfl (by omega) (by omega) hVs hat
    have hE : (setE X.keys CO V).length ≤ 1000000 := by rw [setE_len]; split <;> omega
    generalize setE X.keys CO V = E at h29 hE
    refine ⟨⟨[], [], .agg [.sl 0 1 (X.attrs.map D.str), .rsl 2547 2 0 E.length], [], [(2547, rowMark)], [(2547, ⟨47, 2, E.map Ext.d, false⟩)]⟩, ?_⟩
    conv => whnf
    refine ⟨rfl, h29, ?_⟩
    conv => whnf
    refine ⟨[], ?_⟩
    conv => whnf
    refine loop_at (σ := Nat × List S8) (fun q env => (env.setT 11 (.int .i64 (q.1 : Int))).setX 6 (q.2.map D.str)) (fun q => na - q.1) (fun q => q.1 ≤ na ∧ na ≤ q.2.length) (0, A) ⟨Nat.zero_le _, hoa⟩ rfl ?_
    rintro ⟨i, L⟩ ⟨hi, hL⟩ ih
    replace hi : i ≤ na := hi
    replace hL : na ≤ L.length := hL
    conv => whnf
    refine ifB_intro (fun h => ?_) (fun h => ?_)
    · have h : (i : Int) < (na : Int) := of_decide_eq_true h
      have hw : IntKind.i64.wrap ((i : Int) + 1) = ((i + 1 : Nat) : Int) := by rw [IntKind.wrap_i64]; omega
      have hz : 0 + ((i : Nat) : Int).toNat = i := by omega
      have ih' := ih (i + 1, L.set i ZZZ) ⟨show i + 1 ≤ na by omega, show na ≤ (L.set i ZZZ).length by rw [List.length_set]; exact hL⟩ (show na - i = na - (i + 1) + 1 by omega)
      conv => whnf
      refine sideB_intro (fun _ => decide_eq_true (by omega)) ?_
      conv => whnf
      refine sideB_intro (fun _ => blt_of (show 0 + ((i : Nat) : Int).toNat < (L.map D.str).length by rw [List.length_map]; omega)) ?_
      conv => whnf
      rw [hw]
      rw [← set_enc (enc := D.str) (d := .str ZZZ) rfl] at ih'
      simp only [hz]
      exact ih'
    · conv => whnf
      refine ⟨[], ?_⟩
      conv => whnf
      generalize (i, L).snd = L2
      refine loop_at (σ := Nat × List Ext) (fun q env => (env.setT 12 (.int .i64 (q.1 : Int))).setX 2 (q.2.map Ext.d)) (fun q => OK.length - q.1) (fun q => q.1 ≤ OK.length ∧ OK.length ≤ q.2.length) (0, OK) ⟨Nat.zero_le _, Nat.le_refl _⟩ rfl ?_
      rintro ⟨j, M⟩ ⟨hj, hM⟩ ih2
      replace hj : j ≤ OK.length := hj
      replace hM : OK.length ≤ M.length := hM
      conv => whnf
      refine ifB_intro (fun h2 => ?_) (fun h2 => ?_)
      · have h2 : (j : Int) < (OK.length : Int) := of_decide_eq_true h2
        have hw : IntKind.i64.wrap ((j : Int) + 1) = ((j + 1 : Nat) : Int) := by rw [IntKind.wrap_i64]; omega
        have hz : 0 + ((j : Nat) : Int).toNat = j := by omega
        obtain ⟨e, he⟩ : ∃ e, M[j]? = some e := ⟨_, List.getElem?_eq_getElem (by omega)⟩
        have ih' := ih2 (j + 1, M.set j ⟨ZZ, e.subs⟩) ⟨show j + 1 ≤ OK.length by omega, show OK.length ≤ (M.set j ⟨ZZ, e.subs⟩).length by rw [List.length_set]; exact hM⟩ (show OK.length - j = OK.length - (j + 1) + 1 by omega)
        conv => whnf
        refine sideB_intro (fun _ => decide_eq_true (by omega)) ?_
        conv => whnf
        refine fD_of (getD_enc (enc := Ext.d) (x := e) (show M[0 + ((j : Nat) : Int).toNat]? = some e by rw [hz]; exact he)) ?_
        conv => whnf
        refine sideB_intro (fun _ => blt_of (show 0 + ((j : Nat) : Int).toNat < (M.map Ext.d).length by rw [List.length_map]; omega)) ?_
        conv => whnf
        rw [hw]
        rw [← set_enc (enc := Ext.d) (d := .agg [.str ZZ, .sl 0 1 (e.subs.map D.str)]) rfl] at ih'
        simp only [hz]
        exact ih'
      · conv => whnf
        refine ⟨[], ?_⟩
        conv => whnf
        generalize (j, M).snd = M2
        refine loop_at (σ := Nat × List Ext) (fun q env => (env.setT 13 (.int .i64 (q.1 : Int))).setX 2 (q.2.map Ext.d)) (fun q => E.length - q.1) (fun q => q.1 ≤ E.length ∧ E.length ≤ q.2.length) (0, E) ⟨Nat.zero_le _, Nat.le_refl _⟩ rfl ?_
        rintro ⟨o, R⟩ ⟨ho, hR⟩ ih3
        replace ho : o ≤ E.length := ho
        replace hR : E.length ≤ R.length := hR
        conv => whnf
        refine ifB_intro (fun h3 => ?_) (fun h3 => ?_)
        · have h3 : (o : Int) < (E.length : Int) := of_decide_eq_true h3
          have hw : IntKind.i64.wrap ((o : Int) + 1) = ((o + 1 : Nat) : Int) := by rw [IntKind.wrap_i64]; omega
          have hz : 0 + ((o : Nat) : Int).toNat = o := by omega
          obtain ⟨e, he⟩ : ∃ e, R[o]? = some e := ⟨_, List.getElem?_eq_getElem (by omega)⟩
          have ih' := ih3 (o + 1, R.set o ⟨ZY, e.subs⟩) ⟨show o + 1 ≤ E.length by omega, show E.length ≤ (R.set o ⟨ZY, e.subs⟩).length by rw [List.length_set]; exact hR⟩ (show E.length - o = E.length - (o + 1) + 1 by omega)
          conv => whnf
          refine sideB_intro (fun _ => decide_eq_true (by omega)) ?_
          conv => whnf
          refine fD_of (getD_enc (enc := Ext.d) (x := e) (show R[0 + ((o : Nat) : Int).toNat]? = some e by rw [hz]; exact he)) ?_
          conv => whnf
          refine sideB_intro (fun _ => blt_of (show 0 + ((o : Nat) : Int).toNat < (R.map Ext.d).length by rw [List.length_map]; omega)) ?_
          conv => whnf
          rw [hw]
          rw [← set_enc (enc := Ext.d) (d := .agg [.str ZY, .sl 0 1 (e.subs.map D.str)]) rfl] at ih'
          simp only [hz]
          exact ih'
        · conv => whnf
          have h20 := call20 X X x5
          rw [decide_eq_true rfl] at h20
          refine ⟨_, fun _ => h20, ?_⟩
          conv => whnf
          exact ⟨rfl, rfl⟩
  · have h29 := call29f X CO V rfl (by omega) (by omega) hVs hat
    have hE : (setE X.keys CO V).length ≤ 1000000 := by rw [setE_len]; split <;> omega
    generalize setE X.keys CO V = E at h29 hE
    refine ⟨⟨[], [], .agg [.sl 0 1 (X.attrs.map D.str), .rsl 63 2 0 E.length], [], [(63, rowMark)], [(63, ⟨47, 2, E.map Ext.d, false⟩)]⟩, ?_⟩
    conv => whnf
    refine ⟨rfl, h29, ?_⟩
    conv => whnf
    refine ⟨[], ?_⟩
    conv => whnf
    refine loop_at (σ := Nat × List S8) (fun q env => (env.setT 11 (.int .i64 (q.1 : Int))).setX 6 (q.2.map D.str)) (fun q => na - q.1) (fun q => q.1 ≤ na ∧ na ≤ q.2.length) (0, A) ⟨Nat.zero_le _, hoa⟩ rfl ?_
    rintro ⟨i, L⟩ ⟨hi, hL⟩ ih
    replace hi : i ≤ na := hi
    replace hL : na ≤ L.length := hL
    conv => whnf
    refine ifB_intro (fun h => ?_) (fun h => ?_)
    · have h : (i : Int) < (na : Int) := of_decide_eq_true h
      have hw : IntKind.i64.wrap ((i : Int) + 1) = ((i + 1 : Nat) : Int) := by rw [IntKind.wrap_i64]; omega
      have hz : 0 + ((i : Nat) : Int).toNat = i := by omega
      have ih' := ih (i + 1, L.set i ZZZ) ⟨show i + 1 ≤ na by omega, show na ≤ (L.set i ZZZ).length by rw [List.length_set]; exact hL⟩ (show na - i = na - (i + 1) + 1 by omega)
      conv => whnf
      refine sideB_intro (fun _ => decide_eq_true (by omega)) ?_
      conv => whnf
      refine sideB_intro (fun _ => blt_of (show 0 + ((i : Nat) : Int).toNat < (L.map D.str).length by rw [List.length_map]; omega)) ?_
      conv => whnf
      rw [hw]
      rw [← set_enc (enc := D.str) (d := .str ZZZ) rfl] at ih'
      simp only [hz]
      exact ih'
    · conv => whnf
      refine ⟨[], ?_⟩
      conv => whnf
      generalize (i, L).snd = L2
      refine loop_at (σ := Nat × List Ext) (fun q env => (env.setT 12 (.int .i64 (q.1 : Int))).setX 2 (q.2.map Ext.d)) (fun q => OK.length - q.1) (fun q => q.1 ≤ OK.length ∧ OK.length ≤ q.2.length) (0, OK) ⟨Nat.zero_le _, Nat.le_refl _⟩ rfl ?_
      rintro ⟨j, M⟩ ⟨hj, hM⟩ ih2
      replace hj : j ≤ OK.length := hj
      replace hM : OK.length ≤ M.length := hM
      conv => whnf
      refine ifB_intro (fun h2 => ?_) (fun h2 => ?_)
      · have h2 : (j : Int) < (OK.length : Int) := of_decide_eq_true h2
        have hw : IntKind.i64.wrap ((j : Int) + 1) = ((j + 1 : Nat) : Int) := by rw [IntKind.wrap_i64]; omega
        have hz : 0 + ((j : Nat) : Int).toNat = j := by omega
        obtain ⟨e, he⟩ : ∃ e, M[j]? = some e := ⟨_, List.getElem?_eq_getElem (by omega)⟩
        have ih' := ih2 (j + 1, M.set j ⟨ZZ, e.subs⟩) ⟨show j + 1 ≤ OK.length by omega, show OK.length ≤ (M.set j ⟨ZZ, e.subs⟩).length by rw [List.length_set]; exact hM⟩ (show OK.length - j = OK.length - (j + 1) + 1 by omega)
        conv => whnf
        refine sideB_intro (fun _ => decide_eq_true (by omega)) ?_
        conv => whnf
        refine fD_of (getD_enc (enc := Ext.d) (x := e) (show M[0 + ((j : Nat) : Int).toNat]? = some e by rw [hz]; exact he)) ?_
        conv => whnf
        refine sideB_intro (fun _ => blt_of (show 0 + ((j : Nat) : Int).toNat < (M.map Ext.d).length by rw [List.length_map]; omega)) ?_
        conv => whnf
        rw [hw]
        rw [← set_enc (enc := Ext.d) (d := .agg [.str ZZ, .sl 0 1 (e.subs.map D.str)]) rfl] at ih'
        simp only [hz]
        exact ih'
      · conv => whnf
        refine ⟨[], ?_⟩
        conv => whnf
        generalize (j, M).snd = M2
        refine loop_at (σ := Nat × List Ext) (fun q env => (env.setT 13 (.int .i64 (q.1 : Int))).setX 2 (q.2.map Ext.d)) (fun q => E.length - q.1) (fun q => q.1 ≤ E.length ∧ E.length ≤ q.2.length) (0, E) ⟨Nat.zero_le _, Nat.le_refl _⟩ rfl ?_
        rintro ⟨o, R⟩ ⟨ho, hR⟩ ih3
        replace ho : o ≤ E.length := ho
        replace hR : E.length ≤ R.length := hR
        conv => whnf
        refine ifB_intro (fun h3 => ?_) (fun h3 => ?_)
        · have h3 : (o : Int) < (E.length : Int) := of_decide_eq_true h3
          have hw : IntKind.i64.wrap ((o : Int) + 1) = ((o + 1 : Nat) : Int) := by rw [IntKind.wrap_i64]; omega
          have hz : 0 + ((o : Nat) : Int).toNat = o := by omega
          obtain ⟨e, he⟩ : ∃ e, R[o]? = some e := ⟨_, List.getElem?_eq_getElem (by omega)⟩
          have ih' := ih3 (o + 1, R.set o ⟨ZY, e.subs⟩) ⟨show o + 1 ≤ E.length by omega, show E.length ≤ (R.set o ⟨ZY, e.subs⟩).length by rw [List.length_set]; exact hR⟩ (show E.length - o = E.length - (o + 1) + 1 by omega)
          conv => whnf
          refine sideB_intro (fun _ => decide_eq_true (by omega)) ?_
          conv => whnf
          refine fD_of (getD_enc (enc := Ext.d) (x := e) (show R[0 + ((o : Nat) : Int).toNat]? = some e by rw [hz]; exact he)) ?_
          conv => whnf
          refine sideB_intro (fun _ => blt_of (show 0 + ((o : Nat) : Int).toNat < (R.map Ext.d).length by rw [List.length_map]; omega)) ?_
          conv => whnf
          rw [hw]
          rw [← set_enc (enc := Ext.d) (d := .agg [.str ZY, .sl 0 1 (e.subs.map D.str)]) rfl] at ih'
          simp only [hz]
          exact ih'
        · conv => whnf
          have h20 := call20 X X x5
          rw [decide_eq_true rfl] at h20
          refine ⟨_, fun _ => h20, ?_⟩
          conv => whnf
          exact ⟨rfl, rfl⟩
theorem call8 (k : Kws) (v : List S8) (hk : k.ok) (hv : v.length ≤ maxLen) : CallsTo Try.prog 8 [k.d, .sl 0 1 (v.map D.str)] (.bool true) := calls Try.func8 rfl (by decide) (run8 k v hk hv)
end Go.Proofs.Ytbfgendaafediaa.Fw

/- The document's Set. -/
namespace Go.Proofs.Ytbfgendaafediaa.Fw
open Go Go.RowKit
set_option maxRecDepth 100000
set_option maxHeartbeats 8000000

theorem run52n (k : Kws) (key : S8) (v : List S8) (h2 : key.length ≠ 2) : Runs Try.prog T 60 (Try.f52.body.getD .skip) Try.f52.results.toList [k.d, .str key, .sl 0 1 (v.map D.str)] (k.d) := by
  refine ⟨Nat.le_of_ble_eq_true rfl, ?_⟩
  conv => whnf
  refine ifB_intro (fun hb => ?_) (fun hb => ?_)
  · exact ⟨rfl, rfl⟩
  · exfalso
    have hb : (!((key.length : Int) == 2)) = false := hb
    simp at hb; omega
abbrev TsR := Tm [] [47]
theorem run52t (k : Kws) (key : S8) (v : List S8) (h2 : key.length = 2) (hl : k.keys.length ≤ 1000000) (hv : v.length ≤ 1000000) (hvs : ∀ s ∈ v, s.length ≤ 1000000) (e : Ext) (he : k.keys[atK k.keys key]? = some e) : RunsR Try.prog TsR 60 (Try.f52.body.getD .skip) Try.f52.results.toList ([]) ([]) ([]) [k.d, .str key, .sl 0 1 (v.map D.str)] (fun d bx rw => d = .agg [.sl 0 1 (k.attrs.map D.str), .rsl 71 2 0 k.keys.length] ∧ bx = [] ∧ rw = [(71, ⟨47, 2, (setE k.keys key v).map Ext.d, false⟩)]) ([(71, rowMark)]) := by
  refine ⟨Nat.le_of_ble_eq_true rfl, rfl, ?_⟩
  conv => whnf
  refine ifB_intro (fun hb => ?_) (fun hb => ?_)
  · exfalso
    have hb : (!((key.length : Int) == 2)) = true := hb
    rw [h2] at hb; simp at hb
  conv => whnf
  refine ⟨[.nilT 7 9 1], ?_⟩
  conv => whnf
  refine loop_at (σ := Nat) (fun i env => (env.setT 8 (.int .i64 (i : Int))).setT 7 (.sl 2 1 (((v.take i).map low).map D.str))) (fun i => v.length - i) (fun i => i ≤ v.length) 0 (Nat.zero_le _) rfl ?_
  rintro i hi ih
  conv => whnf
  refine ifB_intro (fun h => ?_) (fun h => ?_)
  · have h : (i : Int) < ((v.map D.str).length : Int) := of_decide_eq_true h
    rw [List.length_map] at h
    have hlt : i < v.length := by omega
    obtain ⟨x, hx⟩ : ∃ x, v[i]? = some x := ⟨_, List.getElem?_eq_getElem hlt⟩
    have hw : IntKind.i64.wrap ((i : Int) + 1) = ((i + 1 : Nat) : Int) := by rw [IntKind.wrap_i64]; omega
    have ih' := ih (i + 1) hlt (by omega)
    rw [List.take_add_one, hx, Option.toList_some, List.map_append, List.map_append] at ih'
    conv => whnf
    refine sideB_intro (fun _ => decide_eq_true (by simp only [List.length_map]; omega)) ?_
    rw [getD_enc (enc := D.str) (x := x) (show v[(i : Int).toNat]? = some x from hx)]
    conv => whnf
    refine ⟨_, fun _ => call28 x (hvs x (List.mem_of_getElem? hx)), ?_⟩
    conv => whnf
    refine sideB_intro (fun _ => ?_) ?_
    · simp; omega
    conv => whnf
    rw [hw]
    exact ih'
  have h : ¬ ((i : Int) < ((v.map D.str).length : Int)) := of_decide_eq_false h
  rw [List.length_map] at h
  rw [List.take_of_length_le (by omega)]
  conv => whnf
  refine ⟨[(0, ?e1_0), (1, ?e1_1), (9, ?e1_2), (11, ?e1_3), (13, ?e1_4), (25, ?e1_5), (137, ?e1_6), (15, ?e1_7), (27, ?e1_8), (29, ?e1_9), (139, ?e1_10), (141, ?e1_11), (153, ?e1_12), (31, ?e1_13), (61, ?e1_14), (143, ?e1_15), (155, ?e1_16), (157, ?e1_17), (63, ?e1_18), (159, ?e1_19), (189, ?e1_20), (127, ?e1_21), (191, ?e1_22), (255, ?e1_23), (511, ?e1_24)], ?eF1, ?_, ?_, ?_⟩
  rotate_left 26
  · exact rfl
  refine tab_F rfl fun F hF => ?_
  obtain ⟨hF0, hF1, hF9, hF11, hF13, hF25, hF137, hF15, hF27, hF29, hF139, hF141, hF153, hF31, hF61, hF143, hF155, hF157, hF63, hF159, hF189, hF127, hF191, hF255, hF511, -⟩ := hF
  refine tab_1 rfl ?_ ?_
  · conv => whnf
    exact hF1
  refine tab_1 rfl ?_ ?_
  · conv => whnf
    exact hF9
  refine tab_4 rfl ?_ ?_ ?_ ?_ ?_
  · conv => whnf
    exact hF11
  · conv => whnf
    exact hF13
  · conv => whnf
    exact hF25
  · conv => whnf
    exact hF137
  refine tab_3 rfl ?_ ?_ ?_ ?_
  · conv => whnf
    exact hF15
  · conv => whnf
    exact hF27
  · conv => whnf
    exact hF139
  refine tab_3 rfl ?_ ?_ ?_ ?_
  · conv => whnf
    exact hF15
  · conv => whnf
    exact hF29
  · conv => whnf
    exact hF141
  refine tab_3 rfl ?_ ?_ ?_ ?_
  · conv => whnf
    exact hF27
  · conv => whnf
    exact hF29
  · conv => whnf
    exact hF153
  refine tab_3 rfl ?_ ?_ ?_ ?_
  · conv => whnf
    exact hF139
  · conv => whnf
    exact hF141
  · conv => whnf
    exact hF153
  refine tab_2 rfl ?_ ?_ ?_
  · conv => whnf
    exact hF31
  · conv => whnf
    exact hF143
  refine tab_2 rfl ?_ ?_ ?_
  · conv => whnf
    exact hF31
  · conv => whnf
    exact hF155
  refine tab_3 rfl ?_ ?_ ?_ ?_
  · conv => whnf
    exact hF31
  · conv => whnf
    refine sideB_intro (fun _ => (by simp [appendSide]; omega)) ?_
    conv => whnf
    exact hF61
  · conv => whnf
    exact hF157
  refine tab_2 rfl ?_ ?_ ?_
  · conv => whnf
    exact hF143
  · conv => whnf
    exact hF155
  refine tab_2 rfl ?_ ?_ ?_
  · conv => whnf
    exact hF143
  · conv => whnf
    exact hF157
  refine tab_2 rfl ?_ ?_ ?_
  · conv => whnf
    exact hF155
  · conv => whnf
    exact hF157
  refine tab_2 rfl ?_ ?_ ?_
  · conv => whnf
    refine sideB_intro (fun _ => (by simp [appendSide]; omega)) ?_
    conv => whnf
    exact hF63
  · conv => whnf
    exact hF159
  refine tab_2 rfl ?_ ?_ ?_
  · conv => whnf
    exact hF63
  · conv => whnf
    exact hF189
  refine tab_1 rfl ?_ ?_
  · conv => whnf
    exact hF159
  refine tab_1 rfl ?_ ?_
  · conv => whnf
    exact hF159
  refine tab_2 rfl ?_ ?_ ?_
  · conv => whnf
    exact hF159
  · conv => whnf
    refine sideB_intro (fun _ => (by simp [appendSide]; omega)) ?_
    conv => whnf
    exact hF189
  refine tab_2 rfl ?_ ?_ ?_
  · conv => whnf
    exact hF127
  · conv => whnf
    exact hF191
  refine tab_1 rfl ?_ ?_
  · conv => whnf
    refine sideB_intro (fun _ => (by simp [appendSide]; omega)) ?_
    conv => whnf
    exact hF191
  refine tab_1 rfl ?_ ?_
  · conv => whnf
    exact hF191
  refine tab_1 rfl ?_ ?_
  · conv => whnf
    exact hF255
  refine tab_1 rfl ?_ ?_
  · conv => whnf
    exact hF255
  refine tab_1 rfl ?_ ?_
  · conv => whnf
    exact hF511
  refine tab_0 rfl ?_ trivial
  · conv => whnf
    try exact rfl
  refine ⟨rfl, ?_⟩
  conv => whnf
  have hlt : atK k.keys key < k.keys.length := (List.getElem?_eq_some_iff.1 he).1
  have hc := call50 k key hl (by omega)
  rw [atI_pos hlt] at hc
  refine ⟨_, fun _ => hc, ?_⟩
  conv => whnf
  have hz : 0 + ((atK k.keys key : Nat) : Int).toNat = atK k.keys key := by omega
  have hx : setE k.keys key v = setAt k.keys (atK k.keys key) v := if_pos hlt
  refine sideB_intro (fun _ => decide_eq_true (by simp; omega)) ?_
  conv => whnf
  refine fD_of (getD_enc (enc := Ext.d) (x := e) (show k.keys[0 + (atK k.keys key : Int).toNat]? = some e from by rw [hz]; exact he)) ?_
  conv => whnf
  refine sideB_intro (fun _ => ?_) ?_
  · exact blt_of (by simp; omega)
  conv => whnf
  rw [hx, setAt_map he]
  have hn : (0 + (k.keys.map Ext.d).length) = k.keys.length := by simp
  refine ⟨rfl, congrArg (fun n => D.agg [.sl 0 1 (k.attrs.map D.str), .rsl 71 2 0 n]) hn, rfl, ?_⟩
  conv => lhs; whnf
  simp only [hz]
  rfl
theorem run52f (k : Kws) (key : S8) (v : List S8) (h2 : key.length = 2) (hl : k.keys.length ≤ 1000000) (hv : v.length ≤ 1000000) (hvs : ∀ s ∈ v, s.length ≤ 1000000) (he : k.keys.length ≤ atK k.keys key) : RunsR Try.prog TsR 60 (Try.f52.body.getD .skip) Try.f52.results.toList ([]) ([]) ([]) [k.d, .str key, .sl 0 1 (v.map D.str)] (fun d bx rw => d = .agg [.sl 0 1 (k.attrs.map D.str), .rsl 97 2 0 (k.keys.length + 1)] ∧ bx = [] ∧ rw = [(97, ⟨47, 2, (setE k.keys key v).map Ext.d, false⟩)]) ([(97, rowMark)]) := by
  refine ⟨Nat.le_of_ble_eq_true rfl, rfl, ?_⟩
  conv => whnf
  refine ifB_intro (fun hb => ?_) (fun hb => ?_)
  · exfalso
    have hb : (!((key.length : Int) == 2)) = true := hb
    rw [h2] at hb; simp at hb
  conv => whnf
  refine ⟨[.nilT 7 9 1], ?_⟩
  conv => whnf
  refine loop_at (σ := Nat) (fun i env => (env.setT 8 (.int .i64 (i : Int))).setT 7 (.sl 2 1 (((v.take i).map low).map D.str))) (fun i => v.length - i) (fun i => i ≤ v.length) 0 (Nat.zero_le _) rfl ?_
  rintro i hi ih
  conv => whnf
  refine ifB_intro (fun h => ?_) (fun h => ?_)
  · have h : (i : Int) < ((v.map D.str).length : Int) := of_decide_eq_true h
    rw [List.length_map] at h
    have hlt : i < v.length := by omega
    obtain ⟨x, hx⟩ : ∃ x, v[i]? = some x := ⟨_, List.getElem?_eq_getElem hlt⟩
    have hw : IntKind.i64.wrap ((i : Int) + 1) = ((i + 1 : Nat) : Int) := by rw [IntKind.wrap_i64]; omega
    have ih' := ih (i + 1) hlt (by omega)
    rw [List.take_add_one, hx, Option.toList_some, List.map_append, List.map_append] at ih'
    conv => whnf
    refine sideB_intro (fun _ => decide_eq_true (by simp only [List.length_map]; omega)) ?_
    rw [getD_enc (enc := D.str) (x := x) (show v[(i : Int).toNat]? = some x from hx)]
    conv => whnf
    refine ⟨_, fun _ => call28 x (hvs x (List.mem_of_getElem? hx)), ?_⟩
    conv => whnf
    refine sideB_intro (fun _ => ?_) ?_
    · simp; omega
    conv => whnf
    rw [hw]
    exact ih'
  have h : ¬ ((i : Int) < ((v.map D.str).length : Int)) := of_decide_eq_false h
  rw [List.length_map] at h
  rw [List.take_of_length_le (by omega)]
  conv => whnf
  refine ⟨[(0, ?e2_0), (1, ?e2_1), (9, ?e2_2), (11, ?e2_3), (13, ?e2_4), (25, ?e2_5), (137, ?e2_6), (15, ?e2_7), (27, ?e2_8), (29, ?e2_9), (139, ?e2_10), (141, ?e2_11), (153, ?e2_12), (31, ?e2_13), (61, ?e2_14), (143, ?e2_15), (155, ?e2_16), (157, ?e2_17), (63, ?e2_18), (159, ?e2_19), (189, ?e2_20), (127, ?e2_21), (191, ?e2_22), (255, ?e2_23), (511, ?e2_24)], ?eF2, ?_, ?_, ?_⟩
  rotate_left 26
  · exact rfl
  refine tab_F rfl fun F hF => ?_
  obtain ⟨hF0, hF1, hF9, hF11, hF13, hF25, hF137, hF15, hF27, hF29, hF139, hF141, hF153, hF31, hF61, hF143, hF155, hF157, hF63, hF159, hF189, hF127, hF191, hF255, hF511, -⟩ := hF
  refine tab_1 rfl ?_ ?_
  · conv => whnf
    exact hF1
  refine tab_1 rfl ?_ ?_
  · conv => whnf
    exact hF9
  refine tab_4 rfl ?_ ?_ ?_ ?_ ?_
  · conv => whnf
    exact hF11
  · conv => whnf
    exact hF13
  · conv => whnf
    exact hF25
  · conv => whnf
    exact hF137
  refine tab_3 rfl ?_ ?_ ?_ ?_
  · conv => whnf
    exact hF15
  · conv => whnf
    exact hF27
  · conv => whnf
    exact hF139
  refine tab_3 rfl ?_ ?_ ?_ ?_
  · conv => whnf
    exact hF15
  · conv => whnf
    exact hF29
  · conv => whnf
    exact hF141
  refine tab_3 rfl ?_ ?_ ?_ ?_
  · conv => whnf
    exact hF27
  · conv => whnf
    exact hF29
  · conv => whnf
    exact hF153
  refine tab_3 rfl ?_ ?_ ?_ ?_
  · conv => whnf
    exact hF139
  · conv => whnf
    exact hF141
  · conv => whnf
    exact hF153
  refine tab_2 rfl ?_ ?_ ?_
  · conv => whnf
    exact hF31
  · conv => whnf
    exact hF143
  refine tab_2 rfl ?_ ?_ ?_
  · conv => whnf
    exact hF31
  · conv => whnf
    exact hF155
  refine tab_3 rfl ?_ ?_ ?_ ?_
  · conv => whnf
    exact hF31
  · conv => whnf
    refine sideB_intro (fun _ => (by simp [appendSide]; omega)) ?_
    conv => whnf
    exact hF61
  · conv => whnf
    exact hF157
  refine tab_2 rfl ?_ ?_ ?_
  · conv => whnf
    exact hF143
  · conv => whnf
    exact hF155
  refine tab_2 rfl ?_ ?_ ?_
  · conv => whnf
    exact hF143
  · conv => whnf
    exact hF157
  refine tab_2 rfl ?_ ?_ ?_
  · conv => whnf
    exact hF155
  · conv => whnf
    exact hF157
  refine tab_2 rfl ?_ ?_ ?_
  · conv => whnf
    refine sideB_intro (fun _ => (by simp [appendSide]; omega)) ?_
    conv => whnf
    exact hF63
  · conv => whnf
    exact hF159
  refine tab_2 rfl ?_ ?_ ?_
  · conv => whnf
    exact hF63
  · conv => whnf
    exact hF189
  refine tab_1 rfl ?_ ?_
  · conv => whnf
    exact hF159
  refine tab_1 rfl ?_ ?_
  · conv => whnf
    exact hF159
  refine tab_2 rfl ?_ ?_ ?_
  · conv => whnf
    exact hF159
  · conv => whnf
    refine sideB_intro (fun _ => (by simp [appendSide]; omega)) ?_
    conv => whnf
    exact hF189
  refine tab_2 rfl ?_ ?_ ?_
  · conv => whnf
    exact hF127
  · conv => whnf
    exact hF191
  refine tab_1 rfl ?_ ?_
  · conv => whnf
    refine sideB_intro (fun _ => (by simp [appendSide]; omega)) ?_
    conv => whnf
    exact hF191
  refine tab_1 rfl ?_ ?_
  · conv => whnf
    exact hF191
  refine tab_1 rfl ?_ ?_
  · conv => whnf
    exact hF255
  refine tab_1 rfl ?_ ?_
  · conv => whnf
    exact hF255
  refine tab_1 rfl ?_ ?_
  · conv => whnf
    exact hF511
  refine tab_0 rfl ?_ trivial
  · conv => whnf
    try exact rfl
  refine ⟨rfl, ?_⟩
  conv => whnf
  have hc := call50 k key hl (by omega)
  rw [atI_neg he] at hc
  refine ⟨_, fun _ => hc, ?_⟩
  conv => whnf
  refine ⟨rfl, ?_⟩
  conv => whnf
  refine ⟨_, fun _ => call28 key (by omega), ?_⟩
  conv => whnf
  refine sideB_intro (fun _ => (by simp [appendSide]; omega)) ?_
  conv => whnf
  have e1 : (k.keys.length + [D.agg [D.str (low key), D.sl 0 (0 + 1) []]].length) = k.keys.length + 1 := by simp
  have e2 : IntKind.i64.wrap (((k.keys.length + 1 : Nat) : Int) - 1) = (k.keys.length : Int) := by rw [IntKind.wrap_i64]; omega
  have e3 : (([] : List D).length + (k.keys.map Ext.d).length) = k.keys.length := by simp
  simp only [e1, e2, e3]
  have hx : setE k.keys key v = k.keys ++ [⟨low key, v.map low⟩] := if_neg (by omega)
  have hap : List.take k.keys.length ([] ++ k.keys.map Ext.d) = k.keys.map Ext.d := List.take_of_length_le (by simp)
  have hz : 0 + ((k.keys.length : Nat) : Int).toNat = k.keys.length := by omega
  refine sideB_intro (fun _ => decide_eq_true (by omega)) ?_
  conv => whnf
  refine fD_of (show _ = Ext.d (Ext.mk (low key) []) from by dsimp only; rw [hap, hz]; simp [List.getD_eq_getElem?_getD]; rfl) ?_
  conv => whnf
  refine sideB_intro (fun _ => ?_) ?_
  · exact blt_of (by simp)
  conv => whnf
  have hs : (k.keys ++ [Ext.mk (low key) (v.map low)]).map Ext.d = (k.keys.map Ext.d ++ [D.agg [D.str (low key), D.sl 0 1 []]]).set k.keys.length (.agg [.str (low key), .sl 0 1 ((v.map low).map D.str)]) := by
    simp [Ext.d]
  rw [hx, hs]
  refine ⟨rfl, rfl, rfl, ?_⟩
  conv => lhs; whnf
  simp only [hz, hap]
  rfl
theorem call52 (k : Kws) (key : S8) (v : List S8) (hl : k.keys.length ≤ 1000000) (hv : v.length ≤ 1000000) (hvs : ∀ s ∈ v, s.length ≤ 1000000) : CallsTo Try.prog 52 [k.d, .str key, .sl 0 1 (v.map D.str)] (setK k key v).d := by
  unfold setK
  by_cases h2 : key.length = 2
  · rw [if_pos h2]
    have fin : ∀ st, ClT [(st, ⟨47, 2, (setE k.keys key v).map Ext.d, false⟩)] (.agg [.sl 0 1 (k.attrs.map D.str), .rsl st 2 0 (setE k.keys key v).length]) (Kws.mk k.attrs (setE k.keys key v)).d := by
      intro st
      refine ⟨_, rfl, rfl, ⟨⟨47, 2, (setE k.keys key v).map Ext.d, false⟩, ?_, rfl, ?_, ?_⟩, trivial⟩
      · simp [look]
      · simp
      · simp only [sliceD, Nat.zero_add, List.drop_zero]
        rw [List.take_of_length_le (by simp)]
    by_cases h : atK k.keys key < k.keys.length
    · have hc := callsR_imp (callsR Try.func52 rfl (by decide) (run52t k key v h2 hl hv hvs k.keys[atK k.keys key] (List.getElem?_eq_getElem h))) fun a b c h => h
      rw [show k.keys.length = (setE k.keys key v).length from by rw [setE_len, if_pos h]] at hc
      exact callsTo_of_callsR hc (fin _)
    · have hc := callsR_imp (callsR Try.func52 rfl (by decide) (run52f k key v h2 hl hv hvs (by omega))) fun a b c h => h
      rw [show k.keys.length + 1 = (setE k.keys key v).length from by rw [setE_len, if_neg h]] at hc
      exact callsTo_of_callsR hc (fin _)
  · rw [if_neg h2]
    exact calls Try.func52 rfl (by decide) (run52n k key v h2)
end Go.Proofs.Ytbfgendaafediaa.Fw

/- A key's value is told, and set. -/
namespace Go.Proofs.Ytbfgendaafediaa.Fw
open Go Go.RowKit
set_option maxRecDepth 100000
set_option maxHeartbeats 8000000

theorem isK_up (key : S8) : isK (upS key) = isK key := by
  funext e; unfold isK; rw [low_up]
theorem atK_up (l : List Ext) (key : S8) : atK l (upS key) = atK l key := by unfold atK; rw [isK_up]
theorem not_ahead {l : List Ext} {key : S8} {j : Nat} {y : Ext} (hj : j < atK l key) (hy : l[j]? = some y) : isK key y = false := by
  have hlt := (List.getElem?_eq_some_iff.1 hy).1
  have := List.not_of_lt_findIdx (p := isK key) (xs := l) hj
  rw [(List.getElem?_eq_some_iff.1 hy).2] at this
  simpa using this
theorem setE_at (l : List Ext) (key : S8) (v : List S8) : ∃ e, (setE l key v)[atK (setE l key v) key]? = some e ∧ e.subs = v.map low := by
  unfold setE
  by_cases h : atK l key < l.length
  · rw [if_pos h]
    have he : l[atK l key]? = some l[atK l key] := List.getElem?_eq_getElem h
    have hk : isK key l[atK l key] = true := List.findIdx_getElem (w := h)
    generalize l[atK l key] = e at he hk
    have hs : setAt l (atK l key) v = l.set (atK l key) ⟨e.key, v.map low⟩ := by unfold setAt; rw [he]
    have hg : (setAt l (atK l key) v)[atK l key]? = some ⟨e.key, v.map low⟩ := by
      rw [hs, List.getElem?_set_self h]
    have ha : atK (setAt l (atK l key) v) key = atK l key := findIdx_at (fun j y hj hy => by
      rw [hs, List.getElem?_set_ne (by omega)] at hy
      exact not_ahead hj hy) hg hk
    rw [ha]
    exact ⟨_, hg, rfl⟩
  · rw [if_neg h]
    have hle : atK l key = l.length := by
      have := List.findIdx_le_length (p := isK key) (xs := l)
      unfold atK at h ⊢; omega
    have hg : (l ++ [Ext.mk (low key) (v.map low)])[l.length]? = some ⟨low key, v.map low⟩ := by simp
    have ha : atK (l ++ [Ext.mk (low key) (v.map low)]) key = l.length := findIdx_at (fun j y hj hy => by
      rw [List.getElem?_append_left hj] at hy
      exact not_ahead (by omega) hy) hg (by simp [isK])
    rw [ha]
    exact ⟨_, hg, rfl⟩
theorem setK_small {k : Kws} {key : S8} {v : List S8} (h1 : k.attrs.length ≤ 1000) (h2 : k.keys.length ≤ 1000) (h3 : ∀ e ∈ k.keys, e.subs.length ≤ 1000) (hv : v.length ≤ 1000) : (setK k key v).small := by
  unfold setK
  split
  · refine ⟨by show k.attrs.length ≤ _; omega, ?_, ?_⟩
    · show (setE k.keys key v).length ≤ _
      rw [setE_len]; split <;> omega
    · show ∀ e ∈ setE k.keys key v, e.subs.length ≤ 1000000
      intro e he
      unfold setE at he
      split at he
      · unfold setAt at he
        split at he
        · rcases List.mem_or_eq_of_mem_set he with h | rfl
          · have := h3 e h; omega
          · show (v.map low).length ≤ _; rw [List.length_map]; omega
        · have := h3 e he; omega
      · rcases List.mem_append.1 he with h | h
        · have := h3 e h; omega
        · simp only [List.mem_singleton] at h
          subst h
          show (v.map low).length ≤ _; rw [List.length_map]; omega
  · exact ⟨by omega, by omega, fun e he => by have := h3 e he; omega⟩
theorem run30 (k : Kws) (key : S8) (v : List S8) (h1 : k.attrs.length ≤ 1000) (h2 : k.keys.length ≤ 1000) (h3 : ∀ e ∈ k.keys, e.subs.length ≤ 1000) (hkey : key.length ≤ 1000) (hv : v.length ≤ 1000) (hvs : ∀ s ∈ v, s.length ≤ 1000000) : Runs Try.prog T 103 (Try.f30.body.getD .skip) Try.f30.results.toList [k.d, .str key, .sl 0 1 (v.map D.str)] (.bool true) := by
  refine ⟨Nat.le_of_ble_eq_true rfl, ?_⟩
  conv => whnf
  have hc50 := call50 k key (by omega) (by omega)
  by_cases hat : atK k.keys key < k.keys.length
  · have he : k.keys[atK k.keys key]? = some k.keys[atK k.keys key] := List.getElem?_eq_getElem hat
    have hm := h3 _ (List.mem_of_getElem? he)
    generalize k.keys[atK k.keys key] = e at he hm
    have hc51 := call51t k key (by omega) (by omega) e he (by omega)
    rw [atI_pos hat] at hc50
    refine ⟨_, fun _ => hc50, ?_⟩
    conv => whnf
    refine ⟨_, fun _ => hc51, ?_⟩
    conv => whnf
    refine sideB_intro (fun _ => decide_eq_true (by simp only [List.length_map]; omega)) ?_
    rw [getD_enc (enc := Ext.d) (x := e) (show k.keys[(atK k.keys key : Int).toNat]? = some e from he)]
    conv => whnf
    have h23 := call23 e.subs e.subs (by omega)
    rw [decide_eq_true rfl] at h23
    refine ⟨_, fun _ => h23, ?_⟩
    conv => whnf
    refine ⟨_, fun _ => call29 k key v (by omega) (by omega) hvs, ?_⟩
    conv => whnf
    refine ⟨rfl, ?_⟩
    conv => whnf
    refine ⟨_, fun _ => call52 k key v (by omega) (by omega) hvs, ?_⟩
    conv => whnf
    have h20 := call20 (setK k key v) (setK k key v) (setK_small h1 h2 h3 hv)
    rw [decide_eq_true rfl] at h20
    refine ⟨_, fun _ => h20, ?_⟩
    conv => whnf
    refine ifB_intro (fun hb => ?_) (fun hb => ?_)
    · conv => whnf
      exact ⟨rfl, rfl⟩
    have hk2 : key.length = 2 := by
      have hb : (!((key.length : Int) == 2)) = false := hb
      simp at hb; omega
    obtain ⟨e2, g1, g2⟩ := setE_at k.keys key v
    have hse : setK k key v = ⟨k.attrs, setE k.keys key v⟩ := if_pos hk2
    have hsl : (setE k.keys key v).length ≤ 1000000 := by rw [setE_len]; split <;> omega
    have h51 := call51t (setK k key v) (upS key) (by rw [hse]; exact hsl) (by rw [up_len]; omega) e2 (by rw [hse, atK_up]; exact g1) (by rw [g2, List.length_map]; omega)
    rw [g2] at h51
    conv => whnf
    refine ⟨rfl, ?_⟩
    conv => whnf
    refine ⟨_, fun _ => call53 key (by omega), ?_⟩
    conv => whnf
    refine ⟨_, fun _ => h51, ?_⟩
    conv => whnf
    refine ⟨[], ?_⟩
    conv => whnf
    have hln : ((((v.map low).map D.str).length : Int) == ((v.map D.str).length : Int)) = true := by simp
    rw [hln]
    refine loop_at (σ := Nat) (fun i env => (env.setT 16 (.int .i64 (i : Int)))) (fun i => v.length - i) (fun i => i ≤ v.length) 0 (Nat.zero_le _) rfl ?_
    rintro i hi ih
    conv => whnf
    refine ifB_intro (fun hc => ?_) (fun hc => ?_)
    · have hc : (bif decide ((i : Int) < (((v.map low).map D.str).length : Int)) then true else false) = true := hc
      have hlt : i < v.length := by simp at hc; omega
      obtain ⟨x, hx⟩ : ∃ x, v[i]? = some x := ⟨_, List.getElem?_eq_getElem hlt⟩
      have hx2 : (v.map low)[i]? = some (low x) := by rw [List.getElem?_map, hx]; rfl
      have hw : IntKind.i64.wrap ((i : Int) + 1) = ((i + 1 : Nat) : Int) := by rw [IntKind.wrap_i64]; omega
      have ih' := ih (i + 1) hlt (by omega)
      conv => whnf
      refine ⟨rfl, ?_⟩
      conv => whnf
      refine sideB_intro (fun _ => decide_eq_true (by simp only [List.length_map]; omega)) ?_
      rw [getD_enc (enc := D.str) (x := low x) (show (v.map low)[(i : Int).toNat]? = some (low x) from hx2)]
      conv => whnf
      refine sideB_intro (fun _ => decide_eq_true (by simp only [List.length_map]; omega)) ?_
      rw [getD_enc (enc := D.str) (x := x) (show v[(i : Int).toNat]? = some x from hx)]
      conv => whnf
      refine ⟨_, fun _ => call28 x (hvs x (List.mem_of_getElem? hx)), ?_⟩
      conv => whnf
      rw [hw]
      have he : (low x == low x) = true := by simp
      rw [he]
      exact ih'
    conv => whnf
    exact ⟨rfl, rfl⟩
  · have hc51 := call51f k key (by omega) (by omega) (by omega)
    rw [atI_neg (by omega)] at hc50
    refine ⟨_, fun _ => hc50, ?_⟩
    conv => whnf
    refine ⟨_, fun _ => hc51, ?_⟩
    conv => whnf
    refine ⟨_, fun _ => call29 k key v (by omega) (by omega) hvs, ?_⟩
    conv => whnf
    refine ⟨rfl, ?_⟩
    conv => whnf
    refine ⟨_, fun _ => call52 k key v (by omega) (by omega) hvs, ?_⟩
    conv => whnf
    have h20 := call20 (setK k key v) (setK k key v) (setK_small h1 h2 h3 hv)
    rw [decide_eq_true rfl] at h20
    refine ⟨_, fun _ => h20, ?_⟩
    conv => whnf
    refine ifB_intro (fun hb => ?_) (fun hb => ?_)
    · conv => whnf
      exact ⟨rfl, rfl⟩
    have hk2 : key.length = 2 := by
      have hb : (!((key.length : Int) == 2)) = false := hb
      simp at hb; omega
    obtain ⟨e2, g1, g2⟩ := setE_at k.keys key v
    have hse : setK k key v = ⟨k.attrs, setE k.keys key v⟩ := if_pos hk2
    have hsl : (setE k.keys key v).length ≤ 1000000 := by rw [setE_len]; split <;> omega
    have h51 := call51t (setK k key v) (upS key) (by rw [hse]; exact hsl) (by rw [up_len]; omega) e2 (by rw [hse, atK_up]; exact g1) (by rw [g2, List.length_map]; omega)
    rw [g2] at h51
    conv => whnf
    refine ⟨rfl, ?_⟩
    conv => whnf
    refine ⟨_, fun _ => call53 key (by omega), ?_⟩
    conv => whnf
    refine ⟨_, fun _ => h51, ?_⟩
    conv => whnf
    refine ⟨[], ?_⟩
    conv => whnf
    have hln : ((((v.map low).map D.str).length : Int) == ((v.map D.str).length : Int)) = true := by simp
    rw [hln]
    refine loop_at (σ := Nat) (fun i env => (env.setT 16 (.int .i64 (i : Int)))) (fun i => v.length - i) (fun i => i ≤ v.length) 0 (Nat.zero_le _) rfl ?_
    rintro i hi ih
    conv => whnf
    refine ifB_intro (fun hc => ?_) (fun hc => ?_)
    · have hc : (bif decide ((i : Int) < (((v.map low).map D.str).length : Int)) then true else false) = true := hc
      have hlt : i < v.length := by simp at hc; omega
      obtain ⟨x, hx⟩ : ∃ x, v[i]? = some x := ⟨_, List.getElem?_eq_getElem hlt⟩
      have hx2 : (v.map low)[i]? = some (low x) := by rw [List.getElem?_map, hx]; rfl
      have hw : IntKind.i64.wrap ((i : Int) + 1) = ((i + 1 : Nat) : Int) := by rw [IntKind.wrap_i64]; omega
      have ih' := ih (i + 1) hlt (by omega)
      conv => whnf
      refine ⟨rfl, ?_⟩
      conv => whnf
      refine sideB_intro (fun _ => decide_eq_true (by simp only [List.length_map]; omega)) ?_
      rw [getD_enc (enc := D.str) (x := low x) (show (v.map low)[(i : Int).toNat]? = some (low x) from hx2)]
      conv => whnf
      refine sideB_intro (fun _ => decide_eq_true (by simp only [List.length_map]; omega)) ?_
      rw [getD_enc (enc := D.str) (x := x) (show v[(i : Int).toNat]? = some x from hx)]
      conv => whnf
      refine ⟨_, fun _ => call28 x (hvs x (List.mem_of_getElem? hx)), ?_⟩
      conv => whnf
      rw [hw]
      have he : (low x == low x) = true := by simp
      rw [he]
      exact ih'
    conv => whnf
    exact ⟨rfl, rfl⟩
theorem call30 (k : Kws) (key : S8) (v : List S8) (h1 : k.attrs.length ≤ 1000) (h2 : k.keys.length ≤ 1000) (h3 : ∀ e ∈ k.keys, e.subs.length ≤ 1000) (hkey : key.length ≤ 1000) (hv : v.length ≤ 1000) (hvs : ∀ s ∈ v, s.length ≤ 1000000) : CallsTo Try.prog 30 [k.d, .str key, .sl 0 1 (v.map D.str)] (.bool true) := calls Try.func30 rfl (by decide) (run30 k key v h1 h2 h3 hkey hv hvs)
end Go.Proofs.Ytbfgendaafediaa.Fw

/- The law of setting. -/
namespace Go.Proofs.Ytbfgendaafediaa.Fw
open Go Go.RowKit
set_option maxRecDepth 100000
set_option maxHeartbeats 8000000

def LS3 : List S8 := [[97], [99, 97], [98]]
theorem ls3_small : (readS LS3).attrs.length ≤ 1000 ∧ (readS LS3).keys.length ≤ 1000 ∧ ∀ e ∈ (readS LS3).keys, e.subs.length ≤ 1000 := by decide +kernel
theorem run9 (k : Kws) (key : S8) (v : List S8) (hk : k.ok) (hv : v.length ≤ maxLen) : Runs Try.prog T 40 (Try.f9.body.getD .skip) Try.f9.results.toList [k.d, .str key, .sl 0 1 (v.map D.str)] (.bool true) := by
  refine ⟨Nat.le_of_ble_eq_true rfl, ?_⟩
  conv => whnf
  refine ⟨_, fun _ => call17, ?_⟩
  conv => whnf
  refine ⟨_, fun _ => call19 k hk, ?_⟩
  conv => whnf
  refine ⟨_, fun _ => call18 [key] 1 (show 1 ≤ maxLen from by decide) (by decide), ?_⟩
  conv => whnf
  refine ⟨_, fun _ => call18 v 3 hv (by decide), ?_⟩
  conv => whnf
  obtain ⟨x1, x2, x3, x4⟩ := fewK_small k
  generalize fewK k = X at x1 x2 x3 x4
  have hV := fewS_len v 3
  have hVs : ∀ s ∈ fewS v 3, s.length ≤ 1000000 := fun s hs => Nat.le_trans (fewS_mem hs) (by decide)
  generalize fewS v 3 = V at hV hVs
  have hkl : (cut9 key).length ≤ 9 := by unfold cut9; rw [List.length_take]; omega
  generalize cut9 key = s at hkl
  refine ⟨_, fun _ => call30 X s V (by omega) (by omega) (fun e he => by have := (x4 e he).2.1; omega) (by omega) (by omega) hVs, ?_⟩
  conv => whnf
  refine ⟨_, fun _ => call30 X CO V (by omega) (by omega) (fun e he => by have := (x4 e he).2.1; omega) (by decide) (by omega) hVs, ?_⟩
  conv => whnf
  refine ⟨_, fun _ => call21 LS3 (by decide) (by decide), ?_⟩
  conv => whnf
  refine ⟨_, fun _ => call30 (readS LS3) s V ls3_small.1 ls3_small.2.1 ls3_small.2.2 (by omega) (by omega) hVs, ?_⟩
  conv => whnf
  exact ⟨rfl, rfl⟩
theorem call9 (k : Kws) (key : S8) (v : List S8) (hk : k.ok) (hv : v.length ≤ maxLen) : CallsTo Try.prog 9 [k.d, .str key, .sl 0 1 (v.map D.str)] (.bool true) := calls Try.func9 rfl (by decide) (run9 k key v hk hv)
end Go.Proofs.Ytbfgendaafediaa.Fw
