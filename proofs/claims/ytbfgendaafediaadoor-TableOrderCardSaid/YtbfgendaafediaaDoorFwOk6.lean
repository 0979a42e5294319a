/- Texts LA, LB, KD, KE, TA, TS, TI, TO, JA, TW, TX, TY, FA, FB, KW, LC, LE, LF, RD of the proof, in one. -/
import Derived.Room.Shelf.Join48
import Derived.LaidEql
import Derived.Stop.Asserts
import Derived.RowKitTokens
import Derived.Test.YtbfgendaafediaaDoorRows
import Derived.Test.YtbfgendaafediaaDoorTie
import Derived.Test.YtbfgendaafediaaDoorCards
import Derived.ChangeSame
import Derived.ChangeVars
import Derived.JoinedOf
import Derived.RowKit
import Derived.LaidLaws
import Derived.LaidHandle
import Derived.Stop.Joined
import Derived.SevenTiedAt
import Derived.Test.YtbfgendaafediaaDoorFwOk5
set_option linter.unusedSimpArgs false
set_option linter.unusedVariables false
set_option linter.unusedSectionVars false
set_option linter.unnecessarySimpa false

/- What the table laws ask of their arguments. -/
namespace Go.Proofs.YtbfgendaafediaaDoor.Fw
open Go Go.RowKit
set_option maxRecDepth 100000
set_option maxHeartbeats 4000000

def cut9 (s : S8) : S8 := s.take 9
def fewS (l : List S8) (n : Nat) : List S8 := (l.take n).map cut9
theorem run25 (l : List S8) (n : Nat) (hl : l.length ≤ maxLen) (hn : n ≤ 100) : Runs Tryd.prog T 33 (Tryd.f25.body.getD .skip) Tryd.f25.results.toList [.sl 0 1 (l.map D.str), .int .i64 n] (.sl 0 1 ((fewS l n).map D.str)) := by
  refine ⟨Nat.le_of_ble_eq_true rfl, ?_⟩
  conv => whnf
  refine ⟨[.nilT 5 9 1], ?_⟩
  conv => whnf
  refine loop_at (σ := Nat) (fun i env => (env.setT 6 (.int .i64 (i : Int))).setT 5 (.sl 2 1 ((fewS l i).map D.str))) (fun i => n - i) (fun i => i ≤ n ∧ i ≤ l.length) 0 ⟨Nat.zero_le _, Nat.zero_le _⟩ rfl ?_
  rintro i ⟨hi, hil⟩ ih
  conv => whnf
  refine ifB_intro (fun h => ?_) (fun h => ?_)
  · have h : (bif decide ((i : Int) < ((l.map D.str).length : Int)) then decide ((i : Int) < (n : Int)) else false) = true := h
    have hh : i < l.length ∧ i < n := by
      rw [List.length_map] at h
      simp at h; omega
    obtain ⟨hlt, hn2⟩ := hh
    obtain ⟨x, hx⟩ : ∃ x, l[i]? = some x := ⟨_, List.getElem?_eq_getElem hlt⟩
    have hw : IntKind.i64.wrap ((i : Int) + 1) = ((i + 1 : Nat) : Int) := by rw [IntKind.wrap_i64]; omega
    have ih' := ih (i + 1) ⟨hn2, hlt⟩ (by omega)
    rw [fewS, List.take_add_one, hx, Option.toList_some, List.map_append, List.map_append] at ih'
    conv => whnf
    refine sideB_intro (fun _ => decide_eq_true (by simp only [List.length_map]; omega)) ?_
    rw [getD_enc (enc := D.str) (x := x) (show l[(i : Int).toNat]? = some x from hx)]
    conv => whnf
    refine ifB_intro (fun h9 => ?_) (fun h9 => ?_)
    · have h9 : (9 : Int) < (x.length : Int) := of_decide_eq_true h9
      have hc : sliceD x (Int.toNat ((0 : Nat) : Int)) (Int.toNat 9) = cut9 x := by simp [sliceD, cut9]
      conv => whnf
      refine sideB_intro (fun _ => decide_eq_true ?_) ?_
      · exact ⟨by decide, by decide, by omega⟩
      conv => whnf
      refine sideB_intro (fun _ => ?_) ?_
      · simp [fewS]; omega
      conv => whnf
      rw [hw]
      have e : ((l.take i).map cut9).map D.str ++ [D.str (cut9 x)] = ((fewS l i).map D.str) ++ [D.str (sliceD x (Int.toNat ((0 : Nat) : Int)) (Int.toNat 9))] := by rw [hc]; rfl
      rw [show List.map D.str (List.map cut9 [x]) = [D.str (cut9 x)] from rfl, e] at ih'
      exact ih'
    · have h9 : ¬ ((9 : Int) < (x.length : Int)) := of_decide_eq_false h9
      have hc : cut9 x = x := List.take_of_length_le (by omega)
      conv => whnf
      refine sideB_intro (fun _ => ?_) ?_
      · simp [fewS]; omega
      conv => whnf
      rw [hw]
      rw [show List.map D.str (List.map cut9 [x]) = [D.str (cut9 x)] from rfl, hc] at ih'
      exact ih'
  · have h : (bif decide ((i : Int) < ((l.map D.str).length : Int)) then decide ((i : Int) < (n : Int)) else false) = false := h
    have hh : i = l.length ∨ i = n := by
      rw [List.length_map] at h
      simp at h; omega
    have hf : fewS l i = fewS l n := by
      rcases hh with e | e
      · rw [fewS, fewS, List.take_of_length_le (by omega), List.take_of_length_le (by omega)]
      · rw [e]
    conv => whnf
    rw [hf]
    exact ⟨rfl, rfl⟩
theorem call25 (l : List S8) (n : Nat) (hl : l.length ≤ maxLen) (hn : n ≤ 100) : CallsTo Tryd.prog 25 [.sl 0 1 (l.map D.str), .int .i64 n] (.sl 0 1 ((fewS l n).map D.str)) := calls Tryd.func25 rfl (by decide) (run25 l n hl hn)
theorem fewS_len (l : List S8) (n : Nat) : (fewS l n).length ≤ n := by
  unfold fewS; rw [List.length_map, List.length_take]; omega
theorem fewS_mem {l : List S8} {n : Nat} {s : S8} (h : s ∈ fewS l n) : s.length ≤ 9 := by
  unfold fewS at h
  obtain ⟨x, _, rfl⟩ := List.mem_map.1 h
  unfold cut9; rw [List.length_take]; omega
/-- A number's rest, from 0 on. -/
def restN (x : Int) (n : Nat) : Nat := (Int.tmod (Int.tmod x n + n) n).toNat
theorem restN_eq (x : Int) {n : Nat} (h : 0 < n) : Int.tmod (Int.tmod x n + n) n = (restN x n : Int) ∧ restN x n < n ∧ Int.tmod x n + n < 2 * n ∧ 0 < Int.tmod x n + n := by
  have h1 : Int.tmod x n < n := Int.tmod_lt_of_pos x (by omega)
  have h2 : -(n : Int) < Int.tmod x n := by
    rcases Int.lt_or_le x 0 with hx | hx
    · have e : Int.tmod x n = -(Int.tmod (-x) n) := by rw [Int.neg_tmod]; omega
      have := Int.tmod_lt_of_pos (-x) (show (0 : Int) < n by omega)
      omega
    · have := Int.tmod_nonneg (n : Int) hx
      omega
  have h3 : 0 ≤ Int.tmod (Int.tmod x n + n) n := Int.tmod_nonneg _ (by omega)
  have h4 : Int.tmod (Int.tmod x n + n) n < n := Int.tmod_lt_of_pos _ (by omega)
  unfold restN
  refine ⟨(Int.toNat_of_nonneg h3).symm, by omega, by omega, by omega⟩
theorem run9 (x : Int) (n : Nat) (h : 0 < n) (hn : n ≤ 1000000) : Runs Tryd.prog T 12 (Tryd.f9.body.getD .skip) Tryd.f9.results.toList [.int .i64 x, .int .i64 n] (.int .i64 (restN x n)) := by
  refine ⟨Nat.le_of_ble_eq_true rfl, ?_⟩
  conv => whnf
  obtain ⟨e, h1, h2, h3⟩ := restN_eq x h
  refine sideB_intro (fun _ => decide_eq_true (by omega)) ?_
  conv => whnf
  have hw : IntKind.i64.wrap (Int.tmod x n + n) = Int.tmod x n + n := by rw [IntKind.wrap_i64]; omega
  rw [hw]
  refine sideB_intro (fun _ => decide_eq_true (by omega)) ?_
  conv => whnf
  rw [e]
  exact ⟨rfl, rfl⟩
theorem call9 (x : Int) (n : Nat) (h : 0 < n) (hn : n ≤ 1000000) : CallsTo Tryd.prog 9 [.int .i64 x, .int .i64 n] (.int .i64 (restN x n)) := calls Tryd.func9 rfl (by decide) (run9 x n h hn)
end Go.Proofs.YtbfgendaafediaaDoor.Fw

/- Rows: texts filled up, or cut. -/
namespace Go.Proofs.YtbfgendaafediaaDoor.Fw
open Go Go.RowKit
set_option maxRecDepth 100000
set_option maxHeartbeats 4000000
def Z9 : S8 := [48, 48, 48, 48, 48, 48, 48, 48, 48]
/-- Is a number's i-th bit none? -/
def bitZ (b : Int) (i : Nat) : Bool :=
  IntKind.i64.wrap (BitVec.ofInt IntKind.i64.bits (b.fdiv (2 ^ min (IntKind.u64.wrap (i : Int)).toNat IntKind.i64.bits)) &&& BitVec.ofInt IntKind.i64.bits 1).toNat == 0
theorem bitZ0 (i : Nat) : bitZ 0 i = true := by
  unfold bitZ
  rw [Int.zero_fdiv]
  rfl
def padR (w : Nat) (b : Int) (i : Nat) (x : S8) : S8 := bif bitZ b i then (x ++ Z9).take w else x
def rowsG (w : Nat) (b : Int) : Nat → List S8 → List S8
  | _, [] => []
  | i, x :: F => padR w b i x :: rowsG w b (i + 1) F
def rowsL (w : Nat) (b : Int) (l : List S8) : List S8 := rowsG w b 0 (fewS l 12)
theorem rowsG_len (w : Nat) (b : Int) : ∀ (i : Nat) (F : List S8), (rowsG w b i F).length = F.length
  | _, [] => rfl
  | i, x :: F => by rw [rowsG, List.length_cons, List.length_cons, rowsG_len w b (i + 1) F]
theorem rowsG_mem {w : Nat} {b : Int} : ∀ {i : Nat} {F : List S8} {y : S8}, y ∈ rowsG w b i F → ∃ j x, x ∈ F ∧ y = padR w b j x
  | _, [], y, h => by cases h
  | i, x :: F, y, h => by
    rcases List.mem_cons.1 h with rfl | h
    · exact ⟨i, x, List.mem_cons_self .., rfl⟩
    · obtain ⟨j, x', h1, h2⟩ := rowsG_mem h
      exact ⟨j, x', List.mem_cons_of_mem _ h1, h2⟩
theorem rowsL_le (w : Nat) (b : Int) (l : List S8) : (rowsL w b l).length ≤ 12 := by
  unfold rowsL; rw [rowsG_len]; exact fewS_len l 12
theorem rowsL0_len {w : Nat} (hw : w ≤ 9) {l : List S8} {y : S8} (h : y ∈ rowsL w 0 l) : y.length = w := by
  obtain ⟨j, x, hx, rfl⟩ := rowsG_mem h
  unfold padR
  rw [bitZ0, cond_true, List.length_take, List.length_append]
  have : Z9.length = 9 := rfl
  omega
theorem rowsL_len {w : Nat} {b : Int} (hw : w ≤ 9) {l : List S8} {y : S8} (h : y ∈ rowsL w b l) : y.length ≤ 9 := by
  obtain ⟨j, x, hx, rfl⟩ := rowsG_mem h
  unfold padR
  have := fewS_mem hx
  cases bitZ b j
  · exact this
  · rw [cond_true, List.length_take]; omega
theorem run11 (l : List S8) (w : Nat) (b : Int) (hl : l.length ≤ maxLen) (hw : w ≤ 9) : Runs Tryd.prog T 43 (Tryd.f11.body.getD .skip) Tryd.f11.results.toList [.sl 0 1 (l.map D.str), .int .i64 w, .int .i64 b] (.sl 0 1 ((rowsL w b l).map D.str)) := by
  refine ⟨Nat.le_of_ble_eq_true rfl, ?_⟩
  conv => whnf
  refine ⟨_, fun _ => call25 l 12 hl (by decide), ?_⟩
  conv => whnf
  unfold rowsL
  have hF := fewS_len l 12
  have hF9 : ∀ x ∈ fewS l 12, x.length ≤ 9 := fun x h => fewS_mem h
  generalize fewS l 12 = F at hF hF9
  refine ⟨[.nilT 7 9 1], ?_⟩
  conv => whnf
  refine loop_at (σ := Nat × List S8) (fun q env => (env.setT 9 (.int .i64 (q.1 : Int))).setT 7 (.sl 2 1 (q.2.map D.str))) (fun q => F.length - q.1) (fun q => q.1 ≤ F.length ∧ q.2.length = q.1 ∧ q.2 ++ rowsG w b q.1 (F.drop q.1) = rowsG w b 0 F) (0, []) ⟨Nat.zero_le _, rfl, rfl⟩ rfl ?_
  rintro ⟨i, R⟩ ⟨hi, hR, hE⟩ ih
  replace hi : i ≤ F.length := hi
  replace hR : R.length = i := hR
  replace hE : R ++ rowsG w b i (F.drop i) = rowsG w b 0 F := hE
  conv => whnf
  refine ifB_intro (fun h => ?_) (fun h => ?_)
  · have h : (i : Int) < ((F.map D.str).length : Int) := of_decide_eq_true h
    rw [List.length_map] at h
    obtain ⟨x, hx⟩ : ∃ x, F[i]? = some x := ⟨_, List.getElem?_eq_getElem (by omega)⟩
    have hwr : IntKind.i64.wrap ((i : Int) + 1) = ((i + 1 : Nat) : Int) := by rw [IntKind.wrap_i64]; omega
    have hd : F.drop i = x :: F.drop (i + 1) := by
      obtain ⟨h1, h2⟩ := List.getElem?_eq_some_iff.1 hx
      rw [← h2]; exact List.drop_eq_getElem_cons h1
    rw [hd, rowsG] at hE
    have hx9 := hF9 x (List.mem_of_getElem? hx)
    have ih' := ih (i + 1, R ++ [padR w b i x]) ⟨by dsimp only; omega, by simp [hR], by simpa using hE⟩ (by dsimp only; omega)
    conv => whnf
    refine sideB_intro (fun _ => decide_eq_true (by simp only [List.length_map]; omega)) ?_
    rw [getD_enc (enc := D.str) (x := x) (show F[((i, R).fst : Int).toNat]? = some x from hx)]
    conv => whnf
    change (match (bif bitZ b i then decide (0 ≤ (w : Int)) else false) with | true => _ | false => _)
    rw [show decide (0 ≤ (w : Int)) = true from decide_eq_true (by omega)]
    unfold padR at ih'
    cases hb : bitZ b i with
    | true =>
      rw [hb, cond_true] at ih'
      conv => whnf
      have hz : (x ++ Z9).length = x.length + 9 := by rw [List.length_append]; rfl
      refine sideB_intro (fun _ => decide_eq_true (by show x.length + 9 ≤ _; omega)) ?_
      conv => whnf
      have hm : (if (9 : Int) < (w : Int) then (9 : Int) else (w : Int)) = (w : Int) := if_neg (by omega)
      rw [hm]
      have hz2 : (x ++ ({ data := #[48, 48, 48, 48, 48, 48, 48, 48, 48] } : ByteArray).data.toList) = x ++ Z9 := rfl
      rw [hz2]
      refine sideB_intro (fun _ => decide_eq_true ⟨by omega, by omega, by omega⟩) ?_
      conv => whnf
      have e : sliceD (x ++ Z9) (Int.toNat ((0 : Nat) : Int)) (Int.toNat (w : Int)) = (x ++ Z9).take w := by simp [sliceD]
      rw [e]
      refine sideB_intro (fun _ => ?_) ?_
      · simp; omega
      conv => whnf
      rw [hwr]
      rw [List.map_append] at ih'
      exact ih'
    | false =>
      rw [hb, cond_false] at ih'
      conv => whnf
      refine sideB_intro (fun _ => ?_) ?_
      · simp; omega
      conv => whnf
      rw [hwr]
      rw [List.map_append] at ih'
      exact ih'
  · have h : ¬ ((i : Int) < ((F.map D.str).length : Int)) := of_decide_eq_false h
    rw [List.length_map] at h
    rw [List.drop_of_length_le (by omega), rowsG, List.append_nil] at hE
    rw [← hE]
    conv => whnf
    exact ⟨rfl, rfl⟩
theorem call11 (l : List S8) (w : Nat) (b : Int) (hl : l.length ≤ maxLen) (hw : w ≤ 9) : CallsTo Tryd.prog 11 [.sl 0 1 (l.map D.str), .int .i64 w, .int .i64 b] (.sl 0 1 ((rowsL w b l).map D.str)) := calls Tryd.func11 rfl (by decide) (run11 l w b hl hw)
end Go.Proofs.YtbfgendaafediaaDoor.Fw

/- The sorter's front: rows of at most 12. -/
namespace Go.Proofs.YtbfgendaafediaaDoor.Fw
open Go Go.RowKit
set_option maxRecDepth 100000
set_option maxHeartbeats 4000000

theorem run66 (n : Nat) (hn : n ≤ 12) : RunsQ Tryd.prog T 25 (Tryd.f66.body.getD .skip) Tryd.f66.results.toList [.int .u64 n] (fun d => ∃ m, d = .int .i64 m) := by
  refine ⟨Nat.le_of_ble_eq_true rfl, ?_⟩
  conv => whnf
  refine ifB_intro (fun h => ?_) (fun h => ?_)
  · have := of_decide_eq_true h; omega
  conv => whnf
  refine ifB_intro (fun h => ?_) (fun h => ?_)
  · have := of_decide_eq_true h; omega
  conv => whnf
  refine ifB_intro (fun h => ?_) (fun h => ?_)
  · have := of_decide_eq_true h; omega
  conv => whnf
  have hw : IntKind.u8.wrap (n : Int) = n := by
    rcases (show n = 0 ∨ n = 1 ∨ n = 2 ∨ n = 3 ∨ n = 4 ∨ n = 5 ∨ n = 6 ∨ n = 7 ∨ n = 8 ∨ n = 9 ∨ n = 10 ∨ n = 11 ∨ n = 12 from by omega) with rfl | rfl | rfl | rfl | rfl | rfl | rfl | rfl | rfl | rfl | rfl | rfl | rfl <;> rfl
  refine sideB_intro (fun _ => decide_eq_true ?_) ?_
  · rw [hw]
    exact ⟨by omega, by show (n : Int) < 256; omega⟩
  conv => whnf
  exact ⟨rfl, _, rfl⟩
theorem call66 (n : Nat) (hn : n ≤ 12) : ∃ d, (fun d => ∃ m, d = .int .i64 m) d ∧ CallsTo Tryd.prog 66 [.int .u64 n] d := by
  obtain ⟨d, h, k⟩ := runsQ_one (run66 n hn)
  exact ⟨d, h, calls Tryd.func66 rfl (by decide) k⟩
theorem run43 (n : Nat) (hn : n ≤ 12) : RunsQ Tryd.prog T 8 (Tryd.f43.body.getD .skip) Tryd.f43.results.toList [.int .u64 n] (fun d => ∃ m, d = .int .i64 m) := by
  refine ⟨Nat.le_of_ble_eq_true rfl, ?_⟩
  conv => whnf
  obtain ⟨d, ⟨m, rfl⟩, hc⟩ := call66 n hn
  refine ⟨_, fun _ => hc, ?_⟩
  conv => whnf
  exact ⟨rfl, _, rfl⟩
theorem call43 (n : Nat) (hn : n ≤ 12) : ∃ d, (fun d => ∃ m, d = .int .i64 m) d ∧ CallsTo Tryd.prog 43 [.int .u64 n] d := by
  obtain ⟨d, h, k⟩ := runsQ_one (run43 n hn)
  exact ⟨d, h, calls Tryd.func43 rfl (by decide) k⟩
theorem len12 (n : Nat) (hn : n ≤ 12) : ∃ m, CallsTo Tryd.prog 43 [.int .u64 (IntKind.u64.wrap (n : Int))] (.int .i64 m) := by
  have hw : IntKind.u64.wrap (n : Int) = n := by
    rcases (show n = 0 ∨ n = 1 ∨ n = 2 ∨ n = 3 ∨ n = 4 ∨ n = 5 ∨ n = 6 ∨ n = 7 ∨ n = 8 ∨ n = 9 ∨ n = 10 ∨ n = 11 ∨ n = 12 from by omega) with rfl | rfl | rfl | rfl | rfl | rfl | rfl | rfl | rfl | rfl | rfl | rfl | rfl <;> rfl
  obtain ⟨d, ⟨m, rfl⟩, hc⟩ := call43 n hn
  exact ⟨m, by rw [hw]; exact hc⟩
end Go.Proofs.YtbfgendaafediaaDoor.Fw

/- Sorting of keys by insertion, and the sorter's front for them. -/
namespace Go.Proofs.YtbfgendaafediaaDoor.Fw
open Go Go.RowKit
set_option maxRecDepth 100000
set_option maxHeartbeats 4000000

theorem cmp_lt (a b : S8) : decide (cmp8 a b < 0) = lt8 a b := by
  unfold cmp8
  cases h : lt8 a b with
  | true => simp
  | false =>
    by_cases e : a = b
    · simp [e]
    · simp [e]
end Go.Proofs.YtbfgendaafediaaDoor.Fw

/- Tables: rows by number. -/
namespace Go.Proofs.YtbfgendaafediaaDoor.Fw
open Go Go.RowKit
set_option maxRecDepth 100000
set_option maxHeartbeats 4000000

/-- A table: how long rows are, and their keys; all rows. -/
structure Tab where
  w : Nat
  k : Nat
  bs : S8
def Tab.a (t : Tab) : D := .agg [.int .i64 t.w, .int .i64 t.k, .str t.bs]
abbrev Tab.d (t : Tab) : D := .eptr (.agg [.int .i64 t.w, .int .i64 t.k, .str t.bs]) 0
structure Tab.ok (t : Tab) : Prop where
  k0 : 0 < t.k
  kw : t.k ≤ t.w
  w1 : t.w ≤ 255
  len : t.bs.length ≤ 1000000
def Tab.n (t : Tab) : Nat := t.bs.length / t.w
def Tab.row (t : Tab) (i : Nat) : S8 := (t.bs.drop (i * t.w)).take t.w
def Tab.key (t : Tab) (i : Nat) : S8 := (t.row i).take t.k
theorem Tab.n_mul (t : Tab) : t.n * t.w ≤ t.bs.length := Nat.div_mul_le_self _ _
theorem Tab.row_in {t : Tab} {i : Nat} (h : i < t.n) : i * t.w + t.w ≤ t.bs.length := by
  have h1 := t.n_mul
  have h2 : (i + 1) * t.w ≤ t.n * t.w := Nat.mul_le_mul_right _ h
  rw [Nat.add_mul, Nat.one_mul] at h2
  omega
theorem Tab.row_len {t : Tab} {i : Nat} (h : i < t.n) : (t.row i).length = t.w := by
  have := Tab.row_in h
  unfold Tab.row
  rw [List.length_take, List.length_drop]; omega
theorem Tab.n_le {t : Tab} (h : t.ok) : t.n ≤ t.bs.length := Nat.div_le_self _ _
theorem run17 (t : Tab) (h : t.ok) : Runs Tryd.prog T 15 (Tryd.f17.body.getD .skip) Tryd.f17.results.toList [t.d] (.int .i64 t.n) := by
  refine ⟨Nat.le_of_ble_eq_true rfl, ?_⟩
  conv => whnf
  have h1 := h.k0
  have h2 := h.kw
  have h3 := h.len
  refine ⟨rfl, ?_⟩
  conv => whnf
  refine sideB_intro (fun _ => decide_eq_true (by omega)) ?_
  conv => whnf
  refine ⟨rfl, congrArg (D.int .i64) ?_⟩
  rw [IntKind.wrap_i64]
  have e : Int.tdiv (t.bs.length : Int) (t.w : Int) = ((t.bs.length / t.w : Nat) : Int) := rfl
  have e2 : t.bs.length / t.w ≤ t.bs.length := Nat.div_le_self _ _
  rw [e]
  unfold Tab.n
  generalize t.bs.length / t.w = q at e2
  omega
theorem call17 (t : Tab) (h : t.ok) : CallsTo Tryd.prog 17 [t.d] (.int .i64 t.n) := calls Tryd.func17 rfl (by decide) (run17 t h)
theorem run17n  : Runs Tryd.prog T 15 (Tryd.f17.body.getD .skip) Tryd.f17.results.toList [.nilp] (.int .i64 0) := by
  refine ⟨Nat.le_of_ble_eq_true rfl, ?_⟩
  conv => whnf
  exact ⟨rfl, rfl⟩
theorem call17n  : CallsTo Tryd.prog 17 [.nilp] (.int .i64 0) := calls Tryd.func17 rfl (by decide) (run17n)
theorem run39 (t : Tab) (i : Nat) (h : t.ok) (hi : i < t.n) : Runs Tryd.prog T 21 (Tryd.f39.body.getD .skip) Tryd.f39.results.toList [t.d, .int .i64 i] (.str (t.row i)) := by
  refine ⟨Nat.le_of_ble_eq_true rfl, ?_⟩
  conv => whnf
  have h1 := h.k0
  have h2 := h.kw
  have h3 := h.len
  have h4 := Tab.row_in hi
  have hm : IntKind.i64.wrap ((i : Int) * (t.w : Int)) = ((i * t.w : Nat) : Int) := by
    rw [IntKind.wrap_i64]
    have : (i : Int) * (t.w : Int) = ((i * t.w : Nat) : Int) := by simp
    rw [this]; omega
  refine ⟨rfl, ?_⟩
  conv => whnf
  rw [hm]
  refine sideB_intro (fun _ => decide_eq_true ?_) ?_
  · omega
  conv => whnf
  rw [show sliceD t.bs (Int.toNat ((i * t.w : Nat) : Int)) (Int.toNat (t.bs.length : Int)) = t.bs.drop (i * t.w) from by rw [sliceD_end, Int.toNat_natCast]]
  refine sideB_intro (fun _ => decide_eq_true ?_) ?_
  · rw [List.length_drop]; omega
  conv => whnf
  have e : sliceD (List.drop (i * t.w) t.bs) (Int.toNat ((0 : Nat) : Int)) (Int.toNat (t.w : Int)) = t.row i := by
    unfold Tab.row; simp [sliceD]
  exact ⟨rfl, congrArg D.str e⟩
theorem call39 (t : Tab) (i : Nat) (h : t.ok) (hi : i < t.n) : CallsTo Tryd.prog 39 [t.d, .int .i64 i] (.str (t.row i)) := calls Tryd.func39 rfl (by decide) (run39 t i h hi)
theorem run19 (t : Tab) : Runs Tryd.prog T 9 (Tryd.f19.body.getD .skip) Tryd.f19.results.toList [t.d] (.str t.bs) := by
  refine ⟨Nat.le_of_ble_eq_true rfl, ?_⟩
  conv => whnf
  exact ⟨rfl, rfl⟩
theorem call19 (t : Tab) : CallsTo Tryd.prog 19 [t.d] (.str t.bs) := calls Tryd.func19 rfl (by decide) (run19 t)
theorem run19n  : Runs Tryd.prog T 9 (Tryd.f19.body.getD .skip) Tryd.f19.results.toList [.nilp] (.str []) := by
  refine ⟨Nat.le_of_ble_eq_true rfl, ?_⟩
  conv => whnf
  exact ⟨rfl, rfl⟩
theorem call19n  : CallsTo Tryd.prog 19 [.nilp] (.str []) := calls Tryd.func19 rfl (by decide) (run19n)
theorem run20n  : Runs Tryd.prog T 17 (Tryd.f20.body.getD .skip) Tryd.f20.results.toList [.nilp, .int .i64 0] (.tup [.str [], .bool false]) := by
  refine ⟨Nat.le_of_ble_eq_true rfl, ?_⟩
  conv => whnf
  refine ⟨_, fun _ => call17n, ?_⟩
  conv => whnf
  exact ⟨rfl, rfl⟩
theorem call20n  : CallsTo Tryd.prog 20 [.nilp, .int .i64 0] (.tup [.str [], .bool false]) := calls Tryd.func20 rfl (by decide) (run20n)
theorem run20 (t : Tab) (i : Nat) (h : t.ok) (hi : i < t.n) : Runs Tryd.prog T 17 (Tryd.f20.body.getD .skip) Tryd.f20.results.toList [t.d, .int .i64 i] (.tup [.str (t.row i), .bool true]) := by
  refine ⟨Nat.le_of_ble_eq_true rfl, ?_⟩
  conv => whnf
  have h3 := h.len
  have h4 := Tab.n_le h
  refine ⟨_, fun _ => call17 t h, ?_⟩
  conv => whnf
  refine ifB_intro (fun hb => ?_) (fun hb => ?_)
  · exfalso
    have hb : decide ((t.n : Int) ≤ (i : Int)) = true := hb
    have := of_decide_eq_true hb
    omega
  · conv => whnf
    refine ⟨_, fun _ => call39 t i h hi, ?_⟩
    conv => whnf
    exact ⟨rfl, rfl⟩
theorem call20 (t : Tab) (i : Nat) (h : t.ok) (hi : i < t.n) : CallsTo Tryd.prog 20 [t.d, .int .i64 i] (.tup [.str (t.row i), .bool true]) := calls Tryd.func20 rfl (by decide) (run20 t i h hi)
theorem run20f (t : Tab) (i : Int) (h : t.ok) (hi : i < 0 ∨ (t.n : Int) ≤ i) : Runs Tryd.prog T 17 (Tryd.f20.body.getD .skip) Tryd.f20.results.toList [t.d, .int .i64 i] (.tup [.str [], .bool false]) := by
  refine ⟨Nat.le_of_ble_eq_true rfl, ?_⟩
  conv => whnf
  have h3 := h.len
  have h4 := Tab.n_le h
  refine ⟨_, fun _ => call17 t h, ?_⟩
  conv => whnf
  refine ifB_intro (fun hb => ?_) (fun hb => ?_)
  · conv => whnf
    exact ⟨rfl, rfl⟩
  · exfalso
    have hb : (bif decide (i < 0) then true else decide ((t.n : Int) ≤ i)) = false := hb
    rcases hi with hi | hi
    · rw [decide_eq_true hi] at hb; cases hb
    · rw [decide_eq_true hi] at hb
      cases hd : decide (i < 0) <;> rw [hd] at hb <;> cases hb
theorem call20f (t : Tab) (i : Int) (h : t.ok) (hi : i < 0 ∨ (t.n : Int) ≤ i) : CallsTo Tryd.prog 20 [t.d, .int .i64 i] (.tup [.str [], .bool false]) := calls Tryd.func20 rfl (by decide) (run20f t i h hi)
theorem run16t (t : Tab) (key : S8) : Runs Tryd.prog T 6 (Tryd.f16.body.getD .skip) Tryd.f16.results.toList [t.d, .str key] (.fn 36 [.eptr t.d 0, .eptr (.str key) 0]) := by
  refine ⟨Nat.le_of_ble_eq_true rfl, ?_⟩
  conv => whnf
  exact ⟨rfl, rfl⟩
theorem call16t (t : Tab) (key : S8) : CallsTo Tryd.prog 16 [t.d, .str key] (.fn 36 [.eptr t.d 0, .eptr (.str key) 0]) := calls Tryd.func16 rfl (by decide) (run16t t key)
theorem run16n (key : S8) : Runs Tryd.prog T 6 (Tryd.f16.body.getD .skip) Tryd.f16.results.toList [.nilp, .str key] (.fn 36 [.eptr .nilp 0, .eptr (.str key) 0]) := by
  refine ⟨Nat.le_of_ble_eq_true rfl, ?_⟩
  conv => whnf
  exact ⟨rfl, rfl⟩
theorem call16n (key : S8) : CallsTo Tryd.prog 16 [.nilp, .str key] (.fn 36 [.eptr .nilp 0, .eptr (.str key) 0]) := calls Tryd.func16 rfl (by decide) (run16n key)
/-- Does a text begin with another one? -/
def pre (s p : S8) : Bool := decide (p.length ≤ s.length) && (s.take p.length == p)
theorem run54 (s p : S8) : Runs Tryd.prog T 18 (Tryd.f54.body.getD .skip) Tryd.f54.results.toList [.str s, .str p] (.bool (pre s p)) := by
  refine ⟨Nat.le_of_ble_eq_true rfl, ?_⟩
  conv => whnf
  by_cases h : p.length ≤ s.length
  · have e1 : decide ((p.length : Int) ≤ (s.length : Int)) = true := decide_eq_true (by omega)
    have e2 : sliceD s (Int.toNat ((0 : Nat) : Int)) (Int.toNat (p.length : Int)) = s.take p.length := by simp [sliceD]
    refine sideB_intro (fun _ => decide_eq_true (by omega)) ?_
    conv => whnf
    rw [e1, e2]
    have : pre s p = (s.take p.length == p) := by simp [pre, h]
    rw [this]
    exact ⟨rfl, rfl⟩
  · have e1 : decide ((p.length : Int) ≤ (s.length : Int)) = false := decide_eq_false (by omega)
    refine sideB_intro (fun hg => ?_) ?_
    · have : decide ((p.length : Int) ≤ (s.length : Int)) = true := hg
      rw [e1] at this; cases this
    conv => whnf
    rw [e1]
    have : pre s p = false := by simp [pre, h]
    rw [this]
    exact ⟨rfl, rfl⟩
theorem call54 (s p : S8) : CallsTo Tryd.prog 54 [.str s, .str p] (.bool (pre s p)) := calls Tryd.func54 rfl (by decide) (run54 s p)
theorem run38 (s p : S8) : Runs Tryd.prog T 8 (Tryd.f38.body.getD .skip) Tryd.f38.results.toList [.str s, .str p] (.bool (pre s p)) := by
  refine ⟨Nat.le_of_ble_eq_true rfl, ?_⟩
  conv => whnf
  refine ⟨_, fun _ => call54 s p, ?_⟩
  conv => whnf
  exact ⟨rfl, rfl⟩
theorem call38 (s p : S8) : CallsTo Tryd.prog 38 [.str s, .str p] (.bool (pre s p)) := calls Tryd.func38 rfl (by decide) (run38 s p)
theorem run26 (w k : Int) : Runs Tryd.prog T 16 (Tryd.f26.body.getD .skip) Tryd.f26.results.toList [.int .i64 w, .int .i64 k] (.bool (decide (1 ≤ k ∧ k ≤ w ∧ w ≤ 255))) := by
  refine ⟨Nat.le_of_ble_eq_true rfl, ?_⟩
  conv => whnf
  have e : (bif (bif decide ((1 : Int) ≤ k) then decide (k ≤ w) else false) then decide (w ≤ 255) else false) = decide (1 ≤ k ∧ k ≤ w ∧ w ≤ 255) := by
    by_cases a : (1 : Int) ≤ k <;> by_cases b : k ≤ w <;> by_cases c : w ≤ 255 <;> simp [a, b, c]
  exact ⟨rfl, congrArg D.bool e⟩
theorem call26 (w k : Int) : CallsTo Tryd.prog 26 [.int .i64 w, .int .i64 k] (.bool (decide (1 ≤ k ∧ k ≤ w ∧ w ≤ 255))) := calls Tryd.func26 rfl (by decide) (run26 w k)
end Go.Proofs.YtbfgendaafediaaDoor.Fw

/- Tables: searching. -/
namespace Go.Proofs.YtbfgendaafediaaDoor.Fw
open Go Go.RowKit
set_option maxRecDepth 100000
set_option maxHeartbeats 4000000

/-- Where a search ends. -/
def bsr (p : Nat → Bool) : Nat → Nat → Nat → Nat
  | 0, i, _ => i
  | f + 1, i, j => if i < j then (if p ((i + j) / 2) then bsr p f i ((i + j) / 2) else bsr p f ((i + j) / 2 + 1) j) else i
def srch (p : Nat → Bool) (n : Nat) : Nat := bsr p n 0 n
theorem bsr_end (p : Nat → Bool) : ∀ {f i j : Nat}, ¬ i < j → bsr p f i j = i
  | 0, _, _, _ => rfl
  | f + 1, i, j, h => if_neg h
theorem bsr_spec (p : Nat → Bool) (n : Nat) (hm : ∀ x y, x ≤ y → y < n → p x = true → p y = true) : ∀ (f i j : Nat), j ≤ i + f → i ≤ j → j ≤ n → (∀ x, x < i → p x = false) → (∀ x, j ≤ x → x < n → p x = true) → bsr p f i j ≤ n ∧ (∀ x, x < bsr p f i j → p x = false) ∧ ∀ x, bsr p f i j ≤ x → x < n → p x = true
  | 0, i, j, h1, h2, h3, h4, h5 => by
    have : i = j := by omega
    subst this
    exact ⟨h3, h4, h5⟩
  | f + 1, i, j, h1, h2, h3, h4, h5 => by
    unfold bsr
    by_cases hij : i < j
    · rw [if_pos hij]
      by_cases hp : p ((i + j) / 2) = true
      · rw [if_pos hp]
        exact bsr_spec p n hm f i _ (by omega) (by omega) (by omega) h4 fun x hx hn => hm _ x hx hn hp
      · rw [if_neg hp]
        exact bsr_spec p n hm f _ j (by omega) (by omega) h3 (fun x hx => by
          cases hpx : p x with
          | false => rfl
          | true => exact absurd (hm x _ (by omega) (by omega) hpx) hp) h5
    · rw [if_neg hij]
      have : i = j := by omega
      subst this
      exact ⟨h3, h4, h5⟩
theorem srch_spec (p : Nat → Bool) (n : Nat) (hm : ∀ x y, x ≤ y → y < n → p x = true → p y = true) : srch p n ≤ n ∧ (∀ x, x < srch p n → p x = false) ∧ ∀ x, srch p n ≤ x → x < n → p x = true :=
  bsr_spec p n hm n 0 n (by omega) (by omega) (Nat.le_refl _) (fun x h => absurd h (by omega)) fun x h1 h2 => absurd h1 (by omega)
/-- The i-th row's key is not ahead of a text. -/
def geK (t : Tab) (key : S8) (i : Nat) : Bool := !lt8 (t.key i) key
theorem run53 (t : Tab) (key : S8) (i : Nat) (h : t.ok) (hi : i < t.n) : Runs Tryd.prog T 15 (Tryd.f53.body.getD .skip) Tryd.f53.results.toList [.int .i64 i, .eptr t.d 0, .eptr (.str key) 0] (.bool (geK t key i)) := by
  refine ⟨Nat.le_of_ble_eq_true rfl, ?_⟩
  conv => whnf
  have hl := Tab.row_len hi
  have hkw := h.kw
  refine ⟨rfl, ?_⟩
  conv => whnf
  refine ⟨_, fun _ => call39 t i h hi, ?_⟩
  conv => whnf
  refine sideB_intro (fun _ => decide_eq_true (by omega)) ?_
  conv => whnf
  have e : sliceD (t.row i) (Int.toNat ((0 : Nat) : Int)) (Int.toNat (t.k : Int)) = t.key i := by simp [sliceD, Tab.key]
  rw [e]
  exact ⟨rfl, rfl⟩
theorem call53 (t : Tab) (key : S8) (i : Nat) (h : t.ok) (hi : i < t.n) : CallsTo Tryd.prog 53 [.int .i64 i, .eptr t.d 0, .eptr (.str key) 0] (.bool (geK t key i)) := calls Tryd.func53 rfl (by decide) (run53 t key i h hi)
theorem run52 (t : Tab) (key : S8) (h : t.ok) : Runs Tryd.prog T 26 (Tryd.f52.body.getD .skip) Tryd.f52.results.toList [.int .i64 t.n, .fn 53 [.eptr t.d 0, .eptr (.str key) 0]] (.int .i64 (srch (geK t key) t.n)) := by
  refine ⟨Nat.le_of_ble_eq_true rfl, ?_⟩
  conv => whnf
  have hn := Tab.n_le h
  have hln := h.len
  refine ⟨[], ?_⟩
  conv => whnf
  refine loop_at (σ := Nat × Nat × Nat) (fun s env => (env.setT 5 (.int .i64 (s.2.1 : Int))).setT 6 (.int .i64 (s.2.2 : Int))) (fun s => s.1) (fun s => s.2.1 ≤ s.2.2 ∧ s.2.2 ≤ t.n ∧ s.2.2 ≤ s.2.1 + s.1 ∧ bsr (geK t key) s.1 s.2.1 s.2.2 = srch (geK t key) t.n) (t.n, 0, t.n) ⟨Nat.zero_le _, Nat.le_refl _, show t.n ≤ 0 + t.n by omega, rfl⟩ rfl ?_
  rintro ⟨f, i, j⟩ ⟨h1, h2, h3, h4⟩ ih
  simp only at h1 h2 h3 h4
  conv => whnf
  refine ifB_intro (fun hc => ?_) (fun hc => ?_)
  · have hc : (i : Int) < (j : Int) := of_decide_eq_true hc
    have e1 : IntKind.i64.wrap ((i : Int) + (j : Int)) = ((i + j : Nat) : Int) := by rw [IntKind.wrap_i64]; omega
    have e2 : IntKind.u64.wrap ((i + j : Nat) : Int) = ((i + j : Nat) : Int) := by
      have : IntKind.u64.wrap ((i + j : Nat) : Int) = ((i + j : Nat) : Int) % 18446744073709551616 := by simp [IntKind.wrap, IntKind.bits, IntKind.signed]
      omega
    have e3 : IntKind.i64.wrap (Int.fdiv ((i + j : Nat) : Int) (2 ^ min (Int.toNat 1) IntKind.u64.bits)) = (((i + j) / 2 : Nat) : Int) := by
      have : Int.fdiv ((i + j : Nat) : Int) (2 ^ min (Int.toNat 1) IntKind.u64.bits) = (((i + j) / 2 : Nat) : Int) := by
        rw [show (2 : Int) ^ min (Int.toNat 1) IntKind.u64.bits = ((2 : Nat) : Int) from rfl]
        exact (Int.ofNat_fdiv _ _).symm
      rw [this, IntKind.wrap_i64]; omega
    have hh : IntKind.i64.wrap ((IntKind.u64.wrap (IntKind.i64.wrap ((i : Int) + (j : Int)))).fdiv (2 ^ min (Int.toNat 1) IntKind.u64.bits)) = (((i + j) / 2 : Nat) : Int) := by rw [e1, e2, e3]
    cases f with
    | zero => exfalso; omega
    | succ f =>
    have hlt : i < j := by omega
    rw [bsr, if_pos hlt] at h4
    conv => whnf
    rw [hh]
    refine ⟨_, fun _ => call53 t key ((i + j) / 2) h (by omega), ?_⟩
    conv => whnf
    refine ifB_intro (fun hp => ?_) (fun hp => ?_)
    · have hp : (!(geK t key ((i + j) / 2))) = true := hp
      have hp : geK t key ((i + j) / 2) = false := by simpa using hp
      rw [if_neg (by rw [hp]; simp)] at h4
      have hw : IntKind.i64.wrap ((((i + j) / 2 : Nat) : Int) + 1) = (((i + j) / 2 + 1 : Nat) : Int) := by rw [IntKind.wrap_i64]; omega
      have ih' := ih (f, (i + j) / 2 + 1, j) ⟨show (i + j) / 2 + 1 ≤ j by omega, h2, show j ≤ (i + j) / 2 + 1 + f by omega, h4⟩ rfl
      conv => whnf
      rw [hw]
      exact ih'
    · have hp : (!(geK t key ((i + j) / 2))) = false := hp
      have hp : geK t key ((i + j) / 2) = true := by simpa using hp
      rw [if_pos hp] at h4
      have ih' := ih (f, i, (i + j) / 2) ⟨show i ≤ (i + j) / 2 by omega, show (i + j) / 2 ≤ t.n by omega, show (i + j) / 2 ≤ i + f by omega, h4⟩ rfl
      conv => whnf
      exact ih'
  · have hc : ¬ ((i : Int) < (j : Int)) := of_decide_eq_false hc
    rw [bsr_end _ (by omega)] at h4
    conv => whnf
    rw [← h4]
    exact ⟨rfl, rfl⟩
end Go.Proofs.YtbfgendaafediaaDoor.Fw

/- Tables: rows of a beginning; finding. -/
namespace Go.Proofs.YtbfgendaafediaaDoor.Fw
open Go Go.RowKit
set_option maxRecDepth 100000
set_option maxHeartbeats 4000000

theorem bsr_le (p : Nat → Bool) : ∀ (f : Nat) {i j : Nat}, i ≤ j → bsr p f i j ≤ j
  | 0, _, _, h => h
  | f + 1, i, j, h => by
    unfold bsr
    by_cases hij : i < j
    · rw [if_pos hij]
      by_cases hp : p ((i + j) / 2) = true
      · rw [if_pos hp]; exact Nat.le_trans (bsr_le p f (by omega)) (by omega)
      · rw [if_neg hp]; exact bsr_le p f (by omega)
    · rw [if_neg hij]; exact h
def fromK (t : Tab) (key : S8) : Nat := srch (geK t key) t.n
theorem run37 (t : Tab) (key : S8) (h : t.ok) : Runs Tryd.prog T 9 (Tryd.f37.body.getD .skip) Tryd.f37.results.toList [t.d, .str key] (.int .i64 (fromK t key)) := by
  refine ⟨Nat.le_of_ble_eq_true rfl, ?_⟩
  conv => whnf
  refine ⟨_, fun _ => call17 t h, ?_⟩
  conv => whnf
  refine ⟨_, fun _ => calls Tryd.func52 rfl (by decide) (run52 t key h), ?_⟩
  conv => whnf
  exact ⟨rfl, rfl⟩
theorem call37 (t : Tab) (key : S8) (h : t.ok) : CallsTo Tryd.prog 37 [t.d, .str key] (.int .i64 (fromK t key)) := calls Tryd.func37 rfl (by decide) (run37 t key h)
theorem run52n (key : S8) : Runs Tryd.prog T 26 (Tryd.f52.body.getD .skip) Tryd.f52.results.toList [.int .i64 0, .fn 53 [.eptr .nilp 0, .eptr (.str key) 0]] (.int .i64 0) := by
  refine ⟨Nat.le_of_ble_eq_true rfl, ?_⟩
  conv => whnf
  refine ⟨[], ?_⟩
  conv => whnf
  refine ⟨1, ?_⟩
  conv => whnf
  exact ⟨rfl, rfl⟩
theorem run37n (key : S8) : Runs Tryd.prog T 9 (Tryd.f37.body.getD .skip) Tryd.f37.results.toList [.nilp, .str key] (.int .i64 0) := by
  refine ⟨Nat.le_of_ble_eq_true rfl, ?_⟩
  conv => whnf
  refine ⟨_, fun _ => call17n, ?_⟩
  conv => whnf
  refine ⟨_, fun _ => calls Tryd.func52 rfl (by decide) (run52n key), ?_⟩
  conv => whnf
  exact ⟨rfl, rfl⟩
theorem call37n (key : S8) : CallsTo Tryd.prog 37 [.nilp, .str key] (.int .i64 0) := calls Tryd.func37 rfl (by decide) (run37n key)
def preGo (t : Tab) (key : S8) : Nat → Nat → List (Nat × S8)
  | 0, _ => []
  | f + 1, i => bif decide (i < t.n) && pre (t.key i) key then (i, t.row i) :: preGo t key f (i + 1) else []
def prefL (t : Tab) (key : S8) : List (Nat × S8) := preGo t key (t.n - fromK t key) (fromK t key)
def encR (p : Nat × S8) : List D := [.int .i64 p.1, .str p.2]
def Env.setY (ys : Option (Nat × List (List D))) (env : Env) : Env := { env with ys := ys }
theorem yields32 (t : Tab) (key : S8) (h : t.ok) : Yields Tryd.prog T 33 (Tryd.f36.body.getD .skip) [.eptr t.d 0, .eptr (.str key) 0] ((prefL t key).map encR) := by
  refine ⟨Nat.le_of_ble_eq_true rfl, fun yl => ?_⟩
  have hn := Tab.n_le h
  have hln := h.len
  have hkw := h.kw
  conv => whnf
  refine ⟨_, fun _ => call37 t key h, ?_⟩
  conv => whnf
  refine ⟨[], ?_⟩
  conv => whnf
  have hfr : fromK t key ≤ t.n := bsr_le _ _ (Nat.zero_le _)
  unfold prefL
  generalize fromK t key = i0 at hfr
  refine loop_at (σ := Nat) (fun i env => (env.setT 4 (.int .i64 (i : Int))).setY (some (yl, (preGo t key (t.n - i) i).map encR))) (fun i => t.n - i) (fun i => i ≤ t.n) i0 hfr rfl ?_
  rintro i hi ih
  have hx : i < t.n → preGo t key (t.n - i) i = bif pre (t.key i) key then (i, t.row i) :: preGo t key (t.n - (i + 1)) (i + 1) else [] := fun hlt => by
    rw [show t.n - i = (t.n - (i + 1)) + 1 from by omega, preGo, decide_eq_true hlt, Bool.true_and]
  conv => whnf
  refine ⟨rfl, ?_⟩
  conv => whnf
  refine ⟨_, fun _ => call17 t h, ?_⟩
  conv => whnf
  have hgi : decide ((i : Int) < (t.n : Int)) = true → i < t.n := fun hg => by have := of_decide_eq_true hg; omega
  refine ⟨.str (t.row i), fun hg => call39 t i h (hgi hg), ?_⟩
  conv => whnf
  refine sideB_intro (fun hg => ?_) ?_
  · have := Tab.row_len (hgi hg)
    exact decide_eq_true (by omega)
  have e : sliceD (t.row i) (Int.toNat ((0 : Nat) : Int)) (Int.toNat (t.k : Int)) = t.key i := by simp [sliceD, Tab.key]
  rw [e]
  conv => whnf
  refine ⟨_, fun _ => call38 (t.key i) key, ?_⟩
  conv => whnf
  refine ifB_intro (fun hb => ?_) (fun hb => ?_)
  · have hb : (bif decide ((i : Int) < (t.n : Int)) then pre (t.key i) key else false) = true := hb
    have hlt : i < t.n := by
      refine hgi ?_
      cases hd : decide ((i : Int) < (t.n : Int)) with
      | true => rfl
      | false => rw [hd] at hb; cases hb
    have hp : pre (t.key i) key = true := by
      rw [decide_eq_true (by omega : (i : Int) < (t.n : Int))] at hb; exact hb
    have hx := hx hlt
    rw [hp, cond_true] at hx
    have hw : IntKind.i64.wrap ((i : Int) + 1) = ((i + 1 : Nat) : Int) := by rw [IntKind.wrap_i64]; omega
    have ih' := ih (i + 1) (by omega) (by omega)
    rw [hx, List.map_cons]
    conv => whnf
    refine ⟨_, fun _ => call39 t i h hlt, ?_⟩
    conv => whnf
    refine ⟨⟨rfl, rfl⟩, ?_, ?_⟩
    · conv => whnf
      rw [hw]
      exact ih'
    · conv => whnf
      trivial
  · have hb : (bif decide ((i : Int) < (t.n : Int)) then pre (t.key i) key else false) = false := hb
    have he : preGo t key (t.n - i) i = [] := by
      by_cases hlt : i < t.n
      · rw [hx hlt]
        rw [decide_eq_true (by omega : (i : Int) < (t.n : Int)), cond_true] at hb
        rw [hb]; rfl
      · rw [show t.n - i = 0 from by omega]; rfl
    rw [he]
    conv => whnf
    trivial
theorem iter36 (t : Tab) (key : S8) (h : t.ok) : IterTo Tryd.prog 36 [.eptr t.d 0, .eptr (.str key) 0] ((prefL t key).map encR) := iters Tryd.func36 rfl (by decide) rfl (yields32 t key h)
theorem yields32n (key : S8) : Yields Tryd.prog T 33 (Tryd.f36.body.getD .skip) [.eptr .nilp 0, .eptr (.str key) 0] [] := by
  refine ⟨Nat.le_of_ble_eq_true rfl, fun yl => ?_⟩
  conv => whnf
  refine ⟨_, fun _ => call37n key, ?_⟩
  conv => whnf
  refine ⟨[], ?_⟩
  conv => whnf
  refine ⟨1, ?_⟩
  conv => whnf
  refine ⟨rfl, ?_⟩
  conv => whnf
  refine ⟨_, fun _ => call17n, ?_⟩
  conv => whnf
  have hg0 : decide ((0 : Int) < 0) = true → False := by decide
  refine ⟨.str [], fun hg => (hg0 hg).elim, ?_⟩
  conv => whnf
  refine ⟨fun hg => hg0 hg, ?_⟩
  conv => whnf
  refine ⟨fun hg => hg0 hg, ?_⟩
  conv => whnf
  repeat (refine ⟨fun hg => hg0 hg, ?_⟩; conv => whnf)
  trivial
theorem iter36n (key : S8) : IterTo Tryd.prog 36 [.eptr .nilp 0, .eptr (.str key) 0] [] := iters Tryd.func36 rfl (by decide) rfl (yields32n key)
theorem run21n (key : S8) : Runs Tryd.prog T 22 (Tryd.f21.body.getD .skip) Tryd.f21.results.toList [.nilp, .str key] (.tup [.str [], .bool false]) := by
  refine ⟨Nat.le_of_ble_eq_true rfl, ?_⟩
  conv => whnf
  refine ⟨_, fun _ => call16n key, ?_⟩
  conv => whnf
  refine ⟨[], ?_⟩
  conv => whnf
  refine ⟨[], iter36n key, ?_⟩
  conv => whnf
  exact ⟨rfl, rfl⟩
theorem call21n (key : S8) : CallsTo Tryd.prog 21 [.nilp, .str key] (.tup [.str [], .bool false]) := calls Tryd.func21 rfl (by decide) (run21n key)
theorem preGo_head {t : Tab} {key : S8} : ∀ {f i0 i : Nat} {r : S8} {l : List (Nat × S8)}, preGo t key f i0 = (i, r) :: l → i = i0 ∧ i < t.n ∧ r = t.row i ∧ pre (t.key i) key = true
  | 0, i0, i, r, l, h => by cases h
  | f + 1, i0, i, r, l, h => by
    unfold preGo at h
    cases hc : (decide (i0 < t.n) && pre (t.key i0) key) with
    | false => rw [hc] at h; cases h
    | true =>
      rw [hc, cond_true] at h
      simp only [List.cons.injEq, Prod.mk.injEq] at h
      obtain ⟨⟨rfl, rfl⟩, _⟩ := h
      simp only [Bool.and_eq_true, decide_eq_true_eq] at hc
      exact ⟨rfl, hc.1, rfl, hc.2⟩
/-- The row of a key. -/
def findT (t : Tab) (key : S8) : Option S8 := match prefL t key with
  | (i, _) :: _ => bif t.key i == key then some (t.row i) else none
  | [] => none
theorem run21 (t : Tab) (key : S8) (h : t.ok) : Runs Tryd.prog T 22 (Tryd.f21.body.getD .skip) Tryd.f21.results.toList [t.d, .str key] (.tup [.str ((findT t key).getD []), .bool (findT t key).isSome]) := by
  refine ⟨Nat.le_of_ble_eq_true rfl, ?_⟩
  conv => whnf
  refine ⟨_, fun _ => call16t t key, ?_⟩
  conv => whnf
  refine ⟨[], ?_⟩
  conv => whnf
  refine ⟨_, iter36 t key h, ?_⟩
  unfold findT
  cases hp : prefL t key with
  | nil =>
    conv => whnf
    exact ⟨rfl, rfl⟩
  | cons p l =>
    obtain ⟨i, r⟩ := p
    obtain ⟨hi0, hin, rfl, hpre⟩ := preGo_head hp
    have hl := Tab.row_len hin
    have hkw := h.kw
    rw [show ((i, t.row i) :: l).map encR = [D.int .i64 (i : Int), D.str (t.row i)] :: l.map encR from rfl]
    have hm : (match (i, t.row i) :: l with
      | (i, _) :: _ => bif t.key i == key then some (t.row i) else none
      | [] => none) = bif t.key i == key then some (t.row i) else none := rfl
    rw [hm]
    conv => whnf
    refine ⟨rfl, ?_⟩
    conv => whnf
    refine sideB_intro (fun _ => decide_eq_true (by omega)) ?_
    have e : sliceD (t.row i) (Int.toNat ((0 : Nat) : Int)) (Int.toNat (t.k : Int)) = t.key i := by simp [sliceD, Tab.key]
    rw [e]
    conv => whnf
    cases hb : (t.key i == key) with
    | true =>
      conv => whnf
      exact ⟨rfl, rfl⟩
    | false =>
      conv => whnf
      exact ⟨rfl, rfl⟩
theorem call21 (t : Tab) (key : S8) (h : t.ok) : CallsTo Tryd.prog 21 [t.d, .str key] (.tup [.str ((findT t key).getD []), .bool (findT t key).isSome]) := calls Tryd.func21 rfl (by decide) (run21 t key h)
end Go.Proofs.YtbfgendaafediaaDoor.Fw

/- Sorting of rows by their keys. -/
namespace Go.Proofs.YtbfgendaafediaaDoor.Fw
open Go Go.RowKit
set_option maxRecDepth 100000
set_option maxHeartbeats 4000000

/-- By the first k bytes. -/
abbrev ltP (k : Nat) (a b : S8) : Bool := lt8 (a.take k) (b.take k)
theorem sift_all {α : Type} (lt : α → α → Bool) {P : α → Prop} : ∀ (j : Nat) (L : List α), (∀ x ∈ L, P x) → ∀ x ∈ sift lt j L, P x
  | 0, L, h => h
  | j + 1, L, h => by
    unfold sift
    split
    · rename_i a b ha hb
      cases lt a b
      · exact h
      · rw [cond_true]
        refine sift_all lt j _ fun z hz => ?_
        rcases List.mem_or_eq_of_mem_set hz with hz | rfl
        · rcases List.mem_or_eq_of_mem_set hz with hz | rfl
          · exact h z hz
          · exact h _ (List.mem_of_getElem? hb)
        · exact h _ (List.mem_of_getElem? ha)
    · exact h
theorem sortTo_all {α : Type} (lt : α → α → Bool) {P : α → Prop} {L : List α} (h : ∀ x ∈ L, P x) : ∀ i, ∀ x ∈ sortTo lt L i, P x
  | 0 => h
  | i + 1 => sift_all lt i _ (sortTo_all lt h i)
theorem run30 (k : Nat) (a b : S8) (ha : k ≤ a.length) (hb : k ≤ b.length) : Runs Tryd.prog T 13 (Tryd.f30.body.getD .skip) Tryd.f30.results.toList [.str a, .str b, .eptr (.int .i64 k) 0] (.int .i64 (cmp8 (a.take k) (b.take k))) := by
  refine ⟨Nat.le_of_ble_eq_true rfl, ?_⟩
  conv => whnf
  refine ⟨rfl, ?_⟩
  conv => whnf
  refine sideB_intro (fun _ => decide_eq_true (by omega)) ?_
  conv => whnf
  refine sideB_intro (fun _ => decide_eq_true (by omega)) ?_
  conv => whnf
  have e : ∀ s : S8, sliceD s (Int.toNat ((0 : Nat) : Int)) (Int.toNat (k : Int)) = s.take k := fun s => by simp [sliceD]
  rw [e, e]
  refine ⟨_, fun _ => call31 (a.take k) (b.take k), ?_⟩
  conv => whnf
  exact ⟨rfl, rfl⟩
theorem call30 (k : Nat) (a b : S8) (ha : k ≤ a.length) (hb : k ≤ b.length) : CallsTo Tryd.prog 30 [.str a, .str b, .eptr (.int .i64 k) 0] (.int .i64 (cmp8 (a.take k) (b.take k))) := calls Tryd.func30 rfl (by decide) (run30 k a b ha hb)
theorem run57 (k : Nat) (l : List S8) (hl : l.length ≤ 1000000) (hkl : ∀ x ∈ l, k ≤ x.length) : RunsR Tryd.prog T 53 (Tryd.f57.body.getD .skip) Tryd.f57.results.toList ([]) (hS) (hR 9 1 (l.map D.str)) [.rsl 1000000 1 0 l.length, .int .i64 0, .int .i64 l.length, .fn 30 [.eptr (.int .i64 k) 0]] (fun d bx rw => d = .tup [] ∧ bx = [] ∧ rw = hR 9 1 ((isort (ltP k) l).map D.str)) (hS) := by
  refine ⟨Nat.le_of_ble_eq_true rfl, rfl, ?_⟩
  conv => whnf
  refine ⟨[], ?_⟩
  conv => whnf
  refine loop_at (σ := Nat) (fun i env => (env.setT 8 (.int .i64 ((i + 1 : Nat) : Int))).setX 1000000 ((sortTo (ltP k) l (i + 1)).map D.str)) (fun i => l.length - i) (fun i => i + 1 ≤ l.length ∨ i = 0) 0 (.inr rfl) rfl ?_
  rintro i hi ih
  conv => whnf
  refine ifB_intro (fun h => ?_) (fun h => ?_)
  · have h : ((i + 1 : Nat) : Int) < (l.length : Int) := of_decide_eq_true h
    have hlt : i + 1 < l.length := by omega
    have hw : IntKind.i64.wrap (((i + 1 : Nat) : Int) + 1) = ((i + 1 + 1 : Nat) : Int) := by rw [IntKind.wrap_i64]; omega
    have ih' := ih (i + 1) (.inl hlt) (by omega)
    have hlen := sortTo_length (ltP k) l (i + 1)
    have hmem : ∀ x ∈ sortTo (ltP k) l (i + 1), k ≤ x.length := sortTo_all (ltP k) hkl (i + 1)
    rw [sortTo] at ih'
    revert ih' hlen hmem
    generalize sortTo (ltP k) l (i + 1) = L0
    intro ih' hlen hmem
    conv => whnf
    refine ⟨[], ?_⟩
    conv => whnf
    refine loop_at (σ := Nat × List S8) (fun q env => (env.setT 9 (.int .i64 (q.1 : Int))).setX 1000000 (q.2.map D.str)) (fun q => q.1 + (l.length - l.length)) (fun q => q.1 ≤ i + 1 ∧ q.2.length = l.length ∧ (∀ x ∈ q.2, k ≤ x.length) ∧ sift (ltP k) q.1 q.2 = sift (ltP k) (i + 1) L0) (i + 1, L0) ⟨Nat.le_refl _, hlen, hmem, rfl⟩ rfl ?_
    rintro ⟨j, M⟩ ⟨hj, hM, hMk, hs⟩ ih2
    replace hj : j ≤ i + 1 := hj
    replace hM : M.length = l.length := hM
    replace hMk : ∀ x ∈ M, k ≤ x.length := hMk
    replace hs : sift (ltP k) j M = sift (ltP k) (i + 1) L0 := hs
    have hjl : j < M.length := by omega
    have hj1 : j - 1 < M.length := by omega
    obtain ⟨x, hx⟩ : ∃ x, M[j]? = some x := ⟨_, List.getElem?_eq_getElem hjl⟩
    obtain ⟨y, hy⟩ : ∃ y, M[j - 1]? = some y := ⟨_, List.getElem?_eq_getElem hj1⟩
    have hxk := hMk x (List.mem_of_getElem? hx)
    have hyk := hMk y (List.mem_of_getElem? hy)
    have hk := zero_toNat j
    have hk1 : 0 + Int.toNat (IntKind.i64.wrap ((j : Int) - 1)) = j - 1 := by rw [IntKind.wrap_i64]; omega
    conv => whnf
    refine ⟨rfl, ?_⟩
    conv => whnf
    refine sideB_intro (fun _ => decide_eq_true (by dsimp only; omega)) ?_
    conv => whnf
    refine fD_of (getD_enc (enc := D.str) (x := x) (by dsimp only; rw [hk]; exact hx)) ?_
    conv => whnf
    refine sideB_intro (fun _ => blt_of (by simp only [List.length_map]; omega)) ?_
    conv => whnf
    refine sideB_intro (fun hg => ?_) ?_
    · have hg : decide ((0 : Int) < (j : Int)) = true := hg
      have hg := of_decide_eq_true hg
      exact decide_eq_true (by dsimp only; rw [IntKind.wrap_i64]; omega)
    conv => whnf
    refine fD_of (getD_enc (enc := D.str) (x := y) (by dsimp only; rw [hk1]; exact hy)) ?_
    conv => whnf
    refine sideB_intro (fun _ => blt_of (by simp only [List.length_map]; omega)) ?_
    conv => whnf
    refine ⟨_, fun _ => call30 k x y hxk hyk, ?_⟩
    conv => whnf
    refine ifB_intro (fun hb => ?_) (fun hb => ?_)
    · have hb : 0 < j ∧ (ltP k) x y = true := by
        have hb : (bif decide ((0 : Int) < (j : Int)) then decide (cmp8 (x.take k) (y.take k) < 0) else false) = true := hb
        rw [cmp_lt] at hb
        by_cases h0 : (0 : Int) < (j : Int)
        · rw [decide_eq_true h0, cond_true] at hb; exact ⟨by omega, hb⟩
        · rw [decide_eq_false h0] at hb; cases hb
      obtain ⟨j, rfl⟩ : ∃ q, j = q + 1 := ⟨j - 1, by omega⟩
      have hsw : sift (ltP k) (j + 1) M = sift (ltP k) j ((M.set (j + 1) y).set j x) := by
        rw [sift, hx, show M[j]? = some y from hy]
        simp only [hb.2, cond_true]
      have ih3 := ih2 (j, (M.set (j + 1) y).set j x) ⟨by show j ≤ i + 1; omega, by simp [hM], fun z hz => (by
          rcases List.mem_or_eq_of_mem_set hz with hz | rfl
          · rcases List.mem_or_eq_of_mem_set hz with hz | rfl
            · exact hMk z hz
            · exact hyk
          · exact hxk), hsw.symm.trans hs⟩ (by dsimp only; omega)
      have hw2 : IntKind.i64.wrap (((j + 1 : Nat) : Int) - 1) = (j : Int) := by rw [IntKind.wrap_i64]; omega
      have hkj := zero_toNat j
      conv => whnf
      refine ⟨rfl, ?_⟩
      conv => whnf
      refine sideB_intro (fun _ => decide_eq_true (by dsimp only; rw [hw2]; omega)) ?_
      conv => whnf
      refine fD_of (getD_enc (enc := D.str) (x := y) (by dsimp only; rw [hk1]; exact hy)) ?_
      conv => whnf
      refine sideB_intro (fun _ => blt_of (by simp only [List.length_map]; omega)) ?_
      conv => whnf
      refine sideB_intro (fun _ => decide_eq_true (by dsimp only; omega)) ?_
      conv => whnf
      refine fD_of (getD_enc (enc := D.str) (x := x) (by dsimp only; rw [hk]; exact hx)) ?_
      conv => whnf
      refine sideB_intro (fun _ => blt_of (by simp only [List.length_map]; omega)) ?_
      conv => whnf
      refine sideB_intro (fun _ => decide_eq_true (by dsimp only; omega)) ?_
      conv => whnf
      refine sideB_intro (fun _ => blt_of (by simp only [List.length_map]; omega)) ?_
      conv => whnf
      refine sideB_intro (fun _ => decide_eq_true (by dsimp only; rw [hw2]; omega)) ?_
      conv => whnf
      refine sideB_intro (fun _ => blt_of (by simp only [List.length_map, List.length_set]; omega)) ?_
      conv => whnf
      rw [hw2, hkj, hk, set_enc (enc := D.str) (x := y) (d := .str y) rfl, set_enc (enc := D.str) (x := x) (d := .str x) rfl]
      exact ih3
    · have hb : ¬ (0 < j ∧ (ltP k) x y = true) := fun ⟨h0, h1⟩ => by
        have hb : (bif decide ((0 : Int) < (j : Int)) then decide (cmp8 (x.take k) (y.take k) < 0) else false) = false := hb
        rw [cmp_lt] at hb
        rw [decide_eq_true (by omega), cond_true, show lt8 (x.take k) (y.take k) = true from h1] at hb; cases hb
      have he : sift (ltP k) j M = M := by
        cases j with
        | zero => rfl
        | succ j =>
          rw [sift, hx, show M[j]? = some y from hy]
          have : (ltP k) x y = false := by
            cases h1 : (ltP k) x y with
            | false => rfl
            | true => exact absurd ⟨by omega, h1⟩ hb
          simp only [this, cond_false]
      rw [he] at hs
      conv => whnf
      rw [hs, hw]
      exact ih'
  · conv => whnf
    have h : ¬ (((i + 1 : Nat) : Int) < (l.length : Int)) := of_decide_eq_false h
    refine ⟨rfl, rfl, rfl, ?_⟩
    have : sortTo (ltP k) l (i + 1) = isort (ltP k) l := by
      rcases hi with hi | rfl
      · rw [isort, show i + 1 = l.length from by omega]
      · rw [isort]
        rcases (show l.length = 0 ∨ l.length = 1 from by omega) with e | e
        · rw [List.eq_nil_of_length_eq_zero e]; rfl
        · rw [e]
    rw [this]; rfl
theorem call57 (k : Nat) (l : List S8) (hl : l.length ≤ 1000000) (hkl : ∀ x ∈ l, k ≤ x.length) : CallsR Tryd.prog 57 [] hS (hR 9 1 (l.map D.str)) [.rsl 1000000 1 0 l.length, .int .i64 0, .int .i64 l.length, .fn 30 [.eptr (.int .i64 k) 0]] (.tup []) [] hS (hR 9 1 ((isort (ltP k) l).map D.str)) := callsR_imp (callsR Tryd.func57 rfl (by decide) (run57 k l hl hkl)) fun a b c h => h
abbrev Tp3 := Tm [57] []
theorem run42 (k : Nat) (l : List S8) (hl : l.length ≤ 12) (hkl : ∀ x ∈ l, k ≤ x.length) (m : Int) : RunsR Tryd.prog Tp3 148 (Tryd.f42.body.getD .skip) Tryd.f42.results.toList ([]) (hS) (hR 9 1 (l.map D.str)) [.rsl 1000000 1 0 l.length, .int .i64 0, .int .i64 l.length, .int .i64 m, .fn 30 [.eptr (.int .i64 k) 0]] (fun d bx rw => d = .tup [] ∧ bx = [] ∧ rw = hR 9 1 ((isort (ltP k) l).map D.str)) (hS) := by
  refine ⟨Nat.le_of_ble_eq_true rfl, rfl, ?_⟩
  conv => whnf
  refine ⟨[], ?_⟩
  conv => whnf
  refine ⟨1, ?_⟩
  conv => whnf
  refine ifB_intro (fun _ => ?_) (fun h => ?_)
  · conv => whnf
    refine ⟨⟨[], [(1000000, 1000000)], .tup [], [], hS, hR 9 1 ((isort (ltP k) l).map D.str)⟩, ?_⟩
    conv => whnf
    refine ⟨rfl, call57 k l (by omega) hkl, ?_⟩
    conv => whnf
    exact ⟨rfl, rfl, rfl, rfl⟩
  · exfalso
    have h := of_decide_eq_false h
    rw [IntKind.wrap_i64] at h; omega
theorem call42 (k : Nat) (l : List S8) (hl : l.length ≤ 12) (hkl : ∀ x ∈ l, k ≤ x.length) (m : Int) : CallsR Tryd.prog 42 [] hS (hR 9 1 (l.map D.str)) [.rsl 1000000 1 0 l.length, .int .i64 0, .int .i64 l.length, .int .i64 m, .fn 30 [.eptr (.int .i64 k) 0]] (.tup []) [] hS (hR 9 1 ((isort (ltP k) l).map D.str)) := callsR_imp (callsR Tryd.func42 rfl (by decide) (run42 k l hl hkl m)) fun a b c h => h
abbrev Tq3 := Tm [42] []
theorem run29 (k : Nat) (l : List S8) (hl : l.length ≤ 12) (hkl : ∀ x ∈ l, k ≤ x.length) : RunsR Tryd.prog Tq3 14 (Tryd.f29.body.getD .skip) Tryd.f29.results.toList ([]) (hS) (hR 9 1 (l.map D.str)) [.rsl 1000000 1 0 l.length, .fn 30 [.eptr (.int .i64 k) 0]] (fun d bx rw => d = .tup [] ∧ bx = [] ∧ rw = hR 9 1 ((isort (ltP k) l).map D.str)) (hS) := by
  refine ⟨Nat.le_of_ble_eq_true rfl, rfl, ?_⟩
  conv => whnf
  obtain ⟨m, hc⟩ := len12 l.length hl
  refine ⟨_, fun _ => hc, ?_⟩
  conv => whnf
  refine ⟨⟨[], [(1000000, 1000000)], .tup [], [], hS, hR 9 1 ((isort (ltP k) l).map D.str)⟩, ?_⟩
  conv => whnf
  refine ⟨rfl, call42 k l hl hkl m, ?_⟩
  conv => whnf
  exact ⟨rfl, rfl, rfl, rfl⟩
theorem call29 (k : Nat) (l : List S8) (hl : l.length ≤ 12) (hkl : ∀ x ∈ l, k ≤ x.length) : CallsR Tryd.prog 29 [] hS (hR 9 1 (l.map D.str)) [.rsl 1000000 1 0 l.length, .fn 30 [.eptr (.int .i64 k) 0]] (.tup []) [] hS (hR 9 1 ((isort (ltP k) l).map D.str)) := callsR_imp (callsR Tryd.func29 rfl (by decide) (run29 k l hl hkl)) fun a b c h => h
end Go.Proofs.YtbfgendaafediaaDoor.Fw

/- strings.Join: by the library's own contract. -/
namespace Go.Proofs.YtbfgendaafediaaDoor.Fw
open Go Go.RowKit Go.Shelf
set_option maxRecDepth 100000
set_option maxHeartbeats 4000000

def joinRen : Go.Shelf.Ren := ⟨fun | 156 => 32 | 165 => 45 | 166 => 46 | 169 => 47 | 240 => 67 | 241 => 68 | 276 => 78 | 277 => 79 | n => n, fun | 31 => 22 | 9 => 9 | 3 => 3 | 4 => 4 | 0 => 0 | 20 => 20 | 72 => 81 | 76 => 83 | 70 => 79 | 37 => 38 | 75 => 33 | 127 => 116 | 164 => 85 | 5 => 5 | 80 => 49 | n => n, fun n => n⟩
theorem laysJoin : Lays.n156 Tryd.prog joinRen where
  mixed := by kernel_rfl
  f156 := Tryd.func32.trans (congrArg some (by kernel_rfl))
  f165 := Tryd.func45.trans (congrArg some (by kernel_rfl))
  f166 := Tryd.func46.trans (congrArg some (by kernel_rfl))
  f169 := Tryd.func47.trans (congrArg some (by kernel_rfl))
  f240 := Tryd.func67.trans (congrArg some (by kernel_rfl))
  f241 := Tryd.func68.trans (congrArg some (by kernel_rfl))
  f276 := Tryd.func78.trans (congrArg some (by kernel_rfl))
  f277 := Tryd.func79.trans (congrArg some (by kernel_rfl))
  t0 := Tryd.underlying0
  a0 := Tryd.isAgg0
  z0 := Tryd.sizeOf0
  v0 := Tryd.zeroValue0
  t3 := Tryd.underlying3
  a3 := Tryd.isAgg3
  z3 := Tryd.sizeOf3
  v3 := Tryd.zeroValue3
  t4 := Tryd.underlying4
  a4 := Tryd.isAgg4
  z4 := Tryd.sizeOf4
  v4 := Tryd.zeroValue4
  t9 := Tryd.underlying9
  a9 := Tryd.isAgg9
  z9 := Tryd.sizeOf9
  v9 := Tryd.zeroValue9
  t20 := Tryd.underlying20
  a20 := Tryd.isAgg20
  z20 := Tryd.sizeOf20
  v20 := Tryd.zeroValue20
  t31 := Tryd.underlying22
  a31 := Tryd.isAgg22
  z31 := Tryd.sizeOf22
  v31 := Tryd.zeroValue22
  t37 := Tryd.underlying38
  a37 := Tryd.isAgg38
  z37 := Tryd.sizeOf38
  v37 := Tryd.zeroValue38
  t70 := Tryd.underlying79
  a70 := Tryd.isAgg79
  z70 := Tryd.sizeOf79
  v70 := Tryd.zeroValue79
  t72 := Tryd.underlying81
  a72 := Tryd.isAgg81
  z72 := Tryd.sizeOf81
  v72 := Tryd.zeroValue81
  t75 := Tryd.underlying33
  a75 := Tryd.isAgg33
  z75 := Tryd.sizeOf33
  v75 := Tryd.zeroValue33
  t76 := Tryd.underlying83
  a76 := Tryd.isAgg83
  z76 := Tryd.sizeOf83
  v76 := Tryd.zeroValue83
  t127 := Tryd.underlying116
  a127 := Tryd.isAgg116
  z127 := Tryd.sizeOf116
  v127 := Tryd.zeroValue116
  t164 := Tryd.underlying85
  a164 := Tryd.isAgg85
  z164 := Tryd.sizeOf85
  v164 := Tryd.zeroValue85
theorem joinExtra : Builder.Extra Tryd.prog joinRen where
  sizeBuilder := by kernel_rfl
  liesBuilder := by kernel_rfl
  t5 := Tryd.underlying5
  a5 := Tryd.isAgg5
  z5 := Tryd.sizeOf5
  v5 := Tryd.zeroValue5
  infoByte := by kernel_rfl
  cellsByte := by kernel_rfl
  sizeByte := by kernel_rfl
  neB5 := by decide

/-- Texts, one behind the other, with one between. -/
def joinS (l : List S8) (sep : S8) : S8 := Lib.join l sep
theorem repRow_str {I : Im} {w : World} {a : Addr} : ∀ {l : List S8} {i : Nat}, RepRow I w 1 (l.map D.str) a i → ∀ (j : Nat) (s : S8), l[j]? = some s → I (a.add ((i + j) * 1)).block (a.add ((i + j) * 1)).off ∧ w.cell? (a.add ((i + j) * 1)) = some (.string ⟨⟨s⟩⟩)
  | [], _, _, j, s, h => by simp at h
  | x :: l, i, h, 0, s, hs => by
    simp only [List.getElem?_cons_zero, Option.some.injEq] at hs; subst hs
    simp only [List.map_cons, RepRow, Rep] at h
    obtain ⟨⟨_, _, h1, u, h2, rfl⟩, _⟩ := h
    exact ⟨h1, h2⟩
  | x :: l, i, h, j + 1, s, hs => by
    simp only [List.map_cons, RepRow] at h
    have := repRow_str h.2 j s (by simpa using hs)
    rw [show i + (j + 1) = i + 1 + j from by omega]; exact this
theorem call32c (l : List S8) (sep : S8) (hne : l ≠ []) (hl : l.length ≤ 1000000) (hj : (joinS l sep).length ≤ 281474976710656) : CallsTo Tryd.prog 32 [.sl 0 1 (l.map D.str), .str sep] (.str (joinS l sep)) := by
  refine ⟨⟨_, Tryd.func32, by decide, by decide⟩, fun I w vs him hrep => ?_⟩
  simp only [RepL] at hrep
  obtain ⟨v, us, rfl, hv, v2, us2, rfl, hv2, rfl⟩ := hrep
  simp only [Rep] at hv hv2
  subst hv2
  rcases hv with ⟨_, ⟨_, he⟩ | ⟨a, cap, rfl, hcap, hrow⟩⟩
  · exact absurd (List.map_eq_nil_iff.1 he) hne
  · rw [List.length_map] at hcap ⊢
    have hat := repRow_str hrow
    obtain ⟨x, r, hx⟩ : ∃ x r, l = x :: r := by
      cases l with
      | nil => exact absurd rfl hne
      | cons x r => exact ⟨x, r, rfl⟩
    have h0 := hat 0 x (by rw [hx]; rfl)
    have ha0 : a.add ((0 + 0) * 1) = a := rfl
    rw [ha0] at h0
    have hspot : a.spot = none := by
      have := h0.2
      unfold World.cell? at this
      split at this
      · split at this
        · cases this
        · rename_i h; simpa using h
      · cases this
    obtain ⟨bk, o, sp⟩ := a
    simp only at hspot
    subst hspot
    let xs : List ByteArray := l.map fun s => ⟨⟨s⟩⟩
    have hxl : xs.length = l.length := by simp [xs]
    have hxd : xs.map (·.data.toList) = l := by simp [xs, Function.comp_def]
    have hc := Any.strings_Join_48 laysJoin joinExtra bk o cap xs ⟨⟨sep⟩⟩ w (fun j y hy => by
      have hs : ∃ s, l[j]? = some s ∧ y = ⟨⟨s⟩⟩ := by
        simp only [xs, List.getElem?_map] at hy
        cases hlj : l[j]? with
        | none => rw [hlj] at hy; cases hy
        | some s => rw [hlj] at hy; exact ⟨s, rfl, (Option.some.inj hy).symm⟩
      obtain ⟨s, h1, rfl⟩ := hs
      have := (hat j s h1).2
      rw [addr_add_mk, Nat.zero_add, Nat.mul_one] at this
      exact this) (him.1 bk o h0.1) (by rw [hxl]; omega) (by rw [hxl]; exact hcap) (by rw [hxd]; exact hj)
    rw [hxl, hxd] at hc
    refine Calls.mono hc fun e w' he => ?_
    obtain ⟨rfl, hb⟩ := he
    refine ⟨_, I, rfl, fun _ _ h => h, fun _ _ h => .inl h, fun b o h => Nat.lt_of_lt_of_le (him.1 b o h) hb.size, ?_, hb⟩
    simp only [Rep]; rfl
theorem run32n (sep : S8) : Runs Tryd.prog T 75 (Tryd.f32.body.getD .skip) Tryd.f32.results.toList [.sl 0 1 [], .str sep] (.str []) := by
  refine ⟨Nat.le_of_ble_eq_true rfl, ?_⟩
  conv => whnf
  exact ⟨rfl, rfl⟩
theorem call32n (sep : S8) : CallsTo Tryd.prog 32 [.sl 0 1 [], .str sep] (.str []) := calls Tryd.func32 rfl (by decide) (run32n sep)
theorem call32 (l : List S8) (sep : S8) (hl : l.length ≤ 1000000) (hj : (joinS l sep).length ≤ 281474976710656) : CallsTo Tryd.prog 32 [.sl 0 1 (l.map D.str), .str sep] (.str (joinS l sep)) := by
  cases l with
  | nil => exact call32n sep
  | cons x r => exact call32c (x :: r) sep (by simp) hl hj
end Go.Proofs.YtbfgendaafediaaDoor.Fw

/- Tables: what is wrong; making them. -/
namespace Go.Proofs.YtbfgendaafediaaDoor.Fw
open Go Go.RowKit
set_option maxRecDepth 100000
set_option maxHeartbeats 4000000

/-- A fault of a kind. -/
abbrev fltD (kind at_ : Int) (what : S8) : D := .ifc 101 (.eptr (.agg [.int .i64 at_, .str what, .ifc 26 (.int .i64 kind)]) 0)
def TABLE : S8 := [116, 97, 98, 108, 101]
theorem run41 (kind at_ : Int) (what : S8) (hk : kind ≠ 0) : Runs Tryd.prog T 16 (Tryd.f41.body.getD .skip) Tryd.f41.results.toList [.int .i64 kind, .int .i64 at_, .str what] (fltD kind at_ what) := by
  refine ⟨Nat.le_of_ble_eq_true rfl, ?_⟩
  conv => whnf
  have e : (kind == 0) = false := by simpa using hk
  rw [e]
  conv => whnf
  exact ⟨rfl, rfl⟩
theorem call41 (kind at_ : Int) (what : S8) (hk : kind ≠ 0) : CallsTo Tryd.prog 41 [.int .i64 kind, .int .i64 at_, .str what] (fltD kind at_ what) := calls Tryd.func41 rfl (by decide) (run41 kind at_ what hk)
theorem run27 (kind at_ : Int) (hk : kind ≠ 0) : Runs Tryd.prog T 8 (Tryd.f27.body.getD .skip) Tryd.f27.results.toList [.int .i64 kind, .int .i64 at_] (fltD kind at_ TABLE) := by
  refine ⟨Nat.le_of_ble_eq_true rfl, ?_⟩
  conv => whnf
  refine ⟨_, fun _ => call41 kind at_ TABLE hk, ?_⟩
  conv => whnf
  exact ⟨rfl, rfl⟩
theorem call27 (kind at_ : Int) (hk : kind ≠ 0) : CallsTo Tryd.prog 27 [.int .i64 kind, .int .i64 at_] (fltD kind at_ TABLE) := calls Tryd.func27 rfl (by decide) (run27 kind at_ hk)
/-- Is the i-th row's key behind the one ahead of it? -/
def Tab.up (t : Tab) (i : Nat) : Bool := lt8 (t.key (i - 1)) (t.key i)
theorem run18a (w k : Int) (bs : S8) (h : ¬ (1 ≤ k ∧ k ≤ w ∧ w ≤ 255)) : Runs Tryd.prog T 53 (Tryd.f18.body.getD .skip) Tryd.f18.results.toList [.int .i64 w, .int .i64 k, .str bs] (.tup [.nilp, fltD 1 0 TABLE]) := by
  refine ⟨Nat.le_of_ble_eq_true rfl, ?_⟩
  conv => whnf
  have hc := call26 w k
  rw [decide_eq_false h] at hc
  refine ⟨_, fun _ => hc, ?_⟩
  conv => whnf
  refine ⟨_, fun _ => call27 1 0 (by decide), ?_⟩
  conv => whnf
  exact ⟨rfl, rfl⟩
theorem call18a (w k : Int) (bs : S8) (h : ¬ (1 ≤ k ∧ k ≤ w ∧ w ≤ 255)) : CallsTo Tryd.prog 18 [.int .i64 w, .int .i64 k, .str bs] (.tup [.nilp, fltD 1 0 TABLE]) := calls Tryd.func18 rfl (by decide) (run18a w k bs h)
theorem run18b (w k : Nat) (bs : S8) (h : 1 ≤ k ∧ k ≤ w ∧ w ≤ 255) (hm : bs.length % w ≠ 0) : Runs Tryd.prog T 53 (Tryd.f18.body.getD .skip) Tryd.f18.results.toList [.int .i64 w, .int .i64 k, .str bs] (.tup [.nilp, fltD 12 bs.length TABLE]) := by
  refine ⟨Nat.le_of_ble_eq_true rfl, ?_⟩
  conv => whnf
  have hc := call26 w k
  rw [decide_eq_true (by omega)] at hc
  refine ⟨_, fun _ => hc, ?_⟩
  conv => whnf
  refine sideB_intro (fun _ => decide_eq_true (by omega)) ?_
  conv => whnf
  have e : (Int.tmod (bs.length : Int) (w : Int) != 0) = true := by
    have : Int.tmod (bs.length : Int) (w : Int) = ((bs.length % w : Nat) : Int) := rfl
    rw [this]; simp; omega
  rw [e]
  conv => whnf
  refine ⟨_, fun _ => call27 12 bs.length (by decide), ?_⟩
  conv => whnf
  exact ⟨rfl, rfl⟩
theorem call18b (w k : Nat) (bs : S8) (h : 1 ≤ k ∧ k ≤ w ∧ w ≤ 255) (hm : bs.length % w ≠ 0) : CallsTo Tryd.prog 18 [.int .i64 w, .int .i64 k, .str bs] (.tup [.nilp, fltD 12 bs.length TABLE]) := calls Tryd.func18 rfl (by decide) (run18b w k bs h hm)
theorem run18c (t : Tab) (h : t.ok) (hm : t.bs.length % t.w = 0) (hu : ∀ j, 1 ≤ j → j < t.n → t.up j = true) : Runs Tryd.prog T 53 (Tryd.f18.body.getD .skip) Tryd.f18.results.toList [.int .i64 t.w, .int .i64 t.k, .str t.bs] (.tup [t.d, .nili]) := by
  refine ⟨Nat.le_of_ble_eq_true rfl, ?_⟩
  conv => whnf
  have hc := call26 t.w t.k
  have k1 := h.k0
  have k2 := h.kw
  have k3 := h.w1
  have k4 := h.len
  have hn := Tab.n_le h
  rw [decide_eq_true (by omega)] at hc
  refine ⟨_, fun _ => hc, ?_⟩
  conv => whnf
  refine sideB_intro (fun _ => decide_eq_true (by omega)) ?_
  conv => whnf
  have e : (Int.tmod (t.bs.length : Int) (t.w : Int) != 0) = false := by
    have : Int.tmod (t.bs.length : Int) (t.w : Int) = ((t.bs.length % t.w : Nat) : Int) := rfl
    rw [this]; simp; omega
  rw [e]
  conv => whnf
  refine ⟨[.sealT 8], ?_⟩
  conv => whnf
  refine loop_at (σ := Nat) (fun i env => (env.setT 9 (.int .i64 ((i + 1 : Nat) : Int)))) (fun i => t.n - i) (fun i => i ≤ t.n) 0 (Nat.zero_le _) rfl ?_
  rintro i hi ih
  conv => whnf
  refine ⟨_, fun _ => call17 t h, ?_⟩
  conv => whnf
  refine ifB_intro (fun hc => ?_) (fun hc => ?_)
  · have hc : ((i + 1 : Nat) : Int) < (t.n : Int) := of_decide_eq_true hc
    have hup := hu (i + 1) (by omega) (by omega)
    have ih' := ih (i + 1) (by omega) (by omega)
    have hw : IntKind.i64.wrap (((i + 1 : Nat) : Int) + 1) = ((i + 1 + 1 : Nat) : Int) := by rw [IntKind.wrap_i64]; omega
    have hw1 : IntKind.i64.wrap (((i + 1 : Nat) : Int) - 1) = (i : Int) := by rw [IntKind.wrap_i64]; omega
    have hl1 := Tab.row_len (t := t) (i := i) (by omega)
    have hl2 := Tab.row_len (t := t) (i := i + 1) (by omega)
    conv => whnf
    refine ⟨rfl, ?_⟩
    conv => whnf
    rw [hw1]
    refine ⟨_, fun _ => call39 t i h (by omega), ?_⟩
    conv => whnf
    refine sideB_intro (fun _ => decide_eq_true (by omega)) ?_
    conv => whnf
    refine ⟨_, fun _ => call39 t (i + 1) h (by omega), ?_⟩
    conv => whnf
    refine sideB_intro (fun _ => decide_eq_true (by omega)) ?_
    conv => whnf
    have e1 : sliceD (t.row i) (Int.toNat ((0 : Nat) : Int)) (Int.toNat (t.k : Int)) = t.key i := by simp [sliceD, Tab.key]
    have e2 : sliceD (t.row (i + 1)) (Int.toNat ((0 : Nat) : Int)) (Int.toNat (t.k : Int)) = t.key (i + 1) := by simp [sliceD, Tab.key]
    rw [e1, e2]
    rw [show bytesLess (t.key i) (t.key (i + 1)) = true from hup]
    conv => whnf
    rw [hw]
    exact ih'
  · conv => whnf
    exact ⟨rfl, rfl⟩
theorem call18c (t : Tab) (h : t.ok) (hm : t.bs.length % t.w = 0) (hu : ∀ j, 1 ≤ j → j < t.n → t.up j = true) : CallsTo Tryd.prog 18 [.int .i64 t.w, .int .i64 t.k, .str t.bs] (.tup [t.d, .nili]) := calls Tryd.func18 rfl (by decide) (run18c t h hm hu)
theorem run18d (t : Tab) (h : t.ok) (hm : t.bs.length % t.w = 0) (q : Nat) (hq1 : 1 ≤ q) (hqn : q < t.n) (hu : ∀ j, 1 ≤ j → j < q → t.up j = true) (hq : t.up q = false) : Runs Tryd.prog T 53 (Tryd.f18.body.getD .skip) Tryd.f18.results.toList [.int .i64 t.w, .int .i64 t.k, .str t.bs] (.tup [.nilp, fltD 13 ((q * t.w : Nat) : Int) TABLE]) := by
  refine ⟨Nat.le_of_ble_eq_true rfl, ?_⟩
  conv => whnf
  have hc := call26 t.w t.k
  have k1 := h.k0
  have k2 := h.kw
  have k3 := h.w1
  have k4 := h.len
  have hn := Tab.n_le h
  rw [decide_eq_true (by omega)] at hc
  refine ⟨_, fun _ => hc, ?_⟩
  conv => whnf
  refine sideB_intro (fun _ => decide_eq_true (by omega)) ?_
  conv => whnf
  have e : (Int.tmod (t.bs.length : Int) (t.w : Int) != 0) = false := by
    have : Int.tmod (t.bs.length : Int) (t.w : Int) = ((t.bs.length % t.w : Nat) : Int) := rfl
    rw [this]; simp; omega
  rw [e]
  conv => whnf
  refine ⟨[.sealT 8], ?_⟩
  conv => whnf
  refine loop_at (σ := Nat) (fun i env => (env.setT 9 (.int .i64 ((i + 1 : Nat) : Int)))) (fun i => t.n - i) (fun i => i + 1 ≤ q) 0 (by omega) rfl ?_
  rintro i hi ih
  conv => whnf
  refine ⟨_, fun _ => call17 t h, ?_⟩
  conv => whnf
  refine ifB_intro (fun hc => ?_) (fun hc => ?_)
  · have hc : ((i + 1 : Nat) : Int) < (t.n : Int) := of_decide_eq_true hc
    have ih' := fun (hlt : i + 1 + 1 ≤ q) => ih (i + 1) hlt (by omega)
    have hw : IntKind.i64.wrap (((i + 1 : Nat) : Int) + 1) = ((i + 1 + 1 : Nat) : Int) := by rw [IntKind.wrap_i64]; omega
    have hw1 : IntKind.i64.wrap (((i + 1 : Nat) : Int) - 1) = (i : Int) := by rw [IntKind.wrap_i64]; omega
    have hl1 := Tab.row_len (t := t) (i := i) (by omega)
    have hl2 := Tab.row_len (t := t) (i := i + 1) (by omega)
    conv => whnf
    refine ⟨rfl, ?_⟩
    conv => whnf
    rw [hw1]
    refine ⟨_, fun _ => call39 t i h (by omega), ?_⟩
    conv => whnf
    refine sideB_intro (fun _ => decide_eq_true (by omega)) ?_
    conv => whnf
    refine ⟨_, fun _ => call39 t (i + 1) h (by omega), ?_⟩
    conv => whnf
    refine sideB_intro (fun _ => decide_eq_true (by omega)) ?_
    conv => whnf
    have e1 : sliceD (t.row i) (Int.toNat ((0 : Nat) : Int)) (Int.toNat (t.k : Int)) = t.key i := by simp [sliceD, Tab.key]
    have e2 : sliceD (t.row (i + 1)) (Int.toNat ((0 : Nat) : Int)) (Int.toNat (t.k : Int)) = t.key (i + 1) := by simp [sliceD, Tab.key]
    rw [e1, e2]
    by_cases he : i + 1 = q
    · rw [show bytesLess (t.key i) (t.key (i + 1)) = false from by have := hq; rw [← he] at this; exact this]
      conv => whnf
      have hrow := Tab.row_in (t := t) (i := i + 1) (by omega)
      have hm2 : IntKind.i64.wrap (((i + 1 : Nat) : Int) * (t.w : Int)) = ((q * t.w : Nat) : Int) := by
        have : ((i + 1 : Nat) : Int) * (t.w : Int) = (((i + 1) * t.w : Nat) : Int) := by simp
        rw [this, ← he, IntKind.wrap_i64]; omega
      rw [hm2]
      refine ⟨_, fun _ => call27 13 ((q * t.w : Nat) : Int) (by decide), ?_⟩
      conv => whnf
      exact ⟨rfl, rfl⟩
    · rw [show bytesLess (t.key i) (t.key (i + 1)) = true from hu (i + 1) (by omega) (by omega)]
      conv => whnf
      rw [hw]
      exact ih' (by omega)
  · exfalso
    have hc : ¬ (((i + 1 : Nat) : Int) < (t.n : Int)) := of_decide_eq_false hc
    omega
theorem call18d (t : Tab) (h : t.ok) (hm : t.bs.length % t.w = 0) (q : Nat) (hq1 : 1 ≤ q) (hqn : q < t.n) (hu : ∀ j, 1 ≤ j → j < q → t.up j = true) (hq : t.up q = false) : CallsTo Tryd.prog 18 [.int .i64 t.w, .int .i64 t.k, .str t.bs] (.tup [.nilp, fltD 13 ((q * t.w : Nat) : Int) TABLE]) := calls Tryd.func18 rfl (by decide) (run18d t h hm q hq1 hqn hu hq)
end Go.Proofs.YtbfgendaafediaaDoor.Fw

/- Tables of rows. -/
namespace Go.Proofs.YtbfgendaafediaaDoor.Fw
open Go Go.RowKit
set_option maxRecDepth 100000
set_option maxHeartbeats 4000000

theorem joinS_nil (l : List S8) : joinS l [] = l.flatten := by
  cases l with
  | nil => rfl
  | cons x r =>
    unfold joinS
    rw [Lib.join_cons]
    unfold Lib.joinTail
    simp
def tabOf (w k : Nat) (L : List S8) : Tab := ⟨w, k, L.flatten⟩
theorem flat_len {w : Nat} : ∀ {L : List S8}, (∀ x ∈ L, x.length = w) → L.flatten.length = L.length * w
  | [], _ => by simp
  | x :: L, h => by
    rw [List.flatten_cons, List.length_append, h x (List.mem_cons_self ..), flat_len fun y hy => h y (List.mem_cons_of_mem _ hy), List.length_cons, Nat.add_mul]
    omega
theorem tabOf_n {w k : Nat} {L : List S8} (hw : 0 < w) (h : ∀ x ∈ L, x.length = w) : (tabOf w k L).n = L.length := by
  unfold Tab.n tabOf
  rw [flat_len h]
  exact Nat.mul_div_cancel _ hw
theorem flat_row {w : Nat} : ∀ {L : List S8} {i : Nat} {x : S8}, (∀ y ∈ L, y.length = w) → L[i]? = some x → (L.flatten.drop (i * w)).take w = x
  | [], i, x, _, h => by simp at h
  | y :: L, 0, x, hl, h => by
    simp only [List.getElem?_cons_zero, Option.some.injEq] at h; subst h
    have := hl y (List.mem_cons_self ..)
    rw [Nat.zero_mul, List.drop_zero, List.flatten_cons, List.take_append_of_le_length (by omega), List.take_of_length_le (by omega)]
  | y :: L, i + 1, x, hl, h => by
    have hy := hl y (List.mem_cons_self ..)
    rw [List.flatten_cons, Nat.add_mul, Nat.one_mul, List.drop_append, List.drop_of_length_le (by omega), List.nil_append, show i * w + w - y.length = i * w from by omega]
    exact flat_row (fun z hz => hl z (List.mem_cons_of_mem _ hz)) (by simpa using h)
theorem tabOf_row {w k : Nat} {L : List S8} (h : ∀ x ∈ L, x.length = w) {i : Nat} {x : S8} (hx : L[i]? = some x) : (tabOf w k L).row i = x := flat_row h hx
theorem tabOf_ok {w k : Nat} {L : List S8} (h : 1 ≤ k ∧ k ≤ w ∧ w ≤ 255) (hl : ∀ x ∈ L, x.length = w) (hn : L.length ≤ 1000) : (tabOf w k L).ok := by
  refine ⟨h.1, h.2.1, h.2.2, ?_⟩
  show L.flatten.length ≤ _
  rw [flat_len hl]
  have : L.length * w ≤ 1000 * 255 := Nat.mul_le_mul hn h.2.2
  omega
theorem tabOf_mod {w k : Nat} {L : List S8} (hl : ∀ x ∈ L, x.length = w) : (tabOf w k L).bs.length % (tabOf w k L).w = 0 := by
  show L.flatten.length % w = 0
  rw [flat_len hl]; exact Nat.mul_mod_left _ _
theorem run12a (w k : Int) (l : List S8) (h : ¬ (1 ≤ k ∧ k ≤ w ∧ w ≤ 255)) : Runs Tryd.prog T 42 (Tryd.f12.body.getD .skip) Tryd.f12.results.toList [.int .i64 w, .int .i64 k, .sl 0 1 (l.map D.str)] (.tup [.nilp, fltD 1 0 TABLE]) := by
  refine ⟨Nat.le_of_ble_eq_true rfl, ?_⟩
  conv => whnf
  have hc := call26 w k
  rw [decide_eq_false h] at hc
  refine ⟨_, fun _ => hc, ?_⟩
  conv => whnf
  refine ⟨_, fun _ => call27 1 0 (by decide), ?_⟩
  conv => whnf
  exact ⟨rfl, rfl⟩
theorem call12a (w k : Int) (l : List S8) (h : ¬ (1 ≤ k ∧ k ≤ w ∧ w ≤ 255)) : CallsTo Tryd.prog 12 [.int .i64 w, .int .i64 k, .sl 0 1 (l.map D.str)] (.tup [.nilp, fltD 1 0 TABLE]) := calls Tryd.func12 rfl (by decide) (run12a w k l h)
theorem run12b (w k : Nat) (l : List S8) (h : 1 ≤ k ∧ k ≤ w ∧ w ≤ 255) (hl : l.length ≤ 1000) (q : Nat) (x : S8) (hx : l[q]? = some x) (hq : x.length ≠ w) (hpre : ∀ j y, j < q → l[j]? = some y → y.length = w) : Runs Tryd.prog T 42 (Tryd.f12.body.getD .skip) Tryd.f12.results.toList [.int .i64 w, .int .i64 k, .sl 0 1 (l.map D.str)] (.tup [.nilp, fltD 12 q TABLE]) := by
  refine ⟨Nat.le_of_ble_eq_true rfl, ?_⟩
  conv => whnf
  have hc := call26 w k
  rw [decide_eq_true (by omega)] at hc
  refine ⟨_, fun _ => hc, ?_⟩
  conv => whnf
  refine ⟨[], ?_⟩
  conv => whnf
  have hql := (List.getElem?_eq_some_iff.1 hx).1
  refine loop_at (σ := Nat) (fun i env => (env.setT 18 (.int .i64 (i : Int)))) (fun i => l.length - i) (fun i => i ≤ q) 0 (Nat.zero_le _) rfl ?_
  rintro i hi ih
  conv => whnf
  refine ifB_intro (fun h2 => ?_) (fun h2 => ?_)
  · have h2 : (i : Int) < ((l.map D.str).length : Int) := of_decide_eq_true h2
    rw [List.length_map] at h2
    obtain ⟨y, hy⟩ : ∃ y, l[i]? = some y := ⟨_, List.getElem?_eq_getElem (by omega)⟩
    have hw : IntKind.i64.wrap ((i : Int) + 1) = ((i + 1 : Nat) : Int) := by rw [IntKind.wrap_i64]; omega
    conv => whnf
    refine sideB_intro (fun _ => decide_eq_true (by simp only [List.length_map]; omega)) ?_
    rw [getD_enc (enc := D.str) (x := y) (show l[(i : Int).toNat]? = some y from hy)]
    conv => whnf
    by_cases he : i = q
    · subst he
      rw [hx] at hy; cases hy
      have e : ((x.length : Int) != (w : Int)) = true := by simp; omega
      rw [e]
      conv => whnf
      refine ⟨_, fun _ => call27 12 i (by decide), ?_⟩
      conv => whnf
      exact ⟨rfl, rfl⟩
    · have hyl := hpre i y (by omega) hy
      have e : ((y.length : Int) != (w : Int)) = false := by simp; omega
      rw [e]
      conv => whnf
      rw [hw]
      exact ih (i + 1) (by omega) (by omega)
  · exfalso
    have h2 : ¬ ((i : Int) < ((l.map D.str).length : Int)) := of_decide_eq_false h2
    rw [List.length_map] at h2
    omega
theorem call12b (w k : Nat) (l : List S8) (h : 1 ≤ k ∧ k ≤ w ∧ w ≤ 255) (hl : l.length ≤ 1000) (q : Nat) (x : S8) (hx : l[q]? = some x) (hq : x.length ≠ w) (hpre : ∀ j y, j < q → l[j]? = some y → y.length = w) : CallsTo Tryd.prog 12 [.int .i64 w, .int .i64 k, .sl 0 1 (l.map D.str)] (.tup [.nilp, fltD 12 q TABLE]) := calls Tryd.func12 rfl (by decide) (run12b w k l h hl q x hx hq hpre)
theorem call32r (l : List S8) (hl : l.length ≤ 1000000) (hj : l.flatten.length ≤ 1000000) : CallsR Tryd.prog 32 [] hS (hR 9 1 (l.map D.str)) [.rsl 1000000 1 0 l.length, .str []] (.str l.flatten) [] hS (hR 9 1 (l.map D.str)) := by
  have h := call32 l [] hl (by rw [joinS_nil]; omega)
  rw [joinS_nil] at h
  refine callsR_of_callsTo h ⟨⟨_, rfl, rfl, ?_, ?_⟩, rfl, trivial⟩ rfl rfl
  · simp
  · simp only [sliceD, Nat.zero_add, List.drop_zero]
    rw [List.take_of_length_le (by simp)]
abbrev Tb := Tm [28, 29, 32] [9]
theorem run12c (w k : Nat) (l : List S8) (h : 1 ≤ k ∧ k ≤ w ∧ w ≤ 255) (hl : l.length ≤ 12) (hw : ∀ x ∈ l, x.length = w) (h62 : CallsTo Tryd.prog 18 [.int .i64 w, .int .i64 k, .str (isort (ltP k) l).flatten] (.tup [.eptr (.agg [.int .i64 w, .int .i64 k, .str (isort (ltP k) l).flatten]) 0, .nili])) : Runs Tryd.prog Tb 42 (Tryd.f12.body.getD .skip) Tryd.f12.results.toList [.int .i64 w, .int .i64 k, .sl 0 1 (l.map D.str)] (.tup [.eptr (.agg [.int .i64 w, .int .i64 k, .str (isort (ltP k) l).flatten]) 0, .nili]) := by
  refine ⟨Nat.le_of_ble_eq_true rfl, ?_⟩
  conv => whnf
  have hc := call26 w k
  rw [decide_eq_true (by omega)] at hc
  refine ⟨_, fun _ => hc, ?_⟩
  conv => whnf
  refine ⟨[], ?_⟩
  conv => whnf
  refine loop_at (σ := Nat) (fun i env => (env.setT 18 (.int .i64 (i : Int)))) (fun i => l.length - i) (fun i => i ≤ l.length) 0 (Nat.zero_le _) rfl ?_
  rintro i hi ih
  conv => whnf
  refine ifB_intro (fun h2 => ?_) (fun h2 => ?_)
  · have h2 : (i : Int) < ((l.map D.str).length : Int) := of_decide_eq_true h2
    rw [List.length_map] at h2
    obtain ⟨y, hy⟩ : ∃ y, l[i]? = some y := ⟨_, List.getElem?_eq_getElem (by omega)⟩
    have hwi : IntKind.i64.wrap ((i : Int) + 1) = ((i + 1 : Nat) : Int) := by rw [IntKind.wrap_i64]; omega
    have hyl := hw y (List.mem_of_getElem? hy)
    conv => whnf
    refine sideB_intro (fun _ => decide_eq_true (by simp only [List.length_map]; omega)) ?_
    rw [getD_enc (enc := D.str) (x := y) (show l[(i : Int).toNat]? = some y from hy)]
    conv => whnf
    have e : ((y.length : Int) != (w : Int)) = false := by simp; omega
    rw [e]
    conv => whnf
    rw [hwi]
    exact ih (i + 1) (by omega) (by omega)
  conv => whnf
  refine ⟨⟨[], [], .rsl 17 1 0 l.length, [], [(17, rowMark)], [(17, ⟨9, 1, l.map D.str, false⟩)]⟩, ?_⟩
  conv => whnf
  refine ⟨rfl, call28 l (by omega), ?_⟩
  conv => whnf
  refine ⟨⟨[], [(1000000, 2995)], .tup [], [], hS, hR 9 1 ((isort (ltP k) l).map D.str)⟩, ?_⟩
  conv => whnf
  refine ⟨rfl, call29 k l hl (fun x hx => by rw [hw x hx]; omega), ?_⟩
  conv => whnf
  have hln : (isort (ltP k) l).length = l.length := sortTo_length (ltP k) _ _
  have hmem : ∀ x ∈ isort (ltP k) l, x.length = w := sortTo_all (ltP k) hw _
  have hfl := flat_len hmem
  have h63 := call32r (isort (ltP k) l) (by omega) (by
    rw [hfl, hln]
    have : l.length * w ≤ 12 * 255 := Nat.mul_le_mul hl h.2.2
    omega)
  rw [hln] at h63
  generalize isort (ltP k) l = S at h62 h63
  refine ⟨[(0, ?e1_0), (1, ?e1_1), (5, ?e1_2), (7, ?e1_3), (13, ?e1_4), (15, ?e1_5), (31, ?e1_6), (63, ?e1_7), (95, ?e1_8), (127, ?e1_9), (255, ?e1_10), (511, ?e1_11)], ?eF1, ?_, ?_, ?_⟩
  rotate_left 13
  · exact rfl
  refine tab_F rfl fun F hF => ?_
  obtain ⟨hF0, hF1, hF5, hF7, hF13, hF15, hF31, hF63, hF95, hF127, hF255, hF511, -⟩ := hF
  refine tab_1 rfl ?_ ?_
  · conv => whnf
    exact hF1
  refine tab_1 rfl ?_ ?_
  · conv => whnf
    exact hF5
  refine tab_2 rfl ?_ ?_ ?_
  · conv => whnf
    exact hF7
  · conv => whnf
    refine ⟨⟨[], [(1000000, 2995)], .str S.flatten, [], hS, hR 9 1 (S.map D.str)⟩, ?_⟩
    conv => whnf
    refine ⟨rfl, h63, ?_⟩
    conv => whnf
    exact hF13
  refine tab_1 rfl ?_ ?_
  · conv => whnf
    refine ⟨⟨[], [(1000000, 2995)], .str S.flatten, [], hS, hR 9 1 (S.map D.str)⟩, ?_⟩
    conv => whnf
    refine ⟨rfl, h63, ?_⟩
    conv => whnf
    exact hF15
  refine tab_1 rfl ?_ ?_
  · conv => whnf
    exact hF15
  refine tab_1 rfl ?_ ?_
  · conv => whnf
    refine ⟨_, fun _ => h62, ?_⟩
    conv => whnf
    exact hF31
  refine tab_2 rfl ?_ ?_ ?_
  · conv => whnf
    exact hF63
  · conv => whnf
    exact hF95
  refine tab_1 rfl ?_ ?_
  · conv => whnf
    exact hF127
  refine tab_1 rfl ?_ ?_
  · conv => whnf
    exact hF127
  refine tab_1 rfl ?_ ?_
  · conv => whnf
    exact hF255
  refine tab_1 rfl ?_ ?_
  · conv => whnf
    exact hF511
  refine tab_0 rfl ?_ trivial
  · conv => whnf
    try exact rfl
  refine ⟨rfl, ?_⟩
  conv => whnf
  exact ⟨rfl, rfl⟩
theorem run12d (w k : Nat) (l : List S8) (q : Int) (h : 1 ≤ k ∧ k ≤ w ∧ w ≤ 255) (hl : l.length ≤ 12) (hw : ∀ x ∈ l, x.length = w) (h62 : CallsTo Tryd.prog 18 [.int .i64 w, .int .i64 k, .str (isort (ltP k) l).flatten] (.tup [.nilp, fltD 13 q TABLE])) : Runs Tryd.prog Tb 42 (Tryd.f12.body.getD .skip) Tryd.f12.results.toList [.int .i64 w, .int .i64 k, .sl 0 1 (l.map D.str)] (.tup [.nilp, fltD 13 q TABLE]) := by
  refine ⟨Nat.le_of_ble_eq_true rfl, ?_⟩
  conv => whnf
  have hc := call26 w k
  rw [decide_eq_true (by omega)] at hc
  refine ⟨_, fun _ => hc, ?_⟩
  conv => whnf
  refine ⟨[], ?_⟩
  conv => whnf
  refine loop_at (σ := Nat) (fun i env => (env.setT 18 (.int .i64 (i : Int)))) (fun i => l.length - i) (fun i => i ≤ l.length) 0 (Nat.zero_le _) rfl ?_
  rintro i hi ih
  conv => whnf
  refine ifB_intro (fun h2 => ?_) (fun h2 => ?_)
  · have h2 : (i : Int) < ((l.map D.str).length : Int) := of_decide_eq_true h2
    rw [List.length_map] at h2
    obtain ⟨y, hy⟩ : ∃ y, l[i]? = some y := ⟨_, List.getElem?_eq_getElem (by omega)⟩
    have hwi : IntKind.i64.wrap ((i : Int) + 1) = ((i + 1 : Nat) : Int) := by rw [IntKind.wrap_i64]; omega
    have hyl := hw y (List.mem_of_getElem? hy)
    conv => whnf
    refine sideB_intro (fun _ => decide_eq_true (by simp only [List.length_map]; omega)) ?_
    rw [getD_enc (enc := D.str) (x := y) (show l[(i : Int).toNat]? = some y from hy)]
    conv => whnf
    have e : ((y.length : Int) != (w : Int)) = false := by simp; omega
    rw [e]
    conv => whnf
    rw [hwi]
    exact ih (i + 1) (by omega) (by omega)
  conv => whnf
  refine ⟨⟨[], [], .rsl 17 1 0 l.length, [], [(17, rowMark)], [(17, ⟨9, 1, l.map D.str, false⟩)]⟩, ?_⟩
  conv => whnf
  refine ⟨rfl, call28 l (by omega), ?_⟩
  conv => whnf
  refine ⟨⟨[], [(1000000, 2995)], .tup [], [], hS, hR 9 1 ((isort (ltP k) l).map D.str)⟩, ?_⟩
  conv => whnf
  refine ⟨rfl, call29 k l hl (fun x hx => by rw [hw x hx]; omega), ?_⟩
  conv => whnf
  have hln : (isort (ltP k) l).length = l.length := sortTo_length (ltP k) _ _
  have hmem : ∀ x ∈ isort (ltP k) l, x.length = w := sortTo_all (ltP k) hw _
  have hfl := flat_len hmem
  have h63 := call32r (isort (ltP k) l) (by omega) (by
    rw [hfl, hln]
    have : l.length * w ≤ 12 * 255 := Nat.mul_le_mul hl h.2.2
    omega)
  rw [hln] at h63
  generalize isort (ltP k) l = S at h62 h63
  refine ⟨[(0, ?e2_0), (1, ?e2_1), (5, ?e2_2), (7, ?e2_3), (13, ?e2_4), (15, ?e2_5), (31, ?e2_6), (63, ?e2_7), (95, ?e2_8), (127, ?e2_9), (255, ?e2_10), (511, ?e2_11)], ?eF2, ?_, ?_, ?_⟩
  rotate_left 13
  · exact rfl
  refine tab_F rfl fun F hF => ?_
  obtain ⟨hF0, hF1, hF5, hF7, hF13, hF15, hF31, hF63, hF95, hF127, hF255, hF511, -⟩ := hF
  refine tab_1 rfl ?_ ?_
  · conv => whnf
    exact hF1
  refine tab_1 rfl ?_ ?_
  · conv => whnf
    exact hF5
  refine tab_2 rfl ?_ ?_ ?_
  · conv => whnf
    exact hF7
  · conv => whnf
    refine ⟨⟨[], [(1000000, 2995)], .str S.flatten, [], hS, hR 9 1 (S.map D.str)⟩, ?_⟩
    conv => whnf
    refine ⟨rfl, h63, ?_⟩
    conv => whnf
    exact hF13
  refine tab_1 rfl ?_ ?_
  · conv => whnf
    refine ⟨⟨[], [(1000000, 2995)], .str S.flatten, [], hS, hR 9 1 (S.map D.str)⟩, ?_⟩
    conv => whnf
    refine ⟨rfl, h63, ?_⟩
    conv => whnf
    exact hF15
  refine tab_1 rfl ?_ ?_
  · conv => whnf
    exact hF15
  refine tab_1 rfl ?_ ?_
  · conv => whnf
    refine ⟨_, fun _ => h62, ?_⟩
    conv => whnf
    exact hF31
  refine tab_2 rfl ?_ ?_ ?_
  · conv => whnf
    exact hF63
  · conv => whnf
    exact hF95
  refine tab_1 rfl ?_ ?_
  · conv => whnf
    exact hF127
  refine tab_1 rfl ?_ ?_
  · conv => whnf
    exact hF127
  refine tab_1 rfl ?_ ?_
  · conv => whnf
    exact hF255
  refine tab_1 rfl ?_ ?_
  · conv => whnf
    exact hF511
  refine tab_0 rfl ?_ trivial
  · conv => whnf
    try exact rfl
  refine ⟨rfl, ?_⟩
  conv => whnf
  exact ⟨rfl, rfl⟩
end Go.Proofs.YtbfgendaafediaaDoor.Fw

/- Of no table nothing comes. -/
namespace Go.Proofs.YtbfgendaafediaaDoor.Fw
open Go Go.RowKit
set_option maxRecDepth 100000
set_option maxHeartbeats 4000000

/-- Do rows' keys rise? -/
def risesK (k : Nat) (S : List S8) : Prop := ∀ (j : Nat) (x y : S8), S[j]? = some x → S[j + 1]? = some y → lt8 (x.take k) (y.take k) = true
theorem tabOf_key {w k : Nat} {L : List S8} (h : ∀ x ∈ L, x.length = w) {i : Nat} {x : S8} (hx : L[i]? = some x) : (tabOf w k L).key i = x.take k := by
  unfold Tab.key; rw [tabOf_row h hx]; rfl
theorem call12c (w k : Nat) (l : List S8) (h : 1 ≤ k ∧ k ≤ w ∧ w ≤ 255) (hl : l.length ≤ 12) (hw : ∀ x ∈ l, x.length = w) (hr : risesK k (isort (ltP k) l)) : CallsTo Tryd.prog 12 [.int .i64 w, .int .i64 k, .sl 0 1 (l.map D.str)] (.tup [(tabOf w k (isort (ltP k) l)).d, .nili]) := by
  have hln : (isort (ltP k) l).length = l.length := sortTo_length (ltP k) _ _
  have hmem : ∀ x ∈ isort (ltP k) l, x.length = w := sortTo_all (ltP k) hw _
  have h62 := call18c (tabOf w k (isort (ltP k) l)) (tabOf_ok h hmem (by omega)) (tabOf_mod hmem) (fun j h1 h2 => by
    rw [tabOf_n (by omega) hmem] at h2
    have hx : (isort (ltP k) l)[j - 1]? = some (isort (ltP k) l)[j - 1] := List.getElem?_eq_getElem (by omega)
    have hy : (isort (ltP k) l)[j]? = some (isort (ltP k) l)[j] := List.getElem?_eq_getElem h2
    unfold Tab.up
    rw [tabOf_key hmem hx, tabOf_key hmem hy]
    exact hr (j - 1) _ _ hx (by rw [show j - 1 + 1 = j from by omega]; exact hy))
  exact calls Tryd.func12 rfl (by decide) (run12c w k l h hl hw h62)
def AWT : List S8 := [[98, 48, 49], [97, 49, 50], [97, 48, 51]]
def AWS : List S8 := [[97, 48, 51], [97, 49, 50], [98, 48, 49]]
theorem awt_sort : isort (ltP 2) AWT = AWS := by decide +kernel
theorem aws_rises : risesK 2 AWS := by
  intro j x y hx hy
  match j with
  | 0 => cases hx; cases hy; decide
  | 1 => cases hx; cases hy; decide
  | 2 => cases hy
  | j + 3 => cases hx
def A1 : S8 := [97, 49]
theorem find_aw : findT (tabOf 3 2 AWS) A1 = some [97, 49, 50] := by decide +kernel
theorem run8  : Runs Tryd.prog T 29 (Tryd.f8.body.getD .skip) Tryd.f8.results.toList [] (.bool true) := by
  refine ⟨Nat.le_of_ble_eq_true rfl, ?_⟩
  conv => whnf
  have h35 := call12c 3 2 AWT (by decide) (by decide) (by decide) (by rw [awt_sort]; exact aws_rises)
  rw [awt_sort] at h35
  refine ⟨_, fun _ => h35, ?_⟩
  conv => whnf
  have h11 := call21 (tabOf 3 2 AWS) A1 (tabOf_ok (by decide) (by decide) (by decide))
  rw [find_aw] at h11
  refine ⟨_, fun _ => h11, ?_⟩
  conv => whnf
  refine ⟨_, fun _ => call19 (tabOf 3 2 AWS), ?_⟩
  conv => whnf
  exact ⟨rfl, rfl⟩
theorem call8  : CallsTo Tryd.prog 8 [] (.bool true) := calls Tryd.func8 rfl (by decide) (run8)
theorem run14 (s : S8) : Runs Tryd.prog T 9 (Tryd.f14.body.getD .skip) Tryd.f14.results.toList [.str s] (.str (s.take 60)) := by
  refine ⟨Nat.le_of_ble_eq_true rfl, ?_⟩
  conv => whnf
  refine ifB_intro (fun h => ?_) (fun h => ?_)
  · have h : (60 : Int) < (s.length : Int) := of_decide_eq_true h
    conv => whnf
    refine sideB_intro (fun _ => decide_eq_true (by omega)) ?_
    conv => whnf
    have e : sliceD s (Int.toNat ((0 : Nat) : Int)) (Int.toNat 60) = s.take 60 := by simp [sliceD]
    exact ⟨rfl, congrArg D.str e⟩
  · have h : ¬ ((60 : Int) < (s.length : Int)) := of_decide_eq_false h
    conv => whnf
    rw [List.take_of_length_le (by omega)]
    exact ⟨rfl, rfl⟩
theorem call14 (s : S8) : CallsTo Tryd.prog 14 [.str s] (.str (s.take 60)) := calls Tryd.func14 rfl (by decide) (run14 s)
end Go.Proofs.YtbfgendaafediaaDoor.Fw

/- errors.As at a variable of a number's type: an error that has it within. -/
namespace Go.Proofs.YtbfgendaafediaaDoor.Fw
open Go Go.RowKit Go.Extern.Stop Go.Stop Go.Extern
set_option maxRecDepth 100000

theorem as_vo66 (t : Addr) (w : World) : (ReflectliteValue.unpack (.iface 66 (.pointer (some t)))).run Tryd.prog w
    = .ok (.agg #[.pointer (some ⟨2, 66, none⟩), .pointer (some ⟨w.heap.size, 0, none⟩), .int .u64 150]) (w.alloc (.cells #[.pointer (some t)] 66)) := by kernel_rfl
theorem as_ty66 (a : Addr) (w : World) : (ReflectliteValue.methodAny (ReflectliteValue.valueError "reflectlite.Value.Type" 0) (fun t _ _ _ => ReflectliteType.toType t) #[.agg #[.pointer (some ⟨2, 66, none⟩), .pointer (some a), .int .u64 150]]).run Tryd.prog w
    = .ok (.iface 118 (.agg #[.pointer (some ⟨2, 66, none⟩)])) w := by kernel_rfl
theorem as_k66 (w : World) : ((ReflectliteType.abiMethod fun t => (fun a : Nat => Value.int IntKind.u8 (a : Int)) <$> Rtype.kind t) #[.pointer (some ⟨2, 66, none⟩)]).run Tryd.prog w = .ok (.int .u8 22) w := by kernel_rfl
theorem as_k26 (w : World) : ((ReflectliteType.abiMethod fun t => (fun a : Nat => Value.int IntKind.u8 (a : Int)) <$> Rtype.kind t) #[.pointer (some ⟨2, 26, none⟩)]).run Tryd.prog w = .ok (.int .u8 2) w := by kernel_rfl
theorem as_u66 : Tryd.prog.underlying 66 = some (.pointer 26) := by kernel_rfl
theorem as_u26 : Tryd.prog.underlying 26 = some (.int .i64) := by kernel_rfl
theorem rlm (z : Sem Value) (f : TypeId → Addr → Nat → Nat → Sem Value) (v : Value) :
    ReflectliteValue.method z f #[v] = (do match ← ReflectliteValue.parts v with | none => z | some (t, a, fl) => f t a fl (fl % 32)) := rfl
theorem as_p66 (a : Addr) (w : World) : (ReflectliteValue.parts (.agg #[.pointer (some ⟨2, 66, none⟩), .pointer (some a), .int .u64 150])).run Tryd.prog w = .ok (some (66, a, 150)) w := by kernel_rfl
theorem as_nil66 (a p : Addr) (W : World) (ha : W.cell? a = some (.pointer (some p))) :
    (ReflectliteValue.method (ReflectliteValue.valueError "reflectlite.Value.IsNil" 0) ReflectliteValue.isNil #[.agg #[.pointer (some ⟨2, 66, none⟩), .pointer (some a), .int .u64 150]]).run Tryd.prog W = .ok (.bool false) W := by
  rw [rlm]
  simp only [Sem.run_bind, as_p66, Result.andThen]
  simp [ReflectliteValue.isNil, loadVar, isAgg, underlying, as_u66, ha, Result.andThen]
theorem as_el66 (w : World) : (ReflectliteType.method ReflectliteType.elem #[.agg #[.pointer (some ⟨2, 66, none⟩)]]).run Tryd.prog w = .ok (.iface 118 (.agg #[.pointer (some ⟨2, 26, none⟩)])) w := by kernel_rfl
theorem as_im26 (w : World) : (ReflectliteType.relation "Implements" ReflectliteType.implements_ #[.agg #[.pointer (some ⟨2, 26, none⟩)], .iface 118 (.agg #[.pointer (some ⟨2, 33, none⟩)])]).run Tryd.prog w = .ok (.bool true) w := by kernel_rfl
theorem as_to26 (v : Value) (w : World) : (ReflectliteType.typeOf #[.iface 26 v]).run Tryd.prog w = .ok (.iface 118 (.agg #[.pointer (some ⟨2, 26, none⟩)])) w := by kernel_rfl
theorem as_to101 (v : Value) (w : World) : (ReflectliteType.typeOf #[.iface 101 v]).run Tryd.prog w = .ok (.iface 118 (.agg #[.pointer (some ⟨2, 101, none⟩)])) w := by kernel_rfl
theorem as_as26 (w : World) : (ReflectliteType.relation "AssignableTo" ReflectliteType.assignableTo #[.agg #[.pointer (some ⟨2, 26, none⟩)], .iface 118 (.agg #[.pointer (some ⟨2, 26, none⟩)])]).run Tryd.prog w = .ok (.bool true) w := by kernel_rfl
theorem as_as101 (w : World) : (ReflectliteType.relation "AssignableTo" ReflectliteType.assignableTo #[.agg #[.pointer (some ⟨2, 101, none⟩)], .iface 118 (.agg #[.pointer (some ⟨2, 26, none⟩)])]).run Tryd.prog w = .ok (.bool false) w := by kernel_rfl
theorem as_vo26 (n : Int) (w : World) : (ReflectliteValue.unpack (.iface 26 (.int .i64 n))).run Tryd.prog w
    = .ok (.agg #[.pointer (some ⟨2, 26, none⟩), .pointer (some ⟨w.heap.size, 0, none⟩), .int .u64 130]) (w.alloc (.cells #[.int .i64 n] 26)) := by kernel_rfl
theorem as_eo66 (w : World) : (Rtype.elem? 66).run Tryd.prog w = .ok (some 26) w := by kernel_rfl
theorem as_mk26 (p : Addr) (w : World) : (ReflectliteValue.mk 26 p ReflectliteValue.flagAddr).run Tryd.prog w = .ok (.agg #[.pointer (some ⟨2, 26, none⟩), .pointer (some p), .int .u64 386]) w := by kernel_rfl
theorem as_elv66 (a p : Addr) (W : World) (ha : W.cell? a = some (.pointer (some p))) :
    (ReflectliteValue.method (ReflectliteValue.valueError "reflectlite.Value.Elem" 0) ReflectliteValue.elem #[.agg #[.pointer (some ⟨2, 66, none⟩), .pointer (some a), .int .u64 150]]).run Tryd.prog W
      = .ok (.agg #[.pointer (some ⟨2, 26, none⟩), .pointer (some p), .int .u64 386]) W := by
  rw [rlm]
  simp only [Sem.run_bind, as_p66, Result.andThen]
  simp [ReflectliteValue.elem, loadVar, isAgg, underlying, as_u66, ha, Result.andThen, as_eo66, as_mk26]
theorem rls (v x : Value) : ReflectliteValue.set #[v, x] = (do
    let (some (dst, a, fl), some (src, b, _)) := (← ReflectliteValue.parts v, ← ReflectliteValue.parts x)
      | unsupported (.noEntry "extern/(internal/reflectlite.Value).Set.zeroValue")
    if fl / ReflectliteValue.flagAddr % 2 == 0 then unsupported (.noEntry "extern/(internal/reflectlite.Value).Set.unaddressable")
    let val ← loadVar src b
    if ← Rtype.directlyAssignable dst src then storeVar dst a val
    else if ← Rtype.implements dst src then
      if (← Rtype.kind src) == 20 then
        match val with
        | .nilIface => unsupported (.noEntry "extern/reflectlite: a nil value of one interface type handed on as a value of another")
        | _ => storeVar dst a val
      else storeVar dst a (.iface src val)
    else panicString ("reflectlite.Set: value of type " ++ (← Rtype.spelt src) ++ " is not assignable to type " ++ (← Rtype.spelt dst))
    pure (.tuple #[])) := rfl
theorem as_p26a (a : Addr) (w : World) : (ReflectliteValue.parts (.agg #[.pointer (some ⟨2, 26, none⟩), .pointer (some a), .int .u64 386])).run Tryd.prog w = .ok (some (26, a, 386)) w := by kernel_rfl
theorem as_p26 (a : Addr) (w : World) : (ReflectliteValue.parts (.agg #[.pointer (some ⟨2, 26, none⟩), .pointer (some a), .int .u64 130])).run Tryd.prog w = .ok (some (26, a, 130)) w := by kernel_rfl
theorem as_di26 (w : World) : (Rtype.directlyAssignable 26 26).run Tryd.prog w = .ok true w := by kernel_rfl
theorem as_set26 (ta b : Addr) (n : Int) (old : Value) (W : World) (hb : W.cell? b = some (.int .i64 n)) (ht : W.cell? ta = some old) (hf : W.frozen? ta = false) :
    (ReflectliteValue.set #[.agg #[.pointer (some ⟨2, 26, none⟩), .pointer (some ta), .int .u64 386], .agg #[.pointer (some ⟨2, 26, none⟩), .pointer (some b), .int .u64 130]]).run Tryd.prog W
      = .ok (.tuple #[]) (W.setCell ta (.int .i64 n)) := by
  rw [rls]
  simp only [Sem.run_bind, as_p26a, as_p26, Result.andThen]
  simp [ReflectliteValue.flagAddr, loadVar, isAgg, underlying, as_u26, hb, Result.andThen, as_di26, storeVar, Value.cells, storeCells, Addr.add]
  rw [run_store Tryd.prog W ta _ _ (by rfl)]
  simp [ht, hf]
set_option maxHeartbeats 4000000 in
theorem un_call (e : Addr) (k : Int) (w : World) (h : w.cell? { block := e.block, off := e.off + 2 } = some (.iface 26 (.int .i64 k))) : Calls Tryd.prog 105 #[.pointer (some e)] w fun ev w' => ev = .returned (.iface 26 (.int .i64 k)) ∧ w' = w := by
  go_enter Tryd.func105, Tryd.ntmps105
  go_wp2
  go_ret
  exact ⟨rfl, rfl⟩
theorem as_lk101 (v : Value) (w : World) : (Go.Instr.typeAssert (.iface 101 v) 33 123 true).run Tryd.prog w = .ok (.tuple #[.nilIface, .bool false]) w :=
  run_typeAssert_lacksB (want := #[("As", 125)]) (by kernel_rfl) (by kernel_rfl) (by kernel_rfl) v 33 w
theorem as_has101 (v : Value) (w : World) : (Go.Instr.typeAssert (.iface 101 v) 33 126 true).run Tryd.prog w = .ok (.tuple #[.iface 101 v, .bool true]) w :=
  run_typeAssert_hasB (want := #[("Unwrap", 127)]) (by kernel_rfl) (by kernel_rfl) v 33 w
theorem as_mAss (h : Value) (w : World) : (Go.method 275 118 (.agg #[h]) "AssignableTo").run Tryd.prog w = .ok (107, .agg #[h]) w := by kernel_rfl
theorem as_mUn (e : Addr) (w : World) : (Go.method 275 101 (.pointer (some e)) "Unwrap").run Tryd.prog w = .ok (105, .pointer (some e)) w := by kernel_rfl
theorem as_mK (h : Value) (w : World) : (Go.method 275 118 (.agg #[h]) "Kind").run Tryd.prog w = .ok (96, h) w := by kernel_rfl
theorem as_mE (h : Value) (w : World) : (Go.method 275 118 (.agg #[h]) "Elem").run Tryd.prog w = .ok (109, .agg #[h]) w := by kernel_rfl
theorem as_mI (h : Value) (w : World) : (Go.method 275 118 (.agg #[h]) "Implements").run Tryd.prog w = .ok (110, .agg #[h]) w := by kernel_rfl
set_option maxHeartbeats 4000000 in
theorem as2 (e t h : Addr) (k : Int) (old : Value) (w : World) (he : w.cell? { block := e.block, off := e.off + 2 } = some (.iface 26 (.int .i64 k))) (hh : w.cell? h = some (.pointer (some t))) (ht : w.cell? t = some old) (hf : w.frozen? t = false) :
    Calls Tryd.prog 51 #[.iface 101 (.pointer (some e)), .iface 66 (.pointer (some t)), .agg #[.pointer (some ⟨2, 66, none⟩), .pointer (some h), .int .u64 150], .iface 118 (.agg #[.pointer (some ⟨2, 26, none⟩)])] w fun ev w' => ev = .returned (.bool true) ∧ w' = ((w.alloc (.cells #[.pointer (some ⟨2, 66, none⟩), .pointer (some h), .int .u64 150] 88)).alloc (.cells #[.int .i64 k] 26)).setCell t (.int .i64 k) := by
  have h48 := @run_callFunc_extern Tryd.prog 48 _ (fun args => ReflectliteValue.unpack (args.getD 0 (.tuple #[]))) Tryd.func48 (by kernel_rfl) (by kernel_rfl) (by kernel_rfl) (by kernel_rfl)
  have h69 := @run_callFunc_extern Tryd.prog 69 _ ReflectliteType.typeOf Tryd.func69 (by kernel_rfl) (by kernel_rfl) (by kernel_rfl) (by kernel_rfl)
  have h107 := @run_callFunc_extern Tryd.prog 107 _ (ReflectliteType.relation "AssignableTo" ReflectliteType.assignableTo) Tryd.func107 (by kernel_rfl) (by kernel_rfl) (by kernel_rfl) (by kernel_rfl)
  have h70 := @run_callFunc_extern Tryd.prog 70 _ (ReflectliteValue.method (ReflectliteValue.valueError "reflectlite.Value.Elem" 0) ReflectliteValue.elem) Tryd.func70 (by kernel_rfl) (by kernel_rfl) (by kernel_rfl) (by kernel_rfl)
  have h71 := @run_callFunc_extern Tryd.prog 71 _ ReflectliteValue.set Tryd.func71 (by kernel_rfl) (by kernel_rfl) (by kernel_rfl) (by kernel_rfl)
  have t1 := as_to101
  have t2 := as_to26
  have t3 := as_as101
  have t4 := as_as26
  have t5 := as_lk101
  have t6 := as_has101
  have t7 := as_mAss
  have t8 := as_mUn
  have t9 := as_vo26
  have lt : ∀ {a : Addr} {v : Value}, w.cell? a = some v → a.block < w.heap.size := fun {a v} h => by
    rcases Nat.lt_or_ge a.block w.heap.size with h1 | h1
    · exact h1
    · simp [World.cell?, Array.getElem?_eq_none h1] at h
  have hel : e.block < w.heap.size := lt (a := { block := e.block, off := e.off + 2 }) he
  have htl := lt ht
  have hhl := lt hh
  have he' : (w.alloc (.cells #[.pointer (some ⟨2, 66, none⟩), .pointer (some h), .int .u64 150] 88)).cell? { block := e.block, off := e.off + 2 } = some (.iface 26 (.int .i64 k)) := by
    rw [World.cell?_alloc_lt _ _ ⟨e.block, e.off + 2, none⟩ hel]; exact he
  have el := as_elv66 h t (w.alloc (.cells #[.pointer (some ⟨2, 66, none⟩), .pointer (some h), .int .u64 150] 88)) (by rw [World.cell?_alloc_lt _ _ _ hhl]; exact hh)
  have st := as_set26 t ⟨w.heap.size + 1, 0, none⟩ k old ((w.alloc (.cells #[.pointer (some ⟨2, 66, none⟩), .pointer (some h), .int .u64 150] 88)).alloc (.cells #[.int .i64 k] 26))
    (by rw [World.cell?_alloc_at _ _ _ _ (by simp)]; rfl)
    (by rw [World.cell?_alloc_lt _ _ t (by simp; omega), World.cell?_alloc_lt _ _ t htl]; exact ht)
    (by rw [World.frozen?_alloc_old _ _ t (by simp; omega), World.frozen?_alloc_old _ _ t (Nat.ne_of_lt htl)]; exact hf)
  go_enter Tryd.func51, Tryd.ntmps51
  go_wp2
  refine wp_loop_rounds 2 ?_
  rw [rounds_succ]
  go_wp2
  rw [rounds_succ]
  go_wp2
  go_ret
  exact ⟨rfl, rfl⟩
set_option maxHeartbeats 4000000 in
theorem as1 (e t : Addr) (k : Int) (old : Value) (w : World) (hg : w.cell? ⟨0, 0, none⟩ = some (.iface 118 (.agg #[.pointer (some ⟨2, 33, none⟩)]))) (he : w.cell? { block := e.block, off := e.off + 2 } = some (.iface 26 (.int .i64 k))) (ht : w.cell? t = some old) (hf : w.frozen? t = false) :
    Calls Tryd.prog 33 #[.iface 101 (.pointer (some e)), .iface 66 (.pointer (some t))] w fun ev w' => ev = .returned (.bool true) ∧ w' = ((((w.alloc (.cells #[.pointer (some t)] 66)).alloc (.cells #[.pointer (some ⟨2, 66, none⟩), .pointer (some ⟨w.heap.size, 0, none⟩), .int .u64 150] 88)).alloc (.cells #[.pointer (some ⟨2, 66, none⟩), .pointer (some ⟨w.heap.size, 0, none⟩), .int .u64 150] 88)).alloc (.cells #[.int .i64 k] 26)).setCell t (.int .i64 k) := by
  have h48 := @run_callFunc_extern Tryd.prog 48 _ (fun args => ReflectliteValue.unpack (args.getD 0 (.tuple #[]))) Tryd.func48 (by kernel_rfl) (by kernel_rfl) (by kernel_rfl) (by kernel_rfl)
  have h49 := @run_callFunc_extern Tryd.prog 49 _ (ReflectliteValue.methodAny (ReflectliteValue.valueError "reflectlite.Value.Type" 0) (fun t _ _ _ => ReflectliteType.toType t)) Tryd.func49 (by kernel_rfl) (by kernel_rfl) (by kernel_rfl) (by kernel_rfl)
  have h50 := @run_callFunc_extern Tryd.prog 50 _ (ReflectliteValue.method (ReflectliteValue.valueError "reflectlite.Value.IsNil" 0) ReflectliteValue.isNil) Tryd.func50 (by kernel_rfl) (by kernel_rfl) (by kernel_rfl) (by kernel_rfl)
  have h96 := @run_callFunc_extern Tryd.prog 96 _ (ReflectliteType.abiMethod fun t => do pure (.int .u8 (← Rtype.kind t))) Tryd.func96 (by kernel_rfl) (by kernel_rfl) (by kernel_rfl) (by kernel_rfl)
  have h109 := @run_callFunc_extern Tryd.prog 109 _ (ReflectliteType.method ReflectliteType.elem) Tryd.func109 (by kernel_rfl) (by kernel_rfl) (by kernel_rfl) (by kernel_rfl)
  have h110 := @run_callFunc_extern Tryd.prog 110 _ (ReflectliteType.relation "Implements" ReflectliteType.implements_) Tryd.func110 (by kernel_rfl) (by kernel_rfl) (by kernel_rfl) (by kernel_rfl)
  have lt : ∀ {a : Addr} {v : Value}, w.cell? a = some v → a.block < w.heap.size := fun {a v} h => by
    rcases Nat.lt_or_ge a.block w.heap.size with h1 | h1
    · exact h1
    · simp [World.cell?, Array.getElem?_eq_none h1] at h
  have hel : e.block < w.heap.size := lt (a := { block := e.block, off := e.off + 2 }) he
  have htl := lt ht
  have hgl : 0 < w.heap.size := lt (a := ⟨0, 0, none⟩) hg
  have f6 := as_vo66
  have f7 := as_ty66
  have mK := as_mK
  have mE := as_mE
  have mI := as_mI
  have k66 := as_k66
  have k26 := as_k26
  have e66 := as_el66
  have i26 := as_im26
  have n8 := as_nil66 ⟨w.heap.size, 0, none⟩ t ((w.alloc (.cells #[.pointer (some t)] 66)).alloc (.cells #[.pointer (some ⟨2, 66, none⟩), .pointer (some ⟨w.heap.size, 0, none⟩), .int .u64 150] 88)) (by simp)
  have hg2 : ((w.alloc (.cells #[.pointer (some t)] 66)).alloc (.cells #[.pointer (some ⟨2, 66, none⟩), .pointer (some ⟨w.heap.size, 0, none⟩), .int .u64 150] 88)).cell? ⟨0, 0, none⟩ = some (.iface 118 (.agg #[.pointer (some ⟨2, 33, none⟩)])) := by
    rw [World.cell?_alloc_lt _ _ ⟨0, 0, none⟩ (by simp), World.cell?_alloc_lt _ _ ⟨0, 0, none⟩ hgl]; exact hg
  have hc := as2 e t ⟨w.heap.size, 0, none⟩ k old ((w.alloc (.cells #[.pointer (some t)] 66)).alloc (.cells #[.pointer (some ⟨2, 66, none⟩), .pointer (some ⟨w.heap.size, 0, none⟩), .int .u64 150] 88))
    (by rw [World.cell?_alloc_lt _ _ ⟨e.block, e.off + 2, none⟩ (by simp; omega), World.cell?_alloc_lt _ _ ⟨e.block, e.off + 2, none⟩ hel]; exact he)
    (by rw [World.cell?_alloc_lt _ _ ⟨w.heap.size, 0, none⟩ (by simp)]; simp)
    (by rw [World.cell?_alloc_lt _ _ t (by simp; omega), World.cell?_alloc_lt _ _ t htl]; exact ht)
    (by rw [World.frozen?_alloc_old _ _ t (by simp; omega), World.frozen?_alloc_old _ _ t (Nat.ne_of_lt htl)]; exact hf)
  go_enter Tryd.func33, Tryd.ntmps33
  go_wp2_with (go_at_call 51; refine hc.mono ?_; rintro ev w' ⟨rfl, rfl⟩)
  go_ret
  exact ⟨rfl, rfl⟩
end Go.Proofs.YtbfgendaafediaaDoor.Fw

/- fault.Kind: an error's kind. -/
namespace Go.Proofs.YtbfgendaafediaaDoor.Fw
open Go Go.RowKit Go.Extern.Stop Go.Stop Go.Extern
set_option maxRecDepth 100000
set_option maxHeartbeats 4000000 in
theorem kindW (e : Addr) (k : Int) (w : World) (hg : w.cell? ⟨0, 0, none⟩ = some (.iface 118 (.agg #[.pointer (some ⟨2, 33, none⟩)]))) (he : w.cell? { block := e.block, off := e.off + 2 } = some (.iface 26 (.int .i64 k))) :
    Calls Tryd.prog 13 #[.iface 101 (.pointer (some e))] w fun ev w' => ev = .returned (.int .i64 k) ∧ Below w.heap.size w w' := by
  have lt : ∀ {a : Addr} {v : Value}, w.cell? a = some v → a.block < w.heap.size := fun {a v} h => by
    rcases Nat.lt_or_ge a.block w.heap.size with h1 | h1
    · exact h1
    · simp [World.cell?, Array.getElem?_eq_none h1] at h
  have hel : e.block < w.heap.size := lt (a := { block := e.block, off := e.off + 2 }) he
  have hgl : 0 < w.heap.size := lt (a := ⟨0, 0, none⟩) hg
  have hc := as1 e ⟨w.heap.size, 0, none⟩ k (.int .i64 0) (w.alloc (.cells #[.int .i64 0] 26)) (by rw [World.cell?_alloc_lt _ _ ⟨0, 0, none⟩ hgl]; exact hg)
    (by rw [World.cell?_alloc_lt _ _ ⟨e.block, e.off + 2, none⟩ hel]; exact he) (by simp) (by simp)
  go_enter Tryd.func13, Tryd.ntmps13
  go_wp2_with (go_at_call 33; refine hc.mono ?_; rintro ev w' ⟨rfl, rfl⟩)
  go_ret
  refine ⟨rfl, ?_⟩
  exact (((((Below.refl _ w).alloc (Nat.le_refl _) _).alloc (by simp) _).alloc (by simp; omega) _).alloc (by simp; omega) _).alloc (by simp; omega) _
theorem glof : glOf Tryd.prog = some (0, .iface 118 (.agg #[.pointer (some ⟨2, 33, none⟩)])) := by kernel_rfl
theorem call13 (k at_ : Int) (what : S8) : CallsTo Tryd.prog 13 [fltD k at_ what] (.int .i64 k) := by
  refine ⟨⟨_, Tryd.func13, by decide, by decide⟩, fun I w vs him hrep => ?_⟩
  obtain ⟨v, us, rfl, hv, rfl⟩ := hrep
  obtain ⟨u, rfl, hu⟩ := hv
  obtain ⟨a, rfl, h1, h2, h3, _⟩ := hu
  obtain ⟨_, hi, z, hz, hz2⟩ := h3
  obtain ⟨y, rfl, rfl⟩ := hz2
  have hg := (him.2 _ _ glof).2
  refine (kindW a k w hg ?_).mono ?_
  · have e : a.add (0 + 1 + 1) = { block := a.block, off := a.off + 2 } := rfl
    rw [← e]; exact hz
  · rintro ev w' ⟨rfl, hb⟩
    exact ⟨_, I, rfl, fun _ _ h => h, fun _ _ h => .inl h, fun b o h => Nat.lt_of_lt_of_le (him.1 b o h) hb.size, rfl, hb⟩
set_option maxHeartbeats 4000000
theorem run13n  : Runs Tryd.prog T 11 (Tryd.f13.body.getD .skip) Tryd.f13.results.toList [.nili] (.int .i64 0) := by
  refine ⟨Nat.le_of_ble_eq_true rfl, ?_⟩
  conv => whnf
  exact ⟨rfl, rfl⟩
theorem call13n  : CallsTo Tryd.prog 13 [.nili] (.int .i64 0) := calls Tryd.func13 rfl (by decide) (run13n)
end Go.Proofs.YtbfgendaafediaaDoor.Fw

/- Plain: what sorting gives. -/
namespace Go.Proofs.YtbfgendaafediaaDoor.Fw
open Go Go.RowKit
set_option maxRecDepth 100000

theorem lt8_irrefl : ∀ a : S8, lt8 a a = false
  | [] => rfl
  | x :: a => by simp [lt8, bytesLess, Op.bytesLess]; exact lt8_irrefl a
theorem lt8_cons (x y : UInt8) (a b : S8) : lt8 (x :: a) (y :: b) = true ↔ x < y ∨ (x = y ∧ lt8 a b = true) := by
  unfold lt8 bytesLess
  rw [Op.bytesLess]
  by_cases h1 : x < y
  · simp [h1]
  · by_cases h2 : y < x
    · have : x ≠ y := fun e => by subst e; exact UInt8.lt_irrefl _ h2
      simp [h1, h2, this]
    · have : x = y := UInt8.le_antisymm (UInt8.not_lt.1 h2) (UInt8.not_lt.1 h1)
      simp [this]
theorem lt8_trans : ∀ {a b c : S8}, lt8 a b = true → lt8 b c = true → lt8 a c = true
  | [], [], _, h, _ => by cases h
  | [], _ :: _, [], _, h => by cases h
  | [], _ :: _, _ :: _, _, _ => rfl
  | _ :: _, [], _, h, _ => by cases h
  | _ :: _, _ :: _, [], _, h => by cases h
  | x :: a, y :: b, z :: c, h1, h2 => by
    rw [lt8_cons] at h1 h2 ⊢
    rcases h1 with h1 | ⟨rfl, h1⟩
    · rcases h2 with h2 | ⟨rfl, h2⟩
      · exact .inl (UInt8.lt_trans h1 h2)
      · exact .inl h1
    · rcases h2 with h2 | ⟨rfl, h2⟩
      · exact .inl h2
      · exact .inr ⟨rfl, lt8_trans h1 h2⟩
theorem lt8_tri : ∀ {a b : S8}, lt8 a b = false → lt8 b a = false → a = b
  | [], [], _, _ => rfl
  | [], _ :: _, h, _ => by cases h
  | _ :: _, [], _, h => by cases h
  | x :: a, y :: b, h1, h2 => by
    have e1 := fun h => (Bool.eq_false_iff.1 h1) ((lt8_cons x y a b).2 h)
    have e2 := fun h => (Bool.eq_false_iff.1 h2) ((lt8_cons y x b a).2 h)
    have h : x = y := UInt8.le_antisymm (UInt8.not_lt.1 fun h => e2 (.inl h)) (UInt8.not_lt.1 fun h => e1 (.inl h))
    subst h
    have := lt8_tri (a := a) (b := b) (Bool.eq_false_iff.2 fun h => e1 (.inr ⟨rfl, h⟩)) (Bool.eq_false_iff.2 fun h => e2 (.inr ⟨rfl, h⟩))
    rw [this]
theorem lt8_asymm {a b : S8} (h : lt8 a b = true) : lt8 b a = false := by
  cases hb : lt8 b a with
  | false => rfl
  | true => have := lt8_trans h hb; rw [lt8_irrefl] at this; cases this
theorem lt8_ge_trans {a b c : S8} (h1 : lt8 a b = false) (h2 : lt8 b c = false) : lt8 a c = false := by
  cases hc : lt8 a c with
  | false => rfl
  | true =>
    exfalso
    cases hb : lt8 b a with
    | true => have := lt8_trans hb hc; rw [h2] at this; cases this
    | false =>
      have := lt8_tri h1 hb; subst this
      rw [h2] at hc; cases hc

/-- An order that may be sorted by. -/
structure Ord {α : Type} (lt : α → α → Bool) : Prop where
  asymm : ∀ {a b}, lt a b = true → lt b a = false
  trans : ∀ {a b c}, lt a b = false → lt b c = false → lt a c = false
theorem ord8 : Ord lt8 := ⟨lt8_asymm, lt8_ge_trans⟩

section
variable {α : Type} (lt : α → α → Bool)
def insRev (a : α) : List α → List α
  | [] => [a]
  | b :: Q => bif lt a b then b :: insRev a Q else a :: b :: Q
theorem insRev_perm (a : α) : ∀ Q : List α, (insRev lt a Q).Perm (a :: Q)
  | [] => .refl _
  | b :: Q => by
    unfold insRev
    cases lt a b with
    | true => exact ((insRev_perm a Q).cons b).trans (.swap ..)
    | false => exact .refl _
theorem sift_eq : ∀ (j : Nat) (P D : List α) (a : α), P.length = j → sift lt j (P ++ a :: D) = (insRev lt a P.reverse).reverse ++ D
  | 0, P, D, a, h => by
    have := List.eq_nil_of_length_eq_zero h; subst this
    rfl
  | j + 1, P, D, a, h => by
    rcases List.eq_nil_or_concat P with rfl | ⟨P', b, rfl⟩
    · cases h
    · rw [List.concat_eq_append, List.length_append, List.length_singleton] at h
      have hj : P'.length = j := by omega
      rw [List.concat_eq_append]
      have g1 : (P' ++ [b] ++ a :: D)[j + 1]? = some a := by
        rw [List.getElem?_append_right (by simp; omega)]; simp [hj]
      have g2 : (P' ++ [b] ++ a :: D)[j]? = some b := by
        rw [List.append_assoc, List.getElem?_append_right (by omega)]; simp [hj]
      unfold sift
      rw [g1, g2]
      simp only [List.reverse_append, List.reverse_cons, List.reverse_nil, List.nil_append, List.singleton_append]
      unfold insRev
      cases lt a b with
      | true =>
        rw [cond_true, cond_true]
        have hs : ((P' ++ [b] ++ a :: D).set (j + 1) b).set j a = P' ++ a :: (b :: D) := by
          rw [List.append_assoc, List.set_append_right _ _ (by omega), List.set_append_right _ _ (by omega)]
          have : j + 1 - P'.length = 1 := by omega
          rw [this, show j - P'.length = 0 from by omega]
          rfl
        rw [hs, sift_eq j P' (b :: D) a hj]
        simp
      | false =>
        rw [cond_false, cond_false]; simp
def rs (L : List α) : List α := L.foldl (fun r a => insRev lt a r) []
theorem fold_perm : ∀ (L r : List α), (L.foldl (fun r a => insRev lt a r) r).Perm (r ++ L)
  | [], r => by simp
  | a :: L, r => by
    rw [List.foldl_cons]
    refine (fold_perm L _).trans ?_
    exact ((insRev_perm lt a r).append_right L).trans (List.perm_middle.symm)
theorem rs_perm (L : List α) : (rs lt L).Perm L := fold_perm lt L []
theorem sortTo_eq (L : List α) : ∀ i, i ≤ L.length → sortTo lt L i = (rs lt (L.take i)).reverse ++ L.drop i
  | 0, _ => by simp [sortTo, rs]
  | i + 1, h => by
    have hi : i < L.length := h
    rw [sortTo, sortTo_eq L i (by omega), List.drop_eq_getElem_cons hi, sift_eq lt i _ _ _ (by rw [List.length_reverse, (rs_perm lt _).length_eq, List.length_take]; omega)]
    rw [List.reverse_reverse, List.take_add_one, List.getElem?_eq_getElem hi]
    unfold rs
    rw [List.foldl_append]; rfl
theorem isort_eq (L : List α) : isort lt L = (rs lt L).reverse := by
  unfold isort
  rw [sortTo_eq lt L L.length (Nat.le_refl _), List.take_length, List.drop_length, List.append_nil]
theorem isort_perm (L : List α) : (isort lt L).Perm L := by
  rw [isort_eq]; exact (List.reverse_perm _).trans (rs_perm lt L)
variable {lt} (ho : Ord lt)
include ho
theorem insRev_desc {a : α} : ∀ {Q : List α}, Q.Pairwise (fun x y => lt x y = false) → (insRev lt a Q).Pairwise fun x y => lt x y = false
  | [], _ => by simp [insRev]
  | b :: Q, h => by
    have h' := List.pairwise_cons.1 h
    unfold insRev
    cases hab : lt a b with
    | true =>
      rw [cond_true]
      refine List.pairwise_cons.2 ⟨fun y hy => ?_, insRev_desc h'.2⟩
      rcases List.mem_cons.1 ((insRev_perm lt a Q).mem_iff.1 hy) with rfl | hy
      · exact ho.asymm hab
      · exact h'.1 y hy
    | false =>
      rw [cond_false]
      refine List.pairwise_cons.2 ⟨fun y hy => ?_, h⟩
      rcases List.mem_cons.1 hy with rfl | hy
      · exact hab
      · exact ho.trans hab (h'.1 y hy)
theorem fold_desc : ∀ (L r : List α), r.Pairwise (fun x y => lt x y = false) → (L.foldl (fun r a => insRev lt a r) r).Pairwise fun x y => lt x y = false
  | [], r, h => h
  | a :: L, r, h => fold_desc L _ (insRev_desc ho h)
theorem isort_sorted (L : List α) : (isort lt L).Pairwise fun x y => lt y x = false := by
  rw [isort_eq, List.pairwise_reverse]
  exact fold_desc ho L [] .nil
omit ho in
theorem fold_same : ∀ (L r : List α), L.Pairwise (fun x y => lt y x = false) → (∀ x ∈ r, ∀ y ∈ L, lt y x = false) → L.foldl (fun r a => insRev lt a r) r = L.reverse ++ r
  | [], r, _, _ => rfl
  | a :: L, r, h, hr => by
    have h' := List.pairwise_cons.1 h
    have hi : insRev lt a r = a :: r := by
      cases r with
      | nil => rfl
      | cons b Q => unfold insRev; rw [hr b (List.mem_cons_self ..) a (List.mem_cons_self ..)]; rfl
    rw [List.foldl_cons, hi, fold_same L (a :: r) h'.2 fun x hx y hy => by
      rcases List.mem_cons.1 hx with rfl | hx
      · exact h'.1 y hy
      · exact hr x hx y (List.mem_cons_of_mem _ hy)]
    simp
omit ho in
theorem isort_same {L : List α} (h : L.Pairwise (fun x y => lt y x = false)) : isort lt L = L := by
  rw [isort_eq, rs, fold_same L [] h (fun x hx => by cases hx)]; simp
end
theorem ordP (k : Nat) : Ord (ltP k) := ⟨fun h => lt8_asymm h, fun h1 h2 => lt8_ge_trans h1 h2⟩
end Go.Proofs.YtbfgendaafediaaDoor.Fw

/- Making a table of rows: it comes to one, or to an error. -/
namespace Go.Proofs.YtbfgendaafediaaDoor.Fw
open Go Go.RowKit
set_option maxRecDepth 100000

theorem least_of {p : Nat → Prop} (h : ∃ n, p n) : ∃ n, p n ∧ ∀ m, m < n → ¬ p m := by
  obtain ⟨n, hn⟩ := h
  induction n using Nat.strongRecOn with
  | ind n ih =>
    by_cases hc : ∃ m, m < n ∧ p m
    · obtain ⟨m, h1, h2⟩ := hc; exact ih m h1 h2
    · exact ⟨n, hn, fun m hm hp => hc ⟨m, hm, hp⟩⟩
def upAt (k : Nat) (S : List S8) (j : Nat) : Prop := ∀ x y : S8, S[j]? = some x → S[j + 1]? = some y → lt8 (x.take k) (y.take k) = true
theorem first_bad {k : Nat} {S : List S8} (h : ¬ risesK k S) : ∃ q, (∃ x y, S[q]? = some x ∧ S[q + 1]? = some y ∧ lt8 (x.take k) (y.take k) = false) ∧ ∀ j, j < q → upAt k S j := by
  have h1 : ∃ q, ¬ upAt k S q := by
    refine Classical.byContradiction fun hn => h fun j x y hx hy => ?_
    exact (Classical.byContradiction fun hu => hn ⟨j, hu⟩ : upAt k S j) x y hx hy
  obtain ⟨q, hq, hm⟩ := least_of h1
  refine ⟨q, ?_, fun j hj => Classical.byContradiction fun hu => hm j hj hu⟩
  refine Classical.byContradiction fun hn => hq fun x y hx hy => ?_
  cases hl : lt8 (x.take k) (y.take k) with
  | true => rfl
  | false => exact absurd ⟨x, y, hx, hy, hl⟩ hn
/-- Rows of a width, in order. -/
def srt (k : Nat) (l : List S8) : List S8 := isort (ltP k) l
theorem srt_len (k : Nat) (l : List S8) : (srt k l).length = l.length := sortTo_length (ltP k) _ _
theorem srt_all {k w : Nat} {l : List S8} (hw : ∀ x ∈ l, x.length = w) : ∀ x ∈ srt k l, x.length = w := sortTo_all (ltP k) hw _
theorem new_ok (w k : Nat) (S : List S8) (h : 1 ≤ k ∧ k ≤ w ∧ w ≤ 255) (hl : S.length ≤ 1000) (hw : ∀ x ∈ S, x.length = w) (hr : risesK k S) : CallsTo Tryd.prog 18 [.int .i64 w, .int .i64 k, .str S.flatten] (.tup [(tabOf w k S).d, .nili]) :=
  call18c (tabOf w k S) (tabOf_ok h hw hl) (tabOf_mod hw) (fun j h1 h2 => by
    rw [tabOf_n (by omega) hw] at h2
    have hx : S[j - 1]? = some S[j - 1] := List.getElem?_eq_getElem (by omega)
    have hy : S[j]? = some S[j] := List.getElem?_eq_getElem h2
    unfold Tab.up
    rw [tabOf_key hw hx, tabOf_key hw hy]
    exact hr (j - 1) _ _ hx (by rw [show j - 1 + 1 = j from by omega]; exact hy))
theorem new_bad (w k : Nat) (S : List S8) (h : 1 ≤ k ∧ k ≤ w ∧ w ≤ 255) (hl : S.length ≤ 1000) (hw : ∀ x ∈ S, x.length = w) (q : Nat) (x y : S8) (hx : S[q]? = some x) (hy : S[q + 1]? = some y) (hb : lt8 (x.take k) (y.take k) = false) (hu : ∀ j, j < q → upAt k S j) :
    CallsTo Tryd.prog 18 [.int .i64 w, .int .i64 k, .str S.flatten] (.tup [.nilp, fltD 13 (((q + 1) * w : Nat) : Int) TABLE]) := by
  have hlt := (List.getElem?_eq_some_iff.1 hy).1
  refine call18d (tabOf w k S) (tabOf_ok h hw hl) (tabOf_mod hw) (q + 1) (by omega) (by rw [tabOf_n (by omega) hw]; exact hlt) (fun j h1 h2 => ?_) ?_
  · have hx' : S[j - 1]? = some S[j - 1] := List.getElem?_eq_getElem (by omega)
    have hy' : S[j]? = some S[j] := List.getElem?_eq_getElem (by omega)
    unfold Tab.up
    rw [tabOf_key hw hx', tabOf_key hw hy']
    exact hu (j - 1) (by omega) _ _ hx' (by rw [show j - 1 + 1 = j from by omega]; exact hy')
  · unfold Tab.up
    rw [show q + 1 - 1 = q from by omega, tabOf_key hw hx, tabOf_key hw hy]
    exact hb
theorem build_ok (w k : Nat) (l : List S8) (h : 1 ≤ k ∧ k ≤ w ∧ w ≤ 255) (hl : l.length ≤ 12) (hw : ∀ x ∈ l, x.length = w) (hr : risesK k (srt k l)) : CallsTo Tryd.prog 12 [.int .i64 w, .int .i64 k, .sl 0 1 (l.map D.str)] (.tup [(tabOf w k (srt k l)).d, .nili]) :=
  call12c w k l h hl hw hr
theorem build_bad (w k : Nat) (l : List S8) (h : 1 ≤ k ∧ k ≤ w ∧ w ≤ 255) (hl : l.length ≤ 12) (hw : ∀ x ∈ l, x.length = w) (q : Nat) (x y : S8) (hx : (srt k l)[q]? = some x) (hy : (srt k l)[q + 1]? = some y) (hb : lt8 (x.take k) (y.take k) = false) (hu : ∀ j, j < q → upAt k (srt k l) j) :
    CallsTo Tryd.prog 12 [.int .i64 w, .int .i64 k, .sl 0 1 (l.map D.str)] (.tup [.nilp, fltD 13 (((q + 1) * w : Nat) : Int) TABLE]) :=
  calls Tryd.func12 rfl (by decide) (run12d w k l _ h hl hw (new_bad w k (srt k l) h (by rw [srt_len]; omega) (srt_all hw) q x y hx hy hb hu))
theorem build_bad' (w k : Nat) (l : List S8) (h : 1 ≤ k ∧ k ≤ w ∧ w ≤ 255) (hl : l.length ≤ 12) (hw : ∀ x ∈ l, x.length = w) (hr : ¬ risesK k (srt k l)) : ∃ q : Nat, CallsTo Tryd.prog 12 [.int .i64 w, .int .i64 k, .sl 0 1 (l.map D.str)] (.tup [.nilp, fltD 13 q TABLE]) := by
  obtain ⟨q, ⟨x, y, hx, hy, hb⟩, hu⟩ := first_bad hr
  exact ⟨_, build_bad w k l h hl hw q x y hx hy hb hu⟩
/-- What begins with nothing: all. -/
theorem pre_nil (s : S8) : pre s [] = true := by unfold pre; cases s <;> rfl
theorem geK_nil (t : Tab) (i : Nat) : geK t [] i = true := by
  unfold geK
  have : lt8 (t.key i) [] = false := by cases t.key i <;> rfl
  rw [this]; rfl
theorem fromK_nil (t : Tab) : fromK t [] = 0 := by
  unfold fromK
  have h := (srch_spec (geK t []) t.n fun _ _ _ _ _ => geK_nil t _).2.1
  refine Classical.byContradiction fun hn => ?_
  have := h 0 (by omega)
  rw [geK_nil] at this; cases this
theorem preGo_nil (t : Tab) : ∀ f i, i + f = t.n → preGo t [] f i = (List.range' i f).map fun j => (j, t.row j)
  | 0, _, _ => rfl
  | f + 1, i, h => by
    rw [preGo, pre_nil, decide_eq_true (by omega), Bool.and_self, cond_true, preGo_nil t f (i + 1) (by omega)]
    rfl
theorem prefL_nil (t : Tab) : prefL t [] = (List.range' 0 t.n).map fun j => (j, t.row j) := by
  unfold prefL
  rw [fromK_nil, preGo_nil t _ _ (by omega)]; rfl
end Go.Proofs.YtbfgendaafediaaDoor.Fw

/- In whatever order: plain. -/
namespace Go.Proofs.YtbfgendaafediaaDoor.Fw
open Go Go.RowKit
set_option maxRecDepth 100000
theorem rises_pw {k : Nat} {S : List S8} (h : risesK k S) : S.Pairwise fun x y => ltP k x y = true := by
  rw [List.pairwise_iff_getElem]
  intro i j hi hj hij
  induction j with
  | zero => omega
  | succ j ih =>
    have h1 := h j S[j] S[j + 1] (List.getElem?_eq_getElem (by omega)) (List.getElem?_eq_getElem hj)
    by_cases e : i = j
    · subst e; exact h1
    · exact lt8_trans (ih (by omega) (by omega)) h1
theorem pw_rises {k : Nat} {S : List S8} (h : S.Pairwise fun x y => ltP k x y = true) : risesK k S := by
  intro j x y hx hy
  rw [List.pairwise_iff_getElem] at h
  obtain ⟨h1, rfl⟩ := List.getElem?_eq_some_iff.1 hx
  obtain ⟨h2, rfl⟩ := List.getElem?_eq_some_iff.1 hy
  exact h j (j + 1) h1 h2 (by omega)
theorem pw_eq {k : Nat} : ∀ {S : List S8} {a b : S8}, (S.Pairwise fun x y => ltP k x y = true) → a ∈ S → b ∈ S → ltP k a b = false → ltP k b a = false → a = b
  | [], a, b, _, h, _, _, _ => by cases h
  | x :: S, a, b, hp, ha0, hb0, h1, h2 => by
    obtain ⟨p1, p2⟩ := List.pairwise_cons.1 hp
    rcases List.mem_cons.1 ha0 with e1 | ha
    · subst e1
      rcases List.mem_cons.1 hb0 with e2 | hb
      · exact e2.symm
      · rw [p1 b hb] at h1; cases h1
    · rcases List.mem_cons.1 hb0 with e2 | hb
      · subst e2; rw [p1 a ha] at h2; cases h2
      · exact pw_eq p2 ha hb h1 h2
theorem srt_perm (k : Nat) (l : List S8) : (srt k l).Perm l := isort_perm _ l
theorem srt_sorted (k : Nat) (l : List S8) : (srt k l).Pairwise fun x y => ltP k y x = false := isort_sorted (ordP k) l
theorem sorted_unique {k : Nat} {S S' : List S8} (hs : S'.Pairwise fun x y => ltP k y x = false) (hr : risesK k S) (hp : S'.Perm S) : S' = S := by
  have hw := rises_pw hr
  refine List.Perm.eq_of_pairwise (le := fun x y => ltP k y x = false) (fun a b ha hb h1 h2 => ?_) hs ?_ hp
  · exact pw_eq hw (hp.mem_iff.1 ha) hb h2 h1
  · exact hw.imp fun {a b} h => lt8_asymm h
theorem srt_unique {k : Nat} {L1 L2 : List S8} (hp : L2.Perm L1) (hr : risesK k (srt k L1)) : srt k L2 = srt k L1 :=
  sorted_unique (srt_sorted k L2) hr (((srt_perm k L2).trans hp).trans (srt_perm k L1).symm)
theorem srt_rises_iff {k : Nat} {L1 L2 : List S8} (hp : L2.Perm L1) : risesK k (srt k L1) ↔ risesK k (srt k L2) :=
  ⟨fun h => by rw [srt_unique hp h]; exact h, fun h => by rw [srt_unique hp.symm h]; exact h⟩
theorem tabOf_row? {w k : Nat} {S : List S8} (hw : ∀ x ∈ S, x.length = w) {i : Nat} (hi : i < S.length) : (tabOf w k S).row i = S[i] := tabOf_row hw (List.getElem?_eq_getElem hi)
end Go.Proofs.YtbfgendaafediaaDoor.Fw

/- In whatever order rows are handed in, the table is the same. -/
namespace Go.Proofs.YtbfgendaafediaaDoor.Fw
open Go Go.RowKit
set_option maxRecDepth 100000
set_option maxHeartbeats 4000000
theorem run5 (l : List S8) (a b c : Int) (hl : l.length ≤ maxLen) : Runs Tryd.prog T 162 (Tryd.f5.body.getD .skip) Tryd.f5.results.toList [.sl 0 1 (l.map D.str), .agg [.int .i64 a, .int .i64 b, .int .i64 c]] (.bool true) := by
  refine ⟨Nat.le_of_ble_eq_true rfl, ?_⟩
  conv => whnf
  refine ⟨_, fun _ => call8, ?_⟩
  conv => whnf
  refine ⟨_, fun _ => call9 a 9 (by decide) (by decide), ?_⟩
  conv => whnf
  obtain ⟨_, hr9, _⟩ := restN_eq a (n := 9) (by decide)
  generalize restN a 9 = w0 at hr9
  have hw : IntKind.i64.wrap (1 + (w0 : Int)) = ((w0 + 1 : Nat) : Int) := by rw [IntKind.wrap_i64]; omega
  rw [hw]
  refine ⟨_, fun _ => call9 b (w0 + 1) (by omega) (by omega), ?_⟩
  conv => whnf
  obtain ⟨_, hrk, _⟩ := restN_eq b (n := w0 + 1) (by omega)
  generalize restN b (w0 + 1) = k0 at hrk
  have hk : IntKind.i64.wrap (1 + (k0 : Int)) = ((k0 + 1 : Nat) : Int) := by rw [IntKind.wrap_i64]; omega
  rw [hk]
  refine ⟨_, fun _ => call11 l (w0 + 1) 0 hl (by omega), ?_⟩
  conv => whnf
  have hk : 1 ≤ k0 + 1 ∧ k0 + 1 ≤ w0 + 1 ∧ w0 + 1 ≤ 255 := by omega
  have hrl := rowsL_le (w0 + 1) 0 l
  have hrw : ∀ x ∈ rowsL (w0 + 1) 0 l, x.length = w0 + 1 := fun x h => rowsL0_len (by omega) h
  generalize rowsL (w0 + 1) 0 l = L at hrl hrw
  generalize w0 + 1 = w at *
  generalize k0 + 1 = k at *
  refine ifB_intro (fun hlen => ?_) (fun hlen => ?_)
  · have hlen : (0 : Int) < ((L.map D.str).length : Int) := of_decide_eq_true hlen
    have hml : (L.map D.str).length = L.length := List.length_map ..
    conv => whnf
    refine ⟨_, fun _ => call9 c (L.map D.str).length (by omega) (by omega), ?_⟩
    conv => whnf
    obtain ⟨_, hrn, _⟩ := restN_eq c (n := (L.map D.str).length) (by omega)
    generalize restN c (L.map D.str).length = n at hrn
    have hn : n ≤ L.length := by omega
    refine ⟨rfl, ?_⟩
    conv => whnf
    have hsl : sliceD (L.map D.str) (Int.toNat (n : Int)) (Int.toNat ((L.map D.str).length : Int)) = (L.drop n).map D.str := by
      unfold sliceD
      rw [show Int.toNat (n : Int) = n from by simp, Int.toNat_natCast, List.map_drop, List.take_of_length_le (by simp)]
    refine sideB_intro (fun _ => decide_eq_true (by omega)) ?_
    rw [hsl]
    conv => whnf
    refine sideB_intro (fun _ => decide_eq_true (by simp; omega)) ?_
    conv => whnf
    have hsl2 : sliceD (L.map D.str) (Int.toNat ((0 : Nat) : Int)) (Int.toNat (n : Int)) = (L.take n).map D.str := by
      unfold sliceD
      rw [show Int.toNat (n : Int) = n from by simp, Int.toNat_natCast, List.drop_zero, List.map_take]; try rfl
    refine sideB_intro (fun _ => decide_eq_true (by omega)) ?_
    rw [hsl2]
    conv => whnf
    refine sideB_intro (fun _ => decide_eq_true (by simp; omega)) ?_
    have hap : ([] ++ (L.drop n).map D.str) ++ (L.take n).map D.str = (L.drop n ++ L.take n).map D.str := by simp
    rw [hap]
    conv => whnf
    have hperm : (L.drop n ++ L.take n).Perm L := (List.perm_append_comm).trans (by rw [List.take_append_drop])
    have htl : (L.drop n ++ L.take n).length ≤ 12 := by rw [hperm.length_eq]; exact hrl
    have htw : ∀ x ∈ L.drop n ++ L.take n, x.length = w := fun x hx => hrw x (hperm.mem_iff.1 hx)
    have htr := srt_rises_iff (k := k) hperm
    by_cases hr : risesK k (srt k L)
    · have hsame := srt_unique hperm hr
      have hb2 := build_ok w k (L.drop n ++ L.take n) hk htl htw (htr.1 hr)
      rw [hsame] at hb2
      generalize L.drop n ++ L.take n = R at *
      refine ⟨_, fun _ => build_ok w k L hk hrl hrw hr, ?_⟩
      conv => whnf
      refine ⟨_, fun _ => hb2, ?_⟩
      conv => whnf
      have ht : (tabOf w k (srt k L)).ok := tabOf_ok hk (srt_all hrw) (by rw [srt_len]; omega)
      have hn : (tabOf w k (srt k L)).n = L.length := by rw [tabOf_n (by omega) (srt_all hrw), srt_len]
      have hnew := new_ok w k (srt k L) hk (by rw [srt_len]; omega) (srt_all hrw) hr
      refine ⟨_, fun _ => call19 (tabOf w k (srt k L)), ?_⟩
      conv => whnf
      refine ⟨_, fun _ => hnew, ?_⟩
      conv => whnf
      have hrow : ∀ i, i < L.length → ((tabOf w k (srt k L)).row i).length = w := fun i hi => by
        rw [tabOf_row? (srt_all hrw) (by rw [srt_len]; exact hi)]
        exact srt_all hrw _ (List.getElem_mem _)
      have hup : ∀ i, i + 1 < L.length → lt8 (((tabOf w k (srt k L)).row i).take k) (((tabOf w k (srt k L)).row (i + 1)).take k) = true := fun i hi => by
        have h1 : i + 1 < (srt k L).length := by rw [srt_len]; exact hi
        rw [tabOf_row? (srt_all hrw) (by omega), tabOf_row? (srt_all hrw) h1]
        exact hr i _ _ (List.getElem?_eq_getElem (by omega)) (List.getElem?_eq_getElem h1)
      clear hsame hb2 hnew hr htr
      generalize tabOf w k (srt k L) = t at ht hn hrow hup
      refine ⟨[], ?_⟩
      conv => whnf
      refine loop_at (σ := Nat) (fun i env => (env.setT 17 (.int .i64 ((i + 1 : Nat) : Int)))) (fun i => t.n - i) (fun i => i ≤ t.n) 0 (Nat.zero_le _) rfl ?_
      rintro i hi ih
      conv => whnf
      refine ⟨_, fun _ => call17 t ht, ?_⟩
      conv => whnf
      refine ifB_intro (fun hc => ?_) (fun hc => ?_)
      · have hc : ((i + 1 : Nat) : Int) < (t.n : Int) := of_decide_eq_true hc
        have ih' := ih (i + 1) (by omega) (by omega)
        have hwi : IntKind.i64.wrap (((i + 1 : Nat) : Int) + 1) = ((i + 1 + 1 : Nat) : Int) := by rw [IntKind.wrap_i64]; omega
        have hw1 : IntKind.i64.wrap (((i + 1 : Nat) : Int) - 1) = (i : Int) := by rw [IntKind.wrap_i64]; omega
        have hl1 := hrow i (by omega)
        have hl2 := hrow (i + 1) (by omega)
        have hu := hup i (by omega)
        conv => whnf
        rw [hw1]
        refine ⟨_, fun _ => call20 t i ht (by omega), ?_⟩
        conv => whnf
        refine ⟨_, fun _ => call20 t (i + 1) ht (by omega), ?_⟩
        conv => whnf
        have e1 : ∀ s : S8, sliceD s (Int.toNat ((0 : Nat) : Int)) (Int.toNat (k : Int)) = s.take k := fun s => by simp [sliceD]
        have hww : ((w : Int) != (w : Int)) = false := by simp
        refine ⟨rfl, ?_⟩
        conv => whnf
        rw [hl1, hl2, hww]
        refine sideB_intro (fun _ => decide_eq_true (by omega)) ?_
        rw [e1]
        conv => whnf
        refine sideB_intro (fun _ => decide_eq_true (by omega)) ?_
        rw [e1]
        conv => whnf
        rw [show bytesLess ((t.row i).take k) ((t.row (i + 1)).take k) = true from hu]
        conv => whnf
        rw [hwi]
        exact ih'
      · conv => whnf
        refine ⟨_, fun _ => call19 t, ?_⟩
        conv => whnf
        refine ⟨_, fun _ => call19 t, ?_⟩
        conv => whnf
        refine ⟨_, fun _ => call19 t, ?_⟩
        conv => whnf
        refine ⟨_, fun _ => call19 t, ?_⟩
        conv => whnf
        refine ⟨_, fun _ => call17 t ht, ?_⟩
        conv => whnf
        refine ⟨_, fun _ => call17 t ht, ?_⟩
        conv => whnf
        refine ⟨_, fun _ => call17 t ht, ?_⟩
        conv => whnf
        exact ⟨rfl, congrArg D.bool (by simp [hn])⟩
    · obtain ⟨q1, hb1⟩ := build_bad' w k L hk hrl hrw hr
      obtain ⟨q2, hb2⟩ := build_bad' w k (L.drop n ++ L.take n) hk htl htw (fun h => hr (htr.2 h))
      generalize L.drop n ++ L.take n = R at *
      refine ⟨_, fun _ => hb1, ?_⟩
      conv => whnf
      refine ⟨_, fun _ => hb2, ?_⟩
      conv => whnf
      refine ⟨_, fun _ => call13 13 q1 TABLE, ?_⟩
      conv => whnf
      refine ⟨_, fun _ => call13 13 q2 TABLE, ?_⟩
      conv => whnf
      exact ⟨rfl, rfl⟩
  · conv => whnf
    have hn : 0 ≤ L.length := Nat.zero_le _
    have hml : (L.map D.str).length = L.length := List.length_map ..
    refine ⟨rfl, ?_⟩
    conv => whnf
    have hsl : sliceD (L.map D.str) (Int.toNat (0 : Int)) (Int.toNat ((L.map D.str).length : Int)) = (L.drop 0).map D.str := by
      unfold sliceD
      rw [show Int.toNat (0 : Int) = 0 from by simp, Int.toNat_natCast, List.map_drop, List.take_of_length_le (by simp)]
    refine sideB_intro (fun _ => decide_eq_true (by omega)) ?_
    rw [hsl]
    conv => whnf
    refine sideB_intro (fun _ => decide_eq_true (by simp; omega)) ?_
    conv => whnf
    have hsl2 : sliceD (L.map D.str) (Int.toNat ((0 : Nat) : Int)) (Int.toNat (0 : Int)) = (L.take 0).map D.str := by
      unfold sliceD
      rw [show Int.toNat (0 : Int) = 0 from by simp, Int.toNat_natCast, List.drop_zero, List.map_take]; try rfl
    refine sideB_intro (fun _ => decide_eq_true (by omega)) ?_
    rw [hsl2]
    conv => whnf
    refine sideB_intro (fun _ => decide_eq_true (by simp; omega)) ?_
    have hap : ([] ++ (L.drop 0).map D.str) ++ (L.take 0).map D.str = (L.drop 0 ++ L.take 0).map D.str := by simp
    rw [hap]
    conv => whnf
    have hperm : (L.drop 0 ++ L.take 0).Perm L := (List.perm_append_comm).trans (by rw [List.take_append_drop])
    have htl : (L.drop 0 ++ L.take 0).length ≤ 12 := by rw [hperm.length_eq]; exact hrl
    have htw : ∀ x ∈ L.drop 0 ++ L.take 0, x.length = w := fun x hx => hrw x (hperm.mem_iff.1 hx)
    have htr := srt_rises_iff (k := k) hperm
    by_cases hr : risesK k (srt k L)
    · have hsame := srt_unique hperm hr
      have hb2 := build_ok w k (L.drop 0 ++ L.take 0) hk htl htw (htr.1 hr)
      rw [hsame] at hb2
      generalize L.drop 0 ++ L.take 0 = R at *
      refine ⟨_, fun _ => build_ok w k L hk hrl hrw hr, ?_⟩
      conv => whnf
      refine ⟨_, fun _ => hb2, ?_⟩
      conv => whnf
      have ht : (tabOf w k (srt k L)).ok := tabOf_ok hk (srt_all hrw) (by rw [srt_len]; omega)
      have hn : (tabOf w k (srt k L)).n = L.length := by rw [tabOf_n (by omega) (srt_all hrw), srt_len]
      have hnew := new_ok w k (srt k L) hk (by rw [srt_len]; omega) (srt_all hrw) hr
      refine ⟨_, fun _ => call19 (tabOf w k (srt k L)), ?_⟩
      conv => whnf
      refine ⟨_, fun _ => hnew, ?_⟩
      conv => whnf
      have hrow : ∀ i, i < L.length → ((tabOf w k (srt k L)).row i).length = w := fun i hi => by
        rw [tabOf_row? (srt_all hrw) (by rw [srt_len]; exact hi)]
        exact srt_all hrw _ (List.getElem_mem _)
      have hup : ∀ i, i + 1 < L.length → lt8 (((tabOf w k (srt k L)).row i).take k) (((tabOf w k (srt k L)).row (i + 1)).take k) = true := fun i hi => by
        have h1 : i + 1 < (srt k L).length := by rw [srt_len]; exact hi
        rw [tabOf_row? (srt_all hrw) (by omega), tabOf_row? (srt_all hrw) h1]
        exact hr i _ _ (List.getElem?_eq_getElem (by omega)) (List.getElem?_eq_getElem h1)
      clear hsame hb2 hnew hr htr
      generalize tabOf w k (srt k L) = t at ht hn hrow hup
      refine ⟨[], ?_⟩
      conv => whnf
      refine loop_at (σ := Nat) (fun i env => (env.setT 17 (.int .i64 ((i + 1 : Nat) : Int)))) (fun i => t.n - i) (fun i => i ≤ t.n) 0 (Nat.zero_le _) rfl ?_
      rintro i hi ih
      conv => whnf
      refine ⟨_, fun _ => call17 t ht, ?_⟩
      conv => whnf
      refine ifB_intro (fun hc => ?_) (fun hc => ?_)
      · have hc : ((i + 1 : Nat) : Int) < (t.n : Int) := of_decide_eq_true hc
        have ih' := ih (i + 1) (by omega) (by omega)
        have hwi : IntKind.i64.wrap (((i + 1 : Nat) : Int) + 1) = ((i + 1 + 1 : Nat) : Int) := by rw [IntKind.wrap_i64]; omega
        have hw1 : IntKind.i64.wrap (((i + 1 : Nat) : Int) - 1) = (i : Int) := by rw [IntKind.wrap_i64]; omega
        have hl1 := hrow i (by omega)
        have hl2 := hrow (i + 1) (by omega)
        have hu := hup i (by omega)
        conv => whnf
        rw [hw1]
        refine ⟨_, fun _ => call20 t i ht (by omega), ?_⟩
        conv => whnf
        refine ⟨_, fun _ => call20 t (i + 1) ht (by omega), ?_⟩
        conv => whnf
        have e1 : ∀ s : S8, sliceD s (Int.toNat ((0 : Nat) : Int)) (Int.toNat (k : Int)) = s.take k := fun s => by simp [sliceD]
        have hww : ((w : Int) != (w : Int)) = false := by simp
        refine ⟨rfl, ?_⟩
        conv => whnf
        rw [hl1, hl2, hww]
        refine sideB_intro (fun _ => decide_eq_true (by omega)) ?_
        rw [e1]
        conv => whnf
        refine sideB_intro (fun _ => decide_eq_true (by omega)) ?_
        rw [e1]
        conv => whnf
        rw [show bytesLess ((t.row i).take k) ((t.row (i + 1)).take k) = true from hu]
        conv => whnf
        rw [hwi]
        exact ih'
      · conv => whnf
        refine ⟨_, fun _ => call19 t, ?_⟩
        conv => whnf
        refine ⟨_, fun _ => call19 t, ?_⟩
        conv => whnf
        refine ⟨_, fun _ => call19 t, ?_⟩
        conv => whnf
        refine ⟨_, fun _ => call19 t, ?_⟩
        conv => whnf
        refine ⟨_, fun _ => call17 t ht, ?_⟩
        conv => whnf
        refine ⟨_, fun _ => call17 t ht, ?_⟩
        conv => whnf
        refine ⟨_, fun _ => call17 t ht, ?_⟩
        conv => whnf
        exact ⟨rfl, congrArg D.bool (by simp [hn])⟩
    · obtain ⟨q1, hb1⟩ := build_bad' w k L hk hrl hrw hr
      obtain ⟨q2, hb2⟩ := build_bad' w k (L.drop 0 ++ L.take 0) hk htl htw (fun h => hr (htr.2 h))
      generalize L.drop 0 ++ L.take 0 = R at *
      refine ⟨_, fun _ => hb1, ?_⟩
      conv => whnf
      refine ⟨_, fun _ => hb2, ?_⟩
      conv => whnf
      refine ⟨_, fun _ => call13 13 q1 TABLE, ?_⟩
      conv => whnf
      refine ⟨_, fun _ => call13 13 q2 TABLE, ?_⟩
      conv => whnf
      exact ⟨rfl, rfl⟩
theorem call5 (l : List S8) (a b c : Int) (hl : l.length ≤ maxLen) : CallsTo Tryd.prog 5 [.sl 0 1 (l.map D.str), .agg [.int .i64 a, .int .i64 b, .int .i64 c]] (.bool true) := calls Tryd.func5 rfl (by decide) (run5 l a b c hl)
end Go.Proofs.YtbfgendaafediaaDoor.Fw

/- What every row of this seat asks of the variable that is laid. -/
namespace Go.Proofs.YtbfgendaafediaaDoor
open Go Go.RowKit Go.WideShapes Go.ChangeShapes
open Fw

abbrev laidE : List (String × DataW Unit) := [("errors.errorType", Rows.laid_errors_errorType)]
theorem erT : Tryd.prog.globalNamed "errors.errorType" = some 0 := by kernel_rfl
theorem erR : (Tryd.prog.cutTypes.find? (·.1 == "internal/reflectlite.rtype")).map (·.2) = some 118 := by kernel_rfl
theorem erO : ((List.range 175).filter fun t => Tryd.prog.rowNamed t [101, 114, 114, 111, 114]) = [33] := by kernel_rfl
theorem erS : Tryd.prog.types.size = 175 := by kernel_rfl
theorem handle_of_laid {W : World} (h : laidMetH Tryd.prog laidE W) : W.cell? ⟨0, 0, none⟩ = some (.iface 118 (.agg #[.pointer (some ⟨2, 33, none⟩)])) := by
  have h' : laidMet Tryd.prog [] W ∧ handlesMet Tryd.prog laidE W := h
  obtain ⟨name, u, ty, e1, e2, e3, e4, e5⟩ := h'.2 _ (List.mem_singleton.2 rfl)
  have en : name = [101, 114, 114, 111, 114] := (Option.some.inj e1).symm
  subst en
  obtain rfl := Option.some.inj (erR.symm.trans e2)
  have hm : ty ∈ (List.range 175).filter fun t => Tryd.prog.rowNamed t [101, 114, 114, 111, 114] := List.mem_filter.2 ⟨List.mem_range.2 (by rw [← erS]; exact e3), e4⟩
  rw [erO] at hm
  obtain rfl := List.mem_singleton.1 hm
  have hh : typeHandle Tryd.prog 33 = .pointer (some ⟨2, 33, none⟩) := by kernel_rfl
  rw [hh] at e5
  simpa using World.var?_cell erT e5 0
/-- A world in which it is so. -/
noncomputable def laidWorld (os : Os) : World :=
  let w0 := World.holding Tryd.prog os ⟨#[], #[], []⟩
  { w0 with heap := w0.heap.modify 0 fun
      | .cells _ t frozen => .cells #[.iface 118 (.agg #[.pointer (some ⟨2, 33, none⟩)])] t frozen
      | o => o }
theorem laidWorld_met (os : Os) (args : Array Value) : laidMetH Tryd.prog laidE ((laidWorld os).forCall (fun _ _ => 0) ⟨#[], args, []⟩).memory :=
  laidMetH_of_parts (laidMet_nil _ _) (by kernel_rfl)
theorem glob_of_laid {W : World} (h : laidMetH Tryd.prog laidE W) : GlobW Tryd.prog (old W) W := fun g v e => by
  have hc := handle_of_laid h
  rw [glof] at e
  cases e
  refine ⟨?_, hc⟩
  rcases Nat.lt_or_ge 0 W.heap.size with h1 | h1
  · exact h1
  · simp [World.cell?, Array.getElem?_eq_none h1] at hc
end Go.Proofs.YtbfgendaafediaaDoor
