/- Texts KA, KB, KC, LA, LB, KD, KE, TA, TS, TI, TO, JA, TW, TX, TY, FA, FB, KW, LC, LE, LG, LJ, PA, PB, FC, PC of the proof, in one. -/
import Derived.Room.Shelf.Join48
import Derived.LaidEql
import Derived.Stop.Asserts
import Derived.RowKitTokens
import Derived.Test.YtbfgendaafediaaDoorFwBk5
set_option linter.unusedSimpArgs false
set_option linter.unusedVariables false
set_option linter.unusedSectionVars false
set_option linter.unnecessarySimpa false

/- Small functions: comparing, small letters. -/
namespace Go.Proofs.YtbfgendaafediaaDoor.Fw
open Go Go.RowKit
set_option maxRecDepth 100000
set_option maxHeartbeats 4000000

theorem run44 (s : S8) : Runs Tryd.prog T 6 (Tryd.f44.body.getD .skip) Tryd.f44.results.toList [.str s] (.bool false) := by
  refine ⟨Nat.le_of_ble_eq_true rfl, ?_⟩
  conv => whnf
  exact ⟨rfl, congrArg D.bool (by simp)⟩
theorem call44 (s : S8) : CallsTo Tryd.prog 44 [.str s] (.bool false) := calls Tryd.func44 rfl (by decide) (run44 s)
/-- By bytes, ahead. -/
abbrev lt8 (a b : S8) : Bool := bytesLess a b
def cmp8 (a b : S8) : Int := if lt8 a b then -1 else if a = b then 0 else 1
theorem run31 (a b : S8) : Runs Tryd.prog T 20 (Tryd.f31.body.getD .skip) Tryd.f31.results.toList [.str a, .str b] (.int .i64 (cmp8 a b)) := by
  refine ⟨Nat.le_of_ble_eq_true rfl, ?_⟩
  conv => whnf
  refine ⟨_, fun _ => call44 a, ?_⟩
  conv => whnf
  refine ⟨_, fun _ => call44 b, ?_⟩
  conv => whnf
  refine ifB_intro (fun h => ?_) (fun h => ?_)
  · conv => whnf
    have h : lt8 a b = true := h
    exact ⟨rfl, congrArg (D.int .i64) (by simp [cmp8, h])⟩
  · conv => whnf
    refine ifB_intro (fun h2 => ?_) (fun h2 => ?_)
    · conv => whnf
      have h : lt8 a b = false := h
      have h2 : (!(lt8 a b || a == b)) = true := h2
      rw [h] at h2
      simp only [Bool.false_or, Bool.not_eq_true', beq_eq_false_iff_ne] at h2
      exact ⟨rfl, congrArg (D.int .i64) (by simp [cmp8, h, h2])⟩
    · conv => whnf
      have h : lt8 a b = false := h
      have h2 : (!(lt8 a b || a == b)) = false := h2
      rw [h] at h2
      simp only [Bool.false_or, Bool.not_eq_false', beq_iff_eq] at h2
      subst h2
      exact ⟨rfl, congrArg (D.int .i64) (by simp [cmp8, h])⟩
theorem call31 (a b : S8) : CallsTo Tryd.prog 31 [.str a, .str b] (.int .i64 (cmp8 a b)) := calls Tryd.func31 rfl (by decide) (run31 a b)
/-- A byte, in small. -/
def lowB (b : UInt8) : UInt8 := if 65 ≤ b ∧ b ≤ 90 then b + 32 else b
def low (s : S8) : S8 := s.map lowB
theorem lowB_int (b : UInt8) : (lowB b).toNat = if 65 ≤ b.toNat ∧ b.toNat ≤ 90 then b.toNat + 32 else b.toNat := by
  unfold lowB
  have h1 : (65 ≤ b ∧ b ≤ 90) ↔ (65 ≤ b.toNat ∧ b.toNat ≤ 90) := by simp [UInt8.le_iff_toNat_le]
  by_cases h : 65 ≤ b ∧ b ≤ 90
  · rw [if_pos h, if_pos (h1.1 h), UInt8.toNat_add]
    have := h1.1 h
    simp; omega
  · rw [if_neg h, if_neg (fun x => h (h1.2 x))]
theorem wrap_u8 {n : Int} (h0 : 0 ≤ n) (h : n < 256) : IntKind.u8.wrap n = n := by
  have : IntKind.u8.wrap n = n % 256 := by simp [IntKind.wrap, IntKind.bits, IntKind.signed]
  rw [this]; omega
abbrev Tby : Ty := Tm [] [5]
def byD (b : UInt8) : D := .int .u8 b.toNat
theorem getD_enc {α : Type} {enc : α → D} {l : List α} {k : Nat} {x : α} (h : l[k]? = some x) : (l.map enc).getD k D.undef = enc x := by
  simp [List.getD, h]
theorem set_enc {α : Type} {enc : α → D} {l : List α} {k : Nat} {x : α} {d : D} (h : d = enc x) : (l.map enc).set k d = (l.set k x).map enc := by
  rw [h, List.map_set]
theorem blt_of {a b : Nat} (h : a < b) : Nat.blt a b = true := by simpa using h
theorem ble_of {a b : Nat} (h : a ≤ b) : Nat.ble a b = true := Nat.ble_eq_true_of_le h
theorem zero_toNat (i : Nat) : 0 + Int.toNat (i : Int) = i := by omega
def lowSt (s : S8) (i : Nat) : S8 := (s.take i).map lowB ++ s.drop i
theorem lowSt_length {s : S8} {i : Nat} (h : i ≤ s.length) : (lowSt s i).length = s.length := by
  simp [lowSt]; omega
theorem lowSt_get {s : S8} {i : Nat} (h : i < s.length) : (lowSt s i)[i]? = some s[i] := by
  rw [lowSt, List.getElem?_append_right (by simp; omega)]
  simp [Nat.min_eq_left (Nat.le_of_lt h)]
theorem lowSt_set {s : S8} {i : Nat} (h : i < s.length) : (lowSt s i).set i (lowB s[i]) = lowSt s (i + 1) := by
  rw [lowSt, List.set_append_right _ _ (by simp; omega)]
  simp only [List.length_map, List.length_take, Nat.min_eq_left (Nat.le_of_lt h), Nat.sub_self]
  rw [List.drop_eq_getElem_cons h, List.set_cons_zero, lowSt, List.take_succ_eq_append_getElem h, List.map_append, List.append_assoc]
  rfl
theorem lowSt_end {s : S8} : lowSt s s.length = low s := by simp [lowSt, low]
theorem u8s_by : ∀ (l : S8), u8s (l.map byD) = some l
  | [] => rfl
  | b :: l => by simp [u8s, byD, u8s_by l]
end Go.Proofs.YtbfgendaafediaaDoor.Fw

/- Sorting of rows by insertion. -/
namespace Go.Proofs.YtbfgendaafediaaDoor.Fw
open Go Go.RowKit
set_option maxRecDepth 100000
set_option maxHeartbeats 4000000

section
variable {α : Type} (lt : α → α → Bool)
/-- An element goes down as long as it is ahead of the one below it. -/
def sift : Nat → List α → List α
  | 0, L => L
  | j + 1, L => match L[j + 1]?, L[j]? with
    | some a, some b => bif lt a b then sift j ((L.set (j + 1) b).set j a) else L
    | _, _ => L
def sortTo (L : List α) : Nat → List α
  | 0 => L
  | i + 1 => sift lt i (sortTo L i)
theorem sift_length : ∀ (j : Nat) (L : List α), (sift lt j L).length = L.length
  | 0, L => rfl
  | j + 1, L => by
    unfold sift
    split
    · rename_i a b _ _
      cases lt a b
      · rfl
      · rw [cond_true, sift_length j]; simp
    · rfl
theorem sortTo_length (L : List α) : ∀ i, (sortTo lt L i).length = L.length
  | 0 => rfl
  | i + 1 => by rw [sortTo, sift_length, sortTo_length L i]
def isort (L : List α) : List α := sortTo lt L L.length
end

abbrev hS : List (Nat × Nat) := [(1000000, rowMark)]
def hR (u es : Nat) (xs : List D) : List (Nat × RowC) := [(1000000, ⟨u, es, xs, false⟩)]
end Go.Proofs.YtbfgendaafediaaDoor.Fw

/- Copies of rows, the sorter's front. -/
namespace Go.Proofs.YtbfgendaafediaaDoor.Fw
open Go Go.RowKit
set_option maxRecDepth 100000
set_option maxHeartbeats 4000000

def Ctx.no (c : Ctx) (k : Nat) : Ctx := { c with σ := fun s => if s = k then none else c.σ s }
theorem memOut_new {c c' : Ctx} {w w' : World} (M : MemOut c c' [] [] [] [] [] [] w w') {k q : Nat} {rw' : List (Nat × RowC)} (hk : k < bigS) (hrow : ∀ st r, look st rw' = some r → RowOK (c'.no k) (memEnv [] [(k, q)] rw') w' st r) : MemOut c (c'.no k) [] [] [] [(k, q)] [] rw' w w' := by
  have hus : ∀ st, (look st [(k, q)]).isSome = true → st = k := fun st h => by
    rw [look_cons] at h
    split at h
    · rename_i e; exact e.symm
    · cases h
  have hσ : ∀ st, (look st [(k, q)]).isSome = true → (c'.no k).σ st = none := fun st h => by rw [hus st h]; simp [Ctx.no]
  exact ⟨⟨fun s b h => (by cases h), fun s s' h => (by cases h), fun s h => (by cases h), fun st st' g h1 h2 h3 => (by rw [hσ st h1] at h3; cases h3), fun st g h1 h3 => (by rw [hσ st h1] at h3; cases h3), M.mem.im, hrow⟩,
    M.keeps, M.os, M.tape, M.output, M.size, M.block, M.imNew, fun s h => (by cases h), fun st g h1 h3 => (by rw [hσ st h1] at h3; cases h3), fun st hb h1 => (by have := hus st h1; omega)⟩
section
variable {P : Program} {f : Nat} {ds : List D} {k u es es0 : Nat}
/-- Nothing, as a row that is changed in place. -/
theorem callsR_row0 (hk2 : 2 ≤ k) (hk : k < bigS) (hes : es ≠ 0) (h : CallsR P f [] [] [] ds (.sl 1 es0 []) [] [] []) : CallsR P f [] [] [] ds (.rsl k es 0 0) [] [(k, rowMark)] [(k, ⟨u, es, [], false⟩)] := by
  refine ⟨h.1, fun c w vs hm hrep => Calls.mono (h.2 c w vs hm hrep) fun e w' he => ?_⟩
  obtain ⟨v, c', e1, M, e2⟩ := he
  have hr : RepC c' (memEnv [] [] []) w' (.sl 1 es0 []) v := e2
  have h1 := repC_one hr
  obtain ⟨_, h2⟩ := hr
  obtain ⟨b, hv⟩ : ∃ b, v = .slice b 0 0 := by
    rcases h2 with h2 | h2 | h2
    · cases h2
    · exact h2.2
    · exact absurd h2.1 (by omega)
  refine ⟨v, c'.no k, e1, memOut_new M hk fun st r hl => ?_, ?_⟩
  · rw [look_cons] at hl
    split at hl
    · rename_i e; subst e; cases hl
      exact ⟨hk2, by simp [memEnv, look_cons], .inr ⟨Nat.pos_of_ne_zero hes, by simp [Ctx.no]⟩⟩
    · cases hl
  · show RepC (c'.no k) (memEnv [] [(k, rowMark)] [(k, ⟨u, es, [], false⟩)]) w' (.rsl k es 0 0) v
    refine ⟨by simp [memEnv, look_cons], h1, .inr ?_⟩
    simp only [Ctx.no, if_true]
    exact ⟨trivial, trivial, b, hv⟩
/-- Nothing, as a row that may be appended to. -/
theorem callsR_own0 (hk2 : 2 ≤ k) (hk : k < bigS) (hu : u ≠ rowMark) (h : CallsR P f [] [] [] ds (.sl 1 es0 []) [] [] []) : CallsR P f [] [] [] ds (.sl k es []) [] [(k, u)] [] := by
  refine ⟨h.1, fun c w vs hm hrep => Calls.mono (h.2 c w vs hm hrep) fun e w' he => ?_⟩
  obtain ⟨v, c', e1, M, e2⟩ := he
  have hr : RepC c' (memEnv [] [] []) w' (.sl 1 es0 []) v := e2
  have h1 := repC_one hr
  obtain ⟨h0, h2⟩ := hr
  obtain ⟨b, hv⟩ : ∃ b, v = .slice b 0 0 := by
    rcases h2 with h2 | h2 | h2
    · cases h2
    · exact h2.2
    · exact absurd h2.1 (by omega)
  refine ⟨v, c'.no k, e1, memOut_new M hk fun st r hl => (by cases hl), ?_⟩
  · show RepC (c'.no k) (memEnv [] [(k, u)] []) w' (.sl k es []) v
    refine ⟨⟨rfl, ?_⟩, .inr (.inr ⟨hk2, u, by simp [memEnv, look_cons], hu, .inr ?_⟩)⟩
    · rcases h0.2 with ⟨h3, h4⟩ | ⟨a, cap, h3, h4, h5⟩
      · exact .inl ⟨h3, h4⟩
      · exact .inr ⟨a, cap, h3, h4, by simp only [RepRow]⟩
    · simp only [Ctx.no, if_true]
      exact ⟨b, hv⟩
end

theorem callsR_imp {P : Program} {f : Nat} {bx us rw ds us'} {Q : D → List (Nat × BoxC) → List (Nat × RowC) → Prop} {d bx' rw'} (h : ∃ d bx' rw', Q d bx' rw' ∧ CallsR P f bx us rw ds d bx' us' rw') (e : ∀ a b c, Q a b c → a = d ∧ b = bx' ∧ c = rw') : CallsR P f bx us rw ds d bx' us' rw' := by
  obtain ⟨a, b, c, h1, h2⟩ := h
  obtain ⟨rfl, rfl, rfl⟩ := e a b c h1
  exact h2

abbrev Ts := Tm [] [9]
abbrev hN (es u n : Nat) (xs : List D) : D × List (Nat × RowC) := (.rsl 17 es 0 n, [(17, ⟨u, es, xs, false⟩)])
theorem run28a (x : S8) (l : List S8) (hl : l.length ≤ 1000000) : RunsR Tryd.prog Ts 8 (Tryd.f28.body.getD .skip) Tryd.f28.results.toList ([]) ([]) ([]) [.sl 0 1 ((x :: l).map D.str)] (fun d bx rw => d = .rsl 17 1 0 (l.length + 1) ∧ bx = [] ∧ rw = [(17, ⟨9, 1, (x :: l).map D.str, false⟩)]) ([(17, rowMark)]) := by
  refine ⟨Nat.le_of_ble_eq_true rfl, rfl, ?_⟩
  conv => whnf
  refine sideB_intro (fun _ => ?_) ?_
  · simp [appendSide]; omega
  conv => whnf
  exact ⟨rfl, congrArg (D.rsl 17 1 0) (by simp), rfl, rfl⟩
theorem run28b  : RunsR Tryd.prog Ts 8 (Tryd.f28.body.getD .skip) Tryd.f28.results.toList ([]) ([]) ([]) [.sle] (fun d bx rw => d = .rsl 17 1 0 0 ∧ bx = [] ∧ rw = [(17, ⟨9, 1, [], false⟩)]) ([(17, rowMark)]) := by
  refine ⟨Nat.le_of_ble_eq_true rfl, rfl, ?_⟩
  conv => whnf
  exact ⟨rfl, rfl, rfl, rfl⟩
theorem run28c  : RunsR Tryd.prog Ts 8 (Tryd.f28.body.getD .skip) Tryd.f28.results.toList ([]) ([]) ([]) [.nils] (fun d bx rw => d = .sl 1 0 [] ∧ bx = [] ∧ rw = []) ([]) := by
  refine ⟨Nat.le_of_ble_eq_true rfl, rfl, ?_⟩
  conv => whnf
  exact ⟨rfl, rfl, rfl, rfl⟩
theorem run28d (x : S8) (l : List S8) (hl : l.length ≤ 1000000) : RunsM Tryd.prog T 8 (Tryd.f28.body.getD .skip) Tryd.f28.results.toList [] [] [.sl 0 1 ((x :: l).map D.str)] (fun d bx => d = .sl 17 1 ((x :: l).map D.str) ∧ bx = []) [(17, 9)] := by
  refine ⟨Nat.le_of_ble_eq_true rfl, rfl, ?_⟩
  conv => whnf
  refine sideB_intro (fun _ => ?_) ?_
  · simp; omega
  conv => whnf
  exact ⟨rfl, rfl, rfl⟩
theorem run28e  : RunsM Tryd.prog T 8 (Tryd.f28.body.getD .skip) Tryd.f28.results.toList [] [] [.sle] (fun d bx => d = .sl 17 1 [] ∧ bx = []) [(17, 9)] := by
  refine ⟨Nat.le_of_ble_eq_true rfl, rfl, ?_⟩
  conv => whnf
  exact ⟨rfl, rfl, rfl⟩
/-- A copy, as a row that is changed in place. -/
theorem call28 (l : List S8) (hl : l.length ≤ 1000000) : CallsR Tryd.prog 28 [] [] [] [.sl 0 1 (l.map D.str)] (.rsl 17 1 0 l.length) [] [(17, rowMark)] [(17, ⟨9, 1, l.map D.str, false⟩)] := by
  cases l with
  | cons x l => exact callsR_imp (callsR Tryd.func28 rfl (by decide) (run28a x l (by simp at hl; omega))) fun a b c h => h
  | nil => exact callsR_nil (callsR_row0 (by decide) (by decide) (by decide) (callsR_imp (callsR Tryd.func28 rfl (by decide) run28c) fun a b c h => h)) (callsR_imp (callsR Tryd.func28 rfl (by decide) run28b) fun a b c h => h)
/-- A copy, as a row that may be appended to. -/
theorem call28m (l : List S8) (hl : l.length ≤ 1000000) : CallsM Tryd.prog 28 [] [] [.sl 0 1 (l.map D.str)] (.sl 17 1 (l.map D.str)) [] [(17, 9)] := by
  cases l with
  | cons x l =>
    obtain ⟨d, bx', ⟨rfl, rfl⟩, h⟩ := callsM Tryd.func28 rfl (by decide) (run28d x l (by simp at hl; omega))
    exact h
  | nil =>
    refine callsR_nil (callsR_own0 (es0 := 0) (by decide) (by decide) (by decide) (callsR_imp (callsR Tryd.func28 rfl (by decide) run28c) fun a b c h => h)) ?_
    obtain ⟨d, bx', ⟨rfl, rfl⟩, h⟩ := callsM Tryd.func28 rfl (by decide) run28e
    exact h
end Go.Proofs.YtbfgendaafediaaDoor.Fw

/- What the table laws ask of their arguments. -/
namespace Go.Proofs.YtbfgendaafediaaDoor.Fw
open Go Go.RowKit
set_option maxRecDepth 100000
set_option maxHeartbeats 4000000

def cut9 (s : S8) : S8 := s.take 9
def fewS (l : List S8) (n : Nat) : List S8 := (l.take n).map cut9
theorem run25 (l : List S8) (n : Nat) (hl : l.length ≤ maxLen) (hn : n ≤ 100) : Runs Tryd.prog T 33 (Tryd.f25.body.getD .skip) Tryd.f25.results.toList [.sl 0 1 (l.map D.str), .int .i64 n] (.sl 0 1 ((fewS l n).map D.str)) := by
  refine ⟨Nat.le_of_ble_eq_true rfl, ?_⟩
  conv => whnf
  refine ⟨[.nilT 5 9 1], ?_⟩
  conv => whnf
  refine loop_at (σ := Nat) (fun i env => (env.setT 6 (.int .i64 (i : Int))).setT 5 (.sl 2 1 ((fewS l i).map D.str))) (fun i => n - i) (fun i => i ≤ n ∧ i ≤ l.length) 0 ⟨Nat.zero_le _, Nat.zero_le _⟩ rfl ?_
  rintro i ⟨hi, hil⟩ ih
  conv => whnf
  refine ifB_intro (fun h => ?_) (fun h => ?_)
  · have h : (bif decide ((i : Int) < ((l.map D.str).length : Int)) then decide ((i : Int) < (n : Int)) else false) = true := h
    have hh : i < l.length ∧ i < n := by
      rw [List.length_map] at h
      simp at h; omega
    obtain ⟨hlt, hn2⟩ := hh
    obtain ⟨x, hx⟩ : ∃ x, l[i]? = some x := ⟨_, List.getElem?_eq_getElem hlt⟩
    have hw : IntKind.i64.wrap ((i : Int) + 1) = ((i + 1 : Nat) : Int) := by rw [IntKind.wrap_i64]; omega
    have ih' := ih (i + 1) ⟨hn2, hlt⟩ (by omega)
    rw [fewS, List.take_add_one, hx, Option.toList_some, List.map_append, List.map_append] at ih'
    conv => whnf
    refine sideB_intro (fun _ => decide_eq_true (by simp only [List.length_map]; omega)) ?_
    rw [getD_enc (enc := D.str) (x := x) (show l[(i : Int).toNat]? = some x from hx)]
    conv => whnf
    refine ifB_intro (fun h9 => ?_) (fun h9 => ?_)
    · have h9 : (9 : Int) < (x.length : Int) := of_decide_eq_true h9
      have hc : sliceD x (Int.toNat ((0 : Nat) : Int)) (Int.toNat 9) = cut9 x := by simp [sliceD, cut9]
      conv => whnf
      refine sideB_intro (fun _ => decide_eq_true ?_) ?_
      · exact ⟨by decide, by decide, by omega⟩
      conv => whnf
      refine sideB_intro (fun _ => ?_) ?_
      · simp [fewS]; omega
      conv => whnf
      rw [hw]
      have e : ((l.take i).map cut9).map D.str ++ [D.str (cut9 x)] = ((fewS l i).map D.str) ++ [D.str (sliceD x (Int.toNat ((0 : Nat) : Int)) (Int.toNat 9))] := by rw [hc]; rfl
      rw [show List.map D.str (List.map cut9 [x]) = [D.str (cut9 x)] from rfl, e] at ih'
      exact ih'
    · have h9 : ¬ ((9 : Int) < (x.length : Int)) := of_decide_eq_false h9
      have hc : cut9 x = x := List.take_of_length_le (by omega)
      conv => whnf
      refine sideB_intro (fun _ => ?_) ?_
      · simp [fewS]; omega
      conv => whnf
      rw [hw]
      rw [show List.map D.str (List.map cut9 [x]) = [D.str (cut9 x)] from rfl, hc] at ih'
      exact ih'
  · have h : (bif decide ((i : Int) < ((l.map D.str).length : Int)) then decide ((i : Int) < (n : Int)) else false) = false := h
    have hh : i = l.length ∨ i = n := by
      rw [List.length_map] at h
      simp at h; omega
    have hf : fewS l i = fewS l n := by
      rcases hh with e | e
      · rw [fewS, fewS, List.take_of_length_le (by omega), List.take_of_length_le (by omega)]
      · rw [e]
    conv => whnf
    rw [hf]
    exact ⟨rfl, rfl⟩
theorem call25 (l : List S8) (n : Nat) (hl : l.length ≤ maxLen) (hn : n ≤ 100) : CallsTo Tryd.prog 25 [.sl 0 1 (l.map D.str), .int .i64 n] (.sl 0 1 ((fewS l n).map D.str)) := calls Tryd.func25 rfl (by decide) (run25 l n hl hn)
theorem fewS_len (l : List S8) (n : Nat) : (fewS l n).length ≤ n := by
  unfold fewS; rw [List.length_map, List.length_take]; omega
theorem fewS_mem {l : List S8} {n : Nat} {s : S8} (h : s ∈ fewS l n) : s.length ≤ 9 := by
  unfold fewS at h
  obtain ⟨x, _, rfl⟩ := List.mem_map.1 h
  unfold cut9; rw [List.length_take]; omega
/-- A number's rest, from 0 on. -/
def restN (x : Int) (n : Nat) : Nat := (Int.tmod (Int.tmod x n + n) n).toNat
theorem restN_eq (x : Int) {n : Nat} (h : 0 < n) : Int.tmod (Int.tmod x n + n) n = (restN x n : Int) ∧ restN x n < n ∧ Int.tmod x n + n < 2 * n ∧ 0 < Int.tmod x n + n := by
  have h1 : Int.tmod x n < n := Int.tmod_lt_of_pos x (by omega)
  have h2 : -(n : Int) < Int.tmod x n := by
    rcases Int.lt_or_le x 0 with hx | hx
    · have e : Int.tmod x n = -(Int.tmod (-x) n) := by rw [Int.neg_tmod]; omega
      have := Int.tmod_lt_of_pos (-x) (show (0 : Int) < n by omega)
      omega
    · have := Int.tmod_nonneg (n : Int) hx
      omega
  have h3 : 0 ≤ Int.tmod (Int.tmod x n + n) n := Int.tmod_nonneg _ (by omega)
  have h4 : Int.tmod (Int.tmod x n + n) n < n := Int.tmod_lt_of_pos _ (by omega)
  unfold restN
  refine ⟨(Int.toNat_of_nonneg h3).symm, by omega, by omega, by omega⟩
theorem run9 (x : Int) (n : Nat) (h : 0 < n) (hn : n ≤ 1000000) : Runs Tryd.prog T 12 (Tryd.f9.body.getD .skip) Tryd.f9.results.toList [.int .i64 x, .int .i64 n] (.int .i64 (restN x n)) := by
  refine ⟨Nat.le_of_ble_eq_true rfl, ?_⟩
  conv => whnf
  obtain ⟨e, h1, h2, h3⟩ := restN_eq x h
  refine sideB_intro (fun _ => decide_eq_true (by omega)) ?_
  conv => whnf
  have hw : IntKind.i64.wrap (Int.tmod x n + n) = Int.tmod x n + n := by rw [IntKind.wrap_i64]; omega
  rw [hw]
  refine sideB_intro (fun _ => decide_eq_true (by omega)) ?_
  conv => whnf
  rw [e]
  exact ⟨rfl, rfl⟩
theorem call9 (x : Int) (n : Nat) (h : 0 < n) (hn : n ≤ 1000000) : CallsTo Tryd.prog 9 [.int .i64 x, .int .i64 n] (.int .i64 (restN x n)) := calls Tryd.func9 rfl (by decide) (run9 x n h hn)
end Go.Proofs.YtbfgendaafediaaDoor.Fw

/- Rows: texts filled up, or cut. -/
namespace Go.Proofs.YtbfgendaafediaaDoor.Fw
open Go Go.RowKit
set_option maxRecDepth 100000
set_option maxHeartbeats 4000000
def Z9 : S8 := [48, 48, 48, 48, 48, 48, 48, 48, 48]
/-- Is a number's i-th bit none? -/
def bitZ (b : Int) (i : Nat) : Bool :=
  IntKind.i64.wrap (BitVec.ofInt IntKind.i64.bits (b.fdiv (2 ^ min (IntKind.u64.wrap (i : Int)).toNat IntKind.i64.bits)) &&& BitVec.ofInt IntKind.i64.bits 1).toNat == 0
theorem bitZ0 (i : Nat) : bitZ 0 i = true := by
  unfold bitZ
  rw [Int.zero_fdiv]
  rfl
def padR (w : Nat) (b : Int) (i : Nat) (x : S8) : S8 := bif bitZ b i then (x ++ Z9).take w else x
def rowsG (w : Nat) (b : Int) : Nat → List S8 → List S8
  | _, [] => []
  | i, x :: F => padR w b i x :: rowsG w b (i + 1) F
def rowsL (w : Nat) (b : Int) (l : List S8) : List S8 := rowsG w b 0 (fewS l 12)
theorem rowsG_len (w : Nat) (b : Int) : ∀ (i : Nat) (F : List S8), (rowsG w b i F).length = F.length
  | _, [] => rfl
  | i, x :: F => by rw [rowsG, List.length_cons, List.length_cons, rowsG_len w b (i + 1) F]
theorem rowsG_mem {w : Nat} {b : Int} : ∀ {i : Nat} {F : List S8} {y : S8}, y ∈ rowsG w b i F → ∃ j x, x ∈ F ∧ y = padR w b j x
  | _, [], y, h => by cases h
  | i, x :: F, y, h => by
    rcases List.mem_cons.1 h with rfl | h
    · exact ⟨i, x, List.mem_cons_self .., rfl⟩
    · obtain ⟨j, x', h1, h2⟩ := rowsG_mem h
      exact ⟨j, x', List.mem_cons_of_mem _ h1, h2⟩
theorem rowsL_le (w : Nat) (b : Int) (l : List S8) : (rowsL w b l).length ≤ 12 := by
  unfold rowsL; rw [rowsG_len]; exact fewS_len l 12
theorem rowsL0_len {w : Nat} (hw : w ≤ 9) {l : List S8} {y : S8} (h : y ∈ rowsL w 0 l) : y.length = w := by
  obtain ⟨j, x, hx, rfl⟩ := rowsG_mem h
  unfold padR
  rw [bitZ0, cond_true, List.length_take, List.length_append]
  have : Z9.length = 9 := rfl
  omega
theorem rowsL_len {w : Nat} {b : Int} (hw : w ≤ 9) {l : List S8} {y : S8} (h : y ∈ rowsL w b l) : y.length ≤ 9 := by
  obtain ⟨j, x, hx, rfl⟩ := rowsG_mem h
  unfold padR
  have := fewS_mem hx
  cases bitZ b j
  · exact this
  · rw [cond_true, List.length_take]; omega
theorem run11 (l : List S8) (w : Nat) (b : Int) (hl : l.length ≤ maxLen) (hw : w ≤ 9) : Runs Tryd.prog T 43 (Tryd.f11.body.getD .skip) Tryd.f11.results.toList [.sl 0 1 (l.map D.str), .int .i64 w, .int .i64 b] (.sl 0 1 ((rowsL w b l).map D.str)) := by
  refine ⟨Nat.le_of_ble_eq_true rfl, ?_⟩
  conv => whnf
  refine ⟨_, fun _ => call25 l 12 hl (by decide), ?_⟩
  conv => whnf
  unfold rowsL
  have hF := fewS_len l 12
  have hF9 : ∀ x ∈ fewS l 12, x.length ≤ 9 := fun x h => fewS_mem h
  generalize fewS l 12 = F at hF hF9
  refine ⟨[.nilT 7 9 1], ?_⟩
  conv => whnf
  refine loop_at (σ := Nat × List S8) (fun q env => (env.setT 9 (.int .i64 (q.1 : Int))).setT 7 (.sl 2 1 (q.2.map D.str))) (fun q => F.length - q.1) (fun q => q.1 ≤ F.length ∧ q.2.length = q.1 ∧ q.2 ++ rowsG w b q.1 (F.drop q.1) = rowsG w b 0 F) (0, []) ⟨Nat.zero_le _, rfl, rfl⟩ rfl ?_
  rintro ⟨i, R⟩ ⟨hi, hR, hE⟩ ih
  replace hi : i ≤ F.length := hi
  replace hR : R.length = i := hR
  replace hE : R ++ rowsG w b i (F.drop i) = rowsG w b 0 F := hE
  conv => whnf
  refine ifB_intro (fun h => ?_) (fun h => ?_)
  · have h : (i : Int) < ((F.map D.str).length : Int) := of_decide_eq_true h
    rw [List.length_map] at h
    obtain ⟨x, hx⟩ : ∃ x, F[i]? = some x := ⟨_, List.getElem?_eq_getElem (by omega)⟩
    have hwr : IntKind.i64.wrap ((i : Int) + 1) = ((i + 1 : Nat) : Int) := by rw [IntKind.wrap_i64]; omega
    have hd : F.drop i = x :: F.drop (i + 1) := by
      obtain ⟨h1, h2⟩ := List.getElem?_eq_some_iff.1 hx
      rw [← h2]; exact List.drop_eq_getElem_cons h1
    rw [hd, rowsG] at hE
    have hx9 := hF9 x (List.mem_of_getElem? hx)
    have ih' := ih (i + 1, R ++ [padR w b i x]) ⟨by dsimp only; omega, by simp [hR], by simpa using hE⟩ (by dsimp only; omega)
    conv => whnf
    refine sideB_intro (fun _ => decide_eq_true (by simp only [List.length_map]; omega)) ?_
    rw [getD_enc (enc := D.str) (x := x) (show F[((i, R).fst : Int).toNat]? = some x from hx)]
    conv => whnf
    change (match (bif bitZ b i then decide (0 ≤ (w : Int)) else false) with | true => _ | false => _)
    rw [show decide (0 ≤ (w : Int)) = true from decide_eq_true (by omega)]
    unfold padR at ih'
    cases hb : bitZ b i with
    | true =>
      rw [hb, cond_true] at ih'
      conv => whnf
      have hz : (x ++ Z9).length = x.length + 9 := by rw [List.length_append]; rfl
      refine sideB_intro (fun _ => decide_eq_true (by show x.length + 9 ≤ _; omega)) ?_
      conv => whnf
      have hm : (if (9 : Int) < (w : Int) then (9 : Int) else (w : Int)) = (w : Int) := if_neg (by omega)
      rw [hm]
      have hz2 : (x ++ ({ data := #[48, 48, 48, 48, 48, 48, 48, 48, 48] } : ByteArray).data.toList) = x ++ Z9 := rfl
      rw [hz2]
      refine sideB_intro (fun _ => decide_eq_true ⟨by omega, by omega, by omega⟩) ?_
      conv => whnf
      have e : sliceD (x ++ Z9) (Int.toNat ((0 : Nat) : Int)) (Int.toNat (w : Int)) = (x ++ Z9).take w := by simp [sliceD]
      rw [e]
      refine sideB_intro (fun _ => ?_) ?_
      · simp; omega
      conv => whnf
      rw [hwr]
      rw [List.map_append] at ih'
      exact ih'
    | false =>
      rw [hb, cond_false] at ih'
      conv => whnf
      refine sideB_intro (fun _ => ?_) ?_
      · simp; omega
      conv => whnf
      rw [hwr]
      rw [List.map_append] at ih'
      exact ih'
  · have h : ¬ ((i : Int) < ((F.map D.str).length : Int)) := of_decide_eq_false h
    rw [List.length_map] at h
    rw [List.drop_of_length_le (by omega), rowsG, List.append_nil] at hE
    rw [← hE]
    conv => whnf
    exact ⟨rfl, rfl⟩
theorem call11 (l : List S8) (w : Nat) (b : Int) (hl : l.length ≤ maxLen) (hw : w ≤ 9) : CallsTo Tryd.prog 11 [.sl 0 1 (l.map D.str), .int .i64 w, .int .i64 b] (.sl 0 1 ((rowsL w b l).map D.str)) := calls Tryd.func11 rfl (by decide) (run11 l w b hl hw)
end Go.Proofs.YtbfgendaafediaaDoor.Fw

/- The sorter's front: rows of at most 12. -/
namespace Go.Proofs.YtbfgendaafediaaDoor.Fw
open Go Go.RowKit
set_option maxRecDepth 100000
set_option maxHeartbeats 4000000

theorem run66 (n : Nat) (hn : n ≤ 12) : RunsQ Tryd.prog T 25 (Tryd.f66.body.getD .skip) Tryd.f66.results.toList [.int .u64 n] (fun d => ∃ m, d = .int .i64 m) := by
  refine ⟨Nat.le_of_ble_eq_true rfl, ?_⟩
  conv => whnf
  refine ifB_intro (fun h => ?_) (fun h => ?_)
  · have := of_decide_eq_true h; omega
  conv => whnf
  refine ifB_intro (fun h => ?_) (fun h => ?_)
  · have := of_decide_eq_true h; omega
  conv => whnf
  refine ifB_intro (fun h => ?_) (fun h => ?_)
  · have := of_decide_eq_true h; omega
  conv => whnf
  have hw : IntKind.u8.wrap (n : Int) = n := by
    rcases (show n = 0 ∨ n = 1 ∨ n = 2 ∨ n = 3 ∨ n = 4 ∨ n = 5 ∨ n = 6 ∨ n = 7 ∨ n = 8 ∨ n = 9 ∨ n = 10 ∨ n = 11 ∨ n = 12 from by omega) with rfl | rfl | rfl | rfl | rfl | rfl | rfl | rfl | rfl | rfl | rfl | rfl | rfl <;> rfl
  refine sideB_intro (fun _ => decide_eq_true ?_) ?_
  · rw [hw]
    exact ⟨by omega, by show (n : Int) < 256; omega⟩
  conv => whnf
  exact ⟨rfl, _, rfl⟩
theorem call66 (n : Nat) (hn : n ≤ 12) : ∃ d, (fun d => ∃ m, d = .int .i64 m) d ∧ CallsTo Tryd.prog 66 [.int .u64 n] d := by
  obtain ⟨d, h, k⟩ := runsQ_one (run66 n hn)
  exact ⟨d, h, calls Tryd.func66 rfl (by decide) k⟩
theorem run43 (n : Nat) (hn : n ≤ 12) : RunsQ Tryd.prog T 8 (Tryd.f43.body.getD .skip) Tryd.f43.results.toList [.int .u64 n] (fun d => ∃ m, d = .int .i64 m) := by
  refine ⟨Nat.le_of_ble_eq_true rfl, ?_⟩
  conv => whnf
  obtain ⟨d, ⟨m, rfl⟩, hc⟩ := call66 n hn
  refine ⟨_, fun _ => hc, ?_⟩
  conv => whnf
  exact ⟨rfl, _, rfl⟩
theorem call43 (n : Nat) (hn : n ≤ 12) : ∃ d, (fun d => ∃ m, d = .int .i64 m) d ∧ CallsTo Tryd.prog 43 [.int .u64 n] d := by
  obtain ⟨d, h, k⟩ := runsQ_one (run43 n hn)
  exact ⟨d, h, calls Tryd.func43 rfl (by decide) k⟩
theorem len12 (n : Nat) (hn : n ≤ 12) : ∃ m, CallsTo Tryd.prog 43 [.int .u64 (IntKind.u64.wrap (n : Int))] (.int .i64 m) := by
  have hw : IntKind.u64.wrap (n : Int) = n := by
    rcases (show n = 0 ∨ n = 1 ∨ n = 2 ∨ n = 3 ∨ n = 4 ∨ n = 5 ∨ n = 6 ∨ n = 7 ∨ n = 8 ∨ n = 9 ∨ n = 10 ∨ n = 11 ∨ n = 12 from by omega) with rfl | rfl | rfl | rfl | rfl | rfl | rfl | rfl | rfl | rfl | rfl | rfl | rfl <;> rfl
  obtain ⟨d, ⟨m, rfl⟩, hc⟩ := call43 n hn
  exact ⟨m, by rw [hw]; exact hc⟩
end Go.Proofs.YtbfgendaafediaaDoor.Fw

/- Sorting of keys by insertion, and the sorter's front for them. -/
namespace Go.Proofs.YtbfgendaafediaaDoor.Fw
open Go Go.RowKit
set_option maxRecDepth 100000
set_option maxHeartbeats 4000000

theorem cmp_lt (a b : S8) : decide (cmp8 a b < 0) = lt8 a b := by
  unfold cmp8
  cases h : lt8 a b with
  | true => simp
  | false =>
    by_cases e : a = b
    · simp [e]
    · simp [e]
end Go.Proofs.YtbfgendaafediaaDoor.Fw

/- Tables: rows by number. -/
namespace Go.Proofs.YtbfgendaafediaaDoor.Fw
open Go Go.RowKit
set_option maxRecDepth 100000
set_option maxHeartbeats 4000000

/-- A table: how long rows are, and their keys; all rows. -/
structure Tab where
  w : Nat
  k : Nat
  bs : S8
def Tab.a (t : Tab) : D := .agg [.int .i64 t.w, .int .i64 t.k, .str t.bs]
abbrev Tab.d (t : Tab) : D := .eptr (.agg [.int .i64 t.w, .int .i64 t.k, .str t.bs]) 0
structure Tab.ok (t : Tab) : Prop where
  k0 : 0 < t.k
  kw : t.k ≤ t.w
  w1 : t.w ≤ 255
  len : t.bs.length ≤ 1000000
def Tab.n (t : Tab) : Nat := t.bs.length / t.w
def Tab.row (t : Tab) (i : Nat) : S8 := (t.bs.drop (i * t.w)).take t.w
def Tab.key (t : Tab) (i : Nat) : S8 := (t.row i).take t.k
theorem Tab.n_mul (t : Tab) : t.n * t.w ≤ t.bs.length := Nat.div_mul_le_self _ _
theorem Tab.row_in {t : Tab} {i : Nat} (h : i < t.n) : i * t.w + t.w ≤ t.bs.length := by
  have h1 := t.n_mul
  have h2 : (i + 1) * t.w ≤ t.n * t.w := Nat.mul_le_mul_right _ h
  rw [Nat.add_mul, Nat.one_mul] at h2
  omega
theorem Tab.row_len {t : Tab} {i : Nat} (h : i < t.n) : (t.row i).length = t.w := by
  have := Tab.row_in h
  unfold Tab.row
  rw [List.length_take, List.length_drop]; omega
theorem Tab.n_le {t : Tab} (h : t.ok) : t.n ≤ t.bs.length := Nat.div_le_self _ _
theorem run17 (t : Tab) (h : t.ok) : Runs Tryd.prog T 15 (Tryd.f17.body.getD .skip) Tryd.f17.results.toList [t.d] (.int .i64 t.n) := by
  refine ⟨Nat.le_of_ble_eq_true rfl, ?_⟩
  conv => whnf
  have h1 := h.k0
  have h2 := h.kw
  have h3 := h.len
  refine ⟨rfl, ?_⟩
  conv => whnf
  refine sideB_intro (fun _ => decide_eq_true (by omega)) ?_
  conv => whnf
  refine ⟨rfl, congrArg (D.int .i64) ?_⟩
  rw [IntKind.wrap_i64]
  have e : Int.tdiv (t.bs.length : Int) (t.w : Int) = ((t.bs.length / t.w : Nat) : Int) := rfl
  have e2 : t.bs.length / t.w ≤ t.bs.length := Nat.div_le_self _ _
  rw [e]
  unfold Tab.n
  generalize t.bs.length / t.w = q at e2
  omega
theorem call17 (t : Tab) (h : t.ok) : CallsTo Tryd.prog 17 [t.d] (.int .i64 t.n) := calls Tryd.func17 rfl (by decide) (run17 t h)
theorem run17n  : Runs Tryd.prog T 15 (Tryd.f17.body.getD .skip) Tryd.f17.results.toList [.nilp] (.int .i64 0) := by
  refine ⟨Nat.le_of_ble_eq_true rfl, ?_⟩
  conv => whnf
  exact ⟨rfl, rfl⟩
theorem call17n  : CallsTo Tryd.prog 17 [.nilp] (.int .i64 0) := calls Tryd.func17 rfl (by decide) (run17n)
theorem run39 (t : Tab) (i : Nat) (h : t.ok) (hi : i < t.n) : Runs Tryd.prog T 21 (Tryd.f39.body.getD .skip) Tryd.f39.results.toList [t.d, .int .i64 i] (.str (t.row i)) := by
  refine ⟨Nat.le_of_ble_eq_true rfl, ?_⟩
  conv => whnf
  have h1 := h.k0
  have h2 := h.kw
  have h3 := h.len
  have h4 := Tab.row_in hi
  have hm : IntKind.i64.wrap ((i : Int) * (t.w : Int)) = ((i * t.w : Nat) : Int) := by
    rw [IntKind.wrap_i64]
    have : (i : Int) * (t.w : Int) = ((i * t.w : Nat) : Int) := by simp
    rw [this]; omega
  refine ⟨rfl, ?_⟩
  conv => whnf
  rw [hm]
  refine sideB_intro (fun _ => decide_eq_true ?_) ?_
  · omega
  conv => whnf
  rw [show sliceD t.bs (Int.toNat ((i * t.w : Nat) : Int)) (Int.toNat (t.bs.length : Int)) = t.bs.drop (i * t.w) from by rw [sliceD_end, Int.toNat_natCast]]
  refine sideB_intro (fun _ => decide_eq_true ?_) ?_
  · rw [List.length_drop]; omega
  conv => whnf
  have e : sliceD (List.drop (i * t.w) t.bs) (Int.toNat ((0 : Nat) : Int)) (Int.toNat (t.w : Int)) = t.row i := by
    unfold Tab.row; simp [sliceD]
  exact ⟨rfl, congrArg D.str e⟩
theorem call39 (t : Tab) (i : Nat) (h : t.ok) (hi : i < t.n) : CallsTo Tryd.prog 39 [t.d, .int .i64 i] (.str (t.row i)) := calls Tryd.func39 rfl (by decide) (run39 t i h hi)
theorem run19 (t : Tab) : Runs Tryd.prog T 9 (Tryd.f19.body.getD .skip) Tryd.f19.results.toList [t.d] (.str t.bs) := by
  refine ⟨Nat.le_of_ble_eq_true rfl, ?_⟩
  conv => whnf
  exact ⟨rfl, rfl⟩
theorem call19 (t : Tab) : CallsTo Tryd.prog 19 [t.d] (.str t.bs) := calls Tryd.func19 rfl (by decide) (run19 t)
theorem run19n  : Runs Tryd.prog T 9 (Tryd.f19.body.getD .skip) Tryd.f19.results.toList [.nilp] (.str []) := by
  refine ⟨Nat.le_of_ble_eq_true rfl, ?_⟩
  conv => whnf
  exact ⟨rfl, rfl⟩
theorem call19n  : CallsTo Tryd.prog 19 [.nilp] (.str []) := calls Tryd.func19 rfl (by decide) (run19n)
theorem run20n  : Runs Tryd.prog T 17 (Tryd.f20.body.getD .skip) Tryd.f20.results.toList [.nilp, .int .i64 0] (.tup [.str [], .bool false]) := by
  refine ⟨Nat.le_of_ble_eq_true rfl, ?_⟩
  conv => whnf
  refine ⟨_, fun _ => call17n, ?_⟩
  conv => whnf
  exact ⟨rfl, rfl⟩
theorem call20n  : CallsTo Tryd.prog 20 [.nilp, .int .i64 0] (.tup [.str [], .bool false]) := calls Tryd.func20 rfl (by decide) (run20n)
theorem run20 (t : Tab) (i : Nat) (h : t.ok) (hi : i < t.n) : Runs Tryd.prog T 17 (Tryd.f20.body.getD .skip) Tryd.f20.results.toList [t.d, .int .i64 i] (.tup [.str (t.row i), .bool true]) := by
  refine ⟨Nat.le_of_ble_eq_true rfl, ?_⟩
  conv => whnf
  have h3 := h.len
  have h4 := Tab.n_le h
  refine ⟨_, fun _ => call17 t h, ?_⟩
  conv => whnf
  refine ifB_intro (fun hb => ?_) (fun hb => ?_)
  · exfalso
    have hb : decide ((t.n : Int) ≤ (i : Int)) = true := hb
    have := of_decide_eq_true hb
    omega
  · conv => whnf
    refine ⟨_, fun _ => call39 t i h hi, ?_⟩
    conv => whnf
    exact ⟨rfl, rfl⟩
theorem call20 (t : Tab) (i : Nat) (h : t.ok) (hi : i < t.n) : CallsTo Tryd.prog 20 [t.d, .int .i64 i] (.tup [.str (t.row i), .bool true]) := calls Tryd.func20 rfl (by decide) (run20 t i h hi)
theorem run20f (t : Tab) (i : Int) (h : t.ok) (hi : i < 0 ∨ (t.n : Int) ≤ i) : Runs Tryd.prog T 17 (Tryd.f20.body.getD .skip) Tryd.f20.results.toList [t.d, .int .i64 i] (.tup [.str [], .bool false]) := by
  refine ⟨Nat.le_of_ble_eq_true rfl, ?_⟩
  conv => whnf
  have h3 := h.len
  have h4 := Tab.n_le h
  refine ⟨_, fun _ => call17 t h, ?_⟩
  conv => whnf
  refine ifB_intro (fun hb => ?_) (fun hb => ?_)
  · conv => whnf
    exact ⟨rfl, rfl⟩
  · exfalso
    have hb : (bif decide (i < 0) then true else decide ((t.n : Int) ≤ i)) = false := hb
    rcases hi with hi | hi
    · rw [decide_eq_true hi] at hb; cases hb
    · rw [decide_eq_true hi] at hb
      cases hd : decide (i < 0) <;> rw [hd] at hb <;> cases hb
theorem call20f (t : Tab) (i : Int) (h : t.ok) (hi : i < 0 ∨ (t.n : Int) ≤ i) : CallsTo Tryd.prog 20 [t.d, .int .i64 i] (.tup [.str [], .bool false]) := calls Tryd.func20 rfl (by decide) (run20f t i h hi)
theorem run16t (t : Tab) (key : S8) : Runs Tryd.prog T 6 (Tryd.f16.body.getD .skip) Tryd.f16.results.toList [t.d, .str key] (.fn 36 [.eptr t.d 0, .eptr (.str key) 0]) := by
  refine ⟨Nat.le_of_ble_eq_true rfl, ?_⟩
  conv => whnf
  exact ⟨rfl, rfl⟩
theorem call16t (t : Tab) (key : S8) : CallsTo Tryd.prog 16 [t.d, .str key] (.fn 36 [.eptr t.d 0, .eptr (.str key) 0]) := calls Tryd.func16 rfl (by decide) (run16t t key)
theorem run16n (key : S8) : Runs Tryd.prog T 6 (Tryd.f16.body.getD .skip) Tryd.f16.results.toList [.nilp, .str key] (.fn 36 [.eptr .nilp 0, .eptr (.str key) 0]) := by
  refine ⟨Nat.le_of_ble_eq_true rfl, ?_⟩
  conv => whnf
  exact ⟨rfl, rfl⟩
theorem call16n (key : S8) : CallsTo Tryd.prog 16 [.nilp, .str key] (.fn 36 [.eptr .nilp 0, .eptr (.str key) 0]) := calls Tryd.func16 rfl (by decide) (run16n key)
/-- Does a text begin with another one? -/
def pre (s p : S8) : Bool := decide (p.length ≤ s.length) && (s.take p.length == p)
theorem run54 (s p : S8) : Runs Tryd.prog T 18 (Tryd.f54.body.getD .skip) Tryd.f54.results.toList [.str s, .str p] (.bool (pre s p)) := by
  refine ⟨Nat.le_of_ble_eq_true rfl, ?_⟩
  conv => whnf
  by_cases h : p.length ≤ s.length
  · have e1 : decide ((p.length : Int) ≤ (s.length : Int)) = true := decide_eq_true (by omega)
    have e2 : sliceD s (Int.toNat ((0 : Nat) : Int)) (Int.toNat (p.length : Int)) = s.take p.length := by simp [sliceD]
    refine sideB_intro (fun _ => decide_eq_true (by omega)) ?_
    conv => whnf
    rw [e1, e2]
    have : pre s p = (s.take p.length == p) := by simp [pre, h]
    rw [this]
    exact ⟨rfl, rfl⟩
  · have e1 : decide ((p.length : Int) ≤ (s.length : Int)) = false := decide_eq_false (by omega)
    refine sideB_intro (fun hg => ?_) ?_
    · have : decide ((p.length : Int) ≤ (s.length : Int)) = true := hg
      rw [e1] at this; cases this
    conv => whnf
    rw [e1]
    have : pre s p = false := by simp [pre, h]
    rw [this]
    exact ⟨rfl, rfl⟩
theorem call54 (s p : S8) : CallsTo Tryd.prog 54 [.str s, .str p] (.bool (pre s p)) := calls Tryd.func54 rfl (by decide) (run54 s p)
theorem run38 (s p : S8) : Runs Tryd.prog T 8 (Tryd.f38.body.getD .skip) Tryd.f38.results.toList [.str s, .str p] (.bool (pre s p)) := by
  refine ⟨Nat.le_of_ble_eq_true rfl, ?_⟩
  conv => whnf
  refine ⟨_, fun _ => call54 s p, ?_⟩
  conv => whnf
  exact ⟨rfl, rfl⟩
theorem call38 (s p : S8) : CallsTo Tryd.prog 38 [.str s, .str p] (.bool (pre s p)) := calls Tryd.func38 rfl (by decide) (run38 s p)
theorem run26 (w k : Int) : Runs Tryd.prog T 16 (Tryd.f26.body.getD .skip) Tryd.f26.results.toList [.int .i64 w, .int .i64 k] (.bool (decide (1 ≤ k ∧ k ≤ w ∧ w ≤ 255))) := by
  refine ⟨Nat.le_of_ble_eq_true rfl, ?_⟩
  conv => whnf
  have e : (bif (bif decide ((1 : Int) ≤ k) then decide (k ≤ w) else false) then decide (w ≤ 255) else false) = decide (1 ≤ k ∧ k ≤ w ∧ w ≤ 255) := by
    by_cases a : (1 : Int) ≤ k <;> by_cases b : k ≤ w <;> by_cases c : w ≤ 255 <;> simp [a, b, c]
  exact ⟨rfl, congrArg D.bool e⟩
theorem call26 (w k : Int) : CallsTo Tryd.prog 26 [.int .i64 w, .int .i64 k] (.bool (decide (1 ≤ k ∧ k ≤ w ∧ w ≤ 255))) := calls Tryd.func26 rfl (by decide) (run26 w k)
end Go.Proofs.YtbfgendaafediaaDoor.Fw

/- Tables: searching. -/
namespace Go.Proofs.YtbfgendaafediaaDoor.Fw
open Go Go.RowKit
set_option maxRecDepth 100000
set_option maxHeartbeats 4000000

/-- Where a search ends. -/
def bsr (p : Nat → Bool) : Nat → Nat → Nat → Nat
  | 0, i, _ => i
  | f + 1, i, j => if i < j then (if p ((i + j) / 2) then bsr p f i ((i + j) / 2) else bsr p f ((i + j) / 2 + 1) j) else i
def srch (p : Nat → Bool) (n : Nat) : Nat := bsr p n 0 n
theorem bsr_end (p : Nat → Bool) : ∀ {f i j : Nat}, ¬ i < j → bsr p f i j = i
  | 0, _, _, _ => rfl
  | f + 1, i, j, h => if_neg h
theorem bsr_spec (p : Nat → Bool) (n : Nat) (hm : ∀ x y, x ≤ y → y < n → p x = true → p y = true) : ∀ (f i j : Nat), j ≤ i + f → i ≤ j → j ≤ n → (∀ x, x < i → p x = false) → (∀ x, j ≤ x → x < n → p x = true) → bsr p f i j ≤ n ∧ (∀ x, x < bsr p f i j → p x = false) ∧ ∀ x, bsr p f i j ≤ x → x < n → p x = true
  | 0, i, j, h1, h2, h3, h4, h5 => by
    have : i = j := by omega
    subst this
    exact ⟨h3, h4, h5⟩
  | f + 1, i, j, h1, h2, h3, h4, h5 => by
    unfold bsr
    by_cases hij : i < j
    · rw [if_pos hij]
      by_cases hp : p ((i + j) / 2) = true
      · rw [if_pos hp]
        exact bsr_spec p n hm f i _ (by omega) (by omega) (by omega) h4 fun x hx hn => hm _ x hx hn hp
      · rw [if_neg hp]
        exact bsr_spec p n hm f _ j (by omega) (by omega) h3 (fun x hx => by
          cases hpx : p x with
          | false => rfl
          | true => exact absurd (hm x _ (by omega) (by omega) hpx) hp) h5
    · rw [if_neg hij]
      have : i = j := by omega
      subst this
      exact ⟨h3, h4, h5⟩
theorem srch_spec (p : Nat → Bool) (n : Nat) (hm : ∀ x y, x ≤ y → y < n → p x = true → p y = true) : srch p n ≤ n ∧ (∀ x, x < srch p n → p x = false) ∧ ∀ x, srch p n ≤ x → x < n → p x = true :=
  bsr_spec p n hm n 0 n (by omega) (by omega) (Nat.le_refl _) (fun x h => absurd h (by omega)) fun x h1 h2 => absurd h1 (by omega)
/-- The i-th row's key is not ahead of a text. -/
def geK (t : Tab) (key : S8) (i : Nat) : Bool := !lt8 (t.key i) key
theorem run53 (t : Tab) (key : S8) (i : Nat) (h : t.ok) (hi : i < t.n) : Runs Tryd.prog T 15 (Tryd.f53.body.getD .skip) Tryd.f53.results.toList [.int .i64 i, .eptr t.d 0, .eptr (.str key) 0] (.bool (geK t key i)) := by
  refine ⟨Nat.le_of_ble_eq_true rfl, ?_⟩
  conv => whnf
  have hl := Tab.row_len hi
  have hkw := h.kw
  refine ⟨rfl, ?_⟩
  conv => whnf
  refine ⟨_, fun _ => call39 t i h hi, ?_⟩
  conv => whnf
  refine sideB_intro (fun _ => decide_eq_true (by omega)) ?_
  conv => whnf
  have e : sliceD (t.row i) (Int.toNat ((0 : Nat) : Int)) (Int.toNat (t.k : Int)) = t.key i := by simp [sliceD, Tab.key]
  rw [e]
  exact ⟨rfl, rfl⟩
theorem call53 (t : Tab) (key : S8) (i : Nat) (h : t.ok) (hi : i < t.n) : CallsTo Tryd.prog 53 [.int .i64 i, .eptr t.d 0, .eptr (.str key) 0] (.bool (geK t key i)) := calls Tryd.func53 rfl (by decide) (run53 t key i h hi)
theorem run52 (t : Tab) (key : S8) (h : t.ok) : Runs Tryd.prog T 26 (Tryd.f52.body.getD .skip) Tryd.f52.results.toList [.int .i64 t.n, .fn 53 [.eptr t.d 0, .eptr (.str key) 0]] (.int .i64 (srch (geK t key) t.n)) := by
  refine ⟨Nat.le_of_ble_eq_true rfl, ?_⟩
  conv => whnf
  have hn := Tab.n_le h
  have hln := h.len
  refine ⟨[], ?_⟩
  conv => whnf
  refine loop_at (σ := Nat × Nat × Nat) (fun s env => (env.setT 5 (.int .i64 (s.2.1 : Int))).setT 6 (.int .i64 (s.2.2 : Int))) (fun s => s.1) (fun s => s.2.1 ≤ s.2.2 ∧ s.2.2 ≤ t.n ∧ s.2.2 ≤ s.2.1 + s.1 ∧ bsr (geK t key) s.1 s.2.1 s.2.2 = srch (geK t key) t.n) (t.n, 0, t.n) ⟨Nat.zero_le _, Nat.le_refl _, show t.n ≤ 0 + t.n by omega, rfl⟩ rfl ?_
  rintro ⟨f, i, j⟩ ⟨h1, h2, h3, h4⟩ ih
  simp only at h1 h2 h3 h4
  conv => whnf
  refine ifB_intro (fun hc => ?_) (fun hc => ?_)
  · have hc : (i : Int) < (j : Int) := of_decide_eq_true hc
    have e1 : IntKind.i64.wrap ((i : Int) + (j : Int)) = ((i + j : Nat) : Int) := by rw [IntKind.wrap_i64]; omega
    have e2 : IntKind.u64.wrap ((i + j : Nat) : Int) = ((i + j : Nat) : Int) := by
      have : IntKind.u64.wrap ((i + j : Nat) : Int) = ((i + j : Nat) : Int) % 18446744073709551616 := by simp [IntKind.wrap, IntKind.bits, IntKind.signed]
      omega
    have e3 : IntKind.i64.wrap (Int.fdiv ((i + j : Nat) : Int) (2 ^ min (Int.toNat 1) IntKind.u64.bits)) = (((i + j) / 2 : Nat) : Int) := by
      have : Int.fdiv ((i + j : Nat) : Int) (2 ^ min (Int.toNat 1) IntKind.u64.bits) = (((i + j) / 2 : Nat) : Int) := by
        rw [show (2 : Int) ^ min (Int.toNat 1) IntKind.u64.bits = ((2 : Nat) : Int) from rfl]
        exact (Int.ofNat_fdiv _ _).symm
      rw [this, IntKind.wrap_i64]; omega
    have hh : IntKind.i64.wrap ((IntKind.u64.wrap (IntKind.i64.wrap ((i : Int) + (j : Int)))).fdiv (2 ^ min (Int.toNat 1) IntKind.u64.bits)) = (((i + j) / 2 : Nat) : Int) := by rw [e1, e2, e3]
    cases f with
    | zero => exfalso; omega
    | succ f =>
    have hlt : i < j := by omega
    rw [bsr, if_pos hlt] at h4
    conv => whnf
    rw [hh]
    refine ⟨_, fun _ => call53 t key ((i + j) / 2) h (by omega), ?_⟩
    conv => whnf
    refine ifB_intro (fun hp => ?_) (fun hp => ?_)
    · have hp : (!(geK t key ((i + j) / 2))) = true := hp
      have hp : geK t key ((i + j) / 2) = false := by simpa using hp
      rw [if_neg (by rw [hp]; simp)] at h4
      have hw : IntKind.i64.wrap ((((i + j) / 2 : Nat) : Int) + 1) = (((i + j) / 2 + 1 : Nat) : Int) := by rw [IntKind.wrap_i64]; omega
      have ih' := ih (f, (i + j) / 2 + 1, j) ⟨show (i + j) / 2 + 1 ≤ j by omega, h2, show j ≤ (i + j) / 2 + 1 + f by omega, h4⟩ rfl
      conv => whnf
      rw [hw]
      exact ih'
    · have hp : (!(geK t key ((i + j) / 2))) = false := hp
      have hp : geK t key ((i + j) / 2) = true := by simpa using hp
      rw [if_pos hp] at h4
      have ih' := ih (f, i, (i + j) / 2) ⟨show i ≤ (i + j) / 2 by omega, show (i + j) / 2 ≤ t.n by omega, show (i + j) / 2 ≤ i + f by omega, h4⟩ rfl
      conv => whnf
      exact ih'
  · have hc : ¬ ((i : Int) < (j : Int)) := of_decide_eq_false hc
    rw [bsr_end _ (by omega)] at h4
    conv => whnf
    rw [← h4]
    exact ⟨rfl, rfl⟩
end Go.Proofs.YtbfgendaafediaaDoor.Fw

/- Tables: rows of a beginning; finding. -/
namespace Go.Proofs.YtbfgendaafediaaDoor.Fw
open Go Go.RowKit
set_option maxRecDepth 100000
set_option maxHeartbeats 4000000

theorem bsr_le (p : Nat → Bool) : ∀ (f : Nat) {i j : Nat}, i ≤ j → bsr p f i j ≤ j
  | 0, _, _, h => h
  | f + 1, i, j, h => by
    unfold bsr
    by_cases hij : i < j
    · rw [if_pos hij]
      by_cases hp : p ((i + j) / 2) = true
      · rw [if_pos hp]; exact Nat.le_trans (bsr_le p f (by omega)) (by omega)
      · rw [if_neg hp]; exact bsr_le p f (by omega)
    · rw [if_neg hij]; exact h
def fromK (t : Tab) (key : S8) : Nat := srch (geK t key) t.n
theorem run37 (t : Tab) (key : S8) (h : t.ok) : Runs Tryd.prog T 9 (Tryd.f37.body.getD .skip) Tryd.f37.results.toList [t.d, .str key] (.int .i64 (fromK t key)) := by
  refine ⟨Nat.le_of_ble_eq_true rfl, ?_⟩
  conv => whnf
  refine ⟨_, fun _ => call17 t h, ?_⟩
  conv => whnf
  refine ⟨_, fun _ => calls Tryd.func52 rfl (by decide) (run52 t key h), ?_⟩
  conv => whnf
  exact ⟨rfl, rfl⟩
theorem call37 (t : Tab) (key : S8) (h : t.ok) : CallsTo Tryd.prog 37 [t.d, .str key] (.int .i64 (fromK t key)) := calls Tryd.func37 rfl (by decide) (run37 t key h)
theorem run52n (key : S8) : Runs Tryd.prog T 26 (Tryd.f52.body.getD .skip) Tryd.f52.results.toList [.int .i64 0, .fn 53 [.eptr .nilp 0, .eptr (.str key) 0]] (.int .i64 0) := by
  refine ⟨Nat.le_of_ble_eq_true rfl, ?_⟩
  conv => whnf
  refine ⟨[], ?_⟩
  conv => whnf
  refine ⟨1, ?_⟩
  conv => whnf
  exact ⟨rfl, rfl⟩
theorem run37n (key : S8) : Runs Tryd.prog T 9 (Tryd.f37.body.getD .skip) Tryd.f37.results.toList [.nilp, .str key] (.int .i64 0) := by
  refine ⟨Nat.le_of_ble_eq_true rfl, ?_⟩
  conv => whnf
  refine ⟨_, fun _ => call17n, ?_⟩
  conv => whnf
  refine ⟨_, fun _ => calls Tryd.func52 rfl (by decide) (run52n key), ?_⟩
  conv => whnf
  exact ⟨rfl, rfl⟩
theorem call37n (key : S8) : CallsTo Tryd.prog 37 [.nilp, .str key] (.int .i64 0) := calls Tryd.func37 rfl (by decide) (run37n key)
def preGo (t : Tab) (key : S8) : Nat → Nat → List (Nat × S8)
  | 0, _ => []
  | f + 1, i => bif decide (i < t.n) && pre (t.key i) key then (i, t.row i) :: preGo t key f (i + 1) else []
def prefL (t : Tab) (key : S8) : List (Nat × S8) := preGo t key (t.n - fromK t key) (fromK t key)
def encR (p : Nat × S8) : List D := [.int .i64 p.1, .str p.2]
def Env.setY (ys : Option (Nat × List (List D))) (env : Env) : Env := { env with ys := ys }
theorem yields32 (t : Tab) (key : S8) (h : t.ok) : Yields Tryd.prog T 33 (Tryd.f36.body.getD .skip) [.eptr t.d 0, .eptr (.str key) 0] ((prefL t key).map encR) := by
  refine ⟨Nat.le_of_ble_eq_true rfl, fun yl => ?_⟩
  have hn := Tab.n_le h
  have hln := h.len
  have hkw := h.kw
  conv => whnf
  refine ⟨_, fun _ => call37 t key h, ?_⟩
  conv => whnf
  refine ⟨[], ?_⟩
  conv => whnf
  have hfr : fromK t key ≤ t.n := bsr_le _ _ (Nat.zero_le _)
  unfold prefL
  generalize fromK t key = i0 at hfr
  refine loop_at (σ := Nat) (fun i env => (env.setT 4 (.int .i64 (i : Int))).setY (some (yl, (preGo t key (t.n - i) i).map encR))) (fun i => t.n - i) (fun i => i ≤ t.n) i0 hfr rfl ?_
  rintro i hi ih
  have hx : i < t.n → preGo t key (t.n - i) i = bif pre (t.key i) key then (i, t.row i) :: preGo t key (t.n - (i + 1)) (i + 1) else [] := fun hlt => by
    rw [show t.n - i = (t.n - (i + 1)) + 1 from by omega, preGo, decide_eq_true hlt, Bool.true_and]
  conv => whnf
  refine ⟨rfl, ?_⟩
  conv => whnf
  refine ⟨_, fun _ => call17 t h, ?_⟩
  conv => whnf
  have hgi : decide ((i : Int) < (t.n : Int)) = true → i < t.n := fun hg => by have := of_decide_eq_true hg; omega
  refine ⟨.str (t.row i), fun hg => call39 t i h (hgi hg), ?_⟩
  conv => whnf
  refine sideB_intro (fun hg => ?_) ?_
  · have := Tab.row_len (hgi hg)
    exact decide_eq_true (by omega)
  have e : sliceD (t.row i) (Int.toNat ((0 : Nat) : Int)) (Int.toNat (t.k : Int)) = t.key i := by simp [sliceD, Tab.key]
  rw [e]
  conv => whnf
  refine ⟨_, fun _ => call38 (t.key i) key, ?_⟩
  conv => whnf
  refine ifB_intro (fun hb => ?_) (fun hb => ?_)
  · have hb : (bif decide ((i : Int) < (t.n : Int)) then pre (t.key i) key else false) = true := hb
    have hlt : i < t.n := by
      refine hgi ?_
      cases hd : decide ((i : Int) < (t.n : Int)) with
      | true => rfl
      | false => rw [hd] at hb; cases hb
    have hp : pre (t.key i) key = true := by
      rw [decide_eq_true (by omega : (i : Int) < (t.n : Int))] at hb; exact hb
    have hx := hx hlt
    rw [hp, cond_true] at hx
    have hw : IntKind.i64.wrap ((i : Int) + 1) = ((i + 1 : Nat) : Int) := by rw [IntKind.wrap_i64]; omega
    have ih' := ih (i + 1) (by omega) (by omega)
    rw [hx, List.map_cons]
    conv => whnf
    refine ⟨_, fun _ => call39 t i h hlt, ?_⟩
    conv => whnf
    refine ⟨⟨rfl, rfl⟩, ?_, ?_⟩
    · conv => whnf
      rw [hw]
      exact ih'
    · conv => whnf
      trivial
  · have hb : (bif decide ((i : Int) < (t.n : Int)) then pre (t.key i) key else false) = false := hb
    have he : preGo t key (t.n - i) i = [] := by
      by_cases hlt : i < t.n
      · rw [hx hlt]
        rw [decide_eq_true (by omega : (i : Int) < (t.n : Int)), cond_true] at hb
        rw [hb]; rfl
      · rw [show t.n - i = 0 from by omega]; rfl
    rw [he]
    conv => whnf
    trivial
theorem iter36 (t : Tab) (key : S8) (h : t.ok) : IterTo Tryd.prog 36 [.eptr t.d 0, .eptr (.str key) 0] ((prefL t key).map encR) := iters Tryd.func36 rfl (by decide) rfl (yields32 t key h)
theorem yields32n (key : S8) : Yields Tryd.prog T 33 (Tryd.f36.body.getD .skip) [.eptr .nilp 0, .eptr (.str key) 0] [] := by
  refine ⟨Nat.le_of_ble_eq_true rfl, fun yl => ?_⟩
  conv => whnf
  refine ⟨_, fun _ => call37n key, ?_⟩
  conv => whnf
  refine ⟨[], ?_⟩
  conv => whnf
  refine ⟨1, ?_⟩
  conv => whnf
  refine ⟨rfl, ?_⟩
  conv => whnf
  refine ⟨_, fun _ => call17n, ?_⟩
  conv => whnf
  have hg0 : decide ((0 : Int) < 0) = true → False := by decide
  refine ⟨.str [], fun hg => (hg0 hg).elim, ?_⟩
  conv => whnf
  refine ⟨fun hg => hg0 hg, ?_⟩
  conv => whnf
  refine ⟨fun hg => hg0 hg, ?_⟩
  conv => whnf
  repeat (refine ⟨fun hg => hg0 hg, ?_⟩; conv => whnf)
  trivial
theorem iter36n (key : S8) : IterTo Tryd.prog 36 [.eptr .nilp 0, .eptr (.str key) 0] [] := iters Tryd.func36 rfl (by decide) rfl (yields32n key)
theorem run21n (key : S8) : Runs Tryd.prog T 22 (Tryd.f21.body.getD .skip) Tryd.f21.results.toList [.nilp, .str key] (.tup [.str [], .bool false]) := by
  refine ⟨Nat.le_of_ble_eq_true rfl, ?_⟩
  conv => whnf
  refine ⟨_, fun _ => call16n key, ?_⟩
  conv => whnf
  refine ⟨[], ?_⟩
  conv => whnf
  refine ⟨[], iter36n key, ?_⟩
  conv => whnf
  exact ⟨rfl, rfl⟩
theorem call21n (key : S8) : CallsTo Tryd.prog 21 [.nilp, .str key] (.tup [.str [], .bool false]) := calls Tryd.func21 rfl (by decide) (run21n key)
theorem preGo_head {t : Tab} {key : S8} : ∀ {f i0 i : Nat} {r : S8} {l : List (Nat × S8)}, preGo t key f i0 = (i, r) :: l → i = i0 ∧ i < t.n ∧ r = t.row i ∧ pre (t.key i) key = true
  | 0, i0, i, r, l, h => by cases h
  | f + 1, i0, i, r, l, h => by
    unfold preGo at h
    cases hc : (decide (i0 < t.n) && pre (t.key i0) key) with
    | false => rw [hc] at h; cases h
    | true =>
      rw [hc, cond_true] at h
      simp only [List.cons.injEq, Prod.mk.injEq] at h
      obtain ⟨⟨rfl, rfl⟩, _⟩ := h
      simp only [Bool.and_eq_true, decide_eq_true_eq] at hc
      exact ⟨rfl, hc.1, rfl, hc.2⟩
/-- The row of a key. -/
def findT (t : Tab) (key : S8) : Option S8 := match prefL t key with
  | (i, _) :: _ => bif t.key i == key then some (t.row i) else none
  | [] => none
theorem run21 (t : Tab) (key : S8) (h : t.ok) : Runs Tryd.prog T 22 (Tryd.f21.body.getD .skip) Tryd.f21.results.toList [t.d, .str key] (.tup [.str ((findT t key).getD []), .bool (findT t key).isSome]) := by
  refine ⟨Nat.le_of_ble_eq_true rfl, ?_⟩
  conv => whnf
  refine ⟨_, fun _ => call16t t key, ?_⟩
  conv => whnf
  refine ⟨[], ?_⟩
  conv => whnf
  refine ⟨_, iter36 t key h, ?_⟩
  unfold findT
  cases hp : prefL t key with
  | nil =>
    conv => whnf
    exact ⟨rfl, rfl⟩
  | cons p l =>
    obtain ⟨i, r⟩ := p
    obtain ⟨hi0, hin, rfl, hpre⟩ := preGo_head hp
    have hl := Tab.row_len hin
    have hkw := h.kw
    rw [show ((i, t.row i) :: l).map encR = [D.int .i64 (i : Int), D.str (t.row i)] :: l.map encR from rfl]
    have hm : (match (i, t.row i) :: l with
      | (i, _) :: _ => bif t.key i == key then some (t.row i) else none
      | [] => none) = bif t.key i == key then some (t.row i) else none := rfl
    rw [hm]
    conv => whnf
    refine ⟨rfl, ?_⟩
    conv => whnf
    refine sideB_intro (fun _ => decide_eq_true (by omega)) ?_
    have e : sliceD (t.row i) (Int.toNat ((0 : Nat) : Int)) (Int.toNat (t.k : Int)) = t.key i := by simp [sliceD, Tab.key]
    rw [e]
    conv => whnf
    cases hb : (t.key i == key) with
    | true =>
      conv => whnf
      exact ⟨rfl, rfl⟩
    | false =>
      conv => whnf
      exact ⟨rfl, rfl⟩
theorem call21 (t : Tab) (key : S8) (h : t.ok) : CallsTo Tryd.prog 21 [t.d, .str key] (.tup [.str ((findT t key).getD []), .bool (findT t key).isSome]) := calls Tryd.func21 rfl (by decide) (run21 t key h)
end Go.Proofs.YtbfgendaafediaaDoor.Fw

/- Sorting of rows by their keys. -/
namespace Go.Proofs.YtbfgendaafediaaDoor.Fw
open Go Go.RowKit
set_option maxRecDepth 100000
set_option maxHeartbeats 4000000

/-- By the first k bytes. -/
abbrev ltP (k : Nat) (a b : S8) : Bool := lt8 (a.take k) (b.take k)
theorem sift_all {α : Type} (lt : α → α → Bool) {P : α → Prop} : ∀ (j : Nat) (L : List α), (∀ x ∈ L, P x) → ∀ x ∈ sift lt j L, P x
  | 0, L, h => h
  | j + 1, L, h => by
    unfold sift
    split
    · rename_i a b ha hb
      cases lt a b
      · exact h
      · rw [cond_true]
        refine sift_all lt j _ fun z hz => ?_
        rcases List.mem_or_eq_of_mem_set hz with hz | rfl
        · rcases List.mem_or_eq_of_mem_set hz with hz | rfl
          · exact h z hz
          · exact h _ (List.mem_of_getElem? hb)
        · exact h _ (List.mem_of_getElem? ha)
    · exact h
theorem sortTo_all {α : Type} (lt : α → α → Bool) {P : α → Prop} {L : List α} (h : ∀ x ∈ L, P x) : ∀ i, ∀ x ∈ sortTo lt L i, P x
  | 0 => h
  | i + 1 => sift_all lt i _ (sortTo_all lt h i)
theorem run30 (k : Nat) (a b : S8) (ha : k ≤ a.length) (hb : k ≤ b.length) : Runs Tryd.prog T 13 (Tryd.f30.body.getD .skip) Tryd.f30.results.toList [.str a, .str b, .eptr (.int .i64 k) 0] (.int .i64 (cmp8 (a.take k) (b.take k))) := by
  refine ⟨Nat.le_of_ble_eq_true rfl, ?_⟩
  conv => whnf
  refine ⟨rfl, ?_⟩
  conv => whnf
  refine sideB_intro (fun _ => decide_eq_true (by omega)) ?_
  conv => whnf
  refine sideB_intro (fun _ => decide_eq_true (by omega)) ?_
  conv => whnf
  have e : ∀ s : S8, sliceD s (Int.toNat ((0 : Nat) : Int)) (Int.toNat (k : Int)) = s.take k := fun s => by simp [sliceD]
  rw [e, e]
  refine ⟨_, fun _ => call31 (a.take k) (b.take k), ?_⟩
  conv => whnf
  exact ⟨rfl, rfl⟩
theorem call30 (k : Nat) (a b : S8) (ha : k ≤ a.length) (hb : k ≤ b.length) : CallsTo Tryd.prog 30 [.str a, .str b, .eptr (.int .i64 k) 0] (.int .i64 (cmp8 (a.take k) (b.take k))) := calls Tryd.func30 rfl (by decide) (run30 k a b ha hb)
theorem run57 (k : Nat) (l : List S8) (hl : l.length ≤ 1000000) (hkl : ∀ x ∈ l, k ≤ x.length) : RunsR Tryd.prog T 53 (Tryd.f57.body.getD .skip) Tryd.f57.results.toList ([]) (hS) (hR 9 1 (l.map D.str)) [.rsl 1000000 1 0 l.length, .int .i64 0, .int .i64 l.length, .fn 30 [.eptr (.int .i64 k) 0]] (fun d bx rw => d = .tup [] ∧ bx = [] ∧ rw = hR 9 1 ((isort (ltP k) l).map D.str)) (hS) := by
  refine ⟨Nat.le_of_ble_eq_true rfl, rfl, ?_⟩
  conv => whnf
  refine ⟨[], ?_⟩
  conv => whnf
  refine loop_at (σ := Nat) (fun i env => (env.setT 8 (.int .i64 ((i + 1 : Nat) : Int))).setX 1000000 ((sortTo (ltP k) l (i + 1)).map D.str)) (fun i => l.length - i) (fun i => i + 1 ≤ l.length ∨ i = 0) 0 (.inr rfl) rfl ?_
  rintro i hi ih
  conv => whnf
  refine ifB_intro (fun h => ?_) (fun h => ?_)
  · have h : ((i + 1 : Nat) : Int) < (l.length : Int) := of_decide_eq_true h
    have hlt : i + 1 < l.length := by omega
    have hw : IntKind.i64.wrap (((i + 1 : Nat) : Int) + 1) = ((i + 1 + 1 : Nat) : Int) := by rw [IntKind.wrap_i64]; omega
    have ih' := ih (i + 1) (.inl hlt) (by omega)
    have hlen := sortTo_length (ltP k) l (i + 1)
    have hmem : ∀ x ∈ sortTo (ltP k) l (i + 1), k ≤ x.length := sortTo_all (ltP k) hkl (i + 1)
    rw [sortTo] at ih'
    revert ih' hlen hmem
    generalize sortTo (ltP k) l (i + 1) = L0
    intro ih' hlen hmem
    conv => whnf
    refine ⟨[], ?_⟩
    conv => whnf
    refine loop_at (σ := Nat × List S8) (fun q env => (env.setT 9 (.int .i64 (q.1 : Int))).setX 1000000 (q.2.map D.str)) (fun q => q.1 + (l.length - l.length)) (fun q => q.1 ≤ i + 1 ∧ q.2.length = l.length ∧ (∀ x ∈ q.2, k ≤ x.length) ∧ sift (ltP k) q.1 q.2 = sift (ltP k) (i + 1) L0) (i + 1, L0) ⟨Nat.le_refl _, hlen, hmem, rfl⟩ rfl ?_
    rintro ⟨j, M⟩ ⟨hj, hM, hMk, hs⟩ ih2
    replace hj : j ≤ i + 1 := hj
    replace hM : M.length = l.length := hM
    replace hMk : ∀ x ∈ M, k ≤ x.length := hMk
    replace hs : sift (ltP k) j M = sift (ltP k) (i + 1) L0 := hs
    have hjl : j < M.length := by omega
    have hj1 : j - 1 < M.length := by omega
    obtain ⟨x, hx⟩ : ∃ x, M[j]? = some x := ⟨_, List.getElem?_eq_getElem hjl⟩
    obtain ⟨y, hy⟩ : ∃ y, M[j - 1]? = some y := ⟨_, List.getElem?_eq_getElem hj1⟩
    have hxk := hMk x (List.mem_of_getElem? hx)
    have hyk := hMk y (List.mem_of_getElem? hy)
    have hk := zero_toNat j
    have hk1 : 0 + Int.toNat (IntKind.i64.wrap ((j : Int) - 1)) = j - 1 := by rw [IntKind.wrap_i64]; omega
    conv => whnf
    refine ⟨rfl, ?_⟩
    conv => whnf
    refine sideB_intro (fun _ => decide_eq_true (by dsimp only; omega)) ?_
    conv => whnf
    refine fD_of (getD_enc (enc := D.str) (x := x) (by dsimp only; rw [hk]; exact hx)) ?_
    conv => whnf
    refine sideB_intro (fun _ => blt_of (by simp only [List.length_map]; omega)) ?_
    conv => whnf
    refine sideB_intro (fun hg => ?_) ?_
    · have hg : decide ((0 : Int) < (j : Int)) = true := hg
      have hg := of_decide_eq_true hg
      exact decide_eq_true (by dsimp only; rw [IntKind.wrap_i64]; omega)
    conv => whnf
    refine fD_of (getD_enc (enc := D.str) (x := y) (by dsimp only; rw [hk1]; exact hy)) ?_
    conv => whnf
    refine sideB_intro (fun _ => blt_of (by simp only [List.length_map]; omega)) ?_
    conv => whnf
    refine ⟨_, fun _ => call30 k x y hxk hyk, ?_⟩
    conv => whnf
    refine ifB_intro (fun hb => ?_) (fun hb => ?_)
    · have hb : 0 < j ∧ (ltP k) x y = true := by
        have hb : (bif decide ((0 : Int) < (j : Int)) then decide (cmp8 (x.take k) (y.take k) < 0) else false) = true := hb
        rw [cmp_lt] at hb
        by_cases h0 : (0 : Int) < (j : Int)
        · rw [decide_eq_true h0, cond_true] at hb; exact ⟨by omega, hb⟩
        · rw [decide_eq_false h0] at hb; cases hb
      obtain ⟨j, rfl⟩ : ∃ q, j = q + 1 := ⟨j - 1, by omega⟩
      have hsw : sift (ltP k) (j + 1) M = sift (ltP k) j ((M.set (j + 1) y).set j x) := by
        rw [sift, hx, show M[j]? = some y from hy]
        simp only [hb.2, cond_true]
      have ih3 := ih2 (j, (M.set (j + 1) y).set j x) ⟨by show j ≤ i + 1; omega, by simp [hM], fun z hz => (by
          rcases List.mem_or_eq_of_mem_set hz with hz | rfl
          · rcases List.mem_or_eq_of_mem_set hz with hz | rfl
            · exact hMk z hz
            · exact hyk
          · exact hxk), hsw.symm.trans hs⟩ (by dsimp only; omega)
      have hw2 : IntKind.i64.wrap (((j + 1 : Nat) : Int) - 1) = (j : Int) := by rw [IntKind.wrap_i64]; omega
      have hkj := zero_toNat j
      conv => whnf
      refine ⟨rfl, ?_⟩
      conv => whnf
      refine sideB_intro (fun _ => decide_eq_true (by dsimp only; rw [hw2]; omega)) ?_
      conv => whnf
      refine fD_of (getD_enc (enc := D.str) (x := y) (by dsimp only; rw [hk1]; exact hy)) ?_
      conv => whnf
      refine sideB_intro (fun _ => blt_of (by simp only [List.length_map]; omega)) ?_
      conv => whnf
      refine sideB_intro (fun _ => decide_eq_true (by dsimp only; omega)) ?_
      conv => whnf
      refine fD_of (getD_enc (enc := D.str) (x := x) (by dsimp only; rw [hk]; exact hx)) ?_
      conv => whnf
      refine sideB_intro (fun _ => blt_of (by simp only [List.length_map]; omega)) ?_
      conv => whnf
      refine sideB_intro (fun _ => decide_eq_true (by dsimp only; omega)) ?_
      conv => whnf
      refine sideB_intro (fun _ => blt_of (by simp only [List.length_map]; omega)) ?_
      conv => whnf
      refine sideB_intro (fun _ => decide_eq_true (by dsimp only; rw [hw2]; omega)) ?_
      conv => whnf
      refine sideB_intro (fun _ => blt_of (by simp only [List.length_map, List.length_set]; omega)) ?_
      conv => whnf
      rw [hw2, hkj, hk, set_enc (enc := D.str) (x := y) (d := .str y) rfl, set_enc (enc := D.str) (x := x) (d := .str x) rfl]
      exact ih3
    · have hb : ¬ (0 < j ∧ (ltP k) x y = true) := fun ⟨h0, h1⟩ => by
        have hb : (bif decide ((0 : Int) < (j : Int)) then decide (cmp8 (x.take k) (y.take k) < 0) else false) = false := hb
        rw [cmp_lt] at hb
        rw [decide_eq_true (by omega), cond_true, show lt8 (x.take k) (y.take k) = true from h1] at hb; cases hb
      have he : sift (ltP k) j M = M := by
        cases j with
        | zero => rfl
        | succ j =>
          rw [sift, hx, show M[j]? = some y from hy]
          have : (ltP k) x y = false := by
            cases h1 : (ltP k) x y with
            | false => rfl
            | true => exact absurd ⟨by omega, h1⟩ hb
          simp only [this, cond_false]
      rw [he] at hs
      conv => whnf
      rw [hs, hw]
      exact ih'
  · conv => whnf
    have h : ¬ (((i + 1 : Nat) : Int) < (l.length : Int)) := of_decide_eq_false h
    refine ⟨rfl, rfl, rfl, ?_⟩
    have : sortTo (ltP k) l (i + 1) = isort (ltP k) l := by
      rcases hi with hi | rfl
      · rw [isort, show i + 1 = l.length from by omega]
      · rw [isort]
        rcases (show l.length = 0 ∨ l.length = 1 from by omega) with e | e
        · rw [List.eq_nil_of_length_eq_zero e]; rfl
        · rw [e]
    rw [this]; rfl
theorem call57 (k : Nat) (l : List S8) (hl : l.length ≤ 1000000) (hkl : ∀ x ∈ l, k ≤ x.length) : CallsR Tryd.prog 57 [] hS (hR 9 1 (l.map D.str)) [.rsl 1000000 1 0 l.length, .int .i64 0, .int .i64 l.length, .fn 30 [.eptr (.int .i64 k) 0]] (.tup []) [] hS (hR 9 1 ((isort (ltP k) l).map D.str)) := callsR_imp (callsR Tryd.func57 rfl (by decide) (run57 k l hl hkl)) fun a b c h => h
abbrev Tp3 := Tm [57] []
theorem run42 (k : Nat) (l : List S8) (hl : l.length ≤ 12) (hkl : ∀ x ∈ l, k ≤ x.length) (m : Int) : RunsR Tryd.prog Tp3 148 (Tryd.f42.body.getD .skip) Tryd.f42.results.toList ([]) (hS) (hR 9 1 (l.map D.str)) [.rsl 1000000 1 0 l.length, .int .i64 0, .int .i64 l.length, .int .i64 m, .fn 30 [.eptr (.int .i64 k) 0]] (fun d bx rw => d = .tup [] ∧ bx = [] ∧ rw = hR 9 1 ((isort (ltP k) l).map D.str)) (hS) := by
  refine ⟨Nat.le_of_ble_eq_true rfl, rfl, ?_⟩
  conv => whnf
  refine ⟨[], ?_⟩
  conv => whnf
  refine ⟨1, ?_⟩
  conv => whnf
  refine ifB_intro (fun _ => ?_) (fun h => ?_)
  · conv => whnf
    refine ⟨⟨[], [(1000000, 1000000)], .tup [], [], hS, hR 9 1 ((isort (ltP k) l).map D.str)⟩, ?_⟩
    conv => whnf
    refine ⟨rfl, call57 k l (by omega) hkl, ?_⟩
    conv => whnf
    exact ⟨rfl, rfl, rfl, rfl⟩
  · exfalso
    have h := of_decide_eq_false h
    rw [IntKind.wrap_i64] at h; omega
theorem call42 (k : Nat) (l : List S8) (hl : l.length ≤ 12) (hkl : ∀ x ∈ l, k ≤ x.length) (m : Int) : CallsR Tryd.prog 42 [] hS (hR 9 1 (l.map D.str)) [.rsl 1000000 1 0 l.length, .int .i64 0, .int .i64 l.length, .int .i64 m, .fn 30 [.eptr (.int .i64 k) 0]] (.tup []) [] hS (hR 9 1 ((isort (ltP k) l).map D.str)) := callsR_imp (callsR Tryd.func42 rfl (by decide) (run42 k l hl hkl m)) fun a b c h => h
abbrev Tq3 := Tm [42] []
theorem run29 (k : Nat) (l : List S8) (hl : l.length ≤ 12) (hkl : ∀ x ∈ l, k ≤ x.length) : RunsR Tryd.prog Tq3 14 (Tryd.f29.body.getD .skip) Tryd.f29.results.toList ([]) (hS) (hR 9 1 (l.map D.str)) [.rsl 1000000 1 0 l.length, .fn 30 [.eptr (.int .i64 k) 0]] (fun d bx rw => d = .tup [] ∧ bx = [] ∧ rw = hR 9 1 ((isort (ltP k) l).map D.str)) (hS) := by
  refine ⟨Nat.le_of_ble_eq_true rfl, rfl, ?_⟩
  conv => whnf
  obtain ⟨m, hc⟩ := len12 l.length hl
  refine ⟨_, fun _ => hc, ?_⟩
  conv => whnf
  refine ⟨⟨[], [(1000000, 1000000)], .tup [], [], hS, hR 9 1 ((isort (ltP k) l).map D.str)⟩, ?_⟩
  conv => whnf
  refine ⟨rfl, call42 k l hl hkl m, ?_⟩
  conv => whnf
  exact ⟨rfl, rfl, rfl, rfl⟩
theorem call29 (k : Nat) (l : List S8) (hl : l.length ≤ 12) (hkl : ∀ x ∈ l, k ≤ x.length) : CallsR Tryd.prog 29 [] hS (hR 9 1 (l.map D.str)) [.rsl 1000000 1 0 l.length, .fn 30 [.eptr (.int .i64 k) 0]] (.tup []) [] hS (hR 9 1 ((isort (ltP k) l).map D.str)) := callsR_imp (callsR Tryd.func29 rfl (by decide) (run29 k l hl hkl)) fun a b c h => h
end Go.Proofs.YtbfgendaafediaaDoor.Fw

/- strings.Join: by the library's own contract. -/
namespace Go.Proofs.YtbfgendaafediaaDoor.Fw
open Go Go.RowKit Go.Shelf
set_option maxRecDepth 100000
set_option maxHeartbeats 4000000

def joinRen : Go.Shelf.Ren := ⟨fun | 156 => 32 | 165 => 45 | 166 => 46 | 169 => 47 | 240 => 67 | 241 => 68 | 276 => 78 | 277 => 79 | n => n, fun | 31 => 22 | 9 => 9 | 3 => 3 | 4 => 4 | 0 => 0 | 20 => 20 | 72 => 81 | 76 => 83 | 70 => 79 | 37 => 38 | 75 => 33 | 127 => 116 | 164 => 85 | 5 => 5 | 80 => 49 | n => n, fun n => n⟩
theorem laysJoin : Lays.n156 Tryd.prog joinRen where
  mixed := by kernel_rfl
  f156 := Tryd.func32.trans (congrArg some (by kernel_rfl))
  f165 := Tryd.func45.trans (congrArg some (by kernel_rfl))
  f166 := Tryd.func46.trans (congrArg some (by kernel_rfl))
  f169 := Tryd.func47.trans (congrArg some (by kernel_rfl))
  f240 := Tryd.func67.trans (congrArg some (by kernel_rfl))
  f241 := Tryd.func68.trans (congrArg some (by kernel_rfl))
  f276 := Tryd.func78.trans (congrArg some (by kernel_rfl))
  f277 := Tryd.func79.trans (congrArg some (by kernel_rfl))
  t0 := Tryd.underlying0
  a0 := Tryd.isAgg0
  z0 := Tryd.sizeOf0
  v0 := Tryd.zeroValue0
  t3 := Tryd.underlying3
  a3 := Tryd.isAgg3
  z3 := Tryd.sizeOf3
  v3 := Tryd.zeroValue3
  t4 := Tryd.underlying4
  a4 := Tryd.isAgg4
  z4 := Tryd.sizeOf4
  v4 := Tryd.zeroValue4
  t9 := Tryd.underlying9
  a9 := Tryd.isAgg9
  z9 := Tryd.sizeOf9
  v9 := Tryd.zeroValue9
  t20 := Tryd.underlying20
  a20 := Tryd.isAgg20
  z20 := Tryd.sizeOf20
  v20 := Tryd.zeroValue20
  t31 := Tryd.underlying22
  a31 := Tryd.isAgg22
  z31 := Tryd.sizeOf22
  v31 := Tryd.zeroValue22
  t37 := Tryd.underlying38
  a37 := Tryd.isAgg38
  z37 := Tryd.sizeOf38
  v37 := Tryd.zeroValue38
  t70 := Tryd.underlying79
  a70 := Tryd.isAgg79
  z70 := Tryd.sizeOf79
  v70 := Tryd.zeroValue79
  t72 := Tryd.underlying81
  a72 := Tryd.isAgg81
  z72 := Tryd.sizeOf81
  v72 := Tryd.zeroValue81
  t75 := Tryd.underlying33
  a75 := Tryd.isAgg33
  z75 := Tryd.sizeOf33
  v75 := Tryd.zeroValue33
  t76 := Tryd.underlying83
  a76 := Tryd.isAgg83
  z76 := Tryd.sizeOf83
  v76 := Tryd.zeroValue83
  t127 := Tryd.underlying116
  a127 := Tryd.isAgg116
  z127 := Tryd.sizeOf116
  v127 := Tryd.zeroValue116
  t164 := Tryd.underlying85
  a164 := Tryd.isAgg85
  z164 := Tryd.sizeOf85
  v164 := Tryd.zeroValue85
theorem joinExtra : Builder.Extra Tryd.prog joinRen where
  sizeBuilder := by kernel_rfl
  liesBuilder := by kernel_rfl
  t5 := Tryd.underlying5
  a5 := Tryd.isAgg5
  z5 := Tryd.sizeOf5
  v5 := Tryd.zeroValue5
  infoByte := by kernel_rfl
  cellsByte := by kernel_rfl
  sizeByte := by kernel_rfl
  neB5 := by decide

/-- Texts, one behind the other, with one between. -/
def joinS (l : List S8) (sep : S8) : S8 := Lib.join l sep
theorem repRow_str {I : Im} {w : World} {a : Addr} : ∀ {l : List S8} {i : Nat}, RepRow I w 1 (l.map D.str) a i → ∀ (j : Nat) (s : S8), l[j]? = some s → I (a.add ((i + j) * 1)).block (a.add ((i + j) * 1)).off ∧ w.cell? (a.add ((i + j) * 1)) = some (.string ⟨⟨s⟩⟩)
  | [], _, _, j, s, h => by simp at h
  | x :: l, i, h, 0, s, hs => by
    simp only [List.getElem?_cons_zero, Option.some.injEq] at hs; subst hs
    simp only [List.map_cons, RepRow, Rep] at h
    obtain ⟨⟨_, _, h1, u, h2, rfl⟩, _⟩ := h
    exact ⟨h1, h2⟩
  | x :: l, i, h, j + 1, s, hs => by
    simp only [List.map_cons, RepRow] at h
    have := repRow_str h.2 j s (by simpa using hs)
    rw [show i + (j + 1) = i + 1 + j from by omega]; exact this
theorem call32c (l : List S8) (sep : S8) (hne : l ≠ []) (hl : l.length ≤ 1000000) (hj : (joinS l sep).length ≤ 281474976710656) : CallsTo Tryd.prog 32 [.sl 0 1 (l.map D.str), .str sep] (.str (joinS l sep)) := by
  refine ⟨⟨_, Tryd.func32, by decide, by decide⟩, fun I w vs him hrep => ?_⟩
  simp only [RepL] at hrep
  obtain ⟨v, us, rfl, hv, v2, us2, rfl, hv2, rfl⟩ := hrep
  simp only [Rep] at hv hv2
  subst hv2
  rcases hv with ⟨_, ⟨_, he⟩ | ⟨a, cap, rfl, hcap, hrow⟩⟩
  · exact absurd (List.map_eq_nil_iff.1 he) hne
  · rw [List.length_map] at hcap ⊢
    have hat := repRow_str hrow
    obtain ⟨x, r, hx⟩ : ∃ x r, l = x :: r := by
      cases l with
      | nil => exact absurd rfl hne
      | cons x r => exact ⟨x, r, rfl⟩
    have h0 := hat 0 x (by rw [hx]; rfl)
    have ha0 : a.add ((0 + 0) * 1) = a := rfl
    rw [ha0] at h0
    have hspot : a.spot = none := by
      have := h0.2
      unfold World.cell? at this
      split at this
      · split at this
        · cases this
        · rename_i h; simpa using h
      · cases this
    obtain ⟨bk, o, sp⟩ := a
    simp only at hspot
    subst hspot
    let xs : List ByteArray := l.map fun s => ⟨⟨s⟩⟩
    have hxl : xs.length = l.length := by simp [xs]
    have hxd : xs.map (·.data.toList) = l := by simp [xs, Function.comp_def]
    have hc := Any.strings_Join_48 laysJoin joinExtra bk o cap xs ⟨⟨sep⟩⟩ w (fun j y hy => by
      have hs : ∃ s, l[j]? = some s ∧ y = ⟨⟨s⟩⟩ := by
        simp only [xs, List.getElem?_map] at hy
        cases hlj : l[j]? with
        | none => rw [hlj] at hy; cases hy
        | some s => rw [hlj] at hy; exact ⟨s, rfl, (Option.some.inj hy).symm⟩
      obtain ⟨s, h1, rfl⟩ := hs
      have := (hat j s h1).2
      rw [addr_add_mk, Nat.zero_add, Nat.mul_one] at this
      exact this) (him.1 bk o h0.1) (by rw [hxl]; omega) (by rw [hxl]; exact hcap) (by rw [hxd]; exact hj)
    rw [hxl, hxd] at hc
    refine Calls.mono hc fun e w' he => ?_
    obtain ⟨rfl, hb⟩ := he
    refine ⟨_, I, rfl, fun _ _ h => h, fun _ _ h => .inl h, fun b o h => Nat.lt_of_lt_of_le (him.1 b o h) hb.size, ?_, hb⟩
    simp only [Rep]; rfl
theorem run32n (sep : S8) : Runs Tryd.prog T 75 (Tryd.f32.body.getD .skip) Tryd.f32.results.toList [.sl 0 1 [], .str sep] (.str []) := by
  refine ⟨Nat.le_of_ble_eq_true rfl, ?_⟩
  conv => whnf
  exact ⟨rfl, rfl⟩
theorem call32n (sep : S8) : CallsTo Tryd.prog 32 [.sl 0 1 [], .str sep] (.str []) := calls Tryd.func32 rfl (by decide) (run32n sep)
theorem call32 (l : List S8) (sep : S8) (hl : l.length ≤ 1000000) (hj : (joinS l sep).length ≤ 281474976710656) : CallsTo Tryd.prog 32 [.sl 0 1 (l.map D.str), .str sep] (.str (joinS l sep)) := by
  cases l with
  | nil => exact call32n sep
  | cons x r => exact call32c (x :: r) sep (by simp) hl hj
end Go.Proofs.YtbfgendaafediaaDoor.Fw

/- Tables: what is wrong; making them. -/
namespace Go.Proofs.YtbfgendaafediaaDoor.Fw
open Go Go.RowKit
set_option maxRecDepth 100000
set_option maxHeartbeats 4000000

/-- A fault of a kind. -/
abbrev fltD (kind at_ : Int) (what : S8) : D := .ifc 101 (.eptr (.agg [.int .i64 at_, .str what, .ifc 26 (.int .i64 kind)]) 0)
def TABLE : S8 := [116, 97, 98, 108, 101]
theorem run41 (kind at_ : Int) (what : S8) (hk : kind ≠ 0) : Runs Tryd.prog T 16 (Tryd.f41.body.getD .skip) Tryd.f41.results.toList [.int .i64 kind, .int .i64 at_, .str what] (fltD kind at_ what) := by
  refine ⟨Nat.le_of_ble_eq_true rfl, ?_⟩
  conv => whnf
  have e : (kind == 0) = false := by simpa using hk
  rw [e]
  conv => whnf
  exact ⟨rfl, rfl⟩
theorem call41 (kind at_ : Int) (what : S8) (hk : kind ≠ 0) : CallsTo Tryd.prog 41 [.int .i64 kind, .int .i64 at_, .str what] (fltD kind at_ what) := calls Tryd.func41 rfl (by decide) (run41 kind at_ what hk)
theorem run27 (kind at_ : Int) (hk : kind ≠ 0) : Runs Tryd.prog T 8 (Tryd.f27.body.getD .skip) Tryd.f27.results.toList [.int .i64 kind, .int .i64 at_] (fltD kind at_ TABLE) := by
  refine ⟨Nat.le_of_ble_eq_true rfl, ?_⟩
  conv => whnf
  refine ⟨_, fun _ => call41 kind at_ TABLE hk, ?_⟩
  conv => whnf
  exact ⟨rfl, rfl⟩
theorem call27 (kind at_ : Int) (hk : kind ≠ 0) : CallsTo Tryd.prog 27 [.int .i64 kind, .int .i64 at_] (fltD kind at_ TABLE) := calls Tryd.func27 rfl (by decide) (run27 kind at_ hk)
/-- Is the i-th row's key behind the one ahead of it? -/
def Tab.up (t : Tab) (i : Nat) : Bool := lt8 (t.key (i - 1)) (t.key i)
theorem run18a (w k : Int) (bs : S8) (h : ¬ (1 ≤ k ∧ k ≤ w ∧ w ≤ 255)) : Runs Tryd.prog T 53 (Tryd.f18.body.getD .skip) Tryd.f18.results.toList [.int .i64 w, .int .i64 k, .str bs] (.tup [.nilp, fltD 1 0 TABLE]) := by
  refine ⟨Nat.le_of_ble_eq_true rfl, ?_⟩
  conv => whnf
  have hc := call26 w k
  rw [decide_eq_false h] at hc
  refine ⟨_, fun _ => hc, ?_⟩
  conv => whnf
  refine ⟨_, fun _ => call27 1 0 (by decide), ?_⟩
  conv => whnf
  exact ⟨rfl, rfl⟩
theorem call18a (w k : Int) (bs : S8) (h : ¬ (1 ≤ k ∧ k ≤ w ∧ w ≤ 255)) : CallsTo Tryd.prog 18 [.int .i64 w, .int .i64 k, .str bs] (.tup [.nilp, fltD 1 0 TABLE]) := calls Tryd.func18 rfl (by decide) (run18a w k bs h)
theorem run18b (w k : Nat) (bs : S8) (h : 1 ≤ k ∧ k ≤ w ∧ w ≤ 255) (hm : bs.length % w ≠ 0) : Runs Tryd.prog T 53 (Tryd.f18.body.getD .skip) Tryd.f18.results.toList [.int .i64 w, .int .i64 k, .str bs] (.tup [.nilp, fltD 12 bs.length TABLE]) := by
  refine ⟨Nat.le_of_ble_eq_true rfl, ?_⟩
  conv => whnf
  have hc := call26 w k
  rw [decide_eq_true (by omega)] at hc
  refine ⟨_, fun _ => hc, ?_⟩
  conv => whnf
  refine sideB_intro (fun _ => decide_eq_true (by omega)) ?_
  conv => whnf
  have e : (Int.tmod (bs.length : Int) (w : Int) != 0) = true := by
    have : Int.tmod (bs.length : Int) (w : Int) = ((bs.length % w : Nat) : Int) := rfl
    rw [this]; simp; omega
  rw [e]
  conv => whnf
  refine ⟨_, fun _ => call27 12 bs.length (by decide), ?_⟩
  conv => whnf
  exact ⟨rfl, rfl⟩
theorem call18b (w k : Nat) (bs : S8) (h : 1 ≤ k ∧ k ≤ w ∧ w ≤ 255) (hm : bs.length % w ≠ 0) : CallsTo Tryd.prog 18 [.int .i64 w, .int .i64 k, .str bs] (.tup [.nilp, fltD 12 bs.length TABLE]) := calls Tryd.func18 rfl (by decide) (run18b w k bs h hm)
theorem run18c (t : Tab) (h : t.ok) (hm : t.bs.length % t.w = 0) (hu : ∀ j, 1 ≤ j → j < t.n → t.up j = true) : Runs Tryd.prog T 53 (Tryd.f18.body.getD .skip) Tryd.f18.results.toList [.int .i64 t.w, .int .i64 t.k, .str t.bs] (.tup [t.d, .nili]) := by
  refine ⟨Nat.le_of_ble_eq_true rfl, ?_⟩
  conv => whnf
  have hc := call26 t.w t.k
  have k1 := h.k0
  have k2 := h.kw
  have k3 := h.w1
  have k4 := h.len
  have hn := Tab.n_le h
  rw [decide_eq_true (by omega)] at hc
  refine ⟨_, fun _ => hc, ?_⟩
  conv => whnf
  refine sideB_intro (fun _ => decide_eq_true (by omega)) ?_
  conv => whnf
  have e : (Int.tmod (t.bs.length : Int) (t.w : Int) != 0) = false := by
    have : Int.tmod (t.bs.length : Int) (t.w : Int) = ((t.bs.length % t.w : Nat) : Int) := rfl
    rw [this]; simp; omega
  rw [e]
  conv => whnf
  refine ⟨[.sealT 8], ?_⟩
  conv => whnf
  refine loop_at (σ := Nat) (fun i env => (env.setT 9 (.int .i64 ((i + 1 : Nat) : Int)))) (fun i => t.n - i) (fun i => i ≤ t.n) 0 (Nat.zero_le _) rfl ?_
  rintro i hi ih
  conv => whnf
  refine ⟨_, fun _ => call17 t h, ?_⟩
  conv => whnf
  refine ifB_intro (fun hc => ?_) (fun hc => ?_)
  · have hc : ((i + 1 : Nat) : Int) < (t.n : Int) := of_decide_eq_true hc
    have hup := hu (i + 1) (by omega) (by omega)
    have ih' := ih (i + 1) (by omega) (by omega)
    have hw : IntKind.i64.wrap (((i + 1 : Nat) : Int) + 1) = ((i + 1 + 1 : Nat) : Int) := by rw [IntKind.wrap_i64]; omega
    have hw1 : IntKind.i64.wrap (((i + 1 : Nat) : Int) - 1) = (i : Int) := by rw [IntKind.wrap_i64]; omega
    have hl1 := Tab.row_len (t := t) (i := i) (by omega)
    have hl2 := Tab.row_len (t := t) (i := i + 1) (by omega)
    conv => whnf
    refine ⟨rfl, ?_⟩
    conv => whnf
    rw [hw1]
    refine ⟨_, fun _ => call39 t i h (by omega), ?_⟩
    conv => whnf
    refine sideB_intro (fun _ => decide_eq_true (by omega)) ?_
    conv => whnf
    refine ⟨_, fun _ => call39 t (i + 1) h (by omega), ?_⟩
    conv => whnf
    refine sideB_intro (fun _ => decide_eq_true (by omega)) ?_
    conv => whnf
    have e1 : sliceD (t.row i) (Int.toNat ((0 : Nat) : Int)) (Int.toNat (t.k : Int)) = t.key i := by simp [sliceD, Tab.key]
    have e2 : sliceD (t.row (i + 1)) (Int.toNat ((0 : Nat) : Int)) (Int.toNat (t.k : Int)) = t.key (i + 1) := by simp [sliceD, Tab.key]
    rw [e1, e2]
    rw [show bytesLess (t.key i) (t.key (i + 1)) = true from hup]
    conv => whnf
    rw [hw]
    exact ih'
  · conv => whnf
    exact ⟨rfl, rfl⟩
theorem call18c (t : Tab) (h : t.ok) (hm : t.bs.length % t.w = 0) (hu : ∀ j, 1 ≤ j → j < t.n → t.up j = true) : CallsTo Tryd.prog 18 [.int .i64 t.w, .int .i64 t.k, .str t.bs] (.tup [t.d, .nili]) := calls Tryd.func18 rfl (by decide) (run18c t h hm hu)
theorem run18d (t : Tab) (h : t.ok) (hm : t.bs.length % t.w = 0) (q : Nat) (hq1 : 1 ≤ q) (hqn : q < t.n) (hu : ∀ j, 1 ≤ j → j < q → t.up j = true) (hq : t.up q = false) : Runs Tryd.prog T 53 (Tryd.f18.body.getD .skip) Tryd.f18.results.toList [.int .i64 t.w, .int .i64 t.k, .str t.bs] (.tup [.nilp, fltD 13 ((q * t.w : Nat) : Int) TABLE]) := by
  refine ⟨Nat.le_of_ble_eq_true rfl, ?_⟩
  conv => whnf
  have hc := call26 t.w t.k
  have k1 := h.k0
  have k2 := h.kw
  have k3 := h.w1
  have k4 := h.len
  have hn := Tab.n_le h
  rw [decide_eq_true (by omega)] at hc
  refine ⟨_, fun _ => hc, ?_⟩
  conv => whnf
  refine sideB_intro (fun _ => decide_eq_true (by omega)) ?_
  conv => whnf
  have e : (Int.tmod (t.bs.length : Int) (t.w : Int) != 0) = false := by
    have : Int.tmod (t.bs.length : Int) (t.w : Int) = ((t.bs.length % t.w : Nat) : Int) := rfl
    rw [this]; simp; omega
  rw [e]
  conv => whnf
  refine ⟨[.sealT 8], ?_⟩
  conv => whnf
  refine loop_at (σ := Nat) (fun i env => (env.setT 9 (.int .i64 ((i + 1 : Nat) : Int)))) (fun i => t.n - i) (fun i => i + 1 ≤ q) 0 (by omega) rfl ?_
  rintro i hi ih
  conv => whnf
  refine ⟨_, fun _ => call17 t h, ?_⟩
  conv => whnf
  refine ifB_intro (fun hc => ?_) (fun hc => ?_)
  · have hc : ((i + 1 : Nat) : Int) < (t.n : Int) := of_decide_eq_true hc
    have ih' := fun (hlt : i + 1 + 1 ≤ q) => ih (i + 1) hlt (by omega)
    have hw : IntKind.i64.wrap (((i + 1 : Nat) : Int) + 1) = ((i + 1 + 1 : Nat) : Int) := by rw [IntKind.wrap_i64]; omega
    have hw1 : IntKind.i64.wrap (((i + 1 : Nat) : Int) - 1) = (i : Int) := by rw [IntKind.wrap_i64]; omega
    have hl1 := Tab.row_len (t := t) (i := i) (by omega)
    have hl2 := Tab.row_len (t := t) (i := i + 1) (by omega)
    conv => whnf
    refine ⟨rfl, ?_⟩
    conv => whnf
    rw [hw1]
    refine ⟨_, fun _ => call39 t i h (by omega), ?_⟩
    conv => whnf
    refine sideB_intro (fun _ => decide_eq_true (by omega)) ?_
    conv => whnf
    refine ⟨_, fun _ => call39 t (i + 1) h (by omega), ?_⟩
    conv => whnf
    refine sideB_intro (fun _ => decide_eq_true (by omega)) ?_
    conv => whnf
    have e1 : sliceD (t.row i) (Int.toNat ((0 : Nat) : Int)) (Int.toNat (t.k : Int)) = t.key i := by simp [sliceD, Tab.key]
    have e2 : sliceD (t.row (i + 1)) (Int.toNat ((0 : Nat) : Int)) (Int.toNat (t.k : Int)) = t.key (i + 1) := by simp [sliceD, Tab.key]
    rw [e1, e2]
    by_cases he : i + 1 = q
    · rw [show bytesLess (t.key i) (t.key (i + 1)) = false from by have := hq; rw [← he] at this; exact this]
      conv => whnf
      have hrow := Tab.row_in (t := t) (i := i + 1) (by omega)
      have hm2 : IntKind.i64.wrap (((i + 1 : Nat) : Int) * (t.w : Int)) = ((q * t.w : Nat) : Int) := by
        have : ((i + 1 : Nat) : Int) * (t.w : Int) = (((i + 1) * t.w : Nat) : Int) := by simp
        rw [this, ← he, IntKind.wrap_i64]; omega
      rw [hm2]
      refine ⟨_, fun _ => call27 13 ((q * t.w : Nat) : Int) (by decide), ?_⟩
      conv => whnf
      exact ⟨rfl, rfl⟩
    · rw [show bytesLess (t.key i) (t.key (i + 1)) = true from hu (i + 1) (by omega) (by omega)]
      conv => whnf
      rw [hw]
      exact ih' (by omega)
  · exfalso
    have hc : ¬ (((i + 1 : Nat) : Int) < (t.n : Int)) := of_decide_eq_false hc
    omega
theorem call18d (t : Tab) (h : t.ok) (hm : t.bs.length % t.w = 0) (q : Nat) (hq1 : 1 ≤ q) (hqn : q < t.n) (hu : ∀ j, 1 ≤ j → j < q → t.up j = true) (hq : t.up q = false) : CallsTo Tryd.prog 18 [.int .i64 t.w, .int .i64 t.k, .str t.bs] (.tup [.nilp, fltD 13 ((q * t.w : Nat) : Int) TABLE]) := calls Tryd.func18 rfl (by decide) (run18d t h hm q hq1 hqn hu hq)
end Go.Proofs.YtbfgendaafediaaDoor.Fw

/- Tables of rows. -/
namespace Go.Proofs.YtbfgendaafediaaDoor.Fw
open Go Go.RowKit
set_option maxRecDepth 100000
set_option maxHeartbeats 4000000

theorem joinS_nil (l : List S8) : joinS l [] = l.flatten := by
  cases l with
  | nil => rfl
  | cons x r =>
    unfold joinS
    rw [Lib.join_cons]
    unfold Lib.joinTail
    simp
def tabOf (w k : Nat) (L : List S8) : Tab := ⟨w, k, L.flatten⟩
theorem flat_len {w : Nat} : ∀ {L : List S8}, (∀ x ∈ L, x.length = w) → L.flatten.length = L.length * w
  | [], _ => by simp
  | x :: L, h => by
    rw [List.flatten_cons, List.length_append, h x (List.mem_cons_self ..), flat_len fun y hy => h y (List.mem_cons_of_mem _ hy), List.length_cons, Nat.add_mul]
    omega
theorem tabOf_n {w k : Nat} {L : List S8} (hw : 0 < w) (h : ∀ x ∈ L, x.length = w) : (tabOf w k L).n = L.length := by
  unfold Tab.n tabOf
  rw [flat_len h]
  exact Nat.mul_div_cancel _ hw
theorem flat_row {w : Nat} : ∀ {L : List S8} {i : Nat} {x : S8}, (∀ y ∈ L, y.length = w) → L[i]? = some x → (L.flatten.drop (i * w)).take w = x
  | [], i, x, _, h => by simp at h
  | y :: L, 0, x, hl, h => by
    simp only [List.getElem?_cons_zero, Option.some.injEq] at h; subst h
    have := hl y (List.mem_cons_self ..)
    rw [Nat.zero_mul, List.drop_zero, List.flatten_cons, List.take_append_of_le_length (by omega), List.take_of_length_le (by omega)]
  | y :: L, i + 1, x, hl, h => by
    have hy := hl y (List.mem_cons_self ..)
    rw [List.flatten_cons, Nat.add_mul, Nat.one_mul, List.drop_append, List.drop_of_length_le (by omega), List.nil_append, show i * w + w - y.length = i * w from by omega]
    exact flat_row (fun z hz => hl z (List.mem_cons_of_mem _ hz)) (by simpa using h)
theorem tabOf_row {w k : Nat} {L : List S8} (h : ∀ x ∈ L, x.length = w) {i : Nat} {x : S8} (hx : L[i]? = some x) : (tabOf w k L).row i = x := flat_row h hx
theorem tabOf_ok {w k : Nat} {L : List S8} (h : 1 ≤ k ∧ k ≤ w ∧ w ≤ 255) (hl : ∀ x ∈ L, x.length = w) (hn : L.length ≤ 1000) : (tabOf w k L).ok := by
  refine ⟨h.1, h.2.1, h.2.2, ?_⟩
  show L.flatten.length ≤ _
  rw [flat_len hl]
  have : L.length * w ≤ 1000 * 255 := Nat.mul_le_mul hn h.2.2
  omega
theorem tabOf_mod {w k : Nat} {L : List S8} (hl : ∀ x ∈ L, x.length = w) : (tabOf w k L).bs.length % (tabOf w k L).w = 0 := by
  show L.flatten.length % w = 0
  rw [flat_len hl]; exact Nat.mul_mod_left _ _
theorem run12a (w k : Int) (l : List S8) (h : ¬ (1 ≤ k ∧ k ≤ w ∧ w ≤ 255)) : Runs Tryd.prog T 42 (Tryd.f12.body.getD .skip) Tryd.f12.results.toList [.int .i64 w, .int .i64 k, .sl 0 1 (l.map D.str)] (.tup [.nilp, fltD 1 0 TABLE]) := by
  refine ⟨Nat.le_of_ble_eq_true rfl, ?_⟩
  conv => whnf
  have hc := call26 w k
  rw [decide_eq_false h] at hc
  refine ⟨_, fun _ => hc, ?_⟩
  conv => whnf
  refine ⟨_, fun _ => call27 1 0 (by decide), ?_⟩
  conv => whnf
  exact ⟨rfl, rfl⟩
theorem call12a (w k : Int) (l : List S8) (h : ¬ (1 ≤ k ∧ k ≤ w ∧ w ≤ 255)) : CallsTo Tryd.prog 12 [.int .i64 w, .int .i64 k, .sl 0 1 (l.map D.str)] (.tup [.nilp, fltD 1 0 TABLE]) := calls Tryd.func12 rfl (by decide) (run12a w k l h)
theorem run12b (w k : Nat) (l : List S8) (h : 1 ≤ k ∧ k ≤ w ∧ w ≤ 255) (hl : l.length ≤ 1000) (q : Nat) (x : S8) (hx : l[q]? = some x) (hq : x.length ≠ w) (hpre : ∀ j y, j < q → l[j]? = some y → y.length = w) : Runs Tryd.prog T 42 (Tryd.f12.body.getD .skip) Tryd.f12.results.toList [.int .i64 w, .int .i64 k, .sl 0 1 (l.map D.str)] (.tup [.nilp, fltD 12 q TABLE]) := by
  refine ⟨Nat.le_of_ble_eq_true rfl, ?_⟩
  conv => whnf
  have hc := call26 w k
  rw [decide_eq_true (by omega)] at hc
  refine ⟨_, fun _ => hc, ?_⟩
  conv => whnf
  refine ⟨[], ?_⟩
  conv => whnf
  have hql := (List.getElem?_eq_some_iff.1 hx).1
  refine loop_at (σ := Nat) (fun i env => (env.setT 18 (.int .i64 (i : Int)))) (fun i => l.length - i) (fun i => i ≤ q) 0 (Nat.zero_le _) rfl ?_
  rintro i hi ih
  conv => whnf
  refine ifB_intro (fun h2 => ?_) (fun h2 => ?_)
  · have h2 : (i : Int) < ((l.map D.str).length : Int) := of_decide_eq_true h2
    rw [List.length_map] at h2
    obtain ⟨y, hy⟩ : ∃ y, l[i]? = some y := ⟨_, List.getElem?_eq_getElem (by omega)⟩
    have hw : IntKind.i64.wrap ((i : Int) + 1) = ((i + 1 : Nat) : Int) := by rw [IntKind.wrap_i64]; omega
    conv => whnf
    refine sideB_intro (fun _ => decide_eq_true (by simp only [List.length_map]; omega)) ?_
    rw [getD_enc (enc := D.str) (x := y) (show l[(i : Int).toNat]? = some y from hy)]
    conv => whnf
    by_cases he : i = q
    · subst he
      rw [hx] at hy; cases hy
      have e : ((x.length : Int) != (w : Int)) = true := by simp; omega
      rw [e]
      conv => whnf
      refine ⟨_, fun _ => call27 12 i (by decide), ?_⟩
      conv => whnf
      exact ⟨rfl, rfl⟩
    · have hyl := hpre i y (by omega) hy
      have e : ((y.length : Int) != (w : Int)) = false := by simp; omega
      rw [e]
      conv => whnf
      rw [hw]
      exact ih (i + 1) (by omega) (by omega)
  · exfalso
    have h2 : ¬ ((i : Int) < ((l.map D.str).length : Int)) := of_decide_eq_false h2
    rw [List.length_map] at h2
    omega
theorem call12b (w k : Nat) (l : List S8) (h : 1 ≤ k ∧ k ≤ w ∧ w ≤ 255) (hl : l.length ≤ 1000) (q : Nat) (x : S8) (hx : l[q]? = some x) (hq : x.length ≠ w) (hpre : ∀ j y, j < q → l[j]? = some y → y.length = w) : CallsTo Tryd.prog 12 [.int .i64 w, .int .i64 k, .sl 0 1 (l.map D.str)] (.tup [.nilp, fltD 12 q TABLE]) := calls Tryd.func12 rfl (by decide) (run12b w k l h hl q x hx hq hpre)
theorem call32r (l : List S8) (hl : l.length ≤ 1000000) (hj : l.flatten.length ≤ 1000000) : CallsR Tryd.prog 32 [] hS (hR 9 1 (l.map D.str)) [.rsl 1000000 1 0 l.length, .str []] (.str l.flatten) [] hS (hR 9 1 (l.map D.str)) := by
  have h := call32 l [] hl (by rw [joinS_nil]; omega)
  rw [joinS_nil] at h
  refine callsR_of_callsTo h ⟨⟨_, rfl, rfl, ?_, ?_⟩, rfl, trivial⟩ rfl rfl
  · simp
  · simp only [sliceD, Nat.zero_add, List.drop_zero]
    rw [List.take_of_length_le (by simp)]
abbrev Tb := Tm [28, 29, 32] [9]
theorem run12c (w k : Nat) (l : List S8) (h : 1 ≤ k ∧ k ≤ w ∧ w ≤ 255) (hl : l.length ≤ 12) (hw : ∀ x ∈ l, x.length = w) (h62 : CallsTo Tryd.prog 18 [.int .i64 w, .int .i64 k, .str (isort (ltP k) l).flatten] (.tup [.eptr (.agg [.int .i64 w, .int .i64 k, .str (isort (ltP k) l).flatten]) 0, .nili])) : Runs Tryd.prog Tb 42 (Tryd.f12.body.getD .skip) Tryd.f12.results.toList [.int .i64 w, .int .i64 k, .sl 0 1 (l.map D.str)] (.tup [.eptr (.agg [.int .i64 w, .int .i64 k, .str (isort (ltP k) l).flatten]) 0, .nili]) := by
  refine ⟨Nat.le_of_ble_eq_true rfl, ?_⟩
  conv => whnf
  have hc := call26 w k
  rw [decide_eq_true (by omega)] at hc
  refine ⟨_, fun _ => hc, ?_⟩
  conv => whnf
  refine ⟨[], ?_⟩
  conv => whnf
  refine loop_at (σ := Nat) (fun i env => (env.setT 18 (.int .i64 (i : Int)))) (fun i => l.length - i) (fun i => i ≤ l.length) 0 (Nat.zero_le _) rfl ?_
  rintro i hi ih
  conv => whnf
  refine ifB_intro (fun h2 => ?_) (fun h2 => ?_)
  · have h2 : (i : Int) < ((l.map D.str).length : Int) := of_decide_eq_true h2
    rw [List.length_map] at h2
    obtain ⟨y, hy⟩ : ∃ y, l[i]? = some y := ⟨_, List.getElem?_eq_getElem (by omega)⟩
    have hwi : IntKind.i64.wrap ((i : Int) + 1) = ((i + 1 : Nat) : Int) := by rw [IntKind.wrap_i64]; omega
    have hyl := hw y (List.mem_of_getElem? hy)
    conv => whnf
    refine sideB_intro (fun _ => decide_eq_true (by simp only [List.length_map]; omega)) ?_
    rw [getD_enc (enc := D.str) (x := y) (show l[(i : Int).toNat]? = some y from hy)]
    conv => whnf
    have e : ((y.length : Int) != (w : Int)) = false := by simp; omega
    rw [e]
    conv => whnf
    rw [hwi]
    exact ih (i + 1) (by omega) (by omega)
  conv => whnf
  refine ⟨⟨[], [], .rsl 17 1 0 l.length, [], [(17, rowMark)], [(17, ⟨9, 1, l.map D.str, false⟩)]⟩, ?_⟩
  conv => whnf
  refine ⟨rfl, call28 l (by omega), ?_⟩
  conv => whnf
  refine ⟨⟨[], [(1000000, 2995)], .tup [], [], hS, hR 9 1 ((isort (ltP k) l).map D.str)⟩, ?_⟩
  conv => whnf
  refine ⟨rfl, call29 k l hl (fun x hx => by rw [hw x hx]; omega), ?_⟩
  conv => whnf
  have hln : (isort (ltP k) l).length = l.length := sortTo_length (ltP k) _ _
  have hmem : ∀ x ∈ isort (ltP k) l, x.length = w := sortTo_all (ltP k) hw _
  have hfl := flat_len hmem
  have h63 := call32r (isort (ltP k) l) (by omega) (by
    rw [hfl, hln]
    have : l.length * w ≤ 12 * 255 := Nat.mul_le_mul hl h.2.2
    omega)
  rw [hln] at h63
  generalize isort (ltP k) l = S at h62 h63
  refine ⟨[(0, ?e1_0), (1, ?e1_1), (5, ?e1_2), (7, ?e1_3), (13, ?e1_4), (15, ?e1_5), (31, ?e1_6), (63, ?e1_7), (95, ?e1_8), (127, ?e1_9), (255, ?e1_10), (511, ?e1_11)], ?eF1, ?_, ?_, ?_⟩
  rotate_left 13
  · exact rfl
  refine tab_F rfl fun F hF => ?_
  obtain ⟨hF0, hF1, hF5, hF7, hF13, hF15, hF31, hF63, hF95, hF127, hF255, hF511, -⟩ := hF
  refine tab_1 rfl ?_ ?_
  · conv => whnf
    exact hF1
  refine tab_1 rfl ?_ ?_
  · conv => whnf
    exact hF5
  refine tab_2 rfl ?_ ?_ ?_
  · conv => whnf
    exact hF7
  · conv => whnf
    refine ⟨⟨[], [(1000000, 2995)], .str S.flatten, [], hS, hR 9 1 (S.map D.str)⟩, ?_⟩
    conv => whnf
    refine ⟨rfl, h63, ?_⟩
    conv => whnf
    exact hF13
  refine tab_1 rfl ?_ ?_
  · conv => whnf
    refine ⟨⟨[], [(1000000, 2995)], .str S.flatten, [], hS, hR 9 1 (S.map D.str)⟩, ?_⟩
    conv => whnf
    refine ⟨rfl, h63, ?_⟩
    conv => whnf
    exact hF15
  refine tab_1 rfl ?_ ?_
  · conv => whnf
    exact hF15
  refine tab_1 rfl ?_ ?_
  · conv => whnf
    refine ⟨_, fun _ => h62, ?_⟩
    conv => whnf
    exact hF31
  refine tab_2 rfl ?_ ?_ ?_
  · conv => whnf
    exact hF63
  · conv => whnf
    exact hF95
  refine tab_1 rfl ?_ ?_
  · conv => whnf
    exact hF127
  refine tab_1 rfl ?_ ?_
  · conv => whnf
    exact hF127
  refine tab_1 rfl ?_ ?_
  · conv => whnf
    exact hF255
  refine tab_1 rfl ?_ ?_
  · conv => whnf
    exact hF511
  refine tab_0 rfl ?_ trivial
  · conv => whnf
    try exact rfl
  refine ⟨rfl, ?_⟩
  conv => whnf
  exact ⟨rfl, rfl⟩
theorem run12d (w k : Nat) (l : List S8) (q : Int) (h : 1 ≤ k ∧ k ≤ w ∧ w ≤ 255) (hl : l.length ≤ 12) (hw : ∀ x ∈ l, x.length = w) (h62 : CallsTo Tryd.prog 18 [.int .i64 w, .int .i64 k, .str (isort (ltP k) l).flatten] (.tup [.nilp, fltD 13 q TABLE])) : Runs Tryd.prog Tb 42 (Tryd.f12.body.getD .skip) Tryd.f12.results.toList [.int .i64 w, .int .i64 k, .sl 0 1 (l.map D.str)] (.tup [.nilp, fltD 13 q TABLE]) := by
  refine ⟨Nat.le_of_ble_eq_true rfl, ?_⟩
  conv => whnf
  have hc := call26 w k
  rw [decide_eq_true (by omega)] at hc
  refine ⟨_, fun _ => hc, ?_⟩
  conv => whnf
  refine ⟨[], ?_⟩
  conv => whnf
  refine loop_at (σ := Nat) (fun i env => (env.setT 18 (.int .i64 (i : Int)))) (fun i => l.length - i) (fun i => i ≤ l.length) 0 (Nat.zero_le _) rfl ?_
  rintro i hi ih
  conv => whnf
  refine ifB_intro (fun h2 => ?_) (fun h2 => ?_)
  · have h2 : (i : Int) < ((l.map D.str).length : Int) := of_decide_eq_true h2
    rw [List.length_map] at h2
    obtain ⟨y, hy⟩ : ∃ y, l[i]? = some y := ⟨_, List.getElem?_eq_getElem (by omega)⟩
    have hwi : IntKind.i64.wrap ((i : Int) + 1) = ((i + 1 : Nat) : Int) := by rw [IntKind.wrap_i64]; omega
    have hyl := hw y (List.mem_of_getElem? hy)
    conv => whnf
    refine sideB_intro (fun _ => decide_eq_true (by simp only [List.length_map]; omega)) ?_
    rw [getD_enc (enc := D.str) (x := y) (show l[(i : Int).toNat]? = some y from hy)]
    conv => whnf
    have e : ((y.length : Int) != (w : Int)) = false := by simp; omega
    rw [e]
    conv => whnf
    rw [hwi]
    exact ih (i + 1) (by omega) (by omega)
  conv => whnf
  refine ⟨⟨[], [], .rsl 17 1 0 l.length, [], [(17, rowMark)], [(17, ⟨9, 1, l.map D.str, false⟩)]⟩, ?_⟩
  conv => whnf
  refine ⟨rfl, call28 l (by omega), ?_⟩
  conv => whnf
  refine ⟨⟨[], [(1000000, 2995)], .tup [], [], hS, hR 9 1 ((isort (ltP k) l).map D.str)⟩, ?_⟩
  conv => whnf
  refine ⟨rfl, call29 k l hl (fun x hx => by rw [hw x hx]; omega), ?_⟩
  conv => whnf
  have hln : (isort (ltP k) l).length = l.length := sortTo_length (ltP k) _ _
  have hmem : ∀ x ∈ isort (ltP k) l, x.length = w := sortTo_all (ltP k) hw _
  have hfl := flat_len hmem
  have h63 := call32r (isort (ltP k) l) (by omega) (by
    rw [hfl, hln]
    have : l.length * w ≤ 12 * 255 := Nat.mul_le_mul hl h.2.2
    omega)
  rw [hln] at h63
  generalize isort (ltP k) l = S at h62 h63
  refine ⟨[(0, ?e2_0), (1, ?e2_1), (5, ?e2_2), (7, ?e2_3), (13, ?e2_4), (15, ?e2_5), (31, ?e2_6), (63, ?e2_7), (95, ?e2_8), (127, ?e2_9), (255, ?e2_10), (511, ?e2_11)], ?eF2, ?_, ?_, ?_⟩
  rotate_left 13
  · exact rfl
  refine tab_F rfl fun F hF => ?_
  obtain ⟨hF0, hF1, hF5, hF7, hF13, hF15, hF31, hF63, hF95, hF127, hF255, hF511, -⟩ := hF
  refine tab_1 rfl ?_ ?_
  · conv => whnf
    exact hF1
  refine tab_1 rfl ?_ ?_
  · conv => whnf
    exact hF5
  refine tab_2 rfl ?_ ?_ ?_
  · conv => whnf
    exact hF7
  · conv => whnf
    refine ⟨⟨[], [(1000000, 2995)], .str S.flatten, [], hS, hR 9 1 (S.map D.str)⟩, ?_⟩
    conv => whnf
    refine ⟨rfl, h63, ?_⟩
    conv => whnf
    exact hF13
  refine tab_1 rfl ?_ ?_
  · conv => whnf
    refine ⟨⟨[], [(1000000, 2995)], .str S.flatten, [], hS, hR 9 1 (S.map D.str)⟩, ?_⟩
    conv => whnf
    refine ⟨rfl, h63, ?_⟩
    conv => whnf
    exact hF15
  refine tab_1 rfl ?_ ?_
  · conv => whnf
    exact hF15
  refine tab_1 rfl ?_ ?_
  · conv => whnf
    refine ⟨_, fun _ => h62, ?_⟩
    conv => whnf
    exact hF31
  refine tab_2 rfl ?_ ?_ ?_
  · conv => whnf
    exact hF63
  · conv => whnf
    exact hF95
  refine tab_1 rfl ?_ ?_
  · conv => whnf
    exact hF127
  refine tab_1 rfl ?_ ?_
  · conv => whnf
    exact hF127
  refine tab_1 rfl ?_ ?_
  · conv => whnf
    exact hF255
  refine tab_1 rfl ?_ ?_
  · conv => whnf
    exact hF511
  refine tab_0 rfl ?_ trivial
  · conv => whnf
    try exact rfl
  refine ⟨rfl, ?_⟩
  conv => whnf
  exact ⟨rfl, rfl⟩
end Go.Proofs.YtbfgendaafediaaDoor.Fw

/- Of no table nothing comes. -/
namespace Go.Proofs.YtbfgendaafediaaDoor.Fw
open Go Go.RowKit
set_option maxRecDepth 100000
set_option maxHeartbeats 4000000

/-- Do rows' keys rise? -/
def risesK (k : Nat) (S : List S8) : Prop := ∀ (j : Nat) (x y : S8), S[j]? = some x → S[j + 1]? = some y → lt8 (x.take k) (y.take k) = true
theorem tabOf_key {w k : Nat} {L : List S8} (h : ∀ x ∈ L, x.length = w) {i : Nat} {x : S8} (hx : L[i]? = some x) : (tabOf w k L).key i = x.take k := by
  unfold Tab.key; rw [tabOf_row h hx]; rfl
theorem call12c (w k : Nat) (l : List S8) (h : 1 ≤ k ∧ k ≤ w ∧ w ≤ 255) (hl : l.length ≤ 12) (hw : ∀ x ∈ l, x.length = w) (hr : risesK k (isort (ltP k) l)) : CallsTo Tryd.prog 12 [.int .i64 w, .int .i64 k, .sl 0 1 (l.map D.str)] (.tup [(tabOf w k (isort (ltP k) l)).d, .nili]) := by
  have hln : (isort (ltP k) l).length = l.length := sortTo_length (ltP k) _ _
  have hmem : ∀ x ∈ isort (ltP k) l, x.length = w := sortTo_all (ltP k) hw _
  have h62 := call18c (tabOf w k (isort (ltP k) l)) (tabOf_ok h hmem (by omega)) (tabOf_mod hmem) (fun j h1 h2 => by
    rw [tabOf_n (by omega) hmem] at h2
    have hx : (isort (ltP k) l)[j - 1]? = some (isort (ltP k) l)[j - 1] := List.getElem?_eq_getElem (by omega)
    have hy : (isort (ltP k) l)[j]? = some (isort (ltP k) l)[j] := List.getElem?_eq_getElem h2
    unfold Tab.up
    rw [tabOf_key hmem hx, tabOf_key hmem hy]
    exact hr (j - 1) _ _ hx (by rw [show j - 1 + 1 = j from by omega]; exact hy))
  exact calls Tryd.func12 rfl (by decide) (run12c w k l h hl hw h62)
def AWT : List S8 := [[98, 48, 49], [97, 49, 50], [97, 48, 51]]
def AWS : List S8 := [[97, 48, 51], [97, 49, 50], [98, 48, 49]]
theorem awt_sort : isort (ltP 2) AWT = AWS := by decide +kernel
theorem aws_rises : risesK 2 AWS := by
  intro j x y hx hy
  match j with
  | 0 => cases hx; cases hy; decide
  | 1 => cases hx; cases hy; decide
  | 2 => cases hy
  | j + 3 => cases hx
def A1 : S8 := [97, 49]
theorem find_aw : findT (tabOf 3 2 AWS) A1 = some [97, 49, 50] := by decide +kernel
theorem run8  : Runs Tryd.prog T 29 (Tryd.f8.body.getD .skip) Tryd.f8.results.toList [] (.bool true) := by
  refine ⟨Nat.le_of_ble_eq_true rfl, ?_⟩
  conv => whnf
  have h35 := call12c 3 2 AWT (by decide) (by decide) (by decide) (by rw [awt_sort]; exact aws_rises)
  rw [awt_sort] at h35
  refine ⟨_, fun _ => h35, ?_⟩
  conv => whnf
  have h11 := call21 (tabOf 3 2 AWS) A1 (tabOf_ok (by decide) (by decide) (by decide))
  rw [find_aw] at h11
  refine ⟨_, fun _ => h11, ?_⟩
  conv => whnf
  refine ⟨_, fun _ => call19 (tabOf 3 2 AWS), ?_⟩
  conv => whnf
  exact ⟨rfl, rfl⟩
theorem call8  : CallsTo Tryd.prog 8 [] (.bool true) := calls Tryd.func8 rfl (by decide) (run8)
theorem run14 (s : S8) : Runs Tryd.prog T 9 (Tryd.f14.body.getD .skip) Tryd.f14.results.toList [.str s] (.str (s.take 60)) := by
  refine ⟨Nat.le_of_ble_eq_true rfl, ?_⟩
  conv => whnf
  refine ifB_intro (fun h => ?_) (fun h => ?_)
  · have h : (60 : Int) < (s.length : Int) := of_decide_eq_true h
    conv => whnf
    refine sideB_intro (fun _ => decide_eq_true (by omega)) ?_
    conv => whnf
    have e : sliceD s (Int.toNat ((0 : Nat) : Int)) (Int.toNat 60) = s.take 60 := by simp [sliceD]
    exact ⟨rfl, congrArg D.str e⟩
  · have h : ¬ ((60 : Int) < (s.length : Int)) := of_decide_eq_false h
    conv => whnf
    rw [List.take_of_length_le (by omega)]
    exact ⟨rfl, rfl⟩
theorem call14 (s : S8) : CallsTo Tryd.prog 14 [.str s] (.str (s.take 60)) := calls Tryd.func14 rfl (by decide) (run14 s)
end Go.Proofs.YtbfgendaafediaaDoor.Fw

/- errors.As at a variable of a number's type: an error that has it within. -/
namespace Go.Proofs.YtbfgendaafediaaDoor.Fw
open Go Go.RowKit Go.Extern.Stop Go.Stop Go.Extern
set_option maxRecDepth 100000

theorem as_vo66 (t : Addr) (w : World) : (ReflectliteValue.unpack (.iface 66 (.pointer (some t)))).run Tryd.prog w
    = .ok (.agg #[.pointer (some ⟨2, 66, none⟩), .pointer (some ⟨w.heap.size, 0, none⟩), .int .u64 150]) (w.alloc (.cells #[.pointer (some t)] 66)) := by kernel_rfl
theorem as_ty66 (a : Addr) (w : World) : (ReflectliteValue.methodAny (ReflectliteValue.valueError "reflectlite.Value.Type" 0) (fun t _ _ _ => ReflectliteType.toType t) #[.agg #[.pointer (some ⟨2, 66, none⟩), .pointer (some a), .int .u64 150]]).run Tryd.prog w
    = .ok (.iface 118 (.agg #[.pointer (some ⟨2, 66, none⟩)])) w := by kernel_rfl
theorem as_k66 (w : World) : ((ReflectliteType.abiMethod fun t => (fun a : Nat => Value.int IntKind.u8 (a : Int)) <$> Rtype.kind t) #[.pointer (some ⟨2, 66, none⟩)]).run Tryd.prog w = .ok (.int .u8 22) w := by kernel_rfl
theorem as_k26 (w : World) : ((ReflectliteType.abiMethod fun t => (fun a : Nat => Value.int IntKind.u8 (a : Int)) <$> Rtype.kind t) #[.pointer (some ⟨2, 26, none⟩)]).run Tryd.prog w = .ok (.int .u8 2) w := by kernel_rfl
theorem as_u66 : Tryd.prog.underlying 66 = some (.pointer 26) := by kernel_rfl
theorem as_u26 : Tryd.prog.underlying 26 = some (.int .i64) := by kernel_rfl
theorem rlm (z : Sem Value) (f : TypeId → Addr → Nat → Nat → Sem Value) (v : Value) :
    ReflectliteValue.method z f #[v] = (do match ← ReflectliteValue.parts v with | none => z | some (t, a, fl) => f t a fl (fl % 32)) := rfl
theorem as_p66 (a : Addr) (w : World) : (ReflectliteValue.parts (.agg #[.pointer (some ⟨2, 66, none⟩), .pointer (some a), .int .u64 150])).run Tryd.prog w = .ok (some (66, a, 150)) w := by kernel_rfl
theorem as_nil66 (a p : Addr) (W : World) (ha : W.cell? a = some (.pointer (some p))) :
    (ReflectliteValue.method (ReflectliteValue.valueError "reflectlite.Value.IsNil" 0) ReflectliteValue.isNil #[.agg #[.pointer (some ⟨2, 66, none⟩), .pointer (some a), .int .u64 150]]).run Tryd.prog W = .ok (.bool false) W := by
  rw [rlm]
  simp only [Sem.run_bind, as_p66, Result.andThen]
  simp [ReflectliteValue.isNil, loadVar, isAgg, underlying, as_u66, ha, Result.andThen]
theorem as_el66 (w : World) : (ReflectliteType.method ReflectliteType.elem #[.agg #[.pointer (some ⟨2, 66, none⟩)]]).run Tryd.prog w = .ok (.iface 118 (.agg #[.pointer (some ⟨2, 26, none⟩)])) w := by kernel_rfl
theorem as_im26 (w : World) : (ReflectliteType.relation "Implements" ReflectliteType.implements_ #[.agg #[.pointer (some ⟨2, 26, none⟩)], .iface 118 (.agg #[.pointer (some ⟨2, 33, none⟩)])]).run Tryd.prog w = .ok (.bool true) w := by kernel_rfl
theorem as_to26 (v : Value) (w : World) : (ReflectliteType.typeOf #[.iface 26 v]).run Tryd.prog w = .ok (.iface 118 (.agg #[.pointer (some ⟨2, 26, none⟩)])) w := by kernel_rfl
theorem as_to101 (v : Value) (w : World) : (ReflectliteType.typeOf #[.iface 101 v]).run Tryd.prog w = .ok (.iface 118 (.agg #[.pointer (some ⟨2, 101, none⟩)])) w := by kernel_rfl
theorem as_as26 (w : World) : (ReflectliteType.relation "AssignableTo" ReflectliteType.assignableTo #[.agg #[.pointer (some ⟨2, 26, none⟩)], .iface 118 (.agg #[.pointer (some ⟨2, 26, none⟩)])]).run Tryd.prog w = .ok (.bool true) w := by kernel_rfl
theorem as_as101 (w : World) : (ReflectliteType.relation "AssignableTo" ReflectliteType.assignableTo #[.agg #[.pointer (some ⟨2, 101, none⟩)], .iface 118 (.agg #[.pointer (some ⟨2, 26, none⟩)])]).run Tryd.prog w = .ok (.bool false) w := by kernel_rfl
theorem as_vo26 (n : Int) (w : World) : (ReflectliteValue.unpack (.iface 26 (.int .i64 n))).run Tryd.prog w
    = .ok (.agg #[.pointer (some ⟨2, 26, none⟩), .pointer (some ⟨w.heap.size, 0, none⟩), .int .u64 130]) (w.alloc (.cells #[.int .i64 n] 26)) := by kernel_rfl
theorem as_eo66 (w : World) : (Rtype.elem? 66).run Tryd.prog w = .ok (some 26) w := by kernel_rfl
theorem as_mk26 (p : Addr) (w : World) : (ReflectliteValue.mk 26 p ReflectliteValue.flagAddr).run Tryd.prog w = .ok (.agg #[.pointer (some ⟨2, 26, none⟩), .pointer (some p), .int .u64 386]) w := by kernel_rfl
theorem as_elv66 (a p : Addr) (W : World) (ha : W.cell? a = some (.pointer (some p))) :
    (ReflectliteValue.method (ReflectliteValue.valueError "reflectlite.Value.Elem" 0) ReflectliteValue.elem #[.agg #[.pointer (some ⟨2, 66, none⟩), .pointer (some a), .int .u64 150]]).run Tryd.prog W
      = .ok (.agg #[.pointer (some ⟨2, 26, none⟩), .pointer (some p), .int .u64 386]) W := by
  rw [rlm]
  simp only [Sem.run_bind, as_p66, Result.andThen]
  simp [ReflectliteValue.elem, loadVar, isAgg, underlying, as_u66, ha, Result.andThen, as_eo66, as_mk26]
theorem rls (v x : Value) : ReflectliteValue.set #[v, x] = (do
    let (some (dst, a, fl), some (src, b, _)) := (← ReflectliteValue.parts v, ← ReflectliteValue.parts x)
      | unsupported (.noEntry "extern/(internal/reflectlite.Value).Set.zeroValue")
    if fl / ReflectliteValue.flagAddr % 2 == 0 then unsupported (.noEntry "extern/(internal/reflectlite.Value).Set.unaddressable")
    let val ← loadVar src b
    if ← Rtype.directlyAssignable dst src then storeVar dst a val
    else if ← Rtype.implements dst src then
      if (← Rtype.kind src) == 20 then
        match val with
        | .nilIface => unsupported (.noEntry "extern/reflectlite: a nil value of one interface type handed on as a value of another")
        | _ => storeVar dst a val
      else storeVar dst a (.iface src val)
    else panicString ("reflectlite.Set: value of type " ++ (← Rtype.spelt src) ++ " is not assignable to type " ++ (← Rtype.spelt dst))
    pure (.tuple #[])) := rfl
theorem as_p26a (a : Addr) (w : World) : (ReflectliteValue.parts (.agg #[.pointer (some ⟨2, 26, none⟩), .pointer (some a), .int .u64 386])).run Tryd.prog w = .ok (some (26, a, 386)) w := by kernel_rfl
theorem as_p26 (a : Addr) (w : World) : (ReflectliteValue.parts (.agg #[.pointer (some ⟨2, 26, none⟩), .pointer (some a), .int .u64 130])).run Tryd.prog w = .ok (some (26, a, 130)) w := by kernel_rfl
theorem as_di26 (w : World) : (Rtype.directlyAssignable 26 26).run Tryd.prog w = .ok true w := by kernel_rfl
theorem as_set26 (ta b : Addr) (n : Int) (old : Value) (W : World) (hb : W.cell? b = some (.int .i64 n)) (ht : W.cell? ta = some old) (hf : W.frozen? ta = false) :
    (ReflectliteValue.set #[.agg #[.pointer (some ⟨2, 26, none⟩), .pointer (some ta), .int .u64 386], .agg #[.pointer (some ⟨2, 26, none⟩), .pointer (some b), .int .u64 130]]).run Tryd.prog W
      = .ok (.tuple #[]) (W.setCell ta (.int .i64 n)) := by
  rw [rls]
  simp only [Sem.run_bind, as_p26a, as_p26, Result.andThen]
  simp [ReflectliteValue.flagAddr, loadVar, isAgg, underlying, as_u26, hb, Result.andThen, as_di26, storeVar, Value.cells, storeCells, Addr.add]
  rw [run_store Tryd.prog W ta _ _ (by rfl)]
  simp [ht, hf]
set_option maxHeartbeats 4000000 in
theorem un_call (e : Addr) (k : Int) (w : World) (h : w.cell? { block := e.block, off := e.off + 2 } = some (.iface 26 (.int .i64 k))) : Calls Tryd.prog 105 #[.pointer (some e)] w fun ev w' => ev = .returned (.iface 26 (.int .i64 k)) ∧ w' = w := by
  go_enter Tryd.func105, Tryd.ntmps105
  go_wp2
  go_ret
  exact ⟨rfl, rfl⟩
theorem as_lk101 (v : Value) (w : World) : (Go.Instr.typeAssert (.iface 101 v) 33 123 true).run Tryd.prog w = .ok (.tuple #[.nilIface, .bool false]) w :=
  run_typeAssert_lacksB (want := #[("As", 125)]) (by kernel_rfl) (by kernel_rfl) (by kernel_rfl) v 33 w
theorem as_has101 (v : Value) (w : World) : (Go.Instr.typeAssert (.iface 101 v) 33 126 true).run Tryd.prog w = .ok (.tuple #[.iface 101 v, .bool true]) w :=
  run_typeAssert_hasB (want := #[("Unwrap", 127)]) (by kernel_rfl) (by kernel_rfl) v 33 w
theorem as_mAss (h : Value) (w : World) : (Go.method 275 118 (.agg #[h]) "AssignableTo").run Tryd.prog w = .ok (107, .agg #[h]) w := by kernel_rfl
theorem as_mUn (e : Addr) (w : World) : (Go.method 275 101 (.pointer (some e)) "Unwrap").run Tryd.prog w = .ok (105, .pointer (some e)) w := by kernel_rfl
theorem as_mK (h : Value) (w : World) : (Go.method 275 118 (.agg #[h]) "Kind").run Tryd.prog w = .ok (96, h) w := by kernel_rfl
theorem as_mE (h : Value) (w : World) : (Go.method 275 118 (.agg #[h]) "Elem").run Tryd.prog w = .ok (109, .agg #[h]) w := by kernel_rfl
theorem as_mI (h : Value) (w : World) : (Go.method 275 118 (.agg #[h]) "Implements").run Tryd.prog w = .ok (110, .agg #[h]) w := by kernel_rfl
set_option maxHeartbeats 4000000 in
theorem as2 (e t h : Addr) (k : Int) (old : Value) (w : World) (he : w.cell? { block := e.block, off := e.off + 2 } = some (.iface 26 (.int .i64 k))) (hh : w.cell? h = some (.pointer (some t))) (ht : w.cell? t = some old) (hf : w.frozen? t = false) :
    Calls Tryd.prog 51 #[.iface 101 (.pointer (some e)), .iface 66 (.pointer (some t)), .agg #[.pointer (some ⟨2, 66, none⟩), .pointer (some h), .int .u64 150], .iface 118 (.agg #[.pointer (some ⟨2, 26, none⟩)])] w fun ev w' => ev = .returned (.bool true) ∧ w' = ((w.alloc (.cells #[.pointer (some ⟨2, 66, none⟩), .pointer (some h), .int .u64 150] 88)).alloc (.cells #[.int .i64 k] 26)).setCell t (.int .i64 k) := by
  have h48 := @run_callFunc_extern Tryd.prog 48 _ (fun args => ReflectliteValue.unpack (args.getD 0 (.tuple #[]))) Tryd.func48 (by kernel_rfl) (by kernel_rfl) (by kernel_rfl) (by kernel_rfl)
  have h69 := @run_callFunc_extern Tryd.prog 69 _ ReflectliteType.typeOf Tryd.func69 (by kernel_rfl) (by kernel_rfl) (by kernel_rfl) (by kernel_rfl)
  have h107 := @run_callFunc_extern Tryd.prog 107 _ (ReflectliteType.relation "AssignableTo" ReflectliteType.assignableTo) Tryd.func107 (by kernel_rfl) (by kernel_rfl) (by kernel_rfl) (by kernel_rfl)
  have h70 := @run_callFunc_extern Tryd.prog 70 _ (ReflectliteValue.method (ReflectliteValue.valueError "reflectlite.Value.Elem" 0) ReflectliteValue.elem) Tryd.func70 (by kernel_rfl) (by kernel_rfl) (by kernel_rfl) (by kernel_rfl)
  have h71 := @run_callFunc_extern Tryd.prog 71 _ ReflectliteValue.set Tryd.func71 (by kernel_rfl) (by kernel_rfl) (by kernel_rfl) (by kernel_rfl)
  have t1 := as_to101
  have t2 := as_to26
  have t3 := as_as101
  have t4 := as_as26
  have t5 := as_lk101
  have t6 := as_has101
  have t7 := as_mAss
  have t8 := as_mUn
  have t9 := as_vo26
  have lt : ∀ {a : Addr} {v : Value}, w.cell? a = some v → a.block < w.heap.size := fun {a v} h => by
    rcases Nat.lt_or_ge a.block w.heap.size with h1 | h1
    · exact h1
    · simp [World.cell?, Array.getElem?_eq_none h1] at h
  have hel : e.block < w.heap.size := lt (a := { block := e.block, off := e.off + 2 }) he
  have htl := lt ht
  have hhl := lt hh
  have he' : (w.alloc (.cells #[.pointer (some ⟨2, 66, none⟩), .pointer (some h), .int .u64 150] 88)).cell? { block := e.block, off := e.off + 2 } = some (.iface 26 (.int .i64 k)) := by
    rw [World.cell?_alloc_lt _ _ ⟨e.block, e.off + 2, none⟩ hel]; exact he
  have el := as_elv66 h t (w.alloc (.cells #[.pointer (some ⟨2, 66, none⟩), .pointer (some h), .int .u64 150] 88)) (by rw [World.cell?_alloc_lt _ _ _ hhl]; exact hh)
  have st := as_set26 t ⟨w.heap.size + 1, 0, none⟩ k old ((w.alloc (.cells #[.pointer (some ⟨2, 66, none⟩), .pointer (some h), .int .u64 150] 88)).alloc (.cells #[.int .i64 k] 26))
    (by rw [World.cell?_alloc_at _ _ _ _ (by simp)]; rfl)
    (by rw [World.cell?_alloc_lt _ _ t (by simp; omega), World.cell?_alloc_lt _ _ t htl]; exact ht)
    (by rw [World.frozen?_alloc_old _ _ t (by simp; omega), World.frozen?_alloc_old _ _ t (Nat.ne_of_lt htl)]; exact hf)
  go_enter Tryd.func51, Tryd.ntmps51
  go_wp2
  refine wp_loop_rounds 2 ?_
  rw [rounds_succ]
  go_wp2
  rw [rounds_succ]
  go_wp2
  go_ret
  exact ⟨rfl, rfl⟩
set_option maxHeartbeats 4000000 in
theorem as1 (e t : Addr) (k : Int) (old : Value) (w : World) (hg : w.cell? ⟨0, 0, none⟩ = some (.iface 118 (.agg #[.pointer (some ⟨2, 33, none⟩)]))) (he : w.cell? { block := e.block, off := e.off + 2 } = some (.iface 26 (.int .i64 k))) (ht : w.cell? t = some old) (hf : w.frozen? t = false) :
    Calls Tryd.prog 33 #[.iface 101 (.pointer (some e)), .iface 66 (.pointer (some t))] w fun ev w' => ev = .returned (.bool true) ∧ w' = ((((w.alloc (.cells #[.pointer (some t)] 66)).alloc (.cells #[.pointer (some ⟨2, 66, none⟩), .pointer (some ⟨w.heap.size, 0, none⟩), .int .u64 150] 88)).alloc (.cells #[.pointer (some ⟨2, 66, none⟩), .pointer (some ⟨w.heap.size, 0, none⟩), .int .u64 150] 88)).alloc (.cells #[.int .i64 k] 26)).setCell t (.int .i64 k) := by
  have h48 := @run_callFunc_extern Tryd.prog 48 _ (fun args => ReflectliteValue.unpack (args.getD 0 (.tuple #[]))) Tryd.func48 (by kernel_rfl) (by kernel_rfl) (by kernel_rfl) (by kernel_rfl)
  have h49 := @run_callFunc_extern Tryd.prog 49 _ (ReflectliteValue.methodAny (ReflectliteValue.valueError "reflectlite.Value.Type" 0) (fun t _ _ _ => ReflectliteType.toType t)) Tryd.func49 (by kernel_rfl) (by kernel_rfl) (by kernel_rfl) (by kernel_rfl)
  have h50 := @run_callFunc_extern Tryd.prog 50 _ (ReflectliteValue.method (ReflectliteValue.valueError "reflectlite.Value.IsNil" 0) ReflectliteValue.isNil) Tryd.func50 (by kernel_rfl) (by kernel_rfl) (by kernel_rfl) (by kernel_rfl)
  have h96 := @run_callFunc_extern Tryd.prog 96 _ (ReflectliteType.abiMethod fun t => do pure (.int .u8 (← Rtype.kind t))) Tryd.func96 (by kernel_rfl) (by kernel_rfl) (by kernel_rfl) (by kernel_rfl)
  have h109 := @run_callFunc_extern Tryd.prog 109 _ (ReflectliteType.method ReflectliteType.elem) Tryd.func109 (by kernel_rfl) (by kernel_rfl) (by kernel_rfl) (by kernel_rfl)
  have h110 := @run_callFunc_extern Tryd.prog 110 _ (ReflectliteType.relation "Implements" ReflectliteType.implements_) Tryd.func110 (by kernel_rfl) (by kernel_rfl) (by kernel_rfl) (by kernel_rfl)
  have lt : ∀ {a : Addr} {v : Value}, w.cell? a = some v → a.block < w.heap.size := fun {a v} h => by
    rcases Nat.lt_or_ge a.block w.heap.size with h1 | h1
    · exact h1
    · simp [World.cell?, Array.getElem?_eq_none h1] at h
  have hel : e.block < w.heap.size := lt (a := { block := e.block, off := e.off + 2 }) he
  have htl := lt ht
  have hgl : 0 < w.heap.size := lt (a := ⟨0, 0, none⟩) hg
  have f6 := as_vo66
  have f7 := as_ty66
  have mK := as_mK
  have mE := as_mE
  have mI := as_mI
  have k66 := as_k66
  have k26 := as_k26
  have e66 := as_el66
  have i26 := as_im26
  have n8 := as_nil66 ⟨w.heap.size, 0, none⟩ t ((w.alloc (.cells #[.pointer (some t)] 66)).alloc (.cells #[.pointer (some ⟨2, 66, none⟩), .pointer (some ⟨w.heap.size, 0, none⟩), .int .u64 150] 88)) (by simp)
  have hg2 : ((w.alloc (.cells #[.pointer (some t)] 66)).alloc (.cells #[.pointer (some ⟨2, 66, none⟩), .pointer (some ⟨w.heap.size, 0, none⟩), .int .u64 150] 88)).cell? ⟨0, 0, none⟩ = some (.iface 118 (.agg #[.pointer (some ⟨2, 33, none⟩)])) := by
    rw [World.cell?_alloc_lt _ _ ⟨0, 0, none⟩ (by simp), World.cell?_alloc_lt _ _ ⟨0, 0, none⟩ hgl]; exact hg
  have hc := as2 e t ⟨w.heap.size, 0, none⟩ k old ((w.alloc (.cells #[.pointer (some t)] 66)).alloc (.cells #[.pointer (some ⟨2, 66, none⟩), .pointer (some ⟨w.heap.size, 0, none⟩), .int .u64 150] 88))
    (by rw [World.cell?_alloc_lt _ _ ⟨e.block, e.off + 2, none⟩ (by simp; omega), World.cell?_alloc_lt _ _ ⟨e.block, e.off + 2, none⟩ hel]; exact he)
    (by rw [World.cell?_alloc_lt _ _ ⟨w.heap.size, 0, none⟩ (by simp)]; simp)
    (by rw [World.cell?_alloc_lt _ _ t (by simp; omega), World.cell?_alloc_lt _ _ t htl]; exact ht)
    (by rw [World.frozen?_alloc_old _ _ t (by simp; omega), World.frozen?_alloc_old _ _ t (Nat.ne_of_lt htl)]; exact hf)
  go_enter Tryd.func33, Tryd.ntmps33
  go_wp2_with (go_at_call 51; refine hc.mono ?_; rintro ev w' ⟨rfl, rfl⟩)
  go_ret
  exact ⟨rfl, rfl⟩
end Go.Proofs.YtbfgendaafediaaDoor.Fw

/- fault.Kind: an error's kind. -/
namespace Go.Proofs.YtbfgendaafediaaDoor.Fw
open Go Go.RowKit Go.Extern.Stop Go.Stop Go.Extern
set_option maxRecDepth 100000
set_option maxHeartbeats 4000000 in
theorem kindW (e : Addr) (k : Int) (w : World) (hg : w.cell? ⟨0, 0, none⟩ = some (.iface 118 (.agg #[.pointer (some ⟨2, 33, none⟩)]))) (he : w.cell? { block := e.block, off := e.off + 2 } = some (.iface 26 (.int .i64 k))) :
    Calls Tryd.prog 13 #[.iface 101 (.pointer (some e))] w fun ev w' => ev = .returned (.int .i64 k) ∧ Below w.heap.size w w' := by
  have lt : ∀ {a : Addr} {v : Value}, w.cell? a = some v → a.block < w.heap.size := fun {a v} h => by
    rcases Nat.lt_or_ge a.block w.heap.size with h1 | h1
    · exact h1
    · simp [World.cell?, Array.getElem?_eq_none h1] at h
  have hel : e.block < w.heap.size := lt (a := { block := e.block, off := e.off + 2 }) he
  have hgl : 0 < w.heap.size := lt (a := ⟨0, 0, none⟩) hg
  have hc := as1 e ⟨w.heap.size, 0, none⟩ k (.int .i64 0) (w.alloc (.cells #[.int .i64 0] 26)) (by rw [World.cell?_alloc_lt _ _ ⟨0, 0, none⟩ hgl]; exact hg)
    (by rw [World.cell?_alloc_lt _ _ ⟨e.block, e.off + 2, none⟩ hel]; exact he) (by simp) (by simp)
  go_enter Tryd.func13, Tryd.ntmps13
  go_wp2_with (go_at_call 33; refine hc.mono ?_; rintro ev w' ⟨rfl, rfl⟩)
  go_ret
  refine ⟨rfl, ?_⟩
  exact (((((Below.refl _ w).alloc (Nat.le_refl _) _).alloc (by simp) _).alloc (by simp; omega) _).alloc (by simp; omega) _).alloc (by simp; omega) _
theorem glof : glOf Tryd.prog = some (0, .iface 118 (.agg #[.pointer (some ⟨2, 33, none⟩)])) := by kernel_rfl
theorem call13 (k at_ : Int) (what : S8) : CallsTo Tryd.prog 13 [fltD k at_ what] (.int .i64 k) := by
  refine ⟨⟨_, Tryd.func13, by decide, by decide⟩, fun I w vs him hrep => ?_⟩
  obtain ⟨v, us, rfl, hv, rfl⟩ := hrep
  obtain ⟨u, rfl, hu⟩ := hv
  obtain ⟨a, rfl, h1, h2, h3, _⟩ := hu
  obtain ⟨_, hi, z, hz, hz2⟩ := h3
  obtain ⟨y, rfl, rfl⟩ := hz2
  have hg := (him.2 _ _ glof).2
  refine (kindW a k w hg ?_).mono ?_
  · have e : a.add (0 + 1 + 1) = { block := a.block, off := a.off + 2 } := rfl
    rw [← e]; exact hz
  · rintro ev w' ⟨rfl, hb⟩
    exact ⟨_, I, rfl, fun _ _ h => h, fun _ _ h => .inl h, fun b o h => Nat.lt_of_lt_of_le (him.1 b o h) hb.size, rfl, hb⟩
set_option maxHeartbeats 4000000
theorem run13n  : Runs Tryd.prog T 11 (Tryd.f13.body.getD .skip) Tryd.f13.results.toList [.nili] (.int .i64 0) := by
  refine ⟨Nat.le_of_ble_eq_true rfl, ?_⟩
  conv => whnf
  exact ⟨rfl, rfl⟩
theorem call13n  : CallsTo Tryd.prog 13 [.nili] (.int .i64 0) := calls Tryd.func13 rfl (by decide) (run13n)
end Go.Proofs.YtbfgendaafediaaDoor.Fw

/- Plain: what sorting gives. -/
namespace Go.Proofs.YtbfgendaafediaaDoor.Fw
open Go Go.RowKit
set_option maxRecDepth 100000

theorem lt8_irrefl : ∀ a : S8, lt8 a a = false
  | [] => rfl
  | x :: a => by simp [lt8, bytesLess, Op.bytesLess]; exact lt8_irrefl a
theorem lt8_cons (x y : UInt8) (a b : S8) : lt8 (x :: a) (y :: b) = true ↔ x < y ∨ (x = y ∧ lt8 a b = true) := by
  unfold lt8 bytesLess
  rw [Op.bytesLess]
  by_cases h1 : x < y
  · simp [h1]
  · by_cases h2 : y < x
    · have : x ≠ y := fun e => by subst e; exact UInt8.lt_irrefl _ h2
      simp [h1, h2, this]
    · have : x = y := UInt8.le_antisymm (UInt8.not_lt.1 h2) (UInt8.not_lt.1 h1)
      simp [this]
theorem lt8_trans : ∀ {a b c : S8}, lt8 a b = true → lt8 b c = true → lt8 a c = true
  | [], [], _, h, _ => by cases h
  | [], _ :: _, [], _, h => by cases h
  | [], _ :: _, _ :: _, _, _ => rfl
  | _ :: _, [], _, h, _ => by cases h
  | _ :: _, _ :: _, [], _, h => by cases h
  | x :: a, y :: b, z :: c, h1, h2 => by
    rw [lt8_cons] at h1 h2 ⊢
    rcases h1 with h1 | ⟨rfl, h1⟩
    · rcases h2 with h2 | ⟨rfl, h2⟩
      · exact .inl (UInt8.lt_trans h1 h2)
      · exact .inl h1
    · rcases h2 with h2 | ⟨rfl, h2⟩
      · exact .inl h2
      · exact .inr ⟨rfl, lt8_trans h1 h2⟩
theorem lt8_tri : ∀ {a b : S8}, lt8 a b = false → lt8 b a = false → a = b
  | [], [], _, _ => rfl
  | [], _ :: _, h, _ => by cases h
  | _ :: _, [], _, h => by cases h
  | x :: a, y :: b, h1, h2 => by
    have e1 := fun h => (Bool.eq_false_iff.1 h1) ((lt8_cons x y a b).2 h)
    have e2 := fun h => (Bool.eq_false_iff.1 h2) ((lt8_cons y x b a).2 h)
    have h : x = y := UInt8.le_antisymm (UInt8.not_lt.1 fun h => e2 (.inl h)) (UInt8.not_lt.1 fun h => e1 (.inl h))
    subst h
    have := lt8_tri (a := a) (b := b) (Bool.eq_false_iff.2 fun h => e1 (.inr ⟨rfl, h⟩)) (Bool.eq_false_iff.2 fun h => e2 (.inr ⟨rfl, h⟩))
    rw [this]
theorem lt8_asymm {a b : S8} (h : lt8 a b = true) : lt8 b a = false := by
  cases hb : lt8 b a with
  | false => rfl
  | true => have := lt8_trans h hb; rw [lt8_irrefl] at this; cases this
theorem lt8_ge_trans {a b c : S8} (h1 : lt8 a b = false) (h2 : lt8 b c = false) : lt8 a c = false := by
  cases hc : lt8 a c with
  | false => rfl
  | true =>
    exfalso
    cases hb : lt8 b a with
    | true => have := lt8_trans hb hc; rw [h2] at this; cases this
    | false =>
      have := lt8_tri h1 hb; subst this
      rw [h2] at hc; cases hc

/-- An order that may be sorted by. -/
structure Ord {α : Type} (lt : α → α → Bool) : Prop where
  asymm : ∀ {a b}, lt a b = true → lt b a = false
  trans : ∀ {a b c}, lt a b = false → lt b c = false → lt a c = false
theorem ord8 : Ord lt8 := ⟨lt8_asymm, lt8_ge_trans⟩

section
variable {α : Type} (lt : α → α → Bool)
def insRev (a : α) : List α → List α
  | [] => [a]
  | b :: Q => bif lt a b then b :: insRev a Q else a :: b :: Q
theorem insRev_perm (a : α) : ∀ Q : List α, (insRev lt a Q).Perm (a :: Q)
  | [] => .refl _
  | b :: Q => by
    unfold insRev
    cases lt a b with
    | true => exact ((insRev_perm a Q).cons b).trans (.swap ..)
    | false => exact .refl _
theorem sift_eq : ∀ (j : Nat) (P D : List α) (a : α), P.length = j → sift lt j (P ++ a :: D) = (insRev lt a P.reverse).reverse ++ D
  | 0, P, D, a, h => by
    have := List.eq_nil_of_length_eq_zero h; subst this
    rfl
  | j + 1, P, D, a, h => by
    rcases List.eq_nil_or_concat P with rfl | ⟨P', b, rfl⟩
    · cases h
    · rw [List.concat_eq_append, List.length_append, List.length_singleton] at h
      have hj : P'.length = j := by omega
      rw [List.concat_eq_append]
      have g1 : (P' ++ [b] ++ a :: D)[j + 1]? = some a := by
        rw [List.getElem?_append_right (by simp; omega)]; simp [hj]
      have g2 : (P' ++ [b] ++ a :: D)[j]? = some b := by
        rw [List.append_assoc, List.getElem?_append_right (by omega)]; simp [hj]
      unfold sift
      rw [g1, g2]
      simp only [List.reverse_append, List.reverse_cons, List.reverse_nil, List.nil_append, List.singleton_append]
      unfold insRev
      cases lt a b with
      | true =>
        rw [cond_true, cond_true]
        have hs : ((P' ++ [b] ++ a :: D).set (j + 1) b).set j a = P' ++ a :: (b :: D) := by
          rw [List.append_assoc, List.set_append_right _ _ (by omega), List.set_append_right _ _ (by omega)]
          have : j + 1 - P'.length = 1 := by omega
          rw [this, show j - P'.length = 0 from by omega]
          rfl
        rw [hs, sift_eq j P' (b :: D) a hj]
        simp
      | false =>
        rw [cond_false, cond_false]; simp
def rs (L : List α) : List α := L.foldl (fun r a => insRev lt a r) []
theorem fold_perm : ∀ (L r : List α), (L.foldl (fun r a => insRev lt a r) r).Perm (r ++ L)
  | [], r => by simp
  | a :: L, r => by
    rw [List.foldl_cons]
    refine (fold_perm L _).trans ?_
    exact ((insRev_perm lt a r).append_right L).trans (List.perm_middle.symm)
theorem rs_perm (L : List α) : (rs lt L).Perm L := fold_perm lt L []
theorem sortTo_eq (L : List α) : ∀ i, i ≤ L.length → sortTo lt L i = (rs lt (L.take i)).reverse ++ L.drop i
  | 0, _ => by simp [sortTo, rs]
  | i + 1, h => by
    have hi : i < L.length := h
    rw [sortTo, sortTo_eq L i (by omega), List.drop_eq_getElem_cons hi, sift_eq lt i _ _ _ (by rw [List.length_reverse, (rs_perm lt _).length_eq, List.length_take]; omega)]
    rw [List.reverse_reverse, List.take_add_one, List.getElem?_eq_getElem hi]
    unfold rs
    rw [List.foldl_append]; rfl
theorem isort_eq (L : List α) : isort lt L = (rs lt L).reverse := by
  unfold isort
  rw [sortTo_eq lt L L.length (Nat.le_refl _), List.take_length, List.drop_length, List.append_nil]
theorem isort_perm (L : List α) : (isort lt L).Perm L := by
  rw [isort_eq]; exact (List.reverse_perm _).trans (rs_perm lt L)
variable {lt} (ho : Ord lt)
include ho
theorem insRev_desc {a : α} : ∀ {Q : List α}, Q.Pairwise (fun x y => lt x y = false) → (insRev lt a Q).Pairwise fun x y => lt x y = false
  | [], _ => by simp [insRev]
  | b :: Q, h => by
    have h' := List.pairwise_cons.1 h
    unfold insRev
    cases hab : lt a b with
    | true =>
      rw [cond_true]
      refine List.pairwise_cons.2 ⟨fun y hy => ?_, insRev_desc h'.2⟩
      rcases List.mem_cons.1 ((insRev_perm lt a Q).mem_iff.1 hy) with rfl | hy
      · exact ho.asymm hab
      · exact h'.1 y hy
    | false =>
      rw [cond_false]
      refine List.pairwise_cons.2 ⟨fun y hy => ?_, h⟩
      rcases List.mem_cons.1 hy with rfl | hy
      · exact hab
      · exact ho.trans hab (h'.1 y hy)
theorem fold_desc : ∀ (L r : List α), r.Pairwise (fun x y => lt x y = false) → (L.foldl (fun r a => insRev lt a r) r).Pairwise fun x y => lt x y = false
  | [], r, h => h
  | a :: L, r, h => fold_desc L _ (insRev_desc ho h)
theorem isort_sorted (L : List α) : (isort lt L).Pairwise fun x y => lt y x = false := by
  rw [isort_eq, List.pairwise_reverse]
  exact fold_desc ho L [] .nil
omit ho in
theorem fold_same : ∀ (L r : List α), L.Pairwise (fun x y => lt y x = false) → (∀ x ∈ r, ∀ y ∈ L, lt y x = false) → L.foldl (fun r a => insRev lt a r) r = L.reverse ++ r
  | [], r, _, _ => rfl
  | a :: L, r, h, hr => by
    have h' := List.pairwise_cons.1 h
    have hi : insRev lt a r = a :: r := by
      cases r with
      | nil => rfl
      | cons b Q => unfold insRev; rw [hr b (List.mem_cons_self ..) a (List.mem_cons_self ..)]; rfl
    rw [List.foldl_cons, hi, fold_same L (a :: r) h'.2 fun x hx y hy => by
      rcases List.mem_cons.1 hx with rfl | hx
      · exact h'.1 y hy
      · exact hr x hx y (List.mem_cons_of_mem _ hy)]
    simp
omit ho in
theorem isort_same {L : List α} (h : L.Pairwise (fun x y => lt y x = false)) : isort lt L = L := by
  rw [isort_eq, rs, fold_same L [] h (fun x hx => by cases hx)]; simp
end
theorem ordP (k : Nat) : Ord (ltP k) := ⟨fun h => lt8_asymm h, fun h1 h2 => lt8_ge_trans h1 h2⟩
end Go.Proofs.YtbfgendaafediaaDoor.Fw

/- Making a table of rows: it comes to one, or to an error. -/
namespace Go.Proofs.YtbfgendaafediaaDoor.Fw
open Go Go.RowKit
set_option maxRecDepth 100000

theorem least_of {p : Nat → Prop} (h : ∃ n, p n) : ∃ n, p n ∧ ∀ m, m < n → ¬ p m := by
  obtain ⟨n, hn⟩ := h
  induction n using Nat.strongRecOn with
  | ind n ih =>
    by_cases hc : ∃ m, m < n ∧ p m
    · obtain ⟨m, h1, h2⟩ := hc; exact ih m h1 h2
    · exact ⟨n, hn, fun m hm hp => hc ⟨m, hm, hp⟩⟩
def upAt (k : Nat) (S : List S8) (j : Nat) : Prop := ∀ x y : S8, S[j]? = some x → S[j + 1]? = some y → lt8 (x.take k) (y.take k) = true
theorem first_bad {k : Nat} {S : List S8} (h : ¬ risesK k S) : ∃ q, (∃ x y, S[q]? = some x ∧ S[q + 1]? = some y ∧ lt8 (x.take k) (y.take k) = false) ∧ ∀ j, j < q → upAt k S j := by
  have h1 : ∃ q, ¬ upAt k S q := by
    refine Classical.byContradiction fun hn => h fun j x y hx hy => ?_
    exact (Classical.byContradiction fun hu => hn ⟨j, hu⟩ : upAt k S j) x y hx hy
  obtain ⟨q, hq, hm⟩ := least_of h1
  refine ⟨q, ?_, fun j hj => Classical.byContradiction fun hu => hm j hj hu⟩
  refine Classical.byContradiction fun hn => hq fun x y hx hy => ?_
  cases hl : lt8 (x.take k) (y.take k) with
  | true => rfl
  | false => exact absurd ⟨x, y, hx, hy, hl⟩ hn
/-- Rows of a width, in order. -/
def srt (k : Nat) (l : List S8) : List S8 := isort (ltP k) l
theorem srt_len (k : Nat) (l : List S8) : (srt k l).length = l.length := sortTo_length (ltP k) _ _
theorem srt_all {k w : Nat} {l : List S8} (hw : ∀ x ∈ l, x.length = w) : ∀ x ∈ srt k l, x.length = w := sortTo_all (ltP k) hw _
theorem new_ok (w k : Nat) (S : List S8) (h : 1 ≤ k ∧ k ≤ w ∧ w ≤ 255) (hl : S.length ≤ 1000) (hw : ∀ x ∈ S, x.length = w) (hr : risesK k S) : CallsTo Tryd.prog 18 [.int .i64 w, .int .i64 k, .str S.flatten] (.tup [(tabOf w k S).d, .nili]) :=
  call18c (tabOf w k S) (tabOf_ok h hw hl) (tabOf_mod hw) (fun j h1 h2 => by
    rw [tabOf_n (by omega) hw] at h2
    have hx : S[j - 1]? = some S[j - 1] := List.getElem?_eq_getElem (by omega)
    have hy : S[j]? = some S[j] := List.getElem?_eq_getElem h2
    unfold Tab.up
    rw [tabOf_key hw hx, tabOf_key hw hy]
    exact hr (j - 1) _ _ hx (by rw [show j - 1 + 1 = j from by omega]; exact hy))
theorem new_bad (w k : Nat) (S : List S8) (h : 1 ≤ k ∧ k ≤ w ∧ w ≤ 255) (hl : S.length ≤ 1000) (hw : ∀ x ∈ S, x.length = w) (q : Nat) (x y : S8) (hx : S[q]? = some x) (hy : S[q + 1]? = some y) (hb : lt8 (x.take k) (y.take k) = false) (hu : ∀ j, j < q → upAt k S j) :
    CallsTo Tryd.prog 18 [.int .i64 w, .int .i64 k, .str S.flatten] (.tup [.nilp, fltD 13 (((q + 1) * w : Nat) : Int) TABLE]) := by
  have hlt := (List.getElem?_eq_some_iff.1 hy).1
  refine call18d (tabOf w k S) (tabOf_ok h hw hl) (tabOf_mod hw) (q + 1) (by omega) (by rw [tabOf_n (by omega) hw]; exact hlt) (fun j h1 h2 => ?_) ?_
  · have hx' : S[j - 1]? = some S[j - 1] := List.getElem?_eq_getElem (by omega)
    have hy' : S[j]? = some S[j] := List.getElem?_eq_getElem (by omega)
    unfold Tab.up
    rw [tabOf_key hw hx', tabOf_key hw hy']
    exact hu (j - 1) (by omega) _ _ hx' (by rw [show j - 1 + 1 = j from by omega]; exact hy')
  · unfold Tab.up
    rw [show q + 1 - 1 = q from by omega, tabOf_key hw hx, tabOf_key hw hy]
    exact hb
theorem build_ok (w k : Nat) (l : List S8) (h : 1 ≤ k ∧ k ≤ w ∧ w ≤ 255) (hl : l.length ≤ 12) (hw : ∀ x ∈ l, x.length = w) (hr : risesK k (srt k l)) : CallsTo Tryd.prog 12 [.int .i64 w, .int .i64 k, .sl 0 1 (l.map D.str)] (.tup [(tabOf w k (srt k l)).d, .nili]) :=
  call12c w k l h hl hw hr
theorem build_bad (w k : Nat) (l : List S8) (h : 1 ≤ k ∧ k ≤ w ∧ w ≤ 255) (hl : l.length ≤ 12) (hw : ∀ x ∈ l, x.length = w) (q : Nat) (x y : S8) (hx : (srt k l)[q]? = some x) (hy : (srt k l)[q + 1]? = some y) (hb : lt8 (x.take k) (y.take k) = false) (hu : ∀ j, j < q → upAt k (srt k l) j) :
    CallsTo Tryd.prog 12 [.int .i64 w, .int .i64 k, .sl 0 1 (l.map D.str)] (.tup [.nilp, fltD 13 (((q + 1) * w : Nat) : Int) TABLE]) :=
  calls Tryd.func12 rfl (by decide) (run12d w k l _ h hl hw (new_bad w k (srt k l) h (by rw [srt_len]; omega) (srt_all hw) q x y hx hy hb hu))
theorem build_bad' (w k : Nat) (l : List S8) (h : 1 ≤ k ∧ k ≤ w ∧ w ≤ 255) (hl : l.length ≤ 12) (hw : ∀ x ∈ l, x.length = w) (hr : ¬ risesK k (srt k l)) : ∃ q : Nat, CallsTo Tryd.prog 12 [.int .i64 w, .int .i64 k, .sl 0 1 (l.map D.str)] (.tup [.nilp, fltD 13 q TABLE]) := by
  obtain ⟨q, ⟨x, y, hx, hy, hb⟩, hu⟩ := first_bad hr
  exact ⟨_, build_bad w k l h hl hw q x y hx hy hb hu⟩
/-- What begins with nothing: all. -/
theorem pre_nil (s : S8) : pre s [] = true := by unfold pre; cases s <;> rfl
theorem geK_nil (t : Tab) (i : Nat) : geK t [] i = true := by
  unfold geK
  have : lt8 (t.key i) [] = false := by cases t.key i <;> rfl
  rw [this]; rfl
theorem fromK_nil (t : Tab) : fromK t [] = 0 := by
  unfold fromK
  have h := (srch_spec (geK t []) t.n fun _ _ _ _ _ => geK_nil t _).2.1
  refine Classical.byContradiction fun hn => ?_
  have := h 0 (by omega)
  rw [geK_nil] at this; cases this
theorem preGo_nil (t : Tab) : ∀ f i, i + f = t.n → preGo t [] f i = (List.range' i f).map fun j => (j, t.row j)
  | 0, _, _ => rfl
  | f + 1, i, h => by
    rw [preGo, pre_nil, decide_eq_true (by omega), Bool.and_self, cond_true, preGo_nil t f (i + 1) (by omega)]
    rfl
theorem prefL_nil (t : Tab) : prefL t [] = (List.range' 0 t.n).map fun j => (j, t.row j) := by
  unfold prefL
  rw [fromK_nil, preGo_nil t _ _ (by omega)]; rfl
end Go.Proofs.YtbfgendaafediaaDoor.Fw

/- In whatever order: plain. -/
namespace Go.Proofs.YtbfgendaafediaaDoor.Fw
open Go Go.RowKit
set_option maxRecDepth 100000
theorem rises_pw {k : Nat} {S : List S8} (h : risesK k S) : S.Pairwise fun x y => ltP k x y = true := by
  rw [List.pairwise_iff_getElem]
  intro i j hi hj hij
  induction j with
  | zero => omega
  | succ j ih =>
    have h1 := h j S[j] S[j + 1] (List.getElem?_eq_getElem (by omega)) (List.getElem?_eq_getElem hj)
    by_cases e : i = j
    · subst e; exact h1
    · exact lt8_trans (ih (by omega) (by omega)) h1
theorem pw_rises {k : Nat} {S : List S8} (h : S.Pairwise fun x y => ltP k x y = true) : risesK k S := by
  intro j x y hx hy
  rw [List.pairwise_iff_getElem] at h
  obtain ⟨h1, rfl⟩ := List.getElem?_eq_some_iff.1 hx
  obtain ⟨h2, rfl⟩ := List.getElem?_eq_some_iff.1 hy
  exact h j (j + 1) h1 h2 (by omega)
theorem pw_eq {k : Nat} : ∀ {S : List S8} {a b : S8}, (S.Pairwise fun x y => ltP k x y = true) → a ∈ S → b ∈ S → ltP k a b = false → ltP k b a = false → a = b
  | [], a, b, _, h, _, _, _ => by cases h
  | x :: S, a, b, hp, ha0, hb0, h1, h2 => by
    obtain ⟨p1, p2⟩ := List.pairwise_cons.1 hp
    rcases List.mem_cons.1 ha0 with e1 | ha
    · subst e1
      rcases List.mem_cons.1 hb0 with e2 | hb
      · exact e2.symm
      · rw [p1 b hb] at h1; cases h1
    · rcases List.mem_cons.1 hb0 with e2 | hb
      · subst e2; rw [p1 a ha] at h2; cases h2
      · exact pw_eq p2 ha hb h1 h2
theorem srt_perm (k : Nat) (l : List S8) : (srt k l).Perm l := isort_perm _ l
theorem srt_sorted (k : Nat) (l : List S8) : (srt k l).Pairwise fun x y => ltP k y x = false := isort_sorted (ordP k) l
theorem sorted_unique {k : Nat} {S S' : List S8} (hs : S'.Pairwise fun x y => ltP k y x = false) (hr : risesK k S) (hp : S'.Perm S) : S' = S := by
  have hw := rises_pw hr
  refine List.Perm.eq_of_pairwise (le := fun x y => ltP k y x = false) (fun a b ha hb h1 h2 => ?_) hs ?_ hp
  · exact pw_eq hw (hp.mem_iff.1 ha) hb h2 h1
  · exact hw.imp fun {a b} h => lt8_asymm h
theorem srt_unique {k : Nat} {L1 L2 : List S8} (hp : L2.Perm L1) (hr : risesK k (srt k L1)) : srt k L2 = srt k L1 :=
  sorted_unique (srt_sorted k L2) hr (((srt_perm k L2).trans hp).trans (srt_perm k L1).symm)
theorem srt_rises_iff {k : Nat} {L1 L2 : List S8} (hp : L2.Perm L1) : risesK k (srt k L1) ↔ risesK k (srt k L2) :=
  ⟨fun h => by rw [srt_unique hp h]; exact h, fun h => by rw [srt_unique hp.symm h]; exact h⟩
theorem tabOf_row? {w k : Nat} {S : List S8} (hw : ∀ x ∈ S, x.length = w) {i : Nat} (hi : i < S.length) : (tabOf w k S).row i = S[i] := tabOf_row hw (List.getElem?_eq_getElem hi)
end Go.Proofs.YtbfgendaafediaaDoor.Fw

/- Finding rows in a table: plain. -/
namespace Go.Proofs.YtbfgendaafediaaDoor.Fw
open Go Go.RowKit
set_option maxRecDepth 100000
theorem pre_self (s : S8) : pre s s = true := by
  unfold pre
  rw [decide_eq_true (Nat.le_refl _), List.take_length, Bool.true_and]
  exact beq_self_eq_true s
section
variable {w k : Nat} {S : List S8} (h : 1 ≤ k ∧ k ≤ w ∧ w ≤ 255) (hw : ∀ x ∈ S, x.length = w) (hr : risesK k S)
include h hw
theorem find_key {key r : S8} (hf : findT (tabOf w k S) key = some r) : ∃ i, ∃ hi : i < S.length, r = S[i] ∧ S[i].take k = key := by
  unfold findT at hf
  cases hp : prefL (tabOf w k S) key with
  | nil => rw [hp] at hf; cases hf
  | cons p l =>
    obtain ⟨i, r'⟩ := p
    obtain ⟨_, hin, rfl, _⟩ := preGo_head hp
    rw [tabOf_n (by omega) hw] at hin
    rw [hp] at hf
    have hx : S[i]? = some S[i] := List.getElem?_eq_getElem hin
    simp only at hf
    rw [tabOf_key hw hx, tabOf_row hw hx] at hf
    cases hb : (S[i].take k == key) with
    | false => rw [hb] at hf; cases hf
    | true =>
      rw [hb] at hf
      exact ⟨i, hin, (Option.some.inj hf).symm, by simpa using hb⟩
include hr
theorem from_at {i : Nat} (hi : i < S.length) : fromK (tabOf w k S) (S[i].take k) = i := by
  have hn : (tabOf w k S).n = S.length := tabOf_n (by omega) hw
  have hpw := rises_pw hr
  rw [List.pairwise_iff_getElem] at hpw
  have hg : ∀ j, (hj : j < S.length) → geK (tabOf w k S) (S[i].take k) j = !lt8 (S[j].take k) (S[i].take k) := fun j hj => by
    unfold geK; rw [tabOf_key hw (List.getElem?_eq_getElem hj)]
  have hlo : ∀ j, j < i → geK (tabOf w k S) (S[i].take k) j = false := fun j hj => by
    rw [hg j (by omega), show lt8 (S[j].take k) (S[i].take k) = true from hpw j i (by omega) hi hj]; rfl
  have hhi : ∀ j, i ≤ j → j < S.length → geK (tabOf w k S) (S[i].take k) j = true := fun j hj hjl => by
    rw [hg j hjl]
    by_cases e : i = j
    · subst e; rw [lt8_irrefl]; rfl
    · rw [show lt8 (S[j].take k) (S[i].take k) = false from lt8_asymm (hpw i j hi hjl (by omega))]; rfl
  have hs := srch_spec (geK (tabOf w k S) (S[i].take k)) (tabOf w k S).n (fun x y hxy hy hx => by
    rw [hn] at hy
    refine hhi y ?_ hy
    refine Nat.le_of_not_lt fun hlt => ?_
    rw [hlo x (by omega)] at hx; cases hx)
  rw [hn] at hs
  unfold fromK
  rw [hn]
  have h1 : ¬ i < srch (geK (tabOf w k S) (S[i].take k)) S.length := fun hlt => by
    have := hs.2.1 i hlt
    rw [hhi i (Nat.le_refl _) hi] at this; cases this
  have h2 : ¬ srch (geK (tabOf w k S) (S[i].take k)) S.length < i := fun hlt => by
    have := hs.2.2 _ (Nat.le_refl _) (by omega)
    rw [hlo _ hlt] at this; cases this
  omega
theorem find_at {i : Nat} (hi : i < S.length) : findT (tabOf w k S) (S[i].take k) = some S[i] := by
  have hn : (tabOf w k S).n = S.length := tabOf_n (by omega) hw
  have hx : S[i]? = some S[i] := List.getElem?_eq_getElem hi
  unfold findT prefL
  rw [from_at h hw hr hi, hn, show S.length - i = (S.length - (i + 1)) + 1 from by omega, preGo, hn, decide_eq_true hi, tabOf_key hw hx, pre_self]
  simp only [Bool.and_self, cond_true]
  rw [tabOf_key hw hx, beq_self_eq_true, cond_true, tabOf_row hw hx]
omit h hw in
/-- One is left out. -/
theorem erase_rises (n : Nat) : risesK k (S.eraseIdx n) := pw_rises ((rises_pw hr).sublist (List.eraseIdx_sublist S n))
theorem erase_find {n : Nat} (hn : n < S.length) : findT (tabOf w k (S.eraseIdx n)) (S[n].take k) = none := by
  have hw' : ∀ x ∈ S.eraseIdx n, x.length = w := fun x hx => hw x ((List.eraseIdx_sublist S n).mem hx)
  cases hf : findT (tabOf w k (S.eraseIdx n)) (S[n].take k) with
  | none => rfl
  | some r =>
    exfalso
    obtain ⟨i, hi, rfl, he⟩ := find_key h hw' hf
    have hm : (S.eraseIdx n)[i] ∈ S.eraseIdx n := List.getElem_mem hi
    obtain ⟨j, hj, hne, hje⟩ := List.mem_eraseIdx_iff_getElem.1 hm
    rw [← hje] at he
    have hpw := rises_pw hr
    rw [List.pairwise_iff_getElem] at hpw
    rcases Nat.lt_or_gt_of_ne hne with hlt | hlt
    · have := hpw j n hj hn hlt
      unfold ltP at this; rw [he, lt8_irrefl] at this; cases this
    · have := hpw n j hn hj hlt
      unfold ltP at this; rw [he, lt8_irrefl] at this; cases this
end
theorem srt_same {k : Nat} {S : List S8} (hr : risesK k S) : srt k S = S := sorted_unique (srt_sorted k S) hr (srt_perm k S)
theorem take_erase {S : List S8} {i n : Nat} {x : S8} (hx : S[i]? = some x) (hne : i ≠ n) : (S.take (i + 1)).eraseIdx n = (S.take i).eraseIdx n ++ [x] := by
  have hlt := (List.getElem?_eq_some_iff.1 hx).1
  rw [List.take_add_one, hx, Option.toList_some]
  by_cases h : n < (S.take i).length
  · rw [List.eraseIdx_append_of_lt_length h]
  · have hl : (S.take i).length = i := by rw [List.length_take]; omega
    rw [List.eraseIdx_of_length_le (by rw [List.length_append, List.length_singleton]; omega), List.eraseIdx_of_length_le (by omega)]
theorem take_erase_at {S : List S8} {n : Nat} (hn : n < S.length) : (S.take (n + 1)).eraseIdx n = (S.take n).eraseIdx n := by
  have hl : (S.take n).length = n := by rw [List.length_take]; omega
  rw [List.take_add_one, List.getElem?_eq_getElem hn, Option.toList_some, List.eraseIdx_of_length_le (l := S.take n) (by omega), List.eraseIdx_append_of_length_le (by omega), hl, Nat.sub_self]
  simp
end Go.Proofs.YtbfgendaafediaaDoor.Fw

/- The document's answer: making a table of rows. -/
namespace Go.Proofs.YtbfgendaafediaaDoor.Fw
open Go Go.RowKit
set_option maxRecDepth 100000
set_option maxHeartbeats 4000000
section
variable {α : Type} (lt : α → α → Bool)
theorem insRev_split (a : α) : ∀ (Q1 Q2 : List α), (∀ b ∈ Q1, lt a b = true) → (∀ b ∈ Q2, lt a b = false) → insRev lt a (Q1 ++ Q2) = Q1 ++ a :: Q2
  | [], [], _, _ => rfl
  | [], b :: Q, _, h2 => by
    rw [List.nil_append, insRev, h2 b (List.mem_cons_self ..)]; rfl
  | b :: Q1, Q2, h1, h2 => by
    rw [List.cons_append, insRev, h1 b (List.mem_cons_self ..), cond_true, insRev_split a Q1 Q2 (fun x hx => h1 x (List.mem_cons_of_mem _ hx)) h2]; rfl
end
/-- One more row, where it belongs. -/
def insAt (l : List S8) (x : S8) (p : Nat) : List S8 := l.take p ++ x :: l.drop p
theorem srt_snoc {k : Nat} {l : List S8} {x : S8} {p : Nat} (hp : p ≤ (srt k l).length) (h1 : ∀ j y, j < p → (srt k l)[j]? = some y → ltP k x y = false) (h2 : ∀ y, (srt k l)[p]? = some y → ltP k x y = true) :
    srt k (l ++ [x]) = insAt (srt k l) x p := by
  have hs := srt_sorted k l
  have e : srt k (l ++ [x]) = (insRev (ltP k) x (srt k l).reverse).reverse := by
    unfold srt
    rw [isort_eq, isort_eq, rs, rs, List.foldl_append, List.reverse_reverse]; rfl
  rw [e]
  generalize srt k l = S at hp h1 h2 hs
  have hsp : S.reverse = (S.drop p).reverse ++ (S.take p).reverse := by rw [← List.reverse_append, List.take_append_drop]
  rw [hsp, insRev_split]
  · unfold insAt
    simp
  · intro b hb
    rw [List.mem_reverse] at hb
    obtain ⟨j, hj, rfl⟩ := List.mem_iff_getElem.1 hb
    rw [List.length_drop] at hj
    rw [List.getElem_drop]
    have hpl : p < S.length := by omega
    have hy := h2 S[p] (List.getElem?_eq_getElem hpl)
    by_cases hj0 : j = 0
    · subst hj0; exact hy
    · rw [List.pairwise_iff_getElem] at hs
      have hpj := hs p (p + j) hpl (by omega) (by omega)
      cases hc : ltP k x S[p + j] with
      | true => rfl
      | false =>
        have := (ordP k).trans hc hpj
        rw [hy] at this; cases this
  · intro b hb
    rw [List.mem_reverse] at hb
    obtain ⟨j, hj, rfl⟩ := List.mem_iff_getElem.1 hb
    rw [List.length_take] at hj
    rw [List.getElem_take]
    exact h1 j _ (by omega) (List.getElem?_eq_getElem (by omega))
theorem srt_nil (k : Nat) : srt k [] = [] := rfl
theorem le8 (a b : S8) : (bytesLess a b || a == b) = !lt8 b a := by
  change (lt8 a b || a == b) = !lt8 b a
  cases h : lt8 a b with
  | true => rw [lt8_asymm h]; rfl
  | false =>
    by_cases e : a = b
    · subst e; rw [lt8_irrefl]; simp
    · cases h2 : lt8 b a with
      | true => simp [e]
      | false => exact absurd (lt8_tri h h2) e
theorem run10 (w k : Nat) (L : List S8) (h : 1 ≤ k ∧ k ≤ w ∧ w ≤ 255) (hl : L.length ≤ 12) (hw : ∀ x ∈ L, x.length = w) (R : List S8) (e a : Int) (h24 : CallsTo Tryd.prog 24 [.int .i64 w, .int .i64 k, .str (srt k L).flatten] (.agg [.sl 0 1 (R.map D.str), .int .i64 e, .int .i64 a])) : Runs Tryd.prog T 94 (Tryd.f10.body.getD .skip) Tryd.f10.results.toList [.int .i64 w, .int .i64 k, .sl 0 1 (L.map D.str)] (.agg [.sl 0 1 (R.map D.str), .int .i64 e, .int .i64 a]) := by
  refine ⟨Nat.le_of_ble_eq_true rfl, ?_⟩
  conv => whnf
  rw [decide_eq_false (by omega : ¬ ((k : Int) < 1)), decide_eq_false (by omega : ¬ ((w : Int) < (k : Int))), decide_eq_false (by omega : ¬ ((255 : Int) < (w : Int)))]
  conv => whnf
  refine ⟨[.nilT 7 9 1], ?_⟩
  conv => whnf
  refine loop_at (σ := Nat) (fun i env => (env.setT 8 (.int .i64 (i : Int))).setT 7 (.sl 2 1 ((srt k (L.take i)).map D.str))) (fun i => L.length - i) (fun i => i ≤ L.length) 0 (Nat.zero_le _) rfl ?_
  rintro i hi ih
  conv => whnf
  refine ifB_intro (fun hc => ?_) (fun hc => ?_)
  · have hc : (i : Int) < ((L.map D.str).length : Int) := of_decide_eq_true hc
    rw [List.length_map] at hc
    have hlt : i < L.length := by omega
    have hx : L[i]? = some L[i] := List.getElem?_eq_getElem hlt
    have hxw := hw _ (List.getElem_mem hlt)
    have hwi : IntKind.i64.wrap ((i : Int) + 1) = ((i + 1 : Nat) : Int) := by rw [IntKind.wrap_i64]; omega
    have ih' := ih (i + 1) (by omega) (by omega)
    conv => whnf
    refine sideB_intro (fun _ => decide_eq_true (by simp only [List.length_map]; omega)) ?_
    rw [getD_enc (enc := D.str) (x := L[i]) (show L[(i : Int).toNat]? = some L[i] from hx)]
    conv => whnf
    rw [hxw, show ((w : Int) != (w : Int)) = false by simp]
    conv => whnf
    refine ⟨[], ?_⟩
    conv => whnf
    rw [List.take_add_one, hx, Option.toList_some] at ih'
    have key : ∀ p : Nat, p ≤ (srt k (L.take i)).length → (∀ (j : Nat) (y : S8), j < p → (srt k (L.take i))[j]? = some y → ltP k L[i] y = false) → (∀ y : S8, (srt k (L.take i))[p]? = some y → ltP k L[i] y = true) → srt k (L.take i ++ [L[i]]) = insAt (srt k (L.take i)) L[i] p := fun p a b c => srt_snoc a b c
    have hMl : (srt k (L.take i)).length = i := by rw [srt_len, List.length_take]; omega
    have hMw : ∀ y ∈ srt k (L.take i), y.length = w := srt_all fun y hy => hw y (List.mem_of_mem_take hy)
    generalize srt k (L.take i) = M at ih' key hMl hMw
    generalize L[i] = x at hx hxw ih' key
    refine loop_at (σ := Nat) (fun p env => (env.setT 9 (.int .i64 (p : Int)))) (fun p => M.length - p) (fun p => p ≤ M.length ∧ ∀ j y, j < p → M[j]? = some y → ltP k x y = false) 0 ⟨Nat.zero_le _, fun j y hj => absurd hj (by omega)⟩ rfl ?_
    rintro p ⟨hp, hpl⟩ ih2
    have e1 : ∀ s : S8, sliceD s (Int.toNat ((0 : Nat) : Int)) (Int.toNat (k : Int)) = s.take k := fun s => by simp [sliceD]
    have hwp : IntKind.i64.wrap ((p : Int) + 1) = ((p + 1 : Nat) : Int) := by rw [IntKind.wrap_i64]; omega
    conv => whnf
    by_cases hpM : p < M.length
    · have hy : M[p]? = some M[p] := List.getElem?_eq_getElem hpM
      have hyw := hMw _ (List.getElem_mem hpM)
      refine ⟨rfl, ?_⟩
      conv => whnf
      refine sideB_intro (fun _ => decide_eq_true (by simp only [List.length_map]; omega)) ?_
      rw [getD_enc (enc := D.str) (x := M[p]) (show M[(p : Int).toNat]? = some M[p] from hy)]
      conv => whnf
      refine sideB_intro (fun _ => decide_eq_true (by omega)) ?_
      rw [e1]
      conv => whnf
      refine sideB_intro (fun _ => decide_eq_true (by simp only [List.length_map]; omega)) ?_
      rw [getD_enc (enc := D.str) (x := x) (show L[(i : Int).toNat]? = some x from hx)]
      conv => whnf
      refine sideB_intro (fun _ => decide_eq_true (by omega)) ?_
      rw [e1]
      conv => whnf
      rw [List.length_map, decide_eq_true (by omega : (p : Int) < (M.length : Int)), le8]
      cases hlt : ltP k x M[p] with
      | false =>
        rw [show lt8 (x.take k) (M[p].take k) = false from hlt]
        have ih2' := ih2 (p + 1) ⟨by omega, fun j y hj hy2 => by
          by_cases e : j = p
          · subst e; rw [hy] at hy2; cases hy2; exact hlt
          · exact hpl j y (by omega) hy2⟩ (by omega)
        conv => whnf
        rw [hwp]
        exact ih2'
      | true =>
        rw [show lt8 (x.take k) (M[p].take k) = true from hlt]
        rw [key p hp hpl (fun y hy2 => by rw [hy] at hy2; cases hy2; exact hlt)] at ih'
        conv => whnf
        have hsl : sliceD (M.map D.str) (Int.toNat (p : Int)) (Int.toNat ((M.map D.str).length : Int)) = (M.drop p).map D.str := by
          unfold sliceD
          rw [Int.toNat_natCast, Int.toNat_natCast, List.map_drop, List.take_of_length_le (by simp)]
        have hml : (M.map D.str).length = M.length := List.length_map ..
        refine sideB_intro (fun _ => decide_eq_true (by omega)) ?_
        rw [hsl]
        conv => whnf
        refine sideB_intro (fun _ => decide_eq_true (by simp; omega)) ?_
        conv => whnf
        refine ⟨rfl, ?_⟩
        conv => whnf
        have hsl2 : sliceD (M.map D.str) (Int.toNat ((0 : Nat) : Int)) (Int.toNat (p : Int)) = (M.take p).map D.str := by
          unfold sliceD
          rw [Int.toNat_natCast, Int.toNat_natCast, List.drop_zero, List.map_take]; try rfl
        refine sideB_intro (fun _ => decide_eq_true (by omega)) ?_
        rw [hsl2]
        conv => whnf
        refine sideB_intro (fun _ => decide_eq_true (by simp only [List.length_map]; omega)) ?_
        rw [getD_enc (enc := D.str) (x := x) (show L[(i : Int).toNat]? = some x from hx)]
        conv => whnf
        refine sideB_intro (fun _ => decide_eq_true (by simp; omega)) ?_
        conv => whnf
        refine sideB_intro (fun _ => decide_eq_true (by simp; omega)) ?_
        conv => whnf
        rw [hwi]
        have hins : ((M.take p).map D.str ++ [D.str x]) ++ ([] ++ (M.drop p).map D.str) = (insAt M x p).map D.str := by simp [insAt]
        rw [hins]
        exact ih'
    · have hg0 : decide ((p : Int) < ((M.map D.str).length : Int)) = true → False := by
        rw [List.length_map]; intro hh; have := of_decide_eq_true hh; omega
      have hgd : (M.map D.str).getD (Int.toNat (p : Int)) D.undef = D.undef := by
        rw [List.getD_eq_getElem?_getD, List.getElem?_eq_none (by simp; omega)]; rfl
      refine ⟨rfl, ?_⟩
      conv => whnf
      refine sideB_intro (fun hg => (hg0 hg).elim) ?_
      rw [hgd]
      conv => whnf
      repeat (refine ⟨fun hg => hg0 hg, ?_⟩; conv => whnf)
      refine sideB_intro (fun _ => decide_eq_true (by simp only [List.length_map]; omega)) ?_
      rw [getD_enc (enc := D.str) (x := x) (show L[(i : Int).toNat]? = some x from hx)]
      conv => whnf
      refine sideB_intro (fun _ => decide_eq_true (by omega)) ?_
      rw [e1]
      conv => whnf
      repeat (refine ⟨fun hg => hg0 hg, ?_⟩; conv => whnf)
      rw [List.length_map, decide_eq_false (by omega : ¬ ((p : Int) < (M.length : Int)))]
      rw [key p hp hpl (fun y hy2 => by rw [List.getElem?_eq_none (by omega)] at hy2; cases hy2)] at ih'
      conv => whnf
      have hsl : sliceD (M.map D.str) (Int.toNat (p : Int)) (Int.toNat ((M.map D.str).length : Int)) = (M.drop p).map D.str := by
        unfold sliceD
        rw [Int.toNat_natCast, Int.toNat_natCast, List.map_drop, List.take_of_length_le (by simp)]
      have hml : (M.map D.str).length = M.length := List.length_map ..
      refine sideB_intro (fun _ => decide_eq_true (by omega)) ?_
      rw [hsl]
      conv => whnf
      refine sideB_intro (fun _ => decide_eq_true (by simp; omega)) ?_
      conv => whnf
      refine ⟨rfl, ?_⟩
      conv => whnf
      have hsl2 : sliceD (M.map D.str) (Int.toNat ((0 : Nat) : Int)) (Int.toNat (p : Int)) = (M.take p).map D.str := by
        unfold sliceD
        rw [Int.toNat_natCast, Int.toNat_natCast, List.drop_zero, List.map_take]; try rfl
      refine sideB_intro (fun _ => decide_eq_true (by omega)) ?_
      rw [hsl2]
      conv => whnf
      refine sideB_intro (fun _ => decide_eq_true (by simp only [List.length_map]; omega)) ?_
      rw [getD_enc (enc := D.str) (x := x) (show L[(i : Int).toNat]? = some x from hx)]
      conv => whnf
      refine sideB_intro (fun _ => decide_eq_true (by simp; omega)) ?_
      conv => whnf
      refine sideB_intro (fun _ => decide_eq_true (by simp; omega)) ?_
      conv => whnf
      rw [hwi]
      have hins : ((M.take p).map D.str ++ [D.str x]) ++ ([] ++ (M.drop p).map D.str) = (insAt M x p).map D.str := by simp [insAt]
      rw [hins]
      exact ih'
  · have hc : ¬ ((i : Int) < ((L.map D.str).length : Int)) := of_decide_eq_false hc
    rw [List.length_map] at hc
    rw [List.take_of_length_le (by omega)]
    have hSl : (srt k L).length = L.length := srt_len k L
    have hSw := srt_all (k := k) hw
    generalize srt k L = S at h24 hSl hSw
    clear ih
    conv => whnf
    refine ⟨[], ?_⟩
    conv => whnf
    refine loop_at (σ := Nat) (fun j env => (env.setT 12 (.int .i64 (j : Int))).setT 11 (.str (S.take j).flatten)) (fun j => S.length - j) (fun j => j ≤ S.length) 0 (Nat.zero_le _) rfl ?_
    rintro j hj ih
    conv => whnf
    refine ifB_intro (fun hc2 => ?_) (fun hc2 => ?_)
    · have hc2 : (j : Int) < ((S.map D.str).length : Int) := of_decide_eq_true hc2
      rw [List.length_map] at hc2
      have hjl : j < S.length := by omega
      have hx : S[j]? = some S[j] := List.getElem?_eq_getElem hjl
      have hxw := hSw _ (List.getElem_mem hjl)
      have hwj : IntKind.i64.wrap ((j : Int) + 1) = ((j + 1 : Nat) : Int) := by rw [IntKind.wrap_i64]; omega
      have hfl : (S.take j).flatten.length = j * w := by
        rw [flat_len fun y hy => hSw y (List.mem_of_mem_take hy), List.length_take, Nat.min_eq_left (by omega)]
      have hmul : j * w ≤ 12 * 255 := Nat.mul_le_mul (by omega) h.2.2
      have ih' := ih (j + 1) (by omega) (by omega)
      rw [List.take_add_one, hx, Option.toList_some, List.flatten_append] at ih'
      generalize S[j] = x at hx hxw ih'
      rw [show [x].flatten = x by simp] at ih'
      conv => whnf
      refine sideB_intro (fun _ => decide_eq_true (by simp only [List.length_map]; omega)) ?_
      rw [getD_enc (enc := D.str) (x := x) (show S[(j : Int).toNat]? = some x from hx)]
      conv => whnf
      refine sideB_intro (fun _ => decide_eq_true (by omega)) ?_
      conv => whnf
      rw [hwj]
      exact ih'
    · have hc2 : ¬ ((j : Int) < ((S.map D.str).length : Int)) := of_decide_eq_false hc2
      rw [List.length_map] at hc2
      rw [List.take_of_length_le (by omega)]
      conv => whnf
      refine ⟨_, fun _ => h24, ?_⟩
      conv => whnf
      exact ⟨rfl, rfl⟩
theorem call10 (w k : Nat) (L : List S8) (h : 1 ≤ k ∧ k ≤ w ∧ w ≤ 255) (hl : L.length ≤ 12) (hw : ∀ x ∈ L, x.length = w) (R : List S8) (e a : Int) (h24 : CallsTo Tryd.prog 24 [.int .i64 w, .int .i64 k, .str (srt k L).flatten] (.agg [.sl 0 1 (R.map D.str), .int .i64 e, .int .i64 a])) : CallsTo Tryd.prog 10 [.int .i64 w, .int .i64 k, .sl 0 1 (L.map D.str)] (.agg [.sl 0 1 (R.map D.str), .int .i64 e, .int .i64 a]) := calls Tryd.func10 rfl (by decide) (run10 w k L h hl hw R e a h24)
end Go.Proofs.YtbfgendaafediaaDoor.Fw

/- The document's answer: what is refused. -/
namespace Go.Proofs.YtbfgendaafediaaDoor.Fw
open Go Go.RowKit
set_option maxRecDepth 100000
set_option maxHeartbeats 4000000
theorem badwk {w k : Int} (h : ¬ (1 ≤ k ∧ k ≤ w ∧ w ≤ 255)) : (bif (bif decide (k < 1) then true else decide (w < k)) then true else decide (255 < w)) = true := by
  by_cases h1 : k < 1
  · simp [h1]
  · by_cases h2 : w < k
    · simp [h2]
    · have h3 : 255 < w := by omega
      simp [h3]
theorem run24a (w k : Int) (bs : S8) (h : ¬ (1 ≤ k ∧ k ≤ w ∧ w ≤ 255)) : Runs Tryd.prog T 74 (Tryd.f24.body.getD .skip) Tryd.f24.results.toList [.int .i64 w, .int .i64 k, .str bs] (.agg [.sl 0 1 [], .int .i64 1, .int .i64 0]) := by
  refine ⟨Nat.le_of_ble_eq_true rfl, ?_⟩
  conv => whnf
  rw [badwk h]
  conv => whnf
  exact ⟨rfl, rfl⟩
theorem call24a (w k : Int) (bs : S8) (h : ¬ (1 ≤ k ∧ k ≤ w ∧ w ≤ 255)) : CallsTo Tryd.prog 24 [.int .i64 w, .int .i64 k, .str bs] (.agg [.sl 0 1 [], .int .i64 1, .int .i64 0]) := calls Tryd.func24 rfl (by decide) (run24a w k bs h)
theorem run24b (w k : Nat) (bs : S8) (h : 1 ≤ k ∧ k ≤ w ∧ w ≤ 255) (hm : bs.length % w ≠ 0) : Runs Tryd.prog T 74 (Tryd.f24.body.getD .skip) Tryd.f24.results.toList [.int .i64 w, .int .i64 k, .str bs] (.agg [.sl 0 1 [], .int .i64 12, .int .i64 bs.length]) := by
  refine ⟨Nat.le_of_ble_eq_true rfl, ?_⟩
  conv => whnf
  rw [decide_eq_false (by omega : ¬ ((k : Int) < 1)), decide_eq_false (by omega : ¬ ((w : Int) < (k : Int))), decide_eq_false (by omega : ¬ ((255 : Int) < (w : Int)))]
  conv => whnf
  refine sideB_intro (fun _ => decide_eq_true (by omega)) ?_
  conv => whnf
  have e : (Int.tmod (bs.length : Int) (w : Int) != 0) = true := by
    have : Int.tmod (bs.length : Int) (w : Int) = ((bs.length % w : Nat) : Int) := rfl
    rw [this]; simp; omega
  rw [e]
  conv => whnf
  exact ⟨rfl, rfl⟩
theorem call24b (w k : Nat) (bs : S8) (h : 1 ≤ k ∧ k ≤ w ∧ w ≤ 255) (hm : bs.length % w ≠ 0) : CallsTo Tryd.prog 24 [.int .i64 w, .int .i64 k, .str bs] (.agg [.sl 0 1 [], .int .i64 12, .int .i64 bs.length]) := calls Tryd.func24 rfl (by decide) (run24b w k bs h hm)
theorem run10a (w k : Int) (l : List S8) (h : ¬ (1 ≤ k ∧ k ≤ w ∧ w ≤ 255)) : Runs Tryd.prog T 94 (Tryd.f10.body.getD .skip) Tryd.f10.results.toList [.int .i64 w, .int .i64 k, .sl 0 1 (l.map D.str)] (.agg [.sl 0 1 [], .int .i64 1, .int .i64 0]) := by
  refine ⟨Nat.le_of_ble_eq_true rfl, ?_⟩
  conv => whnf
  rw [badwk h]
  conv => whnf
  exact ⟨rfl, rfl⟩
theorem call10a (w k : Int) (l : List S8) (h : ¬ (1 ≤ k ∧ k ≤ w ∧ w ≤ 255)) : CallsTo Tryd.prog 10 [.int .i64 w, .int .i64 k, .sl 0 1 (l.map D.str)] (.agg [.sl 0 1 [], .int .i64 1, .int .i64 0]) := calls Tryd.func10 rfl (by decide) (run10a w k l h)
/-- Texts, cut into rows. -/
theorem cut_rows {w : Nat} (hw : 0 < w) : ∀ (n : Nat) (s : S8), s.length = n * w → ∃ S : List S8, s = S.flatten ∧ S.length = n ∧ ∀ x ∈ S, x.length = w
  | 0, s, h => ⟨[], by rw [Nat.zero_mul] at h; rw [List.length_eq_zero_iff.1 h]; rfl, rfl, fun x hx => by cases hx⟩
  | n + 1, s, h => by
    rw [Nat.add_mul, Nat.one_mul] at h
    obtain ⟨S, h1, h2, h3⟩ := cut_rows hw n (s.drop w) (by rw [List.length_drop]; omega)
    refine ⟨s.take w :: S, ?_, by simp [h2], fun x hx => ?_⟩
    · rw [List.flatten_cons, ← h1, List.take_append_drop]
    · rcases List.mem_cons.1 hx with rfl | hx
      · rw [List.length_take]; omega
      · exact h3 x hx
end Go.Proofs.YtbfgendaafediaaDoor.Fw

/- The document's answer: a row that is not so long. -/
namespace Go.Proofs.YtbfgendaafediaaDoor.Fw
open Go Go.RowKit
set_option maxRecDepth 100000
set_option maxHeartbeats 4000000
theorem run10b (w k : Nat) (L : List S8) (h : 1 ≤ k ∧ k ≤ w ∧ w ≤ 255) (hl : L.length ≤ 12) (h9 : ∀ x ∈ L, x.length ≤ 9) (q : Nat) (z : S8) (hz : L[q]? = some z) (hq : z.length ≠ w) (hpre : ∀ j y, j < q → L[j]? = some y → y.length = w) : Runs Tryd.prog T 94 (Tryd.f10.body.getD .skip) Tryd.f10.results.toList [.int .i64 w, .int .i64 k, .sl 0 1 (L.map D.str)] (.agg [.sl 0 1 [], .int .i64 12, .int .i64 q]) := by
  refine ⟨Nat.le_of_ble_eq_true rfl, ?_⟩
  conv => whnf
  rw [decide_eq_false (by omega : ¬ ((k : Int) < 1)), decide_eq_false (by omega : ¬ ((w : Int) < (k : Int))), decide_eq_false (by omega : ¬ ((255 : Int) < (w : Int)))]
  conv => whnf
  refine ⟨[.nilT 7 9 1], ?_⟩
  conv => whnf
  refine loop_at (σ := Nat) (fun i env => (env.setT 8 (.int .i64 (i : Int))).setT 7 (.sl 2 1 ((srt k (L.take i)).map D.str))) (fun i => L.length - i) (fun i => i ≤ q) 0 (Nat.zero_le _) rfl ?_
  have hql := (List.getElem?_eq_some_iff.1 hz).1
  rintro i hi ih
  conv => whnf
  refine ifB_intro (fun hc => ?_) (fun hc => ?_)
  · have hc : (i : Int) < ((L.map D.str).length : Int) := of_decide_eq_true hc
    rw [List.length_map] at hc
    have hlt : i < L.length := by omega
    have hx : L[i]? = some L[i] := List.getElem?_eq_getElem hlt
    have hwi : IntKind.i64.wrap ((i : Int) + 1) = ((i + 1 : Nat) : Int) := by rw [IntKind.wrap_i64]; omega
    conv => whnf
    refine sideB_intro (fun _ => decide_eq_true (by simp only [List.length_map]; omega)) ?_
    rw [getD_enc (enc := D.str) (x := L[i]) (show L[(i : Int).toNat]? = some L[i] from hx)]
    conv => whnf
    by_cases hiq : i = q
    · subst hiq
      rw [hx] at hz
      have hz := Option.some.inj hz
      have hne : ((L[i].length : Int) != (w : Int)) = true := by rw [hz]; simp; omega
      rw [hne]
      conv => whnf
      exact ⟨rfl, rfl⟩
    have hxw := hpre i L[i] (by omega) hx
    have ih' := ih (i + 1) (by omega) (by omega)
    rw [hxw, show ((w : Int) != (w : Int)) = false by simp]
    conv => whnf
    refine ⟨[], ?_⟩
    conv => whnf
    rw [List.take_add_one, hx, Option.toList_some] at ih'
    have key : ∀ p : Nat, p ≤ (srt k (L.take i)).length → (∀ (j : Nat) (y : S8), j < p → (srt k (L.take i))[j]? = some y → ltP k L[i] y = false) → (∀ y : S8, (srt k (L.take i))[p]? = some y → ltP k L[i] y = true) → srt k (L.take i ++ [L[i]]) = insAt (srt k (L.take i)) L[i] p := fun p a b c => srt_snoc a b c
    have hMl : (srt k (L.take i)).length = i := by rw [srt_len, List.length_take]; omega
    have hMw : ∀ y ∈ srt k (L.take i), y.length = w := srt_all fun y hy => by
      obtain ⟨j, hj, rfl⟩ := List.mem_iff_getElem.1 hy
      rw [List.length_take] at hj
      rw [List.getElem_take]
      exact hpre j _ (by omega) (List.getElem?_eq_getElem (by omega))
    generalize srt k (L.take i) = M at ih' key hMl hMw
    generalize L[i] = x at hx hxw ih' key
    refine loop_at (σ := Nat) (fun p env => (env.setT 9 (.int .i64 (p : Int)))) (fun p => M.length - p) (fun p => p ≤ M.length ∧ ∀ j y, j < p → M[j]? = some y → ltP k x y = false) 0 ⟨Nat.zero_le _, fun j y hj => absurd hj (by omega)⟩ rfl ?_
    rintro p ⟨hp, hpl⟩ ih2
    have e1 : ∀ s : S8, sliceD s (Int.toNat ((0 : Nat) : Int)) (Int.toNat (k : Int)) = s.take k := fun s => by simp [sliceD]
    have hwp : IntKind.i64.wrap ((p : Int) + 1) = ((p + 1 : Nat) : Int) := by rw [IntKind.wrap_i64]; omega
    conv => whnf
    by_cases hpM : p < M.length
    · have hy : M[p]? = some M[p] := List.getElem?_eq_getElem hpM
      have hyw := hMw _ (List.getElem_mem hpM)
      refine ⟨rfl, ?_⟩
      conv => whnf
      refine sideB_intro (fun _ => decide_eq_true (by simp only [List.length_map]; omega)) ?_
      rw [getD_enc (enc := D.str) (x := M[p]) (show M[(p : Int).toNat]? = some M[p] from hy)]
      conv => whnf
      refine sideB_intro (fun _ => decide_eq_true (by omega)) ?_
      rw [e1]
      conv => whnf
      refine sideB_intro (fun _ => decide_eq_true (by simp only [List.length_map]; omega)) ?_
      rw [getD_enc (enc := D.str) (x := x) (show L[(i : Int).toNat]? = some x from hx)]
      conv => whnf
      refine sideB_intro (fun _ => decide_eq_true (by omega)) ?_
      rw [e1]
      conv => whnf
      rw [List.length_map, decide_eq_true (by omega : (p : Int) < (M.length : Int)), le8]
      cases hlt : ltP k x M[p] with
      | false =>
        rw [show lt8 (x.take k) (M[p].take k) = false from hlt]
        have ih2' := ih2 (p + 1) ⟨by omega, fun j y hj hy2 => by
          by_cases e : j = p
          · subst e; rw [hy] at hy2; cases hy2; exact hlt
          · exact hpl j y (by omega) hy2⟩ (by omega)
        conv => whnf
        rw [hwp]
        exact ih2'
      | true =>
        rw [show lt8 (x.take k) (M[p].take k) = true from hlt]
        rw [key p hp hpl (fun y hy2 => by rw [hy] at hy2; cases hy2; exact hlt)] at ih'
        conv => whnf
        have hsl : sliceD (M.map D.str) (Int.toNat (p : Int)) (Int.toNat ((M.map D.str).length : Int)) = (M.drop p).map D.str := by
          unfold sliceD
          rw [Int.toNat_natCast, Int.toNat_natCast, List.map_drop, List.take_of_length_le (by simp)]
        have hml : (M.map D.str).length = M.length := List.length_map ..
        refine sideB_intro (fun _ => decide_eq_true (by omega)) ?_
        rw [hsl]
        conv => whnf
        refine sideB_intro (fun _ => decide_eq_true (by simp; omega)) ?_
        conv => whnf
        refine ⟨rfl, ?_⟩
        conv => whnf
        have hsl2 : sliceD (M.map D.str) (Int.toNat ((0 : Nat) : Int)) (Int.toNat (p : Int)) = (M.take p).map D.str := by
          unfold sliceD
          rw [Int.toNat_natCast, Int.toNat_natCast, List.drop_zero, List.map_take]; try rfl
        refine sideB_intro (fun _ => decide_eq_true (by omega)) ?_
        rw [hsl2]
        conv => whnf
        refine sideB_intro (fun _ => decide_eq_true (by simp only [List.length_map]; omega)) ?_
        rw [getD_enc (enc := D.str) (x := x) (show L[(i : Int).toNat]? = some x from hx)]
        conv => whnf
        refine sideB_intro (fun _ => decide_eq_true (by simp; omega)) ?_
        conv => whnf
        refine sideB_intro (fun _ => decide_eq_true (by simp; omega)) ?_
        conv => whnf
        rw [hwi]
        have hins : ((M.take p).map D.str ++ [D.str x]) ++ ([] ++ (M.drop p).map D.str) = (insAt M x p).map D.str := by simp [insAt]
        rw [hins]
        exact ih'
    · have hg0 : decide ((p : Int) < ((M.map D.str).length : Int)) = true → False := by
        rw [List.length_map]; intro hh; have := of_decide_eq_true hh; omega
      have hgd : (M.map D.str).getD (Int.toNat (p : Int)) D.undef = D.undef := by
        rw [List.getD_eq_getElem?_getD, List.getElem?_eq_none (by simp; omega)]; rfl
      refine ⟨rfl, ?_⟩
      conv => whnf
      refine sideB_intro (fun hg => (hg0 hg).elim) ?_
      rw [hgd]
      conv => whnf
      repeat (refine ⟨fun hg => hg0 hg, ?_⟩; conv => whnf)
      refine sideB_intro (fun _ => decide_eq_true (by simp only [List.length_map]; omega)) ?_
      rw [getD_enc (enc := D.str) (x := x) (show L[(i : Int).toNat]? = some x from hx)]
      conv => whnf
      refine sideB_intro (fun _ => decide_eq_true (by omega)) ?_
      rw [e1]
      conv => whnf
      repeat (refine ⟨fun hg => hg0 hg, ?_⟩; conv => whnf)
      rw [List.length_map, decide_eq_false (by omega : ¬ ((p : Int) < (M.length : Int)))]
      rw [key p hp hpl (fun y hy2 => by rw [List.getElem?_eq_none (by omega)] at hy2; cases hy2)] at ih'
      conv => whnf
      have hsl : sliceD (M.map D.str) (Int.toNat (p : Int)) (Int.toNat ((M.map D.str).length : Int)) = (M.drop p).map D.str := by
        unfold sliceD
        rw [Int.toNat_natCast, Int.toNat_natCast, List.map_drop, List.take_of_length_le (by simp)]
      have hml : (M.map D.str).length = M.length := List.length_map ..
      refine sideB_intro (fun _ => decide_eq_true (by omega)) ?_
      rw [hsl]
      conv => whnf
      refine sideB_intro (fun _ => decide_eq_true (by simp; omega)) ?_
      conv => whnf
      refine ⟨rfl, ?_⟩
      conv => whnf
      have hsl2 : sliceD (M.map D.str) (Int.toNat ((0 : Nat) : Int)) (Int.toNat (p : Int)) = (M.take p).map D.str := by
        unfold sliceD
        rw [Int.toNat_natCast, Int.toNat_natCast, List.drop_zero, List.map_take]; try rfl
      refine sideB_intro (fun _ => decide_eq_true (by omega)) ?_
      rw [hsl2]
      conv => whnf
      refine sideB_intro (fun _ => decide_eq_true (by simp only [List.length_map]; omega)) ?_
      rw [getD_enc (enc := D.str) (x := x) (show L[(i : Int).toNat]? = some x from hx)]
      conv => whnf
      refine sideB_intro (fun _ => decide_eq_true (by simp; omega)) ?_
      conv => whnf
      refine sideB_intro (fun _ => decide_eq_true (by simp; omega)) ?_
      conv => whnf
      rw [hwi]
      have hins : ((M.take p).map D.str ++ [D.str x]) ++ ([] ++ (M.drop p).map D.str) = (insAt M x p).map D.str := by simp [insAt]
      rw [hins]
      exact ih'
  · exfalso
    have hc : ¬ ((i : Int) < ((L.map D.str).length : Int)) := of_decide_eq_false hc
    rw [List.length_map] at hc
    omega
theorem call10b (w k : Nat) (L : List S8) (h : 1 ≤ k ∧ k ≤ w ∧ w ≤ 255) (hl : L.length ≤ 12) (h9 : ∀ x ∈ L, x.length ≤ 9) (q : Nat) (z : S8) (hz : L[q]? = some z) (hq : z.length ≠ w) (hpre : ∀ j y, j < q → L[j]? = some y → y.length = w) : CallsTo Tryd.prog 10 [.int .i64 w, .int .i64 k, .sl 0 1 (L.map D.str)] (.agg [.sl 0 1 [], .int .i64 12, .int .i64 q]) := calls Tryd.func10 rfl (by decide) (run10b w k L h hl h9 q z hz hq hpre)
end Go.Proofs.YtbfgendaafediaaDoor.Fw

/- The faults of an error that has one, and its kind: what, and where. -/
namespace Go.Proofs.YtbfgendaafediaaDoor.Fw
open Go Go.RowKit Go.Stop
set_option maxRecDepth 100000
set_option maxHeartbeats 4000000
abbrev fltA (kind at_ : Int) (what : S8) : D := .eptr (.agg [.int .i64 at_, .str what, .ifc 26 (.int .i64 kind)]) 0
theorem fu101 : ∃ e, Tryd.prog.underlying 101 = some (.pointer e) := ⟨103, by kernel_rfl⟩
theorem fu144 : Tryd.prog.underlying 144 = some (.interface #[("Unwrap", 127)]) := by kernel_rfl
theorem fz101 (w : World) : (zeroValue 101).run Tryd.prog w = .ok (.pointer none) w := by kernel_rfl
theorem fta1 (c : Ctx) (env : Env) (w : World) (t : Nat) (x : D) (v : Value) (h : RepT c env w (.ifc t x) v) : ∃ u, v = .iface t u ∧ Rep c.I w x u := by simpa [RepT, RepV, RepC, Rep] using h
theorem ta_is (kind at_ : Int) (what : S8) : TaTo Tryd.prog 33 101 true (fltD kind at_ what) (.tup [fltA kind at_ what, .bool true]) := fun c env w v h => by
  obtain ⟨u, rfl, hu⟩ := fta1 c env w _ _ v h
  obtain ⟨e, he⟩ := fu101
  refine ⟨.tuple #[u, .bool true], ?_, [u, .bool true], rfl, ?_, ?_, trivial⟩
  · simp [Instr.typeAssert, run_underlying he]
  · exact hu
  · exact rfl
theorem ta_not (kind : Int) : TaTo Tryd.prog 33 101 true (.ifc 26 (.int .i64 kind)) (.tup [.nilp, .bool false]) := fun c env w v h => by
  obtain ⟨u, rfl, hu⟩ := fta1 c env w _ _ v h
  obtain ⟨e, he⟩ := fu101
  refine ⟨.tuple #[.pointer none, .bool false], ?_, [.pointer none, .bool false], rfl, ?_, ?_, trivial⟩
  · simp [Instr.typeAssert, run_underlying he, fz101]
  · exact rfl
  · exact rfl
theorem ta_in (kind at_ : Int) (what : S8) : TaTo Tryd.prog 33 144 true (fltD kind at_ what) (.tup [fltD kind at_ what, .bool true]) := fun c env w v h => by
  obtain ⟨u, rfl, hu⟩ := fta1 c env w _ _ v h
  exact ⟨_, run_typeAssert_hasB fu144 (by kernel_rfl) u 33 w, [.iface 101 u, .bool true], rfl, h, rfl, trivial⟩
theorem ta_out (kind : Int) : TaTo Tryd.prog 33 144 true (.ifc 26 (.int .i64 kind)) (.tup [.nili, .bool false]) := fun c env w v h => by
  obtain ⟨u, rfl, hu⟩ := fta1 c env w _ _ v h
  exact ⟨_, run_typeAssert_lacksB fu144 (by kernel_rfl) (by kernel_rfl) u 33 w, [.nilIface, .bool false], rfl, rfl, rfl, trivial⟩
theorem run105 (kind at_ : Int) (what : S8) : Runs Tryd.prog T 9 (Tryd.f105.body.getD .skip) Tryd.f105.results.toList [fltA kind at_ what] (.ifc 26 (.int .i64 kind)) := by
  refine ⟨Nat.le_of_ble_eq_true rfl, ?_⟩
  conv => whnf
  exact ⟨rfl, rfl⟩
theorem call105 (kind at_ : Int) (what : S8) : CallsTo Tryd.prog 105 [fltA kind at_ what] (.ifc 26 (.int .i64 kind)) := calls Tryd.func105 rfl (by decide) (run105 kind at_ what)
theorem meth105 (kind at_ : Int) (what : S8) : MethTo Tryd.prog (fltD kind at_ what) "Unwrap" (.ifc 26 (.int .i64 kind)) := by
  refine ⟨101, fltA kind at_ what, 105, rfl, call105 kind at_ what, fun I w v h => ?_⟩
  obtain ⟨a, rfl, _⟩ := h
  have hm := as_mUn (a.add 0) w
  have e : Tryd.prog.types.size + Made.depth = 275 := by kernel_rfl
  have hf := Tryd.func105
  have hb : Tryd.f105.body ≠ none := by decide
  simp only [callMethod, Sem.run_bind, run_program, Result.andThen_ok, e, hm]
  simp [callFunc, hf]
  rw [if_neg (by decide), if_neg hb]
theorem run72 (kind at_ : Int) (what : S8) : Runs Tryd.prog T 4 (Tryd.f72.body.getD .skip) Tryd.f72.results.toList [fltD kind at_ what] (.fn 80 [.eptr (fltD kind at_ what) 0]) := by
  refine ⟨Nat.le_of_ble_eq_true rfl, ?_⟩
  conv => whnf
  exact ⟨rfl, rfl⟩
theorem call72 (kind at_ : Int) (what : S8) : CallsTo Tryd.prog 72 [fltD kind at_ what] (.fn 80 [.eptr (fltD kind at_ what) 0]) := calls Tryd.func72 rfl (by decide) (run72 kind at_ what)
theorem yields80 (kind at_ : Int) (what : S8) : Yields Tryd.prog T 36 (Tryd.f80.body.getD .skip) [.eptr (fltD kind at_ what) 0] [[fltA kind at_ what]] := by
  refine ⟨Nat.le_of_ble_eq_true rfl, fun yl => ?_⟩
  conv => whnf
  refine ⟨[], ?_⟩
  conv => whnf
  refine ⟨2, ?_⟩
  conv => whnf
  refine ⟨_, fun _ => ta_is kind at_ what, ?_⟩
  conv => whnf
  refine .inl ⟨rfl, ?_⟩
  conv => whnf
  refine ⟨⟨rfl, rfl⟩, ?_, ?_⟩
  · conv => whnf
    refine ⟨_, fun _ => ta_in kind at_ what, ?_⟩
    conv => whnf
    refine ⟨_, fun _ => meth105 kind at_ what, ?_⟩
    conv => whnf
    refine ⟨_, fun _ => ta_not kind, ?_⟩
    conv => whnf
    refine .inr ⟨by decide, ?_⟩
    conv => whnf
    refine ⟨fun hg => (by cases hg), ?_⟩
    conv => whnf
    refine ⟨_, fun _ => ta_out kind, ?_⟩
    conv => whnf
    trivial
  · conv => whnf
    trivial
theorem iter80 (kind at_ : Int) (what : S8) : IterTo Tryd.prog 80 [.eptr (fltD kind at_ what) 0] [[fltA kind at_ what]] := iters Tryd.func80 rfl (by decide) rfl (yields80 kind at_ what)
theorem run56 (kind at_ : Int) (what : S8) : Runs Tryd.prog T 11 (Tryd.f56.body.getD .skip) Tryd.f56.results.toList [fltD kind at_ what] (.int .i64 at_) := by
  refine ⟨Nat.le_of_ble_eq_true rfl, ?_⟩
  conv => whnf
  refine ⟨_, fun _ => call72 kind at_ what, ?_⟩
  conv => whnf
  refine ⟨[], ?_⟩
  conv => whnf
  refine ⟨_, iter80 kind at_ what, ?_⟩
  conv => whnf
  exact ⟨rfl, rfl⟩
theorem call56 (kind at_ : Int) (what : S8) : CallsTo Tryd.prog 56 [fltD kind at_ what] (.int .i64 at_) := calls Tryd.func56 rfl (by decide) (run56 kind at_ what)
theorem run55 (kind at_ : Int) (what : S8) : Runs Tryd.prog T 16 (Tryd.f55.body.getD .skip) Tryd.f55.results.toList [fltD kind at_ what] (.sl 0 1 [.str what]) := by
  refine ⟨Nat.le_of_ble_eq_true rfl, ?_⟩
  conv => whnf
  refine ⟨_, fun _ => call72 kind at_ what, ?_⟩
  conv => whnf
  refine ⟨[.nilB 3 0 9 1], ?_⟩
  conv => whnf
  refine ⟨_, iter80 kind at_ what, ?_⟩
  conv => whnf
  refine ⟨rfl, ?_⟩
  conv => whnf
  trace_state
  exact ⟨rfl, rfl⟩
theorem call55 (kind at_ : Int) (what : S8) : CallsTo Tryd.prog 55 [fltD kind at_ what] (.sl 0 1 [.str what]) := calls Tryd.func55 rfl (by decide) (run55 kind at_ what)
end Go.Proofs.YtbfgendaafediaaDoor.Fw

/- Is what was made what the document says? -/
namespace Go.Proofs.YtbfgendaafediaaDoor.Fw
open Go Go.RowKit
set_option maxRecDepth 100000
set_option maxHeartbeats 4000000
theorem run40e (e a k : Int) (he : e ≠ 0) : Runs Tryd.prog T 135 (Tryd.f40.body.getD .skip) Tryd.f40.results.toList [.nilp, fltD e a TABLE, .agg [.sl 0 1 [], .int .i64 e, .int .i64 a], .int .i64 k] (.bool true) := by
  refine ⟨Nat.le_of_ble_eq_true rfl, ?_⟩
  conv => whnf
  refine ⟨rfl, ?_⟩
  conv => whnf
  refine ⟨_, fun _ => call13 e a TABLE, ?_⟩
  conv => whnf
  rw [show ((e : Int) != e) = false by simp]
  conv => whnf
  rw [show ((e : Int) != 0) = true by simp [he]]
  conv => whnf
  refine ⟨_, fun _ => call55 e a TABLE, ?_⟩
  conv => whnf
  refine ⟨rfl, ?_⟩
  conv => whnf
  refine ⟨_, fun _ => call56 e a TABLE, ?_⟩
  conv => whnf
  refine ⟨rfl, congrArg D.bool ?_⟩
  rw [show ((a : Int) == a) = true by simp]
  rfl
theorem run40k (w k : Nat) (S : List S8) (h : 1 ≤ k ∧ k ≤ w ∧ w ≤ 255) (hl : S.length ≤ 1000) (hw : ∀ x ∈ S, x.length = w) (hr : risesK k S) : Runs Tryd.prog T 135 (Tryd.f40.body.getD .skip) Tryd.f40.results.toList [(tabOf w k S).d, .nili, .agg [.sl 0 1 (S.map D.str), .int .i64 0, .int .i64 0], .int .i64 k] (.bool true) := by
  refine ⟨Nat.le_of_ble_eq_true rfl, ?_⟩
  conv => whnf
  refine ⟨rfl, ?_⟩
  conv => whnf
  refine ⟨_, fun _ => call13n, ?_⟩
  conv => whnf
  have ht : (tabOf w k S).ok := tabOf_ok h hw hl
  have hn : (tabOf w k S).n = S.length := tabOf_n (by omega) hw
  refine ⟨[], ?_⟩
  conv => whnf
  refine loop_at (σ := Nat) (fun i env => (env.setT 11 (.int .i64 (i : Int))).setT 10 (.str (S.take i).flatten)) (fun i => S.length - i) (fun i => i ≤ S.length) 0 (Nat.zero_le _) rfl ?_
  rintro i hi ih
  conv => whnf
  refine ifB_intro (fun hc => ?_) (fun hc => ?_)
  · have hc : (i : Int) < ((S.map D.str).length : Int) := of_decide_eq_true hc
    rw [List.length_map] at hc
    have hlt : i < S.length := by omega
    have hx : S[i]? = some S[i] := List.getElem?_eq_getElem hlt
    have hxw := hw _ (List.getElem_mem hlt)
    have hfx := find_at h hw hr hlt
    have hrow := tabOf_row (w := w) (k := k) hw hx
    have hwi : IntKind.i64.wrap ((i : Int) + 1) = ((i + 1 : Nat) : Int) := by rw [IntKind.wrap_i64]; omega
    have e1 : ∀ s : S8, sliceD s (Int.toNat ((0 : Nat) : Int)) (Int.toNat (k : Int)) = s.take k := fun s => by simp [sliceD]
    have hfl : (S.take i).flatten.length = i * w := by
      rw [flat_len fun y hy => hw y (List.mem_of_mem_take hy), List.length_take, Nat.min_eq_left (by omega)]
    have hmul : i * w ≤ 1000 * 255 := Nat.mul_le_mul (by omega) h.2.2
    have ih' := ih (i + 1) (by omega) (by omega)
    rw [List.take_add_one, hx, Option.toList_some, List.flatten_append] at ih'
    generalize S[i] = x at hx hxw hfx hrow ih'
    rw [show [x].flatten = x by simp] at ih'
    conv => whnf
    refine ⟨_, fun _ => call20 _ i ht (by omega), ?_⟩
    conv => whnf
    rw [hrow]
    refine sideB_intro (fun _ => decide_eq_true (by simp only [List.length_map]; omega)) ?_
    rw [getD_enc (enc := D.str) (x := x) (show S[(i : Int).toNat]? = some x from hx)]
    conv => whnf
    refine sideB_intro (fun _ => decide_eq_true (by omega)) ?_
    rw [e1]
    conv => whnf
    refine ⟨_, fun _ => call21 _ (x.take k) ht, ?_⟩
    conv => whnf
    rw [hfx]
    conv => whnf
    refine sideB_intro (fun _ => decide_eq_true (by simp only [List.length_map]; omega)) ?_
    rw [getD_enc (enc := D.str) (x := x) (show S[(i : Int).toNat]? = some x from hx)]
    conv => whnf
    rw [show (!((some x).getD [] == x)) = false by simp, show (!(x == x)) = false by simp]
    conv => whnf
    refine sideB_intro (fun _ => decide_eq_true (by omega)) ?_
    conv => whnf
    rw [hwi]
    exact ih'
  · have hc : ¬ ((i : Int) < ((S.map D.str).length : Int)) := of_decide_eq_false hc
    rw [List.length_map] at hc
    rw [List.take_of_length_le (by omega)]
    conv => whnf
    refine ⟨_, fun _ => call20f _ (-1) ht (.inl (by decide)), ?_⟩
    conv => whnf
    refine ⟨_, fun _ => call20f _ ((S.map D.str).length : Int) ht (.inr (by rw [hn, List.length_map]; exact Int.le_refl _)), ?_⟩
    conv => whnf
    refine ⟨rfl, ?_⟩
    conv => whnf
    refine ⟨_, fun _ => call17 _ ht, ?_⟩
    conv => whnf
    refine ⟨_, fun _ => call19 _, ?_⟩
    conv => whnf
    refine ⟨rfl, congrArg D.bool ?_⟩
    rw [hn, List.length_map]
    simp [tabOf]
end Go.Proofs.YtbfgendaafediaaDoor.Fw
