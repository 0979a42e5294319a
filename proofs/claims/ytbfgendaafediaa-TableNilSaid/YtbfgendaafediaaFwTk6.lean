/- Texts KB, KC, KD, KE, TA, TS, TI, TO, JA, TW, TX, TY of the proof, in one. -/
import Derived.Room.Shelf.Join48
import Derived.Test.YtbfgendaafediaaFwTk5
set_option linter.unusedSimpArgs false
set_option linter.unusedVariables false
set_option linter.unusedSectionVars false
set_option linter.unnecessarySimpa false

/- Sorting of rows by insertion. -/
namespace Go.Proofs.Ytbfgendaafediaa.Fw
open Go Go.RowKit
set_option maxRecDepth 100000
set_option maxHeartbeats 4000000

section
variable {α : Type} (lt : α → α → Bool)
/-- An element goes down as long as it is ahead of the one below it. -/
def sift : Nat → List α → List α
  | 0, L => L
  | j + 1, L => match L[j + 1]?, L[j]? with
    | some a, some b => bif lt a b then sift j ((L.set (j + 1) b).set j a) else L
    | _, _ => L
def sortTo (L : List α) : Nat → List α
  | 0 => L
  | i + 1 => sift lt i (sortTo L i)
theorem sift_length : ∀ (j : Nat) (L : List α), (sift lt j L).length = L.length
  | 0, L => rfl
  | j + 1, L => by
    unfold sift
    split
    · rename_i a b _ _
      cases lt a b
      · rfl
      · rw [cond_true, sift_length j]; simp
    · rfl
theorem sortTo_length (L : List α) : ∀ i, (sortTo lt L i).length = L.length
  | 0 => rfl
  | i + 1 => by rw [sortTo, sift_length, sortTo_length L i]
def isort (L : List α) : List α := sortTo lt L L.length
end

abbrev hS : List (Nat × Nat) := [(1000000, rowMark)]
def hR (u es : Nat) (xs : List D) : List (Nat × RowC) := [(1000000, ⟨u, es, xs, false⟩)]
theorem run82 (l : List S8) (hl : l.length ≤ 1000000) : RunsR Try.prog T 49 (Try.f82.body.getD .skip) Try.f82.results.toList ([]) (hS) (hR 9 1 (l.map D.str)) [.rsl 1000000 1 0 l.length, .int .i64 0, .int .i64 l.length] (fun d bx rw => d = .tup [] ∧ bx = [] ∧ rw = hR 9 1 ((isort lt8 l).map D.str)) (hS) := by
  refine ⟨Nat.le_of_ble_eq_true rfl, rfl, ?_⟩
  conv => whnf
  refine ⟨[], ?_⟩
  conv => whnf
  refine loop_at (σ := Nat) (fun i env => (env.setT 6 (.int .i64 ((i + 1 : Nat) : Int))).setX 1000000 ((sortTo lt8 l (i + 1)).map D.str)) (fun i => l.length - i) (fun i => i + 1 ≤ l.length ∨ i = 0) 0 (.inr rfl) rfl ?_
  rintro i hi ih
  conv => whnf
  refine ifB_intro (fun h => ?_) (fun h => ?_)
  · have h : ((i + 1 : Nat) : Int) < (l.length : Int) := of_decide_eq_true h
    have hlt : i + 1 < l.length := by omega
    have hw : IntKind.i64.wrap (((i + 1 : Nat) : Int) + 1) = ((i + 1 + 1 : Nat) : Int) := by rw [IntKind.wrap_i64]; omega
    have ih' := ih (i + 1) (.inl hlt) (by omega)
    have hlen := sortTo_length lt8 l (i + 1)
    rw [sortTo] at ih'
    revert ih' hlen
    generalize sortTo lt8 l (i + 1) = L0
    intro ih' hlen
    conv => whnf
    refine ⟨[], ?_⟩
    conv => whnf
    refine loop_at (σ := Nat × List S8) (fun q env => (env.setT 7 (.int .i64 (q.1 : Int))).setX 1000000 (q.2.map D.str)) (fun q => q.1 + (l.length - l.length)) (fun q => q.1 ≤ i + 1 ∧ q.2.length = l.length ∧ sift lt8 q.1 q.2 = sift lt8 (i + 1) L0) (i + 1, L0) ⟨Nat.le_refl _, hlen, rfl⟩ rfl ?_
    rintro ⟨j, M⟩ ⟨hj, hM, hs⟩ ih2
    replace hj : j ≤ i + 1 := hj
    replace hM : M.length = l.length := hM
    replace hs : sift lt8 j M = sift lt8 (i + 1) L0 := hs
    have hjl : j < M.length := by omega
    have hj1 : j - 1 < M.length := by omega
    obtain ⟨x, hx⟩ : ∃ x, M[j]? = some x := ⟨_, List.getElem?_eq_getElem hjl⟩
    obtain ⟨y, hy⟩ : ∃ y, M[j - 1]? = some y := ⟨_, List.getElem?_eq_getElem hj1⟩
    have hk := zero_toNat j
    have hk1 : 0 + Int.toNat (IntKind.i64.wrap ((j : Int) - 1)) = j - 1 := by rw [IntKind.wrap_i64]; omega
    conv => whnf
    refine ⟨rfl, ?_⟩
    conv => whnf
    refine sideB_intro (fun _ => decide_eq_true (by dsimp only; omega)) ?_
    conv => whnf
    refine fD_of (getD_enc (enc := D.str) (x := x) (by dsimp only; rw [hk]; exact hx)) ?_
    conv => whnf
    refine sideB_intro (fun _ => blt_of (by simp only [List.length_map]; omega)) ?_
    conv => whnf
    refine sideB_intro (fun hg => ?_) ?_
    · have hg : decide ((0 : Int) < (j : Int)) = true := hg
      have hg := of_decide_eq_true hg
      exact decide_eq_true (by dsimp only; rw [IntKind.wrap_i64]; omega)
    conv => whnf
    refine fD_of (getD_enc (enc := D.str) (x := y) (by dsimp only; rw [hk1]; exact hy)) ?_
    conv => whnf
    refine sideB_intro (fun _ => blt_of (by simp only [List.length_map]; omega)) ?_
    conv => whnf
    refine ⟨_, fun _ => call88 x y, ?_⟩
    conv => whnf
    refine ifB_intro (fun hb => ?_) (fun hb => ?_)
    · have hb : 0 < j ∧ lt8 x y = true := by
        have hb : (bif decide ((0 : Int) < (j : Int)) then lt8 x y else false) = true := hb
        by_cases h0 : (0 : Int) < (j : Int)
        · rw [decide_eq_true h0, cond_true] at hb; exact ⟨by omega, hb⟩
        · rw [decide_eq_false h0] at hb; cases hb
      obtain ⟨j, rfl⟩ : ∃ k, j = k + 1 := ⟨j - 1, by omega⟩
      have hsw : sift lt8 (j + 1) M = sift lt8 j ((M.set (j + 1) y).set j x) := by
        rw [sift, hx, show M[j]? = some y from hy]
        simp only [hb.2, cond_true]
      have ih3 := ih2 (j, (M.set (j + 1) y).set j x) ⟨by show j ≤ i + 1; omega, by simp [hM], hsw.symm.trans hs⟩ (by dsimp only; omega)
      have hw2 : IntKind.i64.wrap (((j + 1 : Nat) : Int) - 1) = (j : Int) := by rw [IntKind.wrap_i64]; omega
      have hkj := zero_toNat j
      conv => whnf
      refine ⟨rfl, ?_⟩
      conv => whnf
      refine sideB_intro (fun _ => decide_eq_true (by dsimp only; rw [hw2]; omega)) ?_
      conv => whnf
      refine fD_of (getD_enc (enc := D.str) (x := y) (by dsimp only; rw [hk1]; exact hy)) ?_
      conv => whnf
      refine sideB_intro (fun _ => blt_of (by simp only [List.length_map]; omega)) ?_
      conv => whnf
      refine sideB_intro (fun _ => decide_eq_true (by dsimp only; omega)) ?_
      conv => whnf
      refine fD_of (getD_enc (enc := D.str) (x := x) (by dsimp only; rw [hk]; exact hx)) ?_
      conv => whnf
      refine sideB_intro (fun _ => blt_of (by simp only [List.length_map]; omega)) ?_
      conv => whnf
      refine sideB_intro (fun _ => decide_eq_true (by dsimp only; omega)) ?_
      conv => whnf
      refine sideB_intro (fun _ => blt_of (by simp only [List.length_map]; omega)) ?_
      conv => whnf
      refine sideB_intro (fun _ => decide_eq_true (by dsimp only; rw [hw2]; omega)) ?_
      conv => whnf
      refine sideB_intro (fun _ => blt_of (by simp only [List.length_map, List.length_set]; omega)) ?_
      conv => whnf
      rw [hw2, hkj, hk, set_enc (enc := D.str) (x := y) rfl, set_enc (enc := D.str) (x := x) rfl]
      exact ih3
    · have hb : ¬ (0 < j ∧ lt8 x y = true) := fun ⟨h0, h1⟩ => by
        have hb : (bif decide ((0 : Int) < (j : Int)) then lt8 x y else false) = false := hb
        rw [decide_eq_true (by omega), cond_true, h1] at hb; cases hb
      have he : sift lt8 j M = M := by
        cases j with
        | zero => rfl
        | succ j =>
          rw [sift, hx, show M[j]? = some y from hy]
          have : lt8 x y = false := by
            cases h1 : lt8 x y with
            | false => rfl
            | true => exact absurd ⟨by omega, h1⟩ hb
          simp only [this, cond_false]
      rw [he] at hs
      conv => whnf
      rw [hs, hw]
      exact ih'
  · conv => whnf
    have h : ¬ (((i + 1 : Nat) : Int) < (l.length : Int)) := of_decide_eq_false h
    refine ⟨rfl, rfl, rfl, ?_⟩
    have : sortTo lt8 l (i + 1) = isort lt8 l := by
      rcases hi with hi | rfl
      · rw [isort, show i + 1 = l.length from by omega]
      · rw [isort]
        rcases (show l.length = 0 ∨ l.length = 1 from by omega) with e | e
        · rw [List.eq_nil_of_length_eq_zero e]; rfl
        · rw [e]
    rw [this]; rfl
end Go.Proofs.Ytbfgendaafediaa.Fw

/- Copies of rows, the sorter's front. -/
namespace Go.Proofs.Ytbfgendaafediaa.Fw
open Go Go.RowKit
set_option maxRecDepth 100000
set_option maxHeartbeats 4000000

def Ctx.no (c : Ctx) (k : Nat) : Ctx := { c with σ := fun s => if s = k then none else c.σ s }
theorem memOut_new {c c' : Ctx} {w w' : World} (M : MemOut c c' [] [] [] [] [] [] w w') {k q : Nat} {rw' : List (Nat × RowC)} (hk : k < bigS) (hrow : ∀ st r, look st rw' = some r → RowOK (c'.no k) (memEnv [] [(k, q)] rw') w' st r) : MemOut c (c'.no k) [] [] [] [(k, q)] [] rw' w w' := by
  have hus : ∀ st, (look st [(k, q)]).isSome = true → st = k := fun st h => by
    rw [look_cons] at h
    split at h
    · rename_i e; exact e.symm
    · cases h
  have hσ : ∀ st, (look st [(k, q)]).isSome = true → (c'.no k).σ st = none := fun st h => by rw [hus st h]; simp [Ctx.no]
  exact ⟨⟨fun s b h => (by cases h), fun s s' h => (by cases h), fun s h => (by cases h), fun st st' g h1 h2 h3 => (by rw [hσ st h1] at h3; cases h3), fun st g h1 h3 => (by rw [hσ st h1] at h3; cases h3), M.mem.im, hrow⟩,
    M.keeps, M.os, M.tape, M.output, M.size, M.block, M.imNew, fun s h => (by cases h), fun st g h1 h3 => (by rw [hσ st h1] at h3; cases h3), fun st hb h1 => (by have := hus st h1; omega)⟩
section
variable {P : Program} {f : Nat} {ds : List D} {k u es es0 : Nat}
/-- Nothing, as a row that is changed in place. -/
theorem callsR_row0 (hk2 : 2 ≤ k) (hk : k < bigS) (hes : es ≠ 0) (h : CallsR P f [] [] [] ds (.sl 1 es0 []) [] [] []) : CallsR P f [] [] [] ds (.rsl k es 0 0) [] [(k, rowMark)] [(k, ⟨u, es, [], false⟩)] := by
  refine ⟨h.1, fun c w vs hm hrep => Calls.mono (h.2 c w vs hm hrep) fun e w' he => ?_⟩
  obtain ⟨v, c', e1, M, e2⟩ := he
  have hr : RepC c' (memEnv [] [] []) w' (.sl 1 es0 []) v := e2
  have h1 := repC_one hr
  obtain ⟨_, h2⟩ := hr
  obtain ⟨b, hv⟩ : ∃ b, v = .slice b 0 0 := by
    rcases h2 with h2 | h2 | h2
    · cases h2
    · exact h2.2
    · exact absurd h2.1 (by omega)
  refine ⟨v, c'.no k, e1, memOut_new M hk fun st r hl => ?_, ?_⟩
  · rw [look_cons] at hl
    split at hl
    · rename_i e; subst e; cases hl
      exact ⟨hk2, by simp [memEnv, look_cons], .inr ⟨Nat.pos_of_ne_zero hes, by simp [Ctx.no]⟩⟩
    · cases hl
  · show RepC (c'.no k) (memEnv [] [(k, rowMark)] [(k, ⟨u, es, [], false⟩)]) w' (.rsl k es 0 0) v
    refine ⟨by simp [memEnv, look_cons], h1, .inr ?_⟩
    simp only [Ctx.no, if_true]
    exact ⟨trivial, trivial, b, hv⟩
/-- Nothing, as a row that may be appended to. -/
theorem callsR_own0 (hk2 : 2 ≤ k) (hk : k < bigS) (hu : u ≠ rowMark) (h : CallsR P f [] [] [] ds (.sl 1 es0 []) [] [] []) : CallsR P f [] [] [] ds (.sl k es []) [] [(k, u)] [] := by
  refine ⟨h.1, fun c w vs hm hrep => Calls.mono (h.2 c w vs hm hrep) fun e w' he => ?_⟩
  obtain ⟨v, c', e1, M, e2⟩ := he
  have hr : RepC c' (memEnv [] [] []) w' (.sl 1 es0 []) v := e2
  have h1 := repC_one hr
  obtain ⟨h0, h2⟩ := hr
  obtain ⟨b, hv⟩ : ∃ b, v = .slice b 0 0 := by
    rcases h2 with h2 | h2 | h2
    · cases h2
    · exact h2.2
    · exact absurd h2.1 (by omega)
  refine ⟨v, c'.no k, e1, memOut_new M hk fun st r hl => (by cases hl), ?_⟩
  · show RepC (c'.no k) (memEnv [] [(k, u)] []) w' (.sl k es []) v
    refine ⟨⟨rfl, ?_⟩, .inr (.inr ⟨hk2, u, by simp [memEnv, look_cons], hu, .inr ?_⟩)⟩
    · rcases h0.2 with ⟨h3, h4⟩ | ⟨a, cap, h3, h4, h5⟩
      · exact .inl ⟨h3, h4⟩
      · exact .inr ⟨a, cap, h3, h4, by simp only [RepRow]⟩
    · simp only [Ctx.no, if_true]
      exact ⟨b, hv⟩
end

theorem callsR_imp {P : Program} {f : Nat} {bx us rw ds us'} {Q : D → List (Nat × BoxC) → List (Nat × RowC) → Prop} {d bx' rw'} (h : ∃ d bx' rw', Q d bx' rw' ∧ CallsR P f bx us rw ds d bx' us' rw') (e : ∀ a b c, Q a b c → a = d ∧ b = bx' ∧ c = rw') : CallsR P f bx us rw ds d bx' us' rw' := by
  obtain ⟨a, b, c, h1, h2⟩ := h
  obtain ⟨rfl, rfl, rfl⟩ := e a b c h1
  exact h2

abbrev Ts := Tm [] [9]
abbrev hN (es u n : Nat) (xs : List D) : D × List (Nat × RowC) := (.rsl 17 es 0 n, [(17, ⟨u, es, xs, false⟩)])
theorem run39a (x : S8) (l : List S8) (hl : l.length ≤ 1000000) : RunsR Try.prog Ts 8 (Try.f39.body.getD .skip) Try.f39.results.toList ([]) ([]) ([]) [.sl 0 1 ((x :: l).map D.str)] (fun d bx rw => d = .rsl 17 1 0 (l.length + 1) ∧ bx = [] ∧ rw = [(17, ⟨9, 1, (x :: l).map D.str, false⟩)]) ([(17, rowMark)]) := by
  refine ⟨Nat.le_of_ble_eq_true rfl, rfl, ?_⟩
  conv => whnf
  refine sideB_intro (fun _ => ?_) ?_
  · simp [appendSide]; omega
  conv => whnf
  exact ⟨rfl, congrArg (D.rsl 17 1 0) (by simp), rfl, rfl⟩
theorem run39b  : RunsR Try.prog Ts 8 (Try.f39.body.getD .skip) Try.f39.results.toList ([]) ([]) ([]) [.sle] (fun d bx rw => d = .rsl 17 1 0 0 ∧ bx = [] ∧ rw = [(17, ⟨9, 1, [], false⟩)]) ([(17, rowMark)]) := by
  refine ⟨Nat.le_of_ble_eq_true rfl, rfl, ?_⟩
  conv => whnf
  exact ⟨rfl, rfl, rfl, rfl⟩
theorem run39c  : RunsR Try.prog Ts 8 (Try.f39.body.getD .skip) Try.f39.results.toList ([]) ([]) ([]) [.nils] (fun d bx rw => d = .sl 1 0 [] ∧ bx = [] ∧ rw = []) ([]) := by
  refine ⟨Nat.le_of_ble_eq_true rfl, rfl, ?_⟩
  conv => whnf
  exact ⟨rfl, rfl, rfl, rfl⟩
theorem run39d (x : S8) (l : List S8) (hl : l.length ≤ 1000000) : RunsM Try.prog T 8 (Try.f39.body.getD .skip) Try.f39.results.toList [] [] [.sl 0 1 ((x :: l).map D.str)] (fun d bx => d = .sl 17 1 ((x :: l).map D.str) ∧ bx = []) [(17, 9)] := by
  refine ⟨Nat.le_of_ble_eq_true rfl, rfl, ?_⟩
  conv => whnf
  refine sideB_intro (fun _ => ?_) ?_
  · simp; omega
  conv => whnf
  exact ⟨rfl, rfl, rfl⟩
theorem run39e  : RunsM Try.prog T 8 (Try.f39.body.getD .skip) Try.f39.results.toList [] [] [.sle] (fun d bx => d = .sl 17 1 [] ∧ bx = []) [(17, 9)] := by
  refine ⟨Nat.le_of_ble_eq_true rfl, rfl, ?_⟩
  conv => whnf
  exact ⟨rfl, rfl, rfl⟩
abbrev Tx := Tm [] [47]
theorem run48a (x : Ext) (l : List Ext) (hl : l.length ≤ 1000000) : RunsR Try.prog Tx 8 (Try.f48.body.getD .skip) Try.f48.results.toList ([]) ([]) ([]) [.sl 0 2 ((x :: l).map Ext.d)] (fun d bx rw => d = .rsl 17 2 0 (l.length + 1) ∧ bx = [] ∧ rw = [(17, ⟨47, 2, (x :: l).map Ext.d, false⟩)]) ([(17, rowMark)]) := by
  refine ⟨Nat.le_of_ble_eq_true rfl, rfl, ?_⟩
  conv => whnf
  refine sideB_intro (fun _ => ?_) ?_
  · simp [appendSide]; omega
  conv => whnf
  exact ⟨rfl, congrArg (D.rsl 17 2 0) (by simp), rfl, rfl⟩
theorem run48b  : RunsR Try.prog Tx 8 (Try.f48.body.getD .skip) Try.f48.results.toList ([]) ([]) ([]) [.sle] (fun d bx rw => d = .rsl 17 2 0 0 ∧ bx = [] ∧ rw = [(17, ⟨47, 2, [], false⟩)]) ([(17, rowMark)]) := by
  refine ⟨Nat.le_of_ble_eq_true rfl, rfl, ?_⟩
  conv => whnf
  exact ⟨rfl, rfl, rfl, rfl⟩
theorem run48c  : RunsR Try.prog Tx 8 (Try.f48.body.getD .skip) Try.f48.results.toList ([]) ([]) ([]) [.nils] (fun d bx rw => d = .sl 1 0 [] ∧ bx = [] ∧ rw = []) ([]) := by
  refine ⟨Nat.le_of_ble_eq_true rfl, rfl, ?_⟩
  conv => whnf
  exact ⟨rfl, rfl, rfl, rfl⟩

/-- A copy, as a row that is changed in place. -/
theorem call39 (l : List S8) (hl : l.length ≤ 1000000) : CallsR Try.prog 39 [] [] [] [.sl 0 1 (l.map D.str)] (.rsl 17 1 0 l.length) [] [(17, rowMark)] [(17, ⟨9, 1, l.map D.str, false⟩)] := by
  cases l with
  | cons x l => exact callsR_imp (callsR Try.func39 rfl (by decide) (run39a x l (by simp at hl; omega))) fun a b c h => h
  | nil => exact callsR_nil (callsR_row0 (by decide) (by decide) (by decide) (callsR_imp (callsR Try.func39 rfl (by decide) run39c) fun a b c h => h)) (callsR_imp (callsR Try.func39 rfl (by decide) run39b) fun a b c h => h)
theorem call48 (l : List Ext) (hl : l.length ≤ 1000000) : CallsR Try.prog 48 [] [] [] [.sl 0 2 (l.map Ext.d)] (.rsl 17 2 0 l.length) [] [(17, rowMark)] [(17, ⟨47, 2, l.map Ext.d, false⟩)] := by
  cases l with
  | cons x l => exact callsR_imp (callsR Try.func48 rfl (by decide) (run48a x l (by simp at hl; omega))) fun a b c h => h
  | nil => exact callsR_nil (callsR_row0 (by decide) (by decide) (by decide) (callsR_imp (callsR Try.func48 rfl (by decide) run48c) fun a b c h => h)) (callsR_imp (callsR Try.func48 rfl (by decide) run48b) fun a b c h => h)
/-- A copy, as a row that may be appended to. -/
theorem call39m (l : List S8) (hl : l.length ≤ 1000000) : CallsM Try.prog 39 [] [] [.sl 0 1 (l.map D.str)] (.sl 17 1 (l.map D.str)) [] [(17, 9)] := by
  cases l with
  | cons x l =>
    obtain ⟨d, bx', ⟨rfl, rfl⟩, h⟩ := callsM Try.func39 rfl (by decide) (run39d x l (by simp at hl; omega))
    exact h
  | nil =>
    refine callsR_nil (callsR_own0 (es0 := 0) (by decide) (by decide) (by decide) (callsR_imp (callsR Try.func39 rfl (by decide) run39c) fun a b c h => h)) ?_
    obtain ⟨d, bx', ⟨rfl, rfl⟩, h⟩ := callsM Try.func39 rfl (by decide) run39e
    exact h
end Go.Proofs.Ytbfgendaafediaa.Fw

/- The sorter's front: rows of at most 12. -/
namespace Go.Proofs.Ytbfgendaafediaa.Fw
open Go Go.RowKit
set_option maxRecDepth 100000
set_option maxHeartbeats 4000000

theorem run92 (n : Nat) (hn : n ≤ 12) : RunsQ Try.prog T 25 (Try.f92.body.getD .skip) Try.f92.results.toList [.int .u64 n] (fun d => ∃ m, d = .int .i64 m) := by
  refine ⟨Nat.le_of_ble_eq_true rfl, ?_⟩
  conv => whnf
  refine ifB_intro (fun h => ?_) (fun h => ?_)
  · have := of_decide_eq_true h; omega
  conv => whnf
  refine ifB_intro (fun h => ?_) (fun h => ?_)
  · have := of_decide_eq_true h; omega
  conv => whnf
  refine ifB_intro (fun h => ?_) (fun h => ?_)
  · have := of_decide_eq_true h; omega
  conv => whnf
  have hw : IntKind.u8.wrap (n : Int) = n := by
    rcases (show n = 0 ∨ n = 1 ∨ n = 2 ∨ n = 3 ∨ n = 4 ∨ n = 5 ∨ n = 6 ∨ n = 7 ∨ n = 8 ∨ n = 9 ∨ n = 10 ∨ n = 11 ∨ n = 12 from by omega) with rfl | rfl | rfl | rfl | rfl | rfl | rfl | rfl | rfl | rfl | rfl | rfl | rfl <;> rfl
  refine sideB_intro (fun _ => decide_eq_true ?_) ?_
  · rw [hw]
    exact ⟨by omega, by show (n : Int) < 256; omega⟩
  conv => whnf
  exact ⟨rfl, _, rfl⟩
theorem call92 (n : Nat) (hn : n ≤ 12) : ∃ d, (fun d => ∃ m, d = .int .i64 m) d ∧ CallsTo Try.prog 92 [.int .u64 n] d := by
  obtain ⟨d, h, k⟩ := runsQ_one (run92 n hn)
  exact ⟨d, h, calls Try.func92 rfl (by decide) k⟩
theorem run67 (n : Nat) (hn : n ≤ 12) : RunsQ Try.prog T 8 (Try.f67.body.getD .skip) Try.f67.results.toList [.int .u64 n] (fun d => ∃ m, d = .int .i64 m) := by
  refine ⟨Nat.le_of_ble_eq_true rfl, ?_⟩
  conv => whnf
  obtain ⟨d, ⟨m, rfl⟩, hc⟩ := call92 n hn
  refine ⟨_, fun _ => hc, ?_⟩
  conv => whnf
  exact ⟨rfl, _, rfl⟩
theorem call67 (n : Nat) (hn : n ≤ 12) : ∃ d, (fun d => ∃ m, d = .int .i64 m) d ∧ CallsTo Try.prog 67 [.int .u64 n] d := by
  obtain ⟨d, h, k⟩ := runsQ_one (run67 n hn)
  exact ⟨d, h, calls Try.func67 rfl (by decide) k⟩
theorem len12 (n : Nat) (hn : n ≤ 12) : ∃ m, CallsTo Try.prog 67 [.int .u64 (IntKind.u64.wrap (n : Int))] (.int .i64 m) := by
  have hw : IntKind.u64.wrap (n : Int) = n := by
    rcases (show n = 0 ∨ n = 1 ∨ n = 2 ∨ n = 3 ∨ n = 4 ∨ n = 5 ∨ n = 6 ∨ n = 7 ∨ n = 8 ∨ n = 9 ∨ n = 10 ∨ n = 11 ∨ n = 12 from by omega) with rfl | rfl | rfl | rfl | rfl | rfl | rfl | rfl | rfl | rfl | rfl | rfl | rfl <;> rfl
  obtain ⟨d, ⟨m, rfl⟩, hc⟩ := call67 n hn
  exact ⟨m, by rw [hw]; exact hc⟩
theorem call82 (l : List S8) (hl : l.length ≤ 1000000) : CallsR Try.prog 82 [] hS (hR 9 1 (l.map D.str)) [.rsl 1000000 1 0 l.length, .int .i64 0, .int .i64 l.length] (.tup []) [] hS (hR 9 1 ((isort lt8 l).map D.str)) := callsR_imp (callsR Try.func82 rfl (by decide) (run82 l hl)) fun a b c h => h
abbrev Tp := Tm [82] []
theorem run66 (l : List S8) (hl : l.length ≤ 12) (m : Int) : RunsR Try.prog Tp 134 (Try.f66.body.getD .skip) Try.f66.results.toList ([]) (hS) (hR 9 1 (l.map D.str)) [.rsl 1000000 1 0 l.length, .int .i64 0, .int .i64 l.length, .int .i64 m] (fun d bx rw => d = .tup [] ∧ bx = [] ∧ rw = hR 9 1 ((isort lt8 l).map D.str)) (hS) := by
  refine ⟨Nat.le_of_ble_eq_true rfl, rfl, ?_⟩
  conv => whnf
  refine ⟨[], ?_⟩
  conv => whnf
  refine ⟨1, ?_⟩
  conv => whnf
  refine ifB_intro (fun _ => ?_) (fun h => ?_)
  · conv => whnf
    refine ⟨⟨[], [(1000000, 1000000)], .tup [], [], hS, hR 9 1 ((isort lt8 l).map D.str)⟩, ?_⟩
    conv => whnf
    refine ⟨rfl, call82 l (by omega), ?_⟩
    conv => whnf
    exact ⟨rfl, rfl, rfl, rfl⟩
  · exfalso
    have h := of_decide_eq_false h
    rw [IntKind.wrap_i64] at h; omega
theorem call66 (l : List S8) (hl : l.length ≤ 12) (m : Int) : CallsR Try.prog 66 [] hS (hR 9 1 (l.map D.str)) [.rsl 1000000 1 0 l.length, .int .i64 0, .int .i64 l.length, .int .i64 m] (.tup []) [] hS (hR 9 1 ((isort lt8 l).map D.str)) := callsR_imp (callsR Try.func66 rfl (by decide) (run66 l hl m)) fun a b c h => h
abbrev Tq := Tm [66] []
theorem run40 (l : List S8) (hl : l.length ≤ 12) : RunsR Try.prog Tq 11 (Try.f40.body.getD .skip) Try.f40.results.toList ([]) (hS) (hR 9 1 (l.map D.str)) [.rsl 1000000 1 0 l.length] (fun d bx rw => d = .tup [] ∧ bx = [] ∧ rw = hR 9 1 ((isort lt8 l).map D.str)) (hS) := by
  refine ⟨Nat.le_of_ble_eq_true rfl, rfl, ?_⟩
  conv => whnf
  obtain ⟨m, hc⟩ := len12 l.length hl
  refine ⟨_, fun _ => hc, ?_⟩
  conv => whnf
  refine ⟨⟨[], [(1000000, 1000000)], .tup [], [], hS, hR 9 1 ((isort lt8 l).map D.str)⟩, ?_⟩
  conv => whnf
  refine ⟨rfl, call66 l hl m, ?_⟩
  conv => whnf
  exact ⟨rfl, rfl, rfl, rfl⟩
theorem call40 (l : List S8) (hl : l.length ≤ 12) : CallsR Try.prog 40 [] hS (hR 9 1 (l.map D.str)) [.rsl 1000000 1 0 l.length] (.tup []) [] hS (hR 9 1 ((isort lt8 l).map D.str)) := callsR_imp (callsR Try.func40 rfl (by decide) (run40 l hl)) fun a b c h => h
end Go.Proofs.Ytbfgendaafediaa.Fw

/- Sorting of keys by insertion, and the sorter's front for them. -/
namespace Go.Proofs.Ytbfgendaafediaa.Fw
open Go Go.RowKit
set_option maxRecDepth 100000
set_option maxHeartbeats 4000000

abbrev ltk (a b : Ext) : Bool := lt8 a.key b.key
theorem cmp_lt (a b : S8) : decide (cmp8 a b < 0) = lt8 a b := by
  unfold cmp8
  cases h : lt8 a b with
  | true => simp
  | false =>
    by_cases e : a = b
    · simp [e]
    · simp [e]
theorem run109 (l : List Ext) (hl : l.length ≤ 1000000) : RunsR Try.prog T 53 (Try.f109.body.getD .skip) Try.f109.results.toList ([]) (hS) (hR 47 2 (l.map Ext.d)) [.rsl 1000000 2 0 l.length, .int .i64 0, .int .i64 l.length, .fn 69 []] (fun d bx rw => d = .tup [] ∧ bx = [] ∧ rw = hR 47 2 ((isort ltk l).map Ext.d)) (hS) := by
  refine ⟨Nat.le_of_ble_eq_true rfl, rfl, ?_⟩
  conv => whnf
  refine ⟨[], ?_⟩
  conv => whnf
  refine loop_at (σ := Nat) (fun i env => (env.setT 8 (.int .i64 ((i + 1 : Nat) : Int))).setX 1000000 ((sortTo ltk l (i + 1)).map Ext.d)) (fun i => l.length - i) (fun i => i + 1 ≤ l.length ∨ i = 0) 0 (.inr rfl) rfl ?_
  rintro i hi ih
  conv => whnf
  refine ifB_intro (fun h => ?_) (fun h => ?_)
  · have h : ((i + 1 : Nat) : Int) < (l.length : Int) := of_decide_eq_true h
    have hlt : i + 1 < l.length := by omega
    have hw : IntKind.i64.wrap (((i + 1 : Nat) : Int) + 1) = ((i + 1 + 1 : Nat) : Int) := by rw [IntKind.wrap_i64]; omega
    have ih' := ih (i + 1) (.inl hlt) (by omega)
    have hlen := sortTo_length ltk l (i + 1)
    rw [sortTo] at ih'
    revert ih' hlen
    generalize sortTo ltk l (i + 1) = L0
    intro ih' hlen
    conv => whnf
    refine ⟨[], ?_⟩
    conv => whnf
    refine loop_at (σ := Nat × List Ext) (fun q env => (env.setT 9 (.int .i64 (q.1 : Int))).setX 1000000 (q.2.map Ext.d)) (fun q => q.1 + (l.length - l.length)) (fun q => q.1 ≤ i + 1 ∧ q.2.length = l.length ∧ sift ltk q.1 q.2 = sift ltk (i + 1) L0) (i + 1, L0) ⟨Nat.le_refl _, hlen, rfl⟩ rfl ?_
    rintro ⟨j, M⟩ ⟨hj, hM, hs⟩ ih2
    replace hj : j ≤ i + 1 := hj
    replace hM : M.length = l.length := hM
    replace hs : sift ltk j M = sift ltk (i + 1) L0 := hs
    have hjl : j < M.length := by omega
    have hj1 : j - 1 < M.length := by omega
    obtain ⟨x, hx⟩ : ∃ x, M[j]? = some x := ⟨_, List.getElem?_eq_getElem hjl⟩
    obtain ⟨y, hy⟩ : ∃ y, M[j - 1]? = some y := ⟨_, List.getElem?_eq_getElem hj1⟩
    have hk := zero_toNat j
    have hk1 : 0 + Int.toNat (IntKind.i64.wrap ((j : Int) - 1)) = j - 1 := by rw [IntKind.wrap_i64]; omega
    conv => whnf
    refine ⟨rfl, ?_⟩
    conv => whnf
    refine sideB_intro (fun _ => decide_eq_true (by dsimp only; omega)) ?_
    conv => whnf
    refine fD_of (getD_enc (enc := Ext.d) (x := x) (by dsimp only; rw [hk]; exact hx)) ?_
    conv => whnf
    refine sideB_intro (fun _ => blt_of (by simp only [List.length_map]; omega)) ?_
    conv => whnf
    refine sideB_intro (fun hg => ?_) ?_
    · have hg : decide ((0 : Int) < (j : Int)) = true := hg
      have hg := of_decide_eq_true hg
      exact decide_eq_true (by dsimp only; rw [IntKind.wrap_i64]; omega)
    conv => whnf
    refine fD_of (getD_enc (enc := Ext.d) (x := y) (by dsimp only; rw [hk1]; exact hy)) ?_
    conv => whnf
    refine sideB_intro (fun _ => blt_of (by simp only [List.length_map]; omega)) ?_
    conv => whnf
    refine ⟨_, fun _ => call69 x y, ?_⟩
    conv => whnf
    refine ifB_intro (fun hb => ?_) (fun hb => ?_)
    · have hb : 0 < j ∧ ltk x y = true := by
        have hb : (bif decide ((0 : Int) < (j : Int)) then decide (cmp8 x.key y.key < 0) else false) = true := hb
        rw [cmp_lt] at hb
        by_cases h0 : (0 : Int) < (j : Int)
        · rw [decide_eq_true h0, cond_true] at hb; exact ⟨by omega, hb⟩
        · rw [decide_eq_false h0] at hb; cases hb
      obtain ⟨j, rfl⟩ : ∃ k, j = k + 1 := ⟨j - 1, by omega⟩
      have hsw : sift ltk (j + 1) M = sift ltk j ((M.set (j + 1) y).set j x) := by
        rw [sift, hx, show M[j]? = some y from hy]
        simp only [hb.2, cond_true]
      have ih3 := ih2 (j, (M.set (j + 1) y).set j x) ⟨by show j ≤ i + 1; omega, by simp [hM], hsw.symm.trans hs⟩ (by dsimp only; omega)
      have hw2 : IntKind.i64.wrap (((j + 1 : Nat) : Int) - 1) = (j : Int) := by rw [IntKind.wrap_i64]; omega
      have hkj := zero_toNat j
      conv => whnf
      refine ⟨rfl, ?_⟩
      conv => whnf
      refine sideB_intro (fun _ => decide_eq_true (by dsimp only; rw [hw2]; omega)) ?_
      conv => whnf
      refine fD_of (getD_enc (enc := Ext.d) (x := y) (by dsimp only; rw [hk1]; exact hy)) ?_
      conv => whnf
      refine sideB_intro (fun _ => blt_of (by simp only [List.length_map]; omega)) ?_
      conv => whnf
      refine sideB_intro (fun _ => decide_eq_true (by dsimp only; omega)) ?_
      conv => whnf
      refine fD_of (getD_enc (enc := Ext.d) (x := x) (by dsimp only; rw [hk]; exact hx)) ?_
      conv => whnf
      refine sideB_intro (fun _ => blt_of (by simp only [List.length_map]; omega)) ?_
      conv => whnf
      refine sideB_intro (fun _ => decide_eq_true (by dsimp only; omega)) ?_
      conv => whnf
      refine sideB_intro (fun _ => blt_of (by simp only [List.length_map]; omega)) ?_
      conv => whnf
      refine sideB_intro (fun _ => decide_eq_true (by dsimp only; rw [hw2]; omega)) ?_
      conv => whnf
      refine sideB_intro (fun _ => blt_of (by simp only [List.length_map, List.length_set]; omega)) ?_
      conv => whnf
      rw [hw2, hkj, hk, set_enc (enc := Ext.d) (x := y) (d := .agg [.str y.key, .sl 0 1 (y.subs.map D.str)]) rfl, set_enc (enc := Ext.d) (x := x) (d := .agg [.str x.key, .sl 0 1 (x.subs.map D.str)]) rfl]
      exact ih3
    · have hb : ¬ (0 < j ∧ ltk x y = true) := fun ⟨h0, h1⟩ => by
        have hb : (bif decide ((0 : Int) < (j : Int)) then decide (cmp8 x.key y.key < 0) else false) = false := hb
        rw [cmp_lt] at hb
        rw [decide_eq_true (by omega), cond_true, show lt8 x.key y.key = true from h1] at hb; cases hb
      have he : sift ltk j M = M := by
        cases j with
        | zero => rfl
        | succ j =>
          rw [sift, hx, show M[j]? = some y from hy]
          have : ltk x y = false := by
            cases h1 : ltk x y with
            | false => rfl
            | true => exact absurd ⟨by omega, h1⟩ hb
          simp only [this, cond_false]
      rw [he] at hs
      conv => whnf
      rw [hs, hw]
      exact ih'
  · conv => whnf
    have h : ¬ (((i + 1 : Nat) : Int) < (l.length : Int)) := of_decide_eq_false h
    refine ⟨rfl, rfl, rfl, ?_⟩
    have : sortTo ltk l (i + 1) = isort ltk l := by
      rcases hi with hi | rfl
      · rw [isort, show i + 1 = l.length from by omega]
      · rw [isort]
        rcases (show l.length = 0 ∨ l.length = 1 from by omega) with e | e
        · rw [List.eq_nil_of_length_eq_zero e]; rfl
        · rw [e]
    rw [this]; rfl
theorem call109 (l : List Ext) (hl : l.length ≤ 1000000) : CallsR Try.prog 109 [] hS (hR 47 2 (l.map Ext.d)) [.rsl 1000000 2 0 l.length, .int .i64 0, .int .i64 l.length, .fn 69 []] (.tup []) [] hS (hR 47 2 ((isort ltk l).map Ext.d)) := callsR_imp (callsR Try.func109 rfl (by decide) (run109 l hl)) fun a b c h => h
abbrev Tp2 := Tm [109] []
theorem run93 (l : List Ext) (hl : l.length ≤ 12) (m : Int) : RunsR Try.prog Tp2 148 (Try.f93.body.getD .skip) Try.f93.results.toList ([]) (hS) (hR 47 2 (l.map Ext.d)) [.rsl 1000000 2 0 l.length, .int .i64 0, .int .i64 l.length, .int .i64 m, .fn 69 []] (fun d bx rw => d = .tup [] ∧ bx = [] ∧ rw = hR 47 2 ((isort ltk l).map Ext.d)) (hS) := by
  refine ⟨Nat.le_of_ble_eq_true rfl, rfl, ?_⟩
  conv => whnf
  refine ⟨[], ?_⟩
  conv => whnf
  refine ⟨1, ?_⟩
  conv => whnf
  refine ifB_intro (fun _ => ?_) (fun h => ?_)
  · conv => whnf
    refine ⟨⟨[], [(1000000, 1000000)], .tup [], [], hS, hR 47 2 ((isort ltk l).map Ext.d)⟩, ?_⟩
    conv => whnf
    refine ⟨rfl, call109 l (by omega), ?_⟩
    conv => whnf
    exact ⟨rfl, rfl, rfl, rfl⟩
  · exfalso
    have h := of_decide_eq_false h
    rw [IntKind.wrap_i64] at h; omega
theorem call93 (l : List Ext) (hl : l.length ≤ 12) (m : Int) : CallsR Try.prog 93 [] hS (hR 47 2 (l.map Ext.d)) [.rsl 1000000 2 0 l.length, .int .i64 0, .int .i64 l.length, .int .i64 m, .fn 69 []] (.tup []) [] hS (hR 47 2 ((isort ltk l).map Ext.d)) := callsR_imp (callsR Try.func93 rfl (by decide) (run93 l hl m)) fun a b c h => h
abbrev Tq2 := Tm [93] []
theorem run68 (l : List Ext) (hl : l.length ≤ 12) : RunsR Try.prog Tq2 14 (Try.f68.body.getD .skip) Try.f68.results.toList ([]) (hS) (hR 47 2 (l.map Ext.d)) [.rsl 1000000 2 0 l.length, .fn 69 []] (fun d bx rw => d = .tup [] ∧ bx = [] ∧ rw = hR 47 2 ((isort ltk l).map Ext.d)) (hS) := by
  refine ⟨Nat.le_of_ble_eq_true rfl, rfl, ?_⟩
  conv => whnf
  obtain ⟨m, hc⟩ := len12 l.length hl
  refine ⟨_, fun _ => hc, ?_⟩
  conv => whnf
  refine ⟨⟨[], [(1000000, 1000000)], .tup [], [], hS, hR 47 2 ((isort ltk l).map Ext.d)⟩, ?_⟩
  conv => whnf
  refine ⟨rfl, call93 l hl m, ?_⟩
  conv => whnf
  exact ⟨rfl, rfl, rfl, rfl⟩
theorem call68 (l : List Ext) (hl : l.length ≤ 12) : CallsR Try.prog 68 [] hS (hR 47 2 (l.map Ext.d)) [.rsl 1000000 2 0 l.length, .fn 69 []] (.tup []) [] hS (hR 47 2 ((isort ltk l).map Ext.d)) := callsR_imp (callsR Try.func68 rfl (by decide) (run68 l hl)) fun a b c h => h
end Go.Proofs.Ytbfgendaafediaa.Fw

/- Tables: rows by number. -/
namespace Go.Proofs.Ytbfgendaafediaa.Fw
open Go Go.RowKit
set_option maxRecDepth 100000
set_option maxHeartbeats 4000000

/-- A table: how long rows are, and their keys; all rows. -/
structure Tab where
  w : Nat
  k : Nat
  bs : S8
def Tab.a (t : Tab) : D := .agg [.int .i64 t.w, .int .i64 t.k, .str t.bs]
abbrev Tab.d (t : Tab) : D := .eptr (.agg [.int .i64 t.w, .int .i64 t.k, .str t.bs]) 0
structure Tab.ok (t : Tab) : Prop where
  k0 : 0 < t.k
  kw : t.k ≤ t.w
  w1 : t.w ≤ 255
  len : t.bs.length ≤ 1000000
def Tab.n (t : Tab) : Nat := t.bs.length / t.w
def Tab.row (t : Tab) (i : Nat) : S8 := (t.bs.drop (i * t.w)).take t.w
def Tab.key (t : Tab) (i : Nat) : S8 := (t.row i).take t.k
theorem Tab.n_mul (t : Tab) : t.n * t.w ≤ t.bs.length := Nat.div_mul_le_self _ _
theorem Tab.row_in {t : Tab} {i : Nat} (h : i < t.n) : i * t.w + t.w ≤ t.bs.length := by
  have h1 := t.n_mul
  have h2 : (i + 1) * t.w ≤ t.n * t.w := Nat.mul_le_mul_right _ h
  rw [Nat.add_mul, Nat.one_mul] at h2
  omega
theorem Tab.row_len {t : Tab} {i : Nat} (h : i < t.n) : (t.row i).length = t.w := by
  have := Tab.row_in h
  unfold Tab.row
  rw [List.length_take, List.length_drop]; omega
theorem Tab.n_le {t : Tab} (h : t.ok) : t.n ≤ t.bs.length := Nat.div_le_self _ _
theorem run15 (t : Tab) (h : t.ok) : Runs Try.prog T 15 (Try.f15.body.getD .skip) Try.f15.results.toList [t.d] (.int .i64 t.n) := by
  refine ⟨Nat.le_of_ble_eq_true rfl, ?_⟩
  conv => whnf
  have h1 := h.k0
  have h2 := h.kw
  have h3 := h.len
  refine ⟨rfl, ?_⟩
  conv => whnf
  refine sideB_intro (fun _ => decide_eq_true (by omega)) ?_
  conv => whnf
  refine ⟨rfl, congrArg (D.int .i64) ?_⟩
  rw [IntKind.wrap_i64]
  have e : Int.tdiv (t.bs.length : Int) (t.w : Int) = ((t.bs.length / t.w : Nat) : Int) := rfl
  have e2 : t.bs.length / t.w ≤ t.bs.length := Nat.div_le_self _ _
  rw [e]
  unfold Tab.n
  generalize t.bs.length / t.w = q at e2
  omega
theorem call15 (t : Tab) (h : t.ok) : CallsTo Try.prog 15 [t.d] (.int .i64 t.n) := calls Try.func15 rfl (by decide) (run15 t h)
theorem run15n  : Runs Try.prog T 15 (Try.f15.body.getD .skip) Try.f15.results.toList [.nilp] (.int .i64 0) := by
  refine ⟨Nat.le_of_ble_eq_true rfl, ?_⟩
  conv => whnf
  exact ⟨rfl, rfl⟩
theorem call15n  : CallsTo Try.prog 15 [.nilp] (.int .i64 0) := calls Try.func15 rfl (by decide) (run15n)
theorem run31 (t : Tab) (i : Nat) (h : t.ok) (hi : i < t.n) : Runs Try.prog T 21 (Try.f31.body.getD .skip) Try.f31.results.toList [t.d, .int .i64 i] (.str (t.row i)) := by
  refine ⟨Nat.le_of_ble_eq_true rfl, ?_⟩
  conv => whnf
  have h1 := h.k0
  have h2 := h.kw
  have h3 := h.len
  have h4 := Tab.row_in hi
  have hm : IntKind.i64.wrap ((i : Int) * (t.w : Int)) = ((i * t.w : Nat) : Int) := by
    rw [IntKind.wrap_i64]
    have : (i : Int) * (t.w : Int) = ((i * t.w : Nat) : Int) := by simp
    rw [this]; omega
  refine ⟨rfl, ?_⟩
  conv => whnf
  rw [hm]
  refine sideB_intro (fun _ => decide_eq_true ?_) ?_
  · omega
  conv => whnf
  rw [show sliceD t.bs (Int.toNat ((i * t.w : Nat) : Int)) (Int.toNat (t.bs.length : Int)) = t.bs.drop (i * t.w) from by rw [sliceD_end, Int.toNat_natCast]]
  refine sideB_intro (fun _ => decide_eq_true ?_) ?_
  · rw [List.length_drop]; omega
  conv => whnf
  have e : sliceD (List.drop (i * t.w) t.bs) (Int.toNat ((0 : Nat) : Int)) (Int.toNat (t.w : Int)) = t.row i := by
    unfold Tab.row; simp [sliceD]
  exact ⟨rfl, congrArg D.str e⟩
theorem call31 (t : Tab) (i : Nat) (h : t.ok) (hi : i < t.n) : CallsTo Try.prog 31 [t.d, .int .i64 i] (.str (t.row i)) := calls Try.func31 rfl (by decide) (run31 t i h hi)
theorem run16 (t : Tab) : Runs Try.prog T 9 (Try.f16.body.getD .skip) Try.f16.results.toList [t.d] (.str t.bs) := by
  refine ⟨Nat.le_of_ble_eq_true rfl, ?_⟩
  conv => whnf
  exact ⟨rfl, rfl⟩
theorem call16 (t : Tab) : CallsTo Try.prog 16 [t.d] (.str t.bs) := calls Try.func16 rfl (by decide) (run16 t)
theorem run16n  : Runs Try.prog T 9 (Try.f16.body.getD .skip) Try.f16.results.toList [.nilp] (.str []) := by
  refine ⟨Nat.le_of_ble_eq_true rfl, ?_⟩
  conv => whnf
  exact ⟨rfl, rfl⟩
theorem call16n  : CallsTo Try.prog 16 [.nilp] (.str []) := calls Try.func16 rfl (by decide) (run16n)
theorem run10n  : Runs Try.prog T 17 (Try.f10.body.getD .skip) Try.f10.results.toList [.nilp, .int .i64 0] (.tup [.str [], .bool false]) := by
  refine ⟨Nat.le_of_ble_eq_true rfl, ?_⟩
  conv => whnf
  refine ⟨_, fun _ => call15n, ?_⟩
  conv => whnf
  exact ⟨rfl, rfl⟩
theorem call10n  : CallsTo Try.prog 10 [.nilp, .int .i64 0] (.tup [.str [], .bool false]) := calls Try.func10 rfl (by decide) (run10n)
theorem run10 (t : Tab) (i : Nat) (h : t.ok) (hi : i < t.n) : Runs Try.prog T 17 (Try.f10.body.getD .skip) Try.f10.results.toList [t.d, .int .i64 i] (.tup [.str (t.row i), .bool true]) := by
  refine ⟨Nat.le_of_ble_eq_true rfl, ?_⟩
  conv => whnf
  have h3 := h.len
  have h4 := Tab.n_le h
  refine ⟨_, fun _ => call15 t h, ?_⟩
  conv => whnf
  refine ifB_intro (fun hb => ?_) (fun hb => ?_)
  · exfalso
    have hb : decide ((t.n : Int) ≤ (i : Int)) = true := hb
    have := of_decide_eq_true hb
    omega
  · conv => whnf
    refine ⟨_, fun _ => call31 t i h hi, ?_⟩
    conv => whnf
    exact ⟨rfl, rfl⟩
theorem call10 (t : Tab) (i : Nat) (h : t.ok) (hi : i < t.n) : CallsTo Try.prog 10 [t.d, .int .i64 i] (.tup [.str (t.row i), .bool true]) := calls Try.func10 rfl (by decide) (run10 t i h hi)
theorem run10f (t : Tab) (i : Int) (h : t.ok) (hi : i < 0 ∨ (t.n : Int) ≤ i) : Runs Try.prog T 17 (Try.f10.body.getD .skip) Try.f10.results.toList [t.d, .int .i64 i] (.tup [.str [], .bool false]) := by
  refine ⟨Nat.le_of_ble_eq_true rfl, ?_⟩
  conv => whnf
  have h3 := h.len
  have h4 := Tab.n_le h
  refine ⟨_, fun _ => call15 t h, ?_⟩
  conv => whnf
  refine ifB_intro (fun hb => ?_) (fun hb => ?_)
  · conv => whnf
    exact ⟨rfl, rfl⟩
  · exfalso
    have hb : (bif decide (i < 0) then true else decide ((t.n : Int) ≤ i)) = false := hb
    rcases hi with hi | hi
    · rw [decide_eq_true hi] at hb; cases hb
    · rw [decide_eq_true hi] at hb
      cases hd : decide (i < 0) <;> rw [hd] at hb <;> cases hb
theorem call10f (t : Tab) (i : Int) (h : t.ok) (hi : i < 0 ∨ (t.n : Int) ≤ i) : CallsTo Try.prog 10 [t.d, .int .i64 i] (.tup [.str [], .bool false]) := calls Try.func10 rfl (by decide) (run10f t i h hi)
theorem run13t (t : Tab) (key : S8) : Runs Try.prog T 6 (Try.f13.body.getD .skip) Try.f13.results.toList [t.d, .str key] (.fn 32 [.eptr t.d 0, .eptr (.str key) 0]) := by
  refine ⟨Nat.le_of_ble_eq_true rfl, ?_⟩
  conv => whnf
  exact ⟨rfl, rfl⟩
theorem call13t (t : Tab) (key : S8) : CallsTo Try.prog 13 [t.d, .str key] (.fn 32 [.eptr t.d 0, .eptr (.str key) 0]) := calls Try.func13 rfl (by decide) (run13t t key)
theorem run13n (key : S8) : Runs Try.prog T 6 (Try.f13.body.getD .skip) Try.f13.results.toList [.nilp, .str key] (.fn 32 [.eptr .nilp 0, .eptr (.str key) 0]) := by
  refine ⟨Nat.le_of_ble_eq_true rfl, ?_⟩
  conv => whnf
  exact ⟨rfl, rfl⟩
theorem call13n (key : S8) : CallsTo Try.prog 13 [.nilp, .str key] (.fn 32 [.eptr .nilp 0, .eptr (.str key) 0]) := calls Try.func13 rfl (by decide) (run13n key)
/-- Does a text begin with another one? -/
def pre (s p : S8) : Bool := decide (p.length ≤ s.length) && (s.take p.length == p)
theorem run56 (s p : S8) : Runs Try.prog T 18 (Try.f56.body.getD .skip) Try.f56.results.toList [.str s, .str p] (.bool (pre s p)) := by
  refine ⟨Nat.le_of_ble_eq_true rfl, ?_⟩
  conv => whnf
  by_cases h : p.length ≤ s.length
  · have e1 : decide ((p.length : Int) ≤ (s.length : Int)) = true := decide_eq_true (by omega)
    have e2 : sliceD s (Int.toNat ((0 : Nat) : Int)) (Int.toNat (p.length : Int)) = s.take p.length := by simp [sliceD]
    refine sideB_intro (fun _ => decide_eq_true (by omega)) ?_
    conv => whnf
    rw [e1, e2]
    have : pre s p = (s.take p.length == p) := by simp [pre, h]
    rw [this]
    exact ⟨rfl, rfl⟩
  · have e1 : decide ((p.length : Int) ≤ (s.length : Int)) = false := decide_eq_false (by omega)
    refine sideB_intro (fun hg => ?_) ?_
    · have : decide ((p.length : Int) ≤ (s.length : Int)) = true := hg
      rw [e1] at this; cases this
    conv => whnf
    rw [e1]
    have : pre s p = false := by simp [pre, h]
    rw [this]
    exact ⟨rfl, rfl⟩
theorem call56 (s p : S8) : CallsTo Try.prog 56 [.str s, .str p] (.bool (pre s p)) := calls Try.func56 rfl (by decide) (run56 s p)
theorem run34 (s p : S8) : Runs Try.prog T 8 (Try.f34.body.getD .skip) Try.f34.results.toList [.str s, .str p] (.bool (pre s p)) := by
  refine ⟨Nat.le_of_ble_eq_true rfl, ?_⟩
  conv => whnf
  refine ⟨_, fun _ => call56 s p, ?_⟩
  conv => whnf
  exact ⟨rfl, rfl⟩
theorem call34 (s p : S8) : CallsTo Try.prog 34 [.str s, .str p] (.bool (pre s p)) := calls Try.func34 rfl (by decide) (run34 s p)
theorem run57 (w k : Int) : Runs Try.prog T 16 (Try.f57.body.getD .skip) Try.f57.results.toList [.int .i64 w, .int .i64 k] (.bool (decide (1 ≤ k ∧ k ≤ w ∧ w ≤ 255))) := by
  refine ⟨Nat.le_of_ble_eq_true rfl, ?_⟩
  conv => whnf
  have e : (bif (bif decide ((1 : Int) ≤ k) then decide (k ≤ w) else false) then decide (w ≤ 255) else false) = decide (1 ≤ k ∧ k ≤ w ∧ w ≤ 255) := by
    by_cases a : (1 : Int) ≤ k <;> by_cases b : k ≤ w <;> by_cases c : w ≤ 255 <;> simp [a, b, c]
  exact ⟨rfl, congrArg D.bool e⟩
theorem call57 (w k : Int) : CallsTo Try.prog 57 [.int .i64 w, .int .i64 k] (.bool (decide (1 ≤ k ∧ k ≤ w ∧ w ≤ 255))) := calls Try.func57 rfl (by decide) (run57 w k)
end Go.Proofs.Ytbfgendaafediaa.Fw

/- Tables: searching. -/
namespace Go.Proofs.Ytbfgendaafediaa.Fw
open Go Go.RowKit
set_option maxRecDepth 100000
set_option maxHeartbeats 4000000

/-- Where a search ends. -/
def bsr (p : Nat → Bool) : Nat → Nat → Nat → Nat
  | 0, i, _ => i
  | f + 1, i, j => if i < j then (if p ((i + j) / 2) then bsr p f i ((i + j) / 2) else bsr p f ((i + j) / 2 + 1) j) else i
def srch (p : Nat → Bool) (n : Nat) : Nat := bsr p n 0 n
theorem bsr_end (p : Nat → Bool) : ∀ {f i j : Nat}, ¬ i < j → bsr p f i j = i
  | 0, _, _, _ => rfl
  | f + 1, i, j, h => if_neg h
theorem bsr_spec (p : Nat → Bool) (n : Nat) (hm : ∀ x y, x ≤ y → y < n → p x = true → p y = true) : ∀ (f i j : Nat), j ≤ i + f → i ≤ j → j ≤ n → (∀ x, x < i → p x = false) → (∀ x, j ≤ x → x < n → p x = true) → bsr p f i j ≤ n ∧ (∀ x, x < bsr p f i j → p x = false) ∧ ∀ x, bsr p f i j ≤ x → x < n → p x = true
  | 0, i, j, h1, h2, h3, h4, h5 => by
    have : i = j := by omega
    subst this
    exact ⟨h3, h4, h5⟩
  | f + 1, i, j, h1, h2, h3, h4, h5 => by
    unfold bsr
    by_cases hij : i < j
    · rw [if_pos hij]
      by_cases hp : p ((i + j) / 2) = true
      · rw [if_pos hp]
        exact bsr_spec p n hm f i _ (by omega) (by omega) (by omega) h4 fun x hx hn => hm _ x hx hn hp
      · rw [if_neg hp]
        exact bsr_spec p n hm f _ j (by omega) (by omega) h3 (fun x hx => by
          cases hpx : p x with
          | false => rfl
          | true => exact absurd (hm x _ (by omega) (by omega) hpx) hp) h5
    · rw [if_neg hij]
      have : i = j := by omega
      subst this
      exact ⟨h3, h4, h5⟩
theorem srch_spec (p : Nat → Bool) (n : Nat) (hm : ∀ x y, x ≤ y → y < n → p x = true → p y = true) : srch p n ≤ n ∧ (∀ x, x < srch p n → p x = false) ∧ ∀ x, srch p n ≤ x → x < n → p x = true :=
  bsr_spec p n hm n 0 n (by omega) (by omega) (Nat.le_refl _) (fun x h => absurd h (by omega)) fun x h1 h2 => absurd h1 (by omega)
/-- The i-th row's key is not ahead of a text. -/
def geK (t : Tab) (key : S8) (i : Nat) : Bool := !lt8 (t.key i) key
theorem run55 (t : Tab) (key : S8) (i : Nat) (h : t.ok) (hi : i < t.n) : Runs Try.prog T 15 (Try.f55.body.getD .skip) Try.f55.results.toList [.int .i64 i, .eptr t.d 0, .eptr (.str key) 0] (.bool (geK t key i)) := by
  refine ⟨Nat.le_of_ble_eq_true rfl, ?_⟩
  conv => whnf
  have hl := Tab.row_len hi
  have hkw := h.kw
  refine ⟨rfl, ?_⟩
  conv => whnf
  refine ⟨_, fun _ => call31 t i h hi, ?_⟩
  conv => whnf
  refine sideB_intro (fun _ => decide_eq_true (by omega)) ?_
  conv => whnf
  have e : sliceD (t.row i) (Int.toNat ((0 : Nat) : Int)) (Int.toNat (t.k : Int)) = t.key i := by simp [sliceD, Tab.key]
  rw [e]
  exact ⟨rfl, rfl⟩
theorem call55 (t : Tab) (key : S8) (i : Nat) (h : t.ok) (hi : i < t.n) : CallsTo Try.prog 55 [.int .i64 i, .eptr t.d 0, .eptr (.str key) 0] (.bool (geK t key i)) := calls Try.func55 rfl (by decide) (run55 t key i h hi)
theorem run54 (t : Tab) (key : S8) (h : t.ok) : Runs Try.prog T 26 (Try.f54.body.getD .skip) Try.f54.results.toList [.int .i64 t.n, .fn 55 [.eptr t.d 0, .eptr (.str key) 0]] (.int .i64 (srch (geK t key) t.n)) := by
  refine ⟨Nat.le_of_ble_eq_true rfl, ?_⟩
  conv => whnf
  have hn := Tab.n_le h
  have hln := h.len
  refine ⟨[], ?_⟩
  conv => whnf
  refine loop_at (σ := Nat × Nat × Nat) (fun s env => (env.setT 5 (.int .i64 (s.2.1 : Int))).setT 6 (.int .i64 (s.2.2 : Int))) (fun s => s.1) (fun s => s.2.1 ≤ s.2.2 ∧ s.2.2 ≤ t.n ∧ s.2.2 ≤ s.2.1 + s.1 ∧ bsr (geK t key) s.1 s.2.1 s.2.2 = srch (geK t key) t.n) (t.n, 0, t.n) ⟨Nat.zero_le _, Nat.le_refl _, show t.n ≤ 0 + t.n by omega, rfl⟩ rfl ?_
  rintro ⟨f, i, j⟩ ⟨h1, h2, h3, h4⟩ ih
  simp only at h1 h2 h3 h4
  conv => whnf
  refine ifB_intro (fun hc => ?_) (fun hc => ?_)
  · have hc : (i : Int) < (j : Int) := of_decide_eq_true hc
    have e1 : IntKind.i64.wrap ((i : Int) + (j : Int)) = ((i + j : Nat) : Int) := by rw [IntKind.wrap_i64]; omega
    have e2 : IntKind.u64.wrap ((i + j : Nat) : Int) = ((i + j : Nat) : Int) := by
      have : IntKind.u64.wrap ((i + j : Nat) : Int) = ((i + j : Nat) : Int) % 18446744073709551616 := by simp [IntKind.wrap, IntKind.bits, IntKind.signed]
      omega
    have e3 : IntKind.i64.wrap (Int.fdiv ((i + j : Nat) : Int) (2 ^ min (Int.toNat 1) IntKind.u64.bits)) = (((i + j) / 2 : Nat) : Int) := by
      have : Int.fdiv ((i + j : Nat) : Int) (2 ^ min (Int.toNat 1) IntKind.u64.bits) = (((i + j) / 2 : Nat) : Int) := by
        rw [show (2 : Int) ^ min (Int.toNat 1) IntKind.u64.bits = ((2 : Nat) : Int) from rfl]
        exact (Int.ofNat_fdiv _ _).symm
      rw [this, IntKind.wrap_i64]; omega
    have hh : IntKind.i64.wrap ((IntKind.u64.wrap (IntKind.i64.wrap ((i : Int) + (j : Int)))).fdiv (2 ^ min (Int.toNat 1) IntKind.u64.bits)) = (((i + j) / 2 : Nat) : Int) := by rw [e1, e2, e3]
    cases f with
    | zero => exfalso; omega
    | succ f =>
    have hlt : i < j := by omega
    rw [bsr, if_pos hlt] at h4
    conv => whnf
    rw [hh]
    refine ⟨_, fun _ => call55 t key ((i + j) / 2) h (by omega), ?_⟩
    conv => whnf
    refine ifB_intro (fun hp => ?_) (fun hp => ?_)
    · have hp : (!(geK t key ((i + j) / 2))) = true := hp
      have hp : geK t key ((i + j) / 2) = false := by simpa using hp
      rw [if_neg (by rw [hp]; simp)] at h4
      have hw : IntKind.i64.wrap ((((i + j) / 2 : Nat) : Int) + 1) = (((i + j) / 2 + 1 : Nat) : Int) := by rw [IntKind.wrap_i64]; omega
      have ih' := ih (f, (i + j) / 2 + 1, j) ⟨show (i + j) / 2 + 1 ≤ j by omega, h2, show j ≤ (i + j) / 2 + 1 + f by omega, h4⟩ rfl
      conv => whnf
      rw [hw]
      exact ih'
    · have hp : (!(geK t key ((i + j) / 2))) = false := hp
      have hp : geK t key ((i + j) / 2) = true := by simpa using hp
      rw [if_pos hp] at h4
      have ih' := ih (f, i, (i + j) / 2) ⟨show i ≤ (i + j) / 2 by omega, show (i + j) / 2 ≤ t.n by omega, show (i + j) / 2 ≤ i + f by omega, h4⟩ rfl
      conv => whnf
      exact ih'
  · have hc : ¬ ((i : Int) < (j : Int)) := of_decide_eq_false hc
    rw [bsr_end _ (by omega)] at h4
    conv => whnf
    rw [← h4]
    exact ⟨rfl, rfl⟩
end Go.Proofs.Ytbfgendaafediaa.Fw

/- Tables: rows of a beginning; finding. -/
namespace Go.Proofs.Ytbfgendaafediaa.Fw
open Go Go.RowKit
set_option maxRecDepth 100000
set_option maxHeartbeats 4000000

theorem bsr_le (p : Nat → Bool) : ∀ (f : Nat) {i j : Nat}, i ≤ j → bsr p f i j ≤ j
  | 0, _, _, h => h
  | f + 1, i, j, h => by
    unfold bsr
    by_cases hij : i < j
    · rw [if_pos hij]
      by_cases hp : p ((i + j) / 2) = true
      · rw [if_pos hp]; exact Nat.le_trans (bsr_le p f (by omega)) (by omega)
      · rw [if_neg hp]; exact bsr_le p f (by omega)
    · rw [if_neg hij]; exact h
def fromK (t : Tab) (key : S8) : Nat := srch (geK t key) t.n
theorem run33 (t : Tab) (key : S8) (h : t.ok) : Runs Try.prog T 9 (Try.f33.body.getD .skip) Try.f33.results.toList [t.d, .str key] (.int .i64 (fromK t key)) := by
  refine ⟨Nat.le_of_ble_eq_true rfl, ?_⟩
  conv => whnf
  refine ⟨_, fun _ => call15 t h, ?_⟩
  conv => whnf
  refine ⟨_, fun _ => calls Try.func54 rfl (by decide) (run54 t key h), ?_⟩
  conv => whnf
  exact ⟨rfl, rfl⟩
theorem call33 (t : Tab) (key : S8) (h : t.ok) : CallsTo Try.prog 33 [t.d, .str key] (.int .i64 (fromK t key)) := calls Try.func33 rfl (by decide) (run33 t key h)
theorem run54n (key : S8) : Runs Try.prog T 26 (Try.f54.body.getD .skip) Try.f54.results.toList [.int .i64 0, .fn 55 [.eptr .nilp 0, .eptr (.str key) 0]] (.int .i64 0) := by
  refine ⟨Nat.le_of_ble_eq_true rfl, ?_⟩
  conv => whnf
  refine ⟨[], ?_⟩
  conv => whnf
  refine ⟨1, ?_⟩
  conv => whnf
  exact ⟨rfl, rfl⟩
theorem run33n (key : S8) : Runs Try.prog T 9 (Try.f33.body.getD .skip) Try.f33.results.toList [.nilp, .str key] (.int .i64 0) := by
  refine ⟨Nat.le_of_ble_eq_true rfl, ?_⟩
  conv => whnf
  refine ⟨_, fun _ => call15n, ?_⟩
  conv => whnf
  refine ⟨_, fun _ => calls Try.func54 rfl (by decide) (run54n key), ?_⟩
  conv => whnf
  exact ⟨rfl, rfl⟩
theorem call33n (key : S8) : CallsTo Try.prog 33 [.nilp, .str key] (.int .i64 0) := calls Try.func33 rfl (by decide) (run33n key)
def preGo (t : Tab) (key : S8) : Nat → Nat → List (Nat × S8)
  | 0, _ => []
  | f + 1, i => bif decide (i < t.n) && pre (t.key i) key then (i, t.row i) :: preGo t key f (i + 1) else []
def prefL (t : Tab) (key : S8) : List (Nat × S8) := preGo t key (t.n - fromK t key) (fromK t key)
def encR (p : Nat × S8) : List D := [.int .i64 p.1, .str p.2]
def Env.setY (ys : Option (Nat × List (List D))) (env : Env) : Env := { env with ys := ys }
theorem yields32 (t : Tab) (key : S8) (h : t.ok) : Yields Try.prog T 33 (Try.f32.body.getD .skip) [.eptr t.d 0, .eptr (.str key) 0] ((prefL t key).map encR) := by
  refine ⟨Nat.le_of_ble_eq_true rfl, fun yl => ?_⟩
  have hn := Tab.n_le h
  have hln := h.len
  have hkw := h.kw
  conv => whnf
  refine ⟨_, fun _ => call33 t key h, ?_⟩
  conv => whnf
  refine ⟨[], ?_⟩
  conv => whnf
  have hfr : fromK t key ≤ t.n := bsr_le _ _ (Nat.zero_le _)
  unfold prefL
  generalize fromK t key = i0 at hfr
  refine loop_at (σ := Nat) (fun i env => (env.setT 4 (.int .i64 (i : Int))).setY (some (yl, (preGo t key (t.n - i) i).map encR))) (fun i => t.n - i) (fun i => i ≤ t.n) i0 hfr rfl ?_
  rintro i hi ih
  have hx : i < t.n → preGo t key (t.n - i) i = bif pre (t.key i) key then (i, t.row i) :: preGo t key (t.n - (i + 1)) (i + 1) else [] := fun hlt => by
    rw [show t.n - i = (t.n - (i + 1)) + 1 from by omega, preGo, decide_eq_true hlt, Bool.true_and]
  conv => whnf
  refine ⟨rfl, ?_⟩
  conv => whnf
  refine ⟨_, fun _ => call15 t h, ?_⟩
  conv => whnf
  have hgi : decide ((i : Int) < (t.n : Int)) = true → i < t.n := fun hg => by have := of_decide_eq_true hg; omega
  refine ⟨.str (t.row i), fun hg => call31 t i h (hgi hg), ?_⟩
  conv => whnf
  refine sideB_intro (fun hg => ?_) ?_
  · have := Tab.row_len (hgi hg)
    exact decide_eq_true (by omega)
  have e : sliceD (t.row i) (Int.toNat ((0 : Nat) : Int)) (Int.toNat (t.k : Int)) = t.key i := by simp [sliceD, Tab.key]
  rw [e]
  conv => whnf
  refine ⟨_, fun _ => call34 (t.key i) key, ?_⟩
  conv => whnf
  refine ifB_intro (fun hb => ?_) (fun hb => ?_)
  · have hb : (bif decide ((i : Int) < (t.n : Int)) then pre (t.key i) key else false) = true := hb
    have hlt : i < t.n := by
      refine hgi ?_
      cases hd : decide ((i : Int) < (t.n : Int)) with
      | true => rfl
      | false => rw [hd] at hb; cases hb
    have hp : pre (t.key i) key = true := by
      rw [decide_eq_true (by omega : (i : Int) < (t.n : Int))] at hb; exact hb
    have hx := hx hlt
    rw [hp, cond_true] at hx
    have hw : IntKind.i64.wrap ((i : Int) + 1) = ((i + 1 : Nat) : Int) := by rw [IntKind.wrap_i64]; omega
    have ih' := ih (i + 1) (by omega) (by omega)
    rw [hx, List.map_cons]
    conv => whnf
    refine ⟨_, fun _ => call31 t i h hlt, ?_⟩
    conv => whnf
    refine ⟨⟨rfl, rfl⟩, ?_, ?_⟩
    · conv => whnf
      rw [hw]
      exact ih'
    · conv => whnf
      trivial
  · have hb : (bif decide ((i : Int) < (t.n : Int)) then pre (t.key i) key else false) = false := hb
    have he : preGo t key (t.n - i) i = [] := by
      by_cases hlt : i < t.n
      · rw [hx hlt]
        rw [decide_eq_true (by omega : (i : Int) < (t.n : Int)), cond_true] at hb
        rw [hb]; rfl
      · rw [show t.n - i = 0 from by omega]; rfl
    rw [he]
    conv => whnf
    trivial
theorem iter32 (t : Tab) (key : S8) (h : t.ok) : IterTo Try.prog 32 [.eptr t.d 0, .eptr (.str key) 0] ((prefL t key).map encR) := iters Try.func32 rfl (by decide) rfl (yields32 t key h)
theorem yields32n (key : S8) : Yields Try.prog T 33 (Try.f32.body.getD .skip) [.eptr .nilp 0, .eptr (.str key) 0] [] := by
  refine ⟨Nat.le_of_ble_eq_true rfl, fun yl => ?_⟩
  conv => whnf
  refine ⟨_, fun _ => call33n key, ?_⟩
  conv => whnf
  refine ⟨[], ?_⟩
  conv => whnf
  refine ⟨1, ?_⟩
  conv => whnf
  refine ⟨rfl, ?_⟩
  conv => whnf
  refine ⟨_, fun _ => call15n, ?_⟩
  conv => whnf
  have hg0 : decide ((0 : Int) < 0) = true → False := by decide
  refine ⟨.str [], fun hg => (hg0 hg).elim, ?_⟩
  conv => whnf
  refine ⟨fun hg => hg0 hg, ?_⟩
  conv => whnf
  refine ⟨fun hg => hg0 hg, ?_⟩
  conv => whnf
  repeat (refine ⟨fun hg => hg0 hg, ?_⟩; conv => whnf)
  trivial
theorem iter32n (key : S8) : IterTo Try.prog 32 [.eptr .nilp 0, .eptr (.str key) 0] [] := iters Try.func32 rfl (by decide) rfl (yields32n key)
theorem run11n (key : S8) : Runs Try.prog T 22 (Try.f11.body.getD .skip) Try.f11.results.toList [.nilp, .str key] (.tup [.str [], .bool false]) := by
  refine ⟨Nat.le_of_ble_eq_true rfl, ?_⟩
  conv => whnf
  refine ⟨_, fun _ => call13n key, ?_⟩
  conv => whnf
  refine ⟨[], ?_⟩
  conv => whnf
  refine ⟨[], iter32n key, ?_⟩
  conv => whnf
  exact ⟨rfl, rfl⟩
theorem call11n (key : S8) : CallsTo Try.prog 11 [.nilp, .str key] (.tup [.str [], .bool false]) := calls Try.func11 rfl (by decide) (run11n key)
theorem preGo_head {t : Tab} {key : S8} : ∀ {f i0 i : Nat} {r : S8} {l : List (Nat × S8)}, preGo t key f i0 = (i, r) :: l → i = i0 ∧ i < t.n ∧ r = t.row i ∧ pre (t.key i) key = true
  | 0, i0, i, r, l, h => by cases h
  | f + 1, i0, i, r, l, h => by
    unfold preGo at h
    cases hc : (decide (i0 < t.n) && pre (t.key i0) key) with
    | false => rw [hc] at h; cases h
    | true =>
      rw [hc, cond_true] at h
      simp only [List.cons.injEq, Prod.mk.injEq] at h
      obtain ⟨⟨rfl, rfl⟩, _⟩ := h
      simp only [Bool.and_eq_true, decide_eq_true_eq] at hc
      exact ⟨rfl, hc.1, rfl, hc.2⟩
/-- The row of a key. -/
def findT (t : Tab) (key : S8) : Option S8 := match prefL t key with
  | (i, _) :: _ => bif t.key i == key then some (t.row i) else none
  | [] => none
theorem run11 (t : Tab) (key : S8) (h : t.ok) : Runs Try.prog T 22 (Try.f11.body.getD .skip) Try.f11.results.toList [t.d, .str key] (.tup [.str ((findT t key).getD []), .bool (findT t key).isSome]) := by
  refine ⟨Nat.le_of_ble_eq_true rfl, ?_⟩
  conv => whnf
  refine ⟨_, fun _ => call13t t key, ?_⟩
  conv => whnf
  refine ⟨[], ?_⟩
  conv => whnf
  refine ⟨_, iter32 t key h, ?_⟩
  unfold findT
  cases hp : prefL t key with
  | nil =>
    conv => whnf
    exact ⟨rfl, rfl⟩
  | cons p l =>
    obtain ⟨i, r⟩ := p
    obtain ⟨hi0, hin, rfl, hpre⟩ := preGo_head hp
    have hl := Tab.row_len hin
    have hkw := h.kw
    rw [show ((i, t.row i) :: l).map encR = [D.int .i64 (i : Int), D.str (t.row i)] :: l.map encR from rfl]
    have hm : (match (i, t.row i) :: l with
      | (i, _) :: _ => bif t.key i == key then some (t.row i) else none
      | [] => none) = bif t.key i == key then some (t.row i) else none := rfl
    rw [hm]
    conv => whnf
    refine ⟨rfl, ?_⟩
    conv => whnf
    refine sideB_intro (fun _ => decide_eq_true (by omega)) ?_
    have e : sliceD (t.row i) (Int.toNat ((0 : Nat) : Int)) (Int.toNat (t.k : Int)) = t.key i := by simp [sliceD, Tab.key]
    rw [e]
    conv => whnf
    cases hb : (t.key i == key) with
    | true =>
      conv => whnf
      exact ⟨rfl, rfl⟩
    | false =>
      conv => whnf
      exact ⟨rfl, rfl⟩
theorem call11 (t : Tab) (key : S8) (h : t.ok) : CallsTo Try.prog 11 [t.d, .str key] (.tup [.str ((findT t key).getD []), .bool (findT t key).isSome]) := calls Try.func11 rfl (by decide) (run11 t key h)
end Go.Proofs.Ytbfgendaafediaa.Fw

/- Sorting of rows by their keys. -/
namespace Go.Proofs.Ytbfgendaafediaa.Fw
open Go Go.RowKit
set_option maxRecDepth 100000
set_option maxHeartbeats 4000000

/-- By the first k bytes. -/
abbrev ltP (k : Nat) (a b : S8) : Bool := lt8 (a.take k) (b.take k)
theorem sift_all {α : Type} (lt : α → α → Bool) {P : α → Prop} : ∀ (j : Nat) (L : List α), (∀ x ∈ L, P x) → ∀ x ∈ sift lt j L, P x
  | 0, L, h => h
  | j + 1, L, h => by
    unfold sift
    split
    · rename_i a b ha hb
      cases lt a b
      · exact h
      · rw [cond_true]
        refine sift_all lt j _ fun z hz => ?_
        rcases List.mem_or_eq_of_mem_set hz with hz | rfl
        · rcases List.mem_or_eq_of_mem_set hz with hz | rfl
          · exact h z hz
          · exact h _ (List.mem_of_getElem? hb)
        · exact h _ (List.mem_of_getElem? ha)
    · exact h
theorem sortTo_all {α : Type} (lt : α → α → Bool) {P : α → Prop} {L : List α} (h : ∀ x ∈ L, P x) : ∀ i, ∀ x ∈ sortTo lt L i, P x
  | 0 => h
  | i + 1 => sift_all lt i _ (sortTo_all lt h i)
theorem run60 (k : Nat) (a b : S8) (ha : k ≤ a.length) (hb : k ≤ b.length) : Runs Try.prog T 13 (Try.f60.body.getD .skip) Try.f60.results.toList [.str a, .str b, .eptr (.int .i64 k) 0] (.int .i64 (cmp8 (a.take k) (b.take k))) := by
  refine ⟨Nat.le_of_ble_eq_true rfl, ?_⟩
  conv => whnf
  refine ⟨rfl, ?_⟩
  conv => whnf
  refine sideB_intro (fun _ => decide_eq_true (by omega)) ?_
  conv => whnf
  refine sideB_intro (fun _ => decide_eq_true (by omega)) ?_
  conv => whnf
  have e : ∀ s : S8, sliceD s (Int.toNat ((0 : Nat) : Int)) (Int.toNat (k : Int)) = s.take k := fun s => by simp [sliceD]
  rw [e, e]
  refine ⟨_, fun _ => call61 (a.take k) (b.take k), ?_⟩
  conv => whnf
  exact ⟨rfl, rfl⟩
theorem call60 (k : Nat) (a b : S8) (ha : k ≤ a.length) (hb : k ≤ b.length) : CallsTo Try.prog 60 [.str a, .str b, .eptr (.int .i64 k) 0] (.int .i64 (cmp8 (a.take k) (b.take k))) := calls Try.func60 rfl (by decide) (run60 k a b ha hb)
theorem run94 (k : Nat) (l : List S8) (hl : l.length ≤ 1000000) (hkl : ∀ x ∈ l, k ≤ x.length) : RunsR Try.prog T 53 (Try.f94.body.getD .skip) Try.f94.results.toList ([]) (hS) (hR 9 1 (l.map D.str)) [.rsl 1000000 1 0 l.length, .int .i64 0, .int .i64 l.length, .fn 60 [.eptr (.int .i64 k) 0]] (fun d bx rw => d = .tup [] ∧ bx = [] ∧ rw = hR 9 1 ((isort (ltP k) l).map D.str)) (hS) := by
  refine ⟨Nat.le_of_ble_eq_true rfl, rfl, ?_⟩
  conv => whnf
  refine ⟨[], ?_⟩
  conv => whnf
  refine loop_at (σ := Nat) (fun i env => (env.setT 8 (.int .i64 ((i + 1 : Nat) : Int))).setX 1000000 ((sortTo (ltP k) l (i + 1)).map D.str)) (fun i => l.length - i) (fun i => i + 1 ≤ l.length ∨ i = 0) 0 (.inr rfl) rfl ?_
  rintro i hi ih
  conv => whnf
  refine ifB_intro (fun h => ?_) (fun h => ?_)
  · have h : ((i + 1 : Nat) : Int) < (l.length : Int) := of_decide_eq_true h
    have hlt : i + 1 < l.length := by omega
    have hw : IntKind.i64.wrap (((i + 1 : Nat) : Int) + 1) = ((i + 1 + 1 : Nat) : Int) := by rw [IntKind.wrap_i64]; omega
    have ih' := ih (i + 1) (.inl hlt) (by omega)
    have hlen := sortTo_length (ltP k) l (i + 1)
    have hmem : ∀ x ∈ sortTo (ltP k) l (i + 1), k ≤ x.length := sortTo_all (ltP k) hkl (i + 1)
    rw [sortTo] at ih'
    revert ih' hlen hmem
    generalize sortTo (ltP k) l (i + 1) = L0
    intro ih' hlen hmem
    conv => whnf
    refine ⟨[], ?_⟩
    conv => whnf
    refine loop_at (σ := Nat × List S8) (fun q env => (env.setT 9 (.int .i64 (q.1 : Int))).setX 1000000 (q.2.map D.str)) (fun q => q.1 + (l.length - l.length)) (fun q => q.1 ≤ i + 1 ∧ q.2.length = l.length ∧ (∀ x ∈ q.2, k ≤ x.length) ∧ sift (ltP k) q.1 q.2 = sift (ltP k) (i + 1) L0) (i + 1, L0) ⟨Nat.le_refl _, hlen, hmem, rfl⟩ rfl ?_
    rintro ⟨j, M⟩ ⟨hj, hM, hMk, hs⟩ ih2
    replace hj : j ≤ i + 1 := hj
    replace hM : M.length = l.length := hM
    replace hMk : ∀ x ∈ M, k ≤ x.length := hMk
    replace hs : sift (ltP k) j M = sift (ltP k) (i + 1) L0 := hs
    have hjl : j < M.length := by omega
    have hj1 : j - 1 < M.length := by omega
    obtain ⟨x, hx⟩ : ∃ x, M[j]? = some x := ⟨_, List.getElem?_eq_getElem hjl⟩
    obtain ⟨y, hy⟩ : ∃ y, M[j - 1]? = some y := ⟨_, List.getElem?_eq_getElem hj1⟩
    have hxk := hMk x (List.mem_of_getElem? hx)
    have hyk := hMk y (List.mem_of_getElem? hy)
    have hk := zero_toNat j
    have hk1 : 0 + Int.toNat (IntKind.i64.wrap ((j : Int) - 1)) = j - 1 := by rw [IntKind.wrap_i64]; omega
    conv => whnf
    refine ⟨rfl, ?_⟩
    conv => whnf
    refine sideB_intro (fun _ => decide_eq_true (by dsimp only; omega)) ?_
    conv => whnf
    refine fD_of (getD_enc (enc := D.str) (x := x) (by dsimp only; rw [hk]; exact hx)) ?_
    conv => whnf
    refine sideB_intro (fun _ => blt_of (by simp only [List.length_map]; omega)) ?_
    conv => whnf
    refine sideB_intro (fun hg => ?_) ?_
    · have hg : decide ((0 : Int) < (j : Int)) = true := hg
      have hg := of_decide_eq_true hg
      exact decide_eq_true (by dsimp only; rw [IntKind.wrap_i64]; omega)
    conv => whnf
    refine fD_of (getD_enc (enc := D.str) (x := y) (by dsimp only; rw [hk1]; exact hy)) ?_
    conv => whnf
    refine sideB_intro (fun _ => blt_of (by simp only [List.length_map]; omega)) ?_
    conv => whnf
    refine ⟨_, fun _ => call60 k x y hxk hyk, ?_⟩
    conv => whnf
    refine ifB_intro (fun hb => ?_) (fun hb => ?_)
    · have hb : 0 < j ∧ (ltP k) x y = true := by
        have hb : (bif decide ((0 : Int) < (j : Int)) then decide (cmp8 (x.take k) (y.take k) < 0) else false) = true := hb
        rw [cmp_lt] at hb
        by_cases h0 : (0 : Int) < (j : Int)
        · rw [decide_eq_true h0, cond_true] at hb; exact ⟨by omega, hb⟩
        · rw [decide_eq_false h0] at hb; cases hb
      obtain ⟨j, rfl⟩ : ∃ q, j = q + 1 := ⟨j - 1, by omega⟩
      have hsw : sift (ltP k) (j + 1) M = sift (ltP k) j ((M.set (j + 1) y).set j x) := by
        rw [sift, hx, show M[j]? = some y from hy]
        simp only [hb.2, cond_true]
      have ih3 := ih2 (j, (M.set (j + 1) y).set j x) ⟨by show j ≤ i + 1; omega, by simp [hM], fun z hz => (by
          rcases List.mem_or_eq_of_mem_set hz with hz | rfl
          · rcases List.mem_or_eq_of_mem_set hz with hz | rfl
            · exact hMk z hz
            · exact hyk
          · exact hxk), hsw.symm.trans hs⟩ (by dsimp only; omega)
      have hw2 : IntKind.i64.wrap (((j + 1 : Nat) : Int) - 1) = (j : Int) := by rw [IntKind.wrap_i64]; omega
      have hkj := zero_toNat j
      conv => whnf
      refine ⟨rfl, ?_⟩
      conv => whnf
      refine sideB_intro (fun _ => decide_eq_true (by dsimp only; rw [hw2]; omega)) ?_
      conv => whnf
      refine fD_of (getD_enc (enc := D.str) (x := y) (by dsimp only; rw [hk1]; exact hy)) ?_
      conv => whnf
      refine sideB_intro (fun _ => blt_of (by simp only [List.length_map]; omega)) ?_
      conv => whnf
      refine sideB_intro (fun _ => decide_eq_true (by dsimp only; omega)) ?_
      conv => whnf
      refine fD_of (getD_enc (enc := D.str) (x := x) (by dsimp only; rw [hk]; exact hx)) ?_
      conv => whnf
      refine sideB_intro (fun _ => blt_of (by simp only [List.length_map]; omega)) ?_
      conv => whnf
      refine sideB_intro (fun _ => decide_eq_true (by dsimp only; omega)) ?_
      conv => whnf
      refine sideB_intro (fun _ => blt_of (by simp only [List.length_map]; omega)) ?_
      conv => whnf
      refine sideB_intro (fun _ => decide_eq_true (by dsimp only; rw [hw2]; omega)) ?_
      conv => whnf
      refine sideB_intro (fun _ => blt_of (by simp only [List.length_map, List.length_set]; omega)) ?_
      conv => whnf
      rw [hw2, hkj, hk, set_enc (enc := D.str) (x := y) (d := .str y) rfl, set_enc (enc := D.str) (x := x) (d := .str x) rfl]
      exact ih3
    · have hb : ¬ (0 < j ∧ (ltP k) x y = true) := fun ⟨h0, h1⟩ => by
        have hb : (bif decide ((0 : Int) < (j : Int)) then decide (cmp8 (x.take k) (y.take k) < 0) else false) = false := hb
        rw [cmp_lt] at hb
        rw [decide_eq_true (by omega), cond_true, show lt8 (x.take k) (y.take k) = true from h1] at hb; cases hb
      have he : sift (ltP k) j M = M := by
        cases j with
        | zero => rfl
        | succ j =>
          rw [sift, hx, show M[j]? = some y from hy]
          have : (ltP k) x y = false := by
            cases h1 : (ltP k) x y with
            | false => rfl
            | true => exact absurd ⟨by omega, h1⟩ hb
          simp only [this, cond_false]
      rw [he] at hs
      conv => whnf
      rw [hs, hw]
      exact ih'
  · conv => whnf
    have h : ¬ (((i + 1 : Nat) : Int) < (l.length : Int)) := of_decide_eq_false h
    refine ⟨rfl, rfl, rfl, ?_⟩
    have : sortTo (ltP k) l (i + 1) = isort (ltP k) l := by
      rcases hi with hi | rfl
      · rw [isort, show i + 1 = l.length from by omega]
      · rw [isort]
        rcases (show l.length = 0 ∨ l.length = 1 from by omega) with e | e
        · rw [List.eq_nil_of_length_eq_zero e]; rfl
        · rw [e]
    rw [this]; rfl
theorem call94 (k : Nat) (l : List S8) (hl : l.length ≤ 1000000) (hkl : ∀ x ∈ l, k ≤ x.length) : CallsR Try.prog 94 [] hS (hR 9 1 (l.map D.str)) [.rsl 1000000 1 0 l.length, .int .i64 0, .int .i64 l.length, .fn 60 [.eptr (.int .i64 k) 0]] (.tup []) [] hS (hR 9 1 ((isort (ltP k) l).map D.str)) := callsR_imp (callsR Try.func94 rfl (by decide) (run94 k l hl hkl)) fun a b c h => h
abbrev Tp3 := Tm [94] []
theorem run77 (k : Nat) (l : List S8) (hl : l.length ≤ 12) (hkl : ∀ x ∈ l, k ≤ x.length) (m : Int) : RunsR Try.prog Tp3 148 (Try.f77.body.getD .skip) Try.f77.results.toList ([]) (hS) (hR 9 1 (l.map D.str)) [.rsl 1000000 1 0 l.length, .int .i64 0, .int .i64 l.length, .int .i64 m, .fn 60 [.eptr (.int .i64 k) 0]] (fun d bx rw => d = .tup [] ∧ bx = [] ∧ rw = hR 9 1 ((isort (ltP k) l).map D.str)) (hS) := by
  refine ⟨Nat.le_of_ble_eq_true rfl, rfl, ?_⟩
  conv => whnf
  refine ⟨[], ?_⟩
  conv => whnf
  refine ⟨1, ?_⟩
  conv => whnf
  refine ifB_intro (fun _ => ?_) (fun h => ?_)
  · conv => whnf
    refine ⟨⟨[], [(1000000, 1000000)], .tup [], [], hS, hR 9 1 ((isort (ltP k) l).map D.str)⟩, ?_⟩
    conv => whnf
    refine ⟨rfl, call94 k l (by omega) hkl, ?_⟩
    conv => whnf
    exact ⟨rfl, rfl, rfl, rfl⟩
  · exfalso
    have h := of_decide_eq_false h
    rw [IntKind.wrap_i64] at h; omega
theorem call77 (k : Nat) (l : List S8) (hl : l.length ≤ 12) (hkl : ∀ x ∈ l, k ≤ x.length) (m : Int) : CallsR Try.prog 77 [] hS (hR 9 1 (l.map D.str)) [.rsl 1000000 1 0 l.length, .int .i64 0, .int .i64 l.length, .int .i64 m, .fn 60 [.eptr (.int .i64 k) 0]] (.tup []) [] hS (hR 9 1 ((isort (ltP k) l).map D.str)) := callsR_imp (callsR Try.func77 rfl (by decide) (run77 k l hl hkl m)) fun a b c h => h
abbrev Tq3 := Tm [77] []
theorem run59 (k : Nat) (l : List S8) (hl : l.length ≤ 12) (hkl : ∀ x ∈ l, k ≤ x.length) : RunsR Try.prog Tq3 14 (Try.f59.body.getD .skip) Try.f59.results.toList ([]) (hS) (hR 9 1 (l.map D.str)) [.rsl 1000000 1 0 l.length, .fn 60 [.eptr (.int .i64 k) 0]] (fun d bx rw => d = .tup [] ∧ bx = [] ∧ rw = hR 9 1 ((isort (ltP k) l).map D.str)) (hS) := by
  refine ⟨Nat.le_of_ble_eq_true rfl, rfl, ?_⟩
  conv => whnf
  obtain ⟨m, hc⟩ := len12 l.length hl
  refine ⟨_, fun _ => hc, ?_⟩
  conv => whnf
  refine ⟨⟨[], [(1000000, 1000000)], .tup [], [], hS, hR 9 1 ((isort (ltP k) l).map D.str)⟩, ?_⟩
  conv => whnf
  refine ⟨rfl, call77 k l hl hkl m, ?_⟩
  conv => whnf
  exact ⟨rfl, rfl, rfl, rfl⟩
theorem call59 (k : Nat) (l : List S8) (hl : l.length ≤ 12) (hkl : ∀ x ∈ l, k ≤ x.length) : CallsR Try.prog 59 [] hS (hR 9 1 (l.map D.str)) [.rsl 1000000 1 0 l.length, .fn 60 [.eptr (.int .i64 k) 0]] (.tup []) [] hS (hR 9 1 ((isort (ltP k) l).map D.str)) := callsR_imp (callsR Try.func59 rfl (by decide) (run59 k l hl hkl)) fun a b c h => h
end Go.Proofs.Ytbfgendaafediaa.Fw

/- strings.Join: by the library's own contract. -/
namespace Go.Proofs.Ytbfgendaafediaa.Fw
open Go Go.RowKit Go.Shelf
set_option maxRecDepth 100000
set_option maxHeartbeats 4000000

def joinRen : Go.Shelf.Ren := ⟨fun | 156 => 63 | 165 => 79 | 166 => 80 | 169 => 81 | 240 => 102 | 241 => 103 | 276 => 120 | 277 => 121 | n => n, fun | 31 => 34 | 9 => 9 | 3 => 3 | 4 => 4 | 0 => 0 | 20 => 20 | 72 => 98 | 76 => 100 | 70 => 96 | 37 => 68 | 75 => 59 | 127 => 123 | 164 => 137 | 5 => 5 | 80 => 32 | n => n, fun n => n⟩
theorem laysJoin : Lays.n156 Try.prog joinRen where
  mixed := by kernel_rfl
  f156 := Try.func63.trans (congrArg some (by kernel_rfl))
  f165 := Try.func79.trans (congrArg some (by kernel_rfl))
  f166 := Try.func80.trans (congrArg some (by kernel_rfl))
  f169 := Try.func81.trans (congrArg some (by kernel_rfl))
  f240 := Try.func102.trans (congrArg some (by kernel_rfl))
  f241 := Try.func103.trans (congrArg some (by kernel_rfl))
  f276 := Try.func120.trans (congrArg some (by kernel_rfl))
  f277 := Try.func121.trans (congrArg some (by kernel_rfl))
  t0 := Try.underlying0
  a0 := Try.isAgg0
  z0 := Try.sizeOf0
  v0 := Try.zeroValue0
  t3 := Try.underlying3
  a3 := Try.isAgg3
  z3 := Try.sizeOf3
  v3 := Try.zeroValue3
  t4 := Try.underlying4
  a4 := Try.isAgg4
  z4 := Try.sizeOf4
  v4 := Try.zeroValue4
  t9 := Try.underlying9
  a9 := Try.isAgg9
  z9 := Try.sizeOf9
  v9 := Try.zeroValue9
  t20 := Try.underlying20
  a20 := Try.isAgg20
  z20 := Try.sizeOf20
  v20 := Try.zeroValue20
  t31 := Try.underlying34
  a31 := Try.isAgg34
  z31 := Try.sizeOf34
  v31 := Try.zeroValue34
  t37 := Try.underlying68
  a37 := Try.isAgg68
  z37 := Try.sizeOf68
  v37 := Try.zeroValue68
  t70 := Try.underlying96
  a70 := Try.isAgg96
  z70 := Try.sizeOf96
  v70 := Try.zeroValue96
  t72 := Try.underlying98
  a72 := Try.isAgg98
  z72 := Try.sizeOf98
  v72 := Try.zeroValue98
  t75 := Try.underlying59
  a75 := Try.isAgg59
  z75 := Try.sizeOf59
  v75 := Try.zeroValue59
  t76 := Try.underlying100
  a76 := Try.isAgg100
  z76 := Try.sizeOf100
  v76 := Try.zeroValue100
  t127 := Try.underlying123
  a127 := Try.isAgg123
  z127 := Try.sizeOf123
  v127 := Try.zeroValue123
  t164 := Try.underlying137
  a164 := Try.isAgg137
  z164 := Try.sizeOf137
  v164 := Try.zeroValue137
theorem joinExtra : Builder.Extra Try.prog joinRen where
  sizeBuilder := by kernel_rfl
  liesBuilder := by kernel_rfl
  t5 := Try.underlying5
  a5 := Try.isAgg5
  z5 := Try.sizeOf5
  v5 := Try.zeroValue5
  infoByte := by kernel_rfl
  cellsByte := by kernel_rfl
  sizeByte := by kernel_rfl
  neB5 := by decide

/-- Texts, one behind the other, with one between. -/
def joinS (l : List S8) (sep : S8) : S8 := Lib.join l sep
theorem repRow_str {I : Im} {w : World} {a : Addr} : ∀ {l : List S8} {i : Nat}, RepRow I w 1 (l.map D.str) a i → ∀ (j : Nat) (s : S8), l[j]? = some s → I (a.add ((i + j) * 1)).block (a.add ((i + j) * 1)).off ∧ w.cell? (a.add ((i + j) * 1)) = some (.string ⟨⟨s⟩⟩)
  | [], _, _, j, s, h => by simp at h
  | x :: l, i, h, 0, s, hs => by
    simp only [List.getElem?_cons_zero, Option.some.injEq] at hs; subst hs
    simp only [List.map_cons, RepRow, Rep] at h
    obtain ⟨⟨_, _, h1, u, h2, rfl⟩, _⟩ := h
    exact ⟨h1, h2⟩
  | x :: l, i, h, j + 1, s, hs => by
    simp only [List.map_cons, RepRow] at h
    have := repRow_str h.2 j s (by simpa using hs)
    rw [show i + (j + 1) = i + 1 + j from by omega]; exact this
theorem call63c (l : List S8) (sep : S8) (hne : l ≠ []) (hl : l.length ≤ 1000000) (hj : (joinS l sep).length ≤ 281474976710656) : CallsTo Try.prog 63 [.sl 0 1 (l.map D.str), .str sep] (.str (joinS l sep)) := by
  refine ⟨⟨_, Try.func63, by decide, by decide⟩, fun I w vs him hrep => ?_⟩
  simp only [RepL] at hrep
  obtain ⟨v, us, rfl, hv, v2, us2, rfl, hv2, rfl⟩ := hrep
  simp only [Rep] at hv hv2
  subst hv2
  rcases hv with ⟨_, ⟨_, he⟩ | ⟨a, cap, rfl, hcap, hrow⟩⟩
  · exact absurd (List.map_eq_nil_iff.1 he) hne
  · rw [List.length_map] at hcap ⊢
    have hat := repRow_str hrow
    obtain ⟨x, r, hx⟩ : ∃ x r, l = x :: r := by
      cases l with
      | nil => exact absurd rfl hne
      | cons x r => exact ⟨x, r, rfl⟩
    have h0 := hat 0 x (by rw [hx]; rfl)
    have ha0 : a.add ((0 + 0) * 1) = a := rfl
    rw [ha0] at h0
    have hspot : a.spot = none := by
      have := h0.2
      unfold World.cell? at this
      split at this
      · split at this
        · cases this
        · rename_i h; simpa using h
      · cases this
    obtain ⟨bk, o, sp⟩ := a
    simp only at hspot
    subst hspot
    let xs : List ByteArray := l.map fun s => ⟨⟨s⟩⟩
    have hxl : xs.length = l.length := by simp [xs]
    have hxd : xs.map (·.data.toList) = l := by simp [xs, Function.comp_def]
    have hc := Any.strings_Join_48 laysJoin joinExtra bk o cap xs ⟨⟨sep⟩⟩ w (fun j y hy => by
      have hs : ∃ s, l[j]? = some s ∧ y = ⟨⟨s⟩⟩ := by
        simp only [xs, List.getElem?_map] at hy
        cases hlj : l[j]? with
        | none => rw [hlj] at hy; cases hy
        | some s => rw [hlj] at hy; exact ⟨s, rfl, (Option.some.inj hy).symm⟩
      obtain ⟨s, h1, rfl⟩ := hs
      have := (hat j s h1).2
      rw [addr_add_mk, Nat.zero_add, Nat.mul_one] at this
      exact this) (him.1 bk o h0.1) (by rw [hxl]; omega) (by rw [hxl]; exact hcap) (by rw [hxd]; exact hj)
    rw [hxl, hxd] at hc
    refine Calls.mono hc fun e w' he => ?_
    obtain ⟨rfl, hb⟩ := he
    refine ⟨_, I, rfl, fun _ _ h => h, fun _ _ h => .inl h, fun b o h => Nat.lt_of_lt_of_le (him.1 b o h) hb.size, ?_, hb⟩
    simp only [Rep]; rfl
theorem run63n (sep : S8) : Runs Try.prog T 75 (Try.f63.body.getD .skip) Try.f63.results.toList [.sl 0 1 [], .str sep] (.str []) := by
  refine ⟨Nat.le_of_ble_eq_true rfl, ?_⟩
  conv => whnf
  exact ⟨rfl, rfl⟩
theorem call63n (sep : S8) : CallsTo Try.prog 63 [.sl 0 1 [], .str sep] (.str []) := calls Try.func63 rfl (by decide) (run63n sep)
theorem call63 (l : List S8) (sep : S8) (hl : l.length ≤ 1000000) (hj : (joinS l sep).length ≤ 281474976710656) : CallsTo Try.prog 63 [.sl 0 1 (l.map D.str), .str sep] (.str (joinS l sep)) := by
  cases l with
  | nil => exact call63n sep
  | cons x r => exact call63c (x :: r) sep (by simp) hl hj
end Go.Proofs.Ytbfgendaafediaa.Fw

/- Tables: what is wrong; making them. -/
namespace Go.Proofs.Ytbfgendaafediaa.Fw
open Go Go.RowKit
set_option maxRecDepth 100000
set_option maxHeartbeats 4000000

/-- A fault of a kind. -/
abbrev fltD (kind at_ : Int) (what : S8) : D := .ifc 115 (.eptr (.agg [.int .i64 at_, .str what, .ifc 78 (.int .i64 kind)]) 0)
def TABLE : S8 := [116, 97, 98, 108, 101]
theorem run76 (kind at_ : Int) (what : S8) (hk : kind ≠ 0) : Runs Try.prog T 16 (Try.f76.body.getD .skip) Try.f76.results.toList [.int .i64 kind, .int .i64 at_, .str what] (fltD kind at_ what) := by
  refine ⟨Nat.le_of_ble_eq_true rfl, ?_⟩
  conv => whnf
  have e : (kind == 0) = false := by simpa using hk
  rw [e]
  conv => whnf
  exact ⟨rfl, rfl⟩
theorem call76 (kind at_ : Int) (what : S8) (hk : kind ≠ 0) : CallsTo Try.prog 76 [.int .i64 kind, .int .i64 at_, .str what] (fltD kind at_ what) := calls Try.func76 rfl (by decide) (run76 kind at_ what hk)
theorem run58 (kind at_ : Int) (hk : kind ≠ 0) : Runs Try.prog T 8 (Try.f58.body.getD .skip) Try.f58.results.toList [.int .i64 kind, .int .i64 at_] (fltD kind at_ TABLE) := by
  refine ⟨Nat.le_of_ble_eq_true rfl, ?_⟩
  conv => whnf
  refine ⟨_, fun _ => call76 kind at_ TABLE hk, ?_⟩
  conv => whnf
  exact ⟨rfl, rfl⟩
theorem call58 (kind at_ : Int) (hk : kind ≠ 0) : CallsTo Try.prog 58 [.int .i64 kind, .int .i64 at_] (fltD kind at_ TABLE) := calls Try.func58 rfl (by decide) (run58 kind at_ hk)
/-- Is the i-th row's key behind the one ahead of it? -/
def Tab.up (t : Tab) (i : Nat) : Bool := lt8 (t.key (i - 1)) (t.key i)
theorem run62a (w k : Int) (bs : S8) (h : ¬ (1 ≤ k ∧ k ≤ w ∧ w ≤ 255)) : Runs Try.prog T 53 (Try.f62.body.getD .skip) Try.f62.results.toList [.int .i64 w, .int .i64 k, .str bs] (.tup [.nilp, fltD 1 0 TABLE]) := by
  refine ⟨Nat.le_of_ble_eq_true rfl, ?_⟩
  conv => whnf
  have hc := call57 w k
  rw [decide_eq_false h] at hc
  refine ⟨_, fun _ => hc, ?_⟩
  conv => whnf
  refine ⟨_, fun _ => call58 1 0 (by decide), ?_⟩
  conv => whnf
  exact ⟨rfl, rfl⟩
theorem call62a (w k : Int) (bs : S8) (h : ¬ (1 ≤ k ∧ k ≤ w ∧ w ≤ 255)) : CallsTo Try.prog 62 [.int .i64 w, .int .i64 k, .str bs] (.tup [.nilp, fltD 1 0 TABLE]) := calls Try.func62 rfl (by decide) (run62a w k bs h)
theorem run62b (w k : Nat) (bs : S8) (h : 1 ≤ k ∧ k ≤ w ∧ w ≤ 255) (hm : bs.length % w ≠ 0) : Runs Try.prog T 53 (Try.f62.body.getD .skip) Try.f62.results.toList [.int .i64 w, .int .i64 k, .str bs] (.tup [.nilp, fltD 12 bs.length TABLE]) := by
  refine ⟨Nat.le_of_ble_eq_true rfl, ?_⟩
  conv => whnf
  have hc := call57 w k
  rw [decide_eq_true (by omega)] at hc
  refine ⟨_, fun _ => hc, ?_⟩
  conv => whnf
  refine sideB_intro (fun _ => decide_eq_true (by omega)) ?_
  conv => whnf
  have e : (Int.tmod (bs.length : Int) (w : Int) != 0) = true := by
    have : Int.tmod (bs.length : Int) (w : Int) = ((bs.length % w : Nat) : Int) := rfl
    rw [this]; simp; omega
  rw [e]
  conv => whnf
  refine ⟨_, fun _ => call58 12 bs.length (by decide), ?_⟩
  conv => whnf
  exact ⟨rfl, rfl⟩
theorem call62b (w k : Nat) (bs : S8) (h : 1 ≤ k ∧ k ≤ w ∧ w ≤ 255) (hm : bs.length % w ≠ 0) : CallsTo Try.prog 62 [.int .i64 w, .int .i64 k, .str bs] (.tup [.nilp, fltD 12 bs.length TABLE]) := calls Try.func62 rfl (by decide) (run62b w k bs h hm)
theorem run62c (t : Tab) (h : t.ok) (hm : t.bs.length % t.w = 0) (hu : ∀ j, 1 ≤ j → j < t.n → t.up j = true) : Runs Try.prog T 53 (Try.f62.body.getD .skip) Try.f62.results.toList [.int .i64 t.w, .int .i64 t.k, .str t.bs] (.tup [t.d, .nili]) := by
  refine ⟨Nat.le_of_ble_eq_true rfl, ?_⟩
  conv => whnf
  have hc := call57 t.w t.k
  have k1 := h.k0
  have k2 := h.kw
  have k3 := h.w1
  have k4 := h.len
  have hn := Tab.n_le h
  rw [decide_eq_true (by omega)] at hc
  refine ⟨_, fun _ => hc, ?_⟩
  conv => whnf
  refine sideB_intro (fun _ => decide_eq_true (by omega)) ?_
  conv => whnf
  have e : (Int.tmod (t.bs.length : Int) (t.w : Int) != 0) = false := by
    have : Int.tmod (t.bs.length : Int) (t.w : Int) = ((t.bs.length % t.w : Nat) : Int) := rfl
    rw [this]; simp; omega
  rw [e]
  conv => whnf
  refine ⟨[.sealT 8], ?_⟩
  conv => whnf
  refine loop_at (σ := Nat) (fun i env => (env.setT 9 (.int .i64 ((i + 1 : Nat) : Int)))) (fun i => t.n - i) (fun i => i ≤ t.n) 0 (Nat.zero_le _) rfl ?_
  rintro i hi ih
  conv => whnf
  refine ⟨_, fun _ => call15 t h, ?_⟩
  conv => whnf
  refine ifB_intro (fun hc => ?_) (fun hc => ?_)
  · have hc : ((i + 1 : Nat) : Int) < (t.n : Int) := of_decide_eq_true hc
    have hup := hu (i + 1) (by omega) (by omega)
    have ih' := ih (i + 1) (by omega) (by omega)
    have hw : IntKind.i64.wrap (((i + 1 : Nat) : Int) + 1) = ((i + 1 + 1 : Nat) : Int) := by rw [IntKind.wrap_i64]; omega
    have hw1 : IntKind.i64.wrap (((i + 1 : Nat) : Int) - 1) = (i : Int) := by rw [IntKind.wrap_i64]; omega
    have hl1 := Tab.row_len (t := t) (i := i) (by omega)
    have hl2 := Tab.row_len (t := t) (i := i + 1) (by omega)
    conv => whnf
    refine ⟨rfl, ?_⟩
    conv => whnf
    rw [hw1]
    refine ⟨_, fun _ => call31 t i h (by omega), ?_⟩
    conv => whnf
    refine sideB_intro (fun _ => decide_eq_true (by omega)) ?_
    conv => whnf
    refine ⟨_, fun _ => call31 t (i + 1) h (by omega), ?_⟩
    conv => whnf
    refine sideB_intro (fun _ => decide_eq_true (by omega)) ?_
    conv => whnf
    have e1 : sliceD (t.row i) (Int.toNat ((0 : Nat) : Int)) (Int.toNat (t.k : Int)) = t.key i := by simp [sliceD, Tab.key]
    have e2 : sliceD (t.row (i + 1)) (Int.toNat ((0 : Nat) : Int)) (Int.toNat (t.k : Int)) = t.key (i + 1) := by simp [sliceD, Tab.key]
    rw [e1, e2]
    rw [show bytesLess (t.key i) (t.key (i + 1)) = true from hup]
    conv => whnf
    rw [hw]
    exact ih'
  · conv => whnf
    exact ⟨rfl, rfl⟩
theorem call62c (t : Tab) (h : t.ok) (hm : t.bs.length % t.w = 0) (hu : ∀ j, 1 ≤ j → j < t.n → t.up j = true) : CallsTo Try.prog 62 [.int .i64 t.w, .int .i64 t.k, .str t.bs] (.tup [t.d, .nili]) := calls Try.func62 rfl (by decide) (run62c t h hm hu)
theorem run62d (t : Tab) (h : t.ok) (hm : t.bs.length % t.w = 0) (q : Nat) (hq1 : 1 ≤ q) (hqn : q < t.n) (hu : ∀ j, 1 ≤ j → j < q → t.up j = true) (hq : t.up q = false) : Runs Try.prog T 53 (Try.f62.body.getD .skip) Try.f62.results.toList [.int .i64 t.w, .int .i64 t.k, .str t.bs] (.tup [.nilp, fltD 13 ((q * t.w : Nat) : Int) TABLE]) := by
  refine ⟨Nat.le_of_ble_eq_true rfl, ?_⟩
  conv => whnf
  have hc := call57 t.w t.k
  have k1 := h.k0
  have k2 := h.kw
  have k3 := h.w1
  have k4 := h.len
  have hn := Tab.n_le h
  rw [decide_eq_true (by omega)] at hc
  refine ⟨_, fun _ => hc, ?_⟩
  conv => whnf
  refine sideB_intro (fun _ => decide_eq_true (by omega)) ?_
  conv => whnf
  have e : (Int.tmod (t.bs.length : Int) (t.w : Int) != 0) = false := by
    have : Int.tmod (t.bs.length : Int) (t.w : Int) = ((t.bs.length % t.w : Nat) : Int) := rfl
    rw [this]; simp; omega
  rw [e]
  conv => whnf
  refine ⟨[.sealT 8], ?_⟩
  conv => whnf
  refine loop_at (σ := Nat) (fun i env => (env.setT 9 (.int .i64 ((i + 1 : Nat) : Int)))) (fun i => t.n - i) (fun i => i + 1 ≤ q) 0 (by omega) rfl ?_
  rintro i hi ih
  conv => whnf
  refine ⟨_, fun _ => call15 t h, ?_⟩
  conv => whnf
  refine ifB_intro (fun hc => ?_) (fun hc => ?_)
  · have hc : ((i + 1 : Nat) : Int) < (t.n : Int) := of_decide_eq_true hc
    have ih' := fun (hlt : i + 1 + 1 ≤ q) => ih (i + 1) hlt (by omega)
    have hw : IntKind.i64.wrap (((i + 1 : Nat) : Int) + 1) = ((i + 1 + 1 : Nat) : Int) := by rw [IntKind.wrap_i64]; omega
    have hw1 : IntKind.i64.wrap (((i + 1 : Nat) : Int) - 1) = (i : Int) := by rw [IntKind.wrap_i64]; omega
    have hl1 := Tab.row_len (t := t) (i := i) (by omega)
    have hl2 := Tab.row_len (t := t) (i := i + 1) (by omega)
    conv => whnf
    refine ⟨rfl, ?_⟩
    conv => whnf
    rw [hw1]
    refine ⟨_, fun _ => call31 t i h (by omega), ?_⟩
    conv => whnf
    refine sideB_intro (fun _ => decide_eq_true (by omega)) ?_
    conv => whnf
    refine ⟨_, fun _ => call31 t (i + 1) h (by omega), ?_⟩
    conv => whnf
    refine sideB_intro (fun _ => decide_eq_true (by omega)) ?_
    conv => whnf
    have e1 : sliceD (t.row i) (Int.toNat ((0 : Nat) : Int)) (Int.toNat (t.k : Int)) = t.key i := by simp [sliceD, Tab.key]
    have e2 : sliceD (t.row (i + 1)) (Int.toNat ((0 : Nat) : Int)) (Int.toNat (t.k : Int)) = t.key (i + 1) := by simp [sliceD, Tab.key]
    rw [e1, e2]
    by_cases he : i + 1 = q
    · rw [show bytesLess (t.key i) (t.key (i + 1)) = false from by have := hq; rw [← he] at this; exact this]
      conv => whnf
      have hrow := Tab.row_in (t := t) (i := i + 1) (by omega)
      have hm2 : IntKind.i64.wrap (((i + 1 : Nat) : Int) * (t.w : Int)) = ((q * t.w : Nat) : Int) := by
        have : ((i + 1 : Nat) : Int) * (t.w : Int) = (((i + 1) * t.w : Nat) : Int) := by simp
        rw [this, ← he, IntKind.wrap_i64]; omega
      rw [hm2]
      refine ⟨_, fun _ => call58 13 ((q * t.w : Nat) : Int) (by decide), ?_⟩
      conv => whnf
      exact ⟨rfl, rfl⟩
    · rw [show bytesLess (t.key i) (t.key (i + 1)) = true from hu (i + 1) (by omega) (by omega)]
      conv => whnf
      rw [hw]
      exact ih' (by omega)
  · exfalso
    have hc : ¬ (((i + 1 : Nat) : Int) < (t.n : Int)) := of_decide_eq_false hc
    omega
theorem call62d (t : Tab) (h : t.ok) (hm : t.bs.length % t.w = 0) (q : Nat) (hq1 : 1 ≤ q) (hqn : q < t.n) (hu : ∀ j, 1 ≤ j → j < q → t.up j = true) (hq : t.up q = false) : CallsTo Try.prog 62 [.int .i64 t.w, .int .i64 t.k, .str t.bs] (.tup [.nilp, fltD 13 ((q * t.w : Nat) : Int) TABLE]) := calls Try.func62 rfl (by decide) (run62d t h hm q hq1 hqn hu hq)
end Go.Proofs.Ytbfgendaafediaa.Fw

/- Tables of rows. -/
namespace Go.Proofs.Ytbfgendaafediaa.Fw
open Go Go.RowKit
set_option maxRecDepth 100000
set_option maxHeartbeats 4000000

theorem joinS_nil (l : List S8) : joinS l [] = l.flatten := by
  cases l with
  | nil => rfl
  | cons x r =>
    unfold joinS
    rw [Lib.join_cons]
    unfold Lib.joinTail
    simp
def tabOf (w k : Nat) (L : List S8) : Tab := ⟨w, k, L.flatten⟩
theorem flat_len {w : Nat} : ∀ {L : List S8}, (∀ x ∈ L, x.length = w) → L.flatten.length = L.length * w
  | [], _ => by simp
  | x :: L, h => by
    rw [List.flatten_cons, List.length_append, h x (List.mem_cons_self ..), flat_len fun y hy => h y (List.mem_cons_of_mem _ hy), List.length_cons, Nat.add_mul]
    omega
theorem tabOf_n {w k : Nat} {L : List S8} (hw : 0 < w) (h : ∀ x ∈ L, x.length = w) : (tabOf w k L).n = L.length := by
  unfold Tab.n tabOf
  rw [flat_len h]
  exact Nat.mul_div_cancel _ hw
theorem flat_row {w : Nat} : ∀ {L : List S8} {i : Nat} {x : S8}, (∀ y ∈ L, y.length = w) → L[i]? = some x → (L.flatten.drop (i * w)).take w = x
  | [], i, x, _, h => by simp at h
  | y :: L, 0, x, hl, h => by
    simp only [List.getElem?_cons_zero, Option.some.injEq] at h; subst h
    have := hl y (List.mem_cons_self ..)
    rw [Nat.zero_mul, List.drop_zero, List.flatten_cons, List.take_append_of_le_length (by omega), List.take_of_length_le (by omega)]
  | y :: L, i + 1, x, hl, h => by
    have hy := hl y (List.mem_cons_self ..)
    rw [List.flatten_cons, Nat.add_mul, Nat.one_mul, List.drop_append, List.drop_of_length_le (by omega), List.nil_append, show i * w + w - y.length = i * w from by omega]
    exact flat_row (fun z hz => hl z (List.mem_cons_of_mem _ hz)) (by simpa using h)
theorem tabOf_row {w k : Nat} {L : List S8} (h : ∀ x ∈ L, x.length = w) {i : Nat} {x : S8} (hx : L[i]? = some x) : (tabOf w k L).row i = x := flat_row h hx
theorem tabOf_ok {w k : Nat} {L : List S8} (h : 1 ≤ k ∧ k ≤ w ∧ w ≤ 255) (hl : ∀ x ∈ L, x.length = w) (hn : L.length ≤ 1000) : (tabOf w k L).ok := by
  refine ⟨h.1, h.2.1, h.2.2, ?_⟩
  show L.flatten.length ≤ _
  rw [flat_len hl]
  have : L.length * w ≤ 1000 * 255 := Nat.mul_le_mul hn h.2.2
  omega
theorem tabOf_mod {w k : Nat} {L : List S8} (hl : ∀ x ∈ L, x.length = w) : (tabOf w k L).bs.length % (tabOf w k L).w = 0 := by
  show L.flatten.length % w = 0
  rw [flat_len hl]; exact Nat.mul_mod_left _ _
theorem run35a (w k : Int) (l : List S8) (h : ¬ (1 ≤ k ∧ k ≤ w ∧ w ≤ 255)) : Runs Try.prog T 42 (Try.f35.body.getD .skip) Try.f35.results.toList [.int .i64 w, .int .i64 k, .sl 0 1 (l.map D.str)] (.tup [.nilp, fltD 1 0 TABLE]) := by
  refine ⟨Nat.le_of_ble_eq_true rfl, ?_⟩
  conv => whnf
  have hc := call57 w k
  rw [decide_eq_false h] at hc
  refine ⟨_, fun _ => hc, ?_⟩
  conv => whnf
  refine ⟨_, fun _ => call58 1 0 (by decide), ?_⟩
  conv => whnf
  exact ⟨rfl, rfl⟩
theorem call35a (w k : Int) (l : List S8) (h : ¬ (1 ≤ k ∧ k ≤ w ∧ w ≤ 255)) : CallsTo Try.prog 35 [.int .i64 w, .int .i64 k, .sl 0 1 (l.map D.str)] (.tup [.nilp, fltD 1 0 TABLE]) := calls Try.func35 rfl (by decide) (run35a w k l h)
theorem run35b (w k : Nat) (l : List S8) (h : 1 ≤ k ∧ k ≤ w ∧ w ≤ 255) (hl : l.length ≤ 1000) (q : Nat) (x : S8) (hx : l[q]? = some x) (hq : x.length ≠ w) (hpre : ∀ j y, j < q → l[j]? = some y → y.length = w) : Runs Try.prog T 42 (Try.f35.body.getD .skip) Try.f35.results.toList [.int .i64 w, .int .i64 k, .sl 0 1 (l.map D.str)] (.tup [.nilp, fltD 12 q TABLE]) := by
  refine ⟨Nat.le_of_ble_eq_true rfl, ?_⟩
  conv => whnf
  have hc := call57 w k
  rw [decide_eq_true (by omega)] at hc
  refine ⟨_, fun _ => hc, ?_⟩
  conv => whnf
  refine ⟨[], ?_⟩
  conv => whnf
  have hql := (List.getElem?_eq_some_iff.1 hx).1
  refine loop_at (σ := Nat) (fun i env => (env.setT 18 (.int .i64 (i : Int)))) (fun i => l.length - i) (fun i => i ≤ q) 0 (Nat.zero_le _) rfl ?_
  rintro i hi ih
  conv => whnf
  refine ifB_intro (fun h2 => ?_) (fun h2 => ?_)
  · have h2 : (i : Int) < ((l.map D.str).length : Int) := of_decide_eq_true h2
    rw [List.length_map] at h2
    obtain ⟨y, hy⟩ : ∃ y, l[i]? = some y := ⟨_, List.getElem?_eq_getElem (by omega)⟩
    have hw : IntKind.i64.wrap ((i : Int) + 1) = ((i + 1 : Nat) : Int) := by rw [IntKind.wrap_i64]; omega
    conv => whnf
    refine sideB_intro (fun _ => decide_eq_true (by simp only [List.length_map]; omega)) ?_
    rw [getD_enc (enc := D.str) (x := y) (show l[(i : Int).toNat]? = some y from hy)]
    conv => whnf
    by_cases he : i = q
    · subst he
      rw [hx] at hy; cases hy
      have e : ((x.length : Int) != (w : Int)) = true := by simp; omega
      rw [e]
      conv => whnf
      refine ⟨_, fun _ => call58 12 i (by decide), ?_⟩
      conv => whnf
      exact ⟨rfl, rfl⟩
    · have hyl := hpre i y (by omega) hy
      have e : ((y.length : Int) != (w : Int)) = false := by simp; omega
      rw [e]
      conv => whnf
      rw [hw]
      exact ih (i + 1) (by omega) (by omega)
  · exfalso
    have h2 : ¬ ((i : Int) < ((l.map D.str).length : Int)) := of_decide_eq_false h2
    rw [List.length_map] at h2
    omega
theorem call35b (w k : Nat) (l : List S8) (h : 1 ≤ k ∧ k ≤ w ∧ w ≤ 255) (hl : l.length ≤ 1000) (q : Nat) (x : S8) (hx : l[q]? = some x) (hq : x.length ≠ w) (hpre : ∀ j y, j < q → l[j]? = some y → y.length = w) : CallsTo Try.prog 35 [.int .i64 w, .int .i64 k, .sl 0 1 (l.map D.str)] (.tup [.nilp, fltD 12 q TABLE]) := calls Try.func35 rfl (by decide) (run35b w k l h hl q x hx hq hpre)
theorem call63r (l : List S8) (hl : l.length ≤ 1000000) (hj : l.flatten.length ≤ 1000000) : CallsR Try.prog 63 [] hS (hR 9 1 (l.map D.str)) [.rsl 1000000 1 0 l.length, .str []] (.str l.flatten) [] hS (hR 9 1 (l.map D.str)) := by
  have h := call63 l [] hl (by rw [joinS_nil]; omega)
  rw [joinS_nil] at h
  refine callsR_of_callsTo h ⟨⟨_, rfl, rfl, ?_, ?_⟩, rfl, trivial⟩ rfl rfl
  · simp
  · simp only [sliceD, Nat.zero_add, List.drop_zero]
    rw [List.take_of_length_le (by simp)]
abbrev Tb := Tm [39, 59, 63] [9]
theorem run35c (w k : Nat) (l : List S8) (h : 1 ≤ k ∧ k ≤ w ∧ w ≤ 255) (hl : l.length ≤ 12) (hw : ∀ x ∈ l, x.length = w) (h62 : CallsTo Try.prog 62 [.int .i64 w, .int .i64 k, .str (isort (ltP k) l).flatten] (.tup [.eptr (.agg [.int .i64 w, .int .i64 k, .str (isort (ltP k) l).flatten]) 0, .nili])) : Runs Try.prog Tb 42 (Try.f35.body.getD .skip) Try.f35.results.toList [.int .i64 w, .int .i64 k, .sl 0 1 (l.map D.str)] (.tup [.eptr (.agg [.int .i64 w, .int .i64 k, .str (isort (ltP k) l).flatten]) 0, .nili]) := by
  refine ⟨Nat.le_of_ble_eq_true rfl, ?_⟩
  conv => whnf
  have hc := call57 w k
  rw [decide_eq_true (by omega)] at hc
  refine ⟨_, fun _ => hc, ?_⟩
  conv => whnf
  refine ⟨[], ?_⟩
  conv => whnf
  refine loop_at (σ := Nat) (fun i env => (env.setT 18 (.int .i64 (i : Int)))) (fun i => l.length - i) (fun i => i ≤ l.length) 0 (Nat.zero_le _) rfl ?_
  rintro i hi ih
  conv => whnf
  refine ifB_intro (fun h2 => ?_) (fun h2 => ?_)
  · have h2 : (i : Int) < ((l.map D.str).length : Int) := of_decide_eq_true h2
    rw [List.length_map] at h2
    obtain ⟨y, hy⟩ : ∃ y, l[i]? = some y := ⟨_, List.getElem?_eq_getElem (by omega)⟩
    have hwi : IntKind.i64.wrap ((i : Int) + 1) = ((i + 1 : Nat) : Int) := by rw [IntKind.wrap_i64]; omega
    have hyl := hw y (List.mem_of_getElem? hy)
    conv => whnf
    refine sideB_intro (fun _ => decide_eq_true (by simp only [List.length_map]; omega)) ?_
    rw [getD_enc (enc := D.str) (x := y) (show l[(i : Int).toNat]? = some y from hy)]
    conv => whnf
    have e : ((y.length : Int) != (w : Int)) = false := by simp; omega
    rw [e]
    conv => whnf
    rw [hwi]
    exact ih (i + 1) (by omega) (by omega)
  conv => whnf
  refine ⟨⟨[], [], .rsl 17 1 0 l.length, [], [(17, rowMark)], [(17, ⟨9, 1, l.map D.str, false⟩)]⟩, ?_⟩
  conv => whnf
  refine ⟨rfl, call39 l (by omega), ?_⟩
  conv => whnf
  refine ⟨⟨[], [(1000000, 2995)], .tup [], [], hS, hR 9 1 ((isort (ltP k) l).map D.str)⟩, ?_⟩
  conv => whnf
  refine ⟨rfl, call59 k l hl (fun x hx => by rw [hw x hx]; omega), ?_⟩
  conv => whnf
  have hln : (isort (ltP k) l).length = l.length := sortTo_length (ltP k) _ _
  have hmem : ∀ x ∈ isort (ltP k) l, x.length = w := sortTo_all (ltP k) hw _
  have hfl := flat_len hmem
  have h63 := call63r (isort (ltP k) l) (by omega) (by
    rw [hfl, hln]
    have : l.length * w ≤ 12 * 255 := Nat.mul_le_mul hl h.2.2
    omega)
  rw [hln] at h63
  generalize isort (ltP k) l = S at h62 h63
  refine ⟨[(0, ?e1_0), (1, ?e1_1), (5, ?e1_2), (7, ?e1_3), (13, ?e1_4), (15, ?e1_5), (31, ?e1_6), (63, ?e1_7), (95, ?e1_8), (127, ?e1_9), (255, ?e1_10), (511, ?e1_11)], ?eF1, ?_, ?_, ?_⟩
  rotate_left 13
  · exact rfl
  refine tab_F rfl fun F hF => ?_
  obtain ⟨hF0, hF1, hF5, hF7, hF13, hF15, hF31, hF63, hF95, hF127, hF255, hF511, -⟩ := hF
  refine tab_1 rfl ?_ ?_
  · conv => whnf
    exact hF1
  refine tab_1 rfl ?_ ?_
  · conv => whnf
    exact hF5
  refine tab_2 rfl ?_ ?_ ?_
  · conv => whnf
    exact hF7
  · conv => whnf
    refine ⟨⟨[], [(1000000, 2995)], .str S.flatten, [], hS, hR 9 1 (S.map D.str)⟩, ?_⟩
    conv => whnf
    refine ⟨rfl, h63, ?_⟩
    conv => whnf
    exact hF13
  refine tab_1 rfl ?_ ?_
  · conv => whnf
    refine ⟨⟨[], [(1000000, 2995)], .str S.flatten, [], hS, hR 9 1 (S.map D.str)⟩, ?_⟩
    conv => whnf
    refine ⟨rfl, h63, ?_⟩
    conv => whnf
    exact hF15
  refine tab_1 rfl ?_ ?_
  · conv => whnf
    exact hF15
  refine tab_1 rfl ?_ ?_
  · conv => whnf
    refine ⟨_, fun _ => h62, ?_⟩
    conv => whnf
    exact hF31
  refine tab_2 rfl ?_ ?_ ?_
  · conv => whnf
    exact hF63
  · conv => whnf
    exact hF95
  refine tab_1 rfl ?_ ?_
  · conv => whnf
    exact hF127
  refine tab_1 rfl ?_ ?_
  · conv => whnf
    exact hF127
  refine tab_1 rfl ?_ ?_
  · conv => whnf
    exact hF255
  refine tab_1 rfl ?_ ?_
  · conv => whnf
    exact hF511
  refine tab_0 rfl ?_ trivial
  · conv => whnf
    try exact rfl
  refine ⟨rfl, ?_⟩
  conv => whnf
  exact ⟨rfl, rfl⟩
theorem run35d (w k : Nat) (l : List S8) (q : Int) (h : 1 ≤ k ∧ k ≤ w ∧ w ≤ 255) (hl : l.length ≤ 12) (hw : ∀ x ∈ l, x.length = w) (h62 : CallsTo Try.prog 62 [.int .i64 w, .int .i64 k, .str (isort (ltP k) l).flatten] (.tup [.nilp, fltD 13 q TABLE])) : Runs Try.prog Tb 42 (Try.f35.body.getD .skip) Try.f35.results.toList [.int .i64 w, .int .i64 k, .sl 0 1 (l.map D.str)] (.tup [.nilp, fltD 13 q TABLE]) := by
  refine ⟨Nat.le_of_ble_eq_true rfl, ?_⟩
  conv => whnf
  have hc := call57 w k
  rw [decide_eq_true (by omega)] at hc
  refine ⟨_, fun _ => hc, ?_⟩
  conv => whnf
  refine ⟨[], ?_⟩
  conv => whnf
  refine loop_at (σ := Nat) (fun i env => (env.setT 18 (.int .i64 (i : Int)))) (fun i => l.length - i) (fun i => i ≤ l.length) 0 (Nat.zero_le _) rfl ?_
  rintro i hi ih
  conv => whnf
  refine ifB_intro (fun h2 => ?_) (fun h2 => ?_)
  · have h2 : (i : Int) < ((l.map D.str).length : Int) := of_decide_eq_true h2
    rw [List.length_map] at h2
    obtain ⟨y, hy⟩ : ∃ y, l[i]? = some y := ⟨_, List.getElem?_eq_getElem (by omega)⟩
    have hwi : IntKind.i64.wrap ((i : Int) + 1) = ((i + 1 : Nat) : Int) := by rw [IntKind.wrap_i64]; omega
    have hyl := hw y (List.mem_of_getElem? hy)
    conv => whnf
    refine sideB_intro (fun _ => decide_eq_true (by simp only [List.length_map]; omega)) ?_
    rw [getD_enc (enc := D.str) (x := y) (show l[(i : Int).toNat]? = some y from hy)]
    conv => whnf
    have e : ((y.length : Int) != (w : Int)) = false := by simp; omega
    rw [e]
    conv => whnf
    rw [hwi]
    exact ih (i + 1) (by omega) (by omega)
  conv => whnf
  refine ⟨⟨[], [], .rsl 17 1 0 l.length, [], [(17, rowMark)], [(17, ⟨9, 1, l.map D.str, false⟩)]⟩, ?_⟩
  conv => whnf
  refine ⟨rfl, call39 l (by omega), ?_⟩
  conv => whnf
  refine ⟨⟨[], [(1000000, 2995)], .tup [], [], hS, hR 9 1 ((isort (ltP k) l).map D.str)⟩, ?_⟩
  conv => whnf
  refine ⟨rfl, call59 k l hl (fun x hx => by rw [hw x hx]; omega), ?_⟩
  conv => whnf
  have hln : (isort (ltP k) l).length = l.length := sortTo_length (ltP k) _ _
  have hmem : ∀ x ∈ isort (ltP k) l, x.length = w := sortTo_all (ltP k) hw _
  have hfl := flat_len hmem
  have h63 := call63r (isort (ltP k) l) (by omega) (by
    rw [hfl, hln]
    have : l.length * w ≤ 12 * 255 := Nat.mul_le_mul hl h.2.2
    omega)
  rw [hln] at h63
  generalize isort (ltP k) l = S at h62 h63
  refine ⟨[(0, ?e2_0), (1, ?e2_1), (5, ?e2_2), (7, ?e2_3), (13, ?e2_4), (15, ?e2_5), (31, ?e2_6), (63, ?e2_7), (95, ?e2_8), (127, ?e2_9), (255, ?e2_10), (511, ?e2_11)], ?eF2, ?_, ?_, ?_⟩
  rotate_left 13
  · exact rfl
  refine tab_F rfl fun F hF => ?_
  obtain ⟨hF0, hF1, hF5, hF7, hF13, hF15, hF31, hF63, hF95, hF127, hF255, hF511, -⟩ := hF
  refine tab_1 rfl ?_ ?_
  · conv => whnf
    exact hF1
  refine tab_1 rfl ?_ ?_
  · conv => whnf
    exact hF5
  refine tab_2 rfl ?_ ?_ ?_
  · conv => whnf
    exact hF7
  · conv => whnf
    refine ⟨⟨[], [(1000000, 2995)], .str S.flatten, [], hS, hR 9 1 (S.map D.str)⟩, ?_⟩
    conv => whnf
    refine ⟨rfl, h63, ?_⟩
    conv => whnf
    exact hF13
  refine tab_1 rfl ?_ ?_
  · conv => whnf
    refine ⟨⟨[], [(1000000, 2995)], .str S.flatten, [], hS, hR 9 1 (S.map D.str)⟩, ?_⟩
    conv => whnf
    refine ⟨rfl, h63, ?_⟩
    conv => whnf
    exact hF15
  refine tab_1 rfl ?_ ?_
  · conv => whnf
    exact hF15
  refine tab_1 rfl ?_ ?_
  · conv => whnf
    refine ⟨_, fun _ => h62, ?_⟩
    conv => whnf
    exact hF31
  refine tab_2 rfl ?_ ?_ ?_
  · conv => whnf
    exact hF63
  · conv => whnf
    exact hF95
  refine tab_1 rfl ?_ ?_
  · conv => whnf
    exact hF127
  refine tab_1 rfl ?_ ?_
  · conv => whnf
    exact hF127
  refine tab_1 rfl ?_ ?_
  · conv => whnf
    exact hF255
  refine tab_1 rfl ?_ ?_
  · conv => whnf
    exact hF511
  refine tab_0 rfl ?_ trivial
  · conv => whnf
    try exact rfl
  refine ⟨rfl, ?_⟩
  conv => whnf
  exact ⟨rfl, rfl⟩
end Go.Proofs.Ytbfgendaafediaa.Fw

/- Of no table nothing comes. -/
namespace Go.Proofs.Ytbfgendaafediaa.Fw
open Go Go.RowKit
set_option maxRecDepth 100000
set_option maxHeartbeats 4000000

/-- Do rows' keys rise? -/
def risesK (k : Nat) (S : List S8) : Prop := ∀ (j : Nat) (x y : S8), S[j]? = some x → S[j + 1]? = some y → lt8 (x.take k) (y.take k) = true
theorem tabOf_key {w k : Nat} {L : List S8} (h : ∀ x ∈ L, x.length = w) {i : Nat} {x : S8} (hx : L[i]? = some x) : (tabOf w k L).key i = x.take k := by
  unfold Tab.key; rw [tabOf_row h hx]; rfl
theorem call35c (w k : Nat) (l : List S8) (h : 1 ≤ k ∧ k ≤ w ∧ w ≤ 255) (hl : l.length ≤ 12) (hw : ∀ x ∈ l, x.length = w) (hr : risesK k (isort (ltP k) l)) : CallsTo Try.prog 35 [.int .i64 w, .int .i64 k, .sl 0 1 (l.map D.str)] (.tup [(tabOf w k (isort (ltP k) l)).d, .nili]) := by
  have hln : (isort (ltP k) l).length = l.length := sortTo_length (ltP k) _ _
  have hmem : ∀ x ∈ isort (ltP k) l, x.length = w := sortTo_all (ltP k) hw _
  have h62 := call62c (tabOf w k (isort (ltP k) l)) (tabOf_ok h hmem (by omega)) (tabOf_mod hmem) (fun j h1 h2 => by
    rw [tabOf_n (by omega) hmem] at h2
    have hx : (isort (ltP k) l)[j - 1]? = some (isort (ltP k) l)[j - 1] := List.getElem?_eq_getElem (by omega)
    have hy : (isort (ltP k) l)[j]? = some (isort (ltP k) l)[j] := List.getElem?_eq_getElem h2
    unfold Tab.up
    rw [tabOf_key hmem hx, tabOf_key hmem hy]
    exact hr (j - 1) _ _ hx (by rw [show j - 1 + 1 = j from by omega]; exact hy))
  exact calls Try.func35 rfl (by decide) (run35c w k l h hl hw h62)
def AWT : List S8 := [[98, 48, 49], [97, 49, 50], [97, 48, 51]]
def AWS : List S8 := [[97, 48, 51], [97, 49, 50], [98, 48, 49]]
theorem awt_sort : isort (ltP 2) AWT = AWS := by decide +kernel
theorem aws_rises : risesK 2 AWS := by
  intro j x y hx hy
  match j with
  | 0 => cases hx; cases hy; decide
  | 1 => cases hx; cases hy; decide
  | 2 => cases hy
  | j + 3 => cases hx
def A1 : S8 := [97, 49]
theorem find_aw : findT (tabOf 3 2 AWS) A1 = some [97, 49, 50] := by decide +kernel
theorem run14  : Runs Try.prog T 29 (Try.f14.body.getD .skip) Try.f14.results.toList [] (.bool true) := by
  refine ⟨Nat.le_of_ble_eq_true rfl, ?_⟩
  conv => whnf
  have h35 := call35c 3 2 AWT (by decide) (by decide) (by decide) (by rw [awt_sort]; exact aws_rises)
  rw [awt_sort] at h35
  refine ⟨_, fun _ => h35, ?_⟩
  conv => whnf
  have h11 := call11 (tabOf 3 2 AWS) A1 (tabOf_ok (by decide) (by decide) (by decide))
  rw [find_aw] at h11
  refine ⟨_, fun _ => h11, ?_⟩
  conv => whnf
  refine ⟨_, fun _ => call16 (tabOf 3 2 AWS), ?_⟩
  conv => whnf
  exact ⟨rfl, rfl⟩
theorem call14  : CallsTo Try.prog 14 [] (.bool true) := calls Try.func14 rfl (by decide) (run14)
theorem run12 (s : S8) : Runs Try.prog T 9 (Try.f12.body.getD .skip) Try.f12.results.toList [.str s] (.str (s.take 60)) := by
  refine ⟨Nat.le_of_ble_eq_true rfl, ?_⟩
  conv => whnf
  refine ifB_intro (fun h => ?_) (fun h => ?_)
  · have h : (60 : Int) < (s.length : Int) := of_decide_eq_true h
    conv => whnf
    refine sideB_intro (fun _ => decide_eq_true (by omega)) ?_
    conv => whnf
    have e : sliceD s (Int.toNat ((0 : Nat) : Int)) (Int.toNat 60) = s.take 60 := by simp [sliceD]
    exact ⟨rfl, congrArg D.str e⟩
  · have h : ¬ ((60 : Int) < (s.length : Int)) := of_decide_eq_false h
    conv => whnf
    rw [List.take_of_length_le (by omega)]
    exact ⟨rfl, rfl⟩
theorem call12 (s : S8) : CallsTo Try.prog 12 [.str s] (.str (s.take 60)) := calls Try.func12 rfl (by decide) (run12 s)
theorem run3 (s : S8) : Runs Try.prog T 55 (Try.f3.body.getD .skip) Try.f3.results.toList [.str s] (.bool true) := by
  refine ⟨Nat.le_of_ble_eq_true rfl, ?_⟩
  conv => whnf
  refine ⟨_, fun _ => call10n, ?_⟩
  conv => whnf
  refine ⟨_, fun _ => call12 s, ?_⟩
  conv => whnf
  refine ⟨_, fun _ => call11n (s.take 60), ?_⟩
  conv => whnf
  refine ⟨_, fun _ => call13n [], ?_⟩
  conv => whnf
  refine ⟨[], ?_⟩
  conv => whnf
  refine ⟨[], iter32n [], ?_⟩
  conv => whnf
  refine ⟨_, fun _ => call14, ?_⟩
  conv => whnf
  refine ⟨_, fun _ => call15n, ?_⟩
  conv => whnf
  refine ⟨_, fun _ => call16n, ?_⟩
  conv => whnf
  exact ⟨rfl, rfl⟩
theorem call3 (s : S8) : CallsTo Try.prog 3 [.str s] (.bool true) := calls Try.func3 rfl (by decide) (run3 s)
end Go.Proofs.Ytbfgendaafediaa.Fw
