/- Finding rows: the program's data package. -/
import Derived.Test.YtndijidmabfhcaaFwDA
namespace Go.Proofs.Ytndijidmabfhcaa.Fw
open Go Go.RowKit

theorem loop_rule {B : Env → (Exit → Env → Prop) → Prop} {ts bs ms : List Nat} {Q : Exit → Env → Prop} {σ : Type} (E : σ → Env) (m : σ → Nat) (I : σ → Prop) (step : ∀ s, I s → (∀ s', I s' → m s = m s' + 1 → loopEv B ts bs ms (m s) (E s') Q) → B (E s) (fun e env' => match e with
      | .normal => fN (stampsIn ts bs env') fun l => match canonW ts bs ms l env' with
        | some env2 => fE env2 fun env2 => loopEv B ts bs ms (m s) env2 Q
        | none => False
      | e => Q e env')) : ∀ s, I s → loopEv B ts bs ms (m s + 1) (E s) Q := by
  have : ∀ k s, I s → m s = k → loopEv B ts bs ms (m s + 1) (E s) Q := by
    intro k
    induction k with
    | zero => exact fun s hI hs => step s hI fun s' _ h => absurd (h.symm.trans hs) (Nat.succ_ne_zero _)
    | succ k ih => exact fun s hI hs => step s hI fun s' hI' h => by rw [h]; exact ih s' hI' (by omega)
  exact fun s hI => this _ s hI rfl

theorem getD_map {α : Type} {enc : α → D} {xs : List α} {i : Nat} (h : i < xs.length) : (List.map enc xs).getD (Int.toNat (i : Int)) D.undef = enc xs[i] := by
  simp [List.getD, h]

def firstAl (p : Al → Bool) : List Al → D
  | [] => .tup [Al.d ⟨0, [], [], [], [], []⟩, .bool false]
  | x :: xs => bif p x then .tup [x.d, .bool true] else firstAl p xs
def firstLk (p : Lk → Bool) : List Lk → D
  | [] => .tup [Lk.d ⟨[], [], [], [], [], []⟩, .bool false]
  | x :: xs => bif p x then .tup [x.d, .bool true] else firstLk p xs

set_option maxRecDepth 100000
set_option maxHeartbeats 4000000
theorem run40 (xs : List Al) (f : Nat) (caps : List D) (p : Al → Bool) (hlen : xs.length ≤ 1000000) (hp : ∀ x ∈ xs, CallsTo Try.prog f (x.d :: caps) (.bool (p x))) :
    Runs Try.prog T 21 (Try.f40.body.getD .skip) Try.f40.results.toList [.sl 0 6 (xs.map Al.d), .fn f caps] (firstAl p xs) := by
  refine ⟨Nat.le_of_ble_eq_true rfl, ?_⟩
  conv => whnf
  refine ⟨_, loop_rule (σ := Nat) (fun i => ⟨21, [(1, .fn f caps), (0, .sl 0 6 (List.map Al.d xs)), (4, .loc 4 0), (5, .bool false), (9, .sl 0 6 (List.map Al.d xs)), (10, .int .i64 (List.map Al.d xs).length), (11, .int .i64 (i : Int))], [], [(4, ⟨[.int .i64 0, .str [], .str [], .str [], .str [], .str []], true, false⟩)], [], [], [], none⟩) (fun i => xs.length - i) (fun i => i ≤ xs.length ∧ firstAl p xs = firstAl p (xs.drop i)) ?_ 0 ⟨Nat.zero_le _, rfl⟩⟩
  rintro i ⟨hi, hpre⟩ ih
  conv => whnf
  refine ifB_intro (fun h => ?_) (fun h => ?_)
  · have h := of_decide_eq_true h
    have hlt : i < xs.length := by simpa using h
    conv => whnf
    refine sideB_intro (fun _ => decide_eq_true (by simp; omega)) ?_
    rw [getD_map (enc := Al.d) hlt]
    conv => whnf
    refine ⟨_, fun _ => hp _ (List.getElem_mem hlt), ?_⟩
    conv => whnf
    have hdrop : xs.drop i = xs[i] :: xs.drop (i + 1) := List.drop_eq_getElem_cons hlt
    refine ifB_intro (fun hb => ?_) (fun hb => ?_)
    · conv => whnf
      have e : firstAl p xs = .tup [xs[i].d, .bool true] := by rw [hpre, hdrop, firstAl, hb]; rfl
      exact ⟨rfl, Eq.trans rfl e.symm⟩
    · conv => whnf
      have hw : IntKind.i64.wrap ((i : Int) + 1) = ((i + 1 : Nat) : Int) := by rw [IntKind.wrap_i64]; omega
      rw [hw]
      exact ih (i + 1) ⟨hlt, by rw [hpre, hdrop, firstAl, hb]; rfl⟩ (by omega)
  · have h := of_decide_eq_false h
    conv => whnf
    have hd : xs.drop i = [] := List.drop_eq_nil_iff.2 (by simpa using h)
    have e : firstAl p xs = firstAl p [] := by rw [hpre, hd]
    exact ⟨rfl, Eq.trans rfl e.symm⟩
theorem run42 (xs : List Lk) (f : Nat) (caps : List D) (p : Lk → Bool) (hlen : xs.length ≤ 1000000) (hp : ∀ x ∈ xs, CallsTo Try.prog f (x.d :: caps) (.bool (p x))) :
    Runs Try.prog T 21 (Try.f42.body.getD .skip) Try.f42.results.toList [.sl 0 6 (xs.map Lk.d), .fn f caps] (firstLk p xs) := by
  refine ⟨Nat.le_of_ble_eq_true rfl, ?_⟩
  conv => whnf
  refine ⟨_, loop_rule (σ := Nat) (fun i => ⟨21, [(1, .fn f caps), (0, .sl 0 6 (List.map Lk.d xs)), (4, .loc 4 0), (5, .bool false), (9, .sl 0 6 (List.map Lk.d xs)), (10, .int .i64 (List.map Lk.d xs).length), (11, .int .i64 (i : Int))], [], [(4, ⟨[.str [], .str [], .str [], .str [], .str [], .str []], true, false⟩)], [], [], [], none⟩) (fun i => xs.length - i) (fun i => i ≤ xs.length ∧ firstLk p xs = firstLk p (xs.drop i)) ?_ 0 ⟨Nat.zero_le _, rfl⟩⟩
  rintro i ⟨hi, hpre⟩ ih
  conv => whnf
  refine ifB_intro (fun h => ?_) (fun h => ?_)
  · have h := of_decide_eq_true h
    have hlt : i < xs.length := by simpa using h
    conv => whnf
    refine sideB_intro (fun _ => decide_eq_true (by simp; omega)) ?_
    rw [getD_map (enc := Lk.d) hlt]
    conv => whnf
    refine ⟨_, fun _ => hp _ (List.getElem_mem hlt), ?_⟩
    conv => whnf
    have hdrop : xs.drop i = xs[i] :: xs.drop (i + 1) := List.drop_eq_getElem_cons hlt
    refine ifB_intro (fun hb => ?_) (fun hb => ?_)
    · conv => whnf
      have e : firstLk p xs = .tup [xs[i].d, .bool true] := by rw [hpre, hdrop, firstLk, hb]; rfl
      exact ⟨rfl, Eq.trans rfl e.symm⟩
    · conv => whnf
      have hw : IntKind.i64.wrap ((i : Int) + 1) = ((i + 1 : Nat) : Int) := by rw [IntKind.wrap_i64]; omega
      rw [hw]
      exact ih (i + 1) ⟨hlt, by rw [hpre, hdrop, firstLk, hb]; rfl⟩ (by omega)
  · have h := of_decide_eq_false h
    conv => whnf
    have hd : xs.drop i = [] := List.drop_eq_nil_iff.2 (by simpa using h)
    have e : firstLk p xs = firstLk p [] := by rw [hpre, hd]
    exact ⟨rfl, Eq.trans rfl e.symm⟩

def isAl (kind : Int) (p q : S8) (x : Al) : Bool := bif bif x.k == kind then x.a == p else false then x.b == q else false
def isLk (l s r : S8) (x : Lk) : Bool := bif bif x.l == l then x.s == s else false then x.r == r else false
theorem run41 (x : Al) (kind : Int) (p q : S8) : Runs Try.prog T 22 (Try.f41.body.getD .skip) Try.f41.results.toList [x.d, .eptr (.int .i64 kind) 0, .eptr (.str p) 0, .eptr (.str q) 0] (.bool (isAl kind p q x)) := by
  refine ⟨Nat.le_of_ble_eq_true rfl, ?_⟩
  conv => whnf
  exact ⟨rfl, rfl⟩
theorem run43 (x : Lk) (l s r : S8) : Runs Try.prog T 22 (Try.f43.body.getD .skip) Try.f43.results.toList [x.d, .eptr (.str l) 0, .eptr (.str s) 0, .eptr (.str r) 0] (.bool (isLk l s r x)) := by
  refine ⟨Nat.le_of_ble_eq_true rfl, ?_⟩
  conv => whnf
  exact ⟨rfl, rfl⟩
theorem call41 (x : Al) (kind : Int) (p q : S8) : CallsTo Try.prog 41 [x.d, .eptr (.int .i64 kind) 0, .eptr (.str p) 0, .eptr (.str q) 0] (.bool (isAl kind p q x)) := calls Try.func41 rfl (by decide) (run41 x kind p q)
theorem call43 (x : Lk) (l s r : S8) : CallsTo Try.prog 43 [x.d, .eptr (.str l) 0, .eptr (.str s) 0, .eptr (.str r) 0] (.bool (isLk l s r x)) := calls Try.func43 rfl (by decide) (run43 x l s r)
theorem call40 (xs : List Al) (f : Nat) (caps : List D) (p : Al → Bool) (hlen : xs.length ≤ 1000000) (hp : ∀ x ∈ xs, CallsTo Try.prog f (x.d :: caps) (.bool (p x))) : CallsTo Try.prog 40 [.sl 0 6 (xs.map Al.d), .fn f caps] (firstAl p xs) := calls Try.func40 rfl (by decide) (run40 xs f caps p hlen hp)
theorem call42 (xs : List Lk) (f : Nat) (caps : List D) (p : Lk → Bool) (hlen : xs.length ≤ 1000000) (hp : ∀ x ∈ xs, CallsTo Try.prog f (x.d :: caps) (.bool (p x))) : CallsTo Try.prog 42 [.sl 0 6 (xs.map Lk.d), .fn f caps] (firstLk p xs) := calls Try.func42 rfl (by decide) (run42 xs f caps p hlen hp)

end Go.Proofs.Ytndijidmabfhcaa.Fw
