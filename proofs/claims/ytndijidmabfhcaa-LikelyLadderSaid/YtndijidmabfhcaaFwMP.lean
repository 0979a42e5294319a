/- Maps whose keys are given by an encoding: looking, laying, and which keys fit. -/
import Derived.Test.YtndijidmabfhcaaFwTB
namespace Go.Proofs.Ytndijidmabfhcaa.Fw
open Go Go.RowKit

section
variable {α : Type} [DecidableEq α]
/-- Keys of a type, one for each a. -/
structure KeyEnc (T : Ty) (q : Nat) (enc : α → D) : Prop where
  eq : ∀ a b, eqKey (enc a) (enc b) = decide (a = b)
  fit : ∀ a b, fitK T q (enc a) (enc b) = true
  val : ∀ a, (enc a).isVal = true

def assoc {β : Type} (a : α) : List (α × β) → Option β
  | [] => none
  | p :: L => bif decide (a = p.1) then some p.2 else assoc a L
def putA {β : Type} (a : α) (v : β) : List (α × β) → List (α × β)
  | [] => [(a, v)]
  | p :: L => bif decide (a = p.1) then (a, v) :: L else p :: putA a v L
def insS (a : α) : List α → List α
  | [] => [a]
  | b :: L => bif decide (a = b) then b :: L else b :: insS a L

variable {T : Ty} {q : Nat} {enc : α → D} (h : KeyEnc T q enc)
include h
theorem keysFit_enc (a : α) (L : List α) : keysFit T q (enc a) (L.map enc) = true := by
  simp only [keysFit, h.val, h.fit, Bool.true_and, List.all_map, List.all_eq_true]
  intro x _; exact h.fit a x
theorem findD_map {β : Type} (val : β → D) (a : α) : ∀ L : List (α × β), findD (enc a) (L.map fun p => enc p.1) (L.map fun p => val p.2) = (assoc a L).map val
  | [] => rfl
  | p :: L => by
    simp only [List.map_cons, findD, assoc, h.eq]
    cases decide (a = p.1) with
    | true => rfl
    | false => exact findD_map val a L
theorem putD_map {β : Type} (val : β → D) (a : α) (v : β) : ∀ L : List (α × β), putD (enc a) (val v) (L.map fun p => enc p.1) (L.map fun p => val p.2) = ((putA a v L).map fun p => enc p.1, (putA a v L).map fun p => val p.2)
  | [] => rfl
  | p :: L => by
    simp only [List.map_cons, putD, putA, h.eq]
    cases decide (a = p.1) with
    | true => rfl
    | false => rw [putD_map val a v L]; rfl
theorem findD_set (d : D) (a : α) : ∀ L : List α, findD (enc a) (L.map enc) (L.map fun _ => d) = bif L.contains a then some d else none
  | [] => rfl
  | b :: L => by
    simp only [List.map_cons, findD, h.eq, List.contains_cons]
    by_cases e : a = b
    · simp [e]
    · simp only [decide_eq_false e, show (a == b) = false by simpa using e, cond_false, Bool.false_or]
      exact findD_set d a L
theorem putD_set (d : D) (a : α) : ∀ L : List α, putD (enc a) d (L.map enc) (L.map fun _ => d) = ((insS a L).map enc, (insS a L).map fun _ => d)
  | [] => rfl
  | b :: L => by
    simp only [List.map_cons, putD, insS, h.eq]
    by_cases e : a = b
    · subst e; simp
    · simp only [decide_eq_false e, cond_false, putD_set d a L, List.map_cons]
end

theorem beq_dec {α : Type} [DecidableEq α] [BEq α] [LawfulBEq α] (a b : α) : (a == b) = decide (a = b) := by
  by_cases h : a = b <;> simp [h]
def setD {α : Type} (enc : α → D) (L : List α) : D := .mapv (L.map enc) (L.map fun _ => .bool true)
theorem mem_insS {α : Type} [DecidableEq α] {a b : α} : ∀ {L : List α}, b ∈ insS a L ↔ b = a ∨ b ∈ L
  | [] => by simp [insS]
  | c :: L => by
    simp only [insS]
    by_cases e : a = c
    · subst e; simp
    · simp only [decide_eq_false e, cond_false, List.mem_cons, mem_insS]
      constructor
      · rintro (h | h | h) <;> simp [h]
      · rintro (h | h | h) <;> simp [h]
theorem assoc_putA {α β : Type} [DecidableEq α] {a b : α} {v : β} : ∀ {L : List (α × β)}, assoc b (putA a v L) = if b = a then some v else assoc b L
  | [] => by
    by_cases e : b = a <;> simp [putA, assoc, e]
  | p :: L => by
    simp only [putA]
    by_cases e : a = p.1
    · simp only [decide_eq_true e, cond_true, assoc]
      by_cases e2 : b = a
      · simp [e2]
      · simp [e2, show ¬ b = p.1 from fun x => e2 (x.trans e.symm)]
    · simp only [decide_eq_false e, cond_false, assoc, assoc_putA]
      by_cases e2 : b = a
      · simp [e2, e]
      · simp [e2]
end Go.Proofs.Ytndijidmabfhcaa.Fw
