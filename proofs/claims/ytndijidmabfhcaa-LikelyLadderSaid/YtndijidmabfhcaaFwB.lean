/- What it means that a value of the machine reads as given data, and that a function's state does. Definitions and their first laws. -/
import Derived.Test.YtndijidmabfhcaaFwA
namespace Go.Proofs.Ytndijidmabfhcaa.Fw
open Go

abbrev Im := Nat → Nat → Prop

mutual
/-- A value reads as data, all of it in cells that change no more. -/
def Rep (I : Im) (w : World) : D → Value → Prop
  | .int k n, v => v = .int k n
  | .bool b, v => v = .bool b
  | .str l, v => v = .string ⟨⟨l⟩⟩
  | .agg cs, v => ∃ vs : List Value, v = .agg ⟨vs⟩ ∧ cs.all D.isCell = true ∧ RepL I w cs vs
  | .tup cs, v => ∃ vs : List Value, v = .tuple ⟨vs⟩ ∧ cs.all D.isVal = true ∧ RepL I w cs vs
  | .sl st es xs, v => st = 0 ∧ ((v = .slice none 0 0 ∧ xs = []) ∨ ∃ a cap, v = .slice (some a) xs.length cap ∧ xs.length ≤ cap ∧ RepRow I w es xs a 0)
  | .eptr d off, v => match d with
    | .agg cs => ∃ a : Addr, v = .pointer (some (a.add off)) ∧ RepCs I w cs a 0
    | d => ∃ a : Addr, v = .pointer (some (a.add off)) ∧ d.isCell = true ∧ I a.block a.off ∧ ∃ u, w.cell? a = some u ∧ Rep I w d u
  | .nilp, v => v = .pointer none
  | .fn f caps, v => ∃ vs : List Value, v = .func (.func f) #[] ⟨vs⟩ ∧ RepL I w caps vs
  | .nilf, v => v = .nilFunc
  | .ifc t d, v => ∃ u, v = .iface t u ∧ Rep I w d u
  | .nili, v => v = .nilIface
  | .mapv ks vs, v => ∃ r, v = .map (some r) ∧ I r 0 ∧ ∃ es clock, w.heap[r]? = some (.map es clock) ∧ RepL I w ks (es.toList.map (·.key)) ∧ RepL I w vs (es.toList.map (·.val)) ∧ vs.all D.isVal = true
  | .nilm, v => v = .map none
  | .yld l, v => v = .func (.yield l) #[] #[]
  | .loc _ _, _ => False
  | .lsl _ _ _, _ => False
  | .mapr _, _ => False
  | .wh _ _ _, _ => False
  | .undef, _ => False
def RepL (I : Im) (w : World) : List D → List Value → Prop
  | [], vs => vs = []
  | d :: ds, vs => ∃ v us, vs = v :: us ∧ Rep I w d v ∧ RepL I w ds us
/-- Elements of es cells each, from place i on. -/
def RepRow (I : Im) (w : World) (es : Nat) : List D → Addr → Nat → Prop
  | [], _, _ => True
  | d :: ds, a, i => (match d with
    | .agg cs => cs.length = es ∧ RepCs I w cs (a.add (i * es)) 0
    | d => es = 1 ∧ d.isCell = true ∧ I (a.add (i * es)).block (a.add (i * es)).off ∧ ∃ u, w.cell? (a.add (i * es)) = some u ∧ Rep I w d u) ∧ RepRow I w es ds a (i + 1)
/-- Cells from place j on. -/
def RepCs (I : Im) (w : World) : List D → Addr → Nat → Prop
  | [], _, _ => True
  | d :: ds, a, j => (d.isCell = true ∧ I (a.add j).block (a.add j).off ∧ ∃ u, w.cell? (a.add j) = some u ∧ Rep I w d u) ∧ RepCs I w ds a (j + 1)
end

/-- The variable at an address holds the data. -/
def RepAt (I : Im) (w : World) (d : D) (a : Addr) : Prop :=
  match d with
  | .agg cs => RepCs I w cs a 0
  | d => d.isCell = true ∧ I a.block a.off ∧ ∃ u, w.cell? a = some u ∧ Rep I w d u

theorem rep_eptr (I : Im) (w : World) (d : D) (off : Nat) (v : Value) : Rep I w (.eptr d off) v ↔ ∃ a : Addr, v = .pointer (some (a.add off)) ∧ RepAt I w d a := by
  cases d <;> rfl

/-- How many cells data has. -/
theorem repRow_cons (I : Im) (w : World) (es : Nat) (d : D) (ds : List D) (a : Addr) (i : Nat) :
    RepRow I w es (d :: ds) a i ↔ (d.cells.length = es ∧ RepAt I w d (a.add (i * es))) ∧ RepRow I w es ds a (i + 1) := by
  cases d with
  | agg cs => exact Iff.rfl
  | _ => exact ⟨fun h => ⟨⟨h.1.1.symm, h.1.2⟩, h.2⟩, fun h => ⟨⟨h.1.1.symm, h.1.2⟩, h.2⟩⟩

/-- What changes no more is as it was. -/
structure Keeps (I I' : Im) (w w' : World) : Prop where
  im : ∀ b o, I b o → I' b o
  cell : ∀ (a : Addr) u, I a.block a.off → w.cell? a = some u → w'.cell? a = some u
  map : ∀ (r : Nat) es c, I r 0 → w.heap[r]? = some (.map es c) → w'.heap[r]? = some (.map es c)

theorem Keeps.refl (I : Im) (w : World) : Keeps I I w w := ⟨fun _ _ h => h, fun _ _ _ h => h, fun _ _ _ _ h => h⟩
theorem Keeps.trans {I I' I'' : Im} {w w' w'' : World} (h : Keeps I I' w w') (k : Keeps I' I'' w' w'') : Keeps I I'' w w'' :=
  ⟨fun b o x => k.im b o (h.im b o x), fun a u i c => k.cell a u (h.im _ _ i) (h.cell a u i c), fun r es c i x => k.map r es c (h.im _ _ i) (h.map r es c i x)⟩

set_option linter.unusedSectionVars false in
section
variable {I I' : Im} {w w' : World} (K : Keeps I I' w w')
include K
mutual
theorem Rep.keeps : ∀ (d : D) (v : Value), Rep I w d v → Rep I' w' d v
  | .int _ _, _, h | .bool _, _, h | .str _, _, h | .nilp, _, h | .nilf, _, h | .nili, _, h | .nilm, _, h | .yld _, _, h => by simpa only [Rep] using h
  | .agg cs, v, h => by
    simp only [Rep] at h ⊢
    obtain ⟨vs, e, hc, h⟩ := h
    exact ⟨vs, e, hc, RepL.keeps cs vs h⟩
  | .tup cs, v, h => by
    simp only [Rep] at h ⊢
    obtain ⟨vs, e, hc, h⟩ := h
    exact ⟨vs, e, hc, RepL.keeps cs vs h⟩
  | .sl _ es xs, v, h => by
    simp only [Rep] at h ⊢
    obtain ⟨h0, h⟩ := h
    refine ⟨h0, ?_⟩
    rcases h with h | ⟨a, cap, e, hl, h⟩
    · exact .inl h
    · exact .inr ⟨a, cap, e, hl, RepRow.keeps es xs a 0 h⟩
  | .eptr d off, v, h => by
    rw [rep_eptr] at h ⊢
    obtain ⟨a, e, h⟩ := h
    refine ⟨a, e, ?_⟩
    cases d with
    | agg cs => exact RepCs.keeps cs a 0 h
    | _ =>
      obtain ⟨hc, hi, u, hu, h⟩ := h
      exact ⟨hc, K.im _ _ hi, u, K.cell _ _ hi hu, Rep.keeps _ u h⟩
  | .fn f caps, v, h => by
    simp only [Rep] at h ⊢
    obtain ⟨vs, e, h⟩ := h
    exact ⟨vs, e, RepL.keeps caps vs h⟩
  | .ifc t d, v, h => by
    simp only [Rep] at h ⊢
    obtain ⟨u, e, h⟩ := h
    exact ⟨u, e, Rep.keeps d u h⟩
  | .mapv ks vs, v, h => by
    simp only [Rep] at h ⊢
    obtain ⟨r, e, hi, es, c, hr, h1, h2, h3⟩ := h
    exact ⟨r, e, K.im _ _ hi, es, c, K.map _ _ _ hi hr, RepL.keeps ks _ h1, RepL.keeps vs _ h2, h3⟩
  | .loc _ _, _, h | .lsl _ _ _, _, h | .mapr _, _, h | .wh _ _ _, _, h | .undef, _, h => by simp only [Rep] at h
theorem RepL.keeps : ∀ (ds : List D) (vs : List Value), RepL I w ds vs → RepL I' w' ds vs
  | [], vs, h => by simpa only [RepL] using h
  | d :: ds, vs, h => by
    simp only [RepL] at h ⊢
    obtain ⟨v, us, e, h1, h2⟩ := h
    exact ⟨v, us, e, Rep.keeps d v h1, RepL.keeps ds us h2⟩
theorem RepRow.keeps (es : Nat) : ∀ (ds : List D) (a : Addr) (i : Nat), RepRow I w es ds a i → RepRow I' w' es ds a i
  | [], _, _, h => by simp only [RepRow]
  | d :: ds, a, i, h => by
    cases d with
    | agg cs =>
      simp only [RepRow] at h ⊢
      exact ⟨⟨h.1.1, RepCs.keeps cs _ 0 h.1.2⟩, RepRow.keeps es ds a (i + 1) h.2⟩
    | _ =>
      simp only [RepRow] at h ⊢
      obtain ⟨⟨e, hc, hi, u, hu, h⟩, h2⟩ := h
      exact ⟨⟨e, hc, K.im _ _ hi, u, K.cell _ _ hi hu, Rep.keeps _ u h⟩, RepRow.keeps es ds a (i + 1) h2⟩
theorem RepCs.keeps : ∀ (ds : List D) (a : Addr) (j : Nat), RepCs I w ds a j → RepCs I' w' ds a j
  | [], _, _, h => by simp only [RepCs]
  | d :: ds, a, j, h => by
    simp only [RepCs] at h ⊢
    obtain ⟨⟨hd, hi, u, hu, h1⟩, h2⟩ := h
    exact ⟨⟨hd, K.im _ _ hi, u, K.cell _ _ hi hu, Rep.keeps d u h1⟩, RepCs.keeps ds a (j + 1) h2⟩
end
theorem RepAt.keeps {d : D} {a : Addr} (h : RepAt I w d a) : RepAt I' w' d a := by
  cases d with
  | agg cs => exact RepCs.keeps K cs a 0 h
  | _ =>
    obtain ⟨hc, hi, u, hu, h⟩ := h
    exact ⟨hc, K.im _ _ hi, u, K.cell _ _ hi hu, Rep.keeps K _ u h⟩
end

end Go.Proofs.Ytndijidmabfhcaa.Fw
