/- Reading arguments of some shapes; what every row of the seat asks. -/
import Derived.Test.YtndijidmabfhcaaFwRB
import Derived.Test.YtndijidmabfhcaaFwTB
namespace Go.Proofs.Ytndijidmabfhcaa.Fw
open Go Go.RowKit Go.WideShapes Go.ChangeShapes

theorem all2_inv1 {α β : Type} {R : α → β → Prop} {a : α} : ∀ {xs : List β}, All2 R [a] xs → ∃ x, xs = [x] ∧ R a x
  | [x], h => ⟨x, rfl, h.1⟩
  | [], h => h.elim
  | _ :: _ :: _, h => h.2.elim
theorem all2_inv2 {α β : Type} {R : α → β → Prop} {a b : α} : ∀ {xs : List β}, All2 R [a, b] xs → ∃ x y, xs = [x, y] ∧ R a x ∧ R b y
  | [x, y], h => ⟨x, y, rfl, h.1, h.2.1⟩
  | [], h => h.elim
  | [_], h => h.2.elim
  | _ :: _ :: _ :: _, h => h.2.2.elim
theorem all2_inv3 {α β : Type} {R : α → β → Prop} {a b c : α} : ∀ {xs : List β}, All2 R [a, b, c] xs → ∃ x y z, xs = [x, y, z] ∧ R a x ∧ R b y ∧ R c z
  | [x, y, z], h => ⟨x, y, z, rfl, h.1, h.2.1, h.2.2.1⟩
  | [], h => h.elim
  | [_], h => h.2.elim
  | [_, _], h => h.2.2.elim
  | _ :: _ :: _ :: _ :: _, h => h.2.2.2.elim
theorem laid : laidOutB Try.prog = true := by kernel_rfl
theorem own : ownKnob Try.prog.godebug = none := by kernel_rfl

theorem shp_int {t : Nat} {k : IntKind} {d : D} (ht : (T t).map (fun e => e.kind) = some (.int k)) (h : ShpV T t d) : ∃ n, d = .int k n := by
  obtain ⟨cs, rfl, h⟩ := h
  cases he : T t with
  | none => rw [he] at ht; cases ht
  | some e =>
    rw [he] at ht
    simp only [Option.map_some, Option.some.injEq] at ht
    simp only [Shp, he, ht] at h
    obtain ⟨m, rfl, _⟩ := h
    exact ⟨m, by simp [wholeT, he, TE.isAgg, ht]⟩
theorem shp_ints3 {t : Nat} {d : D} (h : ShpV T t d) (ht : t = 45) : ∃ a b c, d = .agg [.int .i64 a, .int .i64 b, .int .i64 c] := by
  subst ht
  obtain ⟨cs, rfl, dss, rfl, hl, hs⟩ := h
  have hs' : ∀ x ∈ dss, ∃ n, x = [.int .i64 n] := fun x hx => by
    obtain ⟨n, rfl, _⟩ := hs x hx
    exact ⟨n, rfl⟩
  match dss, hl, hs' with
  | [a, b, c], _, hs' =>
    obtain ⟨a, rfl⟩ := hs' a (by simp)
    obtain ⟨b, rfl⟩ := hs' b (by simp)
    obtain ⟨c, rfl⟩ := hs' c (by simp)
    exact ⟨a, b, c, rfl⟩
theorem shp_strs3 {d : D} (h : ShpV T 22 d) : ∃ a b c, d = .agg [.str a, .str b, .str c] := by
  obtain ⟨cs, rfl, dss, rfl, hl, hs⟩ := h
  have hs' : ∀ x ∈ dss, ∃ l, x = [.str l] := fun x hx => by
    obtain ⟨l, rfl, _⟩ := hs x hx
    exact ⟨l, rfl⟩
  match dss, hl, hs' with
  | [a, b, c], _, hs' =>
    obtain ⟨a, rfl⟩ := hs' a (by simp)
    obtain ⟨b, rfl⟩ := hs' b (by simp)
    obtain ⟨c, rfl⟩ := hs' c (by simp)
    exact ⟨a, b, c, rfl⟩
end Go.Proofs.Ytndijidmabfhcaa.Fw
