/- Appending. -/
import Derived.Test.YtndijidmabfhcaaFwM
namespace Go.Proofs.Ytndijidmabfhcaa.Fw
open Go Go.RowKit

theorem rep_oneCell {I : Im} {w : World} {d : D} {v : Value} (hc : d.isCell = true) (h : Rep I w d v) : v.oneCell' = true :=
  repC_one (c := ⟨fun _ => 0, fun _ => none, I, .plain w, I, []⟩) (env := ⟨0, [], [], [], [], [], [], none⟩) (w := w) (rep_repC hc h)

theorem repCs_move {I I' : Im} {w w' : World} (K : Keeps I I' w w') : ∀ {cs : List D} {a b : Addr} {j j' : Nat}, RepCs I w cs a j → (∀ i u, i < cs.length → w.cell? (a.add (j + i)) = some u → w'.cell? (b.add (j' + i)) = some u ∧ I' (b.add (j' + i)).block (b.add (j' + i)).off) → RepCs I' w' cs b j'
  | [], _, _, _, _, _, _ => by simp only [RepCs]
  | d :: ds, a, b, j, j', h, hm => by
    simp only [RepCs] at h ⊢
    obtain ⟨⟨hc, hi, u, hu, hr⟩, h2⟩ := h
    have h0 := hm 0 u (by simp) hu
    refine ⟨⟨hc, h0.2, u, h0.1, Rep.keeps K d u hr⟩, repCs_move K h2 fun i u hi hu => ?_⟩
    have := hm (i + 1) u (by simp; omega) (by rw [show j + (i + 1) = j + 1 + i from by omega]; exact hu)
    rw [show j' + 1 + i = j' + (i + 1) from by omega]; exact this

theorem repRow_move {I I' : Im} {w w' : World} (K : Keeps I I' w w') {es : Nat} : ∀ {xs : List D} {a b : Addr} {i i' : Nat}, RepRow I w es xs a i → (∀ j u, j < xs.length * es → w.cell? (a.add (i * es + j)) = some u → w'.cell? (b.add (i' * es + j)) = some u ∧ I' (b.add (i' * es + j)).block (b.add (i' * es + j)).off) → RepRow I' w' es xs b i'
  | [], _, _, _, _, _, _ => by simp only [RepRow]
  | d :: ds, a, b, i, i', h, hm => by
    rw [repRow_cons] at h ⊢
    obtain ⟨⟨hl, hat⟩, h2⟩ := h
    have hlen : (d :: ds).length * es = ds.length * es + es := by rw [List.length_cons, Nat.add_mul]; omega
    have hi1 : (i + 1) * es = i * es + es := by rw [Nat.add_mul]; omega
    have hi2 : (i' + 1) * es = i' * es + es := by rw [Nat.add_mul]; omega
    refine ⟨⟨hl, ?_⟩, repRow_move K h2 fun j u hj hu => ?_⟩
    · cases d with
      | agg cs =>
        simp only [D.cells] at hl
        refine repCs_move K hat fun k u hk hu => ?_
        rw [add_add', Nat.zero_add] at hu ⊢
        exact hm k u (by omega) hu
      | _ =>
        obtain ⟨hc, hi, u, hu, hr⟩ := hat
        simp only [D.cells, List.length_singleton] at hl
        have h0 := hm 0 u (by omega) hu
        exact ⟨hc, h0.2, u, h0.1, Rep.keeps K _ u hr⟩
    · have := hm (es + j) u (by omega) (by rw [show i * es + (es + j) = (i + 1) * es + j from by omega]; exact hu)
      rw [show (i' + 1) * es + j = i' * es + (es + j) from by omega]; exact this

theorem repRow_append {I : Im} {w : World} {es : Nat} : ∀ {xs ys : List D} {a : Addr} {i : Nat}, RepRow I w es xs a i → RepRow I w es ys a (i + xs.length) → RepRow I w es (xs ++ ys) a i
  | [], _, _, _, _, h => h
  | d :: ds, ys, a, i, h, k => by
    rw [repRow_cons] at h
    rw [List.cons_append, repRow_cons]
    exact ⟨h.1, repRow_append h.2 (by rw [show i + 1 + ds.length = i + (d :: ds).length from by simp; omega]; exact k)⟩

theorem repCs_cell {I : Im} {w : World} : ∀ {cs : List D} {a : Addr} {j : Nat}, RepCs I w cs a j → ∀ i, i < cs.length → ∃ u, w.cell? (a.add (j + i)) = some u ∧ u.oneCell' = true ∧ I (a.add (j + i)).block (a.add (j + i)).off
  | [], _, _, _, i, h => by simp at h
  | d :: ds, a, j, h, 0, _ => by
    simp only [RepCs] at h
    obtain ⟨⟨hc, hi, u, hu, hr⟩, _⟩ := h
    exact ⟨u, hu, rep_oneCell hc hr, hi⟩
  | d :: ds, a, j, h, i + 1, hi => by
    simp only [RepCs] at h
    have := repCs_cell h.2 i (by simpa using hi)
    rw [show j + (i + 1) = j + 1 + i from by omega]; exact this

theorem repRow_cell {I : Im} {w : World} {es : Nat} : ∀ {xs : List D} {a : Addr} {i : Nat}, RepRow I w es xs a i → ∀ j, j < xs.length * es → ∃ u, w.cell? (a.add (i * es + j)) = some u ∧ u.oneCell' = true ∧ I (a.add (i * es + j)).block (a.add (i * es + j)).off
  | [], _, _, _, j, h => by simp at h
  | d :: ds, a, i, h, j, hj => by
    rw [repRow_cons] at h
    obtain ⟨⟨hl, hat⟩, h2⟩ := h
    have hlen : (d :: ds).length * es = ds.length * es + es := by rw [List.length_cons, Nat.add_mul]; omega
    have hi1 : (i + 1) * es = i * es + es := by rw [Nat.add_mul]; omega
    by_cases hje : j < es
    · cases d with
      | agg cs =>
        simp only [D.cells] at hl
        have := repCs_cell hat j (by omega)
        rw [add_add', Nat.zero_add] at this
        exact this
      | _ =>
        obtain ⟨hc, hi, u, hu, hr⟩ := hat
        simp only [D.cells, List.length_singleton] at hl
        obtain rfl : j = 0 := by omega
        exact ⟨u, hu, rep_oneCell hc hr, hi⟩
    · have := repRow_cell h2 (j - es) (by omega)
      rw [show (i + 1) * es + (j - es) = i * es + j from by omega] at this
      exact this

section
variable {P : Program} {w : World}

theorem run_append_fw {t ty e : TypeId} {i : TypeInfo} {z : Value} (ht : P.underlying t = some (.slice e)) (hi : P.info? e = some i) (hz : i.zero = some z) (hzs : z.cells.size = i.size)
    {v : Value} {n base : Nat} {xs : List Value} (hown : w.ownsRow base e i.size v n xs) {a : Addr} {m k : Nat} {news : List Value} (hl : news.length = m * i.size) (hnews : ∀ j u, news[j]? = some u → w.cell? (a.add j) = some u) (h1 : ∀ u ∈ news, u.oneCell' = true)
    (hm : 0 < m) (h63 : n + m ≤ maxLen) (hbytes : (n + m) * i.bytes ≤ 140737488355328) (hbase : base ≤ w.heap.size) :
    ∃ g cap cur w', (Builtin.append_ #[t, t] ty #[v, .slice (some a) m k]).run P w = .ok (.slice (some ⟨g, 0, none⟩) (n + m) cap) w' ∧ w'.heap[g]? = some (.cells cur e (0, 0)) ∧ n + m ≤ cap ∧ cap ≤ maxLen ∧ cur.size = cap * i.size ∧ cur.toList.take ((n + m) * i.size) = xs ++ news ∧
      Below base w w' ∧ base ≤ g ∧ (v.ownBlock = some g ∨ g = w.heap.size) ∧ (∀ k, k < w.heap.size → v.ownBlock ≠ some k ∨ g = w.heap.size → w'.heap[k]? = w.heap[k]?) := by
  have hlen : (xs ++ news).length = (n + m) * i.size := by rw [List.length_append, hown.1, hl, Nat.add_mul]
  have hsmall : n + m ≤ 9223372036854775807 := by simp only [maxLen] at h63; omega
  have grown : ∀ (old : Nat), (Builtin.append_ #[t, t] ty #[v, .slice (some a) m k]).run P w = .ok (.slice (some ⟨w.heap.size, 0, none⟩) (n + m) (grownCap w (n + m) old e)) (w.drew.alloc (.cells ((xs ++ news).toArray ++ Builtin.zeroCells z.cells (grownCap w (n + m) old e - (n + m))) e)) →
    ∃ g cap cur w', (Builtin.append_ #[t, t] ty #[v, .slice (some a) m k]).run P w = .ok (.slice (some ⟨g, 0, none⟩) (n + m) cap) w' ∧ w'.heap[g]? = some (.cells cur e (0, 0)) ∧ n + m ≤ cap ∧ cap ≤ maxLen ∧ cur.size = cap * i.size ∧ cur.toList.take ((n + m) * i.size) = xs ++ news ∧
      Below base w w' ∧ base ≤ g ∧ (v.ownBlock = some g ∨ g = w.heap.size) ∧ (∀ k, k < w.heap.size → v.ownBlock ≠ some k ∨ g = w.heap.size → w'.heap[k]? = w.heap[k]?) := by
    intro old hr
    have hge := grownCap_ge w (n + m) old e
    refine ⟨_, _, _, _, hr, heap_alloc_new w.drew _, hge, grownCap_le_maxLen w (n + m) old e h63, ?_, ?_, ?_, hbase, .inr rfl, fun k hk _ => Below.heap_alloc w.drew _ k hk⟩
    · rw [Array.size_append, List.size_toArray, size_zeroCells, hzs, hlen, ← Nat.add_mul]
      congr 1; omega
    · rw [Array.toList_append, ← hlen]
      exact List.take_left
    · exact ((Below.refl base w).drew).alloc hbase _
  rcases hown.2 with ⟨rfl, rfl⟩ | ⟨g, cap, cur, rfl, hbg, hg, hnc, hcm, hcs, htake⟩
  · have hx : xs = [] := List.eq_nil_of_length_eq_zero (by simpa using hown.1)
    subst hx
    refine grown 0 ?_
    have hr := run_append_nil (P := P) w t ty e i z ht hi hz a m k news hl hnews hm (by omega) (by simp only [Nat.zero_add] at hbytes; omega)
    simpa using hr
  · by_cases hroom : n + m ≤ cap
    · have hfit : n * i.size + news.length ≤ cur.size := by rw [hl, hcs, ← Nat.add_mul]; exact Nat.mul_le_mul_right _ hroom
      have hr := run_append_room (P := P) w t ty e i ht hi g n cap cur hg a m k news hl hnews h1 hroom hfit
      refine ⟨_, _, _, _, hr, setRow_heap w g cur _ e _ hg, hroom, hcm, ?_, ?_, ?_, hbg, .inl rfl, ?_⟩
      · simp only [List.size_toArray, List.length_append, List.length_take, List.length_drop, Array.length_toList]
        omega
      · rw [htake, ← hlen]
        exact List.take_left
      · exact ⟨rfl, rfl, rfl, by simp, fun k hk => setRow_other w g k _ (by omega)⟩
      · intro k hk hne
        have hlt := (Array.getElem?_eq_some_iff.1 hg).1
        refine setRow_other w g k _ fun e' => ?_
        subst e'
        rcases hne with hne | hne
        · exact hne rfl
        · omega
    · have holds : ∀ j u, xs[j]? = some u → w.cell? ((⟨g, 0, none⟩ : Addr).add j) = some u := hown.cells (g := g) rfl
      refine grown cap ?_
      have hr := run_append_grow (P := P) w t ty e i z ht hi hz ⟨g, 0, none⟩ n cap xs hown.1 holds a m k news hl hnews (by omega) (by omega) (growslice_fits (by omega) hbytes)
      simpa using hr

theorem run_append_none {t ty e : TypeId} {i : TypeInfo} (ht : P.underlying t = some (.slice e)) (hi : P.info? e = some i) {b : Option Addr} {n cap : Nat} (hn : n ≤ cap) {y : Value} (hy : y = .slice none 0 0 ∨ ∃ a k, y = .slice (some a) 0 k) :
    (Builtin.append_ #[t, t] ty #[.slice b n cap, y]).run P w = .ok (.slice b n cap) w := by
  rcases hy with rfl | ⟨a, k, rfl⟩ <;> cases b <;> simp [Builtin.append_, run_underlying ht, sizeOf, typeInfo, hi, Builtin.lenOf, Builtin.firstCells, hn, loadCells, loadCellsFrom, storeCells]
end

end Go.Proofs.Ytndijidmabfhcaa.Fw
