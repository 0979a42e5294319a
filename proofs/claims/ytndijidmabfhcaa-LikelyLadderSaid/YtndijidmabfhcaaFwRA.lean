/- What can be read of an argument is plain data: the reading gives the data, and the memory holds it. -/
import Derived.Test.YtndijidmabfhcaaFwY
import Derived.Deep.Slices
import Derived.ChangeStays
import Derived.OpenShut
namespace Go.Proofs.Ytndijidmabfhcaa.Fw
open Go Go.RowKit

def szT (T : Ty) (u : Nat) : Nat := match T u with | some e => e.size | none => 0
def wholeT (T : Ty) (u : Nat) (cs : List D) : D := match T u with | some e => bif e.isAgg then .agg cs else cs.headD .undef | none => .undef

def consec (T : Ty) : List (Nat × Nat) → Nat → Nat → Bool
  | [], o, tot => Nat.beq o tot
  | (off, u) :: fs, o, tot => Nat.beq off o && (T u).isSome && consec T fs (o + szT T u) tot

/-- A type of plain things: no pointer, no map, no interface. -/
def plainT (T : Ty) : Nat → Nat → Bool
  | 0, _ => false
  | n + 1, t => match T t with
    | some e => match e.kind with
      | .int _ | .bool | .str => true
      | .sl u => (T u).isSome && Nat.ble 1 (szT T u) && plainT T n u
      | .agg fs => consec T fs 0 e.size && fs.all (fun f => plainT T n f.2)
      | .arr m u => (T u).isSome && Nat.beq (m * szT T u) e.size && plainT T n u
      | _ => false
    | none => false

/-- What plain data of a type looks like. -/
def Shp (T : Ty) : Nat → Nat → List D → Prop
  | 0, _, _ => False
  | n + 1, t, ds => match T t with
    | some e => match e.kind with
      | .int k => ∃ m, ds = [.int k m] ∧ (Lit.int k m).wf = true
      | .bool => ∃ b, ds = [.bool b]
      | .str => ∃ l, ds = [.str l] ∧ l.length ≤ maxLen
      | .sl u => ∃ xs : List (List D), ds = [.sl 0 (szT T u) (xs.map (wholeT T u))] ∧ xs.length ≤ maxLen ∧ ∀ x ∈ xs, Shp T n u x
      | .agg fs => ∃ dss : List (List D), ds = dss.flatten ∧ All2 (fun f d => Shp T n f.2 d) fs dss
      | .arr m u => ∃ dss : List (List D), ds = dss.flatten ∧ dss.length = m ∧ ∀ d ∈ dss, Shp T n u d
      | _ => False
    | none => False

/-- All that was there. -/
def old (w : World) : Im := fun b _ => b < w.heap.size

structure Conv (T : Ty) (w : World) (n t : Nat) (cs : List Value) (ds : List D) : Prop where
  shp : Shp T n t ds
  rep : RepL (old w) w ds cs
  cell : ds.all D.isCell = true

section
variable {P : Program} {T : Ty} {w : World}

theorem TEok.cells {t : Nat} {e : TE} (h : TEok P t e) : P.cellsOf t = e.size := by
  obtain ⟨i, z, hi, hs, _⟩ := h.info
  simp [Program.cellsOf, hi, hs]

theorem cell_lt {a : Addr} {u : Value} (h : w.cell? a = some u) : a.block < w.heap.size := by
  unfold World.cell? at h
  by_cases hb : a.block < w.heap.size
  · exact hb
  · rw [Array.getElem?_eq_none (by omega)] at h; simp at h

theorem conv_cs {ds : List D} {cs : List Value} (hc : ds.all D.isCell = true) (hr : RepL (old w) w ds cs) {a : Addr} {n : Nat} (hw : w.cells? 0 a n = some cs) : RepCs (old w) w ds a 0 := by
  obtain ⟨_, hl, hcell⟩ := World.cells?_some hw
  have key : ∀ (ds : List D) (j : Nat), ds.all D.isCell = true → (∀ i x, ds[i]? = some x → ∃ u, w.cell? (a.add (j + i)) = some u ∧ Rep (old w) w x u) → RepCs (old w) w ds a j := by
    intro ds
    induction ds with
    | nil => intro j _ _; simp [RepCs]
    | cons d ds ih =>
      intro j hc h
      simp only [List.all_cons, Bool.and_eq_true] at hc
      refine ⟨⟨hc.1, ?_, ?_⟩, ih (j + 1) hc.2 fun i x hx => ?_⟩
      · obtain ⟨u, hu, _⟩ := h 0 d rfl
        exact cell_lt hu
      · exact h 0 d rfl
      · have := h (i + 1) x (by simpa using hx)
        rwa [show j + (i + 1) = j + 1 + i by omega] at this
  refine key ds 0 hc fun i x hx => ?_
  obtain ⟨u, hu, hrep⟩ := (all2_repL.1 hr).get i x hx
  have hi : i < n := by rw [← hl]; exact (List.getElem?_eq_some_iff.1 hu).1
  exact ⟨u, by rw [Nat.zero_add, hcell i hi, hu], hrep⟩

theorem conv_at (hT : TyOK P T) {u : Nat} {e : TE} (he : T u = some e) {ds : List D} {cs : List Value} (hc : ds.all D.isCell = true) (hr : RepL (old w) w ds cs) {a : Addr} (hw : w.cells? 0 a e.size = some cs) : (wholeT T u ds).cells.length = e.size ∧ RepAt (old w) w (wholeT T u ds) a := by
  have h0 := conv_cs hc hr hw
  obtain ⟨_, hl, _⟩ := World.cells?_some hw
  have hlen : ds.length = e.size := (all2_repL.1 hr).length.trans hl
  cases hag : e.isAgg with
  | true =>
    rw [show wholeT T u ds = .agg ds by simp [wholeT, he, hag]]
    exact ⟨hlen, h0⟩
  | false =>
    have h1 : e.size = 1 := (hT u e he).one hag
    rw [h1] at hlen
    obtain ⟨d, rfl⟩ := List.length_eq_one_iff.1 hlen
    rw [show wholeT T u [d] = d by simp [wholeT, he, hag]]
    simp only [List.all_cons, List.all_nil, Bool.and_true] at hc
    have h2 := h0.1
    rw [show a.add 0 = a by simp [Addr.add]] at h2
    cases d <;> first | exact ⟨h1.symm, h2⟩ | exact absurd hc (by simp [D.isCell])

theorem conv_row (hT : TyOK P T) {n u : Nat} {e : TE} (he : T u = some e) (a : Addr) : ∀ (len j : Nat), (∀ i, i < len → ∃ ds cs, w.cells? 0 (a.add ((j + i) * e.size)) e.size = some cs ∧ Conv T w n u cs ds) →
    ∃ xs : List (List D), xs.length = len ∧ (∀ x ∈ xs, Shp T n u x) ∧ RepRow (old w) w e.size (xs.map (wholeT T u)) a j
  | 0, _, _ => ⟨[], rfl, by simp, by simp [RepRow]⟩
  | len + 1, j, h => by
    obtain ⟨ds, cs, hw, hc⟩ := h 0 (by omega)
    obtain ⟨xs, hl, hs, hr⟩ := conv_row hT he a len (j + 1) fun i hi => by
      have := h (i + 1) (by omega)
      rwa [show j + (i + 1) = j + 1 + i by omega] at this
    refine ⟨ds :: xs, by simp [hl], ?_, ?_⟩
    · intro x hx
      rcases List.mem_cons.1 hx with rfl | hx
      · exact hc.shp
      · exact hs x hx
    · rw [List.map_cons, repRow_cons]
      exact ⟨conv_at hT he hc.cell hc.rep hw, hr⟩

theorem conv_parts {n : Nat} (hT : TyOK P T) : ∀ (fs : List (Nat × Nat)) (o tot : Nat) (cs : List Value), consec T fs o tot = true → cs.length = tot → (∀ f ∈ fs, ∃ ds, Conv T w n f.2 ((cs.drop f.1).take (P.cellsOf f.2)) ds) →
    ∃ dss : List (List D), All2 (fun f d => Shp T n f.2 d) fs dss ∧ RepL (old w) w dss.flatten (cs.drop o) ∧ dss.flatten.all D.isCell = true
  | [], o, tot, cs, h, hl, _ => ⟨[], trivial, by
      rw [List.drop_eq_nil_iff.2 (by have := Nat.eq_of_beq_eq_true h; omega)]; simp [RepL], rfl⟩
  | (off, u) :: fs, o, tot, cs, h, hl, hf => by
    simp only [consec, Bool.and_eq_true] at h
    obtain ⟨⟨h1, h2⟩, h3⟩ := h
    obtain rfl := Nat.eq_of_beq_eq_true h1
    obtain ⟨e, he⟩ := Option.isSome_iff_exists.1 h2
    obtain ⟨ds, hds⟩ := hf _ (List.mem_cons_self)
    obtain ⟨dss, ha, hr, hc⟩ := conv_parts hT fs _ tot cs h3 hl fun f hm => hf f (List.mem_cons_of_mem _ hm)
    have hsz : P.cellsOf u = szT T u := by rw [(hT u e he).cells]; simp [szT, he]
    refine ⟨ds :: dss, ⟨hds.shp, ha⟩, ?_, ?_⟩
    · have e1 : cs.drop off = (cs.drop off).take (P.cellsOf u) ++ cs.drop (off + szT T u) := by
        rw [hsz, ← List.drop_drop, List.take_append_drop]
      rw [e1, List.flatten_cons]
      exact all2_repL.2 (All2.append (all2_repL.1 hds.rep) (all2_repL.1 hr))
    · rw [List.flatten_cons, List.all_append, hds.cell, hc]; rfl

theorem conv_arr {n u : Nat} : ∀ (m o : Nat) (cs : List Value), cs.length = o + m * P.cellsOf u → (∀ i, i < m → ∃ ds, Conv T w n u ((cs.drop (o + i * P.cellsOf u)).take (P.cellsOf u)) ds) →
    ∃ dss : List (List D), dss.length = m ∧ (∀ d ∈ dss, Shp T n u d) ∧ RepL (old w) w dss.flatten (cs.drop o) ∧ dss.flatten.all D.isCell = true
  | 0, o, cs, hl, _ => ⟨[], rfl, by simp, by rw [List.drop_eq_nil_iff.2 (by omega)]; simp [RepL], rfl⟩
  | m + 1, o, cs, hl, h => by
    obtain ⟨ds, hds⟩ := h 0 (by omega)
    rw [Nat.zero_mul, Nat.add_zero] at hds
    have e0 : o + (m + 1) * P.cellsOf u = o + P.cellsOf u + m * P.cellsOf u := by rw [Nat.add_mul]; omega
    obtain ⟨dss, hl', hs, hr, hc⟩ := conv_arr m (o + P.cellsOf u) cs (by rw [hl, e0]) fun i hi => by
      have := h (i + 1) (by omega)
      rwa [show o + (i + 1) * P.cellsOf u = o + P.cellsOf u + i * P.cellsOf u by rw [Nat.add_mul]; omega] at this
    refine ⟨ds :: dss, by simp [hl'], ?_, ?_, ?_⟩
    · intro x hx
      rcases List.mem_cons.1 hx with rfl | hx
      · exact hds.shp
      · exact hs x hx
    · have e1 : cs.drop o = (cs.drop o).take (P.cellsOf u) ++ cs.drop (o + P.cellsOf u) := by
        rw [← List.drop_drop, List.take_append_drop]
      rw [e1, List.flatten_cons]
      exact all2_repL.2 (All2.append (all2_repL.1 hds.rep) (all2_repL.1 hr))
    · rw [List.flatten_cons, List.all_append, hds.cell, hc]; rfl

theorem conv {H : Type} {enc : TypeId × Value → H} (hT : TyOK P T) : ∀ (n t fuel : Nat) (cs : List Value) (x : DataW H × List MemPlace), plainT T n t = true → DataW.trod enc P w 0 (fun _ => true) true fuel t cs = some x → ∃ ds, Conv T w n t cs ds
  | 0, _, _, _, _, h, _ => by simp [plainT] at h
  | n + 1, t, fuel, cs, x, h, hx => by
    unfold plainT at h
    split at h
    case h_2 => cases h
    case h_1 e he =>
    have hk := (hT t e he).kind
    have hcells := (hT t e he).cells
    split at h
    case h_1 k hk' =>
      rw [hk'] at hk
      obtain ⟨m, rfl, _, hwf⟩ := DataW.trod_int hk hx
      exact ⟨[.int k m], by simp only [Shp, he, hk']; exact ⟨m, rfl, hwf⟩, by simp [RepL, Rep], rfl⟩
    case h_2 hk' =>
      rw [hk'] at hk
      obtain ⟨b, rfl, _⟩ := DataW.trod_bool hk hx
      exact ⟨[.bool b], by simp only [Shp, he, hk']; exact ⟨b, rfl⟩, by simp [RepL, Rep], rfl⟩
    case h_3 hk' =>
      rw [hk'] at hk
      obtain ⟨s, rfl, _, hs⟩ := DataW.trod_string hk hx
      exact ⟨[.str s.data.toList], by simp only [Shp, he, hk']; exact ⟨_, rfl, by simpa using hs⟩, by simp [RepL, Rep], rfl⟩
    case h_4 u hk' =>
      rw [hk'] at hk
      simp only [Bool.and_eq_true] at h
      obtain ⟨⟨h1, h2⟩, h3⟩ := h
      obtain ⟨eu, heu⟩ := Option.isSome_iff_exists.1 h1
      have hsu := (hT u eu heu).cells
      have hsz : szT T u = eu.size := by simp [szT, heu]
      rcases Deep.open_slice hk hx with ⟨rfl, _⟩ | ⟨a, len, cap, m, f, Da, Pl, rfl, _, hlc, hcm, hm, _, hel⟩
      · exact ⟨[.sl 0 (szT T u) []], by simp only [Shp, he, hk']; exact ⟨[], rfl, by simp, by simp⟩, by simp [RepL, Rep], rfl⟩
      · obtain ⟨xs, hl, hs, hr⟩ := conv_row hT heu a len 0 (n := n) fun i hi => by
          obtain ⟨cs', hc', ht'⟩ := hel i (by rw [hm]; simp; omega)
          obtain ⟨ds, hds⟩ := conv hT n u f cs' _ h3 ht'
          exact ⟨ds, cs', by rw [Nat.zero_add, ← hsu]; exact hc', hds⟩
        refine ⟨[.sl 0 (szT T u) (xs.map (wholeT T u))], ?_, ?_, rfl⟩
        · simp only [Shp, he, hk']; exact ⟨xs, rfl, by omega, hs⟩
        · rw [hsz]
          refine ⟨_, _, rfl, ⟨rfl, Or.inr ⟨a, cap, ?_, ?_, hr⟩⟩, rfl⟩
          · simp [hl]
          · simp [hl]; omega
    case h_5 fs hk' =>
      rw [hk'] at hk
      simp only [Bool.and_eq_true] at h
      obtain ⟨h1, h2⟩ := h
      obtain ⟨Fs, hu, hfs, _⟩ := hk
      obtain ⟨xs, f, _, _, hlen, hxl, hel⟩ := DataW.trod_struct hu hx
      obtain ⟨dss, ha, hr, hc⟩ := conv_parts (w := w) (n := n) hT fs 0 e.size cs h1 (by rw [hlen, hcells]) fun g hg => by
        rw [← hfs] at hg
        obtain ⟨F, hF, rfl⟩ := List.mem_map.1 hg
        obtain ⟨i, hi⟩ := List.getElem?_of_mem hF
        have hi' : Fs[i]? = some F := by rw [← Array.getElem?_toList]; exact hi
        have hlt : i < xs.length := by rw [hxl]; exact (Array.getElem?_eq_some_iff.1 hi').1
        have := hel i F hi'
        rw [List.getElem?_eq_getElem hlt] at this
        exact conv hT n F.type f _ _ (List.all_eq_true.1 h2 (F.offset, F.type) (by rw [← hfs]; exact List.mem_map.2 ⟨F, hF, rfl⟩)) this
      exact ⟨dss.flatten, by simp only [Shp, he, hk']; exact ⟨dss, rfl, ha⟩, by simpa using hr, hc⟩
    case h_6 m u hk' =>
      rw [hk'] at hk
      simp only [Bool.and_eq_true] at h
      obtain ⟨⟨h1, h2⟩, h3⟩ := h
      obtain ⟨eu, heu⟩ := Option.isSome_iff_exists.1 h1
      have hsu := (hT u eu heu).cells
      have hsz : szT T u = eu.size := by simp [szT, heu]
      have h2' := Nat.eq_of_beq_eq_true h2
      obtain ⟨xs, f, _, _, hlen, hxl, hel⟩ := DataW.trod_array hk hx
      obtain ⟨dss, hl, hs, hr, hc⟩ := conv_arr (P := P) (T := T) (w := w) (n := n) (u := u) m 0 cs (by rw [hlen, hcells, ← h2', hsu, hsz]; omega) fun i hi => by
        have hlt : i < xs.length := by rw [hxl]; exact hi
        have := hel i hi
        rw [List.getElem?_eq_getElem hlt] at this
        rw [Nat.zero_add]
        exact conv hT n u f _ _ h3 this
      exact ⟨dss.flatten, by simp only [Shp, he, hk']; exact ⟨dss, rfl, hl, hs⟩, by simpa using hr, hc⟩
    case h_7 => cases h
end
end Go.Proofs.Ytndijidmabfhcaa.Fw
