/- Texts M, N, O, P, Q, R, S, T, UM of the proof, in one. -/
import Derived.RangeFuncNested
import Derived.RangeFuncLeaves
import Derived.OrdersIn
import Derived.Test.YtndijidmabfhcaaFwC10k1
set_option linter.unusedSimpArgs false
set_option linter.unusedVariables false
set_option linter.unusedSectionVars false

/- Operations that make memory. -/
namespace Go.Proofs.Ytndijidmabfhcaa.Fw
open Go Go.RowKit

section
variable {P : Program} {T : Ty} {c : Ctx} {env : Env} {a : Act} {w : World}

/-- A new row that changes no more. -/
theorem St.newRow (h : St c env a w) (vs : List Value) (e : TypeId) : ∃ c', c.Next c' ∧ St c' env a (w.alloc (.cells ⟨vs⟩ e)) ∧ Step c env w c' env (w.alloc (.cells ⟨vs⟩ e)) ∧ ∀ o, o < vs.length → c'.I w.heap.size o := by
  have h1 := h.alloc (.cells ⟨vs⟩ e)
  have S1 := Step.allocSt h (.cells ⟨vs⟩ e)
  have S2 : Step c env (w.alloc (.cells ⟨vs⟩ e)) { c with I := fun b o => c.I b o ∨ (b = w.heap.size ∧ o < vs.length) } env (w.alloc (.cells ⟨vs⟩ e)) :=
    ⟨⟨fun _ _ h => .inl h, fun _ _ _ h => h, fun _ _ _ _ h => h⟩, fun _ h => ⟨h, rfl⟩, fun _ h => ⟨h, rfl⟩, fun _ _ h => h, fun _ h => h, fun st hl _ => ⟨rfl, fun g hg => ⟨rfl, fun o ho => ho.resolve_right fun e => by have := (h.ownAbove st g hl hg).2.1; omega⟩⟩⟩
  refine ⟨{ c with I := fun b o => c.I b o ∨ (b = w.heap.size ∧ o < vs.length) }, ⟨rfl, rfl, rfl⟩, ?_, S1.trans S2, fun o ho => .inr ⟨rfl, ho⟩⟩
  refine ⟨h1.nt, h1.df, fun t d hd => S2.repT (h1.tm t d hd), fun t d hd => (h1.wt t d hd).step S2, fun s b hs => (h1.bx s b hs).step S2 rfl rfl (fun o ho => ho.resolve_right fun e => ?_), fun s m hs => (h1.mp s m hs).step S2 rfl rfl (fun o ho => ho.resolve_right fun e => ?_), h1.inj, h1.above, h1.lt, h1.ownInj, h1.ownAbove, ?_, h1.im0.trans S2.keeps, ?_, h1.base, h1.gh⟩
  · have := h.lt s (.inl (by rw [hs]; rfl)); omega
  · have := h.lt s (.inr (by rw [hs]; rfl)); omega
  · rintro b o (hi | ⟨rfl, _⟩)
    · exact h1.im _ _ hi
    · simp
  · rintro b o (hi | ⟨rfl, _⟩)
    · exact h1.imNew _ _ hi
    · exact .inr h.base.size

theorem repCs_of {I : Im} {g : Nat} : ∀ {ds : List D} {o j : Nat}, (∀ (i : Nat) x, ds[i]? = some x → x.isCell = true ∧ I g (o + (j + i)) ∧ ∃ u, w.cell? ⟨g, o + (j + i), none⟩ = some u ∧ Rep I w x u) → RepCs I w ds ⟨g, o, none⟩ j
  | [], _, _, _ => by simp only [RepCs]
  | d :: ds, o, j, h => by
    simp only [RepCs]
    have h0 := h 0 d rfl
    refine ⟨?_, repCs_of fun i x hx => by have := h (i + 1) x (by simpa using hx); rw [show j + (i + 1) = j + 1 + i from by omega] at this; exact this⟩
    rw [addr_add_mk]; exact h0

theorem repRow_chunk {I : Im} {e : TE} (h1 : e.isAgg = false → e.size = 1) {g : Nat} : ∀ (n i : Nat) (cs : List D), cs.length = n * e.size → (∀ (j : Nat) x, cs[j]? = some x → x.isCell = true ∧ I g (i * e.size + j) ∧ ∃ u, w.cell? ⟨g, i * e.size + j, none⟩ = some u ∧ Rep I w x u) → RepRow I w e.size (chunk e n cs) ⟨g, 0, none⟩ i
  | 0, _, _, _, _ => by simp only [chunk, RepRow]
  | n + 1, i, cs, hl, h => by
    rw [chunk, repRow_cons]
    have hl' : cs.length = n * e.size + e.size := by rw [hl, Nat.add_mul]; omega
    refine ⟨?_, repRow_chunk h1 n (i + 1) _ (by simp; omega) fun j x hx => ?_⟩
    · rw [addr_add_mk, Nat.zero_add]
      cases hag : e.isAgg with
      | true =>
        rw [cond_true]
        refine ⟨by simp [D.cells]; omega, ?_⟩
        simp only [RepAt]
        refine repCs_of fun j x hx => ?_
        rw [Nat.zero_add]
        refine h j x ?_
        rw [List.getElem?_take] at hx
        split at hx
        · exact hx
        · cases hx
      | false =>
        rw [cond_false]
        have hs := h1 hag
        have : cs[0]? = some (cs.headD .undef) := by cases cs <;> first | (simp at hl'; omega) | rfl
        have h0 := h 0 _ this
        cases hd : cs.headD .undef <;> rw [hd] at h0 <;> first | (cases h0.1; done) | exact ⟨by simp [D.cells, hs], h0⟩
    · have := h (e.size + j) x (by rw [List.getElem?_drop] at hx; exact hx)
      rw [show (i + 1) * e.size + j = i * e.size + (e.size + j) from by rw [Nat.add_mul]; omega]; exact this

theorem flatten_replicate_get {α : Type} (l : List α) : ∀ (n k : Nat), k < n * l.length → ((List.replicate n l).flatten)[k]? = l[k % l.length]?
  | 0, k, h => by simp at h
  | n + 1, k, h => by
    rw [List.replicate_succ, List.flatten_cons]
    by_cases hk : k < l.length
    · rw [List.getElem?_append_left hk, Nat.mod_eq_of_lt hk]
    · rw [List.getElem?_append_right (by omega), flatten_replicate_get l n (k - l.length) (by rw [Nat.add_mul] at h; omega)]
      congr 1
      exact (Nat.mod_eq_sub_mod (by omega)).symm

theorem repC_rep_cells {ds : List D} {vs : List Value} (h : All2 (Rep c.I w) ds vs) (hc : ds.all D.isCell = true) (i : Nat) (x : D) (hx : ds[i]? = some x) : x.isCell = true ∧ ∃ u, vs[i]? = some u ∧ Rep c.I w x u :=
  ⟨List.all_eq_true.1 hc x (List.mem_of_getElem? hx), h.get i x hx⟩

theorem chunk_length (e : TE) : ∀ (n : Nat) (cs : List D), (chunk e n cs).length = n
  | 0, _ => rfl
  | n + 1, cs => by simp [chunk, chunk_length e n]

/-- The row of a slice literal. -/
theorem run_buildSlice (hT : TyOK P T) {t u n : Nat} {eu : TE} (ht : P.underlying t = some (.slice u)) (hu : T u = some eu) (hn : n * eu.size ≤ 16777216) (_ : eu.size ≠ 0) {ps : List (Nat × D)} {qs : List (Nat × Value)} (hp : RepP c env w ps qs) {cs : List D}
    (hb : buildCells (fun i => some (i * eu.size, eu.size)) ((List.replicate n eu.zero.cells).flatten) ps = some cs) :
    ∃ vs : List Value, All2 (RepC c env w) cs vs ∧ vs.length = n * eu.size ∧ (Instr.buildSlice t n ⟨qs⟩).run P w = .ok (.slice (some ⟨w.heap.size, 0, none⟩) n n) (w.alloc (.cells ⟨vs⟩ u)) := by
  obtain ⟨z, zs, hz, hzc, hzl, hzl2, hzr⟩ := zero_spec (hT u eu hu)
  obtain ⟨zs', hzc', hz2⟩ := repV_cells (hzr c env w)
  rw [hzc] at hzc'
  obtain rfl : zs = zs' := by injection hzc'
  have h0 : All2 (RepC c env w) ((List.replicate n eu.zero.cells).flatten) ((List.range (n * eu.size)).map fun k => zs.getD (k % eu.size) default) := by
    have hl : ((List.replicate n eu.zero.cells).flatten).length = n * eu.size := by simp [hzl2]
    refine all2_iff.2 ⟨by simp [hzl2], fun i x y hx hy => ?_⟩
    have hi : i < n * eu.size := by have := (List.getElem?_eq_some_iff.1 hx).1; omega
    rw [flatten_replicate_get _ _ _ (by rw [hzl2]; exact hi), hzl2] at hx
    rw [List.getElem?_map, List.getElem?_range hi] at hy
    simp only [Option.map_some, Option.some.injEq] at hy
    obtain ⟨v, hv, hr⟩ := hz2.get _ x hx
    subst hy
    simpa [List.getD_eq_getElem?_getD, hv] using hr
  obtain ⟨us, hus, hr⟩ := fill_rep (place := fun i => some (i * eu.size, eu.size)) (fun i o m hi => hi) ps qs _ _ cs hp h0 hb
  have hlen : us.length = n * eu.size := by
    rw [← hr.length]
    have : ∀ (ps : List (Nat × D)) (cs r : List D), buildCells (fun i => some (i * eu.size, eu.size)) cs ps = some r → r.length = cs.length := by
      intro ps
      induction ps with
      | nil => intro cs r h; simp only [buildCells, Option.some.injEq] at h; rw [h]
      | cons p ps ih =>
        intro cs r h
        obtain ⟨i, d⟩ := p
        simp only [buildCells] at h
        cases hb : (Nat.beq d.cells.length eu.size && Nat.ble (i * eu.size + eu.size) cs.length) with
        | false => rw [hb] at h; cases h
        | true =>
          rw [hb, cond_true] at h
          simp only [Bool.and_eq_true, nbeq, Nat.ble_eq] at hb
          rw [ih _ _ h, splice_length _ _ _ (by omega)]
    rw [this _ _ _ hb]; simp [hzl2]
  refine ⟨us, hr, hlen, ?_⟩
  unfold Instr.buildSlice
  simp only [Sem.run_bind, run_underlying ht, Result.andThen_ok, (hT u eu hu).size]
  rw [if_neg (by omega)]
  have hrow : ∀ w', (newRow u ⟨us⟩).run P w' = .ok ⟨w'.heap.size, 0, none⟩ (w'.alloc (.cells ⟨us⟩ u)) := fun w' => by simp [newRow]
  have hget : ∀ k, (⟨zs⟩ : Array Value)[k]! = zs.getD k default := fun k => by
    rw [getElem!_def, List.getD_eq_getElem?_getD]
    have : (⟨zs⟩ : Array Value)[k]? = zs[k]? := by simp
    rw [this]
    cases zs[k]? <;> rfl
  have hsz : (⟨zs⟩ : Array Value).size = eu.size := hzl
  have harr : ((Array.range (n * eu.size)).map fun x => (⟨zs⟩ : Array Value)[x % (⟨zs⟩ : Array Value).size]!) = ⟨(List.range (n * eu.size)).map fun k => zs.getD (k % eu.size) default⟩ := by
    apply Array.ext'
    rw [Array.toList_map, Array.toList_range]
    simp only [hget, hsz]
  by_cases hn0 : n * eu.size = 0
  · rw [if_pos hn0]
    simp only [Sem.run_pure, Sem.run_bind, Result.andThen_ok]
    have : ((Array.range (n * eu.size)).map fun x => (#[] : Array Value)[x % (#[] : Array Value).size]!) = ⟨(List.range (n * eu.size)).map fun k => zs.getD (k % eu.size) default⟩ := by
      rw [hn0]; simp
    rw [this, hus]
    simp only [Sem.run_bind, hrow, Result.andThen_ok, Sem.run_pure]
  · rw [if_neg hn0]
    simp only [Sem.run_bind, hz, Result.andThen_ok, Sem.run_pure, hzc]
    rw [harr, hus]
    simp only [Sem.run_bind, hrow, Result.andThen_ok, Sem.run_pure]

/-- The state behind an operation that yields d. -/
def After (P : Program) (c : Ctx) (_env env' : Env) (a : Act) (w : World) (d : D) (s : Sem Value) : Prop :=
  ∃ v w' c', s.run P w = .ok v w' ∧ c.Next c' ∧ St c' env' a w' ∧ RepT c' env' w' d v

theorem Yield.after (h : St c env a w) {d : D} {s : Sem Value} (y : Yield P c env w d s) : After P c env env a w d s :=
  let ⟨v, h1, h2⟩ := y; ⟨v, w, c, h1, .refl c, h, h2⟩

theorem after_alloc (h : St c env a w) {t dst : Nat} {e : TE} (he : TEok P t e) (hb : look dst env.bx = none) (hm : look dst env.mp = none) :
    After P c env { env with bx := (dst, ⟨e.zero.cells, e.isAgg, false⟩) :: env.bx } a w (.loc dst 0) (Instr.alloc t true (.tuple #[])) := by
  obtain ⟨z, zs, hz, hzc, hzl, _, hzr⟩ := zero_spec he
  obtain ⟨zs', hzc', hz2⟩ := repV_cells (hzr c env w)
  rw [hzc] at hzc'
  obtain rfl : zs = zs' := by injection hzc'
  obtain ⟨h1, h2⟩ := h.newBox e.isAgg t hb hm hz2
  refine ⟨_, _, { c with ρ := fun s => if s = dst then w.heap.size else c.ρ s }, ?_, ⟨rfl, rfl, rfl⟩, h1, h2⟩
  simp [Instr.alloc, hz, newVar, newRow, hzc]

theorem after_box (h : St c env a w) {t dst : Nat} {e : TE} {d : D} {v : Value} (hd : RepV c env w d v) (hb : look dst env.bx = none) (hm : look dst env.mp = none) :
    After P c env { env with bx := (dst, ⟨d.cells, e.isAgg, false⟩) :: env.bx } a w (.loc dst 0) (Instr.box t v) := by
  obtain ⟨zs, hzc, hz2⟩ := repV_cells hd
  obtain ⟨h1, h2⟩ := h.newBox e.isAgg t hb hm hz2
  refine ⟨_, _, { c with ρ := fun s => if s = dst then w.heap.size else c.ρ s }, ?_, ⟨rfl, rfl, rfl⟩, h1, h2⟩
  simp [Instr.box, newVar, newRow, hzc]

/-- A slice literal that changes no more. -/
theorem after_buildSlice (hT : TyOK P T) (h : St c env a w) {t u n : Nat} {eu : TE} (ht : P.underlying t = some (.slice u)) (hu : T u = some eu) (hn : n * eu.size ≤ 16777216) (hs : eu.size ≠ 0) {ps : List (Nat × D)} {qs : List (Nat × Value)} (hp : RepP c env w ps qs) {cs cs' : List D}
    (hb : buildCells (fun i => some (i * eu.size, eu.size)) ((List.replicate n eu.zero.cells).flatten) ps = some cs) (hc : cloL env.mp cs = some cs') {mp : List (Nat × MapC)} (hf : frzM env.mp (cloM (.agg cs)) = some mp) :
    After P c env { env with mp } a w (.sl 1 eu.size (chunk eu n cs')) (Instr.buildSlice t n ⟨qs⟩) := by
  obtain ⟨vs, hv, hvl, hrun⟩ := run_buildSlice hT ht hu hn hs hp hb
  obtain ⟨c1, n1, h1, S1, hm1⟩ := h.frzM hf
  obtain ⟨c2, n2, h2, S2, hI⟩ := h1.newRow vs u
  have hcl := clo_cells h1 (hv.mono fun _ _ => S1.repC) hc (fun s hs m hl => by
    obtain ⟨m', g1, g2, g3, g4⟩ := hm1 s m hl
    exact ⟨m', g1, g2, g3, g4 (.inr (mem_cloM_agg hs))⟩)
  refine ⟨_, _, c2, hrun, n1.trans n2, h2, ⟨⟨rfl, .inr ⟨⟨w.heap.size, 0, none⟩, n, by rw [chunk_length], by rw [chunk_length]; exact Nat.le_refl n, ?_⟩⟩, .inr (.inl ⟨rfl, some ⟨w.heap.size, 0, none⟩, by rw [chunk_length]⟩)⟩⟩
  have hl : cs'.length = n * eu.size := by rw [hcl.1.length, hvl]
  refine repRow_chunk (hT u eu hu).one n 0 cs' hl fun j x hx => ?_
  obtain ⟨v, hv', hr⟩ := hcl.1.get j x hx
  have hj : j < vs.length := (List.getElem?_eq_some_iff.1 hv').1
  rw [Nat.zero_mul, Nat.zero_add]
  refine ⟨List.all_eq_true.1 hcl.2 x (List.mem_of_getElem? hx), hI j hj, v, ?_, Rep.keeps S2.keeps _ _ hr⟩
  rw [cell_of_row _ w.heap.size j ⟨vs⟩ u (0, 0) (heap_alloc_new w _)]
  simpa using hv'

/-- One that is a local array. -/
theorem after_buildLocal (hT : TyOK P T) (h : St c env a w) {t u n dst : Nat} {eu : TE} (ht : P.underlying t = some (.slice u)) (hu : T u = some eu) (hn : n * eu.size ≤ 16777216) (hs : eu.size ≠ 0) {ps : List (Nat × D)} {qs : List (Nat × Value)} (hp : RepP c env w ps qs) {cs : List D}
    (hb : buildCells (fun i => some (i * eu.size, eu.size)) ((List.replicate n eu.zero.cells).flatten) ps = some cs) (hbx : look dst env.bx = none) (hm : look dst env.mp = none) :
    After P c env { env with bx := (dst, ⟨cs, true, false⟩) :: env.bx } a w (.lsl dst 0 n) (Instr.buildSlice t n ⟨qs⟩) := by
  obtain ⟨vs, hv, hvl, hrun⟩ := run_buildSlice hT ht hu hn hs hp hb
  obtain ⟨h1, h2⟩ := h.newBox true u hbx hm hv
  exact ⟨_, _, { c with ρ := fun s => if s = dst then w.heap.size else c.ρ s }, hrun, ⟨rfl, rfl, rfl⟩, h1, h2.1, n, by simp, Nat.le_refl n⟩

theorem after_makeMap (h : St c env a w) {t dst : Nat} (hb : look dst env.bx = none) (hm : look dst env.mp = none) :
    After P c env { env with mp := (dst, ⟨[], [], false⟩) :: env.mp } a w (.mapr dst) (Instr.makeMap t none) := by
  have hh : ∀ k, k < w.heap.size → (w.alloc (.map #[] 0)).heap[k]? = w.heap[k]? := fun k hk => Below.heap_alloc w _ k hk
  have hne : ∀ s, (look s env.bx).isSome = true ∨ (look s env.mp).isSome = true → s ≠ dst := by
    rintro s hs rfl; rcases hs with hs | hs
    · rw [hb] at hs; cases hs
    · rw [hm] at hs; cases hs
  have hblk : ∀ s, Env.blk { env with mp := (dst, ⟨[], [], false⟩) :: env.mp } s → s = dst ∨ env.blk s := by
    intro s hs
    unfold Env.blk at hs ⊢
    simp only [look_cons] at hs
    by_cases e : dst = s
    · exact .inl e.symm
    · rw [if_neg e] at hs; exact .inr hs
  have S : Step c env w { c with ρ := fun s => if s = dst then w.heap.size else c.ρ s } { env with mp := (dst, ⟨[], [], false⟩) :: env.mp } (w.alloc (.map #[] 0)) := by
    have S1 := Step.allocSt h (.map #[] 0)
    refine ⟨S1.keeps, fun s hs => ⟨hs, by simp [hne s (.inl hs)]⟩, fun s hs => ⟨?_, by simp [hne s (.inr hs)]⟩, S1.us, S1.dd, S1.own⟩
    simp only [look_cons]; split
    · rfl
    · exact hs
  have hrep : RepT { c with ρ := fun s => if s = dst then w.heap.size else c.ρ s } { env with mp := (dst, ⟨[], [], false⟩) :: env.mp } (w.alloc (.map #[] 0)) (.mapr dst) (.map (some w.heap.size)) := by
    show RepC { c with ρ := fun s => if s = dst then w.heap.size else c.ρ s } { env with mp := (dst, ⟨[], [], false⟩) :: env.mp } (w.alloc (.map #[] 0)) (.mapr dst) _
    exact ⟨by simp [look_cons], by simp⟩
  refine ⟨.map (some w.heap.size), w.alloc (.map #[] 0), { c with ρ := fun s => if s = dst then w.heap.size else c.ρ s }, by simp [Instr.makeMap], ⟨rfl, rfl, rfl⟩, ?_, hrep⟩
  refine ⟨h.nt, h.df, fun t d hd => S.repT (h.tm t d hd), fun t d hd => (h.wt t d hd).step S, ?_, ?_, ?_, ?_, ?_, h.ownInj, ?_, ?_, h.im0.trans S.keeps, h.imNew, h.base.alloc h.base.size _, h.gh.1, S.fix h.gh.2⟩
  · intro s b hs
    have hlt := h.lt s (.inl (by rw [hs]; rfl))
    exact (h.bx s b hs).step S (by simp [hne s (.inl (by rw [hs]; rfl))]) (hh _ hlt) (fun _ x => x)
  · intro s m hs
    simp only [look_cons] at hs
    split at hs
    · rename_i e'; subst e'; cases hs
      refine ⟨#[], 0, by simp only [if_true]; exact heap_alloc_new w _, by simp [RepL], by simp [RepL], rfl, (fun hf => by cases hf), fun _ o ho => ?_⟩
      have ho : c.I (if dst = dst then w.heap.size else c.ρ dst) o := ho
      rw [if_pos rfl] at ho; exact Nat.lt_irrefl _ (h.im _ _ ho)
    · have hlt := h.lt s (.inr (by rw [hs]; rfl))
      exact (h.mp s m hs).step S (by simp [hne s (.inr (by rw [hs]; rfl))]) (hh _ hlt) (fun _ x => x)
  · intro s s' hs hs' e'
    rcases hblk s hs with rfl | h1 <;> rcases hblk s' hs' with rfl | h2
    · rfl
    · simp only [if_true, if_neg (hne s' h2)] at e'; have := h.lt s' h2; omega
    · simp only [if_true, if_neg (hne s h1)] at e'; have := h.lt s h1; omega
    · simp only [if_neg (hne s h1), if_neg (hne s' h2)] at e'; exact h.inj s s' h1 h2 e'
  · intro s hs
    rcases hblk s hs with rfl | h1
    · simp only [if_true]; exact h.base.size
    · simp only [if_neg (hne s h1)]; exact h.above s h1
  · intro s hs
    rcases hblk s hs with rfl | h1
    · simp
    · simp only [if_neg (hne s h1)]; exact Nat.lt_trans (h.lt s h1) (by simp)
  · intro st g hl hg
    obtain ⟨h1, h2, h3⟩ := h.ownAbove st g hl hg
    refine ⟨h1, Nat.lt_trans h2 (by simp), fun s hs => ?_⟩
    rcases hblk s hs with rfl | h1
    · simp only [if_true]; omega
    · simp only [if_neg (hne s h1)]; exact h3 s h1
  · intro b o hi; exact Nat.lt_trans (h.im b o hi) (by simp)

theorem after_iface (h : St c env a w) {t : Nat} {d : TypeDesc} (ht : P.underlying t = some d) (hd : ∀ ms, d ≠ .interface ms) {x x' : D} {v : Value} (hx : RepT c env w x v) (hc : clo env.mp x = some x') {mp : List (Nat × MapC)} (hf : frzM env.mp (cloM x) = some mp) :
    After P c env { env with mp } a w (.ifc t x') (Instr.makeInterface t v) := by
  obtain ⟨c1, n1, h1, S1, hm1⟩ := h.frzM hf
  have hxv : RepV c env w x v := by
    cases x <;> first | exact hx | (simp only [clo] at hc; cases hc)
  obtain ⟨g1, g2⟩ := clo_val h1 (S1.repV hxv) hc (fun s hs m hl => by
    obtain ⟨m', g1, g2, g3, g4⟩ := hm1 s m hl
    exact ⟨m', g1, g2, g3, g4 (.inr hs)⟩)
  refine ⟨.iface t v, w, c1, ?_, n1, h1, ?_⟩
  · simp only [Instr.makeInterface, Sem.run_bind, run_underlying ht, Result.andThen_ok]
    cases d <;> first | rfl | exact absurd rfl (hd _)
  · show RepC c1 { env with mp } w (.ifc t x') _
    simp only [RepC, Rep]
    exact ⟨v, rfl, g1⟩
end

end Go.Proofs.Ytndijidmabfhcaa.Fw

/- Appending. -/
namespace Go.Proofs.Ytndijidmabfhcaa.Fw
open Go Go.RowKit

theorem rep_oneCell {I : Im} {w : World} {d : D} {v : Value} (hc : d.isCell = true) (h : Rep I w d v) : v.oneCell' = true :=
  repC_one (c := ⟨fun _ => 0, fun _ => none, I, .plain w, I, []⟩) (env := ⟨0, [], [], [], [], [], [], none⟩) (w := w) (rep_repC hc h)

theorem repCs_move {I I' : Im} {w w' : World} (K : Keeps I I' w w') : ∀ {cs : List D} {a b : Addr} {j j' : Nat}, RepCs I w cs a j → (∀ i u, i < cs.length → w.cell? (a.add (j + i)) = some u → w'.cell? (b.add (j' + i)) = some u ∧ I' (b.add (j' + i)).block (b.add (j' + i)).off) → RepCs I' w' cs b j'
  | [], _, _, _, _, _, _ => by simp only [RepCs]
  | d :: ds, a, b, j, j', h, hm => by
    simp only [RepCs] at h ⊢
    obtain ⟨⟨hc, hi, u, hu, hr⟩, h2⟩ := h
    have h0 := hm 0 u (by simp) hu
    refine ⟨⟨hc, h0.2, u, h0.1, Rep.keeps K d u hr⟩, repCs_move K h2 fun i u hi hu => ?_⟩
    have := hm (i + 1) u (by simp; omega) (by rw [show j + (i + 1) = j + 1 + i from by omega]; exact hu)
    rw [show j' + 1 + i = j' + (i + 1) from by omega]; exact this

theorem repRow_move {I I' : Im} {w w' : World} (K : Keeps I I' w w') {es : Nat} : ∀ {xs : List D} {a b : Addr} {i i' : Nat}, RepRow I w es xs a i → (∀ j u, j < xs.length * es → w.cell? (a.add (i * es + j)) = some u → w'.cell? (b.add (i' * es + j)) = some u ∧ I' (b.add (i' * es + j)).block (b.add (i' * es + j)).off) → RepRow I' w' es xs b i'
  | [], _, _, _, _, _, _ => by simp only [RepRow]
  | d :: ds, a, b, i, i', h, hm => by
    rw [repRow_cons] at h ⊢
    obtain ⟨⟨hl, hat⟩, h2⟩ := h
    have hlen : (d :: ds).length * es = ds.length * es + es := by rw [List.length_cons, Nat.add_mul]; omega
    have hi1 : (i + 1) * es = i * es + es := by rw [Nat.add_mul]; omega
    have hi2 : (i' + 1) * es = i' * es + es := by rw [Nat.add_mul]; omega
    refine ⟨⟨hl, ?_⟩, repRow_move K h2 fun j u hj hu => ?_⟩
    · cases d with
      | agg cs =>
        simp only [D.cells] at hl
        refine repCs_move K hat fun k u hk hu => ?_
        rw [add_add', Nat.zero_add] at hu ⊢
        exact hm k u (by omega) hu
      | _ =>
        obtain ⟨hc, hi, u, hu, hr⟩ := hat
        simp only [D.cells, List.length_singleton] at hl
        have h0 := hm 0 u (by omega) hu
        exact ⟨hc, h0.2, u, h0.1, Rep.keeps K _ u hr⟩
    · have := hm (es + j) u (by omega) (by rw [show i * es + (es + j) = (i + 1) * es + j from by omega]; exact hu)
      rw [show (i' + 1) * es + j = i' * es + (es + j) from by omega]; exact this

theorem repRow_append {I : Im} {w : World} {es : Nat} : ∀ {xs ys : List D} {a : Addr} {i : Nat}, RepRow I w es xs a i → RepRow I w es ys a (i + xs.length) → RepRow I w es (xs ++ ys) a i
  | [], _, _, _, _, h => h
  | d :: ds, ys, a, i, h, k => by
    rw [repRow_cons] at h
    rw [List.cons_append, repRow_cons]
    exact ⟨h.1, repRow_append h.2 (by rw [show i + 1 + ds.length = i + (d :: ds).length from by simp; omega]; exact k)⟩

theorem repCs_cell {I : Im} {w : World} : ∀ {cs : List D} {a : Addr} {j : Nat}, RepCs I w cs a j → ∀ i, i < cs.length → ∃ u, w.cell? (a.add (j + i)) = some u ∧ u.oneCell' = true ∧ I (a.add (j + i)).block (a.add (j + i)).off
  | [], _, _, _, i, h => by simp at h
  | d :: ds, a, j, h, 0, _ => by
    simp only [RepCs] at h
    obtain ⟨⟨hc, hi, u, hu, hr⟩, _⟩ := h
    exact ⟨u, hu, rep_oneCell hc hr, hi⟩
  | d :: ds, a, j, h, i + 1, hi => by
    simp only [RepCs] at h
    have := repCs_cell h.2 i (by simpa using hi)
    rw [show j + (i + 1) = j + 1 + i from by omega]; exact this

theorem repRow_cell {I : Im} {w : World} {es : Nat} : ∀ {xs : List D} {a : Addr} {i : Nat}, RepRow I w es xs a i → ∀ j, j < xs.length * es → ∃ u, w.cell? (a.add (i * es + j)) = some u ∧ u.oneCell' = true ∧ I (a.add (i * es + j)).block (a.add (i * es + j)).off
  | [], _, _, _, j, h => by simp at h
  | d :: ds, a, i, h, j, hj => by
    rw [repRow_cons] at h
    obtain ⟨⟨hl, hat⟩, h2⟩ := h
    have hlen : (d :: ds).length * es = ds.length * es + es := by rw [List.length_cons, Nat.add_mul]; omega
    have hi1 : (i + 1) * es = i * es + es := by rw [Nat.add_mul]; omega
    by_cases hje : j < es
    · cases d with
      | agg cs =>
        simp only [D.cells] at hl
        have := repCs_cell hat j (by omega)
        rw [add_add', Nat.zero_add] at this
        exact this
      | _ =>
        obtain ⟨hc, hi, u, hu, hr⟩ := hat
        simp only [D.cells, List.length_singleton] at hl
        obtain rfl : j = 0 := by omega
        exact ⟨u, hu, rep_oneCell hc hr, hi⟩
    · have := repRow_cell h2 (j - es) (by omega)
      rw [show (i + 1) * es + (j - es) = i * es + j from by omega] at this
      exact this

section
variable {P : Program} {w : World}

theorem run_append_fw {t ty e : TypeId} {i : TypeInfo} {z : Value} (ht : P.underlying t = some (.slice e)) (hi : P.info? e = some i) (hz : i.zero = some z) (hzs : z.cells.size = i.size)
    {v : Value} {n base : Nat} {xs : List Value} (hown : w.ownsRow base e i.size v n xs) {a : Addr} {m k : Nat} {news : List Value} (hl : news.length = m * i.size) (hnews : ∀ j u, news[j]? = some u → w.cell? (a.add j) = some u) (h1 : ∀ u ∈ news, u.oneCell' = true)
    (hm : 0 < m) (h63 : n + m ≤ maxLen) (hbytes : (n + m) * i.bytes ≤ 140737488355328) (hbase : base ≤ w.heap.size) :
    ∃ g cap cur w', (Builtin.append_ #[t, t] ty #[v, .slice (some a) m k]).run P w = .ok (.slice (some ⟨g, 0, none⟩) (n + m) cap) w' ∧ w'.heap[g]? = some (.cells cur e (0, 0)) ∧ n + m ≤ cap ∧ cap ≤ maxLen ∧ cur.size = cap * i.size ∧ cur.toList.take ((n + m) * i.size) = xs ++ news ∧
      Below base w w' ∧ base ≤ g ∧ (v.ownBlock = some g ∨ g = w.heap.size) ∧ (∀ k, k < w.heap.size → v.ownBlock ≠ some k ∨ g = w.heap.size → w'.heap[k]? = w.heap[k]?) := by
  have hlen : (xs ++ news).length = (n + m) * i.size := by rw [List.length_append, hown.1, hl, Nat.add_mul]
  have hsmall : n + m ≤ 9223372036854775807 := by simp only [maxLen] at h63; omega
  have grown : ∀ (old : Nat), (Builtin.append_ #[t, t] ty #[v, .slice (some a) m k]).run P w = .ok (.slice (some ⟨w.heap.size, 0, none⟩) (n + m) (grownCap w (n + m) old e)) (w.drew.alloc (.cells ((xs ++ news).toArray ++ Builtin.zeroCells z.cells (grownCap w (n + m) old e - (n + m))) e)) →
    ∃ g cap cur w', (Builtin.append_ #[t, t] ty #[v, .slice (some a) m k]).run P w = .ok (.slice (some ⟨g, 0, none⟩) (n + m) cap) w' ∧ w'.heap[g]? = some (.cells cur e (0, 0)) ∧ n + m ≤ cap ∧ cap ≤ maxLen ∧ cur.size = cap * i.size ∧ cur.toList.take ((n + m) * i.size) = xs ++ news ∧
      Below base w w' ∧ base ≤ g ∧ (v.ownBlock = some g ∨ g = w.heap.size) ∧ (∀ k, k < w.heap.size → v.ownBlock ≠ some k ∨ g = w.heap.size → w'.heap[k]? = w.heap[k]?) := by
    intro old hr
    have hge := grownCap_ge w (n + m) old e
    refine ⟨_, _, _, _, hr, heap_alloc_new w.drew _, hge, grownCap_le_maxLen w (n + m) old e h63, ?_, ?_, ?_, hbase, .inr rfl, fun k hk _ => Below.heap_alloc w.drew _ k hk⟩
    · rw [Array.size_append, List.size_toArray, size_zeroCells, hzs, hlen, ← Nat.add_mul]
      congr 1; omega
    · rw [Array.toList_append, ← hlen]
      exact List.take_left
    · exact ((Below.refl base w).drew).alloc hbase _
  rcases hown.2 with ⟨rfl, rfl⟩ | ⟨g, cap, cur, rfl, hbg, hg, hnc, hcm, hcs, htake⟩
  · have hx : xs = [] := List.eq_nil_of_length_eq_zero (by simpa using hown.1)
    subst hx
    refine grown 0 ?_
    have hr := run_append_nil (P := P) w t ty e i z ht hi hz a m k news hl hnews hm (by omega) (by simp only [Nat.zero_add] at hbytes; omega)
    simpa using hr
  · by_cases hroom : n + m ≤ cap
    · have hfit : n * i.size + news.length ≤ cur.size := by rw [hl, hcs, ← Nat.add_mul]; exact Nat.mul_le_mul_right _ hroom
      have hr := run_append_room (P := P) w t ty e i ht hi g n cap cur hg a m k news hl hnews h1 hroom hfit
      refine ⟨_, _, _, _, hr, setRow_heap w g cur _ e _ hg, hroom, hcm, ?_, ?_, ?_, hbg, .inl rfl, ?_⟩
      · simp only [List.size_toArray, List.length_append, List.length_take, List.length_drop, Array.length_toList]
        omega
      · rw [htake, ← hlen]
        exact List.take_left
      · exact ⟨rfl, rfl, rfl, by simp, fun k hk => setRow_other w g k _ (by omega)⟩
      · intro k hk hne
        have hlt := (Array.getElem?_eq_some_iff.1 hg).1
        refine setRow_other w g k _ fun e' => ?_
        subst e'
        rcases hne with hne | hne
        · exact hne rfl
        · omega
    · have holds : ∀ j u, xs[j]? = some u → w.cell? ((⟨g, 0, none⟩ : Addr).add j) = some u := hown.cells (g := g) rfl
      refine grown cap ?_
      have hr := run_append_grow (P := P) w t ty e i z ht hi hz ⟨g, 0, none⟩ n cap xs hown.1 holds a m k news hl hnews (by omega) (by omega) (growslice_fits (by omega) hbytes)
      simpa using hr

/-- Behind a row that has no room: always a new block. -/
theorem run_append_full {t ty e : TypeId} {i : TypeInfo} {z : Value} (ht : P.underlying t = some (.slice e)) (hi : P.info? e = some i) (hz : i.zero = some z) (hzs : z.cells.size = i.size)
    {v : Value} {n : Nat} {xs : List Value} (hlx : xs.length = n * i.size) (hfull : (v = .slice none 0 0 ∧ n = 0) ∨ ∃ a0, v = .slice (some a0) n n ∧ ∀ j u, xs[j]? = some u → w.cell? (a0.add j) = some u)
    {a : Addr} {m k : Nat} {news : List Value} (hl : news.length = m * i.size) (hnews : ∀ j u, news[j]? = some u → w.cell? (a.add j) = some u)
    (hm : 0 < m) (h63 : n + m ≤ maxLen) (hbytes : (n + m) * i.bytes ≤ 140737488355328) :
    ∃ cap cur w', (Builtin.append_ #[t, t] ty #[v, .slice (some a) m k]).run P w = .ok (.slice (some ⟨w.heap.size, 0, none⟩) (n + m) cap) w' ∧ w'.heap[w.heap.size]? = some (.cells cur e (0, 0)) ∧ n + m ≤ cap ∧ cap ≤ maxLen ∧ cur.size = cap * i.size ∧ cur.toList.take ((n + m) * i.size) = xs ++ news ∧
      Below w.heap.size w w' := by
  have hlen : (xs ++ news).length = (n + m) * i.size := by rw [List.length_append, hlx, hl, Nat.add_mul]
  have hsmall : n + m ≤ 9223372036854775807 := by simp only [maxLen] at h63; omega
  have grown : ∀ (old : Nat), (Builtin.append_ #[t, t] ty #[v, .slice (some a) m k]).run P w = .ok (.slice (some ⟨w.heap.size, 0, none⟩) (n + m) (grownCap w (n + m) old e)) (w.drew.alloc (.cells ((xs ++ news).toArray ++ Builtin.zeroCells z.cells (grownCap w (n + m) old e - (n + m))) e)) →
    ∃ cap cur w', (Builtin.append_ #[t, t] ty #[v, .slice (some a) m k]).run P w = .ok (.slice (some ⟨w.heap.size, 0, none⟩) (n + m) cap) w' ∧ w'.heap[w.heap.size]? = some (.cells cur e (0, 0)) ∧ n + m ≤ cap ∧ cap ≤ maxLen ∧ cur.size = cap * i.size ∧ cur.toList.take ((n + m) * i.size) = xs ++ news ∧
      Below w.heap.size w w' := by
    intro old hr
    have hge := grownCap_ge w (n + m) old e
    refine ⟨_, _, _, hr, heap_alloc_new w.drew _, hge, grownCap_le_maxLen w (n + m) old e h63, ?_, ?_, ?_⟩
    · rw [Array.size_append, List.size_toArray, size_zeroCells, hzs, hlen, ← Nat.add_mul]
      congr 1; omega
    · rw [Array.toList_append, ← hlen]
      exact List.take_left
    · exact ((Below.refl _ w).drew).alloc (Nat.le_refl _) _
  rcases hfull with ⟨rfl, rfl⟩ | ⟨a0, rfl, holds⟩
  · have hx : xs = [] := List.eq_nil_of_length_eq_zero (by simpa using hlx)
    subst hx
    refine grown 0 ?_
    have hr := run_append_nil (P := P) w t ty e i z ht hi hz a m k news hl hnews hm (by omega) (by simp only [Nat.zero_add] at hbytes; omega)
    simpa using hr
  · refine grown n ?_
    have hr := run_append_grow (P := P) w t ty e i z ht hi hz a0 n n xs hlx holds a m k news hl hnews (by omega) (by omega) (growslice_fits (by omega) hbytes)
    simpa using hr

theorem run_append_none {t ty e : TypeId} {i : TypeInfo} (ht : P.underlying t = some (.slice e)) (hi : P.info? e = some i) {b : Option Addr} {n cap : Nat} (hn : n ≤ cap) {y : Value} (hy : y = .slice none 0 0 ∨ ∃ a k, y = .slice (some a) 0 k) :
    (Builtin.append_ #[t, t] ty #[.slice b n cap, y]).run P w = .ok (.slice b n cap) w := by
  rcases hy with rfl | ⟨a, k, rfl⟩ <;> cases b <;> simp [Builtin.append_, run_underlying ht, sizeOf, typeInfo, hi, Builtin.lenOf, Builtin.firstCells, hn, loadCells, loadCellsFrom, storeCells]
end

end Go.Proofs.Ytndijidmabfhcaa.Fw

/- Appending, as the state sees it. -/
namespace Go.Proofs.Ytndijidmabfhcaa.Fw
open Go Go.RowKit

section
variable {P : Program} {T : Ty} {c : Ctx} {env : Env} {a : Act} {w : World}

theorem dd_stamp {s' u st : Nat} : (env.stamp s' u st).dd = if st = 1 then env.dd else st :: env.dd := by
  show (bif Nat.beq st 1 then env.dd else st :: env.dd) = _
  by_cases h : st = 1
  · rw [if_pos h, nbeq.2 h]; rfl
  · rw [if_neg h, nbeq_f.2 h]; rfl
theorem us_stamp {s' u st : Nat} : (env.stamp s' u st).us = (s', u) :: env.us := rfl

theorem live_stamp {s' u st st0 : Nat} (h : (env.stamp s' u st).live st0) : st0 = s' ∨ (env.live st0 ∧ (st ≠ 1 → st0 ≠ st)) := by
  obtain ⟨h1, h2⟩ := h
  simp only [us_stamp, look_cons] at h1
  by_cases e : s' = st0
  · exact .inl e.symm
  · rw [if_neg e] at h1
    refine .inr ⟨⟨h1, fun hd => h2 ?_⟩, fun hst e' => h2 ?_⟩
    · rw [dd_stamp]; split
      · exact hd
      · exact List.mem_cons_of_mem _ hd
    · subst e'; simp [dd_stamp, hst]

def Ctx.own (c : Ctx) (s' : Nat) (g' : Option Nat) (n' : Nat) : Ctx := { c with σ := fun s => if s = s' then g' else c.σ s, I := fun b o => c.I b o ∨ (g' = some b ∧ o < n') }

def OwnCase (c : Ctx) (w : World) (u size st : Nat) (xs : List D) (v : Value) (cells : List Value) : Prop :=
  (v = .slice none 0 0 ∧ xs = [] ∧ (st = 1 ∨ c.σ st = none)) ∨ ∃ g cap, v = .slice (some ⟨g, 0, none⟩) xs.length cap ∧ xs.length ≤ cap ∧ st ≠ 1 ∧ c.σ st = some g ∧ RepRow c.I w size xs ⟨g, 0, none⟩ 0 ∧ ∃ cur, w.heap[g]? = some (.cells cur u (0, 0)) ∧ cur.toList.take (xs.length * size) = cells ∧ cur.size = cap * size ∧ cap ≤ maxLen ∧ (∀ o, xs.length * size ≤ o → ¬ c.I g o)

theorem list_take_get {α : Type} {l l' : List α} {n m : Nat} {xs ys : List α} (h : l.take n = xs) (h' : l'.take m = xs ++ ys) (hn : xs.length = n) (o : Nat) (ho : o < n) : l'[o]? = l[o]? := by
  have hm : n ≤ m := by
    have h2 := congrArg List.length h'
    simp only [List.length_take, List.length_append] at h2; omega
  have e1 : l[o]? = xs[o]? := by rw [← h, List.getElem?_take, if_pos ho]
  have e2 : l'[o]? = (xs ++ ys)[o]? := by rw [← h', List.getElem?_take, if_pos (by omega)]
  rw [e1, e2, List.getElem?_append_left (by omega)]

/-- The state once a row is stamped anew. -/
theorem own_step (h : St c env a w) {u st s' : Nat} (hst : st = 1 ∨ (2 ≤ st ∧ look st env.us = some u ∧ st ∉ env.dd)) (hs' : look s' env.us = none) (hsd : s' ∉ env.dd) :
    ∀ (g' : Option Nat) (n' : Nat) (w' : World), (∀ g, g' = some g → c.w0.off g ∧ g < w'.heap.size ∧ (g = w.heap.size ∨ (g < w.heap.size ∧ c.σ st = some g ∧ st ≠ 1))) → w.heap.size ≤ w'.heap.size →
      (∀ k, k < w.heap.size → g' ≠ some k → w'.heap[k]? = w.heap[k]?) → (∀ g, g' = some g → g < w.heap.size → ∀ o x, c.I g o → w.cell? ⟨g, o, none⟩ = some x → w'.cell? ⟨g, o, none⟩ = some x) → KeptF c.w0 w w' →
      (∀ g, g' = some g → g < w.heap.size → ∃ cs e fr, w.heap[g]? = some (.cells cs e fr)) →
      St (c.own s' g' n') (env.stamp s' u st) a w' ∧
      Step c env w (c.own s' g' n') (env.stamp s' u st) w' := by
  intro g' n' w' hg hsize hblk hcell hbel hkind
  have hne : ∀ st0, env.live st0 → st0 ≠ s' := fun st0 hl e => by have := hl.1; rw [e, hs'] at this; cases this
  have hg0 : ∀ s, env.blk s → g' ≠ some (c.ρ s) := fun s hs e => by
    obtain ⟨_, _, h3⟩ := hg _ e
    have hlt := h.lt s hs
    rcases h3 with h3 | ⟨h3, h4, h5⟩
    · omega
    · rcases hst with h6 | ⟨_, h7, h8⟩
      · exact h5 h6
      · exact (h.ownAbove st _ ⟨by rw [h7]; rfl, h8⟩ h4).2.2 s hs rfl
  have hstO : ∀ st0 g0, env.live st0 → (st ≠ 1 → st0 ≠ st) → c.σ st0 = some g0 → g' ≠ some g0 := fun st0 g0 hl hd hσ e => by
    obtain ⟨_, _, h3⟩ := hg _ e
    have hlt := (h.ownAbove st0 g0 hl hσ).2.1
    rcases h3 with h3 | ⟨h3, h4, h5⟩
    · omega
    · rcases hst with h6 | ⟨_, h7, h8⟩
      · exact h5 h6
      · exact hd h5 (h.ownInj st0 st g0 hl ⟨by rw [h7]; rfl, h8⟩ hσ h4)
  have hK : Keeps c.I (fun b o => c.I b o ∨ (g' = some b ∧ o < n')) w w' := by
    refine ⟨fun _ _ h => .inl h, fun ad x hi hx => ?_, fun r es k hi hr => ?_⟩
    · by_cases e : g' = some ad.block
      · have hlt := h.im _ _ hi
        have hsp : ad = ⟨ad.block, ad.off, none⟩ := by
          obtain ⟨b, o, sp⟩ := ad
          cases sp with
          | none => rfl
          | some k => simp only [World.cell?] at hx; split at hx <;> simp at hx
        rw [hsp] at hx ⊢
        exact hcell _ e hlt _ _ hi hx
      · exact (World.cell?_of_block (hblk _ (h.im _ _ hi) e)).trans hx
    · by_cases e : g' = some r
      · obtain ⟨cs, e1, fr, h1⟩ := hkind r e (h.im _ _ hi)
        rw [hr] at h1; cases h1
      · exact (hblk _ (h.im _ _ hi) e).trans hr
  have S : Step c env w (c.own s' g' n') (env.stamp s' u st) w' := by
    refine ⟨hK, fun _ h => ⟨h, rfl⟩, fun _ h => ⟨h, rfl⟩, fun s0 u0 hl => ?_, fun s0 hl => ?_, fun st0 hl hn => ⟨if_neg (hne st0 hl), fun g0 hσ => ?_⟩⟩
    · simp only [us_stamp, look_cons]; rw [if_neg]
      · exact hl
      · rintro rfl; rw [hs'] at hl; cases hl
    · rw [dd_stamp]; split
      · exact hl
      · exact List.mem_cons_of_mem _ hl
    · have hd : st ≠ 1 → st0 ≠ st := fun h1 e => hn (by subst e; simp [dd_stamp, h1])
      have := hstO st0 g0 hl hd hσ
      exact ⟨hblk _ (h.ownAbove st0 g0 hl hσ).2.1 this, fun o ho => ho.resolve_right fun e => this e.1⟩
  refine ⟨⟨h.nt, h.df, fun t d hd => S.repT (h.tm t d hd), fun t d hd => (h.wt t d hd).step S, fun s b hs => ?_, fun s m hs => ?_, h.inj, h.above, fun s hs => Nat.lt_of_lt_of_le (h.lt s hs) hsize, ?_, ?_, ?_, h.im0.trans S.keeps, ?_, h.base.trans hbel, h.gh⟩, S⟩
  · have hb : env.blk s := .inl (by rw [show look s env.bx = some b from hs]; rfl)
    exact (h.bx s b hs).step S rfl (hblk _ (h.lt s hb) (hg0 s hb)) (fun o ho => ho.resolve_right fun e => hg0 s hb e.1)
  · have hb : env.blk s := .inr (by rw [show look s env.mp = some m from hs]; rfl)
    exact (h.mp s m hs).step S rfl (hblk _ (h.lt s hb) (hg0 s hb)) (fun o ho => ho.resolve_right fun e => hg0 s hb e.1)
  · intro s1 s2 g hl1 hl2 h1 h2
    rcases live_stamp hl1 with e1 | ⟨kl1, hd1⟩ <;> rcases live_stamp hl2 with e2 | ⟨kl2, hd2⟩
    · exact e1.trans e2.symm
    · simp only [Ctx.own, if_pos e1, if_neg (hne s2 kl2)] at h1 h2
      exact absurd h1 (hstO s2 g kl2 hd2 h2)
    · simp only [Ctx.own, if_pos e2, if_neg (hne s1 kl1)] at h1 h2
      exact absurd h2 (hstO s1 g kl1 hd1 h1)
    · simp only [Ctx.own, if_neg (hne s1 kl1), if_neg (hne s2 kl2)] at h1 h2
      exact h.ownInj s1 s2 g kl1 kl2 h1 h2
  · intro s1 g hl1 h1
    rcases live_stamp hl1 with e1 | ⟨kl1, hd1⟩
    · simp only [Ctx.own, if_pos e1] at h1
      obtain ⟨k1, k2, _⟩ := hg g h1
      exact ⟨k1, k2, fun s hs e => hg0 s hs (h1.trans (congrArg some e.symm))⟩
    · simp only [Ctx.own, if_neg (hne s1 kl1)] at h1
      obtain ⟨k1, k2, k3⟩ := h.ownAbove s1 g kl1 h1
      exact ⟨k1, Nat.lt_of_lt_of_le k2 hsize, k3⟩
  · rintro b o (hi | ⟨e, _⟩)
    · exact Nat.lt_of_lt_of_le (h.im b o hi) hsize
    · exact (hg b e).2.1
  · rintro b o (hi | ⟨e, _⟩)
    · exact h.imNew b o hi
    · exact .inr (hg b e).1

theorem cells_at {I : Im} {w : World} {es : Nat} {xs : List D} {a : Addr} (h : RepRow I w es xs a 0) : ∃ cells : List Value, cells.length = xs.length * es ∧ (∀ j x, cells[j]? = some x → w.cell? (a.add j) = some x) := by
  have hc := fun j hj => repRow_cell h j hj
  simp only [Nat.zero_mul, Nat.zero_add] at hc
  refine ⟨(List.range (xs.length * es)).map fun j => (w.cell? (a.add j)).getD undef, by simp, fun j x hj => ?_⟩
  rw [List.getElem?_map] at hj
  cases hr : (List.range (xs.length * es))[j]? with
  | none => rw [hr] at hj; cases hj
  | some j' =>
    obtain ⟨hl, e⟩ := List.getElem?_eq_some_iff.1 hr
    rw [List.getElem_range] at e; subst e
    rw [hr] at hj
    simp only [List.length_range] at hl
    obtain ⟨x', h1, _⟩ := hc j hl
    simp only [Option.map_some, h1, Option.getD_some, Option.some.injEq] at hj
    rw [h1, hj]

/-- Behind a row without room. -/
theorem after_full (hT : TyOK P T) (h : St c env a w) {t u : Nat} {eu : TE} (ht : P.underlying t = some (.slice u)) (hu : T u = some eu) {st es es2 st2 s' : Nat} {xs ys : List D} {v v2 : Value}
    (hx1 : (v = .slice none 0 0 ∧ xs = []) ∨ ∃ (b : Addr) (cap : Nat), v = .slice (some b) xs.length cap ∧ xs.length ≤ cap ∧ RepRow c.I w es xs b 0) (hv : ∃ b, v = .slice b xs.length xs.length)
    (hy : RepT c env w (.sl st2 es2 ys) v2) (hst : st = 1 ∨ (2 ≤ st ∧ look st env.us = some u ∧ st ∉ env.dd)) (hes : es = eu.size ∨ xs = []) (hes2 : es2 = eu.size ∨ ys = [])
    (hs2 : 2 ≤ s') (hs' : look s' env.us = none) (hsd : s' ∉ env.dd) (hside : (xs.length + ys.length) * eu.bytes ≤ 140737488355328 ∧ xs.length + ys.length ≤ 9223372036854775807) (ty : TypeId) :
    After P c env (env.stamp s' u st) a w (.sl s' eu.size (xs ++ ys)) (Builtin.append_ #[t, t] ty #[v, v2]) := by
  obtain ⟨i, z, hi, hisz, hib, hz, hzc, _⟩ := (hT u eu hu).info
  obtain ⟨hy1, _⟩ := repT_sl hy
  have hstep := own_step h (u := u) hst hs' hsd
  have hlook : look s' (env.stamp s' u st).us = some u := by simp [us_stamp, look_cons]
  have hrow : (v = .slice none 0 0 ∧ xs = []) ∨ ∃ (b : Addr), v = .slice (some b) xs.length xs.length ∧ RepRow c.I w eu.size xs b 0 := by
    rcases hx1 with h | ⟨b, cap, rfl, hcap, hr⟩
    · exact .inl h
    · obtain ⟨b', hb⟩ := hv
      cases hb
      refine .inr ⟨b, rfl, ?_⟩
      rcases hes with rfl | rfl
      · exact hr
      · simp only [RepRow]
  by_cases hm : ys.length = 0
  · have hys : ys = [] := List.eq_nil_of_length_eq_zero hm
    subst hys
    rw [List.append_nil]
    have hy0 : v2 = .slice none 0 0 ∨ ∃ a k, v2 = .slice (some a) 0 k := hy1.imp (fun h => h.1) fun ⟨b, cap, h, _⟩ => ⟨b, cap, h⟩
    obtain ⟨h1, S⟩ := hstep none 0 w (fun _ e => by cases e) (Nat.le_refl _) (fun _ _ _ => rfl) (fun _ e => by cases e) ⟨rfl, rfl, rfl, Nat.le_refl _, fun _ _ => rfl⟩ (fun _ e => by cases e)
    obtain ⟨b, rfl⟩ := hv
    refine ⟨_, _, c.own s' none 0, run_append_none ht hi (Nat.le_refl _) hy0, ⟨rfl, rfl, rfl⟩, h1, ?_⟩
    simp only [RepT, RepV]
    simp only [RepC, Rep]
    refine ⟨⟨trivial, ?_⟩, .inr (.inr ⟨hs2, u, hlook, .inr ?_⟩)⟩
    · rcases hrow with ⟨e, rfl⟩ | ⟨b', e, hr⟩
      · exact .inl ⟨e, rfl⟩
      · exact .inr ⟨b', _, e, Nat.le_refl _, RepRow.keeps S.keeps _ _ _ _ hr⟩
    · simp [Ctx.own]
  · obtain ⟨b2, cap2, rfl, _, hrow2⟩ : ∃ (b : Addr) (cap : Nat), v2 = .slice (some b) ys.length cap ∧ ys.length ≤ cap ∧ RepRow c.I w es2 ys b 0 := hy1.resolve_left fun h => hm (by rw [h.2]; rfl)
    have he2 : es2 = eu.size := hes2.resolve_right fun e => hm (by rw [e]; rfl)
    subst he2
    obtain ⟨news, hnl, hnews⟩ := cells_at hrow2
    obtain ⟨cells, hcl, hful, hold⟩ : ∃ cells : List Value, cells.length = xs.length * i.size ∧ ((v = .slice none 0 0 ∧ xs.length = 0) ∨ ∃ a0, v = .slice (some a0) xs.length xs.length ∧ ∀ j u, cells[j]? = some u → w.cell? (a0.add j) = some u) ∧ (∀ b : Addr, v = .slice (some b) xs.length xs.length → RepRow c.I w eu.size xs b 0 ∧ ∀ j u, cells[j]? = some u → w.cell? (b.add j) = some u) := by
      rcases hrow with ⟨rfl, rfl⟩ | ⟨b, rfl, hr⟩
      · exact ⟨[], by simp, .inl ⟨rfl, rfl⟩, fun b e => by cases e⟩
      · obtain ⟨cells, h1, h2⟩ := cells_at hr
        exact ⟨cells, by rw [h1, hisz], .inr ⟨b, rfl, h2⟩, fun b' e => by cases e; exact ⟨hr, h2⟩⟩
    obtain ⟨cap, cur, w', hrun, hg, hcap, hcm, hcs, htake, hbel⟩ := run_append_full (ty := ty) ht hi hz (hzc.trans hisz.symm |> fun e => by rw [e]) hcl hful (k := cap2) (by rw [hnl, hisz]) hnews (by omega) (by simp only [maxLen]; omega) (by rw [hib]; exact hside.1)
    have hgl := (Array.getElem?_eq_some_iff.1 hg).1
    have hsize : w.heap.size ≤ w'.heap.size := hbel.size
    have hkept : KeptF c.w0 w w' := ⟨hbel.os, hbel.tape, hbel.output, hbel.size, fun k hk => hbel.block k (h.base.below_of hk)⟩
    obtain ⟨h1, S⟩ := hstep (some w.heap.size) ((xs.length + ys.length) * eu.size) w' (fun g1 e => by cases e; exact ⟨h.base.size, hgl, .inl rfl⟩) hsize (fun k hk hne => hbel.block k hk) (fun g1 e hlt => by cases e; omega) hkept (fun g1 e hlt => by cases e; omega)
    refine ⟨_, _, c.own s' (some w.heap.size) ((xs.length + ys.length) * eu.size), hrun, ⟨rfl, rfl, rfl⟩, h1, ?_⟩
    simp only [RepT, RepV]
    simp only [RepC, Rep, List.length_append]
    have hmul : (xs.length + ys.length) * eu.size = xs.length * eu.size + ys.length * eu.size := Nat.add_mul _ _ _
    have hall : ∀ j, cur.toList.take ((xs.length + ys.length) * i.size) = cells ++ news → j < (xs.length + ys.length) * eu.size → cur[j]? = (cells ++ news)[j]? := fun j e hj => by
      rw [← e, List.getElem?_take, if_pos (by rw [hisz]; exact hj), Array.getElem?_toList]
    refine ⟨⟨trivial, .inr ⟨_, _, rfl, hcap, repRow_append ?_ ?_⟩⟩, .inr (.inr ⟨hs2, u, hlook, .inr ?_⟩)⟩
    · rcases hrow with ⟨rfl, rfl⟩ | ⟨b, rfl, hr⟩
      · simp only [RepRow]
      · refine repRow_move S.keeps hr fun j x hj hx => ?_
        simp only [Nat.zero_mul, Nat.zero_add, addr_add_mk] at hx ⊢
        refine ⟨?_, .inr ⟨rfl, by omega⟩⟩
        rw [cell_of_row w' _ j cur u (0, 0) hg, hall j htake (by omega)]
        rw [List.getElem?_append_left (by rw [hcl, hisz]; exact hj)]
        have hj2 : j < cells.length := by rw [hcl, hisz]; exact hj
        have := (hold b rfl).2 j cells[j] (by simp [hj2])
        rw [hx] at this
        rw [List.getElem?_eq_getElem hj2, this]
    · refine repRow_move S.keeps hrow2 fun j x hj hx => ?_
      rw [Nat.zero_mul, Nat.zero_add] at hx
      simp only [Nat.zero_add, addr_add_mk]
      refine ⟨?_, .inr ⟨rfl, by omega⟩⟩
      have hlen : cells.length = xs.length * eu.size := by rw [hcl, hisz]
      rw [cell_of_row w' _ _ cur u (0, 0) hg, hall _ htake (by omega), List.getElem?_append_right (by omega), hlen, Nat.add_sub_cancel_left]
      have hj2 : j < news.length := by rw [hnl]; exact hj
      have := hnews j news[j] (by simp [hj2])
      rw [hx] at this
      rw [List.getElem?_eq_getElem hj2, this]
    · simp only [Ctx.own, if_true]
      refine ⟨cap, cur, rfl, hg, by rw [hcs, hisz], hcm, hcap, fun o ho hi => ?_⟩
      rcases hi with hi | ⟨_, hi⟩
      · have := h.im _ _ hi; omega
      · omega

theorem after_append (hT : TyOK P T) (h : St c env a w) {t u : Nat} {eu : TE} (ht : P.underlying t = some (.slice u)) (hu : T u = some eu) {st es es2 st2 s' : Nat} {xs ys : List D} {v v2 : Value}
    (hx : RepT c env w (.sl st es xs) v) (hy : RepT c env w (.sl st2 es2 ys) v2) (hst : st = 1 ∨ (2 ≤ st ∧ look st env.us = some u ∧ st ∉ env.dd)) (hes : es = eu.size ∨ (st = 1 ∧ xs = [])) (hes2 : es2 = eu.size ∨ ys = [])
    (hs2 : 2 ≤ s') (hs' : look s' env.us = none) (hsd : s' ∉ env.dd) (hside : (xs.length + ys.length) * eu.bytes ≤ 140737488355328 ∧ xs.length + ys.length ≤ 9223372036854775807) (ty : TypeId) :
    After P c env (env.stamp s' u st) a w (.sl s' eu.size (xs ++ ys)) (Builtin.append_ #[t, t] ty #[v, v2]) := by
  obtain ⟨i, z, hi, hisz, hib, hz, hzc, _⟩ := (hT u eu hu).info
  obtain ⟨hx1, hx2⟩ := repT_sl hx
  obtain ⟨hy1, _⟩ := repT_sl hy
  by_cases hfl : ∃ b, v = .slice b xs.length xs.length
  · exact after_full hT h ht hu hx1 hfl hy hst (hes.imp_right And.right) hes2 hs2 hs' hsd hside ty
  -- what is owned
  have own : ∃ cells : List Value, w.ownsRow 0 u i.size v xs.length cells ∧ OwnCase c w u eu.size st xs v cells := by
    rcases hst with h1 | ⟨h2, h3, h4⟩
    · rcases hx2 with h | ⟨_, h⟩ | ⟨h, _⟩
      · omega
      · exact absurd h hfl
      · omega
    · rcases hx2 with h | ⟨h, _⟩ | ⟨_, u', hu', h⟩
      · omega
      · omega
      · rw [h3] at hu'; cases hu'
        rcases h with h | h
        · exact absurd h h4
        · cases hg : c.σ st with
          | none => rw [hg] at h; exact absurd h hfl
          | some g =>
            rw [hg] at h
            obtain ⟨cap, cur, rfl, hh, hcs, hcm, hnc, hI⟩ := h
            have hes : es = eu.size := hes.resolve_right fun e => by omega
            subst hes
            have hcs' := hcs
            rw [← hisz] at hcs'
            refine ⟨cur.toList.take (xs.length * eu.size), ⟨?_, .inr ⟨g, cap, cur, rfl, Nat.zero_le _, hh, hnc, hcm, hcs', by rw [hisz]⟩⟩, .inr ⟨g, cap, rfl, hnc, by omega, hg, ?_, cur, hh, rfl, hcs, hcm, hI⟩⟩
            · have hl : cur.toList.length = cap * eu.size := by simpa using hcs
              rw [List.length_take, hl, hisz]
              have := Nat.mul_le_mul_right eu.size hnc
              omega
            · rcases hx1 with ⟨h, _⟩ | ⟨b, cap', h, _, hrow⟩
              · cases h
              · cases h; exact hrow
  obtain ⟨cells, hown, hcase⟩ := own
  have hstep := own_step h (u := u) hst hs' hsd
  have hdead : s' ∉ (env.stamp s' u st).dd := by
    rw [dd_stamp]; split
    · exact hsd
    · intro e
      rcases List.mem_cons.1 e with e | e
      · subst e
        rcases hst with h | ⟨_, h, _⟩
        · omega
        · rw [hs'] at h; cases h
      · exact hsd e
  have hlook : look s' (env.stamp s' u st).us = some u := by simp [us_stamp, look_cons]
  -- nothing is appended
  by_cases hm : ys.length = 0
  · have hys : ys = [] := List.eq_nil_of_length_eq_zero hm
    subst hys
    rw [List.append_nil]
    have hy0 : v2 = .slice none 0 0 ∨ ∃ a k, v2 = .slice (some a) 0 k := hy1.imp (fun h => h.1) fun ⟨b, cap, h, _⟩ => ⟨b, cap, h⟩
    rcases hcase with ⟨rfl, rfl, hs1⟩ | ⟨g, cap, rfl, hcap, hs1, hσ, hrow, cur, hh, _, hcs, hcm, hI⟩
    · obtain ⟨h1, S⟩ := hstep none 0 w (fun _ e => by cases e) (Nat.le_refl _) (fun _ _ _ => rfl) (fun _ e => by cases e) ⟨rfl, rfl, rfl, Nat.le_refl _, fun _ _ => rfl⟩ (fun _ e => by cases e)
      refine ⟨_, _, c.own s' none 0, run_append_none ht hi (Nat.le_refl 0) hy0, ⟨rfl, rfl, rfl⟩, h1, ?_⟩
      simp only [RepT, RepV]
      simp only [RepC, Rep]
      refine ⟨by simp, .inr (.inr ⟨hs2, u, hlook, .inr ?_⟩)⟩
      simp [Ctx.own]
    · obtain ⟨h2, h3⟩ : (look st env.us).isSome = true ∧ st ∉ env.dd := by
        rcases hst with h | ⟨_, h, h'⟩
        · exact absurd h hs1
        · exact ⟨by rw [h]; rfl, h'⟩
      obtain ⟨k1, k2, k3⟩ := h.ownAbove st g ⟨h2, h3⟩ hσ
      obtain ⟨h1, S⟩ := hstep (some g) 0 w (fun g1 e => by cases e; exact ⟨k1, k2, .inr ⟨k2, hσ, hs1⟩⟩) (Nat.le_refl _) (fun _ _ _ => rfl) (fun _ _ _ _ _ _ h => h) ⟨rfl, rfl, rfl, Nat.le_refl _, fun _ _ => rfl⟩ (fun g1 e _ => by cases e; exact ⟨_, _, _, hh⟩)
      refine ⟨_, _, c.own s' (some g) 0, run_append_none ht hi hcap hy0, ⟨rfl, rfl, rfl⟩, h1, ?_⟩
      simp only [RepT, RepV]
      simp only [RepC, Rep]
      refine ⟨⟨trivial, .inr ⟨_, _, rfl, hcap, RepRow.keeps S.keeps _ _ _ _ hrow⟩⟩, .inr (.inr ⟨hs2, u, hlook, .inr ?_⟩)⟩
      simp only [Ctx.own, if_true]
      exact ⟨cap, cur, rfl, hh, hcs, hcm, hcap, fun o ho hi => hI o ho (hi.resolve_right fun e => absurd e.2 (by omega))⟩
  · obtain ⟨b2, cap2, rfl, _, hrow2⟩ : ∃ (b : Addr) (cap : Nat), v2 = .slice (some b) ys.length cap ∧ ys.length ≤ cap ∧ RepRow c.I w es2 ys b 0 := hy1.resolve_left fun h => hm (by rw [h.2]; rfl)
    have he2 : es2 = eu.size := hes2.resolve_right fun e => hm (by rw [e]; rfl)
    subst he2
    have hcellY := fun j hj => repRow_cell hrow2 j hj
    simp only [Nat.zero_mul, Nat.zero_add] at hcellY
    have hnl : ((List.range (ys.length * eu.size)).map fun j => (w.cell? (b2.add j)).getD undef).length = ys.length * i.size := by simp [hisz]
    have hnews : ∀ j x, ((List.range (ys.length * eu.size)).map fun j => (w.cell? (b2.add j)).getD undef)[j]? = some x → w.cell? (b2.add j) = some x := by
      intro j x hj
      rw [List.getElem?_map] at hj
      cases hr : (List.range (ys.length * eu.size))[j]? with
      | none => rw [hr] at hj; cases hj
      | some j' =>
        obtain ⟨hl, e⟩ := List.getElem?_eq_some_iff.1 hr
        rw [List.getElem_range] at e; subst e
        rw [hr] at hj
        simp only [List.length_range] at hl
        obtain ⟨x', h1, _⟩ := hcellY j hl
        simp only [Option.map_some, h1, Option.getD_some, Option.some.injEq] at hj
        rw [h1, hj]
    have hone : ∀ x ∈ ((List.range (ys.length * eu.size)).map fun j => (w.cell? (b2.add j)).getD undef), x.oneCell' = true := by
      intro x hx
      obtain ⟨j, hj, rfl⟩ := List.mem_map.1 hx
      obtain ⟨x', h1, h2, _⟩ := hcellY j (List.mem_range.1 hj)
      rw [h1]; exact h2
    obtain ⟨g, cap, cur, w', hrun, hg, hcap, hcm, hcs, htake, hbel, _, hgo, hblk⟩ := run_append_fw (ty := ty) ht hi hz (hzc.trans hisz.symm |> fun e => by rw [e]) hown (k := cap2) hnl hnews hone (by omega) (by simp only [maxLen]; omega) (by rw [hib]; exact hside.1) (Nat.zero_le _)
    have hgl := (Array.getElem?_eq_some_iff.1 hg).1
    have hsize : w.heap.size ≤ w'.heap.size := hbel.size
    have hoff : ∀ k, v.ownBlock = some k → c.w0.off k := by
      intro k hk
      rcases hcase with ⟨rfl, _⟩ | ⟨g1, cap1, rfl, hcap1, hs1, hσ, _⟩
      · cases hk
      · cases hk
        refine (h.ownAbove st _ ?_ hσ).1
        rcases hst with h6 | ⟨_, h7, h8⟩
        · exact absurd h6 hs1
        · exact ⟨by rw [h7]; rfl, h8⟩
    have hbase : c.w0.off g := hgo.elim (hoff g) fun e => by rw [e]; exact h.base.size
    have hkept : KeptF c.w0 w w' := ⟨hbel.os, hbel.tape, hbel.output, hbel.size, fun k hk => hblk k (h.base.below_of hk) (.inl fun e => hk (hoff k e))⟩
    have hold : ∀ o, o < xs.length * eu.size → ∀ x, (∃ g0, v.ownBlock = some g0 ∧ w.cell? ⟨g0, o, none⟩ = some x) → w'.cell? ⟨g, o, none⟩ = some x := by
      rintro o ho x ⟨g0, hv, hx⟩
      rcases hcase with ⟨rfl, rfl, _⟩ | ⟨g1, cap1, rfl, hcap1, hs1, hσ, hrow, cur1, hh, htk, _⟩
      · cases hv
      · cases hv
        rw [cell_of_row w g1 o cur1 u (0, 0) hh] at hx
        rw [cell_of_row w' g o cur u (0, 0) hg, ← hx]
        have := list_take_get htk htake (by rw [hown.1, hisz]) o ho
        simpa using this
    obtain ⟨h1, S⟩ := hstep (some g) ((xs.length + ys.length) * eu.size) w' (fun g1 e => by
        cases e
        refine ⟨hbase, hgl, ?_⟩
        rcases hgo with hv | hv
        · right
          rcases hcase with ⟨rfl, rfl, _⟩ | ⟨g1, cap1, rfl, hcap1, hs1, hσ, _, cur1, hh, _⟩
          · cases hv
          · cases hv; exact ⟨(Array.getElem?_eq_some_iff.1 hh).1, hσ, hs1⟩
        · exact .inl hv) hsize (fun k hk hne => hblk k hk (by
          by_cases e : v.ownBlock = some k
          · right; rcases hgo with hv | hv
            · rw [hv] at e; cases e; exact absurd rfl hne
            · exact hv
          · exact .inl e)) (fun g1 e hlt o x hi hx => by
          cases e
          have hv : v.ownBlock = some g := hgo.resolve_right (by omega)
          refine hold o ?_ x ⟨g, hv, hx⟩
          rcases hcase with ⟨rfl, rfl, _⟩ | ⟨g1, cap1, rfl, hcap1, hs1, hσ, _, cur1, hh, _, _, _, hI⟩
          · cases hv
          · cases hv
            exact Nat.lt_of_not_le fun hle => hI o hle hi) hkept (fun g1 e hlt => by
          cases e
          have hv : v.ownBlock = some g := hgo.resolve_right (by omega)
          rcases hcase with ⟨rfl, rfl, _⟩ | ⟨g1, cap1, rfl, hcap1, hs1, hσ, _, cur1, hh, _⟩
          · cases hv
          · cases hv; exact ⟨_, _, _, hh⟩)
    refine ⟨_, _, c.own s' (some g) ((xs.length + ys.length) * eu.size), hrun, ⟨rfl, rfl, rfl⟩, h1, ?_⟩
    simp only [RepT, RepV]
    simp only [RepC, Rep, List.length_append]
    have hmul : (xs.length + ys.length) * eu.size = xs.length * eu.size + ys.length * eu.size := Nat.add_mul _ _ _
    refine ⟨⟨trivial, .inr ⟨_, _, rfl, hcap, repRow_append ?_ ?_⟩⟩, .inr (.inr ⟨hs2, u, hlook, .inr ?_⟩)⟩
    · rcases hcase with ⟨rfl, rfl, _⟩ | ⟨g1, cap1, rfl, hcap1, hs1, hσ, hrow, cur1, hh, htk, _⟩
      · simp only [RepRow]
      · refine repRow_move S.keeps hrow fun j x hj hx => ?_
        simp only [Nat.zero_mul, Nat.zero_add, addr_add_mk] at hx ⊢
        exact ⟨hold j hj x ⟨g1, rfl, hx⟩, .inr ⟨rfl, by omega⟩⟩
    · refine repRow_move S.keeps hrow2 fun j x hj hx => ?_
      rw [Nat.zero_mul, Nat.zero_add] at hx
      simp only [Nat.zero_add, addr_add_mk]
      refine ⟨?_, .inr ⟨rfl, by omega⟩⟩
      rw [cell_of_row w' g _ cur u (0, 0) hg]
      have hlen : cells.length = xs.length * eu.size := by rw [hown.1, hisz]
      have e2 : cur.toList[xs.length * eu.size + j]? = (cells ++ ((List.range (ys.length * eu.size)).map fun j => (w.cell? (b2.add j)).getD undef))[xs.length * eu.size + j]? := by
        rw [← htake, List.getElem?_take, if_pos (by rw [hisz]; omega)]
      rw [← Array.getElem?_toList, e2, List.getElem?_append_right (by omega), hlen, Nat.add_sub_cancel_left, List.getElem?_map, List.getElem?_range (by omega)]
      simp [hx]
    · simp only [Ctx.own, if_true]
      refine ⟨cap, cur, rfl, hg, by rw [hcs, hisz], hcm, hcap, fun o ho hi => ?_⟩
      rcases hi with hi | ⟨_, hi⟩
      · rcases hgo with hv | hv
        · rcases hcase with ⟨rfl, rfl, _⟩ | ⟨g1, cap1, rfl, hcap1, hs1, hσ, _, cur1, hh, _, _, _, hI⟩
          · cases hv
          · cases hv
            exact hI o (by omega) hi
        · have := h.im _ _ hi; omega
      · omega
end

end Go.Proofs.Ytndijidmabfhcaa.Fw

/- Functions that capture; conversions. -/
namespace Go.Proofs.Ytndijidmabfhcaa.Fw
open Go Go.RowKit

section
variable {P : Program} {T : Ty} {c : Ctx} {env : Env} {a : Act} {w : World}

theorem St.frzB {ss : List Nat} : ∀ {c : Ctx} {env : Env} {bx : List (Nat × BoxC)}, St c env a w → frzB env.bx ss = some bx → ∃ c', c.Next c' ∧ St c' { env with bx } a w ∧ Step c env w c' { env with bx } w ∧
    (∀ s b, look s env.bx = some b → ∃ b', look s bx = some b' ∧ b'.cells = b.cells ∧ b'.isAgg = b.isAgg ∧ (b.frozen = true ∨ s ∈ ss → b'.frozen = true)) := by
  induction ss with
  | nil =>
    intro c env bx h hf
    simp only [Fw.frzB, Option.some.injEq] at hf; subst hf
    exact ⟨c, .refl c, h, Step.refl _ _ _, fun s b hs => ⟨b, hs, rfl, rfl, fun e => e.resolve_right (by simp)⟩⟩
  | cons s ss ih =>
    intro c env bx h hf
    simp only [Fw.frzB] at hf
    cases hl : look s env.bx with
    | none => rw [hl] at hf; cases hf
    | some b =>
      rw [hl] at hf
      have h1 := h.freezeBox hl
      have hs : env.blk s := .inl (by rw [hl]; rfl)
      have S1 : Step c env w (c.hold s b.cells.length) { env with bx := (s, { b with frozen := true }) :: env.bx } w := Step.hold h hs (fun s' h' => by rw [look_cons]; split <;> first | rfl | exact h') (fun _ h' => h') rfl rfl
      obtain ⟨c', n, h2, S2, h3⟩ := ih h1 hf
      refine ⟨c', ⟨n.w0, n.I0, n.df⟩, h2, S1.trans S2, fun s' b' hs' => ?_⟩
      by_cases e : s = s'
      · subst e
        rw [hl] at hs'; cases hs'
        obtain ⟨m2, g1, g2, g3, g4⟩ := h3 s { b with frozen := true } (by rw [look_cons, if_pos rfl])
        exact ⟨m2, g1, g2, g3, fun _ => g4 (.inl rfl)⟩
      · obtain ⟨m2, g1, g2, g3, g4⟩ := h3 s' b' (by rw [look_cons, if_neg e]; exact hs')
        exact ⟨m2, g1, g2, g3, fun hh => g4 (hh.imp id fun hm => (List.mem_cons.1 hm).resolve_left fun e' => e e'.symm)⟩

/-- A captured variable that changes no more. -/
theorem rep_cap (h : St c env a w) {s : Nat} {b : BoxC} (hb : look s env.bx = some b) (hf : b.frozen = true) {mp : List (Nat × MapC)} {cs : List D} (hc : cloL mp b.cells = some cs)
    (hm : ∀ s', .mapr s' ∈ b.cells → ∀ m, look s' mp = some m → ∃ m', look s' env.mp = some m' ∧ m'.ks = m.ks ∧ m'.vs = m.vs ∧ m'.frozen = true) (hne : (!b.isAgg && cs.isEmpty) = false) :
    Rep c.I w (.eptr (BoxC.whole { b with cells := cs }) 0) (.pointer (some ⟨c.ρ s, 0, none⟩)) := by
  obtain ⟨vs, e, h1, h2, h3, _⟩ := h.bx s b hb
  obtain ⟨g1, g2⟩ := clo_cells h h2 hc hm
  have hcell : ∀ (j : Nat) x, cs[j]? = some x → x.isCell = true ∧ c.I (c.ρ s) j ∧ ∃ u, w.cell? ⟨c.ρ s, j, none⟩ = some u ∧ Rep c.I w x u := by
    intro j x hx
    obtain ⟨v, hv, hr⟩ := g1.get j x hx
    refine ⟨List.all_eq_true.1 g2 x (List.mem_of_getElem? hx), h3 hf j (List.getElem?_eq_some_iff.1 hv).1, v, ?_, hr⟩
    rw [cell_of_row w _ j ⟨vs⟩ e (0, 0) h1]; simpa using hv
  rw [rep_eptr]
  refine ⟨⟨c.ρ s, 0, none⟩, by simp [addr_add_mk], ?_⟩
  unfold BoxC.whole
  cases hag : b.isAgg with
  | true =>
    simp only [if_true, RepAt]
    refine repCs_of fun i x hx => ?_
    rw [Nat.zero_add, Nat.zero_add]; exact hcell i x hx
  | false =>
    rw [hag] at hne
    cases cs with
    | nil => simp at hne
    | cons x xs =>
      simp only [Bool.false_eq_true, if_false, List.headD_cons]
      have h0 := hcell 0 x rfl
      cases x <;> first | (cases h0.1; done) | exact h0

theorem after_makeFunc (h : St c env a w) {f : Nat} {ds : List D} {vs : List Value} (hcap : All2 (RepT c env w) ds vs) {l : List (Nat × D × List Nat)} (hl : allSome (ds.map (capD env.bx env.mp)) = some l)
    {mp : List (Nat × MapC)} {bx : List (Nat × BoxC)} (hfm : Fw.frzM env.mp (l.flatMap (·.2.2)) = some mp) (hfb : Fw.frzB env.bx (l.map (·.1)) = some bx) :
    After P c env { env with mp, bx } a w (.fn f (l.map (·.2.1))) (Instr.makeFunc (.func f) #[] ⟨vs⟩) := by
  obtain ⟨c1, n1, h1, S1, hm1⟩ := h.frzM hfm
  obtain ⟨c2, n2, h2, S2, hb2⟩ := h1.frzB (ss := l.map (·.1)) (bx := bx) hfb
  refine ⟨.func (.func f) #[] ⟨vs⟩, w, c2, by simp [Instr.makeFunc], n1.trans n2, h2, ?_⟩
  simp only [RepT, RepV, RepC, Rep]
  refine ⟨vs, rfl, ?_⟩
  have key : ∀ (ds : List D) (vs : List Value) (l' : List (Nat × D × List Nat)), All2 (RepT c env w) ds vs → allSome (ds.map (capD env.bx env.mp)) = some l' → (∀ p ∈ l', p.1 ∈ l.map (·.1) ∧ ∀ m ∈ p.2.2, m ∈ l.flatMap (·.2.2)) → RepL c2.I w (l'.map (·.2.1)) vs := by
    intro ds
    induction ds with
    | nil =>
      intro vs l' hv hl' _
      simp only [List.map_nil, allSome, Option.some.injEq] at hl'; subst hl'
      cases vs with
      | nil => simp [RepL]
      | cons _ _ => exact hv.elim
    | cons d ds ih =>
      intro vs l' hv hl' hin
      cases vs with
      | nil => exact hv.elim
      | cons v vs =>
      simp only [List.map_cons] at hl'
      cases hc : capD env.bx env.mp d with
      | none => rw [hc] at hl'; simp [allSome] at hl'
      | some p =>
        rw [hc] at hl'
        simp only [allSome] at hl'
        cases hr : allSome (ds.map (capD env.bx env.mp)) with
        | none => rw [hr] at hl'; cases hl'
        | some l2 =>
          rw [hr] at hl'
          simp only [Option.map_some, Option.some.injEq] at hl'; subst hl'
          simp only [List.map_cons, RepL]
          refine ⟨v, vs, rfl, ?_, ih vs l2 hv.2 hr fun p' hp' => hin p' (List.mem_cons_of_mem _ hp')⟩
          obtain ⟨hin1, hin2⟩ := hin p (List.mem_cons_self ..)
          unfold capD at hc
          split at hc
          · rename_i s
            cases hlk : look s env.bx with
            | none => rw [hlk] at hc; cases hc
            | some b =>
              rw [hlk] at hc
              simp only at hc
              cases hcl : cloL env.mp b.cells with
              | none => rw [hcl] at hc; cases hc
              | some cs =>
                rw [hcl] at hc
                simp only at hc
                cases hne : (!b.isAgg && cs.isEmpty) with
                | true => rw [hne] at hc; cases hc
                | false =>
                  rw [hne] at hc
                  simp only [cond_false, Option.some.injEq] at hc; subst hc
                  obtain ⟨hs, rfl⟩ := repT_loc hv.1
                  obtain ⟨b', k1, k2, k3, k4⟩ := hb2 s b hlk
                  have hρ : c2.ρ s = c.ρ s := ((S2.bx s ((S1.bx s hs).1)).2).trans (S1.bx s hs).2
                  have := rep_cap h2 k1 (k4 (.inr hin1)) (mp := env.mp) (cs := cs) (by rw [k2]; exact hcl) (fun s' hs' m hm => by
                    obtain ⟨m', q1, q2, q3, q4⟩ := hm1 s' m hm
                    exact ⟨m', q1, q2, q3, q4 (.inr (hin2 s' (mem_cloM_agg (by rw [← k2]; exact hs'))))⟩) (by rw [k3]; exact hne)
                  rw [hρ] at this
                  have e : BoxC.whole { b' with cells := cs } = BoxC.whole { b with cells := cs } := by simp [BoxC.whole, k3]
                  rw [e] at this
                  exact this
          · cases hc
  exact key ds vs l hcap hl fun p hp => ⟨List.mem_map_of_mem hp, fun m hm => List.mem_flatMap.2 ⟨p, hp, hm⟩⟩

theorem u8s_spec {I : Im} : ∀ {xs : List D} {l : List UInt8} {ad : Addr} {i : Nat}, u8s xs = some l → RepRow I w 1 xs ad i → ∃ ns : List Int, ns.length = xs.length ∧ l = ns.map (fun n => UInt8.ofNat n.toNat) ∧ ∀ j n, ns[j]? = some n → w.cell? (ad.add (i + j)) = some (.int .u8 n)
  | [], l, _, _, h, _ => by simp only [u8s, Option.some.injEq] at h; subst h; exact ⟨[], rfl, rfl, fun j n h => by simp at h⟩
  | x :: xs, l, ad, i, h, hr => by
    unfold u8s at h
    split at h
    · rename_i hc; cases hc
    · rename_i n xs' hc
      cases hc
      cases h2 : u8s xs with
      | none => rw [h2] at h; cases h
      | some l2 =>
        rw [h2] at h
        simp only [Option.map_some, Option.some.injEq] at h; subst h
        rw [repRow_cons] at hr
        obtain ⟨⟨_, hat⟩, hr2⟩ := hr
        obtain ⟨_, _, u, hu, hru⟩ := hat
        simp only [Rep] at hru; subst hru
        obtain ⟨ns, k1, k2, k3⟩ := u8s_spec h2 hr2
        refine ⟨n :: ns, by simp [k1], by simp [k2], fun j m hj => ?_⟩
        cases j with
        | zero => simp at hj; subst hj; simpa using hu
        | succ j => rw [show i + (j + 1) = i + 1 + j from by omega]; exact k3 j m (by simpa using hj)
    · cases h

theorem foldl_push : ∀ (ns : List Int) (s : List UInt8), ns.foldl (fun (r : ByteArray) n => r.push (UInt8.ofNat n.toNat)) ⟨⟨s⟩⟩ = ⟨⟨s ++ ns.map (fun n => UInt8.ofNat n.toNat)⟩⟩
  | [], s => by simp
  | n :: ns, s => by
    rw [List.foldl_cons, show (ByteArray.push ⟨⟨s⟩⟩ (UInt8.ofNat n.toNat)) = ⟨⟨s ++ [UInt8.ofNat n.toNat]⟩⟩ from by simp [ByteArray.push], foldl_push ns]
    simp

theorem kind_und {t : Nat} {e : TE} (h : TEok P t e) : ∃ d, P.underlying t = some d := by
  have hk := h.kind
  cases hk' : e.kind <;> rw [hk'] at hk <;> simp only [KindOK] at hk
  case agg fs => obtain ⟨Fs, h, _⟩ := hk; exact ⟨_, h⟩
  case other => obtain ⟨d, h, _⟩ := hk; exact ⟨_, h⟩
  case ptr => obtain ⟨x, h⟩ := hk; exact ⟨_, h⟩
  case func => obtain ⟨x, y, z, h⟩ := hk; exact ⟨_, h⟩
  case ifc => obtain ⟨x, h⟩ := hk; exact ⟨_, h⟩
  all_goals exact ⟨_, hk⟩

theorem yield_conv (hT : TyOK P T) {s t : Nat} {x : D} {v : Value} (hx : RepT c env w x v) {d : D} (hr : convD T s t x = some d) : Yield P c env w d (convert s t v) := by
  unfold convD at hr
  cases hs : T s with
  | none => rw [hs] at hr; cases hr
  | some es =>
    cases ht : T t with
    | none => rw [hs, ht] at hr; cases hr
    | some e =>
      rw [hs, ht] at hr
      obtain ⟨ds, hds⟩ := kind_und (hT s es hs)
      have hk := (hT t e ht).kind
      cases x <;> simp only at hr <;> first | (cases hr; done) | skip
      case int k n =>
        obtain rfl := repT_int hx
        cases hk' : e.kind <;> rw [hk'] at hr hk <;> simp only at hr <;> first | (cases hr; done) | skip
        rename_i k2
        simp only [KindOK] at hk
        simp only [Option.some.injEq] at hr; subst hr
        exact ⟨_, by cases ds <;> simp [convert, run_underlying hds, run_underlying hk, Conv.intToInt] <;> rfl, by simp [RepT, RepV, RepC, Rep]⟩
      case str l =>
        obtain rfl := repT_str hx
        cases hk' : e.kind <;> rw [hk'] at hr hk <;> simp only at hr <;> first | (cases hr; done) | skip
        simp only [KindOK] at hk
        simp only [Option.some.injEq] at hr; subst hr
        exact ⟨_, by cases ds <;> simp [convert, run_underlying hds, run_underlying hk] <;> rfl, by simp [RepT, RepV, RepC, Rep]⟩
      case sl st z xs =>
        cases hk' : e.kind <;> rw [hk'] at hr hk <;> simp only at hr <;> first | (cases hr; done) | skip
        simp only [KindOK] at hk
        have hks := (hT s es hs).kind
        cases hks' : es.kind <;> rw [hks'] at hr hks <;> simp only at hr <;> first | (cases hr; done) | skip
        case sl u =>
          simp only [KindOK] at hks
          cases hu : T u with
          | none => rw [hu] at hr; cases hr
          | some eu =>
            rw [hu] at hr
            simp only at hr
            have hku := (hT u eu hu).kind
            cases hku' : eu.kind <;> rw [hku'] at hr hku <;> (try simp only at hr) <;> first | (cases hr; done) | skip
            rename_i ki
            cases ki <;> (try simp only at hr) <;> first | (cases hr; done) | skip
            simp only [KindOK] at hku
            cases hz : Nat.beq z 1 with
            | false => rw [hz] at hr; cases hr
            | true =>
              obtain rfl := nbeq.1 hz
              rw [hz, cond_true] at hr
              cases hl : u8s xs with
              | none => rw [hl] at hr; cases hr
              | some l =>
                rw [hl] at hr
                simp only [Option.map_some, Option.some.injEq] at hr; subst hr
                obtain ⟨h1, _⟩ := repT_sl hx
                rcases h1 with ⟨rfl, rfl⟩ | ⟨b, cap, rfl, _, hrow⟩
                · simp only [u8s, Option.some.injEq] at hl; subst hl
                  exact ⟨.string ⟨⟨[]⟩⟩, by rw [run_convert_bytes_string w s t u none 0 0 hks hku hk]; rfl, by simp [RepT, RepV, RepC, Rep]⟩
                · obtain ⟨ns, k1, k2, k3⟩ := u8s_spec hl hrow
                  refine ⟨_, by
                    rw [run_convert_bytes_string w s t u (some b) _ _ hks hku hk]
                    exact run_bytesToString w b _ _ ns (by
                      have := run_loadCells_list (P := P) w b (ns.map (Value.int .u8)) (fun j v hj => by
                        rw [List.getElem?_map] at hj
                        cases hn : ns[j]? with
                        | none => rw [hn] at hj; cases hj
                        | some n =>
                          rw [hn] at hj; simp only [Option.map_some, Option.some.injEq] at hj; subst hj
                          have := k3 j n hn
                          rw [Nat.zero_add] at this; exact this)
                      simpa [k1] using this), ?_⟩
                  rw [show ByteArray.empty = ⟨⟨[]⟩⟩ from rfl, foldl_push, k2]
                  simp [RepT, RepV, RepC, Rep]
end

end Go.Proofs.Ytndijidmabfhcaa.Fw

/- Each value operation does what its evaluation over data says. -/
namespace Go.Proofs.Ytndijidmabfhcaa.Fw
open Go Go.RowKit

section
variable {P : Program} {T : Ty} {c : Ctx} {env : Env} {a : Act} {w : World}

/-- Likewise, of a step of the machine. -/
def AfterN (P : Program) (c : Ctx) (env' : Env) (a : Act) (w : World) (d : D) (s : Sem Next) : Prop :=
  ∃ v w' c', s.run P w = .ok (.value v) w' ∧ c.Next c' ∧ St c' env' a w' ∧ RepT c' env' w' d v

theorem After.next {env' : Env} {d : D} {s : Sem Value} (h : After P c env env' a w d s) : AfterN P c env' a w d (do pure (.value (← s))) := by
  obtain ⟨v, w', c', h1, h2, h3, h4⟩ := h
  exact ⟨v, w', c', by simp [h1], h2, h3, h4⟩

theorem AfterN.of_run {env' : Env} {d : D} {s s' : Sem Next} (e : s.run P w = s'.run P w) (h : AfterN P c env' a w d s') : AfterN P c env' a w d s := by
  unfold AfterN at *
  rw [e]; exact h

theorem run_builtin (ρ : Operand → Value) (dst : Option Tmp) (b : Builtin) (args : Array Operand) (argTypes : Array TypeId) (ty : TypeId) (pos : String) (after : Array Edge) (guard : Option (Nat × Bool)) :
    (execOp ρ { dst, op := .call ⟨.builtin b, args, argTypes⟩, type := ty, pos, after, guard }).run P w = (builtin b argTypes ty (args.map fun | .const _ => true | _ => false) (args.map ρ)).run P w := by
  simp [execOp, resolve, invoke]
  rfl

/-- What a slot that may stand under a guard holds. -/
def RepX (c : Ctx) (env : Env) (w : World) (tmps : Array Value) (d : D) (v : Value) : Prop :=
  match d with
  | .wh s b d => tmps.getD s undef = .bool b → RepT c env w d v
  | d => RepT c env w d v

theorem rep_tvX (h : St c env a w) (x : Operand) : RepX c env w a.tmps (tv env.wt env.tm x) (a.eval x) := by
  cases x with
  | tmp t =>
    simp only [tv, Act.eval]
    cases hw : look t env.wt with
    | some d =>
      have := h.wt t d hw
      cases d <;> first | exact this.elim | exact this.1
    | none =>
      simp only
      cases ht : look t env.tm with
      | none => simp [RepX, RepT]
      | some d =>
        have := h.tm t d ht
        simp only [Option.getD_some]
        cases d <;> first | exact this | exact (this : False).elim
  | const v =>
    have := rep_const (c := c) (env := env) (w := w) v
    simp only [tv, Act.eval]
    cases hd : dconst v <;> rw [hd] at this <;> first | exact this | exact (this : False).elim
  | global n => simp [tv, RepX, RepT]
  | func f => simp [tv, RepX, Act.eval, RepT, RepV, RepC, Rep, RepL]

theorem repX_unw {g : Option (Nat × Bool)} (hg : GOK a g) {d : D} {v : Value} (h : RepX c env w a.tmps d v) : RepT c env w (unw g d) v := by
  cases d with
  | wh s b d =>
    simp only [unw]
    cases g with
    | none => trivial
    | some p =>
      obtain ⟨s', b'⟩ := p
      simp only
      cases hc : (Nat.beq s s' && b == b') with
      | false => trivial
      | true =>
        simp only [Bool.and_eq_true, beq_iff_eq] at hc
        obtain ⟨h1, rfl⟩ := hc
        obtain rfl := nbeq.1 h1
        exact h (hg s b rfl)
  | _ => exact h

theorem loadD_mono {bx bx' : List (Nat × BoxC)} (hb : ∀ s b, look s bx = some b → look s bx' = some b) {e : TE} {x d : D} (h : loadD bx e x = some d) : loadD bx' e x = some d := by
  unfold loadD at *
  split at h
  · rename_i s off
    cases hl : look s bx with
    | none => rw [hl] at h; cases h
    | some b => rw [hl] at h; simp only [hb s b hl]; exact h
  · exact h
  · cases h

theorem capD_mono {bx bx' : List (Nat × BoxC)} (hb : ∀ s b, look s bx = some b → look s bx' = some b) {mp : List (Nat × MapC)} {x : D} {r : Nat × D × List Nat} (h : capD bx mp x = some r) : capD bx' mp x = some r := by
  unfold capD at *
  split at h
  · rename_i s
    cases hl : look s bx with
    | none => rw [hl] at h; cases h
    | some b => rw [hl] at h; simp only [hb s b hl]; exact h
  · cases h

theorem allSome_mono {α β : Type} {f f' : α → Option β} (hf : ∀ x r, f x = some r → f' x = some r) : ∀ {l : List α} {r : List β}, allSome (l.map f) = some r → allSome (l.map f') = some r
  | [], r, h => h
  | x :: l, r, h => by
    simp only [List.map_cons] at h ⊢
    cases hx : f x with
    | none => rw [hx] at h; simp [allSome] at h
    | some y =>
      rw [hx] at h
      simp only [allSome] at h
      cases hr : allSome (l.map f) with
      | none => rw [hr] at h; cases h
      | some r2 =>
        rw [hr] at h
        rw [hf x y hx]
        simp only [allSome]
        rw [allSome_mono hf hr]; exact h

theorem repX_unwk {g : Option (Nat × Bool)} (hg : GOK a g) {d : D} {v : Value} (h : RepX c env w a.tmps d v) : RepX c env w a.tmps (unwk g d) v := by
  cases d with
  | wh s b d =>
    simp only [unwk]
    cases g with
    | none => exact h
    | some p =>
      obtain ⟨s', b'⟩ := p
      simp only
      cases hc : (Nat.beq s s' && b == b') with
      | false => exact h
      | true =>
        simp only [Bool.and_eq_true, beq_iff_eq] at hc
        obtain ⟨h1, rfl⟩ := hc
        obtain rfl := nbeq.1 h1
        have : RepT c env w d v := h (hg s b rfl)
        rw [cond_true]
        cases d <;> first | exact this | exact (this : False).elim
  | _ => exact h

theorem repT_unwp {cnd : Operand} {t : Bool} (hc : a.eval cnd = .bool t) {d : D} {v : Value} (h : RepX c env w a.tmps d v) : RepT c env w (unwp cnd t d) v := by
  cases d with
  | wh s b d =>
    simp only [unwp]
    cases cnd with
    | tmp t' =>
      simp only
      cases hh : (Nat.beq s t' && b == t) with
      | false => trivial
      | true =>
        simp only [Bool.and_eq_true, beq_iff_eq] at hh
        obtain ⟨h1, rfl⟩ := hh
        obtain rfl := nbeq.1 h1
        exact h hc
    | _ => trivial
  | _ => exact h

theorem good_repV {d : D} {v : Value} (hg : d.good = true) (h : RepT c env w d v) : RepV c env w d v := by
  cases d <;> first | (cases hg; done) | exact h

theorem goods_repP {ρ : Operand → D} (hρ : ∀ x, RepT c env w (ρ x) (a.eval x)) : ∀ {ps : List (Nat × Operand)} {qs : List (Nat × D)}, goods (ps.map fun p => (p.1, ρ p.2)) = some qs → qs = (ps.map fun p => (p.1, ρ p.2)) ∧ RepP c env w qs (ps.map fun p => (p.1, a.eval p.2)) := by
  intro ps qs h
  unfold goods at h
  cases hall : (ps.map fun p => (p.1, ρ p.2)).all (fun p => p.2.good) with
  | false => rw [hall] at h; cases h
  | true =>
    rw [hall] at h
    simp only [cond_true, Option.some.injEq] at h; subst h
    refine ⟨rfl, ?_⟩
    revert hall
    induction ps with
    | nil => exact fun _ => trivial
    | cons p ps ih =>
      intro hall
      simp only [List.map_cons, List.all_cons, Bool.and_eq_true] at hall ⊢
      exact ⟨⟨rfl, good_repV hall.1 (hρ p.2)⟩, ih hall.2⟩

theorem memR_pure {dst : Nat} {s : Bool} {d d' : D} {env' : Env} (h : memR env dst { side := s, d := d } = some (env', d')) : env' = env ∧ d' = d := by
  simp only [memR, frzM, frzB, Option.some.injEq, Prod.mk.injEq] at h
  exact ⟨h.1.symm, h.2.symm⟩

theorem free_spec {dst : Nat} (h : env.free dst = true) : look dst env.bx = none ∧ look dst env.mp = none := by
  simp only [Env.free, Bool.and_eq_true, Option.isNone_iff_eq_none] at h
  exact h

theorem all2_map {α β γ : Type} {R : α → β → Prop} {f : γ → α} {g : γ → β} (h : ∀ x, R (f x) (g x)) : ∀ l : List γ, All2 R (l.map f) (l.map g)
  | [] => trivial
  | x :: l => ⟨h x, all2_map h l⟩

theorem two_args {ve : Operand → D} (hv : ∀ x, RepT c env w (ve x) (a.eval x)) {args : Array Operand} {d1 d2 : D} (h : args.toList.map ve = [d1, d2]) : ∃ v1 v2, args.map a.eval = #[v1, v2] ∧ RepT c env w d1 v1 ∧ RepT c env w d2 v2 := by
  obtain ⟨l⟩ := args
  match l, h with
  | [x, y], h =>
    simp only [List.map_cons, List.map_nil, List.cons.injEq, and_true] at h
    obtain ⟨rfl, rfl⟩ := h
    exact ⟨a.eval x, a.eval y, by simp, hv x, hv y⟩

theorem elemTy_spec (hT : TyOK P T) {t u : Nat} {eu : TE} (h : elemTy T t = some (u, eu)) : T u = some eu ∧ P.underlying t = some (.slice u) := by
  unfold elemTy at h
  cases ht : T t with
  | none => rw [ht] at h; cases h
  | some e =>
    rw [ht] at h
    have hk := (hT t e ht).kind
    simp only at h
    cases hk' : e.kind <;> rw [hk'] at h hk <;> first | (cases h; done) | skip
    rename_i u'
    simp only at h
    cases hu : T u' with
    | none => rw [hu] at h; cases h
    | some eu' =>
      rw [hu] at h
      simp only [Option.map_some, Option.some.injEq, Prod.mk.injEq] at h
      obtain ⟨rfl, rfl⟩ := h
      exact ⟨hu, hk⟩

theorem notIfc_spec {t : Nat} {e : TE} (h : TEok P t e) (hn : e.kind.notIfc = true) : ∃ d, P.underlying t = some d ∧ ∀ ms, d ≠ .interface ms := by
  have hk := h.kind
  cases hk' : e.kind <;> rw [hk'] at hk hn <;> simp only [KindOK] at hk <;> first | (cases hn; done) | skip
  case agg fs => obtain ⟨Fs, h, _⟩ := hk; exact ⟨_, h, fun _ e => by cases e⟩
  case ptr => obtain ⟨x, h⟩ := hk; exact ⟨_, h, fun _ e => by cases e⟩
  case func => obtain ⟨x, y, z, h⟩ := hk; exact ⟨_, h, fun _ e => by cases e⟩
  all_goals exact ⟨_, hk, fun _ e => by cases e⟩

set_option maxHeartbeats 1000000 in
theorem opR_sound (hT : TyOK P T) (h : St c env a w) {g : Option (Nat × Bool)} (hg : GOK a g) {ρ : Operand → D} (hρ : ∀ x, RepX c env w a.tmps (ρ x) (a.eval x)) {bx0 : List (Nat × BoxC)} (hbx : ∀ s b, look s bx0 = some b → look s env.bx = some b)
    {o : Oper} {dst : Nat} {r : Res} (hr : opR T g ρ bx0 env.mp dst o.op = some r) (hs : r.side = true)
    {env' : Env} {d : D} (hm : memR env dst r = some (env', d)) : AfterN P c env' a w d (execOp a.eval o) := by
  have hv : ∀ x, RepT c env w ((fun x => unw g (ρ x)) x) (a.eval x) := fun x => repX_unw hg (hρ x)
  have hp : ∀ c0 t x, a.eval c0 = .bool t → RepT c env w ((fun c b x => unwp c b (unwk g (ρ x))) c0 t x) (a.eval x) := fun c0 t x hc => repT_unwp hc (repX_unwk hg (hρ x))
  unfold opR at hr
  generalize (fun x => unw g (ρ x)) = ve at hv hr
  generalize (fun c b x => unwp c b (unwk g (ρ x))) = pk at hp hr
  obtain ⟨odst, op, ty, pos, after, guard⟩ := o
  simp only at hr
  unfold opV at hr
  have pure_ : ∀ {d0 : D} {sd : Bool} {s : Sem Value}, r = { side := sd, d := d0 } → Yield P c env w d0 s → AfterN P c env' a w d (do pure (.value (← s))) := by
    intro d0 sd s e y
    subst e
    obtain ⟨rfl, rfl⟩ := memR_pure hm
    exact (y.after h).next
  have resB_ : ∀ {x : Option (Bool × D)} {s : Sem Value}, resB x = some r → (∀ sd d0, x = some (sd, d0) → sd = true → Yield P c env w d0 s) → AfterN P c env' a w d (do pure (.value (← s))) := by
    intro x s e y
    cases x with
    | none => cases e
    | some p =>
      obtain ⟨sd, d0⟩ := p
      simp only [resB, Option.map_some, Option.some.injEq] at e
      exact pure_ e.symm (y sd d0 rfl (by rw [← e] at hs; exact hs))
  have res_ : ∀ {x : Option D} {s : Sem Value}, res x = some r → (∀ d0, x = some d0 → Yield P c env w d0 s) → AfterN P c env' a w d (do pure (.value (← s))) := by
    intro x s e y
    cases x with
    | none => cases e
    | some d0 =>
      simp only [res, Option.map_some, Option.some.injEq] at e
      exact pure_ e.symm (y d0 rfl)
  cases op <;> (try simp only at hr) <;> first | (cases hr; done) | skip
  case move x =>
    simp only [ok, Option.some.injEq] at hr; subst hr
    obtain ⟨rfl, rfl⟩ := memR_pure hm
    exact ⟨a.eval x, w, c, rfl, .refl c, h, hv x⟩
  case assign x =>
    simp only [ok, Option.some.injEq] at hr; subst hr
    obtain ⟨rfl, rfl⟩ := memR_pure hm
    exact ⟨a.eval x, w, c, rfl, .refl c, h, hv x⟩
  case pick c0 x y =>
    split at hr
    · rename_i t b1 b2 e1 e2 e3
      simp only [ok, Option.some.injEq] at hr; subst hr
      obtain ⟨rfl, rfl⟩ := memR_pure hm
      have hc := hv c0
      rw [e1] at hc
      have hc := repT_bool hc
      refine ⟨if t then a.eval x else a.eval y, w, c, ?_, .refl c, h, ?_⟩
      · simp only [execOp]
        rw [hc]; cases t <;> simp [asBool]
      · cases t with
        | true =>
          have := hp c0 true x hc
          rw [e2] at this; simpa using this
        | false =>
          have := hp c0 false y hc
          rw [e3] at this; simpa using this
    · rename_i t b2 e1 e2 e3
      simp only [Option.some.injEq] at hr; subst hr
      obtain ⟨rfl, rfl⟩ := memR_pure hm
      have ht : t = false := by simpa using hs
      subst ht
      have hc := hv c0
      rw [e1] at hc
      have hc := repT_bool hc
      refine ⟨a.eval y, w, c, ?_, .refl c, h, ?_⟩
      · simp only [execOp]
        rw [hc]; simp [asBool]
      · have := hp c0 false y hc
        rw [e3] at this; simpa using this
    · rename_i t b1 e1 e2 e3
      simp only [Option.some.injEq] at hr; subst hr
      obtain ⟨rfl, rfl⟩ := memR_pure hm
      have ht : t = true := hs
      subst ht
      have hc := hv c0
      rw [e1] at hc
      have hc := repT_bool hc
      refine ⟨a.eval x, w, c, ?_, .refl c, h, ?_⟩
      · simp only [execOp]
        rw [hc]; simp [asBool]
      · have := hp c0 true x hc
        rw [e2] at this; simpa using this
    · cases hr
  case alloc t =>
    cases ht : T t with
    | none => rw [ht] at hr; cases hr
    | some e =>
      rw [ht] at hr
      simp only [Option.map_some, Option.some.injEq] at hr; subst hr
      simp only [memR, frzM, frzB] at hm
      cases hf : env.free dst with
      | false => rw [hf] at hm; cases hm
      | true =>
        rw [hf] at hm
        simp only [cond_true, Option.some.injEq, Prod.mk.injEq] at hm
        obtain ⟨rfl, rfl⟩ := hm
        exact (after_alloc h (hT t e ht) (free_spec hf).1 (free_spec hf).2).next
  case box t x =>
    cases ht : T t with
    | none => rw [ht] at hr; cases hr
    | some e =>
      rw [ht] at hr
      simp only at hr
      cases hgd : ((ve x).good && Nat.beq (ve x).cells.length e.size) with
      | false => rw [hgd] at hr; cases hr
      | true =>
      rw [hgd] at hr
      simp only [cond_true, Option.some.injEq] at hr; subst hr
      simp only [Bool.and_eq_true] at hgd
      simp only [memR, frzM, frzB] at hm
      cases hf : env.free dst with
      | false => rw [hf] at hm; cases hm
      | true =>
        rw [hf] at hm
        simp only [cond_true, Option.some.injEq, Prod.mk.injEq] at hm
        obtain ⟨rfl, rfl⟩ := hm
        exact (after_box (t := t) h (good_repV hgd.1 (hv x)) (free_spec hf).1 (free_spec hf).2).next
  case build t ps =>
    split at hr
    · rename_i e qs ht hq
      cases hb : buildD T e qs with
      | none => rw [hb] at hr; cases hr
      | some cs =>
        rw [hb] at hr
        simp only [Option.map_some, Option.some.injEq] at hr
        obtain ⟨hq', hpp⟩ := goods_repP (ρ := ve) hv hq
        have y := yield_build hT ht hpp (cs := cs) (by unfold buildD at hb; exact hb)
        have e1 : ps.map (fun p => (p.1, a.eval p.2)) = ⟨ps.toList.map fun p => (p.1, a.eval p.2)⟩ := by
          apply Array.ext'; simp
        have := pure_ hr.symm y
        rw [← e1] at this
        exact this
    · cases hr
  case buildSlice t n ps =>
    split at hr
    · rename_i qs hq
      obtain ⟨hq', hpp⟩ := goods_repP (ρ := ve) hv hq
      have e1 : ps.map (fun p => (p.1, a.eval p.2)) = ⟨ps.toList.map fun p => (p.1, a.eval p.2)⟩ := by
        apply Array.ext'; simp
      show AfterN P c env' a w d (do pure (.value (← Instr.buildSlice t n (ps.map fun p => (p.1, a.eval p.2)))))
      rw [e1]
      unfold buildSliceD at hr
      cases het : elemTy T t with
      | none => rw [het] at hr; cases hr
      | some p =>
        obtain ⟨u, eu⟩ := p
        rw [het] at hr
        simp only at hr
        cases hsz : (!Nat.ble (n * eu.size) 16777216 || Nat.beq eu.size 0) with
        | true => rw [hsz] at hr; cases hr
        | false =>
          rw [hsz] at hr
          simp only [Bool.or_eq_false_iff, Bool.not_eq_false', Nat.ble_eq, nbeq_f] at hsz
          simp only [cond_false] at hr
          cases hb : buildCells (fun i => some (i * eu.size, eu.size)) ((List.replicate n eu.zero.cells).flatten) qs with
          | none => rw [hb] at hr; cases hr
          | some cs =>
            rw [hb] at hr
            simp only at hr
            obtain ⟨hu, hk⟩ : T u = some eu ∧ P.underlying t = some (.slice u) := by
              exact elemTy_spec hT het
            cases hc : cloL env.mp cs with
            | none =>
              rw [hc] at hr
              simp only [Option.some.injEq] at hr; subst hr
              simp only [memR, frzM, frzB] at hm
              cases hf : env.free dst with
              | false => rw [hf] at hm; cases hm
              | true =>
                rw [hf] at hm
                simp only [cond_true, Option.some.injEq, Prod.mk.injEq] at hm
                obtain ⟨rfl, rfl⟩ := hm
                exact (after_buildLocal hT h hk hu hsz.1 hsz.2 hpp hb (free_spec hf).1 (free_spec hf).2).next
            | some cs' =>
              rw [hc] at hr
              simp only [Option.some.injEq] at hr; subst hr
              simp only [memR, frzB] at hm
              cases hf : frzM env.mp (cloM (.agg cs)) with
              | none => rw [hf] at hm; cases hm
              | some mp =>
                rw [hf] at hm
                simp only [Option.some.injEq, Prod.mk.injEq] at hm
                obtain ⟨rfl, rfl⟩ := hm
                exact (after_buildSlice hT h hk hu hsz.1 hsz.2 hpp hb hc hf).next
    · cases hr
  case load t x =>
    cases ht : T t with
    | none => rw [ht] at hr; cases hr
    | some e =>
      rw [ht] at hr
      exact res_ hr fun d0 hd => yield_loadAt (hT t e ht) h (hv x) (loadD_mono hbx hd)
  case nilCheck x =>
    split at hr
    · rename_i s off e
      simp only [ok, Option.some.injEq] at hr; subst hr
      obtain ⟨rfl, rfl⟩ := memR_pure hm
      have hx := hv x
      rw [e] at hx
      refine ⟨a.eval x, w, c, ?_, .refl c, h, hx⟩
      have := (repT_loc hx).2
      simp only [execOp, this]; rfl
    · rename_i d0 off e
      simp only [ok, Option.some.injEq] at hr; subst hr
      obtain ⟨rfl, rfl⟩ := memR_pure hm
      have hx := hv x
      rw [e] at hx
      refine ⟨a.eval x, w, c, ?_, .refl c, h, hx⟩
      obtain ⟨ad, h1, _⟩ := repT_eptr hx
      simp only [execOp, h1]; rfl
    · cases hr
  case binOp bop t x y z =>
    obtain ⟨h1, h2⟩ := yield_bin hT (hv x) (hv y) hr
    exact pure_ h1 (h2 hs)
  case unOp uop t x =>
    obtain ⟨h1, h2⟩ := yield_un (hv x) hr
    exact pure_ h1 h2
  case convert s t x => exact res_ hr fun d0 hd => yield_conv hT (hv x) hd
  case makeInterface t x =>
    cases ht : T t with
    | none => rw [ht] at hr; cases hr
    | some e =>
    rw [ht] at hr
    simp only at hr
    cases hn : e.kind.notIfc with
    | false => rw [hn] at hr; cases hr
    | true =>
    rw [hn, cond_true] at hr
    obtain ⟨td, htd, hni⟩ := notIfc_spec (hT t e ht) hn
    cases hc : clo env.mp (ve x) with
    | none => rw [hc] at hr; cases hr
    | some x' =>
      rw [hc] at hr
      simp only [Option.map_some, Option.some.injEq] at hr; subst hr
      simp only [memR, frzB] at hm
      cases hf : frzM env.mp (cloM (ve x)) with
      | none => rw [hf] at hm; cases hm
      | some mp =>
        rw [hf] at hm
        simp only [Option.some.injEq, Prod.mk.injEq] at hm
        obtain ⟨rfl, rfl⟩ := hm
        exact (after_iface h htd hni (hv x) hc hf).next
  case makeFunc fn first caps =>
    cases fn <;> (try simp only at hr) <;> first | (cases hr; done) | skip
    rename_i f
    cases h0 : Nat.beq first.size 0 with
    | false => rw [h0] at hr; cases hr
    | true =>
      rw [h0, cond_true] at hr
      have hfirst : first = #[] := Array.eq_empty_of_size_eq_zero (nbeq.1 h0)
      subst hfirst
      cases hl : allSome (caps.toList.map fun x => capD bx0 env.mp (ve x)) with
      | none => rw [hl] at hr; cases hr
      | some l =>
        rw [hl] at hr
        simp only [Option.some.injEq] at hr; subst hr
        simp only [memR] at hm
        cases hfm : frzM env.mp (l.flatMap (·.2.2)) with
        | none => rw [hfm] at hm; cases hm
        | some mp =>
          cases hfb : frzB env.bx (l.map (·.1)) with
          | none => rw [hfm, hfb] at hm; cases hm
          | some bx =>
            rw [hfm, hfb] at hm
            simp only [Option.some.injEq, Prod.mk.injEq] at hm
            obtain ⟨rfl, rfl⟩ := hm
            have e1 : caps.map a.eval = ⟨caps.toList.map a.eval⟩ := by apply Array.ext'; simp
            refine AfterN.of_run (s' := do pure (.value (← Instr.makeFunc (.func f) #[] ⟨caps.toList.map a.eval⟩))) (by rw [← e1]; simp [execOp]) ?_
            exact (after_makeFunc (P := P) h (ds := caps.toList.map ve) (all2_map hv caps.toList) (by rw [List.map_map]; exact allSome_mono (fun x r hx => capD_mono hbx hx) hl) hfm hfb).next
  case makeMap t r0 =>
    cases r0 with
    | some _ => cases hr
    | none =>
      simp only [Option.some.injEq] at hr; subst hr
      simp only [memR, frzM, frzB] at hm
      cases hf : env.free dst with
      | false => rw [hf] at hm; cases hm
      | true =>
        rw [hf] at hm
        simp only [cond_true, Option.some.injEq, Prod.mk.injEq] at hm
        obtain ⟨rfl, rfl⟩ := hm
        exact (after_makeMap h (free_spec hf).1 (free_spec hf).2).next
  case slice t x lo hi mx =>
    have ho : ∀ y : Option Operand, RepO c env w (y.map ve) (y.map a.eval) := fun y => by cases y <;> first | trivial | exact hv _
    exact resB_ hr fun sd d0 hd hsd => yield_slice hT (hv x) (ho lo) (ho hi) (ho mx) hd hsd
  case fieldAddr t x f => exact res_ hr fun d0 hd => yield_fieldAddr hT (hv x) hd
  case field t x f => exact res_ hr fun d0 hd => yield_field hT (hv x) hd
  case indexAddr t x i =>
    split at hr
    · rename_i k n e
      have hi := hv i
      rw [e] at hi
      refine resB_ hr fun sd d0 hd hsd => ?_
      rw [repT_int hi]
      exact yield_indexAddr hT (hv x) hd hsd
    · cases hr
  case index t x i =>
    split at hr
    · rename_i k n e
      have hi := hv i
      rw [e] at hi
      refine resB_ hr fun sd d0 hd hsd => ?_
      rw [repT_int hi]
      exact yield_index hT (hv x) hd hsd
    · cases hr
  case lookup t m k comma => exact resB_ hr fun sd d0 hd hsd => yield_lookup hT h (hv m) (hv k) hd hsd
  case extract x i =>
    split at hr
    · rename_i ds e
      have hx := hv x
      rw [e] at hx
      exact res_ hr fun d0 hd => yield_extract hx hd
    · cases hr
  case call cl =>
    obtain ⟨callee, args, argTypes⟩ := cl
    cases callee <;> (try simp only at hr) <;> first | (cases hr; done) | skip
    rename_i b
    cases b <;> (try simp only at hr) <;> first | (cases hr; done) | skip
    case append =>
      split at hr
      · rename_i x y t t' e1 e2
        cases htt : Nat.beq t t' with
        | false => rw [htt] at hr; cases hr
        | true =>
          obtain rfl := nbeq.1 htt
          rw [htt, cond_true] at hr
          have hx := hv x
          have hy := hv y
          unfold appendD at hr
          split at hr
          · rename_i st es xs st2 es2 ys u eu ex ey het
            rw [ex] at hx
            rw [ey] at hy
            obtain ⟨hu, hk⟩ := elemTy_spec hT het
            cases hb : ((Nat.beq es eu.size || (Nat.beq st 1 && xs.isEmpty)) && (Nat.beq es2 eu.size || ys.isEmpty)) with
            | false => rw [hb] at hr; cases hr
            | true =>
              rw [hb, cond_true, Option.some.injEq] at hr
              subst hr
              simp only [memR, frzM, frzB] at hm
              cases hcd : ((look (2 * dst + 3) env.us).isNone && !env.dd.contains (2 * dst + 3) && (Nat.beq st 1 || (Nat.ble 2 st && (look st env.us == some u) && !env.dd.contains st))) with
              | false => rw [hcd] at hm; cases hm
              | true =>
                rw [hcd] at hm
                simp only [cond_true, Option.some.injEq, Prod.mk.injEq] at hm
                obtain ⟨rfl, rfl⟩ := hm
                simp only [Bool.and_eq_true, Bool.or_eq_true, Option.isNone_iff_eq_none, Bool.not_eq_true', List.contains_eq_mem, decide_eq_false_iff_not, beq_iff_eq, Nat.ble_eq, nbeq, List.isEmpty_iff] at hcd hb
                have e3 : args = ⟨[x, y]⟩ := by apply Array.ext'; simpa using e1
                have e4 : argTypes = #[t, t] := by apply Array.ext'; simpa using e2
                subst e3; subst e4
                have := after_append hT h hk hu hx hy (hcd.2.imp id fun h => ⟨h.1.1, h.1.2, h.2⟩) hb.1 hb.2 (by omega) hcd.1.1 hcd.1.2 (of_decide_eq_true hs) ty
                exact AfterN.of_run (by rw [run_builtin, show (⟨[x, y]⟩ : Array Operand).map a.eval = #[a.eval x, a.eval y] from by simp]; rfl) this.next
          · cases hr
      · cases hr
    case len =>
      split at hr
      · rename_i x e1
        split at hr
        · rename_i t e2
          cases ht : T t with
          | none => rw [ht] at hr; cases hr
          | some e =>
            rw [ht] at hr
            simp only at hr
            have e3 : args = ⟨[x]⟩ := by apply Array.ext'; simpa using e1
            have e4 : argTypes = #[t] := by apply Array.ext'; simpa using e2
            subst e3; subst e4
            have := res_ (s := Builtin.len_ #[t] ty #[a.eval x]) hr fun d0 hd => by
              cases hl : lenD env.mp e (ve x) with
              | none => rw [hl] at hd; cases hd
              | some n =>
                rw [hl] at hd
                rw [← Option.some.inj hd]
                exact yield_len hT h ht (hv x) hl ty
            exact AfterN.of_run (by rw [run_builtin, show (⟨[x]⟩ : Array Operand).map a.eval = #[a.eval x] from by simp]; rfl) this
        · cases hr
      · cases hr
    case min =>
      split at hr
      · rename_i k x k' y e1
        cases hk : (k == k') with
        | false => rw [hk] at hr; cases hr
        | true =>
          obtain rfl := eq_of_beq hk
          rw [hk, cond_true] at hr
          simp only [ok, Option.some.injEq] at hr; subst hr
          obtain ⟨rfl, rfl⟩ := memR_pure hm
          obtain ⟨ax, ay, e2, hx, hy⟩ := two_args hv e1
          refine ⟨.int k (if y < x then y else x), w, c, ?_, .refl c, h, ?_⟩
          · rw [run_builtin, e2]
            simp [builtin, Builtin.min_, repT_int hx, repT_int hy, Builtin.min2]
          · simp [RepT, RepV, RepC, Rep]
      · cases hr
    case max =>
      split at hr
      · rename_i k x k' y e1
        cases hk : (k == k') with
        | false => rw [hk] at hr; cases hr
        | true =>
          obtain rfl := eq_of_beq hk
          rw [hk, cond_true] at hr
          simp only [ok, Option.some.injEq] at hr; subst hr
          obtain ⟨rfl, rfl⟩ := memR_pure hm
          obtain ⟨ax, ay, e2, hx, hy⟩ := two_args hv e1
          refine ⟨.int k (if y > x then y else x), w, c, ?_, .refl c, h, ?_⟩
          · rw [run_builtin, e2]
            simp [builtin, Builtin.max_, repT_int hx, repT_int hy, Builtin.max2]
          · simp [RepT, RepV, RepC, Rep]
      · cases hr
end

end Go.Proofs.Ytndijidmabfhcaa.Fw

/- What is laid into local variables, and into local maps. -/
namespace Go.Proofs.Ytndijidmabfhcaa.Fw
open Go Go.RowKit

/-- A value laid into a local variable. -/
def storeR (T : Ty) (env : Env) (t : Nat) (x d : D) : Option Env :=
  match x, T t with
  | .loc s off, some e => match look s env.bx with
    | some b => bif d.good && Nat.beq d.cells.length e.size && !b.frozen && Nat.ble (off + e.size) b.cells.length then some { env with bx := (s, { b with cells := splice b.cells off d.cells }) :: env.bx } else none
    | none => none
  | _, _ => none

/-- An entry of a local map. -/
def mapUpR (T : Ty) (env : Env) (t : Nat) (m k x : D) : Option (Bool × Env) :=
  match m, T t with
  | .mapr s, some e => match e.kind with
    | .mp q _ => match look s env.mp, T q, clo env.mp x, cloM x with
      | some mc, some _, some x', [] => bif mc.frozen || !k.good then none else match clo env.mp k, cloM k with
        | some k', [] => some (keysFit T q k' mc.ks, { env with mp := (s, { mc with ks := (putD k' x' mc.ks mc.vs).1, vs := (putD k' x' mc.ks mc.vs).2 }) :: env.mp })
        | _, _ => none
      | _, _, _, _ => none
    | _ => none
  | _, _ => none

section
variable {P : Program} {T : Ty} {c : Ctx} {env : Env} {a : Act} {w : World}

/-- A step that changes one block that is a local's own. -/
theorem Step.own1 (h : St c env a w) {s : Nat} (hs : env.blk s) (hI : ∀ o, ¬ c.I (c.ρ s) o) {env' : Env} {w' : World} (hw : ∀ k, k ≠ c.ρ s → w'.heap[k]? = w.heap[k]?)
    (hb : ∀ s, (look s env.bx).isSome = true → (look s env'.bx).isSome = true) (hm : ∀ s, (look s env.mp).isSome = true → (look s env'.mp).isSome = true) (hu : env'.us = env.us) (hd : env'.dd = env.dd) : Step c env w c env' w' := by
  refine ⟨⟨fun _ _ h => h, fun x u hi hu => ?_, fun r es k hi hr => ?_⟩, fun s h => ⟨hb s h, rfl⟩, fun s h => ⟨hm s h, rfl⟩, fun _ _ h => by rw [hu]; exact h, fun _ h => by rw [hd]; exact h, fun st hl _ => ⟨rfl, fun g hg => ⟨?_, fun _ h => h⟩⟩⟩
  · exact (World.cell?_of_block (hw _ fun e => hI _ (e ▸ hi))).trans hu
  · exact (hw _ fun e => hI _ (e ▸ hi)).trans hr
  · exact hw _ fun e => (h.ownAbove st g hl hg).2.2 s hs e.symm

theorem St.setBox (h : St c env a w) {s : Nat} {b : BoxC} (hb : look s env.bx = some b) (hf : b.frozen = false) {cells : List D} {vs vs' : List Value} {e : TypeId} (hh : w.heap[c.ρ s]? = some (.cells ⟨vs⟩ e (0, 0))) (hv : All2 (RepC c env w) cells vs') :
    St c { env with bx := (s, { b with cells := cells }) :: env.bx } a (w.setRow (c.ρ s) ⟨vs'⟩) := by
  have hs : env.blk s := .inl (by rw [hb]; rfl)
  obtain ⟨_, _, _, _, _, hI⟩ := h.bx s b hb
  have hI := hI hf
  have hw : ∀ k, k ≠ c.ρ s → (w.setRow (c.ρ s) ⟨vs'⟩).heap[k]? = w.heap[k]? := fun k hk => setRow_other w _ k _ hk
  have hbk : ∀ s', (look s' ((s, { b with cells := cells }) :: env.bx)).isSome = (look s' env.bx).isSome := fun s' => by
    rw [look_cons]; split
    · rename_i e; subst e; rw [hb]; rfl
    · rfl
  have S : Step c env w c { env with bx := (s, { b with cells := cells }) :: env.bx } (w.setRow (c.ρ s) ⟨vs'⟩) :=
    Step.own1 h hs hI hw (fun s' h' => by rw [hbk]; exact h') (fun _ h' => h') rfl rfl
  have hblk : ∀ s', Env.blk { env with bx := (s, { b with cells := cells }) :: env.bx } s' ↔ env.blk s' := fun s' => by
    unfold Env.blk; simp only [hbk]
  have hsz : (w.setRow (c.ρ s) ⟨vs'⟩).heap.size = w.heap.size := by simp
  refine ⟨h.nt, h.df, fun t d hd => S.repT (h.tm t d hd), fun t d hd => (h.wt t d hd).step S, ?_, ?_, fun s1 s2 h1 h2 e => h.inj s1 s2 ((hblk _).1 h1) ((hblk _).1 h2) e, fun s1 h1 => h.above s1 ((hblk _).1 h1), fun s1 h1 => by rw [hsz]; exact h.lt s1 ((hblk _).1 h1), h.ownInj,
    fun st g hl hg => ⟨(h.ownAbove st g hl hg).1, by rw [hsz]; exact (h.ownAbove st g hl hg).2.1, fun s1 h1 => (h.ownAbove st g hl hg).2.2 s1 ((hblk _).1 h1)⟩, fun b o hi => by rw [hsz]; exact h.im b o hi, h.im0.trans S.keeps, h.imNew, ?_, h.gh.1, S.fix h.gh.2⟩
  · intro s' b' hs'
    rw [look_cons] at hs'
    split at hs'
    · rename_i e'; subst e'; cases hs'
      exact ⟨vs', e, setRow_heap w _ _ _ _ _ hh, hv.mono fun _ _ => S.repC, (fun hf' => by rw [hf] at hf'; cases hf'), fun _ => hI⟩
    · rename_i hne
      exact (h.bx s' b' hs').step S rfl (hw _ fun e => hne (h.inj s' s (.inl (by rw [hs']; rfl)) hs e).symm) (fun _ x => x)
  · intro s' m hs'
    refine (h.mp s' m hs').step S rfl (hw _ fun e => ?_) (fun _ x => x)
    have := h.inj s' s (.inr (by rw [hs']; rfl)) hs e
    subst this
    obtain ⟨_, _, h1, _⟩ := h.mp s' m hs'
    rw [h1] at hh; cases hh
  · exact h.base.trans ⟨rfl, rfl, rfl, by simp, fun k hk => hw k (fun e => hk (e ▸ h.above s hs))⟩

theorem St.store (hT : TyOK P T) (h : St c env a w) {t : Nat} {x d : D} {vx vd : Value} (hx : RepT c env w x vx) (hd : RepT c env w d vd) {env' : Env} (hr : storeR T env t x d = some env') :
    ∃ w', (Instr.storeAt t vx vd).run P w = .ok () w' ∧ St c env' a w' := by
  unfold storeR at hr
  split at hr
  · rename_i s off e ht
    obtain ⟨_, rfl⟩ := repT_loc hx
    cases hb : look s env.bx with
    | none => rw [hb] at hr; cases hr
    | some b =>
      rw [hb] at hr
      simp only at hr
      cases hc : (d.good && Nat.beq d.cells.length e.size && !b.frozen && Nat.ble (off + e.size) b.cells.length) with
      | false => rw [hc] at hr; cases hr
      | true =>
        rw [hc, cond_true, Option.some.injEq] at hr
        subst hr
        simp only [Bool.and_eq_true, Bool.not_eq_true', Nat.ble_eq, nbeq] at hc
        obtain ⟨⟨⟨hg, hl⟩, hf⟩, hle⟩ := hc
        obtain ⟨us, hus, hu⟩ := repV_cells (good_repV hg hd)
        obtain ⟨vs, el, hh, hv, _, _⟩ := h.bx s b hb
        have l1 := hu.length
        have l2 := hv.length
        refine ⟨w.setRow (c.ρ s) ⟨vs.take off ++ us ++ vs.drop (off + us.length)⟩, ?_, h.setBox hb hf hh ?_⟩
        · have hst := run_storeCells_at P (c.ρ s) off el us 0 ⟨vs⟩ w hh (by simp; omega) (fun u hu' => by
            obtain ⟨j, hj⟩ := List.getElem?_of_mem hu'
            have : ∀ {ds : List D} {us : List Value}, All2 (RepC c env w) ds us → ∀ u ∈ us, u.oneCell' = true := by
              intro ds
              induction ds with
              | nil => intro us h u hm; cases us with
                | nil => cases hm
                | cons _ _ => exact h.elim
              | cons d ds ih => intro us h u hm; cases us with
                | nil => cases hm
                | cons v vs => rcases List.mem_cons.1 hm with rfl | hm
                               · exact repC_one h.1
                               · exact ih h.2 u hm
            exact this hu u hu')
          simp only [Nat.add_zero] at hst
          have hsz := (hT t e ht).size w
          simp [Instr.storeAt, Instr.sureAddr, storeVar, hus, hsz, hst, show us.length = e.size from by omega]
        · unfold splice
          rw [l1]
          exact ((hv.take off).append hu).append (hv.drop _)
  · cases hr

theorem St.setMap (h : St c env a w) {s : Nat} {m m' : MapC} (hb : look s env.mp = some m) (hf : m.frozen = false) (hf' : m'.frozen = false) {es es' : Array MapEntry} {ck ck' : Nat} (hh : w.heap[c.ρ s]? = some (.map es ck))
    {w' : World} (hw' : w'.heap[c.ρ s]? = some (.map es' ck')) (hw : ∀ k, k ≠ c.ρ s → w'.heap[k]? = w.heap[k]?) (hsz : w'.heap.size = w.heap.size) (hbel : w'.os = w.os ∧ w'.tape = w.tape ∧ w'.output = w.output)
    (h1 : RepL c.I w m'.ks (es'.toList.map (·.key))) (h2 : RepL c.I w m'.vs (es'.toList.map (·.val))) (h3 : m'.vs.all D.isVal = true) :
    St c { env with mp := (s, m') :: env.mp } a w' := by
  have hs : env.blk s := .inr (by rw [hb]; rfl)
  obtain ⟨_, _, _, _, _, _, _, hI⟩ := h.mp s m hb
  have hI := hI hf
  have hbk : ∀ s', (look s' ((s, m') :: env.mp)).isSome = (look s' env.mp).isSome := fun s' => by
    rw [look_cons]; split
    · rename_i e; subst e; rw [hb]; rfl
    · rfl
  have S : Step c env w c { env with mp := (s, m') :: env.mp } w' :=
    Step.own1 h hs hI hw (fun _ h' => h') (fun s' h' => by rw [hbk]; exact h') rfl rfl
  have hblk : ∀ s', Env.blk { env with mp := (s, m') :: env.mp } s' ↔ env.blk s' := fun s' => by
    unfold Env.blk; simp only [hbk]
  refine ⟨h.nt, h.df, fun t d hd => S.repT (h.tm t d hd), fun t d hd => (h.wt t d hd).step S, ?_, ?_, fun s1 s2 h1 h2 e => h.inj s1 s2 ((hblk _).1 h1) ((hblk _).1 h2) e, fun s1 h1 => h.above s1 ((hblk _).1 h1), fun s1 h1 => by rw [hsz]; exact h.lt s1 ((hblk _).1 h1), h.ownInj,
    fun st g hl hg => ⟨(h.ownAbove st g hl hg).1, by rw [hsz]; exact (h.ownAbove st g hl hg).2.1, fun s1 h1 => (h.ownAbove st g hl hg).2.2 s1 ((hblk _).1 h1)⟩, fun b o hi => by rw [hsz]; exact h.im b o hi, h.im0.trans S.keeps, h.imNew, ?_, h.gh.1, S.fix h.gh.2⟩
  · intro s' b' hs'
    refine (h.bx s' b' hs').step S rfl (hw _ fun e => ?_) (fun _ x => x)
    have := h.inj s' s (.inl (by rw [hs']; rfl)) hs e
    subst this
    obtain ⟨_, _, h1, _⟩ := h.bx s' b' hs'
    rw [h1] at hh; cases hh
  · intro s' b' hs'
    rw [look_cons] at hs'
    split at hs'
    · rename_i e'; subst e'; cases hs'
      exact ⟨es', ck', hw', RepL.keeps S.keeps _ _ h1, RepL.keeps S.keeps _ _ h2, h3, (fun hf2 => by rw [hf'] at hf2; cases hf2), fun _ => hI⟩
    · rename_i hne
      exact (h.mp s' b' hs').step S rfl (hw _ fun e => hne (h.inj s' s (.inr (by rw [hs']; rfl)) hs e).symm) (fun _ x => x)
  · exact h.base.trans ⟨hbel.1, hbel.2.1, hbel.2.2, by omega, fun k hk => hw k (fun e => hk (e ▸ h.above s hs))⟩

def putObj (w : World) (g : Nat) (o : Obj) : World := { w with heap := w.heap.setIfInBounds g o }
theorem putObj_at {g : Nat} {o o' : Obj} (h : w.heap[g]? = some o) : (putObj w g o').heap[g]? = some o' := by
  simp [putObj, (Array.getElem?_eq_some_iff.1 h).1]
theorem putObj_other {g k : Nat} {o : Obj} (h : k ≠ g) : (putObj w g o).heap[k]? = w.heap[k]? := by
  simp [putObj, Ne.symm h]

theorem run_keyThatStays (v : Value) : (Instr.keyThatStays v v).run P w = .ok v w ∨ (Instr.keyThatStays v v).run P w = .ok v w.drew := by
  unfold Instr.keyThatStays
  cases Instr.sameBits 10000 v v with
  | true => left; simp
  | false =>
    right
    simp [Question.forced]
theorem all2_set {α β : Type} {R : α → β → Prop} : ∀ {as : List α} {bs : List β} (i : Nat) {a : α} {b : β}, All2 R as bs → R a b → All2 R (as.set i a) (bs.set i b)
  | [], [], _, _, _, _, _ => trivial
  | _ :: _, _ :: _, 0, _, _, h, r => ⟨r, h.2⟩
  | _ :: _, _ :: _, i + 1, _, _, h, r => ⟨h.1, all2_set i h.2 r⟩
  | [], _ :: _, _, _, _, h, _ => h.elim
  | _ :: _, [], _, _, _, h, _ => h.elim

theorem St.mapUp (hT : TyOK P T) (h : St c env a w) {t : Nat} {m k x : D} {vm vk vx : Value} (hm : RepT c env w m vm) (hk : RepT c env w k vk) (hx : RepT c env w x vx) {env' : Env} (hr : mapUpR T env t m k x = some (true, env')) :
    ∃ w', (Instr.mapUpdate t vm vk vx).run P w = .ok () w' ∧ St c env' a w' := by
  unfold mapUpR at hr
  split at hr
  · rename_i s e ht
    obtain ⟨_, rfl⟩ : (look s env.mp).isSome = true ∧ vm = .map (some (c.ρ s)) := hm
    have hK := (hT t e ht).kind
    split at hr
    · rename_i q u hkd
      rw [hkd] at hK
      simp only [KindOK] at hK
      split at hr
      · rename_i mc eq x' hb hq hcx hcm
        cases hfz : (mc.frozen || !k.good) with
        | true => rw [hfz] at hr; cases hr
        | false =>
          rw [hfz, cond_false] at hr
          simp only [Bool.or_eq_false_iff, Bool.not_eq_false'] at hfz
          split at hr
          · rename_i k' hck hckm
            simp only [Option.some.injEq, Prod.mk.injEq] at hr
            obtain ⟨hfit, rfl⟩ := hr
            obtain ⟨es, ck, hh, h1, h2, h3, _, _⟩ := h.mp s mc hb
            have hxv : RepV c env w x vx := by cases x <;> first | exact hx | (simp only [clo] at hcx; cases hcx)
            obtain ⟨gx, gxv⟩ := clo_val h hxv hcx (fun s hs => by rw [hcm] at hs; cases hs)
            obtain ⟨gk, gkv⟩ := clo_val h (good_repV hfz.2 hk) hck (fun s hs => by rw [hckm] at hs; cases hs)
            have hlen : mc.ks.length = mc.vs.length := by rw [len_repL h1, len_repL h2]; simp
            have hks := all2_keys.1 h1
            have hvs := all2_vals.1 h2
            have hkV : RepV c env w k' vk := rep_repV gkv gk
            obtain ⟨hfind, hchk, hsame⟩ := run_findKey hT hq hkV hks hfit
            have hput := putD_eq (k := k') (v := x') hlen
            cases hi : mc.ks.findIdx? (eqKey k') with
            | none =>
              rw [hi] at hfind hput
              simp only [Option.bind_none] at hfind
              refine ⟨putObj w (c.ρ s) (.map (es.push { key := vk, val := vx, born := ck }) (ck + 1)), ?_, ?_⟩
              · simp [Instr.mapUpdate, run_underlying hK, getObj, Sem.run, hh, hchk, hfind, setObj, putObj]
              · rw [hput]
                refine h.setMap (m' := { mc with ks := mc.ks ++ [k'], vs := mc.vs ++ [x'] }) hb hfz.1 hfz.1 hh (putObj_at hh) (fun k hk => putObj_other hk) (by simp [putObj]) ⟨rfl, rfl, rfl⟩ ?_ ?_ ?_
                · rw [all2_repL, Array.toList_push, List.map_append]
                  exact (all2_repL.1 h1).append ⟨gk, trivial⟩
                · rw [all2_repL, Array.toList_push, List.map_append]
                  exact (all2_repL.1 h2).append ⟨gx, trivial⟩
                · simp only [List.all_append, List.all_cons, List.all_nil, Bool.and_true, Bool.and_eq_true]; exact ⟨h3, gxv⟩
            | some i =>
              rw [hi] at hfind hput
              obtain ⟨k0, hk0, hek⟩ : ∃ k0, mc.ks[i]? = some k0 ∧ eqKey k' k0 = true := by
                obtain ⟨h4, h5, _⟩ := List.findIdx?_eq_some_iff_getElem.1 hi
                exact ⟨_, List.getElem?_eq_getElem h4, h5⟩
              obtain ⟨en, hen, hken⟩ := hsame.get i k0 hk0
              have hkey : vk = en.key := by
                rw [hek] at hken
                simpa [isKey] using hken.symm
              have hen' : es[i]? = some en := by simpa using hen
              simp only [Option.bind_some, hen, Option.map_some] at hfind
              have hmod1 : ((es.modify i fun e => { e with key := vk, val := vx }).toList.map (·.key)) = (es.toList.map (·.key)).set i vk := by
                apply List.ext_getElem?; intro j
                simp only [Array.toList_modify, List.getElem?_map, List.getElem?_modify, List.getElem?_set, List.length_map]
                by_cases e : i = j
                · subst e
                  have hl := (List.getElem?_eq_some_iff.1 hen).1
                  simp [hen]; simpa using hl
                · simp [e]
              have hmod2 : ((es.modify i fun e => { e with key := vk, val := vx }).toList.map (·.val)) = (es.toList.map (·.val)).set i vx := by
                apply List.ext_getElem?; intro j
                simp only [Array.toList_modify, List.getElem?_map, List.getElem?_modify, List.getElem?_set, List.length_map]
                by_cases e : i = j
                · subst e
                  have hl := (List.getElem?_eq_some_iff.1 hen).1
                  simp [hen]; simpa using hl
                · simp [e]
              have fin : ∀ w1 : World, w1.heap = w.heap → (w1.os = w.os ∧ w1.tape = w.tape ∧ w1.output = w.output) → St c { env with mp := (s, { mc with ks := (putD k' x' mc.ks mc.vs).1, vs := (putD k' x' mc.ks mc.vs).2 }) :: env.mp } a (putObj w1 (c.ρ s) (.map (es.modify i fun e => { e with key := vk, val := vx }) ck)) := by
                intro w1 hw1 hos
                rw [hput]
                refine h.setMap (m' := { mc with ks := mc.ks.set i k', vs := mc.vs.set i x' }) hb hfz.1 hfz.1 hh (putObj_at (by rw [hw1]; exact hh)) (fun k hk => by rw [putObj_other hk, hw1]) (by simp [putObj, hw1]) hos ?_ ?_ ?_
                · rw [hmod1, all2_repL]; exact all2_set i (all2_repL.1 h1) gk
                · rw [hmod2, all2_repL]; exact all2_set i (all2_repL.1 h2) gx
                · rw [List.all_eq_true] at h3 ⊢
                  intro y hy
                  rcases List.mem_or_eq_of_mem_set hy with hy | rfl
                  · exact h3 y hy
                  · exact gxv
              have hold : ((Option.map (fun x => x.key) es[i]?).getD vk) = vk := by rw [hen']; exact hkey.symm
              rcases run_keyThatStays (P := P) (w := w) vk with hs | hs
              · refine ⟨_, ?_, fin w rfl ⟨rfl, rfl, rfl⟩⟩
                simp [Instr.mapUpdate, run_underlying hK, getObj, Sem.run, hh, hchk, hfind, setObj, putObj, hold, hs]
              · refine ⟨_, ?_, fin w.drew rfl ⟨rfl, rfl, rfl⟩⟩
                have hh' : w.drew.heap[c.ρ s]? = some (.map es ck) := hh
                simp [hh', Instr.mapUpdate, run_underlying hK, getObj, Sem.run, hh, hchk, hfind, setObj, putObj, hold, hs]
          · cases hr
      · cases hr
    · cases hr
  · cases hr
end

end Go.Proofs.Ytndijidmabfhcaa.Fw

/- What code does, over plain data: regions, branches, loops, calls. Definitions. -/
namespace Go.Proofs.Ytndijidmabfhcaa.Fw
open Go Go.RowKit

/-- A function that can be entered. -/
def FnOK (P : Program) (f : Nat) : Prop := ∃ fn, P.funcs[f]? = some fn ∧ fn.name ≠ "runtime.NumGoroutine" ∧ fn.body.isNone = false

/-- A call of f with this data returns that data, and changes nothing. -/
def CallsTo (P : Program) (f : Nat) (ds : List D) (d : D) : Prop :=
  FnOK P f ∧ ∀ (I : Im) (w : World) (vs : List Value), (∀ b o, I b o → b < w.heap.size) → RepL I w ds vs →
    Calls P f ⟨vs⟩ w fun e w' => ∃ v I', e = .returned v ∧ (∀ b o, I b o → I' b o) ∧ (∀ b o, I' b o → I b o ∨ w.heap.size ≤ b) ∧ (∀ b o, I' b o → b < w'.heap.size) ∧ Rep I' w' d v ∧ Below w.heap.size w w'

/-- Under which slot's value an operation is done. -/
def gslot (ops : Array Oper) (o : Oper) : Option (Option (Nat × Bool)) :=
  match o.guard with
  | none => some none
  | some (j, b) => match ops[j]? with
    | some p => match p.dst with
      | some s => some (some (s, b))
      | none => none
    | none => none

/-- What is known where a guard holds, of the slots that may be asked. -/
def gcond (ok : Nat → Bool) : Nat → List (Nat × D) → List (Nat × D) → Option (Nat × Bool) → Prop
  | 0, _, _, _ => True
  | _ + 1, _, _, none => True
  | n + 1, wt, tm, some (s, b) => match ok s with
    | false => True
    | true => match look s wt with
      | some (.wh s' b' d) => (match d with | .bool x => x = b | _ => True) ∧ gcond ok n wt tm (some (s', b'))
      | some _ => True
      | none => match look s tm with
        | some (.bool x) => x = b
        | _ => True

def Res.plain (r : Res) : Bool := r.bx.isNone && r.mp.isNone && r.own.isNone && r.fz.isEmpty && r.fm.isEmpty

/-- The state after an operation. -/
def memG (env : Env) (dst : Nat) (g : Option (Nat × Bool)) (r : Res) : Option Env :=
  match g with
  | none => match memR env dst r with
    | some (env1, d) => env1.set dst none d
    | none => none
  | some _ => bif r.plain then env.set dst g r.d else none

def callD (v : Operand → D) (mp : List (Nat × MapC)) (c : Call) : Option (Nat × List D × List Nat) :=
  match c.callee with
  | .value f => match v f with
    | .fn fid caps => match cloL mp (c.args.toList.map v) with
      | some ds => some (fid, ds ++ caps, (c.args.toList.map v).flatMap cloM)
      | none => none
    | _ => none
  | _ => none

/-! ### What is known is written out before one goes on -/
def fNat (n : Nat) (K : Nat → Prop) : Prop := match n with | 0 => K 0 | m + 1 => K (m + 1)
theorem fNat_iff (n : Nat) (K : Nat → Prop) : fNat n K ↔ K n := by cases n <;> exact Iff.rfl
mutual
def fD : D → (D → Prop) → Prop
  | .int k n, K => K (.int k n)
  | .bool b, K => K (.bool b)
  | .str l, K => K (.str l)
  | .agg cs, K => fL cs fun cs => K (.agg cs)
  | .tup cs, K => fL cs fun cs => K (.tup cs)
  | .sl st es xs, K => fNat st fun st => fNat es fun es => K (.sl st es xs)
  | .eptr d o, K => fNat o fun o => K (.eptr d o)
  | .nilp, K => K .nilp
  | .fn f cs, K => K (.fn f cs)
  | .nilf, K => K .nilf
  | .ifc t d, K => K (.ifc t d)
  | .nili, K => K .nili
  | .mapv ks vs, K => K (.mapv ks vs)
  | .nilm, K => K .nilm
  | .yld l, K => K (.yld l)
  | .loc s o, K => fNat s fun s => fNat o fun o => K (.loc s o)
  | .lsl s o n, K => fNat s fun s => fNat o fun o => fNat n fun n => K (.lsl s o n)
  | .mapr s, K => fNat s fun s => K (.mapr s)
  | .wh s w d, K => fD d fun d => K (.wh s w d)
  | .undef, K => K .undef
def fL : List D → (List D → Prop) → Prop
  | [], K => K []
  | d :: ds, K => fD d fun d => fL ds fun ds => K (d :: ds)
end
mutual
theorem fD_iff : ∀ (d : D) (K : D → Prop), fD d K ↔ K d
  | .agg cs, K | .tup cs, K => by simp only [fD]; exact fL_iff cs _
  | .wh s w d, K => by simp only [fD]; exact fD_iff d _
  | .int _ _, _ | .bool _, _ | .str _, _ | .nilp, _ | .fn _ _, _ | .nilf, _ | .ifc _ _, _ | .nili, _ | .mapv _ _, _ | .nilm, _ | .yld _, _ | .undef, _ => by simp only [fD]
  | .sl _ _ _, _ | .eptr _ _, _ | .loc _ _, _ | .lsl _ _ _, _ | .mapr _, _ => by simp only [fD, fNat_iff]
theorem fL_iff : ∀ (ds : List D) (K : List D → Prop), fL ds K ↔ K ds
  | [], K => by simp only [fL]
  | d :: ds, K => by
    simp only [fL]
    exact (fD_iff d _).trans (fL_iff ds _)
end
def fT : List (Nat × D) → (List (Nat × D) → Prop) → Prop
  | [], K => K []
  | (t, d) :: l, K => fNat t fun t => fD d fun d => fT l fun l => K ((t, d) :: l)
theorem fT_iff : ∀ (l : List (Nat × D)) (K : List (Nat × D) → Prop), fT l K ↔ K l
  | [], _ => Iff.rfl
  | (t, d) :: l, _ => (fNat_iff t _).trans ((fD_iff d _).trans (fT_iff l _))
def fBool (b : Bool) (K : Bool → Prop) : Prop := match b with | true => K true | false => K false
theorem fBool_iff (b : Bool) (K : Bool → Prop) : fBool b K ↔ K b := by cases b <;> exact Iff.rfl
def fB : List (Nat × BoxC) → (List (Nat × BoxC) → Prop) → Prop
  | [], K => K []
  | (t, ⟨cs, ag, fz⟩) :: l, K => fNat t fun t => fL cs fun cs => fBool ag fun ag => fBool fz fun fz => fB l fun l => K ((t, ⟨cs, ag, fz⟩) :: l)
theorem fB_iff : ∀ (l : List (Nat × BoxC)) (K : List (Nat × BoxC) → Prop), fB l K ↔ K l
  | [], _ => Iff.rfl
  | (t, ⟨cs, ag, fz⟩) :: l, _ => (fNat_iff t _).trans ((fL_iff cs _).trans ((fBool_iff ag _).trans ((fBool_iff fz _).trans (fB_iff l _))))
def fM : List (Nat × MapC) → (List (Nat × MapC) → Prop) → Prop
  | [], K => K []
  | (t, ⟨ks, vs, fz⟩) :: l, K => fNat t fun t => fBool fz fun fz => fM l fun l => K ((t, ⟨ks, vs, fz⟩) :: l)
theorem fM_iff : ∀ (l : List (Nat × MapC)) (K : List (Nat × MapC) → Prop), fM l K ↔ K l
  | [], _ => Iff.rfl
  | (t, ⟨_, _, fz⟩) :: l, _ => (fNat_iff t _).trans ((fBool_iff fz _).trans (fM_iff l _))
def fU : List (Nat × Nat) → (List (Nat × Nat) → Prop) → Prop
  | [], K => K []
  | (t, u) :: l, K => fNat t fun t => fNat u fun u => fU l fun l => K ((t, u) :: l)
theorem fU_iff : ∀ (l : List (Nat × Nat)) (K : List (Nat × Nat) → Prop), fU l K ↔ K l
  | [], _ => Iff.rfl
  | (t, u) :: l, _ => (fNat_iff t _).trans ((fNat_iff u _).trans (fU_iff l _))
def fN : List Nat → (List Nat → Prop) → Prop
  | [], K => K []
  | t :: l, K => fNat t fun t => fN l fun l => K (t :: l)
theorem fN_iff : ∀ (l : List Nat) (K : List Nat → Prop), fN l K ↔ K l
  | [], _ => Iff.rfl
  | t :: l, _ => (fNat_iff t _).trans (fN_iff l _)
def fY (y : Option (Nat × List (List D))) (K : Option (Nat × List (List D)) → Prop) : Prop :=
  match y with
  | none => K none
  | some (l, xs) => K (some (l, xs))
theorem fY_iff (y : Option (Nat × List (List D))) (K : Option (Nat × List (List D)) → Prop) : fY y K ↔ K y := by
  match y with
  | none => exact Iff.rfl
  | some (l, xs) => exact Iff.rfl
def fE (env : Env) (K : Env → Prop) : Prop :=
  match env with
  | ⟨nt, tm, wt, bx, mp, us, dd, ys⟩ => fNat nt fun nt => fT tm fun tm => fT wt fun wt => fB bx fun bx => fM mp fun mp => fU us fun us => fN dd fun dd => fY ys fun ys => K ⟨nt, tm, wt, bx, mp, us, dd, ys⟩
theorem fE_iff (env : Env) (K : Env → Prop) : fE env K ↔ K env := by
  obtain ⟨nt, tm, wt, bx, mp, us, dd, ys⟩ := env
  simp only [fE, fNat_iff, fT_iff, fB_iff, fM_iff, fU_iff, fN_iff, fY_iff]

/-- Likewise of what has come last: the rest is written out already. -/
def fC {α : Type} (l : List α) (K : List α → Prop) : Prop := match l with
  | [] => K []
  | p :: l => K (p :: l)
theorem fC_iff {α : Type} (l : List α) (K : List α → Prop) : fC l K ↔ K l := by cases l <;> exact Iff.rfl
def f1T : List (Nat × D) → (List (Nat × D) → Prop) → Prop
  | [], K => K []
  | (t, d) :: l, K => fNat t fun t => fD d fun d => fC l fun l => K ((t, d) :: l)
theorem f1T_iff : ∀ (l : List (Nat × D)) (K : List (Nat × D) → Prop), f1T l K ↔ K l
  | [], _ => Iff.rfl
  | (t, d) :: _, _ => by simp only [f1T, fNat_iff, fD_iff, fC_iff]
def f1B : List (Nat × BoxC) → (List (Nat × BoxC) → Prop) → Prop
  | [], K => K []
  | (t, ⟨cs, ag, fz⟩) :: l, K => fNat t fun t => fL cs fun cs => fBool ag fun ag => fBool fz fun fz => fC l fun l => K ((t, ⟨cs, ag, fz⟩) :: l)
theorem f1B_iff : ∀ (l : List (Nat × BoxC)) (K : List (Nat × BoxC) → Prop), f1B l K ↔ K l
  | [], _ => Iff.rfl
  | (t, ⟨cs, ag, fz⟩) :: _, _ => by simp only [f1B, fNat_iff, fL_iff, fBool_iff, fC_iff]
def fE1 (env : Env) (K : Env → Prop) : Prop :=
  match env with
  | ⟨nt, tm, wt, bx, mp, us, dd, ys⟩ => fNat nt fun nt => f1T tm fun tm => f1T wt fun wt => f1B bx fun bx => fM mp fun mp => fU us fun us => fN dd fun dd => fY ys fun ys => K ⟨nt, tm, wt, bx, mp, us, dd, ys⟩
theorem fE1_iff (env : Env) (K : Env → Prop) : fE1 env K ↔ K env := by
  obtain ⟨nt, tm, wt, bx, mp, us, dd, ys⟩ := env
  simp only [fE1, fNat_iff, f1T_iff, f1B_iff, fM_iff, fU_iff, fN_iff, fY_iff]

/-- What is asked of an operation ahead of what comes behind it. -/
def sideB (s : Bool) (gc K : Prop) : Prop :=
  match s with
  | true => K
  | false => (gc → False) ∧ K
theorem sideB_iff {s : Bool} {gc K : Prop} : sideB s gc K ↔ (gc → s = true) ∧ K := by
  cases s <;> simp [sideB]
theorem sideB_intro {s : Bool} {gc K : Prop} (h : gc → s = true) (k : K) : sideB s gc K := sideB_iff.2 ⟨h, k⟩

def callOf : Op → Option Call
  | .call c => match c.callee with
    | .value _ => some c
    | _ => none
  | _ => none

/-- What is never done need not give anything. -/
def deadK (op : Op) (gc : Prop) (K : Res → Prop) : Prop :=
  match op with
  | .build .. | .buildSlice .. | .lookup .. => False
  | _ => (gc → False) ∧ K { d := .undef }
theorem deadK_no {op : Op} {gc : Prop} {K : Res → Prop} (h : deadK op gc K) (hg : gc) : False := by
  cases op <;> first | exact h.1 hg | exact h
theorem deadK_K {op : Op} {gc : Prop} {K : Res → Prop} (h : deadK op gc K) : K { d := .undef } := by
  cases op <;> first | exact h.2 | exact False.elim h
theorem deadK_mono {op : Op} {gc : Prop} {K K' : Res → Prop} (h : deadK op gc K) (k : K' { d := .undef }) : deadK op gc K' := by
  cases op <;> first | exact ⟨h.1, k⟩ | exact False.elim h
/-- What a value operation, or a call, gives. -/
def doesP (P : Program) (T : Ty) (g : Option (Nat × Bool)) (ρ : Operand → D) (bx : List (Nat × BoxC)) (mp : List (Nat × MapC)) (dst : Nat) (op : Op) (gc : Prop) (K : Res → Prop) : Prop :=
  match callOf op with
  | some c => match callD (fun x => unw g (ρ x)) mp c with
    | some (f, ds, fm) => ∃ d, (gc → CallsTo P f ds d) ∧ K { d := d, fm := fm }
    | none => False
  | none => match opR T g ρ bx mp dst op with
    | some r => sideB r.side gc (K r)
    | none => deadK op gc K

/-- A yield: of whom, and with what. -/
def yldOf (env : Env) (op : Op) : Option (Nat × List D) :=
  match callOf op with
  | some c => match c.callee with
    | .value f => match unw none (tv env.wt env.tm f) with
      | .yld l => match cloL env.mp (c.args.toList.map fun x => unw none (tv env.wt env.tm x)), (c.args.toList.map fun x => unw none (tv env.wt env.tm x)).flatMap cloM with
        | some ds, [] => some (l, ds)
        | _, _ => none
      | _ => none
    | _ => none
  | none => none

/-- The slots that an operation asks for (but for what is asked for once alone). -/
def tmpOf : Operand → List Nat
  | .tmp t => [t]
  | _ => []
def opTmps : Op → List Nat
  | .build _ ps => ps.toList.flatMap fun p => tmpOf p.2
  | .buildSlice _ _ ps => ps.toList.flatMap fun p => tmpOf p.2
  | .binOp _ _ x y _ => tmpOf x ++ tmpOf y
  | .load _ x => tmpOf x
  | .box _ x => tmpOf x
  | .lookup _ x y _ => tmpOf x ++ tmpOf y
  | .indexAddr _ x y => tmpOf x ++ tmpOf y
  | .index _ x y => tmpOf x ++ tmpOf y
  | .slice _ x a b c => tmpOf x ++ (match a with | some a => tmpOf a | none => []) ++ (match b with | some b => tmpOf b | none => []) ++ (match c with | some c => tmpOf c | none => [])
  | .call c => c.args.toList.flatMap tmpOf
  | .pick a b c => tmpOf a ++ tmpOf b ++ tmpOf c
  | .field _ x _ => tmpOf x
  | .extract x _ => tmpOf x
  | _ => []
def vOf (l : List (Nat × D)) (ρ : Operand → D) : Operand → D
  | .tmp t => match look t l with
    | some d => d
    | none => ρ (.tmp t)
  | x => ρ x
theorem vOf_eq (ts : List Nat) (ρ : Operand → D) : vOf (ts.map fun t => (t, ρ (.tmp t))) ρ = ρ := by
  funext x
  cases x with
  | tmp t =>
    simp only [vOf]
    induction ts with
    | nil => rfl
    | cons s ts ih =>
      simp only [List.map_cons, look]
      cases h : Nat.beq s t with
      | true => have := Nat.eq_of_beq_eq_true h; subst this; rfl
      | false => exact ih
  | _ => rfl
/-- What a map has is asked once. -/
def fO (o : Option D) (A : Prop) (B : D → Prop) : Prop := match o with
  | none => A
  | some d => B d
theorem fO_iff (o : Option D) (K : Option D → Prop) : fO o (K none) (fun d => K (some d)) ↔ K o := by cases o <;> exact Iff.rfl
theorem fO_of {x y : Option D} {A : Prop} {B : D → Prop} (h : x = y) (k : fO y A B) : fO x A B := h ▸ k
theorem fD_of {x y : D} {K : D → Prop} (h : x = y) (k : fD y K) : fD x K := h ▸ k
/-- Cells, written out one by one. -/
def bK (off : Nat → Option (Nat × Nat)) : List D → List (Nat × D) → (List D → Prop) → Prop
  | cs, [], K => K cs
  | cs, (i, d) :: ps, K => match off i with
    | some (o, n) => match Nat.beq d.cells.length n && Nat.ble (o + n) cs.length with
      | true => fL (splice cs o d.cells) fun cs => bK off cs ps K
      | false => False
    | none => False
theorem bK_iff {off : Nat → Option (Nat × Nat)} : ∀ {ps : List (Nat × D)} {cs : List D} {K : List D → Prop}, bK off cs ps K ↔ match buildCells off cs ps with
    | some cs' => K cs'
    | none => False
  | [], cs, K => Iff.rfl
  | (i, d) :: ps, cs, K => by
    simp only [bK, buildCells]
    cases off i with
    | none => exact Iff.rfl
    | some on =>
      obtain ⟨o, n⟩ := on
      simp only
      cases (Nat.beq d.cells.length n && Nat.ble (o + n) cs.length) with
      | true => simp only [fL_iff, cond_true]; exact bK_iff
      | false => exact Iff.rfl
/-- Likewise, with what is asked for written out. -/
def doesF (P : Program) (T : Ty) (g : Option (Nat × Bool)) (ρ : Operand → D) (bx : List (Nat × BoxC)) (mp : List (Nat × MapC)) (dst : Nat) (op : Op) (gc : Prop) (K : Res → Prop) : Prop :=
  fT ((opTmps op).map fun t => (t, ρ (.tmp t))) fun l => match op with
    | .lookup t m k comma => match T t with
      | some e => match e.kind with
        | .mp q u => match T u with
          | some eu => match entsD mp (unw g (vOf l ρ m)) with
            | some (ks, vs) => fD (unw g (vOf l ρ k)) fun kd => sideB (keysFit T q kd ks) gc (fO (findD kd ks vs) (K { side := keysFit T q kd ks, d := match comma with
              | true => .tup [eu.zero, .bool false]
              | false => eu.zero }) fun d => K { side := keysFit T q kd ks, d := match comma with
              | true => .tup [d, .bool true]
              | false => d })
            | none => False
          | none => False
        | _ => False
      | none => False
    | .build t ps => fT (ps.toList.map fun p => (p.1, unw g (vOf l ρ p.2))) fun qs => match T t with
      | some e => match goods qs with
        | some _ => match e.kind with
          | .agg fs => bK (fun i => match fs[i]? with | some (o, u) => (T u).map fun eu => (o, eu.size) | none => none) e.zero.cells qs fun cs => K { d := .agg cs }
          | .arr _ u => match T u with
            | some eu => bK (fun i => some (i * eu.size, eu.size)) e.zero.cells qs fun cs => K { d := .agg cs }
            | none => False
          | _ => False
        | none => False
      | none => False
    | .buildSlice t n ps => fT (ps.toList.map fun p => (p.1, unw g (vOf l ρ p.2))) fun qs => match goods qs with
      | some _ => match elemTy T t with
        | some (_, eu) => match !Nat.ble (n * eu.size) 16777216 || Nat.beq eu.size 0 with
          | true => False
          | false => bK (fun i => some (i * eu.size, eu.size)) ((List.replicate n eu.zero.cells).flatten) qs fun cs => match cloL mp cs with
            | some cs' => fL (chunk eu n cs') fun xs => K { d := .sl 1 eu.size xs, fm := cloM (.agg cs) }
            | none => K { d := .lsl dst 0 n, bx := some ⟨cs, true, false⟩ }
        | none => False
      | none => False
    | op => doesP P T g (vOf l ρ) bx mp dst op gc K
theorem doesF_iff {P : Program} {T : Ty} {g : Option (Nat × Bool)} {ρ : Operand → D} {bx : List (Nat × BoxC)} {mp : List (Nat × MapC)} {dst : Nat} {op : Op} {gc : Prop} {K : Res → Prop} : doesF P T g ρ bx mp dst op gc K ↔ doesP P T g ρ bx mp dst op gc K := by
  unfold doesF
  rw [fT_iff, vOf_eq]
  cases op <;> first | exact Iff.rfl | skip
  case build t ps =>
    simp only [doesP, callOf, opR, opV, fT_iff, buildD]
    cases T t with
    | none => exact Iff.rfl
    | some e =>
      simp only
      cases hg : goods (ps.toList.map fun p => (p.1, unw g (ρ p.2))) with
      | none => exact Iff.rfl
      | some qs =>
        have : qs = ps.toList.map fun p => (p.1, unw g (ρ p.2)) := by
          unfold goods at hg
          cases hb : ((ps.toList.map fun p => (p.1, unw g (ρ p.2))).all fun p => p.2.good) with
          | true => rw [hb] at hg; exact (Option.some.inj hg).symm
          | false => rw [hb] at hg; cases hg
        subst this
        simp only
        cases e.kind <;> first | exact Iff.rfl | skip
        · simp only [bK_iff]
          cases buildCells _ e.zero.cells _ <;> exact Iff.rfl
        · rename_i n u
          simp only [bK_iff]
          cases hu : T u with
          | none => simp [deadK]
          | some eu =>
            simp only
            cases buildCells (fun i => some (i * eu.size, eu.size)) e.zero.cells (ps.toList.map fun p => (p.1, unw g (ρ p.2))) <;> exact Iff.rfl
  case buildSlice t n ps =>
    simp only [doesP, callOf, opR, opV, fT_iff, buildSliceD]
    cases hg : goods (ps.toList.map fun p => (p.1, unw g (ρ p.2))) with
    | none => exact Iff.rfl
    | some qs =>
      have : qs = ps.toList.map fun p => (p.1, unw g (ρ p.2)) := by
        unfold goods at hg
        cases hb : ((ps.toList.map fun p => (p.1, unw g (ρ p.2))).all fun p => p.2.good) with
        | true => rw [hb] at hg; exact (Option.some.inj hg).symm
        | false => rw [hb] at hg; cases hg
      subst this
      simp only
      cases elemTy T t with
      | none => exact Iff.rfl
      | some ue =>
        obtain ⟨u, eu⟩ := ue
        simp only
        cases (!Nat.ble (n * eu.size) 16777216 || Nat.beq eu.size 0) with
        | true => exact Iff.rfl
        | false =>
          simp only [bK_iff, cond_false]
          cases buildCells _ _ _ with
          | none => exact Iff.rfl
          | some cs =>
            simp only
            cases cloL mp cs with
            | none => exact Iff.rfl
            | some cs' => simp only [fL_iff]; exact Iff.rfl
  rename_i t m k comma
  simp only [doesP, callOf, opR, opV, lookupD, fD_iff]
  cases T t with
  | none => exact Iff.rfl
  | some e =>
    simp only
    cases e.kind <;> first | exact Iff.rfl | skip
    rename_i q u
    simp only
    cases T u with
    | none => exact Iff.rfl
    | some eu =>
      simp only
      cases entsD mp (unw g (ρ m)) with
      | none => exact Iff.rfl
      | some kv =>
        obtain ⟨ks, vs⟩ := kv
        simp only
        cases hf : findD (unw g (ρ k)) ks vs <;> cases comma <;> simp only [fO, resB, Option.map_some, Option.getD_none, Option.getD_some, Option.isSome_none, Option.isSome_some]

def distinct : List Nat → Bool
  | [] => true
  | x :: xs => !xs.contains x && distinct xs

/-! ### Calls that are handed rows and variables for their own -/
/-- By which name something goes, of pairs of names: the callee's, the caller's. -/
def back (x : Nat) : List (Nat × Nat) → Option Nat
  | [] => none
  | (k, s) :: l => bif Nat.beq s x then some k else back x l
mutual
def fml (ren rst : List (Nat × Nat)) : D → Option D
  | .sl st es xs => some (.sl (match back st rst with
    | some k => k
    | none => bif Nat.beq st 1 then 1 else 0) es xs)
  | .agg cs => (fmlL ren rst cs).map .agg
  | .loc s off => (back s ren).map fun k => .loc k off
  | .lsl s off n => (back s ren).map fun k => .lsl k off n
  | .mapr _ | .wh _ _ _ | .undef | .tup _ => none
  | d => some d
def fmlL (ren rst : List (Nat × Nat)) : List D → Option (List D)
  | [] => some []
  | d :: ds => match fml ren rst d, fmlL ren rst ds with
    | some a, some b => some (a :: b)
    | _, _ => none
end
def fmlB (ren rst : List (Nat × Nat)) (env : Env) (k : Nat) : Option BoxC :=
  match look k ren with
  | some s => match look s env.bx with
    | some b => bif b.frozen then none else (fmlL ren rst b.cells).map fun cs => { b with cells := cs }
    | none => none
  | none => none
def fmlBx (ren rst : List (Nat × Nat)) (env : Env) : Option (List (Nat × BoxC)) := allSome ((ren.map (·.1)).map fun k => (fmlB ren rst env k).map fun b => (k, b))
def fmlU (rst : List (Nat × Nat)) (env : Env) (k : Nat) : Option Nat :=
  match look k rst with
  | some st => bif env.dd.contains st then none else look st env.us
  | none => none
def fmlUs (rst : List (Nat × Nat)) (env : Env) : Option (List (Nat × Nat)) := allSome ((rst.map (·.1)).map fun k => (fmlU rst env k).map fun u => (k, u))

/-- New names of rows that come back. -/
def nmL : List (Nat × Nat) → Nat → List (Nat × Nat)
  | [], _ => []
  | (st, _) :: l, n => (2 * n + 3, st) :: nmL l (n + 1)
def nuL : List (Nat × Nat) → Nat → List (Nat × Nat)
  | [], _ => []
  | (_, u) :: l, n => (2 * n + 3, u) :: nuL l (n + 1)
mutual
def expo (ren nms : List (Nat × Nat)) : D → Option D
  | .sl st es xs => some (.sl (match back st nms with
    | some x => x
    | none => bif Nat.beq st 1 then 1 else 0) es xs)
  | .agg cs => (expoL ren nms cs).map .agg
  | .loc k off => (look k ren).map fun s => .loc s off
  | .lsl k off n => (look k ren).map fun s => .lsl s off n
  | .mapr _ | .wh _ _ _ | .undef | .tup _ => none
  | d => some d
def expoL (ren nms : List (Nat × Nat)) : List D → Option (List D)
  | [] => some []
  | d :: ds => match expo ren nms d, expoL ren nms ds with
    | some a, some b => some (a :: b)
    | _, _ => none
end
def expT (ren nms : List (Nat × Nat)) : D → Option D
  | .tup ds => (expoL ren nms ds).map .tup
  | d => expo ren nms d
def expB (ren nms : List (Nat × Nat)) (bx : List (Nat × BoxC)) (s : Nat) : Option BoxC :=
  match back s ren with
  | some k => match look k bx with
    | some b => (expoL ren nms b.cells).map fun cs => { b with cells := cs }
    | none => none
  | none => none
def expBx (ren nms : List (Nat × Nat)) (bx : List (Nat × BoxC)) : Option (List (Nat × BoxC)) := allSome ((ren.map (·.2)).map fun s => (expB ren nms bx s).map fun b => (s, b))

def memEnv (bx : List (Nat × BoxC)) (us : List (Nat × Nat)) : Env := ⟨0, [], [], bx, [], us, [], none⟩
/-- What is handed over, in a world. -/
structure Mem (c : Ctx) (bx : List (Nat × BoxC)) (us : List (Nat × Nat)) (w : World) : Prop where
  var : ∀ s b, look s bx = some b → BoxOK c (memEnv bx us) w s b
  inj : ∀ s s', (look s bx).isSome = true → (look s' bx).isSome = true → c.ρ s = c.ρ s' → s = s'
  lt : ∀ s, (look s bx).isSome = true → c.ρ s < w.heap.size
  ownInj : ∀ st st' g, (look st us).isSome = true → (look st' us).isSome = true → c.σ st = some g → c.σ st' = some g → st = st'
  ownLt : ∀ st g, (look st us).isSome = true → c.σ st = some g → g < w.heap.size ∧ ∀ s, (look s bx).isSome = true → c.ρ s ≠ g
  im : ∀ b o, c.I b o → b < w.heap.size
def passed (c : Ctx) (bx : List (Nat × BoxC)) (us : List (Nat × Nat)) (k : Nat) : Prop := (∃ s, (look s bx).isSome = true ∧ c.ρ s = k) ∨ ∃ st, (look st us).isSome = true ∧ c.σ st = some k
/-- What a call leaves of what it was handed, and of all else. -/
structure MemOut (c c' : Ctx) (bx bx' : List (Nat × BoxC)) (us us' : List (Nat × Nat)) (w w' : World) : Prop where
  mem : Mem c' bx' us' w'
  keeps : Keeps c.I c'.I w w'
  os : w'.os = w.os
  tape : w'.tape = w.tape
  output : w'.output = w.output
  size : w.heap.size ≤ w'.heap.size
  block : ∀ k, k < w.heap.size → ¬ passed c bx us k → w'.heap[k]? = w.heap[k]?
  imNew : ∀ b o, c'.I b o → c.I b o ∨ passed c bx us b ∨ w.heap.size ≤ b
  slot : ∀ s, (look s bx).isSome = true → c'.ρ s = c.ρ s
  row : ∀ st g, (look st us').isSome = true → c'.σ st = some g → passed c bx us g ∨ w.heap.size ≤ g
/-- A call of f with this data, and with these variables and rows, returns that, and leaves these. -/
def CallsM (P : Program) (f : Nat) (bx : List (Nat × BoxC)) (us : List (Nat × Nat)) (ds : List D) (d : D) (bx' : List (Nat × BoxC)) (us' : List (Nat × Nat)) : Prop :=
  FnOK P f ∧ ∀ (c : Ctx) (w : World) (vs : List Value), Mem c bx us w → All2 (RepT c (memEnv bx us) w) ds vs →
    Calls P f ⟨vs⟩ w fun e w' => ∃ v c', e = .returned v ∧ MemOut c c' bx bx' us us' w w' ∧ RepT c' (memEnv bx' us') w' d v

/-- How it is called: names, and what comes of it, as the callee names it. -/
structure MemC where
  ren : List (Nat × Nat)
  rst : List (Nat × Nat)
  d : D
  bx : List (Nat × BoxC)
  us : List (Nat × Nat)
def MemC.nms (X : MemC) (base : Nat) : List (Nat × Nat) := nmL X.us base
def memOK (X : MemC) (env : Env) (base : Nat) : Bool :=
  distinct (X.ren.map (·.1)) && (distinct (X.ren.map (·.2)) && (distinct (X.rst.map (·.1)) && (distinct (X.rst.map (·.2)) && ((X.rst.all fun p => Nat.ble 2 p.1 && Nat.ble 2 p.2) &&
    (distinct ((X.nms base).map (·.1)) && (distinct ((X.nms base).map (·.2)) && ((X.nms base).all fun p => (Nat.ble 2 p.1 && Nat.ble 2 p.2) && ((look p.1 env.us).isNone && !env.dd.contains p.1))))))))
def memOf (T : Ty) (env : Env) (op : Op) : Option (Nat × List D × List D) :=
  match callOf op with
  | some c => match c.callee with
    | .value f => match unw none (tv env.wt env.tm f) with
      | .fn fid caps => match T.mem fid with
        | true => some (fid, c.args.toList.map fun x => unw none (tv env.wt env.tm x), caps)
        | false => none
      | _ => none
    | _ => none
  | none => none
def memAfter (X : MemC) (env : Env) (base : Nat) (bx1 : List (Nat × BoxC)) : Env := { env with bx := bx1 ++ env.bx, us := nuL X.us base ++ env.us, dd := X.rst.map (·.2) ++ env.dd }
def evMem (P : Program) (f : Nat) (ds caps : List D) (env : Env) (dst : Nat) (K : Env → Prop) : Prop :=
  ∃ X : MemC, match fmlBx X.ren X.rst env, fmlUs X.rst env, fmlL X.ren X.rst ds, expBx X.ren (X.nms (env.nt + 16 * dst)) X.bx, expT X.ren (X.nms (env.nt + 16 * dst)) X.d with
  | some bx0, some us0, some ds0, some bx1, some d1 => fB bx0 fun bx0 => fU us0 fun us0 => fL ds0 fun ds0 => memOK X env (env.nt + 16 * dst) = true ∧ CallsM P f bx0 us0 (ds0 ++ caps) X.d X.bx X.us ∧ match Env.set (memAfter X env (env.nt + 16 * dst) bx1) dst none d1 with
    | some env' => K env'
    | none => False
  | _, _, _, _, _ => False

/-- One operation, in order. -/
def evOp (P : Program) (T : Ty) (ops : Array Oper) (o : Oper) (env : Env) (K : Env → Prop) : Prop :=
  match gslot ops o with
  | none => False
  | some g => match o.op with
    | .store t a x => match g, o.dst with
      | none, none => match storeR T env t (unw none (tv env.wt env.tm a)) (unw none (tv env.wt env.tm x)) with
        | some env' => K env'
        | none => False
      | _, _ => False
    | .mapUpdate t m k x => match g, o.dst with
      | none, none => fD (unw none (tv env.wt env.tm k)) fun kd => fD (unw none (tv env.wt env.tm x)) fun xd => match mapUpR T env t (unw none (tv env.wt env.tm m)) kd xd with
        | some (s, env') => s = true ∧ K env'
        | none => False
      | _, _ => False
    | _ => match o.dst with
      | some dst => match yldOf env o.op with
        | some (l, ds) => match g, env.ys with
          | none, some (l', x :: rest) => (l = l' ∧ ds = x) ∧ (match memG { env with ys := some (l', rest) } dst none { d := .bool true } with
            | some env' => K env'
            | none => False) ∧ (match memG { env with ys := none } dst none { d := .bool false } with
            | some env' => K env'
            | none => False)
          | _, _ => False
        | none => match memOf T env o.op with
          | some (f, ds, caps) => (match g with
            | none => fL ds fun ds => evMem P f ds caps env dst K
            | some _ => False)
          | none => doesF P T g (tv env.wt env.tm) env.bx env.mp dst o.op (gcond (fun _ => true) 8 env.wt env.tm g) fun r => match memG env dst g r with
            | some env' => K env'
            | none => False
      | none => False

def Env.end (env : Env) : Env := { env with wt := [] }

def evOps (P : Program) (T : Ty) (ops : Array Oper) : List Oper → Env → (Env → Prop) → Prop
  | [], env, K => fE env.end K
  | o :: os, env, K => evOp P T ops o env fun env' => fE1 env' fun env' => evOps P T ops os env' K

/-- May operation i, that comes behind those of m in every order, ask for slot t? -/
def okT (m i t : Nat) : List Oper → Nat → Bool
  | [], _ => true
  | o :: os, j => (match o.dst with
    | some d => !Nat.beq d t || (Nat.testBit m j && Nat.blt j i)
    | none => true) && okT m i t os (j + 1)
def tvR (ok : Nat → Bool) (wt tm : List (Nat × D)) : Operand → D
  | .tmp t => match ok t with
    | true => tv wt tm (.tmp t)
    | false => .undef
  | x => tv wt tm x

/-- Operations that may come in any order: each looks at variables as they were ahead of all. -/
def evPh (P : Program) (T : Ty) (ops : Array Oper) (ph : List Oper) (bx : List (Nat × BoxC)) (mp : List (Nat × MapC)) : List Nat → Nat → Bool → List Oper → Env → (Env → Prop) → Prop
  | _, _, _, [], env, K => K env
  | [], _, _, _ :: _, _, _ => False
  | m :: ms, i, used, o :: os, env, K => match gslot ops o, o.dst with
    | some g, some dst => doesF P T g (tvR (fun t => okT m i t ph 0) env.wt env.tm) bx mp dst o.op (gcond (fun t => okT m i t ph 0) 8 env.wt env.tm g) fun r =>
        match r.fz.isEmpty && r.fm.isEmpty && r.mp.isNone && !(used && r.own.isSome) with
        | true => (match memG env dst g r with
          | some env' => fE1 env' fun env' => evPh P T ops ph bx mp ms (i + 1) (used || r.own.isSome) os env' K
          | none => False)
        | false => False
    | _, _ => False

/-- Is it an operation that changes a variable? -/
def isEff : Op → Bool
  | .store .. | .mapUpdate .. | .insert .. | .assign _ => true
  | _ => false
/-- Is it a call that is handed rows and variables? -/
def isMem (T : Ty) (o : Op) : Bool :=
  match callOf o with
  | some c => match c.callee with
    | .value (.func f) => T.mem f
    | _ => false
  | none => false
/-- How many operations are ahead of those. -/
def ahead (T : Ty) : List Oper → Nat
  | [] => 0
  | o :: os => bif isEff o.op || isMem T o.op then 0 else ahead T os + 1

def bindsB (e : Edge) : Bool := Region.binds .any e

/-- Of each operation, which others are ahead of it in every order, as bits. -/
def maskOf (acc : List Nat) (o : Oper) : Nat := o.after.toList.foldl (fun m e => match bindsB e with | true => m ||| (1 <<< e.on ||| acc.getD e.on 0) | false => m) 0
def ancs : List Oper → List Nat → List Nat
  | [], acc => acc
  | o :: os, acc => ancs os (acc ++ [maskOf acc o])

/-- May a region's operations come in any order, but the last ones? -/
def drawOK (l : List Oper) (an : List Nat) (p : Nat) : Bool :=
  Nat.ble p l.length && distinct ((l.take p).filterMap (·.dst)) &&
  (List.range l.length).all (fun i => match l[i]? with
    | some o => o.after.toList.all (fun e => !bindsB e || Nat.blt e.on i) &&
      (match Nat.blt i p with
      | true => o.dst.isSome && (match o.guard with | some (j, _) => Nat.blt j i && Nat.testBit (an.getD i 0) j | none => true)
      | false => (List.range i).all fun j => Nat.testBit (an.getD i 0) j)
    | none => false)

def fLs {α : Type} : List α → (List α → Prop) → Prop
  | [], K => K []
  | x :: l, K => fLs l fun l => K (x :: l)
theorem fLs_iff {α : Type} : ∀ (l : List α) (K : List α → Prop), fLs l K ↔ K l
  | [], _ => Iff.rfl
  | x :: l, _ => fLs_iff l _
def evRegion (P : Program) (T : Ty) (ops : Array Oper) (draw : Bool) (env : Env) (K : Env → Prop) : Prop :=
  match draw with
  | false => fE env.end fun env => evOps P T ops ops.toList env K
  | true => fN (ancs ops.toList []) fun an => fNat (ahead T ops.toList) fun p => drawOK ops.toList an p = true ∧ fE env.end fun env => fLs (ops.toList.take p) fun ph => evPh P T ops ph env.bx env.mp an 0 false ph env fun env' => evOps P T ops (ops.toList.drop p) env' K

/-! ### At the head of a loop: what was not there ahead of it is forgotten -/
mutual
def trim (f : Nat → Nat) (bs ms : List Nat) : D → Option D
  | .sl st es xs => some (.sl (f st) es xs)
  | .agg cs => (trimL f bs ms cs).map .agg
  | .loc s off => bif bs.contains s then some (.loc s off) else none
  | .lsl s off n => bif bs.contains s then some (.lsl s off n) else none
  | .mapr s => bif ms.contains s then some (.mapr s) else none
  | .tup _ => none
  | .wh _ _ _ => none
  | d => some d
def trimL (f : Nat → Nat) (bs ms : List Nat) : List D → Option (List D)
  | [] => some []
  | d :: ds => match trim f bs ms d, trimL f bs ms ds with
    | some a, some b => some (a :: b)
    | _, _ => none
end

mutual
def stampsOf : D → List Nat
  | .sl st _ _ => [st]
  | .agg cs => stampsOfL cs
  | _ => []
def stampsOfL : List D → List Nat
  | [] => []
  | d :: ds => stampsOf d ++ stampsOfL ds
end

def dedup : List Nat → List Nat → List Nat
  | [], acc => acc
  | x :: xs, acc => match acc.contains x with
    | true => dedup xs acc
    | false => dedup xs (x :: acc)

def idxOf (x : Nat) : List Nat → Nat → Option Nat
  | [], _ => none
  | y :: ys, i => bif Nat.beq x y then some i else idxOf x ys (i + 1)

def restamp (dd l : List Nat) (st : Nat) : Nat :=
  bif Nat.ble st 1 then st else bif dd.contains st then 0 else match idxOf st l 0 with
    | some i => 2 * i + 2
    | none => 0

/-- Slots of which something is known. -/
def keysL (l : List (Nat × D)) : List Nat := dedup ((l.filter fun p => match p.2 with | .undef => false | _ => true).map (·.1)) []
def keysOf {α : Type} (l : List (Nat × α)) : List Nat := dedup (l.map (·.1)) []

def usOf (us : List (Nat × Nat)) : List Nat → Nat → Option (List (Nat × Nat))
  | [], _ => some []
  | st :: l, i => match look st us, usOf us l (i + 1) with
    | some u, some r => some ((2 * i + 2, u) :: r)
    | _, _ => none

/-- The stamps that go on, of these slots and variables. -/
def stampsIn (ts bs : List Nat) (env : Env) : List Nat :=
  (dedup (ts.flatMap (fun t => stampsOf ((look t env.tm).getD .undef)) ++ bs.flatMap (fun s => match look s env.bx with | some b => stampsOfL b.cells | none => [])) []).filter fun st => Nat.ble 2 st && !env.dd.contains st

def canonBx (f : Nat → Nat) (bs ms : List Nat) (bx : List (Nat × BoxC)) (s : Nat) : Option BoxC :=
  match look s bx with
  | some b => match trimL f bs ms b.cells with
    | some cs => some { b with cells := cs }
    | none => none
  | none => none

/-- The state with only these slots, variables and maps. -/
def canonW (ts bs ms l : List Nat) (env : Env) : Option Env :=
  match allSome (bs.map fun s => (canonBx (restamp env.dd l) bs ms env.bx s).map fun b => (s, b)), allSome (ms.map fun s => (look s env.mp).map fun m => (s, m)), usOf env.us l 0 with
  | some bx', some mp', some us' => bif distinct l && l.all (fun st => Nat.ble 2 st && !env.dd.contains st) then some { nt := env.nt, tm := ts.map fun t => (t, (trim (restamp env.dd l) bs ms ((look t env.tm).getD .undef)).getD .undef), wt := [], bx := bx', mp := mp', us := us', dd := [], ys := env.ys } else none
  | _, _, _ => none
def Env.canon (ts bs ms : List Nat) (env : Env) : Option Env := canonW ts bs ms (stampsIn ts bs env) env

/-- What is laid otherwise at the head of a loop. -/
inductive Adj where
  | nilT (t u es : Nat)
  | nilB (s i u es : Nat)
  | kill (st : Nat)
  | drop (t : Nat)
  | keep (n : Nat)
def adj1 (env : Env) (s' : Nat) : Adj → Option Env
  | .nilT t u es => match look t env.tm with
    | some (.sl 1 es0 xs) => bif (Nat.beq es0 es || xs.isEmpty) && ((look s' env.us).isNone && !env.dd.contains s') then some { env with us := (s', u) :: env.us, tm := (t, .sl s' es xs) :: env.tm } else none
    | _ => none
  | .nilB s i u es => match look s env.bx with
    | some b => match b.cells[i]? with
      | some (.sl 1 es0 xs) => bif (Nat.beq es0 es || xs.isEmpty) && ((look s' env.us).isNone && !env.dd.contains s') then some { env with us := (s', u) :: env.us, bx := (s, { b with cells := b.cells.set i (.sl s' es xs) }) :: env.bx } else none
      | _ => none
    | none => none
  | .kill st => some { env with dd := st :: env.dd }
  | .drop t => some { env with tm := (t, .undef) :: env.tm }
  | .keep n => some { env with tm := env.tm.filter fun p => Nat.blt p.1 n }
def adjW : List Adj → Nat → Env → Option Env
  | [], _, env => some env
  | x :: N, k, env => match adj1 env (2 * (env.nt + k) + 3) x with
    | some env' => adjW N (k + 1) env'
    | none => none

def loopEv (body : Env → (Exit → Env → Prop) → Prop) (ts bs ms : List Nat) : Nat → Env → (Exit → Env → Prop) → Prop
  | 0, _, _ => False
  | n + 1, env, Q => body env fun e env' => match e with
    | .normal => fN (stampsIn ts bs env') fun l => match canonW ts bs ms l env' with
      | some env2 => fE env2 fun env2 => loopEv body ts bs ms n env2 Q
      | none => False
    | e => Q e env'

/-! ### Ranges over functions -/
/-- What an iterator does between two yields: O are its own blocks. -/
structure ItStep (O : Nat → Prop) (I : Im) (W : World) (O' : Nat → Prop) (I' : Im) (W' : World) : Prop where
  os : W'.os = W.os
  tape : W'.tape = W.tape
  output : W'.output = W.output
  size : W.heap.size ≤ W'.heap.size
  same : ∀ k, k < W.heap.size → ¬ O k → W'.heap[k]? = W.heap[k]?
  keeps : Keeps I I' W W'
  own : ∀ k, O' k → O k ∨ W.heap.size ≤ k
  im : ∀ b o, I' b o → I b o ∨ O b ∨ W.heap.size ≤ b
  lt : ∀ b o, I' b o → b < W'.heap.size
  olt : ∀ k, O' k → k < W'.heap.size
/-- What a round leaves of it. -/
structure ItBack (O : Nat → Prop) (I : Im) (W W' : World) : Prop where
  os : W'.os = W.os
  tape : W'.tape = W.tape
  output : W'.output = W.output
  size : W.heap.size ≤ W'.heap.size
  same : ∀ k, O k → W'.heap[k]? = W.heap[k]?
  keeps : Keeps I I W W'

/-- A range over f, with these captured, has these values, one after the other. -/
def IterTo (P : Program) (f : Nat) (caps : List D) (xs : List (List D)) : Prop :=
  FnOK P f ∧ ∀ (l : Nat) (J : List (List D) → (Nat → Prop) → Im → World → Prop) (Jx : (Nat → Prop) → Im → World → Prop) (I : Im) (W : World) (cvs : List Value),
    (∀ b o, I b o → b < W.heap.size) → RepL I W caps cvs →
    (∀ ys O I W O' I' W', J ys O I W → ItStep O I W O' I' W' → J ys O' I' W') → (∀ O I W O' I' W', Jx O I W → ItStep O I W O' I' W' → Jx O' I' W') →
    (∀ x ys O I W vs n, J (x :: ys) O I W → RepL I W x vs → x.all D.isVal = true → YieldAt Fence.wide n P l ⟨vs⟩ W fun e W' => ItBack O I W W' ∧ ((e = .returned (.bool true) ∧ J ys O I W') ∨ (e = .returned (.bool false) ∧ Jx O I W'))) →
    J xs (fun _ => False) I W →
    Calls P f ⟨.func (.yield l) #[] #[] :: cvs⟩ W fun e W' => (∃ v, e = .returned v) ∧ ∃ O' I', J [] O' I' W' ∨ Jx O' I' W'

def dstC : D → D
  | .sl st es xs => .sl (bif Nat.ble st 1 then st else 0) es xs
  | d => d
/-- What goes on through all rounds: no row that is appended to. -/
def dstD : D → D
  | .agg cs => .agg (cs.map dstC)
  | .tup _ => .undef
  | d => dstC d

def seqEv (body : Env → (Exit → Env → Prop) → Prop) (ps : List Nat) (nt0 : Nat) (tm0 : List (Nat × D)) (bs ms : List Nat) (ys : Option (Nat × List (List D))) : List (List D) → Env → (Exit → Env → Prop) → Prop
  | [], env, Q => fE { env with nt := nt0, tm := tm0, wt := [], ys := ys } (Q .normal)
  | x :: xs, env, Q => match Nat.beq x.length ps.length with
    | true => fE { env with nt := nt0, tm := ps.zip x ++ tm0, wt := [], ys := none } fun env => body env fun e env' => fN (stampsIn [] bs env') fun l => match canonW [] bs ms l env' with
      | some env2 => (match e with
        | .normal => fE env2 fun env2 => seqEv body ps nt0 tm0 bs ms ys xs env2 Q
        | .ret => fE { env2 with nt := nt0, tm := tm0, wt := [], ys := ys } (Q .ret)
        | .exit i => fE { env2 with nt := nt0, tm := tm0, wt := [], ys := ys } (Q (.exit i))
        | _ => False)
      | none => False
    | false => False

def ifB (b : Bool) (A B : Prop) : Prop :=
  match b with
  | true => A
  | false => B
theorem ifB_intro {b : Bool} {A B : Prop} (ht : b = true → A) (hf : b = false → B) : ifB b A B := by
  cases b
  · exact hf rfl
  · exact ht rfl

def evLoop (B : Env → (Exit → Env → Prop) → Prop) (env : Env) (Q : Exit → Env → Prop) : Prop :=
  fN (keysL env.tm) fun ts => fN (keysOf env.bx) fun bs => fN (keysOf env.mp) fun ms => fN (stampsIn ts bs env) fun l => match canonW ts bs ms l env with
    | some env1 => fE env1 fun env1 => ∃ n, loopEv B ts bs ms n env1 Q
    | none => False
def evRange (P : Program) (g : Operand) (ps : Array Tmp) (A B : Env → (Exit → Env → Prop) → Prop) (env : Env) (Q : Exit → Env → Prop) : Prop :=
  match tv env.wt env.tm g with
  | .fn f caps => match distinct ps.toList && ps.toList.all (fun p => Nat.blt p env.nt) with
    | true => fN (keysL env.tm) fun ts => fN (keysOf env.bx) fun bs => fN (keysOf env.mp) fun ms => fN (stampsIn [] bs env) fun l => match canonW ts bs ms l env with
      | some env1 => fE env1 fun env1 => ∃ xs, IterTo P f caps xs ∧ seqEv (fun env K => A env fun e env => match e with
          | .normal => B env K
          | _ => False) ps.toList env1.nt (env1.tm.map fun p => (p.1, dstD p.2)) bs ms env.ys xs env1 Q
      | none => False
    | false => False
  | _ => False

/-- Code. -/
def ev (P : Program) (T : Ty) : Code → Env → (Exit → Env → Prop) → Prop
  | .skip, env, Q => Q .normal env
  | .region _ ops draw, env, Q => evRegion P T ops draw env fun env' => Q .normal env'
  | .seq a b, env, Q => ev P T a env fun e env' => match e with
    | .normal => ev P T b env' Q
    | e => Q e env'
  | .cond c a b, env, Q => match tv env.wt env.tm c with
    | .bool t => ifB t (ev P T a env Q) (ev P T b env Q)
    | _ => False
  | .block id body, env, Q => ev P T body env fun e env' => match e with
    | .exit i => match Nat.beq i id with
      | true => Q .normal env'
      | false => Q (.exit i) env'
    | e => Q e env'
  | .loop body, env, Q => ∃ N, match adjW N 0 env with
    | some env => fE env fun env => evLoop (ev P T body) env Q
    | none => False
  | .rangeFunc g ps asg body, env, Q => ∃ N, match adjW N 0 env with
    | some env => fE env fun env => evRange P g ps (ev P T asg) (ev P T body) env Q
    | none => False
  | .exit i, env, Q => Q (.exit i) env
  | .ret, env, Q => Q .ret env
  | .label _, env, Q => Q .normal env
  | _, _, _ => False

/-- The state in which a function begins. -/
def entry (nt : Nat) (ds : List D) : Env := { nt := nt, tm := (List.range ds.length).zip ds, wt := [], bx := [], mp := [], us := [], dd := [] }

/-- What a function returns. -/
def resRaw (T : Ty) (env : Env) : List ResultVar → List D
  | [] => []
  | .tmp t :: rs => (look t env.tm).getD .undef :: resRaw T env rs
  | .cell a t :: rs => (match T t with
    | some e => (loadD env.bx e ((look a env.tm).getD .undef)).getD .undef
    | none => .undef) :: resRaw T env rs
def packR : List D → D
  | [d] => d
  | ds => .tup ds

/-- What a function's code returns, of this data. -/
def Runs (P : Program) (T : Ty) (nt : Nat) (code : Code) (rs : List ResultVar) (ds : List D) (d : D) : Prop :=
  ds.length ≤ nt ∧ fE (entry nt ds) fun env => ev P T code env fun e env => match e with
    | .normal | .ret => match cloL env.mp (resRaw T env rs) with
      | some l => (frzM env.mp ((resRaw T env rs).flatMap cloM)).isSome = true ∧ packR l = d
      | none => False
    | _ => False

mutual
def outD (ks : List Nat) (us : List (Nat × Nat)) : D → Option D
  | .sl st es xs => some (.sl (bif (look st us).isSome then st else bif Nat.beq st 1 then 1 else 0) es xs)
  | .agg cs => (outL ks us cs).map .agg
  | .loc s off => bif ks.contains s then some (.loc s off) else none
  | .lsl s off n => bif ks.contains s then some (.lsl s off n) else none
  | .mapr _ | .wh _ _ _ | .undef | .tup _ => none
  | d => some d
def outL (ks : List Nat) (us : List (Nat × Nat)) : List D → Option (List D)
  | [] => some []
  | d :: ds => match outD ks us d, outL ks us ds with
    | some a, some b => some (a :: b)
    | _, _ => none
end
def outB (ks : List Nat) (us : List (Nat × Nat)) (env : Env) (s : Nat) : Option BoxC :=
  match look s env.bx with
  | some b => (outL ks us b.cells).map fun cs => { b with cells := cs }
  | none => none
def outBx (ks : List Nat) (us : List (Nat × Nat)) (env : Env) : Option (List (Nat × BoxC)) := allSome (ks.map fun s => (outB ks us env s).map fun b => (s, b))
def usOK (us : List (Nat × Nat)) (env : Env) : Bool := distinct (us.map (·.1)) && us.all fun p => (look p.1 env.us == some p.2) && (!env.dd.contains p.1 && Nat.ble 2 p.1)
/-- What a function's code returns, and leaves of what it was handed. -/
def RunsM (P : Program) (T : Ty) (nt : Nat) (code : Code) (rs : List ResultVar) (bx : List (Nat × BoxC)) (us : List (Nat × Nat)) (ds : List D) (Q : D → List (Nat × BoxC) → Prop) (us' : List (Nat × Nat)) : Prop :=
  ds.length ≤ nt ∧ fE { entry nt ds with bx := bx, us := us } fun env => ev P T code env fun e env => match e with
    | .normal | .ret => match outL (bx.map (·.1)) us' (resRaw T env rs), outBx (bx.map (·.1)) us' env with
      | some l, some bx' => usOK us' env = true ∧ Q (packR l) bx'
      | _, _ => False
    | _ => False

/-- What an iterator's code yields, of what is captured. -/
def Yields (P : Program) (T : Ty) (nt : Nat) (code : Code) (caps : List D) (xs : List (List D)) : Prop :=
  caps.length + 1 ≤ nt ∧ ∀ l : Nat, fE { entry nt (.yld l :: caps) with ys := some (l, xs) } fun env => ev P T code env fun e env => match e with
    | .normal | .ret => match env.ys with
      | some (_, _ :: _) => False
      | _ => True
    | _ => False

end Go.Proofs.Ytndijidmabfhcaa.Fw

/- Operations and calls, as steps of a function's code. -/
namespace Go.Proofs.Ytndijidmabfhcaa.Fw
open Go Go.RowKit

/-- No fence, but what kind of frame it is. -/
def Fr (r : Option Nat) : Fence := { Fence.wide with round := r }

theorem fr_calls {r : Option Nat} {n : Nat} {P : Program} {f : FuncId} {args : Array Value} {w : World} {R : Ending → World → Prop} : CallsIn (Fr r) n P f args w R ↔ Calls P f args w R :=
  (show CallsIn (Fr r) n P f args w R ↔ CallsIn Fence.wide n P f args w R from Iff.rfl).trans callsIn_wide

section
variable {P : Program} {T : Ty} {c : Ctx} {env : Env} {a : Act} {w : World} {rr : Option Nat} {n : Nat}

theorem wpIn_of_run {o : Oper} (hd : ∀ c, o.op ≠ .defer c) {v : Value} {w' : World} (h : (execOp a.eval o).run P w = .ok (.value v) w') {K : Act → World → Prop} {Q : Exit → Act → World → Prop} (hk : K (a.put o.dst v) w') : o.wpIn (Fr rr) n P a w K Q :=
  ⟨fun _ _ => trivial, by rw [Oper.semAt_eq _ _ _ hd, h]; exact hk⟩

theorem wpIn_of_skip {o : Oper} (hd : ∀ c, o.op ≠ .defer c) {w' : World} (h : (execOp a.eval o).run P w = .ok .skip w') {K : Act → World → Prop} {Q : Exit → Act → World → Prop} (hk : K (a.put o.dst undef) w') : o.wpIn (Fr rr) n P a w K Q :=
  ⟨fun _ _ => trivial, by rw [Oper.semAt_eq _ _ _ hd, h]; exact hk⟩

/-- A call that changes nothing of what there was. -/
theorem St.call (h : St c env a w) {I' : Im} {w' : World} (him : ∀ b o, c.I b o → I' b o) (hnew : ∀ b o, I' b o → c.I b o ∨ w.heap.size ≤ b) (hlt : ∀ b o, I' b o → b < w'.heap.size) (hb : Below w.heap.size w w') :
    St { c with I := I' } env a w' ∧ Step c env w { c with I := I' } env w' := by
  have hh : ∀ k, k < w.heap.size → w'.heap[k]? = w.heap[k]? := hb.block
  have hI : ∀ g, g < w.heap.size → ∀ o, I' g o → c.I g o := fun g hg o ho => (hnew g o ho).resolve_right (by omega)
  have S : Step c env w { c with I := I' } env w' :=
    ⟨⟨him, fun x u hi hu => (World.cell?_of_block (hh _ (h.im _ _ hi))).trans hu, fun r es k hi hr => (hh _ (h.im _ _ hi)).trans hr⟩, fun _ h => ⟨h, rfl⟩, fun _ h => ⟨h, rfl⟩, fun _ _ h => h, fun _ h => h,
      fun st hl _ => ⟨rfl, fun g hg => ⟨hh g (h.ownAbove st g hl hg).2.1, hI g (h.ownAbove st g hl hg).2.1⟩⟩⟩
  refine ⟨⟨h.nt, h.df, fun t d hd => S.repT (h.tm t d hd), fun t d hd => (h.wt t d hd).step S, fun s b hs => ?_, fun s m hs => ?_, h.inj, h.above, fun s hs => Nat.lt_of_lt_of_le (h.lt s hs) hb.size, h.ownInj,
    fun st g hl hg => ⟨(h.ownAbove st g hl hg).1, Nat.lt_of_lt_of_le (h.ownAbove st g hl hg).2.1 hb.size, (h.ownAbove st g hl hg).2.2⟩, hlt, h.im0.trans S.keeps, fun b o hi => ?_, h.base.below hb, h.gh⟩, S⟩
  · have hl := h.lt s (.inl (by rw [hs]; rfl))
    exact (h.bx s b hs).step S rfl (hh _ hl) (hI _ hl)
  · have hl := h.lt s (.inr (by rw [hs]; rfl))
    exact (h.mp s m hs).step S rfl (hh _ hl) (hI _ hl)
  · rcases hnew b o hi with hi | hi
    · exact h.imNew b o hi
    · exact .inr (h.base.new hi)

/-- The blocks that a state has for its own. -/
def ownB (c : Ctx) (env : Env) (k : Nat) : Prop := (∃ s, env.blk s ∧ c.ρ s = k) ∨ ∃ st, env.live st ∧ c.σ st = some k

/-- The world moves on, elsewhere; what is known of it is laid down anew. -/
theorem St.move (h : St c env a w) {I' I0' : Im} {w' : World} {r' : Root} {ys' : Option (Nat × List (List D))} {df' : List Deferred} (hsz : w.heap.size ≤ w'.heap.size) (hsame : ∀ k, ownB c env k → w'.heap[k]? = w.heap[k]?) (hK : Keeps c.I I' w w')
    (hI : ∀ b o, I' b o → c.I b o ∨ ¬ ownB c env b) (hlt : ∀ b o, I' b o → b < w'.heap.size) (hoff : ∀ k, ownB c env k → r'.off k) (hbase : BaseF r' w') (him0 : Keeps I0' I' r'.wd w') (hnew : ∀ b o, I' b o → I0' b o ∨ r'.off b)
    (hdf : df' = r'.mks.map markOf) (hgh : r'.G ys' r'.far r'.wd I0' ∧ FixAll r' c.ρ env) :
    St { c with I := I', w0 := r', I0 := I0', df := df' } { env with ys := ys' } { a with defers := df' } w' ∧ Step c env w { c with I := I', w0 := r', I0 := I0', df := df' } { env with ys := ys' } w' := by
  have S : Step c env w { c with I := I', w0 := r', I0 := I0', df := df' } { env with ys := ys' } w' :=
    ⟨hK, fun _ h => ⟨h, rfl⟩, fun _ h => ⟨h, rfl⟩, fun _ _ h => h, fun _ h => h, fun st hl _ => ⟨rfl, fun g hg => ⟨hsame g (.inr ⟨st, hl, hg⟩), fun o ho => (hI g o ho).resolve_right fun hn => hn (.inr ⟨st, hl, hg⟩)⟩⟩⟩
  refine ⟨⟨h.nt, ⟨rfl, hdf⟩, fun t d hd => S.repT (h.tm t d hd), fun t d hd => (h.wt t d hd).step S, fun s b hs => ?_, fun s m hs => ?_, h.inj, fun s hs => hoff _ (.inl ⟨s, hs, rfl⟩), fun s hs => Nat.lt_of_lt_of_le (h.lt s hs) hsz, h.ownInj,
    fun st g hl hg => ⟨hoff _ (.inr ⟨st, hl, hg⟩), Nat.lt_of_lt_of_le (h.ownAbove st g hl hg).2.1 hsz, (h.ownAbove st g hl hg).2.2⟩, hlt, him0, hnew, hbase, hgh⟩, S⟩
  · have hb : ownB c env (c.ρ s) := .inl ⟨s, .inl (by rw [show look s env.bx = some b from hs]; rfl), rfl⟩
    exact (h.bx s b hs).step S rfl (hsame _ hb) fun o ho => (hI _ o ho).resolve_right fun hn => hn hb
  · have hb : ownB c env (c.ρ s) := .inl ⟨s, .inr (by rw [show look s env.mp = some m from hs]; rfl), rfl⟩
    exact (h.mp s m hs).step S rfl (hsame _ hb) fun o ho => (hI _ o ho).resolve_right fun hn => hn hb

/-- A context behind code that may have yielded. -/
structure Ctx.Grow (c c' : Ctx) : Prop where
  G : c'.w0.G = c.w0.G
  lp : c'.w0.lp = c.w0.lp
  fix : c'.w0.fix = c.w0.fix
  mks : c.w0.lp.isSome = true → c'.w0.mks = c.w0.mks
theorem Ctx.Grow.refl (c : Ctx) : c.Grow c := ⟨rfl, rfl, rfl, fun _ => rfl⟩
theorem Ctx.Grow.trans {c c' c'' : Ctx} (h : c.Grow c') (k : c'.Grow c'') : c.Grow c'' := ⟨k.G.trans h.G, k.lp.trans h.lp, k.fix.trans h.fix, fun x => (k.mks (by rw [h.lp]; exact x)).trans (h.mks x)⟩
theorem Ctx.Next.grow {c c' : Ctx} (h : c.Next c') : c.Grow c' := ⟨by rw [h.w0], by rw [h.w0], by rw [h.w0], fun _ => by rw [h.w0]⟩

/-- What a yield does to what is known. -/
def GYield (P : Program) (r : Root) : Prop :=
  (r.lp = none ∨ ∀ ys far wd I0, r.G ys far wd I0 → ys = none) ∧
  ∀ (l : Nat) (x : List D) (rest : List (List D)) (far : Nat → Prop) (wd : World) (I0 I : Im) (W : World) (own : Nat → Prop) (vs : List Value) (n : Nat),
    r.G (some (l, x :: rest)) far wd I0 → W.os = wd.os → W.tape = wd.tape → W.output = wd.output → wd.heap.size ≤ W.heap.size → (∀ k, far k → W.heap[k]? = wd.heap[k]?) →
    Keeps I0 I wd W → (∀ b o, I b o → I0 b o ∨ ¬ far b) → (∀ b o, I b o → b < W.heap.size) → (∀ k, own k → k < W.heap.size ∧ ¬ far k) → RepL I W x vs → x.all D.isVal = true →
    YieldAt Fence.wide n P l ⟨vs⟩ W fun e W' => ItBack own I W W' ∧ ((e = .returned (.bool true) ∧ r.G (some (l, rest)) (fun k => k < W'.heap.size ∧ ¬ own k) W' I) ∨ (e = .returned (.bool false) ∧ r.G none (fun k => k < W'.heap.size ∧ ¬ own k) W' I))
theorem GYield.grow {c c' : Ctx} (h : GYield P c.w0) (k : c.Grow c') : GYield P c'.w0 := by
  unfold GYield at h ⊢
  rw [k.G, k.lp]; exact h

theorem ownB_lt (h : St c env a w) {k : Nat} (hk : ownB c env k) : k < w.heap.size := by
  rcases hk with ⟨s, hs, rfl⟩ | ⟨st, hl, hg⟩
  · exact h.lt s hs
  · exact (h.ownAbove st k hl hg).2.1
theorem ownB_off (h : St c env a w) {k : Nat} (hk : ownB c env k) : c.w0.off k := by
  rcases hk with ⟨s, hs, rfl⟩ | ⟨st, hl, hg⟩
  · exact h.above s hs
  · exact (h.ownAbove st k hl hg).1

theorem clo_vals (h : St c env a w) {mp : List (Nat × MapC)} : ∀ {ds ds' : List D} {vs : List Value}, All2 (RepT c env w) ds vs → cloL mp ds = some ds' → (∀ d ∈ ds, ∀ s ∈ cloM d, ∀ m, look s mp = some m → ∃ m', look s env.mp = some m' ∧ m'.ks = m.ks ∧ m'.vs = m.vs ∧ m'.frozen = true) →
    All2 (Rep c.I w) ds' vs ∧ ds'.all D.isVal = true
  | [], ds', vs, hr, hc, _ => by simp only [cloL, Option.some.injEq] at hc; subst hc; cases vs <;> first | exact ⟨trivial, rfl⟩ | exact hr.elim
  | d :: ds, ds', [], hr, _, _ => hr.elim
  | d :: ds, ds', v :: vs, hr, hc, hm => by
    simp only [cloL] at hc
    cases h1 : clo mp d with
    | none => rw [h1] at hc; cases hc
    | some d' =>
      cases h2 : cloL mp ds with
      | none => rw [h1, h2] at hc; cases hc
      | some es =>
        rw [h1, h2] at hc
        simp only [Option.some.injEq] at hc; subst hc
        have hv : RepV c env w d v := by
          have := hr.1
          cases d <;> first | exact this | (simp only [clo] at h1; cases h1)
        obtain ⟨i1, i2⟩ := clo_val h hv h1 (fun s hs => hm d (by simp) s hs)
        obtain ⟨i3, i4⟩ := clo_vals h hr.2 h2 (fun x hx => hm x (by simp [hx]))
        exact ⟨⟨i1, i3⟩, by simp [i2, i4]⟩

theorem not_defer_opV {v : Operand → D} {pk : Operand → Bool → Operand → D} {bx : List (Nat × BoxC)} {mp : List (Nat × MapC)} {dst : Nat} {op : Op} {r : Res} (h : opV T v pk bx mp dst op = some r) : ∀ c, op ≠ .defer c := by
  intro c e; subst e; simp [opV] at h

/-- A value operation, or a call: what comes of it. -/
theorem does_sound (hT : TyOK P T) (h : St c env a w) {g : Option (Nat × Bool)} (hg : GOK a g) {ρ : Operand → D} (hρ : ∀ x, RepX c env w a.tmps (ρ x) (a.eval x)) {bx0 : List (Nat × BoxC)} (hbx : ∀ s b, look s bx0 = some b → look s env.bx = some b) {o : Oper} {dst : Nat} (hdst : o.dst = some dst) {gc : Prop} (hgc : gc) {K0 : Res → Prop} (hd : doesP P T g ρ bx0 env.mp dst o.op gc K0) :
    ∃ r, K0 r ∧ ∀ env1 d, memR env dst r = some (env1, d) → ∀ (K : Act → World → Prop) (Q : Exit → Act → World → Prop), (∀ v w' c', c.Next c' → St c' env1 a w' → RepT c' env1 w' d v → K (a.put (some dst) v) w') → o.wpIn (Fr rr) n P a w K Q := by
  unfold doesP at hd
  cases hcf : callOf o.op with
  | none =>
    rw [hcf] at hd
    simp only at hd
    cases hr : opR T g ρ bx0 env.mp dst o.op with
    | none => rw [hr] at hd; exact (deadK_no hd hgc).elim
    | some r =>
    rw [hr] at hd
    obtain ⟨hs, hk⟩ := sideB_iff.1 hd
    refine ⟨r, hk, fun env1 d hm K Q hK => ?_⟩
    obtain ⟨v, w', c', h1, h2, h3, h4⟩ := opR_sound hT h hg hρ hbx hr (hs hgc) hm
    exact wpIn_of_run (not_defer_opV hr) h1 (by rw [hdst]; exact hK v w' c' h2 h3 h4)
  | some cl0 =>
    rw [hcf] at hd
    obtain ⟨odst, op, ty, pos, after, guard⟩ := o
    unfold callOf at hcf
    simp only at hcf
    cases op <;> (try simp only at hcf) <;> first | (cases hcf; done) | skip
    rename_i cl
    obtain ⟨callee, args, argTypes⟩ := cl
    cases callee <;> (try simp only at hcf) <;> first | (cases hcf; done) | skip
    rename_i f
    simp only [Option.some.injEq] at hcf
    subst hcf
    simp only [callD] at hd
    have hv : ∀ x, RepT c env w (unw g (ρ x)) (a.eval x) := fun x => repX_unw hg (hρ x)
    have hf := hv f
    cases hfd : unw g (ρ f) <;> rw [hfd] at hd hf <;> (try simp only at hd) <;> first | exact hd.elim | skip
    rename_i fid caps
    simp only [RepT, RepV, RepC, Rep] at hf
    obtain ⟨cvs, hfv, hcaps⟩ := hf
    cases hcl : cloL env.mp (args.toList.map fun x => unw g (ρ x)) with
    | none => rw [hcl] at hd; exact hd.elim
    | some ds =>
      rw [hcl] at hd
      obtain ⟨d, hcall, hk⟩ := hd
      obtain ⟨⟨fn, hfn, hname, hbody⟩, hcall⟩ := hcall hgc
      refine ⟨_, hk, fun env1 d1 hm K Q hK => ?_⟩
      simp only [memR, frzB] at hm
      cases hfz : frzM env.mp ((args.toList.map fun x => unw g (ρ x)).flatMap cloM) with
      | none => rw [hfz] at hm; cases hm
      | some mp =>
        rw [hfz] at hm
        simp only [Option.some.injEq, Prod.mk.injEq] at hm
        obtain ⟨rfl, rfl⟩ := hm
        obtain ⟨c1, n1, h1, S1, hm1⟩ := h.frzM hfz
        have hargs : All2 (RepT c env w) (args.toList.map fun x => unw g (ρ x)) (args.toList.map a.eval) := all2_map hv args.toList
        obtain ⟨g1, _⟩ := clo_vals h1 (hargs.mono fun _ _ => S1.repT) hcl (fun x hx s hs m hl => by
          obtain ⟨m', k1, k2, k3, k4⟩ := hm1 s m hl
          exact ⟨m', k1, k2, k3, k4 (.inr (List.mem_flatMap.2 ⟨x, hx, hs⟩))⟩)
        have hall : RepL c1.I w (ds ++ caps) (args.toList.map a.eval ++ cvs) := all2_repL.2 (g1.append (all2_repL.1 (RepL.keeps S1.keeps _ _ hcaps)))
        have hC := hcall c1.I w _ h1.im hall
        have hrun : (execOp a.eval { dst := odst, op := .call ⟨.value f, args, argTypes⟩, type := ty, pos, after, guard }).run P w = .ok (.enter fid ⟨args.toList.map a.eval ++ cvs⟩) w := by
          have e1 : args.map a.eval ++ (⟨cvs⟩ : Array Value) = ⟨args.toList.map a.eval ++ cvs⟩ := by apply Array.ext'; simp
          simp only [execOp, resolve, hfv, Deferred.ofValue, Sem.run_bind, Sem.run_pure, Result.andThen_ok, invoke, callFunc]
          rw [← e1]
          have hb : fn.body ≠ none := fun e => by rw [e] at hbody; cases hbody
          simp [hfn, hname, hb]
        refine ⟨fun _ _ => trivial, ?_⟩
        rw [Oper.semAt_eq _ _ _ (by intro c e; cases e), hrun]
        refine ⟨fun h => (by cases h), fr_calls.2 (Calls.mono hC fun e w' he => ?_)⟩
        obtain ⟨v, I', rfl, k1, k2, k3, k4, k5⟩ := he
        obtain ⟨h2, S2⟩ := h1.call k1 k2 k3 k5
        have hdst : odst = some dst := hdst
        subst hdst
        exact hK v w' { c1 with I := I' } (n1.trans ⟨rfl, rfl, rfl⟩) h2 (rep_repT k4)
end

end Go.Proofs.Ytndijidmabfhcaa.Fw

/- Calls that are handed rows and variables for their own: that they are sound. -/
namespace Go.Proofs.Ytndijidmabfhcaa.Fw
open Go Go.RowKit

theorem look_allSome {β : Type} (F : Nat → Option β) : ∀ {bs : List Nat} {r : List (Nat × β)}, allSome (bs.map fun s => (F s).map fun b => (s, b)) = some r → ∀ s, look s r = if s ∈ bs then F s else none
  | [], r, h, s => by simp only [List.map_nil, allSome, Option.some.injEq] at h; subst h; simp [look]
  | x :: bs, r, h, s => by
    simp only [List.map_cons] at h
    cases hx : F x with
    | none => rw [hx] at h; simp [allSome] at h
    | some b =>
      rw [hx] at h
      simp only [Option.map_some, allSome] at h
      cases hr : allSome (bs.map fun s => (F s).map fun b => (s, b)) with
      | none => rw [hr] at h; cases h
      | some r2 =>
        rw [hr] at h
        simp only [Option.map_some, Option.some.injEq] at h; subst h
        rw [look_cons, look_allSome F hr s]
        by_cases e : x = s
        · subst e; simp [hx]
        · rw [if_neg e]
          by_cases hs : s ∈ bs
          · simp [hs]
          · rw [if_neg hs, if_neg]
            intro hm
            rcases List.mem_cons.1 hm with rfl | hm
            · exact e rfl
            · exact hs hm

theorem distinct_iff : ∀ {l : List Nat}, distinct l = true ↔ l.Nodup
  | [] => by simp [distinct]
  | x :: l => by
    simp only [distinct, Bool.and_eq_true, Bool.not_eq_true', List.contains_eq_mem, decide_eq_false_iff_not, distinct_iff, List.nodup_cons]

theorem back_mem {x k : Nat} : ∀ {l : List (Nat × Nat)}, back x l = some k → (k, x) ∈ l
  | [], h => by cases h
  | (k', s) :: l, h => by
    simp only [back] at h
    cases hb : Nat.beq s x with
    | true =>
      rw [hb, cond_true, Option.some.injEq] at h
      have := nbeq.1 hb
      subst this; subst h; simp
    | false => rw [hb, cond_false] at h; exact List.mem_cons_of_mem _ (back_mem h)
theorem look_of_mem {α : Type} {k : Nat} {x : α} : ∀ {l : List (Nat × α)}, (l.map (·.1)).Nodup → (k, x) ∈ l → look k l = some x
  | [], _, h => by cases h
  | (k', y) :: l, hn, h => by
    rw [look_cons]
    simp only [List.map_cons, List.nodup_cons] at hn
    rcases List.mem_cons.1 h with h | h
    · cases h; rw [if_pos rfl]
    · rw [if_neg]
      · exact look_of_mem hn.2 h
      · rintro rfl; exact hn.1 (List.mem_map.2 ⟨_, h, rfl⟩)
theorem mem_of_look {α : Type} {k : Nat} {x : α} : ∀ {l : List (Nat × α)}, look k l = some x → (k, x) ∈ l
  | [], h => by cases h
  | (k', y) :: l, h => by
    rw [look_cons] at h
    split at h
    · rename_i e; cases h; subst e; simp
    · exact List.mem_cons_of_mem _ (mem_of_look h)
theorem back_of_mem {k x : Nat} : ∀ {l : List (Nat × Nat)}, (l.map (·.2)).Nodup → (k, x) ∈ l → back x l = some k
  | [], _, h => by cases h
  | (k', y) :: l, hn, h => by
    simp only [back]
    simp only [List.map_cons, List.nodup_cons] at hn
    rcases List.mem_cons.1 h with h | h
    · cases h; rw [nbeq.2 rfl]; rfl
    · rw [nbeq_f.2, cond_false]
      · exact back_of_mem hn.2 h
      · rintro rfl; exact hn.1 (List.mem_map.2 ⟨_, h, rfl⟩)
theorem look_append {α : Type} {k : Nat} : ∀ {l m : List (Nat × α)}, look k (l ++ m) = match look k l with | some x => some x | none => look k m
  | [], m => rfl
  | (k', y) :: l, m => by
    rw [List.cons_append, look_cons, look_cons]
    split
    · rfl
    · exact look_append

/-- The callee's names. -/
def fctx (c : Ctx) (ren rst : List (Nat × Nat)) : Ctx := { c with ρ := fun k => match look k ren with | some s => c.ρ s | none => 0, σ := fun k => match look k rst with | some st => c.σ st | none => none }

section
variable {c : Ctx} {env : Env} {a : Act} {w : World} {ren rst : List (Nat × Nat)}

theorem fmlB_spec {k : Nat} {b : BoxC} (h : fmlB ren rst env k = some b) : ∃ s b0, look k ren = some s ∧ look s env.bx = some b0 ∧ b0.frozen = false ∧ fmlL ren rst b0.cells = some b.cells ∧ b.frozen = false := by
  unfold fmlB at h
  cases h1 : look k ren with
  | none => rw [h1] at h; cases h
  | some s =>
    rw [h1] at h
    simp only at h
    cases h2 : look s env.bx with
    | none => rw [h2] at h; cases h
    | some b0 =>
      rw [h2] at h
      simp only at h
      cases h3 : b0.frozen with
      | true => rw [h3] at h; cases h
      | false =>
        rw [h3, cond_false] at h
        cases h4 : fmlL ren rst b0.cells with
        | none => rw [h4] at h; cases h
        | some cs =>
          rw [h4] at h
          cases h
          exact ⟨s, b0, rfl, h2, h3, h4, rfl⟩
theorem fmlU_spec {k u : Nat} (h : fmlU rst env k = some u) : ∃ st, look k rst = some st ∧ look st env.us = some u ∧ st ∉ env.dd := by
  unfold fmlU at h
  cases h1 : look k rst with
  | none => rw [h1] at h; cases h
  | some st =>
    rw [h1] at h
    simp only at h
    cases h2 : env.dd.contains st with
    | true => rw [h2] at h; cases h
    | false =>
      rw [h2, cond_false] at h
      exact ⟨st, rfl, h, by simpa using h2⟩
theorem fmlBx_look {bx0 : List (Nat × BoxC)} (h : fmlBx ren rst env = some bx0) (k : Nat) : look k bx0 = if k ∈ ren.map (·.1) then fmlB ren rst env k else none := look_allSome (fmlB ren rst env) h k
theorem fmlUs_look {us0 : List (Nat × Nat)} (h : fmlUs rst env = some us0) (k : Nat) : look k us0 = if k ∈ rst.map (·.1) then fmlU rst env k else none := look_allSome (fmlU rst env) h k
theorem allSome_isSome {β : Type} (F : Nat → Option β) : ∀ {l : List Nat} {r : List (Nat × β)}, allSome (l.map fun s => (F s).map fun b => (s, b)) = some r → ∀ s ∈ l, (F s).isSome = true
  | [], _, _, s, hs => by cases hs
  | x :: l, r, h, s, hs => by
    simp only [List.map_cons] at h
    cases hx : F x with
    | none => rw [hx] at h; simp [allSome] at h
    | some b =>
      rw [hx] at h
      simp only [Option.map_some, allSome] at h
      cases hr : allSome (l.map fun s => (F s).map fun b => (s, b)) with
      | none => rw [hr] at h; cases h
      | some r2 =>
        rcases List.mem_cons.1 hs with rfl | hs
        · rw [hx]; rfl
        · exact allSome_isSome F hr s hs
theorem mem_fst {α : Type} {k : Nat} {x : α} {l : List (Nat × α)} (h : (k, x) ∈ l) : k ∈ l.map (·.1) := List.mem_map.2 ⟨_, h, rfl⟩

variable {bx0 : List (Nat × BoxC)} {us0 : List (Nat × Nat)} (hb : fmlBx ren rst env = some bx0) (hu : fmlUs rst env = some us0)
  (hn1 : (ren.map (·.1)).Nodup) (hn3 : (rst.map (·.1)).Nodup) (hn5 : ∀ p ∈ rst, 2 ≤ p.1 ∧ 2 ≤ p.2)
include hb hu hn1 hn3 hn5

theorem fml_cell {d d' : D} {v : Value} (hr : RepC c env w d v) (hf : fml ren rst d = some d') : RepC (fctx c ren rst) (memEnv bx0 us0) w d' v := by
  have hloc : ∀ s k, back s ren = some k → (look s env.bx).isSome = true → (look k bx0).isSome = true ∧ (fctx c ren rst).ρ k = c.ρ s := by
    intro s k hk _
    have hm := back_mem hk
    have hl := look_of_mem hn1 hm
    refine ⟨?_, by simp [fctx, hl]⟩
    rw [fmlBx_look hb, if_pos (mem_fst hm)]
    exact allSome_isSome (fmlB ren rst env) hb k (mem_fst hm)
  cases d <;> simp only [fml] at hf <;> first | (cases hf; done) | skip
  case agg cs => exact hr.elim
  case loc s off =>
    cases hk : back s ren with
    | none => rw [hk] at hf; cases hf
    | some k =>
      rw [hk] at hf; cases hf
      obtain ⟨h1, h2⟩ := hr
      obtain ⟨k1, k2⟩ := hloc s k hk h1
      exact ⟨k1, by rw [k2]; exact h2⟩
  case lsl s off n =>
    cases hk : back s ren with
    | none => rw [hk] at hf; cases hf
    | some k =>
      rw [hk] at hf; cases hf
      obtain ⟨h1, h2⟩ := hr
      obtain ⟨k1, k2⟩ := hloc s k hk h1
      exact ⟨k1, by rw [k2]; exact h2⟩
  case sl st es xs =>
    cases hf
    obtain ⟨h1, h2⟩ := hr
    refine ⟨h1, ?_⟩
    cases hk : back st rst with
    | none =>
      simp only
      cases h1 : Nat.beq st 1 with
      | false => exact .inl rfl
      | true =>
        have := nbeq.1 h1
        subst this
        rcases h2 with h2 | h2 | h2
        · cases h2
        · exact .inr (.inl ⟨rfl, h2.2⟩)
        · exact absurd h2.1 (by omega)
    | some k =>
      simp only
      have hm := back_mem hk
      have hl := look_of_mem hn3 hm
      obtain ⟨g1, g2⟩ := hn5 _ hm
      simp only at g1 g2
      have hus : ∃ u, fmlU rst env k = some u := Option.isSome_iff_exists.1 (allSome_isSome (fmlU rst env) hu k (mem_fst hm))
      obtain ⟨u, hu'⟩ := hus
      obtain ⟨st', e1, e2, e3⟩ := fmlU_spec hu'
      rw [hl] at e1; cases e1
      have hlk : look k us0 = some u := by rw [fmlUs_look hu, if_pos (mem_fst hm)]; exact hu'
      rcases h2 with h2 | h2 | ⟨_, u', hu2, h2⟩
      · omega
      · omega
      · rw [e2] at hu2; cases hu2
        refine .inr (.inr ⟨g1, u, hlk, .inr ?_⟩)
        have h2 := h2.resolve_left e3
        have e : (fctx c ren rst).σ k = c.σ st := by simp [fctx, hl]
        rw [e]
        exact h2
  all_goals (cases hf; exact hr)
theorem fml_cells : ∀ {ds ds' : List D} {vs : List Value}, All2 (RepC c env w) ds vs → fmlL ren rst ds = some ds' → All2 (RepC (fctx c ren rst) (memEnv bx0 us0) w) ds' vs
  | [], ds', vs, hr, hf => by simp only [fmlL, Option.some.injEq] at hf; subst hf; cases vs <;> first | trivial | exact hr.elim
  | d :: ds, ds', [], hr, _ => hr.elim
  | d :: ds, ds', v :: vs, hr, hf => by
    simp only [fmlL] at hf
    cases h1 : fml ren rst d with
    | none => rw [h1] at hf; cases hf
    | some d' =>
      cases h2 : fmlL ren rst ds with
      | none => rw [h1, h2] at hf; cases hf
      | some es =>
        rw [h1, h2] at hf; cases hf
        exact ⟨fml_cell hb hu hn1 hn3 hn5 hr.1 h1, fml_cells hr.2 h2⟩
theorem fml_val {d d' : D} {v : Value} (hr : RepT c env w d v) (hf : fml ren rst d = some d') : RepT (fctx c ren rst) (memEnv bx0 us0) w d' v := by
  cases d <;> first | (cases hf; done) | skip
  case agg cs =>
    simp only [fml] at hf
    cases h1 : fmlL ren rst cs with
    | none => rw [h1] at hf; cases hf
    | some cs' =>
      rw [h1] at hf; cases hf
      obtain ⟨vs, e, hr⟩ := hr
      exact ⟨vs, e, fml_cells hb hu hn1 hn3 hn5 hr h1⟩
  all_goals
    simp only [RepT, RepV] at hr
    have := fml_cell hb hu hn1 hn3 hn5 hr hf
    simp only [fml] at hf
    first
      | (cases hf; exact this)
      | (cases hk : back _ ren with
        | none => rw [hk] at hf; cases hf
        | some k => rw [hk] at hf; cases hf; rw [hk] at *; exact this)
theorem fml_vals : ∀ {ds ds' : List D} {vs : List Value}, All2 (RepT c env w) ds vs → fmlL ren rst ds = some ds' → All2 (RepT (fctx c ren rst) (memEnv bx0 us0) w) ds' vs
  | [], ds', vs, hr, hf => by simp only [fmlL, Option.some.injEq] at hf; subst hf; cases vs <;> first | trivial | exact hr.elim
  | d :: ds, ds', [], hr, _ => hr.elim
  | d :: ds, ds', v :: vs, hr, hf => by
    simp only [fmlL] at hf
    cases h1 : fml ren rst d with
    | none => rw [h1] at hf; cases hf
    | some d' =>
      cases h2 : fmlL ren rst ds with
      | none => rw [h1, h2] at hf; cases hf
      | some es =>
        rw [h1, h2] at hf; cases hf
        exact ⟨fml_val hb hu hn1 hn3 hn5 hr.1 h1, fml_vals hr.2 h2⟩
/-- What is handed over, as a state has it. -/
theorem St.mem (h : St c env a w) (hn2 : (ren.map (·.2)).Nodup) (hn4 : (rst.map (·.2)).Nodup) : Mem (fctx c ren rst) bx0 us0 w := by
  have hB : ∀ k, (look k bx0).isSome = true → ∃ s b0, look k ren = some s ∧ look s env.bx = some b0 ∧ (fctx c ren rst).ρ k = c.ρ s := fun k hk => by
    rw [fmlBx_look hb] at hk
    split at hk
    · obtain ⟨b, hk⟩ := Option.isSome_iff_exists.1 hk
      obtain ⟨s, b0, e1, e2, _⟩ := fmlB_spec hk
      exact ⟨s, b0, e1, e2, by simp [fctx, e1]⟩
    · cases hk
  have hU : ∀ k, (look k us0).isSome = true → ∃ st, look k rst = some st ∧ env.live st ∧ (fctx c ren rst).σ k = c.σ st := fun k hk => by
    rw [fmlUs_look hu] at hk
    split at hk
    · obtain ⟨u, hk⟩ := Option.isSome_iff_exists.1 hk
      obtain ⟨st, e1, e2, e3⟩ := fmlU_spec hk
      exact ⟨st, e1, ⟨by rw [e2]; rfl, e3⟩, by simp [fctx, e1]⟩
    · cases hk
  have hinj : ∀ k k' s, look k ren = some s → look k' ren = some s → k = k' := fun k k' s e1 e2 => by
    have b1 := back_of_mem hn2 (mem_of_look e1)
    have b2 := back_of_mem hn2 (mem_of_look e2)
    rw [b1] at b2; exact Option.some.inj b2
  have hinjU : ∀ k k' s, look k rst = some s → look k' rst = some s → k = k' := fun k k' s e1 e2 => by
    have b1 := back_of_mem hn4 (mem_of_look e1)
    have b2 := back_of_mem hn4 (mem_of_look e2)
    rw [b1] at b2; exact Option.some.inj b2
  refine ⟨fun k b hk => ?_, fun k k' h1 h2 e => ?_, fun k hk => ?_, fun k k' g h1 h2 e1 e2 => ?_, fun k g hk e => ?_, h.im⟩
  · rw [fmlBx_look hb] at hk
    split at hk
    · obtain ⟨s, b0, e1, e2, e3, e4, e5⟩ := fmlB_spec hk
      obtain ⟨vs, e, g1, g2, g3, g4⟩ := h.bx s b0 e2
      have er : (fctx c ren rst).ρ k = c.ρ s := by simp [fctx, e1]
      refine ⟨vs, e, by rw [er]; exact g1, fml_cells hb hu hn1 hn3 hn5 g2 e4, (fun x => by rw [e5] at x; cases x), fun _ o => ?_⟩
      rw [er]; exact g4 e3 o
    · cases hk
  · obtain ⟨s, b0, e1, e2, e3⟩ := hB k h1
    obtain ⟨s', b0', f1, f2, f3⟩ := hB k' h2
    rw [e3, f3] at e
    have := h.inj s s' (.inl (by rw [e2]; rfl)) (.inl (by rw [f2]; rfl)) e
    subst this
    exact hinj _ _ _ e1 f1
  · obtain ⟨s, b0, e1, e2, e3⟩ := hB k hk
    rw [e3]; exact h.lt s (.inl (by rw [e2]; rfl))
  · obtain ⟨st, f1, f2, f3⟩ := hU k h1
    obtain ⟨st', g1, g2, g3⟩ := hU k' h2
    rw [f3] at e1; rw [g3] at e2
    have := h.ownInj st st' g f2 g2 e1 e2
    subst this
    exact hinjU _ _ _ f1 g1
  · obtain ⟨st, f1, f2, f3⟩ := hU k hk
    rw [f3] at e
    obtain ⟨q1, q2, q3⟩ := h.ownAbove st g f2 e
    refine ⟨q2, fun k' hk' => ?_⟩
    obtain ⟨s, b0, e1, e2, e3⟩ := hB k' hk'
    rw [e3]; exact q3 s (.inl (by rw [e2]; rfl))
omit hn1 hn3 hn5 in
theorem mem_passed {k : Nat} (hp : passed (fctx c ren rst) bx0 us0 k) : (∃ f s, look f ren = some s ∧ (look s env.bx).isSome = true ∧ c.ρ s = k) ∨ ∃ f st, look f rst = some st ∧ env.live st ∧ c.σ st = some k := by
  rcases hp with ⟨f, hf, e⟩ | ⟨f, hf, e⟩
  · left
    rw [fmlBx_look hb] at hf
    split at hf
    · obtain ⟨b, hk⟩ := Option.isSome_iff_exists.1 hf
      obtain ⟨s, b0, e1, e2, _⟩ := fmlB_spec hk
      exact ⟨f, s, e1, by rw [e2]; rfl, by rw [← e]; simp [fctx, e1]⟩
    · cases hf
  · right
    rw [fmlUs_look hu] at hf
    split at hf
    · obtain ⟨u, hk⟩ := Option.isSome_iff_exists.1 hf
      obtain ⟨st, e1, e2, e3⟩ := fmlU_spec hk
      exact ⟨f, st, e1, ⟨by rw [e2]; rfl, e3⟩, by rw [← e]; simp [fctx, e1]⟩
    · cases hf
end
end Go.Proofs.Ytndijidmabfhcaa.Fw
