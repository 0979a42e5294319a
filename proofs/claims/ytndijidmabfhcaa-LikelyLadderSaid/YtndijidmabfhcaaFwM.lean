/- Operations that make memory. -/
import Derived.Test.YtndijidmabfhcaaFwL
namespace Go.Proofs.Ytndijidmabfhcaa.Fw
open Go Go.RowKit

section
variable {P : Program} {T : Ty} {c : Ctx} {env : Env} {a : Act} {w : World}

/-- A new row that changes no more. -/
theorem St.newRow (h : St c env a w) (vs : List Value) (e : TypeId) : ∃ c', c.Next c' ∧ St c' env a (w.alloc (.cells ⟨vs⟩ e)) ∧ Step c env w c' env (w.alloc (.cells ⟨vs⟩ e)) ∧ ∀ o, o < vs.length → c'.I w.heap.size o := by
  have h1 := h.alloc (.cells ⟨vs⟩ e)
  have S1 := Step.allocSt h (.cells ⟨vs⟩ e)
  have S2 : Step c env (w.alloc (.cells ⟨vs⟩ e)) { c with I := fun b o => c.I b o ∨ (b = w.heap.size ∧ o < vs.length) } env (w.alloc (.cells ⟨vs⟩ e)) :=
    ⟨⟨fun _ _ h => .inl h, fun _ _ _ h => h, fun _ _ _ _ h => h⟩, fun _ h => ⟨h, rfl⟩, fun _ h => ⟨h, rfl⟩, fun _ _ h => h, fun _ h => h, fun st hl _ => ⟨rfl, fun g hg => ⟨rfl, fun o ho => ho.resolve_right fun e => by have := (h.ownAbove st g hl hg).2.1; omega⟩⟩⟩
  refine ⟨{ c with I := fun b o => c.I b o ∨ (b = w.heap.size ∧ o < vs.length) }, ⟨rfl, rfl, rfl⟩, ?_, S1.trans S2, fun o ho => .inr ⟨rfl, ho⟩⟩
  refine ⟨h1.nt, h1.df, fun t d hd => S2.repT (h1.tm t d hd), fun t d hd => (h1.wt t d hd).step S2, fun s b hs => (h1.bx s b hs).step S2 rfl rfl (fun o ho => ho.resolve_right fun e => ?_), fun s m hs => (h1.mp s m hs).step S2 rfl rfl (fun o ho => ho.resolve_right fun e => ?_), h1.inj, h1.above, h1.lt, h1.ownInj, h1.ownAbove, ?_, h1.im0.trans S2.keeps, ?_, h1.base, h1.gh⟩
  · have := h.lt s (.inl (by rw [hs]; rfl)); omega
  · have := h.lt s (.inr (by rw [hs]; rfl)); omega
  · rintro b o (hi | ⟨rfl, _⟩)
    · exact h1.im _ _ hi
    · simp
  · rintro b o (hi | ⟨rfl, _⟩)
    · exact h1.imNew _ _ hi
    · exact .inr h.base.size

theorem repCs_of {I : Im} {g : Nat} : ∀ {ds : List D} {o j : Nat}, (∀ (i : Nat) x, ds[i]? = some x → x.isCell = true ∧ I g (o + (j + i)) ∧ ∃ u, w.cell? ⟨g, o + (j + i), none⟩ = some u ∧ Rep I w x u) → RepCs I w ds ⟨g, o, none⟩ j
  | [], _, _, _ => by simp only [RepCs]
  | d :: ds, o, j, h => by
    simp only [RepCs]
    have h0 := h 0 d rfl
    refine ⟨?_, repCs_of fun i x hx => by have := h (i + 1) x (by simpa using hx); rw [show j + (i + 1) = j + 1 + i from by omega] at this; exact this⟩
    rw [addr_add_mk]; exact h0

theorem repRow_chunk {I : Im} {e : TE} (h1 : e.isAgg = false → e.size = 1) {g : Nat} : ∀ (n i : Nat) (cs : List D), cs.length = n * e.size → (∀ (j : Nat) x, cs[j]? = some x → x.isCell = true ∧ I g (i * e.size + j) ∧ ∃ u, w.cell? ⟨g, i * e.size + j, none⟩ = some u ∧ Rep I w x u) → RepRow I w e.size (chunk e n cs) ⟨g, 0, none⟩ i
  | 0, _, _, _, _ => by simp only [chunk, RepRow]
  | n + 1, i, cs, hl, h => by
    rw [chunk, repRow_cons]
    have hl' : cs.length = n * e.size + e.size := by rw [hl, Nat.add_mul]; omega
    refine ⟨?_, repRow_chunk h1 n (i + 1) _ (by simp; omega) fun j x hx => ?_⟩
    · rw [addr_add_mk, Nat.zero_add]
      cases hag : e.isAgg with
      | true =>
        rw [cond_true]
        refine ⟨by simp [D.cells]; omega, ?_⟩
        simp only [RepAt]
        refine repCs_of fun j x hx => ?_
        rw [Nat.zero_add]
        refine h j x ?_
        rw [List.getElem?_take] at hx
        split at hx
        · exact hx
        · cases hx
      | false =>
        rw [cond_false]
        have hs := h1 hag
        have : cs[0]? = some (cs.headD .undef) := by cases cs <;> first | (simp at hl'; omega) | rfl
        have h0 := h 0 _ this
        cases hd : cs.headD .undef <;> rw [hd] at h0 <;> first | (cases h0.1; done) | exact ⟨by simp [D.cells, hs], h0⟩
    · have := h (e.size + j) x (by rw [List.getElem?_drop] at hx; exact hx)
      rw [show (i + 1) * e.size + j = i * e.size + (e.size + j) from by rw [Nat.add_mul]; omega]; exact this

theorem flatten_replicate_get {α : Type} (l : List α) : ∀ (n k : Nat), k < n * l.length → ((List.replicate n l).flatten)[k]? = l[k % l.length]?
  | 0, k, h => by simp at h
  | n + 1, k, h => by
    rw [List.replicate_succ, List.flatten_cons]
    by_cases hk : k < l.length
    · rw [List.getElem?_append_left hk, Nat.mod_eq_of_lt hk]
    · rw [List.getElem?_append_right (by omega), flatten_replicate_get l n (k - l.length) (by rw [Nat.add_mul] at h; omega)]
      congr 1
      exact (Nat.mod_eq_sub_mod (by omega)).symm

theorem repC_rep_cells {ds : List D} {vs : List Value} (h : All2 (Rep c.I w) ds vs) (hc : ds.all D.isCell = true) (i : Nat) (x : D) (hx : ds[i]? = some x) : x.isCell = true ∧ ∃ u, vs[i]? = some u ∧ Rep c.I w x u :=
  ⟨List.all_eq_true.1 hc x (List.mem_of_getElem? hx), h.get i x hx⟩

theorem chunk_length (e : TE) : ∀ (n : Nat) (cs : List D), (chunk e n cs).length = n
  | 0, _ => rfl
  | n + 1, cs => by simp [chunk, chunk_length e n]

/-- The row of a slice literal. -/
theorem run_buildSlice (hT : TyOK P T) {t u n : Nat} {eu : TE} (ht : P.underlying t = some (.slice u)) (hu : T u = some eu) (hn : n * eu.size ≤ 16777216) (_ : eu.size ≠ 0) {ps : List (Nat × D)} {qs : List (Nat × Value)} (hp : RepP c env w ps qs) {cs : List D}
    (hb : buildCells (fun i => some (i * eu.size, eu.size)) ((List.replicate n eu.zero.cells).flatten) ps = some cs) :
    ∃ vs : List Value, All2 (RepC c env w) cs vs ∧ vs.length = n * eu.size ∧ (Instr.buildSlice t n ⟨qs⟩).run P w = .ok (.slice (some ⟨w.heap.size, 0, none⟩) n n) (w.alloc (.cells ⟨vs⟩ u)) := by
  obtain ⟨z, zs, hz, hzc, hzl, hzl2, hzr⟩ := zero_spec (hT u eu hu)
  obtain ⟨zs', hzc', hz2⟩ := repV_cells (hzr c env w)
  rw [hzc] at hzc'
  obtain rfl : zs = zs' := by injection hzc'
  have h0 : All2 (RepC c env w) ((List.replicate n eu.zero.cells).flatten) ((List.range (n * eu.size)).map fun k => zs.getD (k % eu.size) default) := by
    have hl : ((List.replicate n eu.zero.cells).flatten).length = n * eu.size := by simp [hzl2]
    refine all2_iff.2 ⟨by simp [hzl2], fun i x y hx hy => ?_⟩
    have hi : i < n * eu.size := by have := (List.getElem?_eq_some_iff.1 hx).1; omega
    rw [flatten_replicate_get _ _ _ (by rw [hzl2]; exact hi), hzl2] at hx
    rw [List.getElem?_map, List.getElem?_range hi] at hy
    simp only [Option.map_some, Option.some.injEq] at hy
    obtain ⟨v, hv, hr⟩ := hz2.get _ x hx
    subst hy
    simpa [List.getD_eq_getElem?_getD, hv] using hr
  obtain ⟨us, hus, hr⟩ := fill_rep (place := fun i => some (i * eu.size, eu.size)) (fun i o m hi => hi) ps qs _ _ cs hp h0 hb
  have hlen : us.length = n * eu.size := by
    rw [← hr.length]
    have : ∀ (ps : List (Nat × D)) (cs r : List D), buildCells (fun i => some (i * eu.size, eu.size)) cs ps = some r → r.length = cs.length := by
      intro ps
      induction ps with
      | nil => intro cs r h; simp only [buildCells, Option.some.injEq] at h; rw [h]
      | cons p ps ih =>
        intro cs r h
        obtain ⟨i, d⟩ := p
        simp only [buildCells] at h
        cases hb : (Nat.beq d.cells.length eu.size && Nat.ble (i * eu.size + eu.size) cs.length) with
        | false => rw [hb] at h; cases h
        | true =>
          rw [hb, cond_true] at h
          simp only [Bool.and_eq_true, nbeq, Nat.ble_eq] at hb
          rw [ih _ _ h, splice_length _ _ _ (by omega)]
    rw [this _ _ _ hb]; simp [hzl2]
  refine ⟨us, hr, hlen, ?_⟩
  unfold Instr.buildSlice
  simp only [Sem.run_bind, run_underlying ht, Result.andThen_ok, (hT u eu hu).size]
  rw [if_neg (by omega)]
  have hrow : ∀ w', (newRow u ⟨us⟩).run P w' = .ok ⟨w'.heap.size, 0, none⟩ (w'.alloc (.cells ⟨us⟩ u)) := fun w' => by simp [newRow]
  have hget : ∀ k, (⟨zs⟩ : Array Value)[k]! = zs.getD k default := fun k => by
    rw [getElem!_def, List.getD_eq_getElem?_getD]
    have : (⟨zs⟩ : Array Value)[k]? = zs[k]? := by simp
    rw [this]
    cases zs[k]? <;> rfl
  have hsz : (⟨zs⟩ : Array Value).size = eu.size := hzl
  have harr : ((Array.range (n * eu.size)).map fun x => (⟨zs⟩ : Array Value)[x % (⟨zs⟩ : Array Value).size]!) = ⟨(List.range (n * eu.size)).map fun k => zs.getD (k % eu.size) default⟩ := by
    apply Array.ext'
    rw [Array.toList_map, Array.toList_range]
    simp only [hget, hsz]
  by_cases hn0 : n * eu.size = 0
  · rw [if_pos hn0]
    simp only [Sem.run_pure, Sem.run_bind, Result.andThen_ok]
    have : ((Array.range (n * eu.size)).map fun x => (#[] : Array Value)[x % (#[] : Array Value).size]!) = ⟨(List.range (n * eu.size)).map fun k => zs.getD (k % eu.size) default⟩ := by
      rw [hn0]; simp
    rw [this, hus]
    simp only [Sem.run_bind, hrow, Result.andThen_ok, Sem.run_pure]
  · rw [if_neg hn0]
    simp only [Sem.run_bind, hz, Result.andThen_ok, Sem.run_pure, hzc]
    rw [harr, hus]
    simp only [Sem.run_bind, hrow, Result.andThen_ok, Sem.run_pure]

/-- The state behind an operation that yields d. -/
def After (P : Program) (c : Ctx) (_env env' : Env) (a : Act) (w : World) (d : D) (s : Sem Value) : Prop :=
  ∃ v w' c', s.run P w = .ok v w' ∧ c.Next c' ∧ St c' env' a w' ∧ RepT c' env' w' d v

theorem Yield.after (h : St c env a w) {d : D} {s : Sem Value} (y : Yield P c env w d s) : After P c env env a w d s :=
  let ⟨v, h1, h2⟩ := y; ⟨v, w, c, h1, .refl c, h, h2⟩

theorem after_alloc (h : St c env a w) {t dst : Nat} {e : TE} (he : TEok P t e) (hb : look dst env.bx = none) (hm : look dst env.mp = none) :
    After P c env { env with bx := (dst, ⟨e.zero.cells, e.isAgg, false⟩) :: env.bx } a w (.loc dst 0) (Instr.alloc t true (.tuple #[])) := by
  obtain ⟨z, zs, hz, hzc, hzl, _, hzr⟩ := zero_spec he
  obtain ⟨zs', hzc', hz2⟩ := repV_cells (hzr c env w)
  rw [hzc] at hzc'
  obtain rfl : zs = zs' := by injection hzc'
  obtain ⟨h1, h2⟩ := h.newBox e.isAgg t hb hm hz2
  refine ⟨_, _, { c with ρ := fun s => if s = dst then w.heap.size else c.ρ s }, ?_, ⟨rfl, rfl, rfl⟩, h1, h2⟩
  simp [Instr.alloc, hz, newVar, newRow, hzc]

theorem after_box (h : St c env a w) {t dst : Nat} {e : TE} {d : D} {v : Value} (hd : RepV c env w d v) (hb : look dst env.bx = none) (hm : look dst env.mp = none) :
    After P c env { env with bx := (dst, ⟨d.cells, e.isAgg, false⟩) :: env.bx } a w (.loc dst 0) (Instr.box t v) := by
  obtain ⟨zs, hzc, hz2⟩ := repV_cells hd
  obtain ⟨h1, h2⟩ := h.newBox e.isAgg t hb hm hz2
  refine ⟨_, _, { c with ρ := fun s => if s = dst then w.heap.size else c.ρ s }, ?_, ⟨rfl, rfl, rfl⟩, h1, h2⟩
  simp [Instr.box, newVar, newRow, hzc]

/-- A slice literal that changes no more. -/
theorem after_buildSlice (hT : TyOK P T) (h : St c env a w) {t u n : Nat} {eu : TE} (ht : P.underlying t = some (.slice u)) (hu : T u = some eu) (hn : n * eu.size ≤ 16777216) (hs : eu.size ≠ 0) {ps : List (Nat × D)} {qs : List (Nat × Value)} (hp : RepP c env w ps qs) {cs cs' : List D}
    (hb : buildCells (fun i => some (i * eu.size, eu.size)) ((List.replicate n eu.zero.cells).flatten) ps = some cs) (hc : cloL env.mp cs = some cs') {mp : List (Nat × MapC)} (hf : frzM env.mp (cloM (.agg cs)) = some mp) :
    After P c env { env with mp } a w (.sl 0 eu.size (chunk eu n cs')) (Instr.buildSlice t n ⟨qs⟩) := by
  obtain ⟨vs, hv, hvl, hrun⟩ := run_buildSlice hT ht hu hn hs hp hb
  obtain ⟨c1, n1, h1, S1, hm1⟩ := h.frzM hf
  obtain ⟨c2, n2, h2, S2, hI⟩ := h1.newRow vs u
  have hcl := clo_cells h1 (hv.mono fun _ _ => S1.repC) hc (fun s hs m hl => by
    obtain ⟨m', g1, g2, g3, g4⟩ := hm1 s m hl
    exact ⟨m', g1, g2, g3, g4 (.inr (mem_cloM_agg hs))⟩)
  refine ⟨_, _, c2, hrun, n1.trans n2, h2, repT_sl_mk (.inr ⟨⟨w.heap.size, 0, none⟩, n, by rw [chunk_length], by rw [chunk_length]; exact Nat.le_refl n, ?_⟩)⟩
  have hl : cs'.length = n * eu.size := by rw [hcl.1.length, hvl]
  refine repRow_chunk (hT u eu hu).one n 0 cs' hl fun j x hx => ?_
  obtain ⟨v, hv', hr⟩ := hcl.1.get j x hx
  have hj : j < vs.length := (List.getElem?_eq_some_iff.1 hv').1
  rw [Nat.zero_mul, Nat.zero_add]
  refine ⟨List.all_eq_true.1 hcl.2 x (List.mem_of_getElem? hx), hI j hj, v, ?_, Rep.keeps S2.keeps _ _ hr⟩
  rw [cell_of_row _ w.heap.size j ⟨vs⟩ u (0, 0) (heap_alloc_new w _)]
  simpa using hv'

/-- One that is a local array. -/
theorem after_buildLocal (hT : TyOK P T) (h : St c env a w) {t u n dst : Nat} {eu : TE} (ht : P.underlying t = some (.slice u)) (hu : T u = some eu) (hn : n * eu.size ≤ 16777216) (hs : eu.size ≠ 0) {ps : List (Nat × D)} {qs : List (Nat × Value)} (hp : RepP c env w ps qs) {cs : List D}
    (hb : buildCells (fun i => some (i * eu.size, eu.size)) ((List.replicate n eu.zero.cells).flatten) ps = some cs) (hbx : look dst env.bx = none) (hm : look dst env.mp = none) :
    After P c env { env with bx := (dst, ⟨cs, true, false⟩) :: env.bx } a w (.lsl dst 0 n) (Instr.buildSlice t n ⟨qs⟩) := by
  obtain ⟨vs, hv, hvl, hrun⟩ := run_buildSlice hT ht hu hn hs hp hb
  obtain ⟨h1, h2⟩ := h.newBox true u hbx hm hv
  exact ⟨_, _, { c with ρ := fun s => if s = dst then w.heap.size else c.ρ s }, hrun, ⟨rfl, rfl, rfl⟩, h1, h2.1, n, by simp, Nat.le_refl n⟩

theorem after_makeMap (h : St c env a w) {t dst : Nat} (hb : look dst env.bx = none) (hm : look dst env.mp = none) :
    After P c env { env with mp := (dst, ⟨[], [], false⟩) :: env.mp } a w (.mapr dst) (Instr.makeMap t none) := by
  have hh : ∀ k, k < w.heap.size → (w.alloc (.map #[] 0)).heap[k]? = w.heap[k]? := fun k hk => Below.heap_alloc w _ k hk
  have hne : ∀ s, (look s env.bx).isSome = true ∨ (look s env.mp).isSome = true → s ≠ dst := by
    rintro s hs rfl; rcases hs with hs | hs
    · rw [hb] at hs; cases hs
    · rw [hm] at hs; cases hs
  have hblk : ∀ s, Env.blk { env with mp := (dst, ⟨[], [], false⟩) :: env.mp } s → s = dst ∨ env.blk s := by
    intro s hs
    unfold Env.blk at hs ⊢
    simp only [look_cons] at hs
    by_cases e : dst = s
    · exact .inl e.symm
    · rw [if_neg e] at hs; exact .inr hs
  have S : Step c env w { c with ρ := fun s => if s = dst then w.heap.size else c.ρ s } { env with mp := (dst, ⟨[], [], false⟩) :: env.mp } (w.alloc (.map #[] 0)) := by
    have S1 := Step.allocSt h (.map #[] 0)
    refine ⟨S1.keeps, fun s hs => ⟨hs, by simp [hne s (.inl hs)]⟩, fun s hs => ⟨?_, by simp [hne s (.inr hs)]⟩, S1.us, S1.dd, S1.own⟩
    simp only [look_cons]; split
    · rfl
    · exact hs
  have hrep : RepT { c with ρ := fun s => if s = dst then w.heap.size else c.ρ s } { env with mp := (dst, ⟨[], [], false⟩) :: env.mp } (w.alloc (.map #[] 0)) (.mapr dst) (.map (some w.heap.size)) := by
    show RepC { c with ρ := fun s => if s = dst then w.heap.size else c.ρ s } { env with mp := (dst, ⟨[], [], false⟩) :: env.mp } (w.alloc (.map #[] 0)) (.mapr dst) _
    exact ⟨by simp [look_cons], by simp⟩
  refine ⟨.map (some w.heap.size), w.alloc (.map #[] 0), { c with ρ := fun s => if s = dst then w.heap.size else c.ρ s }, by simp [Instr.makeMap], ⟨rfl, rfl, rfl⟩, ?_, hrep⟩
  refine ⟨h.nt, h.df, fun t d hd => S.repT (h.tm t d hd), fun t d hd => (h.wt t d hd).step S, ?_, ?_, ?_, ?_, ?_, h.ownInj, ?_, ?_, h.im0.trans S.keeps, h.imNew, h.base.alloc h.base.size _, h.gh.1, S.fix h.gh.2⟩
  · intro s b hs
    have hlt := h.lt s (.inl (by rw [hs]; rfl))
    exact (h.bx s b hs).step S (by simp [hne s (.inl (by rw [hs]; rfl))]) (hh _ hlt) (fun _ x => x)
  · intro s m hs
    simp only [look_cons] at hs
    split at hs
    · rename_i e'; subst e'; cases hs
      refine ⟨#[], 0, by simp only [if_true]; exact heap_alloc_new w _, by simp [RepL], by simp [RepL], rfl, (fun hf => by cases hf), fun _ o ho => ?_⟩
      have ho : c.I (if dst = dst then w.heap.size else c.ρ dst) o := ho
      rw [if_pos rfl] at ho; exact Nat.lt_irrefl _ (h.im _ _ ho)
    · have hlt := h.lt s (.inr (by rw [hs]; rfl))
      exact (h.mp s m hs).step S (by simp [hne s (.inr (by rw [hs]; rfl))]) (hh _ hlt) (fun _ x => x)
  · intro s s' hs hs' e'
    rcases hblk s hs with rfl | h1 <;> rcases hblk s' hs' with rfl | h2
    · rfl
    · simp only [if_true, if_neg (hne s' h2)] at e'; have := h.lt s' h2; omega
    · simp only [if_true, if_neg (hne s h1)] at e'; have := h.lt s h1; omega
    · simp only [if_neg (hne s h1), if_neg (hne s' h2)] at e'; exact h.inj s s' h1 h2 e'
  · intro s hs
    rcases hblk s hs with rfl | h1
    · simp only [if_true]; exact h.base.size
    · simp only [if_neg (hne s h1)]; exact h.above s h1
  · intro s hs
    rcases hblk s hs with rfl | h1
    · simp
    · simp only [if_neg (hne s h1)]; exact Nat.lt_trans (h.lt s h1) (by simp)
  · intro st g hl hg
    obtain ⟨h1, h2, h3⟩ := h.ownAbove st g hl hg
    refine ⟨h1, Nat.lt_trans h2 (by simp), fun s hs => ?_⟩
    rcases hblk s hs with rfl | h1
    · simp only [if_true]; omega
    · simp only [if_neg (hne s h1)]; exact h3 s h1
  · intro b o hi; exact Nat.lt_trans (h.im b o hi) (by simp)

theorem after_iface (h : St c env a w) {t : Nat} {d : TypeDesc} (ht : P.underlying t = some d) (hd : ∀ ms, d ≠ .interface ms) {x x' : D} {v : Value} (hx : RepT c env w x v) (hc : clo env.mp x = some x') {mp : List (Nat × MapC)} (hf : frzM env.mp (cloM x) = some mp) :
    After P c env { env with mp } a w (.ifc t x') (Instr.makeInterface t v) := by
  obtain ⟨c1, n1, h1, S1, hm1⟩ := h.frzM hf
  have hxv : RepV c env w x v := by
    cases x <;> first | exact hx | (simp only [clo] at hc; cases hc)
  obtain ⟨g1, g2⟩ := clo_val h1 (S1.repV hxv) hc (fun s hs m hl => by
    obtain ⟨m', g1, g2, g3, g4⟩ := hm1 s m hl
    exact ⟨m', g1, g2, g3, g4 (.inr hs)⟩)
  refine ⟨.iface t v, w, c1, ?_, n1, h1, ?_⟩
  · simp only [Instr.makeInterface, Sem.run_bind, run_underlying ht, Result.andThen_ok]
    cases d <;> first | rfl | exact absurd rfl (hd _)
  · show RepC c1 { env with mp } w (.ifc t x') _
    simp only [RepC, Rep]
    exact ⟨v, rfl, g1⟩
end

end Go.Proofs.Ytndijidmabfhcaa.Fw
