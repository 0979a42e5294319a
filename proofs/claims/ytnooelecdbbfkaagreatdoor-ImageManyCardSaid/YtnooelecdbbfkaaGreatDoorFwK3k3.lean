/- Texts R, S, T, UM, UN of the proof, in one. -/
import Derived.RangeFuncNested
import Derived.RangeFuncLeaves
import Derived.OrdersIn
import Derived.Test.YtnooelecdbbfkaaGreatDoorFwK3k2
set_option linter.unusedSimpArgs false
set_option linter.unusedVariables false
set_option linter.unusedSectionVars false
set_option linter.unnecessarySimpa false

/- What is laid into local variables, and into local maps. -/
namespace Go.Proofs.YtnooelecdbbfkaaGreatDoor.Fw
open Go Go.RowKit
set_option linter.unusedSectionVars false
variable [Inhabited GLT]

/-- A value laid into a local variable. -/
def storeR (T : Ty) (env : Env) (t : Nat) (x d : D) : Option Env :=
  match x, T t with
  | .loc s off, some e => match look s env.bx with
    | some b => bif d.good && Nat.beq d.cells.length e.size && !b.frozen && Nat.ble (off + e.size) b.cells.length then some { env with bx := (s, { b with cells := splice b.cells off d.cells }) :: env.bx } else none
    | none => none
  | _, _ => none

/-- An entry of a local map. -/
def mapUpR (T : Ty) (env : Env) (t : Nat) (m k x : D) : Option (Bool × Env) :=
  match m, T t with
  | .mapr s, some e => match e.kind with
    | .mp q _ => match look s env.mp, T q, clo env.mp x, cloM x with
      | some mc, some _, some x', [] => bif mc.frozen || !k.good then none else match clo env.mp k, cloM k with
        | some k', [] => some (keysFit T q k' mc.ks, { env with mp := (s, { mc with ks := (putD k' x' mc.ks mc.vs).1, vs := (putD k' x' mc.ks mc.vs).2 }) :: env.mp })
        | _, _ => none
      | _, _, _, _ => none
    | _ => none
  | _, _ => none

section
variable {P : Program} {T : Ty} {c : Ctx} {env : Env} {a : Act} {w : World}

/-- A step that changes one block that is a local's own. -/
theorem Step.own1 (h : St c env a w) {s : Nat} (hs : env.blk s) (hI : ∀ o, ¬ c.I (c.ρ s) o) {env' : Env} {w' : World} (hw : ∀ k, k ≠ c.ρ s → w'.heap[k]? = w.heap[k]?)
    (hb : ∀ s, (look s env.bx).isSome = true → (look s env'.bx).isSome = true) (hm : ∀ s, (look s env.mp).isSome = true → (look s env'.mp).isSome = true) (hu : env'.us = env.us) (hd : env'.dd = env.dd) : Step c env w c env' w' := by
  refine .of (⟨fun _ _ h => h, fun x u hi hu => ?_, fun r es k hi hr => ?_⟩) (fun s h => ⟨hb s h, rfl⟩) (fun s h => ⟨hm s h, rfl⟩) (fun _ _ h => by rw [hu]; exact h) (fun _ h => by rw [hd]; exact h) (fun st hl _ => ⟨rfl, fun g hg => ⟨?_, fun _ h => h⟩⟩) (fun _ _ hl => ⟨by rw [← hu]; exact hl.1, by rw [← hd]; exact hl.2⟩)
  · exact (World.cell?_of_block (hw _ fun e => hI _ (e ▸ hi))).trans hu
  · exact (hw _ fun e => hI _ (e ▸ hi)).trans hr
  · exact hw _ fun e => (h.ownAbove st g hl hg).2.2 s hs e.symm

theorem St.setBox (h : St c env a w) {s : Nat} {b : BoxC} (hb : look s env.bx = some b) (hf : b.frozen = false) {cells : List D} {vs vs' : List Value} {e : TypeId} (hh : w.heap[c.ρ s]? = some (.cells ⟨vs⟩ e (0, 0))) (hv : All2 (RepC c env w) cells vs') :
    St c { env with bx := (s, { b with cells := cells }) :: env.bx } a (w.setRow (c.ρ s) ⟨vs'⟩) := by
  have hs : env.blk s := .inl (by rw [hb]; rfl)
  obtain ⟨_, _, _, _, _, hI⟩ := h.bx s b hb
  have hI := hI hf
  have hw : ∀ k, k ≠ c.ρ s → (w.setRow (c.ρ s) ⟨vs'⟩).heap[k]? = w.heap[k]? := fun k hk => setRow_other w _ k _ hk
  have hbk : ∀ s', (look s' ((s, { b with cells := cells }) :: env.bx)).isSome = (look s' env.bx).isSome := fun s' => by
    rw [look_cons]; split
    · rename_i e; subst e; rw [hb]; rfl
    · rfl
  have S : Step c env w c { env with bx := (s, { b with cells := cells }) :: env.bx } (w.setRow (c.ρ s) ⟨vs'⟩) :=
    Step.own1 h hs hI hw (fun s' h' => by rw [hbk]; exact h') (fun _ h' => h') rfl rfl
  have hblk : ∀ s', Env.blk { env with bx := (s, { b with cells := cells }) :: env.bx } s' ↔ env.blk s' := fun s' => by
    unfold Env.blk; simp only [hbk]
  have hsz : (w.setRow (c.ρ s) ⟨vs'⟩).heap.size = w.heap.size := by simp
  refine ⟨h.nt, h.df, fun t d hd => S.repT (h.tm t d hd), fun t d hd => (h.wt t d hd).step S, ?_, ?_, fun s1 s2 h1 h2 e => h.inj s1 s2 ((hblk _).1 h1) ((hblk _).1 h2) e, fun s1 h1 => h.above s1 ((hblk _).1 h1), fun s1 h1 => by rw [hsz]; exact h.lt s1 ((hblk _).1 h1), h.ownInj,
    fun st g hl hg => ⟨(h.ownAbove st g hl hg).1, by rw [hsz]; exact (h.ownAbove st g hl hg).2.1, fun s1 h1 => (h.ownAbove st g hl hg).2.2 s1 ((hblk _).1 h1)⟩, fun b o hi => by rw [hsz]; exact h.im b o hi, h.im0.trans S.keeps, h.imNew, ?_, ⟨h.gh.1, S.fix h.gh.2⟩, h.rows S⟩
  · intro s' b' hs'
    rw [look_cons] at hs'
    split at hs'
    · rename_i e'; subst e'; cases hs'
      exact ⟨vs', e, setRow_heap w _ _ _ _ _ hh, hv.mono fun _ _ => S.repC, (fun hf' => by rw [hf] at hf'; cases hf'), fun _ => hI⟩
    · rename_i hne
      exact (h.bx s' b' hs').step S rfl (hw _ fun e => hne (h.inj s' s (.inl (by rw [hs']; rfl)) hs e).symm) (fun _ x => x)
  · intro s' m hs'
    refine (h.mp s' m hs').step S rfl (hw _ fun e => ?_) (fun _ x => x)
    have := h.inj s' s (.inr (by rw [hs']; rfl)) hs e
    subst this
    obtain ⟨_, _, h1, _⟩ := h.mp s' m hs'
    rw [h1] at hh; cases hh
  · exact h.base.trans ⟨rfl, rfl, rfl, by simp, fun k hk => hw k (fun e => hk (e ▸ h.above s hs))⟩

theorem St.store (hT : TyOK P T) (h : St c env a w) {t : Nat} {x d : D} {vx vd : Value} (hx : RepT c env w x vx) (hd : RepT c env w d vd) {env' : Env} (hr : storeR T env t x d = some env') :
    ∃ w', (Instr.storeAt t vx vd).run P w = .ok () w' ∧ St c env' a w' := by
  unfold storeR at hr
  split at hr
  · rename_i s off e ht
    obtain ⟨_, rfl⟩ := repT_loc hx
    cases hb : look s env.bx with
    | none => rw [hb] at hr; cases hr
    | some b =>
      rw [hb] at hr
      simp only at hr
      cases hc : (d.good && Nat.beq d.cells.length e.size && !b.frozen && Nat.ble (off + e.size) b.cells.length) with
      | false => rw [hc] at hr; cases hr
      | true =>
        rw [hc, cond_true, Option.some.injEq] at hr
        subst hr
        simp only [Bool.and_eq_true, Bool.not_eq_true', Nat.ble_eq, nbeq] at hc
        obtain ⟨⟨⟨hg, hl⟩, hf⟩, hle⟩ := hc
        obtain ⟨us, hus, hu⟩ := repV_cells (good_repV hg hd)
        obtain ⟨vs, el, hh, hv, _, _⟩ := h.bx s b hb
        have l1 := hu.length
        have l2 := hv.length
        refine ⟨w.setRow (c.ρ s) ⟨vs.take off ++ us ++ vs.drop (off + us.length)⟩, ?_, h.setBox hb hf hh ?_⟩
        · have hst := run_storeCells_at P (c.ρ s) off el us 0 ⟨vs⟩ w hh (by simp; omega) (fun u hu' => by
            obtain ⟨j, hj⟩ := List.getElem?_of_mem hu'
            have : ∀ {ds : List D} {us : List Value}, All2 (RepC c env w) ds us → ∀ u ∈ us, u.oneCell' = true := by
              intro ds
              induction ds with
              | nil => intro us h u hm; cases us with
                | nil => cases hm
                | cons _ _ => exact h.elim
              | cons d ds ih => intro us h u hm; cases us with
                | nil => cases hm
                | cons v vs => rcases List.mem_cons.1 hm with rfl | hm
                               · exact repC_one h.1
                               · exact ih h.2 u hm
            exact this hu u hu')
          simp only [Nat.add_zero] at hst
          have hsz := (hT t e ht).size w
          simp [Instr.storeAt, Instr.sureAddr, storeVar, hus, hsz, hst, show us.length = e.size from by omega]
        · unfold splice
          rw [l1]
          exact ((hv.take off).append hu).append (hv.drop _)
  · cases hr

theorem St.setMap (h : St c env a w) {s : Nat} {m m' : MapC} (hb : look s env.mp = some m) (hf : m.frozen = false) (hf' : m'.frozen = false) {es es' : Array MapEntry} {ck ck' : Nat} (hh : w.heap[c.ρ s]? = some (.map es ck))
    {w' : World} (hw' : w'.heap[c.ρ s]? = some (.map es' ck')) (hw : ∀ k, k ≠ c.ρ s → w'.heap[k]? = w.heap[k]?) (hsz : w'.heap.size = w.heap.size) (hbel : w'.os = w.os ∧ w'.tape = w.tape ∧ w'.output = w.output)
    (h1 : RepL c.I w m'.ks (es'.toList.map (·.key))) (h2 : RepL c.I w m'.vs (es'.toList.map (·.val))) (h3 : m'.vs.all D.isVal = true) :
    St c { env with mp := (s, m') :: env.mp } a w' := by
  have hs : env.blk s := .inr (by rw [hb]; rfl)
  obtain ⟨_, _, _, _, _, _, _, hI⟩ := h.mp s m hb
  have hI := hI hf
  have hbk : ∀ s', (look s' ((s, m') :: env.mp)).isSome = (look s' env.mp).isSome := fun s' => by
    rw [look_cons]; split
    · rename_i e; subst e; rw [hb]; rfl
    · rfl
  have S : Step c env w c { env with mp := (s, m') :: env.mp } w' :=
    Step.own1 h hs hI hw (fun _ h' => h') (fun s' h' => by rw [hbk]; exact h') rfl rfl
  have hblk : ∀ s', Env.blk { env with mp := (s, m') :: env.mp } s' ↔ env.blk s' := fun s' => by
    unfold Env.blk; simp only [hbk]
  refine ⟨h.nt, h.df, fun t d hd => S.repT (h.tm t d hd), fun t d hd => (h.wt t d hd).step S, ?_, ?_, fun s1 s2 h1 h2 e => h.inj s1 s2 ((hblk _).1 h1) ((hblk _).1 h2) e, fun s1 h1 => h.above s1 ((hblk _).1 h1), fun s1 h1 => by rw [hsz]; exact h.lt s1 ((hblk _).1 h1), h.ownInj,
    fun st g hl hg => ⟨(h.ownAbove st g hl hg).1, by rw [hsz]; exact (h.ownAbove st g hl hg).2.1, fun s1 h1 => (h.ownAbove st g hl hg).2.2 s1 ((hblk _).1 h1)⟩, fun b o hi => by rw [hsz]; exact h.im b o hi, h.im0.trans S.keeps, h.imNew, ?_, ⟨h.gh.1, S.fix h.gh.2⟩, h.rows S⟩
  · intro s' b' hs'
    refine (h.bx s' b' hs').step S rfl (hw _ fun e => ?_) (fun _ x => x)
    have := h.inj s' s (.inl (by rw [hs']; rfl)) hs e
    subst this
    obtain ⟨_, _, h1, _⟩ := h.bx s' b' hs'
    rw [h1] at hh; cases hh
  · intro s' b' hs'
    rw [look_cons] at hs'
    split at hs'
    · rename_i e'; subst e'; cases hs'
      exact ⟨es', ck', hw', RepL.keeps S.keeps _ _ h1, RepL.keeps S.keeps _ _ h2, h3, (fun hf2 => by rw [hf'] at hf2; cases hf2), fun _ => hI⟩
    · rename_i hne
      exact (h.mp s' b' hs').step S rfl (hw _ fun e => hne (h.inj s' s (.inr (by rw [hs']; rfl)) hs e).symm) (fun _ x => x)
  · exact h.base.trans ⟨hbel.1, hbel.2.1, hbel.2.2, by omega, fun k hk => hw k (fun e => hk (e ▸ h.above s hs))⟩

/-! ### Rows that are changed in place -/
/-- What lies in an element once something is laid into it. -/
def elD (es : Nat) (e : TE) (off : Nat) (x : D) (old : D) : Option D :=
  bif Nat.beq off 0 && Nat.beq e.size es then some x else match old with
    | .agg cs => bif Nat.ble (off + e.size) cs.length then some (.agg (splice cs off x.cells)) else none
    | _ => none
def storeRow (T : Ty) (env : Env) (t st es i off : Nat) (d : D) : Option (Bool × Env) :=
  match T t, look st env.rows, clo env.mp d, cloM d with
  | some e, some r, some x, [] => bif d.good && (Nat.beq x.cells.length e.size && Nat.beq r.es es) then
      (elD es e off x (r.xs.getD i .undef)).map fun el => (Nat.blt i r.xs.length, { env with rw := (st, { r with xs := r.xs.set i el }) :: env.rw }) else none
  | _, _, _, _ => none

theorem splice_left {A B new : List D} {o : Nat} (h : o + new.length ≤ A.length) : splice (A ++ B) o new = splice A o new ++ B := by
  simp only [splice]
  rw [List.take_append_of_le_length (by omega), List.drop_append_of_le_length (by omega)]
  simp only [List.append_assoc]
theorem splice_right {A B new : List D} {o : Nat} : splice (A ++ B) (A.length + o) new = A ++ splice B o new := by
  simp only [splice]
  rw [List.take_append, List.drop_append, List.take_of_length_le (by omega), List.drop_of_length_le (l := A) (by omega)]
  rw [show A.length + o - A.length = o from by omega, show A.length + o + new.length - A.length = o + new.length from by omega]
  simp only [List.nil_append, List.append_assoc]
theorem flat_set {es off : Nat} {new : List D} : ∀ {xs : List D} {i : Nat} {el x : D}, (∀ d ∈ xs, d.cells.length = es) → xs[i]? = some x → el.cells = splice x.cells off new → off + new.length ≤ es →
    (xs.set i el).flatMap D.cells = splice (xs.flatMap D.cells) (i * es + off) new
  | [], i, el, x, _, h, _, _ => by simp at h
  | y :: xs, 0, el, x, hl, h, he, hn => by
    simp only [List.getElem?_cons_zero, Option.some.injEq] at h; subst h
    have hy := hl y (by simp)
    simp only [List.set_cons_zero, List.flatMap_cons, he, Nat.zero_mul, Nat.zero_add]
    rw [splice_left (by omega)]
  | y :: xs, i + 1, el, x, hl, h, he, hn => by
    have hy := hl y (by simp)
    simp only [List.set_cons_succ, List.flatMap_cons]
    rw [flat_set (fun d hd => hl d (by simp [hd])) (by simpa using h) he hn]
    have e1 : (i + 1) * es + off = y.cells.length + (i * es + off) := by rw [hy, Nat.add_mul]; omega
    rw [e1, splice_right]

theorem setRow_size (g : Nat) (vs : Array Value) : (w.setRow g vs).heap.size = w.heap.size := by simp

theorem St.setRowC (h : St c env a w) {st g : Nat} {r r' : RowC} (hlk : look st env.rw = some r) (hd : st ∉ env.dd) (hσ : c.σ st = some g) {vs0 vs rest : List Value} {e : TypeId} {fr : Nat × Nat} (hh : w.heap[g]? = some (.cells ⟨vs0⟩ e fr)) (hfr : FrOK r'.sh vs0.length fr)
    (hlen : (vs ++ rest).length = vs0.length) (hes : r'.es = r.es) (hu : r'.u = e) (hv : All2 (Rep c.I w) (r'.xs.flatMap D.cells) vs) (hsh : ShapeR r'.es r'.xs) :
    St c { env with rw := (st, r') :: env.rw } a (w.setRow g ⟨vs ++ rest⟩) := by
  obtain ⟨h2, hus, hok⟩ := h.rw st r hlk
  obtain ⟨he0, hok⟩ := hok.resolve_left hd
  rw [hσ] at hok
  obtain ⟨_, _, _, _, _, _, _, hI⟩ := hok
  have hlive : env.live st := ⟨by rw [hus]; rfl, hd⟩
  obtain ⟨hga, hgl, hgb⟩ := h.ownAbove st g hlive hσ
  have hw : ∀ k, k ≠ g → (w.setRow g ⟨vs ++ rest⟩).heap[k]? = w.heap[k]? := fun k hk => setRow_other w _ k _ hk
  have hsz : (w.setRow g ⟨vs ++ rest⟩).heap.size = w.heap.size := by simp
  have hg' : (w.setRow g ⟨vs ++ rest⟩).heap[g]? = some (.cells ⟨vs ++ rest⟩ e fr) := setRow_heap w _ _ _ _ _ hh
  have hK : Keeps c.I c.I w (w.setRow g ⟨vs ++ rest⟩) :=
    ⟨fun _ _ h => h, fun x u hi hu => (World.cell?_of_block (hw _ fun e => hI _ (e ▸ hi))).trans hu, fun r es k hi hr => (hw _ fun e => hI _ (e ▸ hi)).trans hr⟩
  have hother : ∀ st', env.live st' → st' ≠ st → ∀ g', c.σ st' = some g' → g' ≠ g := fun st' hl hne g' h1 e => hne (h.ownInj st' st g hl hlive (e ▸ h1) hσ)
  have S : StepW c env w c { env with rw := (st, r') :: env.rw } (w.setRow g ⟨vs ++ rest⟩) := by
    refine ⟨hK, fun _ h => ⟨h, rfl⟩, fun _ h => ⟨h, rfl⟩, fun _ _ h => h, fun _ h => h, fun st' hl _ => ⟨rfl, fun g' h1 => ?_⟩, fun _ _ h => h⟩
    by_cases e' : g' = g
    · subst e'
      have : st' = st := h.ownInj st' st g' hl hlive h1 hσ
      subst this
      refine ⟨fun hm => absurd hus hm, fun n => ?_, fun _ h => h⟩
      rintro ⟨cur, u, fr', q1, q2⟩
      rw [hh] at q1; cases q1
      exact ⟨_, _, _, hg', by simpa using (by simpa using hlen : vs.length + rest.length = vs0.length).trans (by simpa using q2)⟩
    · refine ⟨fun _ => hw _ e', fun n => ?_, fun _ h => h⟩
      rintro ⟨cur, u, fr', q1, q2⟩
      exact ⟨cur, u, fr', (hw _ e').trans q1, q2⟩
  refine ⟨h.nt, h.df, fun t d hd => S.repT (h.tm t d hd), fun t d hd => (h.wt t d hd).step S, fun s b hs => (h.bx s b hs).step S rfl (hw _ (hgb s (.inl (by rw [show look s env.bx = some b from hs]; rfl)))) (fun _ x => x),
    fun s m hs => (h.mp s m hs).stepK hK rfl (hw _ (hgb s (.inr (by rw [show look s env.mp = some m from hs]; rfl)))) (fun _ x => x), h.inj, h.above, fun s hs => by rw [hsz]; exact h.lt s hs, h.ownInj,
    fun st' g' hl h1 => ⟨(h.ownAbove st' g' hl h1).1, by rw [hsz]; exact (h.ownAbove st' g' hl h1).2.1, (h.ownAbove st' g' hl h1).2.2⟩, fun b o hi => by rw [hsz]; exact h.im b o hi, h.im0.trans hK, h.imNew, ?_, ⟨h.gh.1, S.fix h.gh.2⟩, fun st' r0 hr => ?_⟩
  · exact h.base.trans ⟨rfl, rfl, rfl, by simp, fun k hk => hw k (fun e => hk (e ▸ hga))⟩
  · rw [look_cons] at hr
    split at hr
    · rename_i e'; subst e'; cases hr
      refine ⟨h2, hus, .inr ⟨by rw [hes]; exact he0, ?_⟩⟩
      rw [hσ]
      exact ⟨vs, rest, fr, by rw [hu]; exact hg', by rw [hlen]; exact hfr, hv.mono fun _ _ => Rep.keeps hK _ _, hsh, hI⟩
    · rename_i hne
      exact S.rowOK (fun hl _ g' h1 => hw _ (hother st' hl (fun e => hne e.symm) g' h1)) (h.rw st' r0 hr)

theorem rep_isCells {I : Im} {d : D} {v : Value} (h : Rep I w d v) (hv : d.isVal = true) : d.cells.all D.isCell = true ∧ (d.isAgg = false → d.cells.length = 1) := by
  cases d <;> first
    | (simp only [Rep] at h; done)
    | (cases hv; done)
    | exact ⟨rfl, fun _ => rfl⟩
    | (simp only [Rep] at h; obtain ⟨vs, _, hc, _⟩ := h; exact ⟨hc, fun e => by cases e⟩)

theorem rep_cells {I : Im} {d : D} {v : Value} (h : Rep I w d v) (hv : d.isVal = true) : ∃ us : List Value, v.cells = ⟨us⟩ ∧ All2 (Rep I w) d.cells us := by
  cases d <;> first
    | (simp only [Rep] at h; done)
    | (cases hv; done)
    | skip
  case agg cs =>
    simp only [Rep] at h
    obtain ⟨vs, rfl, _, h⟩ := h
    exact ⟨vs, rfl, all2_repL.1 h⟩
  all_goals
    refine ⟨[v], ?_, h, trivial⟩
    have h1 := rep_oneCell rfl h
    cases v <;> first | rfl | (cases h1; done)

theorem run_storeCells_fr (P : Program) (g o : Nat) (t : TypeId) (fz : Nat × Nat) : ∀ (vs : List Value) (i : Nat) (cur : Array Value) (w : World), w.heap[g]? = some (.cells cur t fz) → (fz.2 = 0 ∨ cur.size ≤ fz.1) → o + i + vs.length ≤ cur.size → (∀ v ∈ vs, v.oneCell' = true) →
    (storeCells ⟨g, o, none⟩ vs i).run P w = .ok () (w.setRow g (cur.toList.take (o + i) ++ vs ++ cur.toList.drop (o + i + vs.length)).toArray)
  | [], i, cur, w, hg, _, _, _ => by
    simp only [storeCells, List.append_nil, List.length_nil, Nat.add_zero, List.take_append_drop, Array.toArray_toList]
    rw [setRow_self w g cur t fz hg]
    rfl
  | v :: rest, i, cur, w, hg, hfz, hl, h1 => by
    have hi : o + i < cur.size := by simp at hl; omega
    have hadd : (⟨g, o, none⟩ : Addr).add i = ⟨g, o + i, none⟩ := by unfold Addr.add; split <;> simp_all
    have hcell : w.cell? ⟨g, o + i, none⟩ = some cur[o + i] := by simp [World.cell?, hg, hi]
    have hfro : w.frozen? ⟨g, o + i, none⟩ = false := by
      obtain ⟨lo, hi'⟩ := fz
      simp only [World.frozen?, hg, Bool.and_eq_false_iff, decide_eq_false_iff_not]
      simp only at hfz
      omega
    have hst : (store ((⟨g, o, none⟩ : Addr).add i) v).run P w = .ok () (w.setRow g (cur.setIfInBounds (o + i) v)) := by
      rw [hadd, run_store P w _ v _ (h1 v (by simp)), hcell]
      simp [hfro, setCell_eq_setRow w g (o + i) cur t fz v hg]
    have ih := run_storeCells_fr P g o t fz rest (i + 1) (cur.setIfInBounds (o + i) v) (w.setRow g (cur.setIfInBounds (o + i) v)) (setRow_heap w g cur _ t _ hg) (by simpa using hfz) (by simp at hl ⊢; omega) (fun x hx => h1 x (by simp [hx]))
    simp only [storeCells, Sem.run_bind, hst, Result.andThen_ok, ih, setRow_setRow]
    congr 3
    have e := list_seg_step cur.toList (o + i) v rest (by simp at hl ⊢; omega)
    simpa [Array.toList_setIfInBounds, Nat.add_assoc] using e
theorem frOK_spec {sh : Bool} {n : Nat} {fr : Nat × Nat} (h : FrOK sh n fr) : fr.2 = 0 ∨ n ≤ fr.1 := by
  cases sh with
  | false => have h : fr = (0, 0) := h; left; rw [h]
  | true => exact .inr h
theorem St.storeRow (hT : TyOK P T) (h : St c env a w) {t st es i off : Nat} {d : D} {vx vd : Value} (hx : RepT c env w (.rptr st es i off) vx) (hd : RepT c env w d vd) {env' : Env} (hr : storeRow T env t st es i off d = some (true, env')) :
    ∃ w', (Instr.storeAt t vx vd).run P w = .ok () w' ∧ St c env' a w' := by
  unfold Fw.storeRow at hr
  split at hr
  · rename_i e r x ht hlk hcl hcm
    cases hb : (d.good && (Nat.beq x.cells.length e.size && Nat.beq r.es es)) with
    | false => rw [hb] at hr; cases hr
    | true =>
    rw [hb, cond_true] at hr
    simp only [Bool.and_eq_true, nbeq] at hb
    obtain ⟨hg, hsz, rfl⟩ := hb
    cases hel : elD r.es e off x (r.xs.getD i .undef) with
    | none => rw [hel] at hr; cases hr
    | some el =>
    rw [hel] at hr
    simp only [Option.map_some, Option.some.injEq, Prod.mk.injEq, Nat.blt_eq] at hr
    obtain ⟨hlt, rfl⟩ := hr
    obtain ⟨hl1, hl2⟩ := rows_look hlk
    obtain ⟨g, hσ, rfl⟩ := rowP_live hx hlk
    obtain ⟨_, hus, hok⟩ := h.rw st r hl1
    obtain ⟨he0, hok⟩ := hok.resolve_left hl2
    rw [hσ] at hok
    obtain ⟨vs, rest, fr, hh, hfr, hv, hsh, hI⟩ := hok
    have hsh : ShapeR r.es r.xs := hsh
    obtain ⟨hxr, hxv⟩ := clo_val h (good_repV hg hd) hcl (fun s hs => by rw [hcm] at hs; cases hs)
    obtain ⟨us, hus1, hus2⟩ := rep_cells hxr hxv
    obtain ⟨hxc, hxa⟩ := rep_isCells hxr hxv
    have hi : r.xs[i]? = some (r.xs.getD i .undef) := by rw [List.getD_eq_getElem?_getD, List.getElem?_eq_getElem hlt]; rfl
    have hold := hsh _ (List.mem_of_getElem? hi)
    have hcell : el.cells = splice (r.xs.getD i .undef).cells off x.cells ∧ off + x.cells.length ≤ r.es ∧ (el.cells.all D.isCell = true ∧ (el.isAgg = false → r.es = 1)) := by
      unfold elD at hel
      cases hw : (Nat.beq off 0 && Nat.beq e.size r.es) with
      | true =>
        rw [hw, cond_true, Option.some.injEq] at hel
        subst hel
        simp only [Bool.and_eq_true, nbeq] at hw
        obtain ⟨rfl, hw⟩ := hw
        refine ⟨?_, by omega, hxc, fun ha => by rw [← hw, ← hsz]; exact hxa ha⟩
        simp only [splice, List.take_zero, List.nil_append, Nat.zero_add]
        rw [List.drop_of_length_le (by rw [hold.1]; omega), List.append_nil]
      | false =>
        rw [hw, cond_false] at hel
        split at hel
        · rename_i cs ecs
          cases hle : Nat.ble (off + e.size) cs.length with
          | false => rw [hle] at hel; cases hel
          | true =>
            rw [hle, cond_true, Option.some.injEq] at hel
            subst hel
            have hle := Nat.le_of_ble_eq_true hle
            rw [ecs] at hold
            have hcl : cs.length = r.es := hold.1
            refine ⟨by rw [ecs]; rfl, by omega, ?_, fun ha => by cases ha⟩
            have h1 : ∀ y ∈ cs, y.isCell = true := List.all_eq_true.1 hold.2.1
            have h2 := List.all_eq_true.1 hxc
            refine List.all_eq_true.2 fun y hy => ?_
            have hy : y ∈ splice cs off x.cells := hy
            simp only [splice, List.mem_append] at hy
            rcases hy with (hy | hy) | hy
            · exact h1 y (List.mem_of_mem_take hy)
            · exact h2 y hy
            · exact h1 y (List.mem_of_mem_drop hy)
        · cases hel
    obtain ⟨c1, c2, c3⟩ := hcell
    have l1 := hus2.length
    have l2 : vs.length = r.xs.length * r.es := by rw [← hv.length, flat_length (fun d hd => (hsh d hd).1)]
    have hmul : i * r.es + r.es ≤ r.xs.length * r.es := by
      have := Nat.mul_le_mul_right r.es (show i + 1 ≤ r.xs.length from hlt)
      rw [Nat.add_mul, Nat.one_mul] at this; exact this
    have hfl := flat_set (fun d hd => (hsh d hd).1) hi c1 c2
    have hsh' : ShapeR r.es (r.xs.set i el) := by
      intro d hd
      rcases List.mem_or_eq_of_mem_set hd with hd | rfl
      · exact hsh d hd
      · refine ⟨?_, c3⟩
        rw [c1]; simp only [splice, List.length_append, List.length_take, List.length_drop, hold.1]; omega
    have hone : ∀ u ∈ us, u.oneCell' = true := by
      intro u hu
      obtain ⟨j, hj⟩ := List.getElem?_of_mem hu
      have hjl := (List.getElem?_eq_some_iff.1 hj).1
      obtain ⟨v', h1, h2⟩ := hus2.get j (x.cells[j]'(by omega)) (by simp)
      rw [hj] at h1; cases h1
      exact rep_oneCell (List.all_eq_true.1 hxc _ (List.getElem_mem _)) h2
    refine ⟨w.setRow g ⟨(vs.take (i * r.es + off) ++ us ++ vs.drop (i * r.es + off + us.length)) ++ rest⟩, ?_, h.setRowC (r' := { r with xs := r.xs.set i el }) hl1 hl2 hσ hh hfr (by simp; omega) rfl rfl ?_ hsh'⟩
    · have hst := run_storeCells_fr P g (i * r.es + off) r.u fr us 0 ⟨vs ++ rest⟩ w hh (frOK_spec hfr) (by simp; omega) hone
      simp only [Nat.add_zero] at hst
      have hsz' := (hT t e ht).size w
      have e1 : (vs ++ rest).take (i * r.es + off) ++ us ++ (vs ++ rest).drop (i * r.es + off + us.length) = (vs.take (i * r.es + off) ++ us ++ vs.drop (i * r.es + off + us.length)) ++ rest := by
        rw [List.take_append_of_le_length (by omega), List.drop_append_of_le_length (by omega)]
        simp only [List.append_assoc]
      rw [← e1]
      simp [Instr.storeAt, Instr.sureAddr, storeVar, hus1, hsz', hst, show us.length = e.size from by omega]
    · rw [hfl]
      unfold splice
      rw [l1]
      exact ((hv.take _).append hus2).append (hv.drop _)
  · cases hr

/-- A stretch of a row, cleared. -/
def clearD (T : Ty) (env : Env) (t : Nat) (x : D) : Option (Bool × Env) :=
  match elemTy T t, x with
  | some (_, eu), .rsl st es lo n => match look st env.rows, clo env.mp eu.zero, cloM eu.zero with
    | some r, some z, [] => bif Nat.beq r.es es && Nat.beq es eu.size then
        some (Nat.ble (lo + n) r.xs.length, { env with rw := (st, { r with xs := r.xs.take lo ++ List.replicate n z ++ r.xs.drop (lo + n) }) :: env.rw }) else none
    | _, _, _ => none
  | _, _ => none

theorem range_flat {α : Type} [Inhabited α] (zs : List α) : ∀ n, (List.range (n * zs.length)).map (fun i => zs[i % zs.length]!) = (List.replicate n zs).flatten
  | 0 => by simp
  | n + 1 => by
    rw [List.replicate_succ, List.flatten_cons, ← range_flat zs n, Nat.add_mul, Nat.one_mul, Nat.add_comm (n * zs.length), List.range_add, List.map_append, List.map_map]
    congr 1
    · apply List.ext_getElem
      · simp
      · intro i h1 h2
        simp only [List.getElem_map, List.getElem_range]
        rw [Nat.mod_eq_of_lt h2, getElem!_pos zs i h2]
    · apply List.map_congr_left
      intro i _
      simp
theorem all2_flat {R : D → Value → Prop} {z : D} {zs : List Value} (h : All2 R z.cells zs) : ∀ n, All2 R ((List.replicate n z).flatMap D.cells) ((List.replicate n zs).flatten)
  | 0 => trivial
  | n + 1 => by
    rw [List.replicate_succ, List.replicate_succ, List.flatMap_cons, List.flatten_cons]
    exact h.append (all2_flat h n)

theorem St.clearRow (hT : TyOK P T) (h : St c env a w) {t : Nat} {x : D} {vx : Value} (hx : RepT c env w x vx) {env' : Env} (hr : clearD T env t x = some (true, env')) (ty : TypeId) :
    ∃ w', (Builtin.clear_ #[t] ty #[vx]).run P w = .ok (.tuple #[]) w' ∧ St c env' a w' := by
  unfold clearD at hr
  split at hr
  · rename_i u eu st es lo n het
    obtain ⟨hu, ht⟩ := elemTy_spec' hT het
    split at hr
    · rename_i r z hlk hcl hcm
      cases hb : (Nat.beq r.es es && Nat.beq es eu.size) with
      | false => rw [hb] at hr; cases hr
      | true =>
      rw [hb, cond_true] at hr
      simp only [Bool.and_eq_true, nbeq, Option.some.injEq, Prod.mk.injEq, Nat.ble_eq] at hb hr
      obtain ⟨rfl, hes⟩ := hb
      obtain ⟨hle, rfl⟩ := hr
      obtain ⟨hl1, hl2⟩ := rows_look hlk
      have hrow := h.rw st r hl1
      obtain ⟨h2, hus, hok⟩ := h.rw st r hl1
      obtain ⟨he0, hok⟩ := hok.resolve_left hl2
      obtain ⟨_, hx2⟩ := repT_rsl hx hlk
      have same : n = 0 → St c { env with rw := (st, { r with xs := r.xs.take lo ++ List.replicate n z ++ r.xs.drop (lo + n) }) :: env.rw } a w := by
        rintro rfl
        have e : ({ r with xs := r.xs.take lo ++ List.replicate 0 z ++ r.xs.drop (lo + 0) } : RowC) = r := by
          obtain ⟨ru, res, rxs, rsh⟩ := r
          simp
        rw [e]
        exact (h.addRow hrow).1
      by_cases hn0 : n = 0
      · refine ⟨w, ?_, same hn0⟩
        subst hn0
        cases hσ : c.σ st with
        | none => rw [hσ] at hx2; obtain ⟨_, _, b, rfl⟩ := hx2; cases b <;> simp [Builtin.clear_, run_underlying ht]
        | some g => rw [hσ] at hx2; obtain ⟨ad, cap, rfl, _⟩ := hx2; simp [Builtin.clear_, run_underlying ht]
      · cases hσ : c.σ st with
        | none => rw [hσ] at hx2; exact absurd hx2.2.1 hn0
        | some g =>
          rw [hσ] at hx2 hok
          obtain ⟨ad, cap, rfl, hp, hn, _, _⟩ := hx2
          obtain rfl := hp (by omega)
          obtain ⟨vs, rest, fr, hh, hfr, hv, hsh, hI⟩ := hok
          have hsh : ShapeR r.es r.xs := hsh
          obtain ⟨i, zv, hi, hisz, hib, hz, hzc, hzl, hzr⟩ := (hT u eu hu).info
          obtain ⟨hzr', hzv⟩ := clo_val h (hzr c env w) hcl (fun s hs => by rw [hcm] at hs; cases hs)
          obtain ⟨zs, hzs1, hzs2⟩ := rep_cells hzr' hzv
          obtain ⟨hzcell, hzagg⟩ := rep_isCells hzr' hzv
          have hzlen : zs.length = r.es := by
            have : zv.cells.size = zs.length := by rw [hzs1]; rfl
            omega
          have hcl : z.cells.length = r.es := by rw [hzs2.length, hzlen]
          have hzeros : (Builtin.zeroCells zv.cells n).toList = (List.replicate n zs).flatten := by
            rw [hzs1]
            simp only [Builtin.zeroCells]
            rw [← range_flat zs n]
            simp
          have hflen : ((List.replicate n zs).flatten).length = n * r.es := by simp [hzlen]
          have l2 : vs.length = r.xs.length * r.es := by rw [← hv.length, flat_length (fun d hd => (hsh d hd).1)]
          have hmul : lo * r.es + n * r.es ≤ r.xs.length * r.es := by rw [← Nat.add_mul]; exact Nat.mul_le_mul_right _ hle
          have hzone : ∀ v ∈ (List.replicate n zs).flatten, v.oneCell' = true := by
            intro v hv'
            obtain ⟨l, hl, hv'⟩ := List.mem_flatten.1 hv'
            rw [List.eq_of_mem_replicate hl] at hv'
            obtain ⟨j, hj⟩ := List.getElem?_of_mem hv'
            have hjl := (List.getElem?_eq_some_iff.1 hj).1
            have hzl2 := hzs2.length
            obtain ⟨v', q1, q2⟩ := hzs2.get j (z.cells[j]'(by omega)) (by simp)
            rw [hj] at q1; cases q1
            exact rep_oneCell (List.all_eq_true.1 hzcell _ (List.getElem_mem _)) q2
          have hst := run_storeCells_fr P g (lo * r.es) r.u fr ((List.replicate n zs).flatten) 0 ⟨vs ++ rest⟩ w hh (frOK_spec hfr) (by simp only [Nat.add_zero, hflen]; simp; omega) hzone
          simp only [Nat.add_zero, hflen] at hst
          have e1 : (vs ++ rest).take (lo * r.es) ++ (List.replicate n zs).flatten ++ (vs ++ rest).drop (lo * r.es + n * r.es) = (vs.take (lo * r.es) ++ (List.replicate n zs).flatten ++ vs.drop (lo * r.es + n * r.es)) ++ rest := by
            rw [List.take_append_of_le_length (by omega), List.drop_append_of_le_length (by omega)]
            simp only [List.append_assoc]
          rw [e1] at hst
          refine ⟨w.setRow g ⟨(vs.take (lo * r.es) ++ (List.replicate n zs).flatten ++ vs.drop (lo * r.es + n * r.es)) ++ rest⟩, ?_, h.setRowC (r' := { r with xs := r.xs.take lo ++ List.replicate n z ++ r.xs.drop (lo + n) }) hl1 hl2 hσ hh hfr (by simp only [List.length_append, List.length_take, List.length_drop, hflen]; omega) rfl rfl ?_ ?_⟩
          · obtain ⟨m, rfl⟩ : ∃ m, n = m + 1 := ⟨n - 1, by omega⟩
            have hzv' : ∀ w, (zeroValue u).run P w = .ok zv w := fun w => by simp [zeroValue, typeInfo, hi, hz]
            simp [Builtin.clear_, run_underlying ht, hzv', hzeros, hst]
          · rw [List.flatMap_append, List.flatMap_append, flat_take lo hsh, flat_drop (lo + n) hsh, Nat.add_mul]
            exact ((hv.take _).append (all2_flat hzs2 n)).append (hv.drop _)
          · refine (hsh.take.append fun d hd => ?_).append hsh.drop
            rw [List.eq_of_mem_replicate hd]
            exact ⟨hcl, hzcell, fun ha => by rw [← hcl]; exact hzagg ha⟩
    · cases hr
  · cases hr

def putObj (w : World) (g : Nat) (o : Obj) : World := { w with heap := w.heap.setIfInBounds g o }
theorem putObj_at {g : Nat} {o o' : Obj} (h : w.heap[g]? = some o) : (putObj w g o').heap[g]? = some o' := by
  simp [putObj, (Array.getElem?_eq_some_iff.1 h).1]
theorem putObj_other {g k : Nat} {o : Obj} (h : k ≠ g) : (putObj w g o).heap[k]? = w.heap[k]? := by
  simp [putObj, Ne.symm h]

theorem run_keyThatStays (v : Value) : (Instr.keyThatStays v v).run P w = .ok v w ∨ (Instr.keyThatStays v v).run P w = .ok v w.drew := by
  unfold Instr.keyThatStays
  cases Instr.sameBits 10000 v v with
  | true => left; simp
  | false =>
    right
    simp [Question.forced]
theorem all2_set {α β : Type} {R : α → β → Prop} : ∀ {xa : List α} {bs : List β} (i : Nat) {a : α} {b : β}, All2 R xa bs → R a b → All2 R (xa.set i a) (bs.set i b)
  | [], [], _, _, _, _, _ => trivial
  | _ :: _, _ :: _, 0, _, _, h, r => ⟨r, h.2⟩
  | _ :: _, _ :: _, i + 1, _, _, h, r => ⟨h.1, all2_set i h.2 r⟩
  | [], _ :: _, _, _, _, h, _ => h.elim
  | _ :: _, [], _, _, _, h, _ => h.elim

theorem St.mapUp (hT : TyOK P T) (h : St c env a w) {t : Nat} {m k x : D} {vm vk vx : Value} (hm : RepT c env w m vm) (hk : RepT c env w k vk) (hx : RepT c env w x vx) {env' : Env} (hr : mapUpR T env t m k x = some (true, env')) :
    ∃ w', (Instr.mapUpdate t vm vk vx).run P w = .ok () w' ∧ St c env' a w' := by
  unfold mapUpR at hr
  split at hr
  · rename_i s e ht
    obtain ⟨_, rfl⟩ : (look s env.mp).isSome = true ∧ vm = .map (some (c.ρ s)) := hm
    have hK := (hT t e ht).kind
    split at hr
    · rename_i q u hkd
      rw [hkd] at hK
      simp only [KindOK] at hK
      split at hr
      · rename_i mc eq x' hb hq hcx hcm
        cases hfz : (mc.frozen || !k.good) with
        | true => rw [hfz] at hr; cases hr
        | false =>
          rw [hfz, cond_false] at hr
          simp only [Bool.or_eq_false_iff, Bool.not_eq_false'] at hfz
          split at hr
          · rename_i k' hck hckm
            simp only [Option.some.injEq, Prod.mk.injEq] at hr
            obtain ⟨hfit, rfl⟩ := hr
            obtain ⟨es, ck, hh, h1, h2, h3, _, _⟩ := h.mp s mc hb
            have hxv : RepV c env w x vx := by cases x <;> first | exact hx | (simp only [clo] at hcx; cases hcx)
            obtain ⟨gx, gxv⟩ := clo_val h hxv hcx (fun s hs => by rw [hcm] at hs; cases hs)
            obtain ⟨gk, gkv⟩ := clo_val h (good_repV hfz.2 hk) hck (fun s hs => by rw [hckm] at hs; cases hs)
            have hlen : mc.ks.length = mc.vs.length := by rw [len_repL h1, len_repL h2]; simp
            have hks := all2_keys.1 h1
            have hvs := all2_vals.1 h2
            have hkV : RepV c env w k' vk := rep_repV gkv gk
            obtain ⟨hfind, hchk, hsame⟩ := run_findKey hT hq hkV hks hfit
            have hput := putD_eq (k := k') (v := x') hlen
            cases hi : mc.ks.findIdx? (eqKey k') with
            | none =>
              rw [hi] at hfind hput
              simp only [Option.bind_none] at hfind
              refine ⟨putObj w (c.ρ s) (.map (es.push { key := vk, val := vx, born := ck }) (ck + 1)), ?_, ?_⟩
              · simp [Instr.mapUpdate, run_underlying hK, getObj, Sem.run, hh, hchk, hfind, setObj, putObj]
              · rw [hput]
                refine h.setMap (m' := { mc with ks := mc.ks ++ [k'], vs := mc.vs ++ [x'] }) hb hfz.1 hfz.1 hh (putObj_at hh) (fun k hk => putObj_other hk) (by simp [putObj]) ⟨rfl, rfl, rfl⟩ ?_ ?_ ?_
                · rw [all2_repL, Array.toList_push, List.map_append]
                  exact (all2_repL.1 h1).append ⟨gk, trivial⟩
                · rw [all2_repL, Array.toList_push, List.map_append]
                  exact (all2_repL.1 h2).append ⟨gx, trivial⟩
                · simp only [List.all_append, List.all_cons, List.all_nil, Bool.and_true, Bool.and_eq_true]; exact ⟨h3, gxv⟩
            | some i =>
              rw [hi] at hfind hput
              obtain ⟨k0, hk0, hek⟩ : ∃ k0, mc.ks[i]? = some k0 ∧ eqKey k' k0 = true := by
                obtain ⟨h4, h5, _⟩ := List.findIdx?_eq_some_iff_getElem.1 hi
                exact ⟨_, List.getElem?_eq_getElem h4, h5⟩
              obtain ⟨en, hen, hken⟩ := hsame.get i k0 hk0
              have hkey : vk = en.key := by
                rw [hek] at hken
                simpa [isKey] using hken.symm
              have hen' : es[i]? = some en := by simpa using hen
              simp only [Option.bind_some, hen, Option.map_some] at hfind
              have hmod1 : ((es.modify i fun e => { e with key := vk, val := vx }).toList.map (·.key)) = (es.toList.map (·.key)).set i vk := by
                apply List.ext_getElem?; intro j
                simp only [Array.toList_modify, List.getElem?_map, List.getElem?_modify, List.getElem?_set, List.length_map]
                by_cases e : i = j
                · subst e
                  have hl := (List.getElem?_eq_some_iff.1 hen).1
                  simp [hen]; simpa using hl
                · simp [e]
              have hmod2 : ((es.modify i fun e => { e with key := vk, val := vx }).toList.map (·.val)) = (es.toList.map (·.val)).set i vx := by
                apply List.ext_getElem?; intro j
                simp only [Array.toList_modify, List.getElem?_map, List.getElem?_modify, List.getElem?_set, List.length_map]
                by_cases e : i = j
                · subst e
                  have hl := (List.getElem?_eq_some_iff.1 hen).1
                  simp [hen]; simpa using hl
                · simp [e]
              have fin : ∀ w1 : World, w1.heap = w.heap → (w1.os = w.os ∧ w1.tape = w.tape ∧ w1.output = w.output) → St c { env with mp := (s, { mc with ks := (putD k' x' mc.ks mc.vs).1, vs := (putD k' x' mc.ks mc.vs).2 }) :: env.mp } a (putObj w1 (c.ρ s) (.map (es.modify i fun e => { e with key := vk, val := vx }) ck)) := by
                intro w1 hw1 hos
                rw [hput]
                refine h.setMap (m' := { mc with ks := mc.ks.set i k', vs := mc.vs.set i x' }) hb hfz.1 hfz.1 hh (putObj_at (by rw [hw1]; exact hh)) (fun k hk => by rw [putObj_other hk, hw1]) (by simp [putObj, hw1]) hos ?_ ?_ ?_
                · rw [hmod1, all2_repL]; exact all2_set i (all2_repL.1 h1) gk
                · rw [hmod2, all2_repL]; exact all2_set i (all2_repL.1 h2) gx
                · rw [List.all_eq_true] at h3 ⊢
                  intro y hy
                  rcases List.mem_or_eq_of_mem_set hy with hy | rfl
                  · exact h3 y hy
                  · exact gxv
              have hold : ((Option.map (fun x => x.key) es[i]?).getD vk) = vk := by rw [hen']; exact hkey.symm
              rcases run_keyThatStays (P := P) (w := w) vk with hs | hs
              · refine ⟨_, ?_, fin w rfl ⟨rfl, rfl, rfl⟩⟩
                simp [Instr.mapUpdate, run_underlying hK, getObj, Sem.run, hh, hchk, hfind, setObj, putObj, hold, hs]
              · refine ⟨_, ?_, fin w.drew rfl ⟨rfl, rfl, rfl⟩⟩
                have hh' : w.drew.heap[c.ρ s]? = some (.map es ck) := hh
                simp [hh', Instr.mapUpdate, run_underlying hK, getObj, Sem.run, hh, hchk, hfind, setObj, putObj, hold, hs]
          · cases hr
      · cases hr
    · cases hr
  · cases hr
end

end Go.Proofs.YtnooelecdbbfkaaGreatDoor.Fw

/- What code does, over plain data: regions, branches, loops, calls. Definitions. -/
namespace Go.Proofs.YtnooelecdbbfkaaGreatDoor.Fw
open Go Go.RowKit
set_option linter.unusedSectionVars false
variable [Inhabited GLT]

/-- A function that can be entered. -/
def FnOK (P : Program) (f : Nat) : Prop := ∃ fn, P.funcs[f]? = some fn ∧ fn.name ≠ "runtime.NumGoroutine" ∧ fn.body.isNone = false

/-- A call of f with this data returns that data, and changes nothing. -/
def CallsTo (P : Program) (f : Nat) (ds : List D) (d : D) : Prop :=
  FnOK P f ∧ ∀ (I : Im) (w : World) (vs : List Value), ImW P I w → RepL I w ds vs →
    Calls P f ⟨vs⟩ w fun e w' => ∃ v I', e = .returned v ∧ (∀ b o, I b o → I' b o) ∧ (∀ b o, I' b o → I b o ∨ w.heap.size ≤ b) ∧ (∀ b o, I' b o → b < w'.heap.size) ∧ Rep I' w' d v ∧ Below w.heap.size w w'

/-- Under which slot's value an operation is done. -/
def gslot (ops : Array Oper) (o : Oper) : Option (Option (Nat × Bool)) :=
  match o.guard with
  | none => some none
  | some (j, b) => match ops[j]? with
    | some p => match p.dst with
      | some s => some (some (s, b))
      | none => none
    | none => none

/-- What is known where a guard holds, of the slots that may be asked. -/
def gcond (ok : Nat → Bool) : Nat → List (Nat × D) → List (Nat × D) → Option (Nat × Bool) → Prop
  | 0, _, _, _ => True
  | _ + 1, _, _, none => True
  | n + 1, wt, tm, some (s, b) => match ok s with
    | false => True
    | true => match look s wt with
      | some (.wh s' b' d) => (match d with | .bool x => x = b | _ => True) ∧ gcond ok n wt tm (some (s', b'))
      | some _ => True
      | none => match look s tm with
        | some (.bool x) => x = b
        | _ => True

def Res.plain (r : Res) : Bool := r.bx.isNone && r.mp.isNone && r.own.isNone && r.row.isNone && r.fz.isEmpty && r.fm.isEmpty

/-- The state after an operation. -/
def memG (env : Env) (dst : Nat) (g : Option (Nat × Bool)) (r : Res) : Option Env :=
  match g with
  | none => match memR env dst r with
    | some (env1, d) => env1.set dst none d
    | none => none
  | some _ => bif r.plain then env.set dst g r.d else none

/-- An argument: a row that is a local array changes no more. -/
def cloX (T : Ty) (bx : List (Nat × BoxC)) (mp : List (Nat × MapC)) (t : Option Nat) : D → Option (D × List Nat)
  | .lsl s off n => match t with
    | some t => match elemTy T t with
      | some (_, eu) => match look s bx with
        | some b => match cloL [] b.cells with
          | some cs => bif Nat.ble (off + n * eu.size) cs.length then some (.sl 0 eu.size (chunk eu n (sliceD cs off (off + n * eu.size))), bif b.frozen then [] else [s]) else none
          | none => none
        | none => none
      | none => none
    | none => none
  | d => (clo mp d).map fun x => (x, [])
def cloA (T : Ty) (bx : List (Nat × BoxC)) (mp : List (Nat × MapC)) : List Nat → List D → Option (List D × List Nat)
  | _, [] => some ([], [])
  | ts, d :: ds => match cloX T bx mp ts.head? d, cloA T bx mp ts.tail ds with
    | some (x, f), some (xs, fs) => some (x :: xs, f ++ fs)
    | _, _ => none
def callD (T : Ty) (v : Operand → D) (bx : List (Nat × BoxC)) (mp : List (Nat × MapC)) (c : Call) : Option (Nat × List D × List Nat × List Nat) :=
  match c.callee with
  | .value f => match v f with
    | .fn fid caps => match cloA T bx mp c.argTypes.toList (c.args.toList.map v) with
      | some (ds, fz) => some (fid, ds ++ caps, (c.args.toList.map v).flatMap cloM, fz)
      | none => none
    | _ => none
  | _ => none

/-! ### What is known is written out before one goes on -/
def fNat (n : Nat) (K : Nat → Prop) : Prop := match n with | 0 => K 0 | m + 1 => K (m + 1)
theorem fNat_iff (n : Nat) (K : Nat → Prop) : fNat n K ↔ K n := by cases n <;> exact Iff.rfl
/-- What it is, alone. -/
def fHd : D → (D → Prop) → Prop
  | .int k n, K => K (.int k n)
  | .bool b, K => K (.bool b)
  | .str l, K => K (.str l)
  | .agg cs, K => K (.agg cs)
  | .tup cs, K => K (.tup cs)
  | .sl st es xs, K => K (.sl st es xs)
  | .eptr d o, K => K (.eptr d o)
  | .nilp, K => K .nilp
  | .fn f cs, K => K (.fn f cs)
  | .nilf, K => K .nilf
  | .ifc t d, K => K (.ifc t d)
  | .nili, K => K .nili
  | .mapv ks vs, K => K (.mapv ks vs)
  | .nilm, K => K .nilm
  | .yld l, K => K (.yld l)
  | .nils, K => K .nils
  | .sle, K => K .sle
  | .loc s o, K => K (.loc s o)
  | .lsl s o n, K => K (.lsl s o n)
  | .rsl s e o n, K => K (.rsl s e o n)
  | .rptr s e i o, K => K (.rptr s e i o)
  | .mapr s, K => K (.mapr s)
  | .wh s w d, K => K (.wh s w d)
  | .undef, K => K .undef
theorem fHd_iff (d : D) (K : D → Prop) : fHd d K ↔ K d := by cases d <;> exact Iff.rfl
mutual
def fD : D → (D → Prop) → Prop
  | .int k n, K => K (.int k n)
  | .bool b, K => K (.bool b)
  | .str l, K => K (.str l)
  | .agg cs, K => fL cs fun cs => K (.agg cs)
  | .tup cs, K => fL cs fun cs => K (.tup cs)
  | .sl st es xs, K => fNat st fun st => fNat es fun es => K (.sl st es xs)
  | .eptr d o, K => fHd d fun d => fNat o fun o => K (.eptr d o)
  | .nilp, K => K .nilp
  | .fn f cs, K => fL cs fun cs => K (.fn f cs)
  | .nilf, K => K .nilf
  | .ifc t d, K => K (.ifc t d)
  | .nili, K => K .nili
  | .mapv ks vs, K => K (.mapv ks vs)
  | .nilm, K => K .nilm
  | .yld l, K => K (.yld l)
  | .nils, K => K .nils
  | .sle, K => K .sle
  | .loc s o, K => fNat s fun s => fNat o fun o => K (.loc s o)
  | .lsl s o n, K => fNat s fun s => fNat o fun o => fNat n fun n => K (.lsl s o n)
  | .rsl s e o n, K => fNat s fun s => fNat e fun e => K (.rsl s e o n)
  | .rptr s e i o, K => fNat s fun s => fNat e fun e => fNat o fun o => K (.rptr s e i o)
  | .mapr s, K => fNat s fun s => K (.mapr s)
  | .wh s w d, K => fD d fun d => K (.wh s w d)
  | .undef, K => K .undef
def fL : List D → (List D → Prop) → Prop
  | [], K => K []
  | d :: ds, K => fD d fun d => fL ds fun ds => K (d :: ds)
end
mutual
theorem fD_iff : ∀ (d : D) (K : D → Prop), fD d K ↔ K d
  | .agg cs, K | .tup cs, K | .fn _ cs, K => by simp only [fD]; exact fL_iff cs _
  | .wh s w d, K => by simp only [fD]; exact fD_iff d _
  | .int _ _, _ | .bool _, _ | .str _, _ | .nilp, _ | .nilf, _ | .ifc _ _, _ | .nili, _ | .mapv _ _, _ | .nilm, _ | .yld _, _ | .undef, _ | .nils, _ | .sle, _ => by simp only [fD]
  | .sl _ _ _, _ | .eptr _ _, _ | .loc _ _, _ | .lsl _ _ _, _ | .mapr _, _ | .rsl _ _ _ _, _ | .rptr _ _ _ _, _ => by simp only [fD, fNat_iff, fHd_iff]
theorem fL_iff : ∀ (ds : List D) (K : List D → Prop), fL ds K ↔ K ds
  | [], K => by simp only [fL]
  | d :: ds, K => by
    simp only [fL]
    exact (fD_iff d _).trans (fL_iff ds _)
end
def fT : List (Nat × D) → (List (Nat × D) → Prop) → Prop
  | [], K => K []
  | (t, d) :: l, K => fNat t fun t => fD d fun d => fT l fun l => K ((t, d) :: l)
theorem fT_iff : ∀ (l : List (Nat × D)) (K : List (Nat × D) → Prop), fT l K ↔ K l
  | [], _ => Iff.rfl
  | (t, d) :: l, _ => (fNat_iff t _).trans ((fD_iff d _).trans (fT_iff l _))
def fBool (b : Bool) (K : Bool → Prop) : Prop := match b with | true => K true | false => K false
theorem fBool_iff (b : Bool) (K : Bool → Prop) : fBool b K ↔ K b := by cases b <;> exact Iff.rfl
def fB : List (Nat × BoxC) → (List (Nat × BoxC) → Prop) → Prop
  | [], K => K []
  | (t, ⟨cs, ag, fz⟩) :: l, K => fNat t fun t => fL cs fun cs => fBool ag fun ag => fBool fz fun fz => fB l fun l => K ((t, ⟨cs, ag, fz⟩) :: l)
theorem fB_iff : ∀ (l : List (Nat × BoxC)) (K : List (Nat × BoxC) → Prop), fB l K ↔ K l
  | [], _ => Iff.rfl
  | (t, ⟨cs, ag, fz⟩) :: l, _ => (fNat_iff t _).trans ((fL_iff cs _).trans ((fBool_iff ag _).trans ((fBool_iff fz _).trans (fB_iff l _))))
def fM : List (Nat × MapC) → (List (Nat × MapC) → Prop) → Prop
  | [], K => K []
  | (t, ⟨ks, vs, fz⟩) :: l, K => fNat t fun t => fBool fz fun fz => fM l fun l => K ((t, ⟨ks, vs, fz⟩) :: l)
theorem fM_iff : ∀ (l : List (Nat × MapC)) (K : List (Nat × MapC) → Prop), fM l K ↔ K l
  | [], _ => Iff.rfl
  | (t, ⟨_, _, fz⟩) :: l, _ => (fNat_iff t _).trans ((fBool_iff fz _).trans (fM_iff l _))
def fU : List (Nat × Nat) → (List (Nat × Nat) → Prop) → Prop
  | [], K => K []
  | (t, u) :: l, K => fNat t fun t => fNat u fun u => fU l fun l => K ((t, u) :: l)
theorem fU_iff : ∀ (l : List (Nat × Nat)) (K : List (Nat × Nat) → Prop), fU l K ↔ K l
  | [], _ => Iff.rfl
  | (t, u) :: l, _ => (fNat_iff t _).trans ((fNat_iff u _).trans (fU_iff l _))
def fN : List Nat → (List Nat → Prop) → Prop
  | [], K => K []
  | t :: l, K => fNat t fun t => fN l fun l => K (t :: l)
theorem fN_iff : ∀ (l : List Nat) (K : List Nat → Prop), fN l K ↔ K l
  | [], _ => Iff.rfl
  | t :: l, _ => (fNat_iff t _).trans (fN_iff l _)
def fY (y : Option (Nat × List (List D))) (K : Option (Nat × List (List D)) → Prop) : Prop :=
  match y with
  | none => K none
  | some (l, xs) => K (some (l, xs))
theorem fY_iff (y : Option (Nat × List (List D))) (K : Option (Nat × List (List D)) → Prop) : fY y K ↔ K y := by
  match y with
  | none => exact Iff.rfl
  | some (l, xs) => exact Iff.rfl
def fR : List (Nat × RowC) → (List (Nat × RowC) → Prop) → Prop
  | [], K => K []
  | (t, ⟨u, es, xs, sh⟩) :: l, K => fNat t fun t => fNat u fun u => fNat es fun es => fBool sh fun sh => fR l fun l => K ((t, ⟨u, es, xs, sh⟩) :: l)
theorem fR_iff : ∀ (l : List (Nat × RowC)) (K : List (Nat × RowC) → Prop), fR l K ↔ K l
  | [], _ => Iff.rfl
  | (t, ⟨u, es, _, sh⟩) :: l, _ => (fNat_iff t _).trans ((fNat_iff u _).trans ((fNat_iff es _).trans ((fBool_iff sh _).trans (fR_iff l _))))
def fE (env : Env) (K : Env → Prop) : Prop :=
  match env with
  | ⟨nt, tm, wt, bx, mp, us, dd, ys, rw⟩ => fNat nt fun nt => fT tm fun tm => fT wt fun wt => fB bx fun bx => fM mp fun mp => fU us fun us => fN dd fun dd => fY ys fun ys => fR rw fun rw => K ⟨nt, tm, wt, bx, mp, us, dd, ys, rw⟩
theorem fE_iff (env : Env) (K : Env → Prop) : fE env K ↔ K env := by
  obtain ⟨nt, tm, wt, bx, mp, us, dd, ys, rw⟩ := env
  simp only [fE, fNat_iff, fT_iff, fB_iff, fM_iff, fU_iff, fN_iff, fY_iff, fR_iff]

/-- Likewise of what has come last: the rest is written out already. -/
def fC {α : Type} (l : List α) (K : List α → Prop) : Prop := match l with
  | [] => K []
  | p :: l => K (p :: l)
theorem fC_iff {α : Type} (l : List α) (K : List α → Prop) : fC l K ↔ K l := by cases l <;> exact Iff.rfl
def f1T : List (Nat × D) → (List (Nat × D) → Prop) → Prop
  | [], K => K []
  | (t, d) :: l, K => fNat t fun t => fD d fun d => fC l fun l => K ((t, d) :: l)
theorem f1T_iff : ∀ (l : List (Nat × D)) (K : List (Nat × D) → Prop), f1T l K ↔ K l
  | [], _ => Iff.rfl
  | (t, d) :: _, _ => by simp only [f1T, fNat_iff, fD_iff, fC_iff]
def f1B : List (Nat × BoxC) → (List (Nat × BoxC) → Prop) → Prop
  | [], K => K []
  | (t, ⟨cs, ag, fz⟩) :: l, K => fNat t fun t => fL cs fun cs => fBool ag fun ag => fBool fz fun fz => fC l fun l => K ((t, ⟨cs, ag, fz⟩) :: l)
theorem f1B_iff : ∀ (l : List (Nat × BoxC)) (K : List (Nat × BoxC) → Prop), f1B l K ↔ K l
  | [], _ => Iff.rfl
  | (t, ⟨cs, ag, fz⟩) :: _, _ => by simp only [f1B, fNat_iff, fL_iff, fBool_iff, fC_iff]
def fE1 (env : Env) (K : Env → Prop) : Prop :=
  match env with
  | ⟨nt, tm, wt, bx, mp, us, dd, ys, rw⟩ => fNat nt fun nt => f1T tm fun tm => f1T wt fun wt => f1B bx fun bx => fM mp fun mp => fU us fun us => fN dd fun dd => fY ys fun ys => fR rw fun rw => K ⟨nt, tm, wt, bx, mp, us, dd, ys, rw⟩
theorem fE1_iff (env : Env) (K : Env → Prop) : fE1 env K ↔ K env := by
  obtain ⟨nt, tm, wt, bx, mp, us, dd, ys, rw⟩ := env
  simp only [fE1, fNat_iff, f1T_iff, f1B_iff, fM_iff, fU_iff, fN_iff, fY_iff, fR_iff]

/-- What is asked of an operation ahead of what comes behind it. -/
def sideB (s : Bool) (gc K : Prop) : Prop :=
  match s with
  | true => K
  | false => (gc → False) ∧ K
theorem sideB_iff {s : Bool} {gc K : Prop} : sideB s gc K ↔ (gc → s = true) ∧ K := by
  cases s <;> simp [sideB]
theorem sideB_intro {s : Bool} {gc K : Prop} (h : gc → s = true) (k : K) : sideB s gc K := sideB_iff.2 ⟨h, k⟩

def callOf : Op → Option Call
  | .call c => match c.callee with
    | .value _ => some c
    | _ => none
  | _ => none

/-- What is never done need not give anything. -/
def deadK (op : Op) (gc : Prop) (K : Res → Prop) : Prop :=
  match op with
  | .build .. | .buildSlice .. | .lookup .. => False
  | _ => (gc → False) ∧ K { d := .undef }
theorem deadK_no {op : Op} {gc : Prop} {K : Res → Prop} (h : deadK op gc K) (hg : gc) : False := by
  cases op <;> first | exact h.1 hg | exact h
theorem deadK_K {op : Op} {gc : Prop} {K : Res → Prop} (h : deadK op gc K) : K { d := .undef } := by
  cases op <;> first | exact h.2 | exact False.elim h
theorem deadK_mono {op : Op} {gc : Prop} {K K' : Res → Prop} (h : deadK op gc K) (k : K' { d := .undef }) : deadK op gc K' := by
  cases op <;> first | exact ⟨h.1, k⟩ | exact False.elim h
/-- What a type assertion gives of this data. -/
def TaTo (P : Program) (xt asserted : Nat) (comma : Bool) (d r : D) : Prop := ∀ (c : Ctx) (env : Env) (w : World) (v : Value), RepT c env w d v → ∃ u, (Instr.typeAssert v xt asserted comma).run P w = .ok u w ∧ RepT c env w r u
/-- What a method gives, that is called through an interface, and asks for nothing else. -/
def MethTo (P : Program) (d : D) (name : String) (r : D) : Prop := ∃ (t : Nat) (x : D) (f : Nat), d = .ifc t x ∧ CallsTo P f [x] r ∧ ∀ (I : Im) (w : World) (v : Value), Rep I w x v → (callMethod (.iface t v) name #[]).run P w = .ok (.enter f #[v]) w
/-- Type assertions, and methods: what is asked of what they give. -/
def elseOf (P : Program) (g : Option (Nat × Bool)) (ρ : Operand → D) : Op → Option (D → Prop)
  | .typeAssert x xt asserted comma => some fun r => TaTo P xt asserted comma (unw g (ρ x)) r
  | .call c => match c.callee with
    | .invoke x name => match c.args.toList with
      | [] => some fun r => MethTo P (unw g (ρ x)) name r
      | _ :: _ => none
    | _ => none
  | _ => none
/-- All else must not be done. -/
def elseK (P : Program) (g : Option (Nat × Bool)) (ρ : Operand → D) (op : Op) (gc : Prop) (K : Res → Prop) : Prop :=
  match elseOf P g ρ op with
  | some R => ∃ r, (gc → R r) ∧ K { d := r }
  | none => deadK op gc K
theorem elseK_pick {P : Program} {g : Option (Nat × Bool)} {ρ : Operand → D} {op : Op} {gc : Prop} {K : Res → Prop} (h : elseK P g ρ op gc K) : ∃ r, K r ∧ ∀ K' : Res → Prop, K' r → elseK P g ρ op gc K' := by
  unfold elseK at h ⊢
  cases he : elseOf P g ρ op with
  | none => rw [he] at h; exact ⟨{ d := .undef }, deadK_K h, fun K' k => deadK_mono h k⟩
  | some R =>
    rw [he] at h
    obtain ⟨r, h1, h2⟩ := h
    exact ⟨_, h2, fun K' k => ⟨r, h1, k⟩⟩
/-- What a value operation, or a call, gives. -/
def doesP (P : Program) (T : Ty) (g : Option (Nat × Bool)) (ρ : Operand → D) (bx : List (Nat × BoxC)) (mp : List (Nat × MapC)) (rw : List (Nat × RowC)) (dst : Nat) (op : Op) (gc : Prop) (K : Res → Prop) : Prop :=
  match callOf op with
  | some c => match callD T (fun x => unw g (ρ x)) bx mp c with
    | some (f, ds, fm, fz) => ∃ d, (gc → CallsTo P f ds d) ∧ K { d := d, fm := fm, fz := fz }
    | none => deadK op gc K
  | none => match opR T g ρ bx mp rw dst op with
    | some r => sideB r.side gc (K r)
    | none => elseK P g ρ op gc K

/-- A yield: of whom, and with what. -/
def yldOf (g : Option (Nat × Bool)) (env : Env) (op : Op) : Option (Nat × List D) :=
  match callOf op with
  | some c => match c.callee with
    | .value f => match unw g (tv env.wt env.tm f) with
      | .yld l => match cloL env.mp (c.args.toList.map fun x => unw g (tv env.wt env.tm x)), (c.args.toList.map fun x => unw g (tv env.wt env.tm x)).flatMap cloM with
        | some ds, [] => some (l, ds)
        | _, _ => none
      | _ => none
    | _ => none
  | none => none

/-- The slots that an operation asks for (but for what is asked for once alone). -/
def tmpOf : Operand → List Nat
  | .tmp t => [t]
  | _ => []
def opTmps : Op → List Nat
  | .build _ ps => ps.toList.flatMap fun p => tmpOf p.2
  | .buildSlice _ _ ps => ps.toList.flatMap fun p => tmpOf p.2
  | .binOp _ _ x y _ => tmpOf x ++ tmpOf y
  | .load _ x => tmpOf x
  | .box _ x => tmpOf x
  | .lookup _ x y _ => tmpOf x ++ tmpOf y
  | .indexAddr _ x y => tmpOf x ++ tmpOf y
  | .index _ x y => tmpOf x ++ tmpOf y
  | .slice _ x a b c => tmpOf x ++ (match a with | some a => tmpOf a | none => []) ++ (match b with | some b => tmpOf b | none => []) ++ (match c with | some c => tmpOf c | none => [])
  | .call c => c.args.toList.flatMap tmpOf
  | .pick a b c => tmpOf a ++ tmpOf b ++ tmpOf c
  | .field _ x _ => tmpOf x
  | .convert _ _ x => tmpOf x
  | .extract x _ => tmpOf x
  | .makeSlice _ x y => tmpOf x ++ tmpOf y
  | _ => []
def vOf (l : List (Nat × D)) (ρ : Operand → D) : Operand → D
  | .tmp t => match look t l with
    | some d => d
    | none => ρ (.tmp t)
  | x => ρ x
theorem vOf_eq (ts : List Nat) (ρ : Operand → D) : vOf (ts.map fun t => (t, ρ (.tmp t))) ρ = ρ := by
  funext x
  cases x with
  | tmp t =>
    simp only [vOf]
    induction ts with
    | nil => rfl
    | cons s ts ih =>
      simp only [List.map_cons, look]
      cases h : Nat.beq s t with
      | true => have := Nat.eq_of_beq_eq_true h; subst this; rfl
      | false => exact ih
  | _ => rfl
/-- What a map has is asked once. -/
def fO (o : Option D) (A : Prop) (B : D → Prop) : Prop := match o with
  | none => A
  | some d => B d
theorem fO_iff (o : Option D) (K : Option D → Prop) : fO o (K none) (fun d => K (some d)) ↔ K o := by cases o <;> exact Iff.rfl
theorem fO_of {x y : Option D} {A : Prop} {B : D → Prop} (h : x = y) (k : fO y A B) : fO x A B := h ▸ k
theorem fD_of {x y : D} {K : D → Prop} (h : x = y) (k : fD y K) : fD x K := h ▸ k
/-- Cells, written out one by one. -/
def bK (off : Nat → Option (Nat × Nat)) : List D → List (Nat × D) → (List D → Prop) → Prop
  | cs, [], K => K cs
  | cs, (i, d) :: ps, K => match off i with
    | some (o, n) => match Nat.beq d.cells.length n && Nat.ble (o + n) cs.length with
      | true => fL (splice cs o d.cells) fun cs => bK off cs ps K
      | false => False
    | none => False
theorem bK_iff {off : Nat → Option (Nat × Nat)} : ∀ {ps : List (Nat × D)} {cs : List D} {K : List D → Prop}, bK off cs ps K ↔ match buildCells off cs ps with
    | some cs' => K cs'
    | none => False
  | [], cs, K => Iff.rfl
  | (i, d) :: ps, cs, K => by
    simp only [bK, buildCells]
    cases off i with
    | none => exact Iff.rfl
    | some on =>
      obtain ⟨o, n⟩ := on
      simp only
      cases (Nat.beq d.cells.length n && Nat.ble (o + n) cs.length) with
      | true => simp only [fL_iff, cond_true]; exact bK_iff
      | false => exact Iff.rfl
/-- Likewise, with what is asked for written out. -/
def doesF (P : Program) (T : Ty) (g : Option (Nat × Bool)) (ρ : Operand → D) (bx : List (Nat × BoxC)) (mp : List (Nat × MapC)) (rw : List (Nat × RowC)) (dst : Nat) (op : Op) (gc : Prop) (K : Res → Prop) : Prop :=
  fT ((opTmps op).map fun t => (t, ρ (.tmp t))) fun l => match op with
    | .lookup t m k comma => match T t with
      | some e => match e.kind with
        | .mp q u => match T u with
          | some eu => match entsD mp (unw g (vOf l ρ m)) with
            | some (ks, vs) => fD (unw g (vOf l ρ k)) fun kd => sideB (keysFit T q kd ks) gc (fO (findD kd ks vs) (K { side := keysFit T q kd ks, d := match comma with
              | true => .tup [eu.zero, .bool false]
              | false => eu.zero }) fun d => K { side := keysFit T q kd ks, d := match comma with
              | true => .tup [d, .bool true]
              | false => d })
            | none => False
          | none => False
        | _ => False
      | none => False
    | .build t ps => fT (ps.toList.map fun p => (p.1, unw g (vOf l ρ p.2))) fun qs => match T t with
      | some e => match goods qs with
        | some _ => match e.kind with
          | .agg fs => bK (fun i => match fs[i]? with | some (o, u) => (T u).map fun eu => (o, eu.size) | none => none) e.zero.cells qs fun cs => K { d := .agg cs }
          | .arr _ u => match T u with
            | some eu => bK (fun i => some (i * eu.size, eu.size)) e.zero.cells qs fun cs => K { d := .agg cs }
            | none => False
          | _ => False
        | none => False
      | none => False
    | .buildSlice t n ps => fT (ps.toList.map fun p => (p.1, unw g (vOf l ρ p.2))) fun qs => match goods qs with
      | some _ => match elemTy T t with
        | some (u, eu) => match !Nat.ble (n * eu.size) 16777216 || Nat.beq eu.size 0 with
          | true => False
          | false => bK (fun i => some (i * eu.size, eu.size)) ((List.replicate n eu.zero.cells).flatten) qs fun cs => match (bif T.mu (u + 1000000) then none else cloL mp cs) with
            | some cs' => fL (chunk eu n cs') fun xs => K { d := .sl 1 eu.size xs, fm := cloM (.agg cs) }
            | none => K { d := .lsl dst 0 n, bx := some ⟨cs, true, false⟩ }
        | none => False
      | none => False
    | .convert s t x => match unw g (vOf l ρ x) with
      | .rsl st es lo n => match rowStr T rw s t st es with
        | some xs => (∃ bs, u8s (sliceD xs lo (lo + n)) = some bs ∧ sideB (Nat.ble (lo + n) xs.length) gc (K { side := Nat.ble (lo + n) xs.length, d := .str bs })) ∨ (u8s (sliceD xs lo (lo + n)) = none ∧ deadK (.convert s t x) gc K)
        | none => deadK (.convert s t x) gc K
      | _ => doesP P T g (vOf l ρ) bx mp rw dst (.convert s t x) gc K
    | .load t x => match unw g (vOf l ρ x) with
      | .rptr st es i off => match T t with
        | some e => match look st rw with
          | some r => match Nat.beq r.es es with
            | true => fD (r.xs.getD i .undef) fun el => match partD e el.cells off with
              | some d => sideB (Nat.blt i r.xs.length) gc (K { side := Nat.blt i r.xs.length, d := d })
              | none => deadK (.load t x) gc K
            | false => deadK (.load t x) gc K
          | none => deadK (.load t x) gc K
        | none => deadK (.load t x) gc K
      | _ => doesP P T g (vOf l ρ) bx mp rw dst (.load t x) gc K
    | op => doesP P T g (vOf l ρ) bx mp rw dst op gc K
theorem doesF_iff {P : Program} {T : Ty} {g : Option (Nat × Bool)} {ρ : Operand → D} {bx : List (Nat × BoxC)} {mp : List (Nat × MapC)} {rw : List (Nat × RowC)} {dst : Nat} {op : Op} {gc : Prop} {K : Res → Prop} : doesF P T g ρ bx mp rw dst op gc K ↔ doesP P T g ρ bx mp rw dst op gc K := by
  unfold doesF
  rw [fT_iff, vOf_eq]
  cases op <;> first | exact Iff.rfl | skip
  case convert s t x =>
    simp only [doesP, callOf, elseK, elseOf, opR, opV]
    cases hx : unw g (ρ x)
    case rsl st es lo n =>
      simp only [convRow]
      cases rowStr T rw s t st es with
      | none => simp only
      | some xs =>
        simp only
        cases u8s (sliceD xs lo (lo + n)) with
        | none => simp
        | some bs => simp
    all_goals first | exact Iff.rfl | simp only
  case load t x =>
    simp only [doesP, callOf, elseK, elseOf, opR, opV]
    cases hx : unw g (ρ x) <;> first | (simp only [hx]; done) | skip
    all_goals try simp only
    all_goals try exact Iff.rfl
    rename_i st es i off
    cases T t with
    | none => simp only
    | some e =>
      simp only [rowD]
      cases look st rw with
      | none => simp only [resB, Option.map_none]
      | some r =>
        simp only
        cases Nat.beq r.es es with
        | false => simp only [cond_false, resB, Option.map_none]
        | true =>
          simp only [cond_true, fD_iff]
          cases partD e (r.xs.getD i .undef).cells off with
          | none => simp only [resB, Option.map_none]
          | some d => simp only [resB, Option.map_some]
  case build t ps =>
    simp only [doesP, callOf, elseK, elseOf, opR, opV, fT_iff, buildD]
    cases T t with
    | none => exact Iff.rfl
    | some e =>
      simp only
      cases hg : goods (ps.toList.map fun p => (p.1, unw g (ρ p.2))) with
      | none => exact Iff.rfl
      | some qs =>
        have : qs = ps.toList.map fun p => (p.1, unw g (ρ p.2)) := by
          unfold goods at hg
          cases hb : ((ps.toList.map fun p => (p.1, unw g (ρ p.2))).all fun p => p.2.good) with
          | true => rw [hb] at hg; exact (Option.some.inj hg).symm
          | false => rw [hb] at hg; cases hg
        subst this
        simp only
        cases e.kind <;> first | exact Iff.rfl | skip
        · simp only [bK_iff]
          cases buildCells _ e.zero.cells _ <;> exact Iff.rfl
        · rename_i n u
          simp only [bK_iff]
          cases hu : T u with
          | none => simp [deadK]
          | some eu =>
            simp only
            cases buildCells (fun i => some (i * eu.size, eu.size)) e.zero.cells (ps.toList.map fun p => (p.1, unw g (ρ p.2))) <;> exact Iff.rfl
  case buildSlice t n ps =>
    simp only [doesP, callOf, elseK, elseOf, opR, opV, fT_iff, buildSliceD]
    cases hg : goods (ps.toList.map fun p => (p.1, unw g (ρ p.2))) with
    | none => exact Iff.rfl
    | some qs =>
      have : qs = ps.toList.map fun p => (p.1, unw g (ρ p.2)) := by
        unfold goods at hg
        cases hb : ((ps.toList.map fun p => (p.1, unw g (ρ p.2))).all fun p => p.2.good) with
        | true => rw [hb] at hg; exact (Option.some.inj hg).symm
        | false => rw [hb] at hg; cases hg
      subst this
      simp only
      cases elemTy T t with
      | none => exact Iff.rfl
      | some ue =>
        obtain ⟨u, eu⟩ := ue
        simp only
        cases (!Nat.ble (n * eu.size) 16777216 || Nat.beq eu.size 0) with
        | true => exact Iff.rfl
        | false =>
          simp only [bK_iff, cond_false]
          cases buildCells _ _ _ with
          | none => exact Iff.rfl
          | some cs =>
            simp only
            cases (bif T.mu (u + 1000000) then none else cloL mp cs) with
            | none => exact Iff.rfl
            | some cs' => simp only [fL_iff]; exact Iff.rfl
  rename_i t m k comma
  simp only [doesP, callOf, elseK, elseOf, opR, opV, lookupD, fD_iff]
  cases T t with
  | none => exact Iff.rfl
  | some e =>
    simp only
    cases e.kind <;> first | exact Iff.rfl | skip
    rename_i q u
    simp only
    cases T u with
    | none => exact Iff.rfl
    | some eu =>
      simp only
      cases entsD mp (unw g (ρ m)) with
      | none => exact Iff.rfl
      | some kv =>
        obtain ⟨ks, vs⟩ := kv
        simp only
        cases hf : findD (unw g (ρ k)) ks vs <;> cases comma <;> simp only [fO, resB, Option.map_some, Option.getD_none, Option.getD_some, Option.isSome_none, Option.isSome_some]

def distinct : List Nat → Bool
  | [] => true
  | x :: xs => !xs.contains x && distinct xs

/-! ### Calls that are handed rows and variables for their own -/
/-- By which name something goes, of pairs of names: the callee's, the caller's. -/
def back (x : Nat) : List (Nat × Nat) → Option Nat
  | [] => none
  | (k, s) :: l => bif Nat.beq s x then some k else back x l
mutual
def fml (ren rst : List (Nat × Nat)) : D → Option D
  | .sl st es xs => some (.sl (match back st rst with
    | some k => k
    | none => bif Nat.beq st 1 then 1 else 0) es xs)
  | .agg cs => (fmlL ren rst cs).map .agg
  | .loc s off => (back s ren).map fun k => .loc k off
  | .lsl s off n => (back s ren).map fun k => .lsl k off n
  | .rsl st es lo n => (back st rst).map fun k => .rsl k es lo n
  | .rptr st es i off => (back st rst).map fun k => .rptr k es i off
  | .mapr _ | .wh _ _ _ | .undef | .tup _ => none
  | d => some d
def fmlL (ren rst : List (Nat × Nat)) : List D → Option (List D)
  | [] => some []
  | d :: ds => match fml ren rst d, fmlL ren rst ds with
    | some a, some b => some (a :: b)
    | _, _ => none
end
def fmlB (ren rst : List (Nat × Nat)) (env : Env) (k : Nat) : Option BoxC :=
  match look k ren with
  | some s => match look s env.bx with
    | some b => bif b.frozen then none else (fmlL ren rst b.cells).map fun cs => { b with cells := cs }
    | none => none
  | none => none
def fmlBx (ren rst : List (Nat × Nat)) (env : Env) : Option (List (Nat × BoxC)) := allSome ((ren.map (·.1)).map fun k => (fmlB ren rst env k).map fun b => (k, b))
def fmlU (rst : List (Nat × Nat)) (env : Env) (k : Nat) : Option Nat :=
  match look k rst with
  | some st => bif env.dd.contains st then none else look st env.us
  | none => none
def fmlUs (rst : List (Nat × Nat)) (env : Env) : Option (List (Nat × Nat)) := allSome ((rst.map (·.1)).map fun k => (fmlU rst env k).map fun u => (k, u))

/-- Rows that are handed over to be changed in place. -/
def bigs (rst : List (Nat × Nat)) : List Nat := (rst.map (·.1)).filter fun k => Nat.ble bigS k
def fmlR (rst : List (Nat × Nat)) (env : Env) (k : Nat) : Option RowC :=
  match look k rst with
  | some st => look st env.rw
  | none => none
def fmlRw (rst : List (Nat × Nat)) (env : Env) : Option (List (Nat × RowC)) := allSome ((bigs rst).map fun k => (fmlR rst env k).map fun r => (k, r))

/-- Names of rows that come back: new ones, but for those that were handed over to be changed in place. -/
def nameR (rst : List (Nat × Nat)) (st n : Nat) : Nat := bif Nat.ble bigS st then (look st rst).getD 0 else 2 * n + 3
def nmL (rst : List (Nat × Nat)) : List (Nat × Nat) → Nat → List (Nat × Nat)
  | [], _ => []
  | (st, _) :: l, n => (nameR rst st n, st) :: nmL rst l (n + 1)
def nuL (rst : List (Nat × Nat)) : List (Nat × Nat) → Nat → List (Nat × Nat)
  | [], _ => []
  | (st, u) :: l, n => (nameR rst st n, u) :: nuL rst l (n + 1)
mutual
def expo (ren nms : List (Nat × Nat)) : D → Option D
  | .sl st es xs => some (.sl (match back st nms with
    | some x => x
    | none => bif Nat.beq st 1 then 1 else 0) es xs)
  | .agg cs => (expoL ren nms cs).map .agg
  | .loc k off => (look k ren).map fun s => .loc s off
  | .lsl k off n => (look k ren).map fun s => .lsl s off n
  | .rsl st es lo n => (back st nms).map fun x => .rsl x es lo n
  | .rptr st es i off => (back st nms).map fun x => .rptr x es i off
  | .mapr _ | .wh _ _ _ | .undef | .tup _ => none
  | d => some d
def expoL (ren nms : List (Nat × Nat)) : List D → Option (List D)
  | [] => some []
  | d :: ds => match expo ren nms d, expoL ren nms ds with
    | some a, some b => some (a :: b)
    | _, _ => none
end
def expT (ren nms : List (Nat × Nat)) : D → Option D
  | .tup ds => (expoL ren nms ds).map .tup
  | d => expo ren nms d
def expB (ren nms : List (Nat × Nat)) (bx : List (Nat × BoxC)) (s : Nat) : Option BoxC :=
  match back s ren with
  | some k => match look k bx with
    | some b => (expoL ren nms b.cells).map fun cs => { b with cells := cs }
    | none => none
  | none => none
def expBx (ren nms : List (Nat × Nat)) (bx : List (Nat × BoxC)) : Option (List (Nat × BoxC)) := allSome ((ren.map (·.2)).map fun s => (expB ren nms bx s).map fun b => (s, b))

def expRw (nms : List (Nat × Nat)) (rw : List (Nat × RowC)) : Option (List (Nat × RowC)) := allSome (rw.map fun p => (back p.1 nms).map fun s => (s, p.2))

def memEnv (bx : List (Nat × BoxC)) (us : List (Nat × Nat)) (rw : List (Nat × RowC)) : Env := ⟨0, [], [], bx, [], us, [], none, rw⟩
/-- What is handed over, in a world. -/
structure Mem (c : Ctx) (bx : List (Nat × BoxC)) (us : List (Nat × Nat)) (rw : List (Nat × RowC)) (w : World) : Prop where
  var : ∀ s b, look s bx = some b → BoxOK c (memEnv bx us rw) w s b
  inj : ∀ s s', (look s bx).isSome = true → (look s' bx).isSome = true → c.ρ s = c.ρ s' → s = s'
  lt : ∀ s, (look s bx).isSome = true → c.ρ s < w.heap.size
  ownInj : ∀ st st' g, (look st us).isSome = true → (look st' us).isSome = true → c.σ st = some g → c.σ st' = some g → st = st'
  ownLt : ∀ st g, (look st us).isSome = true → c.σ st = some g → g < w.heap.size ∧ ∀ s, (look s bx).isSome = true → c.ρ s ≠ g
  im : ∀ b o, c.I b o → b < w.heap.size
  row : ∀ st r, look st rw = some r → RowOK c (memEnv bx us rw) w st r
structure MemG (P : Program) (c : Ctx) (bx : List (Nat × BoxC)) (us : List (Nat × Nat)) (rw : List (Nat × RowC)) (w : World) : Prop extends Mem c bx us rw w where
  gl : GlobW P c.I w
def passed (c : Ctx) (bx : List (Nat × BoxC)) (us : List (Nat × Nat)) (k : Nat) : Prop := (∃ s, (look s bx).isSome = true ∧ c.ρ s = k) ∨ ∃ st, (look st us).isSome = true ∧ c.σ st = some k
/-- What a call leaves of what it was handed, and of all else. -/
structure MemOut (c c' : Ctx) (bx bx' : List (Nat × BoxC)) (us us' : List (Nat × Nat)) (rw rw' : List (Nat × RowC)) (w w' : World) : Prop where
  mem : Mem c' bx' us' rw' w'
  keeps : Keeps c.I c'.I w w'
  os : w'.os = w.os
  tape : w'.tape = w.tape
  output : w'.output = w.output
  size : w.heap.size ≤ w'.heap.size
  block : ∀ k, k < w.heap.size → ¬ passed c bx us k → w'.heap[k]? = w.heap[k]?
  imNew : ∀ b o, c'.I b o → c.I b o ∨ passed c bx us b ∨ w.heap.size ≤ b
  slot : ∀ s, (look s bx).isSome = true → c'.ρ s = c.ρ s
  row : ∀ st g, (look st us').isSome = true → c'.σ st = some g → passed c bx us g ∨ w.heap.size ≤ g
  hand : ∀ st, bigS ≤ st → (look st us').isSome = true → (look st rw).isSome = true ∧ c'.σ st = c.σ st ∧ ∀ g n, c.σ st = some g → Room w g n → Room w' g n
/-- A call of f with this data, and with these variables and rows, returns that, and leaves these. -/
def CallsR (P : Program) (f : Nat) (bx : List (Nat × BoxC)) (us : List (Nat × Nat)) (rw : List (Nat × RowC)) (ds : List D) (d : D) (bx' : List (Nat × BoxC)) (us' : List (Nat × Nat)) (rw' : List (Nat × RowC)) : Prop :=
  FnOK P f ∧ ∀ (c : Ctx) (w : World) (vs : List Value), MemG P c bx us rw w → All2 (RepT c (memEnv bx us rw) w) ds vs →
    Calls P f ⟨vs⟩ w fun e w' => ∃ v c', e = .returned v ∧ MemOut c c' bx bx' us us' rw rw' w w' ∧ RepT c' (memEnv bx' us' rw') w' d v
abbrev CallsM (P : Program) (f : Nat) (bx : List (Nat × BoxC)) (us : List (Nat × Nat)) (ds : List D) (d : D) (bx' : List (Nat × BoxC)) (us' : List (Nat × Nat)) : Prop := CallsR P f bx us [] ds d bx' us' []

/-- How it is called: names, and what comes of it, as the callee names it. -/
structure MemC where
  ren : List (Nat × Nat)
  rst : List (Nat × Nat)
  d : D
  bx : List (Nat × BoxC)
  us : List (Nat × Nat)
  rw : List (Nat × RowC) := []
def MemC.nms (X : MemC) (base : Nat) : List (Nat × Nat) := nmL X.rst X.us base
/-- A row that comes back, of those handed over to be changed in place. -/
def MemC.kept (X : MemC) (k : Nat) : Bool := Nat.ble bigS k && (look k X.us).isSome
def MemC.kills (X : MemC) : List Nat := (X.rst.filter fun p => !X.kept p.1).map (·.2)
def memOK (X : MemC) (env : Env) (base : Nat) : Bool :=
  distinct (X.ren.map (·.1)) && (distinct (X.ren.map (·.2)) && (distinct (X.rst.map (·.1)) && (distinct (X.rst.map (·.2)) && ((X.rst.all fun p => Nat.ble 2 p.1 && Nat.ble 2 p.2) &&
    (distinct ((X.nms base).map (·.1)) && (distinct ((X.nms base).map (·.2)) && (((X.nms base).all fun p => (Nat.ble 2 p.1 && Nat.ble 2 p.2) && (Nat.ble bigS p.2 || env.fresh p.1)) &&
    (X.us.all fun p => !Nat.ble bigS p.1 || ((look p.1 X.rw).isSome && (match look p.1 X.rst with
      | some st => Nat.beq p.2 rowMark && (look st env.us == some rowMark)
      | none => false))))))))))
def memOf (T : Ty) (env : Env) (op : Op) : Option (Nat × List D × List D) :=
  match callOf op with
  | some c => match c.callee with
    | .value f => match unw none (tv env.wt env.tm f) with
      | .fn fid caps => match T.mem fid with
        | true => some (fid, c.args.toList.map fun x => unw none (tv env.wt env.tm x), caps)
        | false => none
      | _ => none
    | _ => none
  | none => none
def memAfter (X : MemC) (env : Env) (base : Nat) (bx1 : List (Nat × BoxC)) (rw1 : List (Nat × RowC)) : Env := { env with bx := bx1 ++ env.bx, us := nuL X.rst X.us base ++ env.us, dd := X.kills ++ env.dd, rw := rw1 ++ env.rw }
def evMemB (P : Program) (f : Nat) (ds caps : List D) (env : Env) (dst : Nat) (K : Env → Prop) (base : Nat) : Prop :=
  ∃ X : MemC, match fmlBx X.ren X.rst env, fmlUs X.rst env, fmlL X.ren X.rst ds, expBx X.ren (X.nms base) X.bx, expT X.ren (X.nms base) X.d, fmlRw X.rst env, expRw (X.nms base) X.rw with
  | some bx0, some us0, some ds0, some bx1, some d1, some rw0, some rw1 => fB bx0 fun bx0 => fU us0 fun us0 => fL ds0 fun ds0 => fR rw0 fun rw0 => memOK X env base = true ∧ CallsR P f bx0 us0 rw0 (ds0 ++ caps) X.d X.bx X.us X.rw ∧ match Env.set (memAfter X env base bx1 rw1) dst none d1 with
    | some env' => K env'
    | none => False
  | _, _, _, _, _, _, _ => False

def evMem (P : Program) (f : Nat) (ds caps : List D) (env : Env) (dst : Nat) (K : Env → Prop) : Prop := fNat (16 * dst + 1000) fun base => evMemB P f ds caps env dst K base

/-- What is cleared. -/
def clearOf : Op → Option (Operand × Nat)
  | .call c => match c.callee with
    | .builtin .clear => match c.args.toList, c.argTypes.toList with
      | [x], [t] => some (x, t)
      | _, _ => none
    | _ => none
  | _ => none
/-- Something laid into a variable, or into a row. -/
def storeP (T : Ty) (env : Env) (t : Nat) (x d : D) (K : Env → Prop) : Prop :=
  match x with
  | .rptr st es i off => fD d fun d => match T t, look st env.rows, clo env.mp d, cloM d with
    | some e, some r, some x, [] => match d.good && (Nat.beq x.cells.length e.size && Nat.beq r.es es) with
      | true => match Nat.beq off 0 && Nat.beq e.size es with
        | true => sideB (Nat.blt i r.xs.length) True (K { env with rw := (st, { r with xs := r.xs.set i x }) :: env.rw })
        | false => fD (r.xs.getD i .undef) fun old => match elD es e off x old with
          | some el => sideB (Nat.blt i r.xs.length) True (K { env with rw := (st, { r with xs := r.xs.set i el }) :: env.rw })
          | none => False
      | false => False
    | _, _, _, _ => False
  | x => match storeR T env t x d with
    | some env' => K env'
    | none => False
def storeD (T : Ty) (env : Env) (t : Nat) (x d : D) : Option (Bool × Env) :=
  match x with
  | .rptr st es i off => storeRow T env t st es i off d
  | x => (storeR T env t x d).map fun env' => (true, env')
theorem storeP_row {T : Ty} {env : Env} {t st es i off : Nat} {d : D} {K : Env → Prop} : storeP T env t (.rptr st es i off) d K ↔ ∃ env', storeD T env t (.rptr st es i off) d = some (true, env') ∧ K env' := by
  simp only [storeP, storeD, storeRow, fD_iff]
  cases T t with
  | none => simp
  | some e =>
    cases look st env.rows with
    | none => simp
    | some r =>
      cases clo env.mp d with
      | none => simp
      | some x =>
        cases cloM d with
        | cons _ _ => simp
        | nil =>
          simp only
          cases hb : (d.good && (Nat.beq x.cells.length e.size && Nat.beq r.es es)) with
          | false => simp
          | true =>
            simp only [cond_true]
            cases hc : (Nat.beq off 0 && Nat.beq e.size es) with
            | true =>
              have h1 : ∀ old, elD es e off x old = some x := fun old => by unfold elD; rw [hc]; rfl
              simp only [h1, Option.map_some, sideB_iff, Option.some.injEq, Prod.mk.injEq, true_imp_iff]
              constructor
              · rintro ⟨h1, h2⟩; exact ⟨_, ⟨h1, rfl⟩, h2⟩
              · rintro ⟨env', ⟨h1, rfl⟩, h2⟩; exact ⟨h1, h2⟩
            | false =>
              simp only
              cases elD es e off x (r.xs.getD i .undef) with
              | none => simp
              | some el =>
                simp only [Option.map_some, sideB_iff, Option.some.injEq, Prod.mk.injEq, true_imp_iff]
                constructor
                · rintro ⟨h1, h2⟩; exact ⟨_, ⟨h1, rfl⟩, h2⟩
                · rintro ⟨env', ⟨h1, rfl⟩, h2⟩; exact ⟨h1, h2⟩
theorem storeP_iff {T : Ty} {env : Env} {t : Nat} {x d : D} {K : Env → Prop} : storeP T env t x d K ↔ ∃ env', storeD T env t x d = some (true, env') ∧ K env' := by
  have gen : ∀ {o : Option Env}, (match o with | some env' => K env' | none => False) ↔ ∃ env', (o.map fun env' => (true, env')) = some (true, env') ∧ K env' := by
    intro o
    cases o with
    | none => simp
    | some e => simp
  cases x
  case rptr st es i off => exact storeP_row
  all_goals
    simp only [storeP, storeD]
    generalize storeR T env t _ d = o
    cases o <;> simp

/-- One operation, in order. -/
def evOp (P : Program) (T : Ty) (ops : Array Oper) (o : Oper) (env : Env) (K : Env → Prop) : Prop :=
  match gslot ops o with
  | none => False
  | some g => match o.op with
    | .store t a x => match g, o.dst with
      | none, none => storeP T env t (unw none (tv env.wt env.tm a)) (unw none (tv env.wt env.tm x)) K
      | _, _ => False
    | .mapUpdate t m k x => match g, o.dst with
      | none, none => fD (unw none (tv env.wt env.tm k)) fun kd => fD (unw none (tv env.wt env.tm x)) fun xd => match mapUpR T env t (unw none (tv env.wt env.tm m)) kd xd with
        | some (s, env') => s = true ∧ K env'
        | none => False
      | _, _ => False
    | _ => match clearOf o.op with
     | some (x, t) => (match g, o.dst with
      | none, none => match clearD T env t (unw none (tv env.wt env.tm x)) with
        | some (s, env') => sideB s True (K env')
        | none => False
      | _, _ => False)
     | none => match o.dst with
      | some dst => match yldOf g env o.op with
        | some (l, ds) => match g, env.ys with
          | none, some (l', x :: rest) => (l = l' ∧ ds = x) ∧ (match memG { env with ys := some (l', rest) } dst none { d := .bool true } with
            | some env' => K env'
            | none => False) ∧ (match memG { env with ys := none } dst none { d := .bool false } with
            | some env' => K env'
            | none => False)
          | some (s, b), some (l', xs) => match look s env.tm with
            | some (.bool t) => (t = b ∧ match xs with
              | x :: rest => (l = l' ∧ ds = x) ∧ (match memG { env with ys := some (l', rest) } dst none { d := .bool true } with
                | some env' => K env'
                | none => False) ∧ (match memG { env with ys := none } dst none { d := .bool false } with
                | some env' => K env'
                | none => False)
              | [] => False) ∨ (t ≠ b ∧ match memG env dst (some (s, b)) { d := .undef } with
                | some env' => K env'
                | none => False)
            | _ => False
          | _, _ => False
        | none => match memOf T env o.op with
          | some (f, ds, caps) => (match g with
            | none => fL ds fun ds => evMem P f ds caps env dst K
            | some _ => False)
          | none => doesF P T g (tv env.wt env.tm) env.bx env.mp env.rows dst o.op (gcond (fun _ => true) 8 env.wt env.tm g) fun r => match memG env dst g r with
            | some env' => K env'
            | none => False
      | none => False

def Env.end (env : Env) : Env := { env with wt := [] }

def evOps (P : Program) (T : Ty) (ops : Array Oper) : List Oper → Env → (Env → Prop) → Prop
  | [], env, K => fE env.end K
  | o :: os, env, K => evOp P T ops o env fun env' => fE1 env' fun env' => evOps P T ops os env' K

/-- May operation i, that comes behind those of m in every order, ask for slot t? -/
def okT (m i t : Nat) : List Oper → Nat → Bool
  | [], _ => true
  | o :: os, j => (match o.dst with
    | some d => !Nat.beq d t || (Nat.testBit m j && Nat.blt j i)
    | none => true) && okT m i t os (j + 1)
def tvR (ok : Nat → Bool) (wt tm : List (Nat × D)) : Operand → D
  | .tmp t => match ok t with
    | true => tv wt tm (.tmp t)
    | false => .undef
  | x => tv wt tm x

/-- Operations that may come in any order: each looks at variables as they were ahead of all. -/
def evPh (P : Program) (T : Ty) (ops : Array Oper) (ph : List Oper) (bx : List (Nat × BoxC)) (mp : List (Nat × MapC)) (rw : List (Nat × RowC)) : List Nat → Nat → Nat → List Oper → Env → (Env → Prop) → Prop
  | _, _, _, [], env, K => K env
  | [], _, _, _ :: _, _, _ => False
  | m :: ms, i, used, o :: os, env, K => match gslot ops o, o.dst with
    | some g, some dst => doesF P T g (tvR (fun t => okT m i t ph 0) env.wt env.tm) bx mp rw dst o.op (gcond (fun t => okT m i t ph 0) 8 env.wt env.tm g) fun r =>
        match r.fz.isEmpty && r.fm.isEmpty && r.mp.isNone && r.row.isNone && (r.own.isNone || Nat.beq (used &&& m) used) with
        | true => (match memG env dst g r with
          | some env' => fE1 env' fun env' => fNat (bif r.own.isSome then used ||| 1 <<< i else used) fun used => evPh P T ops ph bx mp rw ms (i + 1) used os env' K
          | none => False)
        | false => False
    | _, _ => False

/-- Is it an operation that changes a variable? -/
def isEff : Op → Bool
  | .store .. | .mapUpdate .. | .insert .. | .assign _ => true
  | .call c => (clearOf (.call c)).isSome
  | _ => false
/-- Is it a call that is handed rows and variables? -/
def isMem (T : Ty) (o : Op) : Bool :=
  match callOf o with
  | some c => match c.callee with
    | .value (.func f) => T.mem f
    | _ => false
  | none => false
/-- Does it make a row that is changed in place, or a function that holds variables? -/
def isRow (T : Ty) : Op → Bool
  | .convert _ t _ => match elemTy T t with
    | some (u, _) => T.mu u
    | none => false
  | .call c => match c.callee with
    | .builtin .append => match c.argTypes.toList with
      | t :: _ => match elemTy T t with
        | some (u, _) => T.mu u
        | none => false
      | [] => false
    | _ => false
  | .makeFunc _ _ caps => !caps.toList.isEmpty
  | .makeSlice t _ _ => match elemTy T t with
    | some (u, _) => T.mu u
    | none => false
  | _ => false
/-- How many operations are ahead of those. -/
def ahead (T : Ty) : List Oper → Nat
  | [] => 0
  | o :: os => bif isEff o.op || isMem T o.op || isRow T o.op then 0 else ahead T os + 1

def bindsB (e : Edge) : Bool := Region.binds .any e

/-- Of each operation, which others are ahead of it in every order, as bits. -/
def maskOf (acc : List Nat) (o : Oper) : Nat := o.after.toList.foldl (fun m e => match bindsB e with | true => m ||| (1 <<< e.on ||| acc.getD e.on 0) | false => m) 0
def ancs : List Oper → List Nat → List Nat
  | [], acc => acc
  | o :: os, acc => ancs os (acc ++ [maskOf acc o])

/-- Those of the first part that one of the last ones need not wait for: they may be taken first. -/
def lateOf (an : List Nat) (p n : Nat) : List Nat := (List.range p).filter fun j => !((List.range n).all fun i => Nat.blt i p || Nat.testBit (an.getD i 0) j)
def pureOp : Op → Bool
  | .move _ => true
  | .binOp .sub _ _ _ _ => true
  | _ => false
def noSel (o : Oper) : Bool := match o.op with
  | .select .. | .defer _ => false
  | _ => true
def lateGo (ops : Array Oper) : List Nat → List Nat → Bool
  | _, [] => true
  | dn, i :: rest => (match ops.toList[i]? with
    | some oi => (pureOp oi.op && (oi.guard.isNone && !dn.contains i)) && (oi.after.toList.all (fun e => !bindsB e || dn.contains e.on) &&
      (List.range ops.toList.length).all fun j => Nat.beq j i || (dn.contains j || (match ops.toList[j]? with
        | some oj => oj.after.toList.any (fun e => bindsB e && Nat.beq e.on i) || oi.apart ops oj
        | none => true)))
    | none => false) && lateGo ops (i :: dn) rest
def lateOK (ops : Array Oper) (p : Nat) : List Nat → Bool
  | [] => true
  | l => l.all (fun i => Nat.blt i p) && (ops.toList.all noSel && lateGo ops [] l)

/-- Where the first part ends: ahead of what is assigned, if that will do; else behind it. -/
def isAsg : Op → Bool
  | .assign _ => true
  | _ => false
def ahead2 (T : Ty) : List Oper → Nat
  | [] => 0
  | o :: os => bif (isEff o.op && !isAsg o.op) || isMem T o.op || isRow T o.op then 0 else ahead2 T os + 1
def parts (T : Ty) (ops : Array Oper) (an : List Nat) : Nat := match lateOK ops (ahead T ops.toList) (lateOf an (ahead T ops.toList) ops.toList.length) with
  | true => ahead T ops.toList
  | false => ahead2 T ops.toList
/-- May a region's operations come in any order, but the last ones? -/
def drawOK (ops : Array Oper) (an : List Nat) (p : Nat) (lt : List Nat) : Bool :=
  lateOK ops p lt && (Nat.ble p ops.toList.length && distinct ((ops.toList.take p).filterMap (·.dst)) &&
  (List.range ops.toList.length).all (fun i => match ops.toList[i]? with
    | some o => o.after.toList.all (fun e => !bindsB e || Nat.blt e.on i) &&
      (match Nat.blt i p with
      | true => o.dst.isSome && (match o.guard with | some (j, _) => Nat.blt j i && Nat.testBit (an.getD i 0) j | none => true)
      | false => (List.range i).all fun j => Nat.testBit (an.getD i 0) j || lt.contains j)
    | none => false))

def fLs {α : Type} : List α → (List α → Prop) → Prop
  | [], K => K []
  | x :: l, K => fLs l fun l => K (x :: l)
theorem fLs_iff {α : Type} : ∀ (l : List α) (K : List α → Prop), fLs l K ↔ K l
  | [], _ => Iff.rfl
  | x :: l, _ => fLs_iff l _
/-! ### Regions whose operations are shown in every order: the states, by what has been done -/
def readyM (ops : Array Oper) (m : Nat) : List Nat := (List.range ops.toList.length).filter fun i => !Nat.testBit m i && (match ops.toList[i]? with
  | some o => o.after.toList.all (fun e => !bindsB e || Nat.testBit m e.on)
  | none => false)
/-- It asks nothing of the world. -/
def isPv (T : Ty) (env : Env) : Op → Bool
  | .move _ => true
  | .fieldAddr t x f => (fieldOf T t f).isSome && (match unw none (tv env.wt env.tm x) with
    | .loc _ _ => true
    | _ => false)
  | _ => false
/-- May it come first, of those that may come now? -/
def mvOK (T : Ty) (env : Env) (ops : Array Oper) (m : Nat) (i : Nat) : Bool := match ops.toList[i]? with
  | some oi => (isPv T env oi.op && oi.guard.isNone) && (List.range ops.toList.length).all fun j => Nat.beq j i || (Nat.testBit m j || (match ops.toList[j]? with
        | some oj => oj.after.toList.any (fun e => bindsB e && Nat.beq e.on i) || oi.apart ops oj
        | none => true))
  | none => false
def andL (f : Nat → Prop) : List Nat → Prop
  | [] => True
  | [i] => f i
  | i :: l => f i ∧ andL f l
theorem andL_mem {f : Nat → Prop} : ∀ {l : List Nat}, andL f l → ∀ i, i ∈ l → f i
  | [], _, i, h => by cases h
  | [x], h, i, hi => by
    rcases List.mem_cons.1 hi with rfl | hi
    · exact h
    · cases hi
  | x :: y :: l, h, i, hi => by
    rcases List.mem_cons.1 hi with rfl | hi
    · exact h.1
    · exact andL_mem h.2 i hi
/-- Slots, by number. -/
def insT {α : Type} (t : Nat) (d : α) : List (Nat × α) → List (Nat × α)
  | [] => [(t, d)]
  | (s, x) :: l => match Nat.blt t s with
    | true => (t, d) :: (s, x) :: l
    | false => match Nat.beq t s with
      | true => (t, d) :: l
      | false => (s, x) :: insT t d l
theorem look_insT {α : Type} {t : Nat} {d : α} {s : Nat} : ∀ l : List (Nat × α), look s (insT t d l) = if t = s then some d else look s l
  | [] => look_cons ..
  | (s', x) :: l => by
    unfold insT
    cases Nat.blt t s' with
    | true => simp only [look_cons]
    | false =>
      simp only
      cases hb : Nat.beq t s' with
      | true =>
        have := Nat.eq_of_beq_eq_true hb; subst this
        simp only [look_cons]
        split <;> rfl
      | false =>
        have hne : t ≠ s' := nbeq_f.1 hb
        simp only [look_cons, look_insT l]
        by_cases e : s' = s
        · rw [if_pos e, if_pos e, if_neg (fun x => hne (x.trans e.symm))]
        · rw [if_neg e, if_neg e]
def normT {α : Type} : List (Nat × α) → List (Nat × α)
  | [] => []
  | (t, d) :: l => insT t d (normT l)
theorem look_normT {α : Type} {s : Nat} : ∀ l : List (Nat × α), look s (normT l) = look s l
  | [] => rfl
  | (t, d) :: l => by rw [normT, look_insT, look_cons, look_normT l]
def insN (t : Nat) : List Nat → List Nat
  | [] => [t]
  | s :: l => match Nat.blt t s with
    | true => t :: s :: l
    | false => match Nat.beq t s with
      | true => s :: l
      | false => s :: insN t l
theorem mem_insN {t x : Nat} : ∀ l : List Nat, x ∈ insN t l ↔ x = t ∨ x ∈ l
  | [] => by simp [insN]
  | s :: l => by
    unfold insN
    cases Nat.blt t s with
    | true => simp
    | false =>
      simp only
      cases hb : Nat.beq t s with
      | true =>
        have := Nat.eq_of_beq_eq_true hb; subst this
        simp
      | false =>
        simp only [List.mem_cons, mem_insN l]
        constructor
        · rintro (h | h | h)
          · exact .inr (.inl h)
          · exact .inl h
          · exact .inr (.inr h)
        · rintro (h | h | h)
          · exact .inr (.inl h)
          · exact .inl h
          · exact .inr (.inr h)
def normN : List Nat → List Nat
  | [] => []
  | t :: l => insN t (normN l)
theorem mem_normN {x : Nat} : ∀ l : List Nat, x ∈ normN l ↔ x ∈ l
  | [] => Iff.rfl
  | t :: l => by rw [normN, mem_insN, mem_normN l, List.mem_cons]
/-- The same state, written in one way. -/
def Env.norm (env : Env) : Env := { nt := env.nt, tm := normT env.tm, wt := normT env.wt, bx := normT env.bx, mp := normT env.mp, us := normT env.us, dd := normN env.dd, ys := env.ys, rw := normT env.rw }
/-- Likewise, where all but the first slot is written so. -/
def ins1 {α : Type} : List (Nat × α) → List (Nat × α)
  | [] => []
  | (t, d) :: l => insT t d l
theorem look_ins1 {α : Type} {s : Nat} : ∀ l : List (Nat × α), look s (ins1 l) = look s l
  | [] => rfl
  | (t, d) :: l => by rw [ins1, look_insT, look_cons]
def Env.norm1 (env : Env) : Env := { nt := env.nt, tm := ins1 env.tm, wt := normT env.wt, bx := normT env.bx, mp := normT env.mp, us := normT env.us, dd := normN env.dd, ys := env.ys, rw := normT env.rw }
def firstMv (T : Ty) (env : Env) (ops : Array Oper) (m : Nat) : List Nat → Option Nat
  | [] => none
  | i :: l => match mvOK T env ops m i with
    | true => some i
    | false => firstMv T env ops m l
/-- What may come now. -/
def nextM (T : Ty) (env : Env) (ops : Array Oper) (m : Nat) : List Nat := match readyM ops m with
  | [] => []
  | i :: l => match firstMv T env ops m (i :: l) with
    | some j => [j]
    | none => i :: l
def tabE (P : Program) (T : Ty) (ops : Array Oper) (tab : List (Nat × Env)) (m : Nat) (env : Env) (i : Nat) : Prop := match ops.toList[i]? with
  | some o => evOp P T ops o env fun env' => fE env'.norm1 fun env' => fNat (m ||| 1 <<< i) fun m' => look m' tab = some env'
  | none => False
def tabGo (P : Program) (T : Ty) (ops : Array Oper) (tab : List (Nat × Env)) (K : Env → Prop) : List (Nat × Env) → Prop
  | [] => True
  | (m, env) :: l => (match nextM T env ops m with
    | [] => K env
    | i :: is => andL (tabE P T ops tab m env) (i :: is)) ∧ tabGo P T ops tab K l
/-- Must all orders be shown? -/
def needAll (T : Ty) (ops : Array Oper) (an : List Nat) (p : Nat) (lt : List Nat) : Bool := ops.toList.any (fun o => isMem T o.op || isRow T o.op) && (ops.toList.all noSel && !drawOK ops an p lt)
/-- Operations in any order. -/
def evDraw (P : Program) (T : Ty) (ops : Array Oper) (env : Env) (K : Env → Prop) : Prop :=
  fN (ancs ops.toList []) fun an => fNat (parts T ops an) fun p => fN (lateOf an p ops.toList.length) fun lt => match needAll T ops an p lt with
    | true => fE env.end fun env => ∃ tab envF, look 0 tab = some env ∧ tabGo P T ops tab (fun env => fE env.end fun env => env = envF) tab ∧ envF.ys = env.ys ∧ K envF
    | false => drawOK ops an p lt = true ∧ fE env.end fun env => fLs (ops.toList.take p) fun ph => evPh P T ops ph env.bx env.mp env.rows an 0 0 ph env fun env' => evOps P T ops (ops.toList.drop p) env' K
/-- Variables that are known to change no more, ahead of such a region (told by T). -/
def sealsOf (T : Ty) (env : Env) : List Nat := (env.bx.map (·.1)).filter fun s => T.mu (2000000 + s)
def evRegion (P : Program) (T : Ty) (ops : Array Oper) (draw : Bool) (env : Env) (K : Env → Prop) : Prop :=
  match draw with
  | false => fE env.end fun env => evOps P T ops ops.toList env K
  | true => match frzB env.bx (sealsOf T env) with
    | some bx => evDraw P T ops { env with bx := bx } K
    | none => False

/-! ### At the head of a loop: what was not there ahead of it is forgotten -/
mutual
def trim (f : Nat → Nat) (bs ms : List Nat) : D → Option D
  | .sl st es xs => some (.sl (f st) es xs)
  | .agg cs => (trimL f bs ms cs).map .agg
  | .loc s off => bif bs.contains s then some (.loc s off) else none
  | .lsl s off n => bif bs.contains s then some (.lsl s off n) else none
  | .mapr s => bif ms.contains s then some (.mapr s) else none
  | .rsl st es lo n => bif Nat.ble (f st) 1 then none else some (.rsl (f st) es lo n)
  | .rptr st es i off => bif Nat.ble (f st) 1 then none else some (.rptr (f st) es i off)
  | .tup _ => none
  | .wh _ _ _ => none
  | d => some d
def trimL (f : Nat → Nat) (bs ms : List Nat) : List D → Option (List D)
  | [] => some []
  | d :: ds => match trim f bs ms d, trimL f bs ms ds with
    | some a, some b => some (a :: b)
    | _, _ => none
end

mutual
def stampsOf : D → List Nat
  | .sl st _ _ => [st]
  | .rsl st _ _ _ => [st]
  | .rptr st _ _ _ => [st]
  | .agg cs => stampsOfL cs
  | _ => []
def stampsOfL : List D → List Nat
  | [] => []
  | d :: ds => stampsOf d ++ stampsOfL ds
end

def dedup : List Nat → List Nat → List Nat
  | [], acc => acc
  | x :: xs, acc => match acc.contains x with
    | true => dedup xs acc
    | false => dedup xs (x :: acc)

def idxOf (x : Nat) : List Nat → Nat → Option Nat
  | [], _ => none
  | y :: ys, i => bif Nat.beq x y then some i else idxOf x ys (i + 1)

/-- A stamp's name from now on: rows that the function was handed keep theirs. -/
def nameS (i st : Nat) : Nat := bif Nat.ble bigS st then st else 2 * i + 2
def restamp (dd l : List Nat) (st : Nat) : Nat :=
  bif Nat.ble st 1 then st else bif dd.contains st then 0 else match idxOf st l 0 with
    | some i => nameS i st
    | none => 0

/-- Slots of which something is known. -/
def keysL (l : List (Nat × D)) : List Nat := dedup ((l.filter fun p => match p.2 with | .undef => false | _ => true).map (·.1)) []
def keysOf {α : Type} (l : List (Nat × α)) : List Nat := dedup (l.map (·.1)) []

def usOf (us : List (Nat × Nat)) : List Nat → Nat → Option (List (Nat × Nat))
  | [], _ => some []
  | st :: l, i => match look st us, usOf us l (i + 1) with
    | some u, some r => some ((nameS i st, u) :: r)
    | _, _ => none
def rwOf (rw : List (Nat × RowC)) : List Nat → Nat → List (Nat × RowC)
  | [], _ => []
  | st :: l, i => match look st rw with
    | some r => (nameS i st, r) :: rwOf rw l (i + 1)
    | none => rwOf rw l (i + 1)

/-- The stamps that go on, of these slots and variables. -/
def stampsIn (ts bs : List Nat) (env : Env) : List Nat :=
  (dedup (ts.flatMap (fun t => stampsOf ((look t env.tm).getD .undef)) ++ bs.flatMap (fun s => match look s env.bx with | some b => stampsOfL b.cells | none => []) ++ (env.us.map (·.1)).filter (fun st => Nat.ble bigS st)) []).filter fun st => Nat.ble 2 st && !env.dd.contains st

def canonBx (f : Nat → Nat) (bs ms : List Nat) (bx : List (Nat × BoxC)) (s : Nat) : Option BoxC :=
  match look s bx with
  | some b => match trimL f bs ms b.cells with
    | some cs => some { b with cells := cs }
    | none => none
  | none => none

/-- The state with only these slots, variables and maps. -/
def canonW (ts bs ms l : List Nat) (env : Env) : Option Env :=
  match allSome (bs.map fun s => (canonBx (restamp env.dd l) bs ms env.bx s).map fun b => (s, b)), allSome (ms.map fun s => (look s env.mp).map fun m => (s, m)), usOf env.us l 0 with
  | some bx', some mp', some us' => bif distinct l && (Nat.blt (2 * l.length + 2) bigS && l.all (fun st => Nat.ble 2 st && !env.dd.contains st)) then some { nt := env.nt, tm := ts.map fun t => (t, (trim (restamp env.dd l) bs ms ((look t env.tm).getD .undef)).getD .undef), wt := [], bx := bx', mp := mp', us := us', dd := [], ys := env.ys, rw := rwOf env.rw l 0 } else none
  | _, _, _ => none
def Env.canon (ts bs ms : List Nat) (env : Env) : Option Env := canonW ts bs ms (stampsIn ts bs env) env

/-- What is laid otherwise at the head of a loop. -/
inductive Adj where
  | nilT (t u es : Nat)
  | nilB (s i u es : Nat)
  | rowT (t u es : Nat)
  | rowB (s i u es : Nat)
  | kill (st : Nat)
  | drop (t : Nat)
  | keep (n : Nat)
  | sealT (t : Nat)
def adj1 (env : Env) (s' : Nat) : Adj → Option Env
  | .nilT t u es => match look t env.tm with
    | some (.sl 1 es0 xs) => bif (Nat.beq es0 es || xs.isEmpty) && (!Nat.beq u rowMark && env.fresh s') then some { env with us := (s', u) :: env.us, tm := (t, .sl s' es xs) :: env.tm } else none
    | _ => none
  | .nilB s i u es => match look s env.bx with
    | some b => match b.cells[i]? with
      | some (.sl 1 es0 xs) => bif (Nat.beq es0 es || xs.isEmpty) && (!Nat.beq u rowMark && env.fresh s') then some { env with us := (s', u) :: env.us, bx := (s, { b with cells := b.cells.set i (.sl s' es xs) }) :: env.bx } else none
      | _ => none
    | none => none
  | .rowT t u es => match look t env.tm with
    | some (.sl 1 _ []) => bif !Nat.beq es 0 && env.fresh s' then some { env with us := (s', rowMark) :: env.us, rw := (s', ⟨u, es, [], false⟩) :: env.rw, tm := (t, .rsl s' es 0 0) :: env.tm } else none
    | _ => none
  | .rowB s i u es => match look s env.bx with
    | some b => match b.cells[i]? with
      | some (.sl 1 _ []) => bif !Nat.beq es 0 && env.fresh s' then some { env with us := (s', rowMark) :: env.us, rw := (s', ⟨u, es, [], false⟩) :: env.rw, bx := (s, { b with cells := b.cells.set i (.rsl s' es 0 0) }) :: env.bx } else none
      | _ => none
    | none => none
  | .kill st => some { env with dd := st :: env.dd }
  | .drop t => some { env with tm := (t, .undef) :: env.tm }
  | .keep n => some { env with tm := env.tm.filter fun p => Nat.blt p.1 n }
  | .sealT t => match look t env.tm with
    | some (.loc s 0) => match capD env.bx [] (.loc s 0) with
      | some p => match frzB env.bx [s] with
        | some bx => some { env with bx := bx, tm := (t, p.2.1) :: env.tm }
        | none => none
      | none => none
    | _ => none
def adjW : List Adj → Nat → Env → Option Env
  | [], _, env => some env
  | x :: N, k, env => match adj1 env (2 * (env.nt + k) + 3) x with
    | some env' => adjW N (k + 1) env'
    | none => none

def loopEv (body : Env → (Exit → Env → Prop) → Prop) (ts bs ms : List Nat) : Nat → Env → (Exit → Env → Prop) → Prop
  | 0, _, _ => False
  | n + 1, env, Q => body env fun e env' => match e with
    | .normal => fN (stampsIn ts bs env') fun l => match canonW ts bs ms l env' with
      | some env2 => fE env2 fun env2 => loopEv body ts bs ms n env2 Q
      | none => False
    | e => Q e env'

/-! ### Ranges over functions -/
/-- What an iterator does between two yields: O are its own blocks. -/
structure ItStep (O : Nat → Prop) (I : Im) (W : World) (O' : Nat → Prop) (I' : Im) (W' : World) : Prop where
  os : W'.os = W.os
  tape : W'.tape = W.tape
  output : W'.output = W.output
  size : W.heap.size ≤ W'.heap.size
  same : ∀ k, k < W.heap.size → ¬ O k → W'.heap[k]? = W.heap[k]?
  keeps : Keeps I I' W W'
  own : ∀ k, O' k → O k ∨ W.heap.size ≤ k
  im : ∀ b o, I' b o → I b o ∨ O b ∨ W.heap.size ≤ b
  lt : ∀ b o, I' b o → b < W'.heap.size
  olt : ∀ k, O' k → k < W'.heap.size
/-- What a round leaves of it. -/
structure ItBack (O : Nat → Prop) (I : Im) (W W' : World) : Prop where
  os : W'.os = W.os
  tape : W'.tape = W.tape
  output : W'.output = W.output
  size : W.heap.size ≤ W'.heap.size
  same : ∀ k, O k → W'.heap[k]? = W.heap[k]?
  keeps : Keeps I I W W'

/-- A range over f, with these captured, has these values, one after the other. -/
def IterTo (P : Program) (f : Nat) (caps : List D) (xs : List (List D)) : Prop :=
  FnOK P f ∧ ∀ (l : Nat) (J : List (List D) → (Nat → Prop) → Im → World → Prop) (Jx : (Nat → Prop) → Im → World → Prop) (I : Im) (W : World) (cvs : List Value),
    ImW P I W → RepL I W caps cvs →
    (∀ ys O I W O' I' W', J ys O I W → ItStep O I W O' I' W' → J ys O' I' W') → (∀ O I W O' I' W', Jx O I W → ItStep O I W O' I' W' → Jx O' I' W') →
    (∀ x ys O I W vs n, J (x :: ys) O I W → RepL I W x vs → x.all D.isVal = true → YieldAt Fence.wide n P l ⟨vs⟩ W fun e W' => ItBack O I W W' ∧ ((e = .returned (.bool true) ∧ J ys O I W') ∨ (e = .returned (.bool false) ∧ Jx O I W'))) →
    J xs (fun _ => False) I W →
    Calls P f ⟨.func (.yield l) #[] #[] :: cvs⟩ W fun e W' => (∃ v, e = .returned v) ∧ ∃ O' I', J [] O' I' W' ∨ Jx O' I' W'

def dstC : D → D
  | .sl st es xs => .sl (bif Nat.ble st 1 then st else 0) es xs
  | d => d
/-- What goes on through all rounds: no row that is appended to. -/
def D.isRow : D → Bool
  | .rsl _ _ _ _ | .rptr _ _ _ _ => true
  | _ => false
def dstD : D → D
  | .rsl _ _ _ _ | .rptr _ _ _ _ => .undef
  | .agg cs => bif cs.any D.isRow then .undef else .agg (cs.map dstC)
  | .tup _ => .undef
  | d => dstC d

def seqEv (body : Env → (Exit → Env → Prop) → Prop) (ps : List Nat) (nt0 : Nat) (tm0 : List (Nat × D)) (bs ms : List Nat) (ys : Option (Nat × List (List D))) : List (List D) → Env → (Exit → Env → Prop) → Prop
  | [], env, Q => fE { env with nt := nt0, tm := tm0, wt := [], ys := ys } (Q .normal)
  | x :: xs, env, Q => match Nat.beq x.length ps.length with
    | true => fE { env with nt := nt0, tm := ps.zip x ++ tm0, wt := [], ys := none } fun env => body env fun e env' => fN (stampsIn [] bs env') fun l => match canonW [] bs ms l env' with
      | some env2 => (match e with
        | .normal => fE env2 fun env2 => seqEv body ps nt0 tm0 bs ms ys xs env2 Q
        | .ret => fE { env2 with nt := nt0, tm := tm0, wt := [], ys := ys } (Q .ret)
        | .exit i => fE { env2 with nt := nt0, tm := tm0, wt := [], ys := ys } (Q (.exit i))
        | _ => False)
      | none => False
    | false => False

def ifB (b : Bool) (A B : Prop) : Prop :=
  match b with
  | true => A
  | false => B
theorem ifB_intro {b : Bool} {A B : Prop} (ht : b = true → A) (hf : b = false → B) : ifB b A B := by
  cases b
  · exact hf rfl
  · exact ht rfl

def evLoop (B : Env → (Exit → Env → Prop) → Prop) (env : Env) (Q : Exit → Env → Prop) : Prop :=
  fN (keysL env.tm) fun ts => fN (keysOf env.bx) fun bs => fN (keysOf env.mp) fun ms => fN (stampsIn ts bs env) fun l => match canonW ts bs ms l env with
    | some env1 => fE env1 fun env1 => ∃ n, loopEv B ts bs ms n env1 Q
    | none => False
def evRange (P : Program) (g : Operand) (ps : Array Tmp) (A B : Env → (Exit → Env → Prop) → Prop) (env : Env) (Q : Exit → Env → Prop) : Prop :=
  match tv env.wt env.tm g with
  | .fn f caps => match distinct ps.toList && ps.toList.all (fun p => Nat.blt p env.nt) with
    | true => fN (keysL env.tm) fun ts => fN (keysOf env.bx) fun bs => fN (keysOf env.mp) fun ms => fN (stampsIn [] bs env) fun l => match canonW ts bs ms l env with
      | some env1 => fE env1 fun env1 => ∃ xs, IterTo P f caps xs ∧ seqEv (fun env K => A env fun e env => match e with
          | .normal => B env K
          | _ => False) ps.toList env1.nt (env1.tm.map fun p => (p.1, dstD p.2)) bs ms env.ys xs env1 Q
      | none => False
    | false => False
  | _ => False

/-- Code. -/
def ev (P : Program) (T : Ty) : Code → Env → (Exit → Env → Prop) → Prop
  | .skip, env, Q => Q .normal env
  | .region _ ops draw, env, Q => evRegion P T ops draw env fun env' => Q .normal env'
  | .seq a b, env, Q => ev P T a env fun e env' => match e with
    | .normal => ev P T b env' Q
    | e => Q e env'
  | .cond c a b, env, Q => match tv env.wt env.tm c with
    | .bool t => ifB t (ev P T a env Q) (ev P T b env Q)
    | _ => False
  | .block id body, env, Q => ev P T body env fun e env' => match e with
    | .exit i => match Nat.beq i id with
      | true => Q .normal env'
      | false => Q (.exit i) env'
    | e => Q e env'
  | .loop body, env, Q => ∃ N, match adjW N 0 env with
    | some env => fE env fun env => evLoop (ev P T body) env Q
    | none => False
  | .rangeFunc g ps asg body, env, Q => ∃ N, match adjW N 0 env with
    | some env => fE env fun env => evRange P g ps (ev P T asg) (ev P T body) env Q
    | none => False
  | .exit i, env, Q => Q (.exit i) env
  | .ret, env, Q => Q .ret env
  | .label _, env, Q => Q .normal env
  | _, _, _ => False

/-- The state in which a function begins. -/
def entry (nt : Nat) (ds : List D) : Env := { nt := nt, tm := (List.range ds.length).zip ds, wt := [], bx := [], mp := [], us := [], dd := [] }

/-- What a function returns. -/
def resRaw (T : Ty) (env : Env) : List ResultVar → List D
  | [] => []
  | .tmp t :: rs => (look t env.tm).getD .undef :: resRaw T env rs
  | .cell a t :: rs => (match T t with
    | some e => (loadD env.bx e ((look a env.tm).getD .undef)).getD .undef
    | none => .undef) :: resRaw T env rs
def packR : List D → D
  | [d] => d
  | ds => .tup ds

/-- What a function's code returns, of this data. -/
def Runs (P : Program) (T : Ty) (nt : Nat) (code : Code) (rs : List ResultVar) (ds : List D) (d : D) : Prop :=
  ds.length ≤ nt ∧ fE (entry nt ds) fun env => ev P T code env fun e env => match e with
    | .normal | .ret => match cloL env.mp ((resRaw T env rs).map (sealD env.bx)) with
      | some l => (frzM env.mp ((resRaw T env rs).flatMap cloM)).isSome = true ∧ packR l = d
      | none => False
    | _ => False

mutual
def outD (ks : List Nat) (us : List (Nat × Nat)) : D → Option D
  | .sl st es xs => some (.sl (bif (look st us).isSome then st else bif Nat.beq st 1 then 1 else 0) es xs)
  | .agg cs => (outL ks us cs).map .agg
  | .loc s off => bif ks.contains s then some (.loc s off) else none
  | .lsl s off n => bif ks.contains s then some (.lsl s off n) else none
  | .rsl st es lo n => bif (look st us).isSome then some (.rsl st es lo n) else none
  | .rptr st es i off => bif (look st us).isSome then some (.rptr st es i off) else none
  | .mapr _ | .wh _ _ _ | .undef | .tup _ => none
  | d => some d
def outL (ks : List Nat) (us : List (Nat × Nat)) : List D → Option (List D)
  | [] => some []
  | d :: ds => match outD ks us d, outL ks us ds with
    | some a, some b => some (a :: b)
    | _, _ => none
end
def outB (ks : List Nat) (us : List (Nat × Nat)) (env : Env) (s : Nat) : Option BoxC :=
  match look s env.bx with
  | some b => (outL ks us b.cells).map fun cs => { b with cells := cs }
  | none => none
def outBx (ks : List Nat) (us : List (Nat × Nat)) (env : Env) : Option (List (Nat × BoxC)) := allSome (ks.map fun s => (outB ks us env s).map fun b => (s, b))
def usOK (us : List (Nat × Nat)) (env : Env) : Bool := distinct (us.map (·.1)) && us.all fun p => (look p.1 env.us == some p.2) && (!env.dd.contains p.1 && Nat.ble 2 p.1)
def outRw (us : List (Nat × Nat)) (env : Env) : List (Nat × RowC) := us.filterMap fun p => (look p.1 env.rw).map fun r => (p.1, r)
/-- What a function's code returns, and leaves of what it was handed. -/
def RunsR (P : Program) (T : Ty) (nt : Nat) (code : Code) (rs : List ResultVar) (bx : List (Nat × BoxC)) (us : List (Nat × Nat)) (rw : List (Nat × RowC)) (ds : List D) (Q : D → List (Nat × BoxC) → List (Nat × RowC) → Prop) (us' : List (Nat × Nat)) : Prop :=
  ds.length ≤ nt ∧ (rw.all (fun p => Nat.ble bigS p.1) && us'.all (fun p => !Nat.ble bigS p.1 || (look p.1 rw).isSome)) = true ∧ fE { entry nt ds with bx := bx, us := us, rw := rw } fun env => ev P T code env fun e env => match e with
    | .normal | .ret => match outL (bx.map (·.1)) us' (resRaw T env rs), outBx (bx.map (·.1)) us' env with
      | some l, some bx' => usOK us' env = true ∧ Q (packR l) bx' (outRw us' env)
      | _, _ => False
    | _ => False
def RunsM (P : Program) (T : Ty) (nt : Nat) (code : Code) (rs : List ResultVar) (bx : List (Nat × BoxC)) (us : List (Nat × Nat)) (ds : List D) (Q : D → List (Nat × BoxC) → Prop) (us' : List (Nat × Nat)) : Prop :=
  ds.length ≤ nt ∧ (us'.all fun p => !Nat.ble bigS p.1) = true ∧ fE { entry nt ds with bx := bx, us := us } fun env => ev P T code env fun e env => match e with
    | .normal | .ret => match outL (bx.map (·.1)) us' (resRaw T env rs), outBx (bx.map (·.1)) us' env with
      | some l, some bx' => usOK us' env = true ∧ Q (packR l) bx'
      | _, _ => False
    | _ => False

/-- What an iterator's code yields, of what is captured. -/
def Yields (P : Program) (T : Ty) (nt : Nat) (code : Code) (caps : List D) (xs : List (List D)) : Prop :=
  caps.length + 1 ≤ nt ∧ ∀ l : Nat, fE { entry nt (.yld l :: caps) with ys := some (l, xs) } fun env => ev P T code env fun e env => match e with
    | .normal | .ret => match env.ys with
      | some (_, _ :: _) => False
      | _ => True
    | _ => False

end Go.Proofs.YtnooelecdbbfkaaGreatDoor.Fw

/- Operations and calls, as steps of a function's code. -/
namespace Go.Proofs.YtnooelecdbbfkaaGreatDoor.Fw
open Go Go.RowKit
set_option linter.unusedSectionVars false
variable [Inhabited GLT]

/-- No fence, but what kind of frame it is. -/
def Fr (r : Option Nat) : Fence := { Fence.wide with round := r }

theorem fr_calls {r : Option Nat} {n : Nat} {P : Program} {f : FuncId} {args : Array Value} {w : World} {R : Ending → World → Prop} : CallsIn (Fr r) n P f args w R ↔ Calls P f args w R :=
  (show CallsIn (Fr r) n P f args w R ↔ CallsIn Fence.wide n P f args w R from Iff.rfl).trans callsIn_wide

section
variable {P : Program} {T : Ty} {c : Ctx} {env : Env} {a : Act} {w : World} {rr : Option Nat} {n : Nat}

theorem wpIn_of_run {o : Oper} (hd : ∀ c, o.op ≠ .defer c) {v : Value} {w' : World} (h : (execOp a.eval o).run P w = .ok (.value v) w') {K : Act → World → Prop} {Q : Exit → Act → World → Prop} (hk : K (a.put o.dst v) w') : o.wpIn (Fr rr) n P a w K Q :=
  ⟨fun _ _ => trivial, by rw [Oper.semAt_eq _ _ _ hd, h]; exact hk⟩

theorem wpIn_of_skip {o : Oper} (hd : ∀ c, o.op ≠ .defer c) {w' : World} (h : (execOp a.eval o).run P w = .ok .skip w') {K : Act → World → Prop} {Q : Exit → Act → World → Prop} (hk : K (a.put o.dst undef) w') : o.wpIn (Fr rr) n P a w K Q :=
  ⟨fun _ _ => trivial, by rw [Oper.semAt_eq _ _ _ hd, h]; exact hk⟩

/-- A call that changes nothing of what there was. -/
theorem St.call (h : St c env a w) {I' : Im} {w' : World} (him : ∀ b o, c.I b o → I' b o) (hnew : ∀ b o, I' b o → c.I b o ∨ w.heap.size ≤ b) (hlt : ∀ b o, I' b o → b < w'.heap.size) (hb : Below w.heap.size w w') :
    St { c with I := I' } env a w' ∧ Step c env w { c with I := I' } env w' := by
  have hh : ∀ k, k < w.heap.size → w'.heap[k]? = w.heap[k]? := hb.block
  have hI : ∀ g, g < w.heap.size → ∀ o, I' g o → c.I g o := fun g hg o ho => (hnew g o ho).resolve_right (by omega)
  have S : Step c env w { c with I := I' } env w' :=
    .of (⟨him, fun x u hi hu => (World.cell?_of_block (hh _ (h.im _ _ hi))).trans hu, fun r es k hi hr => (hh _ (h.im _ _ hi)).trans hr⟩) (fun _ h => ⟨h, rfl⟩) (fun _ h => ⟨h, rfl⟩) (fun _ _ h => h) (fun _ h => h) (fun st hl _ => ⟨rfl, fun g hg => ⟨hh g (h.ownAbove st g hl hg).2.1, hI g (h.ownAbove st g hl hg).2.1⟩⟩)
  refine ⟨⟨h.nt, h.df, fun t d hd => S.repT (h.tm t d hd), fun t d hd => (h.wt t d hd).step S, fun s b hs => ?_, fun s m hs => ?_, h.inj, h.above, fun s hs => Nat.lt_of_lt_of_le (h.lt s hs) hb.size, h.ownInj,
    fun st g hl hg => ⟨(h.ownAbove st g hl hg).1, Nat.lt_of_lt_of_le (h.ownAbove st g hl hg).2.1 hb.size, (h.ownAbove st g hl hg).2.2⟩, hlt, h.im0.trans S.keeps, fun b o hi => ?_, h.base.below hb, ⟨h.gh.1, S.fix h.gh.2⟩, h.rows S⟩, S⟩
  · have hl := h.lt s (.inl (by rw [hs]; rfl))
    exact (h.bx s b hs).step S rfl (hh _ hl) (hI _ hl)
  · have hl := h.lt s (.inr (by rw [hs]; rfl))
    exact (h.mp s m hs).step S rfl (hh _ hl) (hI _ hl)
  · rcases hnew b o hi with hi | hi
    · exact h.imNew b o hi
    · exact .inr (h.base.new hi)

/-- The blocks that a state has for its own. -/
def ownB (c : Ctx) (env : Env) (k : Nat) : Prop := (∃ s, env.blk s ∧ c.ρ s = k) ∨ ∃ st, env.live st ∧ c.σ st = some k

theorem FixAll.world {r : Root} {ρ : Nat → Nat} {σ : Nat → Option Nat} {w w' : World} (h : FixAll r ρ σ env w) (same : ∀ st g, env.live st → σ st = some g → w'.heap[g]? = w.heap[g]?) : FixAll r ρ σ env w' :=
  ⟨h.1, fun st o ho => ⟨(h.2 st o ho).1, fun hl => by
    have h1 := (h.2 st o ho).2 hl
    cases o with
    | none => exact h1
    | some p =>
      obtain ⟨h1, cur, u, fr, h2, h3⟩ := h1
      exact ⟨h1, cur, u, fr, (same st p.1 hl h1).trans h2, h3⟩⟩⟩

/-- The world moves on, elsewhere; what is known of it is laid down anew. -/
theorem St.move (h : St c env a w) {I' I0' : Im} {w' : World} {r' : Root} {ys' : Option (Nat × List (List D))} {df' : List Deferred} (hsz : w.heap.size ≤ w'.heap.size) (hsame : ∀ k, ownB c env k → w'.heap[k]? = w.heap[k]?) (hK : Keeps c.I I' w w')
    (hI : ∀ b o, I' b o → c.I b o ∨ ¬ ownB c env b) (hlt : ∀ b o, I' b o → b < w'.heap.size) (hoff : ∀ k, ownB c env k → r'.off k) (hbase : BaseF r' w') (him0 : Keeps I0' I' r'.wd w') (hnew : ∀ b o, I' b o → I0' b o ∨ r'.off b)
    (hdf : df' = r'.mks.map markOf ++ r'.tl) (hgh : r'.G ys' r'.far r'.wd I0' ∧ FixAll r' c.ρ c.σ env w') :
    St { c with I := I', w0 := r', I0 := I0', df := df' } { env with ys := ys' } { a with defers := df' } w' ∧ Step c env w { c with I := I', w0 := r', I0 := I0', df := df' } { env with ys := ys' } w' := by
  have S : Step c env w { c with I := I', w0 := r', I0 := I0', df := df' } { env with ys := ys' } w' :=
    .of (hK) (fun _ h => ⟨h, rfl⟩) (fun _ h => ⟨h, rfl⟩) (fun _ _ h => h) (fun _ h => h) (fun st hl _ => ⟨rfl, fun g hg => ⟨hsame g (.inr ⟨st, hl, hg⟩), fun o ho => (hI g o ho).resolve_right fun hn => hn (.inr ⟨st, hl, hg⟩)⟩⟩)
  refine ⟨⟨h.nt, ⟨rfl, hdf⟩, fun t d hd => S.repT (h.tm t d hd), fun t d hd => (h.wt t d hd).step S, fun s b hs => ?_, fun s m hs => ?_, h.inj, fun s hs => hoff _ (.inl ⟨s, hs, rfl⟩), fun s hs => Nat.lt_of_lt_of_le (h.lt s hs) hsz, h.ownInj,
    fun st g hl hg => ⟨hoff _ (.inr ⟨st, hl, hg⟩), Nat.lt_of_lt_of_le (h.ownAbove st g hl hg).2.1 hsz, (h.ownAbove st g hl hg).2.2⟩, hlt, him0, hnew, hbase, hgh, h.rows S⟩, S⟩
  · have hb : ownB c env (c.ρ s) := .inl ⟨s, .inl (by rw [show look s env.bx = some b from hs]; rfl), rfl⟩
    exact (h.bx s b hs).step S rfl (hsame _ hb) fun o ho => (hI _ o ho).resolve_right fun hn => hn hb
  · have hb : ownB c env (c.ρ s) := .inl ⟨s, .inr (by rw [show look s env.mp = some m from hs]; rfl), rfl⟩
    exact (h.mp s m hs).step S rfl (hsame _ hb) fun o ho => (hI _ o ho).resolve_right fun hn => hn hb

/-- A context behind code that may have yielded. -/
structure Ctx.Grow (c c' : Ctx) : Prop where
  G : c'.w0.G = c.w0.G
  lp : c'.w0.lp = c.w0.lp
  fix : c'.w0.fix = c.w0.fix
  fixr : c'.w0.fixr = c.w0.fixr
  tl : c'.w0.tl = c.w0.tl
  mks : c.w0.lp.isSome = true → c'.w0.mks = c.w0.mks
theorem Ctx.Grow.refl (c : Ctx) : c.Grow c := ⟨rfl, rfl, rfl, rfl, rfl, fun _ => rfl⟩
theorem Ctx.Grow.trans {c c' c'' : Ctx} (h : c.Grow c') (k : c'.Grow c'') : c.Grow c'' := ⟨k.G.trans h.G, k.lp.trans h.lp, k.fix.trans h.fix, k.fixr.trans h.fixr, k.tl.trans h.tl, fun x => (k.mks (by rw [h.lp]; exact x)).trans (h.mks x)⟩
theorem Ctx.Next.grow {c c' : Ctx} (h : c.Next c') : c.Grow c' := ⟨by rw [h.w0], by rw [h.w0], by rw [h.w0], by rw [h.w0], by rw [h.w0], fun _ => by rw [h.w0]⟩

/-- What a yield does to what is known. -/
def GYield (P : Program) (r : Root) : Prop :=
  (r.lp = none ∨ ∀ ys far wd I0, r.G ys far wd I0 → ys = none) ∧
  (∀ (l : Nat) (x : List D) (rest : List (List D)) (far : Nat → Prop) (wd : World) (I0 I : Im) (W : World) (own : Nat → Prop) (vs : List Value) (n : Nat),
    r.G (some (l, x :: rest)) far wd I0 → W.os = wd.os → W.tape = wd.tape → W.output = wd.output → wd.heap.size ≤ W.heap.size → (∀ k, far k → W.heap[k]? = wd.heap[k]?) →
    Keeps I0 I wd W → (∀ b o, I b o → I0 b o ∨ ¬ far b) → (∀ b o, I b o → b < W.heap.size) → (∀ k, own k → k < W.heap.size ∧ ¬ far k) → RepL I W x vs → x.all D.isVal = true →
    YieldAt Fence.wide n P l ⟨vs⟩ W fun e W' => ItBack own I W W' ∧ ((e = .returned (.bool true) ∧ r.G (some (l, rest)) (fun k => k < W'.heap.size ∧ ¬ own k) W' I) ∨ (e = .returned (.bool false) ∧ r.G none (fun k => k < W'.heap.size ∧ ¬ own k) W' I))) ∧
  ∀ ys far wd I0, r.G ys far wd I0 → GlobW P I0 wd
theorem GYield.glob {c : Ctx} {env : Env} {a : Act} {w : World} (h : GYield P c.w0) (s : St c env a w) : GlobW P c.I w := (h.2.2 _ _ _ _ s.gh.1).keeps s.im0
theorem GYield.grow {c c' : Ctx} (h : GYield P c.w0) (k : c.Grow c') : GYield P c'.w0 := by
  unfold GYield at h ⊢
  rw [k.G, k.lp]; exact h

theorem ownB_lt (h : St c env a w) {k : Nat} (hk : ownB c env k) : k < w.heap.size := by
  rcases hk with ⟨s, hs, rfl⟩ | ⟨st, hl, hg⟩
  · exact h.lt s hs
  · exact (h.ownAbove st k hl hg).2.1
theorem ownB_off (h : St c env a w) {k : Nat} (hk : ownB c env k) : c.w0.off k := by
  rcases hk with ⟨s, hs, rfl⟩ | ⟨st, hl, hg⟩
  · exact h.above s hs
  · exact (h.ownAbove st k hl hg).1

theorem clo_vals (h : St c env a w) {mp : List (Nat × MapC)} : ∀ {ds ds' : List D} {vs : List Value}, All2 (RepT c env w) ds vs → cloL mp ds = some ds' → (∀ d ∈ ds, ∀ s ∈ cloM d, ∀ m, look s mp = some m → ∃ m', look s env.mp = some m' ∧ m'.ks = m.ks ∧ m'.vs = m.vs ∧ m'.frozen = true) →
    All2 (Rep c.I w) ds' vs ∧ ds'.all D.isVal = true
  | [], ds', vs, hr, hc, _ => by simp only [cloL, Option.some.injEq] at hc; subst hc; cases vs <;> first | exact ⟨trivial, rfl⟩ | exact hr.elim
  | d :: ds, ds', [], hr, _, _ => hr.elim
  | d :: ds, ds', v :: vs, hr, hc, hm => by
    simp only [cloL] at hc
    cases h1 : clo mp d with
    | none => rw [h1] at hc; cases hc
    | some d' =>
      cases h2 : cloL mp ds with
      | none => rw [h1, h2] at hc; cases hc
      | some es =>
        rw [h1, h2] at hc
        simp only [Option.some.injEq] at hc; subst hc
        have hv : RepV c env w d v := by
          have := hr.1
          cases d <;> first | exact this | (simp only [clo] at h1; cases h1)
        obtain ⟨i1, i2⟩ := clo_val h hv h1 (fun s hs => hm d (by simp) s hs)
        obtain ⟨i3, i4⟩ := clo_vals h hr.2 h2 (fun x hx => hm x (by simp [hx]))
        exact ⟨⟨i1, i3⟩, by simp [i2, i4]⟩

theorem not_defer_opV {v : Operand → D} {pk : Operand → Bool → Operand → D} {bx : List (Nat × BoxC)} {mp : List (Nat × MapC)} {rw : List (Nat × RowC)} {dst : Nat} {op : Op} {r : Res} (h : opV T v pk bx mp rw dst op = some r) : ∀ c, op ≠ .defer c := by
  intro c e; subst e; simp [opV] at h

/-- A type assertion, or a method: what comes of it. -/
theorem else_sound (h : St c env a w) (hgl : GlobW P c.I w) {g : Option (Nat × Bool)} (hg : GOK a g) {ρ : Operand → D} (hρ : ∀ x, RepX c env w a.tmps (ρ x) (a.eval x)) {o : Oper} {dst : Nat} (hdst : o.dst = some dst) {gc : Prop} (hgc : gc) {K0 : Res → Prop} (hd : elseK P g ρ o.op gc K0) :
    ∃ r, K0 r ∧ ∀ env1 d, memR env dst r = some (env1, d) → ∀ (K : Act → World → Prop) (Q : Exit → Act → World → Prop), (∀ v w' c', c.Next c' → St c' env1 a w' → RepT c' env1 w' d v → K (a.put (some dst) v) w') → o.wpIn (Fr rr) n P a w K Q := by
  obtain ⟨odst, op, ty, pos, after, guard⟩ := o
  have hdst : odst = some dst := hdst
  subst hdst
  have hd : elseK P g ρ op gc K0 := hd
  have plain : ∀ {d0 d : D} {env1 : Env}, memR env dst { d := d0 } = some (env1, d) → env1 = env ∧ d = d0 := fun {d0 d env1} hm => by
    simp only [memR, frzM, frzB] at hm
    have := Option.some.inj hm
    exact ⟨(Prod.mk.inj this).1.symm, (Prod.mk.inj this).2.symm⟩
  unfold elseK at hd
  cases he : elseOf P g ρ op with
  | none => rw [he] at hd; exact (deadK_no hd hgc).elim
  | some R =>
  rw [he] at hd
  obtain ⟨r, h1, h2⟩ := hd
  have hR := h1 hgc
  refine ⟨_, h2, fun env1 d hm K Q hK => ?_⟩
  obtain ⟨rfl, rfl⟩ := plain hm
  cases op <;> first | (cases he; done) | skip
  case typeAssert x xt asserted comma =>
    cases he
    obtain ⟨u, hrun, hrep⟩ := hR c _ w _ (repX_unw hg (hρ x))
    exact wpIn_of_run (fun c e => by cases e) (v := u) (w' := w) (by simp [execOp, hrun]) (hK u w c (.refl c) h hrep)
  case call cl =>
    obtain ⟨callee, args, argTypes⟩ := cl
    cases callee <;> first | (cases he; done) | skip
    rename_i x name
    obtain ⟨l⟩ := args
    cases l with
    | cons y l => cases he
    | nil =>
      cases he
      obtain ⟨t, y, f, hdx, ⟨⟨fn, hfn, hname, hbody⟩, hcall⟩, hmeth⟩ := hR
      have hrx := repX_unw hg (hρ x)
      rw [hdx] at hrx
      obtain ⟨v, hv, hrep⟩ : ∃ v, a.eval x = .iface t v ∧ Rep c.I w y v := by simpa [RepT, RepV, RepC, Rep] using hrx
      have hC := hcall c.I w [v] ⟨h.im, hgl⟩ ⟨v, [], rfl, hrep, rfl⟩
      have hrun : (execOp a.eval { dst := some dst, op := .call ⟨.invoke x name, #[], argTypes⟩, type := ty, pos, after, guard }).run P w = .ok (.enter f #[v]) w := by
        have hm2 := hmeth c.I w v hrep
        simp only [execOp, resolve, Sem.run_bind, Sem.run_pure, Result.andThen_ok, invoke, hv]
        simpa using hm2
      refine ⟨fun _ _ => trivial, ?_⟩
      rw [Oper.semAt_eq _ _ _ (by intro c e; cases e), hrun]
      refine ⟨fun h => (by cases h), fr_calls.2 (Calls.mono hC fun e w' he => ?_)⟩
      obtain ⟨v, I', rfl, k1, k2, k3, k4, k5⟩ := he
      obtain ⟨h2', S2⟩ := h.call k1 k2 k3 k5
      exact hK v w' { c with I := I' } ⟨rfl, rfl, rfl⟩ h2' (rep_repT k4)

/-- A value operation, or a call: what comes of it. -/
theorem repRow_chunkO {I : Im} {e : TE} (h1 : e.isAgg = false → e.size = 1) {g o : Nat} : ∀ (n i : Nat) (cs : List D), cs.length = n * e.size → (∀ (j : Nat) x, cs[j]? = some x → x.isCell = true ∧ I g (o + i * e.size + j) ∧ ∃ u, w.cell? ⟨g, o + i * e.size + j, none⟩ = some u ∧ Rep I w x u) → RepRow I w e.size (chunk e n cs) ⟨g, o, none⟩ i
  | 0, _, _, _, _ => by simp only [chunk, RepRow]
  | n + 1, i, cs, hl, h => by
    rw [chunk, repRow_cons]
    have hl' : cs.length = n * e.size + e.size := by rw [hl, Nat.add_mul]; omega
    refine ⟨?_, repRow_chunkO h1 n (i + 1) _ (by simp; omega) fun j x hx => ?_⟩
    · rw [addr_add_mk]
      cases hag : e.isAgg with
      | true =>
        rw [cond_true]
        refine ⟨by simp [D.cells]; omega, ?_⟩
        simp only [RepAt]
        refine repCs_of fun j x hx => ?_
        rw [Nat.zero_add]
        refine h j x ?_
        rw [List.getElem?_take] at hx
        split at hx
        · exact hx
        · cases hx
      | false =>
        rw [cond_false]
        have hs := h1 hag
        have : cs[0]? = some (cs.headD .undef) := by cases cs <;> first | (simp at hl'; omega) | rfl
        have h0 := h 0 _ this
        cases hd : cs.headD .undef <;> rw [hd] at h0 <;> first | (cases h0.1; done) | exact ⟨by simp [D.cells, hs], h0⟩
    · have := h (e.size + j) x (by rw [List.getElem?_drop] at hx; exact hx)
      rw [show o + (i + 1) * e.size + j = o + i * e.size + (e.size + j) from by rw [Nat.add_mul]; omega]; exact this
/-- A part of a local array that changes no more. -/
theorem rep_lsl (hT : TyOK P T) (h : St c env a w) {s : Nat} {b : BoxC} (hb : look s env.bx = some b) (hf : b.frozen = true) {off n u cap : Nat} {eu : TE} (hu : T u = some eu) {cs : List D} (hc : cloL [] b.cells = some cs)
    (hl : off + n * eu.size ≤ cs.length) (hn : n ≤ cap) : Rep c.I w (.sl 0 eu.size (chunk eu n (sliceD cs off (off + n * eu.size)))) (.slice (some ⟨c.ρ s, off, none⟩) n cap) := by
  obtain ⟨vs, e, h1, h2, h3, _⟩ := h.bx s b hb
  obtain ⟨g1, g2⟩ := clo_cells h h2 hc (fun s' _ m hm => by cases hm)
  have hcell : ∀ (j : Nat) x, cs[j]? = some x → x.isCell = true ∧ c.I (c.ρ s) j ∧ ∃ u, w.cell? ⟨c.ρ s, j, none⟩ = some u ∧ Rep c.I w x u := by
    intro j x hx
    obtain ⟨v, hv, hr⟩ := g1.get j x hx
    refine ⟨List.all_eq_true.1 g2 x (List.mem_of_getElem? hx), h3 hf j (List.getElem?_eq_some_iff.1 hv).1, v, ?_, hr⟩
    rw [cell_of_row w _ j ⟨vs⟩ e (0, 0) h1]; simpa using hv
  have hsl : (sliceD cs off (off + n * eu.size)).length = n * eu.size := by simp [sliceD]; omega
  refine ⟨rfl, .inr ⟨⟨c.ρ s, off, none⟩, cap, by rw [chunk_length], by rw [chunk_length]; exact hn, ?_⟩⟩
  refine repRow_chunkO (hT u eu hu).one n 0 _ hsl fun j x hx => ?_
  have hx' : cs[off + j]? = some x := by
    simp only [sliceD, List.getElem?_drop, List.getElem?_take] at hx
    split at hx
    · exact hx
    · cases hx
  rw [Nat.zero_mul, Nat.add_zero]
  exact hcell _ x hx'
/-- Arguments, once the local arrays among them change no more. -/
theorem cloA_vals (hT : TyOK P T) (h : St c env a w) {bx : List (Nat × BoxC)} {mp : List (Nat × MapC)} {F : List Nat} (hb : ∀ s b, look s bx = some b → (b.frozen = true ∨ s ∈ F) → ∃ b', look s env.bx = some b' ∧ b'.cells = b.cells ∧ b'.frozen = true) :
    ∀ {ts : List Nat} {ds ds' : List D} {fz : List Nat} {vs : List Value}, All2 (RepT c env w) ds vs → cloA T bx mp ts ds = some (ds', fz) → (∀ s, s ∈ fz → s ∈ F) →
    (∀ d ∈ ds, ∀ s ∈ cloM d, ∀ m, look s mp = some m → ∃ m', look s env.mp = some m' ∧ m'.ks = m.ks ∧ m'.vs = m.vs ∧ m'.frozen = true) → All2 (Rep c.I w) ds' vs
  | ts, [], ds', fz, vs, hr, hc, _, _ => by
    simp only [cloA, Option.some.injEq, Prod.mk.injEq] at hc
    obtain ⟨rfl, rfl⟩ := hc
    cases vs <;> first | exact trivial | exact hr.elim
  | ts, d :: ds, ds', fz, [], hr, _, _, _ => hr.elim
  | ts, d :: ds, ds', fz, v :: vs, hr, hc, hF, hm => by
    simp only [cloA] at hc
    cases h1 : cloX T bx mp ts.head? d with
    | none => rw [h1] at hc; cases hc
    | some q =>
      obtain ⟨x, f⟩ := q
      cases h2 : cloA T bx mp ts.tail ds with
      | none => rw [h1, h2] at hc; cases hc
      | some q2 =>
        obtain ⟨xs, fs⟩ := q2
        rw [h1, h2] at hc
        simp only [Option.some.injEq, Prod.mk.injEq] at hc
        obtain ⟨rfl, rfl⟩ := hc
        refine ⟨?_, cloA_vals hT h hb hr.2 h2 (fun s hs => hF s (List.mem_append_right _ hs)) fun d hd => hm d (List.mem_cons_of_mem _ hd)⟩
        have gen : ∀ d0, d0 = d → ((clo mp d0).map fun x => (x, ([] : List Nat))) = some (x, f) → Rep c.I w x v := by
          rintro d0 rfl h1
          cases hcd : clo mp d0 with
          | none => rw [hcd] at h1; cases h1
          | some x' =>
            rw [hcd] at h1
            simp only [Option.map_some, Option.some.injEq, Prod.mk.injEq] at h1
            obtain ⟨rfl, _⟩ := h1
            have hv1 : All2 (RepT c env w) [d0] [v] := ⟨hr.1, trivial⟩
            have hc1 : cloL mp [d0] = some [x'] := by simp only [cloL, hcd]
            exact (clo_vals h hv1 hc1 (fun d hd => by
              rw [List.mem_singleton.1 hd]; exact hm d0 (List.mem_cons_self ..))).1.1
        cases d
        case lsl s off n =>
          simp only [cloX] at h1
          cases ht : ts.head? with
          | none => rw [ht] at h1; cases h1
          | some t =>
          rw [ht] at h1
          simp only at h1
          cases he : elemTy T t with
          | none => rw [he] at h1; cases h1
          | some p =>
          obtain ⟨u, eu⟩ := p
          rw [he] at h1
          simp only at h1
          cases hl : look s bx with
          | none => rw [hl] at h1; cases h1
          | some b =>
          rw [hl] at h1
          simp only at h1
          cases hcl : cloL [] b.cells with
          | none => rw [hcl] at h1; cases h1
          | some cs =>
          rw [hcl] at h1
          simp only at h1
          cases hble : Nat.ble (off + n * eu.size) cs.length with
          | false => rw [hble] at h1; cases h1
          | true =>
          rw [hble] at h1
          simp only [cond_true, Option.some.injEq, Prod.mk.injEq] at h1
          obtain ⟨rfl, rfl⟩ := h1
          obtain ⟨hu, _⟩ := elemTy_spec' hT he
          obtain ⟨b', k1, k2, k3⟩ := hb s b hl (by
            cases hfr : b.frozen with
            | true => exact .inl rfl
            | false => exact .inr (hF s (by rw [hfr]; simp)))
          have hlv : (look s env.bx).isSome = true ∧ ∃ cap, v = .slice (some ⟨c.ρ s, off, none⟩) n cap ∧ n ≤ cap := hr.1
          obtain ⟨_, cap, rfl, hn⟩ := hlv
          exact rep_lsl hT h k1 k3 hu (by rw [k2]; exact hcl) (Nat.le_of_ble_eq_true hble) hn
        all_goals exact gen _ rfl (by simpa only [cloX] using h1)
theorem does_sound (hT : TyOK P T) (h : St c env a w) (hgl : GlobW P c.I w) {g : Option (Nat × Bool)} (hg : GOK a g) {ρ : Operand → D} (hρ : ∀ x, RepX c env w a.tmps (ρ x) (a.eval x)) {bx0 : List (Nat × BoxC)} (hbx : ∀ s b, look s bx0 = some b → look s env.bx = some b) {rw0 : List (Nat × RowC)} (hrw : ∀ st r, look st rw0 = some r → look st env.rows = some r) {o : Oper} {dst : Nat} (hdst : o.dst = some dst) {gc : Prop} (hgc : gc) {K0 : Res → Prop} (hd : doesP P T g ρ bx0 env.mp rw0 dst o.op gc K0) :
    ∃ r, K0 r ∧ ∀ env1 d, memR env dst r = some (env1, d) → ∀ (K : Act → World → Prop) (Q : Exit → Act → World → Prop), (∀ v w' c', c.Next c' → St c' env1 a w' → RepT c' env1 w' d v → K (a.put (some dst) v) w') → o.wpIn (Fr rr) n P a w K Q := by
  unfold doesP at hd
  cases hcf : callOf o.op with
  | none =>
    rw [hcf] at hd
    simp only at hd
    cases hr : opR T g ρ bx0 env.mp rw0 dst o.op with
    | none => rw [hr] at hd; exact else_sound h hgl hg hρ hdst hgc hd
    | some r =>
    rw [hr] at hd
    obtain ⟨hs, hk⟩ := sideB_iff.1 hd
    refine ⟨r, hk, fun env1 d hm K Q hK => ?_⟩
    obtain ⟨v, w', c', h1, h2, h3, h4⟩ := opR_sound hT h hg hρ hbx hrw hr (hs hgc) hm
    exact wpIn_of_run (not_defer_opV hr) h1 (by rw [hdst]; exact hK v w' c' h2 h3 h4)
  | some cl0 =>
    rw [hcf] at hd
    obtain ⟨odst, op, ty, pos, after, guard⟩ := o
    unfold callOf at hcf
    simp only at hcf
    cases op <;> (try simp only at hcf) <;> first | (cases hcf; done) | skip
    rename_i cl
    obtain ⟨callee, args, argTypes⟩ := cl
    cases callee <;> (try simp only at hcf) <;> first | (cases hcf; done) | skip
    rename_i f
    simp only [Option.some.injEq] at hcf
    subst hcf
    simp only [callD] at hd
    have hv : ∀ x, RepT c env w (unw g (ρ x)) (a.eval x) := fun x => repX_unw hg (hρ x)
    have hf := hv f
    cases hfd : unw g (ρ f) <;> rw [hfd] at hd hf <;> (try simp only at hd) <;> first | exact (deadK_no hd hgc).elim | skip
    rename_i fid caps
    simp only [RepT, RepV, RepC, Rep] at hf
    obtain ⟨cvs, hfv, hcaps⟩ := hf
    cases hcl : cloA T bx0 env.mp argTypes.toList (args.toList.map fun x => unw g (ρ x)) with
    | none => rw [hcl] at hd; exact (deadK_no hd hgc).elim
    | some q =>
      obtain ⟨ds, fz⟩ := q
      rw [hcl] at hd
      obtain ⟨d, hcall, hk⟩ := hd
      obtain ⟨⟨fn, hfn, hname, hbody⟩, hcall⟩ := hcall hgc
      refine ⟨_, hk, fun env1 d1 hm K Q hK => ?_⟩
      simp only [memR] at hm
      cases hfz : frzM env.mp ((args.toList.map fun x => unw g (ρ x)).flatMap cloM) with
      | none => rw [hfz] at hm; cases hm
      | some mp =>
        cases hfb : frzB env.bx fz with
        | none => rw [hfz, hfb] at hm; cases hm
        | some bx =>
        rw [hfz, hfb] at hm
        simp only [Option.some.injEq, Prod.mk.injEq] at hm
        obtain ⟨rfl, rfl⟩ := hm
        obtain ⟨c0, n0, h0, S0, hm1⟩ := h.frzM hfz
        obtain ⟨c1, n01, h1, S01, hb1⟩ := h0.frzB (ss := fz) (bx := bx) hfb
        have S1 := S0.trans S01
        have n1 := n0.trans n01
        have hargs : All2 (RepT c env w) (args.toList.map fun x => unw g (ρ x)) (args.toList.map a.eval) := all2_map hv args.toList
        have g1 := cloA_vals hT h1 (bx := bx0) (F := fz) (fun s b hl hs => by
          obtain ⟨b', k1, k2, _, k4⟩ := hb1 s b (hbx s b hl)
          exact ⟨b', k1, k2, k4 hs⟩) (hargs.mono fun _ _ => S1.repT) hcl (fun _ hs => hs) (fun x hx s hs m hl => by
          obtain ⟨m', k1, k2, k3, k4⟩ := hm1 s m hl
          exact ⟨m', k1, k2, k3, k4 (.inr (List.mem_flatMap.2 ⟨x, hx, hs⟩))⟩)
        have hall : RepL c1.I w (ds ++ caps) (args.toList.map a.eval ++ cvs) := all2_repL.2 (g1.append (all2_repL.1 (RepL.keeps S1.keeps _ _ hcaps)))
        have hC := hcall c1.I w _ ⟨h1.im, hgl.keeps S1.keeps⟩ hall
        have hrun : (execOp a.eval { dst := odst, op := .call ⟨.value f, args, argTypes⟩, type := ty, pos, after, guard }).run P w = .ok (.enter fid ⟨args.toList.map a.eval ++ cvs⟩) w := by
          have e1 : args.map a.eval ++ (⟨cvs⟩ : Array Value) = ⟨args.toList.map a.eval ++ cvs⟩ := by apply Array.ext'; simp
          simp only [execOp, resolve, hfv, Deferred.ofValue, Sem.run_bind, Sem.run_pure, Result.andThen_ok, invoke, callFunc]
          rw [← e1]
          have hb : fn.body ≠ none := fun e => by rw [e] at hbody; cases hbody
          simp [hfn, hname, hb]
        refine ⟨fun _ _ => trivial, ?_⟩
        rw [Oper.semAt_eq _ _ _ (by intro c e; cases e), hrun]
        refine ⟨fun h => (by cases h), fr_calls.2 (Calls.mono hC fun e w' he => ?_)⟩
        obtain ⟨v, I', rfl, k1, k2, k3, k4, k5⟩ := he
        obtain ⟨h2, S2⟩ := h1.call k1 k2 k3 k5
        have hdst : odst = some dst := hdst
        subst hdst
        exact hK v w' { c1 with I := I' } (n1.trans ⟨rfl, rfl, rfl⟩) h2 (rep_repT k4)
end

end Go.Proofs.YtnooelecdbbfkaaGreatDoor.Fw

/- Calls that are handed rows and variables for their own: that they are sound. -/
namespace Go.Proofs.YtnooelecdbbfkaaGreatDoor.Fw
open Go Go.RowKit
set_option linter.unusedSectionVars false
variable [Inhabited GLT]

theorem look_allSome {β : Type} (F : Nat → Option β) : ∀ {bs : List Nat} {r : List (Nat × β)}, allSome (bs.map fun s => (F s).map fun b => (s, b)) = some r → ∀ s, look s r = if s ∈ bs then F s else none
  | [], r, h, s => by simp only [List.map_nil, allSome, Option.some.injEq] at h; subst h; simp [look]
  | x :: bs, r, h, s => by
    simp only [List.map_cons] at h
    cases hx : F x with
    | none => rw [hx] at h; simp [allSome] at h
    | some b =>
      rw [hx] at h
      simp only [Option.map_some, allSome] at h
      cases hr : allSome (bs.map fun s => (F s).map fun b => (s, b)) with
      | none => rw [hr] at h; cases h
      | some r2 =>
        rw [hr] at h
        simp only [Option.map_some, Option.some.injEq] at h; subst h
        rw [look_cons, look_allSome F hr s]
        by_cases e : x = s
        · subst e; simp [hx]
        · rw [if_neg e]
          by_cases hs : s ∈ bs
          · simp [hs]
          · rw [if_neg hs, if_neg]
            intro hm
            rcases List.mem_cons.1 hm with rfl | hm
            · exact e rfl
            · exact hs hm

theorem distinct_iff : ∀ {l : List Nat}, distinct l = true ↔ l.Nodup
  | [] => by simp [distinct]
  | x :: l => by
    simp only [distinct, Bool.and_eq_true, Bool.not_eq_true', List.contains_eq_mem, decide_eq_false_iff_not, distinct_iff, List.nodup_cons]

theorem back_mem {x k : Nat} : ∀ {l : List (Nat × Nat)}, back x l = some k → (k, x) ∈ l
  | [], h => by cases h
  | (k', s) :: l, h => by
    simp only [back] at h
    cases hb : Nat.beq s x with
    | true =>
      rw [hb, cond_true, Option.some.injEq] at h
      have := nbeq.1 hb
      subst this; subst h; simp
    | false => rw [hb, cond_false] at h; exact List.mem_cons_of_mem _ (back_mem h)
theorem look_of_mem {α : Type} {k : Nat} {x : α} : ∀ {l : List (Nat × α)}, (l.map (·.1)).Nodup → (k, x) ∈ l → look k l = some x
  | [], _, h => by cases h
  | (k', y) :: l, hn, h => by
    rw [look_cons]
    simp only [List.map_cons, List.nodup_cons] at hn
    rcases List.mem_cons.1 h with h | h
    · cases h; rw [if_pos rfl]
    · rw [if_neg]
      · exact look_of_mem hn.2 h
      · rintro rfl; exact hn.1 (List.mem_map.2 ⟨_, h, rfl⟩)
theorem mem_of_look {α : Type} {k : Nat} {x : α} : ∀ {l : List (Nat × α)}, look k l = some x → (k, x) ∈ l
  | [], h => by cases h
  | (k', y) :: l, h => by
    rw [look_cons] at h
    split at h
    · rename_i e; cases h; subst e; simp
    · exact List.mem_cons_of_mem _ (mem_of_look h)
theorem back_of_mem {k x : Nat} : ∀ {l : List (Nat × Nat)}, (l.map (·.2)).Nodup → (k, x) ∈ l → back x l = some k
  | [], _, h => by cases h
  | (k', y) :: l, hn, h => by
    simp only [back]
    simp only [List.map_cons, List.nodup_cons] at hn
    rcases List.mem_cons.1 h with h | h
    · cases h; rw [nbeq.2 rfl]; rfl
    · rw [nbeq_f.2, cond_false]
      · exact back_of_mem hn.2 h
      · rintro rfl; exact hn.1 (List.mem_map.2 ⟨_, h, rfl⟩)
theorem look_append {α : Type} {k : Nat} : ∀ {l m : List (Nat × α)}, look k (l ++ m) = match look k l with | some x => some x | none => look k m
  | [], m => rfl
  | (k', y) :: l, m => by
    rw [List.cons_append, look_cons, look_cons]
    split
    · rfl
    · exact look_append

/-- The callee's names. -/
def fctx (c : Ctx) (ren rst : List (Nat × Nat)) : Ctx := { c with ρ := fun k => match look k ren with | some s => c.ρ s | none => 0, σ := fun k => match look k rst with | some st => c.σ st | none => none }

section
variable {c : Ctx} {env : Env} {a : Act} {w : World} {ren rst : List (Nat × Nat)}

theorem fmlB_spec {k : Nat} {b : BoxC} (h : fmlB ren rst env k = some b) : ∃ s b0, look k ren = some s ∧ look s env.bx = some b0 ∧ b0.frozen = false ∧ fmlL ren rst b0.cells = some b.cells ∧ b.frozen = false := by
  unfold fmlB at h
  cases h1 : look k ren with
  | none => rw [h1] at h; cases h
  | some s =>
    rw [h1] at h
    simp only at h
    cases h2 : look s env.bx with
    | none => rw [h2] at h; cases h
    | some b0 =>
      rw [h2] at h
      simp only at h
      cases h3 : b0.frozen with
      | true => rw [h3] at h; cases h
      | false =>
        rw [h3, cond_false] at h
        cases h4 : fmlL ren rst b0.cells with
        | none => rw [h4] at h; cases h
        | some cs =>
          rw [h4] at h
          cases h
          exact ⟨s, b0, rfl, h2, h3, h4, rfl⟩
theorem fmlU_spec {k u : Nat} (h : fmlU rst env k = some u) : ∃ st, look k rst = some st ∧ look st env.us = some u ∧ st ∉ env.dd := by
  unfold fmlU at h
  cases h1 : look k rst with
  | none => rw [h1] at h; cases h
  | some st =>
    rw [h1] at h
    simp only at h
    cases h2 : env.dd.contains st with
    | true => rw [h2] at h; cases h
    | false =>
      rw [h2, cond_false] at h
      exact ⟨st, rfl, h, by simpa using h2⟩
theorem fmlBx_look {bx0 : List (Nat × BoxC)} (h : fmlBx ren rst env = some bx0) (k : Nat) : look k bx0 = if k ∈ ren.map (·.1) then fmlB ren rst env k else none := look_allSome (fmlB ren rst env) h k
theorem fmlUs_look {us0 : List (Nat × Nat)} (h : fmlUs rst env = some us0) (k : Nat) : look k us0 = if k ∈ rst.map (·.1) then fmlU rst env k else none := look_allSome (fmlU rst env) h k
theorem fmlRw_look {rw0 : List (Nat × RowC)} (h : fmlRw rst env = some rw0) (k : Nat) : look k rw0 = if k ∈ bigs rst then fmlR rst env k else none := look_allSome (fmlR rst env) h k
theorem fmlR_spec {k : Nat} {r : RowC} (h : fmlR rst env k = some r) : ∃ st, look k rst = some st ∧ look st env.rw = some r := by
  unfold fmlR at h
  cases h1 : look k rst with
  | none => rw [h1] at h; cases h
  | some st => rw [h1] at h; exact ⟨st, rfl, h⟩
theorem mem_bigs {k : Nat} (h : k ∈ bigs rst) : bigS ≤ k ∧ k ∈ rst.map (·.1) := by
  simp only [bigs, List.mem_filter, Nat.ble_eq] at h
  exact ⟨h.2, h.1⟩
theorem allSome_isSome {β : Type} (F : Nat → Option β) : ∀ {l : List Nat} {r : List (Nat × β)}, allSome (l.map fun s => (F s).map fun b => (s, b)) = some r → ∀ s ∈ l, (F s).isSome = true
  | [], _, _, s, hs => by cases hs
  | x :: l, r, h, s, hs => by
    simp only [List.map_cons] at h
    cases hx : F x with
    | none => rw [hx] at h; simp [allSome] at h
    | some b =>
      rw [hx] at h
      simp only [Option.map_some, allSome] at h
      cases hr : allSome (l.map fun s => (F s).map fun b => (s, b)) with
      | none => rw [hr] at h; cases h
      | some r2 =>
        rcases List.mem_cons.1 hs with rfl | hs
        · rw [hx]; rfl
        · exact allSome_isSome F hr s hs
theorem mem_fst {α : Type} {k : Nat} {x : α} {l : List (Nat × α)} (h : (k, x) ∈ l) : k ∈ l.map (·.1) := List.mem_map.2 ⟨_, h, rfl⟩

variable {bx0 : List (Nat × BoxC)} {us0 : List (Nat × Nat)} {rw0 : List (Nat × RowC)} (hb : fmlBx ren rst env = some bx0) (hu : fmlUs rst env = some us0)
  (hn1 : (ren.map (·.1)).Nodup) (hn3 : (rst.map (·.1)).Nodup) (hn5 : ∀ p ∈ rst, 2 ≤ p.1 ∧ 2 ≤ p.2)
include hb hu hn1 hn3 hn5

omit hb hn1 in
theorem fml_row (st k : Nat) (hk : back st rst = some k) : look k us0 = look st env.us ∧ (fctx c ren rst).σ k = c.σ st ∧ st ∉ env.dd ∧ 2 ≤ k := by
  have hm := back_mem hk
  have hl := look_of_mem hn3 hm
  obtain ⟨u, hu'⟩ := Option.isSome_iff_exists.1 (allSome_isSome (fmlU rst env) hu k (mem_fst hm))
  obtain ⟨st', e1, e2, e3⟩ := fmlU_spec hu'
  rw [hl] at e1; cases e1
  refine ⟨?_, by simp [fctx, hl], e3, (hn5 _ hm).1⟩
  rw [fmlUs_look hu, if_pos (mem_fst hm), hu', e2]
theorem fml_cell {d d' : D} {v : Value} (hr : RepC c env w d v) (hf : fml ren rst d = some d') : RepC (fctx c ren rst) (memEnv bx0 us0 rw0) w d' v := by
  have hloc : ∀ s k, back s ren = some k → (look s env.bx).isSome = true → (look k bx0).isSome = true ∧ (fctx c ren rst).ρ k = c.ρ s := by
    intro s k hk _
    have hm := back_mem hk
    have hl := look_of_mem hn1 hm
    refine ⟨?_, by simp [fctx, hl]⟩
    rw [fmlBx_look hb, if_pos (mem_fst hm)]
    exact allSome_isSome (fmlB ren rst env) hb k (mem_fst hm)
  have hrow := fml_row (c := c) (ren := ren) hu hn3 hn5
  cases d <;> simp only [fml] at hf <;> first | (cases hf; done) | skip
  case agg cs => exact hr.elim
  case loc s off =>
    cases hk : back s ren with
    | none => rw [hk] at hf; cases hf
    | some k =>
      rw [hk] at hf; cases hf
      obtain ⟨h1, h2⟩ := hr
      obtain ⟨k1, k2⟩ := hloc s k hk h1
      exact ⟨k1, by rw [k2]; exact h2⟩
  case lsl s off n =>
    cases hk : back s ren with
    | none => rw [hk] at hf; cases hf
    | some k =>
      rw [hk] at hf; cases hf
      obtain ⟨h1, h2⟩ := hr
      obtain ⟨k1, k2⟩ := hloc s k hk h1
      exact ⟨k1, by rw [k2]; exact h2⟩
  case sl st es xs =>
    cases hf
    obtain ⟨h1, h2⟩ := hr
    refine ⟨h1, ?_⟩
    cases hk : back st rst with
    | none =>
      simp only
      cases h1 : Nat.beq st 1 with
      | false => exact .inl rfl
      | true =>
        have := nbeq.1 h1
        subst this
        rcases h2 with h2 | h2 | h2
        · cases h2
        · exact .inr (.inl ⟨rfl, h2.2⟩)
        · exact absurd h2.1 (by omega)
    | some k =>
      simp only
      have hm := back_mem hk
      have hl := look_of_mem hn3 hm
      obtain ⟨g1, g2⟩ := hn5 _ hm
      simp only at g1 g2
      have hus : ∃ u, fmlU rst env k = some u := Option.isSome_iff_exists.1 (allSome_isSome (fmlU rst env) hu k (mem_fst hm))
      obtain ⟨u, hu'⟩ := hus
      obtain ⟨st', e1, e2, e3⟩ := fmlU_spec hu'
      rw [hl] at e1; cases e1
      have hlk : look k us0 = some u := by rw [fmlUs_look hu, if_pos (mem_fst hm)]; exact hu'
      rcases h2 with h2 | h2 | ⟨_, u', hu2, hm0, h2⟩
      · omega
      · omega
      · rw [e2] at hu2; cases hu2
        refine .inr (.inr ⟨g1, u, hlk, hm0, .inr ?_⟩)
        have h2 := h2.resolve_left e3
        have e : (fctx c ren rst).σ k = c.σ st := by simp [fctx, hl]
        rw [e]
        exact h2
  case rsl st es lo n =>
    cases hk : back st rst with
    | none => rw [hk] at hf; cases hf
    | some k =>
      rw [hk] at hf; cases hf
      obtain ⟨h1, h2, h3⟩ := hr
      obtain ⟨e1, e2, e3, _⟩ := hrow st k hk
      refine ⟨e1.trans h1, h2, .inr ?_⟩
      rw [e2]; exact h3.resolve_left e3
  case rptr st es i off =>
    cases hk : back st rst with
    | none => rw [hk] at hf; cases hf
    | some k =>
      rw [hk] at hf; cases hf
      obtain ⟨h1, h2, h3⟩ := hr
      obtain ⟨e1, e2, e3, _⟩ := hrow st k hk
      refine ⟨e1.trans h1, h2, .inr ?_⟩
      rw [e2]; exact h3.resolve_left e3
  all_goals (cases hf; exact hr)
theorem fml_cells : ∀ {ds ds' : List D} {vs : List Value}, All2 (RepC c env w) ds vs → fmlL ren rst ds = some ds' → All2 (RepC (fctx c ren rst) (memEnv bx0 us0 rw0) w) ds' vs
  | [], ds', vs, hr, hf => by simp only [fmlL, Option.some.injEq] at hf; subst hf; cases vs <;> first | trivial | exact hr.elim
  | d :: ds, ds', [], hr, _ => hr.elim
  | d :: ds, ds', v :: vs, hr, hf => by
    simp only [fmlL] at hf
    cases h1 : fml ren rst d with
    | none => rw [h1] at hf; cases hf
    | some d' =>
      cases h2 : fmlL ren rst ds with
      | none => rw [h1, h2] at hf; cases hf
      | some es =>
        rw [h1, h2] at hf; cases hf
        exact ⟨fml_cell hb hu hn1 hn3 hn5 hr.1 h1, fml_cells hr.2 h2⟩
theorem fml_val {d d' : D} {v : Value} (hr : RepT c env w d v) (hf : fml ren rst d = some d') : RepT (fctx c ren rst) (memEnv bx0 us0 rw0) w d' v := by
  cases d <;> first | (cases hf; done) | skip
  case agg cs =>
    simp only [fml] at hf
    cases h1 : fmlL ren rst cs with
    | none => rw [h1] at hf; cases hf
    | some cs' =>
      rw [h1] at hf; cases hf
      obtain ⟨vs, e, hr⟩ := hr
      exact ⟨vs, e, fml_cells hb hu hn1 hn3 hn5 hr h1⟩
  all_goals
    simp only [RepT, RepV] at hr
    have := fml_cell (rw0 := rw0) hb hu hn1 hn3 hn5 hr hf
    simp only [fml] at hf
    first
      | (cases hf; exact this)
      | (cases hk : back _ ren with
        | none => rw [hk] at hf; cases hf
        | some k => rw [hk] at hf; cases hf; rw [hk] at *; exact this)
      | (cases hk : back _ rst with
        | none => rw [hk] at hf; cases hf
        | some k => rw [hk] at hf; cases hf; rw [hk] at *; exact this)
theorem fml_vals : ∀ {ds ds' : List D} {vs : List Value}, All2 (RepT c env w) ds vs → fmlL ren rst ds = some ds' → All2 (RepT (fctx c ren rst) (memEnv bx0 us0 rw0) w) ds' vs
  | [], ds', vs, hr, hf => by simp only [fmlL, Option.some.injEq] at hf; subst hf; cases vs <;> first | trivial | exact hr.elim
  | d :: ds, ds', [], hr, _ => hr.elim
  | d :: ds, ds', v :: vs, hr, hf => by
    simp only [fmlL] at hf
    cases h1 : fml ren rst d with
    | none => rw [h1] at hf; cases hf
    | some d' =>
      cases h2 : fmlL ren rst ds with
      | none => rw [h1, h2] at hf; cases hf
      | some es =>
        rw [h1, h2] at hf; cases hf
        exact ⟨fml_val hb hu hn1 hn3 hn5 hr.1 h1, fml_vals hr.2 h2⟩
/-- What is handed over, as a state has it. -/
theorem St.mem (h : St c env a w) (hrw : fmlRw rst env = some rw0) (hn2 : (ren.map (·.2)).Nodup) (hn4 : (rst.map (·.2)).Nodup) : Mem (fctx c ren rst) bx0 us0 rw0 w := by
  have hB : ∀ k, (look k bx0).isSome = true → ∃ s b0, look k ren = some s ∧ look s env.bx = some b0 ∧ (fctx c ren rst).ρ k = c.ρ s := fun k hk => by
    rw [fmlBx_look hb] at hk
    split at hk
    · obtain ⟨b, hk⟩ := Option.isSome_iff_exists.1 hk
      obtain ⟨s, b0, e1, e2, _⟩ := fmlB_spec hk
      exact ⟨s, b0, e1, e2, by simp [fctx, e1]⟩
    · cases hk
  have hU : ∀ k, (look k us0).isSome = true → ∃ st, look k rst = some st ∧ env.live st ∧ (fctx c ren rst).σ k = c.σ st := fun k hk => by
    rw [fmlUs_look hu] at hk
    split at hk
    · obtain ⟨u, hk⟩ := Option.isSome_iff_exists.1 hk
      obtain ⟨st, e1, e2, e3⟩ := fmlU_spec hk
      exact ⟨st, e1, ⟨by rw [e2]; rfl, e3⟩, by simp [fctx, e1]⟩
    · cases hk
  have hinj : ∀ k k' s, look k ren = some s → look k' ren = some s → k = k' := fun k k' s e1 e2 => by
    have b1 := back_of_mem hn2 (mem_of_look e1)
    have b2 := back_of_mem hn2 (mem_of_look e2)
    rw [b1] at b2; exact Option.some.inj b2
  have hinjU : ∀ k k' s, look k rst = some s → look k' rst = some s → k = k' := fun k k' s e1 e2 => by
    have b1 := back_of_mem hn4 (mem_of_look e1)
    have b2 := back_of_mem hn4 (mem_of_look e2)
    rw [b1] at b2; exact Option.some.inj b2
  refine ⟨fun k b hk => ?_, fun k k' h1 h2 e => ?_, fun k hk => ?_, fun k k' g h1 h2 e1 e2 => ?_, fun k g hk e => ?_, h.im, fun k r hk => ?_⟩
  · rw [fmlBx_look hb] at hk
    split at hk
    · obtain ⟨s, b0, e1, e2, e3, e4, e5⟩ := fmlB_spec hk
      obtain ⟨vs, e, g1, g2, g3, g4⟩ := h.bx s b0 e2
      have er : (fctx c ren rst).ρ k = c.ρ s := by simp [fctx, e1]
      refine ⟨vs, e, by rw [er]; exact g1, fml_cells hb hu hn1 hn3 hn5 g2 e4, (fun x => by rw [e5] at x; cases x), fun _ o => ?_⟩
      rw [er]; exact g4 e3 o
    · cases hk
  · obtain ⟨s, b0, e1, e2, e3⟩ := hB k h1
    obtain ⟨s', b0', f1, f2, f3⟩ := hB k' h2
    rw [e3, f3] at e
    have := h.inj s s' (.inl (by rw [e2]; rfl)) (.inl (by rw [f2]; rfl)) e
    subst this
    exact hinj _ _ _ e1 f1
  · obtain ⟨s, b0, e1, e2, e3⟩ := hB k hk
    rw [e3]; exact h.lt s (.inl (by rw [e2]; rfl))
  · obtain ⟨st, f1, f2, f3⟩ := hU k h1
    obtain ⟨st', g1, g2, g3⟩ := hU k' h2
    rw [f3] at e1; rw [g3] at e2
    have := h.ownInj st st' g f2 g2 e1 e2
    subst this
    exact hinjU _ _ _ f1 g1
  · obtain ⟨st, f1, f2, f3⟩ := hU k hk
    rw [f3] at e
    obtain ⟨q1, q2, q3⟩ := h.ownAbove st g f2 e
    refine ⟨q2, fun k' hk' => ?_⟩
    obtain ⟨s, b0, e1, e2, e3⟩ := hB k' hk'
    rw [e3]; exact q3 s (.inl (by rw [e2]; rfl))
  · rw [fmlRw_look hrw] at hk
    split at hk
    · rename_i hmem
      obtain ⟨st, e1, e2⟩ := fmlR_spec hk
      obtain ⟨f1, f2, f3, f4⟩ := fml_row (c := c) (ren := ren) hu hn3 hn5 st k (back_of_mem hn4 (mem_of_look e1))
      obtain ⟨_, q2, q3⟩ := h.rw st r e2
      refine ⟨f4, f1.trans q2, .inr ?_⟩
      rw [f2]; exact q3.resolve_left f3
    · cases hk
omit hn1 hn3 hn5 in
theorem mem_passed {k : Nat} (hp : passed (fctx c ren rst) bx0 us0 k) : (∃ f s, look f ren = some s ∧ (look s env.bx).isSome = true ∧ c.ρ s = k) ∨ ∃ f st, look f rst = some st ∧ env.live st ∧ c.σ st = some k := by
  rcases hp with ⟨f, hf, e⟩ | ⟨f, hf, e⟩
  · left
    rw [fmlBx_look hb] at hf
    split at hf
    · obtain ⟨b, hk⟩ := Option.isSome_iff_exists.1 hf
      obtain ⟨s, b0, e1, e2, _⟩ := fmlB_spec hk
      exact ⟨f, s, e1, by rw [e2]; rfl, by rw [← e]; simp [fctx, e1]⟩
    · cases hf
  · right
    rw [fmlUs_look hu] at hf
    split at hf
    · obtain ⟨u, hk⟩ := Option.isSome_iff_exists.1 hf
      obtain ⟨st, e1, e2, e3⟩ := fmlU_spec hk
      exact ⟨f, st, e1, ⟨by rw [e2]; rfl, e3⟩, by rw [← e]; simp [fctx, e1]⟩
    · cases hf
end
end Go.Proofs.YtnooelecdbbfkaaGreatDoor.Fw

/- The state behind a call that was handed rows and variables. -/
namespace Go.Proofs.YtnooelecdbbfkaaGreatDoor.Fw
open Go Go.RowKit
set_option linter.unusedSectionVars false
variable [Inhabited GLT]

theorem nm_nu {rst : List (Nat × Nat)} {x st : Nat} : ∀ {us : List (Nat × Nat)} {n : Nat}, look x (nmL rst us n) = some st → ∃ u, look x (nuL rst us n) = some u ∧ (st, u) ∈ us
  | [], _, h => by cases h
  | (st', u) :: us, n, h => by
    simp only [nmL, nuL, look_cons] at h ⊢
    split at h
    · rename_i e; cases h; exact ⟨u, by rw [if_pos e], by simp⟩
    · rename_i e
      obtain ⟨u', h1, h2⟩ := nm_nu h
      exact ⟨u', by rw [if_neg e]; exact h1, List.mem_cons_of_mem _ h2⟩
theorem nu_nm {rst : List (Nat × Nat)} {x : Nat} : ∀ {us : List (Nat × Nat)} {n : Nat}, (look x (nuL rst us n)).isSome = (look x (nmL rst us n)).isSome
  | [], _ => rfl
  | (st', u) :: us, n => by
    simp only [nmL, nuL, look_cons]
    split
    · rfl
    · exact nu_nm
theorem nm_snd {rst : List (Nat × Nat)} : ∀ {us : List (Nat × Nat)} {n : Nat}, (nmL rst us n).map (·.2) = us.map (·.1)
  | [], _ => rfl
  | (st', u) :: us, n => by simp only [nmL, List.map_cons, nm_snd]
theorem nm_big {rst : List (Nat × Nat)} {x st : Nat} (hb : bigS ≤ st) : ∀ {us : List (Nat × Nat)} {n : Nat}, (x, st) ∈ nmL rst us n → x = (look st rst).getD 0
  | [], _, h => by cases h
  | (st', u) :: us, n, h => by
    simp only [nmL, List.mem_cons] at h
    rcases h with h | h
    · simp only [Prod.mk.injEq] at h
      obtain ⟨rfl, rfl⟩ := h
      rw [nameR, Nat.ble_eq_true_of_le hb]; rfl
    · exact nm_big hb h
theorem nm_mem {rst : List (Nat × Nat)} {k : Nat} : ∀ {us : List (Nat × Nat)} {n : Nat}, (look k us).isSome = true → ∃ x, (x, k) ∈ nmL rst us n
  | [], _, h => by cases h
  | (st', u) :: us, n, h => by
    rw [look_cons] at h
    split at h
    · rename_i e; subst e; exact ⟨_, by simp only [nmL, List.mem_cons]; exact .inl rfl⟩
    · obtain ⟨x, hx⟩ := nm_mem (rst := rst) (n := n + 1) h
      exact ⟨x, by simp only [nmL, List.mem_cons]; exact .inr hx⟩

theorem expRw_look {nms : List (Nat × Nat)} {st : Nat} (hinj : ∀ k k', back k nms = some st → back k' nms = some st → k = k') : ∀ {rw rw1 : List (Nat × RowC)} {r : RowC}, expRw nms rw = some rw1 → look st rw1 = some r → ∃ k, back k nms = some st ∧ look k rw = some r
  | [], rw1, r, h, hl => by simp only [expRw, List.map_nil, allSome, Option.some.injEq] at h; subst h; cases hl
  | p :: rw, rw1, r, h, hl => by
    simp only [expRw, List.map_cons] at h
    cases hb : back p.1 nms with
    | none => rw [hb] at h; simp [allSome] at h
    | some s0 =>
      rw [hb] at h
      simp only [Option.map_some, allSome] at h
      cases h2 : allSome (rw.map fun p => (back p.1 nms).map fun s => (s, p.2)) with
      | none => rw [h2] at h; cases h
      | some rw2 =>
        rw [h2] at h
        simp only [Option.map_some, Option.some.injEq] at h; subst h
        rw [look_cons] at hl
        obtain ⟨p1, p2⟩ := p
        split at hl
        · rename_i e; subst e; cases hl
          exact ⟨p1, hb, by rw [look_cons, if_pos rfl]⟩
        · rename_i e
          obtain ⟨k, k1, k2⟩ := expRw_look hinj h2 hl
          refine ⟨k, k1, ?_⟩
          rw [look_cons, if_neg]
          · exact k2
          · rintro rfl; rw [show back p1 nms = some s0 from hb] at k1; exact e (Option.some.inj k1)
theorem expRw_some {nms : List (Nat × Nat)} {st k : Nat} (hk : back k nms = some st) : ∀ {rw rw1 : List (Nat × RowC)}, expRw nms rw = some rw1 → (look k rw).isSome = true → (look st rw1).isSome = true
  | [], rw1, h, hl => by cases hl
  | p :: rw, rw1, h, hl => by
    simp only [expRw, List.map_cons] at h
    cases hb : back p.1 nms with
    | none => rw [hb] at h; simp [allSome] at h
    | some s0 =>
      rw [hb] at h
      simp only [Option.map_some, allSome] at h
      cases h2 : allSome (rw.map fun p => (back p.1 nms).map fun s => (s, p.2)) with
      | none => rw [h2] at h; cases h
      | some rw2 =>
        rw [h2] at h
        simp only [Option.map_some, Option.some.injEq] at h; subst h
        obtain ⟨p1, p2⟩ := p
        rw [look_cons] at hl ⊢
        split
        · rfl
        · rename_i e
          rw [if_neg] at hl
          · exact expRw_some hk h2 hl
          · rintro rfl; rw [show back p1 nms = some s0 from hb] at hk; exact e (Option.some.inj hk)

structure MemNames (X : MemC) (env : Env) (base : Nat) : Prop where
  n1 : (X.ren.map (·.1)).Nodup
  n2 : (X.ren.map (·.2)).Nodup
  n3 : (X.rst.map (·.1)).Nodup
  n4 : (X.rst.map (·.2)).Nodup
  n5 : ∀ p ∈ X.rst, 2 ≤ p.1 ∧ 2 ≤ p.2
  n6 : ((X.nms base).map (·.1)).Nodup
  n7 : ((X.nms base).map (·.2)).Nodup
  n8 : ∀ p ∈ X.nms base, (2 ≤ p.1 ∧ 2 ≤ p.2) ∧ (bigS ≤ p.2 ∨ (p.1 < bigS ∧ look p.1 env.us = none ∧ p.1 ∉ env.dd))
  n9 : ∀ p ∈ X.us, bigS ≤ p.1 → (look p.1 X.rw).isSome = true ∧ ∃ st, look p.1 X.rst = some st ∧ p.2 = rowMark ∧ look st env.us = some rowMark
theorem memOK_spec {X : MemC} {env : Env} {base : Nat} (h : memOK X env base = true) : MemNames X env base := by
  simp only [memOK, Bool.and_eq_true, distinct_iff, List.all_eq_true, Nat.ble_eq, Bool.or_eq_true] at h
  obtain ⟨h1, h2, h3, h4, h5, h6, h7, h8, h9⟩ := h
  refine ⟨h1, h2, h3, h4, h5, h6, h7, fun p hp => ⟨(h8 p hp).1, (h8 p hp).2.imp id fun h => ?_⟩, fun p hp hb => ?_⟩
  · exact fresh_spec h
  · have h := (h9 p hp).resolve_left (by simp [hb])
    refine ⟨h.1, ?_⟩
    have h := h.2
    split at h
    · rename_i st hst
      simp only [Bool.and_eq_true, nbeq, beq_iff_eq] at h
      exact ⟨st, hst, h.1, h.2⟩
    · cases h

def bctx (c c' : Ctx) (X : MemC) (base : Nat) : Ctx := { c with σ := fun x => match look x (X.nms base) with | some st => c'.σ st | none => c.σ x, I := c'.I }

section
variable {c c' : Ctx} {env : Env} {a : Act} {w w' : World} {X : MemC} {base : Nat} {bx0 bx1 : List (Nat × BoxC)} {us0 : List (Nat × Nat)} {rw0 rw1 : List (Nat × RowC)}

theorem expo_row (N : MemNames X env base) {st x : Nat} (hk : back st (X.nms base) = some x) : look x (memAfter X env base bx1 rw1).us = look st (memEnv X.bx X.us X.rw).us ∧ (bctx c c' X base).σ x = c'.σ st := by
  have hl := look_of_mem N.n6 (back_mem hk)
  obtain ⟨u, hu1, hu2⟩ := nm_nu hl
  have hus : look st X.us = some u := look_of_mem (by rw [← nm_snd (rst := X.rst) (n := base)]; exact N.n7) hu2
  refine ⟨?_, by simp [bctx, hl]⟩
  show look x (nuL X.rst X.us base ++ env.us) = look st X.us
  rw [look_append, hu1, hus]
theorem expo_cell (N : MemNames X env base) (hb : fmlBx X.ren X.rst env = some bx0) (M : MemOut (fctx c X.ren X.rst) c' bx0 X.bx us0 X.us rw0 X.rw w w') {d d2 : D} {v : Value}
    (hr : RepC c' (memEnv X.bx X.us X.rw) w' d v) (he : expo X.ren (X.nms base) d = some d2) : RepC (bctx c c' X base) (memAfter X env base bx1 rw1) w' d2 v := by
  have hloc : ∀ k s, look k X.ren = some s → (look s (memAfter X env base bx1 rw1).bx).isSome = true ∧ (bctx c c' X base).ρ s = c'.ρ k := by
    intro k s hk
    have hm := mem_of_look hk
    obtain ⟨b, hB⟩ := Option.isSome_iff_exists.1 (allSome_isSome (fmlB X.ren X.rst env) hb k (mem_fst hm))
    obtain ⟨s', b0, e1, e2, _⟩ := fmlB_spec hB
    rw [hk] at e1; cases e1
    refine ⟨?_, ?_⟩
    · show (look s (bx1 ++ env.bx)).isSome = true
      rw [look_append, e2]
      cases look s bx1 <;> rfl
    · have h0 : (look k bx0).isSome = true := by rw [fmlBx_look hb, if_pos (mem_fst hm), hB]; rfl
      rw [M.slot k h0]
      simp [fctx, hk, bctx]
  cases d <;> simp only [expo] at he <;> first | (cases he; done) | skip
  case agg cs => exact hr.elim
  case loc k off =>
    cases hk : look k X.ren with
    | none => rw [hk] at he; cases he
    | some s =>
      rw [hk] at he; cases he
      obtain ⟨k1, k2⟩ := hloc k s hk
      exact ⟨k1, by rw [k2]; exact hr.2⟩
  case lsl k off n =>
    cases hk : look k X.ren with
    | none => rw [hk] at he; cases he
    | some s =>
      rw [hk] at he; cases he
      obtain ⟨k1, k2⟩ := hloc k s hk
      exact ⟨k1, by rw [k2]; exact hr.2⟩
  case sl st es xs =>
    cases he
    obtain ⟨h1, h2⟩ := hr
    refine ⟨h1, ?_⟩
    cases hk : back st (X.nms base) with
    | none =>
      simp only
      cases h1 : Nat.beq st 1 with
      | false => exact .inl rfl
      | true =>
        have := nbeq.1 h1
        subst this
        rcases h2 with h2 | h2 | h2
        · cases h2
        · exact .inr (.inl ⟨rfl, h2.2⟩)
        · exact absurd h2.1 (by omega)
    | some x =>
      simp only
      have hm := back_mem hk
      have hl := look_of_mem N.n6 hm
      obtain ⟨⟨g1, g2⟩, _⟩ := N.n8 _ hm
      simp only at g1 g2
      obtain ⟨u, hu1, hu2⟩ := nm_nu hl
      have hus : look st X.us = some u := look_of_mem (by rw [← nm_snd (rst := X.rst) (n := base)]; exact N.n7) hu2
      rcases h2 with h2 | h2 | ⟨_, u', hu', hm0, h2⟩
      · omega
      · omega
      · rw [show look st (memEnv X.bx X.us X.rw).us = look st X.us from rfl, hus] at hu'; cases hu'
        refine .inr (.inr ⟨g1, u, ?_, hm0, .inr ?_⟩)
        · show look x (nuL X.rst X.us base ++ env.us) = some u
          rw [look_append, hu1]
        · have e : (bctx c c' X base).σ x = c'.σ st := by simp [bctx, hl]
          rw [e]
          exact h2.resolve_left (fun h => by cases h)
  case rsl st es lo n =>
    cases hk : back st (X.nms base) with
    | none => rw [hk] at he; cases he
    | some x =>
      rw [hk] at he; cases he
      obtain ⟨h1, h2, h3⟩ := hr
      obtain ⟨f1, f2⟩ := expo_row (c := c) (c' := c') (env := env) (bx1 := bx1) (rw1 := rw1) N hk
      refine ⟨f1.trans h1, h2, .inr ?_⟩
      rw [f2]; exact h3.resolve_left (fun h => by cases h)
  case rptr st es i off =>
    cases hk : back st (X.nms base) with
    | none => rw [hk] at he; cases he
    | some x =>
      rw [hk] at he; cases he
      obtain ⟨h1, h2, h3⟩ := hr
      obtain ⟨f1, f2⟩ := expo_row (c := c) (c' := c') (env := env) (bx1 := bx1) (rw1 := rw1) N hk
      refine ⟨f1.trans h1, h2, .inr ?_⟩
      rw [f2]; exact h3.resolve_left (fun h => by cases h)
  all_goals (cases he; exact hr)
theorem expo_cells (N : MemNames X env base) (hb : fmlBx X.ren X.rst env = some bx0) (M : MemOut (fctx c X.ren X.rst) c' bx0 X.bx us0 X.us rw0 X.rw w w') : ∀ {ds ds' : List D} {vs : List Value},
    All2 (RepC c' (memEnv X.bx X.us X.rw) w') ds vs → expoL X.ren (X.nms base) ds = some ds' → All2 (RepC (bctx c c' X base) (memAfter X env base bx1 rw1) w') ds' vs
  | [], ds', vs, hr, hf => by simp only [expoL, Option.some.injEq] at hf; subst hf; cases vs <;> first | trivial | exact hr.elim
  | d :: ds, ds', [], hr, _ => hr.elim
  | d :: ds, ds', v :: vs, hr, hf => by
    simp only [expoL] at hf
    cases h1 : expo X.ren (X.nms base) d with
    | none => rw [h1] at hf; cases hf
    | some d' =>
      cases h2 : expoL X.ren (X.nms base) ds with
      | none => rw [h1, h2] at hf; cases hf
      | some es =>
        rw [h1, h2] at hf; cases hf
        exact ⟨expo_cell N hb M hr.1 h1, expo_cells N hb M hr.2 h2⟩
theorem expo_val (N : MemNames X env base) (hb : fmlBx X.ren X.rst env = some bx0) (M : MemOut (fctx c X.ren X.rst) c' bx0 X.bx us0 X.us rw0 X.rw w w') {d d2 : D} {v : Value}
    (hr : RepV c' (memEnv X.bx X.us X.rw) w' d v) (he : expo X.ren (X.nms base) d = some d2) : RepV (bctx c c' X base) (memAfter X env base bx1 rw1) w' d2 v := by
  cases d <;> first | (cases he; done) | skip
  case agg cs =>
    simp only [expo] at he
    cases h1 : expoL X.ren (X.nms base) cs with
    | none => rw [h1] at he; cases he
    | some cs' =>
      rw [h1] at he; cases he
      obtain ⟨vs, e, hr⟩ := hr
      exact ⟨vs, e, expo_cells N hb M hr h1⟩
  all_goals
    simp only [RepV] at hr
    have := expo_cell (bx1 := bx1) (rw1 := rw1) N hb M hr he
    simp only [expo] at he
    first
      | (cases he; exact this)
      | (cases hk : look _ X.ren with
        | none => rw [hk] at he; cases he
        | some k => rw [hk] at he; cases he; exact this)
      | (cases hk : back _ (X.nms base) with
        | none => rw [hk] at he; cases he
        | some k => rw [hk] at he; cases he; exact this)
theorem expo_vals (N : MemNames X env base) (hb : fmlBx X.ren X.rst env = some bx0) (M : MemOut (fctx c X.ren X.rst) c' bx0 X.bx us0 X.us rw0 X.rw w w') : ∀ {ds ds' : List D} {vs : List Value},
    All2 (RepV c' (memEnv X.bx X.us X.rw) w') ds vs → expoL X.ren (X.nms base) ds = some ds' → All2 (RepV (bctx c c' X base) (memAfter X env base bx1 rw1) w') ds' vs
  | [], ds', vs, hr, hf => by simp only [expoL, Option.some.injEq] at hf; subst hf; cases vs <;> first | trivial | exact hr.elim
  | d :: ds, ds', [], hr, _ => hr.elim
  | d :: ds, ds', v :: vs, hr, hf => by
    simp only [expoL] at hf
    cases h1 : expo X.ren (X.nms base) d with
    | none => rw [h1] at hf; cases hf
    | some d' =>
      cases h2 : expoL X.ren (X.nms base) ds with
      | none => rw [h1, h2] at hf; cases hf
      | some es =>
        rw [h1, h2] at hf; cases hf
        exact ⟨expo_val N hb M hr.1 h1, expo_vals N hb M hr.2 h2⟩
theorem expo_any (N : MemNames X env base) (hb : fmlBx X.ren X.rst env = some bx0) (M : MemOut (fctx c X.ren X.rst) c' bx0 X.bx us0 X.us rw0 X.rw w w') {d d2 : D} {v : Value}
    (hr : RepT c' (memEnv X.bx X.us X.rw) w' d v) (he : expT X.ren (X.nms base) d = some d2) : RepT (bctx c c' X base) (memAfter X env base bx1 rw1) w' d2 v := by
  cases d <;> first | (cases he; done) | skip
  case tup ds =>
    simp only [expT] at he
    cases h1 : expoL X.ren (X.nms base) ds with
    | none => rw [h1] at he; cases he
    | some ds' =>
      rw [h1] at he; cases he
      obtain ⟨vs, e, hr⟩ := hr
      exact ⟨vs, e, expo_vals N hb M hr h1⟩
  all_goals
    simp only [RepT] at hr
    have := expo_val (bx1 := bx1) (rw1 := rw1) N hb M hr he
    simp only [expT, expo] at he
    first
      | (cases he; exact this)
      | (cases hk : look _ X.ren with
        | none => rw [hk] at he; cases he
        | some k => rw [hk] at he; cases he; exact this)
      | (cases hk : back _ (X.nms base) with
        | none => rw [hk] at he; cases he
        | some k => rw [hk] at he; cases he; exact this)
      | (cases hk : expoL X.ren (X.nms base) _ with
        | none => rw [hk] at he; cases he
        | some k => rw [hk] at he; cases he; exact this)

theorem expBx_look (h : expBx X.ren (X.nms base) X.bx = some bx1) (s : Nat) : look s bx1 = if s ∈ X.ren.map (·.2) then expB X.ren (X.nms base) X.bx s else none := look_allSome (expB X.ren (X.nms base) X.bx) h s
theorem expB_spec {s : Nat} {b : BoxC} {ren nms : List (Nat × Nat)} {bx : List (Nat × BoxC)} (h : expB ren nms bx s = some b) : ∃ k b0, back s ren = some k ∧ look k bx = some b0 ∧ expoL ren nms b0.cells = some b.cells ∧ b.frozen = b0.frozen := by
  unfold expB at h
  cases h1 : back s ren with
  | none => rw [h1] at h; cases h
  | some k =>
    rw [h1] at h
    simp only at h
    cases h2 : look k bx with
    | none => rw [h2] at h; cases h
    | some b0 =>
      rw [h2] at h
      simp only at h
      cases h3 : expoL ren nms b0.cells with
      | none => rw [h3] at h; cases h
      | some cs => rw [h3] at h; cases h; exact ⟨k, b0, rfl, h2, h3, rfl⟩

theorem St.memAfter (h : St c env a w) (N : MemNames X env base) (hb : fmlBx X.ren X.rst env = some bx0) (hu : fmlUs X.rst env = some us0) (he : expBx X.ren (X.nms base) X.bx = some bx1) (hrw : expRw (X.nms base) X.rw = some rw1)
    (M : MemOut (fctx c X.ren X.rst) c' bx0 X.bx us0 X.us rw0 X.rw w w') : St (bctx c c' X base) (memAfter X env base bx1 rw1) a w' := by
  have hpass : ∀ k, passed (fctx c X.ren X.rst) bx0 us0 k → (∃ f s, look f X.ren = some s ∧ (look s env.bx).isSome = true ∧ c.ρ s = k) ∨ ∃ f st, look f X.rst = some st ∧ env.live st ∧ c.σ st = some k := fun k => mem_passed hb hu
  have hpoff : ∀ k, passed (fctx c X.ren X.rst) bx0 us0 k → c.w0.off k := fun k hk => by
    rcases hpass k hk with ⟨f, s, _, h2, rfl⟩ | ⟨f, st, _, h2, h3⟩
    · exact h.above s (.inl h2)
    · exact (h.ownAbove st k h2 h3).1
  -- a variable that is not handed over
  have hnb : ∀ s, env.blk s → s ∉ X.ren.map (·.2) → ¬ passed (fctx c X.ren X.rst) bx0 us0 (c.ρ s) := fun s hs hn hk => by
    rcases hpass _ hk with ⟨f, s', h1, h2, h3⟩ | ⟨f, st, h1, h2, h3⟩
    · have := h.inj s' s (.inl h2) hs h3
      subst this
      exact hn (List.mem_map.2 ⟨_, mem_of_look h1, rfl⟩)
    · exact (h.ownAbove st _ h2 h3).2.2 s hs rfl
  -- a row that is not handed over
  have hnr : ∀ st g, env.live st → st ∉ X.rst.map (·.2) → c.σ st = some g → ¬ passed (fctx c X.ren X.rst) bx0 us0 g := fun st g hl hn hg hk => by
    rcases hpass _ hk with ⟨f, s', h1, h2, h3⟩ | ⟨f, st', h1, h2, h3⟩
    · exact (h.ownAbove st g hl hg).2.2 s' (.inl h2) h3
    · have := h.ownInj st' st g h2 hl h3 hg
      subst this
      exact hn (List.mem_map.2 ⟨_, mem_of_look h1, rfl⟩)
  have hIold : ∀ k, k < w.heap.size → ¬ passed (fctx c X.ren X.rst) bx0 us0 k → ∀ o, c'.I k o → c.I k o := fun k hk hp o ho => by
    rcases M.imNew k o ho with x | x | x
    · exact x
    · exact absurd x hp
    · omega
  -- whose name it is
  have hname : ∀ st k, look st (X.nms base) = some k → (look st env.us = none ∧ st < bigS) ∨ (bigS ≤ k ∧ look k X.rst = some st ∧ look st env.us = some rowMark ∧ look k X.us = some rowMark ∧ (look k X.rw).isSome = true) := fun st k hl => by
    have hm := mem_of_look hl
    rcases (N.n8 _ hm).2 with hb | ⟨h1, h2, _⟩
    · obtain ⟨u, _, hu2⟩ := nm_nu hl
      obtain ⟨q1, st', q2, q3, q4⟩ := N.n9 _ hu2 hb
      simp only at q1 q2 q3 q4
      have := nm_big hb hm
      rw [q2] at this
      simp only [Option.getD_some] at this
      subst this
      subst q3
      exact .inr ⟨hb, q2, q4, look_of_mem (by rw [← nm_snd (rst := X.rst) (n := base)]; exact N.n7) hu2, q1⟩
    · exact .inl ⟨h2, h1⟩
  -- a row that was handed over, and is not left off, comes back
  have hkept : ∀ st, env.live st → st ∉ X.kills → st ∈ X.rst.map (·.2) → ∃ k, look st (X.nms base) = some k ∧ bigS ≤ k ∧ look k X.rst = some st := fun st hl hk hm => by
    obtain ⟨p, hp, rfl⟩ := List.mem_map.1 hm
    have hkp : X.kept p.1 = true := by
      cases hc : X.kept p.1 with
      | true => rfl
      | false => exact absurd (List.mem_map.2 ⟨p, List.mem_filter.2 ⟨hp, by rw [hc]; rfl⟩, rfl⟩) hk
    simp only [MemC.kept, Bool.and_eq_true, Nat.ble_eq] at hkp
    have hlk : look p.1 X.rst = some p.2 := look_of_mem N.n3 hp
    obtain ⟨x, hx⟩ := nm_mem (rst := X.rst) (n := base) hkp.2
    have := nm_big hkp.1 hx
    rw [hlk] at this
    simp only [Option.getD_some] at this
    subst this
    exact ⟨p.1, look_of_mem N.n6 hx, hkp.1, hlk⟩
  have hbk : ∀ s, (look s (Fw.memAfter X env base bx1 rw1).bx).isSome = (look s env.bx).isSome := fun s => by
    show (look s (bx1 ++ env.bx)).isSome = _
    rw [look_append, expBx_look he]
    split
    · rename_i x hx
      split at hx
      · obtain ⟨k, b0, e1, _⟩ := expB_spec hx
        obtain ⟨b, hB⟩ := Option.isSome_iff_exists.1 (allSome_isSome (fmlB X.ren X.rst env) hb k (mem_fst (back_mem e1)))
        obtain ⟨s', b0', e3, e4, _⟩ := fmlB_spec hB
        rw [look_of_mem N.n1 (back_mem e1)] at e3; cases e3
        rw [e4]; rfl
      · cases hx
    · rfl
  have hblk : ∀ s, (Fw.memAfter X env base bx1 rw1).blk s ↔ env.blk s := fun s => by
    unfold Env.blk; rw [hbk]; exact Iff.rfl
  have hus : ∀ st u, look st env.us = some u → look st (Fw.memAfter X env base bx1 rw1).us = some u := fun st u hs => by
    show look st (nuL X.rst X.us base ++ env.us) = _
    rw [look_append]
    cases hl : look st (nuL X.rst X.us base) with
    | none => exact hs
    | some u' =>
      have h1 : (look st (nmL X.rst X.us base)).isSome = true := by rw [← nu_nm, hl]; rfl
      obtain ⟨k, hk⟩ := Option.isSome_iff_exists.1 h1
      rcases hname st k hk with ⟨q, _⟩ | ⟨_, _, q3, q4, _⟩
      · rw [q] at hs; cases hs
      · obtain ⟨u2, e1, e2⟩ := nm_nu hk
        rw [hl] at e1; cases e1
        have := look_of_mem (by rw [← nm_snd (rst := X.rst) (n := base)]; exact N.n7) e2
        rw [q4] at this; rw [q3] at hs; cases this; cases hs; rfl
  have hsigO' : ∀ st k, look st (X.nms base) = some k → bigS ≤ k → look k X.rst = some st → (look k X.us).isSome = true → c'.σ k = c.σ st ∧ ∀ g n, c.σ st = some g → Room w g n → Room w' g n := fun st k _ hb hr hu0 => by
    obtain ⟨_, q1, q2⟩ := M.hand k hb hu0
    have e : (fctx c X.ren X.rst).σ k = c.σ st := by simp [fctx, hr]
    rw [e] at q1 q2
    exact ⟨q1, q2⟩
  have S : StepW c env w (bctx c c' X base) (Fw.memAfter X env base bx1 rw1) w' := by
    refine ⟨M.keeps, fun s hs => ⟨by rw [hbk]; exact hs, rfl⟩, fun s hs => ⟨hs, rfl⟩, hus, fun st hs => List.mem_append_right _ hs, fun st hl hn => ?_, fun st hb hl => ?_⟩
    · have hnk : st ∉ X.kills := fun e => hn (List.mem_append_left _ e)
      cases hnm : look st (X.nms base) with
      | none =>
        have hnh : st ∉ X.rst.map (·.2) := fun hm => by
          obtain ⟨k, q, _⟩ := hkept st hl hnk hm
          rw [hnm] at q; cases q
        refine ⟨by simp [bctx, hnm], fun g hg => ?_⟩
        have hnp := hnr st g hl hnh hg
        have hlt := (h.ownAbove st g hl hg).2.1
        have hb := M.block g hlt hnp
        exact ⟨fun _ => hb, (fun n => by rintro ⟨cur, u, fr, q1, q2⟩; exact ⟨cur, u, fr, hb.trans q1, q2⟩), hIold g hlt hnp⟩
      | some k =>
        rcases hname st k hnm with ⟨q, _⟩ | ⟨q1, q2, q3, q4, q5⟩
        · have := hl.1; rw [q] at this; cases this
        · obtain ⟨s1, s2⟩ := hsigO' st k hnm q1 q2 (by rw [q4]; rfl)
          refine ⟨by simp only [bctx, hnm]; exact s1, fun g hg => ⟨fun hm => absurd q3 hm, fun n => s2 g n hg, fun o ho => ?_⟩⟩
          obtain ⟨r, hr⟩ := Option.isSome_iff_exists.1 q5
          obtain ⟨_, _, hrow⟩ := M.mem.row k r hr
          obtain ⟨_, hrow⟩ := hrow.resolve_left (fun h => by cases h)
          rw [s1, hg] at hrow
          obtain ⟨_, _, _, _, _, _, _, hI⟩ := hrow
          exact absurd ho (hI o)
    · obtain ⟨h1, h2⟩ := hl
      refine ⟨?_, fun e => h2 (List.mem_append_right _ e)⟩
      have h1 : (look st (nuL X.rst X.us base ++ env.us)).isSome = true := h1
      rw [look_append] at h1
      cases hq : look st (nuL X.rst X.us base) with
      | none => rw [hq] at h1; exact h1
      | some u' =>
        have h3 : (look st (nmL X.rst X.us base)).isSome = true := by rw [← nu_nm, hq]; rfl
        obtain ⟨k, hk⟩ := Option.isSome_iff_exists.1 h3
        rcases hname st k hk with ⟨_, q⟩ | ⟨_, _, q3, _⟩
        · omega
        · rw [q3]; rfl
  have hlive : ∀ st, (Fw.memAfter X env base bx1 rw1).live st → (∃ x, look st (X.nms base) = some x) ∨ (look st (X.nms base) = none ∧ env.live st ∧ st ∉ X.rst.map (·.2)) := fun st ⟨h1, h2⟩ => by
    cases hl : look st (X.nms base) with
    | some x => exact .inl ⟨x, rfl⟩
    | none =>
      have hlv : env.live st := by
        refine ⟨?_, fun e => h2 (List.mem_append_right _ e)⟩
        have h1 : (look st (nuL X.rst X.us base ++ env.us)).isSome = true := h1
        rw [look_append] at h1
        have hn : (look st (nuL X.rst X.us base)).isSome = false := by rw [nu_nm, show nmL X.rst X.us base = X.nms base from rfl, hl]; rfl
        cases hq : look st (nuL X.rst X.us base) with
        | none => rw [hq] at h1; exact h1
        | some _ => rw [hq] at hn; cases hn
      refine .inr ⟨rfl, hlv, fun e => ?_⟩
      obtain ⟨k, q, _⟩ := hkept st hlv (fun e => h2 (List.mem_append_left _ e)) e
      rw [hl] at q; cases q
  have hsigN : ∀ st x, look st (X.nms base) = some x → (bctx c c' X base).σ st = c'.σ x := fun st x e => by simp [bctx, e]
  have hsigO : ∀ st, look st (X.nms base) = none → (bctx c c' X base).σ st = c.σ st := fun st e => by simp [bctx, e]
  have hxus : ∀ st x, look st (X.nms base) = some x → (look x X.us).isSome = true := fun st x e => by
    obtain ⟨u, _, hu2⟩ := nm_nu e
    rw [look_of_mem (by rw [← nm_snd (rst := X.rst) (n := base)]; exact N.n7) hu2]; rfl
  have hnew : ∀ st x g, look st (X.nms base) = some x → c'.σ x = some g → (passed (fctx c X.ren X.rst) bx0 us0 g ∨ w.heap.size ≤ g) ∧ g < w'.heap.size ∧ ∀ s, (look s X.bx).isSome = true → c'.ρ s ≠ g := fun st x g e hg =>
    ⟨M.row x g (hxus st x e) hg, M.mem.ownLt x g (hxus st x e) hg⟩
  have hrenS : ∀ s, s ∈ X.ren.map (·.2) → ∃ k, (look k X.bx).isSome = true ∧ c'.ρ k = c.ρ s := fun s hs => by
    obtain ⟨b, hB⟩ := Option.isSome_iff_exists.1 (allSome_isSome (expB X.ren (X.nms base) X.bx) he s hs)
    obtain ⟨k, b0, e1, e2, _⟩ := expB_spec hB
    have hl := look_of_mem N.n1 (back_mem e1)
    have h0 : (look k bx0).isSome = true := by rw [fmlBx_look hb, if_pos (mem_fst (back_mem e1))]; exact allSome_isSome (fmlB X.ren X.rst env) hb k (mem_fst (back_mem e1))
    exact ⟨k, by rw [e2]; rfl, by rw [M.slot k h0]; simp [fctx, hl]⟩
  have hkf : KeptF c.w0 w w' := ⟨M.os, M.tape, M.output, M.size, fun k hk => M.block k (h.base.below_of hk) fun hp => hk (hpoff k hp)⟩
  refine ⟨h.nt, h.df, fun t d hd => S.repT (h.tm t d hd), fun t d hd => (h.wt t d hd).step S, fun s b hs => ?_, fun s m hs => ?_, fun s s' h1 h2 e => h.inj s s' ((hblk s).1 h1) ((hblk s').1 h2) e, fun s hs => h.above s ((hblk s).1 hs),
    fun s hs => Nat.lt_of_lt_of_le (h.lt s ((hblk s).1 hs)) M.size, fun s1 s2 g h1 h2 e1 e2 => ?_, fun st g hl hg => ?_, M.mem.im, h.im0.trans S.keeps, fun b o hi => ?_, h.base.trans hkf, ⟨h.gh.1, S.fix h.gh.2⟩, fun st r hr => ?_⟩
  · have hs' : look s (bx1 ++ env.bx) = some b := hs
    rw [look_append, expBx_look he] at hs'
    by_cases hm : s ∈ X.ren.map (·.2)
    · rw [if_pos hm] at hs'
      obtain ⟨b', hB⟩ := Option.isSome_iff_exists.1 (allSome_isSome (expB X.ren (X.nms base) X.bx) he s hm)
      rw [hB] at hs'
      simp only [Option.some.injEq] at hs'
      subst hs'
      obtain ⟨k, b0, e1, e2, e3, e4⟩ := expB_spec hB
      have hl := look_of_mem N.n1 (back_mem e1)
      have h0 : (look k bx0).isSome = true := by rw [fmlBx_look hb, if_pos (mem_fst (back_mem e1))]; exact allSome_isSome (fmlB X.ren X.rst env) hb k (mem_fst (back_mem e1))
      have hρ : c'.ρ k = c.ρ s := by rw [M.slot k h0]; simp [fctx, hl]
      obtain ⟨vs, e, g1, g2, g3, g4⟩ := M.mem.var k b0 e2
      rw [hρ] at g1 g3 g4
      exact ⟨vs, e, g1, expo_cells N hb M g2 e3, fun hf => g3 (by rw [← e4]; exact hf), fun hf => g4 (by rw [← e4]; exact hf)⟩
    · rw [if_neg hm] at hs'
      simp only at hs'
      have hbs : env.blk s := .inl (by rw [hs']; rfl)
      have hnp := hnb s hbs hm
      exact (h.bx s b hs').step S rfl (M.block _ (h.lt s hbs) hnp) (hIold _ (h.lt s hbs) hnp)
  · have hbs : env.blk s := .inr (by rw [show look s env.mp = some m from hs]; rfl)
    have hm : s ∉ X.ren.map (·.2) := fun e => by
      obtain ⟨b', hB⟩ := Option.isSome_iff_exists.1 (allSome_isSome (expB X.ren (X.nms base) X.bx) he s e)
      obtain ⟨k, b0, e1, e2, e3, e4⟩ := expB_spec hB
      obtain ⟨b2, hB2⟩ := Option.isSome_iff_exists.1 (allSome_isSome (fmlB X.ren X.rst env) hb k (mem_fst (back_mem e1)))
      obtain ⟨s', b0', f3, f4, _⟩ := fmlB_spec hB2
      rw [look_of_mem N.n1 (back_mem e1)] at f3; cases f3
      obtain ⟨_, _, p1, _⟩ := h.bx s b0' f4
      obtain ⟨_, _, p2, _⟩ := h.mp s m hs
      rw [p1] at p2; cases p2
    have hnp := hnb s hbs hm
    exact (h.mp s m hs).stepK S.keeps rfl (M.block _ (h.lt s hbs) hnp) (hIold _ (h.lt s hbs) hnp)
  · rcases hlive s1 h1 with ⟨x1, f1⟩ | ⟨f1, l1, r1⟩ <;> rcases hlive s2 h2 with ⟨x2, f2⟩ | ⟨f2, l2, r2⟩
    · rw [hsigN _ _ f1] at e1; rw [hsigN _ _ f2] at e2
      have := M.mem.ownInj x1 x2 g (hxus _ _ f1) (hxus _ _ f2) e1 e2
      subst this
      have b1 := back_of_mem N.n7 (mem_of_look f1)
      have b2 := back_of_mem N.n7 (mem_of_look f2)
      rw [b1] at b2; exact Option.some.inj b2
    · rw [hsigN _ _ f1] at e1; rw [hsigO _ f2] at e2
      rcases (hnew _ _ _ f1 e1).1 with x | x
      · exact absurd x (hnr s2 g l2 r2 e2)
      · have := (h.ownAbove s2 g l2 e2).2.1; omega
    · rw [hsigO _ f1] at e1; rw [hsigN _ _ f2] at e2
      rcases (hnew _ _ _ f2 e2).1 with x | x
      · exact absurd x (hnr s1 g l1 r1 e1)
      · have := (h.ownAbove s1 g l1 e1).2.1; omega
    · rw [hsigO _ f1] at e1; rw [hsigO _ f2] at e2
      exact h.ownInj s1 s2 g l1 l2 e1 e2
  · rcases hlive st hl with ⟨x, f⟩ | ⟨f, l, r⟩
    · rw [hsigN _ _ f] at hg
      obtain ⟨k1, k2, k3⟩ := hnew _ _ _ f hg
      refine ⟨k1.elim (hpoff g) fun e => h.base.new e, k2, fun s hs e => ?_⟩
      have hs := (hblk s).1 hs
      by_cases hm : s ∈ X.ren.map (·.2)
      · obtain ⟨k, q1, q2⟩ := hrenS s hm
        exact k3 k q1 (q2.trans e)
      · rcases k1 with y | y
        · exact hnb s hs hm (by rw [show c.ρ s = g from e]; exact y)
        · have := h.lt s hs
          rw [show c.ρ s = g from e] at this; omega
    · rw [hsigO _ f] at hg
      obtain ⟨k1, k2, k3⟩ := h.ownAbove st g l hg
      exact ⟨k1, Nat.lt_of_lt_of_le k2 M.size, fun s hs => k3 s ((hblk s).1 hs)⟩
  · rcases M.imNew b o hi with x | x | x
    · exact h.imNew b o x
    · exact .inr (hpoff b x)
    · exact .inr (h.base.new x)
  · have hr : look st (rw1 ++ env.rw) = some r := hr
    rw [look_append] at hr
    cases hl : look st rw1 with
    | some r' =>
      rw [hl] at hr; cases hr
      obtain ⟨k, k1, k2⟩ := expRw_look (fun k k' e1 e2 => by
        have h1 := look_of_mem N.n6 (back_mem e1)
        have h2 := look_of_mem N.n6 (back_mem e2)
        rw [h1] at h2; exact Option.some.inj h2) hrw hl
      obtain ⟨_, q2, q3⟩ := M.mem.row k r k2
      obtain ⟨f1, f2⟩ := expo_row (c := c) (c' := c') (env := env) (bx1 := bx1) (rw1 := rw1) N k1
      refine ⟨(N.n8 _ (back_mem k1)).1.1, f1.trans q2, .inr ?_⟩
      rw [f2]; exact q3.resolve_left (fun h => by cases h)
    | none =>
      rw [hl] at hr
      simp only at hr
      refine S.rowOK (fun hlv hn g hg => ?_) (h.rw st r hr)
      refine M.block g (h.ownAbove st g hlv hg).2.1 (hnr st g hlv (fun e => ?_) hg)
      obtain ⟨k, q, q1, q2⟩ := hkept st hlv (fun e => hn (List.mem_append_left _ e)) e
      rcases hname st k q with ⟨q3, _⟩ | ⟨_, _, _, _, q5⟩
      · have := hlv.1; rw [q3] at this; cases this
      · have := expRw_some (back_of_mem N.n7 (mem_of_look q)) hrw q5
        rw [hl] at this; cases this
end
end Go.Proofs.YtnooelecdbbfkaaGreatDoor.Fw
