/- Texts UN, U, V, W, WB, YA, YB of the proof, in one. -/
import Derived.RangeFuncNested
import Derived.Test.YtndijidmabfhcaaFwC10k2
set_option linter.unusedSimpArgs false
set_option linter.unusedVariables false
set_option linter.unusedSectionVars false

/- The state behind a call that was handed rows and variables. -/
namespace Go.Proofs.Ytndijidmabfhcaa.Fw
open Go Go.RowKit

theorem nm_nu {x st : Nat} : ∀ {us : List (Nat × Nat)} {n : Nat}, look x (nmL us n) = some st → ∃ u, look x (nuL us n) = some u ∧ (st, u) ∈ us
  | [], _, h => by cases h
  | (st', u) :: us, n, h => by
    simp only [nmL, nuL, look_cons] at h ⊢
    split at h
    · rename_i e; cases h; exact ⟨u, by rw [if_pos e], by simp⟩
    · rename_i e
      obtain ⟨u', h1, h2⟩ := nm_nu h
      exact ⟨u', by rw [if_neg e]; exact h1, List.mem_cons_of_mem _ h2⟩
theorem nu_nm {x : Nat} : ∀ {us : List (Nat × Nat)} {n : Nat}, (look x (nuL us n)).isSome = (look x (nmL us n)).isSome
  | [], _ => rfl
  | (st', u) :: us, n => by
    simp only [nmL, nuL, look_cons]
    split
    · rfl
    · exact nu_nm
theorem nm_snd : ∀ {us : List (Nat × Nat)} {n : Nat}, (nmL us n).map (·.2) = us.map (·.1)
  | [], _ => rfl
  | (st', u) :: us, n => by simp only [nmL, List.map_cons, nm_snd]

structure MemNames (X : MemC) (env : Env) (base : Nat) : Prop where
  n1 : (X.ren.map (·.1)).Nodup
  n2 : (X.ren.map (·.2)).Nodup
  n3 : (X.rst.map (·.1)).Nodup
  n4 : (X.rst.map (·.2)).Nodup
  n5 : ∀ p ∈ X.rst, 2 ≤ p.1 ∧ 2 ≤ p.2
  n6 : ((X.nms base).map (·.1)).Nodup
  n7 : ((X.nms base).map (·.2)).Nodup
  n8 : ∀ p ∈ X.nms base, (2 ≤ p.1 ∧ 2 ≤ p.2) ∧ look p.1 env.us = none ∧ p.1 ∉ env.dd
theorem memOK_spec {X : MemC} {env : Env} {base : Nat} (h : memOK X env base = true) : MemNames X env base := by
  simp only [memOK, Bool.and_eq_true, distinct_iff, List.all_eq_true, Nat.ble_eq, Option.isNone_iff_eq_none, Bool.not_eq_true', List.contains_eq_mem, decide_eq_false_iff_not] at h
  obtain ⟨h1, h2, h3, h4, h5, h6, h7, h8⟩ := h
  exact ⟨h1, h2, h3, h4, h5, h6, h7, h8⟩

def bctx (c c' : Ctx) (X : MemC) (base : Nat) : Ctx := { c with σ := fun x => match look x (X.nms base) with | some st => c'.σ st | none => c.σ x, I := c'.I }

section
variable {c c' : Ctx} {env : Env} {a : Act} {w w' : World} {X : MemC} {base : Nat} {bx0 bx1 : List (Nat × BoxC)} {us0 : List (Nat × Nat)}

theorem expo_cell (N : MemNames X env base) (hb : fmlBx X.ren X.rst env = some bx0) (M : MemOut (fctx c X.ren X.rst) c' bx0 X.bx us0 X.us w w') {d d2 : D} {v : Value}
    (hr : RepC c' (memEnv X.bx X.us) w' d v) (he : expo X.ren (X.nms base) d = some d2) : RepC (bctx c c' X base) (memAfter X env base bx1) w' d2 v := by
  have hloc : ∀ k s, look k X.ren = some s → (look s (memAfter X env base bx1).bx).isSome = true ∧ (bctx c c' X base).ρ s = c'.ρ k := by
    intro k s hk
    have hm := mem_of_look hk
    obtain ⟨b, hB⟩ := Option.isSome_iff_exists.1 (allSome_isSome (fmlB X.ren X.rst env) hb k (mem_fst hm))
    obtain ⟨s', b0, e1, e2, _⟩ := fmlB_spec hB
    rw [hk] at e1; cases e1
    refine ⟨?_, ?_⟩
    · show (look s (bx1 ++ env.bx)).isSome = true
      rw [look_append, e2]
      cases look s bx1 <;> rfl
    · have h0 : (look k bx0).isSome = true := by rw [fmlBx_look hb, if_pos (mem_fst hm), hB]; rfl
      rw [M.slot k h0]
      simp [fctx, hk, bctx]
  cases d <;> simp only [expo] at he <;> first | (cases he; done) | skip
  case agg cs => exact hr.elim
  case loc k off =>
    cases hk : look k X.ren with
    | none => rw [hk] at he; cases he
    | some s =>
      rw [hk] at he; cases he
      obtain ⟨k1, k2⟩ := hloc k s hk
      exact ⟨k1, by rw [k2]; exact hr.2⟩
  case lsl k off n =>
    cases hk : look k X.ren with
    | none => rw [hk] at he; cases he
    | some s =>
      rw [hk] at he; cases he
      obtain ⟨k1, k2⟩ := hloc k s hk
      exact ⟨k1, by rw [k2]; exact hr.2⟩
  case sl st es xs =>
    cases he
    obtain ⟨h1, h2⟩ := hr
    refine ⟨h1, ?_⟩
    cases hk : back st (X.nms base) with
    | none =>
      simp only
      cases h1 : Nat.beq st 1 with
      | false => exact .inl rfl
      | true =>
        have := nbeq.1 h1
        subst this
        rcases h2 with h2 | h2 | h2
        · cases h2
        · exact .inr (.inl ⟨rfl, h2.2⟩)
        · exact absurd h2.1 (by omega)
    | some x =>
      simp only
      have hm := back_mem hk
      have hl := look_of_mem N.n6 hm
      obtain ⟨⟨g1, g2⟩, g3, g4⟩ := N.n8 _ hm
      simp only at g1 g2 g3 g4
      obtain ⟨u, hu1, hu2⟩ := nm_nu hl
      have hus : look st X.us = some u := look_of_mem (by rw [← nm_snd (n := base)]; exact N.n7) hu2
      rcases h2 with h2 | h2 | ⟨_, u', hu', h2⟩
      · omega
      · omega
      · rw [show look st (memEnv X.bx X.us).us = look st X.us from rfl, hus] at hu'; cases hu'
        refine .inr (.inr ⟨g1, u, ?_, .inr ?_⟩)
        · show look x (nuL X.us base ++ env.us) = some u
          rw [look_append, hu1]
        · have e : (bctx c c' X base).σ x = c'.σ st := by simp [bctx, hl]
          rw [e]
          exact h2.resolve_left (fun h => by cases h)
  all_goals (cases he; exact hr)
theorem expo_cells (N : MemNames X env base) (hb : fmlBx X.ren X.rst env = some bx0) (M : MemOut (fctx c X.ren X.rst) c' bx0 X.bx us0 X.us w w') : ∀ {ds ds' : List D} {vs : List Value},
    All2 (RepC c' (memEnv X.bx X.us) w') ds vs → expoL X.ren (X.nms base) ds = some ds' → All2 (RepC (bctx c c' X base) (memAfter X env base bx1) w') ds' vs
  | [], ds', vs, hr, hf => by simp only [expoL, Option.some.injEq] at hf; subst hf; cases vs <;> first | trivial | exact hr.elim
  | d :: ds, ds', [], hr, _ => hr.elim
  | d :: ds, ds', v :: vs, hr, hf => by
    simp only [expoL] at hf
    cases h1 : expo X.ren (X.nms base) d with
    | none => rw [h1] at hf; cases hf
    | some d' =>
      cases h2 : expoL X.ren (X.nms base) ds with
      | none => rw [h1, h2] at hf; cases hf
      | some es =>
        rw [h1, h2] at hf; cases hf
        exact ⟨expo_cell N hb M hr.1 h1, expo_cells N hb M hr.2 h2⟩
theorem expo_val (N : MemNames X env base) (hb : fmlBx X.ren X.rst env = some bx0) (M : MemOut (fctx c X.ren X.rst) c' bx0 X.bx us0 X.us w w') {d d2 : D} {v : Value}
    (hr : RepV c' (memEnv X.bx X.us) w' d v) (he : expo X.ren (X.nms base) d = some d2) : RepV (bctx c c' X base) (memAfter X env base bx1) w' d2 v := by
  cases d <;> first | (cases he; done) | skip
  case agg cs =>
    simp only [expo] at he
    cases h1 : expoL X.ren (X.nms base) cs with
    | none => rw [h1] at he; cases he
    | some cs' =>
      rw [h1] at he; cases he
      obtain ⟨vs, e, hr⟩ := hr
      exact ⟨vs, e, expo_cells N hb M hr h1⟩
  all_goals
    simp only [RepV] at hr
    have := expo_cell (bx1 := bx1) N hb M hr he
    simp only [expo] at he
    first
      | (cases he; exact this)
      | (cases hk : look _ X.ren with
        | none => rw [hk] at he; cases he
        | some k => rw [hk] at he; cases he; exact this)
theorem expo_vals (N : MemNames X env base) (hb : fmlBx X.ren X.rst env = some bx0) (M : MemOut (fctx c X.ren X.rst) c' bx0 X.bx us0 X.us w w') : ∀ {ds ds' : List D} {vs : List Value},
    All2 (RepV c' (memEnv X.bx X.us) w') ds vs → expoL X.ren (X.nms base) ds = some ds' → All2 (RepV (bctx c c' X base) (memAfter X env base bx1) w') ds' vs
  | [], ds', vs, hr, hf => by simp only [expoL, Option.some.injEq] at hf; subst hf; cases vs <;> first | trivial | exact hr.elim
  | d :: ds, ds', [], hr, _ => hr.elim
  | d :: ds, ds', v :: vs, hr, hf => by
    simp only [expoL] at hf
    cases h1 : expo X.ren (X.nms base) d with
    | none => rw [h1] at hf; cases hf
    | some d' =>
      cases h2 : expoL X.ren (X.nms base) ds with
      | none => rw [h1, h2] at hf; cases hf
      | some es =>
        rw [h1, h2] at hf; cases hf
        exact ⟨expo_val N hb M hr.1 h1, expo_vals N hb M hr.2 h2⟩
theorem expo_any (N : MemNames X env base) (hb : fmlBx X.ren X.rst env = some bx0) (M : MemOut (fctx c X.ren X.rst) c' bx0 X.bx us0 X.us w w') {d d2 : D} {v : Value}
    (hr : RepT c' (memEnv X.bx X.us) w' d v) (he : expT X.ren (X.nms base) d = some d2) : RepT (bctx c c' X base) (memAfter X env base bx1) w' d2 v := by
  cases d <;> first | (cases he; done) | skip
  case tup ds =>
    simp only [expT] at he
    cases h1 : expoL X.ren (X.nms base) ds with
    | none => rw [h1] at he; cases he
    | some ds' =>
      rw [h1] at he; cases he
      obtain ⟨vs, e, hr⟩ := hr
      exact ⟨vs, e, expo_vals N hb M hr h1⟩
  all_goals
    simp only [RepT] at hr
    have := expo_val (bx1 := bx1) N hb M hr he
    simp only [expT, expo] at he
    first
      | (cases he; exact this)
      | (cases hk : look _ X.ren with
        | none => rw [hk] at he; cases he
        | some k => rw [hk] at he; cases he; exact this)
      | (cases hk : expoL X.ren (X.nms base) _ with
        | none => rw [hk] at he; cases he
        | some k => rw [hk] at he; cases he; exact this)

theorem expBx_look (h : expBx X.ren (X.nms base) X.bx = some bx1) (s : Nat) : look s bx1 = if s ∈ X.ren.map (·.2) then expB X.ren (X.nms base) X.bx s else none := look_allSome (expB X.ren (X.nms base) X.bx) h s
theorem expB_spec {s : Nat} {b : BoxC} {ren nms : List (Nat × Nat)} {bx : List (Nat × BoxC)} (h : expB ren nms bx s = some b) : ∃ k b0, back s ren = some k ∧ look k bx = some b0 ∧ expoL ren nms b0.cells = some b.cells ∧ b.frozen = b0.frozen := by
  unfold expB at h
  cases h1 : back s ren with
  | none => rw [h1] at h; cases h
  | some k =>
    rw [h1] at h
    simp only at h
    cases h2 : look k bx with
    | none => rw [h2] at h; cases h
    | some b0 =>
      rw [h2] at h
      simp only at h
      cases h3 : expoL ren nms b0.cells with
      | none => rw [h3] at h; cases h
      | some cs => rw [h3] at h; cases h; exact ⟨k, b0, rfl, h2, h3, rfl⟩

theorem St.memAfter (h : St c env a w) (N : MemNames X env base) (hb : fmlBx X.ren X.rst env = some bx0) (hu : fmlUs X.rst env = some us0) (he : expBx X.ren (X.nms base) X.bx = some bx1)
    (M : MemOut (fctx c X.ren X.rst) c' bx0 X.bx us0 X.us w w') : St (bctx c c' X base) (memAfter X env base bx1) a w' := by
  have hpass : ∀ k, passed (fctx c X.ren X.rst) bx0 us0 k → (∃ f s, look f X.ren = some s ∧ (look s env.bx).isSome = true ∧ c.ρ s = k) ∨ ∃ f st, look f X.rst = some st ∧ env.live st ∧ c.σ st = some k := fun k => mem_passed hb hu
  have hpoff : ∀ k, passed (fctx c X.ren X.rst) bx0 us0 k → c.w0.off k := fun k hk => by
    rcases hpass k hk with ⟨f, s, _, h2, rfl⟩ | ⟨f, st, _, h2, h3⟩
    · exact h.above s (.inl h2)
    · exact (h.ownAbove st k h2 h3).1
  -- a variable that is not handed over
  have hnb : ∀ s, env.blk s → s ∉ X.ren.map (·.2) → ¬ passed (fctx c X.ren X.rst) bx0 us0 (c.ρ s) := fun s hs hn hk => by
    rcases hpass _ hk with ⟨f, s', h1, h2, h3⟩ | ⟨f, st, h1, h2, h3⟩
    · have := h.inj s' s (.inl h2) hs h3
      subst this
      exact hn (List.mem_map.2 ⟨_, mem_of_look h1, rfl⟩)
    · exact (h.ownAbove st _ h2 h3).2.2 s hs rfl
  -- a row that is not handed over
  have hnr : ∀ st g, env.live st → st ∉ X.rst.map (·.2) → c.σ st = some g → ¬ passed (fctx c X.ren X.rst) bx0 us0 g := fun st g hl hn hg hk => by
    rcases hpass _ hk with ⟨f, s', h1, h2, h3⟩ | ⟨f, st', h1, h2, h3⟩
    · exact (h.ownAbove st g hl hg).2.2 s' (.inl h2) h3
    · have := h.ownInj st' st g h2 hl h3 hg
      subst this
      exact hn (List.mem_map.2 ⟨_, mem_of_look h1, rfl⟩)
  have hIold : ∀ k, k < w.heap.size → ¬ passed (fctx c X.ren X.rst) bx0 us0 k → ∀ o, c'.I k o → c.I k o := fun k hk hp o ho => by
    rcases M.imNew k o ho with x | x | x
    · exact x
    · exact absurd x hp
    · omega
  have hname : ∀ st, (look st env.us).isSome = true → look st (X.nms base) = none := fun st hs => by
    cases hl : look st (X.nms base) with
    | none => rfl
    | some x =>
      have := (N.n8 _ (mem_of_look hl)).2.1
      simp only at this
      rw [this] at hs; cases hs
  have hbk : ∀ s, (look s (Fw.memAfter X env base bx1).bx).isSome = (look s env.bx).isSome := fun s => by
    show (look s (bx1 ++ env.bx)).isSome = _
    rw [look_append, expBx_look he]
    split
    · rename_i x hx
      split at hx
      · obtain ⟨k, b0, e1, _⟩ := expB_spec hx
        obtain ⟨b, hB⟩ := Option.isSome_iff_exists.1 (allSome_isSome (fmlB X.ren X.rst env) hb k (mem_fst (back_mem e1)))
        obtain ⟨s', b0', e3, e4, _⟩ := fmlB_spec hB
        rw [look_of_mem N.n1 (back_mem e1)] at e3; cases e3
        rw [e4]; rfl
      · cases hx
    · rfl
  have hblk : ∀ s, (Fw.memAfter X env base bx1).blk s ↔ env.blk s := fun s => by
    unfold Env.blk; rw [hbk]; exact Iff.rfl
  have hus : ∀ st, look st env.us ≠ none → look st (Fw.memAfter X env base bx1).us = look st env.us := fun st hs => by
    show look st (nuL X.us base ++ env.us) = _
    rw [look_append]
    have : (look st (nuL X.us base)).isSome = false := by
      rw [nu_nm]
      have := hname st (by cases hl : look st env.us with | none => exact absurd hl hs | some _ => rfl)
      rw [show nmL X.us base = X.nms base from rfl, this]; rfl
    cases hl : look st (nuL X.us base) with
    | none => rfl
    | some x => rw [hl] at this; cases this
  have S : Step c env w (bctx c c' X base) (Fw.memAfter X env base bx1) w' := by
    refine ⟨M.keeps, fun s hs => ⟨by rw [hbk]; exact hs, rfl⟩, fun s hs => ⟨hs, rfl⟩, fun st u hs => ?_, fun st hs => ?_, fun st hl hn => ⟨?_, fun g hg => ?_⟩⟩
    · rw [hus st (by rw [hs]; exact fun e => by cases e)]; exact hs
    · exact List.mem_append_right _ hs
    · simp [bctx, hname st hl.1]
    · have hnp := hnr st g hl (fun e => hn (List.mem_append_left _ e)) hg
      have hlt := (h.ownAbove st g hl hg).2.1
      exact ⟨M.block g hlt hnp, hIold g hlt hnp⟩
  have hlive : ∀ st, (Fw.memAfter X env base bx1).live st → (∃ x, look st (X.nms base) = some x) ∨ (look st (X.nms base) = none ∧ env.live st ∧ st ∉ X.rst.map (·.2)) := fun st ⟨h1, h2⟩ => by
    cases hl : look st (X.nms base) with
    | some x => exact .inl ⟨x, rfl⟩
    | none =>
      refine .inr ⟨rfl, ⟨?_, fun e => h2 (List.mem_append_right _ e)⟩, fun e => h2 (List.mem_append_left _ e)⟩
      have h1 : (look st (nuL X.us base ++ env.us)).isSome = true := h1
      rw [look_append] at h1
      have hn : (look st (nuL X.us base)).isSome = false := by rw [nu_nm, show nmL X.us base = X.nms base from rfl, hl]; rfl
      cases hq : look st (nuL X.us base) with
      | none => rw [hq] at h1; exact h1
      | some _ => rw [hq] at hn; cases hn
  have hsigN : ∀ st x, look st (X.nms base) = some x → (bctx c c' X base).σ st = c'.σ x := fun st x e => by simp [bctx, e]
  have hsigO : ∀ st, look st (X.nms base) = none → (bctx c c' X base).σ st = c.σ st := fun st e => by simp [bctx, e]
  have hxus : ∀ st x, look st (X.nms base) = some x → (look x X.us).isSome = true := fun st x e => by
    obtain ⟨u, _, hu2⟩ := nm_nu e
    rw [look_of_mem (by rw [← nm_snd (n := base)]; exact N.n7) hu2]; rfl
  have hnew : ∀ st x g, look st (X.nms base) = some x → c'.σ x = some g → (passed (fctx c X.ren X.rst) bx0 us0 g ∨ w.heap.size ≤ g) ∧ g < w'.heap.size ∧ ∀ s, (look s X.bx).isSome = true → c'.ρ s ≠ g := fun st x g e hg =>
    ⟨M.row x g (hxus st x e) hg, M.mem.ownLt x g (hxus st x e) hg⟩
  have hrenS : ∀ s, s ∈ X.ren.map (·.2) → ∃ k, (look k X.bx).isSome = true ∧ c'.ρ k = c.ρ s := fun s hs => by
    obtain ⟨b, hB⟩ := Option.isSome_iff_exists.1 (allSome_isSome (expB X.ren (X.nms base) X.bx) he s hs)
    obtain ⟨k, b0, e1, e2, _⟩ := expB_spec hB
    have hl := look_of_mem N.n1 (back_mem e1)
    have h0 : (look k bx0).isSome = true := by rw [fmlBx_look hb, if_pos (mem_fst (back_mem e1))]; exact allSome_isSome (fmlB X.ren X.rst env) hb k (mem_fst (back_mem e1))
    exact ⟨k, by rw [e2]; rfl, by rw [M.slot k h0]; simp [fctx, hl]⟩
  have hkept : KeptF c.w0 w w' := ⟨M.os, M.tape, M.output, M.size, fun k hk => M.block k (h.base.below_of hk) fun hp => hk (hpoff k hp)⟩
  refine ⟨h.nt, h.df, fun t d hd => S.repT (h.tm t d hd), fun t d hd => (h.wt t d hd).step S, fun s b hs => ?_, fun s m hs => ?_, fun s s' h1 h2 e => h.inj s s' ((hblk s).1 h1) ((hblk s').1 h2) e, fun s hs => h.above s ((hblk s).1 hs),
    fun s hs => Nat.lt_of_lt_of_le (h.lt s ((hblk s).1 hs)) M.size, fun s1 s2 g h1 h2 e1 e2 => ?_, fun st g hl hg => ?_, M.mem.im, h.im0.trans S.keeps, fun b o hi => ?_, h.base.trans hkept, h.gh.1, S.fix h.gh.2⟩
  · have hs' : look s (bx1 ++ env.bx) = some b := hs
    rw [look_append, expBx_look he] at hs'
    by_cases hm : s ∈ X.ren.map (·.2)
    · rw [if_pos hm] at hs'
      obtain ⟨b', hB⟩ := Option.isSome_iff_exists.1 (allSome_isSome (expB X.ren (X.nms base) X.bx) he s hm)
      rw [hB] at hs'
      simp only [Option.some.injEq] at hs'
      subst hs'
      obtain ⟨k, b0, e1, e2, e3, e4⟩ := expB_spec hB
      have hl := look_of_mem N.n1 (back_mem e1)
      have h0 : (look k bx0).isSome = true := by rw [fmlBx_look hb, if_pos (mem_fst (back_mem e1))]; exact allSome_isSome (fmlB X.ren X.rst env) hb k (mem_fst (back_mem e1))
      have hρ : c'.ρ k = c.ρ s := by rw [M.slot k h0]; simp [fctx, hl]
      obtain ⟨vs, e, g1, g2, g3, g4⟩ := M.mem.var k b0 e2
      rw [hρ] at g1 g3 g4
      exact ⟨vs, e, g1, expo_cells N hb M g2 e3, fun hf => g3 (by rw [← e4]; exact hf), fun hf => g4 (by rw [← e4]; exact hf)⟩
    · rw [if_neg hm] at hs'
      simp only at hs'
      have hbs : env.blk s := .inl (by rw [hs']; rfl)
      have hnp := hnb s hbs hm
      exact (h.bx s b hs').step S rfl (M.block _ (h.lt s hbs) hnp) (hIold _ (h.lt s hbs) hnp)
  · have hbs : env.blk s := .inr (by rw [show look s env.mp = some m from hs]; rfl)
    have hm : s ∉ X.ren.map (·.2) := fun e => by
      obtain ⟨b', hB⟩ := Option.isSome_iff_exists.1 (allSome_isSome (expB X.ren (X.nms base) X.bx) he s e)
      obtain ⟨k, b0, e1, e2, e3, e4⟩ := expB_spec hB
      obtain ⟨b2, hB2⟩ := Option.isSome_iff_exists.1 (allSome_isSome (fmlB X.ren X.rst env) hb k (mem_fst (back_mem e1)))
      obtain ⟨s', b0', f3, f4, _⟩ := fmlB_spec hB2
      rw [look_of_mem N.n1 (back_mem e1)] at f3; cases f3
      obtain ⟨_, _, p1, _⟩ := h.bx s b0' f4
      obtain ⟨_, _, p2, _⟩ := h.mp s m hs
      rw [p1] at p2; cases p2
    have hnp := hnb s hbs hm
    exact (h.mp s m hs).step S rfl (M.block _ (h.lt s hbs) hnp) (hIold _ (h.lt s hbs) hnp)
  · rcases hlive s1 h1 with ⟨x1, f1⟩ | ⟨f1, l1, r1⟩ <;> rcases hlive s2 h2 with ⟨x2, f2⟩ | ⟨f2, l2, r2⟩
    · rw [hsigN _ _ f1] at e1; rw [hsigN _ _ f2] at e2
      have := M.mem.ownInj x1 x2 g (hxus _ _ f1) (hxus _ _ f2) e1 e2
      subst this
      have b1 := back_of_mem N.n7 (mem_of_look f1)
      have b2 := back_of_mem N.n7 (mem_of_look f2)
      rw [b1] at b2; exact Option.some.inj b2
    · rw [hsigN _ _ f1] at e1; rw [hsigO _ f2] at e2
      rcases (hnew _ _ _ f1 e1).1 with x | x
      · exact absurd x (hnr s2 g l2 r2 e2)
      · have := (h.ownAbove s2 g l2 e2).2.1; omega
    · rw [hsigO _ f1] at e1; rw [hsigN _ _ f2] at e2
      rcases (hnew _ _ _ f2 e2).1 with x | x
      · exact absurd x (hnr s1 g l1 r1 e1)
      · have := (h.ownAbove s1 g l1 e1).2.1; omega
    · rw [hsigO _ f1] at e1; rw [hsigO _ f2] at e2
      exact h.ownInj s1 s2 g l1 l2 e1 e2
  · rcases hlive st hl with ⟨x, f⟩ | ⟨f, l, r⟩
    · rw [hsigN _ _ f] at hg
      obtain ⟨k1, k2, k3⟩ := hnew _ _ _ f hg
      refine ⟨k1.elim (hpoff g) fun e => h.base.new e, k2, fun s hs e => ?_⟩
      have hs := (hblk s).1 hs
      by_cases hm : s ∈ X.ren.map (·.2)
      · obtain ⟨k, q1, q2⟩ := hrenS s hm
        exact k3 k q1 (q2.trans e)
      · rcases k1 with y | y
        · exact hnb s hs hm (by rw [show c.ρ s = g from e]; exact y)
        · have := h.lt s hs
          rw [show c.ρ s = g from e] at this; omega
    · rw [hsigO _ f] at hg
      obtain ⟨k1, k2, k3⟩ := h.ownAbove st g l hg
      exact ⟨k1, Nat.lt_of_lt_of_le k2 M.size, fun s hs => k3 s ((hblk s).1 hs)⟩
  · rcases M.imNew b o hi with x | x | x
    · exact h.imNew b o x
    · exact .inr (hpoff b x)
    · exact .inr (h.base.new x)
end
end Go.Proofs.Ytndijidmabfhcaa.Fw

/- Operations in order. -/
namespace Go.Proofs.Ytndijidmabfhcaa.Fw
open Go Go.RowKit

section
variable {P : Program} {T : Ty} {c : Ctx} {env : Env} {a : Act} {w : World} {rr : Option Nat} {n : Nat} {ops : Array Oper}

theorem gcond_sound (ok : Nat → Bool) (h : St c env a w) : ∀ (n : Nat) (g : Option (Nat × Bool)), GOK a g → gcond ok n env.wt env.tm g
  | 0, _, _ => trivial
  | _ + 1, none, _ => trivial
  | n + 1, some (s, b), hg => by
    have hb := hg s b rfl
    simp only [gcond]
    cases hok : ok s with
    | false => trivial
    | true =>
    cases hw : look s env.wt with
    | some d =>
      have hW := h.wt s d hw
      cases d <;> first | exact hW.elim | skip
      rename_i s' b' d
      have hs' : a.tmps.getD s' undef = .bool b' := by
        apply Classical.byContradiction
        intro hne
        have := hW.2 hne
        rw [hb] at this
        cases this
      refine ⟨?_, gcond_sound ok h n (some (s', b')) fun s1 b1 e => by cases e; exact hs'⟩
      have hr := hW.1 hs'
      rw [hb] at hr
      cases d <;> first | trivial | skip
      have := repT_bool hr
      injection this with this; exact this.symm
    | none =>
      simp only
      cases ht : look s env.tm with
      | none => trivial
      | some d =>
        have hr := h.tm s d ht
        rw [hb] at hr
        cases d <;> first | trivial | skip
        have := repT_bool hr
        injection this with this; exact this.symm

theorem doesP_K {g : Option (Nat × Bool)} {ρ : Operand → D} {bx : List (Nat × BoxC)} {mp : List (Nat × MapC)} {dst : Nat} {op : Op} {gc : Prop} {K : Res → Prop} (h : doesP P T g ρ bx mp dst op gc K) : ∃ r, K r := by
  unfold doesP at h
  split at h
  · split at h
    · obtain ⟨d, _, hk⟩ := h; exact ⟨_, hk⟩
    · exact h.elim
  · split at h
    · exact ⟨_, (sideB_iff.1 h).2⟩
    · exact ⟨_, deadK_K h⟩

theorem wanted_none {o : Oper} (h : o.guard = none) (y : Nat → Option Bool) : Region.wanted o y = true := by simp [Region.wanted, h]

theorem wanted_some {o p : Oper} {j s : Nat} {b : Bool} (h : o.guard = some (j, b)) (hp : ops[j]? = some p) (hs : p.dst = some s) : Region.wanted o (yielded ops a.tmps) = true ↔ a.tmps.getD s undef = .bool b := by
  have e : a.tmps.getD s undef = (a.tmps[s]?).getD undef := by rw [Array.getD_eq_getD_getElem?]
  simp only [Region.wanted, h, yielded, hp, hs, Option.bind_some]
  rw [e]
  cases hv : a.tmps[s]? with
  | none => simp [undef]
  | some v =>
    cases v <;> simp

theorem memR_plain {dst : Nat} {r : Res} (h : r.plain = true) : memR env dst r = some (env, r.d) := by
  obtain ⟨side, d, bx, mp, fz, fm, kill, own⟩ := r
  simp only [Res.plain, Bool.and_eq_true, Option.isNone_iff_eq_none, List.isEmpty_iff] at h
  obtain ⟨⟨⟨⟨rfl, rfl⟩, rfl⟩, rfl⟩, rfl⟩ := h
  simp [memR, frzM, frzB]

theorem gslot_spec {o : Oper} {g : Option (Nat × Bool)} (h : gslot ops o = some g) : (o.guard = none ∧ g = none) ∨ ∃ j b p s, o.guard = some (j, b) ∧ ops[j]? = some p ∧ p.dst = some s ∧ g = some (s, b) := by
  unfold gslot at h
  cases hg : o.guard with
  | none => rw [hg] at h; simp only [Option.some.injEq] at h; exact .inl ⟨rfl, h.symm⟩
  | some q =>
    obtain ⟨j, b⟩ := q
    rw [hg] at h
    simp only at h
    cases hp : ops[j]? with
    | none => rw [hp] at h; cases h
    | some p =>
      rw [hp] at h
      simp only at h
      cases hs : p.dst with
      | none => rw [hs] at h; cases h
      | some s => rw [hs] at h; simp only [Option.some.injEq] at h; exact .inr ⟨j, b, p, s, rfl, hp, hs, h.symm⟩

/-- A value operation in its place. -/
theorem value_sound (hT : TyOK P T) (h : St c env a w) {ρ : Operand → D} (hρ : ∀ x, RepX c env w a.tmps (ρ x) (a.eval x)) {bx0 : List (Nat × BoxC)} (hbx : ∀ s b, look s bx0 = some b → look s env.bx = some b) {i : Nat} {o : Oper} (ho : ops[i]? = some o) {dst : Nat} (hdst : o.dst = some dst) {g : Option (Nat × Bool)} (hg : gslot ops o = some g) {K0 : Res → Prop} {gc : Prop} (hgc : GOK a g → gc)
    (hd : doesP P T g ρ bx0 env.mp dst o.op gc K0) {K : Act → World → Prop} {Q : Exit → Act → World → Prop}
    (hK : ∀ r env' c' a' w', K0 r → memG env dst g r = some env' → c.Next c' → St c' env' a' w' → K a' w') (hK0 : ∀ r, K0 r → ∃ env', memG env dst g r = some env') : wpOpIn (Fr rr) n P ops Q i K a w := by
  unfold wpOpIn
  simp only [ho]
  rcases gslot_spec hg with ⟨hgd, rfl⟩ | ⟨j, b, p, s, hgd, hp, hs, rfl⟩
  · rw [if_pos (wanted_none hgd _)]
    have hG : GOK a none := fun s b e => by cases e
    obtain ⟨r, hr, hk⟩ := does_sound (rr := rr) (n := n) hT h hG hρ hbx hdst (hgc hG) hd
    obtain ⟨env', he⟩ := hK0 r hr
    have hm := he
    simp only [memG] at hm
    cases hmr : memR env dst r with
    | none => rw [hmr] at hm; cases hm
    | some q =>
      obtain ⟨env1, d⟩ := q
      rw [hmr] at hm
      exact hk env1 d hmr K Q fun v w' c' h1 h2 h3 => hK r env' c' _ w' hr he h1 (h2.put h3 hm)
  · have hw := wanted_some (a := a) hgd hp hs
    by_cases hb : Region.wanted o (yielded ops a.tmps) = true
    · rw [if_pos hb]
      have hv := hw.1 hb
      have hG : GOK a (some (s, b)) := fun s' b' e => by cases e; exact hv
      obtain ⟨r, hr, hk⟩ := does_sound (rr := rr) (n := n) hT h hG hρ hbx hdst (hgc hG) hd
      obtain ⟨env', he⟩ := hK0 r hr
      have hm := he
      simp only [memG] at hm
      cases hpl : r.plain with
      | false => rw [hpl] at hm; cases hm
      | true =>
        rw [hpl, cond_true] at hm
        exact hk env r.d (memR_plain hpl) K Q fun v w' c' h1 h2 h3 => hK r env' c' _ w' hr he h1 (h2.putW (fun _ => h3) (fun hne => absurd hv hne) hm)
    · rw [if_neg hb]
      refine ⟨fun _ _ => trivial, ?_⟩
      obtain ⟨r, hr⟩ := doesP_K hd
      obtain ⟨env', he⟩ := hK0 r hr
      have hm := he
      simp only [memG] at hm
      cases hpl : r.plain with
      | false => rw [hpl] at hm; cases hm
      | true =>
        rw [hpl, cond_true] at hm
        have hne : a.tmps.getD s undef ≠ .bool b := fun e => hb (hw.2 e)
        rw [hdst]
        exact hK r env' c _ w hr he (.refl c) (h.putW (fun e => absurd e hne) (fun _ => rfl) hm)

/-- A yield. -/
theorem yield_sound (h : St c env a w) (hG : GYield P c.w0) {o : Oper} {l : Nat} {ds : List D} (hy : yldOf env o.op = some (l, ds)) {rest : List (List D)} (hys : env.ys = some (l, ds :: rest)) {dst : Nat} (hdst : o.dst = some dst) {K : Act → World → Prop} {Q : Exit → Act → World → Prop}
    (ht : ∃ env', memG { env with ys := some (l, rest) } dst none { d := .bool true } = some env' ∧ ∀ c' a' w', c.Grow c' → St c' env' a' w' → K a' w')
    (hf : ∃ env', memG { env with ys := none } dst none { d := .bool false } = some env' ∧ ∀ c' a' w', c.Grow c' → St c' env' a' w' → K a' w') : o.wpIn (Fr rr) n P a w K Q := by
  obtain ⟨odst, op, ty, pos, after, guard⟩ := o
  have hdst : odst = some dst := hdst
  subst hdst
  unfold yldOf at hy
  cases hcf : callOf op with
  | none => simp only at hy; rw [hcf] at hy; cases hy
  | some cl0 =>
  simp only at hy
  rw [hcf] at hy
  unfold callOf at hcf
  cases op <;> (try simp only at hcf) <;> first | (cases hcf; done) | skip
  rename_i cl
  obtain ⟨callee, args, argTypes⟩ := cl
  cases callee <;> (try simp only at hcf) <;> first | (cases hcf; done) | skip
  rename_i f
  simp only [Option.some.injEq] at hcf
  subst hcf
  simp only at hy
  have hv : ∀ x, RepT c env w (unw none (tv env.wt env.tm x)) (a.eval x) := fun x => rep_tv h (fun s b e => by cases e) x
  have hfv := hv f
  cases hfd : unw none (tv env.wt env.tm f) <;> rw [hfd] at hy hfv <;> (try simp only at hy) <;> first | (cases hy; done) | skip
  rename_i l'
  split at hy
  case h_2 => cases hy
  rename_i ds' hcl hcm
  simp only [Option.some.injEq, Prod.mk.injEq] at hy
  obtain ⟨rfl, rfl⟩ := hy
  have hfv : a.eval f = .func (.yield l') #[] #[] := by simpa [RepT, RepV, RepC, Rep] using hfv
  have hargs : All2 (RepT c env w) (args.toList.map fun x => unw none (tv env.wt env.tm x)) (args.toList.map a.eval) := all2_map hv args.toList
  obtain ⟨g1, g2⟩ := clo_vals h hargs hcl (fun x hx s hs m hl => by
    have : s ∈ (args.toList.map fun x => unw none (tv env.wt env.tm x)).flatMap cloM := List.mem_flatMap.2 ⟨x, hx, hs⟩
    rw [hcm] at this; cases this)
  let own : Nat → Prop := fun k => ownB c env k ∨ k ∈ c.w0.mks
  have hownlt : ∀ k, own k → k < w.heap.size ∧ ¬ c.w0.far k := by
    rintro k (hk | hk)
    · exact ⟨ownB_lt h hk, (ownB_off h hk).1⟩
    · exact ⟨(Array.getElem?_eq_some_iff.1 (h.base.marks k hk)).1, h.base.disj k hk⟩
  obtain ⟨fn, tmps, assign, body, hrun, hR⟩ := hG.2 l' ds' rest c.w0.far c.w0.wd c.I0 c.I w own (args.toList.map a.eval) (n - 1) (by rw [← hys]; exact h.gh.1) h.base.os h.base.tape h.base.output h.base.grow h.base.block h.im0 (fun b o hi => (h.imNew b o hi).imp id fun x => x.1) h.im hownlt (all2_repL.2 g1) g2
  have hexec : (execOp a.eval { dst := some dst, op := .call ⟨.value f, args, argTypes⟩, type := ty, pos, after, guard }).run P w = .ok (.round l' fn tmps assign body) w := by
    have e1 : args.map a.eval = ⟨args.toList.map a.eval⟩ := by apply Array.ext'; simp
    simp only [execOp, resolve, hfv, Deferred.ofValue, Sem.run_bind, Sem.run_pure, Result.andThen_ok, invoke]
    rw [e1]; simpa using hrun
  refine ⟨fun _ _ => trivial, ?_⟩
  rw [Oper.semAt_eq _ _ _ (by intro c e; cases e), hexec, Oper.uponIn_round]
  refine ⟨fun h => (by cases h), ?_⟩
  refine (show RoundIn (Fr rr) (n - 1) P l' fn tmps assign body w _ ↔ RoundIn Fence.wide (n - 1) P l' fn tmps assign body w _ from Iff.rfl).2 (hR.mono ?_)
  rintro e w' ⟨hback, he⟩
  have hlpn : c.w0.lp = none := hG.1.resolve_right fun x => by have := x _ _ _ _ h.gh.1; rw [hys] at this; cases this
  have hmv : ∀ ys', c.w0.G ys' (fun k => k < w'.heap.size ∧ ¬ own k) w' c.I → ∃ c', c.Grow c' ∧ St c' { env with ys := ys' } a w' := by
    intro ys' hg
    have hm := (h.move (I' := c.I) (I0' := c.I) (w' := w') (r' := { c.w0 with wd := w', far := fun k => k < w'.heap.size ∧ ¬ own k }) (ys' := ys') (df' := c.df) hback.size (fun k hk => hback.same k (.inl hk)) hback.keeps (fun _ _ x => .inl x)
      (fun b o hi => Nat.lt_of_lt_of_le (h.im b o hi) hback.size) (fun k hk => ⟨fun x => x.2 (.inl hk), (ownB_off h hk).2⟩)
      ⟨rfl, rfl, rfl, Nat.le_refl _, fun _ x => x.1, fun _ _ => rfl, fun k hk => (hback.same k (.inr hk)).trans (h.base.marks k hk), h.base.nodup, fun k hk x => x.2 (.inr hk), fun l hl => by rw [show c.w0.lp = some l from hl] at hlpn; cases hlpn⟩
      (Keeps.refl _ _) (fun _ _ x => .inl x) h.df.2 ⟨hg, h.gh.2⟩).1
    have ea : ({ a with defers := c.df } : Act) = a := by rw [← h.df.1]
    rw [ea] at hm
    refine ⟨_, ?_, hm⟩
    exact ⟨rfl, rfl, rfl, fun _ => rfl⟩
  have hput : ∀ (ys' : Option (Nat × List (List D))) (b : Bool) (env' : Env) c', St c' { env with ys := ys' } a w' → memG { env with ys := ys' } dst none { d := .bool b } = some env' → St c' env' (a.put (some dst) (.bool b)) w' := by
    intro ys' b env' c' hs hm
    simp only [memG] at hm
    rw [memR_plain rfl] at hm
    exact hs.put (by simp [RepT, RepV, RepC, Rep]) hm
  rcases he with ⟨rfl, hg⟩ | ⟨rfl, hg⟩
  · obtain ⟨env', hm, hk⟩ := ht
    obtain ⟨c', hgr, hs⟩ := hmv _ hg
    exact hk c' _ w' hgr (hput _ _ _ _ hs hm)
  · obtain ⟨env', hm, hk⟩ := hf
    obtain ⟨c', hgr, hs⟩ := hmv _ hg
    exact hk c' _ w' hgr (hput _ _ _ _ hs hm)

/-- A call that is handed rows and variables. -/
theorem mem_sound (h : St c env a w) {o : Oper} {f : Nat} {ds caps : List D} (hm : memOf T env o.op = some (f, ds, caps)) {dst : Nat} (hdst : o.dst = some dst) {K0 : Env → Prop} (hd : evMem P f ds caps env dst K0) {K : Act → World → Prop} {Q : Exit → Act → World → Prop}
    (hK : ∀ env' c' a' w', K0 env' → c.Grow c' → St c' env' a' w' → K a' w') : o.wpIn (Fr rr) n P a w K Q := by
  obtain ⟨odst, op, ty, pos, after, guard⟩ := o
  have hdst : odst = some dst := hdst
  subst hdst
  simp only at hm
  unfold memOf at hm
  cases hcf : callOf op with
  | none => rw [hcf] at hm; cases hm
  | some cl0 =>
  rw [hcf] at hm
  unfold callOf at hcf
  cases op <;> (try simp only at hcf) <;> first | (cases hcf; done) | skip
  rename_i cl
  obtain ⟨callee, args, argTypes⟩ := cl
  cases callee <;> (try simp only at hcf) <;> first | (cases hcf; done) | skip
  rename_i fo
  simp only [Option.some.injEq] at hcf
  subst hcf
  simp only at hm
  have hv : ∀ x, RepT c env w (unw none (tv env.wt env.tm x)) (a.eval x) := fun x => rep_tv h (fun s b e => by cases e) x
  have hfv := hv fo
  cases hfd : unw none (tv env.wt env.tm fo) <;> rw [hfd] at hm hfv <;> (try simp only at hm) <;> first | (cases hm; done) | skip
  rename_i fid caps0
  cases hmem : T.mem fid with
  | false => rw [hmem] at hm; cases hm
  | true =>
  rw [hmem] at hm
  simp only [Option.some.injEq, Prod.mk.injEq] at hm
  obtain ⟨rfl, rfl, rfl⟩ := hm
  simp only [RepT, RepV, RepC, Rep] at hfv
  obtain ⟨cvs, hfv, hcaps⟩ := hfv
  obtain ⟨X, hd⟩ := hd
  split at hd
  · rename_i bx0 us0 ds0 bx1 d1 e1 e2 e3 e4 e5
    simp only [fB_iff, fU_iff, fL_iff] at hd
    obtain ⟨h1, ⟨⟨fn, hfn, hname, hbody⟩, hcall⟩, h3⟩ := hd
    have N := memOK_spec h1
    cases hs : Env.set (memAfter X env (env.nt + 16 * dst) bx1) dst none d1 with
    | none => rw [hs] at h3; exact h3.elim
    | some env' =>
    rw [hs] at h3
    have hargs : All2 (RepT c env w) (args.toList.map fun x => unw none (tv env.wt env.tm x)) (args.toList.map a.eval) := all2_map hv args.toList
    have g1 := fml_vals e1 e2 N.n1 N.n3 N.n5 hargs e3
    have g2 : All2 (RepT (fctx c X.ren X.rst) (memEnv bx0 us0) w) caps0 cvs := All2.mono (fun _ _ hr => rep_repT (c := fctx c X.ren X.rst) (env := memEnv bx0 us0) hr) (all2_repL.1 hcaps)
    have hC := hcall (fctx c X.ren X.rst) w _ (h.mem e1 e2 N.n1 N.n3 N.n5 N.n2 N.n4) (g1.append g2)
    have hrun : (execOp a.eval { dst := some dst, op := .call ⟨.value fo, args, argTypes⟩, type := ty, pos, after, guard }).run P w = .ok (.enter fid ⟨args.toList.map a.eval ++ cvs⟩) w := by
      have e1 : args.map a.eval ++ (⟨cvs⟩ : Array Value) = ⟨args.toList.map a.eval ++ cvs⟩ := by apply Array.ext'; simp
      simp only [execOp, resolve, hfv, Deferred.ofValue, Sem.run_bind, Sem.run_pure, Result.andThen_ok, invoke, callFunc]
      rw [← e1]
      have hb : fn.body ≠ none := fun e => by rw [e] at hbody; cases hbody
      simp [hfn, hname, hb]
    refine ⟨fun _ _ => trivial, ?_⟩
    rw [Oper.semAt_eq _ _ _ (by intro c e; cases e), hrun]
    refine ⟨fun h => (by cases h), fr_calls.2 (Calls.mono hC fun e w' he => ?_)⟩
    obtain ⟨v, c', rfl, M, hr⟩ := he
    have h2 := h.memAfter N e1 e2 e4 M
    exact hK env' (bctx c c' X (env.nt + 16 * dst)) _ w' h3 ⟨rfl, rfl, rfl, fun _ => rfl⟩ (h2.put (expo_any N e1 M hr e5) hs)
  · exact hd.elim

theorem evOp_sound (hT : TyOK P T) (h : St c env a w) (hG : GYield P c.w0) {i : Nat} {o : Oper} (ho : ops[i]? = some o) {K0 : Env → Prop} (hd : evOp P T ops o env K0) {K : Act → World → Prop} {Q : Exit → Act → World → Prop}
    (hK : ∀ env' c' a' w', K0 env' → c.Grow c' → St c' env' a' w' → K a' w') : wpOpIn (Fr rr) n P ops Q i K a w := by
  unfold evOp at hd
  cases hg : gslot ops o with
  | none => rw [hg] at hd; exact hd.elim
  | some g =>
    rw [hg] at hd
    simp only at hd
    have hval : (match o.dst with
        | some dst => doesP P T g (tv env.wt env.tm) env.bx env.mp dst o.op (gcond (fun _ => true) 8 env.wt env.tm g) fun r => match memG env dst g r with
          | some env' => K0 env'
          | none => False
        | none => False) → wpOpIn (Fr rr) n P ops Q i K a w := by
      intro hd
      cases hdst : o.dst with
      | none => rw [hdst] at hd; exact hd.elim
      | some dst =>
        rw [hdst] at hd
        refine value_sound hT h (rep_tvX h) (fun _ _ h => h) ho hdst hg (gcond_sound _ h 8 g) hd (fun r env' c' a' w' hr he h1 h2 => ?_) (fun r hr => ?_)
        · rw [he] at hr; exact hK env' c' a' w' hr h1.grow h2
        · cases he : memG env dst g r with
          | none => rw [he] at hr; exact hr.elim
          | some env' => exact ⟨env', rfl⟩
    have hskip : ∀ {w' : World} {env' : Env}, g = none → o.dst = none → (∀ c, o.op ≠ .defer c) → (execOp a.eval o).run P w = .ok .skip w' → St c env' a w' → K0 env' → wpOpIn (Fr rr) n P ops Q i K a w := by
      intro w' env' e1 e2 hnd hrun hst hk
      subst e1
      unfold wpOpIn
      simp only [ho]
      rcases gslot_spec hg with ⟨hgd, _⟩ | ⟨j, b, p, s, _, _, _, e⟩
      · rw [if_pos (wanted_none hgd _)]
        refine wpIn_of_skip hnd hrun ?_
        rw [e2]
        exact hK env' c a w' hk (.refl c) hst
      · cases e
    have hv : ∀ x, RepT c env w (unw none (tv env.wt env.tm x)) (a.eval x) := fun x => rep_tv h (fun s b e => by cases e) x
    split at hd
    · rename_i t ad x hop
      cases hgn : g with
      | some _ => rw [hgn] at hd; exact hd.elim
      | none =>
        cases hdst : o.dst with
        | some _ => rw [hgn, hdst] at hd; exact hd.elim
        | none =>
          rw [hgn, hdst] at hd
          simp only at hd
          cases hs : storeR T env t (unw none (tv env.wt env.tm ad)) (unw none (tv env.wt env.tm x)) with
          | none => rw [hs] at hd; exact hd.elim
          | some env' =>
            rw [hs] at hd
            obtain ⟨w', h1, h2⟩ := h.store hT (hv ad) (hv x) hs
            exact hskip hgn hdst (by rw [hop]; intro c e; cases e) (by simp [execOp, hop, h1]) h2 hd
    · rename_i t m k x hop
      cases hgn : g with
      | some _ => rw [hgn] at hd; exact hd.elim
      | none =>
        cases hdst : o.dst with
        | some _ => rw [hgn, hdst] at hd; exact hd.elim
        | none =>
          rw [hgn, hdst] at hd
          simp only [fD_iff] at hd
          cases hs : mapUpR T env t (unw none (tv env.wt env.tm m)) (unw none (tv env.wt env.tm k)) (unw none (tv env.wt env.tm x)) with
          | none => rw [hs] at hd; exact hd.elim
          | some q =>
            obtain ⟨sd, env'⟩ := q
            rw [hs] at hd
            obtain ⟨rfl, hd⟩ := hd
            obtain ⟨w', h1, h2⟩ := h.mapUp hT (hv m) (hv k) (hv x) hs
            exact hskip hgn hdst (by rw [hop]; intro c e; cases e) (by simp [execOp, hop, h1]) h2 hd
    · cases hdst : o.dst with
      | none => rw [hdst] at hd; exact hd.elim
      | some dst =>
        rw [hdst] at hd
        simp only at hd
        cases hy : yldOf env o.op with
        | none =>
          rw [hy] at hd
          cases hmo : memOf T env o.op with
          | none =>
            rw [hmo] at hd
            refine hval ?_
            rw [hdst]; exact doesF_iff.1 hd
          | some q =>
            obtain ⟨f, ds, caps⟩ := q
            rw [hmo] at hd
            cases hgn : g with
            | some _ => rw [hgn] at hd; exact hd.elim
            | none =>
              rw [hgn] at hd
              simp only [fL_iff] at hd
              subst hgn
              unfold wpOpIn
              simp only [ho]
              rcases gslot_spec hg with ⟨hgd, _⟩ | ⟨j, b, p, s, _, _, _, e⟩
              · rw [if_pos (wanted_none hgd _)]
                exact mem_sound h hmo hdst hd hK
              · cases e
        | some ld =>
          obtain ⟨l, ds⟩ := ld
          rw [hy] at hd
          simp only at hd
          cases hgn : g with
          | some _ => rw [hgn] at hd; exact hd.elim
          | none =>
            rw [hgn] at hd
            cases hys : env.ys with
            | none => rw [hys] at hd; exact hd.elim
            | some lx =>
              obtain ⟨l', xs⟩ := lx
              cases xs with
              | nil => rw [hys] at hd; exact hd.elim
              | cons x rest =>
                rw [hys] at hd
                simp only at hd
                obtain ⟨⟨rfl, rfl⟩, h1, h2⟩ := hd
                subst hgn
                unfold wpOpIn
                simp only [ho]
                rcases gslot_spec hg with ⟨hgd, _⟩ | ⟨j, b, p, s, _, _, _, e⟩
                · rw [if_pos (wanted_none hgd _)]
                  refine yield_sound h hG hy hys hdst ?_ ?_
                  · cases hm : memG { env with ys := some (l, rest) } dst none { d := .bool true } with
                    | none => rw [hm] at h1; exact h1.elim
                    | some env' => rw [hm] at h1; exact ⟨env', rfl, fun c' a' w' hgr hs => hK env' c' a' w' h1 hgr hs⟩
                  · cases hm : memG { env with ys := none } dst none { d := .bool false } with
                    | none => rw [hm] at h2; exact h2.elim
                    | some env' => rw [hm] at h2; exact ⟨env', rfl, fun c' a' w' hgr hs => hK env' c' a' w' h2 hgr hs⟩
                · cases e

theorem St.end (h : St c env a w) : St c env.end a w := h.endRegion

theorem evOps_sound (hT : TyOK P T) {K0 : Env → Prop} {Q : Exit → Act → World → Prop} : ∀ {os : List Oper} {is : List Nat} {env : Env} {c : Ctx} {a : Act} {w : World}, All2 (fun o i => ops[i]? = some o) os is → St c env a w → GYield P c.w0 → evOps P T ops os env K0 →
    (∀ env' c' a' w', K0 env' → c.Grow c' → St c' env' a' w' → Q .normal a' w') → wpOpsIn (Fr rr) n P ops Q is a w
  | [], [], env, c, a, w, _, h, _, hd, hK => hK _ c a w ((fE_iff _ _).1 hd) (.refl c) h.end
  | o :: os, i :: is, env, c, a, w, hi, h, hG, hd, hK => by
    rw [wpOpsIn_cons]
    refine evOp_sound hT h hG hi.1 hd fun env' c' a' w' hk hn hst => ?_
    exact evOps_sound hT hi.2 hst (hG.grow hn) ((fE1_iff _ _).1 hk) fun e2 c2 a2 w2 k2 n2 s2 => hK e2 c2 a2 w2 k2 (hn.trans n2) s2
  | [], _ :: _, _, _, _, _, hi, _, _, _, _ => hi.elim
  | _ :: _, [], _, _, _, _, hi, _, _, _, _ => hi.elim
end

end Go.Proofs.Ytndijidmabfhcaa.Fw

/- At the head of a loop. -/
namespace Go.Proofs.Ytndijidmabfhcaa.Fw
open Go Go.RowKit

theorem look_map {β : Type} (F : Nat → β) : ∀ {ts : List Nat} {t : Nat} {d : β}, look t (ts.map fun t => (t, F t)) = some d → d = F t
  | [], t, d, h => by simp [look] at h
  | x :: ts, t, d, h => by
    rw [List.map_cons, look_cons] at h
    split at h
    · rename_i e; subst e; exact (Option.some.inj h).symm
    · exact look_map F h

theorem usOf_spec {us : List (Nat × Nat)} : ∀ {l : List Nat} {i : Nat} {r : List (Nat × Nat)}, usOf us l i = some r →
    (∀ s u, look s r = some u → ∃ k st, s = 2 * (i + k) + 2 ∧ l[k]? = some st ∧ look st us = some u) ∧ (∀ k st, l[k]? = some st → ∃ u, look st us = some u ∧ look (2 * (i + k) + 2) r = some u)
  | [], i, r, h => by
    simp only [usOf, Option.some.injEq] at h; subst h
    exact ⟨fun s u h => by simp [look] at h, fun k st h => by simp at h⟩
  | x :: l, i, r, h => by
    simp only [usOf] at h
    cases hx : look x us with
    | none => rw [hx] at h; cases h
    | some u =>
      cases hr : usOf us l (i + 1) with
      | none => rw [hx, hr] at h; cases h
      | some r2 =>
        rw [hx, hr] at h
        simp only [Option.some.injEq] at h; subst h
        obtain ⟨h1, h2⟩ := usOf_spec hr
        refine ⟨fun s v hs => ?_, fun k st hk => ?_⟩
        · rw [look_cons] at hs
          split at hs
          · rename_i e; cases hs
            exact ⟨0, x, by omega, rfl, hx⟩
          · obtain ⟨k, st, e1, e2, e3⟩ := h1 s v hs
            exact ⟨k + 1, st, by omega, by simpa using e2, e3⟩
        · cases k with
          | zero =>
            simp only [List.getElem?_cons_zero, Option.some.injEq] at hk; subst hk
            exact ⟨u, hx, by rw [look_cons, if_pos (by omega)]⟩
          | succ k =>
            obtain ⟨v, e1, e2⟩ := h2 k st (by simpa using hk)
            exact ⟨v, e1, by rw [look_cons, if_neg (by omega), show i + (k + 1) = i + 1 + k from by omega]; exact e2⟩

theorem idxOf_spec {x : Nat} : ∀ {l : List Nat} {i k : Nat}, idxOf x l i = some k → ∃ j, k = i + j ∧ l[j]? = some x
  | [], i, k, h => by simp [idxOf] at h
  | y :: l, i, k, h => by
    simp only [idxOf] at h
    cases hb : Nat.beq x y with
    | true =>
      rw [hb, cond_true, Option.some.injEq] at h
      exact ⟨0, by omega, by rw [nbeq.1 hb]; rfl⟩
    | false =>
      rw [hb, cond_false] at h
      obtain ⟨j, e1, e2⟩ := idxOf_spec h
      exact ⟨j + 1, by omega, by simpa using e2⟩

theorem distinct_spec : ∀ {l : List Nat}, distinct l = true → ∀ (i j x : Nat), l[i]? = some x → l[j]? = some x → i = j
  | [], _, i, j, x, h, _ => by simp at h
  | y :: l, hd, i, j, x, hi, hj => by
    simp only [distinct, Bool.and_eq_true, Bool.not_eq_true', List.contains_eq_mem, decide_eq_false_iff_not] at hd
    cases i with
    | zero =>
      cases j with
      | zero => rfl
      | succ j =>
        simp only [List.getElem?_cons_zero, Option.some.injEq] at hi; subst hi
        exact absurd (List.mem_of_getElem? (by simpa using hj)) hd.1
    | succ i =>
      cases j with
      | zero =>
        simp only [List.getElem?_cons_zero, Option.some.injEq] at hj; subst hj
        exact absurd (List.mem_of_getElem? (by simpa using hi)) hd.1
      | succ j => rw [distinct_spec hd.2 i j x (by simpa using hi) (by simpa using hj)]

theorem restamp_spec (dd l : List Nat) (st : Nat) : (st ≤ 1 ∧ restamp dd l st = st) ∨ restamp dd l st = 0 ∨ (2 ≤ st ∧ st ∉ dd ∧ ∃ i, l[i]? = some st ∧ restamp dd l st = 2 * i + 2) := by
  unfold restamp
  cases h1 : Nat.ble st 1 with
  | true => exact .inl ⟨Nat.le_of_ble_eq_true h1, rfl⟩
  | false =>
    have h1' : ¬ st ≤ 1 := fun h => by rw [Nat.ble_eq_true_of_le h] at h1; cases h1
    rw [cond_false]
    cases h2 : dd.contains st with
    | true => exact .inr (.inl rfl)
    | false =>
      rw [cond_false]
      cases h3 : idxOf st l 0 with
      | none => exact .inr (.inl rfl)
      | some i =>
        obtain ⟨j, e1, e2⟩ := idxOf_spec h3
        refine .inr (.inr ⟨by omega, by simpa using h2, j, e2, ?_⟩)
        simp only; omega

section
variable {P : Program} {T : Ty} {c : Ctx} {env : Env} {a : Act} {w : World}

/-- What stays where it is goes on. -/
def Covers (r : Root) (bs ms : List Nat) : Prop := ∀ k s b, r.fix k s = some b → match k with | true => s ∈ bs | false => s ∈ ms

theorem St.canonW' (h : St c env a w) {ts bs ms l : List Nat} {env' : Env} (hc : canonW ts bs ms l env = some env') (hcov : Covers c.w0 bs ms) : ∃ c', c.Next c' ∧ St c' env' a w ∧ c'.ρ = c.ρ ∧ c'.I = c.I ∧ (∀ s, (look s env'.bx).isSome = true ↔ s ∈ bs) ∧ (∀ s, (look s env'.mp).isSome = true ↔ s ∈ ms) ∧ (∀ k, ownB c' env' k → ownB c env k) ∧ env'.nt = env.nt ∧ env'.ys = env.ys := by
  unfold Fw.canonW at hc
  cases hbx : allSome (bs.map fun s => (canonBx (restamp env.dd l) bs ms env.bx s).map fun b => (s, b)) with
  | none => rw [hbx] at hc; cases hc
  | some bx' =>
  cases hmp : allSome (ms.map fun s => (look s env.mp).map fun m => (s, m)) with
  | none => rw [hbx, hmp] at hc; cases hc
  | some mp' =>
  cases hus : usOf env.us l 0 with
  | none => rw [hbx, hmp, hus] at hc; cases hc
  | some us' =>
  rw [hbx, hmp, hus] at hc
  simp only at hc
  cases hok : (distinct l && l.all (fun st => Nat.ble 2 st && !env.dd.contains st)) with
  | false => rw [hok] at hc; cases hc
  | true =>
  rw [hok, cond_true, Option.some.injEq] at hc
  subst hc
  simp only [Bool.and_eq_true] at hok
  obtain ⟨hdis, hall⟩ := hok
  have hlall : ∀ i st, l[i]? = some st → 2 ≤ st ∧ st ∉ env.dd := fun i st hi => by
    have := List.all_eq_true.1 hall st (List.mem_of_getElem? hi)
    simpa using this
  have hb := look_allSome (canonBx (restamp env.dd l) bs ms env.bx) hbx
  have hm := look_allSome (fun s => look s env.mp) hmp
  obtain ⟨hu1, hu2⟩ := usOf_spec hus
  simp only [Nat.zero_add] at hu1 hu2
  generalize hE : ({ nt := env.nt, tm := ts.map fun t => (t, (trim (restamp env.dd l) bs ms ((look t env.tm).getD .undef)).getD .undef), wt := [], bx := bx', mp := mp', us := us', dd := [], ys := env.ys } : Env) = E
  have eb : E.bx = bx' := by rw [← hE]
  have em : E.mp = mp' := by rw [← hE]
  have eu : E.us = us' := by rw [← hE]
  have ed : E.dd = [] := by rw [← hE]
  have hbS : ∀ s b', look s E.bx = some b' → s ∈ bs ∧ ∃ b cs, look s env.bx = some b ∧ trimL (restamp env.dd l) bs ms b.cells = some cs ∧ b' = { b with cells := cs } := by
    intro s b' hs
    rw [eb, hb s] at hs
    split at hs
    · rename_i hmem
      refine ⟨hmem, ?_⟩
      unfold canonBx at hs
      split at hs
      · rename_i b hbb
        split at hs
        · rename_i cs hcs
          exact ⟨b, cs, hbb, hcs, (Option.some.inj hs).symm⟩
        · cases hs
      · cases hs
    · cases hs
  have hbI : ∀ s, s ∈ bs → (look s E.bx).isSome = true := by
    intro s hs
    rw [eb, hb s, if_pos hs]
    -- every one of them is there
    have : ∀ {bs' : List Nat} {r : List (Nat × BoxC)}, allSome (bs'.map fun s => (canonBx (restamp env.dd l) bs ms env.bx s).map fun b => (s, b)) = some r → ∀ s ∈ bs', (canonBx (restamp env.dd l) bs ms env.bx s).isSome = true := by
      intro bs'
      induction bs' with
      | nil => intro r _ s hs; cases hs
      | cons x bs' ih =>
        intro r hr s hs
        simp only [List.map_cons] at hr
        cases hx : canonBx (restamp env.dd l) bs ms env.bx x with
        | none => rw [hx] at hr; simp [allSome] at hr
        | some b =>
          rw [hx] at hr
          simp only [Option.map_some, allSome] at hr
          cases h2 : allSome (bs'.map fun s => (canonBx (restamp env.dd l) bs ms env.bx s).map fun b => (s, b)) with
          | none => rw [h2] at hr; cases hr
          | some r2 =>
            rcases List.mem_cons.1 hs with rfl | hs
            · rw [hx]; rfl
            · exact ih h2 s hs
    exact this hbx s hs
  have hmS : ∀ s m, look s E.mp = some m → s ∈ ms ∧ look s env.mp = some m := by
    intro s m hs
    rw [em, hm s] at hs
    split at hs
    · rename_i hmem; exact ⟨hmem, hs⟩
    · cases hs
  have hmI : ∀ s, s ∈ ms → (look s env.mp).isSome = true → (look s E.mp).isSome = true := by
    intro s hs hl
    rw [em, hm s, if_pos hs]; exact hl
  let c' : Ctx := { c with σ := fun s => (l[(s - 2) / 2]?).bind c.σ }
  have hσ : ∀ i st, l[i]? = some st → c'.σ (2 * i + 2) = c.σ st := by
    intro i st hi
    show (l[(2 * i + 2 - 2) / 2]?).bind c.σ = _
    rw [show (2 * i + 2 - 2) / 2 = i from by omega, hi]; rfl
  have hown : ∀ st es k v, OwnC c env w st es k v → OwnC c' E w (restamp env.dd l st) es k v := by
    intro st es k v ho
    rcases restamp_spec env.dd l st with ⟨h1, h2⟩ | h2 | ⟨h1, h3, i, h4, h2⟩
    · rw [h2]
      rcases ho with ho | ho | ⟨ho, _⟩
      · exact .inl ho
      · exact .inr (.inl ho)
      · omega
    · rw [h2]; exact .inl rfl
    · rw [h2]
      rcases ho with ho | ⟨ho, _⟩ | ⟨_, u, hu, ho⟩
      · omega
      · omega
      · obtain ⟨u', e1, e2⟩ := hu2 i st h4
        rw [hu] at e1; cases e1
        refine .inr (.inr ⟨by omega, u, by rw [eu]; exact e2, .inr ?_⟩)
        rw [hσ i st h4]
        exact ho.resolve_left h3
  have htC : ∀ d d' v, RepC c env w d v → trim (restamp env.dd l) bs ms d = some d' → RepC c' E w d' v := by
    intro d d' v hr ht
    cases d <;> simp only [trim] at ht <;> first | (cases ht; done) | skip
    case agg => exact hr.elim
    case sl st es xs => simp only [Option.some.injEq] at ht; subst ht; exact ⟨hr.1, hown _ _ _ _ hr.2⟩
    case loc s off =>
      cases hcn : bs.contains s with
      | false => rw [hcn] at ht; cases ht
      | true =>
        rw [hcn, cond_true, Option.some.injEq] at ht; subst ht
        exact ⟨hbI s (by simpa using hcn), hr.2⟩
    case lsl s off k =>
      cases hcn : bs.contains s with
      | false => rw [hcn] at ht; cases ht
      | true =>
        rw [hcn, cond_true, Option.some.injEq] at ht; subst ht
        exact ⟨hbI s (by simpa using hcn), hr.2⟩
    case mapr s =>
      cases hcn : ms.contains s with
      | false => rw [hcn] at ht; cases ht
      | true =>
        rw [hcn, cond_true, Option.some.injEq] at ht; subst ht
        exact ⟨hmI s (by simpa using hcn) hr.1, hr.2⟩
    all_goals (simp only [Option.some.injEq] at ht; subst ht; exact hr)
  have htL : ∀ (ds ds' : List D) (vs : List Value), All2 (RepC c env w) ds vs → trimL (restamp env.dd l) bs ms ds = some ds' → All2 (RepC c' E w) ds' vs := by
    intro ds
    induction ds with
    | nil =>
      intro ds' vs hr ht
      simp only [trimL, Option.some.injEq] at ht; subst ht
      cases vs with
      | nil => trivial
      | cons _ _ => exact hr.elim
    | cons d ds ih =>
      intro ds' vs hr ht
      cases vs with
      | nil => exact hr.elim
      | cons v vs =>
        simp only [trimL] at ht
        cases h1 : trim (restamp env.dd l) bs ms d with
        | none => rw [h1] at ht; cases ht
        | some d' =>
          cases h2 : trimL (restamp env.dd l) bs ms ds with
          | none => rw [h1, h2] at ht; cases ht
          | some es =>
            rw [h1, h2] at ht
            simp only [Option.some.injEq] at ht; subst ht
            exact ⟨htC d d' v hr.1 h1, ih es vs hr.2 h2⟩
  have htT : ∀ d v, RepT c env w d v → RepT c' E w ((trim (restamp env.dd l) bs ms d).getD .undef) v := by
    intro d v hr
    cases ht : trim (restamp env.dd l) bs ms d with
    | none => trivial
    | some d' =>
      rw [Option.getD_some]
      cases d with
      | tup ds => simp only [trim] at ht; cases ht
      | wh s b d => simp only [trim] at ht; cases ht
      | undef => simp only [trim, Option.some.injEq] at ht; subst ht; trivial
      | agg cs =>
        obtain ⟨vs, e, hr⟩ := hr
        simp only [trim] at ht
        cases h1 : trimL (restamp env.dd l) bs ms cs with
        | none => rw [h1] at ht; cases ht
        | some cs' =>
          rw [h1] at ht
          simp only [Option.map_some, Option.some.injEq] at ht; subst ht
          exact ⟨vs, e, htL cs cs' vs hr h1⟩
      | _ =>
        simp only [RepT, RepV] at hr
        have h2 := htC _ d' v hr ht
        cases d' <;> first | exact h2 | exact h2.elim | (simp only [RepC, Rep] at h2)
  have hblk : ∀ s, E.blk s → env.blk s := by
    rintro s (hs | hs)
    · cases h1 : look s E.bx with
      | none => rw [h1] at hs; cases hs
      | some b' => obtain ⟨_, b, _, h2, _⟩ := hbS s b' h1; exact .inl (by rw [h2]; rfl)
    · cases h1 : look s E.mp with
      | none => rw [h1] at hs; cases hs
      | some m => exact .inr (by rw [(hmS s m h1).2]; rfl)
  have hlive : ∀ s, E.live s → ∃ i st, s = 2 * i + 2 ∧ l[i]? = some st ∧ env.live st := by
    rintro s ⟨hs, _⟩
    cases h1 : look s E.us with
    | none => rw [h1] at hs; cases hs
    | some u =>
      rw [eu] at h1
      obtain ⟨k, st, e1, e2, e3⟩ := hu1 s u h1
      exact ⟨k, st, e1, e2, by rw [e3]; rfl, (hlall k st e2).2⟩
  have hmI2 : ∀ s, s ∈ ms → (look s E.mp).isSome = true := by
    intro s hs
    rw [em, hm s, if_pos hs]
    have : ∀ {ms' : List Nat} {r : List (Nat × MapC)}, allSome (ms'.map fun s => (look s env.mp).map fun m => (s, m)) = some r → ∀ s ∈ ms', (look s env.mp).isSome = true := by
      intro ms'
      induction ms' with
      | nil => intro r _ s hs; cases hs
      | cons x ms' ih =>
        intro r hr s hs
        simp only [List.map_cons] at hr
        cases hx : look x env.mp with
        | none => rw [hx] at hr; simp [allSome] at hr
        | some b =>
          rw [hx] at hr
          simp only [Option.map_some, allSome] at hr
          cases h2 : allSome (ms'.map fun s => (look s env.mp).map fun m => (s, m)) with
          | none => rw [h2] at hr; cases hr
          | some r2 =>
            rcases List.mem_cons.1 hs with rfl | hs
            · rw [hx]; rfl
            · exact ih h2 s hs
    exact this hmp s hs
  refine ⟨c', ⟨rfl, rfl, rfl⟩, ?_, rfl, rfl, fun s => ⟨fun hs => ?_, hbI s⟩, fun s => ⟨fun hs => ?_, hmI2 s⟩, ?_, by rw [← hE], by rw [← hE]⟩
  rotate_left
  · obtain ⟨b', hb'⟩ := Option.isSome_iff_exists.1 hs; exact (hbS s b' hb').1
  · obtain ⟨m', hm'⟩ := Option.isSome_iff_exists.1 hs; exact (hmS s m' hm').1
  · rintro k (⟨s, hs, rfl⟩ | ⟨st, hl, hg⟩)
    · exact .inl ⟨s, hblk s hs, rfl⟩
    · obtain ⟨i, st', rfl, hi, hl'⟩ := hlive st hl
      rw [hσ i st' hi] at hg
      exact .inr ⟨st', hl', hg⟩
  refine ⟨by rw [← hE]; exact h.nt, h.df, fun t d hd => ?_, fun t d hd => by rw [← hE] at hd; simp [look] at hd, fun s b' hs => ?_, fun s m hs => ?_, fun s s' h1 h2 e => h.inj s s' (hblk s h1) (hblk s' h2) e,
    fun s hs => h.above s (hblk s hs), fun s hs => h.lt s (hblk s hs), fun s1 s2 g h1 h2 e1 e2 => ?_, fun s g hs e => ?_, h.im, h.im0, h.imNew, h.base, by rw [← hE]; exact h.gh.1, fun k s b hs => ?_⟩
  · rw [← hE] at hd
    have := look_map _ hd
    subst this
    refine htT _ _ ?_
    cases hl : look t env.tm with
    | none => trivial
    | some d => exact h.tm t d hl
  · obtain ⟨_, b, cs, h1, h2, rfl⟩ := hbS s b' hs
    obtain ⟨vs, e, k1, k2, k3, k4⟩ := h.bx s b h1
    exact ⟨vs, e, k1, htL _ _ _ k2 h2, k3, k4⟩
  · obtain ⟨_, h1⟩ := hmS s m hs
    exact h.mp s m h1
  · obtain ⟨i, st, rfl, hi, hl1⟩ := hlive s1 h1
    obtain ⟨j, st', rfl, hj, hl2⟩ := hlive s2 h2
    rw [hσ i st hi] at e1
    rw [hσ j st' hj] at e2
    have := h.ownInj st st' g hl1 hl2 e1 e2
    subst this
    rw [distinct_spec hdis i j st hi hj]
  · obtain ⟨i, st, rfl, hi, hl1⟩ := hlive s hs
    rw [hσ i st hi] at e
    obtain ⟨k1, k2, k3⟩ := h.ownAbove st g hl1 e
    exact ⟨k1, k2, fun s' hs' => k3 s' (hblk s' hs')⟩
  · have h1 := hcov k s b hs
    have h2 := (h.gh.2 k s b hs).2
    cases k with
    | true => exact ⟨hbI s h1, h2⟩
    | false => exact ⟨hmI2 s h1, h2⟩

theorem St.canonW (h : St c env a w) {ts bs ms l : List Nat} {env' : Env} (hc : canonW ts bs ms l env = some env') (hcov : Covers c.w0 bs ms) : ∃ c', c.Next c' ∧ St c' env' a w := by
  obtain ⟨c', h1, h2, _⟩ := h.canonW' hc hcov
  exact ⟨c', h1, h2⟩
end

end Go.Proofs.Ytndijidmabfhcaa.Fw

/- Regions whose operations come in any order. -/
namespace Go.Proofs.Ytndijidmabfhcaa.Fw
open Go Go.RowKit

/-- States that say the same. -/
structure EnvEq (e e' : Env) : Prop where
  nt : e.nt = e'.nt
  tm : ∀ t, look t e.tm = look t e'.tm
  wt : ∀ t, look t e.wt = look t e'.wt
  bx : ∀ t, look t e.bx = look t e'.bx
  mp : e.mp = e'.mp
  us : e.us = e'.us
  dd : e.dd = e'.dd
  ys : e.ys = e'.ys

theorem St.congr {c : Ctx} {e e' : Env} {a : Act} {w : World} (h : St c e a w) (q : EnvEq e e') : St c e' a w := by
  have S : Step c e w c e' w := ⟨Keeps.refl _ _, fun s hs => ⟨by rw [← q.bx]; exact hs, rfl⟩, fun s hs => ⟨by rw [← q.mp]; exact hs, rfl⟩, fun st u hs => by rw [← q.us]; exact hs, fun st hs => by rw [← q.dd]; exact hs, fun _ _ _ => ⟨rfl, fun _ _ => ⟨rfl, fun _ h => h⟩⟩⟩
  have hb : ∀ s, e'.blk s → e.blk s := fun s hs => by
    rcases hs with hs | hs
    · exact .inl (by rw [q.bx]; exact hs)
    · exact .inr (by rw [q.mp]; exact hs)
  have hl : ∀ s, e'.live s → e.live s := fun s hs => ⟨by rw [q.us]; exact hs.1, by rw [q.dd]; exact hs.2⟩
  exact ⟨h.nt.trans q.nt, h.df, fun t d hd => S.repT (h.tm t d (by rw [q.tm]; exact hd)), fun t d hd => (h.wt t d (by rw [q.wt]; exact hd)).step S, fun s b hs => (h.bx s b (by rw [q.bx]; exact hs)).step S rfl rfl (fun _ x => x),
    fun s m hs => (h.mp s m (by rw [q.mp]; exact hs)).step S rfl rfl (fun _ x => x), fun s s' h1 h2 => h.inj s s' (hb s h1) (hb s' h2), fun s h1 => h.above s (hb s h1), fun s h1 => h.lt s (hb s h1), fun s s' g h1 h2 => h.ownInj s s' g (hl s h1) (hl s' h2),
    fun s g h1 h2 => ⟨(h.ownAbove s g (hl s h1) h2).1, (h.ownAbove s g (hl s h1) h2).2.1, fun s' h3 => (h.ownAbove s g (hl s h1) h2).2.2 s' (hb s' h3)⟩, h.im, h.im0, h.imNew, h.base, by rw [← q.ys]; exact h.gh.1, S.fix h.gh.2⟩

/-- What one operation does to the state. -/
structure Doing where
  dst : Nat
  tmd : D
  wte : Option D
  bx : Option BoxC
  own : Option (Nat × Nat)

def Doing.app (x : Doing) (env : Env) : Env :=
  { nt := env.nt, tm := (x.dst, x.tmd) :: env.tm,
    wt := (match x.wte with | some d => (x.dst, d) :: env.wt | none => env.wt),
    bx := (match x.bx with | some b => (x.dst, b) :: env.bx | none => env.bx), mp := env.mp,
    us := (match x.own with | some (u, _) => (2 * x.dst + 3, u) :: env.us | none => env.us),
    dd := (match x.own with | some (_, k) => (bif Nat.beq k 1 then env.dd else k :: env.dd) | none => env.dd), ys := env.ys }

def ownD (dst : Nat) (r : Res) : D :=
  match r.own with
  | some _ => match r.d with
    | .sl _ es xs => .sl (2 * dst + 3) es xs
    | d => d
  | none => r.d

def doing (dst : Nat) (g : Option (Nat × Bool)) (r : Res) : Doing :=
  match g with
  | none => ⟨dst, ownD dst r, none, (match r.own with | some _ => none | none => r.bx), r.own.map fun u => (u, r.kill)⟩
  | some (s, b) => ⟨dst, .undef, some (.wh s b r.d), none, none⟩

theorem doing_dst (dst : Nat) (g : Option (Nat × Bool)) (r : Res) : (doing dst g r).dst = dst := by
  cases g <;> rfl

/-- An operation's place in the state, in any other state that differs little. -/
theorem memG_doing {env env2 e1 : Env} {dst : Nat} {g : Option (Nat × Bool)} {r : Res} (h : memG env dst g r = some e1) (hfz : r.fz = []) (hfm : r.fm = []) (hmp : r.mp = none)
    (hnt : env2.nt = env.nt) (hwt : wtFree dst env2.wt = true) (hfree : (doing dst g r).bx.isSome = true → env.free dst = true → env2.free dst = true) (hown : (doing dst g r).own.isSome = true → env2.us = env.us ∧ env2.dd = env.dd) :
    memG env2 dst g r = some ((doing dst g r).app env2) := by
  obtain ⟨side, d, bx, mp, fz, fm, kill, own⟩ := r
  simp only at hfz hfm hmp
  subst hfz; subst hfm; subst hmp
  cases g with
  | some q =>
    obtain ⟨s, b⟩ := q
    simp only [memG] at h ⊢
    cases hpl : Res.plain ⟨side, d, bx, none, [], [], kill, own⟩ with
    | false => rw [hpl] at h; cases h
    | true =>
      rw [hpl, cond_true] at h
      rw [cond_true]
      simp only [Env.set] at h ⊢
      cases hc : (Nat.blt dst env.nt && wtFree dst env.wt) with
      | false => rw [hc] at h; cases h
      | true =>
        rw [hc, cond_true] at h
        simp only [Bool.and_eq_true] at hc
        rw [hnt, hc.1, hwt]
        simp only [Bool.and_self, cond_true]
        cases hs : Nat.beq s dst with
        | true => rw [hs] at h; cases h
        | false => rw [cond_false]; simp [doing, Doing.app, hnt]
  | none =>
    simp only [memG] at h ⊢
    have hset : ∀ {ea eb ec : Env} {x : D}, ea.set dst none x = some eb → ec.nt = ea.nt → wtFree dst ec.wt = true → ec.set dst none x = some { ec with tm := (dst, x) :: ec.tm } := by
      intro ea eb ec x hs e1 e2
      simp only [Env.set] at hs ⊢
      cases hc : (Nat.blt dst ea.nt && wtFree dst ea.wt) with
      | false => rw [hc] at hs; cases hs
      | true =>
        simp only [Bool.and_eq_true] at hc
        rw [e1, hc.1, e2]; rfl
    cases own with
    | some u =>
      obtain ⟨h1, h2⟩ := hown rfl
      simp only [memR, frzM, frzB] at h ⊢
      cases d <;> simp only at h <;> first | (cases h; done) | skip
      rename_i st es xs
      rw [h1, h2]
      cases hcd : ((look (2 * dst + 3) env.us).isNone && !env.dd.contains (2 * dst + 3) && (Nat.beq kill 1 || (Nat.ble 2 kill && (look kill env.us == some u) && !env.dd.contains kill))) with
      | false => rw [hcd] at h; cases h
      | true =>
        rw [hcd, cond_true] at h
        simp only at h
        simp only [cond_true]
        rw [hset h (by exact hnt) (by exact hwt)]
        simp only [doing, Doing.app, ownD, Env.stamp, Option.map_some, h1, h2]
    | none =>
      simp only [memR, frzM, frzB] at h ⊢
      cases bx with
      | none =>
        simp only at h ⊢
        rw [hset h hnt hwt]
        rfl
      | some b =>
        simp only at h ⊢
        cases hf : env.free dst with
        | false => rw [hf] at h; cases h
        | true =>
          rw [hf, cond_true] at h
          simp only at h
          rw [hfree rfl hf, cond_true]
          simp only
          rw [hset h (by exact hnt) (by exact hwt)]
          rfl

theorem memG_free {env e1 : Env} {dst : Nat} {g : Option (Nat × Bool)} {r : Res} (h : memG env dst g r = some e1) (hfz : r.fz = []) (hfm : r.fm = []) (hmp : r.mp = none) : wtFree dst env.wt = true ∧ ((doing dst g r).bx.isSome = true → env.free dst = true) ∧ (∀ s b, g = some (s, b) → s ≠ dst) := by
  obtain ⟨side, d, bx, mp, fz, fm, kill, own⟩ := r
  simp only at hfz hfm hmp
  subst hfz; subst hfm; subst hmp
  have hset : ∀ {ea eb : Env} {x : D} {g : Option (Nat × Bool)}, ea.set dst g x = some eb → wtFree dst ea.wt = true := by
    intro ea eb x g hs
    simp only [Env.set] at hs
    cases hc : (Nat.blt dst ea.nt && wtFree dst ea.wt) with
    | false => rw [hc] at hs; cases hs
    | true => simp only [Bool.and_eq_true] at hc; exact hc.2
  cases g with
  | some q =>
    obtain ⟨s, b⟩ := q
    simp only [memG] at h
    cases hpl : Res.plain ⟨side, d, bx, none, [], [], kill, own⟩ with
    | false => rw [hpl] at h; cases h
    | true =>
      rw [hpl, cond_true] at h
      refine ⟨hset h, fun hb => by simp [doing] at hb, fun s' b' e => ?_⟩
      cases e
      simp only [Env.set] at h
      cases hc : (Nat.blt dst env.nt && wtFree dst env.wt) with
      | false => rw [hc] at h; cases h
      | true =>
        rw [hc, cond_true] at h
        cases hs : Nat.beq s dst with
        | true => rw [hs] at h; cases h
        | false => exact nbeq_f.1 hs
  | none =>
    simp only [memG] at h
    refine ⟨?_, fun hb => ?_, fun s b e => by cases e⟩
    · cases hm : memR env dst ⟨side, d, bx, none, [], [], kill, own⟩ with
      | none => rw [hm] at h; cases h
      | some q =>
        obtain ⟨env1, d1⟩ := q
        rw [hm] at h
        have hw : env1.wt = env.wt := by
          cases own with
          | some u =>
            simp only [memR, frzM, frzB] at hm
            cases d <;> simp only at hm <;> first | (cases hm; done) | skip
            cases hcd : ((look (2 * dst + 3) env.us).isNone && !env.dd.contains (2 * dst + 3) && (Nat.beq kill 1 || (Nat.ble 2 kill && (look kill env.us == some u) && !env.dd.contains kill))) with
            | false => rw [hcd] at hm; cases hm
            | true =>
              rw [hcd, cond_true] at hm
              simp only [Option.some.injEq, Prod.mk.injEq] at hm
              rw [← hm.1]; rfl
          | none =>
            simp only [memR, frzM, frzB] at hm
            cases bx with
            | none => simp only [Option.some.injEq, Prod.mk.injEq] at hm; rw [← hm.1]
            | some b =>
              simp only at hm
              cases hf : env.free dst with
              | false => rw [hf] at hm; cases hm
              | true => rw [hf, cond_true] at hm; simp only [Option.some.injEq, Prod.mk.injEq] at hm; rw [← hm.1]
        rw [← hw]; exact hset h
    · cases bx with
      | none => cases own <;> simp [doing] at hb
      | some b =>
        cases own with
        | some u => simp [doing] at hb
        | none =>
          simp only [memR, frzM, frzB] at h
          cases hf : env.free dst with
          | false => rw [hf] at h; cases h
          | true => rfl

/-- The state once these have been done. -/
def runS (S : Nat → Bool) : Nat → List Doing → Env → Env
  | _, [], env => env
  | k, x :: xs, env => runS S (k + 1) xs (if S k = true then x.app env else env)

theorem runS_false : ∀ {X : List Doing} {k : Nat} {env : Env}, runS (fun _ => false) k X env = env
  | [], _, _ => rfl
  | x :: X, k, env => by simp only [runS]; rw [if_neg (by simp)]; exact runS_false

theorem runS_lt : ∀ (X : List Doing) (j k : Nat) (env : Env), runS (fun m => decide (m < k + j)) k X env = (X.take j).foldl (fun e x => x.app e) env
  | [], j, k, env => by cases j <;> rfl
  | x :: X, 0, k, env => by
    have : ∀ (X : List Doing) (k' : Nat) (env : Env), k ≤ k' → runS (fun m => decide (m < k + 0)) k' X env = env := by
      intro X
      induction X with
      | nil => intro k' env _; rfl
      | cons y X ih =>
        intro k' env hk
        simp only [runS]
        rw [if_neg (by rw [decide_eq_true_eq]; omega)]
        exact ih (k' + 1) env (by omega)
    rw [this _ k env (Nat.le_refl k)]; rfl
  | x :: X, j + 1, k, env => by
    simp only [runS]
    rw [if_pos (by rw [decide_eq_true_eq]; omega), List.take_succ_cons, List.foldl_cons, ← runS_lt X j (k + 1)]
    congr 1
    funext m
    rw [show k + (j + 1) = k + 1 + j from by omega]

section
variable {β : Type} {f : Env → β} {rel : Doing → Prop} (hne : ∀ x env, ¬ rel x → f (x.app env) = f env) (heq : ∀ x env env', rel x → f env = f env' → f (x.app env) = f (x.app env'))
include hne heq
theorem look_runS {S S' : Nat → Bool} : ∀ {X : List Doing} {k : Nat} {env env' : Env}, (∀ j x, X[j]? = some x → rel x → S (k + j) = S' (k + j)) → f env = f env' → f (runS S k X env) = f (runS S' k X env')
  | [], _, _, _, _, h => h
  | x :: X, k, env, env', hS, h => by
    simp only [runS]
    refine look_runS (fun j y hj hr => by rw [show k + 1 + j = k + (j + 1) from by omega]; exact hS (j + 1) y (by simpa using hj) hr) ?_
    by_cases hr : rel x
    · have h0 := hS 0 x rfl hr
      rw [Nat.add_zero] at h0
      rw [h0]
      split
      · exact heq x env env' hr h
      · exact h
    · have e1 : ∀ (b : Bool) (e : Env), f (if b = true then x.app e else e) = f e := fun b e => by
        split
        · exact hne x e hr
        · rfl
      rw [e1, e1, h]

theorem runS_hit {S : Nat → Bool} : ∀ {X : List Doing} {k : Nat} {env : Env} {j : Nat} {x : Doing}, X[j]? = some x → rel x → (∀ j' x', X[j']? = some x' → rel x' → j' = j) → S (k + j) = true → f (runS S k X env) = f (x.app env)
  | [], _, _, j, _, h, _, _, _ => by simp at h
  | y :: X, k, env, 0, x, hx, hr, hu, hs => by
    simp only [List.getElem?_cons_zero, Option.some.injEq] at hx; subst hx
    rw [Nat.add_zero] at hs
    simp only [runS]
    rw [if_pos hs]
    have := look_runS hne heq (S := S) (S' := fun _ => false) (X := X) (k := k + 1) (env := y.app env) (env' := y.app env) (fun j x' hj hr' => absurd (hu (j + 1) x' (by simpa using hj) hr') (by omega)) rfl
    rw [this, runS_false]
  | y :: X, k, env, j + 1, x, hx, hr, hu, hs => by
    simp only [runS]
    have hny : ¬ rel y := fun hy => absurd (hu 0 y rfl hy) (by omega)
    rw [runS_hit (env := if S k = true then y.app env else env) (j := j) (x := x) (by simpa using hx) hr (fun j' x' h1 h2 => by have := hu (j' + 1) x' (by simpa using h1) h2; omega) (by rw [show k + 1 + j = k + (j + 1) from by omega]; exact hs)]
    refine heq x _ _ hr ?_
    split
    · exact hne y env hny
    · rfl
end

theorem app_tm (x : Doing) (env : Env) (t : Nat) : look t (x.app env).tm = if x.dst = t then some x.tmd else look t env.tm := look_cons ..
theorem app_wt (x : Doing) (env : Env) (t : Nat) : look t (x.app env).wt = if x.dst = t then (match x.wte with | some d => some d | none => look t env.wt) else look t env.wt := by
  unfold Doing.app
  cases x.wte with
  | none => simp
  | some d => exact look_cons ..
theorem app_bx (x : Doing) (env : Env) (t : Nat) : look t (x.app env).bx = if x.dst = t then (match x.bx with | some d => some d | none => look t env.bx) else look t env.bx := by
  unfold Doing.app
  cases x.bx with
  | none => simp
  | some d => exact look_cons ..

theorem tm_ne {t : Nat} : ∀ (x : Doing) (env : Env), ¬ x.dst = t → look t (x.app env).tm = look t env.tm := fun x env h => by rw [app_tm, if_neg h]
theorem tm_eq {t : Nat} : ∀ (x : Doing) (env env' : Env), x.dst = t → look t env.tm = look t env'.tm → look t (x.app env).tm = look t (x.app env').tm := fun x env env' h _ => by rw [app_tm, app_tm, if_pos h, if_pos h]
theorem wt_ne {t : Nat} : ∀ (x : Doing) (env : Env), ¬ x.dst = t → look t (x.app env).wt = look t env.wt := fun x env h => by rw [app_wt, if_neg h]
theorem wt_eq {t : Nat} : ∀ (x : Doing) (env env' : Env), x.dst = t → look t env.wt = look t env'.wt → look t (x.app env).wt = look t (x.app env').wt := fun x env env' h e => by rw [app_wt, app_wt, if_pos h, if_pos h, e]
theorem bx_ne {t : Nat} : ∀ (x : Doing) (env : Env), ¬ x.dst = t → look t (x.app env).bx = look t env.bx := fun x env h => by rw [app_bx, if_neg h]
theorem bx_eq {t : Nat} : ∀ (x : Doing) (env env' : Env), x.dst = t → look t env.bx = look t env'.bx → look t (x.app env).bx = look t (x.app env').bx := fun x env env' h e => by rw [app_bx, app_bx, if_pos h, if_pos h, e]
theorem us_ne : ∀ (x : Doing) (env : Env), ¬ x.own.isSome = true → (x.app env).us = env.us := fun x env h => by unfold Doing.app; cases hx : x.own <;> simp_all
theorem us_eq : ∀ (x : Doing) (env env' : Env), x.own.isSome = true → env.us = env'.us → (x.app env).us = (x.app env').us := fun x env env' _ h => by unfold Doing.app; simp only [h]
theorem dd_ne : ∀ (x : Doing) (env : Env), ¬ x.own.isSome = true → (x.app env).dd = env.dd := fun x env h => by unfold Doing.app; cases hx : x.own <;> simp_all
theorem dd_eq : ∀ (x : Doing) (env env' : Env), x.own.isSome = true → env.dd = env'.dd → (x.app env).dd = (x.app env').dd := fun x env env' _ h => by unfold Doing.app; simp only [h]
theorem runS_ys {S : Nat → Bool} : ∀ {X : List Doing} {k : Nat} {env : Env}, (runS S k X env).ys = env.ys
  | [], _, _ => rfl
  | x :: X, k, env => by
    simp only [runS]
    rw [runS_ys (S := S) (X := X) (k := k + 1) (env := if S k = true then x.app env else env)]
    split <;> rfl
theorem runS_mp {S : Nat → Bool} : ∀ {X : List Doing} {k : Nat} {env : Env}, (runS S k X env).mp = env.mp ∧ (runS S k X env).nt = env.nt
  | [], _, _ => ⟨rfl, rfl⟩
  | x :: X, k, env => by
    simp only [runS]
    obtain ⟨h1, h2⟩ := runS_mp (S := S) (X := X) (k := k + 1) (env := if S k = true then x.app env else env)
    rw [h1, h2]
    split <;> exact ⟨rfl, rfl⟩

/-- One more of them: the same, in whatever order. -/
theorem app_runS {X : List Doing} {env : Env} {S S' : Nat → Bool} {i : Nat} {x : Doing} (hx : X[i]? = some x) (hd : ∀ (j j' : Nat) (y y' : Doing), X[j]? = some y → X[j']? = some y' → y.dst = y'.dst → j = j') (ho : ∀ (j j' : Nat) (y y' : Doing), X[j]? = some y → X[j']? = some y' → y.own.isSome = true → y'.own.isSome = true → j = j')
    (hS : S i = false) (hS' : S' i = true) (hSS : ∀ j, j ≠ i → S' j = S j) : EnvEq (x.app (runS S 0 X env)) (runS S' 0 X env) := by
  have gen : ∀ {β : Type} {f : Env → β} {rel : Doing → Prop}, (∀ x env, ¬ rel x → f (x.app env) = f env) → (∀ x env env', rel x → f env = f env' → f (x.app env) = f (x.app env')) → (∀ (j j' : Nat) (y y' : Doing), X[j]? = some y → X[j']? = some y' → rel y → rel y' → j = j') → f (x.app (runS S 0 X env)) = f (runS S' 0 X env) := by
    intro β f rel hne heq hu
    by_cases hr : rel x
    · rw [runS_hit hne heq hx hr (fun j' x' h1 h2 => hu j' i x' x h1 hx h2 hr) (by rw [Nat.zero_add]; exact hS')]
      refine heq x _ _ hr ?_
      have := look_runS hne heq (S := S) (S' := fun _ => false) (X := X) (k := 0) (env := env) (env' := env) (fun j x' hj hr' => by
        rw [hu j i x' x hj hx hr' hr, Nat.zero_add]; exact hS) rfl
      rw [this, runS_false]
    · rw [hne x _ hr]
      exact look_runS hne heq (fun j x' hj hr' => by
        rw [Nat.zero_add]
        refine (hSS j fun e => hr ?_).symm
        subst e; rw [hx] at hj; cases hj; exact hr') rfl
  refine ⟨?_, fun t => ?_, fun t => ?_, fun t => ?_, ?_, ?_, ?_, ?_⟩
  · show (runS S 0 X env).nt = _
    rw [runS_mp.2, runS_mp.2]
  · exact gen (f := fun e => look t e.tm) (rel := fun x => x.dst = t) tm_ne tm_eq (fun j j' y y' h1 h2 r1 r2 => hd j j' y y' h1 h2 (r1.trans r2.symm))
  · exact gen (f := fun e => look t e.wt) (rel := fun x => x.dst = t) wt_ne wt_eq (fun j j' y y' h1 h2 r1 r2 => hd j j' y y' h1 h2 (r1.trans r2.symm))
  · exact gen (f := fun e => look t e.bx) (rel := fun x => x.dst = t) bx_ne bx_eq (fun j j' y y' h1 h2 r1 r2 => hd j j' y y' h1 h2 (r1.trans r2.symm))
  · show (runS S 0 X env).mp = _
    rw [runS_mp.1, runS_mp.1]
  · exact gen (f := fun e => e.us) (rel := fun x => x.own.isSome = true) us_ne us_eq ho
  · exact gen (f := fun e => e.dd) (rel := fun x => x.own.isSome = true) dd_ne dd_eq ho
  · show (runS S 0 X env).ys = _
    rw [runS_ys, runS_ys]

section
variable {P : Program} {T : Ty} {ops : Array Oper}

theorem doesP_pick {g : Option (Nat × Bool)} {ρ : Operand → D} {bx : List (Nat × BoxC)} {mp : List (Nat × MapC)} {dst : Nat} {op : Op} {gc : Prop} {K : Res → Prop} (h : doesP P T g ρ bx mp dst op gc K) : ∃ r, K r ∧ doesP P T g ρ bx mp dst op gc (fun r' => r' = r) := by
  unfold doesP at h
  cases hc : callOf op with
  | some cl =>
    rw [hc] at h
    simp only at h
    cases hd : callD (fun x => unw g (ρ x)) mp cl with
    | none => rw [hd] at h; exact h.elim
    | some q =>
      obtain ⟨f, ds, fm⟩ := q
      rw [hd] at h
      obtain ⟨d, h1, h2⟩ := h
      refine ⟨_, h2, ?_⟩
      unfold doesP
      rw [hc]
      simp only [hd]
      exact ⟨d, h1, by trivial⟩
  | none =>
    rw [hc] at h
    simp only at h
    cases hr : opR T g ρ bx mp dst op with
    | none =>
      rw [hr] at h
      refine ⟨{ d := .undef }, deadK_K h, ?_⟩
      unfold doesP
      rw [hc]
      simp only [hr]
      exact deadK_mono h rfl
    | some r =>
      rw [hr] at h
      obtain ⟨h1, h2⟩ := sideB_iff.1 h
      refine ⟨r, h2, ?_⟩
      unfold doesP
      rw [hc]
      simp only [hr]
      exact sideB_iff.2 ⟨h1, by trivial⟩

theorem memG_self {env e1 : Env} {dst : Nat} {g : Option (Nat × Bool)} {r : Res} (h : memG env dst g r = some e1) (hfz : r.fz = []) (hfm : r.fm = []) (hmp : r.mp = none) : e1 = (doing dst g r).app env := by
  have h2 := memG_doing (env2 := env) h hfz hfm hmp rfl (memG_free h hfz hfm hmp).1 (fun _ h => h) (fun _ => ⟨rfl, rfl⟩)
  rw [h] at h2; exact Option.some.inj h2

/-- What each operation of the first part gives. -/
structure OpFact (P : Program) (T : Ty) (ops : Array Oper) (ph : List Oper) (bx : List (Nat × BoxC)) (mp : List (Nat × MapC)) (m i : Nat) (o : Oper) (x : Doing) (e : Env) (g : Option (Nat × Bool)) (dst : Nat) (r : Res) : Prop where
  isG : gslot ops o = some g
  isDst : o.dst = some dst
  isX : x = doing dst g r
  fz : r.fz = []
  fm : r.fm = []
  noM : r.mp = none
  mem : ∃ e1, memG e dst g r = some e1
  does : doesP P T g (tvR (fun t => okT m i t ph 0) e.wt e.tm) bx mp dst o.op (gcond (fun t => okT m i t ph 0) 8 e.wt e.tm g) (fun r' => r' = r)

theorem evPh_facts {ph : List Oper} {bx : List (Nat × BoxC)} {mp : List (Nat × MapC)} {K : Env → Prop} : ∀ (os : List Oper) (ms : List Nat) (i : Nat) (used : Bool) (env : Env), evPh P T ops ph bx mp ms i used os env K →
    ∃ X : List Doing, X.length = os.length ∧ K (X.foldl (fun e x => x.app e) env) ∧
      (∀ j o, os[j]? = some o → ∃ g dst r x, X[j]? = some x ∧ OpFact P T ops ph bx mp (ms.getD j 0) (i + j) o x ((X.take j).foldl (fun e x => x.app e) env) g dst r) ∧
      (∀ (j : Nat) (x : Doing), X[j]? = some x → x.own.isSome = true → used = false) ∧ (∀ (j j' : Nat) (y y' : Doing), X[j]? = some y → X[j']? = some y' → y.own.isSome = true → y'.own.isSome = true → j = j')
  | [], ms, i, used, env, h => by
    refine ⟨[], rfl, ?_, fun j o h => by simp at h, fun j x h => by simp at h, fun j j' y y' h => by simp at h⟩
    cases ms <;> exact h
  | o :: os, [], i, used, env, h => h.elim
  | o :: os, m :: ms, i, used, env, h => by
    simp only [evPh] at h
    cases hg : gslot ops o with
    | none => rw [hg] at h; exact h.elim
    | some g =>
    cases hdst : o.dst with
    | none => rw [hg, hdst] at h; exact h.elim
    | some dst =>
    rw [hg, hdst] at h
    simp only at h
    obtain ⟨r, hr, hd⟩ := doesP_pick (doesF_iff.1 h)
    cases hc : (r.fz.isEmpty && r.fm.isEmpty && r.mp.isNone && !(used && r.own.isSome)) with
    | false => rw [hc] at hr; exact hr.elim
    | true =>
    rw [hc] at hr
    simp only at hr
    cases hm : memG env dst g r with
    | none => rw [hm] at hr; exact hr.elim
    | some e1 =>
    rw [hm] at hr
    simp only at hr
    have hr := (fE1_iff _ _).1 hr
    simp only [Bool.and_eq_true, List.isEmpty_iff, Option.isNone_iff_eq_none, Bool.not_eq_true', Bool.and_eq_false_iff] at hc
    obtain ⟨⟨⟨hfz, hfm⟩, hmp⟩, hused⟩ := hc
    obtain rfl := memG_self hm hfz hfm hmp
    obtain ⟨X, h1, h2, h3, h4, h5⟩ := evPh_facts os ms (i + 1) (used || r.own.isSome) _ hr
    have hown : (doing dst g r).own.isSome = true → r.own.isSome = true := by
      cases g with
      | none => intro h; simpa [doing] using h
      | some q => intro h; simp [doing] at h
    refine ⟨doing dst g r :: X, by simp [h1], h2, ?_, ?_, ?_⟩
    · intro j o' hj
      cases j with
      | zero =>
        simp only [List.getElem?_cons_zero, Option.some.injEq] at hj; subst hj
        exact ⟨g, dst, r, _, rfl, ⟨hg, hdst, rfl, hfz, hfm, hmp, ⟨_, hm⟩, hd⟩⟩
      | succ j =>
        obtain ⟨g', dst', r', x', k1, k2⟩ := h3 j o' (by simpa using hj)
        refine ⟨g', dst', r', x', by simpa using k1, ?_⟩
        rw [show i + (j + 1) = i + 1 + j from by omega]
        exact k2
    · intro j x hj hx
      cases j with
      | zero =>
        simp only [List.getElem?_cons_zero, Option.some.injEq] at hj; subst hj
        rcases hused with hu | hu
        · exact hu
        · rw [hown hx] at hu; cases hu
      | succ j =>
        have := h4 j x (by simpa using hj) hx
        simp only [Bool.or_eq_false_iff] at this
        exact this.1
    · intro j j' y y' hj hj' hy hy'
      cases j with
      | zero =>
        cases j' with
        | zero => rfl
        | succ j' =>
          simp only [List.getElem?_cons_zero, Option.some.injEq] at hj; subst hj
          have := h4 j' y' (by simpa using hj') hy'
          simp only [Bool.or_eq_false_iff] at this
          rw [hown hy] at this; exact absurd this.2 (by simp)
      | succ j =>
        cases j' with
        | zero =>
          simp only [List.getElem?_cons_zero, Option.some.injEq] at hj'; subst hj'
          have := h4 j y (by simpa using hj) hy
          simp only [Bool.or_eq_false_iff] at this
          rw [hown hy'] at this; exact absurd this.2 (by simp)
        | succ j' => rw [h5 j j' y y' (by simpa using hj) (by simpa using hj') hy hy']

/-! ### Which operations are ahead of which -/
theorem maskOf_bit {acc : List Nat} {o : Oper} {j : Nat} (h : Nat.testBit (maskOf acc o) j = true) : ∃ e ∈ o.after.toList, bindsB e = true ∧ (j = e.on ∨ Nat.testBit (acc.getD e.on 0) j = true) := by
  have : ∀ (es : List Edge) (m0 : Nat), Nat.testBit (es.foldl (fun m e => match bindsB e with | true => m ||| (1 <<< e.on ||| acc.getD e.on 0) | false => m) m0) j = true → Nat.testBit m0 j = true ∨ ∃ e ∈ es, bindsB e = true ∧ (j = e.on ∨ Nat.testBit (acc.getD e.on 0) j = true) := by
    intro es
    induction es with
    | nil => intro m0 h; exact .inl h
    | cons e es ih =>
      intro m0 h
      rw [List.foldl_cons] at h
      rcases ih _ h with h1 | ⟨e', h1, h2⟩
      · cases hb : bindsB e with
        | false => rw [hb] at h1; exact .inl h1
        | true =>
          rw [hb] at h1
          simp only [Nat.testBit_or, Bool.or_eq_true, Nat.one_shiftLeft, Nat.testBit_two_pow, decide_eq_true_eq] at h1
          rcases h1 with h1 | h1 | h1
          · exact .inl h1
          · exact .inr ⟨e, by simp, hb, .inl h1.symm⟩
          · exact .inr ⟨e, by simp, hb, .inr h1⟩
      · exact .inr ⟨e', by simp [h1], h2⟩
  rcases this _ _ h with h | h
  · simp at h
  · exact h

theorem ancs_spec : ∀ (os : List Oper) (acc : List Nat), ∃ tl, ancs os acc = acc ++ tl ∧ tl.length = os.length ∧ ∀ k o, os[k]? = some o → ∃ pre, pre.length = acc.length + k ∧ (∃ suf, ancs os acc = pre ++ suf) ∧ (ancs os acc).getD (acc.length + k) 0 = maskOf pre o
  | [], acc => ⟨[], by simp [ancs], rfl, fun k o h => by simp at h⟩
  | o :: os, acc => by
    obtain ⟨tl, h1, h2, h3⟩ := ancs_spec os (acc ++ [maskOf acc o])
    refine ⟨maskOf acc o :: tl, by rw [ancs, h1]; simp, by simp [h2], fun k o' hk => ?_⟩
    rw [ancs]
    cases k with
    | zero =>
      simp only [List.getElem?_cons_zero, Option.some.injEq] at hk; subst hk
      refine ⟨acc, by simp, ⟨maskOf acc o :: tl, by rw [h1]; simp⟩, ?_⟩
      rw [h1, List.append_assoc, List.getD_eq_getElem?_getD, List.getElem?_append_right (by omega)]
      simp
    | succ k =>
      obtain ⟨pre, k1, k2, k3⟩ := h3 k o' (by simpa using hk)
      refine ⟨pre, by simp at k1; omega, k2, ?_⟩
      rw [← k3]; congr 1; simp; omega

/-- What must be ahead of an operation has been done, once its own edges let it come. -/
theorem anc_done {l : List Oper} (hback : ∀ (i : Nat) (o : Oper), l[i]? = some o → ∀ e ∈ o.after.toList, bindsB e = true → e.on < i) {S : Nat → Bool} (hcl : ∀ (k : Nat) (o : Oper), l[k]? = some o → S k = true → ∀ e ∈ o.after.toList, bindsB e = true → S e.on = true) :
    ∀ (i : Nat) (o : Oper), l[i]? = some o → (∀ e ∈ o.after.toList, bindsB e = true → S e.on = true) → ∀ j, Nat.testBit ((ancs l []).getD i 0) j = true → S j = true := by
  intro i
  induction i using Nat.strongRecOn with
  | _ i ih =>
    intro o ho hr j hj
    obtain ⟨tl, _, _, h3⟩ := ancs_spec l []
    obtain ⟨pre, k1, ⟨suf, k2⟩, k3⟩ := h3 i o ho
    simp only [List.length_nil, Nat.zero_add] at k1 k3
    rw [k3] at hj
    obtain ⟨e, he, hb, hj⟩ := maskOf_bit hj
    rcases hj with rfl | hj
    · exact hr e he hb
    · have hlt := hback i o ho e he hb
      have hpre : pre.getD e.on 0 = (ancs l []).getD e.on 0 := by
        rw [k2, List.getD_eq_getElem?_getD, List.getD_eq_getElem?_getD, List.getElem?_append_left (by omega)]
      rw [hpre] at hj
      have hl : e.on < l.length := Nat.lt_trans hlt (List.getElem?_eq_some_iff.1 ho).1
      exact ih e.on hlt l[e.on] (List.getElem?_eq_getElem hl) (hcl e.on _ (List.getElem?_eq_getElem hl) (hr e he hb)) j hj
end

theorem okT_spec {m i t : Nat} : ∀ {ph : List Oper} {k : Nat}, okT m i t ph k = true → ∀ (j : Nat) (o : Oper), ph[j]? = some o → o.dst = some t → Nat.testBit m (k + j) = true ∧ k + j < i
  | [], _, _, j, o, h, _ => by simp at h
  | x :: ph, k, hk, j, o, h, hd => by
    simp only [okT, Bool.and_eq_true] at hk
    cases j with
    | zero =>
      simp only [List.getElem?_cons_zero, Option.some.injEq] at h; subst h
      rw [hd] at hk
      simp only [nbeq.2 rfl, Bool.not_true, Bool.false_or, Bool.and_eq_true, Nat.blt_eq] at hk
      exact hk.1
    | succ j =>
      rw [show k + (j + 1) = k + 1 + j from by omega]
      exact okT_spec hk.2 j o (by simpa using h) hd

theorem gcond_congr {ok : Nat → Bool} {wt wt' tm tm' : List (Nat × D)} (h : ∀ s, ok s = true → look s wt = look s wt' ∧ look s tm = look s tm') : ∀ (n : Nat) (g : Option (Nat × Bool)), gcond ok n wt tm g = gcond ok n wt' tm' g
  | 0, _ => rfl
  | _ + 1, none => rfl
  | n + 1, some (s, b) => by
    simp only [gcond]
    cases hs : ok s with
    | false => rfl
    | true =>
      simp only
      obtain ⟨h1, h2⟩ := h s hs
      rw [h1, h2]
      cases look s wt' with
      | none => rfl
      | some d =>
        cases d <;> first | rfl | skip
        simp only
        rw [gcond_congr h n]

theorem tvR_congr {ok : Nat → Bool} {wt wt' tm tm' : List (Nat × D)} (h : ∀ s, ok s = true → look s wt = look s wt' ∧ look s tm = look s tm') : tvR ok wt tm = tvR ok wt' tm' := by
  funext x
  cases x with
  | tmp t =>
    simp only [tvR]
    cases ht : ok t with
    | false => rfl
    | true =>
      obtain ⟨h1, h2⟩ := h t ht
      simp only [tv, h1, h2]
  | _ => rfl

theorem rep_tvR {c : Ctx} {env : Env} {a : Act} {w : World} (h : St c env a w) (ok : Nat → Bool) (x : Operand) : RepX c env w a.tmps (tvR ok env.wt env.tm x) (a.eval x) := by
  cases x with
  | tmp t =>
    simp only [tvR]
    cases ok t with
    | false => trivial
    | true => exact rep_tvX h (.tmp t)
  | const v => exact rep_tvX h (.const v)
  | global v => exact rep_tvX h (.global v)
  | func v => exact rep_tvX h (.func v)

theorem wtFree_runS {S : Nat → Bool} {dst : Nat} : ∀ {X : List Doing} {k : Nat} {env : Env}, wtFree dst env.wt = true → (∀ j x d, X[j]? = some x → S (k + j) = true → x.wte = some d → ∃ s b y, d = .wh s b y ∧ x.dst ≠ dst ∧ s ≠ dst) → wtFree dst (runS S k X env).wt = true
  | [], _, _, h, _ => h
  | x :: X, k, env, h, hx => by
    simp only [runS]
    refine wtFree_runS ?_ fun j y d hj hs hd => hx (j + 1) y d (by simpa using hj) (by rw [show k + (j + 1) = k + 1 + j from by omega]; exact hs) hd
    split
    · rename_i hs
      unfold Doing.app
      cases hw : x.wte with
      | none => exact h
      | some d =>
        obtain ⟨s, b, y, rfl, h1, h2⟩ := hx 0 x d rfl hs hw
        simp only [wtFree, h, nbeq_f.2 h1, nbeq_f.2 h2]; rfl
    · exact h

theorem bx_keep {S : Nat → Bool} {s : Nat} {b : BoxC} : ∀ {X : List Doing} {k : Nat} {env : Env}, look s env.bx = some b → (∀ (j : Nat) (x : Doing), X[j]? = some x → x.bx.isSome = true → x.dst ≠ s) → look s (runS S k X env).bx = some b
  | [], _, _, h, _ => h
  | x :: X, k, env, h, hx => by
    simp only [runS]
    refine bx_keep ?_ fun j y hj hb => hx (j + 1) y (by simpa using hj) hb
    split
    · rw [app_bx]
      split
      · rename_i e
        cases hb : x.bx with
        | none => exact h
        | some b' => exact absurd e (hx 0 x rfl (by rw [hb]; rfl))
      · exact h
    · exact h

theorem bx_some {s : Nat} : ∀ {X : List Doing} {env : Env}, (look s env.bx).isSome = true → (look s (X.foldl (fun e x => x.app e) env).bx).isSome = true
  | [], _, h => h
  | x :: X, env, h => by
    rw [List.foldl_cons]
    refine bx_some ?_
    rw [app_bx]
    split
    · cases x.bx with
      | none => exact h
      | some _ => rfl
    · exact h

structure Reg (P : Program) (T : Ty) (ops : Array Oper) (p : Nat) (env0 : Env) (X : List Doing) : Prop where
  hp : p ≤ ops.toList.length
  back : ∀ (i : Nat) (o : Oper), ops.toList[i]? = some o → ∀ e ∈ o.after.toList, bindsB e = true → e.on < i
  len : X.length = p
  fact : ∀ (j : Nat) (o : Oper), (ops.toList.take p)[j]? = some o → ∃ g dst r x, X[j]? = some x ∧ OpFact P T ops (ops.toList.take p) env0.bx env0.mp ((ancs ops.toList []).getD j 0) (0 + j) o x ((X.take j).foldl (fun e x => x.app e) env0) g dst r
  dstU : ∀ (j j' : Nat) (y y' : Doing), X[j]? = some y → X[j']? = some y' → y.dst = y'.dst → j = j'
  ownU : ∀ (j j' : Nat) (y y' : Doing), X[j]? = some y → X[j']? = some y' → y.own.isSome = true → y'.own.isSome = true → j = j'
  guard : ∀ (i : Nat) (o : Oper), ops.toList[i]? = some o → i < p → ∀ j b, o.guard = some (j, b) → j < i ∧ Nat.testBit ((ancs ops.toList []).getD i 0) j = true
  tail : ∀ (i : Nat) (o : Oper), ops.toList[i]? = some o → p ≤ i → ∀ j, j < i → Nat.testBit ((ancs ops.toList []).getD i 0) j = true
  wt0 : env0.wt = []

section
variable {P : Program} {T : Ty} {ops : Array Oper} {p : Nat} {env0 : Env} {X : List Doing} {rr : Option Nat} {n : Nat}

/-- One of the first part, wherever it comes. -/
theorem Reg.step (hT : TyOK P T) (R : Reg P T ops p env0 X) {S S' : Nat → Bool} (hcl : ∀ (k : Nat) (o : Oper), ops.toList[k]? = some o → S k = true → ∀ e ∈ o.after.toList, bindsB e = true → S e.on = true)
    {i : Nat} {o : Oper} (ho : ops.toList[i]? = some o) (hip : i < p) (hSi : S i = false) (hr : ∀ e ∈ o.after.toList, bindsB e = true → S e.on = true) (hS' : S' i = true) (hSS : ∀ j, j ≠ i → S' j = S j)
    {c : Ctx} {a : Act} {w : World} (h : St c (runS S 0 X env0) a w) {K : Act → World → Prop} {Q : Exit → Act → World → Prop} (hK : ∀ c' a' w', c.Next c' → St c' (runS S' 0 X env0) a' w' → K a' w') : wpOpIn (Fr rr) n P ops Q i K a w := by
  have hanc := anc_done R.back hcl
  have hpre : ∀ {j : Nat}, j < p → ∀ {o' : Oper}, ops.toList[j]? = some o' → (ops.toList.take p)[j]? = some o' := fun hj _ h => by rw [List.getElem?_take, if_pos hj]; exact h
  obtain ⟨g, dst, r, x, hx, F⟩ := R.fact i o (hpre hip ho)
  have hEi : (X.take i).foldl (fun e x => x.app e) env0 = runS (fun m => decide (m < 0 + i)) 0 X env0 := (runS_lt X i 0 env0).symm
  rw [hEi] at F
  have hxd : x.dst = dst := by rw [F.isX, doing_dst]
  -- whose slot is whose
  have hmk : ∀ (j : Nat) (y : Doing), X[j]? = some y → j < p ∧ ∃ o', ops.toList[j]? = some o' ∧ o'.dst = some y.dst := by
    intro j y hj
    have hjp : j < p := by rw [← R.len]; exact (List.getElem?_eq_some_iff.1 hj).1
    have hjl : ∃ o', ops.toList[j]? = some o' := ⟨_, List.getElem?_eq_getElem (Nat.lt_of_lt_of_le hjp R.hp)⟩
    obtain ⟨o', ho'⟩ := hjl
    obtain ⟨g', dst', r', x', k1, F'⟩ := R.fact j o' (hpre hjp ho')
    rw [hj] at k1; cases k1
    exact ⟨hjp, o', ho', by rw [F'.isDst, F'.isX, doing_dst]⟩
  have hagree : ∀ t, okT ((ancs ops.toList []).getD i 0) (0 + i) t (ops.toList.take p) 0 = true → look t (runS (fun m => decide (m < 0 + i)) 0 X env0).wt = look t (runS S 0 X env0).wt ∧ look t (runS (fun m => decide (m < 0 + i)) 0 X env0).tm = look t (runS S 0 X env0).tm := by
    intro t ht
    have key : ∀ (j : Nat) (y : Doing), X[j]? = some y → y.dst = t → (fun m => decide (m < 0 + i)) (0 + j) = S (0 + j) := by
      intro j y hj hy
      obtain ⟨hjp, o', ho', hd⟩ := hmk j y hj
      obtain ⟨h1, h2⟩ := okT_spec ht j o' (hpre hjp ho') (by rw [hd, hy])
      rw [hanc i o ho hr (0 + j) h1]
      simpa using h2
    exact ⟨look_runS (f := fun e => look t e.wt) (rel := fun x => x.dst = t) wt_ne wt_eq key rfl, look_runS (f := fun e => look t e.tm) (rel := fun x => x.dst = t) tm_ne tm_eq key rfl⟩
  have hdoes := F.does
  rw [tvR_congr hagree, gcond_congr hagree, ← (runS_mp (S := S) (X := X) (k := 0) (env := env0)).1] at hdoes
  obtain ⟨e1, he1⟩ := F.mem
  obtain ⟨_, hfr, _⟩ := memG_free he1 F.fz F.fm F.noM
  -- no other one has this slot
  have hnot : ∀ (j : Nat) (y : Doing), X[j]? = some y → y.dst = dst → j = i := fun j y hj hy => R.dstU j i y x hj hx (hy.trans hxd.symm)
  have hbS : ∀ (S1 : Nat → Bool), S1 i = false → look dst (runS S1 0 X env0).bx = look dst env0.bx := by
    intro S1 h1
    have := look_runS (f := fun e => look dst e.bx) (rel := fun x => x.dst = dst) bx_ne bx_eq (S := S1) (S' := fun _ => false) (X := X) (k := 0) (env := env0) (env' := env0) (fun j y hj hy => by rw [hnot j y hj hy, Nat.zero_add]; exact h1) rfl
    rw [runS_false] at this
    exact this
  have hi0 : (fun m => decide (m < 0 + i)) i = false := by simp
  have hgo : gslot ops o = some g := F.isG
  have hmem : memG (runS S 0 X env0) dst g r = some (x.app (runS S 0 X env0)) := by
    rw [F.isX]
    refine memG_doing he1 F.fz F.fm F.noM (by rw [runS_mp.2, runS_mp.2]) ?_ (fun hb hf => ?_) (fun how => ?_)
    · refine wtFree_runS (by rw [R.wt0]; rfl) fun j y d hj hs hd => ?_
      rw [Nat.zero_add] at hs
      obtain ⟨hjp, o', ho', hdo⟩ := hmk j y hj
      obtain ⟨g', dst', r', x', k1, F'⟩ := R.fact j o' (hpre hjp ho')
      rw [hj] at k1; cases k1
      have hyx := F'.isX
      cases g' with
      | none => rw [hyx] at hd; simp [doing] at hd
      | some q =>
        obtain ⟨s, b⟩ := q
        rw [hyx] at hd
        simp only [doing, Option.some.injEq] at hd
        refine ⟨s, b, r'.d, hd.symm, fun e => ?_, fun e => ?_⟩
        · have := hnot j y hj e
          subst this
          rw [hs] at hSi; cases hSi
        · subst e
          rcases gslot_spec F'.isG with ⟨_, e⟩ | ⟨jj, b', pp, s', hgd, hpp, hps, e⟩
          · cases e
          · cases e
            obtain ⟨hlt, hbit⟩ := R.guard j o' ho' hjp jj b hgd
            have hSjj : S jj = true := hanc j o' ho' (hcl j o' ho' hs) jj hbit
            have hppl : ops.toList[jj]? = some pp := by simpa using hpp
            obtain ⟨g2, dst2, r2, x2, k2, F2⟩ := R.fact jj pp (hpre (by omega) hppl)
            have hd2 : x2.dst = s := by
              rw [F2.isX, doing_dst]
              have := F2.isDst
              rw [hps] at this; exact (Option.some.inj this).symm
            have := hnot jj x2 k2 hd2
            subst this
            rw [hSjj] at hSi; cases hSi
    · obtain ⟨h1, h2⟩ := free_spec hf
      unfold Env.free
      rw [hbS S hSi, ← hbS (fun m => decide (m < 0 + i)) hi0, h1, runS_mp.1, ← (runS_mp (S := fun m => decide (m < 0 + i)) (X := X) (k := 0) (env := env0)).1, h2]; rfl
    · have hxo : x.own.isSome = true := by rw [F.isX]; exact how
      have key : ∀ (j : Nat) (y : Doing), X[j]? = some y → y.own.isSome = true → S (0 + j) = (fun m => decide (m < 0 + i)) (0 + j) := by
        intro j y hj hy
        rw [R.ownU j i y x hj hx hy hxo, Nat.zero_add, hSi]
        simp
      exact ⟨look_runS (f := fun e => e.us) (rel := fun x => x.own.isSome = true) us_ne us_eq key rfl, look_runS (f := fun e => e.dd) (rel := fun x => x.own.isSome = true) dd_ne dd_eq key rfl⟩
  have hbx : ∀ s b, look s env0.bx = some b → look s (runS S 0 X env0).bx = some b := by
    intro s b hs
    refine bx_keep hs fun j y hj hyb e => ?_
    obtain ⟨hjp, o', ho', _⟩ := hmk j y hj
    obtain ⟨g', dst', r', x', k1, F'⟩ := R.fact j o' (hpre hjp ho')
    rw [hj] at k1; cases k1
    obtain ⟨e2, he2⟩ := F'.mem
    have hf := (memG_free he2 F'.fz F'.fm F'.noM).2.1 (by rw [← F'.isX]; exact hyb)
    have h1 := (free_spec hf).1
    have h2 : (look dst' ((X.take j).foldl (fun e x => x.app e) env0).bx).isSome = true := bx_some (by
      have : y.dst = dst' := by rw [F'.isX, doing_dst]
      rw [← this, e, hs]; rfl)
    rw [h1] at h2; cases h2
  refine value_sound (env := runS S 0 X env0) hT h (ρ := tvR (fun t => okT ((ancs ops.toList []).getD i 0) (0 + i) t (ops.toList.take p) 0) (runS S 0 X env0).wt (runS S 0 X env0).tm) (rep_tvR h _) hbx (by simpa using ho) F.isDst hgo (gcond_sound _ h 8 g) hdoes (fun r' env' c' a' w' hr' he hn hst => ?_) (fun r' hr' => ?_)
  · subst hr'
    rw [hmem] at he; cases he
    exact hK c' a' w' hn (hst.congr (app_runS hx R.dstU R.ownU hSi hS' hSS))
  · subst hr'
    exact ⟨_, hmem⟩
end

end Go.Proofs.Ytndijidmabfhcaa.Fw

/- Regions whose operations come in any order: all of them. -/
namespace Go.Proofs.Ytndijidmabfhcaa.Fw
open Go Go.RowKit

def SL (listed : Array Bool) (j : Nat) : Bool := listed.getD j false

theorem SL_lt {listed : Array Bool} {j : Nat} (h : SL listed j = true) : j < listed.size := by
  unfold SL at h
  apply Classical.byContradiction
  intro hn
  rw [Array.getD_eq_getD_getElem?, Array.getElem?_eq_none (by omega)] at h
  cases h

theorem SL_set {listed : Array Bool} {i j : Nat} (hi : i < listed.size) : SL (listed.setIfInBounds i true) j = if j = i then true else SL listed j := by
  unfold SL
  rw [Array.getD_eq_getD_getElem?, Array.getD_eq_getD_getElem?, Array.getElem?_setIfInBounds]
  by_cases e : j = i
  · subst e; simp [hi]
  · rw [if_neg (fun h => e h.symm), if_neg e]

theorem SL_get {listed : Array Bool} {i : Nat} (hi : i < listed.size) : listed.toList[i]? = some (SL listed i) := by
  unfold SL
  rw [Array.getD_eq_getD_getElem?, Array.getElem?_toList, Array.getElem?_eq_getElem hi]; rfl

theorem count_pos' {listed : Array Bool} {i : Nat} (hi : i < listed.size) (h : SL listed i = false) : 0 < listed.toList.count false := by
  rw [List.count_pos_iff]
  have := SL_get hi
  rw [h] at this
  exact List.mem_of_getElem? this

theorem count_set_lt {listed : Array Bool} {i : Nat} (hi : i < listed.size) (h : SL listed i = false) : (listed.setIfInBounds i true).toList.count false + 1 ≤ listed.toList.count false := by
  have hp := count_pos' hi h
  have hl : i < listed.toList.length := by simpa using hi
  have hg := SL_get hi
  rw [List.getElem?_eq_getElem hl, h] at hg
  have hg := Option.some.inj hg
  have e : (listed.toList.set i true).count false = listed.toList.count false - 1 := by rw [List.count_set hl, hg]; simp
  rw [Array.toList_setIfInBounds, e]; omega

theorem runS_ext {S S' : Nat → Bool} : ∀ {X : List Doing} {k : Nat} {env : Env}, (∀ j, j < X.length → S (k + j) = S' (k + j)) → runS S k X env = runS S' k X env
  | [], _, _, _ => rfl
  | x :: X, k, env, h => by
    simp only [runS]
    have h0 := h 0 (by simp)
    rw [Nat.add_zero] at h0
    rw [h0]
    exact runS_ext fun j hj => by rw [show k + 1 + j = k + (j + 1) from by omega]; exact h (j + 1) (by simpa using hj)

theorem filterMap_get : ∀ {L : List Oper}, (∀ o ∈ L, o.dst.isSome = true) → ∀ (j : Nat) (o : Oper), L[j]? = some o → (L.filterMap (·.dst))[j]? = o.dst
  | [], _, j, o, h => by simp at h
  | x :: L, hs, j, o, h => by
    have hx := hs x (by simp)
    cases hd : x.dst with
    | none => rw [hd] at hx; cases hx
    | some d =>
      rw [List.filterMap_cons_some hd]
      cases j with
      | zero => simp only [List.getElem?_cons_zero, Option.some.injEq] at h; subst h; rw [hd]; rfl
      | succ j => simpa using filterMap_get (fun o ho => hs o (by simp [ho])) j o (by simpa using h)

section
variable {P : Program} {T : Ty} {ops : Array Oper} {p : Nat} {env0 : Env} {X : List Doing} {rr : Option Nat} {n : Nat}

theorem ready_spec {listed : Array Bool} (hsz : listed.size = ops.size) {i : Nat} (h : i ∈ Region.ready .any ops listed) : i < ops.size ∧ SL listed i = false ∧ ∃ o, ops.toList[i]? = some o ∧ ∀ e ∈ o.after.toList, bindsB e = true → SL listed e.on = true := by
  simp only [Region.ready, List.mem_filter, List.mem_range, Bool.and_eq_true, Bool.not_eq_true'] at h
  obtain ⟨hi, h1, h2⟩ := h
  refine ⟨hi, ?_, ?_⟩
  · unfold SL
    rw [Array.getD_eq_getD_getElem?, Array.getElem?_eq_getElem (by omega)] at h1 ⊢
    exact h1
  · cases ho : ops[i]? with
    | none => rw [ho] at h2; cases h2
    | some o =>
      rw [ho] at h2
      simp only [Option.map_some, Option.getD_some] at h2
      refine ⟨o, by simpa using ho, fun e he hb => ?_⟩
      rw [← Array.all_toList] at h2
      have := List.all_eq_true.1 h2 e he
      unfold bindsB at hb
      rw [hb] at this
      simpa [SL] using this

theorem ready_mk {listed : Array Bool} (hsz : listed.size = ops.size) {i : Nat} {o : Oper} (ho : ops.toList[i]? = some o) (hl : SL listed i = false) (hr : ∀ e ∈ o.after.toList, bindsB e = true → SL listed e.on = true) : i ∈ Region.ready .any ops listed := by
  have hi : i < ops.size := by have := (List.getElem?_eq_some_iff.1 ho).1; simpa using this
  simp only [Region.ready, List.mem_filter, List.mem_range, Bool.and_eq_true, Bool.not_eq_true']
  refine ⟨hi, ?_, ?_⟩
  · unfold SL at hl
    rw [Array.getD_eq_getD_getElem?, Array.getElem?_eq_getElem (by omega)] at hl ⊢
    exact hl
  · have ho' : ops[i]? = some o := by simpa using ho
    rw [ho']
    simp only [Option.map_some, Option.getD_some]
    rw [← Array.all_toList]
    refine List.all_eq_true.2 fun e he => ?_
    cases hb : Region.binds .any e with
    | false => rfl
    | true => have := hr e he hb; simpa [SL] using this

theorem tail_all (hT : TyOK P T) (R : Reg P T ops p env0 X) {c0 : Ctx} (hG : GYield P c0.w0) {K0 : Env → Prop} {Q : Exit → Act → World → Prop} (hK : ∀ env' c' a' w', K0 env' → c0.Grow c' → St c' env' a' w' → Q .normal a' w') : ∀ (fuel k : Nat) (listed : Array Bool) (env : Env) (c : Ctx) (a : Act) (w : World), c0.Grow c → listed.size = ops.size → (∀ j, j < ops.size → SL listed j = decide (j < k)) → p ≤ k → k ≤ ops.size →
    St c env a w → evOps P T ops (ops.toList.drop k) env K0 → listed.toList.count false ≤ fuel → wpAnyIn (Fr rr) n P .any ops Q fuel listed a w := by
  intro fuel
  induction fuel with
  | zero =>
    intro k listed env c a w hn hsz hl hpk hkn h hd hf
    by_cases hk : k < ops.size
    · have := count_pos' (listed := listed) (i := k) (by omega) (by rw [hl k hk]; simp)
      omega
    · have hk : k = ops.size := by omega
      subst hk
      have hnr : Region.ready .any ops listed = [] := by
        apply List.eq_nil_iff_forall_not_mem.2
        intro i hi
        obtain ⟨h1, h2, _⟩ := ready_spec hsz hi
        rw [hl i h1] at h2
        simp only [decide_eq_false_iff_not] at h2; exact h2 h1
      have hdn : ops.toList.drop ops.size = [] := List.drop_eq_nil_iff.2 (by simp)
      rw [hdn] at hd
      exact ⟨hnr, hK _ c a w ((fE_iff _ _).1 hd) hn h.end⟩
  | succ fuel ih =>
    intro k listed env c a w hn hsz hl hpk hkn h hd hf
    have hback : ∀ {i : Nat} {o : Oper}, ops.toList[i]? = some o → i ≤ k → ∀ e ∈ o.after.toList, bindsB e = true → SL listed e.on = true := by
      intro i o ho hik e he hb
      have h1 := R.back i o ho e he hb
      have h2 := (List.getElem?_eq_some_iff.1 ho).1
      simp only [Array.length_toList] at h2
      rw [hl e.on (by omega)]; simp; omega
    by_cases hk : k < ops.size
    · obtain ⟨o, ho⟩ : ∃ o, ops.toList[k]? = some o := ⟨_, List.getElem?_eq_getElem (by simpa using hk)⟩
      have hkl : SL listed k = false := by rw [hl k hk]; simp
      refine ⟨fun hr => ?_, fun i hi => ?_⟩
      · have := ready_mk hsz ho hkl (hback ho (Nat.le_refl k))
        rw [hr] at this; cases this
      · obtain ⟨h1, h2, o', ho', h3⟩ := ready_spec hsz hi
        have hik : i = k := by
          rw [hl i h1] at h2
          simp only [decide_eq_false_iff_not] at h2
          rcases Nat.lt_or_ge k i with hlt | hge
          · have hcl : ∀ (j : Nat) (o : Oper), ops.toList[j]? = some o → SL listed j = true → ∀ e ∈ o.after.toList, bindsB e = true → SL listed e.on = true := by
              intro j oj hj hs
              refine hback hj ?_
              have hjn := (List.getElem?_eq_some_iff.1 hj).1
              simp only [Array.length_toList] at hjn
              rw [hl j hjn] at hs
              simp only [decide_eq_true_eq] at hs; omega
            have := anc_done R.back hcl i o' ho' h3 k (R.tail i o' ho' (by omega) k hlt)
            rw [hkl] at this; cases this
          · omega
        subst hik
        have hdr : ops.toList.drop i = o :: ops.toList.drop (i + 1) := by
          have hl' : i < ops.toList.length := by simpa using hk
          rw [List.drop_eq_getElem_cons hl']
          rw [List.getElem?_eq_getElem hl'] at ho
          rw [Option.some.inj ho]
        rw [hdr] at hd
        refine evOp_sound hT h (hG.grow hn) (by simpa using ho) hd fun env' c' a' w' hk' hn' hst => ?_
        refine ih (i + 1) _ env' c' a' w' (hn.trans hn') (by simpa using hsz) (fun j hj => ?_) (by omega) (by omega) hst ((fE1_iff _ _).1 hk') ?_
        · rw [SL_set (by omega)]
          by_cases e : j = i
          · subst e; simp
          · rw [if_neg e, hl j hj]
            congr 1
            simp only [eq_iff_iff]; omega
        · have := count_set_lt (listed := listed) (i := i) (by omega) hkl
          omega
    · have hk : k = ops.size := by omega
      subst hk
      have hdn : ops.toList.drop ops.size = [] := List.drop_eq_nil_iff.2 (by simp)
      rw [hdn] at hd
      refine ⟨fun _ => hK _ c a w ((fE_iff _ _).1 hd) hn h.end, fun i hi => ?_⟩
      obtain ⟨h1, h2, _⟩ := ready_spec hsz hi
      rw [hl i h1] at h2
      simp only [decide_eq_false_iff_not] at h2; exact absurd h1 h2

theorem phase_all (hT : TyOK P T) (R : Reg P T ops p env0 X) {c0 : Ctx} (hG : GYield P c0.w0) {K0 : Env → Prop} {Q : Exit → Act → World → Prop} (hK : ∀ env' c' a' w', K0 env' → c0.Grow c' → St c' env' a' w' → Q .normal a' w') (hd : evOps P T ops (ops.toList.drop p) (X.foldl (fun e x => x.app e) env0) K0) :
    ∀ (fuel : Nat) (listed : Array Bool) (c : Ctx) (a : Act) (w : World), c0.Grow c → listed.size = ops.size → (∀ (k : Nat) (o : Oper), ops.toList[k]? = some o → SL listed k = true → ∀ e ∈ o.after.toList, bindsB e = true → SL listed e.on = true) → (∀ j, p ≤ j → SL listed j = false) →
    St c (runS (SL listed) 0 X env0) a w → listed.toList.count false ≤ fuel → wpAnyIn (Fr rr) n P .any ops Q fuel listed a w := by
  intro fuel
  have hpn : p ≤ ops.size := by have := R.hp; simpa using this
  have done : ∀ (fuel : Nat) (listed : Array Bool) (c : Ctx) (a : Act) (w : World), c0.Grow c → listed.size = ops.size → (∀ j, p ≤ j → SL listed j = false) → St c (runS (SL listed) 0 X env0) a w → listed.toList.count false ≤ fuel → (∀ j, j < p → SL listed j = true) → wpAnyIn (Fr rr) n P .any ops Q fuel listed a w := by
    intro fuel listed c a w hn hsz htl h hf hall
    have hl : ∀ j, SL listed j = decide (j < p) := fun j => by
      by_cases hj : j < p
      · rw [hall j hj]; simp [hj]
      · rw [htl j (by omega)]; simp [hj]
    have e : runS (SL listed) 0 X env0 = X.foldl (fun e x => x.app e) env0 := by
      have h1 : runS (SL listed) 0 X env0 = runS (fun m => decide (m < 0 + p)) 0 X env0 := runS_ext fun j _ => by rw [hl]; simp
      rw [h1, runS_lt, List.take_of_length_le (by rw [R.len]; exact Nat.le_refl p)]
    rw [e] at h
    exact tail_all hT R hG hK fuel p listed _ c a w hn hsz (fun j _ => hl j) (Nat.le_refl p) hpn h hd hf
  have least : ∀ (listed : Array Bool), listed.size = ops.size → ¬ (∀ j, j < p → SL listed j = true) → ∃ j, j < p ∧ SL listed j = false ∧ j ∈ Region.ready .any ops listed := by
    intro listed hsz hna
    have h1 : ∃ j, j < p ∧ SL listed j = false := by
      apply Classical.byContradiction
      intro hno
      refine hna fun j hj => ?_
      cases hs : SL listed j with
      | true => rfl
      | false => exact absurd ⟨j, hj, hs⟩ hno
    have h2 : ∀ m j, j < m → j < p → SL listed j = false → ∃ j, j < p ∧ SL listed j = false ∧ j ∈ Region.ready .any ops listed := by
      intro m
      induction m with
      | zero => intro j hj; omega
      | succ m ih =>
        intro j hjm hj hs
        by_cases hex : ∃ j', j' < j ∧ SL listed j' = false
        · obtain ⟨j', h3, h4⟩ := hex
          exact ih j' (by omega) (by omega) h4
        · obtain ⟨o, ho⟩ : ∃ o, ops.toList[j]? = some o := ⟨_, List.getElem?_eq_getElem (by simp; omega)⟩
          refine ⟨j, hj, hs, ready_mk hsz ho hs fun e he hb => ?_⟩
          have := R.back j o ho e he hb
          cases he' : SL listed e.on with
          | true => rfl
          | false => exact absurd ⟨e.on, this, he'⟩ hex
    obtain ⟨j, h3, h4⟩ := h1
    exact h2 (j + 1) j (by omega) h3 h4
  induction fuel with
  | zero =>
    intro listed c a w hn hsz hcl htl h hf
    by_cases hall : ∀ j, j < p → SL listed j = true
    · exact done 0 listed c a w hn hsz htl h hf hall
    · obtain ⟨j, h1, h2, _⟩ := least listed hsz hall
      have := count_pos' (listed := listed) (i := j) (by omega) h2
      omega
  | succ fuel ih =>
    intro listed c a w hn hsz hcl htl h hf
    by_cases hall : ∀ j, j < p → SL listed j = true
    · exact done (fuel + 1) listed c a w hn hsz htl h hf hall
    · obtain ⟨j0, h1, h2, h3⟩ := least listed hsz hall
      refine ⟨fun hr => (by rw [hr] at h3; cases h3), fun i hi => ?_⟩
      obtain ⟨k1, k2, o, ho, k3⟩ := ready_spec hsz hi
      have hip : i < p := by
        rcases Nat.lt_or_ge i p with hlt | hge
        · exact hlt
        · have := anc_done R.back hcl i o ho k3 j0 (R.tail i o ho hge j0 (by omega))
          rw [h2] at this; cases this
      have hset : ∀ j, SL (listed.setIfInBounds i true) j = if j = i then true else SL listed j := fun j => SL_set (by omega)
      refine R.step hT hcl ho hip k2 k3 (S' := SL (listed.setIfInBounds i true)) (by rw [hset, if_pos rfl]) (fun j hj => by rw [hset, if_neg hj]) h fun c' a' w' hn' hst => ?_
      refine ih _ c' a' w' (hn.trans hn'.grow) (by simpa using hsz) (fun k ok hok hs e he hb => ?_) (fun j hj => by rw [hset, if_neg (by omega)]; exact htl j hj) hst ?_
      · rw [hset] at hs ⊢
        split
        · rfl
        · by_cases ek : k = i
          · subst ek
            rw [ho] at hok; cases hok
            exact k3 e he hb
          · rw [if_neg ek] at hs
            exact hcl k ok hok hs e he hb
      · have := count_set_lt (listed := listed) (i := i) (by omega) k2
        omega

theorem draw_sound (hT : TyOK P T) (hmo : P.follows .mixedOrders = true) {c : Ctx} {env : Env} {a : Act} {w : World} (h : St c env a w) (hG : GYield P c.w0) {id : Nat} {K0 : Env → Prop} {Q : Exit → Act → World → Prop} (hd : evRegion P T ops true env K0)
    (hK : ∀ env' c' a' w', K0 env' → c.Grow c' → St c' env' a' w' → Q .normal a' w') : (Code.region id ops true).wpIn (Fr rr) n P Q a w := by
  have hd := (fN_iff _ _).1 hd
  have hd := (fNat_iff _ _).1 hd
  obtain ⟨hok, hd⟩ := hd
  have hd := (fE_iff _ _).1 hd
  have hd := (fLs_iff _ _).1 hd
  generalize ahead T ops.toList = p at hok hd
  obtain ⟨X, h1, h2, h3, _, h5⟩ := evPh_facts _ _ _ _ _ hd
  simp only [drawOK, Bool.and_eq_true, Nat.ble_eq] at hok
  obtain ⟨⟨hple, hdis⟩, hall⟩ := hok
  have hat : ∀ (i : Nat) (o : Oper), ops.toList[i]? = some o → (o.after.toList.all (fun e => !bindsB e || Nat.blt e.on i) = true) ∧ ((match Nat.blt i p with
      | true => o.dst.isSome && (match o.guard with | some (j, _) => Nat.blt j i && Nat.testBit ((ancs ops.toList []).getD i 0) j | none => true)
      | false => (List.range i).all fun j => Nat.testBit ((ancs ops.toList []).getD i 0) j) = true) := by
    intro i o ho
    have := List.all_eq_true.1 hall i (List.mem_range.2 (List.getElem?_eq_some_iff.1 ho).1)
    rw [ho] at this
    have this := (Bool.and_eq_true _ _ ▸ this : _ ∧ _)
    exact this
  have hlen : (ops.toList.take p).length = p := by rw [List.length_take]; omega
  have hdst : ∀ o ∈ ops.toList.take p, o.dst.isSome = true := by
    intro o ho
    obtain ⟨i, hi⟩ := List.getElem?_of_mem ho
    have hip : i < p := by have := (List.getElem?_eq_some_iff.1 hi).1; omega
    rw [List.getElem?_take, if_pos hip] at hi
    have := (hat i o hi).2
    rw [show Nat.blt i p = true from by simpa using hip] at this
    simp only [Bool.and_eq_true] at this
    exact this.1
  have hfd : ∀ (j : Nat) (y : Doing), X[j]? = some y → ((ops.toList.take p).filterMap (·.dst))[j]? = some y.dst := by
    intro j y hj
    have hjp : j < (ops.toList.take p).length := by rw [← h1]; exact (List.getElem?_eq_some_iff.1 hj).1
    obtain ⟨g, dst, r, x, k1, F⟩ := h3 j _ (List.getElem?_eq_getElem hjp)
    rw [hj] at k1; cases k1
    rw [filterMap_get hdst j _ (List.getElem?_eq_getElem hjp), F.isDst, F.isX, doing_dst]
  have R : Reg P T ops p env.end X := by
    refine ⟨hple, fun i o ho e he hb => ?_, h1.trans hlen, h3, fun j j' y y' k1 k2 e => distinct_spec hdis j j' y.dst (hfd j y k1) (by rw [e]; exact hfd j' y' k2), h5, fun i o ho hip j b hg => ?_, fun i o ho hip j hj => ?_, rfl⟩
    · have := List.all_eq_true.1 (hat i o ho).1 e he
      rw [hb] at this
      simpa using this
    · have := (hat i o ho).2
      rw [show Nat.blt i p = true from by simpa using hip, hg] at this
      simp only [Bool.and_eq_true, Nat.blt_eq] at this
      exact this.2
    · have := (hat i o ho).2
      rw [show Nat.blt i p = false from by rw [← Bool.not_eq_true, Nat.blt_eq]; omega] at this
      exact List.all_eq_true.1 this j (List.mem_range.2 hj)
  refine wpIn_region_any hmo ?_
  have hS : ∀ j, SL (Array.replicate ops.size false) j = false := fun j => by
    unfold SL
    rw [Array.getD_eq_getD_getElem?, Array.getElem?_replicate]
    split <;> rfl
  refine phase_all hT R hG hK h2 ops.size _ c a _ (.refl c) (by simp) (fun k o _ hs => by rw [hS] at hs; cases hs) (fun j _ => hS j) ?_ (by simp)
  rw [runS_ext (S' := fun _ => false) (fun j _ => hS _), runS_false]
  exact h.end.drew
end

end Go.Proofs.Ytndijidmabfhcaa.Fw

/- Rounds of a range over a function: what is held between them. -/
namespace Go.Proofs.Ytndijidmabfhcaa.Fw
open Go Go.RowKit

theorem mem_dedup : ∀ {l acc : List Nat} {x : Nat}, x ∈ dedup l acc ↔ x ∈ l ∨ x ∈ acc
  | [], acc, x => by simp [dedup]
  | y :: l, acc, x => by
    unfold dedup
    cases h : acc.contains y with
    | true =>
      have hy : y ∈ acc := by simpa using h
      simp only [mem_dedup, List.mem_cons]
      constructor
      · rintro (h | h) <;> simp [h]
      · rintro ((rfl | h) | h) <;> simp [*]
    | false =>
      simp only [mem_dedup, List.mem_cons]
      constructor
      · rintro (h | rfl | h) <;> simp [*]
      · rintro ((rfl | h) | h) <;> simp [*]
theorem mem_keysOf {α : Type} : ∀ {l : List (Nat × α)} {s : Nat}, (look s l).isSome = true → s ∈ keysOf l := by
  intro l s h
  refine mem_dedup.2 (.inl ?_)
  induction l with
  | nil => simp [look] at h
  | cons p l ih =>
    obtain ⟨t, x⟩ := p
    rw [look_cons] at h
    split at h
    · rename_i e; simp [e]
    · exact List.mem_map.2 (by obtain ⟨q, h1, h2⟩ := List.mem_map.1 (ih h); exact ⟨q, List.mem_cons_of_mem _ h1, h2⟩)

section
variable {P : Program} {T : Ty} {c : Ctx} {env : Env} {a : Act} {w : World}

theorem St.covers (h : St c env a w) : Covers c.w0 (keysOf env.bx) (keysOf env.mp) := fun k s b hs => by
  obtain ⟨h1, _⟩ := h.gh.2 k s b hs
  cases k with
  | true => exact mem_keysOf h1
  | false => exact mem_keysOf h1

/-- Other temporaries. -/
theorem St.tmps (h : St c env a w) {tm' : List (Nat × D)} {ts : Array Value} (ht : ∀ t d, look t tm' = some d → RepT c env w d (ts.getD t undef)) : St c { env with nt := ts.size, tm := tm', wt := [] } { a with tmps := ts } w := by
  have S : Step c env w c { env with nt := ts.size, tm := tm', wt := [] } w := Step.sameEnv rfl rfl rfl rfl
  exact ⟨rfl, h.df, fun t d hd => S.repT (ht t d hd), fun t d hd => by simp [look] at hd, fun s b hs => (h.bx s b hs).step S rfl rfl (fun _ x => x), fun s m hs => (h.mp s m hs).step S rfl rfl (fun _ x => x), h.inj, h.above, h.lt, h.ownInj, h.ownAbove, h.im, h.im0, h.imNew, h.base, h.gh.1, S.fix h.gh.2⟩

theorem dstC_rep {d : D} {v : Value} (h : RepC c env w d v) : RepC c env w (dstC d) v := by
  cases d <;> first | exact h | skip
  rename_i st es xs
  refine ⟨h.1, ?_⟩
  cases hs : Nat.ble st 1 with
  | true => exact h.2
  | false => exact .inl rfl
theorem all2_map_left {α β γ : Type} {R : β → γ → Prop} (f : α → β) : ∀ {as : List α} {cs : List γ}, All2 (fun a c => R (f a) c) as cs ↔ All2 R (as.map f) cs
  | [], [] => Iff.rfl
  | _ :: _, _ :: _ => and_congr_right fun _ => all2_map_left f
  | [], _ :: _ => Iff.rfl
  | _ :: _, [] => Iff.rfl
theorem dstD_rep {d : D} {v : Value} (h : RepT c env w d v) : RepT c env w (dstD d) v := by
  cases d with
  | agg cs =>
    obtain ⟨vs, e, h⟩ := h
    exact ⟨vs, e, (all2_map_left dstC).1 (h.mono fun _ _ => dstC_rep)⟩
  | tup ds => trivial
  | sl st es xs => exact dstC_rep (d := .sl st es xs) h
  | _ => exact h

section
variable {c' : Ctx} {env' : Env} {w' : World} (K : Keeps c.I c'.I w w') (hb : ∀ s, (look s env.bx).isSome = true → (look s env'.bx).isSome = true ∧ c'.ρ s = c.ρ s) (hm : ∀ s, (look s env.mp).isSome = true → (look s env'.mp).isSome = true ∧ c'.ρ s = c.ρ s)
include K hb hm
theorem dstC_move {d : D} {v : Value} (h : RepC c env w (dstC d) v) : RepC c' env' w' (dstC d) v := by
  cases d with
  | loc s off => exact ⟨(hb s h.1).1, by rw [(hb s h.1).2]; exact h.2⟩
  | lsl s off n => exact ⟨(hb s h.1).1, by rw [(hb s h.1).2]; exact h.2⟩
  | mapr s => exact ⟨(hm s h.1).1, by rw [(hm s h.1).2]; exact h.2⟩
  | sl st es xs =>
    refine ⟨Rep.keeps K _ _ h.1, ?_⟩
    rcases h.2 with e | e | ⟨e, _⟩
    · exact .inl e
    · exact .inr (.inl e)
    · cases hs : Nat.ble st 1 with
      | true => rw [hs] at e; have := Nat.le_of_ble_eq_true hs; simp only [cond_true] at e; omega
      | false => rw [hs] at e; simp at e
  | agg cs => exact h.elim
  | tup cs => exact h.elim
  | _ => exact Rep.keeps K _ _ h
theorem dstD_move {d : D} {v : Value} (h : RepT c env w (dstD d) v) : RepT c' env' w' (dstD d) v := by
  cases d with
  | agg cs =>
    obtain ⟨vs, e, h⟩ := h
    exact ⟨vs, e, (all2_map_left dstC).1 (((all2_map_left dstC).2 h).mono fun _ _ => dstC_move K hb hm)⟩
  | tup ds => trivial
  | undef => trivial
  | wh s b d => exact (show False from h).elim
  | sl st es xs => exact dstC_move K hb hm (d := .sl st es xs) h
  | loc s off => exact dstC_move K hb hm (d := .loc s off) h
  | lsl s off n => exact dstC_move K hb hm (d := .lsl s off n) h
  | mapr s => exact dstC_move K hb hm (d := .mapr s) h
  | int k n => exact Rep.keeps K (.int k n) _ h
  | bool b => exact Rep.keeps K (.bool b) _ h
  | str l => exact Rep.keeps K (.str l) _ h
  | eptr d o => exact Rep.keeps K (.eptr d o) _ h
  | nilp => exact Rep.keeps K .nilp _ h
  | fn f cs => exact Rep.keeps K (.fn f cs) _ h
  | nilf => exact Rep.keeps K .nilf _ h
  | ifc t d => exact Rep.keeps K (.ifc t d) _ h
  | nili => exact Rep.keeps K .nili _ h
  | mapv ks vs => exact Rep.keeps K (.mapv ks vs) _ h
  | nilm => exact Rep.keeps K .nilm _ h
  | yld l => exact Rep.keeps K (.yld l) _ h
end
end

/-- A root that asks nothing. -/
def Root.free (w : World) : Root := ⟨w, fun _ => False, [], none, fun _ _ => none, fun _ _ _ _ => True⟩
theorem Root.free_base (w : World) : BaseF (Root.free w) w := ⟨rfl, rfl, rfl, Nat.le_refl _, fun _ h => h.elim, fun _ h => h.elim, fun _ h => (by cases h), List.nodup_nil, fun _ h => (by cases h), fun _ h => (by cases h)⟩
theorem Root.free_off (w : World) (k : Nat) : (Root.free w).off k := ⟨fun h => h, by simp [Root.free]⟩
theorem Root.free_fix (w : World) (ρ : Nat → Nat) (env : Env) : FixAll (Root.free w) ρ env := fun _ _ _ h => by cases h

/-- What is held between two rounds. -/
structure Held (c : Ctx) (r1 : Root) (ρ0 : Nat → Nat) (bs ms : List Nat) (tm0 : List (Nat × D)) (tmps : Array Value) (l : Nat) (rc : Loop) (O : Nat → Prop) (I : Im) (W : World) (c' : Ctx) (env' : Env) : Prop where
  st : St c' env' { tmps := tmps, defers := [] } W
  tm : ∀ t d, look t tm0 = some d → RepT c' env' W d (tmps.getD t undef)
  base : BaseF r1 W
  im0 : Keeps c.I0 c'.I c.w0.wd W
  new : ∀ b o, c'.I b o → c.I0 b o ∨ r1.off b
  off : ∀ k, ownB c' env' k → r1.off k ∧ k ≠ l
  bx : ∀ s, (look s env'.bx).isSome = true ↔ s ∈ bs
  mp : ∀ s, (look s env'.mp).isSome = true ↔ s ∈ ms
  rho : ∀ s, s ∈ bs ∨ s ∈ ms → c'.ρ s = ρ0 s
  rcd : W.heap[l]? = some (.loop rc)
  rl : r1.off l
  il : ∀ o, ¬ c'.I l o
  sub : ∀ b o, I b o → c'.I b o
  own : ∀ b o, c'.I b o → O b → I b o
  oo : ∀ k, O k → r1.off k ∧ k ≠ l ∧ ¬ ownB c' env' k ∧ k < W.heap.size

section
variable {P : Program} {T : Ty} {c : Ctx} {r1 : Root} {ρ0 : Nat → Nat} {bs ms : List Nat} {tm0 : List (Nat × D)} {tmps : Array Value} {l : Nat} {rc : Loop} {O : Nat → Prop} {I : Im} {W : World} {c' : Ctx} {env' : Env}

theorem ownB_env {c : Ctx} {env : Env} {I : Im} {r : Root} {I0 : Im} {df : List Deferred} {ys : Option (Nat × List (List D))} {k : Nat} : ownB { c with I := I, w0 := r, I0 := I0, df := df } { env with ys := ys } k ↔ ownB c env k := Iff.rfl

/-- The iterator goes on. -/
theorem Held.step (h : Held c r1 ρ0 bs ms tm0 tmps l rc O I W c' env') (htm : ∀ t d, look t tm0 = some d → ∃ d0, d = dstD d0) {O' : Nat → Prop} {I' : Im} {W' : World} (s : ItStep O I W O' I' W') :
    ∃ c2, Held c r1 ρ0 bs ms tm0 tmps l rc O' I' W' c2 env' := by
  have hlt := h.st.im
  have hsame : ∀ k, k < W.heap.size → ¬ O k → W'.heap[k]? = W.heap[k]? := s.same
  have hl : l < W.heap.size := (Array.getElem?_eq_some_iff.1 h.rcd).1
  have hOl : ¬ O l := fun x => (h.oo l x).2.1 rfl
  have hown : ∀ k, ownB c' env' k → W'.heap[k]? = W.heap[k]? := fun k hk => hsame k (ownB_lt h.st hk) fun x => (h.oo k x).2.2.1 hk
  have hK : Keeps c'.I (fun b o => c'.I b o ∨ I' b o) W W' := by
    refine ⟨fun _ _ x => .inl x, fun ad u hi hu => ?_, fun r es k hi hr => ?_⟩
    · by_cases ho : O ad.block
      · exact s.keeps.cell ad u (h.own _ _ hi ho) hu
      · exact (World.cell?_of_block (hsame _ (hlt _ _ hi) ho)).trans hu
    · by_cases ho : O r
      · exact s.keeps.map r es k (h.own _ _ hi ho) hr
      · exact (hsame _ (hlt _ _ hi) ho).trans hr
  have hI : ∀ b o, (c'.I b o ∨ I' b o) → c'.I b o ∨ ¬ ownB c' env' b := by
    rintro b o (x | x)
    · exact .inl x
    · rcases s.im b o x with x | x | x
      · exact .inl (h.sub b o x)
      · exact .inr (h.oo b x).2.2.1
      · exact .inr fun y => by have := ownB_lt h.st y; omega
  have hm := h.st.move (I' := fun b o => c'.I b o ∨ I' b o) (I0' := fun b o => c'.I b o ∨ I' b o) (w' := W') (r' := Root.free W') (ys' := env'.ys) (df' := []) s.size hown hK hI
    (fun b o x => x.elim (fun x => Nat.lt_of_lt_of_le (hlt b o x) s.size) (s.lt b o)) (fun k _ => Root.free_off _ k) (Root.free_base _) (Keeps.refl _ _) (fun _ _ x => .inl x) rfl ⟨trivial, Root.free_fix _ _ _⟩
  refine ⟨{ c' with I := fun b o => c'.I b o ∨ I' b o, w0 := Root.free W', I0 := fun b o => c'.I b o ∨ I' b o, df := [] }, { st := hm.1, tm := fun t d hd => ?_, base := h.base.trans ⟨s.os, s.tape, s.output, s.size, fun k hk => hsame k (h.base.below_of hk) fun x => hk (h.oo k x).1⟩, im0 := h.im0.trans hK, new := ?_, off := h.off, bx := h.bx, mp := h.mp, rho := h.rho, rcd := (hsame l hl hOl).trans h.rcd, rl := h.rl, il := ?_, sub := fun b o x => .inr x, own := ?_, oo := ?_ }⟩
  · obtain ⟨d0, rfl⟩ := htm t d hd
    exact dstD_move (c := c') (env := env') (w := W) (c' := { c' with I := fun b o => c'.I b o ∨ I' b o, w0 := Root.free W', I0 := fun b o => c'.I b o ∨ I' b o, df := [] }) (env' := env') (w' := W') hK (fun _ x => ⟨x, rfl⟩) (fun _ x => ⟨x, rfl⟩) (h.tm t _ hd)
  · rintro b o (x | x)
    · exact h.new b o x
    · rcases s.im b o x with x | x | x
      · exact h.new b o (h.sub b o x)
      · exact .inr (h.oo b x).1
      · exact .inr (h.base.new x)
  · rintro o (x | x)
    · exact h.il o x
    · rcases s.im l o x with x | x | x
      · exact h.il o (h.sub l o x)
      · exact hOl x
      · omega
  · rintro b o (x | x) y
    · rcases s.own b y with y | y
      · exact s.keeps.im b o (h.own b o x y)
      · have := hlt b o x; omega
    · exact x
  · intro k x
    refine ⟨?_, ?_, ?_, s.olt k x⟩
    · rcases s.own k x with y | y
      · exact (h.oo k y).1
      · exact h.base.new y
    · rcases s.own k x with y | y
      · exact (h.oo k y).2.1
      · omega
    · rcases s.own k x with y | y
      · exact (h.oo k y).2.2.1
      · intro z; have := ownB_lt h.st z; omega

/-- What lies between two states: elsewhere nothing has changed but block l. -/
structure Away (l : Nat) (c' : Ctx) (env' : Env) (W : World) (cA : Ctx) (envA : Env) (W1 : World) : Prop where
  os : W1.os = W.os
  tape : W1.tape = W.tape
  output : W1.output = W.output
  size : W.heap.size ≤ W1.heap.size
  same : ∀ k, k < W.heap.size → ¬ ownB c' env' k → k ≠ l → W1.heap[k]? = W.heap[k]?
  keeps : Keeps c'.I cA.I W W1
  new : ∀ b o, cA.I b o → c'.I b o ∨ ownB c' env' b ∨ W.heap.size ≤ b
  own : ∀ k, ownB cA envA k → ownB c' env' k ∨ W.heap.size ≤ k

theorem Away.trans {cA cB : Ctx} {envA envB : Env} {W1 W2 : World} (h : Away l c' env' W cA envA W1) (k : Away l cA envA W1 cB envB W2) : Away l c' env' W cB envB W2 := by
  refine ⟨k.os.trans h.os, k.tape.trans h.tape, k.output.trans h.output, Nat.le_trans h.size k.size, fun i hi ho hl => ?_, h.keeps.trans k.keeps, fun b o x => ?_, fun i x => ?_⟩
  · refine (k.same i (Nat.lt_of_lt_of_le hi h.size) (fun x => ?_) hl).trans (h.same i hi ho hl)
    rcases h.own i x with y | y
    · exact ho y
    · omega
  · rcases k.new b o x with y | y | y
    · exact h.new b o y
    · exact (h.own b y).elim (fun z => .inr (.inl z)) fun z => .inr (.inr z)
    · exact .inr (.inr (Nat.le_trans h.size y))
  · rcases k.own i x with y | y
    · exact h.own i y
    · exact .inr (Nat.le_trans h.size y)

def fixOf (bs ms : List Nat) (ρ0 : Nat → Nat) : Bool → Nat → Option Nat
  | true, s => if s ∈ bs then some (ρ0 s) else none
  | false, s => if s ∈ ms then some (ρ0 s) else none
theorem fixOf_ok {ρ : Nat → Nat} {env : Env} {wd : World} {far : Nat → Prop} {lp : Option Nat} {G : Option (Nat × List (List D)) → (Nat → Prop) → World → Im → Prop} :
    FixAll ⟨wd, far, [], lp, fixOf bs ms ρ0, G⟩ ρ env ↔ (∀ s, s ∈ bs → (look s env.bx).isSome = true ∧ ρ s = ρ0 s) ∧ (∀ s, s ∈ ms → (look s env.mp).isSome = true ∧ ρ s = ρ0 s) := by
  constructor
  · intro h
    exact ⟨fun s hs => h true s (ρ0 s) (if_pos hs), fun s hs => h false s (ρ0 s) (if_pos hs)⟩
  · rintro ⟨h1, h2⟩ k s b hs
    cases k with
    | true =>
      simp only [fixOf] at hs
      split at hs
      · rename_i hm; cases hs; exact h1 s hm
      · cases hs
    | false =>
      simp only [fixOf] at hs
      split at hs
      · rename_i hm; cases hs; exact h2 s hm
      · cases hs

/-- The root of a round. -/
def roundRoot (bs ms : List Nat) (ρ0 : Nat → Nat) (l : Nat) (I : Im) (own : Nat → Prop) (W : World) : Root :=
  ⟨W, fun k => k < W.heap.size ∧ ¬ own k, [], some l, fixOf bs ms ρ0, fun ys far wd I0 => ys = none ∧ far = (fun k => k < W.heap.size ∧ ¬ own k) ∧ wd = W ∧ I0 = I⟩
theorem round_yield (bs ms : List Nat) (ρ0 : Nat → Nat) (l : Nat) (I : Im) (own : Nat → Prop) (W : World) : GYield P (roundRoot bs ms ρ0 l I own W) :=
  ⟨.inr fun _ _ _ _ h => h.1, fun _ _ _ _ _ _ _ _ _ _ _ h => by cases h.1⟩

theorem away_of {cA : Ctx} {envA : Env} {aA : Act} {W1 : World} (hs : St cA envA aA W1) (hG : cA.w0.G = (roundRoot bs ms ρ0 l c'.I (ownB c' env') W).G) : Away l c' env' W cA envA W1 := by
  have hg := hs.gh.1
  rw [hG] at hg
  obtain ⟨_, h2, h3, h4⟩ := hg
  have hb := hs.base
  have hoff : ∀ k, cA.w0.off k → ownB c' env' k ∨ W.heap.size ≤ k := fun k hk => by
    have := hk.1
    rw [h2] at this
    by_cases e : k < W.heap.size
    · by_cases o : ownB c' env' k
      · exact .inl o
      · exact absurd ⟨e, o⟩ this
    · exact .inr (by omega)
  have e1 := hb.os; have e2 := hb.tape; have e3 := hb.output; have e4 := hb.grow; have e5 := hs.im0
  rw [h3] at e1 e2 e3 e4
  rw [h3, h4] at e5
  refine ⟨e1, e2, e3, e4, fun k hk ho _ => ?_, e5, fun b o x => ?_, fun k x => hoff k (ownB_off hs x)⟩
  · have := hb.block k (by rw [h2]; exact ⟨hk, ho⟩)
    rw [h3] at this; exact this
  · rcases hs.imNew b o x with y | y
    · rw [h4] at y; exact .inl y
    · exact .inr (hoff b y)

theorem away_put {cA : Ctx} {envA : Env} {W1 : World} (o : Obj) (hl : ∀ o, ¬ cA.I l o) : Away l cA envA W1 cA envA (W1.putObj l o) := by
  have hsame : ∀ k, k ≠ l → (W1.putObj l o).heap[k]? = W1.heap[k]? := fun k hk => World.putObj_heap_other hk
  refine ⟨rfl, rfl, rfl, by simp, fun k _ _ hk => hsame k hk, ⟨fun _ _ x => x, fun ad u hi hu => ?_, fun r es k hi hr => ?_⟩, fun _ _ x => .inl x, fun _ x => .inl x⟩
  · exact (World.cell?_of_block (hsame _ fun e => hl _ (e ▸ hi))).trans hu
  · exact (hsame _ fun e => hl _ (e ▸ hi)).trans hr

/-- The state in which a round begins. -/
theorem Held.enter (h : Held c r1 ρ0 bs ms tm0 tmps l rc O I W c' env') {ts : Array Value} {tm' : List (Nat × D)} (ht : ∀ t d, look t tm' = some d → RepT c' env' W d (ts.getD t undef)) :
    St { c' with w0 := roundRoot bs ms ρ0 l c'.I (ownB c' env') W, I0 := c'.I, df := [] } { env' with nt := ts.size, tm := tm', wt := [], ys := none } { tmps := ts, defers := [] } W := by
  have h1 := h.st.tmps ht
  have hl : l < W.heap.size := (Array.getElem?_eq_some_iff.1 h.rcd).1
  have hm := h1.move (I' := c'.I) (I0' := c'.I) (w' := W) (r' := roundRoot bs ms ρ0 l c'.I (ownB c' env') W) (ys' := none) (df' := []) (Nat.le_refl _) (fun _ _ => rfl) (Keeps.refl _ _) (fun _ _ x => .inl x) h.st.im (fun k hk => ⟨fun x => x.2 hk, by simp [roundRoot]⟩)
    ⟨rfl, rfl, rfl, Nat.le_refl _, fun _ x => x.1, fun _ _ => rfl, fun _ x => (by cases x), List.nodup_nil, fun _ x => (by cases x), fun l' hl' => by
      have : l = l' := by simpa [roundRoot] using hl'
      subst this
      exact ⟨⟨hl, fun x => (h.off l x).2 rfl⟩, _, h.rcd⟩⟩ (Keeps.refl _ _) (fun _ _ x => .inl x) rfl ⟨⟨rfl, rfl, rfl, rfl⟩, fixOf_ok.2 ⟨fun s hs => ⟨(h.bx s).2 hs, h.rho s (.inl hs)⟩, fun s hs => ⟨(h.mp s).2 hs, h.rho s (.inr hs)⟩⟩⟩
  exact hm.1

theorem Held.il_away (h : Held c r1 ρ0 bs ms tm0 tmps l rc O I W c' env') {cA : Ctx} {envA : Env} {W1 : World} (A : Away l c' env' W cA envA W1) : ∀ o, ¬ cA.I l o := fun o x => by
  have hl : l < W.heap.size := (Array.getElem?_eq_some_iff.1 h.rcd).1
  rcases A.new l o x with y | y | y
  · exact h.il o y
  · exact (h.off l y).2 rfl
  · omega
theorem Held.rec_away (h : Held c r1 ρ0 bs ms tm0 tmps l rc O I W c' env') {cA : Ctx} {envA : Env} {W1 : World} (A : Away l c' env' W cA envA W1) : ¬ ownB cA envA l := fun x => by
  have hl : l < W.heap.size := (Array.getElem?_eq_some_iff.1 h.rcd).1
  rcases A.own l x with y | y
  · exact (h.off l y).2 rfl
  · omega

/-- The record is turned, and the round goes on. -/
theorem Held.mid (h : Held c r1 ρ0 bs ms tm0 tmps l rc O I W c' env') {cA : Ctx} {envA : Env} {aA : Act} {W1 : World} (hs : St cA envA aA W1) (A : Away l c' env' W cA envA W1) (hdf : aA.defers = []) (hfix : FixAll (roundRoot bs ms ρ0 l c'.I (ownB c' env') W) cA.ρ envA) (hys : envA.ys = none) (rc' : Loop) (hlt : l < W1.heap.size) :
    St { cA with w0 := roundRoot bs ms ρ0 l cA.I (ownB cA envA) (W1.putObj l (.loop rc')), I0 := cA.I, df := [] } envA aA (W1.putObj l (.loop rc')) := by
  have hil := h.il_away A
  have hrl := h.rec_away A
  have hsame : ∀ k, k ≠ l → (W1.putObj l (.loop rc')).heap[k]? = W1.heap[k]? := fun k hk => World.putObj_heap_other hk
  have hp := away_put (envA := envA) (W1 := W1) (.loop rc') hil
  have hm := hs.move (I' := cA.I) (I0' := cA.I) (w' := W1.putObj l (.loop rc')) (r' := roundRoot bs ms ρ0 l cA.I (ownB cA envA) (W1.putObj l (.loop rc'))) (ys' := none) (df' := []) (by simp) (fun k hk => hsame k fun e => hrl (e ▸ hk)) hp.keeps (fun _ _ x => .inl x) (fun b o x => by simpa using hs.im b o x)
    (fun k hk => ⟨fun x => x.2 hk, by simp [roundRoot]⟩)
    ⟨rfl, rfl, rfl, Nat.le_refl _, fun _ x => x.1, fun _ _ => rfl, fun _ x => (by cases x), List.nodup_nil, fun _ x => (by cases x), fun l' hl' => by
      have : l = l' := by simpa [roundRoot] using hl'
      subst this
      exact ⟨⟨by simpa using hlt, hrl⟩, _, World.putObj_heap_same hlt⟩⟩ (Keeps.refl _ _) (fun _ _ x => .inl x) rfl ⟨⟨rfl, rfl, rfl, rfl⟩, fixOf_ok.2 (fixOf_ok.1 hfix)⟩
  have e1 : ({ aA with defers := [] } : Act) = aA := by rw [← hdf]
  have e2 : ({ envA with ys := none } : Env) = envA := by rw [← hys]
  have := hm.1
  rw [e1, e2] at this
  exact this

/-- The round is over. -/
theorem Held.back (h : Held c r1 ρ0 bs ms tm0 tmps l rc O I W c' env') (htm : ∀ t d, look t tm0 = some d → ∃ d0, d = dstD d0) {cB c2 : Ctx} {envB env2 : Env} {aB : Act} {W2 : World} (A : Away l c' env' W cB envB W2) (hs2 : St c2 env2 aB W2)
    (hfix : FixAll (roundRoot bs ms ρ0 l c'.I (ownB c' env') W) cB.ρ envB) (hρ : c2.ρ = cB.ρ) (hI : c2.I = cB.I) (hbx : ∀ s, (look s env2.bx).isSome = true ↔ s ∈ bs) (hmp : ∀ s, (look s env2.mp).isSome = true ↔ s ∈ ms) (hown : ∀ k, ownB c2 env2 k → ownB cB envB k) (rc' : Loop) :
    ItBack O I W (W2.putObj l (.loop rc')) ∧ ∃ c3, Held c r1 ρ0 bs ms tm0 tmps l rc' O I (W2.putObj l (.loop rc')) c3 { env2 with nt := tmps.size, tm := [], wt := [] } := by
  have hil := h.il_away A
  have hrl := h.rec_away A
  have B := A.trans (away_put (.loop rc') hil)
  have hl : l < W.heap.size := (Array.getElem?_eq_some_iff.1 h.rcd).1
  have hl2 : l < W2.heap.size := Nat.lt_of_lt_of_le hl A.size
  have hsame : ∀ k, k ≠ l → (W2.putObj l (.loop rc')).heap[k]? = W2.heap[k]? := fun k hk => World.putObj_heap_other hk
  refine ⟨⟨B.os, B.tape, B.output, B.size, fun k hk => B.same k (h.oo k hk).2.2.2 (h.oo k hk).2.2.1 (h.oo k hk).2.1, fun _ _ x => x, fun ad u hi hu => B.keeps.cell ad u (h.sub _ _ hi) hu, fun r es k hi hr => B.keeps.map r es k (h.sub _ _ hi) hr⟩, ?_⟩
  have h3 := hs2.tmps (tm' := []) (ts := tmps) (fun t d hd => by simp [look] at hd)
  have hm := h3.move (I' := c2.I) (I0' := c2.I) (w' := W2.putObj l (.loop rc')) (r' := Root.free (W2.putObj l (.loop rc'))) (ys' := env2.ys) (df' := []) (by simp) (fun k hk => hsame k fun e => hrl (hown l (e ▸ hk))) (by rw [hI]; exact (away_put (envA := envB) (.loop rc') hil).keeps) (fun _ _ x => .inl x) (fun b o x => by simpa using hs2.im b o x)
    (fun k _ => Root.free_off _ k) (Root.free_base _) (Keeps.refl _ _) (fun _ _ x => .inl x) rfl ⟨trivial, Root.free_fix _ _ _⟩
  obtain ⟨f1, f2⟩ := fixOf_ok.1 hfix
  have hrho : ∀ s, s ∈ bs ∨ s ∈ ms → c2.ρ s = ρ0 s := fun s hs => by rw [hρ]; exact hs.elim (fun x => (f1 s x).2) fun x => (f2 s x).2
  have hK : Keeps c'.I c2.I W (W2.putObj l (.loop rc')) := by rw [hI]; exact B.keeps
  refine ⟨{ c2 with I := c2.I, w0 := Root.free (W2.putObj l (.loop rc')), I0 := c2.I, df := [] }, { st := hm.1, tm := fun t d hd => ?_, base := h.base.trans ⟨B.os, B.tape, B.output, B.size, fun k hk => B.same k (h.base.below_of hk) (fun x => hk (h.off k x).1) (fun e => hk (e ▸ h.rl))⟩, im0 := h.im0.trans hK, new := ?_, off := ?_, bx := hbx, mp := hmp, rho := hrho, rcd := World.putObj_heap_same hl2, rl := h.rl, il := ?_, sub := ?_, own := ?_, oo := ?_ }⟩
  · obtain ⟨d0, rfl⟩ := htm t d hd
    refine dstD_move (c := c') (env := env') (w := W) (c' := { c2 with I := c2.I, w0 := Root.free (W2.putObj l (.loop rc')), I0 := c2.I, df := [] }) (env' := { env2 with nt := tmps.size, tm := [], wt := [] }) (w' := W2.putObj l (.loop rc')) hK (fun s x => ?_) (fun s x => ?_) (h.tm t _ hd)
    · have := (h.bx s).1 x
      exact ⟨(hbx s).2 this, (hrho s (.inl this)).trans (h.rho s (.inl this)).symm⟩
    · have := (h.mp s).1 x
      exact ⟨(hmp s).2 this, (hrho s (.inr this)).trans (h.rho s (.inr this)).symm⟩
  · intro b o x
    rcases A.new b o (by rw [← hI]; exact x) with y | y | y
    · exact h.new b o y
    · exact .inr (h.off b y).1
    · exact .inr (h.base.new y)
  · intro k x
    rcases A.own k (hown k x) with y | y
    · exact h.off k y
    · exact ⟨h.base.new y, by omega⟩
  · intro o x; exact hil o (by rw [← hI]; exact x)
  · intro b o x; show c2.I b o; rw [hI]; exact A.keeps.im b o (h.sub b o x)
  · intro b o x y
    rcases A.new b o (by rw [← hI]; exact x) with z | z | z
    · exact h.own b o z y
    · exact absurd z (h.oo b y).2.2.1
    · have := (h.oo b y).2.2.2; omega
  · intro k x
    refine ⟨(h.oo k x).1, (h.oo k x).2.1, fun y => ?_, Nat.lt_of_lt_of_le (h.oo k x).2.2.2 B.size⟩
    rcases A.own k (hown k y) with z | z
    · exact (h.oo k x).2.2.1 z
    · have := (h.oo k x).2.2.2; omega

theorem away_same {cA : Ctx} {envA : Env} {aA : Act} {W1 : World} (hs : St cA envA aA W1) (hG : cA.w0.G = (roundRoot bs ms ρ0 l c'.I (ownB c' env') W).G) {k : Nat} (hk : k < W.heap.size) (ho : ¬ ownB c' env' k) : W1.heap[k]? = W.heap[k]? := by
  have hg := hs.gh.1
  rw [hG] at hg
  obtain ⟨_, h2, h3, h4⟩ := hg
  have := hs.base.block k (by rw [h2]; exact ⟨hk, ho⟩)
  rw [h3] at this; exact this

/-- Behind the loop. -/
theorem Held.final (h : Held c r1 ρ0 bs ms tm0 tmps l rc O I W c' env') {ys : Option (Nat × List (List D))} {df : List Deferred} (o : Obj) (hdf : df = r1.mks.map markOf) (hG : r1.G ys r1.far r1.wd c.I0) (hwd : r1.wd = c.w0.wd) (hfix : FixAll r1 c'.ρ env') :
    St { c' with w0 := r1, I0 := c.I0, df := df } { env' with nt := tmps.size, tm := tm0, wt := [], ys := ys } { tmps := tmps, defers := df } (W.putObj l o) := by
  have h3 := h.st.tmps (tm' := tm0) (ts := tmps) h.tm
  have hsame : ∀ k, k ≠ l → (W.putObj l o).heap[k]? = W.heap[k]? := fun k hk => World.putObj_heap_other hk
  have hK : Keeps c'.I c'.I W (W.putObj l o) := (away_put (envA := env') o h.il).keeps
  exact (h3.move (I' := c'.I) (I0' := c.I0) (w' := W.putObj l o) (r' := r1) (ys' := ys) (df' := df) (by simp) (fun k hk => hsame k (h.off k hk).2) hK (fun _ _ x => .inl x) (fun b o x => by simpa using h.st.im b o x) (fun k hk => (h.off k hk).1)
    (h.base.trans ⟨rfl, rfl, rfl, by simp, fun k hk => hsame k fun e => hk (e ▸ h.rl)⟩) (by rw [hwd]; exact h.im0.trans hK) h.new hdf ⟨hG, hfix⟩).1

end
end Go.Proofs.Ytndijidmabfhcaa.Fw

/- What is laid otherwise at the head of a loop: nil that will be appended to; rows that are appended to no more; slots that are asked no more. -/
namespace Go.Proofs.Ytndijidmabfhcaa.Fw
open Go Go.RowKit

variable {c : Ctx} {env : Env} {a : Act} {w : World}

theorem St.nilStamp (h : St c env a w) {s' u : Nat} (hs' : look s' env.us = none) (hsd : s' ∉ env.dd) :
    St (c.own s' none 0) (env.stamp s' u 1) a w ∧ Step c env w (c.own s' none 0) (env.stamp s' u 1) w := by
  have hne : ∀ st0, env.live st0 → st0 ≠ s' := fun st0 hl e => by have := hl.1; rw [e, hs'] at this; cases this
  have S : Step c env w (c.own s' none 0) (env.stamp s' u 1) w := by
    refine ⟨⟨fun _ _ h => .inl h, fun _ _ _ h => h, fun _ _ _ _ h => h⟩, fun _ h => ⟨h, rfl⟩, fun _ h => ⟨h, rfl⟩, fun s0 u0 hl => ?_, fun s0 hl => ?_, fun st0 hl hn => ⟨if_neg (hne st0 hl), fun g0 hσ => ⟨rfl, fun o ho => ho.resolve_right fun e => by cases e.1⟩⟩⟩
    · simp only [us_stamp, look_cons]; rw [if_neg]
      · exact hl
      · rintro rfl; rw [hs'] at hl; cases hl
    · rw [dd_stamp, if_pos rfl]; exact hl
  have hI : ∀ b o, (c.own s' none 0).I b o → c.I b o := fun b o hi => hi.resolve_right fun e => by cases e.1
  refine ⟨⟨h.nt, h.df, fun t d hd => S.repT (h.tm t d hd), fun t d hd => (h.wt t d hd).step S, fun s b hs => ?_, fun s m hs => ?_, h.inj, h.above, h.lt, ?_, ?_, ?_, h.im0.trans S.keeps, ?_, h.base, h.gh⟩, S⟩
  · exact (h.bx s b hs).step S rfl rfl (fun o ho => hI _ _ ho)
  · exact (h.mp s m hs).step S rfl rfl (fun o ho => hI _ _ ho)
  · intro s1 s2 g hl1 hl2 h1 h2
    rcases live_stamp hl1 with e1 | ⟨kl1, hd1⟩ <;> rcases live_stamp hl2 with e2 | ⟨kl2, hd2⟩
    · exact e1.trans e2.symm
    · simp only [Ctx.own, if_pos e1] at h1; cases h1
    · simp only [Ctx.own, if_pos e2] at h2; cases h2
    · simp only [Ctx.own, if_neg (hne s1 kl1), if_neg (hne s2 kl2)] at h1 h2
      exact h.ownInj s1 s2 g kl1 kl2 h1 h2
  · intro s1 g hl1 h1
    rcases live_stamp hl1 with e1 | ⟨kl1, hd1⟩
    · simp only [Ctx.own, if_pos e1] at h1; cases h1
    · simp only [Ctx.own, if_neg (hne s1 kl1)] at h1
      exact h.ownAbove s1 g kl1 h1
  · exact fun b o hi => h.im b o (hI _ _ hi)
  · exact fun b o hi => h.imNew b o (hI _ _ hi)

theorem nil_own {s' u es es' : Nat} {xs : List D} {v : Value} (hs2 : 2 ≤ s') (he : es = es' ∨ xs = []) (hr : RepC c env w (.sl 1 es xs) v) : RepC (c.own s' none 0) (env.stamp s' u 1) w (.sl s' es' xs) v := by
  obtain ⟨h1, h2⟩ := hr
  obtain ⟨b, hv⟩ : ∃ b, v = .slice b xs.length xs.length := by
    rcases h2 with h2 | h2 | h2
    · cases h2
    · exact h2.2
    · exact absurd h2.1 (by omega)
  refine ⟨⟨rfl, ?_⟩, .inr (.inr ⟨hs2, u, by simp [us_stamp, look_cons], .inr ?_⟩)⟩
  · have K : Keeps c.I (c.own s' none 0).I w w := ⟨fun _ _ h => .inl h, fun _ _ _ h => h, fun _ _ _ _ h => h⟩
    rcases h1.2 with ⟨h3, h4⟩ | ⟨a, cap, h3, h4, h5⟩
    · exact .inl ⟨h3, h4⟩
    · refine .inr ⟨a, cap, h3, h4, ?_⟩
      rcases he with rfl | rfl
      · exact RepRow.keeps K _ _ _ _ h5
      · simp only [RepRow]
  · simp only [Ctx.own, if_true]
    exact ⟨b, hv⟩

theorem St.setTm (h : St c env a w) {t : Nat} {d : D} (hd : RepT c env w d (a.tmps.getD t undef)) : St c { env with tm := (t, d) :: env.tm } a w := by
  refine ⟨h.nt, h.df, fun t' d' hd' => ?_, h.wt, h.bx, h.mp, h.inj, h.above, h.lt, h.ownInj, h.ownAbove, h.im, h.im0, h.imNew, h.base, h.gh⟩
  rw [look_cons] at hd'
  split at hd'
  · rename_i e; subst e; cases hd'; exact hd
  · exact h.tm t' d' hd'
theorem all2_setN {α β : Type} {R : α → β → Prop} : ∀ {as : List α} {bs : List β} {i : Nat} {x : α}, All2 R as bs → (∀ y, bs[i]? = some y → R x y) → All2 R (as.set i x) bs
  | [], [], _, _, _, _ => trivial
  | _ :: _, _ :: _, 0, x, h, hx => ⟨hx _ rfl, h.2⟩
  | _ :: _, _ :: _, i + 1, x, h, hx => ⟨h.1, all2_setN h.2 fun y hy => hx y (by simpa using hy)⟩
  | [], _ :: _, _, _, h, _ => h.elim
  | _ :: _, [], _, _, h, _ => h.elim
theorem St.kill (h : St c env a w) {st : Nat} : St c { env with dd := st :: env.dd } a w := by
  have S : Step c env w c { env with dd := st :: env.dd } w :=
    ⟨Keeps.refl _ _, fun _ h => ⟨h, rfl⟩, fun _ h => ⟨h, rfl⟩, fun _ _ h => h, fun _ h => List.mem_cons_of_mem _ h, fun _ _ _ => ⟨rfl, fun _ _ => ⟨rfl, fun _ h => h⟩⟩⟩
  have hl : ∀ s0, Env.live { env with dd := st :: env.dd } s0 → env.live s0 := fun s0 hs => ⟨hs.1, fun e => hs.2 (List.mem_cons_of_mem _ e)⟩
  exact ⟨h.nt, h.df, fun t d hd => S.repT (h.tm t d hd), fun t d hd => (h.wt t d hd).step S, fun s b hs => (h.bx s b hs).step S rfl rfl (fun _ h => h), fun s m hs => (h.mp s m hs).step S rfl rfl (fun _ h => h), h.inj, h.above, h.lt,
    fun s1 s2 g h1 h2 => h.ownInj s1 s2 g (hl _ h1) (hl _ h2), fun s1 g h1 => h.ownAbove s1 g (hl _ h1), h.im, h.im0, h.imNew, h.base, h.gh⟩

theorem look_filter_ne {α : Type} {q : Nat → Bool} {t : Nat} (hq : q t = false) : ∀ {l : List (Nat × α)}, look t (l.filter fun p => q p.1) = none
  | [] => rfl
  | (k, y) :: l => by
    cases hk : q k with
    | true =>
      rw [List.filter_cons_of_pos (by simpa using hk), look_cons, if_neg]
      · exact look_filter_ne hq
      · rintro rfl; rw [hq] at hk; cases hk
    | false => rw [List.filter_cons_of_neg (by simpa using hk)]; exact look_filter_ne hq
theorem look_filter {α : Type} {q : Nat → Bool} {t : Nat} {d : α} : ∀ {l : List (Nat × α)}, look t (l.filter fun p => q p.1) = some d → look t l = some d
  | [], h => h
  | (s, x) :: l, h => by
    rw [look_cons]
    by_cases e : s = t
    · subst e
      rw [if_pos rfl]
      cases hq : q s with
      | true =>
        rw [List.filter_cons_of_pos (by simpa using hq), look_cons, if_pos rfl] at h
        exact h
      | false => rw [look_filter_ne hq] at h; cases h
    · rw [if_neg e]
      cases hq : q s with
      | true =>
        rw [List.filter_cons_of_pos (by simpa using hq), look_cons, if_neg e] at h
        exact look_filter h
      | false =>
        rw [List.filter_cons_of_neg (by simpa using hq)] at h
        exact look_filter h
theorem St.adj1 (h : St c env a w) {s' : Nat} (hs2 : 2 ≤ s') {x : Adj} {env' : Env} (he : adj1 env s' x = some env') : ∃ c', c.Next c' ∧ St c' env' a w := by
  cases x with
  | nilT t u es =>
    simp only [Fw.adj1] at he
    split at he
    · rename_i es0 xs0 hl
      cases hb : ((Nat.beq es0 es || xs0.isEmpty) && ((look s' env.us).isNone && !env.dd.contains s')) with
      | false => rw [hb] at he; cases he
      | true =>
        rw [hb, cond_true] at he
        cases he
        simp only [Bool.and_eq_true, Bool.or_eq_true, nbeq, List.isEmpty_iff, Option.isNone_iff_eq_none, Bool.not_eq_true', List.contains_eq_mem, decide_eq_false_iff_not] at hb
        obtain ⟨hbe, hb⟩ := hb
        obtain ⟨h1, S⟩ := h.nilStamp (u := u) hb.1 hb.2
        refine ⟨c.own s' none 0, ⟨rfl, rfl, rfl⟩, ?_⟩
        have := h.tm t _ hl
        exact h1.setTm (t := t) (nil_own hs2 hbe this)
    · cases he
  | nilB s i u es =>
    simp only [Fw.adj1] at he
    split at he
    · rename_i b hl
      split at he
      · rename_i es0 xs0 hi
        cases hb : ((Nat.beq es0 es || xs0.isEmpty) && ((look s' env.us).isNone && !env.dd.contains s')) with
        | false => rw [hb] at he; cases he
        | true =>
          rw [hb, cond_true] at he
          cases he
          simp only [Bool.and_eq_true, Bool.or_eq_true, nbeq, List.isEmpty_iff, Option.isNone_iff_eq_none, Bool.not_eq_true', List.contains_eq_mem, decide_eq_false_iff_not] at hb
          obtain ⟨hbe, hb⟩ := hb
          obtain ⟨h1, S⟩ := h.nilStamp (u := u) hb.1 hb.2
          obtain ⟨hlt, hi'⟩ := List.getElem?_eq_some_iff.1 hi
          refine ⟨c.own s' none 0, ⟨rfl, rfl, rfl⟩, ?_⟩
          obtain ⟨vs, e, g1, g2, g3, g4⟩ := h.bx s b hl
          have hbk : ∀ s1, (look s1 ((s, { b with cells := b.cells.set i (.sl s' es xs0) }) :: env.bx)).isSome = (look s1 env.bx).isSome := fun s1 => by
            rw [look_cons]; split
            · rename_i e; subst e; rw [hl]; rfl
            · rfl
          have S2 : Step (c.own s' none 0) (env.stamp s' u 1) w (c.own s' none 0) { (env.stamp s' u 1) with bx := (s, { b with cells := b.cells.set i (.sl s' es xs0) }) :: env.bx } w :=
            ⟨Keeps.refl _ _, fun s1 h' => ⟨by rw [hbk]; exact h', rfl⟩, fun _ h' => ⟨h', rfl⟩, fun _ _ h => h, fun _ h => h, fun _ _ _ => ⟨rfl, fun _ _ => ⟨rfl, fun _ h => h⟩⟩⟩
          have hblk : ∀ s1, Env.blk { (env.stamp s' u 1) with bx := (s, { b with cells := b.cells.set i (.sl s' es xs0) }) :: env.bx } s1 ↔ env.blk s1 := fun s1 => by
            unfold Env.blk; simp only [hbk]; exact Iff.rfl
          refine ⟨h1.nt, h1.df, fun t d hd => S2.repT (h1.tm t d hd), fun t d hd => (h1.wt t d hd).step S2, ?_, fun s m hs => (h1.mp s m hs).step S2 rfl rfl (fun _ h => h), fun s1 s2 k1 k2 e => h1.inj s1 s2 ((hblk _).1 k1) ((hblk _).1 k2) e, fun s1 k1 => h1.above s1 ((hblk _).1 k1), fun s1 k1 => h1.lt s1 ((hblk _).1 k1), h1.ownInj,
            fun st g hl hg => ⟨(h1.ownAbove st g hl hg).1, (h1.ownAbove st g hl hg).2.1, fun s1 k1 => (h1.ownAbove st g hl hg).2.2 s1 ((hblk _).1 k1)⟩, h1.im, h1.im0, h1.imNew, h1.base, h1.gh.1, S2.fix h1.gh.2⟩
          intro s1 b' hs'
          rw [look_cons] at hs'
          split at hs'
          · rename_i e; subst e; cases hs'
            obtain ⟨vs, e, k1, k2, k3, k4⟩ := h1.bx s b hl
            refine ⟨vs, e, k1, ?_, k3, k4⟩
            refine All2.mono (fun _ _ => S2.repC) (all2_setN k2 fun y hy => ?_)
            obtain ⟨vs', e', q1, q2, _⟩ := h.bx s b hl
            have hv : vs' = vs := by
              have q1' : w.heap[c.ρ s]? = some (.cells ⟨vs⟩ e (0, 0)) := k1
              rw [q1] at q1'; cases q1'; rfl
            subst hv
            obtain ⟨y', hy', hr⟩ := q2.get i _ hi
            rw [hy] at hy'; cases hy'
            exact nil_own hs2 hbe hr
          · exact (h1.bx s1 b' hs').step S2 rfl rfl (fun _ h => h)
      · cases he
    · cases he
  | kill st => cases he; exact ⟨c, .refl c, h.kill⟩
  | drop t => cases he; exact ⟨c, .refl c, h.setTm trivial⟩
  | keep n =>
    cases he
    refine ⟨c, .refl c, ⟨h.nt, h.df, fun t d hd => h.tm t d (look_filter (q := fun t => Nat.blt t n) hd), h.wt, h.bx, h.mp, h.inj, h.above, h.lt, h.ownInj, h.ownAbove, h.im, h.im0, h.imNew, h.base, h.gh⟩⟩
theorem St.adj : ∀ {N : List Adj} {k : Nat} {c : Ctx} {env env' : Env}, St c env a w → adjW N k env = some env' → ∃ c', c.Next c' ∧ St c' env' a w
  | [], _, c, env, env', h, he => by cases he; exact ⟨c, .refl c, h⟩
  | x :: N, k, c, env, env', h, he => by
    simp only [adjW] at he
    cases h1 : Fw.adj1 env (2 * (env.nt + k) + 3) x with
    | none => rw [h1] at he; cases he
    | some env1 =>
      rw [h1] at he
      obtain ⟨c1, n1, s1⟩ := h.adj1 (by omega) h1
      obtain ⟨c2, n2, s2⟩ := St.adj s1 he
      exact ⟨c2, n1.trans n2, s2⟩
theorem bif_some {b : Bool} {x y : Env} (h : (bif b then some x else none) = some y) : x = y := by
  cases b
  · cases h
  · exact Option.some.inj h
theorem adj1_ys {s' : Nat} {x : Adj} {env' : Env} (he : adj1 env s' x = some env') : env'.ys = env.ys := by
  unfold adj1 at he
  repeat' split at he
  all_goals first
    | (have := bif_some he; subst this; rfl)
    | (cases he; rfl)
    | cases he
theorem adjW_ys : ∀ {N : List Adj} {k : Nat} {env env' : Env}, adjW N k env = some env' → env'.ys = env.ys
  | [], _, env, env', he => by cases he; rfl
  | x :: N, k, env, env', he => by
    simp only [adjW] at he
    cases h1 : adj1 env (2 * (env.nt + k) + 3) x with
    | none => rw [h1] at he; cases he
    | some env1 => rw [h1] at he; exact (adjW_ys he).trans (adj1_ys h1)
end Go.Proofs.Ytndijidmabfhcaa.Fw
