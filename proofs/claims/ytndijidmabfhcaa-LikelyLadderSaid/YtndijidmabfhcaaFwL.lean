/- What changes no more from now on; what may leave the function; new blocks. -/
import Derived.Test.YtndijidmabfhcaaFwK
namespace Go.Proofs.Ytndijidmabfhcaa.Fw
open Go Go.RowKit

section
variable {P : Program} {T : Ty} {c : Ctx} {env : Env} {a : Act} {w : World}

/-- A slot's block changes no more: its cells up to n. -/
def Ctx.hold (c : Ctx) (s n : Nat) : Ctx := { c with I := fun b o => c.I b o ∨ (b = c.ρ s ∧ o < n) }

theorem Step.hold (h : St c env a w) {s n : Nat} (hs : env.blk s) {env' : Env} (hb : ∀ s, (look s env.bx).isSome = true → (look s env'.bx).isSome = true) (hm : ∀ s, (look s env.mp).isSome = true → (look s env'.mp).isSome = true) (hu : env'.us = env.us) (hd : env'.dd = env.dd) :
    Step c env w (c.hold s n) env' w :=
  ⟨⟨fun _ _ h => .inl h, fun _ _ _ h => h, fun _ _ _ _ h => h⟩, fun s' h' => ⟨hb s' h', rfl⟩, fun s' h' => ⟨hm s' h', rfl⟩, fun _ _ h => by rw [hu]; exact h, fun _ h => by rw [hd]; exact h,
    fun st hl _ => ⟨rfl, fun g hg => ⟨rfl, fun o ho => ho.resolve_right fun e => (h.ownAbove st g hl hg).2.2 s hs e.1.symm⟩⟩⟩

theorem St.freezeBox (h : St c env a w) {s : Nat} {b : BoxC} (hb : look s env.bx = some b) : St (c.hold s b.cells.length) { env with bx := (s, { b with frozen := true }) :: env.bx } a w := by
  have hs : env.blk s := .inl (by rw [hb]; rfl)
  have hbk : ∀ s', (look s' ((s, { b with frozen := true }) :: env.bx)).isSome = (look s' env.bx).isSome := fun s' => by
    rw [look_cons]; split
    · rename_i e; subst e; rw [hb]; rfl
    · rfl
  have S : Step c env w (c.hold s b.cells.length) { env with bx := (s, { b with frozen := true }) :: env.bx } w :=
    Step.hold h hs (fun s' h' => by rw [hbk]; exact h') (fun _ h' => h') rfl rfl
  have hblk : ∀ s', Env.blk { env with bx := (s, { b with frozen := true }) :: env.bx } s' ↔ env.blk s' := fun s' => by
    unfold Env.blk; simp only [hbk]
  refine ⟨h.nt, h.df, fun t d hd => S.repT (h.tm t d hd), fun t d hd => (h.wt t d hd).step S, ?_, ?_, fun s1 s2 h1 h2 e => h.inj s1 s2 ((hblk _).1 h1) ((hblk _).1 h2) e, fun s1 h1 => h.above s1 ((hblk _).1 h1), fun s1 h1 => h.lt s1 ((hblk _).1 h1), h.ownInj,
    fun st g hl hg => ⟨(h.ownAbove st g hl hg).1, (h.ownAbove st g hl hg).2.1, fun s1 h1 => (h.ownAbove st g hl hg).2.2 s1 ((hblk _).1 h1)⟩, ?_, h.im0.trans S.keeps, ?_, h.base, h.gh.1, S.fix h.gh.2⟩
  · intro s' b' hs'
    rw [look_cons] at hs'
    split at hs'
    · rename_i e; subst e; cases hs'
      obtain ⟨vs, e, h1, h2, h3, h4⟩ := h.bx s b hb
      exact ⟨vs, e, h1, h2.mono fun _ _ => S.repC, fun _ o ho => .inr ⟨rfl, by rw [h2.length]; exact ho⟩, fun hf => by cases hf⟩
    · rename_i hne
      exact (h.bx s' b' hs').step S rfl rfl (fun o ho => ho.resolve_right fun e => hne (h.inj s' s (.inl (by rw [hs']; rfl)) hs e.1).symm)
  · intro s' m hs'
    refine (h.mp s' m hs').step S rfl rfl (fun o ho => ho.resolve_right fun e => ?_)
    have := h.inj s' s (.inr (by rw [hs']; rfl)) hs e.1
    subst this
    obtain ⟨_, _, h1, _⟩ := h.mp s' m hs'
    obtain ⟨_, _, h2, _⟩ := h.bx s' b hb
    rw [h1] at h2; cases h2
  · rintro b' o (hi | ⟨rfl, _⟩)
    · exact h.im _ _ hi
    · exact h.lt s hs
  · rintro b' o (hi | ⟨rfl, _⟩)
    · exact h.imNew _ _ hi
    · exact .inr (h.above s hs)

theorem St.freezeMap (h : St c env a w) {s : Nat} {m : MapC} (hb : look s env.mp = some m) : St (c.hold s 1) { env with mp := (s, { m with frozen := true }) :: env.mp } a w := by
  have hs : env.blk s := .inr (by rw [hb]; rfl)
  have hbk : ∀ s', (look s' ((s, { m with frozen := true }) :: env.mp)).isSome = (look s' env.mp).isSome := fun s' => by
    rw [look_cons]; split
    · rename_i e; subst e; rw [hb]; rfl
    · rfl
  have S : Step c env w (c.hold s 1) { env with mp := (s, { m with frozen := true }) :: env.mp } w :=
    Step.hold h hs (fun _ h' => h') (fun s' h' => by rw [hbk]; exact h') rfl rfl
  have hblk : ∀ s', Env.blk { env with mp := (s, { m with frozen := true }) :: env.mp } s' ↔ env.blk s' := fun s' => by
    unfold Env.blk; simp only [hbk]
  refine ⟨h.nt, h.df, fun t d hd => S.repT (h.tm t d hd), fun t d hd => (h.wt t d hd).step S, ?_, ?_, fun s1 s2 h1 h2 e => h.inj s1 s2 ((hblk _).1 h1) ((hblk _).1 h2) e, fun s1 h1 => h.above s1 ((hblk _).1 h1), fun s1 h1 => h.lt s1 ((hblk _).1 h1), h.ownInj,
    fun st g hl hg => ⟨(h.ownAbove st g hl hg).1, (h.ownAbove st g hl hg).2.1, fun s1 h1 => (h.ownAbove st g hl hg).2.2 s1 ((hblk _).1 h1)⟩, ?_, h.im0.trans S.keeps, ?_, h.base, h.gh.1, S.fix h.gh.2⟩
  · intro s' b hs'
    refine (h.bx s' b hs').step S rfl rfl (fun o ho => ho.resolve_right fun e => ?_)
    have := h.inj s' s (.inl (by rw [hs']; rfl)) hs e.1
    subst this
    obtain ⟨_, _, h1, _⟩ := h.bx s' b hs'
    obtain ⟨_, _, h2, _⟩ := h.mp s' m hb
    rw [h1] at h2; cases h2
  · intro s' m' hs'
    rw [look_cons] at hs'
    split at hs'
    · rename_i e; subst e; cases hs'
      obtain ⟨es, k, h1, h2, h3, h4, h5, h6⟩ := h.mp s m hb
      exact ⟨es, k, h1, RepL.keeps S.keeps _ _ h2, RepL.keeps S.keeps _ _ h3, h4, fun _ => .inr ⟨rfl, by omega⟩, fun hf => by cases hf⟩
    · rename_i hne
      exact (h.mp s' m' hs').step S rfl rfl (fun o ho => ho.resolve_right fun e => hne (h.inj s' s (.inr (by rw [hs']; rfl)) hs e.1).symm)
  · rintro b' o (hi | ⟨rfl, _⟩)
    · exact h.im _ _ hi
    · exact h.lt s hs
  · rintro b' o (hi | ⟨rfl, _⟩)
    · exact h.imNew _ _ hi
    · exact .inr (h.above s hs)

/-- What may leave, once the maps that go with it change no more. -/
theorem clo_cell (h : St c env a w) {mp : List (Nat × MapC)} {d d' : D} {v : Value} (hr : RepC c env w d v) (hc : clo mp d = some d') (hm : ∀ s, d = .mapr s → ∀ m, look s mp = some m → ∃ m', look s env.mp = some m' ∧ m'.ks = m.ks ∧ m'.vs = m.vs ∧ m'.frozen = true) :
    Rep c.I w d' v ∧ d'.isCell = true := by
  cases d <;> simp only [clo] at hc <;> first | (cases hc; done) | skip
  case agg => exact hr.elim
  case sl st es xs => simp only [Option.some.injEq] at hc; subst hc; exact ⟨hr.1, rfl⟩
  case mapr s =>
    cases hl : look s mp with
    | none => rw [hl] at hc; cases hc
    | some m =>
      rw [hl] at hc
      simp only [Option.map_some, Option.some.injEq] at hc; subst hc
      obtain ⟨m', h1, h2, h3, h4⟩ := hm s rfl m hl
      obtain ⟨es, k, g1, g2, g3, g4, g5, _⟩ := h.mp s m' h1
      obtain ⟨_, rfl⟩ : (look s env.mp).isSome = true ∧ v = .map (some (c.ρ s)) := hr
      refine ⟨?_, rfl⟩
      simp only [Rep]
      rw [h2] at g2; rw [h3] at g3 g4
      exact ⟨_, rfl, g5 h4, es, k, g1, g2, g3, g4⟩
  all_goals (simp only [Option.some.injEq] at hc; subst hc; exact ⟨hr, rfl⟩)

theorem clo_cells (h : St c env a w) {mp : List (Nat × MapC)} : ∀ {ds ds' : List D} {vs : List Value}, All2 (RepC c env w) ds vs → cloL mp ds = some ds' → (∀ s, .mapr s ∈ ds → ∀ m, look s mp = some m → ∃ m', look s env.mp = some m' ∧ m'.ks = m.ks ∧ m'.vs = m.vs ∧ m'.frozen = true) →
    All2 (Rep c.I w) ds' vs ∧ ds'.all D.isCell = true
  | [], ds', vs, hr, hc, _ => by simp only [cloL, Option.some.injEq] at hc; subst hc; cases vs <;> first | exact ⟨trivial, rfl⟩ | exact hr.elim
  | d :: ds, ds', [], hr, _, _ => hr.elim
  | d :: ds, ds', v :: vs, hr, hc, hm => by
    simp only [cloL] at hc
    cases h1 : clo mp d with
    | none => rw [h1] at hc; cases hc
    | some d' =>
      cases h2 : cloL mp ds with
      | none => rw [h1, h2] at hc; cases hc
      | some es =>
        rw [h1, h2] at hc
        simp only [Option.some.injEq] at hc; subst hc
        obtain ⟨i1, i2⟩ := clo_cell h hr.1 h1 (fun s e => hm s (by rw [e]; simp))
        obtain ⟨i3, i4⟩ := clo_cells h hr.2 h2 (fun s hs => hm s (by simp [hs]))
        exact ⟨⟨i1, i3⟩, by simp [i2, i4]⟩

theorem mem_cloM_agg {cs : List D} {s : Nat} (h : .mapr s ∈ cs) : s ∈ cloM (.agg cs) := by
  simp only [cloM, List.mem_filterMap]
  exact ⟨_, h, rfl⟩

theorem clo_val (h : St c env a w) {mp : List (Nat × MapC)} {d d' : D} {v : Value} (hr : RepV c env w d v) (hc : clo mp d = some d') (hm : ∀ s ∈ cloM d, ∀ m, look s mp = some m → ∃ m', look s env.mp = some m' ∧ m'.ks = m.ks ∧ m'.vs = m.vs ∧ m'.frozen = true) :
    Rep c.I w d' v ∧ d'.isVal = true := by
  cases d with
  | agg cs =>
    obtain ⟨vs, rfl, hr⟩ := hr
    simp only [clo] at hc
    cases h1 : cloL mp cs with
    | none => rw [h1] at hc; cases hc
    | some ds =>
      rw [h1] at hc
      simp only [Option.map_some, Option.some.injEq] at hc; subst hc
      obtain ⟨i1, i2⟩ := clo_cells h hr h1 (fun s hs => hm s (mem_cloM_agg hs))
      refine ⟨?_, rfl⟩
      simp only [Rep]
      exact ⟨vs, rfl, i2, all2_repL.2 i1⟩
  | _ =>
    simp only [RepV] at hr
    obtain ⟨i1, i2⟩ := clo_cell h hr hc (fun s e => by cases e <;> exact hm _ (by simp [cloM]))
    exact ⟨i1, by cases d' <;> first | rfl | cases i2⟩

/-- A context that goes on from another one. -/
structure Ctx.Next (c c' : Ctx) : Prop where
  w0 : c'.w0 = c.w0
  I0 : c'.I0 = c.I0
  df : c'.df = c.df
theorem Ctx.Next.refl (c : Ctx) : c.Next c := ⟨rfl, rfl, rfl⟩
theorem Ctx.Next.trans {c c' c'' : Ctx} (h : c.Next c') (k : c'.Next c'') : c.Next c'' := ⟨k.w0.trans h.w0, k.I0.trans h.I0, k.df.trans h.df⟩

theorem St.frzM {ss : List Nat} : ∀ {c : Ctx} {env : Env} {mp : List (Nat × MapC)}, St c env a w → frzM env.mp ss = some mp → ∃ c', c.Next c' ∧ St c' { env with mp } a w ∧ Step c env w c' { env with mp } w ∧
    (∀ s m, look s env.mp = some m → ∃ m', look s mp = some m' ∧ m'.ks = m.ks ∧ m'.vs = m.vs ∧ (m.frozen = true ∨ s ∈ ss → m'.frozen = true)) := by
  induction ss with
  | nil =>
    intro c env mp h hf
    simp only [Fw.frzM, Option.some.injEq] at hf; subst hf
    exact ⟨c, .refl c, h, Step.refl _ _ _, fun s m hs => ⟨m, hs, rfl, rfl, fun e => e.resolve_right (by simp)⟩⟩
  | cons s ss ih =>
    intro c env mp h hf
    simp only [Fw.frzM] at hf
    cases hl : look s env.mp with
    | none => rw [hl] at hf; cases hf
    | some m =>
      rw [hl] at hf
      have h1 := h.freezeMap hl
      have hs : env.blk s := .inr (by rw [hl]; rfl)
      have S1 : Step c env w (c.hold s 1) { env with mp := (s, { m with frozen := true }) :: env.mp } w := Step.hold h hs (fun _ h' => h') (fun s' h' => by rw [look_cons]; split <;> first | rfl | exact h') rfl rfl
      obtain ⟨c', n, h2, S2, h3⟩ := ih h1 hf
      refine ⟨c', ⟨n.w0, n.I0, n.df⟩, h2, S1.trans S2, fun s' m' hs' => ?_⟩
      by_cases e : s = s'
      · subst e
        rw [hl] at hs'; cases hs'
        obtain ⟨m2, g1, g2, g3, g4⟩ := h3 s { m with frozen := true } (by rw [look_cons, if_pos rfl])
        exact ⟨m2, g1, g2, g3, fun _ => g4 (.inl rfl)⟩
      · obtain ⟨m2, g1, g2, g3, g4⟩ := h3 s' m' (by rw [look_cons, if_neg e]; exact hs')
        exact ⟨m2, g1, g2, g3, fun hh => g4 (hh.imp id fun hm => (List.mem_cons.1 hm).resolve_left fun e' => e e'.symm)⟩
end

end Go.Proofs.Ytndijidmabfhcaa.Fw
