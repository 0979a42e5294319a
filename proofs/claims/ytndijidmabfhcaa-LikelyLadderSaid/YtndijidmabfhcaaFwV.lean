/- At the head of a loop. -/
import Derived.Test.YtndijidmabfhcaaFwU
namespace Go.Proofs.Ytndijidmabfhcaa.Fw
open Go Go.RowKit

theorem look_allSome {β : Type} (F : Nat → Option β) : ∀ {bs : List Nat} {r : List (Nat × β)}, allSome (bs.map fun s => (F s).map fun b => (s, b)) = some r → ∀ s, look s r = if s ∈ bs then F s else none
  | [], r, h, s => by simp only [List.map_nil, allSome, Option.some.injEq] at h; subst h; simp [look]
  | x :: bs, r, h, s => by
    simp only [List.map_cons] at h
    cases hx : F x with
    | none => rw [hx] at h; simp [allSome] at h
    | some b =>
      rw [hx] at h
      simp only [Option.map_some, allSome] at h
      cases hr : allSome (bs.map fun s => (F s).map fun b => (s, b)) with
      | none => rw [hr] at h; cases h
      | some r2 =>
        rw [hr] at h
        simp only [Option.map_some, Option.some.injEq] at h; subst h
        rw [look_cons, look_allSome F hr s]
        by_cases e : x = s
        · subst e; simp [hx]
        · rw [if_neg e]
          by_cases hs : s ∈ bs
          · simp [hs]
          · rw [if_neg hs, if_neg]
            intro hm
            rcases List.mem_cons.1 hm with rfl | hm
            · exact e rfl
            · exact hs hm

theorem look_map {β : Type} (F : Nat → β) : ∀ {ts : List Nat} {t : Nat} {d : β}, look t (ts.map fun t => (t, F t)) = some d → d = F t
  | [], t, d, h => by simp [look] at h
  | x :: ts, t, d, h => by
    rw [List.map_cons, look_cons] at h
    split at h
    · rename_i e; subst e; exact (Option.some.inj h).symm
    · exact look_map F h

theorem usOf_spec {us : List (Nat × Nat)} : ∀ {l : List Nat} {i : Nat} {r : List (Nat × Nat)}, usOf us l i = some r →
    (∀ s u, look s r = some u → ∃ k st, s = 2 * (i + k) + 2 ∧ l[k]? = some st ∧ look st us = some u) ∧ (∀ k st, l[k]? = some st → ∃ u, look st us = some u ∧ look (2 * (i + k) + 2) r = some u)
  | [], i, r, h => by
    simp only [usOf, Option.some.injEq] at h; subst h
    exact ⟨fun s u h => by simp [look] at h, fun k st h => by simp at h⟩
  | x :: l, i, r, h => by
    simp only [usOf] at h
    cases hx : look x us with
    | none => rw [hx] at h; cases h
    | some u =>
      cases hr : usOf us l (i + 1) with
      | none => rw [hx, hr] at h; cases h
      | some r2 =>
        rw [hx, hr] at h
        simp only [Option.some.injEq] at h; subst h
        obtain ⟨h1, h2⟩ := usOf_spec hr
        refine ⟨fun s v hs => ?_, fun k st hk => ?_⟩
        · rw [look_cons] at hs
          split at hs
          · rename_i e; cases hs
            exact ⟨0, x, by omega, rfl, hx⟩
          · obtain ⟨k, st, e1, e2, e3⟩ := h1 s v hs
            exact ⟨k + 1, st, by omega, by simpa using e2, e3⟩
        · cases k with
          | zero =>
            simp only [List.getElem?_cons_zero, Option.some.injEq] at hk; subst hk
            exact ⟨u, hx, by rw [look_cons, if_pos (by omega)]⟩
          | succ k =>
            obtain ⟨v, e1, e2⟩ := h2 k st (by simpa using hk)
            exact ⟨v, e1, by rw [look_cons, if_neg (by omega), show i + (k + 1) = i + 1 + k from by omega]; exact e2⟩

theorem idxOf_spec {x : Nat} : ∀ {l : List Nat} {i k : Nat}, idxOf x l i = some k → ∃ j, k = i + j ∧ l[j]? = some x
  | [], i, k, h => by simp [idxOf] at h
  | y :: l, i, k, h => by
    simp only [idxOf] at h
    cases hb : Nat.beq x y with
    | true =>
      rw [hb, cond_true, Option.some.injEq] at h
      exact ⟨0, by omega, by rw [nbeq.1 hb]; rfl⟩
    | false =>
      rw [hb, cond_false] at h
      obtain ⟨j, e1, e2⟩ := idxOf_spec h
      exact ⟨j + 1, by omega, by simpa using e2⟩

theorem distinct_spec : ∀ {l : List Nat}, distinct l = true → ∀ (i j x : Nat), l[i]? = some x → l[j]? = some x → i = j
  | [], _, i, j, x, h, _ => by simp at h
  | y :: l, hd, i, j, x, hi, hj => by
    simp only [distinct, Bool.and_eq_true, Bool.not_eq_true', List.contains_eq_mem, decide_eq_false_iff_not] at hd
    cases i with
    | zero =>
      cases j with
      | zero => rfl
      | succ j =>
        simp only [List.getElem?_cons_zero, Option.some.injEq] at hi; subst hi
        exact absurd (List.mem_of_getElem? (by simpa using hj)) hd.1
    | succ i =>
      cases j with
      | zero =>
        simp only [List.getElem?_cons_zero, Option.some.injEq] at hj; subst hj
        exact absurd (List.mem_of_getElem? (by simpa using hi)) hd.1
      | succ j => rw [distinct_spec hd.2 i j x (by simpa using hi) (by simpa using hj)]

theorem restamp_spec (dd l : List Nat) (st : Nat) : (st ≤ 1 ∧ restamp dd l st = st) ∨ restamp dd l st = 0 ∨ (2 ≤ st ∧ st ∉ dd ∧ ∃ i, l[i]? = some st ∧ restamp dd l st = 2 * i + 2) := by
  unfold restamp
  cases h1 : Nat.ble st 1 with
  | true => exact .inl ⟨Nat.le_of_ble_eq_true h1, rfl⟩
  | false =>
    have h1' : ¬ st ≤ 1 := fun h => by rw [Nat.ble_eq_true_of_le h] at h1; cases h1
    rw [cond_false]
    cases h2 : dd.contains st with
    | true => exact .inr (.inl rfl)
    | false =>
      rw [cond_false]
      cases h3 : idxOf st l 0 with
      | none => exact .inr (.inl rfl)
      | some i =>
        obtain ⟨j, e1, e2⟩ := idxOf_spec h3
        refine .inr (.inr ⟨by omega, by simpa using h2, j, e2, ?_⟩)
        simp only; omega

section
variable {P : Program} {T : Ty} {c : Ctx} {env : Env} {a : Act} {w : World}

/-- What stays where it is goes on. -/
def Covers (r : Root) (bs ms : List Nat) : Prop := ∀ k s b, r.fix k s = some b → match k with | true => s ∈ bs | false => s ∈ ms

theorem St.canonW' (h : St c env a w) {ts bs ms l : List Nat} {env' : Env} (hc : canonW ts bs ms l env = some env') (hcov : Covers c.w0 bs ms) : ∃ c', c.Next c' ∧ St c' env' a w ∧ c'.ρ = c.ρ ∧ c'.I = c.I ∧ (∀ s, (look s env'.bx).isSome = true ↔ s ∈ bs) ∧ (∀ s, (look s env'.mp).isSome = true ↔ s ∈ ms) ∧ (∀ k, ownB c' env' k → ownB c env k) ∧ env'.nt = env.nt ∧ env'.ys = env.ys := by
  unfold Fw.canonW at hc
  cases hbx : allSome (bs.map fun s => (canonBx (restamp env.dd l) bs ms env.bx s).map fun b => (s, b)) with
  | none => rw [hbx] at hc; cases hc
  | some bx' =>
  cases hmp : allSome (ms.map fun s => (look s env.mp).map fun m => (s, m)) with
  | none => rw [hbx, hmp] at hc; cases hc
  | some mp' =>
  cases hus : usOf env.us l 0 with
  | none => rw [hbx, hmp, hus] at hc; cases hc
  | some us' =>
  rw [hbx, hmp, hus] at hc
  simp only at hc
  cases hok : (distinct l && l.all (fun st => Nat.ble 2 st && !env.dd.contains st)) with
  | false => rw [hok] at hc; cases hc
  | true =>
  rw [hok, cond_true, Option.some.injEq] at hc
  subst hc
  simp only [Bool.and_eq_true] at hok
  obtain ⟨hdis, hall⟩ := hok
  have hlall : ∀ i st, l[i]? = some st → 2 ≤ st ∧ st ∉ env.dd := fun i st hi => by
    have := List.all_eq_true.1 hall st (List.mem_of_getElem? hi)
    simpa using this
  have hb := look_allSome (canonBx (restamp env.dd l) bs ms env.bx) hbx
  have hm := look_allSome (fun s => look s env.mp) hmp
  obtain ⟨hu1, hu2⟩ := usOf_spec hus
  simp only [Nat.zero_add] at hu1 hu2
  generalize hE : ({ nt := env.nt, tm := ts.map fun t => (t, (trim (restamp env.dd l) bs ms ((look t env.tm).getD .undef)).getD .undef), wt := [], bx := bx', mp := mp', us := us', dd := [], ys := env.ys } : Env) = E
  have eb : E.bx = bx' := by rw [← hE]
  have em : E.mp = mp' := by rw [← hE]
  have eu : E.us = us' := by rw [← hE]
  have ed : E.dd = [] := by rw [← hE]
  have hbS : ∀ s b', look s E.bx = some b' → s ∈ bs ∧ ∃ b cs, look s env.bx = some b ∧ trimL (restamp env.dd l) bs ms b.cells = some cs ∧ b' = { b with cells := cs } := by
    intro s b' hs
    rw [eb, hb s] at hs
    split at hs
    · rename_i hmem
      refine ⟨hmem, ?_⟩
      unfold canonBx at hs
      split at hs
      · rename_i b hbb
        split at hs
        · rename_i cs hcs
          exact ⟨b, cs, hbb, hcs, (Option.some.inj hs).symm⟩
        · cases hs
      · cases hs
    · cases hs
  have hbI : ∀ s, s ∈ bs → (look s E.bx).isSome = true := by
    intro s hs
    rw [eb, hb s, if_pos hs]
    -- every one of them is there
    have : ∀ {bs' : List Nat} {r : List (Nat × BoxC)}, allSome (bs'.map fun s => (canonBx (restamp env.dd l) bs ms env.bx s).map fun b => (s, b)) = some r → ∀ s ∈ bs', (canonBx (restamp env.dd l) bs ms env.bx s).isSome = true := by
      intro bs'
      induction bs' with
      | nil => intro r _ s hs; cases hs
      | cons x bs' ih =>
        intro r hr s hs
        simp only [List.map_cons] at hr
        cases hx : canonBx (restamp env.dd l) bs ms env.bx x with
        | none => rw [hx] at hr; simp [allSome] at hr
        | some b =>
          rw [hx] at hr
          simp only [Option.map_some, allSome] at hr
          cases h2 : allSome (bs'.map fun s => (canonBx (restamp env.dd l) bs ms env.bx s).map fun b => (s, b)) with
          | none => rw [h2] at hr; cases hr
          | some r2 =>
            rcases List.mem_cons.1 hs with rfl | hs
            · rw [hx]; rfl
            · exact ih h2 s hs
    exact this hbx s hs
  have hmS : ∀ s m, look s E.mp = some m → s ∈ ms ∧ look s env.mp = some m := by
    intro s m hs
    rw [em, hm s] at hs
    split at hs
    · rename_i hmem; exact ⟨hmem, hs⟩
    · cases hs
  have hmI : ∀ s, s ∈ ms → (look s env.mp).isSome = true → (look s E.mp).isSome = true := by
    intro s hs hl
    rw [em, hm s, if_pos hs]; exact hl
  let c' : Ctx := { c with σ := fun s => (l[(s - 2) / 2]?).bind c.σ }
  have hσ : ∀ i st, l[i]? = some st → c'.σ (2 * i + 2) = c.σ st := by
    intro i st hi
    show (l[(2 * i + 2 - 2) / 2]?).bind c.σ = _
    rw [show (2 * i + 2 - 2) / 2 = i from by omega, hi]; rfl
  have hown : ∀ st es k v, OwnC c env w st es k v → OwnC c' E w (restamp env.dd l st) es k v := by
    intro st es k v ho
    rcases restamp_spec env.dd l st with ⟨h1, h2⟩ | h2 | ⟨h1, h3, i, h4, h2⟩
    · rw [h2]
      rcases ho with ho | ho | ⟨ho, _⟩
      · exact .inl ho
      · exact .inr (.inl ho)
      · omega
    · rw [h2]; exact .inl rfl
    · rw [h2]
      rcases ho with ho | ⟨ho, _⟩ | ⟨_, u, hu, ho⟩
      · omega
      · omega
      · obtain ⟨u', e1, e2⟩ := hu2 i st h4
        rw [hu] at e1; cases e1
        refine .inr (.inr ⟨by omega, u, by rw [eu]; exact e2, .inr ?_⟩)
        rw [hσ i st h4]
        exact ho.resolve_left h3
  have htC : ∀ d d' v, RepC c env w d v → trim (restamp env.dd l) bs ms d = some d' → RepC c' E w d' v := by
    intro d d' v hr ht
    cases d <;> simp only [trim] at ht <;> first | (cases ht; done) | skip
    case agg => exact hr.elim
    case sl st es xs => simp only [Option.some.injEq] at ht; subst ht; exact ⟨hr.1, hown _ _ _ _ hr.2⟩
    case loc s off =>
      cases hcn : bs.contains s with
      | false => rw [hcn] at ht; cases ht
      | true =>
        rw [hcn, cond_true, Option.some.injEq] at ht; subst ht
        exact ⟨hbI s (by simpa using hcn), hr.2⟩
    case lsl s off k =>
      cases hcn : bs.contains s with
      | false => rw [hcn] at ht; cases ht
      | true =>
        rw [hcn, cond_true, Option.some.injEq] at ht; subst ht
        exact ⟨hbI s (by simpa using hcn), hr.2⟩
    case mapr s =>
      cases hcn : ms.contains s with
      | false => rw [hcn] at ht; cases ht
      | true =>
        rw [hcn, cond_true, Option.some.injEq] at ht; subst ht
        exact ⟨hmI s (by simpa using hcn) hr.1, hr.2⟩
    all_goals (simp only [Option.some.injEq] at ht; subst ht; exact hr)
  have htL : ∀ (ds ds' : List D) (vs : List Value), All2 (RepC c env w) ds vs → trimL (restamp env.dd l) bs ms ds = some ds' → All2 (RepC c' E w) ds' vs := by
    intro ds
    induction ds with
    | nil =>
      intro ds' vs hr ht
      simp only [trimL, Option.some.injEq] at ht; subst ht
      cases vs with
      | nil => trivial
      | cons _ _ => exact hr.elim
    | cons d ds ih =>
      intro ds' vs hr ht
      cases vs with
      | nil => exact hr.elim
      | cons v vs =>
        simp only [trimL] at ht
        cases h1 : trim (restamp env.dd l) bs ms d with
        | none => rw [h1] at ht; cases ht
        | some d' =>
          cases h2 : trimL (restamp env.dd l) bs ms ds with
          | none => rw [h1, h2] at ht; cases ht
          | some es =>
            rw [h1, h2] at ht
            simp only [Option.some.injEq] at ht; subst ht
            exact ⟨htC d d' v hr.1 h1, ih es vs hr.2 h2⟩
  have htT : ∀ d v, RepT c env w d v → RepT c' E w ((trim (restamp env.dd l) bs ms d).getD .undef) v := by
    intro d v hr
    cases ht : trim (restamp env.dd l) bs ms d with
    | none => trivial
    | some d' =>
      rw [Option.getD_some]
      cases d with
      | tup ds => simp only [trim] at ht; cases ht
      | wh s b d => simp only [trim] at ht; cases ht
      | undef => simp only [trim, Option.some.injEq] at ht; subst ht; trivial
      | agg cs =>
        obtain ⟨vs, e, hr⟩ := hr
        simp only [trim] at ht
        cases h1 : trimL (restamp env.dd l) bs ms cs with
        | none => rw [h1] at ht; cases ht
        | some cs' =>
          rw [h1] at ht
          simp only [Option.map_some, Option.some.injEq] at ht; subst ht
          exact ⟨vs, e, htL cs cs' vs hr h1⟩
      | _ =>
        simp only [RepT, RepV] at hr
        have h2 := htC _ d' v hr ht
        cases d' <;> first | exact h2 | exact h2.elim | (simp only [RepC, Rep] at h2)
  have hblk : ∀ s, E.blk s → env.blk s := by
    rintro s (hs | hs)
    · cases h1 : look s E.bx with
      | none => rw [h1] at hs; cases hs
      | some b' => obtain ⟨_, b, _, h2, _⟩ := hbS s b' h1; exact .inl (by rw [h2]; rfl)
    · cases h1 : look s E.mp with
      | none => rw [h1] at hs; cases hs
      | some m => exact .inr (by rw [(hmS s m h1).2]; rfl)
  have hlive : ∀ s, E.live s → ∃ i st, s = 2 * i + 2 ∧ l[i]? = some st ∧ env.live st := by
    rintro s ⟨hs, _⟩
    cases h1 : look s E.us with
    | none => rw [h1] at hs; cases hs
    | some u =>
      rw [eu] at h1
      obtain ⟨k, st, e1, e2, e3⟩ := hu1 s u h1
      exact ⟨k, st, e1, e2, by rw [e3]; rfl, (hlall k st e2).2⟩
  have hmI2 : ∀ s, s ∈ ms → (look s E.mp).isSome = true := by
    intro s hs
    rw [em, hm s, if_pos hs]
    have : ∀ {ms' : List Nat} {r : List (Nat × MapC)}, allSome (ms'.map fun s => (look s env.mp).map fun m => (s, m)) = some r → ∀ s ∈ ms', (look s env.mp).isSome = true := by
      intro ms'
      induction ms' with
      | nil => intro r _ s hs; cases hs
      | cons x ms' ih =>
        intro r hr s hs
        simp only [List.map_cons] at hr
        cases hx : look x env.mp with
        | none => rw [hx] at hr; simp [allSome] at hr
        | some b =>
          rw [hx] at hr
          simp only [Option.map_some, allSome] at hr
          cases h2 : allSome (ms'.map fun s => (look s env.mp).map fun m => (s, m)) with
          | none => rw [h2] at hr; cases hr
          | some r2 =>
            rcases List.mem_cons.1 hs with rfl | hs
            · rw [hx]; rfl
            · exact ih h2 s hs
    exact this hmp s hs
  refine ⟨c', ⟨rfl, rfl, rfl⟩, ?_, rfl, rfl, fun s => ⟨fun hs => ?_, hbI s⟩, fun s => ⟨fun hs => ?_, hmI2 s⟩, ?_, by rw [← hE], by rw [← hE]⟩
  rotate_left
  · obtain ⟨b', hb'⟩ := Option.isSome_iff_exists.1 hs; exact (hbS s b' hb').1
  · obtain ⟨m', hm'⟩ := Option.isSome_iff_exists.1 hs; exact (hmS s m' hm').1
  · rintro k (⟨s, hs, rfl⟩ | ⟨st, hl, hg⟩)
    · exact .inl ⟨s, hblk s hs, rfl⟩
    · obtain ⟨i, st', rfl, hi, hl'⟩ := hlive st hl
      rw [hσ i st' hi] at hg
      exact .inr ⟨st', hl', hg⟩
  refine ⟨by rw [← hE]; exact h.nt, h.df, fun t d hd => ?_, fun t d hd => by rw [← hE] at hd; simp [look] at hd, fun s b' hs => ?_, fun s m hs => ?_, fun s s' h1 h2 e => h.inj s s' (hblk s h1) (hblk s' h2) e,
    fun s hs => h.above s (hblk s hs), fun s hs => h.lt s (hblk s hs), fun s1 s2 g h1 h2 e1 e2 => ?_, fun s g hs e => ?_, h.im, h.im0, h.imNew, h.base, by rw [← hE]; exact h.gh.1, fun k s b hs => ?_⟩
  · rw [← hE] at hd
    have := look_map _ hd
    subst this
    refine htT _ _ ?_
    cases hl : look t env.tm with
    | none => trivial
    | some d => exact h.tm t d hl
  · obtain ⟨_, b, cs, h1, h2, rfl⟩ := hbS s b' hs
    obtain ⟨vs, e, k1, k2, k3, k4⟩ := h.bx s b h1
    exact ⟨vs, e, k1, htL _ _ _ k2 h2, k3, k4⟩
  · obtain ⟨_, h1⟩ := hmS s m hs
    exact h.mp s m h1
  · obtain ⟨i, st, rfl, hi, hl1⟩ := hlive s1 h1
    obtain ⟨j, st', rfl, hj, hl2⟩ := hlive s2 h2
    rw [hσ i st hi] at e1
    rw [hσ j st' hj] at e2
    have := h.ownInj st st' g hl1 hl2 e1 e2
    subst this
    rw [distinct_spec hdis i j st hi hj]
  · obtain ⟨i, st, rfl, hi, hl1⟩ := hlive s hs
    rw [hσ i st hi] at e
    obtain ⟨k1, k2, k3⟩ := h.ownAbove st g hl1 e
    exact ⟨k1, k2, fun s' hs' => k3 s' (hblk s' hs')⟩
  · have h1 := hcov k s b hs
    have h2 := (h.gh.2 k s b hs).2
    cases k with
    | true => exact ⟨hbI s h1, h2⟩
    | false => exact ⟨hmI2 s h1, h2⟩

theorem St.canonW (h : St c env a w) {ts bs ms l : List Nat} {env' : Env} (hc : canonW ts bs ms l env = some env') (hcov : Covers c.w0 bs ms) : ∃ c', c.Next c' ∧ St c' env' a w := by
  obtain ⟨c', h1, h2, _⟩ := h.canonW' hc hcov
  exact ⟨c', h1, h2⟩
end

end Go.Proofs.Ytndijidmabfhcaa.Fw
