/- Texts K, L, M, N, O, P, OR, Q of the proof, in one. -/
import Derived.Laws.IdiomStrings
import Derived.Laws.MakeOwn
import Derived.Test.YtnooelecdbbfkaaGreatDoorFwK3k1
set_option linter.unusedSimpArgs false
set_option linter.unusedVariables false
set_option linter.unusedSectionVars false
set_option linter.unnecessarySimpa false

/- Looking into maps; conversions; the least and the greatest. -/
namespace Go.Proofs.YtnooelecdbbfkaaGreatDoor.Fw
open Go Go.RowKit
set_option linter.unusedSectionVars false
variable [Inhabited GLT]

theorem ba_beq (a b : ByteArray) : (a == b) = true ↔ a = b := by
  rw [beq_toListBytes, ByteArray.toList_eq, ByteArray.toList_eq, beq_iff_eq]
  constructor
  · intro h; apply ByteArray.ext; exact Array.toList_inj.1 h
  · rintro rfl; rfl

section
variable {P : Program} {T : Ty} {c : Ctx} {env : Env} {a : Act} {w : World}

open Classical in
/-- Is a key this one? -/
noncomputable def isKey (vk : Value) (e : MapEntry) : Bool := decide (vk = e.key)

theorem sameNow_spec {d : TypeDesc} {x : Value} {e : MapEntry} : Instr.sameNow d x e.key = some (isKey x e) ∨ Instr.sameNow d x e.key = none := by
  unfold Instr.sameNow isKey
  split
  · rename_i h1 h2
    split
    · rename_i hk; subst hk
      left; rw [h2]; congr 1
      rw [Bool.eq_iff_iff]; simp
    · exact .inr rfl
  · rename_i h1 h2
    left; rw [h2]; congr 1
    rw [Bool.eq_iff_iff, ba_beq]; simp
  · rename_i h1 h2
    left; rw [h2]; congr 1
    rw [Bool.eq_iff_iff]; simp
  · exact .inr rfl

theorem eqCs_false : ∀ {cs ds : List D} {us vs : List Value}, eqCs cs ds = some false → All2 (RepC c env w) cs us → All2 (RepC c env w) ds vs → us ≠ vs
  | x :: cs, y :: ds, u :: us, v :: vs, h, h1, h2 => by
    simp only [eqCs] at h
    cases e1 : eqD x y with
    | none => rw [e1] at h; cases h
    | some p =>
      cases e2 : eqCs cs ds with
      | none => rw [e1, e2] at h; cases h
      | some q =>
        rw [e1, e2] at h
        simp only [Option.some.injEq] at h
        rintro e
        injection e with e3 e4
        subst e3
        cases q with
        | false => exact eqCs_false e2 h1.2 h2.2 e4
        | true =>
          rw [Bool.and_true] at h; subst h
          rcases repC_eqD h1.1 h2.1 e1 with ⟨k, m, n, rfl, e5, e⟩ | ⟨m, n, rfl, e5, e⟩ | ⟨m, n, rfl, e5, e⟩
          · injection e5 with _ e5; subst e5; simp at e
          · injection e5 with e5; subst e5; simp at e
          · injection e5 with e5; injection e5 with e5; injection e5 with e5; subst e5; simp at e
  | [], [], _, _, h, _, _ => by simp [eqCs] at h
  | [], _ :: _, _, _, h, _, _ => by simp [eqCs] at h
  | _ :: _, [], _, _, h, _, _ => by simp [eqCs] at h
  | _ :: _, _ :: _, [], _, _, h, _ => h.elim
  | _ :: _, _ :: _, _ :: _, [], _, _, h => h.elim

theorem key_isKey {q : Nat} {k x : D} {vk : Value} {en : MapEntry} (hk : RepV c env w k vk) (hx : RepV c env w x en.key) {e : TE} (he : T q = some e) (hka : e.isAgg = k.isAgg) (hf : fitK T q k x = true) : eqKey k x = isKey vk en := by
  obtain ⟨h1, ⟨e', he', ha⟩, b, h2, h3, h4⟩ := fitK_spec hf
  rw [he] at he'; cases he'
  obtain ⟨us, rfl, hu⟩ := asV_of hk hka
  obtain ⟨vs, hv0, hv⟩ := asV_of hx ha
  unfold isKey
  rw [hv0]
  cases hb : eqKey k x with
  | true =>
    rw [h4] at hb; subst hb
    rw [eqCs_true h3 hu hv]; simp
  | false =>
    rw [h4] at hb; subst hb
    have hne := eqCs_false h3 hu hv
    symm
    rw [decide_eq_false_iff_not]
    intro e5
    unfold asV at e5
    cases hag : e.isAgg with
    | true => rw [hag, if_pos rfl, if_pos rfl] at e5; injection e5 with e5; injection e5 with e5; exact hne e5
    | false =>
      rw [hag, if_neg (by simp), if_neg (by simp)] at e5
      -- one cell each
      have hl : ∀ (d : D) (us : List Value), e.isAgg = d.isAgg → d.isVal = true → All2 (RepC c env w) d.cells us → ∃ u, us = [u] := by
        intro d us hd hv h
        have := h.length
        have hc : d.cells.length = 1 := by rw [hag] at hd; cases d <;> first | rfl | (cases hd; done)
        exact list_one (by omega)
      have hkv : k.isVal = true := by
        cases k <;> first | rfl | exact hk.elim
      obtain ⟨u, rfl⟩ := hl k us hka hkv hu
      obtain ⟨v, rfl⟩ := hl x vs ha h1 hv
      exact hne (by simpa using e5)

theorem findIdx_all2 {p : D → Bool} {f : MapEntry → Bool} : ∀ {ks : List D} {es : List MapEntry}, All2 (fun k e => p k = f e) ks es → es.findIdx? f = ks.findIdx? p
  | [], [], _ => rfl
  | k :: ks, e :: es, h => by
    simp only [List.findIdx?_cons, findIdx_all2 h.2, h.1]
  | [], _ :: _, h => h.elim
  | _ :: _, [], h => h.elim

/-- What a map's entries are. -/
theorem all2_keys {I : Im} {ks : List D} {es : List MapEntry} : RepL I w ks (es.map (·.key)) ↔ All2 (fun k e => Rep I w k e.key) ks es := by
  rw [all2_repL]
  induction ks generalizing es with
  | nil => cases es <;> simp [All2]
  | cons k ks ih => cases es with
    | nil => simp [All2]
    | cons e es => simp only [List.map_cons, All2, ih]
theorem all2_vals {I : Im} {vs : List D} {es : List MapEntry} : RepL I w vs (es.map (·.val)) ↔ All2 (fun k e => Rep I w k e.val) vs es := by
  rw [all2_repL]
  induction vs generalizing es with
  | nil => cases es <;> simp [All2]
  | cons k ks ih => cases es with
    | nil => simp [All2]
    | cons e es => simp only [List.map_cons, All2, ih]

theorem run_findKey (hT : TyOK P T) {q : Nat} {e : TE} (he : T q = some e) {k : D} {vk : Value} (hk : RepV c env w k vk) {ks : List D} {es : List MapEntry} (hks : All2 (fun k e => Rep c.I w k e.key) ks es) (hf : keysFit T q k ks = true) :
    (Instr.findKey q vk es).run P w = .ok ((ks.findIdx? (eqKey k)).bind fun j => (es[j]?).map fun e => (j, e.val)) w ∧ (∀ empty, (Instr.checkKey empty 10000 q vk).run P w = .ok () w) ∧ All2 (fun k' e => eqKey k k' = isKey vk e) ks es := by
  unfold keysFit at hf
  simp only [Bool.and_eq_true] at hf
  obtain ⟨hv, hkk, hall⟩ := hf
  obtain ⟨_, ⟨e', he', hka⟩, b0, hb0, _, _⟩ := fitK_spec hkk
  rw [he] at he'; cases he'
  have hfit := fun x hx => List.all_eq_true.1 hall x hx
  have h2 : All2 (fun k' e => eqKey k k' = isKey vk e) ks es ∧ ∀ en ∈ es, ∃ x ∈ ks, Rep c.I w x en.key := by
    clear hall
    induction ks generalizing es with
    | nil => cases es <;> first | exact ⟨trivial, by simp⟩ | exact hks.elim
    | cons x ks ih => cases es with
      | nil => exact hks.elim
      | cons en es =>
        obtain ⟨i1, i2⟩ := ih hks.2 (fun y hy => hfit y (by simp [hy]))
        have hx := hfit x (by simp)
        exact ⟨⟨key_isKey hk (rep_repV (fitK_spec hx).1 hks.1) he hka hx, i1⟩, fun e' he' => by
          rcases List.mem_cons.1 he' with rfl | he'
          · exact ⟨x, by simp, hks.1⟩
          · obtain ⟨y, hy, hr⟩ := i2 e' he'; exact ⟨y, by simp [hy], hr⟩⟩
  have hidx := findIdx_all2 h2.1
  obtain ⟨us, rfl, hu⟩ := asV_of hk hka
  refine ⟨?_, fun empty => run_checkKey hT empty 6 q e k.cells us b0 he hb0 hu 10000 (by omega), h2.1⟩
  have hask : (Instr.findAsking q (asV e us) es).run P w = .ok ((es.findIdx? (isKey (asV e us))).bind fun j => (es[j]?).map fun e => (0 + j, e.val)) w :=
    run_findAsking (isKey (asV e us)) es 0 (fun en hen => by
      obtain ⟨x, hx, hr⟩ := h2.2 en hen
      have := hfit x hx
      have h6 := (run_key_equal hT hk (rep_repV (env := env) (fitK_spec this).1 hr) he hka this).1 9994
      rw [key_isKey hk (rep_repV (fitK_spec this).1 hr) he hka this] at h6
      exact h6)
  rw [← hidx]
  simp only [Nat.zero_add] at hask
  have hK := (hT q e he).kind
  unfold Instr.findKey
  obtain ⟨d, hd⟩ : ∃ d, P.underlying q = some d := by
    cases hk' : e.kind <;> rw [hk'] at hK <;> simp only [KindOK] at hK
    case agg => obtain ⟨_, h, _⟩ := hK; exact ⟨_, h⟩
    case ptr => obtain ⟨_, h⟩ := hK; exact ⟨_, h⟩
    case func => obtain ⟨_, _, _, h⟩ := hK; exact ⟨_, h⟩
    case ifc => obtain ⟨_, h⟩ := hK; exact ⟨_, h⟩
    case other => obtain ⟨_, h, _⟩ := hK; exact ⟨_, h⟩
    all_goals exact ⟨_, hK⟩
  simp only [Sem.run_bind, run_underlying hd, Result.andThen_ok]
  cases hn : Instr.findNow d (asV e us) es 0 with
  | some r =>
    have := findNow_eq (isKey (asV e us)) es 0 (fun e _ => sameNow_spec) r hn
    simp only [Nat.zero_add] at this
    rw [this]; rfl
  | none => exact hask

/-- A look-up among entries. -/
def lookRest (q u : TypeId) (es : Array MapEntry) (vk : Value) (comma : Bool) : Sem Value := do
  Instr.checkKey es.isEmpty 10000 q vk
  let (v, ok) ← match ← Instr.findKey q vk es.toList with
    | some (_, v) => pure (v, true)
    | none => pure (← zeroValue u, false)
  pure (if comma then .tuple #[v, .bool ok] else v)

theorem yield_lookup (hT : TyOK P T) (h : St c env a w) {t : Nat} {m k : D} {vm vk : Value} (hm : RepT c env w m vm) (hk : RepT c env w k vk) {comma s : Bool} {d : D} (hr : lookupD T env.mp t m k comma = some (s, d)) (hs : s = true) :
    Yield P c env w d (Instr.lookup t vm vk comma) := by
  unfold lookupD at hr
  cases ht : T t with
  | none => rw [ht] at hr; cases hr
  | some e =>
  rw [ht] at hr
  have hK := (hT t e ht).kind
  simp only at hr
  cases hk' : e.kind <;> rw [hk'] at hr hK <;> simp only at hr <;> first | (cases hr; done) | skip
  rename_i q u
  simp only [KindOK] at hK
  cases hu : T u with
  | none => rw [hu] at hr; cases hr
  | some eu =>
  rw [hu] at hr
  simp only at hr
  cases hen : entsD env.mp m with
  | none => rw [hen] at hr; cases hr
  | some ents =>
  obtain ⟨ks, vs⟩ := ents
  rw [hen] at hr
  simp only at hr
  have hfit : keysFit T q k ks = true := by cases comma <;> (simp only [Option.some.injEq, Prod.mk.injEq] at hr; rw [hr.1]; exact hs)
  have hkv : RepV c env w k vk := by
    unfold keysFit at hfit
    simp only [Bool.and_eq_true] at hfit
    obtain ⟨_, _, b0, _, hb0, _⟩ := fitK_spec hfit.2.1
    cases k <;> first | exact hk | (cases hfit.1; done) | skip
    simp only [D.cells, eqCs, eqD] at hb0; cases hb0
  obtain ⟨eq, heq⟩ : ∃ e, T q = some e := by
    unfold keysFit at hfit
    simp only [Bool.and_eq_true] at hfit
    obtain ⟨_, ⟨e', he', _⟩, _⟩ := fitK_spec hfit.2.1
    exact ⟨e', he'⟩
  -- the entries
  obtain ⟨es, hes, h1, h2, h3⟩ : ∃ es : Array MapEntry, (Instr.lookup t vm vk comma).run P w = (lookRest q u es vk comma).run P w ∧ All2 (fun k e => Rep c.I w k e.key) ks es.toList ∧ All2 (fun k e => Rep c.I w k e.val) vs es.toList ∧ vs.all D.isVal = true := by
    unfold entsD at hen
    split at hen
    · rename_i s'
      cases hl : look s' env.mp with
      | none => rw [hl] at hen; cases hen
      | some mc =>
        rw [hl] at hen
        simp only [Option.map_some, Option.some.injEq, Prod.mk.injEq] at hen
        obtain ⟨rfl, rfl⟩ := hen
        obtain ⟨_, rfl⟩ : (look s' env.mp).isSome = true ∧ vm = .map (some (c.ρ s')) := hm
        obtain ⟨es, clock, hh, h1, h2, h3, _⟩ := h.mp s' mc hl
        exact ⟨es, (by simp only [Instr.lookup, Sem.run_bind, run_underlying hK, Result.andThen_ok, getObj, Sem.run, hh, lookRest, Sem.run_pure]; rfl), all2_keys.1 h1, all2_vals.1 h2, h3⟩
    · rename_i ks' vs'
      simp only [Option.some.injEq, Prod.mk.injEq] at hen
      obtain ⟨rfl, rfl⟩ := hen
      have hm : RepC c env w (.mapv ks' vs') vm := hm
      simp only [RepC, Rep] at hm
      obtain ⟨r, rfl, _, es, clock, hh, h1, h2, h3⟩ := hm
      exact ⟨es, (by simp only [Instr.lookup, Sem.run_bind, run_underlying hK, Result.andThen_ok, getObj, Sem.run, hh, lookRest, Sem.run_pure]; rfl), all2_keys.1 h1, all2_vals.1 h2, h3⟩
    · simp only [Option.some.injEq, Prod.mk.injEq] at hen
      obtain ⟨rfl, rfl⟩ := hen
      have hm : RepC c env w .nilm vm := hm
      simp only [RepC, Rep] at hm; subst hm
      exact ⟨#[], (by simp only [Instr.lookup, Sem.run_bind, run_underlying hK, Result.andThen_ok, lookRest, Sem.run_pure]; rfl), trivial, trivial, rfl⟩
    · cases hen
  obtain ⟨g1, g2, g3⟩ := run_findKey hT heq hkv h1 hfit
  obtain ⟨z, _, hz, _, _, _, hzr⟩ := zero_spec (hT u eu hu)
  have hlen : ks.length = vs.length := by rw [h1.length, h2.length]
  have hfd := findD_eq (k := k) hlen
  obtain ⟨val, hval, hrv⟩ : ∃ val : Value, (lookRest q u es vk comma).run P w = .ok (if comma then .tuple #[val, .bool (findD k ks vs).isSome] else val) w ∧ RepV c env w ((findD k ks vs).getD eu.zero) val := by
    rw [hfd]
    unfold lookRest
    simp only [Sem.run_bind, g2, g1, Result.andThen_ok]
    cases hi : ks.findIdx? (eqKey k) with
    | none => exact ⟨z, by simp [hz], by simpa using hzr c env w⟩
    | some j =>
      have hj : j < ks.length := (List.findIdx?_eq_some_iff_getElem.1 hi).1
      obtain ⟨x, hx⟩ : ∃ x, vs[j]? = some x := ⟨_, List.getElem?_eq_getElem (by omega)⟩
      obtain ⟨en, hen', hr'⟩ := h2.get j x hx
      refine ⟨en.val, ?_, ?_⟩
      · simp only [Option.bind_some, hen', Option.map_some, hx, Option.isSome_some]
        cases comma <;> rfl
      · simp only [Option.bind_some, hx, Option.getD_some]
        exact rep_repV (List.all_eq_true.1 h3 x (List.mem_of_getElem? hx)) hr'
  have hout : RepT c env w ((findD k ks vs).getD eu.zero) val := by
    cases hd : (findD k ks vs).getD eu.zero <;> rw [hd] at hrv <;> first | exact hrv | trivial | exact hrv.elim
  cases comma with
  | true =>
    simp only [Option.some.injEq, Prod.mk.injEq] at hr
    obtain ⟨_, rfl⟩ := hr
    exact ⟨_, hes.trans hval, [val, .bool (findD k ks vs).isSome], rfl, hrv, by simp [RepV, RepC, Rep], trivial⟩
  | false =>
    simp only [Option.some.injEq, Prod.mk.injEq] at hr
    obtain ⟨_, rfl⟩ := hr
    exact ⟨_, hes.trans hval, hout⟩
end

end Go.Proofs.YtnooelecdbbfkaaGreatDoor.Fw

/- What changes no more from now on; what may leave the function; new blocks. -/
namespace Go.Proofs.YtnooelecdbbfkaaGreatDoor.Fw
open Go Go.RowKit
set_option linter.unusedSectionVars false
variable [Inhabited GLT]

section
variable {P : Program} {T : Ty} {c : Ctx} {env : Env} {a : Act} {w : World}

/-- A slot's block changes no more: its cells up to n. -/
def Ctx.hold (c : Ctx) (s n : Nat) : Ctx := { c with I := fun b o => c.I b o ∨ (b = c.ρ s ∧ o < n) }

theorem Step.hold (h : St c env a w) {s n : Nat} (hs : env.blk s) {env' : Env} (hb : ∀ s, (look s env.bx).isSome = true → (look s env'.bx).isSome = true) (hm : ∀ s, (look s env.mp).isSome = true → (look s env'.mp).isSome = true) (hu : env'.us = env.us) (hd : env'.dd = env.dd) :
    Step c env w (c.hold s n) env' w :=
  .of (⟨fun _ _ h => .inl h, fun _ _ _ h => h, fun _ _ _ _ h => h⟩) (fun s' h' => ⟨hb s' h', rfl⟩) (fun s' h' => ⟨hm s' h', rfl⟩) (fun _ _ h => by rw [hu]; exact h) (fun _ h => by rw [hd]; exact h) (fun st hl _ => ⟨rfl, fun g hg => ⟨rfl, fun o ho => ho.resolve_right fun e => (h.ownAbove st g hl hg).2.2 s hs e.1.symm⟩⟩) (fun _ _ h => ⟨by rw [← hu]; exact h.1, by rw [← hd]; exact h.2⟩)

theorem St.freezeBox (h : St c env a w) {s : Nat} {b : BoxC} (hb : look s env.bx = some b) : St (c.hold s b.cells.length) { env with bx := (s, { b with frozen := true }) :: env.bx } a w := by
  have hs : env.blk s := .inl (by rw [hb]; rfl)
  have hbk : ∀ s', (look s' ((s, { b with frozen := true }) :: env.bx)).isSome = (look s' env.bx).isSome := fun s' => by
    rw [look_cons]; split
    · rename_i e; subst e; rw [hb]; rfl
    · rfl
  have S : Step c env w (c.hold s b.cells.length) { env with bx := (s, { b with frozen := true }) :: env.bx } w :=
    Step.hold h hs (fun s' h' => by rw [hbk]; exact h') (fun _ h' => h') rfl rfl
  have hblk : ∀ s', Env.blk { env with bx := (s, { b with frozen := true }) :: env.bx } s' ↔ env.blk s' := fun s' => by
    unfold Env.blk; simp only [hbk]
  refine ⟨h.nt, h.df, fun t d hd => S.repT (h.tm t d hd), fun t d hd => (h.wt t d hd).step S, ?_, ?_, fun s1 s2 h1 h2 e => h.inj s1 s2 ((hblk _).1 h1) ((hblk _).1 h2) e, fun s1 h1 => h.above s1 ((hblk _).1 h1), fun s1 h1 => h.lt s1 ((hblk _).1 h1), h.ownInj,
    fun st g hl hg => ⟨(h.ownAbove st g hl hg).1, (h.ownAbove st g hl hg).2.1, fun s1 h1 => (h.ownAbove st g hl hg).2.2 s1 ((hblk _).1 h1)⟩, ?_, h.im0.trans S.keeps, ?_, h.base, ⟨h.gh.1, S.fix h.gh.2⟩, h.rows S⟩
  · intro s' b' hs'
    rw [look_cons] at hs'
    split at hs'
    · rename_i e; subst e; cases hs'
      obtain ⟨vs, e, h1, h2, h3, h4⟩ := h.bx s b hb
      exact ⟨vs, e, h1, h2.mono fun _ _ => S.repC, fun _ o ho => .inr ⟨rfl, by rw [h2.length]; exact ho⟩, fun hf => by cases hf⟩
    · rename_i hne
      exact (h.bx s' b' hs').step S rfl rfl (fun o ho => ho.resolve_right fun e => hne (h.inj s' s (.inl (by rw [hs']; rfl)) hs e.1).symm)
  · intro s' m hs'
    refine (h.mp s' m hs').step S rfl rfl (fun o ho => ho.resolve_right fun e => ?_)
    have := h.inj s' s (.inr (by rw [hs']; rfl)) hs e.1
    subst this
    obtain ⟨_, _, h1, _⟩ := h.mp s' m hs'
    obtain ⟨_, _, h2, _⟩ := h.bx s' b hb
    rw [h1] at h2; cases h2
  · rintro b' o (hi | ⟨rfl, _⟩)
    · exact h.im _ _ hi
    · exact h.lt s hs
  · rintro b' o (hi | ⟨rfl, _⟩)
    · exact h.imNew _ _ hi
    · exact .inr (h.above s hs)

theorem St.freezeMap (h : St c env a w) {s : Nat} {m : MapC} (hb : look s env.mp = some m) : St (c.hold s 1) { env with mp := (s, { m with frozen := true }) :: env.mp } a w := by
  have hs : env.blk s := .inr (by rw [hb]; rfl)
  have hbk : ∀ s', (look s' ((s, { m with frozen := true }) :: env.mp)).isSome = (look s' env.mp).isSome := fun s' => by
    rw [look_cons]; split
    · rename_i e; subst e; rw [hb]; rfl
    · rfl
  have S : Step c env w (c.hold s 1) { env with mp := (s, { m with frozen := true }) :: env.mp } w :=
    Step.hold h hs (fun _ h' => h') (fun s' h' => by rw [hbk]; exact h') rfl rfl
  have hblk : ∀ s', Env.blk { env with mp := (s, { m with frozen := true }) :: env.mp } s' ↔ env.blk s' := fun s' => by
    unfold Env.blk; simp only [hbk]
  refine ⟨h.nt, h.df, fun t d hd => S.repT (h.tm t d hd), fun t d hd => (h.wt t d hd).step S, ?_, ?_, fun s1 s2 h1 h2 e => h.inj s1 s2 ((hblk _).1 h1) ((hblk _).1 h2) e, fun s1 h1 => h.above s1 ((hblk _).1 h1), fun s1 h1 => h.lt s1 ((hblk _).1 h1), h.ownInj,
    fun st g hl hg => ⟨(h.ownAbove st g hl hg).1, (h.ownAbove st g hl hg).2.1, fun s1 h1 => (h.ownAbove st g hl hg).2.2 s1 ((hblk _).1 h1)⟩, ?_, h.im0.trans S.keeps, ?_, h.base, ⟨h.gh.1, S.fix h.gh.2⟩, h.rows S⟩
  · intro s' b hs'
    refine (h.bx s' b hs').step S rfl rfl (fun o ho => ho.resolve_right fun e => ?_)
    have := h.inj s' s (.inl (by rw [hs']; rfl)) hs e.1
    subst this
    obtain ⟨_, _, h1, _⟩ := h.bx s' b hs'
    obtain ⟨_, _, h2, _⟩ := h.mp s' m hb
    rw [h1] at h2; cases h2
  · intro s' m' hs'
    rw [look_cons] at hs'
    split at hs'
    · rename_i e; subst e; cases hs'
      obtain ⟨es, k, h1, h2, h3, h4, h5, h6⟩ := h.mp s m hb
      exact ⟨es, k, h1, RepL.keeps S.keeps _ _ h2, RepL.keeps S.keeps _ _ h3, h4, fun _ => .inr ⟨rfl, by omega⟩, fun hf => by cases hf⟩
    · rename_i hne
      exact (h.mp s' m' hs').step S rfl rfl (fun o ho => ho.resolve_right fun e => hne (h.inj s' s (.inr (by rw [hs']; rfl)) hs e.1).symm)
  · rintro b' o (hi | ⟨rfl, _⟩)
    · exact h.im _ _ hi
    · exact h.lt s hs
  · rintro b' o (hi | ⟨rfl, _⟩)
    · exact h.imNew _ _ hi
    · exact .inr (h.above s hs)

/-- What may leave, once the maps that go with it change no more. -/
theorem clo_cell (h : St c env a w) {mp : List (Nat × MapC)} {d d' : D} {v : Value} (hr : RepC c env w d v) (hc : clo mp d = some d') (hm : ∀ s, d = .mapr s → ∀ m, look s mp = some m → ∃ m', look s env.mp = some m' ∧ m'.ks = m.ks ∧ m'.vs = m.vs ∧ m'.frozen = true) :
    Rep c.I w d' v ∧ d'.isCell = true := by
  cases d <;> simp only [clo] at hc <;> first | (cases hc; done) | skip
  case agg => exact hr.elim
  case sl st es xs => simp only [Option.some.injEq] at hc; subst hc; exact ⟨hr.1, rfl⟩
  case mapr s =>
    cases hl : look s mp with
    | none => rw [hl] at hc; cases hc
    | some m =>
      rw [hl] at hc
      simp only [Option.map_some, Option.some.injEq] at hc; subst hc
      obtain ⟨m', h1, h2, h3, h4⟩ := hm s rfl m hl
      obtain ⟨es, k, g1, g2, g3, g4, g5, _⟩ := h.mp s m' h1
      obtain ⟨_, rfl⟩ : (look s env.mp).isSome = true ∧ v = .map (some (c.ρ s)) := hr
      refine ⟨?_, rfl⟩
      simp only [Rep]
      rw [h2] at g2; rw [h3] at g3 g4
      exact ⟨_, rfl, g5 h4, es, k, g1, g2, g3, g4⟩
  all_goals (simp only [Option.some.injEq] at hc; subst hc; exact ⟨hr, rfl⟩)

theorem clo_cells (h : St c env a w) {mp : List (Nat × MapC)} : ∀ {ds ds' : List D} {vs : List Value}, All2 (RepC c env w) ds vs → cloL mp ds = some ds' → (∀ s, .mapr s ∈ ds → ∀ m, look s mp = some m → ∃ m', look s env.mp = some m' ∧ m'.ks = m.ks ∧ m'.vs = m.vs ∧ m'.frozen = true) →
    All2 (Rep c.I w) ds' vs ∧ ds'.all D.isCell = true
  | [], ds', vs, hr, hc, _ => by simp only [cloL, Option.some.injEq] at hc; subst hc; cases vs <;> first | exact ⟨trivial, rfl⟩ | exact hr.elim
  | d :: ds, ds', [], hr, _, _ => hr.elim
  | d :: ds, ds', v :: vs, hr, hc, hm => by
    simp only [cloL] at hc
    cases h1 : clo mp d with
    | none => rw [h1] at hc; cases hc
    | some d' =>
      cases h2 : cloL mp ds with
      | none => rw [h1, h2] at hc; cases hc
      | some es =>
        rw [h1, h2] at hc
        simp only [Option.some.injEq] at hc; subst hc
        obtain ⟨i1, i2⟩ := clo_cell h hr.1 h1 (fun s e => hm s (by rw [e]; simp))
        obtain ⟨i3, i4⟩ := clo_cells h hr.2 h2 (fun s hs => hm s (by simp [hs]))
        exact ⟨⟨i1, i3⟩, by simp [i2, i4]⟩

theorem mem_cloM_agg {cs : List D} {s : Nat} (h : .mapr s ∈ cs) : s ∈ cloM (.agg cs) := by
  simp only [cloM, List.mem_filterMap]
  exact ⟨_, h, rfl⟩

theorem clo_val (h : St c env a w) {mp : List (Nat × MapC)} {d d' : D} {v : Value} (hr : RepV c env w d v) (hc : clo mp d = some d') (hm : ∀ s ∈ cloM d, ∀ m, look s mp = some m → ∃ m', look s env.mp = some m' ∧ m'.ks = m.ks ∧ m'.vs = m.vs ∧ m'.frozen = true) :
    Rep c.I w d' v ∧ d'.isVal = true := by
  cases d with
  | agg cs =>
    obtain ⟨vs, rfl, hr⟩ := hr
    simp only [clo] at hc
    cases h1 : cloL mp cs with
    | none => rw [h1] at hc; cases hc
    | some ds =>
      rw [h1] at hc
      simp only [Option.map_some, Option.some.injEq] at hc; subst hc
      obtain ⟨i1, i2⟩ := clo_cells h hr h1 (fun s hs => hm s (mem_cloM_agg hs))
      refine ⟨?_, rfl⟩
      simp only [Rep]
      exact ⟨vs, rfl, i2, all2_repL.2 i1⟩
  | _ =>
    simp only [RepV] at hr
    obtain ⟨i1, i2⟩ := clo_cell h hr hc (fun s e => by cases e <;> exact hm _ (by simp [cloM]))
    exact ⟨i1, by cases d' <;> first | rfl | cases i2⟩

/-- A context that goes on from another one. -/
structure Ctx.Next (c c' : Ctx) : Prop where
  w0 : c'.w0 = c.w0
  I0 : c'.I0 = c.I0
  df : c'.df = c.df
theorem Ctx.Next.refl (c : Ctx) : c.Next c := ⟨rfl, rfl, rfl⟩
theorem Ctx.Next.trans {c c' c'' : Ctx} (h : c.Next c') (k : c'.Next c'') : c.Next c'' := ⟨k.w0.trans h.w0, k.I0.trans h.I0, k.df.trans h.df⟩

theorem St.frzM {ss : List Nat} : ∀ {c : Ctx} {env : Env} {mp : List (Nat × MapC)}, St c env a w → frzM env.mp ss = some mp → ∃ c', c.Next c' ∧ St c' { env with mp } a w ∧ Step c env w c' { env with mp } w ∧
    (∀ s m, look s env.mp = some m → ∃ m', look s mp = some m' ∧ m'.ks = m.ks ∧ m'.vs = m.vs ∧ (m.frozen = true ∨ s ∈ ss → m'.frozen = true)) := by
  induction ss with
  | nil =>
    intro c env mp h hf
    simp only [Fw.frzM, Option.some.injEq] at hf; subst hf
    exact ⟨c, .refl c, h, Step.refl _ _ _, fun s m hs => ⟨m, hs, rfl, rfl, fun e => e.resolve_right (by simp)⟩⟩
  | cons s ss ih =>
    intro c env mp h hf
    simp only [Fw.frzM] at hf
    cases hl : look s env.mp with
    | none => rw [hl] at hf; cases hf
    | some m =>
      rw [hl] at hf
      have h1 := h.freezeMap hl
      have hs : env.blk s := .inr (by rw [hl]; rfl)
      have S1 : Step c env w (c.hold s 1) { env with mp := (s, { m with frozen := true }) :: env.mp } w := Step.hold h hs (fun _ h' => h') (fun s' h' => by rw [look_cons]; split <;> first | rfl | exact h') rfl rfl
      obtain ⟨c', n, h2, S2, h3⟩ := ih h1 hf
      refine ⟨c', ⟨n.w0, n.I0, n.df⟩, h2, S1.trans S2, fun s' m' hs' => ?_⟩
      by_cases e : s = s'
      · subst e
        rw [hl] at hs'; cases hs'
        obtain ⟨m2, g1, g2, g3, g4⟩ := h3 s { m with frozen := true } (by rw [look_cons, if_pos rfl])
        exact ⟨m2, g1, g2, g3, fun _ => g4 (.inl rfl)⟩
      · obtain ⟨m2, g1, g2, g3, g4⟩ := h3 s' m' (by rw [look_cons, if_neg e]; exact hs')
        exact ⟨m2, g1, g2, g3, fun hh => g4 (hh.imp id fun hm => (List.mem_cons.1 hm).resolve_left fun e' => e e'.symm)⟩
end

end Go.Proofs.YtnooelecdbbfkaaGreatDoor.Fw

/- Operations that make memory. -/
namespace Go.Proofs.YtnooelecdbbfkaaGreatDoor.Fw
open Go Go.RowKit
set_option linter.unusedSectionVars false
variable [Inhabited GLT]

section
variable {P : Program} {T : Ty} {c : Ctx} {env : Env} {a : Act} {w : World}

/-- A new row that changes no more. -/
theorem St.newRow (h : St c env a w) (vs : List Value) (e : TypeId) : ∃ c', c.Next c' ∧ St c' env a (w.alloc (.cells ⟨vs⟩ e)) ∧ Step c env w c' env (w.alloc (.cells ⟨vs⟩ e)) ∧ ∀ o, o < vs.length → c'.I w.heap.size o := by
  have h1 := h.alloc (.cells ⟨vs⟩ e)
  have S1 := Step.allocSt h (.cells ⟨vs⟩ e)
  have S2 : Step c env (w.alloc (.cells ⟨vs⟩ e)) { c with I := fun b o => c.I b o ∨ (b = w.heap.size ∧ o < vs.length) } env (w.alloc (.cells ⟨vs⟩ e)) :=
    .of (⟨fun _ _ h => .inl h, fun _ _ _ h => h, fun _ _ _ _ h => h⟩) (fun _ h => ⟨h, rfl⟩) (fun _ h => ⟨h, rfl⟩) (fun _ _ h => h) (fun _ h => h) (fun st hl _ => ⟨rfl, fun g hg => ⟨rfl, fun o ho => ho.resolve_right fun e => by have := (h.ownAbove st g hl hg).2.1; omega⟩⟩)
  refine ⟨{ c with I := fun b o => c.I b o ∨ (b = w.heap.size ∧ o < vs.length) }, ⟨rfl, rfl, rfl⟩, ?_, S1.trans S2, fun o ho => .inr ⟨rfl, ho⟩⟩
  refine ⟨h1.nt, h1.df, fun t d hd => S2.repT (h1.tm t d hd), fun t d hd => (h1.wt t d hd).step S2, fun s b hs => (h1.bx s b hs).step S2 rfl rfl (fun o ho => ho.resolve_right fun e => ?_), fun s m hs => (h1.mp s m hs).step S2 rfl rfl (fun o ho => ho.resolve_right fun e => ?_), h1.inj, h1.above, h1.lt, h1.ownInj, h1.ownAbove, ?_, h1.im0.trans S2.keeps, ?_, h1.base, h1.gh, h1.rows S2⟩
  · have := h.lt s (.inl (by rw [hs]; rfl)); omega
  · have := h.lt s (.inr (by rw [hs]; rfl)); omega
  · rintro b o (hi | ⟨rfl, _⟩)
    · exact h1.im _ _ hi
    · simp
  · rintro b o (hi | ⟨rfl, _⟩)
    · exact h1.imNew _ _ hi
    · exact .inr h.base.size

theorem repCs_of {I : Im} {g : Nat} : ∀ {ds : List D} {o j : Nat}, (∀ (i : Nat) x, ds[i]? = some x → x.isCell = true ∧ I g (o + (j + i)) ∧ ∃ u, w.cell? ⟨g, o + (j + i), none⟩ = some u ∧ Rep I w x u) → RepCs I w ds ⟨g, o, none⟩ j
  | [], _, _, _ => by simp only [RepCs]
  | d :: ds, o, j, h => by
    simp only [RepCs]
    have h0 := h 0 d rfl
    refine ⟨?_, repCs_of fun i x hx => by have := h (i + 1) x (by simpa using hx); rw [show j + (i + 1) = j + 1 + i from by omega] at this; exact this⟩
    rw [addr_add_mk]; exact h0

theorem repRow_chunk {I : Im} {e : TE} (h1 : e.isAgg = false → e.size = 1) {g : Nat} : ∀ (n i : Nat) (cs : List D), cs.length = n * e.size → (∀ (j : Nat) x, cs[j]? = some x → x.isCell = true ∧ I g (i * e.size + j) ∧ ∃ u, w.cell? ⟨g, i * e.size + j, none⟩ = some u ∧ Rep I w x u) → RepRow I w e.size (chunk e n cs) ⟨g, 0, none⟩ i
  | 0, _, _, _, _ => by simp only [chunk, RepRow]
  | n + 1, i, cs, hl, h => by
    rw [chunk, repRow_cons]
    have hl' : cs.length = n * e.size + e.size := by rw [hl, Nat.add_mul]; omega
    refine ⟨?_, repRow_chunk h1 n (i + 1) _ (by simp; omega) fun j x hx => ?_⟩
    · rw [addr_add_mk, Nat.zero_add]
      cases hag : e.isAgg with
      | true =>
        rw [cond_true]
        refine ⟨by simp [D.cells]; omega, ?_⟩
        simp only [RepAt]
        refine repCs_of fun j x hx => ?_
        rw [Nat.zero_add]
        refine h j x ?_
        rw [List.getElem?_take] at hx
        split at hx
        · exact hx
        · cases hx
      | false =>
        rw [cond_false]
        have hs := h1 hag
        have : cs[0]? = some (cs.headD .undef) := by cases cs <;> first | (simp at hl'; omega) | rfl
        have h0 := h 0 _ this
        cases hd : cs.headD .undef <;> rw [hd] at h0 <;> first | (cases h0.1; done) | exact ⟨by simp [D.cells, hs], h0⟩
    · have := h (e.size + j) x (by rw [List.getElem?_drop] at hx; exact hx)
      rw [show (i + 1) * e.size + j = i * e.size + (e.size + j) from by rw [Nat.add_mul]; omega]; exact this

theorem flatten_replicate_get {α : Type} (l : List α) : ∀ (n k : Nat), k < n * l.length → ((List.replicate n l).flatten)[k]? = l[k % l.length]?
  | 0, k, h => by simp at h
  | n + 1, k, h => by
    rw [List.replicate_succ, List.flatten_cons]
    by_cases hk : k < l.length
    · rw [List.getElem?_append_left hk, Nat.mod_eq_of_lt hk]
    · rw [List.getElem?_append_right (by omega), flatten_replicate_get l n (k - l.length) (by rw [Nat.add_mul] at h; omega)]
      congr 1
      exact (Nat.mod_eq_sub_mod (by omega)).symm

theorem repC_rep_cells {ds : List D} {vs : List Value} (h : All2 (Rep c.I w) ds vs) (hc : ds.all D.isCell = true) (i : Nat) (x : D) (hx : ds[i]? = some x) : x.isCell = true ∧ ∃ u, vs[i]? = some u ∧ Rep c.I w x u :=
  ⟨List.all_eq_true.1 hc x (List.mem_of_getElem? hx), h.get i x hx⟩

theorem chunk_length (e : TE) : ∀ (n : Nat) (cs : List D), (chunk e n cs).length = n
  | 0, _ => rfl
  | n + 1, cs => by simp [chunk, chunk_length e n]

/-- The row of a slice literal. -/
theorem run_buildSlice (hT : TyOK P T) {t u n : Nat} {eu : TE} (ht : P.underlying t = some (.slice u)) (hu : T u = some eu) (hn : n * eu.size ≤ 16777216) (_ : eu.size ≠ 0) {ps : List (Nat × D)} {qs : List (Nat × Value)} (hp : RepP c env w ps qs) {cs : List D}
    (hb : buildCells (fun i => some (i * eu.size, eu.size)) ((List.replicate n eu.zero.cells).flatten) ps = some cs) :
    ∃ vs : List Value, All2 (RepC c env w) cs vs ∧ vs.length = n * eu.size ∧ (Instr.buildSlice t n ⟨qs⟩).run P w = .ok (.slice (some ⟨w.heap.size, 0, none⟩) n n) (w.alloc (.cells ⟨vs⟩ u)) := by
  obtain ⟨z, zs, hz, hzc, hzl, hzl2, hzr⟩ := zero_spec (hT u eu hu)
  obtain ⟨zs', hzc', hz2⟩ := repV_cells (hzr c env w)
  rw [hzc] at hzc'
  obtain rfl : zs = zs' := by injection hzc'
  have h0 : All2 (RepC c env w) ((List.replicate n eu.zero.cells).flatten) ((List.range (n * eu.size)).map fun k => zs.getD (k % eu.size) default) := by
    have hl : ((List.replicate n eu.zero.cells).flatten).length = n * eu.size := by simp [hzl2]
    refine all2_iff.2 ⟨by simp [hzl2], fun i x y hx hy => ?_⟩
    have hi : i < n * eu.size := by have := (List.getElem?_eq_some_iff.1 hx).1; omega
    rw [flatten_replicate_get _ _ _ (by rw [hzl2]; exact hi), hzl2] at hx
    rw [List.getElem?_map, List.getElem?_range hi] at hy
    simp only [Option.map_some, Option.some.injEq] at hy
    obtain ⟨v, hv, hr⟩ := hz2.get _ x hx
    subst hy
    simpa [List.getD_eq_getElem?_getD, hv] using hr
  obtain ⟨us, hus, hr⟩ := fill_rep (place := fun i => some (i * eu.size, eu.size)) (fun i o m hi => hi) ps qs _ _ cs hp h0 hb
  have hlen : us.length = n * eu.size := by
    rw [← hr.length]
    have : ∀ (ps : List (Nat × D)) (cs r : List D), buildCells (fun i => some (i * eu.size, eu.size)) cs ps = some r → r.length = cs.length := by
      intro ps
      induction ps with
      | nil => intro cs r h; simp only [buildCells, Option.some.injEq] at h; rw [h]
      | cons p ps ih =>
        intro cs r h
        obtain ⟨i, d⟩ := p
        simp only [buildCells] at h
        cases hb : (Nat.beq d.cells.length eu.size && Nat.ble (i * eu.size + eu.size) cs.length) with
        | false => rw [hb] at h; cases h
        | true =>
          rw [hb, cond_true] at h
          simp only [Bool.and_eq_true, nbeq, Nat.ble_eq] at hb
          rw [ih _ _ h, splice_length _ _ _ (by omega)]
    rw [this _ _ _ hb]; simp [hzl2]
  refine ⟨us, hr, hlen, ?_⟩
  unfold Instr.buildSlice
  simp only [Sem.run_bind, run_underlying ht, Result.andThen_ok, (hT u eu hu).size]
  rw [if_neg (by omega)]
  have hrow : ∀ w', (newRow u ⟨us⟩).run P w' = .ok ⟨w'.heap.size, 0, none⟩ (w'.alloc (.cells ⟨us⟩ u)) := fun w' => by simp [newRow]
  have hget : ∀ k, (⟨zs⟩ : Array Value)[k]! = zs.getD k default := fun k => by
    rw [getElem!_def, List.getD_eq_getElem?_getD]
    have : (⟨zs⟩ : Array Value)[k]? = zs[k]? := by simp
    rw [this]
    cases zs[k]? <;> rfl
  have hsz : (⟨zs⟩ : Array Value).size = eu.size := hzl
  have harr : ((Array.range (n * eu.size)).map fun x => (⟨zs⟩ : Array Value)[x % (⟨zs⟩ : Array Value).size]!) = ⟨(List.range (n * eu.size)).map fun k => zs.getD (k % eu.size) default⟩ := by
    apply Array.ext'
    rw [Array.toList_map, Array.toList_range]
    simp only [hget, hsz]
  by_cases hn0 : n * eu.size = 0
  · rw [if_pos hn0]
    simp only [Sem.run_pure, Sem.run_bind, Result.andThen_ok]
    have : ((Array.range (n * eu.size)).map fun x => (#[] : Array Value)[x % (#[] : Array Value).size]!) = ⟨(List.range (n * eu.size)).map fun k => zs.getD (k % eu.size) default⟩ := by
      rw [hn0]; simp
    rw [this, hus]
    simp only [Sem.run_bind, hrow, Result.andThen_ok, Sem.run_pure]
  · rw [if_neg hn0]
    simp only [Sem.run_bind, hz, Result.andThen_ok, Sem.run_pure, hzc]
    rw [harr, hus]
    simp only [Sem.run_bind, hrow, Result.andThen_ok, Sem.run_pure]

/-- The state behind an operation that yields d. -/
def After (P : Program) (c : Ctx) (_env env' : Env) (a : Act) (w : World) (d : D) (s : Sem Value) : Prop :=
  ∃ v w' c', s.run P w = .ok v w' ∧ c.Next c' ∧ St c' env' a w' ∧ RepT c' env' w' d v

theorem Yield.after (h : St c env a w) {d : D} {s : Sem Value} (y : Yield P c env w d s) : After P c env env a w d s :=
  let ⟨v, h1, h2⟩ := y; ⟨v, w, c, h1, .refl c, h, h2⟩

theorem after_alloc (h : St c env a w) {t dst : Nat} {e : TE} (he : TEok P t e) (hb : look dst env.bx = none) (hm : look dst env.mp = none) :
    After P c env { env with bx := (dst, ⟨e.zero.cells, e.isAgg, false⟩) :: env.bx } a w (.loc dst 0) (Instr.alloc t true (.tuple #[])) := by
  obtain ⟨z, zs, hz, hzc, hzl, _, hzr⟩ := zero_spec he
  obtain ⟨zs', hzc', hz2⟩ := repV_cells (hzr c env w)
  rw [hzc] at hzc'
  obtain rfl : zs = zs' := by injection hzc'
  obtain ⟨h1, h2⟩ := h.newBox e.isAgg t hb hm hz2
  refine ⟨_, _, { c with ρ := fun s => if s = dst then w.heap.size else c.ρ s }, ?_, ⟨rfl, rfl, rfl⟩, h1, h2⟩
  simp [Instr.alloc, hz, newVar, newRow, hzc]

theorem after_box (h : St c env a w) {t dst : Nat} {e : TE} {d : D} {v : Value} (hd : RepV c env w d v) (hb : look dst env.bx = none) (hm : look dst env.mp = none) :
    After P c env { env with bx := (dst, ⟨d.cells, e.isAgg, false⟩) :: env.bx } a w (.loc dst 0) (Instr.box t v) := by
  obtain ⟨zs, hzc, hz2⟩ := repV_cells hd
  obtain ⟨h1, h2⟩ := h.newBox e.isAgg t hb hm hz2
  refine ⟨_, _, { c with ρ := fun s => if s = dst then w.heap.size else c.ρ s }, ?_, ⟨rfl, rfl, rfl⟩, h1, h2⟩
  simp [Instr.box, newVar, newRow, hzc]

/-- A slice literal that changes no more. -/
theorem after_buildSlice (hT : TyOK P T) (h : St c env a w) {t u n : Nat} {eu : TE} (ht : P.underlying t = some (.slice u)) (hu : T u = some eu) (hn : n * eu.size ≤ 16777216) (hs : eu.size ≠ 0) {ps : List (Nat × D)} {qs : List (Nat × Value)} (hp : RepP c env w ps qs) {cs cs' : List D}
    (hb : buildCells (fun i => some (i * eu.size, eu.size)) ((List.replicate n eu.zero.cells).flatten) ps = some cs) (hc : cloL env.mp cs = some cs') {mp : List (Nat × MapC)} (hf : frzM env.mp (cloM (.agg cs)) = some mp) :
    After P c env { env with mp } a w (.sl 1 eu.size (chunk eu n cs')) (Instr.buildSlice t n ⟨qs⟩) := by
  obtain ⟨vs, hv, hvl, hrun⟩ := run_buildSlice hT ht hu hn hs hp hb
  obtain ⟨c1, n1, h1, S1, hm1⟩ := h.frzM hf
  obtain ⟨c2, n2, h2, S2, hI⟩ := h1.newRow vs u
  have hcl := clo_cells h1 (hv.mono fun _ _ => S1.repC) hc (fun s hs m hl => by
    obtain ⟨m', g1, g2, g3, g4⟩ := hm1 s m hl
    exact ⟨m', g1, g2, g3, g4 (.inr (mem_cloM_agg hs))⟩)
  refine ⟨_, _, c2, hrun, n1.trans n2, h2, ⟨⟨rfl, .inr ⟨⟨w.heap.size, 0, none⟩, n, by rw [chunk_length], by rw [chunk_length]; exact Nat.le_refl n, ?_⟩⟩, .inr (.inl ⟨rfl, some ⟨w.heap.size, 0, none⟩, by rw [chunk_length]⟩)⟩⟩
  have hl : cs'.length = n * eu.size := by rw [hcl.1.length, hvl]
  refine repRow_chunk (hT u eu hu).one n 0 cs' hl fun j x hx => ?_
  obtain ⟨v, hv', hr⟩ := hcl.1.get j x hx
  have hj : j < vs.length := (List.getElem?_eq_some_iff.1 hv').1
  rw [Nat.zero_mul, Nat.zero_add]
  refine ⟨List.all_eq_true.1 hcl.2 x (List.mem_of_getElem? hx), hI j hj, v, ?_, Rep.keeps S2.keeps _ _ hr⟩
  rw [cell_of_row _ w.heap.size j ⟨vs⟩ u (0, 0) (heap_alloc_new w _)]
  simpa using hv'

/-- One that is a local array. -/
theorem after_buildLocal (hT : TyOK P T) (h : St c env a w) {t u n dst : Nat} {eu : TE} (ht : P.underlying t = some (.slice u)) (hu : T u = some eu) (hn : n * eu.size ≤ 16777216) (hs : eu.size ≠ 0) {ps : List (Nat × D)} {qs : List (Nat × Value)} (hp : RepP c env w ps qs) {cs : List D}
    (hb : buildCells (fun i => some (i * eu.size, eu.size)) ((List.replicate n eu.zero.cells).flatten) ps = some cs) (hbx : look dst env.bx = none) (hm : look dst env.mp = none) :
    After P c env { env with bx := (dst, ⟨cs, true, false⟩) :: env.bx } a w (.lsl dst 0 n) (Instr.buildSlice t n ⟨qs⟩) := by
  obtain ⟨vs, hv, hvl, hrun⟩ := run_buildSlice hT ht hu hn hs hp hb
  obtain ⟨h1, h2⟩ := h.newBox true u hbx hm hv
  exact ⟨_, _, { c with ρ := fun s => if s = dst then w.heap.size else c.ρ s }, hrun, ⟨rfl, rfl, rfl⟩, h1, h2.1, n, by simp, Nat.le_refl n⟩

theorem after_makeMap (h : St c env a w) {t dst : Nat} (hb : look dst env.bx = none) (hm : look dst env.mp = none) :
    After P c env { env with mp := (dst, ⟨[], [], false⟩) :: env.mp } a w (.mapr dst) (Instr.makeMap t none) := by
  have hh : ∀ k, k < w.heap.size → (w.alloc (.map #[] 0)).heap[k]? = w.heap[k]? := fun k hk => Below.heap_alloc w _ k hk
  have hne : ∀ s, (look s env.bx).isSome = true ∨ (look s env.mp).isSome = true → s ≠ dst := by
    rintro s hs rfl; rcases hs with hs | hs
    · rw [hb] at hs; cases hs
    · rw [hm] at hs; cases hs
  have hblk : ∀ s, Env.blk { env with mp := (dst, ⟨[], [], false⟩) :: env.mp } s → s = dst ∨ env.blk s := by
    intro s hs
    unfold Env.blk at hs ⊢
    simp only [look_cons] at hs
    by_cases e : dst = s
    · exact .inl e.symm
    · rw [if_neg e] at hs; exact .inr hs
  have S : Step c env w { c with ρ := fun s => if s = dst then w.heap.size else c.ρ s } { env with mp := (dst, ⟨[], [], false⟩) :: env.mp } (w.alloc (.map #[] 0)) := by
    have S1 := Step.allocSt h (.map #[] 0)
    refine .of (S1.keeps) (fun s hs => ⟨hs, by simp [hne s (.inl hs)]⟩) (fun s hs => ⟨?_, by simp [hne s (.inr hs)]⟩) (S1.us) (S1.dd) (S1.ownS)
    simp only [look_cons]; split
    · rfl
    · exact hs
  have hrep : RepT { c with ρ := fun s => if s = dst then w.heap.size else c.ρ s } { env with mp := (dst, ⟨[], [], false⟩) :: env.mp } (w.alloc (.map #[] 0)) (.mapr dst) (.map (some w.heap.size)) := by
    show RepC { c with ρ := fun s => if s = dst then w.heap.size else c.ρ s } { env with mp := (dst, ⟨[], [], false⟩) :: env.mp } (w.alloc (.map #[] 0)) (.mapr dst) _
    exact ⟨by simp [look_cons], by simp⟩
  refine ⟨.map (some w.heap.size), w.alloc (.map #[] 0), { c with ρ := fun s => if s = dst then w.heap.size else c.ρ s }, by simp [Instr.makeMap], ⟨rfl, rfl, rfl⟩, ?_, hrep⟩
  refine ⟨h.nt, h.df, fun t d hd => S.repT (h.tm t d hd), fun t d hd => (h.wt t d hd).step S, ?_, ?_, ?_, ?_, ?_, h.ownInj, ?_, ?_, h.im0.trans S.keeps, h.imNew, h.base.alloc h.base.size _, ⟨h.gh.1, S.fix h.gh.2⟩, h.rows S⟩
  · intro s b hs
    have hlt := h.lt s (.inl (by rw [hs]; rfl))
    exact (h.bx s b hs).step S (by simp [hne s (.inl (by rw [hs]; rfl))]) (hh _ hlt) (fun _ x => x)
  · intro s m hs
    simp only [look_cons] at hs
    split at hs
    · rename_i e'; subst e'; cases hs
      refine ⟨#[], 0, by simp only [if_true]; exact heap_alloc_new w _, by simp [RepL], by simp [RepL], rfl, (fun hf => by cases hf), fun _ o ho => ?_⟩
      have ho : c.I (if dst = dst then w.heap.size else c.ρ dst) o := ho
      rw [if_pos rfl] at ho; exact Nat.lt_irrefl _ (h.im _ _ ho)
    · have hlt := h.lt s (.inr (by rw [hs]; rfl))
      exact (h.mp s m hs).step S (by simp [hne s (.inr (by rw [hs]; rfl))]) (hh _ hlt) (fun _ x => x)
  · intro s s' hs hs' e'
    rcases hblk s hs with rfl | h1 <;> rcases hblk s' hs' with rfl | h2
    · rfl
    · simp only [if_true, if_neg (hne s' h2)] at e'; have := h.lt s' h2; omega
    · simp only [if_true, if_neg (hne s h1)] at e'; have := h.lt s h1; omega
    · simp only [if_neg (hne s h1), if_neg (hne s' h2)] at e'; exact h.inj s s' h1 h2 e'
  · intro s hs
    rcases hblk s hs with rfl | h1
    · simp only [if_true]; exact h.base.size
    · simp only [if_neg (hne s h1)]; exact h.above s h1
  · intro s hs
    rcases hblk s hs with rfl | h1
    · simp
    · simp only [if_neg (hne s h1)]; exact Nat.lt_trans (h.lt s h1) (by simp)
  · intro st g hl hg
    obtain ⟨h1, h2, h3⟩ := h.ownAbove st g hl hg
    refine ⟨h1, Nat.lt_trans h2 (by simp), fun s hs => ?_⟩
    rcases hblk s hs with rfl | h1
    · simp only [if_true]; omega
    · simp only [if_neg (hne s h1)]; exact h3 s h1
  · intro b o hi; exact Nat.lt_trans (h.im b o hi) (by simp)

theorem after_iface (h : St c env a w) {t : Nat} {d : TypeDesc} (ht : P.underlying t = some d) (hd : ∀ ms, d ≠ .interface ms) {x x' : D} {v : Value} (hx : RepT c env w x v) (hc : clo env.mp x = some x') {mp : List (Nat × MapC)} (hf : frzM env.mp (cloM x) = some mp) :
    After P c env { env with mp } a w (.ifc t x') (Instr.makeInterface t v) := by
  obtain ⟨c1, n1, h1, S1, hm1⟩ := h.frzM hf
  have hxv : RepV c env w x v := by
    cases x <;> first | exact hx | (simp only [clo] at hc; cases hc)
  obtain ⟨g1, g2⟩ := clo_val h1 (S1.repV hxv) hc (fun s hs m hl => by
    obtain ⟨m', g1, g2, g3, g4⟩ := hm1 s m hl
    exact ⟨m', g1, g2, g3, g4 (.inr hs)⟩)
  refine ⟨.iface t v, w, c1, ?_, n1, h1, ?_⟩
  · simp only [Instr.makeInterface, Sem.run_bind, run_underlying ht, Result.andThen_ok]
    cases d <;> first | rfl | exact absurd rfl (hd _)
  · show RepC c1 { env with mp } w (.ifc t x') _
    simp only [RepC, Rep]
    exact ⟨v, rfl, g1⟩
end

end Go.Proofs.YtnooelecdbbfkaaGreatDoor.Fw

/- Appending. -/
namespace Go.Proofs.YtnooelecdbbfkaaGreatDoor.Fw
open Go Go.RowKit
set_option linter.unusedSectionVars false
variable [Inhabited GLT]

theorem rep_oneCell {I : Im} {w : World} {d : D} {v : Value} (hc : d.isCell = true) (h : Rep I w d v) : v.oneCell' = true :=
  repC_one (c := ⟨fun _ => 0, fun _ => none, I, .plain w, I, []⟩) (env := ⟨0, [], [], [], [], [], [], none, []⟩) (w := w) (rep_repC hc h)

theorem repCs_move {I I' : Im} {w w' : World} (K : Keeps I I' w w') : ∀ {cs : List D} {a b : Addr} {j j' : Nat}, RepCs I w cs a j → (∀ i u, i < cs.length → w.cell? (a.add (j + i)) = some u → w'.cell? (b.add (j' + i)) = some u ∧ I' (b.add (j' + i)).block (b.add (j' + i)).off) → RepCs I' w' cs b j'
  | [], _, _, _, _, _, _ => by simp only [RepCs]
  | d :: ds, a, b, j, j', h, hm => by
    simp only [RepCs] at h ⊢
    obtain ⟨⟨hc, hi, u, hu, hr⟩, h2⟩ := h
    have h0 := hm 0 u (by simp) hu
    refine ⟨⟨hc, h0.2, u, h0.1, Rep.keeps K d u hr⟩, repCs_move K h2 fun i u hi hu => ?_⟩
    have := hm (i + 1) u (by simp; omega) (by rw [show j + (i + 1) = j + 1 + i from by omega]; exact hu)
    rw [show j' + 1 + i = j' + (i + 1) from by omega]; exact this

theorem repRow_move {I I' : Im} {w w' : World} (K : Keeps I I' w w') {es : Nat} : ∀ {xs : List D} {a b : Addr} {i i' : Nat}, RepRow I w es xs a i → (∀ j u, j < xs.length * es → w.cell? (a.add (i * es + j)) = some u → w'.cell? (b.add (i' * es + j)) = some u ∧ I' (b.add (i' * es + j)).block (b.add (i' * es + j)).off) → RepRow I' w' es xs b i'
  | [], _, _, _, _, _, _ => by simp only [RepRow]
  | d :: ds, a, b, i, i', h, hm => by
    rw [repRow_cons] at h ⊢
    obtain ⟨⟨hl, hat⟩, h2⟩ := h
    have hlen : (d :: ds).length * es = ds.length * es + es := by rw [List.length_cons, Nat.add_mul]; omega
    have hi1 : (i + 1) * es = i * es + es := by rw [Nat.add_mul]; omega
    have hi2 : (i' + 1) * es = i' * es + es := by rw [Nat.add_mul]; omega
    refine ⟨⟨hl, ?_⟩, repRow_move K h2 fun j u hj hu => ?_⟩
    · cases d with
      | agg cs =>
        simp only [D.cells] at hl
        refine repCs_move K hat fun k u hk hu => ?_
        rw [add_add', Nat.zero_add] at hu ⊢
        exact hm k u (by omega) hu
      | _ =>
        obtain ⟨hc, hi, u, hu, hr⟩ := hat
        simp only [D.cells, List.length_singleton] at hl
        have h0 := hm 0 u (by omega) hu
        exact ⟨hc, h0.2, u, h0.1, Rep.keeps K _ u hr⟩
    · have := hm (es + j) u (by omega) (by rw [show i * es + (es + j) = (i + 1) * es + j from by omega]; exact hu)
      rw [show (i' + 1) * es + j = i' * es + (es + j) from by omega]; exact this

theorem repRow_append {I : Im} {w : World} {es : Nat} : ∀ {xs ys : List D} {a : Addr} {i : Nat}, RepRow I w es xs a i → RepRow I w es ys a (i + xs.length) → RepRow I w es (xs ++ ys) a i
  | [], _, _, _, _, h => h
  | d :: ds, ys, a, i, h, k => by
    rw [repRow_cons] at h
    rw [List.cons_append, repRow_cons]
    exact ⟨h.1, repRow_append h.2 (by rw [show i + 1 + ds.length = i + (d :: ds).length from by simp; omega]; exact k)⟩

theorem repCs_cell {I : Im} {w : World} : ∀ {cs : List D} {a : Addr} {j : Nat}, RepCs I w cs a j → ∀ i, i < cs.length → ∃ u, w.cell? (a.add (j + i)) = some u ∧ u.oneCell' = true ∧ I (a.add (j + i)).block (a.add (j + i)).off
  | [], _, _, _, i, h => by simp at h
  | d :: ds, a, j, h, 0, _ => by
    simp only [RepCs] at h
    obtain ⟨⟨hc, hi, u, hu, hr⟩, _⟩ := h
    exact ⟨u, hu, rep_oneCell hc hr, hi⟩
  | d :: ds, a, j, h, i + 1, hi => by
    simp only [RepCs] at h
    have := repCs_cell h.2 i (by simpa using hi)
    rw [show j + (i + 1) = j + 1 + i from by omega]; exact this

theorem repRow_cell {I : Im} {w : World} {es : Nat} : ∀ {xs : List D} {a : Addr} {i : Nat}, RepRow I w es xs a i → ∀ j, j < xs.length * es → ∃ u, w.cell? (a.add (i * es + j)) = some u ∧ u.oneCell' = true ∧ I (a.add (i * es + j)).block (a.add (i * es + j)).off
  | [], _, _, _, j, h => by simp at h
  | d :: ds, a, i, h, j, hj => by
    rw [repRow_cons] at h
    obtain ⟨⟨hl, hat⟩, h2⟩ := h
    have hlen : (d :: ds).length * es = ds.length * es + es := by rw [List.length_cons, Nat.add_mul]; omega
    have hi1 : (i + 1) * es = i * es + es := by rw [Nat.add_mul]; omega
    by_cases hje : j < es
    · cases d with
      | agg cs =>
        simp only [D.cells] at hl
        have := repCs_cell hat j (by omega)
        rw [add_add', Nat.zero_add] at this
        exact this
      | _ =>
        obtain ⟨hc, hi, u, hu, hr⟩ := hat
        simp only [D.cells, List.length_singleton] at hl
        obtain rfl : j = 0 := by omega
        exact ⟨u, hu, rep_oneCell hc hr, hi⟩
    · have := repRow_cell h2 (j - es) (by omega)
      rw [show (i + 1) * es + (j - es) = i * es + j from by omega] at this
      exact this

section
variable {P : Program} {w : World}

theorem run_append_fw {t ty e : TypeId} {i : TypeInfo} {z : Value} (ht : P.underlying t = some (.slice e)) (hi : P.info? e = some i) (hz : i.zero = some z) (hzs : z.cells.size = i.size)
    {v : Value} {n base : Nat} {xs : List Value} (hown : w.ownsRow base e i.size v n xs) {a : Addr} {m k : Nat} {news : List Value} (hl : news.length = m * i.size) (hnews : ∀ j u, news[j]? = some u → w.cell? (a.add j) = some u) (h1 : ∀ u ∈ news, u.oneCell' = true)
    (hm : 0 < m) (h63 : n + m ≤ maxLen) (hbytes : (n + m) * i.bytes ≤ 140737488355328) (hbase : base ≤ w.heap.size) :
    ∃ g cap cur w', (Builtin.append_ #[t, t] ty #[v, .slice (some a) m k]).run P w = .ok (.slice (some ⟨g, 0, none⟩) (n + m) cap) w' ∧ w'.heap[g]? = some (.cells cur e (0, 0)) ∧ n + m ≤ cap ∧ cap ≤ maxLen ∧ cur.size = cap * i.size ∧ cur.toList.take ((n + m) * i.size) = xs ++ news ∧
      Below base w w' ∧ base ≤ g ∧ (v.ownBlock = some g ∨ g = w.heap.size) ∧ (∀ k, k < w.heap.size → v.ownBlock ≠ some k ∨ g = w.heap.size → w'.heap[k]? = w.heap[k]?) := by
  have hlen : (xs ++ news).length = (n + m) * i.size := by rw [List.length_append, hown.1, hl, Nat.add_mul]
  have hsmall : n + m ≤ 9223372036854775807 := by simp only [maxLen] at h63; omega
  have grown : ∀ (old : Nat), (Builtin.append_ #[t, t] ty #[v, .slice (some a) m k]).run P w = .ok (.slice (some ⟨w.heap.size, 0, none⟩) (n + m) (grownCap w (n + m) old e)) (w.drew.alloc (.cells ((xs ++ news).toArray ++ Builtin.zeroCells z.cells (grownCap w (n + m) old e - (n + m))) e)) →
    ∃ g cap cur w', (Builtin.append_ #[t, t] ty #[v, .slice (some a) m k]).run P w = .ok (.slice (some ⟨g, 0, none⟩) (n + m) cap) w' ∧ w'.heap[g]? = some (.cells cur e (0, 0)) ∧ n + m ≤ cap ∧ cap ≤ maxLen ∧ cur.size = cap * i.size ∧ cur.toList.take ((n + m) * i.size) = xs ++ news ∧
      Below base w w' ∧ base ≤ g ∧ (v.ownBlock = some g ∨ g = w.heap.size) ∧ (∀ k, k < w.heap.size → v.ownBlock ≠ some k ∨ g = w.heap.size → w'.heap[k]? = w.heap[k]?) := by
    intro old hr
    have hge := grownCap_ge w (n + m) old e
    refine ⟨_, _, _, _, hr, heap_alloc_new w.drew _, hge, grownCap_le_maxLen w (n + m) old e h63, ?_, ?_, ?_, hbase, .inr rfl, fun k hk _ => Below.heap_alloc w.drew _ k hk⟩
    · rw [Array.size_append, List.size_toArray, size_zeroCells, hzs, hlen, ← Nat.add_mul]
      congr 1; omega
    · rw [Array.toList_append, ← hlen]
      exact List.take_left
    · exact ((Below.refl base w).drew).alloc hbase _
  rcases hown.2 with ⟨rfl, rfl⟩ | ⟨g, cap, cur, rfl, hbg, hg, hnc, hcm, hcs, htake⟩
  · have hx : xs = [] := List.eq_nil_of_length_eq_zero (by simpa using hown.1)
    subst hx
    refine grown 0 ?_
    have hr := run_append_nil (P := P) w t ty e i z ht hi hz a m k news hl hnews hm (by omega) (by simp only [Nat.zero_add] at hbytes; omega)
    simpa using hr
  · by_cases hroom : n + m ≤ cap
    · have hfit : n * i.size + news.length ≤ cur.size := by rw [hl, hcs, ← Nat.add_mul]; exact Nat.mul_le_mul_right _ hroom
      have hr := run_append_room (P := P) w t ty e i ht hi g n cap cur hg a m k news hl hnews h1 hroom hfit
      refine ⟨_, _, _, _, hr, setRow_heap w g cur _ e _ hg, hroom, hcm, ?_, ?_, ?_, hbg, .inl rfl, ?_⟩
      · simp only [List.size_toArray, List.length_append, List.length_take, List.length_drop, Array.length_toList]
        omega
      · rw [htake, ← hlen]
        exact List.take_left
      · exact ⟨rfl, rfl, rfl, by simp, fun k hk => setRow_other w g k _ (by omega)⟩
      · intro k hk hne
        have hlt := (Array.getElem?_eq_some_iff.1 hg).1
        refine setRow_other w g k _ fun e' => ?_
        subst e'
        rcases hne with hne | hne
        · exact hne rfl
        · omega
    · have holds : ∀ j u, xs[j]? = some u → w.cell? ((⟨g, 0, none⟩ : Addr).add j) = some u := hown.cells (g := g) rfl
      refine grown cap ?_
      have hr := run_append_grow (P := P) w t ty e i z ht hi hz ⟨g, 0, none⟩ n cap xs hown.1 holds a m k news hl hnews (by omega) (by omega) (growslice_fits (by omega) hbytes)
      simpa using hr

/-- Behind a row that has no room: always a new block. -/
theorem run_append_full {t ty e : TypeId} {i : TypeInfo} {z : Value} (ht : P.underlying t = some (.slice e)) (hi : P.info? e = some i) (hz : i.zero = some z) (hzs : z.cells.size = i.size)
    {v : Value} {n : Nat} {xs : List Value} (hlx : xs.length = n * i.size) (hfull : (v = .slice none 0 0 ∧ n = 0) ∨ ∃ a0, v = .slice (some a0) n n ∧ ∀ j u, xs[j]? = some u → w.cell? (a0.add j) = some u)
    {a : Addr} {m k : Nat} {news : List Value} (hl : news.length = m * i.size) (hnews : ∀ j u, news[j]? = some u → w.cell? (a.add j) = some u)
    (hm : 0 < m) (h63 : n + m ≤ maxLen) (hbytes : (n + m) * i.bytes ≤ 140737488355328) :
    ∃ cap cur w', (Builtin.append_ #[t, t] ty #[v, .slice (some a) m k]).run P w = .ok (.slice (some ⟨w.heap.size, 0, none⟩) (n + m) cap) w' ∧ w'.heap[w.heap.size]? = some (.cells cur e (0, 0)) ∧ n + m ≤ cap ∧ cap ≤ maxLen ∧ cur.size = cap * i.size ∧ cur.toList.take ((n + m) * i.size) = xs ++ news ∧
      Below w.heap.size w w' := by
  have hlen : (xs ++ news).length = (n + m) * i.size := by rw [List.length_append, hlx, hl, Nat.add_mul]
  have hsmall : n + m ≤ 9223372036854775807 := by simp only [maxLen] at h63; omega
  have grown : ∀ (old : Nat), (Builtin.append_ #[t, t] ty #[v, .slice (some a) m k]).run P w = .ok (.slice (some ⟨w.heap.size, 0, none⟩) (n + m) (grownCap w (n + m) old e)) (w.drew.alloc (.cells ((xs ++ news).toArray ++ Builtin.zeroCells z.cells (grownCap w (n + m) old e - (n + m))) e)) →
    ∃ cap cur w', (Builtin.append_ #[t, t] ty #[v, .slice (some a) m k]).run P w = .ok (.slice (some ⟨w.heap.size, 0, none⟩) (n + m) cap) w' ∧ w'.heap[w.heap.size]? = some (.cells cur e (0, 0)) ∧ n + m ≤ cap ∧ cap ≤ maxLen ∧ cur.size = cap * i.size ∧ cur.toList.take ((n + m) * i.size) = xs ++ news ∧
      Below w.heap.size w w' := by
    intro old hr
    have hge := grownCap_ge w (n + m) old e
    refine ⟨_, _, _, hr, heap_alloc_new w.drew _, hge, grownCap_le_maxLen w (n + m) old e h63, ?_, ?_, ?_⟩
    · rw [Array.size_append, List.size_toArray, size_zeroCells, hzs, hlen, ← Nat.add_mul]
      congr 1; omega
    · rw [Array.toList_append, ← hlen]
      exact List.take_left
    · exact ((Below.refl _ w).drew).alloc (Nat.le_refl _) _
  rcases hfull with ⟨rfl, rfl⟩ | ⟨a0, rfl, holds⟩
  · have hx : xs = [] := List.eq_nil_of_length_eq_zero (by simpa using hlx)
    subst hx
    refine grown 0 ?_
    have hr := run_append_nil (P := P) w t ty e i z ht hi hz a m k news hl hnews hm (by omega) (by simp only [Nat.zero_add] at hbytes; omega)
    simpa using hr
  · refine grown n ?_
    have hr := run_append_grow (P := P) w t ty e i z ht hi hz a0 n n xs hlx holds a m k news hl hnews (by omega) (by omega) (growslice_fits (by omega) hbytes)
    simpa using hr

theorem run_append_none {t ty e : TypeId} {i : TypeInfo} (ht : P.underlying t = some (.slice e)) (hi : P.info? e = some i) {b : Option Addr} {n cap : Nat} (hn : n ≤ cap) {y : Value} (hy : y = .slice none 0 0 ∨ ∃ a k, y = .slice (some a) 0 k) :
    (Builtin.append_ #[t, t] ty #[.slice b n cap, y]).run P w = .ok (.slice b n cap) w := by
  rcases hy with rfl | ⟨a, k, rfl⟩ <;> cases b <;> simp [Builtin.append_, run_underlying ht, sizeOf, typeInfo, hi, Builtin.lenOf, Builtin.firstCells, hn, loadCells, loadCellsFrom, storeCells]
end

end Go.Proofs.YtnooelecdbbfkaaGreatDoor.Fw

/- Appending, as the state sees it. -/
namespace Go.Proofs.YtnooelecdbbfkaaGreatDoor.Fw
open Go Go.RowKit
set_option linter.unusedSectionVars false
variable [Inhabited GLT]

section
variable {P : Program} {T : Ty} {c : Ctx} {env : Env} {a : Act} {w : World}

theorem dd_stamp {s' u st : Nat} : (env.stamp s' u st).dd = if st = 1 then env.dd else st :: env.dd := by
  show (bif Nat.beq st 1 then env.dd else st :: env.dd) = _
  by_cases h : st = 1
  · rw [if_pos h, nbeq.2 h]; rfl
  · rw [if_neg h, nbeq_f.2 h]; rfl
theorem us_stamp {s' u st : Nat} : (env.stamp s' u st).us = (s', u) :: env.us := rfl

theorem live_stamp {s' u st st0 : Nat} (h : (env.stamp s' u st).live st0) : st0 = s' ∨ (env.live st0 ∧ (st ≠ 1 → st0 ≠ st)) := by
  obtain ⟨h1, h2⟩ := h
  simp only [us_stamp, look_cons] at h1
  by_cases e : s' = st0
  · exact .inl e.symm
  · rw [if_neg e] at h1
    refine .inr ⟨⟨h1, fun hd => h2 ?_⟩, fun hst e' => h2 ?_⟩
    · rw [dd_stamp]; split
      · exact hd
      · exact List.mem_cons_of_mem _ hd
    · subst e'; simp [dd_stamp, hst]

def Ctx.own (c : Ctx) (s' : Nat) (g' : Option Nat) (n' : Nat) : Ctx := { c with σ := fun s => if s = s' then g' else c.σ s, I := fun b o => c.I b o ∨ (g' = some b ∧ o < n') }

def OwnCase (c : Ctx) (w : World) (u size st : Nat) (xs : List D) (v : Value) (cells : List Value) : Prop :=
  (v = .slice none 0 0 ∧ xs = [] ∧ (st = 1 ∨ c.σ st = none)) ∨ ∃ g cap, v = .slice (some ⟨g, 0, none⟩) xs.length cap ∧ xs.length ≤ cap ∧ st ≠ 1 ∧ c.σ st = some g ∧ RepRow c.I w size xs ⟨g, 0, none⟩ 0 ∧ ∃ cur, w.heap[g]? = some (.cells cur u (0, 0)) ∧ cur.toList.take (xs.length * size) = cells ∧ cur.size = cap * size ∧ cap ≤ maxLen ∧ (∀ o, xs.length * size ≤ o → ¬ c.I g o)

theorem list_take_get {α : Type} {l l' : List α} {n m : Nat} {xs ys : List α} (h : l.take n = xs) (h' : l'.take m = xs ++ ys) (hn : xs.length = n) (o : Nat) (ho : o < n) : l'[o]? = l[o]? := by
  have hm : n ≤ m := by
    have h2 := congrArg List.length h'
    simp only [List.length_take, List.length_append] at h2; omega
  have e1 : l[o]? = xs[o]? := by rw [← h, List.getElem?_take, if_pos ho]
  have e2 : l'[o]? = (xs ++ ys)[o]? := by rw [← h', List.getElem?_take, if_pos (by omega)]
  rw [e1, e2, List.getElem?_append_left (by omega)]

/-- The state once a row is stamped anew. -/
theorem own_step (h : St c env a w) {u st s' : Nat} (hst : st = 1 ∨ (2 ≤ st ∧ look st env.us = some u ∧ st ∉ env.dd)) (hs' : look s' env.us = none) (hsd : s' ∉ env.dd ∧ s' < bigS) :
    ∀ (g' : Option Nat) (n' : Nat) (w' : World), (∀ g, g' = some g → c.w0.off g ∧ g < w'.heap.size ∧ (g = w.heap.size ∨ (g < w.heap.size ∧ c.σ st = some g ∧ st ≠ 1))) → w.heap.size ≤ w'.heap.size →
      (∀ k, k < w.heap.size → g' ≠ some k → w'.heap[k]? = w.heap[k]?) → (∀ g, g' = some g → g < w.heap.size → ∀ o x, c.I g o → w.cell? ⟨g, o, none⟩ = some x → w'.cell? ⟨g, o, none⟩ = some x) → KeptF c.w0 w w' →
      (∀ g, g' = some g → g < w.heap.size → ∃ cs e fr, w.heap[g]? = some (.cells cs e fr)) →
      St (c.own s' g' n') (env.stamp s' u st) a w' ∧
      Step c env w (c.own s' g' n') (env.stamp s' u st) w' := by
  intro g' n' w' hg hsize hblk hcell hbel hkind
  have hne : ∀ st0, env.live st0 → st0 ≠ s' := fun st0 hl e => by have := hl.1; rw [e, hs'] at this; cases this
  have hg0 : ∀ s, env.blk s → g' ≠ some (c.ρ s) := fun s hs e => by
    obtain ⟨_, _, h3⟩ := hg _ e
    have hlt := h.lt s hs
    rcases h3 with h3 | ⟨h3, h4, h5⟩
    · omega
    · rcases hst with h6 | ⟨_, h7, h8⟩
      · exact h5 h6
      · exact (h.ownAbove st _ ⟨by rw [h7]; rfl, h8⟩ h4).2.2 s hs rfl
  have hstO : ∀ st0 g0, env.live st0 → (st ≠ 1 → st0 ≠ st) → c.σ st0 = some g0 → g' ≠ some g0 := fun st0 g0 hl hd hσ e => by
    obtain ⟨_, _, h3⟩ := hg _ e
    have hlt := (h.ownAbove st0 g0 hl hσ).2.1
    rcases h3 with h3 | ⟨h3, h4, h5⟩
    · omega
    · rcases hst with h6 | ⟨_, h7, h8⟩
      · exact h5 h6
      · exact hd h5 (h.ownInj st0 st g0 hl ⟨by rw [h7]; rfl, h8⟩ hσ h4)
  have hK : Keeps c.I (fun b o => c.I b o ∨ (g' = some b ∧ o < n')) w w' := by
    refine ⟨fun _ _ h => .inl h, fun ad x hi hx => ?_, fun r es k hi hr => ?_⟩
    · by_cases e : g' = some ad.block
      · have hlt := h.im _ _ hi
        have hsp : ad = ⟨ad.block, ad.off, none⟩ := by
          obtain ⟨b, o, sp⟩ := ad
          cases sp with
          | none => rfl
          | some k => simp only [World.cell?] at hx; split at hx <;> simp at hx
        rw [hsp] at hx ⊢
        exact hcell _ e hlt _ _ hi hx
      · exact (World.cell?_of_block (hblk _ (h.im _ _ hi) e)).trans hx
    · by_cases e : g' = some r
      · obtain ⟨cs, e1, fr, h1⟩ := hkind r e (h.im _ _ hi)
        rw [hr] at h1; cases h1
      · exact (hblk _ (h.im _ _ hi) e).trans hr
  have S : Step c env w (c.own s' g' n') (env.stamp s' u st) w' := by
    refine .of (hK) (fun _ h => ⟨h, rfl⟩) (fun _ h => ⟨h, rfl⟩) (fun s0 u0 hl => ?_) (fun s0 hl => ?_) (fun st0 hl hn => ⟨if_neg (hne st0 hl), fun g0 hσ => ?_⟩) (fun s0 hb hl => (live_stamp hl).elim (fun e => absurd (e ▸ hb) (Nat.not_le.2 hsd.2)) (fun h => h.1))
    · simp only [us_stamp, look_cons]; rw [if_neg]
      · exact hl
      · rintro rfl; rw [hs'] at hl; cases hl
    · rw [dd_stamp]; split
      · exact hl
      · exact List.mem_cons_of_mem _ hl
    · have hd : st ≠ 1 → st0 ≠ st := fun h1 e => hn (by subst e; simp [dd_stamp, h1])
      have := hstO st0 g0 hl hd hσ
      exact ⟨hblk _ (h.ownAbove st0 g0 hl hσ).2.1 this, fun o ho => ho.resolve_right fun e => this e.1⟩
  refine ⟨⟨h.nt, h.df, fun t d hd => S.repT (h.tm t d hd), fun t d hd => (h.wt t d hd).step S, fun s b hs => ?_, fun s m hs => ?_, h.inj, h.above, fun s hs => Nat.lt_of_lt_of_le (h.lt s hs) hsize, ?_, ?_, ?_, h.im0.trans S.keeps, ?_, h.base.trans hbel, ⟨h.gh.1, S.fix h.gh.2⟩, h.rows S⟩, S⟩
  · have hb : env.blk s := .inl (by rw [show look s env.bx = some b from hs]; rfl)
    exact (h.bx s b hs).step S rfl (hblk _ (h.lt s hb) (hg0 s hb)) (fun o ho => ho.resolve_right fun e => hg0 s hb e.1)
  · have hb : env.blk s := .inr (by rw [show look s env.mp = some m from hs]; rfl)
    exact (h.mp s m hs).step S rfl (hblk _ (h.lt s hb) (hg0 s hb)) (fun o ho => ho.resolve_right fun e => hg0 s hb e.1)
  · intro s1 s2 g hl1 hl2 h1 h2
    rcases live_stamp hl1 with e1 | ⟨kl1, hd1⟩ <;> rcases live_stamp hl2 with e2 | ⟨kl2, hd2⟩
    · exact e1.trans e2.symm
    · simp only [Ctx.own, if_pos e1, if_neg (hne s2 kl2)] at h1 h2
      exact absurd h1 (hstO s2 g kl2 hd2 h2)
    · simp only [Ctx.own, if_pos e2, if_neg (hne s1 kl1)] at h1 h2
      exact absurd h2 (hstO s1 g kl1 hd1 h1)
    · simp only [Ctx.own, if_neg (hne s1 kl1), if_neg (hne s2 kl2)] at h1 h2
      exact h.ownInj s1 s2 g kl1 kl2 h1 h2
  · intro s1 g hl1 h1
    rcases live_stamp hl1 with e1 | ⟨kl1, hd1⟩
    · simp only [Ctx.own, if_pos e1] at h1
      obtain ⟨k1, k2, _⟩ := hg g h1
      exact ⟨k1, k2, fun s hs e => hg0 s hs (h1.trans (congrArg some e.symm))⟩
    · simp only [Ctx.own, if_neg (hne s1 kl1)] at h1
      obtain ⟨k1, k2, k3⟩ := h.ownAbove s1 g kl1 h1
      exact ⟨k1, Nat.lt_of_lt_of_le k2 hsize, k3⟩
  · rintro b o (hi | ⟨e, _⟩)
    · exact Nat.lt_of_lt_of_le (h.im b o hi) hsize
    · exact (hg b e).2.1
  · rintro b o (hi | ⟨e, _⟩)
    · exact h.imNew b o hi
    · exact .inr (hg b e).1

theorem cells_at {I : Im} {w : World} {es : Nat} {xs : List D} {a : Addr} (h : RepRow I w es xs a 0) : ∃ cells : List Value, cells.length = xs.length * es ∧ (∀ j x, cells[j]? = some x → w.cell? (a.add j) = some x) := by
  have hc := fun j hj => repRow_cell h j hj
  simp only [Nat.zero_mul, Nat.zero_add] at hc
  refine ⟨(List.range (xs.length * es)).map fun j => (w.cell? (a.add j)).getD undef, by simp, fun j x hj => ?_⟩
  rw [List.getElem?_map] at hj
  cases hr : (List.range (xs.length * es))[j]? with
  | none => rw [hr] at hj; cases hj
  | some j' =>
    obtain ⟨hl, e⟩ := List.getElem?_eq_some_iff.1 hr
    rw [List.getElem_range] at e; subst e
    rw [hr] at hj
    simp only [List.length_range] at hl
    obtain ⟨x', h1, _⟩ := hc j hl
    simp only [Option.map_some, h1, Option.getD_some, Option.some.injEq] at hj
    rw [h1, hj]

/-- Behind a row without room. -/
theorem after_full (hT : TyOK P T) (h : St c env a w) {t u : Nat} {eu : TE} (ht : P.underlying t = some (.slice u)) (hu : T u = some eu) {st es es2 st2 s' : Nat} {xs ys : List D} {v v2 : Value}
    (hx1 : (v = .slice none 0 0 ∧ xs = []) ∨ ∃ (b : Addr) (cap : Nat), v = .slice (some b) xs.length cap ∧ xs.length ≤ cap ∧ RepRow c.I w es xs b 0) (hv : ∃ b, v = .slice b xs.length xs.length)
    (hy : RepT c env w (.sl st2 es2 ys) v2) (hst : st = 1 ∨ (2 ≤ st ∧ look st env.us = some u ∧ st ∉ env.dd)) (hes : es = eu.size ∨ xs = []) (hes2 : es2 = eu.size ∨ ys = [])
    (hum : u ≠ rowMark) (hs2 : 2 ≤ s') (hs' : look s' env.us = none) (hsd : s' ∉ env.dd ∧ s' < bigS) (hside : (xs.length + ys.length) * eu.bytes ≤ 140737488355328 ∧ xs.length + ys.length ≤ 9223372036854775807) (ty : TypeId) :
    After P c env (env.stamp s' u st) a w (.sl s' eu.size (xs ++ ys)) (Builtin.append_ #[t, t] ty #[v, v2]) := by
  obtain ⟨i, z, hi, hisz, hib, hz, hzc, _⟩ := (hT u eu hu).info
  obtain ⟨hy1, _⟩ := repT_sl hy
  have hstep := own_step h (u := u) hst hs' hsd
  have hlook : look s' (env.stamp s' u st).us = some u := by simp [us_stamp, look_cons]
  have hrow : (v = .slice none 0 0 ∧ xs = []) ∨ ∃ (b : Addr), v = .slice (some b) xs.length xs.length ∧ RepRow c.I w eu.size xs b 0 := by
    rcases hx1 with h | ⟨b, cap, rfl, hcap, hr⟩
    · exact .inl h
    · obtain ⟨b', hb⟩ := hv
      cases hb
      refine .inr ⟨b, rfl, ?_⟩
      rcases hes with rfl | rfl
      · exact hr
      · simp only [RepRow]
  by_cases hm : ys.length = 0
  · have hys : ys = [] := List.eq_nil_of_length_eq_zero hm
    subst hys
    rw [List.append_nil]
    have hy0 : v2 = .slice none 0 0 ∨ ∃ a k, v2 = .slice (some a) 0 k := hy1.imp (fun h => h.1) fun ⟨b, cap, h, _⟩ => ⟨b, cap, h⟩
    obtain ⟨h1, S⟩ := hstep none 0 w (fun _ e => by cases e) (Nat.le_refl _) (fun _ _ _ => rfl) (fun _ e => by cases e) ⟨rfl, rfl, rfl, Nat.le_refl _, fun _ _ => rfl⟩ (fun _ e => by cases e)
    obtain ⟨b, rfl⟩ := hv
    refine ⟨_, _, c.own s' none 0, run_append_none ht hi (Nat.le_refl _) hy0, ⟨rfl, rfl, rfl⟩, h1, ?_⟩
    simp only [RepT, RepV]
    simp only [RepC, Rep]
    refine ⟨⟨trivial, ?_⟩, .inr (.inr ⟨hs2, u, hlook, hum, .inr ?_⟩)⟩
    · rcases hrow with ⟨e, rfl⟩ | ⟨b', e, hr⟩
      · exact .inl ⟨e, rfl⟩
      · exact .inr ⟨b', _, e, Nat.le_refl _, RepRow.keeps S.keeps _ _ _ _ hr⟩
    · simp [Ctx.own]
  · obtain ⟨b2, cap2, rfl, _, hrow2⟩ : ∃ (b : Addr) (cap : Nat), v2 = .slice (some b) ys.length cap ∧ ys.length ≤ cap ∧ RepRow c.I w es2 ys b 0 := hy1.resolve_left fun h => hm (by rw [h.2]; rfl)
    have he2 : es2 = eu.size := hes2.resolve_right fun e => hm (by rw [e]; rfl)
    subst he2
    obtain ⟨news, hnl, hnews⟩ := cells_at hrow2
    obtain ⟨cells, hcl, hful, hold⟩ : ∃ cells : List Value, cells.length = xs.length * i.size ∧ ((v = .slice none 0 0 ∧ xs.length = 0) ∨ ∃ a0, v = .slice (some a0) xs.length xs.length ∧ ∀ j u, cells[j]? = some u → w.cell? (a0.add j) = some u) ∧ (∀ b : Addr, v = .slice (some b) xs.length xs.length → RepRow c.I w eu.size xs b 0 ∧ ∀ j u, cells[j]? = some u → w.cell? (b.add j) = some u) := by
      rcases hrow with ⟨rfl, rfl⟩ | ⟨b, rfl, hr⟩
      · exact ⟨[], by simp, .inl ⟨rfl, rfl⟩, fun b e => by cases e⟩
      · obtain ⟨cells, h1, h2⟩ := cells_at hr
        exact ⟨cells, by rw [h1, hisz], .inr ⟨b, rfl, h2⟩, fun b' e => by cases e; exact ⟨hr, h2⟩⟩
    obtain ⟨cap, cur, w', hrun, hg, hcap, hcm, hcs, htake, hbel⟩ := run_append_full (ty := ty) ht hi hz (hzc.trans hisz.symm |> fun e => by rw [e]) hcl hful (k := cap2) (by rw [hnl, hisz]) hnews (by omega) (by simp only [maxLen]; omega) (by rw [hib]; exact hside.1)
    have hgl := (Array.getElem?_eq_some_iff.1 hg).1
    have hsize : w.heap.size ≤ w'.heap.size := hbel.size
    have hkept : KeptF c.w0 w w' := ⟨hbel.os, hbel.tape, hbel.output, hbel.size, fun k hk => hbel.block k (h.base.below_of hk)⟩
    obtain ⟨h1, S⟩ := hstep (some w.heap.size) ((xs.length + ys.length) * eu.size) w' (fun g1 e => by cases e; exact ⟨h.base.size, hgl, .inl rfl⟩) hsize (fun k hk hne => hbel.block k hk) (fun g1 e hlt => by cases e; omega) hkept (fun g1 e hlt => by cases e; omega)
    refine ⟨_, _, c.own s' (some w.heap.size) ((xs.length + ys.length) * eu.size), hrun, ⟨rfl, rfl, rfl⟩, h1, ?_⟩
    simp only [RepT, RepV]
    simp only [RepC, Rep, List.length_append]
    have hmul : (xs.length + ys.length) * eu.size = xs.length * eu.size + ys.length * eu.size := Nat.add_mul _ _ _
    have hall : ∀ j, cur.toList.take ((xs.length + ys.length) * i.size) = cells ++ news → j < (xs.length + ys.length) * eu.size → cur[j]? = (cells ++ news)[j]? := fun j e hj => by
      rw [← e, List.getElem?_take, if_pos (by rw [hisz]; exact hj), Array.getElem?_toList]
    refine ⟨⟨trivial, .inr ⟨_, _, rfl, hcap, repRow_append ?_ ?_⟩⟩, .inr (.inr ⟨hs2, u, hlook, hum, .inr ?_⟩)⟩
    · rcases hrow with ⟨rfl, rfl⟩ | ⟨b, rfl, hr⟩
      · simp only [RepRow]
      · refine repRow_move S.keeps hr fun j x hj hx => ?_
        simp only [Nat.zero_mul, Nat.zero_add, addr_add_mk] at hx ⊢
        refine ⟨?_, .inr ⟨rfl, by omega⟩⟩
        rw [cell_of_row w' _ j cur u (0, 0) hg, hall j htake (by omega)]
        rw [List.getElem?_append_left (by rw [hcl, hisz]; exact hj)]
        have hj2 : j < cells.length := by rw [hcl, hisz]; exact hj
        have := (hold b rfl).2 j cells[j] (by simp [hj2])
        rw [hx] at this
        rw [List.getElem?_eq_getElem hj2, this]
    · refine repRow_move S.keeps hrow2 fun j x hj hx => ?_
      rw [Nat.zero_mul, Nat.zero_add] at hx
      simp only [Nat.zero_add, addr_add_mk]
      refine ⟨?_, .inr ⟨rfl, by omega⟩⟩
      have hlen : cells.length = xs.length * eu.size := by rw [hcl, hisz]
      rw [cell_of_row w' _ _ cur u (0, 0) hg, hall _ htake (by omega), List.getElem?_append_right (by omega), hlen, Nat.add_sub_cancel_left]
      have hj2 : j < news.length := by rw [hnl]; exact hj
      have := hnews j news[j] (by simp [hj2])
      rw [hx] at this
      rw [List.getElem?_eq_getElem hj2, this]
    · simp only [Ctx.own, if_true]
      refine ⟨cap, cur, rfl, hg, by rw [hcs, hisz], hcm, hcap, fun o ho hi => ?_⟩
      rcases hi with hi | ⟨_, hi⟩
      · have := h.im _ _ hi; omega
      · omega

theorem after_append (hT : TyOK P T) (h : St c env a w) {t u : Nat} {eu : TE} (ht : P.underlying t = some (.slice u)) (hu : T u = some eu) {st es es2 st2 s' : Nat} {xs ys : List D} {v v2 : Value}
    (hx : RepT c env w (.sl st es xs) v) (hy : RepT c env w (.sl st2 es2 ys) v2) (hst : st = 1 ∨ (2 ≤ st ∧ look st env.us = some u ∧ st ∉ env.dd)) (hes : es = eu.size ∨ (st = 1 ∧ xs = [])) (hes2 : es2 = eu.size ∨ ys = [])
    (hum : u ≠ rowMark) (hs2 : 2 ≤ s') (hs' : look s' env.us = none) (hsd : s' ∉ env.dd ∧ s' < bigS) (hside : (xs.length + ys.length) * eu.bytes ≤ 140737488355328 ∧ xs.length + ys.length ≤ 9223372036854775807) (ty : TypeId) :
    After P c env (env.stamp s' u st) a w (.sl s' eu.size (xs ++ ys)) (Builtin.append_ #[t, t] ty #[v, v2]) := by
  obtain ⟨i, z, hi, hisz, hib, hz, hzc, _⟩ := (hT u eu hu).info
  obtain ⟨hx1, hx2⟩ := repT_sl hx
  obtain ⟨hy1, _⟩ := repT_sl hy
  by_cases hfl : ∃ b, v = .slice b xs.length xs.length
  · exact after_full hT h ht hu hx1 hfl hy hst (hes.imp_right And.right) hes2 hum hs2 hs' hsd hside ty
  -- what is owned
  have own : ∃ cells : List Value, w.ownsRow 0 u i.size v xs.length cells ∧ OwnCase c w u eu.size st xs v cells := by
    rcases hst with h1 | ⟨h2, h3, h4⟩
    · rcases hx2 with h | ⟨_, h⟩ | ⟨h, _⟩
      · omega
      · exact absurd h hfl
      · omega
    · rcases hx2 with h | ⟨h, _⟩ | ⟨_, u', hu', _, h⟩
      · omega
      · omega
      · rw [h3] at hu'; cases hu'
        rcases h with h | h
        · exact absurd h h4
        · cases hg : c.σ st with
          | none => rw [hg] at h; exact absurd h hfl
          | some g =>
            rw [hg] at h
            obtain ⟨cap, cur, rfl, hh, hcs, hcm, hnc, hI⟩ := h
            have hes : es = eu.size := hes.resolve_right fun e => by omega
            subst hes
            have hcs' := hcs
            rw [← hisz] at hcs'
            refine ⟨cur.toList.take (xs.length * eu.size), ⟨?_, .inr ⟨g, cap, cur, rfl, Nat.zero_le _, hh, hnc, hcm, hcs', by rw [hisz]⟩⟩, .inr ⟨g, cap, rfl, hnc, by omega, hg, ?_, cur, hh, rfl, hcs, hcm, hI⟩⟩
            · have hl : cur.toList.length = cap * eu.size := by simpa using hcs
              rw [List.length_take, hl, hisz]
              have := Nat.mul_le_mul_right eu.size hnc
              omega
            · rcases hx1 with ⟨h, _⟩ | ⟨b, cap', h, _, hrow⟩
              · cases h
              · cases h; exact hrow
  obtain ⟨cells, hown, hcase⟩ := own
  have hstep := own_step h (u := u) hst hs' hsd
  have hdead : s' ∉ (env.stamp s' u st).dd := by
    rw [dd_stamp]; split
    · exact hsd.1
    · intro e
      rcases List.mem_cons.1 e with e | e
      · subst e
        rcases hst with h | ⟨_, h, _⟩
        · omega
        · rw [hs'] at h; cases h
      · exact hsd.1 e
  have hlook : look s' (env.stamp s' u st).us = some u := by simp [us_stamp, look_cons]
  -- nothing is appended
  by_cases hm : ys.length = 0
  · have hys : ys = [] := List.eq_nil_of_length_eq_zero hm
    subst hys
    rw [List.append_nil]
    have hy0 : v2 = .slice none 0 0 ∨ ∃ a k, v2 = .slice (some a) 0 k := hy1.imp (fun h => h.1) fun ⟨b, cap, h, _⟩ => ⟨b, cap, h⟩
    rcases hcase with ⟨rfl, rfl, hs1⟩ | ⟨g, cap, rfl, hcap, hs1, hσ, hrow, cur, hh, _, hcs, hcm, hI⟩
    · obtain ⟨h1, S⟩ := hstep none 0 w (fun _ e => by cases e) (Nat.le_refl _) (fun _ _ _ => rfl) (fun _ e => by cases e) ⟨rfl, rfl, rfl, Nat.le_refl _, fun _ _ => rfl⟩ (fun _ e => by cases e)
      refine ⟨_, _, c.own s' none 0, run_append_none ht hi (Nat.le_refl 0) hy0, ⟨rfl, rfl, rfl⟩, h1, ?_⟩
      simp only [RepT, RepV]
      simp only [RepC, Rep]
      refine ⟨by simp, .inr (.inr ⟨hs2, u, hlook, hum, .inr ?_⟩)⟩
      simp [Ctx.own]
    · obtain ⟨h2, h3⟩ : (look st env.us).isSome = true ∧ st ∉ env.dd := by
        rcases hst with h | ⟨_, h, h'⟩
        · exact absurd h hs1
        · exact ⟨by rw [h]; rfl, h'⟩
      obtain ⟨k1, k2, k3⟩ := h.ownAbove st g ⟨h2, h3⟩ hσ
      obtain ⟨h1, S⟩ := hstep (some g) 0 w (fun g1 e => by cases e; exact ⟨k1, k2, .inr ⟨k2, hσ, hs1⟩⟩) (Nat.le_refl _) (fun _ _ _ => rfl) (fun _ _ _ _ _ _ h => h) ⟨rfl, rfl, rfl, Nat.le_refl _, fun _ _ => rfl⟩ (fun g1 e _ => by cases e; exact ⟨_, _, _, hh⟩)
      refine ⟨_, _, c.own s' (some g) 0, run_append_none ht hi hcap hy0, ⟨rfl, rfl, rfl⟩, h1, ?_⟩
      simp only [RepT, RepV]
      simp only [RepC, Rep]
      refine ⟨⟨trivial, .inr ⟨_, _, rfl, hcap, RepRow.keeps S.keeps _ _ _ _ hrow⟩⟩, .inr (.inr ⟨hs2, u, hlook, hum, .inr ?_⟩)⟩
      simp only [Ctx.own, if_true]
      exact ⟨cap, cur, rfl, hh, hcs, hcm, hcap, fun o ho hi => hI o ho (hi.resolve_right fun e => absurd e.2 (by omega))⟩
  · obtain ⟨b2, cap2, rfl, _, hrow2⟩ : ∃ (b : Addr) (cap : Nat), v2 = .slice (some b) ys.length cap ∧ ys.length ≤ cap ∧ RepRow c.I w es2 ys b 0 := hy1.resolve_left fun h => hm (by rw [h.2]; rfl)
    have he2 : es2 = eu.size := hes2.resolve_right fun e => hm (by rw [e]; rfl)
    subst he2
    have hcellY := fun j hj => repRow_cell hrow2 j hj
    simp only [Nat.zero_mul, Nat.zero_add] at hcellY
    have hnl : ((List.range (ys.length * eu.size)).map fun j => (w.cell? (b2.add j)).getD undef).length = ys.length * i.size := by simp [hisz]
    have hnews : ∀ j x, ((List.range (ys.length * eu.size)).map fun j => (w.cell? (b2.add j)).getD undef)[j]? = some x → w.cell? (b2.add j) = some x := by
      intro j x hj
      rw [List.getElem?_map] at hj
      cases hr : (List.range (ys.length * eu.size))[j]? with
      | none => rw [hr] at hj; cases hj
      | some j' =>
        obtain ⟨hl, e⟩ := List.getElem?_eq_some_iff.1 hr
        rw [List.getElem_range] at e; subst e
        rw [hr] at hj
        simp only [List.length_range] at hl
        obtain ⟨x', h1, _⟩ := hcellY j hl
        simp only [Option.map_some, h1, Option.getD_some, Option.some.injEq] at hj
        rw [h1, hj]
    have hone : ∀ x ∈ ((List.range (ys.length * eu.size)).map fun j => (w.cell? (b2.add j)).getD undef), x.oneCell' = true := by
      intro x hx
      obtain ⟨j, hj, rfl⟩ := List.mem_map.1 hx
      obtain ⟨x', h1, h2, _⟩ := hcellY j (List.mem_range.1 hj)
      rw [h1]; exact h2
    obtain ⟨g, cap, cur, w', hrun, hg, hcap, hcm, hcs, htake, hbel, _, hgo, hblk⟩ := run_append_fw (ty := ty) ht hi hz (hzc.trans hisz.symm |> fun e => by rw [e]) hown (k := cap2) hnl hnews hone (by omega) (by simp only [maxLen]; omega) (by rw [hib]; exact hside.1) (Nat.zero_le _)
    have hgl := (Array.getElem?_eq_some_iff.1 hg).1
    have hsize : w.heap.size ≤ w'.heap.size := hbel.size
    have hoff : ∀ k, v.ownBlock = some k → c.w0.off k := by
      intro k hk
      rcases hcase with ⟨rfl, _⟩ | ⟨g1, cap1, rfl, hcap1, hs1, hσ, _⟩
      · cases hk
      · cases hk
        refine (h.ownAbove st _ ?_ hσ).1
        rcases hst with h6 | ⟨_, h7, h8⟩
        · exact absurd h6 hs1
        · exact ⟨by rw [h7]; rfl, h8⟩
    have hbase : c.w0.off g := hgo.elim (hoff g) fun e => by rw [e]; exact h.base.size
    have hkept : KeptF c.w0 w w' := ⟨hbel.os, hbel.tape, hbel.output, hbel.size, fun k hk => hblk k (h.base.below_of hk) (.inl fun e => hk (hoff k e))⟩
    have hold : ∀ o, o < xs.length * eu.size → ∀ x, (∃ g0, v.ownBlock = some g0 ∧ w.cell? ⟨g0, o, none⟩ = some x) → w'.cell? ⟨g, o, none⟩ = some x := by
      rintro o ho x ⟨g0, hv, hx⟩
      rcases hcase with ⟨rfl, rfl, _⟩ | ⟨g1, cap1, rfl, hcap1, hs1, hσ, hrow, cur1, hh, htk, _⟩
      · cases hv
      · cases hv
        rw [cell_of_row w g1 o cur1 u (0, 0) hh] at hx
        rw [cell_of_row w' g o cur u (0, 0) hg, ← hx]
        have := list_take_get htk htake (by rw [hown.1, hisz]) o ho
        simpa using this
    obtain ⟨h1, S⟩ := hstep (some g) ((xs.length + ys.length) * eu.size) w' (fun g1 e => by
        cases e
        refine ⟨hbase, hgl, ?_⟩
        rcases hgo with hv | hv
        · right
          rcases hcase with ⟨rfl, rfl, _⟩ | ⟨g1, cap1, rfl, hcap1, hs1, hσ, _, cur1, hh, _⟩
          · cases hv
          · cases hv; exact ⟨(Array.getElem?_eq_some_iff.1 hh).1, hσ, hs1⟩
        · exact .inl hv) hsize (fun k hk hne => hblk k hk (by
          by_cases e : v.ownBlock = some k
          · right; rcases hgo with hv | hv
            · rw [hv] at e; cases e; exact absurd rfl hne
            · exact hv
          · exact .inl e)) (fun g1 e hlt o x hi hx => by
          cases e
          have hv : v.ownBlock = some g := hgo.resolve_right (by omega)
          refine hold o ?_ x ⟨g, hv, hx⟩
          rcases hcase with ⟨rfl, rfl, _⟩ | ⟨g1, cap1, rfl, hcap1, hs1, hσ, _, cur1, hh, _, _, _, hI⟩
          · cases hv
          · cases hv
            exact Nat.lt_of_not_le fun hle => hI o hle hi) hkept (fun g1 e hlt => by
          cases e
          have hv : v.ownBlock = some g := hgo.resolve_right (by omega)
          rcases hcase with ⟨rfl, rfl, _⟩ | ⟨g1, cap1, rfl, hcap1, hs1, hσ, _, cur1, hh, _⟩
          · cases hv
          · cases hv; exact ⟨_, _, _, hh⟩)
    refine ⟨_, _, c.own s' (some g) ((xs.length + ys.length) * eu.size), hrun, ⟨rfl, rfl, rfl⟩, h1, ?_⟩
    simp only [RepT, RepV]
    simp only [RepC, Rep, List.length_append]
    have hmul : (xs.length + ys.length) * eu.size = xs.length * eu.size + ys.length * eu.size := Nat.add_mul _ _ _
    refine ⟨⟨trivial, .inr ⟨_, _, rfl, hcap, repRow_append ?_ ?_⟩⟩, .inr (.inr ⟨hs2, u, hlook, hum, .inr ?_⟩)⟩
    · rcases hcase with ⟨rfl, rfl, _⟩ | ⟨g1, cap1, rfl, hcap1, hs1, hσ, hrow, cur1, hh, htk, _⟩
      · simp only [RepRow]
      · refine repRow_move S.keeps hrow fun j x hj hx => ?_
        simp only [Nat.zero_mul, Nat.zero_add, addr_add_mk] at hx ⊢
        exact ⟨hold j hj x ⟨g1, rfl, hx⟩, .inr ⟨rfl, by omega⟩⟩
    · refine repRow_move S.keeps hrow2 fun j x hj hx => ?_
      rw [Nat.zero_mul, Nat.zero_add] at hx
      simp only [Nat.zero_add, addr_add_mk]
      refine ⟨?_, .inr ⟨rfl, by omega⟩⟩
      rw [cell_of_row w' g _ cur u (0, 0) hg]
      have hlen : cells.length = xs.length * eu.size := by rw [hown.1, hisz]
      have e2 : cur.toList[xs.length * eu.size + j]? = (cells ++ ((List.range (ys.length * eu.size)).map fun j => (w.cell? (b2.add j)).getD undef))[xs.length * eu.size + j]? := by
        rw [← htake, List.getElem?_take, if_pos (by rw [hisz]; omega)]
      rw [← Array.getElem?_toList, e2, List.getElem?_append_right (by omega), hlen, Nat.add_sub_cancel_left, List.getElem?_map, List.getElem?_range (by omega)]
      simp [hx]
    · simp only [Ctx.own, if_true]
      refine ⟨cap, cur, rfl, hg, by rw [hcs, hisz], hcm, hcap, fun o ho hi => ?_⟩
      rcases hi with hi | ⟨_, hi⟩
      · rcases hgo with hv | hv
        · rcases hcase with ⟨rfl, rfl, _⟩ | ⟨g1, cap1, rfl, hcap1, hs1, hσ, _, cur1, hh, _, _, _, hI⟩
          · cases hv
          · cases hv
            exact hI o (by omega) hi
        · have := h.im _ _ hi; omega
      · omega
end

end Go.Proofs.YtnooelecdbbfkaaGreatDoor.Fw

/- Functions that capture; conversions. -/
namespace Go.Proofs.YtnooelecdbbfkaaGreatDoor.Fw
open Go Go.RowKit
set_option linter.unusedSectionVars false
variable [Inhabited GLT]

section
variable {P : Program} {T : Ty} {c : Ctx} {env : Env} {a : Act} {w : World}

theorem St.frzB {ss : List Nat} : ∀ {c : Ctx} {env : Env} {bx : List (Nat × BoxC)}, St c env a w → frzB env.bx ss = some bx → ∃ c', c.Next c' ∧ St c' { env with bx } a w ∧ Step c env w c' { env with bx } w ∧
    (∀ s b, look s env.bx = some b → ∃ b', look s bx = some b' ∧ b'.cells = b.cells ∧ b'.isAgg = b.isAgg ∧ (b.frozen = true ∨ s ∈ ss → b'.frozen = true)) := by
  induction ss with
  | nil =>
    intro c env bx h hf
    simp only [Fw.frzB, Option.some.injEq] at hf; subst hf
    exact ⟨c, .refl c, h, Step.refl _ _ _, fun s b hs => ⟨b, hs, rfl, rfl, fun e => e.resolve_right (by simp)⟩⟩
  | cons s ss ih =>
    intro c env bx h hf
    simp only [Fw.frzB] at hf
    cases hl : look s env.bx with
    | none => rw [hl] at hf; cases hf
    | some b =>
      rw [hl] at hf
      have h1 := h.freezeBox hl
      have hs : env.blk s := .inl (by rw [hl]; rfl)
      have S1 : Step c env w (c.hold s b.cells.length) { env with bx := (s, { b with frozen := true }) :: env.bx } w := Step.hold h hs (fun s' h' => by rw [look_cons]; split <;> first | rfl | exact h') (fun _ h' => h') rfl rfl
      obtain ⟨c', n, h2, S2, h3⟩ := ih h1 hf
      refine ⟨c', ⟨n.w0, n.I0, n.df⟩, h2, S1.trans S2, fun s' b' hs' => ?_⟩
      by_cases e : s = s'
      · subst e
        rw [hl] at hs'; cases hs'
        obtain ⟨m2, g1, g2, g3, g4⟩ := h3 s { b with frozen := true } (by rw [look_cons, if_pos rfl])
        exact ⟨m2, g1, g2, g3, fun _ => g4 (.inl rfl)⟩
      · obtain ⟨m2, g1, g2, g3, g4⟩ := h3 s' b' (by rw [look_cons, if_neg e]; exact hs')
        exact ⟨m2, g1, g2, g3, fun hh => g4 (hh.imp id fun hm => (List.mem_cons.1 hm).resolve_left fun e' => e e'.symm)⟩

/-- A captured variable that changes no more. -/
theorem rep_cap (h : St c env a w) {s : Nat} {b : BoxC} (hb : look s env.bx = some b) (hf : b.frozen = true) {mp : List (Nat × MapC)} {cs : List D} (hc : cloL mp b.cells = some cs)
    (hm : ∀ s', .mapr s' ∈ b.cells → ∀ m, look s' mp = some m → ∃ m', look s' env.mp = some m' ∧ m'.ks = m.ks ∧ m'.vs = m.vs ∧ m'.frozen = true) (hne : (!b.isAgg && cs.isEmpty) = false) :
    Rep c.I w (.eptr (BoxC.whole { b with cells := cs }) 0) (.pointer (some ⟨c.ρ s, 0, none⟩)) := by
  obtain ⟨vs, e, h1, h2, h3, _⟩ := h.bx s b hb
  obtain ⟨g1, g2⟩ := clo_cells h h2 hc hm
  have hcell : ∀ (j : Nat) x, cs[j]? = some x → x.isCell = true ∧ c.I (c.ρ s) j ∧ ∃ u, w.cell? ⟨c.ρ s, j, none⟩ = some u ∧ Rep c.I w x u := by
    intro j x hx
    obtain ⟨v, hv, hr⟩ := g1.get j x hx
    refine ⟨List.all_eq_true.1 g2 x (List.mem_of_getElem? hx), h3 hf j (List.getElem?_eq_some_iff.1 hv).1, v, ?_, hr⟩
    rw [cell_of_row w _ j ⟨vs⟩ e (0, 0) h1]; simpa using hv
  rw [rep_eptr]
  refine ⟨⟨c.ρ s, 0, none⟩, by simp [addr_add_mk], ?_⟩
  unfold BoxC.whole
  cases hag : b.isAgg with
  | true =>
    simp only [if_true, RepAt]
    refine repCs_of fun i x hx => ?_
    rw [Nat.zero_add, Nat.zero_add]; exact hcell i x hx
  | false =>
    rw [hag] at hne
    cases cs with
    | nil => simp at hne
    | cons x xs =>
      simp only [Bool.false_eq_true, if_false, List.headD_cons]
      have h0 := hcell 0 x rfl
      cases x <;> first | (cases h0.1; done) | exact h0

/-- What capD tells. -/
theorem capD_spec {bx : List (Nat × BoxC)} {mp : List (Nat × MapC)} {s : Nat} {p : Nat × D × List Nat} (hc : capD bx mp (.loc s 0) = some p) : ∃ b cs, look s bx = some b ∧ cloL mp b.cells = some cs ∧ (!b.isAgg && cs.isEmpty) = false ∧ p = (s, .eptr (BoxC.whole { b with cells := cs }) 0, cloM (.agg b.cells)) := by
  unfold capD at hc
  simp only at hc
  cases hlk : look s bx with
  | none => rw [hlk] at hc; cases hc
  | some b =>
    rw [hlk] at hc
    simp only at hc
    cases hcl : cloL mp b.cells with
    | none => rw [hcl] at hc; cases hc
    | some cs =>
      rw [hcl] at hc
      simp only at hc
      cases hne : (!b.isAgg && cs.isEmpty) with
      | true => rw [hne] at hc; cases hc
      | false =>
        rw [hne] at hc
        simp only [cond_false, Option.some.injEq] at hc
        exact ⟨b, cs, rfl, hcl, hne, hc.symm⟩
/-- A variable's address, once the variable changes no more. -/
theorem rep_sealed {c' : Ctx} {env' : Env} {w' : World} {a' : Act} (h' : St c' env' a' w') {s : Nat} {p : Nat × D × List Nat} (hc : capD env.bx [] (.loc s 0) = some p) (hb : ∀ b, look s env.bx = some b → ∃ b', look s env'.bx = some b' ∧ b'.cells = b.cells ∧ b'.isAgg = b.isAgg ∧ b'.frozen = true) : Rep c'.I w' p.2.1 (.pointer (some ⟨c'.ρ s, 0, none⟩)) := by
  obtain ⟨b, cs, h1, h2, h3, rfl⟩ := capD_spec hc
  obtain ⟨b', k1, k2, k3, k4⟩ := hb b h1
  have := rep_cap h' k1 k4 (mp := []) (cs := cs) (by rw [k2]; exact h2) (fun s' _ m hm => by cases hm) (by rw [k3]; exact h3)
  have e : BoxC.whole { b' with cells := cs } = BoxC.whole { b with cells := cs } := by simp [BoxC.whole, k3]
  rw [e] at this
  exact this
theorem after_ifaceS (h : St c env a w) {t : Nat} {d : TypeDesc} (ht : P.underlying t = some d) (hd : ∀ ms, d ≠ .interface ms) {s : Nat} {p : Nat × D × List Nat} {v : Value} (hx : RepT c env w (.loc s 0) v) (hc : capD env.bx [] (.loc s 0) = some p) {bx : List (Nat × BoxC)} (hf : Fw.frzB env.bx [s] = some bx) :
    After P c env { env with bx } a w (.ifc t p.2.1) (Instr.makeInterface t v) := by
  obtain ⟨c2, n2, h2, S2, hb2⟩ := h.frzB (ss := [s]) (bx := bx) hf
  obtain ⟨hs, rfl⟩ := repT_loc hx
  refine ⟨.iface t (.pointer (some ⟨c.ρ s, 0, none⟩)), w, c2, ?_, n2, h2, ?_⟩
  · simp only [Instr.makeInterface, Sem.run_bind, run_underlying ht, Result.andThen_ok]
    cases d <;> first | rfl | exact absurd rfl (hd _)
  · show RepC c2 { env with bx } w (.ifc t p.2.1) _
    simp only [RepC, Rep]
    refine ⟨_, rfl, ?_⟩
    have hρ : c2.ρ s = c.ρ s := (S2.bx s hs).2
    rw [← hρ]
    exact rep_sealed (env := env) h2 hc fun b hb => by
      obtain ⟨b', k1, k2, k3, k4⟩ := hb2 s b hb
      exact ⟨b', k1, k2, k3, k4 (.inr (by simp))⟩
theorem sealD_cases (bx : List (Nat × BoxC)) (d : D) : (∃ s p, d = .loc s 0 ∧ capD bx [] (.loc s 0) = some p ∧ sealD bx d = p.2.1 ∧ sealF bx d = [s]) ∨ (sealD bx d = d ∧ sealF bx d = []) := by
  unfold sealD sealF
  split
  · rename_i s
    cases hc : capD bx [] (.loc s 0) with
    | none => exact .inr ⟨rfl, rfl⟩
    | some p => exact .inl ⟨s, p, rfl, hc, rfl, rfl⟩
  · exact .inr ⟨rfl, rfl⟩

theorem after_makeFunc (h : St c env a w) {f : Nat} {ds : List D} {vs : List Value} (hcap : All2 (RepT c env w) ds vs) {l : List (Nat × D × List Nat)} (hl : allSome (ds.map (capD env.bx env.mp)) = some l)
    {mp : List (Nat × MapC)} {bx : List (Nat × BoxC)} (hfm : Fw.frzM env.mp (l.flatMap (·.2.2)) = some mp) (hfb : Fw.frzB env.bx (l.map (·.1)) = some bx) :
    After P c env { env with mp, bx } a w (.fn f (l.map (·.2.1))) (Instr.makeFunc (.func f) #[] ⟨vs⟩) := by
  obtain ⟨c1, n1, h1, S1, hm1⟩ := h.frzM hfm
  obtain ⟨c2, n2, h2, S2, hb2⟩ := h1.frzB (ss := l.map (·.1)) (bx := bx) hfb
  refine ⟨.func (.func f) #[] ⟨vs⟩, w, c2, by simp [Instr.makeFunc], n1.trans n2, h2, ?_⟩
  simp only [RepT, RepV, RepC, Rep]
  refine ⟨vs, rfl, ?_⟩
  have key : ∀ (ds : List D) (vs : List Value) (l' : List (Nat × D × List Nat)), All2 (RepT c env w) ds vs → allSome (ds.map (capD env.bx env.mp)) = some l' → (∀ p ∈ l', p.1 ∈ l.map (·.1) ∧ ∀ m ∈ p.2.2, m ∈ l.flatMap (·.2.2)) → RepL c2.I w (l'.map (·.2.1)) vs := by
    intro ds
    induction ds with
    | nil =>
      intro vs l' hv hl' _
      simp only [List.map_nil, allSome, Option.some.injEq] at hl'; subst hl'
      cases vs with
      | nil => simp [RepL]
      | cons _ _ => exact hv.elim
    | cons d ds ih =>
      intro vs l' hv hl' hin
      cases vs with
      | nil => exact hv.elim
      | cons v vs =>
      simp only [List.map_cons] at hl'
      cases hc : capD env.bx env.mp d with
      | none => rw [hc] at hl'; simp [allSome] at hl'
      | some p =>
        rw [hc] at hl'
        simp only [allSome] at hl'
        cases hr : allSome (ds.map (capD env.bx env.mp)) with
        | none => rw [hr] at hl'; cases hl'
        | some l2 =>
          rw [hr] at hl'
          simp only [Option.map_some, Option.some.injEq] at hl'; subst hl'
          simp only [List.map_cons, RepL]
          refine ⟨v, vs, rfl, ?_, ih vs l2 hv.2 hr fun p' hp' => hin p' (List.mem_cons_of_mem _ hp')⟩
          obtain ⟨hin1, hin2⟩ := hin p (List.mem_cons_self ..)
          unfold capD at hc
          split at hc
          · rename_i s
            cases hlk : look s env.bx with
            | none => rw [hlk] at hc; cases hc
            | some b =>
              rw [hlk] at hc
              simp only at hc
              cases hcl : cloL env.mp b.cells with
              | none => rw [hcl] at hc; cases hc
              | some cs =>
                rw [hcl] at hc
                simp only at hc
                cases hne : (!b.isAgg && cs.isEmpty) with
                | true => rw [hne] at hc; cases hc
                | false =>
                  rw [hne] at hc
                  simp only [cond_false, Option.some.injEq] at hc; subst hc
                  obtain ⟨hs, rfl⟩ := repT_loc hv.1
                  obtain ⟨b', k1, k2, k3, k4⟩ := hb2 s b hlk
                  have hρ : c2.ρ s = c.ρ s := ((S2.bx s ((S1.bx s hs).1)).2).trans (S1.bx s hs).2
                  have := rep_cap h2 k1 (k4 (.inr hin1)) (mp := env.mp) (cs := cs) (by rw [k2]; exact hcl) (fun s' hs' m hm => by
                    obtain ⟨m', q1, q2, q3, q4⟩ := hm1 s' m hm
                    exact ⟨m', q1, q2, q3, q4 (.inr (hin2 s' (mem_cloM_agg (by rw [← k2]; exact hs'))))⟩) (by rw [k3]; exact hne)
                  rw [hρ] at this
                  have e : BoxC.whole { b' with cells := cs } = BoxC.whole { b with cells := cs } := by simp [BoxC.whole, k3]
                  rw [e] at this
                  exact this
          · cases hc
  exact key ds vs l hcap hl fun p hp => ⟨List.mem_map_of_mem hp, fun m hm => List.mem_flatMap.2 ⟨p, hp, hm⟩⟩

theorem u8s_spec {I : Im} : ∀ {xs : List D} {l : List UInt8} {ad : Addr} {i : Nat}, u8s xs = some l → RepRow I w 1 xs ad i → ∃ ns : List Int, ns.length = xs.length ∧ l = ns.map (fun n => UInt8.ofNat n.toNat) ∧ ∀ j n, ns[j]? = some n → w.cell? (ad.add (i + j)) = some (.int .u8 n)
  | [], l, _, _, h, _ => by simp only [u8s, Option.some.injEq] at h; subst h; exact ⟨[], rfl, rfl, fun j n h => by simp at h⟩
  | x :: xs, l, ad, i, h, hr => by
    unfold u8s at h
    split at h
    · rename_i hc; cases hc
    · rename_i n xs' hc
      cases hc
      cases h2 : u8s xs with
      | none => rw [h2] at h; cases h
      | some l2 =>
        rw [h2] at h
        simp only [Option.map_some, Option.some.injEq] at h; subst h
        rw [repRow_cons] at hr
        obtain ⟨⟨_, hat⟩, hr2⟩ := hr
        obtain ⟨_, _, u, hu, hru⟩ := hat
        simp only [Rep] at hru; subst hru
        obtain ⟨ns, k1, k2, k3⟩ := u8s_spec h2 hr2
        refine ⟨n :: ns, by simp [k1], by simp [k2], fun j m hj => ?_⟩
        cases j with
        | zero => simp at hj; subst hj; simpa using hu
        | succ j => rw [show i + (j + 1) = i + 1 + j from by omega]; exact k3 j m (by simpa using hj)
    · cases h

theorem foldl_push : ∀ (ns : List Int) (s : List UInt8), ns.foldl (fun (r : ByteArray) n => r.push (UInt8.ofNat n.toNat)) ⟨⟨s⟩⟩ = ⟨⟨s ++ ns.map (fun n => UInt8.ofNat n.toNat)⟩⟩
  | [], s => by simp
  | n :: ns, s => by
    rw [List.foldl_cons, show (ByteArray.push ⟨⟨s⟩⟩ (UInt8.ofNat n.toNat)) = ⟨⟨s ++ [UInt8.ofNat n.toNat]⟩⟩ from by simp [ByteArray.push], foldl_push ns]
    simp

theorem kind_und {t : Nat} {e : TE} (h : TEok P t e) : ∃ d, P.underlying t = some d := by
  have hk := h.kind
  cases hk' : e.kind <;> rw [hk'] at hk <;> simp only [KindOK] at hk
  case agg fs => obtain ⟨Fs, h, _⟩ := hk; exact ⟨_, h⟩
  case other => obtain ⟨d, h, _⟩ := hk; exact ⟨_, h⟩
  case ptr => obtain ⟨x, h⟩ := hk; exact ⟨_, h⟩
  case func => obtain ⟨x, y, z, h⟩ := hk; exact ⟨_, h⟩
  case ifc => obtain ⟨x, h⟩ := hk; exact ⟨_, h⟩
  all_goals exact ⟨_, hk⟩

theorem yield_conv (hT : TyOK P T) {s t : Nat} {x : D} {v : Value} (hx : RepT c env w x v) {d : D} (hr : convD T s t x = some d) : Yield P c env w d (convert s t v) := by
  unfold convD at hr
  cases hs : T s with
  | none => rw [hs] at hr; cases hr
  | some es =>
    cases ht : T t with
    | none => rw [hs, ht] at hr; cases hr
    | some e =>
      rw [hs, ht] at hr
      obtain ⟨ds, hds⟩ := kind_und (hT s es hs)
      have hk := (hT t e ht).kind
      cases x <;> simp only at hr <;> first | (cases hr; done) | skip
      case int k n =>
        obtain rfl := repT_int hx
        cases hk' : e.kind <;> rw [hk'] at hr hk <;> simp only at hr <;> first | (cases hr; done) | skip
        rename_i k2
        simp only [KindOK] at hk
        simp only [Option.some.injEq] at hr; subst hr
        exact ⟨_, by cases ds <;> simp [convert, run_underlying hds, run_underlying hk, Conv.intToInt] <;> rfl, by simp [RepT, RepV, RepC, Rep]⟩
      case str l =>
        obtain rfl := repT_str hx
        cases hk' : e.kind <;> rw [hk'] at hr hk <;> simp only at hr <;> first | (cases hr; done) | skip
        simp only [KindOK] at hk
        simp only [Option.some.injEq] at hr; subst hr
        exact ⟨_, by cases ds <;> simp [convert, run_underlying hds, run_underlying hk] <;> rfl, by simp [RepT, RepV, RepC, Rep]⟩
      case sl st z xs =>
        cases hk' : e.kind <;> rw [hk'] at hr hk <;> simp only at hr <;> first | (cases hr; done) | skip
        simp only [KindOK] at hk
        have hks := (hT s es hs).kind
        cases hks' : es.kind <;> rw [hks'] at hr hks <;> simp only at hr <;> first | (cases hr; done) | skip
        case sl u =>
          simp only [KindOK] at hks
          cases hu : T u with
          | none => rw [hu] at hr; cases hr
          | some eu =>
            rw [hu] at hr
            simp only at hr
            have hku := (hT u eu hu).kind
            cases hku' : eu.kind <;> rw [hku'] at hr hku <;> (try simp only at hr) <;> first | (cases hr; done) | skip
            rename_i ki
            cases ki <;> (try simp only at hr) <;> first | (cases hr; done) | skip
            simp only [KindOK] at hku
            cases hz : Nat.beq z 1 with
            | false => rw [hz] at hr; cases hr
            | true =>
              obtain rfl := nbeq.1 hz
              rw [hz, cond_true] at hr
              cases hl : u8s xs with
              | none => rw [hl] at hr; cases hr
              | some l =>
                rw [hl] at hr
                simp only [Option.map_some, Option.some.injEq] at hr; subst hr
                obtain ⟨h1, _⟩ := repT_sl hx
                rcases h1 with ⟨rfl, rfl⟩ | ⟨b, cap, rfl, _, hrow⟩
                · simp only [u8s, Option.some.injEq] at hl; subst hl
                  exact ⟨.string ⟨⟨[]⟩⟩, by rw [run_convert_bytes_string w s t u none 0 0 hks hku hk]; rfl, by simp [RepT, RepV, RepC, Rep]⟩
                · obtain ⟨ns, k1, k2, k3⟩ := u8s_spec hl hrow
                  refine ⟨_, by
                    rw [run_convert_bytes_string w s t u (some b) _ _ hks hku hk]
                    exact run_bytesToString w b _ _ ns (by
                      have := run_loadCells_list (P := P) w b (ns.map (Value.int .u8)) (fun j v hj => by
                        rw [List.getElem?_map] at hj
                        cases hn : ns[j]? with
                        | none => rw [hn] at hj; cases hj
                        | some n =>
                          rw [hn] at hj; simp only [Option.map_some, Option.some.injEq] at hj; subst hj
                          have := k3 j n hn
                          rw [Nat.zero_add] at this; exact this)
                      simpa [k1] using this), ?_⟩
                  rw [show ByteArray.empty = ⟨⟨[]⟩⟩ from rfl, foldl_push, k2]
                  simp [RepT, RepV, RepC, Rep]
end

end Go.Proofs.YtnooelecdbbfkaaGreatDoor.Fw

/- Rows that are changed in place: reading them, and how they come about. -/
namespace Go.Proofs.YtnooelecdbbfkaaGreatDoor.Fw
open Go Go.RowKit
set_option linter.unusedSectionVars false
variable [Inhabited GLT]

/-! ### What is known of fewer rows is known of more -/
section
variable {rw rw' : List (Nat × RowC)} (hrw : ∀ st r, look st rw = some r → look st rw' = some r)
include hrw
theorem map_mono {α : Type} {st : Nat} {f : RowC → α} {x : α} (h : (look st rw).map f = some x) : (look st rw').map f = some x := by
  cases hl : look st rw with
  | none => rw [hl] at h; cases h
  | some r => rw [hl] at h; rw [hrw st r hl]; exact h
theorem lenD_mono {mp : List (Nat × MapC)} {e : TE} {x : D} {n : Nat} (h : lenD mp rw e x = some n) : lenD mp rw' e x = some n := by
  unfold lenD at *
  cases hk : e.kind <;> rw [hk] at h <;> simp only at h ⊢ <;> first | exact h | skip
  cases x <;> simp only at h ⊢ <;> first | exact h | exact map_mono hrw h
theorem fieldAddrD_mono {T : Ty} {t f : Nat} {x d : D} (h : fieldAddrD T rw t f x = some d) : fieldAddrD T rw' t f x = some d := by
  unfold fieldAddrD at *
  cases hf : fieldOf T t f with
  | none => rw [hf] at h; cases h
  | some q =>
    rw [hf] at h
    obtain ⟨o, e⟩ := q
    cases x <;> simp only at h ⊢ <;> first | exact h | exact map_mono hrw h
theorem indexAddrD_mono {T : Ty} {t : Nat} {x : D} {n : Int} {r : Bool × D} (h : indexAddrD T rw t x n = some r) : indexAddrD T rw' t x n = some r := by
  unfold indexAddrD at *
  cases ht : T t with
  | none => rw [ht] at h; cases h
  | some e =>
    rw [ht] at h
    simp only at h ⊢
    cases hk : e.kind <;> rw [hk] at h <;> simp only at h ⊢ <;> first | exact h | skip
    cases x <;> simp only at h ⊢ <;> first | exact h | skip
    rename_i u st es lo m
    cases hu : T u with
    | none => rw [hu] at h; cases h
    | some eu =>
      cases hl : look st rw with
      | none => rw [hu, hl] at h; cases h
      | some r => rw [hu, hl] at h; rw [hrw st r hl]; exact h
theorem sliceOpD_mono {T : Ty} {t : Nat} {x : D} {lo hi mx : Option D} {r : Bool × D} (h : sliceOpD T rw t x lo hi mx = some r) : sliceOpD T rw' t x lo hi mx = some r := by
  unfold sliceOpD at *
  cases ht : T t with
  | none => rw [ht] at h; cases h
  | some e =>
    rw [ht] at h
    simp only at h ⊢
    cases hk : e.kind with
    | sl u =>
      rw [hk] at h
      simp only at h ⊢
      cases hu : T u with
      | none => rw [hu] at h; cases x <;> exact h
      | some eu =>
        rw [hu] at h
        cases x with
        | rsl st es lo m =>
          simp only at h ⊢
          cases hl : look st rw with
          | none => rw [hl] at h; cases h
          | some r => rw [hl] at h; rw [hrw st r hl]; exact h
        | _ => exact h
    | _ => rw [hk] at h; exact h
theorem rowD_mono {e : TE} {st es i off : Nat} {x : Bool × D} (h : rowD rw e st es i off = some x) : rowD rw' e st es i off = some x := by
  unfold rowD at *
  cases hl : look st rw with
  | none => rw [hl] at h; cases h
  | some r => rw [hl] at h; rw [hrw st r hl]; exact h
theorem srcD_mono {y : D} {x : Bool × Nat × List D} (h : srcD rw y = some x) : srcD rw' y = some x := by
  unfold srcD at *
  cases y <;> simp only at h ⊢ <;> first | exact h | skip
  rename_i st es lo n
  cases hl : look st rw with
  | none => rw [hl] at h; cases h
  | some r => rw [hl] at h; rw [hrw st r hl]; exact h
theorem appendR_mono {T : Ty} {t dst : Nat} {x y : D} {r : Res} (h : appendR T rw t dst x y = some r) : appendR T rw' t dst x y = some r := by
  unfold appendR at *
  cases he : elemTy T t with
  | none => rw [he] at h; cases h
  | some q =>
    cases hs : srcD rw y with
    | none => rw [he, hs] at h; cases h
    | some p =>
      rw [he, hs] at h
      rw [srcD_mono hrw hs]
      simp only at h ⊢
      cases hb : ((Nat.beq p.2.1 q.2.size || p.2.2.isEmpty) && !Nat.beq q.2.size 0) with
      | false => rw [hb] at h; cases h
      | true =>
        rw [hb, cond_true] at h
        rw [cond_true]
        cases x <;> simp only at h ⊢ <;> first | exact h | skip
        rename_i st es lo n
        cases hl : look st rw with
        | none => rw [hl] at h; cases h
        | some r => rw [hl] at h; rw [hrw st r hl]; exact h
end

theorem flat_get {es : Nat} : ∀ {xs : List D}, (∀ d ∈ xs, d.cells.length = es) → ∀ (i : Nat) (d : D), xs[i]? = some d → ∀ k, k < es → (xs.flatMap D.cells)[i * es + k]? = d.cells[k]?
  | [], _, i, d, h, _, _ => by simp at h
  | x :: xs, hl, 0, d, h, k, hk => by
    simp only [List.getElem?_cons_zero, Option.some.injEq] at h; subst h
    rw [List.flatMap_cons, Nat.zero_mul, Nat.zero_add, List.getElem?_append_left (by rw [hl x (by simp)]; exact hk)]
  | x :: xs, hl, i + 1, d, h, k, hk => by
    rw [List.flatMap_cons, List.getElem?_append_right (by rw [hl x (by simp), Nat.add_mul]; omega), hl x (by simp)]
    rw [show (i + 1) * es + k - es = i * es + k from by rw [Nat.add_mul]; omega]
    exact flat_get (fun d hd => hl d (by simp [hd])) i d (by simpa using h) k hk
theorem flat_length {es : Nat} : ∀ {xs : List D}, (∀ d ∈ xs, d.cells.length = es) → (xs.flatMap D.cells).length = xs.length * es
  | [], _ => by simp
  | x :: xs, hl => by
    rw [List.flatMap_cons, List.length_append, hl x (by simp), flat_length (fun d hd => hl d (by simp [hd])), List.length_cons, Nat.add_mul]; omega

section
variable {P : Program} {T : Ty} {c : Ctx} {env : Env} {a : Act} {w : World}

theorem all2_all {R : D → Value → Prop} : ∀ {ds : List D} {vs : List Value}, All2 R ds vs → ∀ (i : Nat) (x : D), ds[i]? = some x → ∃ v, vs[i]? = some v ∧ R x v := fun h i x e => h.get i x e

theorem row_cells {st : Nat} {r : RowC} {g : Nat} (h : RowOK c env w st r) (hd : st ∉ env.dd) (hg : c.σ st = some g) {i : Nat} {d : D} (hi : r.xs[i]? = some d) (off : Nat) :
    ∀ (j : Nat) (x : D), d.cells[off + j]? = some x → ∃ u, w.cell? ((⟨g, i * r.es + off, none⟩ : Addr).add j) = some u ∧ RepC c env w x u := by
  intro j x hx
  obtain ⟨_, _, h⟩ := h
  obtain ⟨_, h⟩ := h.resolve_left hd
  rw [hg] at h
  obtain ⟨vs, rest, fr, hh, hfr, hv, hc, _⟩ := h
  have hm := List.mem_of_getElem? hi
  have hlt : off + j < d.cells.length := (List.getElem?_eq_some_iff.1 hx).1
  rw [(hc d hm).1] at hlt
  have hf := flat_get (fun d hd => (hc d hd).1) i d hi (off + j) hlt
  rw [hx] at hf
  obtain ⟨u, hu, hr⟩ := hv.get _ x hf
  refine ⟨u, ?_, rep_repC ?_ hr⟩
  · rw [addr_add_mk, Nat.add_assoc, cell_of_row w g _ _ _ fr hh]
    have : i * r.es + (off + j) < vs.length := (List.getElem?_eq_some_iff.1 hu).1
    simp only [List.getElem?_toArray]
    rw [List.getElem?_append_left this]; exact hu
  · have := (hc d hm).2.1
    rw [List.all_eq_true] at this
    exact this x (List.mem_of_getElem? hx)

theorem yield_rowLoad {t : Nat} {e : TE} (he : TEok P t e) (h : St c env a w) {st es i off : Nat} {v : Value} (hx : RepT c env w (.rptr st es i off) v) {s : Bool} {d : D}
    (hr : rowD env.rows e st es i off = some (s, d)) (hs : s = true) : Yield P c env w d (Instr.loadAt t v) := by
  subst hs
  unfold rowD at hr
  cases hl : look st env.rows with
  | none => rw [hl] at hr; cases hr
  | some r =>
    rw [hl] at hr
    simp only at hr
    cases hes : Nat.beq r.es es with
    | false => rw [hes] at hr; cases hr
    | true =>
      rw [hes, cond_true] at hr
      obtain rfl := nbeq.1 hes
      cases hp : partD e (r.xs.getD i .undef).cells off with
      | none => rw [hp] at hr; cases hr
      | some d0 =>
        rw [hp] at hr
        simp only [Option.map_some, Option.some.injEq, Prod.mk.injEq, Nat.blt_eq] at hr
        obtain ⟨hlt, rfl⟩ := hr
        obtain ⟨g, hg, rfl⟩ := rowP_live hx hl
        obtain ⟨hl1, hl2⟩ := rows_look hl
        have hi : r.xs[i]? = some (r.xs.getD i .undef) := by rw [List.getD_eq_getElem?_getD, List.getElem?_eq_getElem hlt]; rfl
        obtain ⟨v, h1, h2⟩ := yield_load he hp (row_cells (h.rw st r hl1) hl2 hg hi off)
        exact ⟨v, by simpa [Instr.loadAt, Instr.sureAddr] using h1, h2⟩

/-! ### Appending -/
def ShapeR (es : Nat) (xs : List D) : Prop := ∀ d ∈ xs, d.cells.length = es ∧ (d.cells.all D.isCell = true ∧ (d.isAgg = false → es = 1))

theorem repCs_vals {I : Im} : ∀ {cs : List D} {b : Addr} {j : Nat}, RepCs I w cs b j → ∃ vs : List Value, All2 (Rep I w) cs vs ∧ cs.all D.isCell = true ∧ ∀ i u, vs[i]? = some u → w.cell? (b.add (j + i)) = some u ∧ I (b.add (j + i)).block (b.add (j + i)).off
  | [], _, _, _ => ⟨[], trivial, rfl, fun i u h => by simp at h⟩
  | d :: ds, b, j, h => by
    simp only [RepCs] at h
    obtain ⟨⟨hc, hi, u, hu, hr⟩, h2⟩ := h
    obtain ⟨vs, h3, h4, h5⟩ := repCs_vals h2
    refine ⟨u :: vs, ⟨hr, h3⟩, by simp [hc, h4], fun i x hx => ?_⟩
    cases i with
    | zero => simp only [List.getElem?_cons_zero, Option.some.injEq] at hx; subst hx; exact ⟨hu, hi⟩
    | succ i =>
      have := h5 i x (by simpa using hx)
      rw [show j + (i + 1) = j + 1 + i from by omega]; exact this

theorem repRow_vals {I : Im} {es : Nat} : ∀ {xs : List D} {b : Addr} {i : Nat}, RepRow I w es xs b i → ∃ vs : List Value, All2 (Rep I w) (xs.flatMap D.cells) vs ∧ ShapeR es xs ∧ vs.length = xs.length * es ∧ ∀ j u, vs[j]? = some u → w.cell? (b.add (i * es + j)) = some u
  | [], _, _, _ => ⟨[], trivial, fun d h => by simp at h, by simp, fun j u h => by simp at h⟩
  | d :: ds, b, i, h => by
    rw [repRow_cons] at h
    obtain ⟨⟨hl, hat⟩, h2⟩ := h
    obtain ⟨vs, h3, h4, h5, h6⟩ := repRow_vals h2
    have key : ∃ us : List Value, All2 (Rep I w) d.cells us ∧ (d.cells.all D.isCell = true ∧ (d.isAgg = false → es = 1)) ∧ ∀ j u, us[j]? = some u → w.cell? (b.add (i * es + j)) = some u := by
      cases d with
      | agg cs =>
        obtain ⟨us, k1, k2, k3⟩ := repCs_vals hat
        refine ⟨us, k1, ⟨k2, fun e => by cases e⟩, fun j u hu => ?_⟩
        have := (k3 j u hu).1
        rwa [add_add', Nat.zero_add] at this
      | tup cs => cases hat.1
      | _ =>
        obtain ⟨hc, hi, u, hu, hr⟩ := hat
        refine ⟨[u], ⟨hr, trivial⟩, ⟨rfl, fun _ => by simpa [D.cells] using hl.symm⟩, fun j x hx => ?_⟩
        cases j with
        | zero => simp only [List.getElem?_cons_zero, Option.some.injEq] at hx; subst hx; simpa using hu
        | succ j => simp at hx
    obtain ⟨us, k1, k2, k3⟩ := key
    have hul : us.length = es := by rw [← k1.length, hl]
    refine ⟨us ++ vs, by rw [List.flatMap_cons]; exact k1.append h3, fun x hx => ?_, by rw [List.length_append, hul, h5, List.length_cons, Nat.add_mul]; omega, fun j u hu => ?_⟩
    · rcases List.mem_cons.1 hx with rfl | hx
      · exact ⟨hl, k2⟩
      · exact h4 x hx
    · by_cases hj : j < es
      · rw [List.getElem?_append_left (by omega)] at hu; exact k3 j u hu
      · rw [List.getElem?_append_right (by omega), hul] at hu
        have := h6 _ u hu
        rw [show (i + 1) * es + (j - es) = i * es + j from by rw [Nat.add_mul]; omega] at this
        exact this

theorem ShapeR.append {es : Nat} {xs ys : List D} (h : ShapeR es xs) (k : ShapeR es ys) : ShapeR es (xs ++ ys) := fun d hd => (List.mem_append.1 hd).elim (h d) (k d)
theorem ShapeR.take {es n : Nat} {xs : List D} (h : ShapeR es xs) : ShapeR es (xs.take n) := fun d hd => h d (List.mem_of_mem_take hd)
theorem ShapeR.drop {es n : Nat} {xs : List D} (h : ShapeR es xs) : ShapeR es (xs.drop n) := fun d hd => h d (List.mem_of_mem_drop hd)
theorem flat_take {es : Nat} : ∀ {xs : List D} (n : Nat), ShapeR es xs → (xs.take n).flatMap D.cells = (xs.flatMap D.cells).take (n * es)
  | _, 0, _ => by simp
  | [], n + 1, _ => by simp
  | d :: ds, n + 1, h => by
    have hl := (h d (by simp)).1
    rw [List.take_succ_cons, List.flatMap_cons, List.flatMap_cons, flat_take n (fun x hx => h x (by simp [hx])), List.take_append, hl, Nat.add_mul, Nat.one_mul, Nat.add_sub_cancel, List.take_of_length_le (l := d.cells) (by omega)]
theorem flat_drop {es : Nat} : ∀ {xs : List D} (n : Nat), ShapeR es xs → (xs.drop n).flatMap D.cells = (xs.flatMap D.cells).drop (n * es)
  | _, 0, _ => by simp
  | [], n + 1, _ => by simp
  | d :: ds, n + 1, h => by
    have hl := (h d (by simp)).1
    rw [List.drop_succ_cons, List.flatMap_cons, flat_drop n (fun x hx => h x (by simp [hx])), List.drop_append, hl, Nat.add_mul, Nat.one_mul, Nat.add_sub_cancel, List.drop_of_length_le (l := d.cells) (by omega), List.nil_append]

/-- What is laid behind. -/
theorem src_spec (h : St c env a w) {y : D} {v2 : Value} (hy : RepT c env w y v2) {es2 : Nat} {ys : List D} (hs : srcD env.rows y = some (true, es2, ys)) :
    (ys = [] ∧ (v2 = .slice none 0 0 ∨ ∃ b k, v2 = .slice (some b) 0 k)) ∨ ∃ (b : Addr) (k : Nat) (news : List Value), v2 = .slice (some b) ys.length k ∧ 0 < ys.length ∧ All2 (Rep c.I w) (ys.flatMap D.cells) news ∧ ShapeR es2 ys ∧ news.length = ys.length * es2 ∧ ∀ j u, news[j]? = some u → w.cell? (b.add j) = some u := by
  unfold srcD at hs
  cases y <;> first | (cases hs; done) | skip
  case sl st es xs =>
    simp only [Option.some.injEq, Prod.mk.injEq, true_and] at hs
    obtain ⟨rfl, rfl⟩ := hs
    obtain ⟨h1, _⟩ := repT_sl hy
    rcases h1 with ⟨rfl, rfl⟩ | ⟨b, cap, rfl, hcap, hrow⟩
    · exact .inl ⟨rfl, .inl rfl⟩
    · cases xs with
      | nil => exact .inl ⟨rfl, .inr ⟨b, cap, rfl⟩⟩
      | cons x xs =>
        obtain ⟨vs, k1, k2, k3, k4⟩ := repRow_vals hrow
        exact .inr ⟨b, cap, vs, rfl, by simp, k1, k2, k3, fun j u hu => by have := k4 j u hu; rwa [Nat.zero_mul, Nat.zero_add] at this⟩
  case rsl st es lo n =>
    simp only at hs
    cases hl : look st env.rows with
    | none => rw [hl] at hs; cases hs
    | some r =>
      rw [hl] at hs
      simp only at hs
      cases hes : Nat.beq r.es es with
      | false => rw [hes] at hs; cases hs
      | true =>
        rw [hes, cond_true] at hs
        simp only [Option.some.injEq, Prod.mk.injEq, Nat.ble_eq] at hs
        obtain ⟨hle, rfl, rfl⟩ := hs
        obtain rfl := nbeq.1 hes
        obtain ⟨hl1, hl2⟩ := rows_look hl
        obtain ⟨_, h2⟩ := repT_rsl hy hl
        obtain ⟨_, _, hok⟩ := h.rw st r hl1
        obtain ⟨he0, hok⟩ := hok.resolve_left hl2
        have hlen : (sliceD r.xs lo (lo + n)).length = n := by simp only [sliceD, List.length_drop, List.length_take]; omega
        cases hσ : c.σ st with
        | none =>
          rw [hσ] at h2
          obtain ⟨rfl, rfl, b, rfl⟩ := h2
          refine .inl ⟨List.eq_nil_of_length_eq_zero hlen, ?_⟩
          cases b with
          | none => exact .inl rfl
          | some b => exact .inr ⟨b, 0, rfl⟩
        | some g =>
          rw [hσ] at h2 hok
          obtain ⟨ad, cap, rfl, hp, hn, hroom, hm⟩ := h2
          by_cases hn0 : n = 0
          · subst hn0
            exact .inl ⟨List.eq_nil_of_length_eq_zero hlen, .inr ⟨ad, cap, rfl⟩⟩
          · obtain rfl := hp (by omega)
            obtain ⟨vs, rest, fr, hh, hfr, hv, hc, _⟩ := hok
            have hsh : ShapeR r.es r.xs := hc
            refine .inr ⟨_, cap, (vs.take ((lo + n) * r.es)).drop (lo * r.es), by rw [hlen], by omega, ?_, hsh.take.drop, ?_, fun j u hu => ?_⟩
            · rw [show sliceD r.xs lo (lo + n) = (r.xs.take (lo + n)).drop lo from rfl, flat_drop lo hsh.take, flat_take _ hsh]
              exact (hv.take _).drop _
            · have hvl : vs.length = r.xs.length * r.es := by rw [← hv.length, flat_length (fun d hd => (hc d hd).1)]
              have : (lo + n) * r.es ≤ r.xs.length * r.es := Nat.mul_le_mul_right _ hle
              rw [List.length_drop, List.length_take, hvl, hlen, Nat.min_eq_left this, Nat.add_mul]; omega
            · rw [List.getElem?_drop, List.getElem?_take] at hu
              split at hu
              · rw [addr_add_mk, cell_of_row w g _ _ _ fr hh]
                have : lo * r.es + j < vs.length := (List.getElem?_eq_some_iff.1 hu).1
                simp only [List.getElem?_toArray]
                rw [List.getElem?_append_left this]; exact hu
              · cases hu

theorem St.addRow (h : St c env a w) {s' : Nat} {r : RowC} (hok : RowOK c env w s' r) : St c { env with rw := (s', r) :: env.rw } a w ∧ Step c env w c { env with rw := (s', r) :: env.rw } w := by
  have S : Step c env w c { env with rw := (s', r) :: env.rw } w := Step.sameEnv rfl rfl rfl rfl
  refine ⟨⟨h.nt, h.df, fun t d hd => S.repT (h.tm t d hd), fun t d hd => (h.wt t d hd).step S, fun s b hs => (h.bx s b hs).step S rfl rfl (fun _ x => x), fun s m hs => (h.mp s m hs).step S rfl rfl (fun _ x => x), h.inj, h.above, h.lt, h.ownInj, h.ownAbove, h.im, h.im0, h.imNew, h.base, ⟨h.gh.1, S.fix h.gh.2⟩, fun st r0 hr => ?_⟩, S⟩
  rw [look_cons] at hr
  split at hr
  · rename_i e; subst e; cases hr; exact S.rowOK (S.same _) hok
  · exact S.rowOK (S.same _) (h.rw st r0 hr)

/-- What there is to append to: it has no room, or its block is its own. -/
def OldRow (c : Ctx) (env : Env) (w : World) (u size st n m : Nat) (v : Value) (cells : List Value) : Prop :=
  cells.length = n * size ∧ ((((v = .slice none 0 0 ∧ n = 0) ∨ (∃ b : Addr, v = .slice (some b) n n ∧ ∀ j x, cells[j]? = some x → w.cell? (b.add j) = some x)) ∧ (m = 0 → n = 0)) ∨
    ∃ g cap cur, 0 < cap ∧ n ≤ cap ∧ c.σ st = some g ∧ env.live st ∧ st ≠ 1 ∧ v = .slice (some ⟨g, 0, none⟩) n cap ∧ w.heap[g]? = some (.cells cur u (0, 0)) ∧ cur.size = cap * size ∧ cap ≤ maxLen ∧ cur.toList.take (n * size) = cells ∧ ∀ o, ¬ c.I g o)

theorem after_row (hT : TyOK P T) (h : St c env a w) {t u : Nat} {eu : TE} (ht : P.underlying t = some (.slice u)) (hu : T u = some eu) (he0 : eu.size ≠ 0) {st s' : Nat} {xs ys : List D} {v v2 : Value} {cells : List Value}
    (hold : OldRow c env w u eu.size st xs.length ys.length v cells) (hcells : All2 (Rep c.I w) (xs.flatMap D.cells) cells) (hsx : ShapeR eu.size xs)
    (hsrc : (ys = [] ∧ (v2 = .slice none 0 0 ∨ ∃ b k, v2 = .slice (some b) 0 k)) ∨ ∃ (b : Addr) (k : Nat) (news : List Value), v2 = .slice (some b) ys.length k ∧ 0 < ys.length ∧ All2 (Rep c.I w) (ys.flatMap D.cells) news ∧ ShapeR eu.size ys ∧ news.length = ys.length * eu.size ∧ ∀ j u, news[j]? = some u → w.cell? (b.add j) = some u)
    (hst : st = 1 ∨ (2 ≤ st ∧ look st env.us = some rowMark ∧ st ∉ env.dd))
    (hs2 : 2 ≤ s') (hs' : look s' env.us = none) (hsd : s' ∉ env.dd ∧ s' < bigS) (hside : (xs.length + ys.length) * eu.bytes ≤ 140737488355328 ∧ xs.length + ys.length ≤ 9223372036854775807) (ty : TypeId) :
    After P c env (env.stampR s' ⟨u, eu.size, xs ++ ys, false⟩ st) a w (.rsl s' eu.size 0 (xs.length + ys.length)) (Builtin.append_ #[t, t] ty #[v, v2]) := by
  obtain ⟨i, z, hi, hisz, hib, hz, hzc, _⟩ := (hT u eu hu).info
  have hstep := own_step h (u := rowMark) hst hs' hsd
  have hlook : look s' (env.stamp s' rowMark st).us = some rowMark := by simp [us_stamp, look_cons]
  have hmul : (xs.length + ys.length) * eu.size = xs.length * eu.size + ys.length * eu.size := Nat.add_mul _ _ _
  -- once the row stands
  have fin : ∀ (g' : Option Nat) (w' : World) (v' : Value), (Builtin.append_ #[t, t] ty #[v, v2]).run P w = .ok v' w' →
      St (c.own s' g' 0) (env.stamp s' rowMark st) a w' ∧ Step c env w (c.own s' g' 0) (env.stamp s' rowMark st) w' →
      (match g' with
        | none => xs ++ ys = [] ∧ ∃ b, v' = .slice b 0 0
        | some g => ∃ (cap : Nat) (cur : Array Value) (vs : List Value), v' = .slice (some ⟨g, 0, none⟩) (xs.length + ys.length) cap ∧ xs.length + ys.length ≤ cap ∧ cap ≤ maxLen ∧ w'.heap[g]? = some (.cells cur u (0, 0)) ∧ cur.size = cap * eu.size ∧ cur.toList.take ((xs.length + ys.length) * eu.size) = vs ∧ All2 (Rep c.I w) ((xs ++ ys).flatMap D.cells) vs ∧ ShapeR eu.size (xs ++ ys) ∧ ∀ o, ¬ c.I g o) →
      After P c env (env.stampR s' ⟨u, eu.size, xs ++ ys, false⟩ st) a w (.rsl s' eu.size 0 (xs.length + ys.length)) (Builtin.append_ #[t, t] ty #[v, v2]) := by
    rintro g' w' v' hrun ⟨h1, S⟩ hg
    have hok : RowOK (c.own s' g' 0) (env.stamp s' rowMark st) w' s' ⟨u, eu.size, xs ++ ys, false⟩ := by
      refine ⟨hs2, hlook, .inr ⟨Nat.pos_of_ne_zero he0, ?_⟩⟩
      rw [show (c.own s' g' 0).σ s' = g' from if_pos rfl]
      cases g' with
      | none => exact hg.1
      | some g =>
        obtain ⟨cap, cur, vs, _, hcap, _, hh, hcs, htake, hv, hsh, hI⟩ := hg
        refine ⟨vs, cur.toList.drop ((xs.length + ys.length) * eu.size), (0, 0), ?_, rfl, hv.mono fun _ _ => Rep.keeps S.keeps _ _, hsh, fun o ho => ho.elim (hI o) fun e => by omega⟩
        rw [← htake, List.take_append_drop]; exact hh
    obtain ⟨h2, S2⟩ := h1.addRow hok
    refine ⟨v', w', c.own s' g' 0, hrun, ⟨rfl, rfl, rfl⟩, h2, hlook, ?_, .inr ?_⟩
    · cases g' with
      | none => obtain ⟨_, b, rfl⟩ := hg; rfl
      | some g => obtain ⟨cap, cur, vs, rfl, _⟩ := hg; rfl
    · rw [show (c.own s' g' 0).σ s' = g' from if_pos rfl]
      cases g' with
      | none =>
        obtain ⟨e, b, rfl⟩ := hg
        have := congrArg List.length e
        rw [List.length_append] at this
        exact ⟨rfl, by simpa using this, b, rfl⟩
      | some g =>
        obtain ⟨cap, cur, vs, rfl, hcap, hcm, hh, hcs, _⟩ := hg
        exact ⟨_, cap, rfl, fun _ => by rw [Nat.zero_mul], hcap, ⟨cur, u, (0, 0), hh, by rw [Nat.zero_add]; exact hcs⟩, hcm⟩
  rcases hsrc with ⟨rfl, hy0⟩ | ⟨b2, cap2, news, rfl, hm, hnv, hsy, hnl, hnews⟩
  · have kept : KeptF c.w0 w w := ⟨rfl, rfl, rfl, Nat.le_refl _, fun _ _ => rfl⟩
    rcases hold.2 with ⟨hA, hn0⟩ | ⟨g, cap, cur, hc0, hnc, hσ, hlive, hs1, rfl, hh, hcs, hcm, htake, hI⟩
    · have hx0 : xs = [] := List.eq_nil_of_length_eq_zero (hn0 rfl)
      subst hx0
      obtain ⟨b, rfl⟩ : ∃ b, v = .slice b 0 0 := by
        rcases hA with ⟨rfl, _⟩ | ⟨b, rfl, _⟩
        · exact ⟨none, rfl⟩
        · exact ⟨some b, rfl⟩
      exact fin none w _ (run_append_none ht hi (Nat.le_refl 0) hy0) (hstep none 0 w (fun _ e => by cases e) (Nat.le_refl _) (fun _ _ _ => rfl) (fun _ e => by cases e) kept (fun _ e => by cases e)) ⟨rfl, b, rfl⟩
    · obtain ⟨k1, k2, k3⟩ := h.ownAbove st g hlive hσ
      refine fin (some g) w _ (run_append_none ht hi hnc hy0) (hstep (some g) 0 w (fun g1 e => by cases e; exact ⟨k1, k2, .inr ⟨k2, hσ, hs1⟩⟩) (Nat.le_refl _) (fun _ _ _ => rfl) (fun _ _ _ _ _ _ h => h) kept (fun g1 e _ => by cases e; exact ⟨_, _, _, hh⟩)) ?_
      exact ⟨cap, cur, cells, rfl, by simpa using hnc, hcm, hh, hcs, by simpa using htake, by simpa using hcells, by simpa using hsx, hI⟩
  · have hcl : cells.length = xs.length * i.size := by rw [hold.1, hisz]
    have hnl' : news.length = ys.length * i.size := by rw [hnl, hisz]
    have hz' : z.cells.size = i.size := hzc.trans hisz.symm
    have hflat : All2 (Rep c.I w) ((xs ++ ys).flatMap D.cells) (cells ++ news) := by rw [List.flatMap_append]; exact hcells.append hnv
    have hone : ∀ x ∈ news, x.oneCell' = true := by
      intro x hx
      obtain ⟨j, hj⟩ := List.getElem?_of_mem hx
      have hcell : (ys.flatMap D.cells).all D.isCell = true := by
        rw [List.all_flatMap, List.all_eq_true]
        exact fun d hd => (hsy d hd).2.1
      have hlen := hnv.length
      have hjl := (List.getElem?_eq_some_iff.1 hj).1
      obtain ⟨v', h1, h2⟩ := hnv.get j ((ys.flatMap D.cells)[j]'(by omega)) (by simp)
      rw [hj] at h1; cases h1
      exact rep_oneCell (List.all_eq_true.1 hcell _ (List.getElem_mem _)) h2
    rcases hold.2 with ⟨hA, _⟩ | ⟨g, cap, cur, hc0, hnc, hσ, hlive, hs1, rfl, hh, hcs, hcm, htake, hI⟩
    · have hful : (v = .slice none 0 0 ∧ xs.length = 0) ∨ ∃ a0, v = .slice (some a0) xs.length xs.length ∧ ∀ j u, cells[j]? = some u → w.cell? (a0.add j) = some u := hA
      obtain ⟨cap, cur, w', hrun, hg, hcap, hcm, hcs, htake, hbel⟩ := run_append_full (ty := ty) ht hi hz hz' hcl hful (k := cap2) hnl' hnews (by omega) (by simp only [maxLen]; omega) (by rw [hib]; exact hside.1)
      have hgl := (Array.getElem?_eq_some_iff.1 hg).1
      have hkept : KeptF c.w0 w w' := ⟨hbel.os, hbel.tape, hbel.output, hbel.size, fun k hk => hbel.block k (h.base.below_of hk)⟩
      refine fin (some w.heap.size) w' _ hrun (hstep (some w.heap.size) 0 w' (fun g1 e => by cases e; exact ⟨h.base.size, hgl, .inl rfl⟩) hbel.size (fun k hk hne => hbel.block k hk) (fun g1 e hlt => by cases e; omega) hkept (fun g1 e hlt => by cases e; omega)) ?_
      exact ⟨cap, cur, cells ++ news, rfl, hcap, hcm, hg, by rw [hcs, hisz], by rw [← hisz]; exact htake, hflat, hsx.append hsy, fun o ho => absurd (h.im _ _ ho) (by omega)⟩
    · obtain ⟨k1, k2, k3⟩ := h.ownAbove st g hlive hσ
      have hown : w.ownsRow 0 u i.size (.slice (some ⟨g, 0, none⟩) xs.length cap) xs.length cells := ⟨hcl, .inr ⟨g, cap, cur, rfl, Nat.zero_le _, hh, hnc, hcm, by rw [hcs, hisz], by rw [hisz]; exact htake⟩⟩
      obtain ⟨g', cap', cur', w', hrun, hg, hcap, hcm', hcs', htake', hbel, _, hgo, hblk⟩ := run_append_fw (ty := ty) ht hi hz hz' hown (k := cap2) hnl' hnews hone (by omega) (by simp only [maxLen]; omega) (by rw [hib]; exact hside.1) (Nat.zero_le _)
      have hgl := (Array.getElem?_eq_some_iff.1 hg).1
      have hgo' : g = g' ∨ g' = w.heap.size := hgo.imp (fun e => Option.some.inj e) id
      have hoff : ∀ k, ¬ c.w0.off k → (Value.slice (some ⟨g, 0, none⟩) xs.length cap).ownBlock ≠ some k := fun k hk e => by cases e; exact hk k1
      have hkept : KeptF c.w0 w w' := ⟨hbel.os, hbel.tape, hbel.output, hbel.size, fun k hk => hblk k (h.base.below_of hk) (.inl (hoff k hk))⟩
      refine fin (some g') w' _ hrun (hstep (some g') 0 w' (fun g1 e => by
          cases e
          rcases hgo' with rfl | rfl
          · exact ⟨k1, hgl, .inr ⟨k2, hσ, hs1⟩⟩
          · exact ⟨h.base.size, hgl, .inl rfl⟩) hbel.size (fun k hk hne => hblk k hk (by
          rcases hgo' with rfl | rfl
          · left; intro e; cases e; exact hne rfl
          · right; rfl)) (fun g1 e hlt o x hi hx => by
          cases e
          rcases hgo' with rfl | rfl
          · exact absurd hi (hI o)
          · omega) hkept (fun g1 e hlt => by
          cases e
          rcases hgo' with rfl | rfl
          · exact ⟨_, _, _, hh⟩
          · omega)) ?_
      refine ⟨cap', cur', cells ++ news, rfl, hcap, hcm', hg, by rw [hcs', hisz], by rw [← hisz]; exact htake', hflat, hsx.append hsy, fun o ho => ?_⟩
      rcases hgo' with rfl | rfl
      · exact hI o ho
      · exact absurd (h.im _ _ ho) (by omega)

theorem appendSide_spec {e : TE} {n m : Nat} (h : appendSide e n m = true) : (n + m) * e.bytes ≤ 140737488355328 ∧ n + m ≤ 9223372036854775807 := of_decide_eq_true h
theorem elemTy_spec' (hT : TyOK P T) {t u : Nat} {eu : TE} (h : elemTy T t = some (u, eu)) : T u = some eu ∧ P.underlying t = some (.slice u) := by
  unfold elemTy at h
  cases ht : T t with
  | none => rw [ht] at h; cases h
  | some e =>
    rw [ht] at h
    have hk := (hT t e ht).kind
    simp only at h
    cases hk' : e.kind <;> rw [hk'] at h hk <;> first | (cases h; done) | skip
    rename_i u'
    simp only at h
    cases hu : T u' with
    | none => rw [hu] at h; cases h
    | some eu' =>
      rw [hu] at h
      simp only [Option.map_some, Option.some.injEq, Prod.mk.injEq] at h
      obtain ⟨rfl, rfl⟩ := h
      exact ⟨hu, hk⟩

theorem after_appendR (hT : TyOK P T) (h : St c env a w) {t dst : Nat} {x y : D} {v v2 : Value} {r : Res} (hx : RepT c env w x v) (hy : RepT c env w y v2) (hr : appendR T env.rows t dst x y = some r) (hs : r.side = true)
    (hs' : look (2 * dst + 3) env.us = none) (hsd : 2 * dst + 3 ∉ env.dd ∧ 2 * dst + 3 < bigS) (hst : r.kill = 1 ∨ (2 ≤ r.kill ∧ look r.kill env.us = some rowMark ∧ r.kill ∉ env.dd)) (ty : TypeId) :
    r.fz = [] ∧ r.fm = [] ∧ ∃ rc, r.row = some rc ∧ After P c env (env.stampR (2 * dst + 3) rc r.kill) a w r.d (Builtin.append_ #[t, t] ty #[v, v2]) := by
  unfold appendR at hr
  cases het : elemTy T t with
  | none => rw [het] at hr; cases hr
  | some q =>
  obtain ⟨u, eu⟩ := q
  obtain ⟨hu, ht⟩ := elemTy_spec' hT het
  cases hsr : srcD env.rows y with
  | none => rw [het, hsr] at hr; cases hr
  | some p =>
  obtain ⟨sy, es2, ys⟩ := p
  rw [het, hsr] at hr
  simp only at hr
  cases hb : ((Nat.beq es2 eu.size || ys.isEmpty) && !Nat.beq eu.size 0) with
  | false => rw [hb] at hr; cases hr
  | true =>
  rw [hb, cond_true] at hr
  simp only [Bool.and_eq_true, Bool.or_eq_true, Bool.not_eq_true', nbeq, nbeq_f, List.isEmpty_iff] at hb
  have src : sy = true → (ys = [] ∧ (v2 = .slice none 0 0 ∨ ∃ b k, v2 = .slice (some b) 0 k)) ∨ ∃ (b : Addr) (k : Nat) (news : List Value), v2 = .slice (some b) ys.length k ∧ 0 < ys.length ∧ All2 (Rep c.I w) (ys.flatMap D.cells) news ∧ ShapeR eu.size ys ∧ news.length = ys.length * eu.size ∧ ∀ j u, news[j]? = some u → w.cell? (b.add j) = some u := by
    rintro rfl
    rcases src_spec h hy hsr with h1 | ⟨b, k, news, h1, h2, h3, h4, h5, h6⟩
    · exact .inl h1
    · obtain rfl : es2 = eu.size := hb.1.resolve_right fun e => by rw [e] at h2; simp at h2
      exact .inr ⟨b, k, news, h1, h2, h3, h4, h5, h6⟩
  cases x <;> first | (cases hr; done) | skip
  case sl st es xs =>
    simp only at hr
    cases hc : (Nat.beq st 1 && (Nat.beq es eu.size || xs.isEmpty)) with
    | false => rw [hc] at hr; cases hr
    | true =>
      rw [hc, cond_true, Option.some.injEq] at hr
      subst hr
      simp only [Bool.and_eq_true, Bool.or_eq_true, Bool.not_eq_true', nbeq, List.isEmpty_iff, List.isEmpty_eq_false_iff] at hc hs
      obtain ⟨rfl, hes⟩ := hc
      obtain ⟨hsy, hside, hne⟩ := hs
      refine ⟨rfl, rfl, _, rfl, ?_⟩
      obtain ⟨hx1, hx2⟩ := repT_sl hx
      obtain ⟨b0, hv⟩ : ∃ b, v = .slice b xs.length xs.length := by
        rcases hx2 with h | ⟨_, h⟩ | ⟨h, _⟩
        · cases h
        · exact h
        · omega
      have hcs : ∃ cells : List Value, cells.length = xs.length * eu.size ∧ ((v = .slice none 0 0 ∧ xs.length = 0) ∨ ∃ b : Addr, v = .slice (some b) xs.length xs.length ∧ ∀ j x, cells[j]? = some x → w.cell? (b.add j) = some x) ∧ All2 (Rep c.I w) (xs.flatMap D.cells) cells ∧ ShapeR eu.size xs := by
        rcases hx1 with ⟨rfl, rfl⟩ | ⟨b, cap, e, hcap, hrow⟩
        · exact ⟨[], by simp, .inl ⟨rfl, rfl⟩, trivial, fun d hd => by simp at hd⟩
        · rw [hv] at e; cases e
          rcases hes with rfl | rfl
          · obtain ⟨vs, k1, k2, k3, k4⟩ := repRow_vals hrow
            exact ⟨vs, k3, .inr ⟨b, hv, fun j u hu => by have := k4 j u hu; rwa [Nat.zero_mul, Nat.zero_add] at this⟩, k1, k2⟩
          · exact ⟨[], by simp, .inr ⟨b, hv, fun j x hx => by simp at hx⟩, trivial, fun d hd => by simp at hd⟩
      obtain ⟨cells, c1, c2, c3, c4⟩ := hcs
      exact after_row hT h ht hu hb.2 (st := 1) ⟨c1, .inl ⟨c2, fun e => by
        rcases hne with rfl | hne
        · rfl
        · exact absurd (List.eq_nil_of_length_eq_zero e) hne⟩⟩ c3 c4 (src hsy) hst (by omega) hs' hsd (appendSide_spec hside) ty
  case rsl st es lo n =>
    simp only at hr
    cases hl : look st env.rows with
    | none => rw [hl] at hr; cases hr
    | some rc =>
      rw [hl] at hr
      simp only at hr
      cases hc : (Nat.beq es eu.size && (Nat.beq rc.u u && (Nat.beq rc.es es && (Nat.beq lo 0 && !rc.sh)))) with
      | false => rw [hc] at hr; cases hr
      | true =>
        rw [hc, cond_true, Option.some.injEq] at hr
        subst hr
        simp only [Bool.and_eq_true, nbeq, Nat.ble_eq, Bool.not_eq_true'] at hc hs
        obtain ⟨rfl, hu', hes', rfl, hshf⟩ := hc
        obtain ⟨hsy, hside, hle⟩ := hs
        refine ⟨rfl, rfl, _, rfl, ?_⟩
        obtain ⟨hl1, hl2⟩ := rows_look hl
        obtain ⟨hus, h2⟩ := repT_rsl hx hl
        obtain ⟨hst2, _, hok⟩ := h.rw st rc hl1
        obtain ⟨_, hok⟩ := hok.resolve_left hl2
        have hlen : (rc.xs.take n).length = n := by rw [List.length_take]; omega
        have key : ∃ cells : List Value, OldRow c env w u eu.size st n ys.length v cells ∧ All2 (Rep c.I w) ((rc.xs.take n).flatMap D.cells) cells ∧ ShapeR eu.size (rc.xs.take n) := by
          cases hσ : c.σ st with
          | none =>
            rw [hσ] at h2 hok
            obtain ⟨_, rfl, b, rfl⟩ := h2
            refine ⟨[], ⟨by simp, .inl ⟨?_, fun _ => rfl⟩⟩, by simp [All2], fun d hd => by simp at hd⟩
            cases b with
            | none => exact .inl ⟨rfl, rfl⟩
            | some b => exact .inr ⟨b, rfl, fun j x hx => by simp at hx⟩
          | some g =>
            rw [hσ] at h2 hok
            obtain ⟨ad, cap, rfl, hp, hn, ⟨cur, u1, fr1, hh1, hcur⟩, hm⟩ := h2
            obtain ⟨vs, rest, fr, hh, hfr, hv, hsh, hI⟩ := hok
            have hfr : fr = (0, 0) := by rw [hshf] at hfr; exact hfr
            subst hfr
            rw [hh] at hh1; cases hh1
            have hsh : ShapeR eu.size rc.xs := by rw [← hes']; exact hsh
            have hvl : vs.length = rc.xs.length * eu.size := by rw [← hv.length, flat_length (fun d hd => (hsh d hd).1)]
            have hnle : n * eu.size ≤ vs.length := by rw [hvl]; exact Nat.mul_le_mul_right _ hle
            refine ⟨vs.take (n * eu.size), ⟨by rw [List.length_take, Nat.min_eq_left hnle], ?_⟩, by rw [flat_take n hsh]; exact hv.take _, hsh.take⟩
            by_cases h0 : 0 < cap
            · obtain rfl := hp h0
              refine .inr ⟨g, cap, _, h0, hn, hσ, ⟨by rw [hus]; rfl, hl2⟩, by omega, by rw [Nat.zero_mul], by rw [← hu']; exact hh, by rw [hcur, Nat.zero_add], hm, ?_, hI⟩
              simp only [List.take_append_of_le_length hnle]
            · obtain rfl : cap = 0 := by omega
              obtain rfl : n = 0 := by omega
              exact .inl ⟨.inr ⟨ad, rfl, fun j x hx => by simp at hx⟩, fun _ => rfl⟩
        obtain ⟨cells, k1, k2, k3⟩ := key
        have := after_row hT h ht hu hb.2 (st := st) (xs := rc.xs.take n) (by rw [hlen]; exact k1) k2 k3 (src hsy) hst (s' := 2 * dst + 3) (by omega) hs' hsd (by rw [hlen]; exact appendSide_spec hside) ty
        rw [hlen] at this
        exact this
/-! ### Texts and rows of bytes -/
theorem all2_bytes {I : Im} {w : World} : ∀ (l : List UInt8), All2 (Rep I w) ((l.map fun b => D.int .u8 b.toNat).flatMap D.cells) (l.map fun b => Value.int .u8 b.toNat)
  | [] => trivial
  | b :: l => ⟨by simp [Rep], all2_bytes l⟩
theorem isStr_spec (hT : TyOK P T) {s : Nat} (h : isStrTy T s = true) : P.underlying s = some .string := by
  unfold isStrTy at h
  split at h
  · rename_i e he
    split at h
    · rename_i hk
      have := (hT s e he).kind
      rw [hk] at this; exact this
    · cases h
  · cases h
theorem bytesD_spec {s t dst : Nat} {l : List UInt8} {r : Res} (h : bytesD T s t dst l = some r) : isStrTy T s = true ∧ ∃ u eu, elemTy T t = some (u, eu) ∧ eu.kind = .int .u8 ∧ eu.size = 1 ∧ r = { d := .rsl (2 * dst + 3) 1 0 l.length, kill := 1, row := some ⟨u, 1, l.map (fun b => .int .u8 b.toNat), true⟩, side := decide (l.length ≤ 9223372036854775807) } := by
  unfold bytesD at h
  cases he : elemTy T t with
  | none => rw [he] at h; cases h
  | some p =>
    obtain ⟨u, eu⟩ := p
    rw [he] at h
    simp only at h
    split at h
    · rename_i hk
      cases hb : (T.mu u && (Nat.beq eu.size 1 && isStrTy T s)) with
      | false => rw [hb] at h; cases h
      | true =>
        rw [hb, cond_true, Option.some.injEq] at h
        simp only [Bool.and_eq_true, nbeq] at hb
        exact ⟨hb.2.2, u, eu, rfl, hk, hb.2.1, h.symm⟩
    · cases h
theorem after_bytes (hT : TyOK P T) (h : St c env a w) {s t dst : Nat} {l : List UInt8} {r : Res} {v : Value} (hx : RepT c env w (.str l) v) (hr : bytesD T s t dst l = some r) (hs : r.side = true)
    (hs' : look (2 * dst + 3) env.us = none) (hsd : 2 * dst + 3 ∉ env.dd ∧ 2 * dst + 3 < bigS) :
    r.fz = [] ∧ r.fm = [] ∧ r.kill = 1 ∧ ∃ rc, r.row = some rc ∧ After P c env (env.stampR (2 * dst + 3) rc 1) a w r.d (convert s t v) := by
  obtain ⟨hks, u, eu, he, hk, hsz, rfl⟩ := bytesD_spec hr
  have hks := isStr_spec hT hks
  refine ⟨rfl, rfl, rfl, _, rfl, ?_⟩
  obtain ⟨hu, ht⟩ := elemTy_spec' hT he
  have hku := (hT u eu hu).kind
  rw [hk] at hku
  simp only [KindOK] at hku
  obtain rfl : v = .string ⟨⟨l⟩⟩ := by simpa [RepT, RepV, RepC, Rep] using hx
  have hlen : l.length ≤ 9223372036854775807 := of_decide_eq_true hs
  have hsz' : (⟨⟨l⟩⟩ : ByteArray).size = l.length := rfl
  have hrun := run_bytes_of_string (P := P) w s t u ⟨⟨l⟩⟩ hks ht hku
  rw [hsz'] at hrun
  have hge := grownCap_ge w l.length 0 u
  have hmx := grownCap_le_maxLen w l.length 0 u (by simp only [maxLen]; omega)
  revert hrun hge hmx
  generalize grownCap w l.length 0 u = cap
  intro hrun hge hmx
  have hbr : bytesRow ⟨⟨l⟩⟩ cap = ⟨l.map (fun b => Value.int .u8 b.toNat) ++ List.replicate (cap - l.length) (.int .u8 0)⟩ := by
    apply Array.ext'
    simp [bytesRow, hsz']
  have hbs : (bytesRow ⟨⟨l⟩⟩ cap).size = cap := by rw [hbr]; simp; omega
  rw [hbs, hbr] at hrun
  generalize hw' : w.drew.alloc (.cells ⟨l.map (fun b => Value.int .u8 b.toNat) ++ List.replicate (cap - l.length) (.int .u8 0)⟩ u (cap, cap + 1)) = w' at hrun
  have hbel : Below w.heap.size w w' := by
    rw [← hw']
    exact ((Below.refl _ w).drew).alloc (by simp) _
  have hnew : w'.heap[w.heap.size]? = some (.cells ⟨l.map (fun b => Value.int .u8 b.toNat) ++ List.replicate (cap - l.length) (.int .u8 0)⟩ u (cap, cap + 1)) := by
    rw [← hw']
    exact heap_alloc_new w.drew _
  have hgl := (Array.getElem?_eq_some_iff.1 hnew).1
  have hkept : KeptF c.w0 w w' := ⟨hbel.os, hbel.tape, hbel.output, hbel.size, fun k hk => hbel.block k (h.base.below_of hk)⟩
  obtain ⟨h1, S⟩ := own_step h (u := rowMark) (.inl rfl) hs' hsd (some w.heap.size) 0 w' (fun g1 e => by cases e; exact ⟨h.base.size, hgl, .inl rfl⟩) hbel.size (fun k hk hne => hbel.block k hk) (fun g1 e hlt => by cases e; omega) hkept (fun g1 e hlt => by cases e; omega)
  have hlook : look (2 * dst + 3) (env.stamp (2 * dst + 3) rowMark 1).us = some rowMark := by simp [us_stamp, look_cons]
  have hok : RowOK (c.own (2 * dst + 3) (some w.heap.size) 0) (env.stamp (2 * dst + 3) rowMark 1) w' (2 * dst + 3) ⟨u, 1, l.map (fun b => .int .u8 b.toNat), true⟩ := by
    refine ⟨by omega, hlook, .inr ⟨Nat.one_pos, ?_⟩⟩
    rw [show (c.own (2 * dst + 3) (some w.heap.size) 0).σ (2 * dst + 3) = some w.heap.size from if_pos rfl]
    refine ⟨_, _, (cap, cap + 1), hnew, ?_, all2_bytes l, fun d hd => ?_, fun o ho => ho.elim (fun hi => absurd (h.im _ _ hi) (by omega)) fun e => by omega⟩
    · show _ ≤ cap
      simp; omega
    · obtain ⟨b, _, rfl⟩ := List.mem_map.1 hd
      exact ⟨rfl, rfl, fun _ => rfl⟩
  obtain ⟨h2, S2⟩ := h1.addRow hok
  refine ⟨_, w', c.own (2 * dst + 3) (some w.heap.size) 0, hrun, ⟨rfl, rfl, rfl⟩, h2, hlook, rfl, .inr ?_⟩
  rw [show (c.own (2 * dst + 3) (some w.heap.size) 0).σ (2 * dst + 3) = some w.heap.size from if_pos rfl]
  exact ⟨_, cap, rfl, fun _ => by rw [Nat.zero_mul], hge, ⟨_, u, _, hnew, by simp; omega⟩, hmx⟩

theorem mkRowD_spec {t dst : Nat} {n m : Int} {r : Res} (h : mkRowD T t dst n m = some r) : ∃ u eu k z, elemTy T t = some (u, eu) ∧ eu.zero = .int k z ∧ eu.size = 1 ∧
    r = { d := .rsl (2 * dst + 3) 1 0 n.toNat, kill := 1, row := some ⟨u, 1, List.replicate n.toNat (.int k z), false⟩, side := decide (n = m ∧ 0 ≤ n ∧ (eu.bytes : Int) * n ≤ 281474976710656 ∧ n ≤ 9223372036854775807) } := by
  unfold mkRowD at h
  cases he : elemTy T t with
  | none => rw [he] at h; cases h
  | some p =>
    obtain ⟨u, eu⟩ := p
    rw [he] at h
    simp only at h
    split at h
    · rename_i k z hk
      cases hb : (T.mu u && Nat.beq eu.size 1) with
      | false => rw [hb] at h; cases h
      | true =>
        rw [hb, cond_true, Option.some.injEq] at h
        simp only [Bool.and_eq_true, nbeq] at hb
        exact ⟨u, eu, k, z, rfl, hk, hb.2, h.symm⟩
    · cases h
theorem all2_zero {I : Im} {w : World} {k : IntKind} {z : Int} : ∀ (n : Nat), All2 (Rep I w) ((List.replicate n (D.int k z)).flatMap D.cells) (List.replicate n (Value.int k z))
  | 0 => trivial
  | n + 1 => by
    simp only [List.replicate_succ, List.flatMap_cons]
    exact ⟨by simp only [Rep], all2_zero n⟩
theorem madeCells_one (v : Value) (n : Nat) : madeCells #[v] n = ⟨List.replicate n v⟩ := by
  apply Array.ext'
  simp [madeCells, Nat.mod_one, List.map_const', Function.comp_def]
theorem after_make (hT : TyOK P T) (h : St c env a w) {t dst : Nat} {k1 k2 : IntKind} {n m : Int} {r : Res} (hr : mkRowD T t dst n m = some r) (hs : r.side = true)
    (hs' : look (2 * dst + 3) env.us = none) (hsd : 2 * dst + 3 ∉ env.dd ∧ 2 * dst + 3 < bigS) :
    ∃ rc, r.row = some rc ∧ After P c env (env.stampR (2 * dst + 3) rc 1) a w r.d (Instr.makeSlice t (.int k1 n) (.int k2 m)) := by
  obtain ⟨u, eu, k, z, he, hz, hsz, rfl⟩ := mkRowD_spec hr
  refine ⟨_, rfl, ?_⟩
  obtain ⟨hu, ht⟩ := elemTy_spec' hT he
  obtain ⟨rfl, h0, hby, hmx⟩ := of_decide_eq_true hs
  obtain ⟨i, zv, hi, e1, e2, e3, e4, e5, e6⟩ := (hT u eu hu).info
  have hzv : zv = .int k z := by
    have := e6 c env w
    rw [hz] at this
    simpa [RepV, RepC, Rep] using this
  subst hzv
  have hrun := run_make (P := P) w t u i _ ht hi e3 k1 k2 n n h0 (Int.le_refl _) (by rw [e2]; exact hby) hmx
  rw [e1, hsz, Nat.mul_one, show (Value.int k z).cells = #[.int k z] from rfl, madeCells_one] at hrun
  generalize hw' : w.alloc (.cells ⟨List.replicate n.toNat (.int k z)⟩ u) = w' at hrun
  have hbel : Below w.heap.size w w' := by
    rw [← hw']
    exact (Below.refl _ w).alloc (Nat.le_refl _) _
  have hnew : w'.heap[w.heap.size]? = some (.cells ⟨List.replicate n.toNat (.int k z) ++ []⟩ u (0, 0)) := by
    rw [← hw', List.append_nil]
    exact heap_alloc_new w _
  have hgl := (Array.getElem?_eq_some_iff.1 hnew).1
  have hkept : KeptF c.w0 w w' := ⟨hbel.os, hbel.tape, hbel.output, hbel.size, fun k hk => hbel.block k (h.base.below_of hk)⟩
  obtain ⟨h1, S⟩ := own_step h (u := rowMark) (.inl rfl) hs' hsd (some w.heap.size) 0 w' (fun g1 e => by cases e; exact ⟨h.base.size, hgl, .inl rfl⟩) hbel.size (fun k hk hne => hbel.block k hk) (fun g1 e hlt => by cases e; omega) hkept (fun g1 e hlt => by cases e; omega)
  have hlook : look (2 * dst + 3) (env.stamp (2 * dst + 3) rowMark 1).us = some rowMark := by simp [us_stamp, look_cons]
  have hok : RowOK (c.own (2 * dst + 3) (some w.heap.size) 0) (env.stamp (2 * dst + 3) rowMark 1) w' (2 * dst + 3) ⟨u, 1, List.replicate n.toNat (.int k z), false⟩ := by
    refine ⟨by omega, hlook, .inr ⟨Nat.one_pos, ?_⟩⟩
    rw [show (c.own (2 * dst + 3) (some w.heap.size) 0).σ (2 * dst + 3) = some w.heap.size from if_pos rfl]
    refine ⟨_, _, (0, 0), hnew, rfl, all2_zero _, fun d hd => ?_, fun o ho => ho.elim (fun hi => absurd (h.im _ _ hi) (by omega)) fun e => by omega⟩
    obtain ⟨_, rfl⟩ := List.mem_replicate.1 hd
    exact ⟨rfl, rfl, fun _ => rfl⟩
  obtain ⟨h2, S2⟩ := h1.addRow hok
  refine ⟨_, w', c.own (2 * dst + 3) (some w.heap.size) 0, hrun, ⟨rfl, rfl, rfl⟩, h2, hlook, rfl, .inr ?_⟩
  rw [show (c.own (2 * dst + 3) (some w.heap.size) 0).σ (2 * dst + 3) = some w.heap.size from if_pos rfl]
  exact ⟨_, n.toNat, rfl, fun _ => by rw [Nat.zero_mul], Nat.le_refl _, ⟨_, u, _, hnew, by simp⟩, by simp only [maxLen]; omega⟩

theorem u8s_vals {I : Im} {w : World} : ∀ {xs : List D} {l : List UInt8} {vs : List Value}, u8s xs = some l → All2 (Rep I w) (xs.flatMap D.cells) vs → ∃ ns : List Int, vs = ns.map (Value.int .u8) ∧ ns.map (fun n => UInt8.ofNat n.toNat) = l ∧ ns.length = xs.length
  | [], l, vs, h, hv => by
    simp only [u8s, Option.some.injEq] at h; subst h
    cases vs with
    | nil => exact ⟨[], rfl, rfl, rfl⟩
    | cons _ _ => exact hv.elim
  | x :: xs, l, vs, h, hv => by
    cases x <;> first | (cases h; done) | skip
    rename_i k n
    cases k <;> first | (cases h; done) | skip
    simp only [u8s] at h
    cases hl : u8s xs with
    | none => rw [hl] at h; cases h
    | some l2 =>
      rw [hl] at h
      simp only [Option.map_some, Option.some.injEq] at h; subst h
      cases vs with
      | nil => exact hv.elim
      | cons v vs =>
        obtain ⟨ns, e1, e2, e3⟩ := u8s_vals hl (vs := vs) (show All2 (Rep I w) (xs.flatMap D.cells) vs from hv.2)
        have hv1 : v = .int .u8 n := by have h1 : Rep I w (.int .u8 n) v := hv.1; simpa [Rep] using h1
        exact ⟨n :: ns, by simp [hv1, e1], by simp [e2], by simp [e3]⟩

theorem rowStr_spec (hT : TyOK P T) {rw : List (Nat × RowC)} {s t st es : Nat} {xs : List D} (h : rowStr T rw s t st es = some xs) : ∃ u r, P.underlying t = some .string ∧ P.underlying s = some (.slice u) ∧ P.underlying u = some (.int .u8) ∧ look st rw = some r ∧ r.es = 1 ∧ r.xs = xs ∧ es = 1 := by
  unfold rowStr at h
  split at h
  · rename_i e he
    split at h
    · rename_i hk
      split at h
      · rename_i u eu hel
        obtain ⟨hu, hs⟩ := elemTy_spec' hT hel
        split at h
        · rename_i hku
          split at h
          · rename_i r hr
            cases hb : (Nat.beq r.es 1 && Nat.beq es 1) with
            | false => rw [hb] at h; cases h
            | true =>
              rw [hb, cond_true, Option.some.injEq] at h
              have h1 := (hT t e he).kind
              rw [hk] at h1
              have h2 := (hT u eu hu).kind
              rw [hku] at h2
              simp only [Bool.and_eq_true, nbeq] at hb
              exact ⟨u, r, h1, hs, h2, hr, hb.1, h, hb.2⟩
          · cases h
        · cases h
      · cases h
    · cases h
  · cases h
theorem rowStr_mono {rw rw' : List (Nat × RowC)} (hrw : ∀ st r, look st rw = some r → look st rw' = some r) {s t st es : Nat} {xs : List D} (h : rowStr T rw s t st es = some xs) : rowStr T rw' s t st es = some xs := by
  unfold rowStr at *
  split at h
  · split at h
    · split at h
      · split at h
        · rename_i hku
          split at h
          · rename_i r hr
            simp only [*, hrw _ _ hr]
          · cases h
        · cases h
      · cases h
    · cases h
  · cases h
theorem yield_convRow (hT : TyOK P T) (h : St c env a w) {rw : List (Nat × RowC)} (hrw : ∀ st r, look st rw = some r → look st env.rows = some r) {s t st es lo n : Nat} {v : Value} (hx : RepT c env w (.rsl st es lo n) v) {r : Res} (hr : convRow T rw s t st es lo n = some r) (hs : r.side = true) :
    r = { side := r.side, d := r.d } ∧ Yield P c env w r.d (convert s t v) := by
  unfold convRow at hr
  split at hr
  · rename_i xs hxs
    obtain ⟨u, rc, hk, hks, hku, hl, hes, rfl, hes2⟩ := rowStr_spec hT hxs
    cases hb : u8s (sliceD rc.xs lo (lo + n)) with
    | none => rw [hb] at hr; cases hr
    | some l =>
      rw [hb] at hr
      simp only [Option.map_some, Option.some.injEq] at hr; subst hr
      refine ⟨rfl, ?_⟩
      have hle : lo + n ≤ rc.xs.length := Nat.le_of_ble_eq_true hs
      have hl' := hrw _ _ hl
      have hsrc := src_spec h hx (es2 := es) (ys := sliceD rc.xs lo (lo + n)) (by simp only [srcD, hl']; rw [nbeq.2 (hes.trans hes2.symm), cond_true, Nat.ble_eq_true_of_le hle])
      have key : ∀ (b : Addr) (k : Nat) (ns : List Int), v = .slice (some b) ns.length k → ns.map (fun n => UInt8.ofNat n.toNat) = l → (∀ j u, (ns.map (Value.int .u8))[j]? = some u → w.cell? (b.add j) = some u) → Yield P c env w (.str l) (convert s t v) := by
        rintro b k ns rfl e1 hc
        refine ⟨_, by
          rw [run_convert_bytes_string w s t u (some b) _ _ hks hku hk]
          exact run_bytesToString w b _ _ ns (by
            have := run_loadCells_list (P := P) w b (ns.map (Value.int .u8)) hc
            simpa using this), ?_⟩
        rw [show ByteArray.empty = ⟨⟨[]⟩⟩ from rfl, foldl_push, e1]
        simp [RepT, RepV, RepC, Rep]
      rcases hsrc with ⟨e1, rfl | ⟨b, k, rfl⟩⟩ | ⟨b, k, news, rfl, _, hv, _, _, hc⟩
      · rw [e1] at hb
        simp only [u8s, Option.some.injEq] at hb; subst hb
        exact ⟨.string ⟨⟨[]⟩⟩, by rw [run_convert_bytes_string w s t u none 0 0 hks hku hk]; rfl, by simp [RepT, RepV, RepC, Rep]⟩
      · rw [e1] at hb
        simp only [u8s, Option.some.injEq] at hb; subst hb
        exact key b k [] rfl rfl fun j u hj => by simp at hj
      · obtain ⟨ns, rfl, e2, e3⟩ := u8s_vals hb hv
        exact key b k ns (by rw [e3]) e2 hc
  · cases hr
theorem strTy_spec (hT : TyOK P T) {s t : Nat} (h : strTy T s t = true) : ∃ u, P.underlying t = some .string ∧ P.underlying s = some (.slice u) ∧ P.underlying u = some (.int .u8) := by
  unfold strTy at h
  split at h
  · rename_i e he
    split at h
    · rename_i hk
      split at h
      · rename_i u eu hel
        obtain ⟨hu, hs⟩ := elemTy_spec' hT hel
        split at h
        · rename_i hku
          have h1 := (hT t e he).kind
          rw [hk] at h1
          have h2 := (hT u eu hu).kind
          rw [hku] at h2
          exact ⟨u, h1, hs, h2⟩
        · cases h
      · cases h
    · cases h
  · cases h
theorem u8s_repC : ∀ {xs : List D} {l : List UInt8} {vs : List Value}, u8s xs = some l → All2 (RepC c env w) xs vs → ∃ ns : List Int, vs = ns.map (Value.int .u8) ∧ ns.map (fun n => UInt8.ofNat n.toNat) = l ∧ ns.length = xs.length
  | [], l, vs, h, hv => by
    simp only [u8s, Option.some.injEq] at h; subst h
    cases vs with
    | nil => exact ⟨[], rfl, rfl, rfl⟩
    | cons _ _ => exact hv.elim
  | x :: xs, l, vs, h, hv => by
    cases x <;> first | (cases h; done) | skip
    rename_i k n
    cases k <;> first | (cases h; done) | skip
    simp only [u8s] at h
    cases hl : u8s xs with
    | none => rw [hl] at h; cases h
    | some l2 =>
      rw [hl] at h
      simp only [Option.map_some, Option.some.injEq] at h; subst h
      cases vs with
      | nil => exact hv.elim
      | cons v vs =>
        obtain ⟨ns, e1, e2, e3⟩ := u8s_repC hl (vs := vs) hv.2
        have hv1 : v = .int .u8 n := by have h1 : RepC c env w (.int .u8 n) v := hv.1; simpa [RepC, Rep] using h1
        exact ⟨n :: ns, by simp [hv1, e1], by simp [e2], by simp [e3]⟩
theorem yield_convLsl (hT : TyOK P T) (h : St c env a w) {bx : List (Nat × BoxC)} (hbx : ∀ s b, look s bx = some b → look s env.bx = some b) {s t sl off n : Nat} {v : Value} (hx : RepT c env w (.lsl sl off n) v) {r : Res} (hr : convLsl T bx s t sl off n = some r) (hs : r.side = true) :
    r = { side := r.side, d := r.d } ∧ Yield P c env w r.d (convert s t v) := by
  unfold convLsl at hr
  cases hty : strTy T s t with
  | false => rw [hty] at hr; cases hr
  | true =>
    rw [hty, cond_true] at hr
    obtain ⟨u, hk, hks, hku⟩ := strTy_spec hT hty
    cases hl : look sl bx with
    | none => rw [hl] at hr; cases hr
    | some b =>
      rw [hl] at hr
      simp only at hr
      cases hb : u8s (sliceD b.cells off (off + n)) with
      | none => rw [hb] at hr; cases hr
      | some l =>
        rw [hb] at hr
        simp only [Option.map_some, Option.some.injEq] at hr; subst hr
        refine ⟨rfl, ?_⟩
        have hle : off + n ≤ b.cells.length := Nat.le_of_ble_eq_true hs
        obtain ⟨vs, e, h1, h2, _⟩ := h.bx sl b (hbx _ _ hl)
        have hlv : (look sl env.bx).isSome = true ∧ ∃ cap, v = .slice (some ⟨c.ρ sl, off, none⟩) n cap ∧ n ≤ cap := hx
        obtain ⟨_, cap, rfl, hcap⟩ := hlv
        have hsl : All2 (RepC c env w) (sliceD b.cells off (off + n)) (sliceD vs off (off + n)) := (h2.take _).drop _
        obtain ⟨ns, e1, e2, e3⟩ := u8s_repC hb hsl
        have hnl : ns.length = n := by rw [e3]; simp [sliceD]; omega
        have hc : ∀ j u, (ns.map (Value.int .u8))[j]? = some u → w.cell? ((⟨c.ρ sl, off, none⟩ : Addr).add j) = some u := by
          intro j u hj
          rw [← e1] at hj
          simp only [sliceD, List.getElem?_drop, List.getElem?_take] at hj
          split at hj
          · rw [addr_add_mk, cell_of_row w _ (off + j) ⟨vs⟩ e (0, 0) h1]
            simpa using hj
          · cases hj
        refine ⟨_, by
          rw [run_convert_bytes_string w s t u _ _ _ hks hku hk, ← hnl]
          exact run_bytesToString w _ _ _ ns (by
            have := run_loadCells_list (P := P) w ⟨c.ρ sl, off, none⟩ (ns.map (Value.int .u8)) hc
            simpa using this), ?_⟩
        rw [show ByteArray.empty = ⟨⟨[]⟩⟩ from rfl, foldl_push, e2]
        simp [RepT, RepV, RepC, Rep]
end

end Go.Proofs.YtnooelecdbbfkaaGreatDoor.Fw

/- Each value operation does what its evaluation over data says. -/
namespace Go.Proofs.YtnooelecdbbfkaaGreatDoor.Fw
open Go Go.RowKit
set_option linter.unusedSectionVars false
variable [Inhabited GLT]

section
variable {P : Program} {T : Ty} {c : Ctx} {env : Env} {a : Act} {w : World}

/-- Likewise, of a step of the machine. -/
def AfterN (P : Program) (c : Ctx) (env' : Env) (a : Act) (w : World) (d : D) (s : Sem Next) : Prop :=
  ∃ v w' c', s.run P w = .ok (.value v) w' ∧ c.Next c' ∧ St c' env' a w' ∧ RepT c' env' w' d v

theorem After.next {env' : Env} {d : D} {s : Sem Value} (h : After P c env env' a w d s) : AfterN P c env' a w d (do pure (.value (← s))) := by
  obtain ⟨v, w', c', h1, h2, h3, h4⟩ := h
  exact ⟨v, w', c', by simp [h1], h2, h3, h4⟩

theorem AfterN.of_run {env' : Env} {d : D} {s s' : Sem Next} (e : s.run P w = s'.run P w) (h : AfterN P c env' a w d s') : AfterN P c env' a w d s := by
  unfold AfterN at *
  rw [e]; exact h

theorem run_builtin (ρ : Operand → Value) (dst : Option Tmp) (b : Builtin) (args : Array Operand) (argTypes : Array TypeId) (ty : TypeId) (pos : String) (after : Array Edge) (guard : Option (Nat × Bool)) :
    (execOp ρ { dst, op := .call ⟨.builtin b, args, argTypes⟩, type := ty, pos, after, guard }).run P w = (builtin b argTypes ty (args.map fun | .const _ => true | _ => false) (args.map ρ)).run P w := by
  simp [execOp, resolve, invoke]
  rfl

/-- What a slot that may stand under a guard holds. -/
def RepX (c : Ctx) (env : Env) (w : World) (tmps : Array Value) (d : D) (v : Value) : Prop :=
  match d with
  | .wh s b d => tmps.getD s undef = .bool b → RepT c env w d v
  | d => RepT c env w d v

theorem rep_tvX (h : St c env a w) (x : Operand) : RepX c env w a.tmps (tv env.wt env.tm x) (a.eval x) := by
  cases x with
  | tmp t =>
    simp only [tv, Act.eval]
    cases hw : look t env.wt with
    | some d =>
      have := h.wt t d hw
      cases d <;> first | exact this.elim | exact this.1
    | none =>
      simp only
      cases ht : look t env.tm with
      | none => simp [RepX, RepT]
      | some d =>
        have := h.tm t d ht
        simp only [Option.getD_some]
        cases d <;> first | exact this | exact (this : False).elim
  | const v =>
    have := rep_const (c := c) (env := env) (w := w) v
    simp only [tv, Act.eval]
    cases hd : dconst v <;> rw [hd] at this <;> first | exact this | exact (this : False).elim
  | global n => simp [tv, RepX, RepT]
  | func f => simp [tv, RepX, Act.eval, RepT, RepV, RepC, Rep, RepL]

theorem repX_unw {g : Option (Nat × Bool)} (hg : GOK a g) {d : D} {v : Value} (h : RepX c env w a.tmps d v) : RepT c env w (unw g d) v := by
  cases d with
  | wh s b d =>
    simp only [unw]
    cases g with
    | none => trivial
    | some p =>
      obtain ⟨s', b'⟩ := p
      simp only
      cases hc : (Nat.beq s s' && b == b') with
      | false => trivial
      | true =>
        simp only [Bool.and_eq_true, beq_iff_eq] at hc
        obtain ⟨h1, rfl⟩ := hc
        obtain rfl := nbeq.1 h1
        exact h (hg s b rfl)
  | _ => exact h

theorem loadD_mono {bx bx' : List (Nat × BoxC)} (hb : ∀ s b, look s bx = some b → look s bx' = some b) {e : TE} {x d : D} (h : loadD bx e x = some d) : loadD bx' e x = some d := by
  unfold loadD at *
  split at h
  · rename_i s off
    cases hl : look s bx with
    | none => rw [hl] at h; cases h
    | some b => rw [hl] at h; simp only [hb s b hl]; exact h
  · exact h
  · cases h

theorem capD_mono {bx bx' : List (Nat × BoxC)} (hb : ∀ s b, look s bx = some b → look s bx' = some b) {mp : List (Nat × MapC)} {x : D} {r : Nat × D × List Nat} (h : capD bx mp x = some r) : capD bx' mp x = some r := by
  unfold capD at *
  split at h
  · rename_i s
    cases hl : look s bx with
    | none => rw [hl] at h; cases h
    | some b => rw [hl] at h; simp only [hb s b hl]; exact h
  · cases h

theorem allSome_mono {α β : Type} {f f' : α → Option β} (hf : ∀ x r, f x = some r → f' x = some r) : ∀ {l : List α} {r : List β}, allSome (l.map f) = some r → allSome (l.map f') = some r
  | [], r, h => h
  | x :: l, r, h => by
    simp only [List.map_cons] at h ⊢
    cases hx : f x with
    | none => rw [hx] at h; simp [allSome] at h
    | some y =>
      rw [hx] at h
      simp only [allSome] at h
      cases hr : allSome (l.map f) with
      | none => rw [hr] at h; cases h
      | some r2 =>
        rw [hr] at h
        rw [hf x y hx]
        simp only [allSome]
        rw [allSome_mono hf hr]; exact h

theorem repX_unwk {g : Option (Nat × Bool)} (hg : GOK a g) {d : D} {v : Value} (h : RepX c env w a.tmps d v) : RepX c env w a.tmps (unwk g d) v := by
  cases d with
  | wh s b d =>
    simp only [unwk]
    cases g with
    | none => exact h
    | some p =>
      obtain ⟨s', b'⟩ := p
      simp only
      cases hc : (Nat.beq s s' && b == b') with
      | false => exact h
      | true =>
        simp only [Bool.and_eq_true, beq_iff_eq] at hc
        obtain ⟨h1, rfl⟩ := hc
        obtain rfl := nbeq.1 h1
        have : RepT c env w d v := h (hg s b rfl)
        rw [cond_true]
        cases d <;> first | exact this | exact (this : False).elim
  | _ => exact h

theorem repT_unwp {cnd : Operand} {t : Bool} (hc : a.eval cnd = .bool t) {d : D} {v : Value} (h : RepX c env w a.tmps d v) : RepT c env w (unwp cnd t d) v := by
  cases d with
  | wh s b d =>
    simp only [unwp]
    cases cnd with
    | tmp t' =>
      simp only
      cases hh : (Nat.beq s t' && b == t) with
      | false => trivial
      | true =>
        simp only [Bool.and_eq_true, beq_iff_eq] at hh
        obtain ⟨h1, rfl⟩ := hh
        obtain rfl := nbeq.1 h1
        exact h hc
    | _ => trivial
  | _ => exact h

theorem good_repV {d : D} {v : Value} (hg : d.good = true) (h : RepT c env w d v) : RepV c env w d v := by
  cases d <;> first | (cases hg; done) | exact h

theorem goods_repP {ρ : Operand → D} (hρ : ∀ x, RepT c env w (ρ x) (a.eval x)) : ∀ {ps : List (Nat × Operand)} {qs : List (Nat × D)}, goods (ps.map fun p => (p.1, ρ p.2)) = some qs → qs = (ps.map fun p => (p.1, ρ p.2)) ∧ RepP c env w qs (ps.map fun p => (p.1, a.eval p.2)) := by
  intro ps qs h
  unfold goods at h
  cases hall : (ps.map fun p => (p.1, ρ p.2)).all (fun p => p.2.good) with
  | false => rw [hall] at h; cases h
  | true =>
    rw [hall] at h
    simp only [cond_true, Option.some.injEq] at h; subst h
    refine ⟨rfl, ?_⟩
    revert hall
    induction ps with
    | nil => exact fun _ => trivial
    | cons p ps ih =>
      intro hall
      simp only [List.map_cons, List.all_cons, Bool.and_eq_true] at hall ⊢
      exact ⟨⟨rfl, good_repV hall.1 (hρ p.2)⟩, ih hall.2⟩

theorem memR_pure {dst : Nat} {s : Bool} {d d' : D} {env' : Env} (h : memR env dst { side := s, d := d } = some (env', d')) : env' = env ∧ d' = d := by
  simp only [memR, frzM, frzB, Option.some.injEq, Prod.mk.injEq] at h
  exact ⟨h.1.symm, h.2.symm⟩

theorem free_spec {dst : Nat} (h : env.free dst = true) : look dst env.bx = none ∧ look dst env.mp = none := by
  simp only [Env.free, Bool.and_eq_true, Option.isNone_iff_eq_none] at h
  exact h

theorem all2_map {α β γ : Type} {R : α → β → Prop} {f : γ → α} {g : γ → β} (h : ∀ x, R (f x) (g x)) : ∀ l : List γ, All2 R (l.map f) (l.map g)
  | [] => trivial
  | x :: l => ⟨h x, all2_map h l⟩

theorem two_args {ve : Operand → D} (hv : ∀ x, RepT c env w (ve x) (a.eval x)) {args : Array Operand} {d1 d2 : D} (h : args.toList.map ve = [d1, d2]) : ∃ v1 v2, args.map a.eval = #[v1, v2] ∧ RepT c env w d1 v1 ∧ RepT c env w d2 v2 := by
  obtain ⟨l⟩ := args
  match l, h with
  | [x, y], h =>
    simp only [List.map_cons, List.map_nil, List.cons.injEq, and_true] at h
    obtain ⟨rfl, rfl⟩ := h
    exact ⟨a.eval x, a.eval y, by simp, hv x, hv y⟩

theorem elemTy_spec (hT : TyOK P T) {t u : Nat} {eu : TE} (h : elemTy T t = some (u, eu)) : T u = some eu ∧ P.underlying t = some (.slice u) := by
  unfold elemTy at h
  cases ht : T t with
  | none => rw [ht] at h; cases h
  | some e =>
    rw [ht] at h
    have hk := (hT t e ht).kind
    simp only at h
    cases hk' : e.kind <;> rw [hk'] at h hk <;> first | (cases h; done) | skip
    rename_i u'
    simp only at h
    cases hu : T u' with
    | none => rw [hu] at h; cases h
    | some eu' =>
      rw [hu] at h
      simp only [Option.map_some, Option.some.injEq, Prod.mk.injEq] at h
      obtain ⟨rfl, rfl⟩ := h
      exact ⟨hu, hk⟩

theorem notIfc_spec {t : Nat} {e : TE} (h : TEok P t e) (hn : e.kind.notIfc = true) : ∃ d, P.underlying t = some d ∧ ∀ ms, d ≠ .interface ms := by
  have hk := h.kind
  cases hk' : e.kind <;> rw [hk'] at hk hn <;> simp only [KindOK] at hk <;> first | (cases hn; done) | skip
  case agg fs => obtain ⟨Fs, h, _⟩ := hk; exact ⟨_, h, fun _ e => by cases e⟩
  case ptr => obtain ⟨x, h⟩ := hk; exact ⟨_, h, fun _ e => by cases e⟩
  case func => obtain ⟨x, y, z, h⟩ := hk; exact ⟨_, h, fun _ e => by cases e⟩
  all_goals exact ⟨_, hk, fun _ e => by cases e⟩

theorem fresh_spec {s : Nat} (h : env.fresh s = true) : s < bigS ∧ look s env.us = none ∧ s ∉ env.dd := by
  simp only [Env.fresh, Bool.and_eq_true, Nat.blt_eq, Option.isNone_iff_eq_none, Bool.not_eq_true', List.contains_eq_mem, decide_eq_false_iff_not] at h
  exact h
theorem killOK_spec {k u : Nat} (h : env.killOK k u = true) : k = 1 ∨ (2 ≤ k ∧ look k env.us = some u ∧ k ∉ env.dd) := by
  simp only [Env.killOK, Bool.and_eq_true, Bool.or_eq_true, nbeq, Nat.ble_eq, beq_iff_eq, Bool.not_eq_true', List.contains_eq_mem, decide_eq_false_iff_not] at h
  exact h
theorem repT_asSl {d : D} {v : Value} (h : RepT c env w d v) : RepT c env w (asSl d) v := by
  cases d <;> first | exact h | skip
  case nils =>
    have h : v = .slice none 0 0 := by simpa [RepT, RepV, RepC, Rep] using h
    subst h
    exact ⟨⟨rfl, .inl ⟨rfl, rfl⟩⟩, .inl rfl⟩
  case sle =>
    have h : ∃ a cap, v = .slice (some a) 0 cap := by simpa [RepT, RepV, RepC, Rep] using h
    obtain ⟨a, cap, rfl⟩ := h
    exact ⟨⟨rfl, .inr ⟨a, cap, rfl, Nat.zero_le _, by simp only [RepRow]⟩⟩, .inl rfl⟩
theorem yield_nil (hT : TyOK P T) {t : Nat} {x y : Operand} {op : BinOp} {d : D} {v : Value} (hc : isNilC y = true) (ht : isSlTy T t = true) (hx : RepT c env w d v) {r : Res} (hr : nilD op d = some r) : r = { side := r.side, d := r.d } ∧ Yield P c env w r.d (binV op t x y v (a.eval y)) := by
  obtain ⟨n, m, rfl⟩ : ∃ n m, y = .const (.slice none n m) := by
    unfold isNilC at hc
    split at hc
    · exact ⟨_, _, rfl⟩
    · cases hc
  obtain ⟨u, hu⟩ : ∃ u, P.underlying t = some (.slice u) := by
    unfold isSlTy at ht
    split at ht
    · rename_i e he
      split at ht
      · rename_i u hk
        have := (hT t e he).kind
        rw [hk] at this; exact ⟨u, this⟩
      · cases ht
    · cases ht
  unfold nilD at hr
  cases hn : isNilD d with
  | none => rw [hn] at hr; cases hr
  | some b =>
    rw [hn] at hr
    obtain ⟨o, n', m', rfl, hb⟩ : ∃ o n' m', v = .slice o n' m' ∧ o.isNone = b := by
      unfold isNilD at hn
      split at hn <;> first | (cases hn; done) | skip
      · simp only [Option.some.injEq] at hn; subst hn
        have h : v = .slice none 0 0 := by simpa [RepT, RepV, RepC, Rep] using hx
        exact ⟨_, _, _, h, rfl⟩
      · simp only [Option.some.injEq] at hn; subst hn
        have h : ∃ a cap, v = .slice (some a) 0 cap := by simpa [RepT, RepV, RepC, Rep] using hx
        obtain ⟨a, cap, h⟩ := h
        exact ⟨_, _, _, h, rfl⟩
      · simp only [Option.some.injEq] at hn; subst hn
        obtain ⟨h1, _⟩ := repT_sl hx
        rcases h1 with ⟨_, h⟩ | ⟨a, cap, h, _⟩
        · cases h
        · exact ⟨_, _, _, h, rfl⟩
    have heq : (Op.equal t (.slice o n' m') (.slice none n m)).run P w = .ok b w := by
      have key : ∀ k, (Op.equalIn (k + 1) t (.slice o n' m') (.slice none n m)).run P w = .ok b w := fun k => by
        cases o with
        | none => simp only [Op.equalIn, Sem.run_bind, run_underlying hu, Result.andThen_ok, Sem.run_pure, ← hb, Option.isNone_none]
        | some o => simp only [Op.equalIn, Sem.run_bind, run_underlying hu, Result.andThen_ok, Sem.run_pure, ← hb, Option.isNone_some]
      exact key 9999
    cases op <;> simp only [ok, Option.some.injEq] at hr <;> first | (cases hr; done) | (subst hr; refine ⟨rfl, ⟨_, ?_, mkBool _⟩⟩)
    · simp only [binV, eqGuard, Act.eval, (binOp_eqs t (vx := .slice o n' m') (vy := .slice none n m) (by simp)).1]; simp [heq]
    · simp only [binV, eqGuard, Act.eval, (binOp_eqs t (vx := .slice o n' m') (vy := .slice none n m) (by simp)).2]; simp [heq]
theorem appendR_row {rw : List (Nat × RowC)} {t dst : Nat} {x y : D} {r : Res} (h : appendR T rw t dst x y = some r) : ∃ rc, r.row = some rc ∧ r.fz = [] ∧ r.fm = [] := by
  have key : ∀ {b : Bool} {q : Option Res}, (q = some r → ∃ rc, r.row = some rc ∧ r.fz = [] ∧ r.fm = []) → (bif b then q else none) = some r → ∃ rc, r.row = some rc ∧ r.fz = [] ∧ r.fm = [] := by
    intro b q h1 h2
    cases b with
    | false => cases h2
    | true => exact h1 h2
  unfold appendR at h
  repeat' split at h
  all_goals first
    | (cases h; done)
    | refine key (fun h => ?_) h
  all_goals repeat' split at h
  all_goals first
    | (cases h; done)
    | refine key (fun h => ?_) h
  all_goals repeat' split at h
  all_goals first
    | (cases h; done)
    | (refine key (fun h => ?_) h; cases h; exact ⟨_, rfl, rfl, rfl⟩)
    | (cases h; exact ⟨_, rfl, rfl, rfl⟩)

set_option maxHeartbeats 1000000 in
theorem opR_sound (hT : TyOK P T) (h : St c env a w) {g : Option (Nat × Bool)} (hg : GOK a g) {ρ : Operand → D} (hρ : ∀ x, RepX c env w a.tmps (ρ x) (a.eval x)) {bx0 : List (Nat × BoxC)} (hbx : ∀ s b, look s bx0 = some b → look s env.bx = some b)
    {rw0 : List (Nat × RowC)} (hrw : ∀ st r, look st rw0 = some r → look st env.rows = some r) {o : Oper} {dst : Nat} {r : Res} (hr : opR T g ρ bx0 env.mp rw0 dst o.op = some r) (hs : r.side = true)
    {env' : Env} {d : D} (hm : memR env dst r = some (env', d)) : AfterN P c env' a w d (execOp a.eval o) := by
  have hv : ∀ x, RepT c env w ((fun x => unw g (ρ x)) x) (a.eval x) := fun x => repX_unw hg (hρ x)
  have hp : ∀ c0 t x, a.eval c0 = .bool t → RepT c env w ((fun c b x => unwp c b (unwk g (ρ x))) c0 t x) (a.eval x) := fun c0 t x hc => repT_unwp hc (repX_unwk hg (hρ x))
  unfold opR at hr
  generalize (fun x => unw g (ρ x)) = ve at hv hr
  generalize (fun c b x => unwp c b (unwk g (ρ x))) = pk at hp hr
  obtain ⟨odst, op, ty, pos, after, guard⟩ := o
  simp only at hr
  unfold opV at hr
  have pure_ : ∀ {d0 : D} {sd : Bool} {s : Sem Value}, r = { side := sd, d := d0 } → Yield P c env w d0 s → AfterN P c env' a w d (do pure (.value (← s))) := by
    intro d0 sd s e y
    subst e
    obtain ⟨rfl, rfl⟩ := memR_pure hm
    exact (y.after h).next
  have resB_ : ∀ {x : Option (Bool × D)} {s : Sem Value}, resB x = some r → (∀ sd d0, x = some (sd, d0) → sd = true → Yield P c env w d0 s) → AfterN P c env' a w d (do pure (.value (← s))) := by
    intro x s e y
    cases x with
    | none => cases e
    | some p =>
      obtain ⟨sd, d0⟩ := p
      simp only [resB, Option.map_some, Option.some.injEq] at e
      exact pure_ e.symm (y sd d0 rfl (by rw [← e] at hs; exact hs))
  have res_ : ∀ {x : Option D} {s : Sem Value}, res x = some r → (∀ d0, x = some d0 → Yield P c env w d0 s) → AfterN P c env' a w d (do pure (.value (← s))) := by
    intro x s e y
    cases x with
    | none => cases e
    | some d0 =>
      simp only [res, Option.map_some, Option.some.injEq] at e
      exact pure_ e.symm (y d0 rfl)
  cases op <;> (try simp only at hr) <;> first | (cases hr; done) | skip
  case move x =>
    simp only [ok, Option.some.injEq] at hr; subst hr
    obtain ⟨rfl, rfl⟩ := memR_pure hm
    exact ⟨a.eval x, w, c, rfl, .refl c, h, hv x⟩
  case assign x =>
    simp only [ok, Option.some.injEq] at hr; subst hr
    obtain ⟨rfl, rfl⟩ := memR_pure hm
    exact ⟨a.eval x, w, c, rfl, .refl c, h, hv x⟩
  case pick c0 x y =>
    split at hr
    · rename_i t b1 b2 e1 e2 e3
      simp only [ok, Option.some.injEq] at hr; subst hr
      obtain ⟨rfl, rfl⟩ := memR_pure hm
      have hc := hv c0
      rw [e1] at hc
      have hc := repT_bool hc
      refine ⟨if t then a.eval x else a.eval y, w, c, ?_, .refl c, h, ?_⟩
      · simp only [execOp]
        rw [hc]; cases t <;> simp [asBool]
      · cases t with
        | true =>
          have := hp c0 true x hc
          rw [e2] at this; simpa using this
        | false =>
          have := hp c0 false y hc
          rw [e3] at this; simpa using this
    · rename_i t b2 e1 e2 e3
      simp only [Option.some.injEq] at hr; subst hr
      obtain ⟨rfl, rfl⟩ := memR_pure hm
      have ht : t = false := by simpa using hs
      subst ht
      have hc := hv c0
      rw [e1] at hc
      have hc := repT_bool hc
      refine ⟨a.eval y, w, c, ?_, .refl c, h, ?_⟩
      · simp only [execOp]
        rw [hc]; simp [asBool]
      · have := hp c0 false y hc
        rw [e3] at this; simpa using this
    · rename_i t b1 e1 e2 e3
      simp only [Option.some.injEq] at hr; subst hr
      obtain ⟨rfl, rfl⟩ := memR_pure hm
      have ht : t = true := hs
      subst ht
      have hc := hv c0
      rw [e1] at hc
      have hc := repT_bool hc
      refine ⟨a.eval x, w, c, ?_, .refl c, h, ?_⟩
      · simp only [execOp]
        rw [hc]; simp [asBool]
      · have := hp c0 true x hc
        rw [e2] at this; simpa using this
    · cases hr
  case alloc t =>
    cases ht : T t with
    | none => rw [ht] at hr; cases hr
    | some e =>
      rw [ht] at hr
      simp only [Option.map_some, Option.some.injEq] at hr; subst hr
      simp only [memR, frzM, frzB] at hm
      cases hf : env.free dst with
      | false => rw [hf] at hm; cases hm
      | true =>
        rw [hf] at hm
        simp only [cond_true, Option.some.injEq, Prod.mk.injEq] at hm
        obtain ⟨rfl, rfl⟩ := hm
        exact (after_alloc h (hT t e ht) (free_spec hf).1 (free_spec hf).2).next
  case box t x =>
    cases ht : T t with
    | none => rw [ht] at hr; cases hr
    | some e =>
      rw [ht] at hr
      simp only at hr
      cases hgd : ((ve x).good && Nat.beq (ve x).cells.length e.size) with
      | false => rw [hgd] at hr; cases hr
      | true =>
      rw [hgd] at hr
      simp only [cond_true, Option.some.injEq] at hr; subst hr
      simp only [Bool.and_eq_true] at hgd
      simp only [memR, frzM, frzB] at hm
      cases hf : env.free dst with
      | false => rw [hf] at hm; cases hm
      | true =>
        rw [hf] at hm
        simp only [cond_true, Option.some.injEq, Prod.mk.injEq] at hm
        obtain ⟨rfl, rfl⟩ := hm
        exact (after_box (t := t) h (good_repV hgd.1 (hv x)) (free_spec hf).1 (free_spec hf).2).next
  case build t ps =>
    split at hr
    · rename_i e qs ht hq
      cases hb : buildD T e qs with
      | none => rw [hb] at hr; cases hr
      | some cs =>
        rw [hb] at hr
        simp only [Option.map_some, Option.some.injEq] at hr
        obtain ⟨hq', hpp⟩ := goods_repP (ρ := ve) hv hq
        have y := yield_build hT ht hpp (cs := cs) (by unfold buildD at hb; exact hb)
        have e1 : ps.map (fun p => (p.1, a.eval p.2)) = ⟨ps.toList.map fun p => (p.1, a.eval p.2)⟩ := by
          apply Array.ext'; simp
        have := pure_ hr.symm y
        rw [← e1] at this
        exact this
    · cases hr
  case buildSlice t n ps =>
    split at hr
    · rename_i qs hq
      obtain ⟨hq', hpp⟩ := goods_repP (ρ := ve) hv hq
      have e1 : ps.map (fun p => (p.1, a.eval p.2)) = ⟨ps.toList.map fun p => (p.1, a.eval p.2)⟩ := by
        apply Array.ext'; simp
      show AfterN P c env' a w d (do pure (.value (← Instr.buildSlice t n (ps.map fun p => (p.1, a.eval p.2)))))
      rw [e1]
      unfold buildSliceD at hr
      cases het : elemTy T t with
      | none => rw [het] at hr; cases hr
      | some p =>
        obtain ⟨u, eu⟩ := p
        rw [het] at hr
        simp only at hr
        cases hsz : (!Nat.ble (n * eu.size) 16777216 || Nat.beq eu.size 0) with
        | true => rw [hsz] at hr; cases hr
        | false =>
          rw [hsz] at hr
          simp only [Bool.or_eq_false_iff, Bool.not_eq_false', Nat.ble_eq, nbeq_f] at hsz
          simp only [cond_false] at hr
          cases hb : buildCells (fun i => some (i * eu.size, eu.size)) ((List.replicate n eu.zero.cells).flatten) qs with
          | none => rw [hb] at hr; cases hr
          | some cs =>
            rw [hb] at hr
            simp only at hr
            obtain ⟨hu, hk⟩ : T u = some eu ∧ P.underlying t = some (.slice u) := by
              exact elemTy_spec hT het
            cases hc : (bif T.mu (u + 1000000) then none else cloL env.mp cs) with
            | none =>
              rw [hc] at hr
              simp only [Option.some.injEq] at hr; subst hr
              simp only [memR, frzM, frzB] at hm
              cases hf : env.free dst with
              | false => rw [hf] at hm; cases hm
              | true =>
                rw [hf] at hm
                simp only [cond_true, Option.some.injEq, Prod.mk.injEq] at hm
                obtain ⟨rfl, rfl⟩ := hm
                exact (after_buildLocal hT h hk hu hsz.1 hsz.2 hpp hb (free_spec hf).1 (free_spec hf).2).next
            | some cs' =>
              rw [hc] at hr
              replace hc : cloL env.mp cs = some cs' := by
                cases hmu : T.mu (u + 1000000) with
                | true => rw [hmu] at hc; cases hc
                | false => rw [hmu] at hc; exact hc
              simp only [Option.some.injEq] at hr; subst hr
              simp only [memR, frzB] at hm
              cases hf : frzM env.mp (cloM (.agg cs)) with
              | none => rw [hf] at hm; cases hm
              | some mp =>
                rw [hf] at hm
                simp only [Option.some.injEq, Prod.mk.injEq] at hm
                obtain ⟨rfl, rfl⟩ := hm
                exact (after_buildSlice hT h hk hu hsz.1 hsz.2 hpp hb hc hf).next
    · cases hr
  case load t x =>
    cases ht : T t with
    | none => rw [ht] at hr; cases hr
    | some e =>
      rw [ht] at hr
      simp only at hr
      have hx := hv x
      have gen : res (loadD bx0 e (ve x)) = some r → AfterN P c env' a w d (do pure (.value (← Instr.loadAt t (a.eval x)))) := fun hr => res_ hr fun d0 hd => yield_loadAt (hT t e ht) h (hv x) (loadD_mono hbx hd)
      cases hvx : ve x with
      | rptr st es i off =>
        rw [hvx] at hr hx
        exact resB_ hr fun sd d0 hd hsd => yield_rowLoad (hT t e ht) h hx (rowD_mono hrw hd) hsd
      | _ => rw [hvx] at hr gen; exact gen hr
  case nilCheck x =>
    split at hr
    · rename_i s off e
      simp only [ok, Option.some.injEq] at hr; subst hr
      obtain ⟨rfl, rfl⟩ := memR_pure hm
      have hx := hv x
      rw [e] at hx
      refine ⟨a.eval x, w, c, ?_, .refl c, h, hx⟩
      have := (repT_loc hx).2
      simp only [execOp, this]; rfl
    · rename_i d0 off e
      simp only [ok, Option.some.injEq] at hr; subst hr
      obtain ⟨rfl, rfl⟩ := memR_pure hm
      have hx := hv x
      rw [e] at hx
      refine ⟨a.eval x, w, c, ?_, .refl c, h, hx⟩
      obtain ⟨ad, h1, _⟩ := repT_eptr hx
      simp only [execOp, h1]; rfl
    · rename_i st es i off e
      cases hl : look st rw0 with
      | none => rw [hl] at hr; cases hr
      | some rc =>
        rw [hl] at hr
        simp only [Option.map_some, Option.some.injEq] at hr; subst hr
        obtain ⟨rfl, rfl⟩ := memR_pure hm
        have hx := hv x
        rw [e] at hx
        refine ⟨a.eval x, w, c, ?_, .refl c, h, hx⟩
        obtain ⟨g, _, h1⟩ := rowP_live hx (hrw _ _ hl)
        simp only [execOp, h1]; rfl
    · cases hr
  case binOp bop t x y z =>
    cases hn : (isNilC y && isSlTy T t) with
    | true =>
      rw [hn, cond_true] at hr
      simp only [Bool.and_eq_true] at hn
      obtain ⟨h1, h2⟩ := yield_nil hT hn.1 hn.2 (hv x) hr
      exact pure_ h1 h2
    | false =>
      rw [hn, cond_false] at hr
      obtain ⟨h1, h2⟩ := yield_bin hT (hv x) (hv y) hr
      exact pure_ h1 (h2 hs)
  case unOp uop t x =>
    obtain ⟨h1, h2⟩ := yield_un (hv x) hr
    exact pure_ h1 h2
  case convert s t x =>
    have hx := hv x
    have gen : ∀ d1, ve x = d1 → res (convD T s t d1) = some r → AfterN P c env' a w d (do pure (.value (← convert s t (a.eval x)))) := fun d1 e hr => res_ hr fun d0 hd => yield_conv hT (by rw [← e]; exact hv x) hd
    cases hvx : ve x with
    | rsl st es lo n =>
      rw [hvx] at hr hx
      simp only at hr
      obtain ⟨e1, y⟩ := yield_convRow hT h hrw hx hr hs
      exact pure_ e1 y
    | lsl sl off n =>
      rw [hvx] at hr hx
      simp only at hr
      obtain ⟨e1, y⟩ := yield_convLsl hT h hbx hx hr hs
      exact pure_ e1 y
    | str l =>
      rw [hvx] at hr hx
      simp only at hr
      cases het : elemTy T t with
      | none => rw [het] at hr; exact gen _ hvx hr
      | some q =>
        rw [het] at hr
        simp only at hr
        have key : ∀ rc, r.row = some rc → r.fz = [] → r.fm = [] → r.kill = 1 → env.fresh (2 * dst + 3) = true ∧ env' = env.stampR (2 * dst + 3) rc 1 ∧ d = r.d := by
          intro rc e1 e2 e3 e4
          simp only [memR, e1, e2, e3, e4, frzM, frzB] at hm
          cases hcd : (env.fresh (2 * dst + 3) && env.killOK 1 rowMark) with
          | false => rw [hcd] at hm; cases hm
          | true =>
            rw [hcd] at hm
            simp only [cond_true, Option.some.injEq, Prod.mk.injEq] at hm
            simp only [Bool.and_eq_true] at hcd
            exact ⟨hcd.1, hm.1.symm, hm.2.symm⟩
        obtain ⟨_, u, eu, f1, f2, f3, f4⟩ := bytesD_spec hr
        obtain ⟨k1, rfl, rfl⟩ := key _ (by rw [f4]) (by rw [f4]) (by rw [f4]) (by rw [f4])
        obtain ⟨q1, q2, q3⟩ := fresh_spec k1
        obtain ⟨_, _, _, rc', e1', this⟩ := after_bytes (a := a) hT h hx hr hs q2 ⟨q3, q1⟩
        rw [f4] at e1'; cases e1'
        exact this.next
    | _ => rw [hvx] at hr; exact gen _ hvx hr
  case makeSlice t x y =>
    have hx := hv x
    have hy := hv y
    cases hvx : ve x <;> rw [hvx] at hr hx <;> (try simp only at hr) <;> first | (cases hr; done) | skip
    rename_i k1 n
    cases hvy : ve y <;> rw [hvy] at hr hy <;> (try simp only at hr) <;> first | (cases hr; done) | skip
    rename_i k2 m
    have key : ∀ rc, r.row = some rc → r.fz = [] → r.fm = [] → r.kill = 1 → env.fresh (2 * dst + 3) = true ∧ env' = env.stampR (2 * dst + 3) rc 1 ∧ d = r.d := by
      intro rc e1 e2 e3 e4
      simp only [memR, e1, e2, e3, e4, frzM, frzB] at hm
      cases hcd : (env.fresh (2 * dst + 3) && env.killOK 1 rowMark) with
      | false => rw [hcd] at hm; cases hm
      | true =>
        rw [hcd] at hm
        simp only [cond_true, Option.some.injEq, Prod.mk.injEq] at hm
        simp only [Bool.and_eq_true] at hcd
        exact ⟨hcd.1, hm.1.symm, hm.2.symm⟩
    obtain ⟨u, eu, k, z, f1, f2, f3, f4⟩ := mkRowD_spec hr
    obtain ⟨g1, rfl, rfl⟩ := key _ (by rw [f4]) (by rw [f4]) (by rw [f4]) (by rw [f4])
    obtain ⟨q1, q2, q3⟩ := fresh_spec g1
    obtain ⟨rc', e1', this⟩ := after_make (a := a) (k1 := k1) (k2 := k2) hT h hr hs q2 ⟨q3, q1⟩
    rw [f4] at e1'; cases e1'
    have ex : a.eval x = .int k1 n := by simpa [RepT, RepV, RepC, Rep] using hx
    have ey : a.eval y = .int k2 m := by simpa [RepT, RepV, RepC, Rep] using hy
    show AfterN P c _ a w _ (do pure (.value (← Instr.makeSlice t (a.eval x) (a.eval y))))
    rw [ex, ey]
    exact this.next
  case makeInterface t x =>
    cases ht : T t with
    | none => rw [ht] at hr; cases hr
    | some e =>
    rw [ht] at hr
    simp only at hr
    cases hn : e.kind.notIfc with
    | false => rw [hn] at hr; cases hr
    | true =>
    rw [hn, cond_true] at hr
    obtain ⟨td, htd, hni⟩ := notIfc_spec (hT t e ht) hn
    rcases sealD_cases bx0 (ve x) with ⟨s, p, e1, e2, e3, e4⟩ | ⟨e3, e4⟩
    · rw [e3, e4] at hr
      have hcl : clo env.mp p.2.1 = some p.2.1 := by
        obtain ⟨b, cs, _, _, _, rfl⟩ := capD_spec e2
        rfl
      rw [hcl, e1] at hr
      simp only [Option.map_some, Option.some.injEq] at hr; subst hr
      have hcm : cloM (.loc s 0) = [] := rfl
      simp only [memR, hcm, frzM] at hm
      cases hf : frzB env.bx [s] with
      | none => rw [hf] at hm; cases hm
      | some bx =>
        rw [hf] at hm
        simp only [Option.some.injEq, Prod.mk.injEq] at hm
        obtain ⟨rfl, rfl⟩ := hm
        exact (after_ifaceS h htd hni (e1 ▸ hv x) (capD_mono hbx e2) hf).next
    rw [e3, e4] at hr
    cases hc : clo env.mp (ve x) with
    | none => rw [hc] at hr; cases hr
    | some x' =>
      rw [hc] at hr
      simp only [Option.map_some, Option.some.injEq] at hr; subst hr
      simp only [memR, frzB] at hm
      cases hf : frzM env.mp (cloM (ve x)) with
      | none => rw [hf] at hm; cases hm
      | some mp =>
        rw [hf] at hm
        simp only [Option.some.injEq, Prod.mk.injEq] at hm
        obtain ⟨rfl, rfl⟩ := hm
        exact (after_iface h htd hni (hv x) hc hf).next
  case makeFunc fn first caps =>
    cases fn <;> (try simp only at hr) <;> first | (cases hr; done) | skip
    rename_i f
    cases h0 : Nat.beq first.size 0 with
    | false => rw [h0] at hr; cases hr
    | true =>
      rw [h0, cond_true] at hr
      have hfirst : first = #[] := Array.eq_empty_of_size_eq_zero (nbeq.1 h0)
      subst hfirst
      cases hl : allSome (caps.toList.map fun x => capD bx0 env.mp (ve x)) with
      | none => rw [hl] at hr; cases hr
      | some l =>
        rw [hl] at hr
        simp only [Option.some.injEq] at hr; subst hr
        simp only [memR] at hm
        cases hfm : frzM env.mp (l.flatMap (·.2.2)) with
        | none => rw [hfm] at hm; cases hm
        | some mp =>
          cases hfb : frzB env.bx (l.map (·.1)) with
          | none => rw [hfm, hfb] at hm; cases hm
          | some bx =>
            rw [hfm, hfb] at hm
            simp only [Option.some.injEq, Prod.mk.injEq] at hm
            obtain ⟨rfl, rfl⟩ := hm
            have e1 : caps.map a.eval = ⟨caps.toList.map a.eval⟩ := by apply Array.ext'; simp
            refine AfterN.of_run (s' := do pure (.value (← Instr.makeFunc (.func f) #[] ⟨caps.toList.map a.eval⟩))) (by rw [← e1]; simp [execOp]) ?_
            exact (after_makeFunc (P := P) h (ds := caps.toList.map ve) (all2_map hv caps.toList) (by rw [List.map_map]; exact allSome_mono (fun x r hx => capD_mono hbx hx) hl) hfm hfb).next
  case makeMap t r0 =>
    cases r0 with
    | some _ => cases hr
    | none =>
      simp only [Option.some.injEq] at hr; subst hr
      simp only [memR, frzM, frzB] at hm
      cases hf : env.free dst with
      | false => rw [hf] at hm; cases hm
      | true =>
        rw [hf] at hm
        simp only [cond_true, Option.some.injEq, Prod.mk.injEq] at hm
        obtain ⟨rfl, rfl⟩ := hm
        exact (after_makeMap h (free_spec hf).1 (free_spec hf).2).next
  case slice t x lo hi mx =>
    have ho : ∀ y : Option Operand, RepO c env w (y.map ve) (y.map a.eval) := fun y => by cases y <;> first | trivial | exact hv _
    exact resB_ hr fun sd d0 hd hsd => yield_slice hT (hv x) (ho lo) (ho hi) (ho mx) (sliceOpD_mono hrw hd) hsd
  case fieldAddr t x f => exact res_ hr fun d0 hd => yield_fieldAddr hT (hv x) (fieldAddrD_mono hrw hd)
  case field t x f => exact res_ hr fun d0 hd => yield_field hT (hv x) hd
  case indexAddr t x i =>
    split at hr
    · rename_i k n e
      have hi := hv i
      rw [e] at hi
      refine resB_ hr fun sd d0 hd hsd => ?_
      rw [repT_int hi]
      exact yield_indexAddr hT (hv x) (indexAddrD_mono hrw hd) hsd
    · cases hr
  case index t x i =>
    split at hr
    · rename_i k n e
      have hi := hv i
      rw [e] at hi
      refine resB_ hr fun sd d0 hd hsd => ?_
      rw [repT_int hi]
      exact yield_index hT (hv x) hd hsd
    · cases hr
  case lookup t m k comma => exact resB_ hr fun sd d0 hd hsd => yield_lookup hT h (hv m) (hv k) hd hsd
  case extract x i =>
    split at hr
    · rename_i ds e
      have hx := hv x
      rw [e] at hx
      exact res_ hr fun d0 hd => yield_extract hx hd
    · cases hr
  case call cl =>
    obtain ⟨callee, args, argTypes⟩ := cl
    cases callee <;> (try simp only at hr) <;> first | (cases hr; done) | skip
    rename_i b
    cases b <;> (try simp only at hr) <;> first | (cases hr; done) | skip
    case append =>
      split at hr
      · rename_i x y t t' e1 e2
        cases htt : Nat.beq t t' with
        | false => rw [htt] at hr; cases hr
        | true =>
          obtain rfl := nbeq.1 htt
          rw [htt, cond_true] at hr
          have hx := hv x
          have hy := repT_asSl (hv y)
          have e3 : args = ⟨[x, y]⟩ := by apply Array.ext'; simpa using e1
          have e4 : argTypes = #[t, t] := by apply Array.ext'; simpa using e2
          subst e3; subst e4
          cases het : elemTy T t with
          | none => rw [het] at hr; cases hr
          | some p =>
          obtain ⟨u, eu⟩ := p
          rw [het] at hr
          simp only at hr
          obtain ⟨hu, hk⟩ := elemTy_spec hT het
          cases hmu : T.mu u with
          | true =>
            rw [hmu, cond_true] at hr
            have hr := appendR_mono hrw hr
            have key : ∀ rc, r.row = some rc → r.fz = [] → r.fm = [] → env.fresh (2 * dst + 3) = true ∧ env.killOK r.kill rowMark = true ∧ env' = env.stampR (2 * dst + 3) rc r.kill ∧ d = r.d := by
              intro rc e1 e2 e3
              simp only [memR, e1, e2, e3, frzM, frzB] at hm
              cases hcd : (env.fresh (2 * dst + 3) && env.killOK r.kill rowMark) with
              | false => rw [hcd] at hm; cases hm
              | true =>
                rw [hcd] at hm
                simp only [cond_true, Option.some.injEq, Prod.mk.injEq] at hm
                simp only [Bool.and_eq_true] at hcd
                exact ⟨hcd.1, hcd.2, hm.1.symm, hm.2.symm⟩
            obtain ⟨rc, e1, e2, e3⟩ := appendR_row hr
            obtain ⟨k1, k2, rfl, rfl⟩ := key rc e1 e2 e3
            obtain ⟨f1, f2, f3⟩ := fresh_spec k1
            obtain ⟨_, _, rc', e1', this⟩ := after_appendR hT h hx hy hr hs f2 ⟨f3, f1⟩ (killOK_spec k2) ty
            rw [e1] at e1'; cases e1'
            exact AfterN.of_run (by rw [run_builtin, show (⟨[x, y]⟩ : Array Operand).map a.eval = #[a.eval x, a.eval y] from by simp]; rfl) this.next
          | false =>
          rw [hmu, cond_false] at hr
          unfold appendD at hr
          split at hr
          · rename_i st es xs st2 es2 ys u' eu' ex ey het'
            rw [het] at het'
            obtain ⟨rfl, rfl⟩ : u = u' ∧ eu = eu' := by simpa using het'
            rw [ex] at hx
            rw [ey] at hy
            cases hb : ((Nat.beq es eu.size || (Nat.beq st 1 && xs.isEmpty)) && (Nat.beq es2 eu.size || ys.isEmpty)) with
            | false => rw [hb] at hr; cases hr
            | true =>
              rw [hb, cond_true, Option.some.injEq] at hr
              subst hr
              simp only [memR, frzM, frzB] at hm
              cases hcd : (!Nat.beq u rowMark && (env.fresh (2 * dst + 3) && env.killOK st u)) with
              | false => rw [hcd] at hm; cases hm
              | true =>
                rw [hcd] at hm
                simp only [cond_true, Option.some.injEq, Prod.mk.injEq] at hm
                obtain ⟨rfl, rfl⟩ := hm
                simp only [Bool.and_eq_true, Bool.or_eq_true, Bool.not_eq_true', nbeq, nbeq_f, List.isEmpty_iff] at hcd hb
                obtain ⟨f1, f2, f3⟩ := fresh_spec hcd.2.1
                have := after_append hT h hk hu hx hy (killOK_spec hcd.2.2) hb.1 hb.2 hcd.1 (by omega) f2 ⟨f3, f1⟩ (of_decide_eq_true hs) ty
                exact AfterN.of_run (by rw [run_builtin, show (⟨[x, y]⟩ : Array Operand).map a.eval = #[a.eval x, a.eval y] from by simp]; rfl) this.next
          · cases hr
      · cases hr
    case len =>
      split at hr
      · rename_i x e1
        split at hr
        · rename_i t e2
          cases ht : T t with
          | none => rw [ht] at hr; cases hr
          | some e =>
            rw [ht] at hr
            simp only at hr
            have e3 : args = ⟨[x]⟩ := by apply Array.ext'; simpa using e1
            have e4 : argTypes = #[t] := by apply Array.ext'; simpa using e2
            subst e3; subst e4
            have := res_ (s := Builtin.len_ #[t] ty #[a.eval x]) hr fun d0 hd => by
              cases hl : lenD env.mp rw0 e (ve x) with
              | none => rw [hl] at hd; cases hd
              | some n =>
                rw [hl] at hd
                rw [← Option.some.inj hd]
                exact yield_len hT h ht (hv x) (lenD_mono hrw hl) ty
            exact AfterN.of_run (by rw [run_builtin, show (⟨[x]⟩ : Array Operand).map a.eval = #[a.eval x] from by simp]; rfl) this
        · cases hr
      · cases hr
    case min =>
      split at hr
      · rename_i k x k' y e1
        cases hk : (k == k') with
        | false => rw [hk] at hr; cases hr
        | true =>
          obtain rfl := eq_of_beq hk
          rw [hk, cond_true] at hr
          simp only [ok, Option.some.injEq] at hr; subst hr
          obtain ⟨rfl, rfl⟩ := memR_pure hm
          obtain ⟨ax, ay, e2, hx, hy⟩ := two_args hv e1
          refine ⟨.int k (if y < x then y else x), w, c, ?_, .refl c, h, ?_⟩
          · rw [run_builtin, e2]
            simp [builtin, Builtin.min_, repT_int hx, repT_int hy, Builtin.min2]
          · simp [RepT, RepV, RepC, Rep]
      · cases hr
    case max =>
      split at hr
      · rename_i k x k' y e1
        cases hk : (k == k') with
        | false => rw [hk] at hr; cases hr
        | true =>
          obtain rfl := eq_of_beq hk
          rw [hk, cond_true] at hr
          simp only [ok, Option.some.injEq] at hr; subst hr
          obtain ⟨rfl, rfl⟩ := memR_pure hm
          obtain ⟨ax, ay, e2, hx, hy⟩ := two_args hv e1
          refine ⟨.int k (if y > x then y else x), w, c, ?_, .refl c, h, ?_⟩
          · rw [run_builtin, e2]
            simp [builtin, Builtin.max_, repT_int hx, repT_int hy, Builtin.max2]
          · simp [RepT, RepV, RepC, Rep]
      · cases hr
end

end Go.Proofs.YtnooelecdbbfkaaGreatDoor.Fw
