/- Looking into maps; conversions; the least and the greatest. -/
import Derived.Test.YtndijidmabfhcaaFwJ
namespace Go.Proofs.Ytndijidmabfhcaa.Fw
open Go Go.RowKit

theorem ba_beq (a b : ByteArray) : (a == b) = true ↔ a = b := by
  rw [beq_toListBytes, ByteArray.toList_eq, ByteArray.toList_eq, beq_iff_eq]
  constructor
  · intro h; apply ByteArray.ext; exact Array.toList_inj.1 h
  · rintro rfl; rfl

section
variable {P : Program} {T : Ty} {c : Ctx} {env : Env} {a : Act} {w : World}

open Classical in
/-- Is a key this one? -/
noncomputable def isKey (vk : Value) (e : MapEntry) : Bool := decide (vk = e.key)

theorem sameNow_spec {d : TypeDesc} {x : Value} {e : MapEntry} : Instr.sameNow d x e.key = some (isKey x e) ∨ Instr.sameNow d x e.key = none := by
  unfold Instr.sameNow isKey
  split
  · rename_i h1 h2
    split
    · rename_i hk; subst hk
      left; rw [h2]; congr 1
      rw [Bool.eq_iff_iff]; simp
    · exact .inr rfl
  · rename_i h1 h2
    left; rw [h2]; congr 1
    rw [Bool.eq_iff_iff, ba_beq]; simp
  · rename_i h1 h2
    left; rw [h2]; congr 1
    rw [Bool.eq_iff_iff]; simp
  · exact .inr rfl

theorem eqCs_false : ∀ {cs ds : List D} {us vs : List Value}, eqCs cs ds = some false → All2 (RepC c env w) cs us → All2 (RepC c env w) ds vs → us ≠ vs
  | x :: cs, y :: ds, u :: us, v :: vs, h, h1, h2 => by
    simp only [eqCs] at h
    cases e1 : eqD x y with
    | none => rw [e1] at h; cases h
    | some p =>
      cases e2 : eqCs cs ds with
      | none => rw [e1, e2] at h; cases h
      | some q =>
        rw [e1, e2] at h
        simp only [Option.some.injEq] at h
        rintro e
        injection e with e3 e4
        subst e3
        cases q with
        | false => exact eqCs_false e2 h1.2 h2.2 e4
        | true =>
          rw [Bool.and_true] at h; subst h
          rcases repC_eqD h1.1 h2.1 e1 with ⟨k, m, n, rfl, e5, e⟩ | ⟨m, n, rfl, e5, e⟩ | ⟨m, n, rfl, e5, e⟩
          · injection e5 with _ e5; subst e5; simp at e
          · injection e5 with e5; subst e5; simp at e
          · injection e5 with e5; injection e5 with e5; injection e5 with e5; subst e5; simp at e
  | [], [], _, _, h, _, _ => by simp [eqCs] at h
  | [], _ :: _, _, _, h, _, _ => by simp [eqCs] at h
  | _ :: _, [], _, _, h, _, _ => by simp [eqCs] at h
  | _ :: _, _ :: _, [], _, _, h, _ => h.elim
  | _ :: _, _ :: _, _ :: _, [], _, _, h => h.elim

theorem key_isKey {q : Nat} {k x : D} {vk : Value} {en : MapEntry} (hk : RepV c env w k vk) (hx : RepV c env w x en.key) {e : TE} (he : T q = some e) (hka : e.isAgg = k.isAgg) (hf : fitK T q k x = true) : eqKey k x = isKey vk en := by
  obtain ⟨h1, ⟨e', he', ha⟩, b, h2, h3, h4⟩ := fitK_spec hf
  rw [he] at he'; cases he'
  obtain ⟨us, rfl, hu⟩ := asV_of hk hka
  obtain ⟨vs, hv0, hv⟩ := asV_of hx ha
  unfold isKey
  rw [hv0]
  cases hb : eqKey k x with
  | true =>
    rw [h4] at hb; subst hb
    rw [eqCs_true h3 hu hv]; simp
  | false =>
    rw [h4] at hb; subst hb
    have hne := eqCs_false h3 hu hv
    symm
    rw [decide_eq_false_iff_not]
    intro e5
    unfold asV at e5
    cases hag : e.isAgg with
    | true => rw [hag, if_pos rfl, if_pos rfl] at e5; injection e5 with e5; injection e5 with e5; exact hne e5
    | false =>
      rw [hag, if_neg (by simp), if_neg (by simp)] at e5
      -- one cell each
      have hl : ∀ (d : D) (us : List Value), e.isAgg = d.isAgg → d.isVal = true → All2 (RepC c env w) d.cells us → ∃ u, us = [u] := by
        intro d us hd hv h
        have := h.length
        have hc : d.cells.length = 1 := by rw [hag] at hd; cases d <;> first | rfl | (cases hd; done)
        exact list_one (by omega)
      have hkv : k.isVal = true := by
        cases k <;> first | rfl | exact hk.elim
      obtain ⟨u, rfl⟩ := hl k us hka hkv hu
      obtain ⟨v, rfl⟩ := hl x vs ha h1 hv
      exact hne (by simpa using e5)

theorem findIdx_all2 {p : D → Bool} {f : MapEntry → Bool} : ∀ {ks : List D} {es : List MapEntry}, All2 (fun k e => p k = f e) ks es → es.findIdx? f = ks.findIdx? p
  | [], [], _ => rfl
  | k :: ks, e :: es, h => by
    simp only [List.findIdx?_cons, findIdx_all2 h.2, h.1]
  | [], _ :: _, h => h.elim
  | _ :: _, [], h => h.elim

/-- What a map's entries are. -/
theorem all2_keys {I : Im} {ks : List D} {es : List MapEntry} : RepL I w ks (es.map (·.key)) ↔ All2 (fun k e => Rep I w k e.key) ks es := by
  rw [all2_repL]
  induction ks generalizing es with
  | nil => cases es <;> simp [All2]
  | cons k ks ih => cases es with
    | nil => simp [All2]
    | cons e es => simp only [List.map_cons, All2, ih]
theorem all2_vals {I : Im} {vs : List D} {es : List MapEntry} : RepL I w vs (es.map (·.val)) ↔ All2 (fun k e => Rep I w k e.val) vs es := by
  rw [all2_repL]
  induction vs generalizing es with
  | nil => cases es <;> simp [All2]
  | cons k ks ih => cases es with
    | nil => simp [All2]
    | cons e es => simp only [List.map_cons, All2, ih]

theorem run_findKey (hT : TyOK P T) {q : Nat} {e : TE} (he : T q = some e) {k : D} {vk : Value} (hk : RepV c env w k vk) {ks : List D} {es : List MapEntry} (hks : All2 (fun k e => Rep c.I w k e.key) ks es) (hf : keysFit T q k ks = true) :
    (Instr.findKey q vk es).run P w = .ok ((ks.findIdx? (eqKey k)).bind fun j => (es[j]?).map fun e => (j, e.val)) w ∧ (∀ empty, (Instr.checkKey empty 10000 q vk).run P w = .ok () w) ∧ All2 (fun k' e => eqKey k k' = isKey vk e) ks es := by
  unfold keysFit at hf
  simp only [Bool.and_eq_true] at hf
  obtain ⟨hv, hkk, hall⟩ := hf
  obtain ⟨_, ⟨e', he', hka⟩, b0, hb0, _, _⟩ := fitK_spec hkk
  rw [he] at he'; cases he'
  have hfit := fun x hx => List.all_eq_true.1 hall x hx
  have h2 : All2 (fun k' e => eqKey k k' = isKey vk e) ks es ∧ ∀ en ∈ es, ∃ x ∈ ks, Rep c.I w x en.key := by
    clear hall
    induction ks generalizing es with
    | nil => cases es <;> first | exact ⟨trivial, by simp⟩ | exact hks.elim
    | cons x ks ih => cases es with
      | nil => exact hks.elim
      | cons en es =>
        obtain ⟨i1, i2⟩ := ih hks.2 (fun y hy => hfit y (by simp [hy]))
        have hx := hfit x (by simp)
        exact ⟨⟨key_isKey hk (rep_repV (fitK_spec hx).1 hks.1) he hka hx, i1⟩, fun e' he' => by
          rcases List.mem_cons.1 he' with rfl | he'
          · exact ⟨x, by simp, hks.1⟩
          · obtain ⟨y, hy, hr⟩ := i2 e' he'; exact ⟨y, by simp [hy], hr⟩⟩
  have hidx := findIdx_all2 h2.1
  obtain ⟨us, rfl, hu⟩ := asV_of hk hka
  refine ⟨?_, fun empty => run_checkKey hT empty 6 q e k.cells us b0 he hb0 hu 10000 (by omega), h2.1⟩
  have hask : (Instr.findAsking q (asV e us) es).run P w = .ok ((es.findIdx? (isKey (asV e us))).bind fun j => (es[j]?).map fun e => (0 + j, e.val)) w :=
    run_findAsking (isKey (asV e us)) es 0 (fun en hen => by
      obtain ⟨x, hx, hr⟩ := h2.2 en hen
      have := hfit x hx
      have h6 := (run_key_equal hT hk (rep_repV (env := env) (fitK_spec this).1 hr) he hka this).1 9994
      rw [key_isKey hk (rep_repV (fitK_spec this).1 hr) he hka this] at h6
      exact h6)
  rw [← hidx]
  simp only [Nat.zero_add] at hask
  have hK := (hT q e he).kind
  unfold Instr.findKey
  obtain ⟨d, hd⟩ : ∃ d, P.underlying q = some d := by
    cases hk' : e.kind <;> rw [hk'] at hK <;> simp only [KindOK] at hK
    case agg => obtain ⟨_, h, _⟩ := hK; exact ⟨_, h⟩
    case ptr => obtain ⟨_, h⟩ := hK; exact ⟨_, h⟩
    case func => obtain ⟨_, _, _, h⟩ := hK; exact ⟨_, h⟩
    case ifc => obtain ⟨_, h⟩ := hK; exact ⟨_, h⟩
    case other => obtain ⟨_, h, _⟩ := hK; exact ⟨_, h⟩
    all_goals exact ⟨_, hK⟩
  simp only [Sem.run_bind, run_underlying hd, Result.andThen_ok]
  cases hn : Instr.findNow d (asV e us) es 0 with
  | some r =>
    have := findNow_eq (isKey (asV e us)) es 0 (fun e _ => sameNow_spec) r hn
    simp only [Nat.zero_add] at this
    rw [this]; rfl
  | none => exact hask

/-- A look-up among entries. -/
def lookRest (q u : TypeId) (es : Array MapEntry) (vk : Value) (comma : Bool) : Sem Value := do
  Instr.checkKey es.isEmpty 10000 q vk
  let (v, ok) ← match ← Instr.findKey q vk es.toList with
    | some (_, v) => pure (v, true)
    | none => pure (← zeroValue u, false)
  pure (if comma then .tuple #[v, .bool ok] else v)

theorem yield_lookup (hT : TyOK P T) (h : St c env a w) {t : Nat} {m k : D} {vm vk : Value} (hm : RepT c env w m vm) (hk : RepT c env w k vk) {comma s : Bool} {d : D} (hr : lookupD T env.mp t m k comma = some (s, d)) (hs : s = true) :
    Yield P c env w d (Instr.lookup t vm vk comma) := by
  unfold lookupD at hr
  cases ht : T t with
  | none => rw [ht] at hr; cases hr
  | some e =>
  rw [ht] at hr
  have hK := (hT t e ht).kind
  simp only at hr
  cases hk' : e.kind <;> rw [hk'] at hr hK <;> simp only at hr <;> first | (cases hr; done) | skip
  rename_i q u
  simp only [KindOK] at hK
  cases hu : T u with
  | none => rw [hu] at hr; cases hr
  | some eu =>
  rw [hu] at hr
  simp only at hr
  cases hen : entsD env.mp m with
  | none => rw [hen] at hr; cases hr
  | some ents =>
  obtain ⟨ks, vs⟩ := ents
  rw [hen] at hr
  simp only at hr
  have hfit : keysFit T q k ks = true := by cases comma <;> (simp only [Option.some.injEq, Prod.mk.injEq] at hr; rw [hr.1]; exact hs)
  have hkv : RepV c env w k vk := by
    unfold keysFit at hfit
    simp only [Bool.and_eq_true] at hfit
    obtain ⟨_, _, b0, _, hb0, _⟩ := fitK_spec hfit.2.1
    cases k <;> first | exact hk | (cases hfit.1; done) | skip
    simp only [D.cells, eqCs, eqD] at hb0; cases hb0
  obtain ⟨eq, heq⟩ : ∃ e, T q = some e := by
    unfold keysFit at hfit
    simp only [Bool.and_eq_true] at hfit
    obtain ⟨_, ⟨e', he', _⟩, _⟩ := fitK_spec hfit.2.1
    exact ⟨e', he'⟩
  -- the entries
  obtain ⟨es, hes, h1, h2, h3⟩ : ∃ es : Array MapEntry, (Instr.lookup t vm vk comma).run P w = (lookRest q u es vk comma).run P w ∧ All2 (fun k e => Rep c.I w k e.key) ks es.toList ∧ All2 (fun k e => Rep c.I w k e.val) vs es.toList ∧ vs.all D.isVal = true := by
    unfold entsD at hen
    split at hen
    · rename_i s'
      cases hl : look s' env.mp with
      | none => rw [hl] at hen; cases hen
      | some mc =>
        rw [hl] at hen
        simp only [Option.map_some, Option.some.injEq, Prod.mk.injEq] at hen
        obtain ⟨rfl, rfl⟩ := hen
        obtain ⟨_, rfl⟩ : (look s' env.mp).isSome = true ∧ vm = .map (some (c.ρ s')) := hm
        obtain ⟨es, clock, hh, h1, h2, h3, _⟩ := h.mp s' mc hl
        exact ⟨es, (by simp only [Instr.lookup, Sem.run_bind, run_underlying hK, Result.andThen_ok, getObj, Sem.run, hh, lookRest, Sem.run_pure]; rfl), all2_keys.1 h1, all2_vals.1 h2, h3⟩
    · rename_i ks' vs'
      simp only [Option.some.injEq, Prod.mk.injEq] at hen
      obtain ⟨rfl, rfl⟩ := hen
      have hm : RepC c env w (.mapv ks' vs') vm := hm
      simp only [RepC, Rep] at hm
      obtain ⟨r, rfl, _, es, clock, hh, h1, h2, h3⟩ := hm
      exact ⟨es, (by simp only [Instr.lookup, Sem.run_bind, run_underlying hK, Result.andThen_ok, getObj, Sem.run, hh, lookRest, Sem.run_pure]; rfl), all2_keys.1 h1, all2_vals.1 h2, h3⟩
    · simp only [Option.some.injEq, Prod.mk.injEq] at hen
      obtain ⟨rfl, rfl⟩ := hen
      have hm : RepC c env w .nilm vm := hm
      simp only [RepC, Rep] at hm; subst hm
      exact ⟨#[], (by simp only [Instr.lookup, Sem.run_bind, run_underlying hK, Result.andThen_ok, lookRest, Sem.run_pure]; rfl), trivial, trivial, rfl⟩
    · cases hen
  obtain ⟨g1, g2, g3⟩ := run_findKey hT heq hkv h1 hfit
  obtain ⟨z, _, hz, _, _, _, hzr⟩ := zero_spec (hT u eu hu)
  have hlen : ks.length = vs.length := by rw [h1.length, h2.length]
  have hfd := findD_eq (k := k) hlen
  obtain ⟨val, hval, hrv⟩ : ∃ val : Value, (lookRest q u es vk comma).run P w = .ok (if comma then .tuple #[val, .bool (findD k ks vs).isSome] else val) w ∧ RepV c env w ((findD k ks vs).getD eu.zero) val := by
    rw [hfd]
    unfold lookRest
    simp only [Sem.run_bind, g2, g1, Result.andThen_ok]
    cases hi : ks.findIdx? (eqKey k) with
    | none => exact ⟨z, by simp [hz], by simpa using hzr c env w⟩
    | some j =>
      have hj : j < ks.length := (List.findIdx?_eq_some_iff_getElem.1 hi).1
      obtain ⟨x, hx⟩ : ∃ x, vs[j]? = some x := ⟨_, List.getElem?_eq_getElem (by omega)⟩
      obtain ⟨en, hen', hr'⟩ := h2.get j x hx
      refine ⟨en.val, ?_, ?_⟩
      · simp only [Option.bind_some, hen', Option.map_some, hx, Option.isSome_some]
        cases comma <;> rfl
      · simp only [Option.bind_some, hx, Option.getD_some]
        exact rep_repV (List.all_eq_true.1 h3 x (List.mem_of_getElem? hx)) hr'
  have hout : RepT c env w ((findD k ks vs).getD eu.zero) val := by
    cases hd : (findD k ks vs).getD eu.zero <;> rw [hd] at hrv <;> first | exact hrv | trivial | exact hrv.elim
  cases comma with
  | true =>
    simp only [Option.some.injEq, Prod.mk.injEq] at hr
    obtain ⟨_, rfl⟩ := hr
    exact ⟨_, hes.trans hval, [val, .bool (findD k ks vs).isSome], rfl, hrv, by simp [RepV, RepC, Rep], trivial⟩
  | false =>
    simp only [Option.some.injEq, Prod.mk.injEq] at hr
    obtain ⟨_, rfl⟩ := hr
    exact ⟨_, hes.trans hval, hout⟩
end

end Go.Proofs.Ytndijidmabfhcaa.Fw
