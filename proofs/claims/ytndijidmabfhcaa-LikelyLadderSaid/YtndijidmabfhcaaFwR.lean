/- What is laid into local variables, and into local maps. -/
import Derived.Test.YtndijidmabfhcaaFwQ
namespace Go.Proofs.Ytndijidmabfhcaa.Fw
open Go Go.RowKit

/-- A value laid into a local variable. -/
def storeR (T : Ty) (env : Env) (t : Nat) (x d : D) : Option Env :=
  match x, T t with
  | .loc s off, some e => match look s env.bx with
    | some b => bif d.good && Nat.beq d.cells.length e.size && !b.frozen && Nat.ble (off + e.size) b.cells.length then some { env with bx := (s, { b with cells := splice b.cells off d.cells }) :: env.bx } else none
    | none => none
  | _, _ => none

/-- An entry of a local map. -/
def mapUpR (T : Ty) (env : Env) (t : Nat) (m k x : D) : Option (Bool × Env) :=
  match m, T t with
  | .mapr s, some e => match e.kind with
    | .mp q _ => match look s env.mp, T q, clo env.mp x, cloM x with
      | some mc, some _, some x', [] => bif mc.frozen || !k.good then none else match clo env.mp k, cloM k with
        | some k', [] => some (keysFit T q k' mc.ks, { env with mp := (s, { mc with ks := (putD k' x' mc.ks mc.vs).1, vs := (putD k' x' mc.ks mc.vs).2 }) :: env.mp })
        | _, _ => none
      | _, _, _, _ => none
    | _ => none
  | _, _ => none

section
variable {P : Program} {T : Ty} {c : Ctx} {env : Env} {a : Act} {w : World}

/-- A step that changes one block that is a local's own. -/
theorem Step.own1 (h : St c env a w) {s : Nat} (hs : env.blk s) (hI : ∀ o, ¬ c.I (c.ρ s) o) {env' : Env} {w' : World} (hw : ∀ k, k ≠ c.ρ s → w'.heap[k]? = w.heap[k]?)
    (hb : ∀ s, (look s env.bx).isSome = true → (look s env'.bx).isSome = true) (hm : ∀ s, (look s env.mp).isSome = true → (look s env'.mp).isSome = true) (hu : env'.us = env.us) (hd : env'.dd = env.dd) : Step c env w c env' w' := by
  refine ⟨⟨fun _ _ h => h, fun x u hi hu => ?_, fun r es k hi hr => ?_⟩, fun s h => ⟨hb s h, rfl⟩, fun s h => ⟨hm s h, rfl⟩, fun _ _ h => by rw [hu]; exact h, fun _ h => by rw [hd]; exact h, fun st hl _ => ⟨rfl, fun g hg => ⟨?_, fun _ h => h⟩⟩⟩
  · exact (World.cell?_of_block (hw _ fun e => hI _ (e ▸ hi))).trans hu
  · exact (hw _ fun e => hI _ (e ▸ hi)).trans hr
  · exact hw _ fun e => (h.ownAbove st g hl hg).2.2 s hs e.symm

theorem St.setBox (h : St c env a w) {s : Nat} {b : BoxC} (hb : look s env.bx = some b) (hf : b.frozen = false) {cells : List D} {vs vs' : List Value} {e : TypeId} (hh : w.heap[c.ρ s]? = some (.cells ⟨vs⟩ e (0, 0))) (hv : All2 (RepC c env w) cells vs') :
    St c { env with bx := (s, { b with cells := cells }) :: env.bx } a (w.setRow (c.ρ s) ⟨vs'⟩) := by
  have hs : env.blk s := .inl (by rw [hb]; rfl)
  obtain ⟨_, _, _, _, _, hI⟩ := h.bx s b hb
  have hI := hI hf
  have hw : ∀ k, k ≠ c.ρ s → (w.setRow (c.ρ s) ⟨vs'⟩).heap[k]? = w.heap[k]? := fun k hk => setRow_other w _ k _ hk
  have hbk : ∀ s', (look s' ((s, { b with cells := cells }) :: env.bx)).isSome = (look s' env.bx).isSome := fun s' => by
    rw [look_cons]; split
    · rename_i e; subst e; rw [hb]; rfl
    · rfl
  have S : Step c env w c { env with bx := (s, { b with cells := cells }) :: env.bx } (w.setRow (c.ρ s) ⟨vs'⟩) :=
    Step.own1 h hs hI hw (fun s' h' => by rw [hbk]; exact h') (fun _ h' => h') rfl rfl
  have hblk : ∀ s', Env.blk { env with bx := (s, { b with cells := cells }) :: env.bx } s' ↔ env.blk s' := fun s' => by
    unfold Env.blk; simp only [hbk]
  have hsz : (w.setRow (c.ρ s) ⟨vs'⟩).heap.size = w.heap.size := by simp
  refine ⟨h.nt, h.df, fun t d hd => S.repT (h.tm t d hd), fun t d hd => (h.wt t d hd).step S, ?_, ?_, fun s1 s2 h1 h2 e => h.inj s1 s2 ((hblk _).1 h1) ((hblk _).1 h2) e, fun s1 h1 => h.above s1 ((hblk _).1 h1), fun s1 h1 => by rw [hsz]; exact h.lt s1 ((hblk _).1 h1), h.ownInj,
    fun st g hl hg => ⟨(h.ownAbove st g hl hg).1, by rw [hsz]; exact (h.ownAbove st g hl hg).2.1, fun s1 h1 => (h.ownAbove st g hl hg).2.2 s1 ((hblk _).1 h1)⟩, fun b o hi => by rw [hsz]; exact h.im b o hi, h.im0.trans S.keeps, h.imNew, ?_, h.gh.1, S.fix h.gh.2⟩
  · intro s' b' hs'
    rw [look_cons] at hs'
    split at hs'
    · rename_i e'; subst e'; cases hs'
      exact ⟨vs', e, setRow_heap w _ _ _ _ _ hh, hv.mono fun _ _ => S.repC, (fun hf' => by rw [hf] at hf'; cases hf'), fun _ => hI⟩
    · rename_i hne
      exact (h.bx s' b' hs').step S rfl (hw _ fun e => hne (h.inj s' s (.inl (by rw [hs']; rfl)) hs e).symm) (fun _ x => x)
  · intro s' m hs'
    refine (h.mp s' m hs').step S rfl (hw _ fun e => ?_) (fun _ x => x)
    have := h.inj s' s (.inr (by rw [hs']; rfl)) hs e
    subst this
    obtain ⟨_, _, h1, _⟩ := h.mp s' m hs'
    rw [h1] at hh; cases hh
  · exact h.base.trans ⟨rfl, rfl, rfl, by simp, fun k hk => hw k (fun e => hk (e ▸ h.above s hs))⟩

theorem St.store (hT : TyOK P T) (h : St c env a w) {t : Nat} {x d : D} {vx vd : Value} (hx : RepT c env w x vx) (hd : RepT c env w d vd) {env' : Env} (hr : storeR T env t x d = some env') :
    ∃ w', (Instr.storeAt t vx vd).run P w = .ok () w' ∧ St c env' a w' := by
  unfold storeR at hr
  split at hr
  · rename_i s off e ht
    obtain ⟨_, rfl⟩ := repT_loc hx
    cases hb : look s env.bx with
    | none => rw [hb] at hr; cases hr
    | some b =>
      rw [hb] at hr
      simp only at hr
      cases hc : (d.good && Nat.beq d.cells.length e.size && !b.frozen && Nat.ble (off + e.size) b.cells.length) with
      | false => rw [hc] at hr; cases hr
      | true =>
        rw [hc, cond_true, Option.some.injEq] at hr
        subst hr
        simp only [Bool.and_eq_true, Bool.not_eq_true', Nat.ble_eq, nbeq] at hc
        obtain ⟨⟨⟨hg, hl⟩, hf⟩, hle⟩ := hc
        obtain ⟨us, hus, hu⟩ := repV_cells (good_repV hg hd)
        obtain ⟨vs, el, hh, hv, _, _⟩ := h.bx s b hb
        have l1 := hu.length
        have l2 := hv.length
        refine ⟨w.setRow (c.ρ s) ⟨vs.take off ++ us ++ vs.drop (off + us.length)⟩, ?_, h.setBox hb hf hh ?_⟩
        · have hst := run_storeCells_at P (c.ρ s) off el us 0 ⟨vs⟩ w hh (by simp; omega) (fun u hu' => by
            obtain ⟨j, hj⟩ := List.getElem?_of_mem hu'
            have : ∀ {ds : List D} {us : List Value}, All2 (RepC c env w) ds us → ∀ u ∈ us, u.oneCell' = true := by
              intro ds
              induction ds with
              | nil => intro us h u hm; cases us with
                | nil => cases hm
                | cons _ _ => exact h.elim
              | cons d ds ih => intro us h u hm; cases us with
                | nil => cases hm
                | cons v vs => rcases List.mem_cons.1 hm with rfl | hm
                               · exact repC_one h.1
                               · exact ih h.2 u hm
            exact this hu u hu')
          simp only [Nat.add_zero] at hst
          have hsz := (hT t e ht).size w
          simp [Instr.storeAt, Instr.sureAddr, storeVar, hus, hsz, hst, show us.length = e.size from by omega]
        · unfold splice
          rw [l1]
          exact ((hv.take off).append hu).append (hv.drop _)
  · cases hr

theorem St.setMap (h : St c env a w) {s : Nat} {m m' : MapC} (hb : look s env.mp = some m) (hf : m.frozen = false) (hf' : m'.frozen = false) {es es' : Array MapEntry} {ck ck' : Nat} (hh : w.heap[c.ρ s]? = some (.map es ck))
    {w' : World} (hw' : w'.heap[c.ρ s]? = some (.map es' ck')) (hw : ∀ k, k ≠ c.ρ s → w'.heap[k]? = w.heap[k]?) (hsz : w'.heap.size = w.heap.size) (hbel : w'.os = w.os ∧ w'.tape = w.tape ∧ w'.output = w.output)
    (h1 : RepL c.I w m'.ks (es'.toList.map (·.key))) (h2 : RepL c.I w m'.vs (es'.toList.map (·.val))) (h3 : m'.vs.all D.isVal = true) :
    St c { env with mp := (s, m') :: env.mp } a w' := by
  have hs : env.blk s := .inr (by rw [hb]; rfl)
  obtain ⟨_, _, _, _, _, _, _, hI⟩ := h.mp s m hb
  have hI := hI hf
  have hbk : ∀ s', (look s' ((s, m') :: env.mp)).isSome = (look s' env.mp).isSome := fun s' => by
    rw [look_cons]; split
    · rename_i e; subst e; rw [hb]; rfl
    · rfl
  have S : Step c env w c { env with mp := (s, m') :: env.mp } w' :=
    Step.own1 h hs hI hw (fun _ h' => h') (fun s' h' => by rw [hbk]; exact h') rfl rfl
  have hblk : ∀ s', Env.blk { env with mp := (s, m') :: env.mp } s' ↔ env.blk s' := fun s' => by
    unfold Env.blk; simp only [hbk]
  refine ⟨h.nt, h.df, fun t d hd => S.repT (h.tm t d hd), fun t d hd => (h.wt t d hd).step S, ?_, ?_, fun s1 s2 h1 h2 e => h.inj s1 s2 ((hblk _).1 h1) ((hblk _).1 h2) e, fun s1 h1 => h.above s1 ((hblk _).1 h1), fun s1 h1 => by rw [hsz]; exact h.lt s1 ((hblk _).1 h1), h.ownInj,
    fun st g hl hg => ⟨(h.ownAbove st g hl hg).1, by rw [hsz]; exact (h.ownAbove st g hl hg).2.1, fun s1 h1 => (h.ownAbove st g hl hg).2.2 s1 ((hblk _).1 h1)⟩, fun b o hi => by rw [hsz]; exact h.im b o hi, h.im0.trans S.keeps, h.imNew, ?_, h.gh.1, S.fix h.gh.2⟩
  · intro s' b' hs'
    refine (h.bx s' b' hs').step S rfl (hw _ fun e => ?_) (fun _ x => x)
    have := h.inj s' s (.inl (by rw [hs']; rfl)) hs e
    subst this
    obtain ⟨_, _, h1, _⟩ := h.bx s' b' hs'
    rw [h1] at hh; cases hh
  · intro s' b' hs'
    rw [look_cons] at hs'
    split at hs'
    · rename_i e'; subst e'; cases hs'
      exact ⟨es', ck', hw', RepL.keeps S.keeps _ _ h1, RepL.keeps S.keeps _ _ h2, h3, (fun hf2 => by rw [hf'] at hf2; cases hf2), fun _ => hI⟩
    · rename_i hne
      exact (h.mp s' b' hs').step S rfl (hw _ fun e => hne (h.inj s' s (.inr (by rw [hs']; rfl)) hs e).symm) (fun _ x => x)
  · exact h.base.trans ⟨hbel.1, hbel.2.1, hbel.2.2, by omega, fun k hk => hw k (fun e => hk (e ▸ h.above s hs))⟩

def putObj (w : World) (g : Nat) (o : Obj) : World := { w with heap := w.heap.setIfInBounds g o }
theorem putObj_at {g : Nat} {o o' : Obj} (h : w.heap[g]? = some o) : (putObj w g o').heap[g]? = some o' := by
  simp [putObj, (Array.getElem?_eq_some_iff.1 h).1]
theorem putObj_other {g k : Nat} {o : Obj} (h : k ≠ g) : (putObj w g o).heap[k]? = w.heap[k]? := by
  simp [putObj, Ne.symm h]

theorem run_keyThatStays (v : Value) : (Instr.keyThatStays v v).run P w = .ok v w ∨ (Instr.keyThatStays v v).run P w = .ok v w.drew := by
  unfold Instr.keyThatStays
  cases Instr.sameBits 10000 v v with
  | true => left; simp
  | false =>
    right
    simp [Question.forced]
theorem all2_set {α β : Type} {R : α → β → Prop} : ∀ {as : List α} {bs : List β} (i : Nat) {a : α} {b : β}, All2 R as bs → R a b → All2 R (as.set i a) (bs.set i b)
  | [], [], _, _, _, _, _ => trivial
  | _ :: _, _ :: _, 0, _, _, h, r => ⟨r, h.2⟩
  | _ :: _, _ :: _, i + 1, _, _, h, r => ⟨h.1, all2_set i h.2 r⟩
  | [], _ :: _, _, _, _, h, _ => h.elim
  | _ :: _, [], _, _, _, h, _ => h.elim

theorem St.mapUp (hT : TyOK P T) (h : St c env a w) {t : Nat} {m k x : D} {vm vk vx : Value} (hm : RepT c env w m vm) (hk : RepT c env w k vk) (hx : RepT c env w x vx) {env' : Env} (hr : mapUpR T env t m k x = some (true, env')) :
    ∃ w', (Instr.mapUpdate t vm vk vx).run P w = .ok () w' ∧ St c env' a w' := by
  unfold mapUpR at hr
  split at hr
  · rename_i s e ht
    obtain ⟨_, rfl⟩ : (look s env.mp).isSome = true ∧ vm = .map (some (c.ρ s)) := hm
    have hK := (hT t e ht).kind
    split at hr
    · rename_i q u hkd
      rw [hkd] at hK
      simp only [KindOK] at hK
      split at hr
      · rename_i mc eq x' hb hq hcx hcm
        cases hfz : (mc.frozen || !k.good) with
        | true => rw [hfz] at hr; cases hr
        | false =>
          rw [hfz, cond_false] at hr
          simp only [Bool.or_eq_false_iff, Bool.not_eq_false'] at hfz
          split at hr
          · rename_i k' hck hckm
            simp only [Option.some.injEq, Prod.mk.injEq] at hr
            obtain ⟨hfit, rfl⟩ := hr
            obtain ⟨es, ck, hh, h1, h2, h3, _, _⟩ := h.mp s mc hb
            have hxv : RepV c env w x vx := by cases x <;> first | exact hx | (simp only [clo] at hcx; cases hcx)
            obtain ⟨gx, gxv⟩ := clo_val h hxv hcx (fun s hs => by rw [hcm] at hs; cases hs)
            obtain ⟨gk, gkv⟩ := clo_val h (good_repV hfz.2 hk) hck (fun s hs => by rw [hckm] at hs; cases hs)
            have hlen : mc.ks.length = mc.vs.length := by rw [len_repL h1, len_repL h2]; simp
            have hks := all2_keys.1 h1
            have hvs := all2_vals.1 h2
            have hkV : RepV c env w k' vk := rep_repV gkv gk
            obtain ⟨hfind, hchk, hsame⟩ := run_findKey hT hq hkV hks hfit
            have hput := putD_eq (k := k') (v := x') hlen
            cases hi : mc.ks.findIdx? (eqKey k') with
            | none =>
              rw [hi] at hfind hput
              simp only [Option.bind_none] at hfind
              refine ⟨putObj w (c.ρ s) (.map (es.push { key := vk, val := vx, born := ck }) (ck + 1)), ?_, ?_⟩
              · simp [Instr.mapUpdate, run_underlying hK, getObj, Sem.run, hh, hchk, hfind, setObj, putObj]
              · rw [hput]
                refine h.setMap (m' := { mc with ks := mc.ks ++ [k'], vs := mc.vs ++ [x'] }) hb hfz.1 hfz.1 hh (putObj_at hh) (fun k hk => putObj_other hk) (by simp [putObj]) ⟨rfl, rfl, rfl⟩ ?_ ?_ ?_
                · rw [all2_repL, Array.toList_push, List.map_append]
                  exact (all2_repL.1 h1).append ⟨gk, trivial⟩
                · rw [all2_repL, Array.toList_push, List.map_append]
                  exact (all2_repL.1 h2).append ⟨gx, trivial⟩
                · simp only [List.all_append, List.all_cons, List.all_nil, Bool.and_true, Bool.and_eq_true]; exact ⟨h3, gxv⟩
            | some i =>
              rw [hi] at hfind hput
              obtain ⟨k0, hk0, hek⟩ : ∃ k0, mc.ks[i]? = some k0 ∧ eqKey k' k0 = true := by
                obtain ⟨h4, h5, _⟩ := List.findIdx?_eq_some_iff_getElem.1 hi
                exact ⟨_, List.getElem?_eq_getElem h4, h5⟩
              obtain ⟨en, hen, hken⟩ := hsame.get i k0 hk0
              have hkey : vk = en.key := by
                rw [hek] at hken
                simpa [isKey] using hken.symm
              have hen' : es[i]? = some en := by simpa using hen
              simp only [Option.bind_some, hen, Option.map_some] at hfind
              have hmod1 : ((es.modify i fun e => { e with key := vk, val := vx }).toList.map (·.key)) = (es.toList.map (·.key)).set i vk := by
                apply List.ext_getElem?; intro j
                simp only [Array.toList_modify, List.getElem?_map, List.getElem?_modify, List.getElem?_set, List.length_map]
                by_cases e : i = j
                · subst e
                  have hl := (List.getElem?_eq_some_iff.1 hen).1
                  simp [hen]; simpa using hl
                · simp [e]
              have hmod2 : ((es.modify i fun e => { e with key := vk, val := vx }).toList.map (·.val)) = (es.toList.map (·.val)).set i vx := by
                apply List.ext_getElem?; intro j
                simp only [Array.toList_modify, List.getElem?_map, List.getElem?_modify, List.getElem?_set, List.length_map]
                by_cases e : i = j
                · subst e
                  have hl := (List.getElem?_eq_some_iff.1 hen).1
                  simp [hen]; simpa using hl
                · simp [e]
              have fin : ∀ w1 : World, w1.heap = w.heap → (w1.os = w.os ∧ w1.tape = w.tape ∧ w1.output = w.output) → St c { env with mp := (s, { mc with ks := (putD k' x' mc.ks mc.vs).1, vs := (putD k' x' mc.ks mc.vs).2 }) :: env.mp } a (putObj w1 (c.ρ s) (.map (es.modify i fun e => { e with key := vk, val := vx }) ck)) := by
                intro w1 hw1 hos
                rw [hput]
                refine h.setMap (m' := { mc with ks := mc.ks.set i k', vs := mc.vs.set i x' }) hb hfz.1 hfz.1 hh (putObj_at (by rw [hw1]; exact hh)) (fun k hk => by rw [putObj_other hk, hw1]) (by simp [putObj, hw1]) hos ?_ ?_ ?_
                · rw [hmod1, all2_repL]; exact all2_set i (all2_repL.1 h1) gk
                · rw [hmod2, all2_repL]; exact all2_set i (all2_repL.1 h2) gx
                · rw [List.all_eq_true] at h3 ⊢
                  intro y hy
                  rcases List.mem_or_eq_of_mem_set hy with hy | rfl
                  · exact h3 y hy
                  · exact gxv
              have hold : ((Option.map (fun x => x.key) es[i]?).getD vk) = vk := by rw [hen']; exact hkey.symm
              rcases run_keyThatStays (P := P) (w := w) vk with hs | hs
              · refine ⟨_, ?_, fin w rfl ⟨rfl, rfl, rfl⟩⟩
                simp [Instr.mapUpdate, run_underlying hK, getObj, Sem.run, hh, hchk, hfind, setObj, putObj, hold, hs]
              · refine ⟨_, ?_, fin w.drew rfl ⟨rfl, rfl, rfl⟩⟩
                have hh' : w.drew.heap[c.ρ s]? = some (.map es ck) := hh
                simp [hh', Instr.mapUpdate, run_underlying hK, getObj, Sem.run, hh, hchk, hfind, setObj, putObj, hold, hs]
          · cases hr
      · cases hr
    · cases hr
  · cases hr
end

end Go.Proofs.Ytndijidmabfhcaa.Fw
