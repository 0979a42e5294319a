/- Texts U, V, W, WB, YA of the proof, in one. -/
import Derived.RangeFuncNested
import Derived.Test.YtnooelecdbbfkaaGreatDoorFwK3k3
set_option linter.unusedSimpArgs false
set_option linter.unusedVariables false
set_option linter.unusedSectionVars false
set_option linter.unnecessarySimpa false

/- Operations in order. -/
namespace Go.Proofs.YtnooelecdbbfkaaGreatDoor.Fw
open Go Go.RowKit
set_option linter.unusedSectionVars false
variable [Inhabited GLT]

section
variable {P : Program} {T : Ty} {c : Ctx} {env : Env} {a : Act} {w : World} {rr : Option Nat} {n : Nat} {ops : Array Oper}

theorem gcond_sound (ok : Nat → Bool) (h : St c env a w) : ∀ (n : Nat) (g : Option (Nat × Bool)), GOK a g → gcond ok n env.wt env.tm g
  | 0, _, _ => trivial
  | _ + 1, none, _ => trivial
  | n + 1, some (s, b), hg => by
    have hb := hg s b rfl
    simp only [gcond]
    cases hok : ok s with
    | false => trivial
    | true =>
    cases hw : look s env.wt with
    | some d =>
      have hW := h.wt s d hw
      cases d <;> first | exact hW.elim | skip
      rename_i s' b' d
      have hs' : a.tmps.getD s' undef = .bool b' := by
        apply Classical.byContradiction
        intro hne
        have := hW.2 hne
        rw [hb] at this
        cases this
      refine ⟨?_, gcond_sound ok h n (some (s', b')) fun s1 b1 e => by cases e; exact hs'⟩
      have hr := hW.1 hs'
      rw [hb] at hr
      cases d <;> first | trivial | skip
      have := repT_bool hr
      injection this with this; exact this.symm
    | none =>
      simp only
      cases ht : look s env.tm with
      | none => trivial
      | some d =>
        have hr := h.tm s d ht
        rw [hb] at hr
        cases d <;> first | trivial | skip
        have := repT_bool hr
        injection this with this; exact this.symm

theorem doesP_K {g : Option (Nat × Bool)} {ρ : Operand → D} {bx : List (Nat × BoxC)} {mp : List (Nat × MapC)} {rw : List (Nat × RowC)} {dst : Nat} {op : Op} {gc : Prop} {K : Res → Prop} (h : doesP P T g ρ bx mp rw dst op gc K) : ∃ r, K r := by
  unfold doesP at h
  split at h
  · split at h
    · obtain ⟨d, _, hk⟩ := h; exact ⟨_, hk⟩
    · exact ⟨_, deadK_K h⟩
  · split at h
    · exact ⟨_, (sideB_iff.1 h).2⟩
    · obtain ⟨r, hr, _⟩ := elseK_pick h; exact ⟨r, hr⟩

theorem wanted_none {o : Oper} (h : o.guard = none) (y : Nat → Option Bool) : Region.wanted o y = true := by simp [Region.wanted, h]

theorem wanted_some {o p : Oper} {j s : Nat} {b : Bool} (h : o.guard = some (j, b)) (hp : ops[j]? = some p) (hs : p.dst = some s) : Region.wanted o (yielded ops a.tmps) = true ↔ a.tmps.getD s undef = .bool b := by
  have e : a.tmps.getD s undef = (a.tmps[s]?).getD undef := by rw [Array.getD_eq_getD_getElem?]
  simp only [Region.wanted, h, yielded, hp, hs, Option.bind_some]
  rw [e]
  cases hv : a.tmps[s]? with
  | none => simp [undef]
  | some v =>
    cases v <;> simp

theorem memR_plain {dst : Nat} {r : Res} (h : r.plain = true) : memR env dst r = some (env, r.d) := by
  obtain ⟨side, d, bx, mp, fz, fm, kill, own, row⟩ := r
  simp only [Res.plain, Bool.and_eq_true, Option.isNone_iff_eq_none, List.isEmpty_iff] at h
  obtain ⟨⟨⟨⟨⟨rfl, rfl⟩, rfl⟩, rfl⟩, rfl⟩, rfl⟩ := h
  simp [memR, frzM, frzB]

theorem gslot_spec {o : Oper} {g : Option (Nat × Bool)} (h : gslot ops o = some g) : (o.guard = none ∧ g = none) ∨ ∃ j b p s, o.guard = some (j, b) ∧ ops[j]? = some p ∧ p.dst = some s ∧ g = some (s, b) := by
  unfold gslot at h
  cases hg : o.guard with
  | none => rw [hg] at h; simp only [Option.some.injEq] at h; exact .inl ⟨rfl, h.symm⟩
  | some q =>
    obtain ⟨j, b⟩ := q
    rw [hg] at h
    simp only at h
    cases hp : ops[j]? with
    | none => rw [hp] at h; cases h
    | some p =>
      rw [hp] at h
      simp only at h
      cases hs : p.dst with
      | none => rw [hs] at h; cases h
      | some s => rw [hs] at h; simp only [Option.some.injEq] at h; exact .inr ⟨j, b, p, s, rfl, hp, hs, h.symm⟩

/-- A value operation in its place. -/
theorem value_sound (hT : TyOK P T) (h : St c env a w) (hgl : GlobW P c.I w) {ρ : Operand → D} (hρ : ∀ x, RepX c env w a.tmps (ρ x) (a.eval x)) {bx0 : List (Nat × BoxC)} (hbx : ∀ s b, look s bx0 = some b → look s env.bx = some b) {rw0 : List (Nat × RowC)} (hrw : ∀ st r, look st rw0 = some r → look st env.rows = some r) {i : Nat} {o : Oper} (ho : ops[i]? = some o) {dst : Nat} (hdst : o.dst = some dst) {g : Option (Nat × Bool)} (hg : gslot ops o = some g) {K0 : Res → Prop} {gc : Prop} (hgc : GOK a g → gc)
    (hd : doesP P T g ρ bx0 env.mp rw0 dst o.op gc K0) {K : Act → World → Prop} {Q : Exit → Act → World → Prop}
    (hK : ∀ r env' c' a' w', K0 r → memG env dst g r = some env' → c.Next c' → St c' env' a' w' → K a' w') (hK0 : ∀ r, K0 r → ∃ env', memG env dst g r = some env') : wpOpIn (Fr rr) n P ops Q i K a w := by
  unfold wpOpIn
  simp only [ho]
  rcases gslot_spec hg with ⟨hgd, rfl⟩ | ⟨j, b, p, s, hgd, hp, hs, rfl⟩
  · rw [if_pos (wanted_none hgd _)]
    have hG : GOK a none := fun s b e => by cases e
    obtain ⟨r, hr, hk⟩ := does_sound (rr := rr) (n := n) hT h hgl hG hρ hbx hrw hdst (hgc hG) hd
    obtain ⟨env', he⟩ := hK0 r hr
    have hm := he
    simp only [memG] at hm
    cases hmr : memR env dst r with
    | none => rw [hmr] at hm; cases hm
    | some q =>
      obtain ⟨env1, d⟩ := q
      rw [hmr] at hm
      exact hk env1 d hmr K Q fun v w' c' h1 h2 h3 => hK r env' c' _ w' hr he h1 (h2.put h3 hm)
  · have hw := wanted_some (a := a) hgd hp hs
    by_cases hb : Region.wanted o (yielded ops a.tmps) = true
    · rw [if_pos hb]
      have hv := hw.1 hb
      have hG : GOK a (some (s, b)) := fun s' b' e => by cases e; exact hv
      obtain ⟨r, hr, hk⟩ := does_sound (rr := rr) (n := n) hT h hgl hG hρ hbx hrw hdst (hgc hG) hd
      obtain ⟨env', he⟩ := hK0 r hr
      have hm := he
      simp only [memG] at hm
      cases hpl : r.plain with
      | false => rw [hpl] at hm; cases hm
      | true =>
        rw [hpl, cond_true] at hm
        exact hk env r.d (memR_plain hpl) K Q fun v w' c' h1 h2 h3 => hK r env' c' _ w' hr he h1 (h2.putW (fun _ => h3) (fun hne => absurd hv hne) hm)
    · rw [if_neg hb]
      refine ⟨fun _ _ => trivial, ?_⟩
      obtain ⟨r, hr⟩ := doesP_K hd
      obtain ⟨env', he⟩ := hK0 r hr
      have hm := he
      simp only [memG] at hm
      cases hpl : r.plain with
      | false => rw [hpl] at hm; cases hm
      | true =>
        rw [hpl, cond_true] at hm
        have hne : a.tmps.getD s undef ≠ .bool b := fun e => hb (hw.2 e)
        rw [hdst]
        exact hK r env' c _ w hr he (.refl c) (h.putW (fun e => absurd e hne) (fun _ => rfl) hm)

/-- A yield. -/
theorem yield_sound (h : St c env a w) (hG : GYield P c.w0) {g : Option (Nat × Bool)} (hg : GOK a g) {o : Oper} {l : Nat} {ds : List D} (hy : yldOf g env o.op = some (l, ds)) {rest : List (List D)} (hys : env.ys = some (l, ds :: rest)) {dst : Nat} (hdst : o.dst = some dst) {K : Act → World → Prop} {Q : Exit → Act → World → Prop}
    (ht : ∃ env', memG { env with ys := some (l, rest) } dst none { d := .bool true } = some env' ∧ ∀ c' a' w', c.Grow c' → St c' env' a' w' → K a' w')
    (hf : ∃ env', memG { env with ys := none } dst none { d := .bool false } = some env' ∧ ∀ c' a' w', c.Grow c' → St c' env' a' w' → K a' w') : o.wpIn (Fr rr) n P a w K Q := by
  obtain ⟨odst, op, ty, pos, after, guard⟩ := o
  have hdst : odst = some dst := hdst
  subst hdst
  unfold yldOf at hy
  cases hcf : callOf op with
  | none => simp only at hy; rw [hcf] at hy; cases hy
  | some cl0 =>
  simp only at hy
  rw [hcf] at hy
  unfold callOf at hcf
  cases op <;> (try simp only at hcf) <;> first | (cases hcf; done) | skip
  rename_i cl
  obtain ⟨callee, args, argTypes⟩ := cl
  cases callee <;> (try simp only at hcf) <;> first | (cases hcf; done) | skip
  rename_i f
  simp only [Option.some.injEq] at hcf
  subst hcf
  simp only at hy
  have hv : ∀ x, RepT c env w (unw g (tv env.wt env.tm x)) (a.eval x) := fun x => rep_tv h hg x
  have hfv := hv f
  cases hfd : unw g (tv env.wt env.tm f) <;> rw [hfd] at hy hfv <;> (try simp only at hy) <;> first | (cases hy; done) | skip
  rename_i l'
  split at hy
  case h_2 => cases hy
  rename_i ds' hcl hcm
  simp only [Option.some.injEq, Prod.mk.injEq] at hy
  obtain ⟨rfl, rfl⟩ := hy
  have hfv : a.eval f = .func (.yield l') #[] #[] := by simpa [RepT, RepV, RepC, Rep] using hfv
  have hargs : All2 (RepT c env w) (args.toList.map fun x => unw g (tv env.wt env.tm x)) (args.toList.map a.eval) := all2_map hv args.toList
  obtain ⟨g1, g2⟩ := clo_vals h hargs hcl (fun x hx s hs m hl => by
    have : s ∈ (args.toList.map fun x => unw g (tv env.wt env.tm x)).flatMap cloM := List.mem_flatMap.2 ⟨x, hx, hs⟩
    rw [hcm] at this; cases this)
  let own : Nat → Prop := fun k => ownB c env k ∨ k ∈ c.w0.mks
  have hownlt : ∀ k, own k → k < w.heap.size ∧ ¬ c.w0.far k := by
    rintro k (hk | hk)
    · exact ⟨ownB_lt h hk, (ownB_off h hk).1⟩
    · exact ⟨(Array.getElem?_eq_some_iff.1 (h.base.marks k hk)).1, h.base.disj k hk⟩
  obtain ⟨fn, tmps, assign, body, hrun, hR⟩ := hG.2.1 l' ds' rest c.w0.far c.w0.wd c.I0 c.I w own (args.toList.map a.eval) (n - 1) (by rw [← hys]; exact h.gh.1) h.base.os h.base.tape h.base.output h.base.grow h.base.block h.im0 (fun b o hi => (h.imNew b o hi).imp id fun x => x.1) h.im hownlt (all2_repL.2 g1) g2
  have hexec : (execOp a.eval { dst := some dst, op := .call ⟨.value f, args, argTypes⟩, type := ty, pos, after, guard }).run P w = .ok (.round l' fn tmps assign body) w := by
    have e1 : args.map a.eval = ⟨args.toList.map a.eval⟩ := by apply Array.ext'; simp
    simp only [execOp, resolve, hfv, Deferred.ofValue, Sem.run_bind, Sem.run_pure, Result.andThen_ok, invoke]
    rw [e1]; simpa using hrun
  refine ⟨fun _ _ => trivial, ?_⟩
  rw [Oper.semAt_eq _ _ _ (by intro c e; cases e), hexec, Oper.uponIn_round]
  refine ⟨fun h => (by cases h), ?_⟩
  refine (show RoundIn (Fr rr) (n - 1) P l' fn tmps assign body w _ ↔ RoundIn Fence.wide (n - 1) P l' fn tmps assign body w _ from Iff.rfl).2 (hR.mono ?_)
  rintro e w' ⟨hback, he⟩
  have hlpn : c.w0.lp = none := hG.1.resolve_right fun x => by have := x _ _ _ _ h.gh.1; rw [hys] at this; cases this
  have hmv : ∀ ys', c.w0.G ys' (fun k => k < w'.heap.size ∧ ¬ own k) w' c.I → ∃ c', c.Grow c' ∧ St c' { env with ys := ys' } a w' := by
    intro ys' hg
    have hm := (h.move (I' := c.I) (I0' := c.I) (w' := w') (r' := { c.w0 with wd := w', far := fun k => k < w'.heap.size ∧ ¬ own k }) (ys' := ys') (df' := c.df) hback.size (fun k hk => hback.same k (.inl hk)) hback.keeps (fun _ _ x => .inl x)
      (fun b o hi => Nat.lt_of_lt_of_le (h.im b o hi) hback.size) (fun k hk => ⟨fun x => x.2 (.inl hk), (ownB_off h hk).2⟩)
      ⟨rfl, rfl, rfl, Nat.le_refl _, fun _ x => x.1, fun _ _ => rfl, fun k hk => (hback.same k (.inr hk)).trans (h.base.marks k hk), h.base.nodup, fun k hk x => x.2 (.inr hk), fun l hl => by rw [show c.w0.lp = some l from hl] at hlpn; cases hlpn⟩
      (Keeps.refl _ _) (fun _ _ x => .inl x) h.df.2 ⟨hg, FixAll.world h.gh.2 fun st g hl hσ => hback.same g (.inl (.inr ⟨st, hl, hσ⟩))⟩).1
    have ea : ({ a with defers := c.df } : Act) = a := by rw [← h.df.1]
    rw [ea] at hm
    refine ⟨_, ?_, hm⟩
    exact ⟨rfl, rfl, rfl, rfl, rfl, fun _ => rfl⟩
  have hput : ∀ (ys' : Option (Nat × List (List D))) (b : Bool) (env' : Env) c', St c' { env with ys := ys' } a w' → memG { env with ys := ys' } dst none { d := .bool b } = some env' → St c' env' (a.put (some dst) (.bool b)) w' := by
    intro ys' b env' c' hs hm
    simp only [memG] at hm
    rw [memR_plain rfl] at hm
    exact hs.put (by simp [RepT, RepV, RepC, Rep]) hm
  rcases he with ⟨rfl, hg⟩ | ⟨rfl, hg⟩
  · obtain ⟨env', hm, hk⟩ := ht
    obtain ⟨c', hgr, hs⟩ := hmv _ hg
    exact hk c' _ w' hgr (hput _ _ _ _ hs hm)
  · obtain ⟨env', hm, hk⟩ := hf
    obtain ⟨c', hgr, hs⟩ := hmv _ hg
    exact hk c' _ w' hgr (hput _ _ _ _ hs hm)

/-- A call that is handed rows and variables. -/
theorem mem_sound (h : St c env a w) (hgl : GlobW P c.I w) {o : Oper} {f : Nat} {ds caps : List D} (hm : memOf T env o.op = some (f, ds, caps)) {dst : Nat} (hdst : o.dst = some dst) {K0 : Env → Prop} (hd : evMem P f ds caps env dst K0) {K : Act → World → Prop} {Q : Exit → Act → World → Prop}
    (hK : ∀ env' c' a' w', K0 env' → c.Grow c' → St c' env' a' w' → K a' w') : o.wpIn (Fr rr) n P a w K Q := by
  obtain ⟨odst, op, ty, pos, after, guard⟩ := o
  have hdst : odst = some dst := hdst
  subst hdst
  have hd := (fNat_iff _ _).1 hd
  simp only at hm
  unfold memOf at hm
  cases hcf : callOf op with
  | none => rw [hcf] at hm; cases hm
  | some cl0 =>
  rw [hcf] at hm
  unfold callOf at hcf
  cases op <;> (try simp only at hcf) <;> first | (cases hcf; done) | skip
  rename_i cl
  obtain ⟨callee, args, argTypes⟩ := cl
  cases callee <;> (try simp only at hcf) <;> first | (cases hcf; done) | skip
  rename_i fo
  simp only [Option.some.injEq] at hcf
  subst hcf
  simp only at hm
  have hv : ∀ x, RepT c env w (unw none (tv env.wt env.tm x)) (a.eval x) := fun x => rep_tv h (fun s b e => by cases e) x
  have hfv := hv fo
  cases hfd : unw none (tv env.wt env.tm fo) <;> rw [hfd] at hm hfv <;> (try simp only at hm) <;> first | (cases hm; done) | skip
  rename_i fid caps0
  cases hmem : T.mem fid with
  | false => rw [hmem] at hm; cases hm
  | true =>
  rw [hmem] at hm
  simp only [Option.some.injEq, Prod.mk.injEq] at hm
  obtain ⟨rfl, rfl, rfl⟩ := hm
  simp only [RepT, RepV, RepC, Rep] at hfv
  obtain ⟨cvs, hfv, hcaps⟩ := hfv
  obtain ⟨X, hd⟩ := hd
  split at hd
  · rename_i bx0 us0 ds0 bx1 d1 rw0 rw1 e1 e2 e3 e4 e5 e6 e7
    simp only [fB_iff, fU_iff, fL_iff, fR_iff] at hd
    obtain ⟨h1, ⟨⟨fn, hfn, hname, hbody⟩, hcall⟩, h3⟩ := hd
    have N := memOK_spec h1
    cases hs : Env.set (memAfter X env (16 * dst + 1000) bx1 rw1) dst none d1 with
    | none => rw [hs] at h3; exact h3.elim
    | some env' =>
    rw [hs] at h3
    have hargs : All2 (RepT c env w) (args.toList.map fun x => unw none (tv env.wt env.tm x)) (args.toList.map a.eval) := all2_map hv args.toList
    have g1 := fml_vals (rw0 := rw0) e1 e2 N.n1 N.n3 N.n5 hargs e3
    have g2 : All2 (RepT (fctx c X.ren X.rst) (memEnv bx0 us0 rw0) w) caps0 cvs := All2.mono (fun _ _ hr => rep_repT (c := fctx c X.ren X.rst) (env := memEnv bx0 us0 rw0) hr) (all2_repL.1 hcaps)
    have hC := hcall (fctx c X.ren X.rst) w _ ⟨h.mem e1 e2 N.n1 N.n3 N.n5 e6 N.n2 N.n4, hgl⟩ (g1.append g2)
    have hrun : (execOp a.eval { dst := some dst, op := .call ⟨.value fo, args, argTypes⟩, type := ty, pos, after, guard }).run P w = .ok (.enter fid ⟨args.toList.map a.eval ++ cvs⟩) w := by
      have e1 : args.map a.eval ++ (⟨cvs⟩ : Array Value) = ⟨args.toList.map a.eval ++ cvs⟩ := by apply Array.ext'; simp
      simp only [execOp, resolve, hfv, Deferred.ofValue, Sem.run_bind, Sem.run_pure, Result.andThen_ok, invoke, callFunc]
      rw [← e1]
      have hb : fn.body ≠ none := fun e => by rw [e] at hbody; cases hbody
      simp [hfn, hname, hb]
    refine ⟨fun _ _ => trivial, ?_⟩
    rw [Oper.semAt_eq _ _ _ (by intro c e; cases e), hrun]
    refine ⟨fun h => (by cases h), fr_calls.2 (Calls.mono hC fun e w' he => ?_)⟩
    obtain ⟨v, c', rfl, M, hr⟩ := he
    have h2 := h.memAfter N e1 e2 e4 e7 M
    exact hK env' (bctx c c' X (16 * dst + 1000)) _ w' h3 ⟨rfl, rfl, rfl, rfl, rfl, fun _ => rfl⟩ (h2.put (expo_any N e1 M hr e5) hs)
  · exact hd.elim

theorem St.storeD (hT : TyOK P T) (h : St c env a w) {t : Nat} {x d : D} {vx vd : Value} (hx : RepT c env w x vx) (hd : RepT c env w d vd) {env' : Env} (hr : storeD T env t x d = some (true, env')) :
    ∃ w', (Instr.storeAt t vx vd).run P w = .ok () w' ∧ St c env' a w' := by
  have gen : ∀ {x : D}, RepT c env w x vx → ((storeR T env t x d).map fun env' => (true, env')) = some (true, env') → ∃ w', (Instr.storeAt t vx vd).run P w = .ok () w' ∧ St c env' a w' := by
    intro x hx hr
    cases hs : storeR T env t x d with
    | none => rw [hs] at hr; cases hr
    | some e =>
      rw [hs] at hr
      simp only [Option.map_some, Option.some.injEq, Prod.mk.injEq, true_and] at hr; subst hr
      exact h.store hT hx hd hs
  cases x
  case rptr st es i off => exact h.storeRow hT hx hd hr
  all_goals exact gen hx hr

theorem clear_sound (hT : TyOK P T) (h : St c env a w) {i : Nat} {o : Oper} (ho : ops[i]? = some o) {g : Option (Nat × Bool)} (hgn : g = none) (hdst : o.dst = none) (hg : gslot ops o = some g) {x : Operand} {t : Nat} (hcl : clearOf o.op = some (x, t)) {d : D} (hx : RepT c env w d (a.eval x)) {env' : Env} (hs : clearD T env t d = some (true, env'))
    {K : Act → World → Prop} {Q : Exit → Act → World → Prop} (hK : ∀ w', St c env' a w' → K a w') : wpOpIn (Fr rr) n P ops Q i K a w := by
  subst hgn
  unfold wpOpIn
  simp only [ho]
  rcases gslot_spec hg with ⟨hgd, _⟩ | ⟨j, b, p, s, _, _, _, e⟩
  · rw [if_pos (wanted_none hgd _)]
    obtain ⟨odst, op, ty, pos, after, guard⟩ := o
    simp only at hdst hcl
    subst hdst
    unfold clearOf at hcl
    cases op <;> (try simp only at hcl) <;> first | (cases hcl; done) | skip
    rename_i cl
    obtain ⟨callee, args, argTypes⟩ := cl
    cases callee <;> (try simp only at hcl) <;> first | (cases hcl; done) | skip
    rename_i b
    cases b <;> (try simp only at hcl) <;> first | (cases hcl; done) | skip
    split at hcl
    · rename_i x' t' e1 e2
      simp only [Option.some.injEq, Prod.mk.injEq] at hcl
      obtain ⟨rfl, rfl⟩ := hcl
      obtain ⟨w', h1, h2⟩ := h.clearRow hT hx hs ty
      have e3 : args = ⟨[x']⟩ := by apply Array.ext'; simpa using e1
      have e4 : argTypes = #[t'] := by apply Array.ext'; simpa using e2
      subst e3; subst e4
      refine wpIn_of_run (v := .tuple #[]) (by intro c e; cases e) ?_ (hK w' h2)
      rw [run_builtin, show (⟨[x']⟩ : Array Operand).map a.eval = #[a.eval x'] from by simp]
      simp [builtin, h1]
    · cases hcl
  · cases e

theorem evOp_sound (hT : TyOK P T) (h : St c env a w) (hG : GYield P c.w0) {i : Nat} {o : Oper} (ho : ops[i]? = some o) {K0 : Env → Prop} (hd : evOp P T ops o env K0) {K : Act → World → Prop} {Q : Exit → Act → World → Prop}
    (hK : ∀ env' c' a' w', K0 env' → c.Grow c' → St c' env' a' w' → K a' w') : wpOpIn (Fr rr) n P ops Q i K a w := by
  unfold evOp at hd
  cases hg : gslot ops o with
  | none => rw [hg] at hd; exact hd.elim
  | some g =>
    rw [hg] at hd
    simp only at hd
    have hval : (match o.dst with
        | some dst => doesP P T g (tv env.wt env.tm) env.bx env.mp env.rows dst o.op (gcond (fun _ => true) 8 env.wt env.tm g) fun r => match memG env dst g r with
          | some env' => K0 env'
          | none => False
        | none => False) → wpOpIn (Fr rr) n P ops Q i K a w := by
      intro hd
      cases hdst : o.dst with
      | none => rw [hdst] at hd; exact hd.elim
      | some dst =>
        rw [hdst] at hd
        refine value_sound hT h (hG.glob h) (rep_tvX h) (fun _ _ h => h) (fun _ _ h => h) ho hdst hg (gcond_sound _ h 8 g) hd (fun r env' c' a' w' hr he h1 h2 => ?_) (fun r hr => ?_)
        · rw [he] at hr; exact hK env' c' a' w' hr h1.grow h2
        · cases he : memG env dst g r with
          | none => rw [he] at hr; exact hr.elim
          | some env' => exact ⟨env', rfl⟩
    have hskip : ∀ {w' : World} {env' : Env}, g = none → o.dst = none → (∀ c, o.op ≠ .defer c) → (execOp a.eval o).run P w = .ok .skip w' → St c env' a w' → K0 env' → wpOpIn (Fr rr) n P ops Q i K a w := by
      intro w' env' e1 e2 hnd hrun hst hk
      subst e1
      unfold wpOpIn
      simp only [ho]
      rcases gslot_spec hg with ⟨hgd, _⟩ | ⟨j, b, p, s, _, _, _, e⟩
      · rw [if_pos (wanted_none hgd _)]
        refine wpIn_of_skip hnd hrun ?_
        rw [e2]
        exact hK env' c a w' hk (.refl c) hst
      · cases e
    have hv : ∀ x, RepT c env w (unw none (tv env.wt env.tm x)) (a.eval x) := fun x => rep_tv h (fun s b e => by cases e) x
    split at hd
    · rename_i t ad x hop
      cases hgn : g with
      | some _ => rw [hgn] at hd; exact hd.elim
      | none =>
        cases hdst : o.dst with
        | some _ => rw [hgn, hdst] at hd; exact hd.elim
        | none =>
          rw [hgn, hdst] at hd
          simp only at hd
          obtain ⟨env', hs, hd⟩ := storeP_iff.1 hd
          obtain ⟨w', h1, h2⟩ := h.storeD hT (hv ad) (hv x) hs
          exact hskip hgn hdst (by rw [hop]; intro c e; cases e) (by simp [execOp, hop, h1]) h2 hd
    · rename_i t m k x hop
      cases hgn : g with
      | some _ => rw [hgn] at hd; exact hd.elim
      | none =>
        cases hdst : o.dst with
        | some _ => rw [hgn, hdst] at hd; exact hd.elim
        | none =>
          rw [hgn, hdst] at hd
          simp only [fD_iff] at hd
          cases hs : mapUpR T env t (unw none (tv env.wt env.tm m)) (unw none (tv env.wt env.tm k)) (unw none (tv env.wt env.tm x)) with
          | none => rw [hs] at hd; exact hd.elim
          | some q =>
            obtain ⟨sd, env'⟩ := q
            rw [hs] at hd
            obtain ⟨rfl, hd⟩ := hd
            obtain ⟨w', h1, h2⟩ := h.mapUp hT (hv m) (hv k) (hv x) hs
            exact hskip hgn hdst (by rw [hop]; intro c e; cases e) (by simp [execOp, hop, h1]) h2 hd
    · cases hcl : clearOf o.op with
      | some q =>
        obtain ⟨x, t⟩ := q
        rw [hcl] at hd
        simp only at hd
        cases hgn : g with
        | some _ => rw [hgn] at hd; exact hd.elim
        | none =>
          cases hdst : o.dst with
          | some _ => rw [hgn, hdst] at hd; exact hd.elim
          | none =>
            rw [hgn, hdst] at hd
            simp only at hd
            cases hs : clearD T env t (unw none (tv env.wt env.tm x)) with
            | none => rw [hs] at hd; exact hd.elim
            | some q =>
              obtain ⟨sd, env'⟩ := q
              rw [hs] at hd
              obtain ⟨h1, hd⟩ := sideB_iff.1 hd
              obtain rfl := h1 trivial
              exact clear_sound hT h ho hgn hdst hg hcl (hv x) hs fun w' hst => by
                subst hgn
                exact hK env' c a w' hd (.refl c) hst
      | none =>
      rw [hcl] at hd
      simp only at hd
      cases hdst : o.dst with
      | none => rw [hdst] at hd; exact hd.elim
      | some dst =>
        rw [hdst] at hd
        simp only at hd
        cases hy : yldOf g env o.op with
        | none =>
          rw [hy] at hd
          cases hmo : memOf T env o.op with
          | none =>
            rw [hmo] at hd
            refine hval ?_
            rw [hdst]; exact doesF_iff.1 hd
          | some q =>
            obtain ⟨f, ds, caps⟩ := q
            rw [hmo] at hd
            cases hgn : g with
            | some _ => rw [hgn] at hd; exact hd.elim
            | none =>
              rw [hgn] at hd
              simp only [fL_iff] at hd
              subst hgn
              unfold wpOpIn
              simp only [ho]
              rcases gslot_spec hg with ⟨hgd, _⟩ | ⟨j, b, p, s, _, _, _, e⟩
              · rw [if_pos (wanted_none hgd _)]
                exact mem_sound h (hG.glob h) hmo hdst hd hK
              · cases e
        | some ld =>
          obtain ⟨l, ds⟩ := ld
          rw [hy] at hd
          simp only at hd
          cases hgn : g with
          | some sb =>
            obtain ⟨s, b⟩ := sb
            rw [hgn] at hd
            cases hys : env.ys with
            | none => rw [hys] at hd; exact hd.elim
            | some lx =>
              obtain ⟨l', xs⟩ := lx
              rw [hys] at hd
              simp only at hd
              cases hlk : look s env.tm with
              | none => rw [hlk] at hd; exact hd.elim
              | some dl =>
                rw [hlk] at hd
                cases dl <;> first | exact hd.elim | skip
                rename_i t
                simp only at hd
                subst hgn
                have hts : a.tmps.getD s undef = .bool t := by simpa [RepT, RepV, RepC, Rep] using h.tm s _ hlk
                rcases gslot_spec hg with ⟨_, e⟩ | ⟨j, b', p, s', hgd, hp, hs, e⟩
                · cases e
                · obtain ⟨rfl, rfl⟩ : s = s' ∧ b = b' := by cases e; exact ⟨rfl, rfl⟩
                  have hw := wanted_some (a := a) hgd hp hs
                  unfold wpOpIn
                  simp only [ho]
                  rcases hd with ⟨rfl, hd⟩ | ⟨hne, hd⟩
                  · rw [if_pos (hw.2 hts)]
                    cases xs with
                    | nil => exact hd.elim
                    | cons x rest =>
                      simp only at hd
                      obtain ⟨⟨rfl, rfl⟩, h1, h2⟩ := hd
                      refine yield_sound h hG (fun s b e => by cases e; exact hts) hy hys hdst ?_ ?_
                      · cases hm : memG { env with ys := some (l, rest) } dst none { d := .bool true } with
                        | none => rw [hm] at h1; exact h1.elim
                        | some env' => rw [hm] at h1; exact ⟨env', rfl, fun c' a' w' hgr hs => hK env' c' a' w' h1 hgr hs⟩
                      · cases hm : memG { env with ys := none } dst none { d := .bool false } with
                        | none => rw [hm] at h2; exact h2.elim
                        | some env' => rw [hm] at h2; exact ⟨env', rfl, fun c' a' w' hgr hs => hK env' c' a' w' h2 hgr hs⟩
                  · have hnv : a.tmps.getD s undef ≠ .bool b := fun e => hne (by rw [hts] at e; cases e; rfl)
                    rw [if_neg (fun hh => hnv (hw.1 hh))]
                    refine ⟨fun _ _ => trivial, ?_⟩
                    cases hm : memG env dst (some (s, b)) { d := .undef } with
                    | none => rw [hm] at hd; exact hd.elim
                    | some env' =>
                      rw [hm] at hd
                      simp only [memG] at hm
                      rw [show (({ d := .undef } : Res).plain) = true from rfl, cond_true] at hm
                      rw [hdst]
                      exact hK env' c _ w hd (.refl c) (h.putW (fun e => absurd e hnv) (fun _ => rfl) hm)
          | none =>
            rw [hgn] at hd
            cases hys : env.ys with
            | none => rw [hys] at hd; exact hd.elim
            | some lx =>
              obtain ⟨l', xs⟩ := lx
              cases xs with
              | nil => rw [hys] at hd; exact hd.elim
              | cons x rest =>
                rw [hys] at hd
                simp only at hd
                obtain ⟨⟨rfl, rfl⟩, h1, h2⟩ := hd
                subst hgn
                unfold wpOpIn
                simp only [ho]
                rcases gslot_spec hg with ⟨hgd, _⟩ | ⟨j, b, p, s, _, _, _, e⟩
                · rw [if_pos (wanted_none hgd _)]
                  refine yield_sound h hG (fun s b e => by cases e) hy hys hdst ?_ ?_
                  · cases hm : memG { env with ys := some (l, rest) } dst none { d := .bool true } with
                    | none => rw [hm] at h1; exact h1.elim
                    | some env' => rw [hm] at h1; exact ⟨env', rfl, fun c' a' w' hgr hs => hK env' c' a' w' h1 hgr hs⟩
                  · cases hm : memG { env with ys := none } dst none { d := .bool false } with
                    | none => rw [hm] at h2; exact h2.elim
                    | some env' => rw [hm] at h2; exact ⟨env', rfl, fun c' a' w' hgr hs => hK env' c' a' w' h2 hgr hs⟩
                · cases e

theorem St.end (h : St c env a w) : St c env.end a w := h.endRegion

theorem evOps_sound (hT : TyOK P T) {K0 : Env → Prop} {Q : Exit → Act → World → Prop} : ∀ {os : List Oper} {is : List Nat} {env : Env} {c : Ctx} {a : Act} {w : World}, All2 (fun o i => ops[i]? = some o) os is → St c env a w → GYield P c.w0 → evOps P T ops os env K0 →
    (∀ env' c' a' w', K0 env' → c.Grow c' → St c' env' a' w' → Q .normal a' w') → wpOpsIn (Fr rr) n P ops Q is a w
  | [], [], env, c, a, w, _, h, _, hd, hK => hK _ c a w ((fE_iff _ _).1 hd) (.refl c) h.end
  | o :: os, i :: is, env, c, a, w, hi, h, hG, hd, hK => by
    rw [wpOpsIn_cons]
    refine evOp_sound hT h hG hi.1 hd fun env' c' a' w' hk hn hst => ?_
    exact evOps_sound hT hi.2 hst (hG.grow hn) ((fE1_iff _ _).1 hk) fun e2 c2 a2 w2 k2 n2 s2 => hK e2 c2 a2 w2 k2 (hn.trans n2) s2
  | [], _ :: _, _, _, _, _, hi, _, _, _, _ => hi.elim
  | _ :: _, [], _, _, _, _, hi, _, _, _, _ => hi.elim
end

end Go.Proofs.YtnooelecdbbfkaaGreatDoor.Fw

/- At the head of a loop. -/
namespace Go.Proofs.YtnooelecdbbfkaaGreatDoor.Fw
open Go Go.RowKit
set_option linter.unusedSectionVars false
variable [Inhabited GLT]

theorem look_map {β : Type} (F : Nat → β) : ∀ {ts : List Nat} {t : Nat} {d : β}, look t (ts.map fun t => (t, F t)) = some d → d = F t
  | [], t, d, h => by simp [look] at h
  | x :: ts, t, d, h => by
    rw [List.map_cons, look_cons] at h
    split at h
    · rename_i e; subst e; exact (Option.some.inj h).symm
    · exact look_map F h

theorem nameS_big {i st : Nat} (h : bigS ≤ st) : nameS i st = st := by rw [nameS, Nat.ble_eq_true_of_le h]; rfl
theorem nameS_small {i st : Nat} (h : ¬ bigS ≤ st) : nameS i st = 2 * i + 2 := by
  rw [nameS]
  cases hb : Nat.ble bigS st with
  | true => exact absurd (Nat.le_of_ble_eq_true hb) h
  | false => rfl
theorem usOf_spec {us : List (Nat × Nat)} : ∀ {l : List Nat} {i : Nat} {r : List (Nat × Nat)}, usOf us l i = some r → 2 * (i + l.length) + 2 < bigS →
    (∀ s u, look s r = some u → ∃ k st, s = nameS (i + k) st ∧ l[k]? = some st ∧ look st us = some u) ∧ (∀ k st, l[k]? = some st → ∃ u, look st us = some u ∧ look (nameS (i + k) st) r = some u)
  | [], i, r, h, _ => by
    simp only [usOf, Option.some.injEq] at h; subst h
    exact ⟨fun s u h => by simp [look] at h, fun k st h => by simp at h⟩
  | x :: l, i, r, h, hb => by
    simp only [usOf] at h
    simp only [List.length_cons] at hb
    cases hx : look x us with
    | none => rw [hx] at h; cases h
    | some u =>
      cases hr : usOf us l (i + 1) with
      | none => rw [hx, hr] at h; cases h
      | some r2 =>
        rw [hx, hr] at h
        simp only [Option.some.injEq] at h; subst h
        obtain ⟨h1, h2⟩ := usOf_spec hr (by omega)
        refine ⟨fun s v hs => ?_, fun k st hk => ?_⟩
        · rw [look_cons] at hs
          split at hs
          · rename_i e; cases hs
            exact ⟨0, x, e.symm, rfl, hx⟩
          · obtain ⟨k, st, e1, e2, e3⟩ := h1 s v hs
            exact ⟨k + 1, st, by rw [e1, show i + 1 + k = i + (k + 1) from by omega], by simpa using e2, e3⟩
        · cases k with
          | zero =>
            simp only [List.getElem?_cons_zero, Option.some.injEq] at hk; subst hk
            exact ⟨u, hx, by rw [look_cons, Nat.add_zero, if_pos rfl]⟩
          | succ k =>
            have hk' : l[k]? = some st := by simpa using hk
            obtain ⟨v, e1, e2⟩ := h2 k st hk'
            have hkl := (List.getElem?_eq_some_iff.1 hk').1
            rw [show i + (k + 1) = i + 1 + k from by omega]
            by_cases e : nameS i x = nameS (i + 1 + k) st
            · have : x = st := by
                by_cases b1 : bigS ≤ x <;> by_cases b2 : bigS ≤ st
                · rw [nameS_big b1, nameS_big b2] at e; exact e
                · rw [nameS_big b1, nameS_small b2] at e; omega
                · rw [nameS_small b1, nameS_big b2] at e; omega
                · rw [nameS_small b1, nameS_small b2] at e; omega
              subst this
              rw [hx] at e1; cases e1
              exact ⟨u, hx, by rw [look_cons, if_pos e]⟩
            · exact ⟨v, e1, by rw [look_cons, if_neg e]; exact e2⟩
theorem rwOf_spec {rw : List (Nat × RowC)} : ∀ {l : List Nat} {i : Nat} {s : Nat} {r : RowC}, look s (rwOf rw l i) = some r → ∃ k st, s = nameS (i + k) st ∧ l[k]? = some st ∧ look st rw = some r
  | [], _, _, _, h => by cases h
  | x :: l, i, s, r, h => by
    simp only [rwOf] at h
    have tl : look s (rwOf rw l (i + 1)) = some r → ∃ k st, s = nameS (i + k) st ∧ (x :: l)[k]? = some st ∧ look st rw = some r := fun h => by
      obtain ⟨k, st, e1, e2, e3⟩ := rwOf_spec h
      exact ⟨k + 1, st, by rw [e1, show i + 1 + k = i + (k + 1) from by omega], by simpa using e2, e3⟩
    cases hx : look x rw with
    | none => rw [hx] at h; exact tl h
    | some r' =>
      rw [hx] at h
      simp only [look_cons] at h
      split at h
      · rename_i e; cases h; exact ⟨0, x, e.symm, rfl, hx⟩
      · exact tl h

theorem idxOf_spec {x : Nat} : ∀ {l : List Nat} {i k : Nat}, idxOf x l i = some k → ∃ j, k = i + j ∧ l[j]? = some x
  | [], i, k, h => by simp [idxOf] at h
  | y :: l, i, k, h => by
    simp only [idxOf] at h
    cases hb : Nat.beq x y with
    | true =>
      rw [hb, cond_true, Option.some.injEq] at h
      exact ⟨0, by omega, by rw [nbeq.1 hb]; rfl⟩
    | false =>
      rw [hb, cond_false] at h
      obtain ⟨j, e1, e2⟩ := idxOf_spec h
      exact ⟨j + 1, by omega, by simpa using e2⟩

theorem distinct_spec : ∀ {l : List Nat}, distinct l = true → ∀ (i j x : Nat), l[i]? = some x → l[j]? = some x → i = j
  | [], _, i, j, x, h, _ => by simp at h
  | y :: l, hd, i, j, x, hi, hj => by
    simp only [distinct, Bool.and_eq_true, Bool.not_eq_true', List.contains_eq_mem, decide_eq_false_iff_not] at hd
    cases i with
    | zero =>
      cases j with
      | zero => rfl
      | succ j =>
        simp only [List.getElem?_cons_zero, Option.some.injEq] at hi; subst hi
        exact absurd (List.mem_of_getElem? (by simpa using hj)) hd.1
    | succ i =>
      cases j with
      | zero =>
        simp only [List.getElem?_cons_zero, Option.some.injEq] at hj; subst hj
        exact absurd (List.mem_of_getElem? (by simpa using hi)) hd.1
      | succ j => rw [distinct_spec hd.2 i j x (by simpa using hi) (by simpa using hj)]

theorem restamp_spec (dd l : List Nat) (st : Nat) : (st ≤ 1 ∧ restamp dd l st = st) ∨ restamp dd l st = 0 ∨ (2 ≤ st ∧ st ∉ dd ∧ ∃ i, l[i]? = some st ∧ restamp dd l st = nameS i st) := by
  unfold restamp
  cases h1 : Nat.ble st 1 with
  | true => exact .inl ⟨Nat.le_of_ble_eq_true h1, rfl⟩
  | false =>
    have h1' : ¬ st ≤ 1 := fun h => by rw [Nat.ble_eq_true_of_le h] at h1; cases h1
    rw [cond_false]
    cases h2 : dd.contains st with
    | true => exact .inr (.inl rfl)
    | false =>
      rw [cond_false]
      cases h3 : idxOf st l 0 with
      | none => exact .inr (.inl rfl)
      | some i =>
        obtain ⟨j, e1, e2⟩ := idxOf_spec h3
        refine .inr (.inr ⟨by omega, by simpa using h2, j, e2, ?_⟩)
        simp only [e1, Nat.zero_add]

section
variable {P : Program} {T : Ty} {c : Ctx} {env : Env} {a : Act} {w : World}

/-- What stays where it is goes on. -/
def Covers (r : Root) (bs ms : List Nat) : Prop := ∀ k s b, r.fix k s = some b → match k with | true => s ∈ bs | false => s ∈ ms

theorem St.canonW' (h : St c env a w) {ts bs ms l : List Nat} {env' : Env} (hc : canonW ts bs ms l env = some env') (hcov : Covers c.w0 bs ms) : ∃ c', c.Next c' ∧ St c' env' a w ∧ c'.ρ = c.ρ ∧ c'.I = c.I ∧ (∀ s, (look s env'.bx).isSome = true ↔ s ∈ bs) ∧ (∀ s, (look s env'.mp).isSome = true ↔ s ∈ ms) ∧ (∀ k, ownB c' env' k → ownB c env k) ∧ env'.nt = env.nt ∧ env'.ys = env.ys ∧ (∀ st, bigS ≤ st → env'.live st → env.live st ∧ c'.σ st = c.σ st) := by
  unfold Fw.canonW at hc
  cases hbx : allSome (bs.map fun s => (canonBx (restamp env.dd l) bs ms env.bx s).map fun b => (s, b)) with
  | none => rw [hbx] at hc; cases hc
  | some bx' =>
  cases hmp : allSome (ms.map fun s => (look s env.mp).map fun m => (s, m)) with
  | none => rw [hbx, hmp] at hc; cases hc
  | some mp' =>
  cases hus : usOf env.us l 0 with
  | none => rw [hbx, hmp, hus] at hc; cases hc
  | some us' =>
  rw [hbx, hmp, hus] at hc
  simp only at hc
  cases hok : (distinct l && (Nat.blt (2 * l.length + 2) bigS && l.all (fun st => Nat.ble 2 st && !env.dd.contains st))) with
  | false => rw [hok] at hc; cases hc
  | true =>
  rw [hok, cond_true, Option.some.injEq] at hc
  subst hc
  simp only [Bool.and_eq_true, Nat.blt_eq] at hok
  obtain ⟨hdis, hlen, hall⟩ := hok
  have hlall : ∀ i st, l[i]? = some st → 2 ≤ st ∧ st ∉ env.dd := fun i st hi => by
    have := List.all_eq_true.1 hall st (List.mem_of_getElem? hi)
    simpa using this
  have hb := look_allSome (canonBx (restamp env.dd l) bs ms env.bx) hbx
  have hm := look_allSome (fun s => look s env.mp) hmp
  obtain ⟨hu1, hu2⟩ := usOf_spec hus (by omega)
  simp only [Nat.zero_add] at hu1 hu2
  generalize hE : ({ nt := env.nt, tm := ts.map fun t => (t, (trim (restamp env.dd l) bs ms ((look t env.tm).getD .undef)).getD .undef), wt := [], bx := bx', mp := mp', us := us', dd := [], ys := env.ys, rw := rwOf env.rw l 0 } : Env) = E
  have eb : E.bx = bx' := by rw [← hE]
  have em : E.mp = mp' := by rw [← hE]
  have eu : E.us = us' := by rw [← hE]
  have ed : E.dd = [] := by rw [← hE]
  have er : E.rw = rwOf env.rw l 0 := by rw [← hE]
  have hbS : ∀ s b', look s E.bx = some b' → s ∈ bs ∧ ∃ b cs, look s env.bx = some b ∧ trimL (restamp env.dd l) bs ms b.cells = some cs ∧ b' = { b with cells := cs } := by
    intro s b' hs
    rw [eb, hb s] at hs
    split at hs
    · rename_i hmem
      refine ⟨hmem, ?_⟩
      unfold canonBx at hs
      split at hs
      · rename_i b hbb
        split at hs
        · rename_i cs hcs
          exact ⟨b, cs, hbb, hcs, (Option.some.inj hs).symm⟩
        · cases hs
      · cases hs
    · cases hs
  have hbI : ∀ s, s ∈ bs → (look s E.bx).isSome = true := by
    intro s hs
    rw [eb, hb s, if_pos hs]
    -- every one of them is there
    have : ∀ {bs' : List Nat} {r : List (Nat × BoxC)}, allSome (bs'.map fun s => (canonBx (restamp env.dd l) bs ms env.bx s).map fun b => (s, b)) = some r → ∀ s ∈ bs', (canonBx (restamp env.dd l) bs ms env.bx s).isSome = true := by
      intro bs'
      induction bs' with
      | nil => intro r _ s hs; cases hs
      | cons x bs' ih =>
        intro r hr s hs
        simp only [List.map_cons] at hr
        cases hx : canonBx (restamp env.dd l) bs ms env.bx x with
        | none => rw [hx] at hr; simp [allSome] at hr
        | some b =>
          rw [hx] at hr
          simp only [Option.map_some, allSome] at hr
          cases h2 : allSome (bs'.map fun s => (canonBx (restamp env.dd l) bs ms env.bx s).map fun b => (s, b)) with
          | none => rw [h2] at hr; cases hr
          | some r2 =>
            rcases List.mem_cons.1 hs with rfl | hs
            · rw [hx]; rfl
            · exact ih h2 s hs
    exact this hbx s hs
  have hmS : ∀ s m, look s E.mp = some m → s ∈ ms ∧ look s env.mp = some m := by
    intro s m hs
    rw [em, hm s] at hs
    split at hs
    · rename_i hmem; exact ⟨hmem, hs⟩
    · cases hs
  have hmI : ∀ s, s ∈ ms → (look s env.mp).isSome = true → (look s E.mp).isSome = true := by
    intro s hs hl
    rw [em, hm s, if_pos hs]; exact hl
  let c' : Ctx := { c with σ := fun s => if bigS ≤ s then c.σ s else (l[(s - 2) / 2]?).bind c.σ }
  have hσ : ∀ i st, l[i]? = some st → c'.σ (nameS i st) = c.σ st := by
    intro i st hi
    show (if bigS ≤ nameS i st then c.σ (nameS i st) else (l[(nameS i st - 2) / 2]?).bind c.σ) = _
    have hil := (List.getElem?_eq_some_iff.1 hi).1
    by_cases hb : bigS ≤ st
    · rw [nameS_big hb, if_pos hb]
    · rw [nameS_small hb, if_neg (by omega), show (2 * i + 2 - 2) / 2 = i from by omega, hi]; rfl
  have hn2 : ∀ i st, l[i]? = some st → 2 ≤ nameS i st := by
    intro i st hi
    by_cases hb : bigS ≤ st
    · rw [nameS_big hb]; exact (hlall i st hi).1
    · rw [nameS_small hb]; omega
  have hown : ∀ st es k v, OwnC c env w st es k v → OwnC c' E w (restamp env.dd l st) es k v := by
    intro st es k v ho
    rcases restamp_spec env.dd l st with ⟨h1, h2⟩ | h2 | ⟨h1, h3, i, h4, h2⟩
    · rw [h2]
      rcases ho with ho | ho | ⟨ho, _⟩
      · exact .inl ho
      · exact .inr (.inl ho)
      · omega
    · rw [h2]; exact .inl rfl
    · rw [h2]
      rcases ho with ho | ⟨ho, _⟩ | ⟨_, u, hu, hm0, ho⟩
      · omega
      · omega
      · obtain ⟨u', e1, e2⟩ := hu2 i st h4
        rw [hu] at e1; cases e1
        refine .inr (.inr ⟨hn2 i st h4, u, by rw [eu]; exact e2, hm0, .inr ?_⟩)
        rw [hσ i st h4]
        exact ho.resolve_left h3
  have hrow : ∀ st, Nat.ble (restamp env.dd l st) 1 = false → ∃ i, st ∉ env.dd ∧ l[i]? = some st ∧ c'.σ (nameS i st) = c.σ st ∧ restamp env.dd l st = nameS i st := by
    intro st hb
    have hb' : ¬ restamp env.dd l st ≤ 1 := fun h => by rw [Nat.ble_eq_true_of_le h] at hb; cases hb
    rcases restamp_spec env.dd l st with ⟨h1, h2⟩ | h2 | ⟨h1, h3, i, h4, h2⟩
    · omega
    · omega
    · exact ⟨i, h3, h4, hσ i st h4, h2⟩
  have htC : ∀ d d' v, RepC c env w d v → trim (restamp env.dd l) bs ms d = some d' → RepC c' E w d' v := by
    intro d d' v hr ht
    cases d <;> simp only [trim] at ht <;> first | (cases ht; done) | skip
    case agg => exact hr.elim
    case sl st es xs => simp only [Option.some.injEq] at ht; subst ht; exact ⟨hr.1, hown _ _ _ _ hr.2⟩
    case loc s off =>
      cases hcn : bs.contains s with
      | false => rw [hcn] at ht; cases ht
      | true =>
        rw [hcn, cond_true, Option.some.injEq] at ht; subst ht
        exact ⟨hbI s (by simpa using hcn), hr.2⟩
    case lsl s off k =>
      cases hcn : bs.contains s with
      | false => rw [hcn] at ht; cases ht
      | true =>
        rw [hcn, cond_true, Option.some.injEq] at ht; subst ht
        exact ⟨hbI s (by simpa using hcn), hr.2⟩
    case mapr s =>
      cases hcn : ms.contains s with
      | false => rw [hcn] at ht; cases ht
      | true =>
        rw [hcn, cond_true, Option.some.injEq] at ht; subst ht
        exact ⟨hmI s (by simpa using hcn) hr.1, hr.2⟩
    case rsl st es lo n =>
      cases hb : Nat.ble (restamp env.dd l st) 1 with
      | true => rw [hb] at ht; cases ht
      | false =>
        rw [hb, cond_false, Option.some.injEq] at ht; subst ht
        obtain ⟨i, h3, h4, h5, h6⟩ := hrow st hb
        obtain ⟨q1, q2, q3⟩ := hr
        rw [h6]
        obtain ⟨u', e1, e2⟩ := hu2 i st h4
        rw [q1] at e1; cases e1
        refine ⟨by rw [eu]; exact e2, q2, .inr ?_⟩
        rw [h5]; exact q3.resolve_left h3
    case rptr st es j off =>
      cases hb : Nat.ble (restamp env.dd l st) 1 with
      | true => rw [hb] at ht; cases ht
      | false =>
        rw [hb, cond_false, Option.some.injEq] at ht; subst ht
        obtain ⟨i, h3, h4, h5, h6⟩ := hrow st hb
        obtain ⟨q1, q2, q3⟩ := hr
        rw [h6]
        obtain ⟨u', e1, e2⟩ := hu2 i st h4
        rw [q1] at e1; cases e1
        refine ⟨by rw [eu]; exact e2, q2, .inr ?_⟩
        rw [h5]; exact q3.resolve_left h3
    all_goals (simp only [Option.some.injEq] at ht; subst ht; exact hr)
  have htL : ∀ (ds ds' : List D) (vs : List Value), All2 (RepC c env w) ds vs → trimL (restamp env.dd l) bs ms ds = some ds' → All2 (RepC c' E w) ds' vs := by
    intro ds
    induction ds with
    | nil =>
      intro ds' vs hr ht
      simp only [trimL, Option.some.injEq] at ht; subst ht
      cases vs with
      | nil => trivial
      | cons _ _ => exact hr.elim
    | cons d ds ih =>
      intro ds' vs hr ht
      cases vs with
      | nil => exact hr.elim
      | cons v vs =>
        simp only [trimL] at ht
        cases h1 : trim (restamp env.dd l) bs ms d with
        | none => rw [h1] at ht; cases ht
        | some d' =>
          cases h2 : trimL (restamp env.dd l) bs ms ds with
          | none => rw [h1, h2] at ht; cases ht
          | some es =>
            rw [h1, h2] at ht
            simp only [Option.some.injEq] at ht; subst ht
            exact ⟨htC d d' v hr.1 h1, ih es vs hr.2 h2⟩
  have htT : ∀ d v, RepT c env w d v → RepT c' E w ((trim (restamp env.dd l) bs ms d).getD .undef) v := by
    intro d v hr
    cases ht : trim (restamp env.dd l) bs ms d with
    | none => trivial
    | some d' =>
      rw [Option.getD_some]
      cases d with
      | tup ds => simp only [trim] at ht; cases ht
      | wh s b d => simp only [trim] at ht; cases ht
      | undef => simp only [trim, Option.some.injEq] at ht; subst ht; trivial
      | agg cs =>
        obtain ⟨vs, e, hr⟩ := hr
        simp only [trim] at ht
        cases h1 : trimL (restamp env.dd l) bs ms cs with
        | none => rw [h1] at ht; cases ht
        | some cs' =>
          rw [h1] at ht
          simp only [Option.map_some, Option.some.injEq] at ht; subst ht
          exact ⟨vs, e, htL cs cs' vs hr h1⟩
      | _ =>
        simp only [RepT, RepV] at hr
        have h2 := htC _ d' v hr ht
        cases d' <;> first | exact h2 | exact h2.elim | (simp only [RepC, Rep] at h2)
  have hblk : ∀ s, E.blk s → env.blk s := by
    rintro s (hs | hs)
    · cases h1 : look s E.bx with
      | none => rw [h1] at hs; cases hs
      | some b' => obtain ⟨_, b, _, h2, _⟩ := hbS s b' h1; exact .inl (by rw [h2]; rfl)
    · cases h1 : look s E.mp with
      | none => rw [h1] at hs; cases hs
      | some m => exact .inr (by rw [(hmS s m h1).2]; rfl)
  have hlive : ∀ s, E.live s → ∃ i st, s = nameS i st ∧ l[i]? = some st ∧ env.live st := by
    rintro s ⟨hs, _⟩
    cases h1 : look s E.us with
    | none => rw [h1] at hs; cases hs
    | some u =>
      rw [eu] at h1
      obtain ⟨k, st, e1, e2, e3⟩ := hu1 s u h1
      exact ⟨k, st, e1, e2, by rw [e3]; rfl, (hlall k st e2).2⟩
  have hmI2 : ∀ s, s ∈ ms → (look s E.mp).isSome = true := by
    intro s hs
    rw [em, hm s, if_pos hs]
    have : ∀ {ms' : List Nat} {r : List (Nat × MapC)}, allSome (ms'.map fun s => (look s env.mp).map fun m => (s, m)) = some r → ∀ s ∈ ms', (look s env.mp).isSome = true := by
      intro ms'
      induction ms' with
      | nil => intro r _ s hs; cases hs
      | cons x ms' ih =>
        intro r hr s hs
        simp only [List.map_cons] at hr
        cases hx : look x env.mp with
        | none => rw [hx] at hr; simp [allSome] at hr
        | some b =>
          rw [hx] at hr
          simp only [Option.map_some, allSome] at hr
          cases h2 : allSome (ms'.map fun s => (look s env.mp).map fun m => (s, m)) with
          | none => rw [h2] at hr; cases hr
          | some r2 =>
            rcases List.mem_cons.1 hs with rfl | hs
            · rw [hx]; rfl
            · exact ih h2 s hs
    exact this hmp s hs
  have hbig : ∀ st, bigS ≤ st → E.live st → env.live st ∧ c'.σ st = c.σ st := fun st hb hl => by
    refine ⟨?_, if_pos hb⟩
    obtain ⟨i, st', e, hi, hl'⟩ := hlive st hl
    have hil := (List.getElem?_eq_some_iff.1 hi).1
    by_cases hb' : bigS ≤ st'
    · rw [nameS_big hb'] at e; rw [e]; exact hl'
    · rw [nameS_small hb'] at e; omega
  refine ⟨c', ⟨rfl, rfl, rfl⟩, ?_, rfl, rfl, fun s => ⟨fun hs => ?_, hbI s⟩, fun s => ⟨fun hs => ?_, hmI2 s⟩, ?_, by rw [← hE], by rw [← hE], hbig⟩
  rotate_left
  · obtain ⟨b', hb'⟩ := Option.isSome_iff_exists.1 hs; exact (hbS s b' hb').1
  · obtain ⟨m', hm'⟩ := Option.isSome_iff_exists.1 hs; exact (hmS s m' hm').1
  · rintro k (⟨s, hs, rfl⟩ | ⟨st, hl, hg⟩)
    · exact .inl ⟨s, hblk s hs, rfl⟩
    · obtain ⟨i, st', rfl, hi, hl'⟩ := hlive st hl
      rw [hσ i st' hi] at hg
      exact .inr ⟨st', hl', hg⟩
  refine ⟨by rw [← hE]; exact h.nt, h.df, fun t d hd => ?_, fun t d hd => by rw [← hE] at hd; simp [look] at hd, fun s b' hs => ?_, fun s m hs => ?_, fun s s' h1 h2 e => h.inj s s' (hblk s h1) (hblk s' h2) e,
    fun s hs => h.above s (hblk s hs), fun s hs => h.lt s (hblk s hs), fun s1 s2 g h1 h2 e1 e2 => ?_, fun s g hs e => ?_, h.im, h.im0, h.imNew, h.base, ⟨by rw [← hE]; exact h.gh.1, fun k s b hs => ?_, fun st o ho => ⟨(h.gh.2.2 st o ho).1, fun hl => ?_⟩⟩, fun s r hs => ?_⟩
  · rw [← hE] at hd
    have := look_map _ hd
    subst this
    refine htT _ _ ?_
    cases hl : look t env.tm with
    | none => trivial
    | some d => exact h.tm t d hl
  · obtain ⟨_, b, cs, h1, h2, rfl⟩ := hbS s b' hs
    obtain ⟨vs, e, k1, k2, k3, k4⟩ := h.bx s b h1
    exact ⟨vs, e, k1, htL _ _ _ k2 h2, k3, k4⟩
  · obtain ⟨_, h1⟩ := hmS s m hs
    exact h.mp s m h1
  · obtain ⟨i, st, rfl, hi, hl1⟩ := hlive s1 h1
    obtain ⟨j, st', rfl, hj, hl2⟩ := hlive s2 h2
    rw [hσ i st hi] at e1
    rw [hσ j st' hj] at e2
    have := h.ownInj st st' g hl1 hl2 e1 e2
    subst this
    rw [distinct_spec hdis i j st hi hj]
  · obtain ⟨i, st, rfl, hi, hl1⟩ := hlive s hs
    rw [hσ i st hi] at e
    obtain ⟨k1, k2, k3⟩ := h.ownAbove st g hl1 e
    exact ⟨k1, k2, fun s' hs' => k3 s' (hblk s' hs')⟩
  · have h1 := hcov k s b hs
    have h2 := (h.gh.2.1 k s b hs).2
    cases k with
    | true => exact ⟨hbI s h1, h2⟩
    | false => exact ⟨hmI2 s h1, h2⟩
  · obtain ⟨q1, q2⟩ := hbig st (h.gh.2.2 st o ho).1 hl
    rw [q2]; exact (h.gh.2.2 st o ho).2 q1
  · rw [er] at hs
    obtain ⟨k, st, e1, e2, e3⟩ := rwOf_spec hs
    rw [Nat.zero_add] at e1
    subst e1
    obtain ⟨q1, q2, q3⟩ := h.rw st r e3
    obtain ⟨u', f1, f2⟩ := hu2 k st e2
    rw [q2] at f1; cases f1
    refine ⟨hn2 k st e2, by rw [eu]; exact f2, .inr ?_⟩
    rw [hσ k st e2]; exact q3.resolve_left (hlall k st e2).2

theorem St.canonW (h : St c env a w) {ts bs ms l : List Nat} {env' : Env} (hc : canonW ts bs ms l env = some env') (hcov : Covers c.w0 bs ms) : ∃ c', c.Next c' ∧ St c' env' a w := by
  obtain ⟨c', h1, h2, _⟩ := h.canonW' hc hcov
  exact ⟨c', h1, h2⟩
end

end Go.Proofs.YtnooelecdbbfkaaGreatDoor.Fw

/- Regions whose operations come in any order. -/
namespace Go.Proofs.YtnooelecdbbfkaaGreatDoor.Fw
open Go Go.RowKit
set_option linter.unusedSectionVars false
variable [Inhabited GLT]

/-- States that say the same. -/
structure EnvEq (e e' : Env) : Prop where
  nt : e.nt = e'.nt
  tm : ∀ t, look t e.tm = look t e'.tm
  wt : ∀ t, look t e.wt = look t e'.wt
  bx : ∀ t, look t e.bx = look t e'.bx
  mp : e.mp = e'.mp
  us : e.us = e'.us
  dd : e.dd = e'.dd
  ys : e.ys = e'.ys
  rw : e.rw = e'.rw

theorem St.congr {c : Ctx} {e e' : Env} {a : Act} {w : World} (h : St c e a w) (q : EnvEq e e') : St c e' a w := by
  have S : Step c e w c e' w := .of (Keeps.refl _ _) (fun s hs => ⟨by rw [← q.bx]; exact hs, rfl⟩) (fun s hs => ⟨by rw [← q.mp]; exact hs, rfl⟩) (fun st u hs => by rw [← q.us]; exact hs) (fun st hs => by rw [← q.dd]; exact hs) (fun _ _ _ => ⟨rfl, fun _ _ => ⟨rfl, fun _ h => h⟩⟩) (fun _ _ h => ⟨by rw [q.us]; exact h.1, by rw [q.dd]; exact h.2⟩)
  have hb : ∀ s, e'.blk s → e.blk s := fun s hs => by
    rcases hs with hs | hs
    · exact .inl (by rw [q.bx]; exact hs)
    · exact .inr (by rw [q.mp]; exact hs)
  have hl : ∀ s, e'.live s → e.live s := fun s hs => ⟨by rw [q.us]; exact hs.1, by rw [q.dd]; exact hs.2⟩
  exact ⟨h.nt.trans q.nt, h.df, fun t d hd => S.repT (h.tm t d (by rw [q.tm]; exact hd)), fun t d hd => (h.wt t d (by rw [q.wt]; exact hd)).step S, fun s b hs => (h.bx s b (by rw [q.bx]; exact hs)).step S rfl rfl (fun _ x => x),
    fun s m hs => (h.mp s m (by rw [q.mp]; exact hs)).step S rfl rfl (fun _ x => x), fun s s' h1 h2 => h.inj s s' (hb s h1) (hb s' h2), fun s h1 => h.above s (hb s h1), fun s h1 => h.lt s (hb s h1), fun s s' g h1 h2 => h.ownInj s s' g (hl s h1) (hl s' h2),
    fun s g h1 h2 => ⟨(h.ownAbove s g (hl s h1) h2).1, (h.ownAbove s g (hl s h1) h2).2.1, fun s' h3 => (h.ownAbove s g (hl s h1) h2).2.2 s' (hb s' h3)⟩, h.im, h.im0, h.imNew, h.base, ⟨by rw [← q.ys]; exact h.gh.1, S.fix h.gh.2⟩, h.rows S q.rw.symm⟩

/-- What one operation does to the state. -/
structure Doing where
  dst : Nat
  tmd : D
  wte : Option D
  bx : Option BoxC
  own : Option (Nat × Nat)

def Doing.app (x : Doing) (env : Env) : Env :=
  { nt := env.nt, tm := (x.dst, x.tmd) :: env.tm,
    wt := (match x.wte with | some d => (x.dst, d) :: env.wt | none => env.wt),
    bx := (match x.bx with | some b => (x.dst, b) :: env.bx | none => env.bx), mp := env.mp,
    us := (match x.own with | some (u, _) => (2 * x.dst + 3, u) :: env.us | none => env.us),
    dd := (match x.own with | some (_, k) => (bif Nat.beq k 1 then env.dd else k :: env.dd) | none => env.dd), ys := env.ys, rw := env.rw }

def ownD (dst : Nat) (r : Res) : D :=
  match r.own with
  | some _ => match r.d with
    | .sl _ es xs => .sl (2 * dst + 3) es xs
    | d => d
  | none => r.d

def doing (dst : Nat) (g : Option (Nat × Bool)) (r : Res) : Doing :=
  match g with
  | none => ⟨dst, ownD dst r, none, (match r.own with | some _ => none | none => r.bx), r.own.map fun u => (u, r.kill)⟩
  | some (s, b) => ⟨dst, .undef, some (.wh s b r.d), none, none⟩

theorem doing_dst (dst : Nat) (g : Option (Nat × Bool)) (r : Res) : (doing dst g r).dst = dst := by
  cases g <;> rfl

/-- An operation's place in the state, in any other state that differs little. -/
theorem memG_doing {env env2 e1 : Env} {dst : Nat} {g : Option (Nat × Bool)} {r : Res} (h : memG env dst g r = some e1) (hfz : r.fz = []) (hfm : r.fm = []) (hmp : r.mp = none) (hro : r.row = none)
    (hnt : env2.nt = env.nt) (hwt : wtFree dst env2.wt = true) (hfree : (doing dst g r).bx.isSome = true → env.free dst = true → env2.free dst = true) (hown : (doing dst g r).own.isSome = true → env2.us = env.us ∧ env2.dd = env.dd) :
    memG env2 dst g r = some ((doing dst g r).app env2) := by
  obtain ⟨side, d, bx, mp, fz, fm, kill, own, row⟩ := r
  simp only at hfz hfm hmp hro
  subst hfz; subst hfm; subst hmp; subst hro
  cases g with
  | some q =>
    obtain ⟨s, b⟩ := q
    simp only [memG] at h ⊢
    cases hpl : Res.plain ⟨side, d, bx, none, [], [], kill, own, none⟩ with
    | false => rw [hpl] at h; cases h
    | true =>
      rw [hpl, cond_true] at h
      rw [cond_true]
      simp only [Env.set] at h ⊢
      cases hc : (Nat.blt dst env.nt && wtFree dst env.wt) with
      | false => rw [hc] at h; cases h
      | true =>
        rw [hc, cond_true] at h
        simp only [Bool.and_eq_true] at hc
        rw [hnt, hc.1, hwt]
        simp only [Bool.and_self, cond_true]
        cases hs : Nat.beq s dst with
        | true => rw [hs] at h; cases h
        | false => rw [cond_false]; simp [doing, Doing.app, hnt]
  | none =>
    simp only [memG] at h ⊢
    have hset : ∀ {ea eb ec : Env} {x : D}, ea.set dst none x = some eb → ec.nt = ea.nt → wtFree dst ec.wt = true → ec.set dst none x = some { ec with tm := (dst, x) :: ec.tm } := by
      intro ea eb ec x hs e1 e2
      simp only [Env.set] at hs ⊢
      cases hc : (Nat.blt dst ea.nt && wtFree dst ea.wt) with
      | false => rw [hc] at hs; cases hs
      | true =>
        simp only [Bool.and_eq_true] at hc
        rw [e1, hc.1, e2]; rfl
    cases own with
    | some u =>
      obtain ⟨h1, h2⟩ := hown rfl
      simp only [memR, frzM, frzB] at h ⊢
      cases d <;> simp only at h <;> first | (cases h; done) | skip
      rename_i st es xs
      rw [show env2.fresh (2 * dst + 3) = env.fresh (2 * dst + 3) from by unfold Env.fresh; rw [h1, h2], show env2.killOK kill u = env.killOK kill u from by unfold Env.killOK; rw [h1, h2]]
      cases hcd : (!Nat.beq u rowMark && (env.fresh (2 * dst + 3) && env.killOK kill u)) with
      | false => rw [hcd] at h; cases h
      | true =>
        rw [hcd, cond_true] at h
        simp only at h
        simp only [cond_true]
        rw [hset h (by exact hnt) (by exact hwt)]
        simp only [doing, Doing.app, ownD, Env.stamp, Option.map_some, h1, h2]
    | none =>
      simp only [memR, frzM, frzB] at h ⊢
      cases bx with
      | none =>
        simp only at h ⊢
        rw [hset h hnt hwt]
        rfl
      | some b =>
        simp only at h ⊢
        cases hf : env.free dst with
        | false => rw [hf] at h; cases h
        | true =>
          rw [hf, cond_true] at h
          simp only at h
          rw [hfree rfl hf, cond_true]
          simp only
          rw [hset h (by exact hnt) (by exact hwt)]
          rfl

theorem memG_free {env e1 : Env} {dst : Nat} {g : Option (Nat × Bool)} {r : Res} (h : memG env dst g r = some e1) (hfz : r.fz = []) (hfm : r.fm = []) (hmp : r.mp = none) (hro : r.row = none) : wtFree dst env.wt = true ∧ ((doing dst g r).bx.isSome = true → env.free dst = true) ∧ (∀ s b, g = some (s, b) → s ≠ dst) := by
  obtain ⟨side, d, bx, mp, fz, fm, kill, own, row⟩ := r
  simp only at hfz hfm hmp hro
  subst hfz; subst hfm; subst hmp; subst hro
  have hset : ∀ {ea eb : Env} {x : D} {g : Option (Nat × Bool)}, ea.set dst g x = some eb → wtFree dst ea.wt = true := by
    intro ea eb x g hs
    simp only [Env.set] at hs
    cases hc : (Nat.blt dst ea.nt && wtFree dst ea.wt) with
    | false => rw [hc] at hs; cases hs
    | true => simp only [Bool.and_eq_true] at hc; exact hc.2
  cases g with
  | some q =>
    obtain ⟨s, b⟩ := q
    simp only [memG] at h
    cases hpl : Res.plain ⟨side, d, bx, none, [], [], kill, own, none⟩ with
    | false => rw [hpl] at h; cases h
    | true =>
      rw [hpl, cond_true] at h
      refine ⟨hset h, fun hb => by simp [doing] at hb, fun s' b' e => ?_⟩
      cases e
      simp only [Env.set] at h
      cases hc : (Nat.blt dst env.nt && wtFree dst env.wt) with
      | false => rw [hc] at h; cases h
      | true =>
        rw [hc, cond_true] at h
        cases hs : Nat.beq s dst with
        | true => rw [hs] at h; cases h
        | false => exact nbeq_f.1 hs
  | none =>
    simp only [memG] at h
    refine ⟨?_, fun hb => ?_, fun s b e => by cases e⟩
    · cases hm : memR env dst ⟨side, d, bx, none, [], [], kill, own, none⟩ with
      | none => rw [hm] at h; cases h
      | some q =>
        obtain ⟨env1, d1⟩ := q
        rw [hm] at h
        have hw : env1.wt = env.wt := by
          cases own with
          | some u =>
            simp only [memR, frzM, frzB] at hm
            cases d <;> simp only at hm <;> first | (cases hm; done) | skip
            cases hcd : (!Nat.beq u rowMark && (env.fresh (2 * dst + 3) && env.killOK kill u)) with
            | false => rw [hcd] at hm; cases hm
            | true =>
              rw [hcd, cond_true] at hm
              simp only [Option.some.injEq, Prod.mk.injEq] at hm
              rw [← hm.1]; rfl
          | none =>
            simp only [memR, frzM, frzB] at hm
            cases bx with
            | none => simp only [Option.some.injEq, Prod.mk.injEq] at hm; rw [← hm.1]
            | some b =>
              simp only at hm
              cases hf : env.free dst with
              | false => rw [hf] at hm; cases hm
              | true => rw [hf, cond_true] at hm; simp only [Option.some.injEq, Prod.mk.injEq] at hm; rw [← hm.1]
        rw [← hw]; exact hset h
    · cases bx with
      | none => cases own <;> simp [doing] at hb
      | some b =>
        cases own with
        | some u => simp [doing] at hb
        | none =>
          simp only [memR, frzM, frzB] at h
          cases hf : env.free dst with
          | false => rw [hf] at h; cases h
          | true => rfl

/-- The state once these have been done. -/
def runS (S : Nat → Bool) : Nat → List Doing → Env → Env
  | _, [], env => env
  | k, x :: xs, env => runS S (k + 1) xs (if S k = true then x.app env else env)

theorem runS_false : ∀ {X : List Doing} {k : Nat} {env : Env}, runS (fun _ => false) k X env = env
  | [], _, _ => rfl
  | x :: X, k, env => by simp only [runS]; rw [if_neg (by simp)]; exact runS_false

theorem runS_lt : ∀ (X : List Doing) (j k : Nat) (env : Env), runS (fun m => decide (m < k + j)) k X env = (X.take j).foldl (fun e x => x.app e) env
  | [], j, k, env => by cases j <;> rfl
  | x :: X, 0, k, env => by
    have : ∀ (X : List Doing) (k' : Nat) (env : Env), k ≤ k' → runS (fun m => decide (m < k + 0)) k' X env = env := by
      intro X
      induction X with
      | nil => intro k' env _; rfl
      | cons y X ih =>
        intro k' env hk
        simp only [runS]
        rw [if_neg (by rw [decide_eq_true_eq]; omega)]
        exact ih (k' + 1) env (by omega)
    rw [this _ k env (Nat.le_refl k)]; rfl
  | x :: X, j + 1, k, env => by
    simp only [runS]
    rw [if_pos (by rw [decide_eq_true_eq]; omega), List.take_succ_cons, List.foldl_cons, ← runS_lt X j (k + 1)]
    congr 1
    funext m
    rw [show k + (j + 1) = k + 1 + j from by omega]

section
variable {β : Type} {f : Env → β} {rel : Doing → Prop} (hne : ∀ x env, ¬ rel x → f (x.app env) = f env) (heq : ∀ x env env', rel x → f env = f env' → f (x.app env) = f (x.app env'))
include hne heq
theorem look_runS {S S' : Nat → Bool} : ∀ {X : List Doing} {k : Nat} {env env' : Env}, (∀ j x, X[j]? = some x → rel x → S (k + j) = S' (k + j)) → f env = f env' → f (runS S k X env) = f (runS S' k X env')
  | [], _, _, _, _, h => h
  | x :: X, k, env, env', hS, h => by
    simp only [runS]
    refine look_runS (fun j y hj hr => by rw [show k + 1 + j = k + (j + 1) from by omega]; exact hS (j + 1) y (by simpa using hj) hr) ?_
    by_cases hr : rel x
    · have h0 := hS 0 x rfl hr
      rw [Nat.add_zero] at h0
      rw [h0]
      split
      · exact heq x env env' hr h
      · exact h
    · have e1 : ∀ (b : Bool) (e : Env), f (if b = true then x.app e else e) = f e := fun b e => by
        split
        · exact hne x e hr
        · rfl
      rw [e1, e1, h]

theorem runS_hit {S : Nat → Bool} : ∀ {X : List Doing} {k : Nat} {env : Env} {j : Nat} {x : Doing}, X[j]? = some x → rel x → (∀ j' x', X[j']? = some x' → rel x' → j' = j) → S (k + j) = true → f (runS S k X env) = f (x.app env)
  | [], _, _, j, _, h, _, _, _ => by simp at h
  | y :: X, k, env, 0, x, hx, hr, hu, hs => by
    simp only [List.getElem?_cons_zero, Option.some.injEq] at hx; subst hx
    rw [Nat.add_zero] at hs
    simp only [runS]
    rw [if_pos hs]
    have := look_runS hne heq (S := S) (S' := fun _ => false) (X := X) (k := k + 1) (env := y.app env) (env' := y.app env) (fun j x' hj hr' => absurd (hu (j + 1) x' (by simpa using hj) hr') (by omega)) rfl
    rw [this, runS_false]
  | y :: X, k, env, j + 1, x, hx, hr, hu, hs => by
    simp only [runS]
    have hny : ¬ rel y := fun hy => absurd (hu 0 y rfl hy) (by omega)
    rw [runS_hit (env := if S k = true then y.app env else env) (j := j) (x := x) (by simpa using hx) hr (fun j' x' h1 h2 => by have := hu (j' + 1) x' (by simpa using h1) h2; omega) (by rw [show k + 1 + j = k + (j + 1) from by omega]; exact hs)]
    refine heq x _ _ hr ?_
    split
    · exact hne y env hny
    · rfl
end

theorem app_tm (x : Doing) (env : Env) (t : Nat) : look t (x.app env).tm = if x.dst = t then some x.tmd else look t env.tm := look_cons ..
theorem app_wt (x : Doing) (env : Env) (t : Nat) : look t (x.app env).wt = if x.dst = t then (match x.wte with | some d => some d | none => look t env.wt) else look t env.wt := by
  unfold Doing.app
  cases x.wte with
  | none => simp
  | some d => exact look_cons ..
theorem app_bx (x : Doing) (env : Env) (t : Nat) : look t (x.app env).bx = if x.dst = t then (match x.bx with | some d => some d | none => look t env.bx) else look t env.bx := by
  unfold Doing.app
  cases x.bx with
  | none => simp
  | some d => exact look_cons ..

theorem tm_ne {t : Nat} : ∀ (x : Doing) (env : Env), ¬ x.dst = t → look t (x.app env).tm = look t env.tm := fun x env h => by rw [app_tm, if_neg h]
theorem tm_eq {t : Nat} : ∀ (x : Doing) (env env' : Env), x.dst = t → look t env.tm = look t env'.tm → look t (x.app env).tm = look t (x.app env').tm := fun x env env' h _ => by rw [app_tm, app_tm, if_pos h, if_pos h]
theorem wt_ne {t : Nat} : ∀ (x : Doing) (env : Env), ¬ x.dst = t → look t (x.app env).wt = look t env.wt := fun x env h => by rw [app_wt, if_neg h]
theorem wt_eq {t : Nat} : ∀ (x : Doing) (env env' : Env), x.dst = t → look t env.wt = look t env'.wt → look t (x.app env).wt = look t (x.app env').wt := fun x env env' h e => by rw [app_wt, app_wt, if_pos h, if_pos h, e]
theorem bx_ne {t : Nat} : ∀ (x : Doing) (env : Env), ¬ x.dst = t → look t (x.app env).bx = look t env.bx := fun x env h => by rw [app_bx, if_neg h]
theorem bx_eq {t : Nat} : ∀ (x : Doing) (env env' : Env), x.dst = t → look t env.bx = look t env'.bx → look t (x.app env).bx = look t (x.app env').bx := fun x env env' h e => by rw [app_bx, app_bx, if_pos h, if_pos h, e]
theorem us_ne : ∀ (x : Doing) (env : Env), ¬ x.own.isSome = true → (x.app env).us = env.us := fun x env h => by unfold Doing.app; cases hx : x.own <;> simp_all
theorem us_eq : ∀ (x : Doing) (env env' : Env), x.own.isSome = true → env.us = env'.us → (x.app env).us = (x.app env').us := fun x env env' _ h => by unfold Doing.app; simp only [h]
theorem dd_ne : ∀ (x : Doing) (env : Env), ¬ x.own.isSome = true → (x.app env).dd = env.dd := fun x env h => by unfold Doing.app; cases hx : x.own <;> simp_all
theorem dd_eq : ∀ (x : Doing) (env env' : Env), x.own.isSome = true → env.dd = env'.dd → (x.app env).dd = (x.app env').dd := fun x env env' _ h => by unfold Doing.app; simp only [h]
theorem runS_ys {S : Nat → Bool} : ∀ {X : List Doing} {k : Nat} {env : Env}, (runS S k X env).ys = env.ys
  | [], _, _ => rfl
  | x :: X, k, env => by
    simp only [runS]
    rw [runS_ys (S := S) (X := X) (k := k + 1) (env := if S k = true then x.app env else env)]
    split <;> rfl
theorem runS_rw {S : Nat → Bool} : ∀ {X : List Doing} {k : Nat} {env : Env}, (runS S k X env).rw = env.rw
  | [], _, _ => rfl
  | x :: X, k, env => by
    simp only [runS]
    rw [runS_rw (S := S) (X := X) (k := k + 1) (env := if S k = true then x.app env else env)]
    split <;> rfl
theorem us_keep {S : Nat → Bool} {st u : Nat} : ∀ {X : List Doing} {k : Nat} {env : Env}, look st env.us = some u → (∀ (j : Nat) (x : Doing), X[j]? = some x → x.own.isSome = true → 2 * x.dst + 3 ≠ st) → look st (runS S k X env).us = some u
  | [], _, _, h, _ => h
  | x :: X, k, env, h, hx => by
    simp only [runS]
    refine us_keep ?_ fun j y hj hb => hx (j + 1) y (by simpa using hj) hb
    split
    · cases ho : x.own with
      | none => rw [us_ne x env (by rw [ho]; simp)]; exact h
      | some q =>
        have := hx 0 x rfl (by rw [ho]; rfl)
        simp only [Doing.app, ho, look_cons, if_neg this]; exact h
    · exact h
theorem us_from {S : Nat → Bool} {st u : Nat} : ∀ {X : List Doing} {k : Nat} {env : Env}, look st (runS S k X env).us = some u → look st env.us = some u ∨ ∃ (j : Nat) (x : Doing), X[j]? = some x ∧ x.own.isSome = true ∧ 2 * x.dst + 3 = st
  | [], _, _, h => .inl h
  | x :: X, k, env, h => by
    simp only [runS] at h
    rcases us_from h with h | ⟨j, y, h1, h2, h3⟩
    · split at h
      · cases ho : x.own with
        | none => rw [us_ne x env (by rw [ho]; simp)] at h; exact .inl h
        | some q =>
          simp only [Doing.app, ho, look_cons] at h
          split at h
          · rename_i e; exact .inr ⟨0, x, rfl, by rw [ho]; rfl, e⟩
          · exact .inl h
      · exact .inl h
    · exact .inr ⟨j + 1, y, by simpa using h1, h2, h3⟩
theorem us_none {S : Nat → Bool} {st : Nat} : ∀ {X : List Doing} {k : Nat} {env : Env}, look st (runS S k X env).us = none → look st env.us = none
  | [], _, _, h => h
  | x :: X, k, env, h => by
    simp only [runS] at h
    have h := us_none h
    split at h
    · cases ho : x.own with
      | none => rw [us_ne x env (by rw [ho]; simp)] at h; exact h
      | some q =>
        simp only [Doing.app, ho, look_cons] at h
        split at h
        · cases h
        · exact h
    · exact h
theorem dd_from {S : Nat → Bool} {st : Nat} : ∀ {X : List Doing} {k : Nat} {env : Env}, st ∈ (runS S k X env).dd → st ∈ env.dd ∨ ∃ (j : Nat) (x : Doing) (u : Nat), X[j]? = some x ∧ x.own = some (u, st) ∧ st ≠ 1
  | [], _, _, h => .inl h
  | x :: X, k, env, h => by
    simp only [runS] at h
    rcases dd_from h with h | ⟨j, y, u, h1, h2⟩
    · split at h
      · cases ho : x.own with
        | none => rw [dd_ne x env (by rw [ho]; simp)] at h; exact .inl h
        | some q =>
          obtain ⟨u, q⟩ := q
          simp only [Doing.app, ho] at h
          cases hq : Nat.beq q 1 with
          | true => rw [hq] at h; exact .inl h
          | false =>
            rw [hq, cond_false] at h
            rcases List.mem_cons.1 h with rfl | h
            · exact .inr ⟨0, x, u, rfl, ho, nbeq_f.1 hq⟩
            · exact .inl h
      · exact .inl h
    · exact .inr ⟨j + 1, y, u, by simpa using h1, h2⟩
theorem look_rows {env : Env} {st : Nat} {r : RowC} (h : look st env.rw = some r) (hd : st ∉ env.dd) : look st env.rows = some r := by
  unfold Env.rows
  generalize env.rw = l at h ⊢
  induction l with
  | nil => cases h
  | cons p l ih =>
    obtain ⟨k, x⟩ := p
    rw [look_cons] at h
    simp only [List.filter_cons]
    split at h
    · rename_i e; subst e; cases h
      have : env.dd.contains k = false := by simpa using hd
      rw [this]
      simp only [Bool.not_false, if_true, look_cons]
    · rename_i e
      split
      · rw [look_cons, if_neg e]; exact ih h
      · exact ih h
theorem memG_own {env e1 : Env} {dst : Nat} {g : Option (Nat × Bool)} {r : Res} (h : memG env dst g r = some e1) (hfz : r.fz = []) (hfm : r.fm = []) (hro : r.row = none) {u k : Nat} (ho : (doing dst g r).own = some (u, k)) : u ≠ rowMark ∧ env.fresh (2 * dst + 3) = true ∧ env.killOK k u = true := by
  obtain ⟨side, d, bx, mp, fz, fm, kill, own, row⟩ := r
  simp only at hfz hfm hro
  subst hfz; subst hfm; subst hro
  cases g with
  | some q => simp [doing] at ho
  | none =>
    simp only [doing] at ho
    cases own with
    | none => cases ho
    | some u' =>
      simp only [Option.map_some, Option.some.injEq, Prod.mk.injEq] at ho
      obtain ⟨rfl, rfl⟩ := ho
      simp only [memG, memR, frzM, frzB] at h
      cases d <;> simp only at h <;> first | (cases h; done) | skip
      cases hcd : (!Nat.beq u' rowMark && (env.fresh (2 * dst + 3) && env.killOK kill u')) with
      | false => rw [hcd] at h; cases h
      | true =>
        simp only [Bool.and_eq_true, Bool.not_eq_true', nbeq_f] at hcd
        exact hcd
theorem runS_mp {S : Nat → Bool} : ∀ {X : List Doing} {k : Nat} {env : Env}, (runS S k X env).mp = env.mp ∧ (runS S k X env).nt = env.nt
  | [], _, _ => ⟨rfl, rfl⟩
  | x :: X, k, env => by
    simp only [runS]
    obtain ⟨h1, h2⟩ := runS_mp (S := S) (X := X) (k := k + 1) (env := if S k = true then x.app env else env)
    rw [h1, h2]
    split <;> exact ⟨rfl, rfl⟩

section
variable {β : Type} {f : Env → β} {rel : Doing → Prop} (hne : ∀ x env, ¬ rel x → f (x.app env) = f env) (heq : ∀ x env env', rel x → f env = f env' → f (x.app env) = f (x.app env'))
include hne heq
theorem runS_none {S : Nat → Bool} {X : List Doing} {k : Nat} {env : Env} (h : ∀ j y, X[j]? = some y → rel y → S (k + j) = false) : f (runS S k X env) = f env := by
  rw [look_runS hne heq (S' := fun _ => false) (env' := env) (fun j x hj hr => h j x hj hr) rfl, runS_false]
/-- One more of them, behind all others of its kind. -/
theorem runS_last {S S' : Nat → Bool} : ∀ {X : List Doing} {k : Nat} {env env' : Env} {i : Nat} {x : Doing}, X[i]? = some x → rel x → (∀ j y, X[j]? = some y → rel y → S (k + j) = true → j < i) → S (k + i) = false → S' (k + i) = true → (∀ j, j ≠ k + i → S' j = S j) → f env = f env' → f (x.app (runS S k X env)) = f (runS S' k X env')
  | [], _, _, _, i, _, hx, _, _, _, _, _, _ => by simp at hx
  | y :: X, k, env, env', 0, x, hx, hr, hlt, hS, hS', hSS, he => by
    simp only [List.getElem?_cons_zero, Option.some.injEq] at hx; subst hx
    rw [Nat.add_zero] at hS hS' hSS
    simp only [runS]
    rw [hS, hS', if_neg (by simp), if_pos rfl]
    have h0 : ∀ j z, X[j]? = some z → rel z → S (k + 1 + j) = false := fun j z hj hz => by
      cases hs : S (k + 1 + j) with
      | false => rfl
      | true => have := hlt (j + 1) z (by simpa using hj) hz (by rw [show k + (j + 1) = k + 1 + j from by omega]; exact hs); omega
    rw [runS_none hne heq (S := S') (fun j z hj hz => by rw [hSS _ (by omega)]; exact h0 j z hj hz)]
    refine heq y _ _ hr ?_
    rw [runS_none hne heq h0, he]
  | y :: X, k, env, env', i + 1, x, hx, hr, hlt, hS, hS', hSS, he => by
    simp only [runS]
    rw [hSS k (by omega)]
    refine runS_last (i := i) (by simpa using hx) hr (fun j z hj hz hs => ?_) (by rw [show k + 1 + i = k + (i + 1) from by omega]; exact hS) (by rw [show k + 1 + i = k + (i + 1) from by omega]; exact hS') (fun j hj => hSS j (by omega)) ?_
    · have := hlt (j + 1) z (by simpa using hj) hz (by rw [show k + (j + 1) = k + 1 + j from by omega]; exact hs); omega
    · split
      · by_cases hy : rel y
        · exact heq y _ _ hy he
        · rw [hne y _ hy, hne y _ hy, he]
      · exact he
end
/-- One more of them: the same, in whatever order. -/
theorem app_runS {X : List Doing} {env : Env} {S S' : Nat → Bool} {i : Nat} {x : Doing} (hx : X[i]? = some x) (hd : ∀ (j j' : Nat) (y y' : Doing), X[j]? = some y → X[j']? = some y' → y.dst = y'.dst → j = j') (ho : x.own.isSome = true → ∀ (j : Nat) (y : Doing), X[j]? = some y → y.own.isSome = true → S j = true → j < i)
    (hS : S i = false) (hS' : S' i = true) (hSS : ∀ j, j ≠ i → S' j = S j) : EnvEq (x.app (runS S 0 X env)) (runS S' 0 X env) := by
  have gen : ∀ {β : Type} {f : Env → β} {rel : Doing → Prop}, (∀ x env, ¬ rel x → f (x.app env) = f env) → (∀ x env env', rel x → f env = f env' → f (x.app env) = f (x.app env')) → (∀ (j j' : Nat) (y y' : Doing), X[j]? = some y → X[j']? = some y' → rel y → rel y' → j = j') → f (x.app (runS S 0 X env)) = f (runS S' 0 X env) := by
    intro β f rel hne heq hu
    by_cases hr : rel x
    · rw [runS_hit hne heq hx hr (fun j' x' h1 h2 => hu j' i x' x h1 hx h2 hr) (by rw [Nat.zero_add]; exact hS')]
      refine heq x _ _ hr ?_
      have := look_runS hne heq (S := S) (S' := fun _ => false) (X := X) (k := 0) (env := env) (env' := env) (fun j x' hj hr' => by
        rw [hu j i x' x hj hx hr' hr, Nat.zero_add]; exact hS) rfl
      rw [this, runS_false]
    · rw [hne x _ hr]
      exact look_runS hne heq (fun j x' hj hr' => by
        rw [Nat.zero_add]
        refine (hSS j fun e => hr ?_).symm
        subst e; rw [hx] at hj; cases hj; exact hr') rfl
  have own : ∀ {β : Type} {f : Env → β}, (∀ (x : Doing) (env : Env), ¬ x.own.isSome = true → f (x.app env) = f env) → (∀ (x : Doing) (env env' : Env), x.own.isSome = true → f env = f env' → f (x.app env) = f (x.app env')) → f (x.app (runS S 0 X env)) = f (runS S' 0 X env) := by
    intro β f hne heq
    by_cases hr : x.own.isSome = true
    · exact runS_last hne heq hx hr (fun j y hj hy hs => ho hr j y hj hy (by rw [Nat.zero_add] at hs; exact hs)) (by rw [Nat.zero_add]; exact hS) (by rw [Nat.zero_add]; exact hS') (fun j hj => hSS j (by omega)) rfl
    · rw [hne x _ hr]
      exact look_runS hne heq (fun j x' hj hr' => by
        rw [Nat.zero_add]
        refine (hSS j fun e => hr ?_).symm
        subst e; rw [hx] at hj; cases hj; exact hr') rfl
  refine ⟨?_, fun t => ?_, fun t => ?_, fun t => ?_, ?_, ?_, ?_, ?_, ?_⟩
  · show (runS S 0 X env).nt = _
    rw [runS_mp.2, runS_mp.2]
  · exact gen (f := fun e => look t e.tm) (rel := fun x => x.dst = t) tm_ne tm_eq (fun j j' y y' h1 h2 r1 r2 => hd j j' y y' h1 h2 (r1.trans r2.symm))
  · exact gen (f := fun e => look t e.wt) (rel := fun x => x.dst = t) wt_ne wt_eq (fun j j' y y' h1 h2 r1 r2 => hd j j' y y' h1 h2 (r1.trans r2.symm))
  · exact gen (f := fun e => look t e.bx) (rel := fun x => x.dst = t) bx_ne bx_eq (fun j j' y y' h1 h2 r1 r2 => hd j j' y y' h1 h2 (r1.trans r2.symm))
  · show (runS S 0 X env).mp = _
    rw [runS_mp.1, runS_mp.1]
  · exact own (f := fun e => e.us) us_ne us_eq
  · exact own (f := fun e => e.dd) dd_ne dd_eq
  · show (runS S 0 X env).ys = _
    rw [runS_ys, runS_ys]
  · show (runS S 0 X env).rw = _
    rw [runS_rw, runS_rw]

section
variable {P : Program} {T : Ty} {ops : Array Oper}

theorem doesP_pick {g : Option (Nat × Bool)} {ρ : Operand → D} {bx : List (Nat × BoxC)} {mp : List (Nat × MapC)} {rw : List (Nat × RowC)} {dst : Nat} {op : Op} {gc : Prop} {K : Res → Prop} (h : doesP P T g ρ bx mp rw dst op gc K) : ∃ r, K r ∧ doesP P T g ρ bx mp rw dst op gc (fun r' => r' = r) := by
  unfold doesP at h
  cases hc : callOf op with
  | some cl =>
    rw [hc] at h
    simp only at h
    cases hd : callD T (fun x => unw g (ρ x)) bx mp cl with
    | none =>
      rw [hd] at h
      refine ⟨{ d := .undef }, deadK_K h, ?_⟩
      unfold doesP
      rw [hc]
      simp only [hd]
      exact deadK_mono h rfl
    | some q =>
      obtain ⟨f, ds, fm, fz⟩ := q
      rw [hd] at h
      obtain ⟨d, h1, h2⟩ := h
      refine ⟨_, h2, ?_⟩
      unfold doesP
      rw [hc]
      simp only [hd]
      exact ⟨d, h1, by trivial⟩
  | none =>
    rw [hc] at h
    simp only at h
    cases hr : opR T g ρ bx mp rw dst op with
    | none =>
      rw [hr] at h
      obtain ⟨r, h1, h2⟩ := elseK_pick h
      refine ⟨r, h1, ?_⟩
      unfold doesP
      rw [hc]
      simp only [hr]
      exact h2 _ (by trivial)
    | some r =>
      rw [hr] at h
      obtain ⟨h1, h2⟩ := sideB_iff.1 h
      refine ⟨r, h2, ?_⟩
      unfold doesP
      rw [hc]
      simp only [hr]
      exact sideB_iff.2 ⟨h1, by trivial⟩

theorem memG_self {env e1 : Env} {dst : Nat} {g : Option (Nat × Bool)} {r : Res} (h : memG env dst g r = some e1) (hfz : r.fz = []) (hfm : r.fm = []) (hmp : r.mp = none) (hro : r.row = none) : e1 = (doing dst g r).app env := by
  have h2 := memG_doing (env2 := env) h hfz hfm hmp hro rfl (memG_free h hfz hfm hmp hro).1 (fun _ h => h) (fun _ => ⟨rfl, rfl⟩)
  rw [h] at h2; exact Option.some.inj h2

/-- What each operation of the first part gives. -/
structure OpFact (P : Program) (T : Ty) (ops : Array Oper) (ph : List Oper) (bx : List (Nat × BoxC)) (mp : List (Nat × MapC)) (rw : List (Nat × RowC)) (m i : Nat) (o : Oper) (x : Doing) (e : Env) (g : Option (Nat × Bool)) (dst : Nat) (r : Res) : Prop where
  isG : gslot ops o = some g
  isDst : o.dst = some dst
  isX : x = doing dst g r
  fz : r.fz = []
  fm : r.fm = []
  noM : r.mp = none
  noR : r.row = none
  mem : ∃ e1, memG e dst g r = some e1
  does : doesP P T g (tvR (fun t => okT m i t ph 0) e.wt e.tm) bx mp rw dst o.op (gcond (fun t => okT m i t ph 0) 8 e.wt e.tm g) (fun r' => r' = r)

theorem evPh_facts {ph : List Oper} {bx : List (Nat × BoxC)} {mp : List (Nat × MapC)} {rw : List (Nat × RowC)} {K : Env → Prop} : ∀ (os : List Oper) (ms : List Nat) (i : Nat) (used : Nat) (env : Env), evPh P T ops ph bx mp rw ms i used os env K →
    ∃ X : List Doing, X.length = os.length ∧ K (X.foldl (fun e x => x.app e) env) ∧
      (∀ j o, os[j]? = some o → ∃ g dst r x, X[j]? = some x ∧ OpFact P T ops ph bx mp rw (ms.getD j 0) (i + j) o x ((X.take j).foldl (fun e x => x.app e) env) g dst r) ∧
      (∀ (j : Nat) (x : Doing), X[j]? = some x → x.own.isSome = true → ∀ b, Nat.testBit used b = true → Nat.testBit (ms.getD j 0) b = true) ∧ (∀ (j j' : Nat) (y y' : Doing), X[j]? = some y → X[j']? = some y' → y.own.isSome = true → y'.own.isSome = true → j < j' → Nat.testBit (ms.getD j' 0) (i + j) = true)
  | [], ms, i, used, env, h => by
    refine ⟨[], rfl, ?_, fun j o h => by simp at h, fun j x h => by simp at h, fun j j' y y' h => by simp at h⟩
    cases ms <;> exact h
  | o :: os, [], i, used, env, h => h.elim
  | o :: os, m :: ms, i, used, env, h => by
    simp only [evPh] at h
    cases hg : gslot ops o with
    | none => rw [hg] at h; exact h.elim
    | some g =>
    cases hdst : o.dst with
    | none => rw [hg, hdst] at h; exact h.elim
    | some dst =>
    rw [hg, hdst] at h
    simp only at h
    obtain ⟨r, hr, hd⟩ := doesP_pick (doesF_iff.1 h)
    cases hc : (r.fz.isEmpty && r.fm.isEmpty && r.mp.isNone && r.row.isNone && (r.own.isNone || Nat.beq (used &&& m) used)) with
    | false => rw [hc] at hr; exact hr.elim
    | true =>
    rw [hc] at hr
    simp only at hr
    cases hm : memG env dst g r with
    | none => rw [hm] at hr; exact hr.elim
    | some e1 =>
    rw [hm] at hr
    simp only at hr
    have hr := (fE1_iff _ _).1 hr
    have hr := (fNat_iff _ _).1 hr
    simp only [Bool.and_eq_true, List.isEmpty_iff, Option.isNone_iff_eq_none, Bool.or_eq_true, nbeq] at hc
    obtain ⟨⟨⟨⟨hfz, hfm⟩, hmp⟩, hro⟩, hused⟩ := hc
    obtain rfl := memG_self hm hfz hfm hmp hro
    obtain ⟨X, h1, h2, h3, h4, h5⟩ := evPh_facts os ms (i + 1) _ _ hr
    have hown : (doing dst g r).own.isSome = true → r.own.isSome = true := by
      cases g with
      | none => intro h; simpa [doing] using h
      | some q => intro h; simp [doing] at h
    refine ⟨doing dst g r :: X, by simp [h1], h2, ?_, ?_, ?_⟩
    · intro j o' hj
      cases j with
      | zero =>
        simp only [List.getElem?_cons_zero, Option.some.injEq] at hj; subst hj
        exact ⟨g, dst, r, _, rfl, ⟨hg, hdst, rfl, hfz, hfm, hmp, hro, ⟨_, hm⟩, hd⟩⟩
      | succ j =>
        obtain ⟨g', dst', r', x', k1, k2⟩ := h3 j o' (by simpa using hj)
        refine ⟨g', dst', r', x', by simpa using k1, ?_⟩
        rw [show i + (j + 1) = i + 1 + j from by omega]
        exact k2
    · intro j x hj hx b hb
      cases j with
      | zero =>
        simp only [List.getElem?_cons_zero, Option.some.injEq] at hj; subst hj
        rcases hused with hu | hu
        · have := hown hx; rw [hu] at this; cases this
        · rw [← hu, Nat.testBit_and, Bool.and_eq_true] at hb
          exact hb.2
      | succ j =>
        have := h4 j x (by simpa using hj) hx b (by
          cases r.own.isSome with
          | false => exact hb
          | true => rw [cond_true, Nat.testBit_or, hb]; rfl)
        simpa using this
    · intro j j' y y' hj hj' hy hy' hjj
      cases j' with
      | zero => omega
      | succ j' =>
        cases j with
        | zero =>
          simp only [List.getElem?_cons_zero, Option.some.injEq] at hj; subst hj
          have := h4 j' y' (by simpa using hj') hy' i (by
            rw [hown hy, cond_true, Nat.testBit_or, Nat.one_shiftLeft, Nat.testBit_two_pow_self]; simp)
          simpa using this
        | succ j =>
          have := h5 j j' y y' (by simpa using hj) (by simpa using hj') hy hy' (by omega)
          rw [show i + (j + 1) = i + 1 + j from by omega]
          simpa using this

/-! ### Which operations are ahead of which -/
theorem maskOf_bit {acc : List Nat} {o : Oper} {j : Nat} (h : Nat.testBit (maskOf acc o) j = true) : ∃ e ∈ o.after.toList, bindsB e = true ∧ (j = e.on ∨ Nat.testBit (acc.getD e.on 0) j = true) := by
  have : ∀ (es : List Edge) (m0 : Nat), Nat.testBit (es.foldl (fun m e => match bindsB e with | true => m ||| (1 <<< e.on ||| acc.getD e.on 0) | false => m) m0) j = true → Nat.testBit m0 j = true ∨ ∃ e ∈ es, bindsB e = true ∧ (j = e.on ∨ Nat.testBit (acc.getD e.on 0) j = true) := by
    intro es
    induction es with
    | nil => intro m0 h; exact .inl h
    | cons e es ih =>
      intro m0 h
      rw [List.foldl_cons] at h
      rcases ih _ h with h1 | ⟨e', h1, h2⟩
      · cases hb : bindsB e with
        | false => rw [hb] at h1; exact .inl h1
        | true =>
          rw [hb] at h1
          simp only [Nat.testBit_or, Bool.or_eq_true, Nat.one_shiftLeft, Nat.testBit_two_pow, decide_eq_true_eq] at h1
          rcases h1 with h1 | h1 | h1
          · exact .inl h1
          · exact .inr ⟨e, by simp, hb, .inl h1.symm⟩
          · exact .inr ⟨e, by simp, hb, .inr h1⟩
      · exact .inr ⟨e', by simp [h1], h2⟩
  rcases this _ _ h with h | h
  · simp at h
  · exact h

theorem ancs_spec : ∀ (os : List Oper) (acc : List Nat), ∃ tl, ancs os acc = acc ++ tl ∧ tl.length = os.length ∧ ∀ k o, os[k]? = some o → ∃ pre, pre.length = acc.length + k ∧ (∃ suf, ancs os acc = pre ++ suf) ∧ (ancs os acc).getD (acc.length + k) 0 = maskOf pre o
  | [], acc => ⟨[], by simp [ancs], rfl, fun k o h => by simp at h⟩
  | o :: os, acc => by
    obtain ⟨tl, h1, h2, h3⟩ := ancs_spec os (acc ++ [maskOf acc o])
    refine ⟨maskOf acc o :: tl, by rw [ancs, h1]; simp, by simp [h2], fun k o' hk => ?_⟩
    rw [ancs]
    cases k with
    | zero =>
      simp only [List.getElem?_cons_zero, Option.some.injEq] at hk; subst hk
      refine ⟨acc, by simp, ⟨maskOf acc o :: tl, by rw [h1]; simp⟩, ?_⟩
      rw [h1, List.append_assoc, List.getD_eq_getElem?_getD, List.getElem?_append_right (by omega)]
      simp
    | succ k =>
      obtain ⟨pre, k1, k2, k3⟩ := h3 k o' (by simpa using hk)
      refine ⟨pre, by simp at k1; omega, k2, ?_⟩
      rw [← k3]; congr 1; simp; omega

/-- What must be ahead of an operation has been done, once its own edges let it come. -/
theorem anc_done {l : List Oper} (hback : ∀ (i : Nat) (o : Oper), l[i]? = some o → ∀ e ∈ o.after.toList, bindsB e = true → e.on < i) {S : Nat → Bool} (hcl : ∀ (k : Nat) (o : Oper), l[k]? = some o → S k = true → ∀ e ∈ o.after.toList, bindsB e = true → S e.on = true) :
    ∀ (i : Nat) (o : Oper), l[i]? = some o → (∀ e ∈ o.after.toList, bindsB e = true → S e.on = true) → ∀ j, Nat.testBit ((ancs l []).getD i 0) j = true → S j = true := by
  intro i
  induction i using Nat.strongRecOn with
  | _ i ih =>
    intro o ho hr j hj
    obtain ⟨tl, _, _, h3⟩ := ancs_spec l []
    obtain ⟨pre, k1, ⟨suf, k2⟩, k3⟩ := h3 i o ho
    simp only [List.length_nil, Nat.zero_add] at k1 k3
    rw [k3] at hj
    obtain ⟨e, he, hb, hj⟩ := maskOf_bit hj
    rcases hj with rfl | hj
    · exact hr e he hb
    · have hlt := hback i o ho e he hb
      have hpre : pre.getD e.on 0 = (ancs l []).getD e.on 0 := by
        rw [k2, List.getD_eq_getElem?_getD, List.getD_eq_getElem?_getD, List.getElem?_append_left (by omega)]
      rw [hpre] at hj
      have hl : e.on < l.length := Nat.lt_trans hlt (List.getElem?_eq_some_iff.1 ho).1
      exact ih e.on hlt l[e.on] (List.getElem?_eq_getElem hl) (hcl e.on _ (List.getElem?_eq_getElem hl) (hr e he hb)) j hj
end

theorem okT_spec {m i t : Nat} : ∀ {ph : List Oper} {k : Nat}, okT m i t ph k = true → ∀ (j : Nat) (o : Oper), ph[j]? = some o → o.dst = some t → Nat.testBit m (k + j) = true ∧ k + j < i
  | [], _, _, j, o, h, _ => by simp at h
  | x :: ph, k, hk, j, o, h, hd => by
    simp only [okT, Bool.and_eq_true] at hk
    cases j with
    | zero =>
      simp only [List.getElem?_cons_zero, Option.some.injEq] at h; subst h
      rw [hd] at hk
      simp only [nbeq.2 rfl, Bool.not_true, Bool.false_or, Bool.and_eq_true, Nat.blt_eq] at hk
      exact hk.1
    | succ j =>
      rw [show k + (j + 1) = k + 1 + j from by omega]
      exact okT_spec hk.2 j o (by simpa using h) hd

theorem gcond_congr {ok : Nat → Bool} {wt wt' tm tm' : List (Nat × D)} (h : ∀ s, ok s = true → look s wt = look s wt' ∧ look s tm = look s tm') : ∀ (n : Nat) (g : Option (Nat × Bool)), gcond ok n wt tm g = gcond ok n wt' tm' g
  | 0, _ => rfl
  | _ + 1, none => rfl
  | n + 1, some (s, b) => by
    simp only [gcond]
    cases hs : ok s with
    | false => rfl
    | true =>
      simp only
      obtain ⟨h1, h2⟩ := h s hs
      rw [h1, h2]
      cases look s wt' with
      | none => rfl
      | some d =>
        cases d <;> first | rfl | skip
        simp only
        rw [gcond_congr h n]

theorem tvR_congr {ok : Nat → Bool} {wt wt' tm tm' : List (Nat × D)} (h : ∀ s, ok s = true → look s wt = look s wt' ∧ look s tm = look s tm') : tvR ok wt tm = tvR ok wt' tm' := by
  funext x
  cases x with
  | tmp t =>
    simp only [tvR]
    cases ht : ok t with
    | false => rfl
    | true =>
      obtain ⟨h1, h2⟩ := h t ht
      simp only [tv, h1, h2]
  | _ => rfl

theorem rep_tvR {c : Ctx} {env : Env} {a : Act} {w : World} (h : St c env a w) (ok : Nat → Bool) (x : Operand) : RepX c env w a.tmps (tvR ok env.wt env.tm x) (a.eval x) := by
  cases x with
  | tmp t =>
    simp only [tvR]
    cases ok t with
    | false => trivial
    | true => exact rep_tvX h (.tmp t)
  | const v => exact rep_tvX h (.const v)
  | global v => exact rep_tvX h (.global v)
  | func v => exact rep_tvX h (.func v)

theorem wtFree_runS {S : Nat → Bool} {dst : Nat} : ∀ {X : List Doing} {k : Nat} {env : Env}, wtFree dst env.wt = true → (∀ j x d, X[j]? = some x → S (k + j) = true → x.wte = some d → ∃ s b y, d = .wh s b y ∧ x.dst ≠ dst ∧ s ≠ dst) → wtFree dst (runS S k X env).wt = true
  | [], _, _, h, _ => h
  | x :: X, k, env, h, hx => by
    simp only [runS]
    refine wtFree_runS ?_ fun j y d hj hs hd => hx (j + 1) y d (by simpa using hj) (by rw [show k + (j + 1) = k + 1 + j from by omega]; exact hs) hd
    split
    · rename_i hs
      unfold Doing.app
      cases hw : x.wte with
      | none => exact h
      | some d =>
        obtain ⟨s, b, y, rfl, h1, h2⟩ := hx 0 x d rfl hs hw
        simp only [wtFree, h, nbeq_f.2 h1, nbeq_f.2 h2]; rfl
    · exact h

theorem bx_keep {S : Nat → Bool} {s : Nat} {b : BoxC} : ∀ {X : List Doing} {k : Nat} {env : Env}, look s env.bx = some b → (∀ (j : Nat) (x : Doing), X[j]? = some x → x.bx.isSome = true → x.dst ≠ s) → look s (runS S k X env).bx = some b
  | [], _, _, h, _ => h
  | x :: X, k, env, h, hx => by
    simp only [runS]
    refine bx_keep ?_ fun j y hj hb => hx (j + 1) y (by simpa using hj) hb
    split
    · rw [app_bx]
      split
      · rename_i e
        cases hb : x.bx with
        | none => exact h
        | some b' => exact absurd e (hx 0 x rfl (by rw [hb]; rfl))
      · exact h
    · exact h

theorem bx_some {s : Nat} : ∀ {X : List Doing} {env : Env}, (look s env.bx).isSome = true → (look s (X.foldl (fun e x => x.app e) env).bx).isSome = true
  | [], _, h => h
  | x :: X, env, h => by
    rw [List.foldl_cons]
    refine bx_some ?_
    rw [app_bx]
    split
    · cases x.bx with
      | none => exact h
      | some _ => rfl
    · exact h

structure Reg (P : Program) (T : Ty) (ops : Array Oper) (p : Nat) (lt : List Nat) (env0 : Env) (X : List Doing) : Prop where
  hp : p ≤ ops.toList.length
  back : ∀ (i : Nat) (o : Oper), ops.toList[i]? = some o → ∀ e ∈ o.after.toList, bindsB e = true → e.on < i
  len : X.length = p
  fact : ∀ (j : Nat) (o : Oper), (ops.toList.take p)[j]? = some o → ∃ g dst r x, X[j]? = some x ∧ OpFact P T ops (ops.toList.take p) env0.bx env0.mp env0.rows ((ancs ops.toList []).getD j 0) (0 + j) o x ((X.take j).foldl (fun e x => x.app e) env0) g dst r
  dstU : ∀ (j j' : Nat) (y y' : Doing), X[j]? = some y → X[j']? = some y' → y.dst = y'.dst → j = j'
  ownU : ∀ (j j' : Nat) (y y' : Doing), X[j]? = some y → X[j']? = some y' → y.own.isSome = true → y'.own.isSome = true → j < j' → Nat.testBit ((ancs ops.toList []).getD j' 0) j = true
  rowUs : ∀ st r, look st env0.rw = some r → look st env0.us = some rowMark
  guard : ∀ (i : Nat) (o : Oper), ops.toList[i]? = some o → i < p → ∀ j b, o.guard = some (j, b) → j < i ∧ Nat.testBit ((ancs ops.toList []).getD i 0) j = true
  tail : ∀ (i : Nat) (o : Oper), ops.toList[i]? = some o → p ≤ i → ∀ j, j < i → Nat.testBit ((ancs ops.toList []).getD i 0) j = true ∨ j ∈ lt
  late : ∀ j, j ∈ lt → j < p
  wt0 : env0.wt = []

section
variable {P : Program} {T : Ty} {ops : Array Oper} {p : Nat} {lt : List Nat} {env0 : Env} {X : List Doing} {rr : Option Nat} {n : Nat}

/-- One of the first part, wherever it comes. -/
theorem Reg.step (hT : TyOK P T) (R : Reg P T ops p lt env0 X) {S S' : Nat → Bool} (hcl : ∀ (k : Nat) (o : Oper), ops.toList[k]? = some o → S k = true → ∀ e ∈ o.after.toList, bindsB e = true → S e.on = true)
    {i : Nat} {o : Oper} (ho : ops.toList[i]? = some o) (hip : i < p) (hSi : S i = false) (hr : ∀ e ∈ o.after.toList, bindsB e = true → S e.on = true) (hS' : S' i = true) (hSS : ∀ j, j ≠ i → S' j = S j)
    {c : Ctx} {a : Act} {w : World} (h : St c (runS S 0 X env0) a w) (hgl : GlobW P c.I w) {K : Act → World → Prop} {Q : Exit → Act → World → Prop} (hK : ∀ c' a' w', c.Next c' → St c' (runS S' 0 X env0) a' w' → K a' w') : wpOpIn (Fr rr) n P ops Q i K a w := by
  have hanc := anc_done R.back hcl
  have hpre : ∀ {j : Nat}, j < p → ∀ {o' : Oper}, ops.toList[j]? = some o' → (ops.toList.take p)[j]? = some o' := fun hj _ h => by rw [List.getElem?_take, if_pos hj]; exact h
  obtain ⟨g, dst, r, x, hx, F⟩ := R.fact i o (hpre hip ho)
  have hEi : (X.take i).foldl (fun e x => x.app e) env0 = runS (fun m => decide (m < 0 + i)) 0 X env0 := (runS_lt X i 0 env0).symm
  rw [hEi] at F
  have hxd : x.dst = dst := by rw [F.isX, doing_dst]
  -- whose slot is whose
  have hmk : ∀ (j : Nat) (y : Doing), X[j]? = some y → j < p ∧ ∃ o', ops.toList[j]? = some o' ∧ o'.dst = some y.dst := by
    intro j y hj
    have hjp : j < p := by rw [← R.len]; exact (List.getElem?_eq_some_iff.1 hj).1
    have hjl : ∃ o', ops.toList[j]? = some o' := ⟨_, List.getElem?_eq_getElem (Nat.lt_of_lt_of_le hjp R.hp)⟩
    obtain ⟨o', ho'⟩ := hjl
    obtain ⟨g', dst', r', x', k1, F'⟩ := R.fact j o' (hpre hjp ho')
    rw [hj] at k1; cases k1
    exact ⟨hjp, o', ho', by rw [F'.isDst, F'.isX, doing_dst]⟩
  have hagree : ∀ t, okT ((ancs ops.toList []).getD i 0) (0 + i) t (ops.toList.take p) 0 = true → look t (runS (fun m => decide (m < 0 + i)) 0 X env0).wt = look t (runS S 0 X env0).wt ∧ look t (runS (fun m => decide (m < 0 + i)) 0 X env0).tm = look t (runS S 0 X env0).tm := by
    intro t ht
    have key : ∀ (j : Nat) (y : Doing), X[j]? = some y → y.dst = t → (fun m => decide (m < 0 + i)) (0 + j) = S (0 + j) := by
      intro j y hj hy
      obtain ⟨hjp, o', ho', hd⟩ := hmk j y hj
      obtain ⟨h1, h2⟩ := okT_spec ht j o' (hpre hjp ho') (by rw [hd, hy])
      rw [hanc i o ho hr (0 + j) h1]
      simpa using h2
    exact ⟨look_runS (f := fun e => look t e.wt) (rel := fun x => x.dst = t) wt_ne wt_eq key rfl, look_runS (f := fun e => look t e.tm) (rel := fun x => x.dst = t) tm_ne tm_eq key rfl⟩
  have hdoes := F.does
  rw [tvR_congr hagree, gcond_congr hagree, ← (runS_mp (S := S) (X := X) (k := 0) (env := env0)).1] at hdoes
  obtain ⟨e1, he1⟩ := F.mem
  obtain ⟨_, hfr, _⟩ := memG_free he1 F.fz F.fm F.noM F.noR
  -- no other one has this slot
  have hnot : ∀ (j : Nat) (y : Doing), X[j]? = some y → y.dst = dst → j = i := fun j y hj hy => R.dstU j i y x hj hx (hy.trans hxd.symm)
  have hbS : ∀ (S1 : Nat → Bool), S1 i = false → look dst (runS S1 0 X env0).bx = look dst env0.bx := by
    intro S1 h1
    have := look_runS (f := fun e => look dst e.bx) (rel := fun x => x.dst = dst) bx_ne bx_eq (S := S1) (S' := fun _ => false) (X := X) (k := 0) (env := env0) (env' := env0) (fun j y hj hy => by rw [hnot j y hj hy, Nat.zero_add]; exact h1) rfl
    rw [runS_false] at this
    exact this
  have hi0 : (fun m => decide (m < 0 + i)) i = false := by simp
  have hgo : gslot ops o = some g := F.isG
  have hownL : x.own.isSome = true → ∀ (j : Nat) (y : Doing), X[j]? = some y → y.own.isSome = true → i < j → S j = false := by
    intro hxo j y hj hy hlt
    cases hs : S j with
    | false => rfl
    | true =>
      obtain ⟨hjp, o', ho', _⟩ := hmk j y hj
      have := hanc j o' ho' (hcl j o' ho' hs) i (R.ownU i j x y hx hj hxo hy hlt)
      rw [hSi] at this; cases this
  have hmem : memG (runS S 0 X env0) dst g r = some (x.app (runS S 0 X env0)) := by
    rw [F.isX]
    refine memG_doing he1 F.fz F.fm F.noM F.noR (by rw [runS_mp.2, runS_mp.2]) ?_ (fun hb hf => ?_) (fun how => ?_)
    · refine wtFree_runS (by rw [R.wt0]; rfl) fun j y d hj hs hd => ?_
      rw [Nat.zero_add] at hs
      obtain ⟨hjp, o', ho', hdo⟩ := hmk j y hj
      obtain ⟨g', dst', r', x', k1, F'⟩ := R.fact j o' (hpre hjp ho')
      rw [hj] at k1; cases k1
      have hyx := F'.isX
      cases g' with
      | none => rw [hyx] at hd; simp [doing] at hd
      | some q =>
        obtain ⟨s, b⟩ := q
        rw [hyx] at hd
        simp only [doing, Option.some.injEq] at hd
        refine ⟨s, b, r'.d, hd.symm, fun e => ?_, fun e => ?_⟩
        · have := hnot j y hj e
          subst this
          rw [hs] at hSi; cases hSi
        · subst e
          rcases gslot_spec F'.isG with ⟨_, e⟩ | ⟨jj, b', pp, s', hgd, hpp, hps, e⟩
          · cases e
          · cases e
            obtain ⟨hlt, hbit⟩ := R.guard j o' ho' hjp jj b hgd
            have hSjj : S jj = true := hanc j o' ho' (hcl j o' ho' hs) jj hbit
            have hppl : ops.toList[jj]? = some pp := by simpa using hpp
            obtain ⟨g2, dst2, r2, x2, k2, F2⟩ := R.fact jj pp (hpre (by omega) hppl)
            have hd2 : x2.dst = s := by
              rw [F2.isX, doing_dst]
              have := F2.isDst
              rw [hps] at this; exact (Option.some.inj this).symm
            have := hnot jj x2 k2 hd2
            subst this
            rw [hSjj] at hSi; cases hSi
    · obtain ⟨h1, h2⟩ := free_spec hf
      unfold Env.free
      rw [hbS S hSi, ← hbS (fun m => decide (m < 0 + i)) hi0, h1, runS_mp.1, ← (runS_mp (S := fun m => decide (m < 0 + i)) (X := X) (k := 0) (env := env0)).1, h2]; rfl
    · have hxo : x.own.isSome = true := by rw [F.isX]; exact how
      have key : ∀ (j : Nat) (y : Doing), X[j]? = some y → y.own.isSome = true → S (0 + j) = (fun m => decide (m < 0 + i)) (0 + j) := by
        intro j y hj hy
        rw [Nat.zero_add]
        show S j = decide (j < 0 + i)
        rw [Nat.zero_add]
        rcases Nat.lt_trichotomy j i with hlt | rfl | hgt
        · rw [hanc i o ho hr j (R.ownU j i y x hj hx hy hxo hlt)]; simp [hlt]
        · rw [hSi]; simp
        · rw [hownL hxo j y hj hy hgt]
          simp; omega
      exact ⟨look_runS (f := fun e => e.us) (rel := fun x => x.own.isSome = true) us_ne us_eq key rfl, look_runS (f := fun e => e.dd) (rel := fun x => x.own.isSome = true) dd_ne dd_eq key rfl⟩
  have hbx : ∀ s b, look s env0.bx = some b → look s (runS S 0 X env0).bx = some b := by
    intro s b hs
    refine bx_keep hs fun j y hj hyb e => ?_
    obtain ⟨hjp, o', ho', _⟩ := hmk j y hj
    obtain ⟨g', dst', r', x', k1, F'⟩ := R.fact j o' (hpre hjp ho')
    rw [hj] at k1; cases k1
    obtain ⟨e2, he2⟩ := F'.mem
    have hf := (memG_free he2 F'.fz F'.fm F'.noM F'.noR).2.1 (by rw [← F'.isX]; exact hyb)
    have h1 := (free_spec hf).1
    have h2 : (look dst' ((X.take j).foldl (fun e x => x.app e) env0).bx).isSome = true := bx_some (by
      have : y.dst = dst' := by rw [F'.isX, doing_dst]
      rw [← this, e, hs]; rfl)
    rw [h1] at h2; cases h2
  have hownF : ∀ (j : Nat) (y : Doing) (u k : Nat), X[j]? = some y → y.own = some (u, k) → u ≠ rowMark ∧ look (2 * y.dst + 3) env0.us = none ∧ (k = 1 ∨ look k env0.us = some u ∨ ∃ (j' : Nat) (y' : Doing), X[j']? = some y' ∧ y'.own.isSome = true ∧ 2 * y'.dst + 3 = k) := by
    intro j y u k hj hy
    obtain ⟨hjp, o', ho', _⟩ := hmk j y hj
    obtain ⟨g', dst', r', x', k1, F'⟩ := R.fact j o' (hpre hjp ho')
    rw [hj] at k1; cases k1
    obtain ⟨e2, he2⟩ := F'.mem
    have hd' : y.dst = dst' := by rw [F'.isX, doing_dst]
    obtain ⟨q1, q2, q3⟩ := memG_own he2 F'.fz F'.fm F'.noR (by rw [← F'.isX]; exact hy)
    obtain ⟨_, f1, _⟩ := fresh_spec q2
    rw [← runS_lt X j 0 env0] at f1 q3
    refine ⟨q1, by rw [hd']; exact us_none f1, (killOK_spec q3).imp id fun z => ?_⟩
    rcases us_from z.2.1 with h1 | ⟨j', y', h1, h2, h3⟩
    · exact .inl h1
    · exact .inr ⟨j', y', h1, h2, h3⟩
  have hrw : ∀ st r, look st env0.rows = some r → look st (runS S 0 X env0).rows = some r := by
    intro st r0 hr0
    obtain ⟨q1, q2⟩ := rows_look hr0
    have q3 : look st (runS S 0 X env0).rw = some r0 := by rw [runS_rw]; exact q1
    refine look_rows q3 fun hd => ?_
    rcases dd_from hd with hd | ⟨j, y, u, hj, hy, h1⟩
    · exact q2 hd
    · obtain ⟨f1, f2, f3⟩ := hownF j y u st hj hy
      have hus := R.rowUs st r0 q1
      rcases f3 with f3 | f3 | ⟨j', y', g1, g2, g3⟩
      · exact h1 f3
      · rw [hus] at f3
        exact f1 (Option.some.inj f3).symm
      · obtain ⟨q, hq⟩ := Option.isSome_iff_exists.1 g2
        have := (hownF j' y' q.1 q.2 g1 hq).2.1
        rw [g3, hus] at this; cases this
  refine value_sound (env := runS S 0 X env0) hT h hgl (ρ := tvR (fun t => okT ((ancs ops.toList []).getD i 0) (0 + i) t (ops.toList.take p) 0) (runS S 0 X env0).wt (runS S 0 X env0).tm) (rep_tvR h _) hbx hrw (by simpa using ho) F.isDst hgo (gcond_sound _ h 8 g) hdoes (fun r' env' c' a' w' hr' he hn hst => ?_) (fun r' hr' => ?_)
  · subst hr'
    rw [hmem] at he; cases he
    exact hK c' a' w' hn (hst.congr (app_runS hx R.dstU (fun hxo j y hj hy hs => Nat.lt_of_not_le fun hle => by
      rcases Nat.lt_or_ge i j with hlt | hge
      · rw [hownL hxo j y hj hy hlt] at hs; cases hs
      · have : j = i := by omega
        subst this
        rw [hSi] at hs; cases hs) hSi hS' hSS))
  · subst hr'
    exact ⟨_, hmem⟩
end

end Go.Proofs.YtnooelecdbbfkaaGreatDoor.Fw

/- Regions whose operations come in any order: all of them. -/
namespace Go.Proofs.YtnooelecdbbfkaaGreatDoor.Fw
open Go Go.RowKit
set_option linter.unusedSectionVars false
variable [Inhabited GLT]

def SL (listed : Array Bool) (j : Nat) : Bool := listed.getD j false

theorem SL_lt {listed : Array Bool} {j : Nat} (h : SL listed j = true) : j < listed.size := by
  unfold SL at h
  apply Classical.byContradiction
  intro hn
  rw [Array.getD_eq_getD_getElem?, Array.getElem?_eq_none (by omega)] at h
  cases h

theorem SL_set {listed : Array Bool} {i j : Nat} (hi : i < listed.size) : SL (listed.setIfInBounds i true) j = if j = i then true else SL listed j := by
  unfold SL
  rw [Array.getD_eq_getD_getElem?, Array.getD_eq_getD_getElem?, Array.getElem?_setIfInBounds]
  by_cases e : j = i
  · subst e; simp [hi]
  · rw [if_neg (fun h => e h.symm), if_neg e]

theorem SL_get {listed : Array Bool} {i : Nat} (hi : i < listed.size) : listed.toList[i]? = some (SL listed i) := by
  unfold SL
  rw [Array.getD_eq_getD_getElem?, Array.getElem?_toList, Array.getElem?_eq_getElem hi]; rfl

theorem count_pos' {listed : Array Bool} {i : Nat} (hi : i < listed.size) (h : SL listed i = false) : 0 < listed.toList.count false := by
  rw [List.count_pos_iff]
  have := SL_get hi
  rw [h] at this
  exact List.mem_of_getElem? this

theorem count_set_lt {listed : Array Bool} {i : Nat} (hi : i < listed.size) (h : SL listed i = false) : (listed.setIfInBounds i true).toList.count false + 1 ≤ listed.toList.count false := by
  have hp := count_pos' hi h
  have hl : i < listed.toList.length := by simpa using hi
  have hg := SL_get hi
  rw [List.getElem?_eq_getElem hl, h] at hg
  have hg := Option.some.inj hg
  have e : (listed.toList.set i true).count false = listed.toList.count false - 1 := by rw [List.count_set hl, hg]; simp
  rw [Array.toList_setIfInBounds, e]; omega

theorem runS_ext {S S' : Nat → Bool} : ∀ {X : List Doing} {k : Nat} {env : Env}, (∀ j, j < X.length → S (k + j) = S' (k + j)) → runS S k X env = runS S' k X env
  | [], _, _, _ => rfl
  | x :: X, k, env, h => by
    simp only [runS]
    have h0 := h 0 (by simp)
    rw [Nat.add_zero] at h0
    rw [h0]
    exact runS_ext fun j hj => by rw [show k + 1 + j = k + (j + 1) from by omega]; exact h (j + 1) (by simpa using hj)

theorem filterMap_get : ∀ {L : List Oper}, (∀ o ∈ L, o.dst.isSome = true) → ∀ (j : Nat) (o : Oper), L[j]? = some o → (L.filterMap (·.dst))[j]? = o.dst
  | [], _, j, o, h => by simp at h
  | x :: L, hs, j, o, h => by
    have hx := hs x (by simp)
    cases hd : x.dst with
    | none => rw [hd] at hx; cases hx
    | some d =>
      rw [List.filterMap_cons_some hd]
      cases j with
      | zero => simp only [List.getElem?_cons_zero, Option.some.injEq] at h; subst h; rw [hd]; rfl
      | succ j => simpa using filterMap_get (fun o ho => hs o (by simp [ho])) j o (by simpa using h)

section
variable {P : Program} {T : Ty} {ops : Array Oper} {p : Nat} {lt : List Nat} {env0 : Env} {X : List Doing} {rr : Option Nat} {n : Nat}

theorem ready_spec {listed : Array Bool} (hsz : listed.size = ops.size) {i : Nat} (h : i ∈ Region.ready .any ops listed) : i < ops.size ∧ SL listed i = false ∧ ∃ o, ops.toList[i]? = some o ∧ ∀ e ∈ o.after.toList, bindsB e = true → SL listed e.on = true := by
  simp only [Region.ready, List.mem_filter, List.mem_range, Bool.and_eq_true, Bool.not_eq_true'] at h
  obtain ⟨hi, h1, h2⟩ := h
  refine ⟨hi, ?_, ?_⟩
  · unfold SL
    rw [Array.getD_eq_getD_getElem?, Array.getElem?_eq_getElem (by omega)] at h1 ⊢
    exact h1
  · cases ho : ops[i]? with
    | none => rw [ho] at h2; cases h2
    | some o =>
      rw [ho] at h2
      simp only [Option.map_some, Option.getD_some] at h2
      refine ⟨o, by simpa using ho, fun e he hb => ?_⟩
      rw [← Array.all_toList] at h2
      have := List.all_eq_true.1 h2 e he
      unfold bindsB at hb
      rw [hb] at this
      simpa [SL] using this

theorem ready_mk {listed : Array Bool} (hsz : listed.size = ops.size) {i : Nat} {o : Oper} (ho : ops.toList[i]? = some o) (hl : SL listed i = false) (hr : ∀ e ∈ o.after.toList, bindsB e = true → SL listed e.on = true) : i ∈ Region.ready .any ops listed := by
  have hi : i < ops.size := by have := (List.getElem?_eq_some_iff.1 ho).1; simpa using this
  simp only [Region.ready, List.mem_filter, List.mem_range, Bool.and_eq_true, Bool.not_eq_true']
  refine ⟨hi, ?_, ?_⟩
  · unfold SL at hl
    rw [Array.getD_eq_getD_getElem?, Array.getElem?_eq_getElem (by omega)] at hl ⊢
    exact hl
  · have ho' : ops[i]? = some o := by simpa using ho
    rw [ho']
    simp only [Option.map_some, Option.getD_some]
    rw [← Array.all_toList]
    refine List.all_eq_true.2 fun e he => ?_
    cases hb : Region.binds .any e with
    | false => rfl
    | true => have := hr e he hb; simpa [SL] using this

theorem tail_all (hT : TyOK P T) (R : Reg P T ops p lt env0 X) {c0 : Ctx} (hG : GYield P c0.w0) {K0 : Env → Prop} {Q : Exit → Act → World → Prop} (hK : ∀ env' c' a' w', K0 env' → c0.Grow c' → St c' env' a' w' → Q .normal a' w') : ∀ (fuel k : Nat) (listed : Array Bool) (env : Env) (c : Ctx) (a : Act) (w : World), c0.Grow c → listed.size = ops.size → (∀ j, j < ops.size → SL listed j = decide (j < k)) → p ≤ k → k ≤ ops.size →
    St c env a w → evOps P T ops (ops.toList.drop k) env K0 → listed.toList.count false ≤ fuel → wpAnyIn (Fr rr) n P .any ops Q fuel listed a w := by
  intro fuel
  induction fuel with
  | zero =>
    intro k listed env c a w hn hsz hl hpk hkn h hd hf
    by_cases hk : k < ops.size
    · have := count_pos' (listed := listed) (i := k) (by omega) (by rw [hl k hk]; simp)
      omega
    · have hk : k = ops.size := by omega
      subst hk
      have hnr : Region.ready .any ops listed = [] := by
        apply List.eq_nil_iff_forall_not_mem.2
        intro i hi
        obtain ⟨h1, h2, _⟩ := ready_spec hsz hi
        rw [hl i h1] at h2
        simp only [decide_eq_false_iff_not] at h2; exact h2 h1
      have hdn : ops.toList.drop ops.size = [] := List.drop_eq_nil_iff.2 (by simp)
      rw [hdn] at hd
      exact ⟨hnr, hK _ c a w ((fE_iff _ _).1 hd) hn h.end⟩
  | succ fuel ih =>
    intro k listed env c a w hn hsz hl hpk hkn h hd hf
    have hback : ∀ {i : Nat} {o : Oper}, ops.toList[i]? = some o → i ≤ k → ∀ e ∈ o.after.toList, bindsB e = true → SL listed e.on = true := by
      intro i o ho hik e he hb
      have h1 := R.back i o ho e he hb
      have h2 := (List.getElem?_eq_some_iff.1 ho).1
      simp only [Array.length_toList] at h2
      rw [hl e.on (by omega)]; simp; omega
    by_cases hk : k < ops.size
    · obtain ⟨o, ho⟩ : ∃ o, ops.toList[k]? = some o := ⟨_, List.getElem?_eq_getElem (by simpa using hk)⟩
      have hkl : SL listed k = false := by rw [hl k hk]; simp
      refine ⟨fun hr => ?_, fun i hi => ?_⟩
      · have := ready_mk hsz ho hkl (hback ho (Nat.le_refl k))
        rw [hr] at this; cases this
      · obtain ⟨h1, h2, o', ho', h3⟩ := ready_spec hsz hi
        have hik : i = k := by
          rw [hl i h1] at h2
          simp only [decide_eq_false_iff_not] at h2
          rcases Nat.lt_or_ge k i with hlt | hge
          · have hcl : ∀ (j : Nat) (o : Oper), ops.toList[j]? = some o → SL listed j = true → ∀ e ∈ o.after.toList, bindsB e = true → SL listed e.on = true := by
              intro j oj hj hs
              refine hback hj ?_
              have hjn := (List.getElem?_eq_some_iff.1 hj).1
              simp only [Array.length_toList] at hjn
              rw [hl j hjn] at hs
              simp only [decide_eq_true_eq] at hs; omega
            rcases R.tail i o' ho' (by omega) k hlt with hb | hb
            · have := anc_done R.back hcl i o' ho' h3 k hb
              rw [hkl] at this; cases this
            · have := R.late k hb
              omega
          · omega
        subst hik
        have hdr : ops.toList.drop i = o :: ops.toList.drop (i + 1) := by
          have hl' : i < ops.toList.length := by simpa using hk
          rw [List.drop_eq_getElem_cons hl']
          rw [List.getElem?_eq_getElem hl'] at ho
          rw [Option.some.inj ho]
        rw [hdr] at hd
        refine evOp_sound hT h (hG.grow hn) (by simpa using ho) hd fun env' c' a' w' hk' hn' hst => ?_
        refine ih (i + 1) _ env' c' a' w' (hn.trans hn') (by simpa using hsz) (fun j hj => ?_) (by omega) (by omega) hst ((fE1_iff _ _).1 hk') ?_
        · rw [SL_set (by omega)]
          by_cases e : j = i
          · subst e; simp
          · rw [if_neg e, hl j hj]
            congr 1
            simp only [eq_iff_iff]; omega
        · have := count_set_lt (listed := listed) (i := i) (by omega) hkl
          omega
    · have hk : k = ops.size := by omega
      subst hk
      have hdn : ops.toList.drop ops.size = [] := List.drop_eq_nil_iff.2 (by simp)
      rw [hdn] at hd
      refine ⟨fun _ => hK _ c a w ((fE_iff _ _).1 hd) hn h.end, fun i hi => ?_⟩
      obtain ⟨h1, h2, _⟩ := ready_spec hsz hi
      rw [hl i h1] at h2
      simp only [decide_eq_false_iff_not] at h2; exact absurd h1 h2

theorem phase_all (hT : TyOK P T) (R : Reg P T ops p lt env0 X) {c0 : Ctx} (hG : GYield P c0.w0) {K0 : Env → Prop} {Q : Exit → Act → World → Prop} (hK : ∀ env' c' a' w', K0 env' → c0.Grow c' → St c' env' a' w' → Q .normal a' w') (hd : evOps P T ops (ops.toList.drop p) (X.foldl (fun e x => x.app e) env0) K0) :
    ∀ (fuel : Nat) (listed : Array Bool) (c : Ctx) (a : Act) (w : World), c0.Grow c → listed.size = ops.size → (∀ (k : Nat) (o : Oper), ops.toList[k]? = some o → SL listed k = true → ∀ e ∈ o.after.toList, bindsB e = true → SL listed e.on = true) → (∀ j, p ≤ j → SL listed j = false) → (∀ j, j ∈ lt → SL listed j = true) →
    St c (runS (SL listed) 0 X env0) a w → listed.toList.count false ≤ fuel → wpAnyIn (Fr rr) n P .any ops Q fuel listed a w := by
  intro fuel
  have hpn : p ≤ ops.size := by have := R.hp; simpa using this
  have done : ∀ (fuel : Nat) (listed : Array Bool) (c : Ctx) (a : Act) (w : World), c0.Grow c → listed.size = ops.size → (∀ j, p ≤ j → SL listed j = false) → St c (runS (SL listed) 0 X env0) a w → listed.toList.count false ≤ fuel → (∀ j, j < p → SL listed j = true) → wpAnyIn (Fr rr) n P .any ops Q fuel listed a w := by
    intro fuel listed c a w hn hsz htl h hf hall
    have hl : ∀ j, SL listed j = decide (j < p) := fun j => by
      by_cases hj : j < p
      · rw [hall j hj]; simp [hj]
      · rw [htl j (by omega)]; simp [hj]
    have e : runS (SL listed) 0 X env0 = X.foldl (fun e x => x.app e) env0 := by
      have h1 : runS (SL listed) 0 X env0 = runS (fun m => decide (m < 0 + p)) 0 X env0 := runS_ext fun j _ => by rw [hl]; simp
      rw [h1, runS_lt, List.take_of_length_le (by rw [R.len]; exact Nat.le_refl p)]
    rw [e] at h
    exact tail_all hT R hG hK fuel p listed _ c a w hn hsz (fun j _ => hl j) (Nat.le_refl p) hpn h hd hf
  have least : ∀ (listed : Array Bool), listed.size = ops.size → ¬ (∀ j, j < p → SL listed j = true) → ∃ j, j < p ∧ SL listed j = false ∧ j ∈ Region.ready .any ops listed := by
    intro listed hsz hna
    have h1 : ∃ j, j < p ∧ SL listed j = false := by
      apply Classical.byContradiction
      intro hno
      refine hna fun j hj => ?_
      cases hs : SL listed j with
      | true => rfl
      | false => exact absurd ⟨j, hj, hs⟩ hno
    have h2 : ∀ m j, j < m → j < p → SL listed j = false → ∃ j, j < p ∧ SL listed j = false ∧ j ∈ Region.ready .any ops listed := by
      intro m
      induction m with
      | zero => intro j hj; omega
      | succ m ih =>
        intro j hjm hj hs
        by_cases hex : ∃ j', j' < j ∧ SL listed j' = false
        · obtain ⟨j', h3, h4⟩ := hex
          exact ih j' (by omega) (by omega) h4
        · obtain ⟨o, ho⟩ : ∃ o, ops.toList[j]? = some o := ⟨_, List.getElem?_eq_getElem (by simp; omega)⟩
          refine ⟨j, hj, hs, ready_mk hsz ho hs fun e he hb => ?_⟩
          have := R.back j o ho e he hb
          cases he' : SL listed e.on with
          | true => rfl
          | false => exact absurd ⟨e.on, this, he'⟩ hex
    obtain ⟨j, h3, h4⟩ := h1
    exact h2 (j + 1) j (by omega) h3 h4
  induction fuel with
  | zero =>
    intro listed c a w hn hsz hcl htl hlt h hf
    by_cases hall : ∀ j, j < p → SL listed j = true
    · exact done 0 listed c a w hn hsz htl h hf hall
    · obtain ⟨j, h1, h2, _⟩ := least listed hsz hall
      have := count_pos' (listed := listed) (i := j) (by omega) h2
      omega
  | succ fuel ih =>
    intro listed c a w hn hsz hcl htl hlt h hf
    by_cases hall : ∀ j, j < p → SL listed j = true
    · exact done (fuel + 1) listed c a w hn hsz htl h hf hall
    · obtain ⟨j0, h1, h2, h3⟩ := least listed hsz hall
      refine ⟨fun hr => (by rw [hr] at h3; cases h3), fun i hi => ?_⟩
      obtain ⟨k1, k2, o, ho, k3⟩ := ready_spec hsz hi
      have hip : i < p := by
        rcases Nat.lt_or_ge i p with hlt | hge
        · exact hlt
        · rcases R.tail i o ho hge j0 (by omega) with hb | hb
          · have := anc_done R.back hcl i o ho k3 j0 hb
            rw [h2] at this; cases this
          · rw [hlt j0 hb] at h2; cases h2
      have hset : ∀ j, SL (listed.setIfInBounds i true) j = if j = i then true else SL listed j := fun j => SL_set (by omega)
      refine R.step hT hcl ho hip k2 k3 (S' := SL (listed.setIfInBounds i true)) (by rw [hset, if_pos rfl]) (fun j hj => by rw [hset, if_neg hj]) h ((hG.grow hn).glob h) fun c' a' w' hn' hst => ?_
      refine ih _ c' a' w' (hn.trans hn'.grow) (by simpa using hsz) (fun k ok hok hs e he hb => ?_) (fun j hj => by rw [hset, if_neg (by omega)]; exact htl j hj) (fun j hj => by rw [hset]; split <;> first | rfl | exact hlt j hj) hst ?_
      · rw [hset] at hs ⊢
        split
        · rfl
        · by_cases ek : k = i
          · subst ek
            rw [ho] at hok; cases hok
            exact k3 e he hb
          · rw [if_neg ek] at hs
            exact hcl k ok hok hs e he hb
      · have := count_set_lt (listed := listed) (i := i) (by omega) k2
        omega

/-! ### Operations that are taken first -/
theorem noSel_spec {o : Oper} (h : noSel o = true) : (∀ cs b, o.op ≠ .select cs b) ∧ ∀ c, o.op ≠ .defer c := by
  unfold noSel at h
  constructor
  · intro cs b e; rw [e] at h; cases h
  · intro c e; rw [e] at h; cases h

/-- It gives this, in whatever world. -/
structure Pure (P : Program) (ops : Array Oper) (o : Oper) (v : Value) (a : Act) : Prop where
  wanted : Region.wanted o (yielded ops a.tmps) = true
  run : ∀ w, (execOp a.eval o).run P w = .ok (.value v) w
  about : ∀ w, o.about P w a.eval = none

theorem Pure.opIn {i : Nat} {o : Oper} {v : Value} {a : Act} (hi : ops[i]? = some o) (hs : noSel o = true) (hy : Pure P ops o v a) {K : Act → World → Prop} {Q : Exit → Act → World → Prop} {w : World} : wpOpIn (Fr rr) n P ops Q i K a w ↔ K (a.put o.dst v) w := by
  unfold Go.wpOpIn
  simp only [hi, hy.wanted, if_true, Oper.wpIn, Oper.semAt_eq _ _ _ (noSel_spec hs).2, hy.run w, Oper.uponIn]
  exact ⟨fun h => h.2, fun h => ⟨fun f hf => (by rw [hy.about w] at hf; cases hf), h⟩⟩

theorem Pure.same {o : Oper} {v : Value} {a a' : Act} (hy : Pure P ops o v a) (he : execOp a'.eval o = execOp a.eval o)
    (hw : Region.wanted o (yielded ops a'.tmps) = Region.wanted o (yielded ops a.tmps)) (hb : ∀ w, o.about P w a'.eval = o.about P w a.eval) : Pure P ops o v a' :=
  ⟨hw.trans hy.wanted, fun w => by rw [he]; exact hy.run w, fun w => by rw [hb w]; exact hy.about w⟩

theorem opIn_late {Q : Exit → Act → World → Prop} (hQ : ∀ e a w, Q e a w → e = .normal) {j : Nat} {oi oj : Oper} {v : Value} (hj : ops[j]? = some oj) (hap : oi.apart ops oj = true) (hsi : noSel oi = true) (hsj : noSel oj = true) {K : Act → World → Prop} {a : Act} {w : World}
    (hy : Pure P ops oi v a) (h : wpOpIn (Fr rr) n P ops Q j K (a.put oi.dst v) w) :
    wpOpIn (Fr rr) n P ops Q j (fun a' w' => Pure P ops oi v a' ∧ K (a'.put oi.dst v) w') a w := by
  obtain ⟨h1, h2, h3⟩ := Oper.apart_spec hap
  have keepA : ∀ (a : Act), Pure P ops oi v a → ∀ u, Pure P ops oi v (a.put oj.dst u) := fun a hy u =>
    hy.same (execOp_put oi (noSel_spec hsi).1 a oj.dst u h3) (wanted_put oi a oj.dst u h3) (fun w => about_put oi w a oj.dst u h3)
  have keep := keepA a hy
  have keepD : ∀ d, Pure P ops oi v { a with defers := d :: a.defers } := fun d => hy.same rfl rfl (fun _ => rfl)
  have noPanic : ∀ c a w, ¬ Q (.panic c) a w := fun c a w hq => by cases hQ _ _ _ hq
  unfold wpOpIn at *
  simp only [hj] at *
  rw [wanted_put oj a oi.dst v h1, about_put oj w a oi.dst v h1] at h
  split
  · rename_i hw
    simp only [hw, if_true] at h
    unfold Oper.wpIn at *
    rw [about_put oj w a oi.dst v h1] at h
    refine ⟨h.1, ?_⟩
    have h := h.2
    rw [Oper.semAt_eq _ _ _ (noSel_spec hsj).2, execOp_put oj (noSel_spec hsj).1 a oi.dst v h1] at h
    rw [Oper.semAt_eq _ _ _ (noSel_spec hsj).2]
    generalize (execOp a.eval oj).run P w = r at *
    cases r with
    | ok x w' =>
      cases x <;> simp only [Oper.uponIn] at h ⊢
      case value u => exact ⟨keep u, by rw [← Act.put_comm a v u h2]; exact h⟩
      case skip => exact ⟨keep _, by rw [← Act.put_comm a v undef h2]; exact h⟩
      case defer d =>
        refine ⟨keepA _ (keepD d) _, ?_⟩
        rw [← Act.put_comm _ v undef h2, ← Act.put_defers]
        exact h
      case enter f args =>
        refine ⟨h.1, CallsIn.mono h.2 fun e w'' he => ?_⟩
        cases e with
        | returned u => exact ⟨keep u, by rw [← Act.put_comm a v u h2]; exact he⟩
        | panicked c => exact absurd he (noPanic _ _ _)
        | outgrown => exact he
      case row row args => exact ⟨h.1, RowsIn.mono h.2 fun u w'' he => ⟨keep u, by rw [← Act.put_comm a v u h2]; exact he⟩⟩
      case round l f tmps assign body =>
        refine ⟨h.1, RoundIn.mono h.2 fun e w'' he => ?_⟩
        cases e with
        | returned u => exact ⟨keep u, by rw [← Act.put_comm a v u h2]; exact he⟩
        | panicked c => exact absurd he (noPanic _ _ _)
        | outgrown => exact he
    | halt x w' =>
      cases x <;> simp only [Oper.uponIn] at h ⊢
      case panic u => exact absurd h (noPanic _ _ _)
  · rename_i hw
    simp only [hw] at h
    exact ⟨h.1, keep _, by rw [← Act.put_comm a v undef h2]; exact h.2⟩

theorem any_late {Q : Exit → Act → World → Prop} (hQ : ∀ e a w, Q e a w → e = .normal) (hns : ops.toList.all noSel = true) {i : Nat} {oi : Oper} {v : Value} (hi : ops[i]? = some oi) :
    ∀ (fuel : Nat) (listed : Array Bool) (a : Act) (w : World),
      (∀ j oj, ops[j]? = some oj → j ≠ i → listed.getD j true = false → (∀ e ∈ oj.after, Region.binds .any e = true → e.on ≠ i) → oi.apart ops oj = true) →
      i ∈ Region.ready .any ops listed → Pure P ops oi v a →
      wpAnyIn (Fr rr) n P .any ops Q fuel (listed.setIfInBounds i true) (a.put oi.dst v) w → wpAnyIn (Fr rr) n P .any ops Q (fuel + 1) listed a w := by
  have hsel : ∀ (j : Nat) (o : Oper), ops[j]? = some o → noSel o = true := fun j o h => List.all_eq_true.1 hns o (by
    have : ops.toList[j]? = some o := by simpa using h
    exact List.mem_of_getElem? this)
  intro fuel
  induction fuel with
  | zero =>
    intro listed a w _ hr hy H
    refine ⟨fun h => (by rw [h] at hr; cases hr), fun j hj => ?_⟩
    by_cases hji : j = i
    · subst hji; exact (hy.opIn hi (hsel _ _ hi)).2 H
    · have := ready_mono hj hji
      rw [H.1] at this
      cases this
  | succ fuel ih =>
    intro listed a w hfree hr hy H
    refine ⟨fun h => (by rw [h] at hr; cases hr), fun j hj => ?_⟩
    by_cases hji : j = i
    · subst hji; exact (hy.opIn hi (hsel _ _ hi)).2 H
    · have h1 := H.2 j (ready_mono hj hji)
      obtain ⟨hjun, oj, hoj, hall⟩ := mem_ready.1 hj
      have hnot : ∀ e ∈ oj.after, Region.binds .any e = true → e.on ≠ i := fun e he hb heq => by
        have h1 := hall e he hb
        have h0 := (mem_ready.1 hr).1
        rw [heq] at h1
        rcases Nat.lt_or_ge i listed.size with h' | h'
        · simp [h'] at h0 h1; rw [h0] at h1; cases h1
        · simp [Array.getElem?_eq_none h'] at h1
      have h2 := opIn_late hQ hoj (hfree j oj hoj hji hjun hnot) (hsel _ _ hi) (hsel _ _ hoj) hy h1
      have hfree' : ∀ k ok, ops[k]? = some ok → k ≠ i → (listed.setIfInBounds j true).getD k true = false →
          (∀ e ∈ ok.after, Region.binds .any e = true → e.on ≠ i) → oi.apart ops ok = true := fun k ok hk hki hun hno => by
        refine hfree k ok hk hki ?_ hno
        by_cases hjk : j = k
        · subst hjk; exact hjun
        · rw [getD_set_ne true hjk] at hun; exact hun
      refine wpOpIn_mono (fun a' w' h3 => ih (listed.setIfInBounds j true) a' w' hfree' (ready_mono hr (Ne.symm hji)) h3.1 ?_) h2
      rw [Array.setIfInBounds_comm _ _ hji]
      exact h3.2

theorem lateOK_lt {l : List Nat} (h : lateOK ops p l = true) : ∀ j, j ∈ l → j < p := by
  cases l with
  | nil => intro j hj; cases hj
  | cons x l =>
    simp only [lateOK, Bool.and_eq_true] at h
    intro j hj
    have := List.all_eq_true.1 h.1 j hj
    simpa using this
theorem lateOK_sel {l : List Nat} (h : lateOK ops p l = true) : l = [] ∨ ops.toList.all noSel = true := by
  cases l with
  | nil => exact .inl rfl
  | cons x l =>
    simp only [lateOK, Bool.and_eq_true] at h
    exact .inr h.2.1
theorem lateOK_go {l : List Nat} (h : lateOK ops p l = true) : lateGo ops [] l = true := by
  cases l with
  | nil => rfl
  | cons x l =>
    simp only [lateOK, Bool.and_eq_true] at h
    exact h.2.2

theorem sub_ints {t : Nat} {cst : Bool} {d1 d2 : D} {r : Res} (h : binD T t cst .sub d1 d2 = some r) : ∃ k m m', d1 = .int k m ∧ d2 = .int k m' := by
  unfold binD at h
  split at h
  · rename_i k x k' y
    cases hk : (k == k') with
    | false => rw [hk] at h; cases h
    | true => obtain rfl := eq_of_beq hk; exact ⟨_, _, _, rfl, rfl⟩
  · cases h
  · cases h

theorem pure_of {c : Ctx} {e : Env} {a : Act} {w : World} (h : St c e a w) {o : Oper} {ok : Nat → Bool} {bx : List (Nat × BoxC)} {mp : List (Nat × MapC)} {rw : List (Nat × RowC)} {dst : Nat} {gc : Prop} {r : Res}
    (hp : pureOp o.op = true) (hg : o.guard = none) (hgc : gc) (hd : doesP P T none (tvR ok e.wt e.tm) bx mp rw dst o.op gc (fun r' => r' = r)) : ∃ v, Pure P ops o v a := by
  have hw : Region.wanted o (yielded ops a.tmps) = true := by simp [Region.wanted, hg]
  cases ho : o.op <;> rw [ho] at hp <;> simp only [pureOp] at hp <;> first | (cases hp; done) | skip
  case move x => exact ⟨a.eval x, hw, fun w => by simp [execOp, ho], fun w => by simp [Oper.about, ho]⟩
  case binOp op t x y z =>
    cases op <;> simp only [pureOp] at hp <;> first | (cases hp; done) | skip
    rw [ho] at hd
    simp only [doesP, callOf, elseK, elseOf, opR, opV] at hd
    have hi : ∃ k m m', unw none (tvR ok e.wt e.tm x) = .int k m ∧ unw none (tvR ok e.wt e.tm y) = .int k m' := by
      cases hb : (isNilC y && isSlTy T t) with
      | true =>
        rw [hb, cond_true] at hd
        have : nilD .sub (unw none (tvR ok e.wt e.tm x)) = none := by
          unfold nilD
          cases isNilD (unw none (tvR ok e.wt e.tm x)) <;> rfl
        rw [this] at hd
        exact absurd hgc (fun hgc => deadK_no hd hgc)
      | false =>
        rw [hb, cond_false] at hd
        cases hbd : binD T t (isC x || isC y) .sub (unw none (tvR ok e.wt e.tm x)) (unw none (tvR ok e.wt e.tm y)) with
        | none => rw [hbd] at hd; exact absurd hgc (fun hgc => deadK_no hd hgc)
        | some r => exact sub_ints hbd
    obtain ⟨k, m, m', h1, h2⟩ := hi
    have key : ∀ (x : Operand) (k : IntKind) (m : Int), unw none (tvR ok e.wt e.tm x) = .int k m → a.eval x = .int k m := by
      intro x k m hx
      have hr := rep_tvR h ok x
      generalize tvR ok e.wt e.tm x = d at hx hr
      cases d <;> simp only [unw] at hx <;> first | (cases hx; done) | skip
      cases hx
      exact repT_int (c := c) (env := e) (w := w) hr
    have e1 := key x k m h1
    have e2 := key y k m' h2
    refine ⟨.int k (k.wrap (m - m')), hw, fun w => ?_, fun w => by simp [Oper.about, ho]⟩
    simp [execOp, ho, e1, e2, eqGuard, binOp_sub, Op.intArith]

theorem Reg.doesS (R : Reg P T ops p lt env0 X) {S : Nat → Bool} (hcl : ∀ (k : Nat) (o : Oper), ops.toList[k]? = some o → S k = true → ∀ e ∈ o.after.toList, bindsB e = true → S e.on = true)
    {i : Nat} {o : Oper} (ho : ops.toList[i]? = some o) (hip : i < p) (hr : ∀ e ∈ o.after.toList, bindsB e = true → S e.on = true) :
    ∃ g dst r ok, gslot ops o = some g ∧ doesP P T g (tvR ok (runS S 0 X env0).wt (runS S 0 X env0).tm) env0.bx env0.mp env0.rows dst o.op (gcond ok 8 (runS S 0 X env0).wt (runS S 0 X env0).tm g) (fun r' => r' = r) := by
  have hanc := anc_done R.back hcl
  have hpre : ∀ {j : Nat}, j < p → ∀ {o' : Oper}, ops.toList[j]? = some o' → (ops.toList.take p)[j]? = some o' := fun hj _ h => by rw [List.getElem?_take, if_pos hj]; exact h
  obtain ⟨g, dst, r, x, hx, F⟩ := R.fact i o (hpre hip ho)
  have hEi : (X.take i).foldl (fun e x => x.app e) env0 = runS (fun m => decide (m < 0 + i)) 0 X env0 := (runS_lt X i 0 env0).symm
  rw [hEi] at F
  have hmk : ∀ (j : Nat) (y : Doing), X[j]? = some y → j < p ∧ ∃ o', ops.toList[j]? = some o' ∧ o'.dst = some y.dst := by
    intro j y hj
    have hjp : j < p := by rw [← R.len]; exact (List.getElem?_eq_some_iff.1 hj).1
    have hjl : ∃ o', ops.toList[j]? = some o' := ⟨_, List.getElem?_eq_getElem (Nat.lt_of_lt_of_le hjp R.hp)⟩
    obtain ⟨o', ho'⟩ := hjl
    obtain ⟨g', dst', r', x', k1, F'⟩ := R.fact j o' (hpre hjp ho')
    rw [hj] at k1; cases k1
    exact ⟨hjp, o', ho', by rw [F'.isDst, F'.isX, doing_dst]⟩
  have hagree : ∀ t, okT ((ancs ops.toList []).getD i 0) (0 + i) t (ops.toList.take p) 0 = true → look t (runS (fun m => decide (m < 0 + i)) 0 X env0).wt = look t (runS S 0 X env0).wt ∧ look t (runS (fun m => decide (m < 0 + i)) 0 X env0).tm = look t (runS S 0 X env0).tm := by
    intro t ht
    have key : ∀ (j : Nat) (y : Doing), X[j]? = some y → y.dst = t → (fun m => decide (m < 0 + i)) (0 + j) = S (0 + j) := by
      intro j y hj hy
      obtain ⟨hjp, o', ho', hd⟩ := hmk j y hj
      obtain ⟨h1, h2⟩ := okT_spec ht j o' (hpre hjp ho') (by rw [hd, hy])
      rw [hanc i o ho hr (0 + j) h1]
      simpa using h2
    exact ⟨look_runS (f := fun e => look t e.wt) (rel := fun x => x.dst = t) wt_ne wt_eq key rfl, look_runS (f := fun e => look t e.tm) (rel := fun x => x.dst = t) tm_ne tm_eq key rfl⟩
  have hdoes := F.does
  rw [tvR_congr hagree, gcond_congr hagree] at hdoes
  exact ⟨g, dst, r, _, F.isG, hdoes⟩

theorem late_all (hT : TyOK P T) (R : Reg P T ops p lt env0 X) {c0 : Ctx} (hG : GYield P c0.w0) {K0 : Env → Prop} {Q : Exit → Act → World → Prop} (hQ : ∀ e a w, Q e a w → e = .normal) (hK : ∀ env' c' a' w', K0 env' → c0.Grow c' → St c' env' a' w' → Q .normal a' w') (hd : evOps P T ops (ops.toList.drop p) (X.foldl (fun e x => x.app e) env0) K0) :
    ∀ (rem dn : List Nat) (fuel : Nat) (listed : Array Bool) (c : Ctx) (a : Act) (w : World), c0.Grow c → lt = dn.reverse ++ rem → lateGo ops dn rem = true → (rem = [] ∨ ops.toList.all noSel = true) → listed.size = ops.size → (∀ j, SL listed j = dn.contains j) →
    (∀ (k : Nat) (o : Oper), ops.toList[k]? = some o → SL listed k = true → ∀ e ∈ o.after.toList, bindsB e = true → SL listed e.on = true) →
    St c (runS (SL listed) 0 X env0) a w → listed.toList.count false ≤ fuel → wpAnyIn (Fr rr) n P .any ops Q fuel listed a w
  | [], dn, fuel, listed, c, a, w, hn, hl, _, _, hsz, hs, hcl, h, hf => by
    rw [List.append_nil] at hl
    refine phase_all hT R hG hK hd fuel listed c a w hn hsz hcl (fun j hj => ?_) (fun j hj => ?_) h hf
    · rw [hs]
      cases hc : dn.contains j with
      | false => rfl
      | true => have := R.late j (by rw [hl]; simpa using hc); omega
    · rw [hs]; rw [hl] at hj; simpa using hj
  | i :: rem, dn, fuel, listed, c, a, w, hn, hl, hgo, hns, hsz, hs, hcl, h, hf => by
    have hns : ops.toList.all noSel = true := hns.resolve_left (by simp)
    have hip : i < p := R.late i (by rw [hl]; simp)
    simp only [lateGo, Bool.and_eq_true] at hgo
    obtain ⟨hgi, hgo⟩ := hgo
    have hin : i < ops.toList.length := Nat.lt_of_lt_of_le hip R.hp
    obtain ⟨o, ho⟩ : ∃ o, ops.toList[i]? = some o := ⟨_, List.getElem?_eq_getElem hin⟩
    rw [ho] at hgi
    simp only [Bool.and_eq_true, Bool.not_eq_true', Option.isNone_iff_eq_none] at hgi
    obtain ⟨⟨hpu, hgd, hdi⟩, hed, hall⟩ := hgi
    have hSi : SL listed i = false := by rw [hs]; exact hdi
    have hr : ∀ e ∈ o.after.toList, bindsB e = true → SL listed e.on = true := fun e he hb => by
      have := List.all_eq_true.1 hed e he
      rw [hb] at this
      rw [hs]; simpa using this
    have hset : ∀ j, SL (listed.setIfInBounds i true) j = if j = i then true else SL listed j := fun j => SL_set (by rw [hsz]; simpa using hin)
    obtain ⟨g, dst, r, ok, hgs, hdoes⟩ := R.doesS hcl ho hip hr
    have hg : g = none := by
      unfold gslot at hgs
      rw [hgd] at hgs
      exact (Option.some.inj hgs).symm
    subst hg
    obtain ⟨v, hv⟩ := pure_of (ops := ops) h hpu hgd (by show gcond ok 8 _ _ none; unfold gcond; trivial) hdoes
    have hoa : ops[i]? = some o := by simpa using ho
    have hcnt := count_set_lt (listed := listed) (i := i) (by rw [hsz]; simpa using hin) hSi
    obtain ⟨fuel, rfl⟩ : ∃ f, fuel = f + 1 := ⟨fuel - 1, by omega⟩
    have hsel : noSel o = true := List.all_eq_true.1 hns o (List.mem_of_getElem? ho)
    have hstep : wpOpIn (Fr rr) n P ops Q i (fun a' w' => wpAnyIn (Fr rr) n P .any ops Q fuel (listed.setIfInBounds i true) a' w') a w := by
      refine R.step hT hcl ho hip hSi hr (S' := SL (listed.setIfInBounds i true)) (by rw [hset, if_pos rfl]) (fun j hj => by rw [hset, if_neg hj]) h ((hG.grow hn).glob h) fun c' a' w' hn' hst => ?_
      refine late_all hT R hG hQ hK hd rem (i :: dn) fuel _ c' a' w' (hn.trans hn'.grow) (by rw [hl]; simp) hgo (.inr hns) (by simpa using hsz) (fun j => ?_) (fun k ok hok hk e he hb => ?_) hst (by omega)
      · rw [hset, hs]
        by_cases e : j = i
        · subst e; simp
        · simp [e]
      · rw [hset] at hk ⊢
        split
        · rfl
        · by_cases ek : k = i
          · subst ek
            rw [ho] at hok; cases hok
            exact hr e he hb
          · rw [if_neg ek] at hk
            exact hcl k ok hok hk e he hb
    refine any_late hQ hns hoa fuel listed a w (fun j oj hoj hji hju hno => ?_) (ready_mk hsz ho hSi hr) hv ((hv.opIn hoa hsel).1 hstep)
    have hjl : ops.toList[j]? = some oj := by simpa using hoj
    have hjn : j < ops.toList.length := (List.getElem?_eq_some_iff.1 hjl).1
    have := List.all_eq_true.1 hall j (List.mem_range.2 hjn)
    rw [hjl] at this
    simp only [Bool.or_eq_true] at this
    rcases this with h1 | h1 | h1 | h1
    · exact absurd (Nat.eq_of_beq_eq_true h1) hji
    · rw [← hs] at h1
      unfold SL at h1
      rw [Array.getD_eq_getD_getElem?] at h1 hju
      cases hq : listed[j]? with
      | none => rw [hq] at hju; cases hju
      | some b => rw [hq] at h1 hju; simp only [Option.getD_some] at h1 hju; rw [h1] at hju; cases hju
    · obtain ⟨e, he, hb⟩ := List.any_eq_true.1 h1
      simp only [Bool.and_eq_true] at hb
      exact absurd (Nat.eq_of_beq_eq_true hb.2) (hno e (by simpa using he) hb.1)
    · exact h1

theorem bit_set (m i j : Nat) : Nat.testBit (m ||| 1 <<< i) j = (Nat.testBit m j || decide (i = j)) := by
  rw [Nat.testBit_or, Nat.one_shiftLeft, Nat.testBit_two_pow]
theorem readyM_eq {listed : Array Bool} {m : Nat} (hsz : listed.size = ops.size) (hl : ∀ j, SL listed j = Nat.testBit m j) (i : Nat) : i ∈ readyM ops m ↔ i ∈ Region.ready .any ops listed := by
  constructor
  · intro h
    simp only [readyM, List.mem_filter, List.mem_range, Bool.and_eq_true, Bool.not_eq_true'] at h
    obtain ⟨hi, h1, h2⟩ := h
    have ho : ops.toList[i]? = some ops.toList[i] := List.getElem?_eq_getElem hi
    rw [ho] at h2
    refine ready_mk hsz ho (by rw [hl]; exact h1) fun e he hb => ?_
    have := List.all_eq_true.1 h2 e he
    rw [hb] at this
    rw [hl]; simpa using this
  · intro h
    obtain ⟨h1, h2, o, ho, h3⟩ := ready_spec hsz h
    simp only [readyM, List.mem_filter, List.mem_range, Bool.and_eq_true, Bool.not_eq_true']
    refine ⟨by simpa using h1, by rw [← hl]; exact h2, ?_⟩
    rw [ho]
    refine List.all_eq_true.2 fun e he => ?_
    cases hb : bindsB e with
    | false => rfl
    | true => have := h3 e he hb; rw [hl] at this; simpa using this

theorem firstMv_spec {env : Env} {m : Nat} {j : Nat} : ∀ {l : List Nat}, firstMv T env ops m l = some j → j ∈ l ∧ mvOK T env ops m j = true
  | [], h => by cases h
  | i :: l, h => by
    unfold firstMv at h
    split at h
    · rename_i hm; cases h; exact ⟨by simp, hm⟩
    · obtain ⟨h1, h2⟩ := firstMv_spec h; exact ⟨by simp [h1], h2⟩

theorem pv_pure (hT : TyOK P T) {c : Ctx} {env : Env} {a : Act} {w : World} (h : St c env a w) {o : Oper} (hm : isPv T env o.op = true) (hg : o.guard = none) : ∃ v, Pure P ops o v a := by
  have hw : Region.wanted o (yielded ops a.tmps) = true := by simp [Region.wanted, hg]
  cases ho : o.op <;> rw [ho] at hm <;> simp only [isPv] at hm <;> first | (cases hm; done) | skip
  case move x => exact ⟨a.eval x, hw, fun w => by simp [execOp, ho], fun w => by simp [Oper.about, ho]⟩
  case fieldAddr t x f =>
    simp only [Bool.and_eq_true] at hm
    obtain ⟨h1, h2⟩ := hm
    cases hf : fieldOf T t f with
    | none => rw [hf] at h1; cases h1
    | some q =>
      obtain ⟨off, eu⟩ := q
      obtain ⟨Fs, F, g1, g2, rfl, g4, g5⟩ := fieldOf_spec hT hf
      have hr := rep_tv h (g := none) (fun _ _ e => by cases e) x
      generalize unw none (tv env.wt env.tm x) = d at h2 hr
      cases d <;> first | (cases h2; done) | skip
      rename_i s off
      obtain ⟨_, he⟩ := repT_loc hr
      refine ⟨.pointer (some (Addr.add ⟨c.ρ s, off, none⟩ F.offset)), hw, fun w => ?_, fun w => by simp [Oper.about, ho]⟩
      simp [execOp, ho, he, Instr.fieldAt, run_underlying g1, g2, Instr.sureAddr, fieldPlace, (hT _ _ g4).size, g5]

/-- States of which the same is known. -/
structure EnvSim (e e' : Env) : Prop where
  nt : e.nt = e'.nt
  tm : ∀ t, look t e.tm = look t e'.tm
  wt : ∀ t, look t e.wt = look t e'.wt
  bx : ∀ t, look t e.bx = look t e'.bx
  mp : ∀ t, look t e.mp = look t e'.mp
  us : ∀ t, look t e.us = look t e'.us
  dd : ∀ t, t ∈ e.dd ↔ t ∈ e'.dd
  ys : e.ys = e'.ys
  rw : ∀ t, look t e.rw = look t e'.rw
theorem St.sim {c : Ctx} {e e' : Env} {a : Act} {w : World} (h : St c e a w) (q : EnvSim e e') : St c e' a w := by
  have S : Step c e w c e' w := .of (Keeps.refl _ _) (fun s hs => ⟨by rw [← q.bx]; exact hs, rfl⟩) (fun s hs => ⟨by rw [← q.mp]; exact hs, rfl⟩) (fun st u hs => by rw [← q.us]; exact hs) (fun st hs => (q.dd st).1 hs) (fun _ _ _ => ⟨rfl, fun _ _ => ⟨rfl, fun _ h => h⟩⟩) (fun st _ h => ⟨by rw [q.us]; exact h.1, fun x => h.2 ((q.dd st).1 x)⟩)
  have hb : ∀ s, e'.blk s → e.blk s := fun s hs => by
    rcases hs with hs | hs
    · exact .inl (by rw [q.bx]; exact hs)
    · exact .inr (by rw [q.mp]; exact hs)
  have hl : ∀ s, e'.live s → e.live s := fun s hs => ⟨by rw [q.us]; exact hs.1, fun x => hs.2 ((q.dd s).1 x)⟩
  exact ⟨h.nt.trans q.nt, h.df, fun t d hd => S.repT (h.tm t d (by rw [q.tm]; exact hd)), fun t d hd => (h.wt t d (by rw [q.wt]; exact hd)).step S, fun s b hs => (h.bx s b (by rw [q.bx]; exact hs)).step S rfl rfl (fun _ x => x),
    fun s m hs => (h.mp s m (by rw [q.mp]; exact hs)).step S rfl rfl (fun _ x => x), fun s s' h1 h2 => h.inj s s' (hb s h1) (hb s' h2), fun s h1 => h.above s (hb s h1), fun s h1 => h.lt s (hb s h1), fun s s' g h1 h2 => h.ownInj s s' g (hl s h1) (hl s' h2),
    fun s g h1 h2 => ⟨(h.ownAbove s g (hl s h1) h2).1, (h.ownAbove s g (hl s h1) h2).2.1, fun s' h3 => (h.ownAbove s g (hl s h1) h2).2.2 s' (hb s' h3)⟩, h.im, h.im0, h.imNew, h.base, ⟨by rw [← q.ys]; exact h.gh.1, S.fix h.gh.2⟩, fun st r hr => S.rowOK (S.same st) (h.rw st r (by rw [q.rw]; exact hr))⟩
theorem St.norm {c : Ctx} {env : Env} {a : Act} {w : World} (h : St c env a w) : St c env.norm a w :=
  h.sim ⟨rfl, fun _ => (look_normT _).symm, fun _ => (look_normT _).symm, fun _ => (look_normT _).symm, fun _ => (look_normT _).symm, fun _ => (look_normT _).symm, fun _ => (mem_normN _).symm, rfl, fun _ => (look_normT _).symm⟩
theorem St.norm1 {c : Ctx} {env : Env} {a : Act} {w : World} (h : St c env a w) : St c env.norm1 a w :=
  h.sim ⟨rfl, fun _ => (look_ins1 _).symm, fun _ => (look_normT _).symm, fun _ => (look_normT _).symm, fun _ => (look_normT _).symm, fun _ => (look_normT _).symm, fun _ => (mem_normN _).symm, rfl, fun _ => (look_normT _).symm⟩
theorem tabGo_mem {tab : List (Nat × Env)} {K : Env → Prop} : ∀ {l : List (Nat × Env)}, tabGo P T ops tab K l → ∀ {m : Nat} {env : Env}, look m l = some env → (match nextM T env ops m with
    | [] => K env
    | i :: is => andL (tabE P T ops tab m env) (i :: is))
  | [], _, m, env, h => by cases h
  | (k, e) :: l, h, m, env, hm => by
    rw [look_cons] at hm
    split at hm
    · rename_i e; subst e; cases hm; exact h.1
    · exact tabGo_mem h.2 hm

theorem tab_sound (hT : TyOK P T) (hns : ops.toList.all noSel = true) {c0 : Ctx} (hG : GYield P c0.w0) {K0 : Env → Prop} {Q : Exit → Act → World → Prop} (hQ : ∀ e a w, Q e a w → e = .normal) (hK : ∀ env' c' a' w', K0 env' → c0.Grow c' → St c' env' a' w' → Q .normal a' w')
    {tab : List (Nat × Env)} (htab : tabGo P T ops tab K0 tab) :
    ∀ (fuel : Nat) (m : Nat) (listed : Array Bool) (env : Env) (c : Ctx) (a : Act) (w : World), listed.toList.count false ≤ fuel → c0.Grow c → listed.size = ops.size → (∀ j, SL listed j = Nat.testBit m j) → St c env a w → look m tab = some env → wpAnyIn (Fr rr) n P .any ops Q fuel listed a w := by
  intro fuel
  induction fuel with
  | zero =>
    intro m listed env c a w hcnt hn hsz hl h hm
    have hne : Region.ready .any ops listed = [] := by
      apply List.eq_nil_iff_forall_not_mem.2
      intro i hi
      obtain ⟨h1, h2, o, ho, h3⟩ := ready_spec hsz hi
      have := count_pos' (listed := listed) (i := i) (by omega) h2
      omega
    have hd := tabGo_mem htab hm
    have hre : readyM ops m = [] := by
      apply List.eq_nil_iff_forall_not_mem.2
      intro i hi
      have := (readyM_eq hsz hl i).1 hi
      rw [hne] at this; cases this
    unfold nextM at hd
    rw [hre] at hd
    exact ⟨hne, hK _ c a w hd hn h⟩
  | succ fuel ih =>
    intro m listed env c a w hcnt hn hsz hl h hm
    have hd := tabGo_mem htab hm
    cases hr : readyM ops m with
    | nil =>
      unfold nextM at hd
      rw [hr] at hd
      refine ⟨fun _ => hK _ c a w hd hn h, fun i hi => ?_⟩
      have := (readyM_eq hsz hl i).2 hi
      rw [hr] at this; cases this
    | cons i0 l0 =>
      have step : ∀ i, i ∈ Region.ready .any ops listed → tabE P T ops tab m env i → wpOpIn (Fr rr) n P ops Q i (wpAnyIn (Fr rr) n P .any ops Q fuel (listed.setIfInBounds i true)) a w := by
        intro i hi hd
        obtain ⟨h1, h2, o, ho, h3⟩ := ready_spec hsz hi
        unfold tabE at hd
        rw [ho] at hd
        refine evOp_sound hT h (hG.grow hn) (by simpa using ho) hd fun env' c' a' w' hk' hn' hst => ?_
        have hk' := (fNat_iff _ _).1 ((fE_iff _ _).1 hk')
        have hc := count_set_lt (listed := listed) (i := i) (by omega) h2
        refine ih (m ||| 1 <<< i) _ env'.norm1 c' a' w' (by omega) (hn.trans hn') (by simpa using hsz) (fun j => ?_) hst.norm1 hk'
        rw [SL_set (by omega), hl, bit_set]
        by_cases e : j = i
        · subst e; simp
        · have e' : ¬ i = j := fun x => e x.symm
          simp [e, e']
      cases hf : firstMv T env ops m (i0 :: l0) with
      | none =>
        have hnx : nextM T env ops m = i0 :: l0 := by unfold nextM; rw [hr]; simp only [hf]
        rw [hnx] at hd
        refine ⟨fun he => ?_, fun i hi => step i hi (andL_mem hd i (by rw [← hr]; exact (readyM_eq hsz hl i).2 hi))⟩
        have := (readyM_eq hsz hl i0).1 (by rw [hr]; simp)
        rw [he] at this; cases this
      | some j =>
        have hnx : nextM T env ops m = [j] := by unfold nextM; rw [hr]; simp only [hf]
        rw [hnx] at hd
        obtain ⟨hj, hmv⟩ := firstMv_spec hf
        have hjr : j ∈ Region.ready .any ops listed := (readyM_eq hsz hl j).1 (by rw [hr]; exact hj)
        have hstep := step j hjr (andL_mem hd j (List.mem_singleton.2 rfl))
        obtain ⟨h1, h2, o, ho, h3⟩ := ready_spec hsz hjr
        have hoa : ops[j]? = some o := by simpa using ho
        have hsel : noSel o = true := List.all_eq_true.1 hns o (List.mem_of_getElem? ho)
        unfold mvOK at hmv
        rw [ho] at hmv
        simp only [Bool.and_eq_true, Option.isNone_iff_eq_none] at hmv
        obtain ⟨⟨hmv, hgd⟩, hall⟩ := hmv
        obtain ⟨v, hv⟩ := pv_pure (ops := ops) hT h hmv hgd
        refine any_late hQ hns hoa fuel listed a w (fun i oi hoi hij hiu hno => ?_) hjr hv ((hv.opIn hoa hsel).1 hstep)
        have hil : ops.toList[i]? = some oi := by simpa using hoi
        have hin : i < ops.toList.length := (List.getElem?_eq_some_iff.1 hil).1
        have := List.all_eq_true.1 hall i (List.mem_range.2 hin)
        rw [hil] at this
        simp only [Bool.or_eq_true] at this
        rcases this with g1 | g1 | g1 | g1
        · exact absurd (Nat.eq_of_beq_eq_true g1) hij
        · rw [← hl] at g1
          unfold SL at g1
          rw [Array.getD_eq_getD_getElem?] at g1 hiu
          cases hq : listed[i]? with
          | none => rw [hq] at hiu; cases hiu
          | some b => rw [hq] at g1 hiu; simp only [Option.getD_some] at g1 hiu; rw [g1] at hiu; cases hiu
        · obtain ⟨e, he, hb⟩ := List.any_eq_true.1 g1
          simp only [Bool.and_eq_true] at hb
          exact absurd (Nat.eq_of_beq_eq_true hb.2) (hno e (by simpa using he) hb.1)
        · exact g1

theorem drawD_sound (hT : TyOK P T) (hmo : P.follows .mixedOrders = true) {c : Ctx} {env : Env} {a : Act} {w : World} (h : St c env a w) (hG : GYield P c.w0) {id : Nat} {K0 : Env → Prop} {Q : Exit → Act → World → Prop} (hd : evDraw P T ops env K0)
    (hK : ∀ env' c' a' w', K0 env' → c.Grow c' → St c' env' a' w' → Q .normal a' w') : (Code.region id ops true).wpIn (Fr rr) n P Q a w := by
  have hd := (fN_iff _ _).1 hd
  have hd := (fNat_iff _ _).1 hd
  have hd := (fN_iff _ _).1 hd
  have hS : ∀ j, SL (Array.replicate ops.size false) j = false := fun j => by
    unfold SL
    rw [Array.getD_eq_getD_getElem?, Array.getElem?_replicate]
    split <;> rfl
  split at hd
  · rename_i hna
    obtain ⟨tab, envF, h0, hd, _, hF⟩ := (fE_iff _ _).1 hd
    simp only [needAll, Bool.and_eq_true] at hna
    refine wpIn_mono (Q := fun e a w => e = .normal ∧ Q .normal a w) ?_ (fun e a w hq => hq.1 ▸ hq.2)
    refine wpIn_region_any hmo ?_
    refine tab_sound hT hna.2.1 hG (fun e a w hq => hq.1) (fun env' c' a' w' k1 k2 k3 => ⟨rfl, hK env'.end c' a' w' (by rw [(fE_iff _ _).1 k1]; exact hF) k2 k3.end⟩) hd ops.size 0 _ env.end c a _ (by simp) (.refl c) (by simp) (fun j => by rw [hS]; simp) h.end.drew h0
  obtain ⟨hok, hd⟩ := hd
  have hd := (fE_iff _ _).1 hd
  have hd := (fLs_iff _ _).1 hd
  generalize parts T ops (ancs ops.toList []) = p at hok hd
  generalize lateOf (ancs ops.toList []) p ops.toList.length = lt at hok
  obtain ⟨X, h1, h2, h3, _, h5⟩ := evPh_facts _ _ _ _ _ hd
  simp only [drawOK, Bool.and_eq_true, Nat.ble_eq] at hok
  obtain ⟨hlate, ⟨hple, hdis⟩, hall⟩ := hok
  have hat : ∀ (i : Nat) (o : Oper), ops.toList[i]? = some o → (o.after.toList.all (fun e => !bindsB e || Nat.blt e.on i) = true) ∧ ((match Nat.blt i p with
      | true => o.dst.isSome && (match o.guard with | some (j, _) => Nat.blt j i && Nat.testBit ((ancs ops.toList []).getD i 0) j | none => true)
      | false => (List.range i).all fun j => Nat.testBit ((ancs ops.toList []).getD i 0) j || lt.contains j) = true) := by
    intro i o ho
    have := List.all_eq_true.1 hall i (List.mem_range.2 (List.getElem?_eq_some_iff.1 ho).1)
    rw [ho] at this
    have this := (Bool.and_eq_true _ _ ▸ this : _ ∧ _)
    exact this
  have hlen : (ops.toList.take p).length = p := by rw [List.length_take]; omega
  have hdst : ∀ o ∈ ops.toList.take p, o.dst.isSome = true := by
    intro o ho
    obtain ⟨i, hi⟩ := List.getElem?_of_mem ho
    have hip : i < p := by have := (List.getElem?_eq_some_iff.1 hi).1; omega
    rw [List.getElem?_take, if_pos hip] at hi
    have := (hat i o hi).2
    rw [show Nat.blt i p = true from by simpa using hip] at this
    simp only [Bool.and_eq_true] at this
    exact this.1
  have hfd : ∀ (j : Nat) (y : Doing), X[j]? = some y → ((ops.toList.take p).filterMap (·.dst))[j]? = some y.dst := by
    intro j y hj
    have hjp : j < (ops.toList.take p).length := by rw [← h1]; exact (List.getElem?_eq_some_iff.1 hj).1
    obtain ⟨g, dst, r, x, k1, F⟩ := h3 j _ (List.getElem?_eq_getElem hjp)
    rw [hj] at k1; cases k1
    rw [filterMap_get hdst j _ (List.getElem?_eq_getElem hjp), F.isDst, F.isX, doing_dst]
  have R : Reg P T ops p lt env.end X := by
    refine ⟨hple, fun i o ho e he hb => ?_, h1.trans hlen, h3, fun j j' y y' k1 k2 e => distinct_spec hdis j j' y.dst (hfd j y k1) (by rw [e]; exact hfd j' y' k2), fun j j' y y' k1 k2 k3 k4 k5 => (by
      have := h5 j j' y y' k1 k2 k3 k4 k5
      rwa [Nat.zero_add] at this), fun st r hl => (h.rw st r hl).2.1, fun i o ho hip j b hg => ?_, fun i o ho hip j hj => ?_, lateOK_lt hlate, rfl⟩
    · have := List.all_eq_true.1 (hat i o ho).1 e he
      rw [hb] at this
      simpa using this
    · have := (hat i o ho).2
      rw [show Nat.blt i p = true from by simpa using hip, hg] at this
      simp only [Bool.and_eq_true, Nat.blt_eq] at this
      exact this.2
    · have := (hat i o ho).2
      rw [show Nat.blt i p = false from by rw [← Bool.not_eq_true, Nat.blt_eq]; omega] at this
      have := List.all_eq_true.1 this j (List.mem_range.2 hj)
      simpa [List.contains_eq_mem] using this
  refine wpIn_mono (Q := fun e a w => e = .normal ∧ Q .normal a w) ?_ (fun e a w hq => hq.1 ▸ hq.2)
  refine wpIn_region_any hmo ?_
  have hS : ∀ j, SL (Array.replicate ops.size false) j = false := fun j => by
    unfold SL
    rw [Array.getD_eq_getD_getElem?, Array.getElem?_replicate]
    split <;> rfl
  have hSt : St c (runS (SL (Array.replicate ops.size false)) 0 X env.end) a { w with drawn := w.drawn + 1 } := by
    rw [runS_ext (S' := fun _ => false) (fun j _ => hS _), runS_false]
    exact h.end.drew
  refine late_all hT R hG (fun e a w hq => hq.1) (fun env' c' a' w' k1 k2 k3 => ⟨rfl, hK env' c' a' w' k1 k2 k3⟩) h2 lt [] ops.size _ c a _ (.refl c) rfl (lateOK_go hlate) (lateOK_sel hlate) (by simp) (fun j => by rw [hS]; simp) (fun k o _ hs => by rw [hS] at hs; cases hs) hSt (by simp)
theorem draw_sound (hT : TyOK P T) (hmo : P.follows .mixedOrders = true) {c : Ctx} {env : Env} {a : Act} {w : World} (h : St c env a w) (hG : GYield P c.w0) {id : Nat} {K0 : Env → Prop} {Q : Exit → Act → World → Prop} (hd : evRegion P T ops true env K0)
    (hK : ∀ env' c' a' w', K0 env' → c.Grow c' → St c' env' a' w' → Q .normal a' w') : (Code.region id ops true).wpIn (Fr rr) n P Q a w := by
  unfold evRegion at hd
  simp only at hd
  cases hf : frzB env.bx (sealsOf T env) with
  | none => rw [hf] at hd; exact hd.elim
  | some bx =>
    rw [hf] at hd
    obtain ⟨c1, n1, h1, _, _⟩ := h.frzB hf
    exact drawD_sound hT hmo h1 (by rw [n1.w0]; exact hG) hd fun env' c' a' w' k1 k2 k3 => hK env' c' a' w' k1 (n1.grow.trans k2) k3

end

end Go.Proofs.YtnooelecdbbfkaaGreatDoor.Fw

/- Rounds of a range over a function: what is held between them. -/
namespace Go.Proofs.YtnooelecdbbfkaaGreatDoor.Fw
open Go Go.RowKit
set_option linter.unusedSectionVars false
variable [Inhabited GLT]

theorem mem_dedup : ∀ {l acc : List Nat} {x : Nat}, x ∈ dedup l acc ↔ x ∈ l ∨ x ∈ acc
  | [], acc, x => by simp [dedup]
  | y :: l, acc, x => by
    unfold dedup
    cases h : acc.contains y with
    | true =>
      have hy : y ∈ acc := by simpa using h
      simp only [mem_dedup, List.mem_cons]
      constructor
      · rintro (h | h) <;> simp [h]
      · rintro ((rfl | h) | h) <;> simp [*]
    | false =>
      simp only [mem_dedup, List.mem_cons]
      constructor
      · rintro (h | rfl | h) <;> simp [*]
      · rintro ((rfl | h) | h) <;> simp [*]
theorem mem_keysOf {α : Type} : ∀ {l : List (Nat × α)} {s : Nat}, (look s l).isSome = true → s ∈ keysOf l := by
  intro l s h
  refine mem_dedup.2 (.inl ?_)
  induction l with
  | nil => simp [look] at h
  | cons p l ih =>
    obtain ⟨t, x⟩ := p
    rw [look_cons] at h
    split at h
    · rename_i e; simp [e]
    · exact List.mem_map.2 (by obtain ⟨q, h1, h2⟩ := List.mem_map.1 (ih h); exact ⟨q, List.mem_cons_of_mem _ h1, h2⟩)

section
variable {P : Program} {T : Ty} {c : Ctx} {env : Env} {a : Act} {w : World}

theorem St.covers (h : St c env a w) : Covers c.w0 (keysOf env.bx) (keysOf env.mp) := fun k s b hs => by
  obtain ⟨h1, _⟩ := h.gh.2.1 k s b hs
  cases k with
  | true => exact mem_keysOf h1
  | false => exact mem_keysOf h1

/-- Other temporaries. -/
theorem St.tmps (h : St c env a w) {tm' : List (Nat × D)} {ts : Array Value} (ht : ∀ t d, look t tm' = some d → RepT c env w d (ts.getD t undef)) : St c { env with nt := ts.size, tm := tm', wt := [] } { a with tmps := ts } w := by
  have S : Step c env w c { env with nt := ts.size, tm := tm', wt := [] } w := Step.sameEnv rfl rfl rfl rfl
  exact ⟨rfl, h.df, fun t d hd => S.repT (ht t d hd), fun t d hd => by simp [look] at hd, fun s b hs => (h.bx s b hs).step S rfl rfl (fun _ x => x), fun s m hs => (h.mp s m hs).step S rfl rfl (fun _ x => x), h.inj, h.above, h.lt, h.ownInj, h.ownAbove, h.im, h.im0, h.imNew, h.base, ⟨h.gh.1, S.fix h.gh.2⟩, h.rows S⟩

theorem dstC_rep {d : D} {v : Value} (h : RepC c env w d v) : RepC c env w (dstC d) v := by
  cases d <;> first | exact h | skip
  rename_i st es xs
  refine ⟨h.1, ?_⟩
  cases hs : Nat.ble st 1 with
  | true => exact h.2
  | false => exact .inl rfl
theorem all2_map_left {α β γ : Type} {R : β → γ → Prop} (f : α → β) : ∀ {xa : List α} {cs : List γ}, All2 (fun a c => R (f a) c) xa cs ↔ All2 R (xa.map f) cs
  | [], [] => Iff.rfl
  | _ :: _, _ :: _ => and_congr_right fun _ => all2_map_left f
  | [], _ :: _ => Iff.rfl
  | _ :: _, [] => Iff.rfl
theorem dstD_rep {d : D} {v : Value} (h : RepT c env w d v) : RepT c env w (dstD d) v := by
  cases d with
  | agg cs =>
    simp only [dstD]
    cases hc : cs.any D.isRow with
    | true => trivial
    | false =>
      obtain ⟨vs, e, h⟩ := h
      exact ⟨vs, e, (all2_map_left dstC).1 (h.mono fun _ _ => dstC_rep)⟩
  | rsl st es lo n => trivial
  | rptr st es i off => trivial
  | tup ds => trivial
  | sl st es xs => exact dstC_rep (d := .sl st es xs) h
  | _ => exact h

section
variable {c' : Ctx} {env' : Env} {w' : World} (K : Keeps c.I c'.I w w') (hb : ∀ s, (look s env.bx).isSome = true → (look s env'.bx).isSome = true ∧ c'.ρ s = c.ρ s) (hm : ∀ s, (look s env.mp).isSome = true → (look s env'.mp).isSome = true ∧ c'.ρ s = c.ρ s)
include K hb hm
theorem dstC_move {d : D} {v : Value} (hd : d.isRow = false) (h : RepC c env w (dstC d) v) : RepC c' env' w' (dstC d) v := by
  cases d with
  | loc s off => exact ⟨(hb s h.1).1, by rw [(hb s h.1).2]; exact h.2⟩
  | lsl s off n => exact ⟨(hb s h.1).1, by rw [(hb s h.1).2]; exact h.2⟩
  | mapr s => exact ⟨(hm s h.1).1, by rw [(hm s h.1).2]; exact h.2⟩
  | sl st es xs =>
    refine ⟨Rep.keeps K _ _ h.1, ?_⟩
    rcases h.2 with e | e | ⟨e, _⟩
    · exact .inl e
    · exact .inr (.inl e)
    · cases hs : Nat.ble st 1 with
      | true => rw [hs] at e; have := Nat.le_of_ble_eq_true hs; simp only [cond_true] at e; omega
      | false => rw [hs] at e; simp at e
  | agg cs => exact h.elim
  | tup cs => exact h.elim
  | rsl st es lo n => cases hd
  | rptr st es i off => cases hd
  | _ => exact Rep.keeps K _ _ h
omit K hb hm in
theorem all2_any {α β : Type} {R S : α → β → Prop} {p : α → Bool} (hrs : ∀ a b, p a = false → R a b → S a b) : ∀ {xa : List α} {bs : List β}, xa.any p = false → All2 R xa bs → All2 S xa bs
  | [], [], _, _ => trivial
  | a :: xa, b :: bs, hp, h => by
    simp only [List.any_cons, Bool.or_eq_false_iff] at hp
    exact ⟨hrs a b hp.1 h.1, all2_any hrs hp.2 h.2⟩
  | [], _ :: _, _, h => h.elim
  | _ :: _, [], _, h => h.elim
theorem dstD_move {d : D} {v : Value} (h : RepT c env w (dstD d) v) : RepT c' env' w' (dstD d) v := by
  cases d with
  | agg cs =>
    simp only [dstD] at h ⊢
    cases hc : cs.any D.isRow with
    | true => trivial
    | false =>
      rw [hc] at h
      obtain ⟨vs, e, h⟩ := h
      exact ⟨vs, e, (all2_map_left dstC).1 (all2_any (R := fun a v => RepC c env w (dstC a) v) (S := fun a v => RepC c' env' w' (dstC a) v) (fun _ _ hd => dstC_move K hb hm hd) hc ((all2_map_left dstC).2 h))⟩
  | rsl st es lo n => trivial
  | rptr st es i off => trivial
  | tup ds => trivial
  | undef => trivial
  | wh s b d => exact (show False from h).elim
  | sl st es xs => exact dstC_move K hb hm (d := .sl st es xs) rfl h
  | loc s off => exact dstC_move K hb hm (d := .loc s off) rfl h
  | lsl s off n => exact dstC_move K hb hm (d := .lsl s off n) rfl h
  | mapr s => exact dstC_move K hb hm (d := .mapr s) rfl h
  | int k n => exact Rep.keeps K (.int k n) _ h
  | bool b => exact Rep.keeps K (.bool b) _ h
  | str l => exact Rep.keeps K (.str l) _ h
  | eptr d o => exact Rep.keeps K (.eptr d o) _ h
  | nilp => exact Rep.keeps K .nilp _ h
  | fn f cs => exact Rep.keeps K (.fn f cs) _ h
  | nilf => exact Rep.keeps K .nilf _ h
  | ifc t d => exact Rep.keeps K (.ifc t d) _ h
  | nili => exact Rep.keeps K .nili _ h
  | mapv ks vs => exact Rep.keeps K (.mapv ks vs) _ h
  | nilm => exact Rep.keeps K .nilm _ h
  | yld l => exact Rep.keeps K (.yld l) _ h
  | nils => exact Rep.keeps K .nils _ h
  | sle => exact Rep.keeps K .sle _ h
end
end

/-- A root that asks nothing. -/
def Root.free (w : World) : Root := ⟨w, fun _ => False, [], none, fun _ _ => none, fun _ => none, fun _ _ _ _ => True, []⟩
theorem Root.free_base (w : World) : BaseF (Root.free w) w := ⟨rfl, rfl, rfl, Nat.le_refl _, fun _ h => h.elim, fun _ h => h.elim, fun _ h => (by cases h), List.nodup_nil, fun _ h => (by cases h), fun _ h => (by cases h)⟩
theorem Root.free_off (w : World) (k : Nat) : (Root.free w).off k := ⟨fun h => h, by simp [Root.free]⟩
theorem Root.free_fix (w : World) (ρ : Nat → Nat) (σ : Nat → Option Nat) (env : Env) (w' : World) : FixAll (Root.free w) ρ σ env w' := ⟨fun _ _ _ h => (nomatch h), fun _ _ h => (nomatch h)⟩

theorem fixR_same {w w' : World} {o : Option (Nat × Nat)} {x : Option Nat} (same : ∀ g, x = some g → w'.heap[g]? = w.heap[g]?) (h : FixR w o x) : FixR w' o x := by
  cases o with
  | none => exact h
  | some p =>
    obtain ⟨h1, cur, u, fr, h2, h3⟩ := h
    exact ⟨h1, cur, u, fr, (same _ h1).trans h2, h3⟩

/-- What is held between two rounds. -/
structure Held (c : Ctx) (r1 : Root) (ρ0 : Nat → Nat) (bs ms : List Nat) (tm0 : List (Nat × D)) (tmps : Array Value) (l : Nat) (rc : Loop) (O : Nat → Prop) (I : Im) (W : World) (c' : Ctx) (env' : Env) : Prop where
  st : St c' env' { tmps := tmps, defers := [] } W
  tm : ∀ t d, look t tm0 = some d → RepT c' env' W d (tmps.getD t undef)
  base : BaseF r1 W
  im0 : Keeps c.I0 c'.I c.w0.wd W
  new : ∀ b o, c'.I b o → c.I0 b o ∨ r1.off b
  off : ∀ k, ownB c' env' k → r1.off k ∧ k ≠ l
  bx : ∀ s, (look s env'.bx).isSome = true ↔ s ∈ bs
  mp : ∀ s, (look s env'.mp).isSome = true ↔ s ∈ ms
  rho : ∀ s, s ∈ bs ∨ s ∈ ms → c'.ρ s = ρ0 s
  rcd : W.heap[l]? = some (.loop rc)
  rl : r1.off l
  il : ∀ o, ¬ c'.I l o
  sub : ∀ b o, I b o → c'.I b o
  own : ∀ b o, c'.I b o → O b → I b o
  oo : ∀ k, O k → r1.off k ∧ k ≠ l ∧ ¬ ownB c' env' k ∧ k < W.heap.size
  rows : ∀ st o, r1.fixr st = some o → bigS ≤ st ∧ (env'.live st → FixR W o (c'.σ st))

section
variable {P : Program} {T : Ty} {c : Ctx} {r1 : Root} {ρ0 : Nat → Nat} {bs ms : List Nat} {tm0 : List (Nat × D)} {tmps : Array Value} {l : Nat} {rc : Loop} {O : Nat → Prop} {I : Im} {W : World} {c' : Ctx} {env' : Env}

theorem ownB_env {c : Ctx} {env : Env} {I : Im} {r : Root} {I0 : Im} {df : List Deferred} {ys : Option (Nat × List (List D))} {k : Nat} : ownB { c with I := I, w0 := r, I0 := I0, df := df } { env with ys := ys } k ↔ ownB c env k := Iff.rfl

/-- The iterator goes on. -/
theorem Held.step (h : Held c r1 ρ0 bs ms tm0 tmps l rc O I W c' env') (htm : ∀ t d, look t tm0 = some d → ∃ d0, d = dstD d0) {O' : Nat → Prop} {I' : Im} {W' : World} (s : ItStep O I W O' I' W') :
    ∃ c2, Held c r1 ρ0 bs ms tm0 tmps l rc O' I' W' c2 env' := by
  have hlt := h.st.im
  have hsame : ∀ k, k < W.heap.size → ¬ O k → W'.heap[k]? = W.heap[k]? := s.same
  have hl : l < W.heap.size := (Array.getElem?_eq_some_iff.1 h.rcd).1
  have hOl : ¬ O l := fun x => (h.oo l x).2.1 rfl
  have hown : ∀ k, ownB c' env' k → W'.heap[k]? = W.heap[k]? := fun k hk => hsame k (ownB_lt h.st hk) fun x => (h.oo k x).2.2.1 hk
  have hK : Keeps c'.I (fun b o => c'.I b o ∨ I' b o) W W' := by
    refine ⟨fun _ _ x => .inl x, fun ad u hi hu => ?_, fun r es k hi hr => ?_⟩
    · by_cases ho : O ad.block
      · exact s.keeps.cell ad u (h.own _ _ hi ho) hu
      · exact (World.cell?_of_block (hsame _ (hlt _ _ hi) ho)).trans hu
    · by_cases ho : O r
      · exact s.keeps.map r es k (h.own _ _ hi ho) hr
      · exact (hsame _ (hlt _ _ hi) ho).trans hr
  have hI : ∀ b o, (c'.I b o ∨ I' b o) → c'.I b o ∨ ¬ ownB c' env' b := by
    rintro b o (x | x)
    · exact .inl x
    · rcases s.im b o x with x | x | x
      · exact .inl (h.sub b o x)
      · exact .inr (h.oo b x).2.2.1
      · exact .inr fun y => by have := ownB_lt h.st y; omega
  have hm := h.st.move (I' := fun b o => c'.I b o ∨ I' b o) (I0' := fun b o => c'.I b o ∨ I' b o) (w' := W') (r' := Root.free W') (ys' := env'.ys) (df' := []) s.size hown hK hI
    (fun b o x => x.elim (fun x => Nat.lt_of_lt_of_le (hlt b o x) s.size) (s.lt b o)) (fun k _ => Root.free_off _ k) (Root.free_base _) (Keeps.refl _ _) (fun _ _ x => .inl x) rfl ⟨trivial, Root.free_fix _ _ _ _ _⟩
  refine ⟨{ c' with I := fun b o => c'.I b o ∨ I' b o, w0 := Root.free W', I0 := fun b o => c'.I b o ∨ I' b o, df := [] }, { st := hm.1, tm := fun t d hd => ?_, base := h.base.trans ⟨s.os, s.tape, s.output, s.size, fun k hk => hsame k (h.base.below_of hk) fun x => hk (h.oo k x).1⟩, im0 := h.im0.trans hK, new := ?_, off := h.off, bx := h.bx, mp := h.mp, rho := h.rho, rcd := (hsame l hl hOl).trans h.rcd, rl := h.rl, il := ?_, sub := fun b o x => .inr x, own := ?_, oo := ?_, rows := fun st o ho => ⟨(h.rows st o ho).1, fun hl => fixR_same (fun g hg => hown g (.inr ⟨st, hl, hg⟩)) ((h.rows st o ho).2 hl)⟩ }⟩
  · obtain ⟨d0, rfl⟩ := htm t d hd
    exact dstD_move (c := c') (env := env') (w := W) (c' := { c' with I := fun b o => c'.I b o ∨ I' b o, w0 := Root.free W', I0 := fun b o => c'.I b o ∨ I' b o, df := [] }) (env' := env') (w' := W') hK (fun _ x => ⟨x, rfl⟩) (fun _ x => ⟨x, rfl⟩) (h.tm t _ hd)
  · rintro b o (x | x)
    · exact h.new b o x
    · rcases s.im b o x with x | x | x
      · exact h.new b o (h.sub b o x)
      · exact .inr (h.oo b x).1
      · exact .inr (h.base.new x)
  · rintro o (x | x)
    · exact h.il o x
    · rcases s.im l o x with x | x | x
      · exact h.il o (h.sub l o x)
      · exact hOl x
      · omega
  · rintro b o (x | x) y
    · rcases s.own b y with y | y
      · exact s.keeps.im b o (h.own b o x y)
      · have := hlt b o x; omega
    · exact x
  · intro k x
    refine ⟨?_, ?_, ?_, s.olt k x⟩
    · rcases s.own k x with y | y
      · exact (h.oo k y).1
      · exact h.base.new y
    · rcases s.own k x with y | y
      · exact (h.oo k y).2.1
      · omega
    · rcases s.own k x with y | y
      · exact (h.oo k y).2.2.1
      · intro z; have := ownB_lt h.st z; omega

/-- What lies between two states: elsewhere nothing has changed but block l. -/
structure Away (l : Nat) (c' : Ctx) (env' : Env) (W : World) (cA : Ctx) (envA : Env) (W1 : World) : Prop where
  os : W1.os = W.os
  tape : W1.tape = W.tape
  output : W1.output = W.output
  size : W.heap.size ≤ W1.heap.size
  same : ∀ k, k < W.heap.size → ¬ ownB c' env' k → k ≠ l → W1.heap[k]? = W.heap[k]?
  keeps : Keeps c'.I cA.I W W1
  new : ∀ b o, cA.I b o → c'.I b o ∨ ownB c' env' b ∨ W.heap.size ≤ b
  own : ∀ k, ownB cA envA k → ownB c' env' k ∨ W.heap.size ≤ k

theorem Away.trans {cA cB : Ctx} {envA envB : Env} {W1 W2 : World} (h : Away l c' env' W cA envA W1) (k : Away l cA envA W1 cB envB W2) : Away l c' env' W cB envB W2 := by
  refine ⟨k.os.trans h.os, k.tape.trans h.tape, k.output.trans h.output, Nat.le_trans h.size k.size, fun i hi ho hl => ?_, h.keeps.trans k.keeps, fun b o x => ?_, fun i x => ?_⟩
  · refine (k.same i (Nat.lt_of_lt_of_le hi h.size) (fun x => ?_) hl).trans (h.same i hi ho hl)
    rcases h.own i x with y | y
    · exact ho y
    · omega
  · rcases k.new b o x with y | y | y
    · exact h.new b o y
    · exact (h.own b y).elim (fun z => .inr (.inl z)) fun z => .inr (.inr z)
    · exact .inr (.inr (Nat.le_trans h.size y))
  · rcases k.own i x with y | y
    · exact h.own i y
    · exact .inr (Nat.le_trans h.size y)

def fixOf (bs ms : List Nat) (ρ0 : Nat → Nat) : Bool → Nat → Option Nat
  | true, s => if s ∈ bs then some (ρ0 s) else none
  | false, s => if s ∈ ms then some (ρ0 s) else none
theorem fixOf_ok {ρ : Nat → Nat} {σ : Nat → Option Nat} {fr : Nat → Option (Option (Nat × Nat))} {env : Env} {w wd : World} {far : Nat → Prop} {lp : Option Nat} {G : Option (Nat × List (List D)) → (Nat → Prop) → World → Im → Prop} :
    FixAll ⟨wd, far, [], lp, fixOf bs ms ρ0, fr, G, []⟩ ρ σ env w ↔ ((∀ s, s ∈ bs → (look s env.bx).isSome = true ∧ ρ s = ρ0 s) ∧ (∀ s, s ∈ ms → (look s env.mp).isSome = true ∧ ρ s = ρ0 s)) ∧ ∀ st o, fr st = some o → bigS ≤ st ∧ (env.live st → FixR w o (σ st)) := by
  constructor
  · intro h
    exact ⟨⟨fun s hs => h.1 true s (ρ0 s) (if_pos hs), fun s hs => h.1 false s (ρ0 s) (if_pos hs)⟩, h.2⟩
  · rintro ⟨⟨h1, h2⟩, h3⟩
    refine ⟨fun k s b hs => ?_, h3⟩
    cases k with
    | true =>
      simp only [fixOf] at hs
      split at hs
      · rename_i hm; cases hs; exact h1 s hm
      · cases hs
    | false =>
      simp only [fixOf] at hs
      split at hs
      · rename_i hm; cases hs; exact h2 s hm
      · cases hs

/-- The root of a round. -/
def roundRoot (bs ms : List Nat) (ρ0 : Nat → Nat) (fr : Nat → Option (Option (Nat × Nat))) (l : Nat) (I : Im) (own : Nat → Prop) (W : World) : Root :=
  ⟨W, fun k => k < W.heap.size ∧ ¬ own k, [], some l, fixOf bs ms ρ0, fr, fun ys far wd I0 => ys = none ∧ far = (fun k => k < W.heap.size ∧ ¬ own k) ∧ wd = W ∧ I0 = I, []⟩
theorem round_yield (bs ms : List Nat) (ρ0 : Nat → Nat) (fr : Nat → Option (Option (Nat × Nat))) (l : Nat) (I : Im) (own : Nat → Prop) (W : World) (hgl : GlobW P I W) : GYield P (roundRoot bs ms ρ0 fr l I own W) :=
  ⟨.inr fun _ _ _ _ h => h.1, fun _ _ _ _ _ _ _ _ _ _ _ h => (by cases h.1), fun _ _ _ _ h => by obtain ⟨_, _, rfl, rfl⟩ := h; exact hgl⟩

theorem away_of {cA : Ctx} {envA : Env} {aA : Act} {W1 : World} (hs : St cA envA aA W1) {fr : Nat → Option (Option (Nat × Nat))} (hG : cA.w0.G = (roundRoot bs ms ρ0 fr l c'.I (ownB c' env') W).G) : Away l c' env' W cA envA W1 := by
  have hg := hs.gh.1
  rw [hG] at hg
  obtain ⟨_, h2, h3, h4⟩ := hg
  have hb := hs.base
  have hoff : ∀ k, cA.w0.off k → ownB c' env' k ∨ W.heap.size ≤ k := fun k hk => by
    have := hk.1
    rw [h2] at this
    by_cases e : k < W.heap.size
    · by_cases o : ownB c' env' k
      · exact .inl o
      · exact absurd ⟨e, o⟩ this
    · exact .inr (by omega)
  have e1 := hb.os; have e2 := hb.tape; have e3 := hb.output; have e4 := hb.grow; have e5 := hs.im0
  rw [h3] at e1 e2 e3 e4
  rw [h3, h4] at e5
  refine ⟨e1, e2, e3, e4, fun k hk ho _ => ?_, e5, fun b o x => ?_, fun k x => hoff k (ownB_off hs x)⟩
  · have := hb.block k (by rw [h2]; exact ⟨hk, ho⟩)
    rw [h3] at this; exact this
  · rcases hs.imNew b o x with y | y
    · rw [h4] at y; exact .inl y
    · exact .inr (hoff b y)

theorem away_put {cA : Ctx} {envA : Env} {W1 : World} (o : Obj) (hl : ∀ o, ¬ cA.I l o) : Away l cA envA W1 cA envA (W1.putObj l o) := by
  have hsame : ∀ k, k ≠ l → (W1.putObj l o).heap[k]? = W1.heap[k]? := fun k hk => World.putObj_heap_other hk
  refine ⟨rfl, rfl, rfl, by simp, fun k _ _ hk => hsame k hk, ⟨fun _ _ x => x, fun ad u hi hu => ?_, fun r es k hi hr => ?_⟩, fun _ _ x => .inl x, fun _ x => .inl x⟩
  · exact (World.cell?_of_block (hsame _ fun e => hl _ (e ▸ hi))).trans hu
  · exact (hsame _ fun e => hl _ (e ▸ hi)).trans hr

/-- The state in which a round begins. -/
theorem Held.enter (h : Held c r1 ρ0 bs ms tm0 tmps l rc O I W c' env') {ts : Array Value} {tm' : List (Nat × D)} (ht : ∀ t d, look t tm' = some d → RepT c' env' W d (ts.getD t undef)) :
    St { c' with w0 := roundRoot bs ms ρ0 r1.fixr l c'.I (ownB c' env') W, I0 := c'.I, df := [] } { env' with nt := ts.size, tm := tm', wt := [], ys := none } { tmps := ts, defers := [] } W := by
  have h1 := h.st.tmps ht
  have hl : l < W.heap.size := (Array.getElem?_eq_some_iff.1 h.rcd).1
  have hm := h1.move (I' := c'.I) (I0' := c'.I) (w' := W) (r' := roundRoot bs ms ρ0 r1.fixr l c'.I (ownB c' env') W) (ys' := none) (df' := []) (Nat.le_refl _) (fun _ _ => rfl) (Keeps.refl _ _) (fun _ _ x => .inl x) h.st.im (fun k hk => ⟨fun x => x.2 hk, by simp [roundRoot]⟩)
    ⟨rfl, rfl, rfl, Nat.le_refl _, fun _ x => x.1, fun _ _ => rfl, fun _ x => (by cases x), List.nodup_nil, fun _ x => (by cases x), fun l' hl' => by
      have : l = l' := by simpa [roundRoot] using hl'
      subst this
      exact ⟨⟨hl, fun x => (h.off l x).2 rfl⟩, _, h.rcd⟩⟩ (Keeps.refl _ _) (fun _ _ x => .inl x) rfl ⟨⟨rfl, rfl, rfl, rfl⟩, fixOf_ok.2 ⟨⟨fun s hs => ⟨(h.bx s).2 hs, h.rho s (.inl hs)⟩, fun s hs => ⟨(h.mp s).2 hs, h.rho s (.inr hs)⟩⟩, h.rows⟩⟩
  exact hm.1

theorem Held.il_away (h : Held c r1 ρ0 bs ms tm0 tmps l rc O I W c' env') {cA : Ctx} {envA : Env} {W1 : World} (A : Away l c' env' W cA envA W1) : ∀ o, ¬ cA.I l o := fun o x => by
  have hl : l < W.heap.size := (Array.getElem?_eq_some_iff.1 h.rcd).1
  rcases A.new l o x with y | y | y
  · exact h.il o y
  · exact (h.off l y).2 rfl
  · omega
theorem Held.rec_away (h : Held c r1 ρ0 bs ms tm0 tmps l rc O I W c' env') {cA : Ctx} {envA : Env} {W1 : World} (A : Away l c' env' W cA envA W1) : ¬ ownB cA envA l := fun x => by
  have hl : l < W.heap.size := (Array.getElem?_eq_some_iff.1 h.rcd).1
  rcases A.own l x with y | y
  · exact (h.off l y).2 rfl
  · omega

/-- The record is turned, and the round goes on. -/
theorem Held.mid (h : Held c r1 ρ0 bs ms tm0 tmps l rc O I W c' env') {cA : Ctx} {envA : Env} {aA : Act} {W1 : World} (hs : St cA envA aA W1) (A : Away l c' env' W cA envA W1) (hdf : aA.defers = []) (hfix : FixAll (roundRoot bs ms ρ0 r1.fixr l c'.I (ownB c' env') W) cA.ρ cA.σ envA W1) (hys : envA.ys = none) (rc' : Loop) (hlt : l < W1.heap.size) :
    St { cA with w0 := roundRoot bs ms ρ0 r1.fixr l cA.I (ownB cA envA) (W1.putObj l (.loop rc')), I0 := cA.I, df := [] } envA aA (W1.putObj l (.loop rc')) := by
  have hil := h.il_away A
  have hrl := h.rec_away A
  have hsame : ∀ k, k ≠ l → (W1.putObj l (.loop rc')).heap[k]? = W1.heap[k]? := fun k hk => World.putObj_heap_other hk
  have hp := away_put (envA := envA) (W1 := W1) (.loop rc') hil
  have hm := hs.move (I' := cA.I) (I0' := cA.I) (w' := W1.putObj l (.loop rc')) (r' := roundRoot bs ms ρ0 r1.fixr l cA.I (ownB cA envA) (W1.putObj l (.loop rc'))) (ys' := none) (df' := []) (by simp) (fun k hk => hsame k fun e => hrl (e ▸ hk)) hp.keeps (fun _ _ x => .inl x) (fun b o x => by simpa using hs.im b o x)
    (fun k hk => ⟨fun x => x.2 hk, by simp [roundRoot]⟩)
    ⟨rfl, rfl, rfl, Nat.le_refl _, fun _ x => x.1, fun _ _ => rfl, fun _ x => (by cases x), List.nodup_nil, fun _ x => (by cases x), fun l' hl' => by
      have : l = l' := by simpa [roundRoot] using hl'
      subst this
      exact ⟨⟨by simpa using hlt, hrl⟩, _, World.putObj_heap_same hlt⟩⟩ (Keeps.refl _ _) (fun _ _ x => .inl x) rfl ⟨⟨rfl, rfl, rfl, rfl⟩, fixOf_ok.2 (fixOf_ok.1 (FixAll.world hfix fun st g hl hg => hsame g fun e => hrl (e ▸ .inr ⟨st, hl, hg⟩)))⟩
  have e1 : ({ aA with defers := [] } : Act) = aA := by rw [← hdf]
  have e2 : ({ envA with ys := none } : Env) = envA := by rw [← hys]
  have := hm.1
  rw [e1, e2] at this
  exact this

/-- The round is over. -/
theorem Held.back (h : Held c r1 ρ0 bs ms tm0 tmps l rc O I W c' env') (htm : ∀ t d, look t tm0 = some d → ∃ d0, d = dstD d0) {cB c2 : Ctx} {envB env2 : Env} {aB : Act} {W2 : World} (A : Away l c' env' W cB envB W2) (hs2 : St c2 env2 aB W2)
    (hfix : FixAll (roundRoot bs ms ρ0 r1.fixr l c'.I (ownB c' env') W) cB.ρ cB.σ envB W2) (hρ : c2.ρ = cB.ρ) (hI : c2.I = cB.I) (hbx : ∀ s, (look s env2.bx).isSome = true ↔ s ∈ bs) (hmp : ∀ s, (look s env2.mp).isSome = true ↔ s ∈ ms) (hown : ∀ k, ownB c2 env2 k → ownB cB envB k) (hbig : ∀ st, bigS ≤ st → env2.live st → envB.live st ∧ c2.σ st = cB.σ st) (rc' : Loop) :
    ItBack O I W (W2.putObj l (.loop rc')) ∧ ∃ c3, Held c r1 ρ0 bs ms tm0 tmps l rc' O I (W2.putObj l (.loop rc')) c3 { env2 with nt := tmps.size, tm := [], wt := [] } := by
  have hil := h.il_away A
  have hrl := h.rec_away A
  have B := A.trans (away_put (.loop rc') hil)
  have hl : l < W.heap.size := (Array.getElem?_eq_some_iff.1 h.rcd).1
  have hl2 : l < W2.heap.size := Nat.lt_of_lt_of_le hl A.size
  have hsame : ∀ k, k ≠ l → (W2.putObj l (.loop rc')).heap[k]? = W2.heap[k]? := fun k hk => World.putObj_heap_other hk
  refine ⟨⟨B.os, B.tape, B.output, B.size, fun k hk => B.same k (h.oo k hk).2.2.2 (h.oo k hk).2.2.1 (h.oo k hk).2.1, fun _ _ x => x, fun ad u hi hu => B.keeps.cell ad u (h.sub _ _ hi) hu, fun r es k hi hr => B.keeps.map r es k (h.sub _ _ hi) hr⟩, ?_⟩
  have h3 := hs2.tmps (tm' := []) (ts := tmps) (fun t d hd => by simp [look] at hd)
  have hm := h3.move (I' := c2.I) (I0' := c2.I) (w' := W2.putObj l (.loop rc')) (r' := Root.free (W2.putObj l (.loop rc'))) (ys' := env2.ys) (df' := []) (by simp) (fun k hk => hsame k fun e => hrl (hown l (e ▸ hk))) (by rw [hI]; exact (away_put (envA := envB) (.loop rc') hil).keeps) (fun _ _ x => .inl x) (fun b o x => by simpa using hs2.im b o x)
    (fun k _ => Root.free_off _ k) (Root.free_base _) (Keeps.refl _ _) (fun _ _ x => .inl x) rfl ⟨trivial, Root.free_fix _ _ _ _ _⟩
  obtain ⟨⟨f1, f2⟩, f3⟩ := fixOf_ok.1 hfix
  have hrho : ∀ s, s ∈ bs ∨ s ∈ ms → c2.ρ s = ρ0 s := fun s hs => by rw [hρ]; exact hs.elim (fun x => (f1 s x).2) fun x => (f2 s x).2
  have hK : Keeps c'.I c2.I W (W2.putObj l (.loop rc')) := by rw [hI]; exact B.keeps
  refine ⟨{ c2 with I := c2.I, w0 := Root.free (W2.putObj l (.loop rc')), I0 := c2.I, df := [] }, { st := hm.1, tm := fun t d hd => ?_, base := h.base.trans ⟨B.os, B.tape, B.output, B.size, fun k hk => B.same k (h.base.below_of hk) (fun x => hk (h.off k x).1) (fun e => hk (e ▸ h.rl))⟩, im0 := h.im0.trans hK, new := ?_, off := ?_, bx := hbx, mp := hmp, rho := hrho, rcd := World.putObj_heap_same hl2, rl := h.rl, il := ?_, sub := ?_, own := ?_, oo := ?_, rows := fun st o ho => ⟨(f3 st o ho).1, fun hl => ?_⟩ }⟩
  · obtain ⟨d0, rfl⟩ := htm t d hd
    refine dstD_move (c := c') (env := env') (w := W) (c' := { c2 with I := c2.I, w0 := Root.free (W2.putObj l (.loop rc')), I0 := c2.I, df := [] }) (env' := { env2 with nt := tmps.size, tm := [], wt := [] }) (w' := W2.putObj l (.loop rc')) hK (fun s x => ?_) (fun s x => ?_) (h.tm t _ hd)
    · have := (h.bx s).1 x
      exact ⟨(hbx s).2 this, (hrho s (.inl this)).trans (h.rho s (.inl this)).symm⟩
    · have := (h.mp s).1 x
      exact ⟨(hmp s).2 this, (hrho s (.inr this)).trans (h.rho s (.inr this)).symm⟩
  · intro b o x
    rcases A.new b o (by rw [← hI]; exact x) with y | y | y
    · exact h.new b o y
    · exact .inr (h.off b y).1
    · exact .inr (h.base.new y)
  · intro k x
    rcases A.own k (hown k x) with y | y
    · exact h.off k y
    · exact ⟨h.base.new y, by omega⟩
  · intro o x; exact hil o (by rw [← hI]; exact x)
  · intro b o x; show c2.I b o; rw [hI]; exact A.keeps.im b o (h.sub b o x)
  · intro b o x y
    rcases A.new b o (by rw [← hI]; exact x) with z | z | z
    · exact h.own b o z y
    · exact absurd z (h.oo b y).2.2.1
    · have := (h.oo b y).2.2.2; omega
  · intro k x
    refine ⟨(h.oo k x).1, (h.oo k x).2.1, fun y => ?_, Nat.lt_of_lt_of_le (h.oo k x).2.2.2 B.size⟩
    rcases A.own k (hown k y) with z | z
    · exact (h.oo k x).2.2.1 z
    · have := (h.oo k x).2.2.2; omega
  · obtain ⟨q1, q2⟩ := hbig st (f3 st o ho).1 hl
    have q3 := (f3 st o ho).2 q1
    show FixR _ o (c2.σ st)
    rw [q2]
    exact fixR_same (fun g hg => hsame g fun e => hrl (e ▸ .inr ⟨st, q1, hg⟩)) q3

theorem away_same {cA : Ctx} {envA : Env} {aA : Act} {W1 : World} (hs : St cA envA aA W1) {fr : Nat → Option (Option (Nat × Nat))} (hG : cA.w0.G = (roundRoot bs ms ρ0 fr l c'.I (ownB c' env') W).G) {k : Nat} (hk : k < W.heap.size) (ho : ¬ ownB c' env' k) : W1.heap[k]? = W.heap[k]? := by
  have hg := hs.gh.1
  rw [hG] at hg
  obtain ⟨_, h2, h3, h4⟩ := hg
  have := hs.base.block k (by rw [h2]; exact ⟨hk, ho⟩)
  rw [h3] at this; exact this

/-- Behind the loop. -/
theorem Held.final (h : Held c r1 ρ0 bs ms tm0 tmps l rc O I W c' env') {ys : Option (Nat × List (List D))} {df : List Deferred} (o : Obj) (hdf : df = r1.mks.map markOf ++ r1.tl) (hG : r1.G ys r1.far r1.wd c.I0) (hwd : r1.wd = c.w0.wd) (hfix : FixAll r1 c'.ρ c'.σ env' W) :
    St { c' with w0 := r1, I0 := c.I0, df := df } { env' with nt := tmps.size, tm := tm0, wt := [], ys := ys } { tmps := tmps, defers := df } (W.putObj l o) := by
  have h3 := h.st.tmps (tm' := tm0) (ts := tmps) h.tm
  have hsame : ∀ k, k ≠ l → (W.putObj l o).heap[k]? = W.heap[k]? := fun k hk => World.putObj_heap_other hk
  have hK : Keeps c'.I c'.I W (W.putObj l o) := (away_put (envA := env') o h.il).keeps
  exact (h3.move (I' := c'.I) (I0' := c.I0) (w' := W.putObj l o) (r' := r1) (ys' := ys) (df' := df) (by simp) (fun k hk => hsame k (h.off k hk).2) hK (fun _ _ x => .inl x) (fun b o x => by simpa using h.st.im b o x) (fun k hk => (h.off k hk).1)
    (h.base.trans ⟨rfl, rfl, rfl, by simp, fun k hk => hsame k fun e => hk (e ▸ h.rl)⟩) (by rw [hwd]; exact h.im0.trans hK) h.new hdf ⟨hG, FixAll.world hfix fun st g hl hg => hsame g (h.off g (.inr ⟨st, hl, hg⟩)).2⟩).1

end
end Go.Proofs.YtnooelecdbbfkaaGreatDoor.Fw
