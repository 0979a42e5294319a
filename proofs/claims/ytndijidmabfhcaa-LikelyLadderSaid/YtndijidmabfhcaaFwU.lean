/- Operations in order. -/
import Derived.Test.YtndijidmabfhcaaFwT
namespace Go.Proofs.Ytndijidmabfhcaa.Fw
open Go Go.RowKit

section
variable {P : Program} {T : Ty} {c : Ctx} {env : Env} {a : Act} {w : World} {rr : Option Nat} {n : Nat} {ops : Array Oper}

theorem gcond_sound (ok : Nat → Bool) (h : St c env a w) : ∀ (n : Nat) (g : Option (Nat × Bool)), GOK a g → gcond ok n env.wt env.tm g
  | 0, _, _ => trivial
  | _ + 1, none, _ => trivial
  | n + 1, some (s, b), hg => by
    have hb := hg s b rfl
    simp only [gcond]
    cases hok : ok s with
    | false => trivial
    | true =>
    cases hw : look s env.wt with
    | some d =>
      have hW := h.wt s d hw
      cases d <;> first | exact hW.elim | skip
      rename_i s' b' d
      have hs' : a.tmps.getD s' undef = .bool b' := by
        apply Classical.byContradiction
        intro hne
        have := hW.2 hne
        rw [hb] at this
        cases this
      refine ⟨?_, gcond_sound ok h n (some (s', b')) fun s1 b1 e => by cases e; exact hs'⟩
      have hr := hW.1 hs'
      rw [hb] at hr
      cases d <;> first | trivial | skip
      have := repT_bool hr
      injection this with this; exact this.symm
    | none =>
      simp only
      cases ht : look s env.tm with
      | none => trivial
      | some d =>
        have hr := h.tm s d ht
        rw [hb] at hr
        cases d <;> first | trivial | skip
        have := repT_bool hr
        injection this with this; exact this.symm

theorem doesP_K {g : Option (Nat × Bool)} {ρ : Operand → D} {bx : List (Nat × BoxC)} {mp : List (Nat × MapC)} {dst : Nat} {op : Op} {gc : Prop} {K : Res → Prop} (h : doesP P T g ρ bx mp dst op gc K) : ∃ r, K r := by
  unfold doesP at h
  split at h
  · split at h
    · obtain ⟨d, _, hk⟩ := h; exact ⟨_, hk⟩
    · exact h.elim
  · split at h
    · exact ⟨_, (sideB_iff.1 h).2⟩
    · exact h.elim

theorem wanted_none {o : Oper} (h : o.guard = none) (y : Nat → Option Bool) : Region.wanted o y = true := by simp [Region.wanted, h]

theorem wanted_some {o p : Oper} {j s : Nat} {b : Bool} (h : o.guard = some (j, b)) (hp : ops[j]? = some p) (hs : p.dst = some s) : Region.wanted o (yielded ops a.tmps) = true ↔ a.tmps.getD s undef = .bool b := by
  have e : a.tmps.getD s undef = (a.tmps[s]?).getD undef := by rw [Array.getD_eq_getD_getElem?]
  simp only [Region.wanted, h, yielded, hp, hs, Option.bind_some]
  rw [e]
  cases hv : a.tmps[s]? with
  | none => simp [undef]
  | some v =>
    cases v <;> simp

theorem memR_plain {dst : Nat} {r : Res} (h : r.plain = true) : memR env dst r = some (env, r.d) := by
  obtain ⟨side, d, bx, mp, fz, fm, kill, own⟩ := r
  simp only [Res.plain, Bool.and_eq_true, Option.isNone_iff_eq_none, List.isEmpty_iff] at h
  obtain ⟨⟨⟨⟨rfl, rfl⟩, rfl⟩, rfl⟩, rfl⟩ := h
  simp [memR, frzM, frzB]

theorem gslot_spec {o : Oper} {g : Option (Nat × Bool)} (h : gslot ops o = some g) : (o.guard = none ∧ g = none) ∨ ∃ j b p s, o.guard = some (j, b) ∧ ops[j]? = some p ∧ p.dst = some s ∧ g = some (s, b) := by
  unfold gslot at h
  cases hg : o.guard with
  | none => rw [hg] at h; simp only [Option.some.injEq] at h; exact .inl ⟨rfl, h.symm⟩
  | some q =>
    obtain ⟨j, b⟩ := q
    rw [hg] at h
    simp only at h
    cases hp : ops[j]? with
    | none => rw [hp] at h; cases h
    | some p =>
      rw [hp] at h
      simp only at h
      cases hs : p.dst with
      | none => rw [hs] at h; cases h
      | some s => rw [hs] at h; simp only [Option.some.injEq] at h; exact .inr ⟨j, b, p, s, rfl, hp, hs, h.symm⟩

/-- A value operation in its place. -/
theorem value_sound (hT : TyOK P T) (h : St c env a w) {ρ : Operand → D} (hρ : ∀ x, RepX c env w a.tmps (ρ x) (a.eval x)) {bx0 : List (Nat × BoxC)} (hbx : ∀ s b, look s bx0 = some b → look s env.bx = some b) {i : Nat} {o : Oper} (ho : ops[i]? = some o) {dst : Nat} (hdst : o.dst = some dst) {g : Option (Nat × Bool)} (hg : gslot ops o = some g) {K0 : Res → Prop} {gc : Prop} (hgc : GOK a g → gc)
    (hd : doesP P T g ρ bx0 env.mp dst o.op gc K0) {K : Act → World → Prop} {Q : Exit → Act → World → Prop}
    (hK : ∀ r env' c' a' w', K0 r → memG env dst g r = some env' → c.Next c' → St c' env' a' w' → K a' w') (hK0 : ∀ r, K0 r → ∃ env', memG env dst g r = some env') : wpOpIn (Fr rr) n P ops Q i K a w := by
  unfold wpOpIn
  simp only [ho]
  rcases gslot_spec hg with ⟨hgd, rfl⟩ | ⟨j, b, p, s, hgd, hp, hs, rfl⟩
  · rw [if_pos (wanted_none hgd _)]
    have hG : GOK a none := fun s b e => by cases e
    obtain ⟨r, hr, hk⟩ := does_sound (rr := rr) (n := n) hT h hG hρ hbx hdst (hgc hG) hd
    obtain ⟨env', he⟩ := hK0 r hr
    have hm := he
    simp only [memG] at hm
    cases hmr : memR env dst r with
    | none => rw [hmr] at hm; cases hm
    | some q =>
      obtain ⟨env1, d⟩ := q
      rw [hmr] at hm
      exact hk env1 d hmr K Q fun v w' c' h1 h2 h3 => hK r env' c' _ w' hr he h1 (h2.put h3 hm)
  · have hw := wanted_some (a := a) hgd hp hs
    by_cases hb : Region.wanted o (yielded ops a.tmps) = true
    · rw [if_pos hb]
      have hv := hw.1 hb
      have hG : GOK a (some (s, b)) := fun s' b' e => by cases e; exact hv
      obtain ⟨r, hr, hk⟩ := does_sound (rr := rr) (n := n) hT h hG hρ hbx hdst (hgc hG) hd
      obtain ⟨env', he⟩ := hK0 r hr
      have hm := he
      simp only [memG] at hm
      cases hpl : r.plain with
      | false => rw [hpl] at hm; cases hm
      | true =>
        rw [hpl, cond_true] at hm
        exact hk env r.d (memR_plain hpl) K Q fun v w' c' h1 h2 h3 => hK r env' c' _ w' hr he h1 (h2.putW (fun _ => h3) (fun hne => absurd hv hne) hm)
    · rw [if_neg hb]
      refine ⟨fun _ _ => trivial, ?_⟩
      obtain ⟨r, hr⟩ := doesP_K hd
      obtain ⟨env', he⟩ := hK0 r hr
      have hm := he
      simp only [memG] at hm
      cases hpl : r.plain with
      | false => rw [hpl] at hm; cases hm
      | true =>
        rw [hpl, cond_true] at hm
        have hne : a.tmps.getD s undef ≠ .bool b := fun e => hb (hw.2 e)
        rw [hdst]
        exact hK r env' c _ w hr he (.refl c) (h.putW (fun e => absurd e hne) (fun _ => rfl) hm)

/-- A yield. -/
theorem yield_sound (h : St c env a w) (hG : GYield P c.w0) {o : Oper} {l : Nat} {ds : List D} (hy : yldOf env o.op = some (l, ds)) {rest : List (List D)} (hys : env.ys = some (l, ds :: rest)) {dst : Nat} (hdst : o.dst = some dst) {K : Act → World → Prop} {Q : Exit → Act → World → Prop}
    (ht : ∃ env', memG { env with ys := some (l, rest) } dst none { d := .bool true } = some env' ∧ ∀ c' a' w', c.Grow c' → St c' env' a' w' → K a' w')
    (hf : ∃ env', memG { env with ys := none } dst none { d := .bool false } = some env' ∧ ∀ c' a' w', c.Grow c' → St c' env' a' w' → K a' w') : o.wpIn (Fr rr) n P a w K Q := by
  obtain ⟨odst, op, ty, pos, after, guard⟩ := o
  have hdst : odst = some dst := hdst
  subst hdst
  unfold yldOf at hy
  cases hcf : callOf op with
  | none => simp only at hy; rw [hcf] at hy; cases hy
  | some cl0 =>
  simp only at hy
  rw [hcf] at hy
  unfold callOf at hcf
  cases op <;> (try simp only at hcf) <;> first | (cases hcf; done) | skip
  rename_i cl
  obtain ⟨callee, args, argTypes⟩ := cl
  cases callee <;> (try simp only at hcf) <;> first | (cases hcf; done) | skip
  rename_i f
  simp only [Option.some.injEq] at hcf
  subst hcf
  simp only at hy
  have hv : ∀ x, RepT c env w (unw none (tv env.wt env.tm x)) (a.eval x) := fun x => rep_tv h (fun s b e => by cases e) x
  have hfv := hv f
  cases hfd : unw none (tv env.wt env.tm f) <;> rw [hfd] at hy hfv <;> (try simp only at hy) <;> first | (cases hy; done) | skip
  rename_i l'
  split at hy
  case h_2 => cases hy
  rename_i ds' hcl hcm
  simp only [Option.some.injEq, Prod.mk.injEq] at hy
  obtain ⟨rfl, rfl⟩ := hy
  have hfv : a.eval f = .func (.yield l') #[] #[] := by simpa [RepT, RepV, RepC, Rep] using hfv
  have hargs : All2 (RepT c env w) (args.toList.map fun x => unw none (tv env.wt env.tm x)) (args.toList.map a.eval) := all2_map hv args.toList
  obtain ⟨g1, g2⟩ := clo_vals h hargs hcl (fun x hx s hs m hl => by
    have : s ∈ (args.toList.map fun x => unw none (tv env.wt env.tm x)).flatMap cloM := List.mem_flatMap.2 ⟨x, hx, hs⟩
    rw [hcm] at this; cases this)
  let own : Nat → Prop := fun k => ownB c env k ∨ k ∈ c.w0.mks
  have hownlt : ∀ k, own k → k < w.heap.size ∧ ¬ c.w0.far k := by
    rintro k (hk | hk)
    · exact ⟨ownB_lt h hk, (ownB_off h hk).1⟩
    · exact ⟨(Array.getElem?_eq_some_iff.1 (h.base.marks k hk)).1, h.base.disj k hk⟩
  obtain ⟨fn, tmps, assign, body, hrun, hR⟩ := hG.2 l' ds' rest c.w0.far c.w0.wd c.I0 c.I w own (args.toList.map a.eval) (n - 1) (by rw [← hys]; exact h.gh.1) h.base.os h.base.tape h.base.output h.base.grow h.base.block h.im0 (fun b o hi => (h.imNew b o hi).imp id fun x => x.1) h.im hownlt (all2_repL.2 g1) g2
  have hexec : (execOp a.eval { dst := some dst, op := .call ⟨.value f, args, argTypes⟩, type := ty, pos, after, guard }).run P w = .ok (.round l' fn tmps assign body) w := by
    have e1 : args.map a.eval = ⟨args.toList.map a.eval⟩ := by apply Array.ext'; simp
    simp only [execOp, resolve, hfv, Deferred.ofValue, Sem.run_bind, Sem.run_pure, Result.andThen_ok, invoke]
    rw [e1]; simpa using hrun
  refine ⟨fun _ _ => trivial, ?_⟩
  rw [Oper.semAt_eq _ _ _ (by intro c e; cases e), hexec, Oper.uponIn_round]
  refine ⟨fun h => (by cases h), ?_⟩
  refine (show RoundIn (Fr rr) (n - 1) P l' fn tmps assign body w _ ↔ RoundIn Fence.wide (n - 1) P l' fn tmps assign body w _ from Iff.rfl).2 (hR.mono ?_)
  rintro e w' ⟨hback, he⟩
  have hlpn : c.w0.lp = none := hG.1.resolve_right fun x => by have := x _ _ _ _ h.gh.1; rw [hys] at this; cases this
  have hmv : ∀ ys', c.w0.G ys' (fun k => k < w'.heap.size ∧ ¬ own k) w' c.I → ∃ c', c.Grow c' ∧ St c' { env with ys := ys' } a w' := by
    intro ys' hg
    have hm := (h.move (I' := c.I) (I0' := c.I) (w' := w') (r' := { c.w0 with wd := w', far := fun k => k < w'.heap.size ∧ ¬ own k }) (ys' := ys') (df' := c.df) hback.size (fun k hk => hback.same k (.inl hk)) hback.keeps (fun _ _ x => .inl x)
      (fun b o hi => Nat.lt_of_lt_of_le (h.im b o hi) hback.size) (fun k hk => ⟨fun x => x.2 (.inl hk), (ownB_off h hk).2⟩)
      ⟨rfl, rfl, rfl, Nat.le_refl _, fun _ x => x.1, fun _ _ => rfl, fun k hk => (hback.same k (.inr hk)).trans (h.base.marks k hk), h.base.nodup, fun k hk x => x.2 (.inr hk), fun l hl => by rw [show c.w0.lp = some l from hl] at hlpn; cases hlpn⟩
      (Keeps.refl _ _) (fun _ _ x => .inl x) h.df.2 ⟨hg, h.gh.2⟩).1
    have ea : ({ a with defers := c.df } : Act) = a := by rw [← h.df.1]
    rw [ea] at hm
    refine ⟨_, ?_, hm⟩
    exact ⟨rfl, rfl, rfl, fun _ => rfl⟩
  have hput : ∀ (ys' : Option (Nat × List (List D))) (b : Bool) (env' : Env) c', St c' { env with ys := ys' } a w' → memG { env with ys := ys' } dst none { d := .bool b } = some env' → St c' env' (a.put (some dst) (.bool b)) w' := by
    intro ys' b env' c' hs hm
    simp only [memG] at hm
    rw [memR_plain rfl] at hm
    exact hs.put (by simp [RepT, RepV, RepC, Rep]) hm
  rcases he with ⟨rfl, hg⟩ | ⟨rfl, hg⟩
  · obtain ⟨env', hm, hk⟩ := ht
    obtain ⟨c', hgr, hs⟩ := hmv _ hg
    exact hk c' _ w' hgr (hput _ _ _ _ hs hm)
  · obtain ⟨env', hm, hk⟩ := hf
    obtain ⟨c', hgr, hs⟩ := hmv _ hg
    exact hk c' _ w' hgr (hput _ _ _ _ hs hm)

theorem evOp_sound (hT : TyOK P T) (h : St c env a w) (hG : GYield P c.w0) {i : Nat} {o : Oper} (ho : ops[i]? = some o) {K0 : Env → Prop} (hd : evOp P T ops o env K0) {K : Act → World → Prop} {Q : Exit → Act → World → Prop}
    (hK : ∀ env' c' a' w', K0 env' → c.Grow c' → St c' env' a' w' → K a' w') : wpOpIn (Fr rr) n P ops Q i K a w := by
  unfold evOp at hd
  cases hg : gslot ops o with
  | none => rw [hg] at hd; exact hd.elim
  | some g =>
    rw [hg] at hd
    simp only at hd
    have hval : (match o.dst with
        | some dst => doesP P T g (tv env.wt env.tm) env.bx env.mp dst o.op (gcond (fun _ => true) 8 env.wt env.tm g) fun r => match memG env dst g r with
          | some env' => K0 env'
          | none => False
        | none => False) → wpOpIn (Fr rr) n P ops Q i K a w := by
      intro hd
      cases hdst : o.dst with
      | none => rw [hdst] at hd; exact hd.elim
      | some dst =>
        rw [hdst] at hd
        refine value_sound hT h (rep_tvX h) (fun _ _ h => h) ho hdst hg (gcond_sound _ h 8 g) hd (fun r env' c' a' w' hr he h1 h2 => ?_) (fun r hr => ?_)
        · rw [he] at hr; exact hK env' c' a' w' hr h1.grow h2
        · cases he : memG env dst g r with
          | none => rw [he] at hr; exact hr.elim
          | some env' => exact ⟨env', rfl⟩
    have hskip : ∀ {w' : World} {env' : Env}, g = none → o.dst = none → (∀ c, o.op ≠ .defer c) → (execOp a.eval o).run P w = .ok .skip w' → St c env' a w' → K0 env' → wpOpIn (Fr rr) n P ops Q i K a w := by
      intro w' env' e1 e2 hnd hrun hst hk
      subst e1
      unfold wpOpIn
      simp only [ho]
      rcases gslot_spec hg with ⟨hgd, _⟩ | ⟨j, b, p, s, _, _, _, e⟩
      · rw [if_pos (wanted_none hgd _)]
        refine wpIn_of_skip hnd hrun ?_
        rw [e2]
        exact hK env' c a w' hk (.refl c) hst
      · cases e
    have hv : ∀ x, RepT c env w (unw none (tv env.wt env.tm x)) (a.eval x) := fun x => rep_tv h (fun s b e => by cases e) x
    split at hd
    · rename_i t ad x hop
      cases hgn : g with
      | some _ => rw [hgn] at hd; exact hd.elim
      | none =>
        cases hdst : o.dst with
        | some _ => rw [hgn, hdst] at hd; exact hd.elim
        | none =>
          rw [hgn, hdst] at hd
          simp only at hd
          cases hs : storeR T env t (unw none (tv env.wt env.tm ad)) (unw none (tv env.wt env.tm x)) with
          | none => rw [hs] at hd; exact hd.elim
          | some env' =>
            rw [hs] at hd
            obtain ⟨w', h1, h2⟩ := h.store hT (hv ad) (hv x) hs
            exact hskip hgn hdst (by rw [hop]; intro c e; cases e) (by simp [execOp, hop, h1]) h2 hd
    · rename_i t m k x hop
      cases hgn : g with
      | some _ => rw [hgn] at hd; exact hd.elim
      | none =>
        cases hdst : o.dst with
        | some _ => rw [hgn, hdst] at hd; exact hd.elim
        | none =>
          rw [hgn, hdst] at hd
          simp only [fD_iff] at hd
          cases hs : mapUpR T env t (unw none (tv env.wt env.tm m)) (unw none (tv env.wt env.tm k)) (unw none (tv env.wt env.tm x)) with
          | none => rw [hs] at hd; exact hd.elim
          | some q =>
            obtain ⟨sd, env'⟩ := q
            rw [hs] at hd
            obtain ⟨rfl, hd⟩ := hd
            obtain ⟨w', h1, h2⟩ := h.mapUp hT (hv m) (hv k) (hv x) hs
            exact hskip hgn hdst (by rw [hop]; intro c e; cases e) (by simp [execOp, hop, h1]) h2 hd
    · cases hdst : o.dst with
      | none => rw [hdst] at hd; exact hd.elim
      | some dst =>
        rw [hdst] at hd
        simp only at hd
        cases hy : yldOf env o.op with
        | none =>
          rw [hy] at hd
          refine hval ?_
          rw [hdst]; exact doesF_iff.1 hd
        | some ld =>
          obtain ⟨l, ds⟩ := ld
          rw [hy] at hd
          simp only at hd
          cases hgn : g with
          | some _ => rw [hgn] at hd; exact hd.elim
          | none =>
            rw [hgn] at hd
            cases hys : env.ys with
            | none => rw [hys] at hd; exact hd.elim
            | some lx =>
              obtain ⟨l', xs⟩ := lx
              cases xs with
              | nil => rw [hys] at hd; exact hd.elim
              | cons x rest =>
                rw [hys] at hd
                simp only at hd
                obtain ⟨⟨rfl, rfl⟩, h1, h2⟩ := hd
                subst hgn
                unfold wpOpIn
                simp only [ho]
                rcases gslot_spec hg with ⟨hgd, _⟩ | ⟨j, b, p, s, _, _, _, e⟩
                · rw [if_pos (wanted_none hgd _)]
                  refine yield_sound h hG hy hys hdst ?_ ?_
                  · cases hm : memG { env with ys := some (l, rest) } dst none { d := .bool true } with
                    | none => rw [hm] at h1; exact h1.elim
                    | some env' => rw [hm] at h1; exact ⟨env', rfl, fun c' a' w' hgr hs => hK env' c' a' w' h1 hgr hs⟩
                  · cases hm : memG { env with ys := none } dst none { d := .bool false } with
                    | none => rw [hm] at h2; exact h2.elim
                    | some env' => rw [hm] at h2; exact ⟨env', rfl, fun c' a' w' hgr hs => hK env' c' a' w' h2 hgr hs⟩
                · cases e

theorem St.end (h : St c env a w) : St c env.end a w := h.endRegion

theorem evOps_sound (hT : TyOK P T) {K0 : Env → Prop} {Q : Exit → Act → World → Prop} : ∀ {os : List Oper} {is : List Nat} {env : Env} {c : Ctx} {a : Act} {w : World}, All2 (fun o i => ops[i]? = some o) os is → St c env a w → GYield P c.w0 → evOps P T ops os env K0 →
    (∀ env' c' a' w', K0 env' → c.Grow c' → St c' env' a' w' → Q .normal a' w') → wpOpsIn (Fr rr) n P ops Q is a w
  | [], [], env, c, a, w, _, h, _, hd, hK => hK _ c a w ((fE_iff _ _).1 hd) (.refl c) h.end
  | o :: os, i :: is, env, c, a, w, hi, h, hG, hd, hK => by
    rw [wpOpsIn_cons]
    refine evOp_sound hT h hG hi.1 hd fun env' c' a' w' hk hn hst => ?_
    exact evOps_sound hT hi.2 hst (hG.grow hn) ((fE1_iff _ _).1 hk) fun e2 c2 a2 w2 k2 n2 s2 => hK e2 c2 a2 w2 k2 (hn.trans n2) s2
  | [], _ :: _, _, _, _, _, hi, _, _, _, _ => hi.elim
  | _ :: _, [], _, _, _, _, hi, _, _, _, _ => hi.elim
end

end Go.Proofs.Ytndijidmabfhcaa.Fw
