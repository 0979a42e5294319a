/- Operations and calls, as steps of a function's code. -/
import Derived.Test.YtndijidmabfhcaaFwS
import Derived.OrdersIn
namespace Go.Proofs.Ytndijidmabfhcaa.Fw
open Go Go.RowKit

/-- No fence, but what kind of frame it is. -/
def Fr (r : Option Nat) : Fence := { Fence.wide with round := r }

theorem fr_calls {r : Option Nat} {n : Nat} {P : Program} {f : FuncId} {args : Array Value} {w : World} {R : Ending → World → Prop} : CallsIn (Fr r) n P f args w R ↔ Calls P f args w R :=
  (show CallsIn (Fr r) n P f args w R ↔ CallsIn Fence.wide n P f args w R from Iff.rfl).trans callsIn_wide

section
variable {P : Program} {T : Ty} {c : Ctx} {env : Env} {a : Act} {w : World} {rr : Option Nat} {n : Nat}

theorem wpIn_of_run {o : Oper} (hd : ∀ c, o.op ≠ .defer c) {v : Value} {w' : World} (h : (execOp a.eval o).run P w = .ok (.value v) w') {K : Act → World → Prop} {Q : Exit → Act → World → Prop} (hk : K (a.put o.dst v) w') : o.wpIn (Fr rr) n P a w K Q :=
  ⟨fun _ _ => trivial, by rw [Oper.semAt_eq _ _ _ hd, h]; exact hk⟩

theorem wpIn_of_skip {o : Oper} (hd : ∀ c, o.op ≠ .defer c) {w' : World} (h : (execOp a.eval o).run P w = .ok .skip w') {K : Act → World → Prop} {Q : Exit → Act → World → Prop} (hk : K (a.put o.dst undef) w') : o.wpIn (Fr rr) n P a w K Q :=
  ⟨fun _ _ => trivial, by rw [Oper.semAt_eq _ _ _ hd, h]; exact hk⟩

/-- A call that changes nothing of what there was. -/
theorem St.call (h : St c env a w) {I' : Im} {w' : World} (him : ∀ b o, c.I b o → I' b o) (hnew : ∀ b o, I' b o → c.I b o ∨ w.heap.size ≤ b) (hlt : ∀ b o, I' b o → b < w'.heap.size) (hb : Below w.heap.size w w') :
    St { c with I := I' } env a w' ∧ Step c env w { c with I := I' } env w' := by
  have hh : ∀ k, k < w.heap.size → w'.heap[k]? = w.heap[k]? := hb.block
  have hI : ∀ g, g < w.heap.size → ∀ o, I' g o → c.I g o := fun g hg o ho => (hnew g o ho).resolve_right (by omega)
  have S : Step c env w { c with I := I' } env w' :=
    ⟨⟨him, fun x u hi hu => (World.cell?_of_block (hh _ (h.im _ _ hi))).trans hu, fun r es k hi hr => (hh _ (h.im _ _ hi)).trans hr⟩, fun _ h => ⟨h, rfl⟩, fun _ h => ⟨h, rfl⟩, fun _ _ h => h, fun _ h => h,
      fun st hl _ => ⟨rfl, fun g hg => ⟨hh g (h.ownAbove st g hl hg).2.1, hI g (h.ownAbove st g hl hg).2.1⟩⟩⟩
  refine ⟨⟨h.nt, h.df, fun t d hd => S.repT (h.tm t d hd), fun t d hd => (h.wt t d hd).step S, fun s b hs => ?_, fun s m hs => ?_, h.inj, h.above, fun s hs => Nat.lt_of_lt_of_le (h.lt s hs) hb.size, h.ownInj,
    fun st g hl hg => ⟨(h.ownAbove st g hl hg).1, Nat.lt_of_lt_of_le (h.ownAbove st g hl hg).2.1 hb.size, (h.ownAbove st g hl hg).2.2⟩, hlt, h.im0.trans S.keeps, fun b o hi => ?_, h.base.below hb, h.gh⟩, S⟩
  · have hl := h.lt s (.inl (by rw [hs]; rfl))
    exact (h.bx s b hs).step S rfl (hh _ hl) (hI _ hl)
  · have hl := h.lt s (.inr (by rw [hs]; rfl))
    exact (h.mp s m hs).step S rfl (hh _ hl) (hI _ hl)
  · rcases hnew b o hi with hi | hi
    · exact h.imNew b o hi
    · exact .inr (h.base.new hi)

/-- The blocks that a state has for its own. -/
def ownB (c : Ctx) (env : Env) (k : Nat) : Prop := (∃ s, env.blk s ∧ c.ρ s = k) ∨ ∃ st, env.live st ∧ c.σ st = some k

/-- The world moves on, elsewhere; what is known of it is laid down anew. -/
theorem St.move (h : St c env a w) {I' I0' : Im} {w' : World} {r' : Root} {ys' : Option (Nat × List (List D))} {df' : List Deferred} (hsz : w.heap.size ≤ w'.heap.size) (hsame : ∀ k, ownB c env k → w'.heap[k]? = w.heap[k]?) (hK : Keeps c.I I' w w')
    (hI : ∀ b o, I' b o → c.I b o ∨ ¬ ownB c env b) (hlt : ∀ b o, I' b o → b < w'.heap.size) (hoff : ∀ k, ownB c env k → r'.off k) (hbase : BaseF r' w') (him0 : Keeps I0' I' r'.wd w') (hnew : ∀ b o, I' b o → I0' b o ∨ r'.off b)
    (hdf : df' = r'.mks.map markOf) (hgh : r'.G ys' r'.far r'.wd I0' ∧ FixAll r' c.ρ env) :
    St { c with I := I', w0 := r', I0 := I0', df := df' } { env with ys := ys' } { a with defers := df' } w' ∧ Step c env w { c with I := I', w0 := r', I0 := I0', df := df' } { env with ys := ys' } w' := by
  have S : Step c env w { c with I := I', w0 := r', I0 := I0', df := df' } { env with ys := ys' } w' :=
    ⟨hK, fun _ h => ⟨h, rfl⟩, fun _ h => ⟨h, rfl⟩, fun _ _ h => h, fun _ h => h, fun st hl _ => ⟨rfl, fun g hg => ⟨hsame g (.inr ⟨st, hl, hg⟩), fun o ho => (hI g o ho).resolve_right fun hn => hn (.inr ⟨st, hl, hg⟩)⟩⟩⟩
  refine ⟨⟨h.nt, ⟨rfl, hdf⟩, fun t d hd => S.repT (h.tm t d hd), fun t d hd => (h.wt t d hd).step S, fun s b hs => ?_, fun s m hs => ?_, h.inj, fun s hs => hoff _ (.inl ⟨s, hs, rfl⟩), fun s hs => Nat.lt_of_lt_of_le (h.lt s hs) hsz, h.ownInj,
    fun st g hl hg => ⟨hoff _ (.inr ⟨st, hl, hg⟩), Nat.lt_of_lt_of_le (h.ownAbove st g hl hg).2.1 hsz, (h.ownAbove st g hl hg).2.2⟩, hlt, him0, hnew, hbase, hgh⟩, S⟩
  · have hb : ownB c env (c.ρ s) := .inl ⟨s, .inl (by rw [show look s env.bx = some b from hs]; rfl), rfl⟩
    exact (h.bx s b hs).step S rfl (hsame _ hb) fun o ho => (hI _ o ho).resolve_right fun hn => hn hb
  · have hb : ownB c env (c.ρ s) := .inl ⟨s, .inr (by rw [show look s env.mp = some m from hs]; rfl), rfl⟩
    exact (h.mp s m hs).step S rfl (hsame _ hb) fun o ho => (hI _ o ho).resolve_right fun hn => hn hb

/-- A context behind code that may have yielded. -/
structure Ctx.Grow (c c' : Ctx) : Prop where
  G : c'.w0.G = c.w0.G
  lp : c'.w0.lp = c.w0.lp
  fix : c'.w0.fix = c.w0.fix
  mks : c.w0.lp.isSome = true → c'.w0.mks = c.w0.mks
theorem Ctx.Grow.refl (c : Ctx) : c.Grow c := ⟨rfl, rfl, rfl, fun _ => rfl⟩
theorem Ctx.Grow.trans {c c' c'' : Ctx} (h : c.Grow c') (k : c'.Grow c'') : c.Grow c'' := ⟨k.G.trans h.G, k.lp.trans h.lp, k.fix.trans h.fix, fun x => (k.mks (by rw [h.lp]; exact x)).trans (h.mks x)⟩
theorem Ctx.Next.grow {c c' : Ctx} (h : c.Next c') : c.Grow c' := ⟨by rw [h.w0], by rw [h.w0], by rw [h.w0], fun _ => by rw [h.w0]⟩

/-- What a yield does to what is known. -/
def GYield (P : Program) (r : Root) : Prop :=
  (r.lp = none ∨ ∀ ys far wd I0, r.G ys far wd I0 → ys = none) ∧
  ∀ (l : Nat) (x : List D) (rest : List (List D)) (far : Nat → Prop) (wd : World) (I0 I : Im) (W : World) (own : Nat → Prop) (vs : List Value) (n : Nat),
    r.G (some (l, x :: rest)) far wd I0 → W.os = wd.os → W.tape = wd.tape → W.output = wd.output → wd.heap.size ≤ W.heap.size → (∀ k, far k → W.heap[k]? = wd.heap[k]?) →
    Keeps I0 I wd W → (∀ b o, I b o → I0 b o ∨ ¬ far b) → (∀ b o, I b o → b < W.heap.size) → (∀ k, own k → k < W.heap.size ∧ ¬ far k) → RepL I W x vs → x.all D.isVal = true →
    YieldAt Fence.wide n P l ⟨vs⟩ W fun e W' => ItBack own I W W' ∧ ((e = .returned (.bool true) ∧ r.G (some (l, rest)) (fun k => k < W'.heap.size ∧ ¬ own k) W' I) ∨ (e = .returned (.bool false) ∧ r.G none (fun k => k < W'.heap.size ∧ ¬ own k) W' I))
theorem GYield.grow {c c' : Ctx} (h : GYield P c.w0) (k : c.Grow c') : GYield P c'.w0 := by
  unfold GYield at h ⊢
  rw [k.G, k.lp]; exact h

theorem ownB_lt (h : St c env a w) {k : Nat} (hk : ownB c env k) : k < w.heap.size := by
  rcases hk with ⟨s, hs, rfl⟩ | ⟨st, hl, hg⟩
  · exact h.lt s hs
  · exact (h.ownAbove st k hl hg).2.1
theorem ownB_off (h : St c env a w) {k : Nat} (hk : ownB c env k) : c.w0.off k := by
  rcases hk with ⟨s, hs, rfl⟩ | ⟨st, hl, hg⟩
  · exact h.above s hs
  · exact (h.ownAbove st k hl hg).1

theorem clo_vals (h : St c env a w) {mp : List (Nat × MapC)} : ∀ {ds ds' : List D} {vs : List Value}, All2 (RepT c env w) ds vs → cloL mp ds = some ds' → (∀ d ∈ ds, ∀ s ∈ cloM d, ∀ m, look s mp = some m → ∃ m', look s env.mp = some m' ∧ m'.ks = m.ks ∧ m'.vs = m.vs ∧ m'.frozen = true) →
    All2 (Rep c.I w) ds' vs ∧ ds'.all D.isVal = true
  | [], ds', vs, hr, hc, _ => by simp only [cloL, Option.some.injEq] at hc; subst hc; cases vs <;> first | exact ⟨trivial, rfl⟩ | exact hr.elim
  | d :: ds, ds', [], hr, _, _ => hr.elim
  | d :: ds, ds', v :: vs, hr, hc, hm => by
    simp only [cloL] at hc
    cases h1 : clo mp d with
    | none => rw [h1] at hc; cases hc
    | some d' =>
      cases h2 : cloL mp ds with
      | none => rw [h1, h2] at hc; cases hc
      | some es =>
        rw [h1, h2] at hc
        simp only [Option.some.injEq] at hc; subst hc
        have hv : RepV c env w d v := by
          have := hr.1
          cases d <;> first | exact this | (simp only [clo] at h1; cases h1)
        obtain ⟨i1, i2⟩ := clo_val h hv h1 (fun s hs => hm d (by simp) s hs)
        obtain ⟨i3, i4⟩ := clo_vals h hr.2 h2 (fun x hx => hm x (by simp [hx]))
        exact ⟨⟨i1, i3⟩, by simp [i2, i4]⟩

theorem not_defer_opV {v : Operand → D} {pk : Operand → Bool → Operand → D} {bx : List (Nat × BoxC)} {mp : List (Nat × MapC)} {dst : Nat} {op : Op} {r : Res} (h : opV T v pk bx mp dst op = some r) : ∀ c, op ≠ .defer c := by
  intro c e; subst e; simp [opV] at h

/-- A value operation, or a call: what comes of it. -/
theorem does_sound (hT : TyOK P T) (h : St c env a w) {g : Option (Nat × Bool)} (hg : GOK a g) {ρ : Operand → D} (hρ : ∀ x, RepX c env w a.tmps (ρ x) (a.eval x)) {bx0 : List (Nat × BoxC)} (hbx : ∀ s b, look s bx0 = some b → look s env.bx = some b) {o : Oper} {dst : Nat} (hdst : o.dst = some dst) {gc : Prop} (hgc : gc) {K0 : Res → Prop} (hd : doesP P T g ρ bx0 env.mp dst o.op gc K0) :
    ∃ r, K0 r ∧ ∀ env1 d, memR env dst r = some (env1, d) → ∀ (K : Act → World → Prop) (Q : Exit → Act → World → Prop), (∀ v w' c', c.Next c' → St c' env1 a w' → RepT c' env1 w' d v → K (a.put (some dst) v) w') → o.wpIn (Fr rr) n P a w K Q := by
  unfold doesP at hd
  cases hcf : callOf o.op with
  | none =>
    rw [hcf] at hd
    simp only at hd
    cases hr : opR T g ρ bx0 env.mp dst o.op with
    | none => rw [hr] at hd; exact hd.elim
    | some r =>
    rw [hr] at hd
    obtain ⟨hs, hk⟩ := sideB_iff.1 hd
    refine ⟨r, hk, fun env1 d hm K Q hK => ?_⟩
    obtain ⟨v, w', c', h1, h2, h3, h4⟩ := opR_sound hT h hg hρ hbx hr (hs hgc) hm
    exact wpIn_of_run (not_defer_opV hr) h1 (by rw [hdst]; exact hK v w' c' h2 h3 h4)
  | some cl0 =>
    rw [hcf] at hd
    obtain ⟨odst, op, ty, pos, after, guard⟩ := o
    unfold callOf at hcf
    simp only at hcf
    cases op <;> (try simp only at hcf) <;> first | (cases hcf; done) | skip
    rename_i cl
    obtain ⟨callee, args, argTypes⟩ := cl
    cases callee <;> (try simp only at hcf) <;> first | (cases hcf; done) | skip
    rename_i f
    simp only [Option.some.injEq] at hcf
    subst hcf
    simp only [callD] at hd
    have hv : ∀ x, RepT c env w (unw g (ρ x)) (a.eval x) := fun x => repX_unw hg (hρ x)
    have hf := hv f
    cases hfd : unw g (ρ f) <;> rw [hfd] at hd hf <;> (try simp only at hd) <;> first | exact hd.elim | skip
    rename_i fid caps
    simp only [RepT, RepV, RepC, Rep] at hf
    obtain ⟨cvs, hfv, hcaps⟩ := hf
    cases hcl : cloL env.mp (args.toList.map fun x => unw g (ρ x)) with
    | none => rw [hcl] at hd; exact hd.elim
    | some ds =>
      rw [hcl] at hd
      obtain ⟨d, hcall, hk⟩ := hd
      obtain ⟨⟨fn, hfn, hname, hbody⟩, hcall⟩ := hcall hgc
      refine ⟨_, hk, fun env1 d1 hm K Q hK => ?_⟩
      simp only [memR, frzB] at hm
      cases hfz : frzM env.mp ((args.toList.map fun x => unw g (ρ x)).flatMap cloM) with
      | none => rw [hfz] at hm; cases hm
      | some mp =>
        rw [hfz] at hm
        simp only [Option.some.injEq, Prod.mk.injEq] at hm
        obtain ⟨rfl, rfl⟩ := hm
        obtain ⟨c1, n1, h1, S1, hm1⟩ := h.frzM hfz
        have hargs : All2 (RepT c env w) (args.toList.map fun x => unw g (ρ x)) (args.toList.map a.eval) := all2_map hv args.toList
        obtain ⟨g1, _⟩ := clo_vals h1 (hargs.mono fun _ _ => S1.repT) hcl (fun x hx s hs m hl => by
          obtain ⟨m', k1, k2, k3, k4⟩ := hm1 s m hl
          exact ⟨m', k1, k2, k3, k4 (.inr (List.mem_flatMap.2 ⟨x, hx, hs⟩))⟩)
        have hall : RepL c1.I w (ds ++ caps) (args.toList.map a.eval ++ cvs) := all2_repL.2 (g1.append (all2_repL.1 (RepL.keeps S1.keeps _ _ hcaps)))
        have hC := hcall c1.I w _ h1.im hall
        have hrun : (execOp a.eval { dst := odst, op := .call ⟨.value f, args, argTypes⟩, type := ty, pos, after, guard }).run P w = .ok (.enter fid ⟨args.toList.map a.eval ++ cvs⟩) w := by
          have e1 : args.map a.eval ++ (⟨cvs⟩ : Array Value) = ⟨args.toList.map a.eval ++ cvs⟩ := by apply Array.ext'; simp
          simp only [execOp, resolve, hfv, Deferred.ofValue, Sem.run_bind, Sem.run_pure, Result.andThen_ok, invoke, callFunc]
          rw [← e1]
          have hb : fn.body ≠ none := fun e => by rw [e] at hbody; cases hbody
          simp [hfn, hname, hb]
        refine ⟨fun _ _ => trivial, ?_⟩
        rw [Oper.semAt_eq _ _ _ (by intro c e; cases e), hrun]
        refine ⟨fun h => (by cases h), fr_calls.2 (Calls.mono hC fun e w' he => ?_)⟩
        obtain ⟨v, I', rfl, k1, k2, k3, k4, k5⟩ := he
        obtain ⟨h2, S2⟩ := h1.call k1 k2 k3 k5
        have hdst : odst = some dst := hdst
        subst hdst
        exact hK v w' { c1 with I := I' } (n1.trans ⟨rfl, rfl, rfl⟩) h2 (rep_repT k4)
end

end Go.Proofs.Ytndijidmabfhcaa.Fw
