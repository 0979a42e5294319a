/- Code does what its evaluation over data says; calls. -/
import Derived.Test.YtndijidmabfhcaaFwYA
namespace Go.Proofs.Ytndijidmabfhcaa.Fw
open Go Go.RowKit

theorem exists_least {p : Nat → Prop} : ∀ (n : Nat), p n → ∃ m, p m ∧ ∀ k, p k → m ≤ k := by
  intro n
  induction n using Nat.strongRecOn with
  | _ n ih =>
    intro hn
    by_cases h : ∃ m, m < n ∧ p m
    · obtain ⟨m, h1, h2⟩ := h; exact ih m h1 h2
    · exact ⟨n, hn, fun k hk => Nat.le_of_not_lt fun hlt => h ⟨k, hlt, hk⟩⟩

theorem wpIn_loop_n {F : Fence} {n : Nat} {P : Program} {Q : Exit → Act → World → Prop} {a : Act} {w : World} {c : Code} (J : Nat → Act → World → Prop) (n0 : Nat) (h0 : J n0 a w)
    (round : ∀ m a w, J m a w → ∃ m', m' < m ∧ c.wpIn F n P (Exit.then (fun a' w' => J m' a' w') Q) a w) : (Code.loop c).wpIn F n P Q a w := by
  let μ : Act → World → Nat := fun a w => Classical.epsilon fun m => J m a w ∧ ∀ k, J k a w → m ≤ k
  have hμ : ∀ a w, (∃ m, J m a w) → J (μ a w) a w ∧ ∀ k, J k a w → μ a w ≤ k := fun a w ⟨m, hm⟩ => Classical.epsilon_spec (p := fun m => J m a w ∧ ∀ k, J k a w → m ≤ k) (exists_least m hm)
  refine wpIn_loop (fun a w => ∃ m, J m a w) μ ⟨n0, h0⟩ fun a w hI => ?_
  obtain ⟨m', hlt, hw⟩ := round _ a w (hμ a w hI).1
  refine wpIn_mono hw fun e a' w' hq => ?_
  cases e with
  | normal => exact ⟨⟨m', hq⟩, Nat.lt_of_le_of_lt ((hμ a' w' ⟨m', hq⟩).2 m' hq) hlt⟩
  | _ => exact hq

section
variable {P : Program} {T : Ty} {rr : Option Nat} {n : Nat}

/-- Code does what its evaluation says. -/
def Sound (P : Program) (T : Ty) (code : Code) : Prop :=
  ∀ (rr : Option Nat) (n : Nat) {c : Ctx} {env : Env} {a : Act} {w : World} {K0 : Exit → Env → Prop} {Q : Exit → Act → World → Prop}, St c env a w → GYield P c.w0 → rr = c.w0.lp → ev P T code env K0 →
    (∀ e env' c' a' w', K0 e env' → c.Grow c' → St c' env' a' w' → Q e a' w') → code.wpIn (Fr rr) n P Q a w

theorem look_mid {t p : Nat} {y : D} {tm0 : List (Nat × D)} : ∀ (ps : List Nat) (x : List D), p ∉ ps → look t (ps.zip x ++ (p, y) :: tm0) = look t ((p, y) :: (ps.zip x ++ tm0))
  | [], _, _ => rfl
  | _ :: _, [], _ => rfl
  | q :: ps, z :: x, h => by
    have ih := look_mid (t := t) (p := p) (y := y) (tm0 := tm0) ps x (fun e => h (by simp [e]))
    have hne : p ≠ q := fun e => h (by simp [e])
    rw [List.zip_cons_cons, List.cons_append, List.cons_append, look_cons, ih, look_cons, look_cons, look_cons]
    by_cases e1 : q = t
    · rw [if_pos e1, if_neg (fun e => hne (e.trans e1.symm)), if_pos e1]
    · rw [if_neg e1, if_neg e1]
theorem zip_look {w : World} {c : Ctx} {env : Env} : ∀ (ps : List Nat) (x : List D) (vs : List Value) (tm0 : List (Nat × D)) (ts : Array Value), (∀ t d, look t tm0 = some d → RepT c env w d (ts.getD t undef)) → distinct ps = true → (∀ p ∈ ps, p < ts.size) → All2 (Rep c.I w) x vs →
    ∀ t d, look t (ps.zip x ++ tm0) = some d → RepT c env w d (((ps.zip vs).foldl (fun t (q : Nat × Value) => t.setIfInBounds q.1 q.2) ts).getD t undef)
  | [], _, _, _, _, h0, _, _, _, t, d, h => h0 t d h
  | _ :: _, [], [], _, _, h0, _, _, _, t, d, h => h0 t d h
  | _ :: _, _ :: _, [], _, _, _, _, _, hv, _, _, _ => hv.elim
  | _ :: _, [], _ :: _, _, _, _, _, _, hv, _, _, _ => hv.elim
  | p :: ps, y :: x, v :: vs, tm0, ts, h0, hd, hp, hv, t, d, h => by
    simp only [distinct, Bool.and_eq_true, Bool.not_eq_true'] at hd
    have hlt := hp p (by simp)
    simp only [List.zip_cons_cons, List.cons_append] at h
    rw [← look_mid ps x (by simpa using hd.1)] at h
    simp only [List.zip_cons_cons, List.foldl_cons]
    refine zip_look ps x vs ((p, y) :: tm0) (ts.setIfInBounds p v) (fun t d h => ?_) hd.2 (fun q hq => by simpa using hp q (by simp [hq])) hv.2 t d h
    rw [look_cons] at h
    rw [Array.getD_eq_getD_getElem?, Array.getElem?_setIfInBounds]
    split at h
    · rename_i e; subst e; cases h
      rw [if_pos rfl, if_pos hlt]
      exact rep_repT hv.1
    · rename_i e
      rw [if_neg e, ← Array.getD_eq_getD_getElem?]
      exact h0 t d h
theorem zip_foldl_size : ∀ (l : List (Nat × Value)) (ts : Array Value), (l.foldl (fun t (q : Nat × Value) => t.setIfInBounds q.1 q.2) ts).size = ts.size
  | [], _ => rfl
  | q :: l, ts => by rw [List.foldl_cons, zip_foldl_size l]; simp

theorem seqEv_tm {B : Env → (Exit → Env → Prop) → Prop} {ps : List Nat} {nt0 : Nat} {tm0 : List (Nat × D)} {bs ms : List Nat} {ys : Option (Nat × List (List D))} {xs : List (List D)} {env : Env} {Q : Exit → Env → Prop} (k : Nat) (h : seqEv B ps nt0 tm0 bs ms ys xs env Q) : seqEv B ps nt0 tm0 bs ms ys xs { env with nt := k, tm := [], wt := [] } Q := by
  cases xs <;> exact h

theorem range_sound {g : Operand} {ps : Array Tmp} {asg body : Code} (hasg : Sound P T asg) (hbody : Sound P T body) : Sound P T (.rangeFunc g ps asg body) := by
  intro rr n c env a w K0 Q h hG hrr hd hK
  simp only [ev] at hd
  have hX := rep_tvX h g
  cases hg : tv env.wt env.tm g <;> rw [hg] at hd hX <;> (try simp only at hd) <;> first | exact hd.elim | skip
  rename_i f caps
  have hX : RepT c env w (.fn f caps) (a.eval g) := hX
  obtain ⟨cvs, hgv, hcaps⟩ : ∃ vs : List Value, a.eval g = .func (.func f) #[] ⟨vs⟩ ∧ RepL c.I w caps vs := by simpa [RepT, RepV, RepC, Rep] using hX
  cases hps : (distinct ps.toList && ps.toList.all fun p => Nat.blt p env.nt) with
  | false => rw [hps] at hd; exact hd.elim
  | true =>
  rw [hps] at hd
  simp only [fN_iff, fE_iff] at hd
  simp only [Bool.and_eq_true, List.all_eq_true, Nat.blt_eq] at hps
  obtain ⟨hdis, hpl⟩ := hps
  cases hc : canonW (keysOf env.tm) (keysOf env.bx) (keysOf env.mp) (stampsIn [] (keysOf env.bx) env) env with
  | none => rw [hc] at hd; exact hd.elim
  | some env1 =>
  rw [hc] at hd
  obtain ⟨xs, hit, hseq⟩ := hd
  obtain ⟨c1, n1, h1, hρ1, hI1, hbx1, hmp1, hown1, hnt1, hys1⟩ := h.canonW' hc h.covers
  obtain ⟨⟨fnn, hfn, hname, hbdy⟩, hit⟩ := hit
  have hcovs := h.covers
  revert hseq hbx1 hmp1 hcovs
  generalize keysOf env.bx = bs
  generalize keysOf env.mp = ms
  intro hseq hbx1 hmp1 hcovs
  have htm0 : ∀ t d, look t (env1.tm.map fun p => (p.1, dstD p.2)) = some d → ∃ d0, d = dstD d0 ∧ look t env1.tm = some d0 := by
    intro t d hl
    generalize env1.tm = l at hl ⊢
    induction l with
    | nil => simp [look] at hl
    | cons p l ih =>
      obtain ⟨k, x⟩ := p
      rw [List.map_cons, look_cons] at hl
      rw [look_cons]
      split at hl
      · rename_i e; cases hl; exact ⟨x, rfl, by rw [if_pos e]⟩
      · rename_i e; rw [if_neg e]; exact ih hl
  have hdst : ∀ t d, look t (env1.tm.map fun p => (p.1, dstD p.2)) = some d → ∃ d0, d = dstD d0 := fun t d hl => by
    obtain ⟨d0, e, _⟩ := htm0 t d hl; exact ⟨d0, e⟩
  have htmR : ∀ t d, look t (env1.tm.map fun p => (p.1, dstD p.2)) = some d → RepT c1 env1 w d (a.tmps.getD t undef) := fun t d hl => by
    obtain ⟨d0, rfl, hl0⟩ := htm0 t d hl
    exact dstD_rep (h1.tm t d0 hl0)
  have hnt : a.tmps.size = env1.nt := h1.nt
  revert hseq htm0 hdst htmR
  generalize env1.tm.map (fun p => (p.1, dstD p.2)) = tm0
  intro hseq _ hdst htmR
  generalize hB : (fun (env : Env) (K : Exit → Env → Prop) => ev P T asg env fun e env => match e with
            | .normal => ev P T body env K
            | _ => False) = B at hseq
  refine wpIn_rangeFunc fun fn hfnn => ?_
  obtain ⟨l, mks', dd, w1, hrun, hb1, hl1, hlw, hmk, hnd⟩ : ∃ (l : Nat) (mks' : List Nat) (dd : Nat) (w1 : World), (Instr.enterLoop fn a.tmps ps asg body (Fr rr).round).run P w = .ok (l, mks'.map markOf) w1 ∧ Below w.heap.size w w1 ∧ w1.heap[l]? = some (.loop { state := .ready, pending := none, fn := fn, tmps := a.tmps, params := ps, assign := asg, body := body, defers := dd }) ∧ w.heap.size ≤ l ∧
      (∀ k ∈ mks', w1.heap[k]? = some (.deferred (some [])) ∧ w.heap.size ≤ k ∧ k ≠ l) ∧ mks'.Nodup ∧ (rr.isSome = true → mks' = []) := by
    cases rr with
    | none =>
      refine ⟨w.heap.size + 1, [w.heap.size], w.heap.size, _, run_enterLoop_outer fn a.tmps ps asg body, ((Below.refl _ w).alloc (Nat.le_refl _) _).alloc (by simp) _, ?_, by omega, fun k hk => ?_, by simp, by simp⟩
      · have := World.alloc_heap_new (w.alloc (.deferred (some []))) (.loop { state := .ready, pending := none, fn := fn, tmps := a.tmps, params := ps, assign := asg, body := body, defers := w.heap.size }); rwa [World.size_alloc] at this
      · obtain rfl : k = w.heap.size := by simpa using hk
        exact ⟨(Below.heap_alloc _ _ _ (by simp)).trans (World.alloc_heap_new w _), Nat.le_refl _, by omega⟩
    | some l0 =>
      obtain ⟨_, r0, hr0⟩ := h.base.loop l0 hrr.symm
      exact ⟨w.heap.size, [], r0.defers, _, run_enterLoop_inner hr0 fn a.tmps ps asg body, (Below.refl _ w).alloc (Nat.le_refl _) _, World.alloc_heap_new w _, Nat.le_refl _, fun k hk => (by cases hk), List.nodup_nil, fun _ => rfl⟩
  obtain ⟨hnd, hmkn⟩ := hnd
  have e1 : (#[.func (.yield l) #[] #[]] : Array Value) ++ (⟨cvs⟩ : Array Value) = ⟨.func (.yield l) #[] #[] :: cvs⟩ := by apply Array.ext'; simp
  refine ⟨l, mks'.map markOf, w1, { target := .fn (.func f) ⟨cvs⟩, args := #[.func (.yield l) #[] #[]] }, w1, f, ⟨.func (.yield l) #[] #[] :: cvs⟩, w1, hrun, ?_, fun _ _ => trivial, ?_, fun h => (by cases h), ?_⟩
  · simp only [resolve, rangeCall, hgv]
    simp [go_sem]
  · have hb : fnn.body ≠ none := fun e => by rw [e] at hbdy; cases hbdy
    simp only [invoke, callFunc]
    rw [e1]
    simp [hfn, hname, hb]
  have hlt1 : l < w1.heap.size := (Array.getElem?_eq_some_iff.1 hl1).1
  generalize hr1 : ({ c.w0 with mks := mks' ++ c.w0.mks } : Root) = r1
  have hr1off : ∀ k, r1.off k ↔ c.w0.off k ∧ k ∉ mks' := fun k => by subst hr1; simp [Root.off]; constructor <;> (rintro ⟨x, y⟩; simp_all)
  have hbase1 : BaseF r1 w1 := by
    subst hr1
    have hb := h.base.below hb1
    refine ⟨hb.os, hb.tape, hb.output, hb.grow, hb.lt, hb.block, fun k hk => ?_, ?_, fun k hk => ?_, hb.loop⟩
    · rcases List.mem_append.1 hk with hk | hk
      · exact (hmk k hk).1
      · exact hb.marks k hk
    · refine List.nodup_append.2 ⟨hnd, hb.nodup, fun x hx y hy e => ?_⟩
      subst e
      have := h.base.below_of (off_of_mk hy)
      have := (hmk x hx).2.1
      omega
    · rcases List.mem_append.1 hk with hk | hk
      · intro hf
        have := h.base.below_of (off_of_far hf)
        have := (hmk k hk).2.1
        omega
      · exact hb.disj k hk
  have hK1 : Keeps c.I c.I w w1 := ⟨fun _ _ x => x, fun ad u hi hu => (World.cell?_of_block (hb1.block _ (h.im _ _ hi))).trans hu, fun r es k hi hr => (hb1.block _ (h.im _ _ hi)).trans hr⟩
  generalize hrec : (fun (st : LoopState) (pe : Option Code) => ({ state := st, pending := pe, fn := fn, tmps := a.tmps, params := ps, assign := asg, body := body, defers := dd } : Loop)) = rc
  have hrc : ∀ st pe, rc st pe = { state := st, pending := pe, fn := fn, tmps := a.tmps, params := ps, assign := asg, body := body, defers := dd } := fun st pe => by rw [← hrec]
  have hl1 : w1.heap[l]? = some (.loop (rc .ready none)) := by rw [hrc]; exact hl1
  have hr1l : r1.off l := (hr1off l).2 ⟨h.base.new hlw, fun hk => (hmk l hk).2.2 rfl⟩
  refine fr_calls.2 (Calls.mono (hit l (fun ys O I W => ∃ c' env', Held c r1 c1.ρ bs ms tm0 a.tmps l (rc .ready none) O I W c' env' ∧ seqEv B ps.toList env1.nt tm0 bs ms env.ys ys env' K0)
    (fun O I W => ∃ c' env' e jump, Held c r1 c1.ρ bs ms tm0 a.tmps l (rc .done (some jump)) O I W c' env' ∧ ((jump = .ret ∧ e = .ret) ∨ ∃ i, jump = .exit i ∧ e = .exit i) ∧ K0 e { env' with nt := env1.nt, tm := tm0, wt := [], ys := env.ys })
    c.I w1 cvs (fun b o x => Nat.lt_of_lt_of_le (h.im b o x) hb1.size) (RepL.keeps hK1 _ _ hcaps) ?_ ?_ ?_ ?_) ?_)
  · rintro ys O I W O' I' W' ⟨c', env', hh, hs⟩ st
    obtain ⟨c2, hh2⟩ := hh.step hdst st
    exact ⟨c2, env', hh2, hs⟩
  · rintro O I W O' I' W' ⟨c', env', e, jump, hh, hj, hs⟩ st
    obtain ⟨c2, hh2⟩ := hh.step hdst st
    exact ⟨c2, env', e, jump, hh2, hj, hs⟩
  · -- one round
    rintro x ys O I W vs n' ⟨c', env', hh, hs⟩ hx hval
    simp only [seqEv] at hs
    cases hlen : Nat.beq x.length ps.toList.length with
    | false => rw [hlen] at hs; exact hs.elim
    | true =>
    rw [hlen] at hs
    have hlen := Nat.eq_of_beq_eq_true hlen
    have hs := (fE_iff _ _).1 hs
    have hvl : vs.length = ps.size := by rw [← (all2_repL.1 hx).length, hlen]; simp
    have hy := run_yield (P := P) (args := ⟨vs⟩) hh.rcd (by rw [hrc]; simpa using hvl)
    rw [hrc] at hy
    refine ⟨fn, _, asg, body, hy, roundIn_of_wpIn trivial ?_⟩
    have hfold : ((ps.zip (⟨vs⟩ : Array Value)).foldl (fun tmps (t, a) => tmps.setIfInBounds t a) a.tmps) = (ps.toList.zip vs).foldl (fun t (q : Nat × Value) => t.setIfInBounds q.1 q.2) a.tmps := by
      rw [← Array.foldl_toList, Array.toList_zip]
    have hent := hh.enter (ts := (ps.toList.zip vs).foldl (fun t (q : Nat × Value) => t.setIfInBounds q.1 q.2) a.tmps) (tm' := ps.toList.zip x ++ tm0) (zip_look ps.toList x vs tm0 a.tmps hh.tm hdis (fun p hp => by rw [hnt, hnt1]; exact hpl p hp) (all2_repL.1 (RepL.keeps (w' := W) (I' := c'.I) ⟨hh.sub, fun _ _ _ x => x, fun _ _ _ _ x => x⟩ _ _ hx)))
    rw [zip_foldl_size, hnt] at hent
    show asg.wpIn (Fr (some l)) n' P _ { tmps := ((ps.zip (⟨vs⟩ : Array Value)).foldl (fun tmps (t, a) => tmps.setIfInBounds t a) a.tmps), defers := [] } W
    rw [hfold]
    rw [← hB] at hs
    refine hasg (some l) n' hent (round_yield ..) rfl hs ?_
    intro e envA cA aA W1 hk hgr hsA
    have hl0 : l < W.heap.size := (Array.getElem?_eq_some_iff.1 hh.rcd).1
    have hA := away_of hsA hgr.G
    have hrecA : W1.heap[l]? = some (.loop (rc .ready none)) := (away_same hsA hgr.G hl0 (fun x => (hh.off l x).2 rfl)).trans hh.rcd
    have hltA : l < W1.heap.size := (Array.getElem?_eq_some_iff.1 hrecA).1
    have hysA : envA.ys = none := by
      have := hsA.gh.1
      rw [hgr.G] at this; exact this.1
    have hdfA : aA.defers = [] := by rw [hsA.df.1, hsA.df.2, hgr.mks rfl]; rfl
    have hfixA : FixAll (roundRoot bs ms c1.ρ l c'.I (ownB c' env') W) cA.ρ envA := fun k s b hf => hsA.gh.2 k s b (by rw [hgr.fix]; exact hf)
    cases e <;> first | exact hk.elim | skip
    show ∃ w₂, (Instr.beginRound l).run P W1 = .ok () w₂ ∧ body.wpIn (Fr (some l)) n' P (roundPost P l _) aA w₂
    refine ⟨_, run_beginRound hrecA (by rw [hrc]), ?_⟩
    have hbusy : ({ rc .ready none with state := .busy } : Loop) = rc .busy none := by rw [hrc, hrc]
    rw [hbusy]
    have hmid := hh.mid hsA hA hdfA hfixA hysA (rc .busy none) hltA
    refine hbody (some l) n' hmid (round_yield ..) rfl hk ?_
    intro e envB cB aB W2 hk2 hgr2 hsB
    have hA2 : Away l cA envA (W1.putObj l (.loop (rc .busy none))) cB envB W2 := away_of (c' := cA) (env' := envA) hsB hgr2.G
    have hAA := (hA.trans (away_put (envA := envA) (.loop (rc .busy none)) (hh.il_away hA))).trans hA2
    have hfixB : FixAll (roundRoot bs ms c1.ρ l c'.I (ownB c' env') W) cB.ρ envB := fun k s b hf => hsB.gh.2 k s b (by rw [hgr2.fix]; exact hf)
    have hrecB : W2.heap[l]? = some (.loop (rc .busy none)) := (away_same (c' := cA) (env' := envA) hsB hgr2.G (by simpa using hltA) (hh.rec_away hA)).trans (World.putObj_heap_same hltA)
    simp only [fN_iff] at hk2
    cases hc2 : canonW [] bs ms (stampsIn [] bs envB) envB with
    | none => rw [hc2] at hk2; exact hk2.elim
    | some env2 =>
    rw [hc2] at hk2
    obtain ⟨c2, n2, h2, hρ2, hI2, hbx2, hmp2, hown2, _, _⟩ := hsB.canonW' hc2 (fun k s b hf => by
      have hf : fixOf bs ms c1.ρ k s = some b := by rw [← show cB.w0.fix = fixOf bs ms c1.ρ from hgr2.fix]; exact hf
      cases k with
      | true => simp only [fixOf] at hf; split at hf <;> first | assumption | cases hf
      | false => simp only [fixOf] at hf; split at hf <;> first | assumption | cases hf)
    have hend : ∀ jump, ({ rc .busy none with state := if jump.isNone then .ready else .done, pending := jump } : Loop) = rc (if jump.isNone then .ready else .done) jump := fun jump => by rw [hrc, hrc]
    have hback : ∀ rc', ItBack O I W (W2.putObj l (.loop rc')) ∧ ∃ c3, Held c r1 c1.ρ bs ms tm0 a.tmps l rc' O I (W2.putObj l (.loop rc')) c3 { env2 with nt := a.tmps.size, tm := [], wt := [] } := fun rc' => hh.back hdst hAA h2 hfixB hρ2 hI2 hbx2 hmp2 hown2 rc'
    cases e with
    | normal =>
      have hk2 := (fE_iff _ _).1 hk2
      have hre := run_endRound (P := P) none hrecB
      rw [hend] at hre
      obtain ⟨hb, c3, hh3⟩ := hback (rc .ready none)
      refine ⟨_, _, hre, hb, .inl ⟨rfl, c3, _, hh3, ?_⟩⟩
      rw [hB] at hk2
      exact seqEv_tm _ hk2
    | ret =>
      have hk2 := (fE_iff _ _).1 hk2
      have hre := run_endRound (P := P) (some .ret) hrecB
      rw [hend] at hre
      obtain ⟨hb, c3, hh3⟩ := hback (rc .done (some .ret))
      exact ⟨_, _, hre, hb, .inr ⟨rfl, c3, _, _, _, hh3, .inl ⟨rfl, rfl⟩, hk2⟩⟩
    | exit i =>
      have hk2 := (fE_iff _ _).1 hk2
      have hre := run_endRound (P := P) (some (.exit i)) hrecB
      rw [hend] at hre
      obtain ⟨hb, c3, hh3⟩ := hback (rc .done (some (.exit i)))
      exact ⟨_, _, hre, hb, .inr ⟨rfl, c3, _, _, _, hh3, .inr ⟨i, rfl, rfl⟩, hk2⟩⟩
    | _ => exact hk2.elim
  · -- where it begins
    have h3 := h1.tmps (tm' := []) (ts := a.tmps) (fun t d hd => by simp [look] at hd)
    have hown : ∀ k, ownB c1 env1 k → k < w.heap.size ∧ c.w0.off k := fun k hk => ⟨ownB_lt h (hown1 k hk), ownB_off h (hown1 k hk)⟩
    have hK1' : Keeps c1.I c1.I w w1 := by rw [hI1]; exact hK1
    have hm := h3.move (I' := c1.I) (I0' := c1.I) (w' := w1) (r' := Root.free w1) (ys' := env1.ys) (df' := []) hb1.size (fun k hk => hb1.block k (hown k hk).1) hK1' (fun _ _ x => .inl x) (fun b o x => Nat.lt_of_lt_of_le (h1.im b o x) hb1.size)
      (fun k _ => Root.free_off _ k) (Root.free_base _) (Keeps.refl _ _) (fun _ _ x => .inl x) rfl ⟨trivial, Root.free_fix _ _ _⟩
    refine ⟨{ c1 with I := c1.I, w0 := Root.free w1, I0 := c1.I, df := [] }, { env1 with nt := a.tmps.size, tm := [], wt := [] }, { st := hm.1, tm := fun t d hd => ?_, base := hbase1, im0 := ?_, new := ?_, off := ?_, bx := hbx1, mp := hmp1, rho := fun _ _ => rfl, rcd := hl1, rl := hr1l, il := ?_, sub := ?_, own := fun _ _ _ x => x.elim, oo := fun _ x => x.elim }, seqEv_tm _ hseq⟩
    · obtain ⟨d0, rfl⟩ := hdst t d hd
      exact dstD_move (c := c1) (env := env1) (w := w) (c' := { c1 with I := c1.I, w0 := Root.free w1, I0 := c1.I, df := [] }) (env' := { env1 with nt := a.tmps.size, tm := [], wt := [] }) (w' := w1) hK1' (fun _ x => ⟨x, rfl⟩) (fun _ x => ⟨x, rfl⟩) (htmR t _ hd)
    · show Keeps c.I0 c1.I c.w0.wd w1
      rw [hI1]; exact h.im0.trans hK1
    · intro b o x
      have x : c1.I b o := x
      rw [hI1] at x
      rcases h.imNew b o x with y | y
      · exact .inl y
      · refine .inr ((hr1off b).2 ⟨y, fun hk => ?_⟩)
        have := h.im b o x
        have := (hmk b hk).2.1
        omega
    · intro k hk
      have := hown k hk
      refine ⟨(hr1off k).2 ⟨this.2, fun hk => ?_⟩, by omega⟩
      have := (hmk k hk).2.1
      omega
    · intro o x
      have x : c1.I l o := x
      rw [hI1] at x
      have := h.im l o x
      omega
    · intro b o x
      show c1.I b o
      rw [hI1]; exact x
  · -- behind it
    rintro e W3 ⟨⟨v, rfl⟩, O', I', hJ⟩
    have hfin : ∀ {rc' : Loop} {c' : Ctx} {env' : Env} (o : Obj), Held c r1 c1.ρ bs ms tm0 a.tmps l rc' O' I' W3 c' env' → ∃ cf, c.Grow cf ∧ St cf { env' with nt := env1.nt, tm := tm0, wt := [], ys := env.ys } { a with defers := mks'.map markOf ++ a.defers } (W3.putObj l o) := by
      intro rc' c' env' o hh
      have hf := hh.final (ys := env.ys) (df := mks'.map markOf ++ c.df) o (by subst hr1; rw [List.map_append, h.df.2]) (by subst hr1; exact h.gh.1) (by subst hr1; rfl) (fun k s b hs => by
        have hs' : c.w0.fix k s = some b := by subst hr1; exact hs
        obtain ⟨x1, x2⟩ := h.gh.2 k s b hs'
        have hc := hcovs k s b hs'
        cases k with
        | true => exact ⟨(hh.bx s).2 hc, by rw [hh.rho s (.inl hc), hρ1]; exact x2⟩
        | false => exact ⟨(hh.mp s).2 hc, by rw [hh.rho s (.inr hc), hρ1]; exact x2⟩)
      have ea : ({ tmps := a.tmps, defers := mks'.map markOf ++ c.df } : Act) = { a with defers := mks'.map markOf ++ a.defers } := by rw [h.df.1]
      rw [ea, hnt] at hf
      refine ⟨_, ?_, hf⟩
      subst hr1
      exact ⟨rfl, rfl, rfl, fun x => by rw [hmkn (by rw [hrr]; exact x)]; rfl⟩
    rcases hJ with ⟨c', env', hh, hs⟩ | ⟨c', env', e, jump, hh, hj, hs⟩
    · have hs := (fE_iff _ _).1 hs
      have hre := run_endLoop (P := P) hh.rcd (by rw [hrc]; simp)
      obtain ⟨cf, hgf, hf⟩ := hfin (.loop { rc .ready none with state := .exhausted }) hh
      refine ⟨(rc .ready none).pending, _, hre, ?_⟩
      have hp : (rc .ready none).pending = none := by rw [hrc]
      split
      · exact hK _ _ _ _ _ hs hgf hf
      · rename_i heq; rw [hp] at heq; cases heq
    · have hre := run_endLoop (P := P) hh.rcd (by rw [hrc]; simp)
      obtain ⟨cf, hgf, hf⟩ := hfin (.loop { rc .done (some jump) with state := .exhausted }) hh
      refine ⟨(rc .done (some jump)).pending, _, hre, ?_⟩
      have hp : (rc .done (some jump)).pending = some jump := by rw [hrc]
      split
      · rename_i heq; rw [hp] at heq; cases heq
      · rename_i j heq
        rw [hp] at heq
        obtain rfl := Option.some.inj heq
        rcases hj with ⟨rfl, rfl⟩ | ⟨i, rfl, rfl⟩
        · exact wpIn_ret (hK _ _ _ _ _ hs hgf hf)
        · exact wpIn_exit (hK _ _ _ _ _ hs hgf hf)

theorem ev_sound (hT : TyOK P T) (hmo : P.follows .mixedOrders = true) : ∀ (code : Code), Sound P T code := by
  intro code
  induction code with
  | skip => intro rr n c env a w K0 Q h hG hrr hd hK; exact wpIn_skip (hK _ _ _ _ _ hd (.refl c) h)
  | region id ops draw =>
    intro rr n c env a w K0 Q h hG hrr hd hK
    cases draw with
    | true => exact draw_sound hT hmo h hG hd fun env' c' a' w' hk hn hs => hK _ _ _ _ _ hk hn hs
    | false =>
      have hd : fE env.end fun env => evOps P T ops ops.toList env fun env' => K0 .normal env' := hd
      refine wpIn_region ?_
      refine evOps_sound hT (os := ops.toList) ?_ h.end hG ((fE_iff _ _).1 hd) fun env' c' a' w' hk hn hs => hK _ _ _ _ _ hk hn hs
      have : ∀ (l : List Oper) (i : Nat), (∀ k o, l[k]? = some o → ops[i + k]? = some o) → All2 (fun o j => ops[j]? = some o) l (List.range' i l.length) := by
        intro l
        induction l with
        | nil => intro i _; exact trivial
        | cons o l ih =>
          intro i hl
          refine ⟨by simpa using hl 0 o rfl, ?_⟩
          exact ih (i + 1) fun k o' hk => by rw [show i + 1 + k = i + (k + 1) from by omega]; exact hl (k + 1) o' (by simpa using hk)
      have h2 := this ops.toList 0 (fun k o hk => by simpa using hk)
      rw [List.range_eq_range']
      simpa using h2
  | seq x y ihx ihy =>
    intro rr n c env a w K0 Q h hG hrr hd hK
    refine wpIn_seq (ihx rr n h hG hrr hd fun e env' c' a' w' hk hn hs => ?_)
    cases e with
    | normal => exact ihy rr n hs (hG.grow hn) (hrr.trans hn.lp.symm) hk fun e2 env2 c2 a2 w2 hk2 hn2 hs2 => hK _ _ _ _ _ hk2 (hn.trans hn2) hs2
    | _ => exact hK _ _ _ _ _ hk hn hs
  | cond b x y ihx ihy =>
    intro rr n c env a w K0 Q h hG hrr hd hK
    simp only [ev] at hd
    have hX := rep_tvX h b
    cases hb : tv env.wt env.tm b <;> rw [hb] at hd hX <;> (try simp only at hd) <;> first | exact hd.elim | skip
    rename_i t
    have hX : RepT c env w (.bool t) (a.eval b) := hX
    have hc := repT_bool hX
    cases t with
    | true => exact wpIn_cond_true hc (ihx rr n h hG hrr hd hK)
    | false => exact wpIn_cond_false hc (ihy rr n h hG hrr hd hK)
  | block id x ih =>
    intro rr n c env a w K0 Q h hG hrr hd hK
    refine wpIn_block (ih rr n h hG hrr hd fun e env' c' a' w' hk hn hs => ?_)
    cases e with
    | exit i =>
      simp only at hk
      by_cases hid : i = id
      · rw [nbeq.2 hid] at hk
        simp only [Exit.inBlock, if_pos hid]
        exact hK _ _ _ _ _ hk hn hs
      · rw [nbeq_f.2 hid] at hk
        simp only [Exit.inBlock, if_neg hid]
        exact hK _ _ _ _ _ hk hn hs
    | _ => exact hK _ _ _ _ _ hk hn hs
  | loop x ih =>
    intro rr n c env a w K0 Q h hG hrr hd hK
    simp only [ev, fN_iff, fE_iff] at hd
    cases hc : canonW (keysOf env.tm) (keysOf env.bx) (keysOf env.mp) (stampsIn (keysOf env.tm) (keysOf env.bx) env) env with
    | none => rw [hc] at hd; exact hd.elim
    | some env1 =>
      rw [hc] at hd
      obtain ⟨m, hm⟩ := hd
      have hcov := h.covers
      obtain ⟨c1, n1, h1⟩ := h.canonW hc hcov
      refine wpIn_loop_n (fun m a w => ∃ env' c', c.Grow c' ∧ St c' env' a w ∧ loopEv (ev P T x) (keysOf env.tm) (keysOf env.bx) (keysOf env.mp) m env' K0) m ⟨env1, c1, n1.grow, h1, hm⟩ fun m a w ⟨env', c', hn, hs, hl⟩ => ?_
      cases m with
      | zero => exact hl.elim
      | succ m =>
        refine ⟨m, by omega, ih rr n hs (hG.grow hn) (hrr.trans hn.lp.symm) hl fun e env2 c2 a2 w2 hk hn2 hs2 => ?_⟩
        cases e with
        | normal =>
          simp only [fN_iff] at hk
          cases hc2 : canonW (keysOf env.tm) (keysOf env.bx) (keysOf env.mp) (stampsIn (keysOf env.tm) (keysOf env.bx) env2) env2 with
          | none => rw [hc2] at hk; exact hk.elim
          | some env3 =>
            rw [hc2] at hk
            obtain ⟨c3, n3, h3⟩ := hs2.canonW hc2 (fun k s b hs => hcov k s b (by rw [← (hn.trans hn2).fix]; exact hs))
            exact ⟨env3, c3, hn.trans (hn2.trans n3.grow), h3, (fE_iff _ _).1 hk⟩
        | _ => exact hK _ _ _ _ _ hk (hn.trans hn2) hs2
  | exit i => intro rr n c env a w K0 Q h hG hrr hd hK; exact wpIn_exit (hK _ _ _ _ _ hd (.refl c) h)
  | ret => intro rr n c env a w K0 Q h hG hrr hd hK; exact wpIn_ret (hK _ _ _ _ _ hd (.refl c) h)
  | label l => intro rr n c env a w K0 Q h hG hrr hd hK; exact wpIn_label (hK _ _ _ _ _ hd (.refl c) h)
  | rangeFunc f ps x y ihx ihy => exact range_sound ihx ihy
  | scope x ih => intro rr n c env a w K0 Q h hG hrr hd hK; exact hd.elim
  | goto l => intro rr n c env a w K0 Q h hG hrr hd hK; exact hd.elim
  | refuse s => intro rr n c env a w K0 Q h hG hrr hd hK; exact hd.elim

def resOne (tmps : Array Value) : ResultVar → Sem Value
  | .tmp t => pure (tmps.getD t undef)
  | .cell b t => do loadVar t (← asAddr (tmps.getD b undef))
theorem results_eq (fn : Func) (tmps : Array Value) : results fn tmps = (do
    let vs ← fn.results.mapM (resOne tmps)
    pure (if h : vs.size = 1 then vs[0] else .tuple vs)) := by
  unfold results
  congr 2

theorem run_results (hT : TyOK P T) {c : Ctx} {env : Env} {a : Act} {w : World} (h : St c env a w) {mp : List (Nat × MapC)} : ∀ {rs : List ResultVar} {l : List D}, cloL mp (resRaw T env rs) = some l →
    ∃ vs : List Value, (rs.mapM (resOne a.tmps)).run P w = .ok vs w ∧ All2 (RepT c env w) (resRaw T env rs) vs
  | [], l, _ => ⟨[], by simp, trivial⟩
  | r :: rs, l, hl => by
    have htm : ∀ t, RepT c env w ((look t env.tm).getD .undef) (a.tmps.getD t undef) := fun t => by
      cases ht : look t env.tm with
      | none => trivial
      | some d => exact h.tm t d ht
    have key : ∀ d (s : Sem Value), resRaw T env (r :: rs) = d :: resRaw T env rs → (clo mp d ≠ none → Yield P c env w d s) → ∃ v, s.run P w = .ok v w ∧ RepT c env w d v ∧ ∃ vs : List Value, (rs.mapM (resOne a.tmps)).run P w = .ok vs w ∧ All2 (RepT c env w) (resRaw T env rs) vs := by
      intro d s e y
      rw [e] at hl
      simp only [cloL] at hl
      cases h1 : clo mp d with
      | none => rw [h1] at hl; cases hl
      | some d' =>
        cases h2 : cloL mp (resRaw T env rs) with
        | none => rw [h1, h2] at hl; cases hl
        | some l' =>
          obtain ⟨vs, k1, k2⟩ := run_results hT h h2
          obtain ⟨v, k3, k4⟩ := y (by rw [h1]; simp)
          exact ⟨v, k3, k4, vs, k1, k2⟩
    cases r with
    | tmp t =>
      obtain ⟨v, k1, k2, vs, k3, k4⟩ := key _ (resOne a.tmps (.tmp t)) rfl fun _ => ⟨_, by simp [resOne], htm t⟩
      exact ⟨v :: vs, by simp only [List.mapM_cons, Sem.run_bind, k1, k3, Result.andThen_ok, Sem.run_pure], k2, k4⟩
    | cell b t =>
      cases ht : T t with
      | none =>
        exfalso
        simp only [resRaw, ht, cloL, clo] at hl
        cases hl
      | some e =>
        cases hld : loadD env.bx e ((look b env.tm).getD .undef) with
        | none =>
          exfalso
          simp only [resRaw, ht, hld, cloL, clo, Option.getD_none] at hl
          cases hl
        | some d =>
          obtain ⟨v, k1, k2, vs, k3, k4⟩ := key d (resOne a.tmps (.cell b t)) (by simp [resRaw, ht, hld]) fun _ => by
            obtain ⟨v, g1, g2⟩ := yield_loadAt (hT t e ht) h (htm b) hld
            refine ⟨v, ?_, g2⟩
            show (do loadVar t (← asAddr (a.tmps.getD b undef)) : Sem Value).run P w = _
            have : ∃ ad, a.tmps.getD b undef = .pointer (some ad) := by
              have hb := htm b
              unfold loadD at hld
              split at hld
              · rename_i s off e1; rw [e1] at hb; exact ⟨_, (repT_loc hb).2⟩
              · rename_i d0 off e1; rw [e1] at hb; obtain ⟨ad, e2, _⟩ := repT_eptr hb; exact ⟨_, e2⟩
              · cases hld
            obtain ⟨ad, e1⟩ := this
            rw [e1] at g1 ⊢
            simpa [Instr.loadAt, Instr.sureAddr, asAddr] using g1
          refine ⟨v :: vs, ?_, ?_⟩
          · simp only [List.mapM_cons, Sem.run_bind, k1, k3, Result.andThen_ok, Sem.run_pure]
          · rw [show resRaw T env (.cell b t :: rs) = d :: resRaw T env rs from by simp [resRaw, ht, hld]]
            exact ⟨k2, k4⟩

theorem rep_pack {I : Im} {w : World} {l : List D} {vs : List Value} (h : All2 (Rep I w) l vs) (hv : l.all D.isVal = true) : Rep I w (packR l) (if h : (⟨vs⟩ : Array Value).size = 1 then (⟨vs⟩ : Array Value)[0] else .tuple ⟨vs⟩) := by
  match l, vs, h with
  | [], [], h => simp [packR, Rep, RepL]
  | [d], [v], h => simpa [packR] using h.1
  | d :: d2 :: l, v :: v2 :: vs, h =>
    simp only [packR, Rep]
    exact ⟨v :: v2 :: vs, by simp, hv, all2_repL.2 h⟩
  | [_], _ :: _ :: _, h => exact h.2.elim
  | _ :: _ :: _, [_], h => exact h.2.elim

theorem entry_St {I : Im} {w : World} {ds : List D} {vs : List Value} {nt : Nat} {G : Option (Nat × List (List D)) → (Nat → Prop) → World → Im → Prop} {ys : Option (Nat × List (List D))} (hlen : ds.length ≤ nt) (him : ∀ b o, I b o → b < w.heap.size) (hrep : RepL I w ds vs) (hg : G ys (fun k => k < w.heap.size) w I) :
    St ⟨fun _ => 0, fun _ => none, I, { Root.plain w with G := G }, I, []⟩ { entry nt ds with ys := ys } { tmps := (⟨vs⟩ : Array Value) ++ Array.replicate (nt - (⟨vs⟩ : Array Value).size) undef, defers := [] } w := by
  have hvl : ds.length = vs.length := (all2_repL.1 hrep).length
  refine ⟨?_, ⟨rfl, rfl⟩, fun t d ht => ?_, fun t d ht => by simp [entry, look] at ht, fun s b hs => by simp [entry, look] at hs, fun s m hs => by simp [entry, look] at hs, fun s s' h1 => ?_, fun s h1 => ?_, fun s h1 => ?_, fun s s' g h1 => ?_, fun s g h1 => ?_, him, Keeps.refl _ _, fun _ _ h => .inl h,
    ⟨rfl, rfl, rfl, Nat.le_refl _, fun _ x => x, fun _ _ => rfl, fun _ x => (by cases x), List.nodup_nil, fun _ x => (by cases x), fun _ x => (by cases x)⟩, hg, fun _ _ _ x => by cases x⟩
  · simp [entry]; omega
  · have : ∀ (ds : List D) (i : Nat), look t ((List.range' i ds.length).zip ds) = some d → ∃ k, t = i + k ∧ ds[k]? = some d := by
      intro ds
      induction ds with
      | nil => intro i h; simp [look] at h
      | cons x ds ih =>
        intro i h
        rw [List.length_cons, List.range'_succ, List.zip_cons_cons, look_cons] at h
        split at h
        · rename_i e; exact ⟨0, by omega, h⟩
        · obtain ⟨k, e1, e2⟩ := ih (i + 1) h
          exact ⟨k + 1, by omega, by simpa using e2⟩
    obtain ⟨k, e1, e2⟩ := this ds 0 (by rw [← List.range_eq_range']; exact ht)
    obtain ⟨v, e3, e4⟩ := (all2_repL.1 hrep).get k d e2
    have hk : k < vs.length := (List.getElem?_eq_some_iff.1 e3).1
    have e5 : ((⟨vs⟩ : Array Value) ++ Array.replicate (nt - (⟨vs⟩ : Array Value).size) undef).getD t undef = v := by
      rw [show t = k from by omega, Array.getD_eq_getD_getElem?, Array.getElem?_append_left (by simpa using hk)]
      simp [e3]
    rw [e5]
    exact rep_repT e4
  · rcases h1 with h1 | h1 <;> simp [entry, look] at h1
  · rcases h1 with h1 | h1 <;> simp [entry, look] at h1
  · rcases h1 with h1 | h1 <;> simp [entry, look] at h1
  · obtain ⟨h1, _⟩ := h1; simp [entry, look] at h1
  · obtain ⟨h1, _⟩ := h1; simp [entry, look] at h1

/-- A function that held ranges over functions leaves. -/
theorem leave_marks {fn : Func} {tmps : Array Value} {R : Ending → World → Prop} : ∀ (l : List Nat) (w : World), (∀ k ∈ l, w.heap[k]? = some (.deferred (some []))) → l.Nodup →
    (∀ w' : World, w'.os = w.os → w'.tape = w.tape → w'.output = w.output → w'.heap.size = w.heap.size → (∀ k, k ∉ l → w'.heap[k]? = w.heap[k]?) → ∃ v, (results fn tmps).run P w' = .ok v w' ∧ R (.returned v) w') → LeavesInM (Fr rr) n P fn tmps R (l.map markOf) .returning w
  | [], w, _, _, h => h w rfl rfl rfl rfl fun _ _ => rfl
  | k :: l, w, hm, hn, h => by
    refine ⟨by simp, .inl ⟨k, w.putObj k (.deferred none), rfl, run_takeDeferred (hm k (by simp)), ?_⟩⟩
    obtain ⟨hk, hn⟩ := List.nodup_cons.1 hn
    refine leave_marks l _ (fun j hj => (World.putObj_heap_other (by rintro rfl; exact hk hj)).trans (hm j (by simp [hj]))) hn fun w' h1 h2 h3 h4 h5 => ?_
    refine h w' h1 h2 h3 (by rw [h4]; simp) fun j hj => ?_
    simp only [List.mem_cons, not_or] at hj
    exact (h5 j hj.2).trans (World.putObj_heap_other hj.1)

theorem St.unmark {c : Ctx} {env : Env} {a : Act} {w w2 : World} (hs : St c env a w) (o1 : w2.os = w.os) (o2 : w2.tape = w.tape) (o3 : w2.output = w.output) (o4 : w2.heap.size = w.heap.size) (o5 : ∀ k, k ∉ c.w0.mks → w2.heap[k]? = w.heap[k]?) :
    ∃ c', St c' env { a with defers := [] } w2 ∧ c'.w0.far = c.w0.far ∧ c'.w0.wd = c.w0.wd ∧ c'.I0 = c.I0 := by
  have hI : ∀ b o, c.I b o → b ∉ c.w0.mks ∨ ∃ x, w.heap[b]? = some x := fun b o x => .inr ⟨_, Array.getElem?_eq_getElem (hs.im b o x)⟩
  have hK : Keeps c.I c.I w w2 := by
    refine ⟨fun _ _ x => x, fun ad u hi hu => ?_, fun r es k hi hr => ?_⟩
    · by_cases hm : ad.block ∈ c.w0.mks
      · have := hs.base.marks _ hm
        simp [World.cell?, this] at hu
      · exact (World.cell?_of_block (o5 _ hm)).trans hu
    · by_cases hm : r ∈ c.w0.mks
      · have := hs.base.marks _ hm
        rw [hr] at this; cases this
      · exact (o5 _ hm).trans hr
  have hm := (hs.move (I' := c.I) (I0' := c.I0) (w' := w2) (r' := ⟨c.w0.wd, c.w0.far, [], none, fun _ _ => none, fun _ _ _ _ => True⟩) (ys' := env.ys) (df' := []) (by omega) (fun k hk => o5 k (ownB_off hs hk).2) hK (fun _ _ x => .inl x) (fun b o x => by rw [o4]; exact hs.im b o x)
    (fun k hk => ⟨(ownB_off hs hk).1, by simp⟩) ⟨o1.trans hs.base.os, o2.trans hs.base.tape, o3.trans hs.base.output, by rw [o4]; exact hs.base.grow, hs.base.lt, fun k hk => (o5 k fun x => hs.base.disj k x hk).trans (hs.base.block k hk), fun _ x => (by cases x), List.nodup_nil, fun _ x => (by cases x), fun _ x => (by cases x)⟩
    (hs.im0.trans hK) (fun b o x => (hs.imNew b o x).imp id fun y => ⟨y.1, by simp⟩) rfl ⟨trivial, fun _ _ _ x => by cases x⟩).1
  exact ⟨_, hm, rfl, rfl, rfl⟩

/-- A function that has been evaluated may be called. -/
theorem callsTo_of_runs (hT : TyOK P T) (hmo : P.follows .mixedOrders = true) {f : Nat} {fn : Func} {code : Code} {ds : List D} {d : D} (hf : P.funcs[f]? = some fn) (hb : fn.body = some code) (hname : fn.name ≠ "runtime.NumGoroutine")
    (hr : Runs P T fn.ntmps code fn.results.toList ds d) : CallsTo P f ds d := by
  refine ⟨⟨fn, hf, hname, by rw [hb]; rfl⟩, fun I w vs him hrep => ?_⟩
  obtain ⟨hlen, hev⟩ := hr
  have hev := (fE_iff _ _).1 hev
  have hst := entry_St (G := fun ys far wd I0 => ys = none ∧ far = (fun k => k < w.heap.size) ∧ wd = w ∧ I0 = I) (ys := none) hlen him hrep ⟨rfl, rfl, rfl, rfl⟩
  have hG : GYield P { Root.plain w with G := fun ys far wd I0 => ys = none ∧ far = (fun k => k < w.heap.size) ∧ wd = w ∧ I0 = I } := ⟨.inl rfl, fun _ _ _ _ _ _ _ _ _ _ _ h => by cases h.1⟩
  refine (fr_calls (r := none) (n := 0)).1 (callsIn_of_wp_marks hf hb trivial (ev_sound hT hmo code none 0 hst hG rfl hev fun e env c' a' w' hk hgr hs => ?_))
  have fin : (match cloL env.mp (resRaw T env fn.results.toList) with
      | some l => (frzM env.mp ((resRaw T env fn.results.toList).flatMap cloM)).isSome = true ∧ packR l = d
      | none => False) → LeavesInM (Fr none) 0 P fn a'.tmps (fun e w' => ∃ v I', e = .returned v ∧ (∀ b o, I b o → I' b o) ∧ (∀ b o, I' b o → I b o ∨ w.heap.size ≤ b) ∧ (∀ b o, I' b o → b < w'.heap.size) ∧ Rep I' w' d v ∧ Below w.heap.size w w') a'.defers .returning w' := by
    intro hk
    rw [hs.df.1, hs.df.2]
    refine leave_marks _ _ hs.base.marks hs.base.nodup fun w2 o1 o2 o3 o4 o5 => ?_
    have hgh := hs.gh.1
    rw [hgr.G] at hgh
    obtain ⟨_, g2, g3, g4⟩ := hgh
    obtain ⟨c3, hs3, k2, k3, k4⟩ := hs.unmark o1 o2 o3 o4 o5
    rw [g2] at k2; rw [g3] at k3; rw [g4] at k4
    cases hcl : cloL env.mp (resRaw T env fn.results.toList) with
    | none => rw [hcl] at hk; exact hk.elim
    | some l =>
      rw [hcl] at hk
      obtain ⟨hfz, rfl⟩ := hk
      cases hfz' : frzM env.mp ((resRaw T env fn.results.toList).flatMap cloM) with
      | none => rw [hfz'] at hfz; cases hfz
      | some mp =>
        obtain ⟨c2, n2, h2, S2, hm2⟩ := hs3.frzM hfz'
        obtain ⟨rvs, p1, p2⟩ := run_results hT hs3 hcl
        obtain ⟨g1, g2⟩ := clo_vals h2 (p2.mono fun _ _ => S2.repT) hcl (fun x hx s hss m hl => by
          obtain ⟨m', q1, q2, q3, q4⟩ := hm2 s m hl
          exact ⟨m', q1, q2, q3, q4 (.inr (List.mem_flatMap.2 ⟨x, hx, hss⟩))⟩)
        have hI0 : c2.I0 = I := n2.I0.trans k4
        have hfar : c2.w0.far = fun k => k < w.heap.size := by rw [n2.w0]; exact k2
        have hwd : c2.w0.wd = w := by rw [n2.w0]; exact k3
        have hb2 := h2.base
        refine ⟨_, ?_, _, c2.I, rfl, fun b o hi => h2.im0.im b o (by rw [hI0]; exact hi), fun b o hi => ?_, h2.im, rep_pack g1 g2, ?_⟩
        · rw [results_eq]
          have e1 : (fn.results.mapM (resOne a'.tmps)).run P w2 = .ok ⟨rvs⟩ w2 := by
            rw [Array.mapM_eq_mapM_toList]
            simp [p1]
          simp only [Sem.run_bind, e1, Result.andThen_ok, Sem.run_pure]
        · rcases h2.imNew b o hi with x | x
          · rw [hI0] at x; exact .inl x
          · refine .inr ?_
            have := x.1
            rw [hfar] at this
            exact Nat.le_of_not_lt this
        · have e1 := hb2.os; have e2 := hb2.tape; have e3 := hb2.output; have e4 := hb2.grow
          rw [hwd] at e1 e2 e3 e4
          refine ⟨e1, e2, e3, e4, fun k hk => ?_⟩
          have := hb2.block k (by rw [hfar]; exact hk)
          rw [hwd] at this; exact this
  cases e with
  | normal => exact fin hk
  | ret => exact fin hk
  | _ => exact hk.elim

/-- An iterator that has been evaluated may be ranged over. -/
theorem iterTo_of_yields (hT : TyOK P T) (hmo : P.follows .mixedOrders = true) {f : Nat} {fn : Func} {code : Code} {caps : List D} {xs : List (List D)} (hf : P.funcs[f]? = some fn) (hb : fn.body = some code) (hname : fn.name ≠ "runtime.NumGoroutine") (hres : fn.results = #[])
    (hr : Yields P T fn.ntmps code caps xs) : IterTo P f caps xs := by
  refine ⟨⟨fn, hf, hname, by rw [hb]; rfl⟩, fun l J Jx I W cvs him hrep hJ hJx hY h0 => ?_⟩
  obtain ⟨hlen, hev⟩ := hr
  have hev := (fE_iff _ _).1 (hev l)
  generalize hGd : (fun (ys : Option (Nat × List (List D))) (far : Nat → Prop) (wd : World) (I0 : Im) => ∃ O : Nat → Prop, (∀ k, far k ↔ k < wd.heap.size ∧ ¬ O k) ∧ (∀ k, O k → k < wd.heap.size) ∧ match ys with
    | some (l', r) => l' = l ∧ J r O I0 wd
    | none => Jx O I0 wd) = G
  have hGe : ∀ ys far wd I0, G ys far wd I0 ↔ ∃ O : Nat → Prop, (∀ k, far k ↔ k < wd.heap.size ∧ ¬ O k) ∧ (∀ k, O k → k < wd.heap.size) ∧ match ys with
    | some (l', r) => l' = l ∧ J r O I0 wd
    | none => Jx O I0 wd := fun ys far wd I0 => by rw [← hGd]
  have hst := entry_St (G := G) (ys := some (l, xs)) (ds := .yld l :: caps) (vs := .func (.yield l) #[] #[] :: cvs) (by simpa using hlen) him ⟨_, _, rfl, by simp [Rep], hrep⟩ ((hGe _ _ _ _).2 ⟨fun _ => False, fun k => by simp, fun _ x => x.elim, rfl, h0⟩)
  have hG : GYield P { Root.plain W with G := G } := by
    refine ⟨.inl rfl, fun l' x rest far wd I0 I1 W1 own vs n hg e1 e2 e3 e4 e5 hk hn hi ho hv ha => ?_⟩
    obtain ⟨O, f1, f2, rfl, hj⟩ := (hGe _ _ _ _).1 hg
    have hst : ItStep O I0 wd own I1 W1 := by
      refine ⟨e1, e2, e3, e4, fun k h1 h2 => e5 k ((f1 k).2 ⟨h1, h2⟩), hk, fun k h => ?_, fun b o h => ?_, hi, fun k h => (ho k h).1⟩
      · by_cases hlt : k < wd.heap.size
        · by_cases hO : O k
          · exact .inl hO
          · exact absurd ((f1 k).2 ⟨hlt, hO⟩) (ho k h).2
        · exact .inr (by omega)
      · rcases hn b o h with x | x
        · exact .inl x
        · by_cases hlt : b < wd.heap.size
          · by_cases hO : O b
            · exact .inr (.inl hO)
            · exact absurd ((f1 b).2 ⟨hlt, hO⟩) x
          · exact .inr (.inr (by omega))
    obtain ⟨fn', tmps, asg, body, hy, hR⟩ := hY x rest own I1 W1 vs n (hJ _ _ _ _ _ _ _ hj hst) hv ha
    refine ⟨fn', tmps, asg, body, hy, hR.mono ?_⟩
    rintro e W' ⟨hb, hj⟩
    refine ⟨hb, hj.imp (fun h => ⟨h.1, (hGe _ _ _ _).2 ⟨own, fun k => Iff.rfl, fun k hk => Nat.lt_of_lt_of_le (ho k hk).1 hb.size, rfl, h.2⟩⟩) fun h => ⟨h.1, (hGe _ _ _ _).2 ⟨own, fun k => Iff.rfl, fun k hk => Nat.lt_of_lt_of_le (ho k hk).1 hb.size, h.2⟩⟩⟩
  refine (fr_calls (r := none) (n := 0)).1 (callsIn_of_wp_marks hf hb trivial (ev_sound hT hmo code none 0 hst hG rfl hev fun e env c' a' w' hk hgr hs => ?_))
  have fin : (match env.ys with
      | some (_, _ :: _) => False
      | _ => True) → LeavesInM (Fr none) 0 P fn a'.tmps (fun e w' => (∃ v, e = .returned v) ∧ ∃ O' I', J [] O' I' w' ∨ Jx O' I' w') a'.defers .returning w' := by
    intro hk
    rw [hs.df.1, hs.df.2]
    refine leave_marks _ _ hs.base.marks hs.base.nodup fun w2 o1 o2 o3 o4 o5 => ?_
    have hgh := hs.gh.1
    rw [hgr.G] at hgh
    obtain ⟨O, f1, f2, hj⟩ := (hGe _ _ _ _).1 hgh
    obtain ⟨c3, hs3, k2, k3, k4⟩ := hs.unmark o1 o2 o3 o4 o5
    have hb3 := hs3.base
    have hkp := hs3.im0
    have e1 := hb3.os; have e2 := hb3.tape; have e3 := hb3.output; have e4 := hb3.grow; have e5 := hb3.block
    rw [k3] at e1 e2 e3 e4 e5 hkp
    rw [k2] at e5
    rw [k4] at hkp
    have hstep : ItStep O c'.I0 c'.w0.wd (fun _ => False) c'.I0 w2 := ⟨e1, e2, e3, e4, fun k h1 h2 => e5 k ((f1 k).2 ⟨h1, h2⟩), ⟨fun _ _ x => x, hkp.cell, hkp.map⟩, fun _ x => x.elim, fun _ _ x => .inl x, fun b o x => hs3.im b o (hkp.im b o x), fun _ x => x.elim⟩
    refine ⟨.tuple #[], ?_, ⟨_, rfl⟩, fun _ => False, c'.I0, ?_⟩
    · simp [results, hres]
    · cases hys : env.ys with
      | none => rw [hys] at hj; exact .inr (hJx _ _ _ _ _ _ hj hstep)
      | some q =>
        obtain ⟨l', r⟩ := q
        rw [hys] at hj hk
        cases r with
        | nil => exact .inl (hJ _ _ _ _ _ _ _ hj.2 hstep)
        | cons _ _ => exact hk.elim
  cases e with
  | normal => exact fin hk
  | ret => exact fin hk
  | _ => exact hk.elim
end

end Go.Proofs.Ytndijidmabfhcaa.Fw
