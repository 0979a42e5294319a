/- Code does what its evaluation over data says; calls. -/
import Derived.Test.YtndijidmabfhcaaFwWB
namespace Go.Proofs.Ytndijidmabfhcaa.Fw
open Go Go.RowKit

theorem exists_least {p : Nat → Prop} : ∀ (n : Nat), p n → ∃ m, p m ∧ ∀ k, p k → m ≤ k := by
  intro n
  induction n using Nat.strongRecOn with
  | _ n ih =>
    intro hn
    by_cases h : ∃ m, m < n ∧ p m
    · obtain ⟨m, h1, h2⟩ := h; exact ih m h1 h2
    · exact ⟨n, hn, fun k hk => Nat.le_of_not_lt fun hlt => h ⟨k, hlt, hk⟩⟩

theorem wpIn_loop_n {F : Fence} {n : Nat} {P : Program} {Q : Exit → Act → World → Prop} {a : Act} {w : World} {c : Code} (J : Nat → Act → World → Prop) (n0 : Nat) (h0 : J n0 a w)
    (round : ∀ m a w, J m a w → ∃ m', m' < m ∧ c.wpIn F n P (Exit.then (fun a' w' => J m' a' w') Q) a w) : (Code.loop c).wpIn F n P Q a w := by
  let μ : Act → World → Nat := fun a w => Classical.epsilon fun m => J m a w ∧ ∀ k, J k a w → m ≤ k
  have hμ : ∀ a w, (∃ m, J m a w) → J (μ a w) a w ∧ ∀ k, J k a w → μ a w ≤ k := fun a w ⟨m, hm⟩ => Classical.epsilon_spec (p := fun m => J m a w ∧ ∀ k, J k a w → m ≤ k) (exists_least m hm)
  refine wpIn_loop (fun a w => ∃ m, J m a w) μ ⟨n0, h0⟩ fun a w hI => ?_
  obtain ⟨m', hlt, hw⟩ := round _ a w (hμ a w hI).1
  refine wpIn_mono hw fun e a' w' hq => ?_
  cases e with
  | normal => exact ⟨⟨m', hq⟩, Nat.lt_of_le_of_lt ((hμ a' w' ⟨m', hq⟩).2 m' hq) hlt⟩
  | _ => exact hq

section
variable {P : Program} {T : Ty} {rr : Option Nat} {n : Nat}

theorem ev_sound (hT : TyOK P T) (hmo : P.follows .mixedOrders = true) : ∀ (code : Code) {c : Ctx} {env : Env} {a : Act} {w : World} {K0 : Exit → Env → Prop} {Q : Exit → Act → World → Prop}, St c env a w → ev P T code env K0 →
    (∀ e env' c' a' w', K0 e env' → c.Next c' → St c' env' a' w' → Q e a' w') → code.wpIn (Fr rr) n P Q a w := by
  intro code
  induction code with
  | skip => intro c env a w K0 Q h hd hK; exact wpIn_skip (hK _ _ _ _ _ hd (.refl c) h)
  | region id ops draw =>
    intro c env a w K0 Q h hd hK
    cases draw with
    | true => exact draw_sound hT hmo h hd fun env' c' a' w' hk hn hs => hK _ _ _ _ _ hk hn hs
    | false =>
      have hd : fE env.end fun env => evOps P T ops ops.toList env fun env' => K0 .normal env' := hd
      refine wpIn_region ?_
      refine evOps_sound hT (os := ops.toList) ?_ h.end ((fE_iff _ _).1 hd) fun env' c' a' w' hk hn hs => hK _ _ _ _ _ hk hn hs
      have : ∀ (l : List Oper) (i : Nat), (∀ k o, l[k]? = some o → ops[i + k]? = some o) → All2 (fun o j => ops[j]? = some o) l (List.range' i l.length) := by
        intro l
        induction l with
        | nil => intro i _; exact trivial
        | cons o l ih =>
          intro i hl
          refine ⟨by simpa using hl 0 o rfl, ?_⟩
          exact ih (i + 1) fun k o' hk => by rw [show i + 1 + k = i + (k + 1) from by omega]; exact hl (k + 1) o' (by simpa using hk)
      have h2 := this ops.toList 0 (fun k o hk => by simpa using hk)
      rw [List.range_eq_range']
      simpa using h2
  | seq x y ihx ihy =>
    intro c env a w K0 Q h hd hK
    refine wpIn_seq (ihx h hd fun e env' c' a' w' hk hn hs => ?_)
    cases e with
    | normal => exact ihy hs hk fun e2 env2 c2 a2 w2 hk2 hn2 hs2 => hK _ _ _ _ _ hk2 (hn.trans hn2) hs2
    | _ => exact hK _ _ _ _ _ hk hn hs
  | cond b x y ihx ihy =>
    intro c env a w K0 Q h hd hK
    simp only [ev] at hd
    have hX := rep_tvX h b
    cases hb : tv env.wt env.tm b <;> rw [hb] at hd hX <;> (try simp only at hd) <;> first | exact hd.elim | skip
    rename_i t
    have hX : RepT c env w (.bool t) (a.eval b) := hX
    have hc := repT_bool hX
    cases t with
    | true => exact wpIn_cond_true hc (ihx h hd hK)
    | false => exact wpIn_cond_false hc (ihy h hd hK)
  | block id x ih =>
    intro c env a w K0 Q h hd hK
    refine wpIn_block (ih h hd fun e env' c' a' w' hk hn hs => ?_)
    cases e with
    | exit i =>
      simp only at hk
      by_cases hid : i = id
      · rw [nbeq.2 hid] at hk
        simp only [Exit.inBlock, if_pos hid]
        exact hK _ _ _ _ _ hk hn hs
      · rw [nbeq_f.2 hid] at hk
        simp only [Exit.inBlock, if_neg hid]
        exact hK _ _ _ _ _ hk hn hs
    | _ => exact hK _ _ _ _ _ hk hn hs
  | loop x ih =>
    intro c env a w K0 Q h hd hK
    simp only [ev, fN_iff, fE_iff] at hd
    cases hc : canonW (keysOf env.tm) (keysOf env.bx) (keysOf env.mp) (stampsIn (keysOf env.tm) (keysOf env.bx) env) env with
    | none => rw [hc] at hd; exact hd.elim
    | some env1 =>
      rw [hc] at hd
      obtain ⟨m, hm⟩ := hd
      obtain ⟨c1, n1, h1⟩ := h.canonW hc
      refine wpIn_loop_n (fun m a w => ∃ env' c', c.Next c' ∧ St c' env' a w ∧ loopEv (ev P T x) (keysOf env.tm) (keysOf env.bx) (keysOf env.mp) m env' K0) m ⟨env1, c1, n1, h1, hm⟩ fun m a w ⟨env', c', hn, hs, hl⟩ => ?_
      cases m with
      | zero => exact hl.elim
      | succ m =>
        refine ⟨m, by omega, ih hs hl fun e env2 c2 a2 w2 hk hn2 hs2 => ?_⟩
        cases e with
        | normal =>
          simp only [fN_iff] at hk
          cases hc2 : canonW (keysOf env.tm) (keysOf env.bx) (keysOf env.mp) (stampsIn (keysOf env.tm) (keysOf env.bx) env2) env2 with
          | none => rw [hc2] at hk; exact hk.elim
          | some env3 =>
            rw [hc2] at hk
            obtain ⟨c3, n3, h3⟩ := hs2.canonW hc2
            exact ⟨env3, c3, hn.trans (hn2.trans n3), h3, (fE_iff _ _).1 hk⟩
        | _ => exact hK _ _ _ _ _ hk (hn.trans hn2) hs2
  | exit i => intro c env a w K0 Q h hd hK; exact wpIn_exit (hK _ _ _ _ _ hd (.refl c) h)
  | ret => intro c env a w K0 Q h hd hK; exact wpIn_ret (hK _ _ _ _ _ hd (.refl c) h)
  | label l => intro c env a w K0 Q h hd hK; exact wpIn_label (hK _ _ _ _ _ hd (.refl c) h)
  | rangeFunc f ps x y ihx ihy => intro c env a w K0 Q h hd hK; exact hd.elim
  | scope x ih => intro c env a w K0 Q h hd hK; exact hd.elim
  | goto l => intro c env a w K0 Q h hd hK; exact hd.elim
  | refuse s => intro c env a w K0 Q h hd hK; exact hd.elim

def resOne (tmps : Array Value) : ResultVar → Sem Value
  | .tmp t => pure (tmps.getD t undef)
  | .cell b t => do loadVar t (← asAddr (tmps.getD b undef))
theorem results_eq (fn : Func) (tmps : Array Value) : results fn tmps = (do
    let vs ← fn.results.mapM (resOne tmps)
    pure (if h : vs.size = 1 then vs[0] else .tuple vs)) := by
  unfold results
  congr 2

theorem run_results (hT : TyOK P T) {c : Ctx} {env : Env} {a : Act} {w : World} (h : St c env a w) {mp : List (Nat × MapC)} : ∀ {rs : List ResultVar} {l : List D}, cloL mp (resRaw T env rs) = some l →
    ∃ vs : List Value, (rs.mapM (resOne a.tmps)).run P w = .ok vs w ∧ All2 (RepT c env w) (resRaw T env rs) vs
  | [], l, _ => ⟨[], by simp, trivial⟩
  | r :: rs, l, hl => by
    have htm : ∀ t, RepT c env w ((look t env.tm).getD .undef) (a.tmps.getD t undef) := fun t => by
      cases ht : look t env.tm with
      | none => trivial
      | some d => exact h.tm t d ht
    have key : ∀ d (s : Sem Value), resRaw T env (r :: rs) = d :: resRaw T env rs → (clo mp d ≠ none → Yield P c env w d s) → ∃ v, s.run P w = .ok v w ∧ RepT c env w d v ∧ ∃ vs : List Value, (rs.mapM (resOne a.tmps)).run P w = .ok vs w ∧ All2 (RepT c env w) (resRaw T env rs) vs := by
      intro d s e y
      rw [e] at hl
      simp only [cloL] at hl
      cases h1 : clo mp d with
      | none => rw [h1] at hl; cases hl
      | some d' =>
        cases h2 : cloL mp (resRaw T env rs) with
        | none => rw [h1, h2] at hl; cases hl
        | some l' =>
          obtain ⟨vs, k1, k2⟩ := run_results hT h h2
          obtain ⟨v, k3, k4⟩ := y (by rw [h1]; simp)
          exact ⟨v, k3, k4, vs, k1, k2⟩
    cases r with
    | tmp t =>
      obtain ⟨v, k1, k2, vs, k3, k4⟩ := key _ (resOne a.tmps (.tmp t)) rfl fun _ => ⟨_, by simp [resOne], htm t⟩
      exact ⟨v :: vs, by simp only [List.mapM_cons, Sem.run_bind, k1, k3, Result.andThen_ok, Sem.run_pure], k2, k4⟩
    | cell b t =>
      cases ht : T t with
      | none =>
        exfalso
        simp only [resRaw, ht, cloL, clo] at hl
        cases hl
      | some e =>
        cases hld : loadD env.bx e ((look b env.tm).getD .undef) with
        | none =>
          exfalso
          simp only [resRaw, ht, hld, cloL, clo, Option.getD_none] at hl
          cases hl
        | some d =>
          obtain ⟨v, k1, k2, vs, k3, k4⟩ := key d (resOne a.tmps (.cell b t)) (by simp [resRaw, ht, hld]) fun _ => by
            obtain ⟨v, g1, g2⟩ := yield_loadAt (hT t e ht) h (htm b) hld
            refine ⟨v, ?_, g2⟩
            show (do loadVar t (← asAddr (a.tmps.getD b undef)) : Sem Value).run P w = _
            have : ∃ ad, a.tmps.getD b undef = .pointer (some ad) := by
              have hb := htm b
              unfold loadD at hld
              split at hld
              · rename_i s off e1; rw [e1] at hb; exact ⟨_, (repT_loc hb).2⟩
              · rename_i d0 off e1; rw [e1] at hb; obtain ⟨ad, e2, _⟩ := repT_eptr hb; exact ⟨_, e2⟩
              · cases hld
            obtain ⟨ad, e1⟩ := this
            rw [e1] at g1 ⊢
            simpa [Instr.loadAt, Instr.sureAddr, asAddr] using g1
          refine ⟨v :: vs, ?_, ?_⟩
          · simp only [List.mapM_cons, Sem.run_bind, k1, k3, Result.andThen_ok, Sem.run_pure]
          · rw [show resRaw T env (.cell b t :: rs) = d :: resRaw T env rs from by simp [resRaw, ht, hld]]
            exact ⟨k2, k4⟩

theorem rep_pack {I : Im} {w : World} {l : List D} {vs : List Value} (h : All2 (Rep I w) l vs) (hv : l.all D.isVal = true) : Rep I w (packR l) (if h : (⟨vs⟩ : Array Value).size = 1 then (⟨vs⟩ : Array Value)[0] else .tuple ⟨vs⟩) := by
  match l, vs, h with
  | [], [], h => simp [packR, Rep, RepL]
  | [d], [v], h => simpa [packR] using h.1
  | d :: d2 :: l, v :: v2 :: vs, h =>
    simp only [packR, Rep]
    exact ⟨v :: v2 :: vs, by simp, hv, all2_repL.2 h⟩
  | [_], _ :: _ :: _, h => exact h.2.elim
  | _ :: _ :: _, [_], h => exact h.2.elim

/-- A function that has been evaluated may be called. -/
theorem callsTo_of_runs (hT : TyOK P T) (hmo : P.follows .mixedOrders = true) {f : Nat} {fn : Func} {code : Code} {ds : List D} {d : D} (hf : P.funcs[f]? = some fn) (hb : fn.body = some code) (hname : fn.name ≠ "runtime.NumGoroutine")
    (hr : Runs P T fn.ntmps code fn.results.toList ds d) : CallsTo P f ds d := by
  refine ⟨⟨fn, hf, hname, by rw [hb]; rfl⟩, fun I w vs him hrep => ?_⟩
  obtain ⟨hlen, hev⟩ := hr
  have hev := (fE_iff _ _).1 hev
  have hvl : ds.length = vs.length := (all2_repL.1 hrep).length
  have hst : St ⟨fun _ => 0, fun _ => none, I, w, I, []⟩ (entry fn.ntmps ds) { tmps := (⟨vs⟩ : Array Value) ++ Array.replicate (fn.ntmps - (⟨vs⟩ : Array Value).size) undef, defers := [] } w := by
    refine ⟨?_, rfl, fun t d ht => ?_, fun t d ht => by simp [entry, look] at ht, fun s b hs => by simp [entry, look] at hs, fun s m hs => by simp [entry, look] at hs, fun s s' h1 => ?_, fun s h1 => ?_, fun s h1 => ?_, fun s s' g h1 => ?_, fun s g h1 => ?_, him, fun _ _ h => h, fun _ _ h => .inl h, Below.refl _ _⟩
    · simp [entry]; omega
    · have : ∀ (ds : List D) (i : Nat), look t ((List.range' i ds.length).zip ds) = some d → ∃ k, t = i + k ∧ ds[k]? = some d := by
        intro ds
        induction ds with
        | nil => intro i h; simp [look] at h
        | cons x ds ih =>
          intro i h
          rw [List.length_cons, List.range'_succ, List.zip_cons_cons, look_cons] at h
          split at h
          · rename_i e; exact ⟨0, by omega, h⟩
          · obtain ⟨k, e1, e2⟩ := ih (i + 1) h
            exact ⟨k + 1, by omega, by simpa using e2⟩
      obtain ⟨k, e1, e2⟩ := this ds 0 (by rw [← List.range_eq_range']; exact ht)
      obtain ⟨v, e3, e4⟩ := (all2_repL.1 hrep).get k d e2
      have hk : k < vs.length := (List.getElem?_eq_some_iff.1 e3).1
      have e5 : ((⟨vs⟩ : Array Value) ++ Array.replicate (fn.ntmps - (⟨vs⟩ : Array Value).size) undef).getD t undef = v := by
        rw [show t = k from by omega, Array.getD_eq_getD_getElem?, Array.getElem?_append_left (by simpa using hk)]
        simp [e3]
      rw [e5]
      exact rep_repT e4
    · rcases h1 with h1 | h1 <;> simp [entry, look] at h1
    · rcases h1 with h1 | h1 <;> simp [entry, look] at h1
    · rcases h1 with h1 | h1 <;> simp [entry, look] at h1
    · obtain ⟨h1, _⟩ := h1; simp [entry, look] at h1
    · obtain ⟨h1, _⟩ := h1; simp [entry, look] at h1
  refine (fr_calls (r := none) (n := 0)).1 (callsIn_of_wp hf hb trivial (ev_sound hT hmo code hst hev fun e env c' a' w' hk hn hs => ?_))
  have fin : (match cloL env.mp (resRaw T env fn.results.toList) with
      | some l => (frzM env.mp ((resRaw T env fn.results.toList).flatMap cloM)).isSome = true ∧ packR l = d
      | none => False) → a'.defers = [] ∧ ∃ v, (results fn a'.tmps).run P w' = .ok v w' ∧ ∃ v' I', Ending.returned v = .returned v' ∧ (∀ b o, I b o → I' b o) ∧ (∀ b o, I' b o → I b o ∨ w.heap.size ≤ b) ∧ (∀ b o, I' b o → b < w'.heap.size) ∧ Rep I' w' d v' ∧ Below w.heap.size w w' := by
    intro hk
    refine ⟨hs.df.trans hn.df, ?_⟩
    cases hcl : cloL env.mp (resRaw T env fn.results.toList) with
    | none => rw [hcl] at hk; exact hk.elim
    | some l =>
      rw [hcl] at hk
      obtain ⟨hfz, rfl⟩ := hk
      cases hfz' : frzM env.mp ((resRaw T env fn.results.toList).flatMap cloM) with
      | none => rw [hfz'] at hfz; cases hfz
      | some mp =>
        obtain ⟨c2, n2, h2, S2, hm2⟩ := hs.frzM hfz'
        obtain ⟨rvs, k1, k2⟩ := run_results hT hs hcl
        obtain ⟨g1, g2⟩ := clo_vals h2 (k2.mono fun _ _ => S2.repT) hcl (fun x hx s hss m hl => by
          obtain ⟨m', q1, q2, q3, q4⟩ := hm2 s m hl
          exact ⟨m', q1, q2, q3, q4 (.inr (List.mem_flatMap.2 ⟨x, hx, hss⟩))⟩)
        have hN := hn.trans n2
        refine ⟨_, ?_, _, c2.I, rfl, fun b o hi => h2.im0 b o (by rw [hN.I0]; exact hi), fun b o hi => ?_, h2.im, rep_pack g1 g2, ?_⟩
        · rw [results_eq]
          have e1 : (fn.results.mapM (resOne a'.tmps)).run P w' = .ok ⟨rvs⟩ w' := by
            rw [Array.mapM_eq_mapM_toList]
            simp [k1]
          simp only [Sem.run_bind, e1, Result.andThen_ok, Sem.run_pure]
        · have := h2.imNew b o hi
          rw [hN.I0, hN.w0] at this; exact this
        · have := h2.base
          rw [hN.w0] at this; exact this
  cases e with
  | normal => exact fin hk
  | ret => exact fin hk
  | _ => exact hk.elim
end

end Go.Proofs.Ytndijidmabfhcaa.Fw
