/- Operations in order. -/
import Derived.Test.YtndijidmabfhcaaFwT
namespace Go.Proofs.Ytndijidmabfhcaa.Fw
open Go Go.RowKit

section
variable {P : Program} {T : Ty} {c : Ctx} {env : Env} {a : Act} {w : World} {rr : Option Nat} {n : Nat} {ops : Array Oper}

theorem gcond_sound (ok : Nat → Bool) (h : St c env a w) : ∀ (n : Nat) (g : Option (Nat × Bool)), GOK a g → gcond ok n env.wt env.tm g
  | 0, _, _ => trivial
  | _ + 1, none, _ => trivial
  | n + 1, some (s, b), hg => by
    have hb := hg s b rfl
    simp only [gcond]
    cases hok : ok s with
    | false => trivial
    | true =>
    cases hw : look s env.wt with
    | some d =>
      have hW := h.wt s d hw
      cases d <;> first | exact hW.elim | skip
      rename_i s' b' d
      have hs' : a.tmps.getD s' undef = .bool b' := by
        apply Classical.byContradiction
        intro hne
        have := hW.2 hne
        rw [hb] at this
        cases this
      refine ⟨?_, gcond_sound ok h n (some (s', b')) fun s1 b1 e => by cases e; exact hs'⟩
      have hr := hW.1 hs'
      rw [hb] at hr
      cases d <;> first | trivial | skip
      have := repT_bool hr
      injection this with this; exact this.symm
    | none =>
      simp only
      cases ht : look s env.tm with
      | none => trivial
      | some d =>
        have hr := h.tm s d ht
        rw [hb] at hr
        cases d <;> first | trivial | skip
        have := repT_bool hr
        injection this with this; exact this.symm

theorem doesP_K {g : Option (Nat × Bool)} {ρ : Operand → D} {bx : List (Nat × BoxC)} {mp : List (Nat × MapC)} {dst : Nat} {op : Op} {gc : Prop} {K : Res → Prop} (h : doesP P T g ρ bx mp dst op gc K) : ∃ r, K r := by
  unfold doesP at h
  split at h
  · split at h
    · obtain ⟨d, _, hk⟩ := h; exact ⟨_, hk⟩
    · exact h.elim
  · split at h
    · exact ⟨_, (sideB_iff.1 h).2⟩
    · exact h.elim

theorem wanted_none {o : Oper} (h : o.guard = none) (y : Nat → Option Bool) : Region.wanted o y = true := by simp [Region.wanted, h]

theorem wanted_some {o p : Oper} {j s : Nat} {b : Bool} (h : o.guard = some (j, b)) (hp : ops[j]? = some p) (hs : p.dst = some s) : Region.wanted o (yielded ops a.tmps) = true ↔ a.tmps.getD s undef = .bool b := by
  have e : a.tmps.getD s undef = (a.tmps[s]?).getD undef := by rw [Array.getD_eq_getD_getElem?]
  simp only [Region.wanted, h, yielded, hp, hs, Option.bind_some]
  rw [e]
  cases hv : a.tmps[s]? with
  | none => simp [undef]
  | some v =>
    cases v <;> simp

theorem memR_plain {dst : Nat} {r : Res} (h : r.plain = true) : memR env dst r = some (env, r.d) := by
  obtain ⟨side, d, bx, mp, fz, fm, kill, own⟩ := r
  simp only [Res.plain, Bool.and_eq_true, Option.isNone_iff_eq_none, List.isEmpty_iff] at h
  obtain ⟨⟨⟨⟨rfl, rfl⟩, rfl⟩, rfl⟩, rfl⟩ := h
  simp [memR, frzM, frzB]

theorem gslot_spec {o : Oper} {g : Option (Nat × Bool)} (h : gslot ops o = some g) : (o.guard = none ∧ g = none) ∨ ∃ j b p s, o.guard = some (j, b) ∧ ops[j]? = some p ∧ p.dst = some s ∧ g = some (s, b) := by
  unfold gslot at h
  cases hg : o.guard with
  | none => rw [hg] at h; simp only [Option.some.injEq] at h; exact .inl ⟨rfl, h.symm⟩
  | some q =>
    obtain ⟨j, b⟩ := q
    rw [hg] at h
    simp only at h
    cases hp : ops[j]? with
    | none => rw [hp] at h; cases h
    | some p =>
      rw [hp] at h
      simp only at h
      cases hs : p.dst with
      | none => rw [hs] at h; cases h
      | some s => rw [hs] at h; simp only [Option.some.injEq] at h; exact .inr ⟨j, b, p, s, rfl, hp, hs, h.symm⟩

/-- A value operation in its place. -/
theorem value_sound (hT : TyOK P T) (h : St c env a w) {ρ : Operand → D} (hρ : ∀ x, RepX c env w a.tmps (ρ x) (a.eval x)) {bx0 : List (Nat × BoxC)} (hbx : ∀ s b, look s bx0 = some b → look s env.bx = some b) {i : Nat} {o : Oper} (ho : ops[i]? = some o) {dst : Nat} (hdst : o.dst = some dst) {g : Option (Nat × Bool)} (hg : gslot ops o = some g) {K0 : Res → Prop} {gc : Prop} (hgc : GOK a g → gc)
    (hd : doesP P T g ρ bx0 env.mp dst o.op gc K0) {K : Act → World → Prop} {Q : Exit → Act → World → Prop}
    (hK : ∀ r env' c' a' w', K0 r → memG env dst g r = some env' → c.Next c' → St c' env' a' w' → K a' w') (hK0 : ∀ r, K0 r → ∃ env', memG env dst g r = some env') : wpOpIn (Fr rr) n P ops Q i K a w := by
  unfold wpOpIn
  simp only [ho]
  rcases gslot_spec hg with ⟨hgd, rfl⟩ | ⟨j, b, p, s, hgd, hp, hs, rfl⟩
  · rw [if_pos (wanted_none hgd _)]
    have hG : GOK a none := fun s b e => by cases e
    obtain ⟨r, hr, hk⟩ := does_sound (rr := rr) (n := n) hT h hG hρ hbx hdst (hgc hG) hd
    obtain ⟨env', he⟩ := hK0 r hr
    have hm := he
    simp only [memG] at hm
    cases hmr : memR env dst r with
    | none => rw [hmr] at hm; cases hm
    | some q =>
      obtain ⟨env1, d⟩ := q
      rw [hmr] at hm
      exact hk env1 d hmr K Q fun v w' c' h1 h2 h3 => hK r env' c' _ w' hr he h1 (h2.put h3 hm)
  · have hw := wanted_some (a := a) hgd hp hs
    by_cases hb : Region.wanted o (yielded ops a.tmps) = true
    · rw [if_pos hb]
      have hv := hw.1 hb
      have hG : GOK a (some (s, b)) := fun s' b' e => by cases e; exact hv
      obtain ⟨r, hr, hk⟩ := does_sound (rr := rr) (n := n) hT h hG hρ hbx hdst (hgc hG) hd
      obtain ⟨env', he⟩ := hK0 r hr
      have hm := he
      simp only [memG] at hm
      cases hpl : r.plain with
      | false => rw [hpl] at hm; cases hm
      | true =>
        rw [hpl, cond_true] at hm
        exact hk env r.d (memR_plain hpl) K Q fun v w' c' h1 h2 h3 => hK r env' c' _ w' hr he h1 (h2.putW (fun _ => h3) (fun hne => absurd hv hne) hm)
    · rw [if_neg hb]
      refine ⟨fun _ _ => trivial, ?_⟩
      obtain ⟨r, hr⟩ := doesP_K hd
      obtain ⟨env', he⟩ := hK0 r hr
      have hm := he
      simp only [memG] at hm
      cases hpl : r.plain with
      | false => rw [hpl] at hm; cases hm
      | true =>
        rw [hpl, cond_true] at hm
        have hne : a.tmps.getD s undef ≠ .bool b := fun e => hb (hw.2 e)
        rw [hdst]
        exact hK r env' c _ w hr he (.refl c) (h.putW (fun e => absurd e hne) (fun _ => rfl) hm)

theorem evOp_sound (hT : TyOK P T) (h : St c env a w) {i : Nat} {o : Oper} (ho : ops[i]? = some o) {K0 : Env → Prop} (hd : evOp P T ops o env K0) {K : Act → World → Prop} {Q : Exit → Act → World → Prop}
    (hK : ∀ env' c' a' w', K0 env' → c.Next c' → St c' env' a' w' → K a' w') : wpOpIn (Fr rr) n P ops Q i K a w := by
  unfold evOp at hd
  cases hg : gslot ops o with
  | none => rw [hg] at hd; exact hd.elim
  | some g =>
    rw [hg] at hd
    simp only at hd
    have hval : (match o.dst with
        | some dst => doesP P T g (tv env.wt env.tm) env.bx env.mp dst o.op (gcond (fun _ => true) 8 env.wt env.tm g) fun r => match memG env dst g r with
          | some env' => K0 env'
          | none => False
        | none => False) → wpOpIn (Fr rr) n P ops Q i K a w := by
      intro hd
      cases hdst : o.dst with
      | none => rw [hdst] at hd; exact hd.elim
      | some dst =>
        rw [hdst] at hd
        refine value_sound hT h (rep_tvX h) (fun _ _ h => h) ho hdst hg (gcond_sound _ h 8 g) hd (fun r env' c' a' w' hr he h1 h2 => ?_) (fun r hr => ?_)
        · rw [he] at hr; exact hK env' c' a' w' hr h1 h2
        · cases he : memG env dst g r with
          | none => rw [he] at hr; exact hr.elim
          | some env' => exact ⟨env', rfl⟩
    have hskip : ∀ {w' : World} {env' : Env}, g = none → o.dst = none → (∀ c, o.op ≠ .defer c) → (execOp a.eval o).run P w = .ok .skip w' → St c env' a w' → K0 env' → wpOpIn (Fr rr) n P ops Q i K a w := by
      intro w' env' e1 e2 hnd hrun hst hk
      subst e1
      unfold wpOpIn
      simp only [ho]
      rcases gslot_spec hg with ⟨hgd, _⟩ | ⟨j, b, p, s, _, _, _, e⟩
      · rw [if_pos (wanted_none hgd _)]
        refine wpIn_of_skip hnd hrun ?_
        rw [e2]
        exact hK env' c a w' hk (.refl c) hst
      · cases e
    have hv : ∀ x, RepT c env w (unw none (tv env.wt env.tm x)) (a.eval x) := fun x => rep_tv h (fun s b e => by cases e) x
    split at hd
    · rename_i t ad x hop
      cases hgn : g with
      | some _ => rw [hgn] at hd; exact hd.elim
      | none =>
        cases hdst : o.dst with
        | some _ => rw [hgn, hdst] at hd; exact hd.elim
        | none =>
          rw [hgn, hdst] at hd
          simp only at hd
          cases hs : storeR T env t (unw none (tv env.wt env.tm ad)) (unw none (tv env.wt env.tm x)) with
          | none => rw [hs] at hd; exact hd.elim
          | some env' =>
            rw [hs] at hd
            obtain ⟨w', h1, h2⟩ := h.store hT (hv ad) (hv x) hs
            exact hskip hgn hdst (by rw [hop]; intro c e; cases e) (by simp [execOp, hop, h1]) h2 hd
    · rename_i t m k x hop
      cases hgn : g with
      | some _ => rw [hgn] at hd; exact hd.elim
      | none =>
        cases hdst : o.dst with
        | some _ => rw [hgn, hdst] at hd; exact hd.elim
        | none =>
          rw [hgn, hdst] at hd
          simp only at hd
          cases hs : mapUpR T env t (unw none (tv env.wt env.tm m)) (unw none (tv env.wt env.tm k)) (unw none (tv env.wt env.tm x)) with
          | none => rw [hs] at hd; exact hd.elim
          | some q =>
            obtain ⟨sd, env'⟩ := q
            rw [hs] at hd
            obtain ⟨rfl, hd⟩ := hd
            obtain ⟨w', h1, h2⟩ := h.mapUp hT (hv m) (hv k) (hv x) hs
            exact hskip hgn hdst (by rw [hop]; intro c e; cases e) (by simp [execOp, hop, h1]) h2 hd
    · exact hval hd

theorem St.end (h : St c env a w) : St c env.end a w := h.endRegion

theorem evOps_sound (hT : TyOK P T) {K0 : Env → Prop} {Q : Exit → Act → World → Prop} : ∀ {os : List Oper} {is : List Nat} {env : Env} {c : Ctx} {a : Act} {w : World}, All2 (fun o i => ops[i]? = some o) os is → St c env a w → evOps P T ops os env K0 →
    (∀ env' c' a' w', K0 env' → c.Next c' → St c' env' a' w' → Q .normal a' w') → wpOpsIn (Fr rr) n P ops Q is a w
  | [], [], env, c, a, w, _, h, hd, hK => hK _ c a w ((fE_iff _ _).1 hd) (.refl c) h.end
  | o :: os, i :: is, env, c, a, w, hi, h, hd, hK => by
    rw [wpOpsIn_cons]
    refine evOp_sound hT h hi.1 hd fun env' c' a' w' hk hn hst => ?_
    exact evOps_sound hT hi.2 hst ((fE_iff _ _).1 hk) fun e2 c2 a2 w2 k2 n2 s2 => hK e2 c2 a2 w2 k2 (hn.trans n2) s2
  | [], _ :: _, _, _, _, _, hi, _, _, _ => hi.elim
  | _ :: _, [], _, _, _, _, hi, _, _, _ => hi.elim
end

end Go.Proofs.Ytndijidmabfhcaa.Fw
