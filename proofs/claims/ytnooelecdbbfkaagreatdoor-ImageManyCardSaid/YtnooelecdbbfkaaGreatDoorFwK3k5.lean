/- Texts YB, Y, Z, QE, YM, FZ, TB, LR, LP, MP, RA of the proof, in one. -/
import Derived.Test.YtnooelecdbbfkaaGreatDoorChecked
import Derived.Deep.Slices
import Derived.ChangeStays
import Derived.OpenShut
import Derived.Test.YtnooelecdbbfkaaGreatDoorFwK3k4
set_option linter.unusedSimpArgs false
set_option linter.unusedVariables false
set_option linter.unusedSectionVars false
set_option linter.unnecessarySimpa false

/- What is laid otherwise at the head of a loop: nil that will be appended to; rows that are appended to no more; slots that are asked no more. -/
namespace Go.Proofs.YtnooelecdbbfkaaGreatDoor.Fw
open Go Go.RowKit
set_option linter.unusedSectionVars false
variable [Inhabited GLT]

variable {c : Ctx} {env : Env} {a : Act} {w : World}

theorem St.nilStamp (h : St c env a w) {s' u : Nat} (hs' : look s' env.us = none) (hsd : s' ∉ env.dd ∧ s' < bigS) :
    St (c.own s' none 0) (env.stamp s' u 1) a w ∧ Step c env w (c.own s' none 0) (env.stamp s' u 1) w := by
  have hne : ∀ st0, env.live st0 → st0 ≠ s' := fun st0 hl e => by have := hl.1; rw [e, hs'] at this; cases this
  have S : Step c env w (c.own s' none 0) (env.stamp s' u 1) w := by
    refine .of (⟨fun _ _ h => .inl h, fun _ _ _ h => h, fun _ _ _ _ h => h⟩) (fun _ h => ⟨h, rfl⟩) (fun _ h => ⟨h, rfl⟩) (fun s0 u0 hl => ?_) (fun s0 hl => ?_) (fun st0 hl hn => ⟨if_neg (hne st0 hl), fun g0 hσ => ⟨rfl, fun o ho => ho.resolve_right fun e => by cases e.1⟩⟩) (fun s0 hb hl => (live_stamp hl).elim (fun e => absurd (e ▸ hb) (Nat.not_le.2 hsd.2)) (fun h => h.1))
    · simp only [us_stamp, look_cons]; rw [if_neg]
      · exact hl
      · rintro rfl; rw [hs'] at hl; cases hl
    · rw [dd_stamp, if_pos rfl]; exact hl
  have hI : ∀ b o, (c.own s' none 0).I b o → c.I b o := fun b o hi => hi.resolve_right fun e => by cases e.1
  refine ⟨⟨h.nt, h.df, fun t d hd => S.repT (h.tm t d hd), fun t d hd => (h.wt t d hd).step S, fun s b hs => ?_, fun s m hs => ?_, h.inj, h.above, h.lt, ?_, ?_, ?_, h.im0.trans S.keeps, ?_, h.base, ⟨h.gh.1, S.fix h.gh.2⟩, h.rows S⟩, S⟩
  · exact (h.bx s b hs).step S rfl rfl (fun o ho => hI _ _ ho)
  · exact (h.mp s m hs).step S rfl rfl (fun o ho => hI _ _ ho)
  · intro s1 s2 g hl1 hl2 h1 h2
    rcases live_stamp hl1 with e1 | ⟨kl1, hd1⟩ <;> rcases live_stamp hl2 with e2 | ⟨kl2, hd2⟩
    · exact e1.trans e2.symm
    · simp only [Ctx.own, if_pos e1] at h1; cases h1
    · simp only [Ctx.own, if_pos e2] at h2; cases h2
    · simp only [Ctx.own, if_neg (hne s1 kl1), if_neg (hne s2 kl2)] at h1 h2
      exact h.ownInj s1 s2 g kl1 kl2 h1 h2
  · intro s1 g hl1 h1
    rcases live_stamp hl1 with e1 | ⟨kl1, hd1⟩
    · simp only [Ctx.own, if_pos e1] at h1; cases h1
    · simp only [Ctx.own, if_neg (hne s1 kl1)] at h1
      exact h.ownAbove s1 g kl1 h1
  · exact fun b o hi => h.im b o (hI _ _ hi)
  · exact fun b o hi => h.imNew b o (hI _ _ hi)

theorem nil_own {s' u es es' : Nat} {xs : List D} {v : Value} (hs2 : 2 ≤ s') (hum : u ≠ rowMark) (he : es = es' ∨ xs = []) (hr : RepC (c.own s' none 0) (env.stamp s' u 1) w (.sl 1 es xs) v) : RepC (c.own s' none 0) (env.stamp s' u 1) w (.sl s' es' xs) v := by
  obtain ⟨h1, h2⟩ := hr
  obtain ⟨b, hv⟩ : ∃ b, v = .slice b xs.length xs.length := by
    rcases h2 with h2 | h2 | h2
    · cases h2
    · exact h2.2
    · exact absurd h2.1 (by omega)
  refine ⟨⟨rfl, ?_⟩, .inr (.inr ⟨hs2, u, by simp [us_stamp, look_cons], hum, .inr ?_⟩)⟩
  · rcases h1.2 with ⟨h3, h4⟩ | ⟨a, cap, h3, h4, h5⟩
    · exact .inl ⟨h3, h4⟩
    · refine .inr ⟨a, cap, h3, h4, ?_⟩
      rcases he with rfl | rfl
      · exact h5
      · simp only [RepRow]
  · simp only [Ctx.own, if_true]
    exact ⟨b, hv⟩
theorem row_nil {s' es es' : Nat} {v : Value} (hr : RepC (c.own s' none 0) (env.stamp s' rowMark 1) w (.sl 1 es []) v) : RepC (c.own s' none 0) (env.stamp s' rowMark 1) w (.rsl s' es' 0 0) v := by
  have h1 := repC_one hr
  obtain ⟨_, h2⟩ := hr
  obtain ⟨b, hv⟩ : ∃ b, v = .slice b 0 0 := by
    rcases h2 with h2 | h2 | h2
    · cases h2
    · exact h2.2
    · exact absurd h2.1 (by omega)
  refine ⟨by simp [us_stamp, look_cons], h1, .inr ?_⟩
  simp only [Ctx.own, if_true]
  exact ⟨trivial, trivial, b, hv⟩

theorem St.setTm (h : St c env a w) {t : Nat} {d : D} (hd : RepT c env w d (a.tmps.getD t undef)) : St c { env with tm := (t, d) :: env.tm } a w := by
  refine ⟨h.nt, h.df, fun t' d' hd' => ?_, h.wt, h.bx, h.mp, h.inj, h.above, h.lt, h.ownInj, h.ownAbove, h.im, h.im0, h.imNew, h.base, h.gh, h.rw⟩
  rw [look_cons] at hd'
  split at hd'
  · rename_i e; subst e; cases hd'; exact hd
  · exact h.tm t' d' hd'
theorem all2_setN {α β : Type} {R : α → β → Prop} : ∀ {xa : List α} {bs : List β} {i : Nat} {x : α}, All2 R xa bs → (∀ y, bs[i]? = some y → R x y) → All2 R (xa.set i x) bs
  | [], [], _, _, _, _ => trivial
  | _ :: _, _ :: _, 0, x, h, hx => ⟨hx _ rfl, h.2⟩
  | _ :: _, _ :: _, i + 1, x, h, hx => ⟨h.1, all2_setN h.2 fun y hy => hx y (by simpa using hy)⟩
  | [], _ :: _, _, _, h, _ => h.elim
  | _ :: _, [], _, _, h, _ => h.elim
theorem St.kill (h : St c env a w) {st : Nat} : St c { env with dd := st :: env.dd } a w := by
  have S : Step c env w c { env with dd := st :: env.dd } w :=
    .of (Keeps.refl _ _) (fun _ h => ⟨h, rfl⟩) (fun _ h => ⟨h, rfl⟩) (fun _ _ h => h) (fun _ h => List.mem_cons_of_mem _ h) (fun _ _ _ => ⟨rfl, fun _ _ => ⟨rfl, fun _ h => h⟩⟩) (fun _ _ hl => ⟨hl.1, fun e => hl.2 (List.mem_cons_of_mem _ e)⟩)
  have hl : ∀ s0, Env.live { env with dd := st :: env.dd } s0 → env.live s0 := fun s0 hs => ⟨hs.1, fun e => hs.2 (List.mem_cons_of_mem _ e)⟩
  exact ⟨h.nt, h.df, fun t d hd => S.repT (h.tm t d hd), fun t d hd => (h.wt t d hd).step S, fun s b hs => (h.bx s b hs).step S rfl rfl (fun _ h => h), fun s m hs => (h.mp s m hs).step S rfl rfl (fun _ h => h), h.inj, h.above, h.lt,
    fun s1 s2 g h1 h2 => h.ownInj s1 s2 g (hl _ h1) (hl _ h2), fun s1 g h1 => h.ownAbove s1 g (hl _ h1), h.im, h.im0, h.imNew, h.base, ⟨h.gh.1, S.fix h.gh.2⟩, h.rows S⟩

theorem look_filter_ne {α : Type} {q : Nat → Bool} {t : Nat} (hq : q t = false) : ∀ {l : List (Nat × α)}, look t (l.filter fun p => q p.1) = none
  | [] => rfl
  | (k, y) :: l => by
    cases hk : q k with
    | true =>
      rw [List.filter_cons_of_pos (by simpa using hk), look_cons, if_neg]
      · exact look_filter_ne hq
      · rintro rfl; rw [hq] at hk; cases hk
    | false => rw [List.filter_cons_of_neg (by simpa using hk)]; exact look_filter_ne hq
theorem look_filter {α : Type} {q : Nat → Bool} {t : Nat} {d : α} : ∀ {l : List (Nat × α)}, look t (l.filter fun p => q p.1) = some d → look t l = some d
  | [], h => h
  | (s, x) :: l, h => by
    rw [look_cons]
    by_cases e : s = t
    · subst e
      rw [if_pos rfl]
      cases hq : q s with
      | true =>
        rw [List.filter_cons_of_pos (by simpa using hq), look_cons, if_pos rfl] at h
        exact h
      | false => rw [look_filter_ne hq] at h; cases h
    · rw [if_neg e]
      cases hq : q s with
      | true =>
        rw [List.filter_cons_of_pos (by simpa using hq), look_cons, if_neg e] at h
        exact look_filter h
      | false =>
        rw [List.filter_cons_of_neg (by simpa using hq)] at h
        exact look_filter h
theorem St.setCell (h : St c env a w) {s i : Nat} {b : BoxC} {d0 d : D} (hl : look s env.bx = some b) (hi : b.cells[i]? = some d0) (hr : ∀ v, RepC c env w d0 v → RepC c env w d v) :
    St c { env with bx := (s, { b with cells := b.cells.set i d }) :: env.bx } a w := by
  have hbk : ∀ s1, (look s1 ((s, { b with cells := b.cells.set i d }) :: env.bx)).isSome = (look s1 env.bx).isSome := fun s1 => by
    rw [look_cons]; split
    · rename_i e; subst e; rw [hl]; rfl
    · rfl
  have S2 : Step c env w c { env with bx := (s, { b with cells := b.cells.set i d }) :: env.bx } w :=
    .of (Keeps.refl _ _) (fun s1 h' => ⟨by rw [hbk]; exact h', rfl⟩) (fun _ h' => ⟨h', rfl⟩) (fun _ _ h => h) (fun _ h => h) (fun _ _ _ => ⟨rfl, fun _ _ => ⟨rfl, fun _ h => h⟩⟩)
  have hblk : ∀ s1, Env.blk { env with bx := (s, { b with cells := b.cells.set i d }) :: env.bx } s1 ↔ env.blk s1 := fun s1 => by
    unfold Env.blk; simp only [hbk]
  refine ⟨h.nt, h.df, fun t d hd => S2.repT (h.tm t d hd), fun t d hd => (h.wt t d hd).step S2, ?_, fun s m hs => (h.mp s m hs).step S2 rfl rfl (fun _ h => h), fun s1 s2 k1 k2 e => h.inj s1 s2 ((hblk _).1 k1) ((hblk _).1 k2) e, fun s1 k1 => h.above s1 ((hblk _).1 k1), fun s1 k1 => h.lt s1 ((hblk _).1 k1), h.ownInj,
    fun st g hl hg => ⟨(h.ownAbove st g hl hg).1, (h.ownAbove st g hl hg).2.1, fun s1 k1 => (h.ownAbove st g hl hg).2.2 s1 ((hblk _).1 k1)⟩, h.im, h.im0, h.imNew, h.base, ⟨h.gh.1, S2.fix h.gh.2⟩, h.rows S2⟩
  intro s1 b' hs'
  rw [look_cons] at hs'
  split at hs'
  · rename_i e; subst e; cases hs'
    obtain ⟨vs, e, k1, k2, k3, k4⟩ := h.bx s b hl
    refine ⟨vs, e, k1, ?_, k3, k4⟩
    refine All2.mono (fun _ _ => S2.repC) (all2_setN k2 fun y hy => ?_)
    obtain ⟨y', hy', hq⟩ := k2.get i _ hi
    rw [hy] at hy'; cases hy'
    exact hr y hq
  · exact (h.bx s1 b' hs').step S2 rfl rfl (fun _ h => h)
theorem St.adj1 (h : St c env a w) {s' : Nat} (hs2 : 2 ≤ s') {x : Adj} {env' : Env} (he : adj1 env s' x = some env') : ∃ c', c.Next c' ∧ St c' env' a w := by
  have hrow : ∀ {c1 : Ctx} {env1 : Env} {u es : Nat}, es ≠ 0 → look s' env1.us = some rowMark → c1.σ s' = none → RowOK c1 env1 w s' ⟨u, es, [], false⟩ := fun h1 h2 h3 => ⟨hs2, h2, .inr ⟨Nat.pos_of_ne_zero h1, by rw [h3]⟩⟩
  cases x with
  | nilT t u es =>
    simp only [Fw.adj1] at he
    split at he
    · rename_i es0 xs0 hl
      cases hb : ((Nat.beq es0 es || xs0.isEmpty) && (!Nat.beq u rowMark && env.fresh s')) with
      | false => rw [hb] at he; cases he
      | true =>
        rw [hb, cond_true] at he
        cases he
        simp only [Bool.and_eq_true, Bool.or_eq_true, nbeq, List.isEmpty_iff, Bool.not_eq_true', nbeq_f] at hb
        obtain ⟨hbe, hum, hb⟩ := hb
        obtain ⟨f1, f2, f3⟩ := fresh_spec hb
        obtain ⟨h1, S⟩ := h.nilStamp (u := u) f2 ⟨f3, f1⟩
        refine ⟨c.own s' none 0, ⟨rfl, rfl, rfl⟩, ?_⟩
        have := S.repT (h.tm t _ hl)
        exact h1.setTm (t := t) (nil_own hs2 hum hbe this)
    · cases he
  | rowT t u es =>
    simp only [Fw.adj1] at he
    split at he
    · rename_i es0 hl
      cases hb : (!Nat.beq es 0 && env.fresh s') with
      | false => rw [hb] at he; cases he
      | true =>
        rw [hb, cond_true] at he
        cases he
        simp only [Bool.and_eq_true, Bool.not_eq_true', nbeq_f] at hb
        obtain ⟨f1, f2, f3⟩ := fresh_spec hb.2
        obtain ⟨h1, S⟩ := h.nilStamp (u := rowMark) f2 ⟨f3, f1⟩
        obtain ⟨h2, S2⟩ := h1.addRow (r := ⟨u, es, [], false⟩) (hrow hb.1 (by simp [us_stamp, look_cons]) (by simp [Ctx.own]))
        refine ⟨c.own s' none 0, ⟨rfl, rfl, rfl⟩, ?_⟩
        have := S.repT (h.tm t _ hl)
        exact h2.setTm (t := t) (S2.repC (row_nil this))
    · cases he
  | nilB s i u es =>
    simp only [Fw.adj1] at he
    split at he
    · rename_i b hl
      split at he
      · rename_i es0 xs0 hi
        cases hb : ((Nat.beq es0 es || xs0.isEmpty) && (!Nat.beq u rowMark && env.fresh s')) with
        | false => rw [hb] at he; cases he
        | true =>
          rw [hb, cond_true] at he
          cases he
          simp only [Bool.and_eq_true, Bool.or_eq_true, nbeq, List.isEmpty_iff, Bool.not_eq_true', nbeq_f] at hb
          obtain ⟨hbe, hum, hb⟩ := hb
          obtain ⟨f1, f2, f3⟩ := fresh_spec hb
          obtain ⟨h1, S⟩ := h.nilStamp (u := u) f2 ⟨f3, f1⟩
          exact ⟨c.own s' none 0, ⟨rfl, rfl, rfl⟩, h1.setCell hl hi fun v hv => nil_own hs2 hum hbe hv⟩
      · cases he
    · cases he
  | rowB s i u es =>
    simp only [Fw.adj1] at he
    split at he
    · rename_i b hl
      split at he
      · rename_i es0 hi
        cases hb : (!Nat.beq es 0 && env.fresh s') with
        | false => rw [hb] at he; cases he
        | true =>
          rw [hb, cond_true] at he
          cases he
          simp only [Bool.and_eq_true, Bool.not_eq_true', nbeq_f] at hb
          obtain ⟨f1, f2, f3⟩ := fresh_spec hb.2
          obtain ⟨h1, S⟩ := h.nilStamp (u := rowMark) f2 ⟨f3, f1⟩
          obtain ⟨h2, S2⟩ := h1.addRow (r := ⟨u, es, [], false⟩) (hrow hb.1 (by simp [us_stamp, look_cons]) (by simp [Ctx.own]))
          exact ⟨c.own s' none 0, ⟨rfl, rfl, rfl⟩, h2.setCell hl hi fun v hv => row_nil (es := es0) hv⟩
      · cases he
    · cases he
  | kill st => cases he; exact ⟨c, .refl c, h.kill⟩
  | drop t => cases he; exact ⟨c, .refl c, h.setTm trivial⟩
  | keep n =>
    cases he
    refine ⟨c, .refl c, ⟨h.nt, h.df, fun t d hd => h.tm t d (look_filter (q := fun t => Nat.blt t n) hd), h.wt, h.bx, h.mp, h.inj, h.above, h.lt, h.ownInj, h.ownAbove, h.im, h.im0, h.imNew, h.base, h.gh, h.rw⟩⟩
  | sealT t =>
    simp only [Fw.adj1] at he
    split at he
    · rename_i s hl
      cases hc : capD env.bx [] (.loc s 0) with
      | none => rw [hc] at he; cases he
      | some p =>
        rw [hc] at he
        simp only at he
        cases hf : Fw.frzB env.bx [s] with
        | none => rw [hf] at he; cases he
        | some bx =>
          rw [hf] at he
          cases he
          obtain ⟨c2, n2, h2, S2, hb2⟩ := h.frzB (ss := [s]) (bx := bx) hf
          refine ⟨c2, n2, ?_⟩
          obtain ⟨hs, hv⟩ := repT_loc (h.tm t _ hl)
          have hρ : c2.ρ s = c.ρ s := (S2.bx s hs).2
          refine h2.setTm (t := t) ?_
          have := rep_sealed (env := env) h2 hc fun b hb => by
            obtain ⟨b', k1, k2, k3, k4⟩ := hb2 s b hb
            exact ⟨b', k1, k2, k3, k4 (.inr (by simp))⟩
          rw [hv, ← hρ]
          obtain ⟨b, cs, _, _, _, rfl⟩ := capD_spec hc
          simp only [RepT, RepV, RepC]
          exact this
    · cases he
theorem St.adj : ∀ {N : List Adj} {k : Nat} {c : Ctx} {env env' : Env}, St c env a w → adjW N k env = some env' → ∃ c', c.Next c' ∧ St c' env' a w
  | [], _, c, env, env', h, he => by cases he; exact ⟨c, .refl c, h⟩
  | x :: N, k, c, env, env', h, he => by
    simp only [adjW] at he
    cases h1 : Fw.adj1 env (2 * (env.nt + k) + 3) x with
    | none => rw [h1] at he; cases he
    | some env1 =>
      rw [h1] at he
      obtain ⟨c1, n1, s1⟩ := h.adj1 (by omega) h1
      obtain ⟨c2, n2, s2⟩ := St.adj s1 he
      exact ⟨c2, n1.trans n2, s2⟩
theorem bif_some {b : Bool} {x y : Env} (h : (bif b then some x else none) = some y) : x = y := by
  cases b
  · cases h
  · exact Option.some.inj h
theorem adj1_ys {s' : Nat} {x : Adj} {env' : Env} (he : adj1 env s' x = some env') : env'.ys = env.ys := by
  unfold adj1 at he
  repeat' split at he
  all_goals first
    | (have := bif_some he; subst this; rfl)
    | (cases he; rfl)
    | cases he
theorem adjW_ys : ∀ {N : List Adj} {k : Nat} {env env' : Env}, adjW N k env = some env' → env'.ys = env.ys
  | [], _, env, env', he => by cases he; rfl
  | x :: N, k, env, env', he => by
    simp only [adjW] at he
    cases h1 : adj1 env (2 * (env.nt + k) + 3) x with
    | none => rw [h1] at he; cases he
    | some env1 => rw [h1] at he; exact (adjW_ys he).trans (adj1_ys h1)
end Go.Proofs.YtnooelecdbbfkaaGreatDoor.Fw

/- Code does what its evaluation over data says; calls. -/
namespace Go.Proofs.YtnooelecdbbfkaaGreatDoor.Fw
open Go Go.RowKit
set_option linter.unusedSectionVars false
variable [Inhabited GLT]

theorem exists_least {p : Nat → Prop} : ∀ (n : Nat), p n → ∃ m, p m ∧ ∀ k, p k → m ≤ k := by
  intro n
  induction n using Nat.strongRecOn with
  | _ n ih =>
    intro hn
    by_cases h : ∃ m, m < n ∧ p m
    · obtain ⟨m, h1, h2⟩ := h; exact ih m h1 h2
    · exact ⟨n, hn, fun k hk => Nat.le_of_not_lt fun hlt => h ⟨k, hlt, hk⟩⟩

theorem wpIn_loop_n {F : Fence} {n : Nat} {P : Program} {Q : Exit → Act → World → Prop} {a : Act} {w : World} {c : Code} (J : Nat → Act → World → Prop) (n0 : Nat) (h0 : J n0 a w)
    (round : ∀ m a w, J m a w → ∃ m', m' < m ∧ c.wpIn F n P (Exit.then (fun a' w' => J m' a' w') Q) a w) : (Code.loop c).wpIn F n P Q a w := by
  let μ : Act → World → Nat := fun a w => Classical.epsilon fun m => J m a w ∧ ∀ k, J k a w → m ≤ k
  have hμ : ∀ a w, (∃ m, J m a w) → J (μ a w) a w ∧ ∀ k, J k a w → μ a w ≤ k := fun a w ⟨m, hm⟩ => Classical.epsilon_spec (p := fun m => J m a w ∧ ∀ k, J k a w → m ≤ k) (exists_least m hm)
  refine wpIn_loop (fun a w => ∃ m, J m a w) μ ⟨n0, h0⟩ fun a w hI => ?_
  obtain ⟨m', hlt, hw⟩ := round _ a w (hμ a w hI).1
  refine wpIn_mono hw fun e a' w' hq => ?_
  cases e with
  | normal => exact ⟨⟨m', hq⟩, Nat.lt_of_le_of_lt ((hμ a' w' ⟨m', hq⟩).2 m' hq) hlt⟩
  | _ => exact hq

section
variable {P : Program} {T : Ty} {rr : Option Nat} {n : Nat}

/-- Code does what its evaluation says. -/
def Sound (P : Program) (T : Ty) (code : Code) : Prop :=
  ∀ (rr : Option Nat) (n : Nat) {c : Ctx} {env : Env} {a : Act} {w : World} {K0 : Exit → Env → Prop} {Q : Exit → Act → World → Prop}, St c env a w → GYield P c.w0 → rr = c.w0.lp → ev P T code env K0 →
    (∀ e env' c' a' w', K0 e env' → c.Grow c' → St c' env' a' w' → Q e a' w') → code.wpIn (Fr rr) n P Q a w

theorem look_mid {t p : Nat} {y : D} {tm0 : List (Nat × D)} : ∀ (ps : List Nat) (x : List D), p ∉ ps → look t (ps.zip x ++ (p, y) :: tm0) = look t ((p, y) :: (ps.zip x ++ tm0))
  | [], _, _ => rfl
  | _ :: _, [], _ => rfl
  | q :: ps, z :: x, h => by
    have ih := look_mid (t := t) (p := p) (y := y) (tm0 := tm0) ps x (fun e => h (by simp [e]))
    have hne : p ≠ q := fun e => h (by simp [e])
    rw [List.zip_cons_cons, List.cons_append, List.cons_append, look_cons, ih, look_cons, look_cons, look_cons]
    by_cases e1 : q = t
    · rw [if_pos e1, if_neg (fun e => hne (e.trans e1.symm)), if_pos e1]
    · rw [if_neg e1, if_neg e1]
theorem zip_look {w : World} {c : Ctx} {env : Env} : ∀ (ps : List Nat) (x : List D) (vs : List Value) (tm0 : List (Nat × D)) (ts : Array Value), (∀ t d, look t tm0 = some d → RepT c env w d (ts.getD t undef)) → distinct ps = true → (∀ p ∈ ps, p < ts.size) → All2 (Rep c.I w) x vs →
    ∀ t d, look t (ps.zip x ++ tm0) = some d → RepT c env w d (((ps.zip vs).foldl (fun t (q : Nat × Value) => t.setIfInBounds q.1 q.2) ts).getD t undef)
  | [], _, _, _, _, h0, _, _, _, t, d, h => h0 t d h
  | _ :: _, [], [], _, _, h0, _, _, _, t, d, h => h0 t d h
  | _ :: _, _ :: _, [], _, _, _, _, _, hv, _, _, _ => hv.elim
  | _ :: _, [], _ :: _, _, _, _, _, _, hv, _, _, _ => hv.elim
  | p :: ps, y :: x, v :: vs, tm0, ts, h0, hd, hp, hv, t, d, h => by
    simp only [distinct, Bool.and_eq_true, Bool.not_eq_true'] at hd
    have hlt := hp p (by simp)
    simp only [List.zip_cons_cons, List.cons_append] at h
    rw [← look_mid ps x (by simpa using hd.1)] at h
    simp only [List.zip_cons_cons, List.foldl_cons]
    refine zip_look ps x vs ((p, y) :: tm0) (ts.setIfInBounds p v) (fun t d h => ?_) hd.2 (fun q hq => by simpa using hp q (by simp [hq])) hv.2 t d h
    rw [look_cons] at h
    rw [Array.getD_eq_getD_getElem?, Array.getElem?_setIfInBounds]
    split at h
    · rename_i e; subst e; cases h
      rw [if_pos rfl, if_pos hlt]
      exact rep_repT hv.1
    · rename_i e
      rw [if_neg e, ← Array.getD_eq_getD_getElem?]
      exact h0 t d h
theorem zip_foldl_size : ∀ (l : List (Nat × Value)) (ts : Array Value), (l.foldl (fun t (q : Nat × Value) => t.setIfInBounds q.1 q.2) ts).size = ts.size
  | [], _ => rfl
  | q :: l, ts => by rw [List.foldl_cons, zip_foldl_size l]; simp

theorem seqEv_tm {B : Env → (Exit → Env → Prop) → Prop} {ps : List Nat} {nt0 : Nat} {tm0 : List (Nat × D)} {bs ms : List Nat} {ys : Option (Nat × List (List D))} {xs : List (List D)} {env : Env} {Q : Exit → Env → Prop} (k : Nat) (h : seqEv B ps nt0 tm0 bs ms ys xs env Q) : seqEv B ps nt0 tm0 bs ms ys xs { env with nt := k, tm := [], wt := [] } Q := by
  cases xs <;> exact h

theorem range_sound {g : Operand} {ps : Array Tmp} {asg body : Code} (hasg : Sound P T asg) (hbody : Sound P T body) : Sound P T (.rangeFunc g ps asg body) := by
  intro rr n c env a w K0 Q h hG hrr hd hK
  simp only [ev] at hd
  obtain ⟨N, hd⟩ := hd
  cases hN : adjW N 0 env with
  | none => rw [hN] at hd; exact hd.elim
  | some env0 =>
  rw [hN] at hd
  simp only [fE_iff, evRange, fN_iff] at hd
  obtain ⟨c0, n0, h0⟩ := h.adj hN
  replace hK : ∀ e env' c' a' w', K0 e env' → c0.Grow c' → St c' env' a' w' → Q e a' w' := fun e env' c' a' w' k1 k2 k3 => hK e env' c' a' w' k1 (n0.grow.trans k2) k3
  replace hG := hG.grow n0.grow
  replace hrr : rr = c0.w0.lp := hrr.trans n0.grow.lp.symm
  clear h hN
  clear n0
  revert hK
  revert hrr
  revert hG
  revert h0
  revert hd
  generalize env0 = env
  generalize c0 = c
  intro hd h hG hrr hK
  have hX := rep_tvX h g
  cases hg : tv env.wt env.tm g <;> rw [hg] at hd hX <;> (try simp only at hd) <;> first | exact hd.elim | skip
  rename_i f caps
  have hX : RepT c env w (.fn f caps) (a.eval g) := hX
  obtain ⟨cvs, hgv, hcaps⟩ : ∃ vs : List Value, a.eval g = .func (.func f) #[] ⟨vs⟩ ∧ RepL c.I w caps vs := by simpa [RepT, RepV, RepC, Rep] using hX
  cases hps : (distinct ps.toList && ps.toList.all fun p => Nat.blt p env.nt) with
  | false => rw [hps] at hd; exact hd.elim
  | true =>
  rw [hps] at hd
  simp only [fN_iff, fE_iff] at hd
  simp only [Bool.and_eq_true, List.all_eq_true, Nat.blt_eq] at hps
  obtain ⟨hdis, hpl⟩ := hps
  cases hc : canonW (keysL env.tm) (keysOf env.bx) (keysOf env.mp) (stampsIn [] (keysOf env.bx) env) env with
  | none => rw [hc] at hd; exact hd.elim
  | some env1 =>
  rw [hc] at hd
  obtain ⟨xs, hit, hseq⟩ := hd
  obtain ⟨c1, n1, h1, hρ1, hI1, hbx1, hmp1, hown1, hnt1, hys1, hbig1⟩ := h.canonW' hc h.covers
  obtain ⟨⟨fnn, hfn, hname, hbdy⟩, hit⟩ := hit
  have hgl0 : GlobW P c.I0 c.w0.wd := hG.2.2 _ _ _ _ h.gh.1
  have hgl : GlobW P c.I w := hG.glob h
  have hcovs := h.covers
  revert hseq hbx1 hmp1 hcovs
  generalize keysOf env.bx = bs
  generalize keysOf env.mp = ms
  intro hseq hbx1 hmp1 hcovs
  have htm0 : ∀ t d, look t (env1.tm.map fun p => (p.1, dstD p.2)) = some d → ∃ d0, d = dstD d0 ∧ look t env1.tm = some d0 := by
    intro t d hl
    generalize env1.tm = l at hl ⊢
    induction l with
    | nil => simp [look] at hl
    | cons p l ih =>
      obtain ⟨k, x⟩ := p
      rw [List.map_cons, look_cons] at hl
      rw [look_cons]
      split at hl
      · rename_i e; cases hl; exact ⟨x, rfl, by rw [if_pos e]⟩
      · rename_i e; rw [if_neg e]; exact ih hl
  have hdst : ∀ t d, look t (env1.tm.map fun p => (p.1, dstD p.2)) = some d → ∃ d0, d = dstD d0 := fun t d hl => by
    obtain ⟨d0, e, _⟩ := htm0 t d hl; exact ⟨d0, e⟩
  have htmR : ∀ t d, look t (env1.tm.map fun p => (p.1, dstD p.2)) = some d → RepT c1 env1 w d (a.tmps.getD t undef) := fun t d hl => by
    obtain ⟨d0, rfl, hl0⟩ := htm0 t d hl
    exact dstD_rep (h1.tm t d0 hl0)
  have hnt : a.tmps.size = env1.nt := h1.nt
  revert hseq htm0 hdst htmR
  generalize env1.tm.map (fun p => (p.1, dstD p.2)) = tm0
  intro hseq _ hdst htmR
  generalize hB : (fun (env : Env) (K : Exit → Env → Prop) => ev P T asg env fun e env => match e with
            | .normal => ev P T body env K
            | _ => False) = B at hseq
  refine wpIn_rangeFunc fun fn hfnn => ?_
  obtain ⟨l, mks', dd, w1, hrun, hb1, hl1, hlw, hmk, hnd⟩ : ∃ (l : Nat) (mks' : List Nat) (dd : Nat) (w1 : World), (Instr.enterLoop fn a.tmps ps asg body (Fr rr).round).run P w = .ok (l, mks'.map markOf) w1 ∧ Below w.heap.size w w1 ∧ w1.heap[l]? = some (.loop { state := .ready, pending := none, fn := fn, tmps := a.tmps, params := ps, assign := asg, body := body, defers := dd }) ∧ w.heap.size ≤ l ∧
      (∀ k ∈ mks', w1.heap[k]? = some (.deferred (some [])) ∧ w.heap.size ≤ k ∧ k ≠ l) ∧ mks'.Nodup ∧ (rr.isSome = true → mks' = []) := by
    cases rr with
    | none =>
      refine ⟨w.heap.size + 1, [w.heap.size], w.heap.size, _, run_enterLoop_outer fn a.tmps ps asg body, ((Below.refl _ w).alloc (Nat.le_refl _) _).alloc (by simp) _, ?_, by omega, fun k hk => ?_, by simp, by simp⟩
      · have := World.alloc_heap_new (w.alloc (.deferred (some []))) (.loop { state := .ready, pending := none, fn := fn, tmps := a.tmps, params := ps, assign := asg, body := body, defers := w.heap.size }); rwa [World.size_alloc] at this
      · obtain rfl : k = w.heap.size := by simpa using hk
        exact ⟨(Below.heap_alloc _ _ _ (by simp)).trans (World.alloc_heap_new w _), Nat.le_refl _, by omega⟩
    | some l0 =>
      obtain ⟨_, r0, hr0⟩ := h.base.loop l0 hrr.symm
      exact ⟨w.heap.size, [], r0.defers, _, run_enterLoop_inner hr0 fn a.tmps ps asg body, (Below.refl _ w).alloc (Nat.le_refl _) _, World.alloc_heap_new w _, Nat.le_refl _, fun k hk => (by cases hk), List.nodup_nil, fun _ => rfl⟩
  obtain ⟨hnd, hmkn⟩ := hnd
  have e1 : (#[.func (.yield l) #[] #[]] : Array Value) ++ (⟨cvs⟩ : Array Value) = ⟨.func (.yield l) #[] #[] :: cvs⟩ := by apply Array.ext'; simp
  refine ⟨l, mks'.map markOf, w1, { target := .fn (.func f) ⟨cvs⟩, args := #[.func (.yield l) #[] #[]] }, w1, f, ⟨.func (.yield l) #[] #[] :: cvs⟩, w1, hrun, ?_, fun _ _ => trivial, ?_, fun h => (by cases h), ?_⟩
  · simp only [resolve, rangeCall, hgv]
    simp [go_sem]
  · have hb : fnn.body ≠ none := fun e => by rw [e] at hbdy; cases hbdy
    simp only [invoke, callFunc]
    rw [e1]
    simp [hfn, hname, hb]
  have hlt1 : l < w1.heap.size := (Array.getElem?_eq_some_iff.1 hl1).1
  generalize hr1 : ({ c.w0 with mks := mks' ++ c.w0.mks } : Root) = r1
  have hr1off : ∀ k, r1.off k ↔ c.w0.off k ∧ k ∉ mks' := fun k => by subst hr1; simp [Root.off]; constructor <;> (rintro ⟨x, y⟩; simp_all)
  have hbase1 : BaseF r1 w1 := by
    subst hr1
    have hb := h.base.below hb1
    refine ⟨hb.os, hb.tape, hb.output, hb.grow, hb.lt, hb.block, fun k hk => ?_, ?_, fun k hk => ?_, hb.loop⟩
    · rcases List.mem_append.1 hk with hk | hk
      · exact (hmk k hk).1
      · exact hb.marks k hk
    · refine List.nodup_append.2 ⟨hnd, hb.nodup, fun x hx y hy e => ?_⟩
      subst e
      have := h.base.below_of (off_of_mk hy)
      have := (hmk x hx).2.1
      omega
    · rcases List.mem_append.1 hk with hk | hk
      · intro hf
        have := h.base.below_of (off_of_far hf)
        have := (hmk k hk).2.1
        omega
      · exact hb.disj k hk
  have hK1 : Keeps c.I c.I w w1 := ⟨fun _ _ x => x, fun ad u hi hu => (World.cell?_of_block (hb1.block _ (h.im _ _ hi))).trans hu, fun r es k hi hr => (hb1.block _ (h.im _ _ hi)).trans hr⟩
  generalize hrec : (fun (st : LoopState) (pe : Option Code) => ({ state := st, pending := pe, fn := fn, tmps := a.tmps, params := ps, assign := asg, body := body, defers := dd } : Loop)) = rc
  have hrc : ∀ st pe, rc st pe = { state := st, pending := pe, fn := fn, tmps := a.tmps, params := ps, assign := asg, body := body, defers := dd } := fun st pe => by rw [← hrec]
  have hl1 : w1.heap[l]? = some (.loop (rc .ready none)) := by rw [hrc]; exact hl1
  have hr1l : r1.off l := (hr1off l).2 ⟨h.base.new hlw, fun hk => (hmk l hk).2.2 rfl⟩
  refine fr_calls.2 (Calls.mono (hit l (fun ys O I W => ∃ c' env', Held c r1 c1.ρ bs ms tm0 a.tmps l (rc .ready none) O I W c' env' ∧ seqEv B ps.toList env1.nt tm0 bs ms env.ys ys env' K0)
    (fun O I W => ∃ c' env' e jump, Held c r1 c1.ρ bs ms tm0 a.tmps l (rc .done (some jump)) O I W c' env' ∧ ((jump = .ret ∧ e = .ret) ∨ ∃ i, jump = .exit i ∧ e = .exit i) ∧ K0 e { env' with nt := env1.nt, tm := tm0, wt := [], ys := env.ys })
    c.I w1 cvs ⟨fun b o x => Nat.lt_of_lt_of_le (h.im b o x) hb1.size, hgl.keeps hK1⟩ (RepL.keeps hK1 _ _ hcaps) ?_ ?_ ?_ ?_) ?_)
  · rintro ys O I W O' I' W' ⟨c', env', hh, hs⟩ st
    obtain ⟨c2, hh2⟩ := hh.step hdst st
    exact ⟨c2, env', hh2, hs⟩
  · rintro O I W O' I' W' ⟨c', env', e, jump, hh, hj, hs⟩ st
    obtain ⟨c2, hh2⟩ := hh.step hdst st
    exact ⟨c2, env', e, jump, hh2, hj, hs⟩
  · -- one round
    rintro x ys O I W vs n' ⟨c', env', hh, hs⟩ hx hval
    simp only [seqEv] at hs
    cases hlen : Nat.beq x.length ps.toList.length with
    | false => rw [hlen] at hs; exact hs.elim
    | true =>
    rw [hlen] at hs
    have hlen := Nat.eq_of_beq_eq_true hlen
    have hs := (fE_iff _ _).1 hs
    have hvl : vs.length = ps.size := by rw [← (all2_repL.1 hx).length, hlen]; simp
    have hy := run_yield (P := P) (args := ⟨vs⟩) hh.rcd (by rw [hrc]; simpa using hvl)
    rw [hrc] at hy
    refine ⟨fn, _, asg, body, hy, roundIn_of_wpIn trivial ?_⟩
    have hfold : ((ps.zip (⟨vs⟩ : Array Value)).foldl (fun tmps (t, a) => tmps.setIfInBounds t a) a.tmps) = (ps.toList.zip vs).foldl (fun t (q : Nat × Value) => t.setIfInBounds q.1 q.2) a.tmps := by
      rw [← Array.foldl_toList, Array.toList_zip]
    have hent := hh.enter (ts := (ps.toList.zip vs).foldl (fun t (q : Nat × Value) => t.setIfInBounds q.1 q.2) a.tmps) (tm' := ps.toList.zip x ++ tm0) (zip_look ps.toList x vs tm0 a.tmps hh.tm hdis (fun p hp => by rw [hnt, hnt1]; exact hpl p hp) (all2_repL.1 (RepL.keeps (w' := W) (I' := c'.I) ⟨hh.sub, fun _ _ _ x => x, fun _ _ _ _ x => x⟩ _ _ hx)))
    rw [zip_foldl_size, hnt] at hent
    show asg.wpIn (Fr (some l)) n' P _ { tmps := ((ps.zip (⟨vs⟩ : Array Value)).foldl (fun tmps (t, a) => tmps.setIfInBounds t a) a.tmps), defers := [] } W
    rw [hfold]
    rw [← hB] at hs
    refine hasg (some l) n' hent (round_yield (hgl := hgl0.keeps hh.im0) ..) rfl hs ?_
    intro e envA cA aA W1 hk hgr hsA
    have hl0 : l < W.heap.size := (Array.getElem?_eq_some_iff.1 hh.rcd).1
    have hA := away_of hsA hgr.G
    have hrecA : W1.heap[l]? = some (.loop (rc .ready none)) := (away_same hsA hgr.G hl0 (fun x => (hh.off l x).2 rfl)).trans hh.rcd
    have hltA : l < W1.heap.size := (Array.getElem?_eq_some_iff.1 hrecA).1
    have hysA : envA.ys = none := by
      have := hsA.gh.1
      rw [hgr.G] at this; exact this.1
    have hdfA : aA.defers = [] := by rw [hsA.df.1, hsA.df.2, hgr.mks rfl, hgr.tl]; rfl
    have hfixA : FixAll (roundRoot bs ms c1.ρ r1.fixr l c'.I (ownB c' env') W) cA.ρ cA.σ envA W1 := ⟨fun k s b hf => hsA.gh.2.1 k s b (by rw [hgr.fix]; exact hf), fun st o ho => hsA.gh.2.2 st o (by rw [hgr.fixr]; exact ho)⟩
    cases e <;> first | exact hk.elim | skip
    show ∃ w₂, (Instr.beginRound l).run P W1 = .ok () w₂ ∧ body.wpIn (Fr (some l)) n' P (roundPost P l _) aA w₂
    refine ⟨_, run_beginRound hrecA (by rw [hrc]), ?_⟩
    have hbusy : ({ rc .ready none with state := .busy } : Loop) = rc .busy none := by rw [hrc, hrc]
    rw [hbusy]
    have hmid := hh.mid hsA hA hdfA hfixA hysA (rc .busy none) hltA
    refine hbody (some l) n' hmid (round_yield (hgl := ((hgl0.keeps hh.im0).keeps hA.keeps).keeps (away_put (envA := envA) (.loop (rc .busy none)) (hh.il_away hA)).keeps) ..) rfl hk ?_
    intro e envB cB aB W2 hk2 hgr2 hsB
    have hA2 : Away l cA envA (W1.putObj l (.loop (rc .busy none))) cB envB W2 := away_of (c' := cA) (env' := envA) hsB hgr2.G
    have hAA := (hA.trans (away_put (envA := envA) (.loop (rc .busy none)) (hh.il_away hA))).trans hA2
    have hfixB : FixAll (roundRoot bs ms c1.ρ r1.fixr l c'.I (ownB c' env') W) cB.ρ cB.σ envB W2 := ⟨fun k s b hf => hsB.gh.2.1 k s b (by rw [hgr2.fix]; exact hf), fun st o ho => hsB.gh.2.2 st o (by rw [hgr2.fixr]; exact ho)⟩
    have hrecB : W2.heap[l]? = some (.loop (rc .busy none)) := (away_same (c' := cA) (env' := envA) hsB hgr2.G (by simpa using hltA) (hh.rec_away hA)).trans (World.putObj_heap_same hltA)
    simp only [fN_iff] at hk2
    cases hc2 : canonW [] bs ms (stampsIn [] bs envB) envB with
    | none => rw [hc2] at hk2; exact hk2.elim
    | some env2 =>
    rw [hc2] at hk2
    obtain ⟨c2, n2, h2, hρ2, hI2, hbx2, hmp2, hown2, _, _, hbig2⟩ := hsB.canonW' hc2 (fun k s b hf => by
      have hf : fixOf bs ms c1.ρ k s = some b := by rw [← show cB.w0.fix = fixOf bs ms c1.ρ from hgr2.fix]; exact hf
      cases k with
      | true => simp only [fixOf] at hf; split at hf <;> first | assumption | cases hf
      | false => simp only [fixOf] at hf; split at hf <;> first | assumption | cases hf)
    have hend : ∀ jump, ({ rc .busy none with state := if jump.isNone then .ready else .done, pending := jump } : Loop) = rc (if jump.isNone then .ready else .done) jump := fun jump => by rw [hrc, hrc]
    have hback : ∀ rc', ItBack O I W (W2.putObj l (.loop rc')) ∧ ∃ c3, Held c r1 c1.ρ bs ms tm0 a.tmps l rc' O I (W2.putObj l (.loop rc')) c3 { env2 with nt := a.tmps.size, tm := [], wt := [] } := fun rc' => hh.back hdst hAA h2 hfixB hρ2 hI2 hbx2 hmp2 hown2 hbig2 rc'
    cases e with
    | normal =>
      have hk2 := (fE_iff _ _).1 hk2
      have hre := run_endRound (P := P) none hrecB
      rw [hend] at hre
      obtain ⟨hb, c3, hh3⟩ := hback (rc .ready none)
      refine ⟨_, _, hre, hb, .inl ⟨rfl, c3, _, hh3, ?_⟩⟩
      rw [hB] at hk2
      exact seqEv_tm _ hk2
    | ret =>
      have hk2 := (fE_iff _ _).1 hk2
      have hre := run_endRound (P := P) (some .ret) hrecB
      rw [hend] at hre
      obtain ⟨hb, c3, hh3⟩ := hback (rc .done (some .ret))
      exact ⟨_, _, hre, hb, .inr ⟨rfl, c3, _, _, _, hh3, .inl ⟨rfl, rfl⟩, hk2⟩⟩
    | exit i =>
      have hk2 := (fE_iff _ _).1 hk2
      have hre := run_endRound (P := P) (some (.exit i)) hrecB
      rw [hend] at hre
      obtain ⟨hb, c3, hh3⟩ := hback (rc .done (some (.exit i)))
      exact ⟨_, _, hre, hb, .inr ⟨rfl, c3, _, _, _, hh3, .inr ⟨i, rfl, rfl⟩, hk2⟩⟩
    | _ => exact hk2.elim
  · -- where it begins
    have h3 := h1.tmps (tm' := []) (ts := a.tmps) (fun t d hd => by simp [look] at hd)
    have hown : ∀ k, ownB c1 env1 k → k < w.heap.size ∧ c.w0.off k := fun k hk => ⟨ownB_lt h (hown1 k hk), ownB_off h (hown1 k hk)⟩
    have hK1' : Keeps c1.I c1.I w w1 := by rw [hI1]; exact hK1
    have hm := h3.move (I' := c1.I) (I0' := c1.I) (w' := w1) (r' := Root.free w1) (ys' := env1.ys) (df' := []) hb1.size (fun k hk => hb1.block k (hown k hk).1) hK1' (fun _ _ x => .inl x) (fun b o x => Nat.lt_of_lt_of_le (h1.im b o x) hb1.size)
      (fun k _ => Root.free_off _ k) (Root.free_base _) (Keeps.refl _ _) (fun _ _ x => .inl x) rfl ⟨trivial, Root.free_fix _ _ _ _ _⟩
    refine ⟨{ c1 with I := c1.I, w0 := Root.free w1, I0 := c1.I, df := [] }, { env1 with nt := a.tmps.size, tm := [], wt := [] }, { st := hm.1, tm := fun t d hd => ?_, base := hbase1, im0 := ?_, new := ?_, off := ?_, bx := hbx1, mp := hmp1, rho := fun _ _ => rfl, rcd := hl1, rl := hr1l, il := ?_, sub := ?_, own := fun _ _ _ x => x.elim, oo := fun _ x => x.elim, rows := fun st o ho => ?_ }, seqEv_tm _ hseq⟩
    · obtain ⟨d0, rfl⟩ := hdst t d hd
      exact dstD_move (c := c1) (env := env1) (w := w) (c' := { c1 with I := c1.I, w0 := Root.free w1, I0 := c1.I, df := [] }) (env' := { env1 with nt := a.tmps.size, tm := [], wt := [] }) (w' := w1) hK1' (fun _ x => ⟨x, rfl⟩) (fun _ x => ⟨x, rfl⟩) (htmR t _ hd)
    · show Keeps c.I0 c1.I c.w0.wd w1
      rw [hI1]; exact h.im0.trans hK1
    · intro b o x
      have x : c1.I b o := x
      rw [hI1] at x
      rcases h.imNew b o x with y | y
      · exact .inl y
      · refine .inr ((hr1off b).2 ⟨y, fun hk => ?_⟩)
        have := h.im b o x
        have := (hmk b hk).2.1
        omega
    · intro k hk
      have := hown k hk
      refine ⟨(hr1off k).2 ⟨this.2, fun hk => ?_⟩, by omega⟩
      have := (hmk k hk).2.1
      omega
    · intro o x
      have x : c1.I l o := x
      rw [hI1] at x
      have := h.im l o x
      omega
    · intro b o x
      show c1.I b o
      rw [hI1]; exact x
    · have ho' : c.w0.fixr st = some o := by subst hr1; exact ho
      obtain ⟨q1, q2⟩ := h.gh.2.2 st o ho'
      refine ⟨q1, fun hl => ?_⟩
      obtain ⟨q3, q4⟩ := hbig1 st q1 hl
      show FixR _ o (c1.σ st)
      rw [q4]
      exact fixR_same (fun g hg => hb1.block g (h.ownAbove st g q3 hg).2.1) (q2 q3)
  · -- behind it
    rintro e W3 ⟨⟨v, rfl⟩, O', I', hJ⟩
    have hfin : ∀ {rc' : Loop} {c' : Ctx} {env' : Env} (o : Obj), Held c r1 c1.ρ bs ms tm0 a.tmps l rc' O' I' W3 c' env' → ∃ cf, c.Grow cf ∧ St cf { env' with nt := env1.nt, tm := tm0, wt := [], ys := env.ys } { a with defers := mks'.map markOf ++ a.defers } (W3.putObj l o) := by
      intro rc' c' env' o hh
      have hf := hh.final (ys := env.ys) (df := mks'.map markOf ++ c.df) o (by subst hr1; rw [List.map_append, h.df.2, List.append_assoc]) (by subst hr1; exact h.gh.1) (by subst hr1; rfl) ⟨fun k s b hs => by
        have hs' : c.w0.fix k s = some b := by subst hr1; exact hs
        obtain ⟨x1, x2⟩ := h.gh.2.1 k s b hs'
        have hc := hcovs k s b hs'
        cases k with
        | true => exact ⟨(hh.bx s).2 hc, by rw [hh.rho s (.inl hc), hρ1]; exact x2⟩
        | false => exact ⟨(hh.mp s).2 hc, by rw [hh.rho s (.inr hc), hρ1]; exact x2⟩, hh.rows⟩
      have ea : ({ tmps := a.tmps, defers := mks'.map markOf ++ c.df } : Act) = { a with defers := mks'.map markOf ++ a.defers } := by rw [h.df.1]
      rw [ea, hnt] at hf
      refine ⟨_, ?_, hf⟩
      subst hr1
      exact ⟨rfl, rfl, rfl, rfl, rfl, fun x => by rw [hmkn (by rw [hrr]; exact x)]; rfl⟩
    rcases hJ with ⟨c', env', hh, hs⟩ | ⟨c', env', e, jump, hh, hj, hs⟩
    · have hs := (fE_iff _ _).1 hs
      have hre := run_endLoop (P := P) hh.rcd (by rw [hrc]; simp)
      obtain ⟨cf, hgf, hf⟩ := hfin (.loop { rc .ready none with state := .exhausted }) hh
      refine ⟨(rc .ready none).pending, _, hre, ?_⟩
      have hp : (rc .ready none).pending = none := by rw [hrc]
      split
      · exact hK _ _ _ _ _ hs hgf hf
      · rename_i heq; rw [hp] at heq; cases heq
    · have hre := run_endLoop (P := P) hh.rcd (by rw [hrc]; simp)
      obtain ⟨cf, hgf, hf⟩ := hfin (.loop { rc .done (some jump) with state := .exhausted }) hh
      refine ⟨(rc .done (some jump)).pending, _, hre, ?_⟩
      have hp : (rc .done (some jump)).pending = some jump := by rw [hrc]
      split
      · rename_i heq; rw [hp] at heq; cases heq
      · rename_i j heq
        rw [hp] at heq
        obtain rfl := Option.some.inj heq
        rcases hj with ⟨rfl, rfl⟩ | ⟨i, rfl, rfl⟩
        · exact wpIn_ret (hK _ _ _ _ _ hs hgf hf)
        · exact wpIn_exit (hK _ _ _ _ _ hs hgf hf)

theorem ev_sound (hT : TyOK P T) (hmo : P.follows .mixedOrders = true) : ∀ (code : Code), Sound P T code := by
  intro code
  induction code with
  | skip => intro rr n c env a w K0 Q h hG hrr hd hK; exact wpIn_skip (hK _ _ _ _ _ hd (.refl c) h)
  | region id ops draw =>
    intro rr n c env a w K0 Q h hG hrr hd hK
    cases draw with
    | true => exact draw_sound hT hmo h hG hd fun env' c' a' w' hk hn hs => hK _ _ _ _ _ hk hn hs
    | false =>
      have hd : fE env.end fun env => evOps P T ops ops.toList env fun env' => K0 .normal env' := hd
      refine wpIn_region ?_
      refine evOps_sound hT (os := ops.toList) ?_ h.end hG ((fE_iff _ _).1 hd) fun env' c' a' w' hk hn hs => hK _ _ _ _ _ hk hn hs
      have : ∀ (l : List Oper) (i : Nat), (∀ k o, l[k]? = some o → ops[i + k]? = some o) → All2 (fun o j => ops[j]? = some o) l (List.range' i l.length) := by
        intro l
        induction l with
        | nil => intro i _; exact trivial
        | cons o l ih =>
          intro i hl
          refine ⟨by simpa using hl 0 o rfl, ?_⟩
          exact ih (i + 1) fun k o' hk => by rw [show i + 1 + k = i + (k + 1) from by omega]; exact hl (k + 1) o' (by simpa using hk)
      have h2 := this ops.toList 0 (fun k o hk => by simpa using hk)
      rw [List.range_eq_range']
      simpa using h2
  | seq x y ihx ihy =>
    intro rr n c env a w K0 Q h hG hrr hd hK
    refine wpIn_seq (ihx rr n h hG hrr hd fun e env' c' a' w' hk hn hs => ?_)
    cases e with
    | normal => exact ihy rr n hs (hG.grow hn) (hrr.trans hn.lp.symm) hk fun e2 env2 c2 a2 w2 hk2 hn2 hs2 => hK _ _ _ _ _ hk2 (hn.trans hn2) hs2
    | _ => exact hK _ _ _ _ _ hk hn hs
  | cond b x y ihx ihy =>
    intro rr n c env a w K0 Q h hG hrr hd hK
    simp only [ev] at hd
    have hX := rep_tvX h b
    cases hb : tv env.wt env.tm b <;> rw [hb] at hd hX <;> (try simp only at hd) <;> first | exact hd.elim | skip
    rename_i t
    have hX : RepT c env w (.bool t) (a.eval b) := hX
    have hc := repT_bool hX
    cases t with
    | true => exact wpIn_cond_true hc (ihx rr n h hG hrr hd hK)
    | false => exact wpIn_cond_false hc (ihy rr n h hG hrr hd hK)
  | block id x ih =>
    intro rr n c env a w K0 Q h hG hrr hd hK
    refine wpIn_block (ih rr n h hG hrr hd fun e env' c' a' w' hk hn hs => ?_)
    cases e with
    | exit i =>
      simp only at hk
      by_cases hid : i = id
      · rw [nbeq.2 hid] at hk
        simp only [Exit.inBlock, if_pos hid]
        exact hK _ _ _ _ _ hk hn hs
      · rw [nbeq_f.2 hid] at hk
        simp only [Exit.inBlock, if_neg hid]
        exact hK _ _ _ _ _ hk hn hs
    | _ => exact hK _ _ _ _ _ hk hn hs
  | loop x ih =>
    intro rr n c env a w K0 Q h hG hrr hd hK
    simp only [ev, fN_iff, fE_iff] at hd
    obtain ⟨N, hd⟩ := hd
    cases hN : adjW N 0 env with
    | none => rw [hN] at hd; exact hd.elim
    | some env0 =>
    rw [hN] at hd
    simp only [fE_iff, evLoop, fN_iff] at hd
    obtain ⟨c0, n0, h0⟩ := h.adj hN
    replace hK : ∀ e env' c' a' w', K0 e env' → c0.Grow c' → St c' env' a' w' → Q e a' w' := fun e env' c' a' w' k1 k2 k3 => hK e env' c' a' w' k1 (n0.grow.trans k2) k3
    replace hG := hG.grow n0.grow
    replace hrr : rr = c0.w0.lp := hrr.trans n0.grow.lp.symm
    clear h hN
    clear n0
    revert hK
    revert hrr
    revert hG
    revert h0
    revert hd
    generalize env0 = env
    generalize c0 = c
    intro hd h hG hrr hK
    cases hc : canonW (keysL env.tm) (keysOf env.bx) (keysOf env.mp) (stampsIn (keysL env.tm) (keysOf env.bx) env) env with
    | none => rw [hc] at hd; exact hd.elim
    | some env1 =>
      rw [hc] at hd
      obtain ⟨m, hm⟩ := hd
      have hcov := h.covers
      obtain ⟨c1, n1, h1⟩ := h.canonW hc hcov
      refine wpIn_loop_n (fun m a w => ∃ env' c', c.Grow c' ∧ St c' env' a w ∧ loopEv (ev P T x) (keysL env.tm) (keysOf env.bx) (keysOf env.mp) m env' K0) m ⟨env1, c1, n1.grow, h1, hm⟩ fun m a w ⟨env', c', hn, hs, hl⟩ => ?_
      cases m with
      | zero => exact hl.elim
      | succ m =>
        refine ⟨m, by omega, ih rr n hs (hG.grow hn) (hrr.trans hn.lp.symm) hl fun e env2 c2 a2 w2 hk hn2 hs2 => ?_⟩
        cases e with
        | normal =>
          simp only [fN_iff] at hk
          cases hc2 : canonW (keysL env.tm) (keysOf env.bx) (keysOf env.mp) (stampsIn (keysL env.tm) (keysOf env.bx) env2) env2 with
          | none => rw [hc2] at hk; exact hk.elim
          | some env3 =>
            rw [hc2] at hk
            obtain ⟨c3, n3, h3⟩ := hs2.canonW hc2 (fun k s b hs => hcov k s b (by rw [← (hn.trans hn2).fix]; exact hs))
            exact ⟨env3, c3, hn.trans (hn2.trans n3.grow), h3, (fE_iff _ _).1 hk⟩
        | _ => exact hK _ _ _ _ _ hk (hn.trans hn2) hs2
  | exit i => intro rr n c env a w K0 Q h hG hrr hd hK; exact wpIn_exit (hK _ _ _ _ _ hd (.refl c) h)
  | ret => intro rr n c env a w K0 Q h hG hrr hd hK; exact wpIn_ret (hK _ _ _ _ _ hd (.refl c) h)
  | label l => intro rr n c env a w K0 Q h hG hrr hd hK; exact wpIn_label (hK _ _ _ _ _ hd (.refl c) h)
  | rangeFunc f ps x y ihx ihy => exact range_sound ihx ihy
  | scope x ih => intro rr n c env a w K0 Q h hG hrr hd hK; exact hd.elim
  | goto l => intro rr n c env a w K0 Q h hG hrr hd hK; exact hd.elim
  | refuse s => intro rr n c env a w K0 Q h hG hrr hd hK; exact hd.elim

def resOne (tmps : Array Value) : ResultVar → Sem Value
  | .tmp t => pure (tmps.getD t undef)
  | .cell b t => do loadVar t (← asAddr (tmps.getD b undef))
theorem results_eq (fn : Func) (tmps : Array Value) : results fn tmps = (do
    let vs ← fn.results.mapM (resOne tmps)
    pure (if h : vs.size = 1 then vs[0] else .tuple vs)) := by
  unfold results
  congr 2

theorem run_results (hT : TyOK P T) {c : Ctx} {env : Env} {a : Act} {w : World} (h : St c env a w) : ∀ {rs : List ResultVar}, (∀ d ∈ resRaw T env rs, d ≠ .undef) →
    ∃ vs : List Value, (rs.mapM (resOne a.tmps)).run P w = .ok vs w ∧ All2 (RepT c env w) (resRaw T env rs) vs
  | [], _ => ⟨[], by simp, trivial⟩
  | r :: rs, hl => by
    have htm : ∀ t, RepT c env w ((look t env.tm).getD .undef) (a.tmps.getD t undef) := fun t => by
      cases ht : look t env.tm with
      | none => trivial
      | some d => exact h.tm t d ht
    have key : ∀ d (s : Sem Value), resRaw T env (r :: rs) = d :: resRaw T env rs → (d ≠ .undef → Yield P c env w d s) → ∃ v, s.run P w = .ok v w ∧ RepT c env w d v ∧ ∃ vs : List Value, (rs.mapM (resOne a.tmps)).run P w = .ok vs w ∧ All2 (RepT c env w) (resRaw T env rs) vs := by
      intro d s e y
      rw [e] at hl
      obtain ⟨vs, k1, k2⟩ := run_results hT h (rs := rs) fun x hx => hl x (List.mem_cons_of_mem _ hx)
      obtain ⟨v, k3, k4⟩ := y (hl d (by simp))
      exact ⟨v, k3, k4, vs, k1, k2⟩
    cases r with
    | tmp t =>
      obtain ⟨v, k1, k2, vs, k3, k4⟩ := key _ (resOne a.tmps (.tmp t)) rfl fun _ => ⟨_, by simp [resOne], htm t⟩
      exact ⟨v :: vs, by simp only [List.mapM_cons, Sem.run_bind, k1, k3, Result.andThen_ok, Sem.run_pure], k2, k4⟩
    | cell b t =>
      cases ht : T t with
      | none =>
        exact absurd rfl (hl .undef (by simp [resRaw, ht]))
      | some e =>
        cases hld : loadD env.bx e ((look b env.tm).getD .undef) with
        | none =>
          exact absurd rfl (hl .undef (by simp [resRaw, ht, hld]))
        | some d =>
          obtain ⟨v, k1, k2, vs, k3, k4⟩ := key d (resOne a.tmps (.cell b t)) (by simp [resRaw, ht, hld]) fun _ => by
            obtain ⟨v, g1, g2⟩ := yield_loadAt (hT t e ht) h (htm b) hld
            refine ⟨v, ?_, g2⟩
            show (do loadVar t (← asAddr (a.tmps.getD b undef)) : Sem Value).run P w = _
            have : ∃ ad, a.tmps.getD b undef = .pointer (some ad) := by
              have hb := htm b
              unfold loadD at hld
              split at hld
              · rename_i s off e1; rw [e1] at hb; exact ⟨_, (repT_loc hb).2⟩
              · rename_i d0 off e1; rw [e1] at hb; obtain ⟨ad, e2, _⟩ := repT_eptr hb; exact ⟨_, e2⟩
              · cases hld
            obtain ⟨ad, e1⟩ := this
            rw [e1] at g1 ⊢
            simpa [Instr.loadAt, Instr.sureAddr, asAddr] using g1
          refine ⟨v :: vs, ?_, ?_⟩
          · simp only [List.mapM_cons, Sem.run_bind, k1, k3, Result.andThen_ok, Sem.run_pure]
          · rw [show resRaw T env (.cell b t :: rs) = d :: resRaw T env rs from by simp [resRaw, ht, hld]]
            exact ⟨k2, k4⟩

theorem clo_ndef {mp : List (Nat × MapC)} : ∀ {ds l : List D}, cloL mp ds = some l → ∀ d ∈ ds, d ≠ .undef
  | [], _, _, d, hd => by cases hd
  | x :: ds, l, h, d, hd => by
    simp only [cloL] at h
    cases h1 : clo mp x with
    | none => rw [h1] at h; cases h
    | some a =>
      cases h2 : cloL mp ds with
      | none => rw [h1, h2] at h; cases h
      | some b =>
        rcases List.mem_cons.1 hd with rfl | hd
        · rintro rfl; simp [clo] at h1
        · exact clo_ndef h2 d hd

theorem rep_pack {I : Im} {w : World} {l : List D} {vs : List Value} (h : All2 (Rep I w) l vs) (hv : l.all D.isVal = true) : Rep I w (packR l) (if h : (⟨vs⟩ : Array Value).size = 1 then (⟨vs⟩ : Array Value)[0] else .tuple ⟨vs⟩) := by
  match l, vs, h with
  | [], [], h => simp [packR, Rep, RepL]
  | [d], [v], h => simpa [packR] using h.1
  | d :: d2 :: l, v :: v2 :: vs, h =>
    simp only [packR, Rep]
    exact ⟨v :: v2 :: vs, by simp, hv, all2_repL.2 h⟩
  | [_], _ :: _ :: _, h => exact h.2.elim
  | _ :: _ :: _, [_], h => exact h.2.elim

theorem entry_St {I : Im} {w : World} {ds : List D} {vs : List Value} {nt : Nat} {G : Option (Nat × List (List D)) → (Nat → Prop) → World → Im → Prop} {ys : Option (Nat × List (List D))} (hlen : ds.length ≤ nt) (him : ∀ b o, I b o → b < w.heap.size) (hrep : RepL I w ds vs) (hg : G ys (fun k => k < w.heap.size) w I) :
    St ⟨fun _ => 0, fun _ => none, I, { Root.plain w with G := G }, I, []⟩ { entry nt ds with ys := ys } { tmps := (⟨vs⟩ : Array Value) ++ Array.replicate (nt - (⟨vs⟩ : Array Value).size) undef, defers := [] } w := by
  have hvl : ds.length = vs.length := (all2_repL.1 hrep).length
  refine ⟨?_, ⟨rfl, rfl⟩, fun t d ht => ?_, fun t d ht => by simp [entry, look] at ht, fun s b hs => by simp [entry, look] at hs, fun s m hs => by simp [entry, look] at hs, fun s s' h1 => ?_, fun s h1 => ?_, fun s h1 => ?_, fun s s' g h1 => ?_, fun s g h1 => ?_, him, Keeps.refl _ _, fun _ _ h => .inl h,
    ⟨rfl, rfl, rfl, Nat.le_refl _, fun _ x => x, fun _ _ => rfl, fun _ x => (by cases x), List.nodup_nil, fun _ x => (by cases x), fun _ x => (by cases x)⟩, ⟨hg, fun _ _ _ x => (nomatch x), fun _ _ x => (nomatch x)⟩, fun st r hr => by simp [entry, look] at hr⟩
  · simp [entry]; omega
  · have : ∀ (ds : List D) (i : Nat), look t ((List.range' i ds.length).zip ds) = some d → ∃ k, t = i + k ∧ ds[k]? = some d := by
      intro ds
      induction ds with
      | nil => intro i h; simp [look] at h
      | cons x ds ih =>
        intro i h
        rw [List.length_cons, List.range'_succ, List.zip_cons_cons, look_cons] at h
        split at h
        · rename_i e; exact ⟨0, by omega, h⟩
        · obtain ⟨k, e1, e2⟩ := ih (i + 1) h
          exact ⟨k + 1, by omega, by simpa using e2⟩
    obtain ⟨k, e1, e2⟩ := this ds 0 (by rw [← List.range_eq_range']; exact ht)
    obtain ⟨v, e3, e4⟩ := (all2_repL.1 hrep).get k d e2
    have hk : k < vs.length := (List.getElem?_eq_some_iff.1 e3).1
    have e5 : ((⟨vs⟩ : Array Value) ++ Array.replicate (nt - (⟨vs⟩ : Array Value).size) undef).getD t undef = v := by
      rw [show t = k from by omega, Array.getD_eq_getD_getElem?, Array.getElem?_append_left (by simpa using hk)]
      simp [e3]
    rw [e5]
    exact rep_repT e4
  · rcases h1 with h1 | h1 <;> simp [entry, look] at h1
  · rcases h1 with h1 | h1 <;> simp [entry, look] at h1
  · rcases h1 with h1 | h1 <;> simp [entry, look] at h1
  · obtain ⟨h1, _⟩ := h1; simp [entry, look] at h1
  · obtain ⟨h1, _⟩ := h1; simp [entry, look] at h1

/-- A function that held ranges over functions leaves. -/
theorem leave_marks {fn : Func} {tmps : Array Value} {R : Ending → World → Prop} : ∀ (l : List Nat) (w : World), (∀ k ∈ l, w.heap[k]? = some (.deferred (some []))) → l.Nodup →
    (∀ w' : World, w'.os = w.os → w'.tape = w.tape → w'.output = w.output → w'.heap.size = w.heap.size → (∀ k, k ∉ l → w'.heap[k]? = w.heap[k]?) → ∃ v, (results fn tmps).run P w' = .ok v w' ∧ R (.returned v) w') → LeavesInM (Fr rr) n P fn tmps R (l.map markOf) .returning w
  | [], w, _, _, h => h w rfl rfl rfl rfl fun _ _ => rfl
  | k :: l, w, hm, hn, h => by
    refine ⟨by simp, .inl ⟨k, w.putObj k (.deferred none), rfl, run_takeDeferred (hm k (by simp)), ?_⟩⟩
    obtain ⟨hk, hn⟩ := List.nodup_cons.1 hn
    refine leave_marks l _ (fun j hj => (World.putObj_heap_other (by rintro rfl; exact hk hj)).trans (hm j (by simp [hj]))) hn fun w' h1 h2 h3 h4 h5 => ?_
    refine h w' h1 h2 h3 (by rw [h4]; simp) fun j hj => ?_
    simp only [List.mem_cons, not_or] at hj
    exact (h5 j hj.2).trans (World.putObj_heap_other hj.1)

theorem St.unmark {c : Ctx} {env : Env} {a : Act} {w w2 : World} (hs : St c env a w) (o1 : w2.os = w.os) (o2 : w2.tape = w.tape) (o3 : w2.output = w.output) (o4 : w2.heap.size = w.heap.size) (o5 : ∀ k, k ∉ c.w0.mks → w2.heap[k]? = w.heap[k]?) :
    ∃ c', St c' env { a with defers := [] } w2 ∧ c'.w0.far = c.w0.far ∧ c'.w0.wd = c.w0.wd ∧ c'.I0 = c.I0 ∧ c'.ρ = c.ρ ∧ c'.σ = c.σ := by
  have hI : ∀ b o, c.I b o → b ∉ c.w0.mks ∨ ∃ x, w.heap[b]? = some x := fun b o x => .inr ⟨_, Array.getElem?_eq_getElem (hs.im b o x)⟩
  have hK : Keeps c.I c.I w w2 := by
    refine ⟨fun _ _ x => x, fun ad u hi hu => ?_, fun r es k hi hr => ?_⟩
    · by_cases hm : ad.block ∈ c.w0.mks
      · have := hs.base.marks _ hm
        simp [World.cell?, this] at hu
      · exact (World.cell?_of_block (o5 _ hm)).trans hu
    · by_cases hm : r ∈ c.w0.mks
      · have := hs.base.marks _ hm
        rw [hr] at this; cases this
      · exact (o5 _ hm).trans hr
  have hm := (hs.move (I' := c.I) (I0' := c.I0) (w' := w2) (r' := ⟨c.w0.wd, c.w0.far, [], none, fun _ _ => none, fun _ => none, fun _ _ _ _ => True, []⟩) (ys' := env.ys) (df' := []) (by omega) (fun k hk => o5 k (ownB_off hs hk).2) hK (fun _ _ x => .inl x) (fun b o x => by rw [o4]; exact hs.im b o x)
    (fun k hk => ⟨(ownB_off hs hk).1, by simp⟩) ⟨o1.trans hs.base.os, o2.trans hs.base.tape, o3.trans hs.base.output, by rw [o4]; exact hs.base.grow, hs.base.lt, fun k hk => (o5 k fun x => hs.base.disj k x hk).trans (hs.base.block k hk), fun _ x => (by cases x), List.nodup_nil, fun _ x => (by cases x), fun _ x => (by cases x)⟩
    (hs.im0.trans hK) (fun b o x => (hs.imNew b o x).imp id fun y => ⟨y.1, by simp⟩) rfl ⟨trivial, fun _ _ _ x => (nomatch x), fun _ _ x => (nomatch x)⟩).1
  exact ⟨_, hm, rfl, rfl, rfl, rfl, rfl⟩

theorem frzB_some : ∀ {ss : List Nat} {bx : List (Nat × BoxC)}, (∀ s ∈ ss, (look s bx).isSome = true) → ∃ bx', frzB bx ss = some bx'
  | [], bx, _ => ⟨bx, rfl⟩
  | s :: ss, bx, h => by
    have h0 := h s (List.mem_cons_self ..)
    unfold frzB
    cases hl : look s bx with
    | none => rw [hl] at h0; cases h0
    | some b =>
      refine frzB_some fun s' hs' => ?_
      rw [look_cons]
      split
      · rfl
      · exact h s' (List.mem_cons_of_mem _ hs')
theorem sealF_look {bx : List (Nat × BoxC)} {ds : List D} : ∀ s ∈ ds.flatMap (sealF bx), (look s bx).isSome = true := by
  intro s hs
  obtain ⟨d, _, h⟩ := List.mem_flatMap.1 hs
  rcases sealD_cases bx d with ⟨s', p, e1, e2, e3, e4⟩ | ⟨e3, e4⟩
  · rw [e4] at h
    simp only [List.mem_singleton] at h; subst h
    obtain ⟨b, cs, h1, _⟩ := capD_spec e2
    rw [h1]; rfl
  · rw [e4] at h; cases h
theorem seal_vals {c c' : Ctx} {env env' : Env} {a' : Act} {w : World} (h' : St c' env' a' w) (S : Step c env w c' env' w) : ∀ {ds : List D} {vs : List Value}, All2 (RepT c env w) ds vs → (∀ s ∈ ds.flatMap (sealF env.bx), ∀ b, look s env.bx = some b → ∃ b', look s env'.bx = some b' ∧ b'.cells = b.cells ∧ b'.isAgg = b.isAgg ∧ b'.frozen = true) → All2 (RepT c' env' w) (ds.map (sealD env.bx)) vs
  | [], [], _, _ => trivial
  | d :: ds, v :: vs, h, hb => by
    refine ⟨?_, seal_vals h' S h.2 fun s hs => hb s (List.mem_append_right _ hs)⟩
    rcases sealD_cases env.bx d with ⟨s, p, e1, e2, e3, e4⟩ | ⟨e3, e4⟩
    · rw [e3]
      have hx := h.1
      rw [e1] at hx
      obtain ⟨hs, rfl⟩ := repT_loc hx
      have hρ : c'.ρ s = c.ρ s := (S.bx s hs).2
      rw [← hρ]
      have := rep_sealed (env := env) h' e2 (hb s (List.mem_append_left _ (by rw [e4]; simp)))
      obtain ⟨b, cs, _, _, _, rfl⟩ := capD_spec e2
      simp only [RepT, RepV, RepC]
      exact this
    · rw [e3]; exact S.repT h.1
  | [], _ :: _, h, _ => h.elim
  | _ :: _, [], h, _ => h.elim
theorem seal_cloM {bx : List (Nat × BoxC)} {ds : List D} {d : D} (hd : d ∈ ds.map (sealD bx)) {s : Nat} (hs : s ∈ cloM d) : ∃ x ∈ ds, s ∈ cloM x := by
  obtain ⟨x, hx, rfl⟩ := List.mem_map.1 hd
  rcases sealD_cases bx x with ⟨s', p, e1, e2, e3, e4⟩ | ⟨e3, e4⟩
  · rw [e3] at hs
    obtain ⟨b, cs, _, _, _, rfl⟩ := capD_spec e2
    cases hs
  · rw [e3] at hs; exact ⟨x, hx, hs⟩
theorem seal_undef {bx : List (Nat × BoxC)} {d : D} (h : sealD bx d ≠ .undef) : d ≠ .undef := fun e => h (by rw [e]; rfl)
/-- A function that has been evaluated may be called. -/
theorem callsTo_of_runs (hT : TyOK P T) (hmo : P.follows .mixedOrders = true) {f : Nat} {fn : Func} {code : Code} {ds : List D} {d : D} (hf : P.funcs[f]? = some fn) (hb : fn.body = some code) (hname : fn.name ≠ "runtime.NumGoroutine")
    (hr : Runs P T fn.ntmps code fn.results.toList ds d) : CallsTo P f ds d := by
  refine ⟨⟨fn, hf, hname, by rw [hb]; rfl⟩, fun I w vs him hrep => ?_⟩
  obtain ⟨hlen, hev⟩ := hr
  have hev := (fE_iff _ _).1 hev
  have hst := entry_St (G := fun ys far wd I0 => ys = none ∧ far = (fun k => k < w.heap.size) ∧ wd = w ∧ I0 = I) (ys := none) hlen him.1 hrep ⟨rfl, rfl, rfl, rfl⟩
  have hG : GYield P { Root.plain w with G := fun ys far wd I0 => ys = none ∧ far = (fun k => k < w.heap.size) ∧ wd = w ∧ I0 = I } := ⟨.inl rfl, fun _ _ _ _ _ _ _ _ _ _ _ h => (by cases h.1), fun _ _ _ _ h => by obtain ⟨_, _, rfl, rfl⟩ := h; exact him.2⟩
  refine (fr_calls (r := none) (n := 0)).1 (callsIn_of_wp_marks hf hb trivial (ev_sound hT hmo code none 0 hst hG rfl hev fun e env c' a' w' hk hgr hs => ?_))
  have fin : (match cloL env.mp ((resRaw T env fn.results.toList).map (sealD env.bx)) with
      | some l => (frzM env.mp ((resRaw T env fn.results.toList).flatMap cloM)).isSome = true ∧ packR l = d
      | none => False) → LeavesInM (Fr none) 0 P fn a'.tmps (fun e w' => ∃ v I', e = .returned v ∧ (∀ b o, I b o → I' b o) ∧ (∀ b o, I' b o → I b o ∨ w.heap.size ≤ b) ∧ (∀ b o, I' b o → b < w'.heap.size) ∧ Rep I' w' d v ∧ Below w.heap.size w w') a'.defers .returning w' := by
    intro hk
    have htl : c'.w0.tl = [] := hgr.tl
    rw [hs.df.1, hs.df.2, htl, List.append_nil]
    refine leave_marks _ _ hs.base.marks hs.base.nodup fun w2 o1 o2 o3 o4 o5 => ?_
    have hgh := hs.gh.1
    rw [hgr.G] at hgh
    obtain ⟨_, g2, g3, g4⟩ := hgh
    obtain ⟨c3, hs3, k2, k3, k4, _⟩ := hs.unmark o1 o2 o3 o4 o5
    rw [g2] at k2; rw [g3] at k3; rw [g4] at k4
    cases hcl : cloL env.mp ((resRaw T env fn.results.toList).map (sealD env.bx)) with
    | none => rw [hcl] at hk; exact hk.elim
    | some l =>
      rw [hcl] at hk
      obtain ⟨hfz, rfl⟩ := hk
      cases hfz' : frzM env.mp ((resRaw T env fn.results.toList).flatMap cloM) with
      | none => rw [hfz'] at hfz; cases hfz
      | some mp =>
        obtain ⟨c1, n1, h1, S1, hm2⟩ := hs3.frzM hfz'
        obtain ⟨bx5, hb5⟩ := frzB_some (bx := env.bx) (sealF_look (ds := resRaw T env fn.results.toList))
        obtain ⟨c2, n2', h2, S2', hb2'⟩ := h1.frzB (ss := (resRaw T env fn.results.toList).flatMap (sealF env.bx)) (bx := bx5) hb5
        have n2 := n1.trans n2'
        have S2 := S1.trans S2'
        obtain ⟨rvs, p1, p2⟩ := run_results hT hs3 (fun d hd => seal_undef (bx := env.bx) (clo_ndef hcl (sealD env.bx d) (List.mem_map_of_mem hd)))
        obtain ⟨g1, g2⟩ := clo_vals h2 (seal_vals h2 S2 p2 (fun s hs b hb => by
          obtain ⟨b', k1, k2, k3, k4⟩ := hb2' s b hb
          exact ⟨b', k1, k2, k3, k4 (.inr hs)⟩)) hcl (fun x hx s hss m hl => by
          obtain ⟨y, hy, hys⟩ := seal_cloM hx hss
          obtain ⟨m', q1, q2, q3, q4⟩ := hm2 s m hl
          exact ⟨m', q1, q2, q3, q4 (.inr (List.mem_flatMap.2 ⟨y, hy, hys⟩))⟩)
        have hI0 : c2.I0 = I := n2.I0.trans k4
        have hfar : c2.w0.far = fun k => k < w.heap.size := by rw [n2.w0]; exact k2
        have hwd : c2.w0.wd = w := by rw [n2.w0]; exact k3
        have hb2 := h2.base
        refine ⟨_, ?_, _, c2.I, rfl, fun b o hi => h2.im0.im b o (by rw [hI0]; exact hi), fun b o hi => ?_, h2.im, rep_pack g1 g2, ?_⟩
        · rw [results_eq]
          have e1 : (fn.results.mapM (resOne a'.tmps)).run P w2 = .ok ⟨rvs⟩ w2 := by
            rw [Array.mapM_eq_mapM_toList]
            simp [p1]
          simp only [Sem.run_bind, e1, Result.andThen_ok, Sem.run_pure]
        · rcases h2.imNew b o hi with x | x
          · rw [hI0] at x; exact .inl x
          · refine .inr ?_
            have := x.1
            rw [hfar] at this
            exact Nat.le_of_not_lt this
        · have e1 := hb2.os; have e2 := hb2.tape; have e3 := hb2.output; have e4 := hb2.grow
          rw [hwd] at e1 e2 e3 e4
          refine ⟨e1, e2, e3, e4, fun k hk => ?_⟩
          have := hb2.block k (by rw [hfar]; exact hk)
          rw [hwd] at this; exact this
  cases e with
  | normal => exact fin hk
  | ret => exact fin hk
  | _ => exact hk.elim

/-- An iterator that has been evaluated may be ranged over. -/
theorem iterTo_of_yields (hT : TyOK P T) (hmo : P.follows .mixedOrders = true) {f : Nat} {fn : Func} {code : Code} {caps : List D} {xs : List (List D)} (hf : P.funcs[f]? = some fn) (hb : fn.body = some code) (hname : fn.name ≠ "runtime.NumGoroutine") (hres : fn.results = #[])
    (hr : Yields P T fn.ntmps code caps xs) : IterTo P f caps xs := by
  refine ⟨⟨fn, hf, hname, by rw [hb]; rfl⟩, fun l J Jx I W cvs him hrep hJ hJx hY h0 => ?_⟩
  obtain ⟨hlen, hev⟩ := hr
  have hev := (fE_iff _ _).1 (hev l)
  generalize hGd : (fun (ys : Option (Nat × List (List D))) (far : Nat → Prop) (wd : World) (I0 : Im) => GlobW P I0 wd ∧ ∃ O : Nat → Prop, (∀ k, far k ↔ k < wd.heap.size ∧ ¬ O k) ∧ (∀ k, O k → k < wd.heap.size) ∧ match ys with
    | some (l', r) => l' = l ∧ J r O I0 wd
    | none => Jx O I0 wd) = G
  have hGe : ∀ ys far wd I0, G ys far wd I0 ↔ GlobW P I0 wd ∧ ∃ O : Nat → Prop, (∀ k, far k ↔ k < wd.heap.size ∧ ¬ O k) ∧ (∀ k, O k → k < wd.heap.size) ∧ match ys with
    | some (l', r) => l' = l ∧ J r O I0 wd
    | none => Jx O I0 wd := fun ys far wd I0 => by rw [← hGd]
  have hst := entry_St (G := G) (ys := some (l, xs)) (ds := .yld l :: caps) (vs := .func (.yield l) #[] #[] :: cvs) (by simpa using hlen) him.1 ⟨_, _, rfl, by simp [Rep], hrep⟩ ((hGe _ _ _ _).2 ⟨him.2, fun _ => False, fun k => by simp, fun _ x => x.elim, rfl, h0⟩)
  have hG : GYield P { Root.plain W with G := G } := by
    refine ⟨.inl rfl, fun l' x rest far wd I0 I1 W1 own vs n hg e1 e2 e3 e4 e5 hk hn hi ho hv ha => ?_, fun ys far wd I0 hg => ((hGe _ _ _ _).1 hg).1⟩
    obtain ⟨hgl, O, f1, f2, rfl, hj⟩ := (hGe _ _ _ _).1 hg
    have hst : ItStep O I0 wd own I1 W1 := by
      refine ⟨e1, e2, e3, e4, fun k h1 h2 => e5 k ((f1 k).2 ⟨h1, h2⟩), hk, fun k h => ?_, fun b o h => ?_, hi, fun k h => (ho k h).1⟩
      · by_cases hlt : k < wd.heap.size
        · by_cases hO : O k
          · exact .inl hO
          · exact absurd ((f1 k).2 ⟨hlt, hO⟩) (ho k h).2
        · exact .inr (by omega)
      · rcases hn b o h with x | x
        · exact .inl x
        · by_cases hlt : b < wd.heap.size
          · by_cases hO : O b
            · exact .inr (.inl hO)
            · exact absurd ((f1 b).2 ⟨hlt, hO⟩) x
          · exact .inr (.inr (by omega))
    obtain ⟨fn', tmps, asg, body, hy, hR⟩ := hY x rest own I1 W1 vs n (hJ _ _ _ _ _ _ _ hj hst) hv ha
    refine ⟨fn', tmps, asg, body, hy, hR.mono ?_⟩
    rintro e W' ⟨hb, hj⟩
    have hgl2 := (hgl.keeps hk).keeps hb.keeps
    refine ⟨hb, hj.imp (fun h => ⟨h.1, (hGe _ _ _ _).2 ⟨hgl2, own, fun k => Iff.rfl, fun k hk => Nat.lt_of_lt_of_le (ho k hk).1 hb.size, rfl, h.2⟩⟩) fun h => ⟨h.1, (hGe _ _ _ _).2 ⟨hgl2, own, fun k => Iff.rfl, fun k hk => Nat.lt_of_lt_of_le (ho k hk).1 hb.size, h.2⟩⟩⟩
  refine (fr_calls (r := none) (n := 0)).1 (callsIn_of_wp_marks hf hb trivial (ev_sound hT hmo code none 0 hst hG rfl hev fun e env c' a' w' hk hgr hs => ?_))
  have fin : (match env.ys with
      | some (_, _ :: _) => False
      | _ => True) → LeavesInM (Fr none) 0 P fn a'.tmps (fun e w' => (∃ v, e = .returned v) ∧ ∃ O' I', J [] O' I' w' ∨ Jx O' I' w') a'.defers .returning w' := by
    intro hk
    have htl : c'.w0.tl = [] := hgr.tl
    rw [hs.df.1, hs.df.2, htl, List.append_nil]
    refine leave_marks _ _ hs.base.marks hs.base.nodup fun w2 o1 o2 o3 o4 o5 => ?_
    have hgh := hs.gh.1
    rw [hgr.G] at hgh
    obtain ⟨_, O, f1, f2, hj⟩ := (hGe _ _ _ _).1 hgh
    obtain ⟨c3, hs3, k2, k3, k4, _⟩ := hs.unmark o1 o2 o3 o4 o5
    have hb3 := hs3.base
    have hkp := hs3.im0
    have e1 := hb3.os; have e2 := hb3.tape; have e3 := hb3.output; have e4 := hb3.grow; have e5 := hb3.block
    rw [k3] at e1 e2 e3 e4 e5 hkp
    rw [k2] at e5
    rw [k4] at hkp
    have hstep : ItStep O c'.I0 c'.w0.wd (fun _ => False) c'.I0 w2 := ⟨e1, e2, e3, e4, fun k h1 h2 => e5 k ((f1 k).2 ⟨h1, h2⟩), ⟨fun _ _ x => x, hkp.cell, hkp.map⟩, fun _ x => x.elim, fun _ _ x => .inl x, fun b o x => hs3.im b o (hkp.im b o x), fun _ x => x.elim⟩
    refine ⟨.tuple #[], ?_, ⟨_, rfl⟩, fun _ => False, c'.I0, ?_⟩
    · simp [results, hres]
    · cases hys : env.ys with
      | none => rw [hys] at hj; exact .inr (hJx _ _ _ _ _ _ hj hstep)
      | some q =>
        obtain ⟨l', r⟩ := q
        rw [hys] at hj hk
        cases r with
        | nil => exact .inl (hJ _ _ _ _ _ _ _ hj.2 hstep)
        | cons _ _ => exact hk.elim
  cases e with
  | normal => exact fin hk
  | ret => exact fin hk
  | _ => exact hk.elim
end

end Go.Proofs.YtnooelecdbbfkaaGreatDoor.Fw

/- What a type is, read off the program's own table. -/
namespace Go.Proofs.YtnooelecdbbfkaaGreatDoor.Fw
open Go Go.RowKit
set_option linter.unusedSectionVars false
variable [Inhabited GLT]

def cellD (v : Value) : Option D :=
  match dconst v with
  | .undef => none
  | d => some d
def cellsD : List Value → Option (List D)
  | [] => some []
  | v :: vs => match cellD v, cellsD vs with
    | some d, some ds => some (d :: ds)
    | _, _ => none
def zeroD (v : Value) : Option D :=
  match v with
  | .agg cs => (cellsD cs.toList).map .agg
  | v => cellD v

def kindD (P : Program) (t : Nat) : TypeDesc → Option TK
  | .int k => some (.int k)
  | .bool => some .bool
  | .string => some .str
  | .struct Fs => match Fs.toList.all (fun f => f.name != "_") && !P.stoodInHeld t && (Fs.toList.mapM fun f => (P.info? f.type).map fun i => (f.offset, i.size)).isSome with
    | true => some (.agg (Fs.toList.map fun f => (f.offset, f.type)))
    | false => none
  | .array n e => some (.arr n e)
  | .slice e => some (.sl e)
  | .map k v => some (.mp k v)
  | .pointer _ => some .ptr
  | .func _ _ _ => some .func
  | .interface _ => some .ifc
  | _ => none

def teOf (P : Program) (t : Nat) : Option TE :=
  match P.info? t, P.underlying t with
  | some i, some d => match i.zero with
    | some z => match kindD P t d, zeroD z with
      | some k, some zd => match Nat.beq z.cells.size i.size && Nat.beq zd.cells.length i.size && (TE.isAgg ⟨k, i.size, i.bytes, zd, true⟩ || Nat.beq i.size 1) with
        | true => some ⟨k, i.size, i.bytes, zd, !P.eqGuardType P.depth t⟩
        | false => none
      | _, _ => none
    | none => none
  | _, _ => none

section
variable {P : Program}

theorem cellD_rep {v : Value} {d : D} (h : cellD v = some d) (c : Ctx) (env : Env) (w : World) : RepC c env w d v := by
  have hr := rep_const (c := c) (env := env) (w := w) v
  unfold cellD at h
  have hno : ∀ {x : D}, dconst v = x → x ≠ .undef → x = d := by
    intro x hx hne
    rw [hx] at h
    cases x <;> first | exact Option.some.inj h | exact absurd rfl hne
  cases v with
  | int k n => have := hno rfl (by simp [dconst]); subst this; exact hr
  | bool b => have := hno rfl (by simp [dconst]); subst this; exact hr
  | string s => have := hno rfl (by simp [dconst]); subst this; exact hr
  | nilFunc => have := hno rfl (by simp [dconst]); subst this; exact hr
  | nilIface => have := hno rfl (by simp [dconst]); subst this; exact hr
  | pointer p =>
    cases p with
    | none => have := hno rfl (by simp [dconst]); subst this; exact hr
    | some p => simp [dconst] at h
  | map r =>
    cases r with
    | none => have := hno rfl (by simp [dconst]); subst this; exact hr
    | some p => simp [dconst] at h
  | slice p n k =>
    cases hd : dconst (.slice p n k) with
    | sl st es xs => rw [hd] at h hr; cases h; exact hr
    | undef => rw [hd] at h; cases h
    | _ =>
      exfalso
      unfold dconst at hd
      split at hd <;> simp_all
  | _ => simp [dconst] at h

theorem cellsD_rep : ∀ {vs : List Value} {ds : List D}, cellsD vs = some ds → ∀ (c : Ctx) (env : Env) (w : World), All2 (RepC c env w) ds vs
  | [], ds, h, c, env, w => by simp only [cellsD, Option.some.injEq] at h; subst h; trivial
  | v :: vs, ds, h, c, env, w => by
    simp only [cellsD] at h
    cases h1 : cellD v with
    | none => rw [h1] at h; cases h
    | some d =>
      cases h2 : cellsD vs with
      | none => rw [h1, h2] at h; cases h
      | some es =>
        rw [h1, h2] at h
        simp only [Option.some.injEq] at h; subst h
        exact ⟨cellD_rep h1 c env w, cellsD_rep h2 c env w⟩

theorem repC_repV {c : Ctx} {env : Env} {w : World} {d : D} {v : Value} (h : RepC c env w d v) : RepV c env w d v := by
  cases d <;> first | exact h | exact h.elim

theorem zeroD_rep {v : Value} {d : D} (h : zeroD v = some d) (c : Ctx) (env : Env) (w : World) : RepV c env w d v := by
  unfold zeroD at h
  split at h
  · rename_i cs
    cases h1 : cellsD cs.toList with
    | none => rw [h1] at h; cases h
    | some ds =>
      rw [h1] at h
      simp only [Option.map_some, Option.some.injEq] at h; subst h
      exact ⟨cs.toList, rfl, cellsD_rep h1 c env w⟩
  · exact repC_repV (cellD_rep h c env w)

theorem kindD_ok {t : Nat} {d : TypeDesc} {k : TK} (hd : P.underlying t = some d) (h : kindD P t d = some k) : KindOK P t k := by
  cases d <;> simp only [kindD] at h <;> first | (cases h; done) | skip
  case struct Fs =>
    split at h
    · rename_i hc
      simp only [Option.some.injEq] at h; subst h
      simp only [Bool.and_eq_true, Bool.not_eq_true'] at hc
      exact ⟨Fs, hd, rfl, hc.1.1, hc.1.2, hc.2⟩
    · cases h
  all_goals (simp only [Option.some.injEq] at h; subst h; first | exact hd | exact ⟨_, hd⟩ | exact ⟨_, _, _, hd⟩)

theorem teOf_ok {t : Nat} {e : TE} (h : teOf P t = some e) : TEok P t e := by
  unfold teOf at h
  cases hi : P.info? t with
  | none => rw [hi] at h; cases h
  | some i =>
  cases hd : P.underlying t with
  | none => rw [hi, hd] at h; cases h
  | some d =>
  rw [hi, hd] at h
  simp only at h
  cases hz : i.zero with
  | none => rw [hz] at h; cases h
  | some z =>
  rw [hz] at h
  simp only at h
  cases hk : kindD P t d with
  | none => rw [hk] at h; cases h
  | some k =>
  cases hzd : zeroD z with
  | none => rw [hk, hzd] at h; cases h
  | some zd =>
  rw [hk, hzd] at h
  simp only at h
  split at h
  · rename_i hc
    simp only [Option.some.injEq] at h; subst h
    simp only [Bool.and_eq_true, Bool.or_eq_true, nbeq] at hc
    refine ⟨⟨i, z, hi, rfl, rfl, hz, hc.1.1, hc.1.2, zeroD_rep hzd⟩, kindD_ok hd hk, fun hag => ?_, fun hq => by simpa using hq⟩
    rcases hc.2 with h2 | h2
    · exact absurd h2 (by
        intro h3
        have : TE.isAgg ⟨k, i.size, i.bytes, zd, !P.eqGuardType P.depth t⟩ = TE.isAgg ⟨k, i.size, i.bytes, zd, true⟩ := rfl
        rw [this, h3] at hag; cases hag)
    · exact h2
  · cases h

/-- Nil rows are written with the size of their elements. -/
def fixC : D → D → D
  | .sl 1 _ [], .sl 1 es [] => .sl 1 es []
  | d, _ => d
def fixL : List D → List D → List D
  | d :: ds, e :: es => fixC d e :: fixL ds es
  | ds, _ => ds
def fixZ : D → D → D
  | .agg cs, .agg es => .agg (fixL cs es)
  | d, e => fixC d e
theorem fixC_rep {d e : D} {c : Ctx} {env : Env} {w : World} {v : Value} (h : RepC c env w d v) : RepC c env w (fixC d e) v := by
  unfold fixC
  split
  · obtain ⟨h1, h2⟩ := h
    refine ⟨⟨rfl, h1.2.imp id ?_⟩, ?_⟩
    · rintro ⟨a, cap, e1, e2, _⟩
      exact ⟨a, cap, e1, e2, by simp only [RepRow]⟩
    · rcases h2 with h2 | h2 | h2
      · cases h2
      · exact .inr (.inl h2)
      · exact absurd h2.1 (by omega)
  · exact h
theorem fixL_rep {c : Ctx} {env : Env} {w : World} : ∀ {ds es : List D} {vs : List Value}, All2 (RepC c env w) ds vs → All2 (RepC c env w) (fixL ds es) vs
  | [], es, vs, h => by cases es <;> exact h
  | d :: ds, [], vs, h => h
  | d :: ds, e :: es, [], h => h.elim
  | d :: ds, e :: es, v :: vs, h => ⟨fixC_rep h.1, fixL_rep h.2⟩
theorem fixZ_rep {d e : D} {c : Ctx} {env : Env} {w : World} {v : Value} (h : RepV c env w d v) : RepV c env w (fixZ d e) v := by
  have hc : ∀ d', fixC d e = d' → RepC c env w d v → RepV c env w d' v := fun d' hd hr => by
    have := fixC_rep (e := e) hr
    rw [hd] at this
    exact repC_repV this
  cases d with
  | agg cs =>
    cases e with
    | agg es => obtain ⟨vs, rfl, h⟩ := h; exact ⟨vs, rfl, fixL_rep h⟩
    | _ => exact h
  | _ => exact hc _ (by cases e <;> rfl) h
theorem fixL_len : ∀ {ds es : List D}, (fixL ds es).length = ds.length
  | [], es => by cases es <;> rfl
  | d :: ds, [] => rfl
  | d :: ds, e :: es => by simp only [fixL, List.length_cons, fixL_len]
theorem fixC_len {d e : D} : (fixC d e).cells.length = d.cells.length := by
  unfold fixC
  split
  · rfl
  · rfl
theorem fixZ_len {d e : D} : (fixZ d e).cells.length = d.cells.length := by
  unfold fixZ
  split
  · exact fixL_len
  · exact fixC_len

/-- A table whose rows are the program's. -/
theorem tyOK_of {tab : List (Nat × TE)} {m u : Nat → Bool} (h : tab.map (fun p => (teOf P p.1).map fun e => { e with zero := fixZ e.zero p.2.zero }) = tab.map (fun p => some p.2)) : TyOK P ⟨fun t => look t tab, m, u⟩ := by
  intro t e ht0
  have ht : look t tab = some e := ht0
  clear ht0
  induction tab with
  | nil => simp [look] at ht
  | cons p tab ih =>
    simp only [List.map_cons, List.cons.injEq] at h
    obtain ⟨s, e'⟩ := p
    rw [look_cons] at ht
    split at ht
    · rename_i es; subst es
      cases ht
      cases ho : teOf P s with
      | none => rw [ho] at h; cases h.1
      | some e0 =>
        rw [ho] at h
        have h1 : { e0 with zero := fixZ e0.zero e.zero } = e := Option.some.inj h.1
        rw [← h1]
        obtain ⟨⟨i, z, g1, g2, g3, g4, g5, g6, g7⟩, k1, k2, k3⟩ := teOf_ok ho
        exact ⟨⟨i, z, g1, g2, g3, g4, g5, fixZ_len.trans g6, fun c env w => fixZ_rep (g7 c env w)⟩, k1, k2, k3⟩
    · exact ih h.2 ht
end

end Go.Proofs.YtnooelecdbbfkaaGreatDoor.Fw

/- What is shown of the end of a function that yields nothing is shown of one end: so results need not be named ahead. -/
namespace Go.Proofs.YtnooelecdbbfkaaGreatDoor.Fw
open Go Go.RowKit
set_option linter.unusedSectionVars false
variable [Inhabited GLT]

/-- All that is shown of the end is shown of one. -/
def Sg (F : (Env → Prop) → Prop) : Prop := ∀ K, F K → ∃ x, x.ys = none ∧ K x ∧ ∀ K' : Env → Prop, K' x → F K'
def SgX (F : (Exit → Env → Prop) → Prop) : Prop := ∀ K, F K → ∃ e x, x.ys = none ∧ K e x ∧ ∀ K' : Exit → Env → Prop, K' e x → F K'

theorem set_ys {env env' : Env} {dst : Nat} {g : Option (Nat × Bool)} {d : D} (h : env.set dst g d = some env') : env'.ys = env.ys := by
  unfold Env.set at h
  cases hb : (Nat.blt dst env.nt && wtFree dst env.wt) with
  | false => rw [hb] at h; cases h
  | true =>
    rw [hb] at h
    match g with
    | none => cases h; rfl
    | some (s, b) =>
      simp only [cond_true] at h
      cases hs : Nat.beq s dst with
      | true => rw [hs] at h; cases h
      | false => rw [hs] at h; cases h; rfl
theorem bif_of {α : Type} {b : Bool} {q : Option α} {x : α} (h : (bif b then q else none) = some x) : q = some x := by
  cases b with
  | false => cases h
  | true => exact h
theorem memR_ys {env : Env} {dst : Nat} {r : Res} {p : Env × D} (h : memR env dst r = some p) : p.1.ys = env.ys := by
  unfold memR at h
  split at h
  · split at h
    · have := bif_of h; cases this; rfl
    · split at h
      · split at h
        · have := bif_of h; cases this; rfl
        · cases h
      · split at h
        · cases h; rfl
        · have := bif_of h; cases this; rfl
        · have := bif_of h; cases this; rfl
        · cases h
  · cases h
theorem memG_ys {env env' : Env} {dst : Nat} {g : Option (Nat × Bool)} {r : Res} (h : memG env dst g r = some env') : env'.ys = env.ys := by
  unfold memG at h
  match g with
  | none =>
    simp only at h
    cases hm : memR env dst r with
    | none => rw [hm] at h; cases h
    | some p => rw [hm] at h; exact (set_ys h).trans (memR_ys hm)
  | some q =>
    simp only at h
    cases hp : r.plain with
    | false => rw [hp] at h; cases h
    | true => rw [hp, cond_true] at h; exact set_ys h
theorem storeR_ys {T : Ty} {env env' : Env} {t : Nat} {x d : D} (h : storeR T env t x d = some env') : env'.ys = env.ys := by
  unfold storeR at h
  split at h
  · split at h
    · rename_i b _
      cases hb : (d.good && Nat.beq d.cells.length _ && !b.frozen && Nat.ble (_ + _) b.cells.length) with
      | false => rw [hb] at h; cases h
      | true => rw [hb] at h; cases h; rfl
    · cases h
  · cases h
theorem storeRow_ys {T : Ty} {env env' : Env} {t st es i off : Nat} {d : D} {s : Bool} (h : storeRow T env t st es i off d = some (s, env')) : env'.ys = env.ys := by
  unfold storeRow at h
  split at h
  · have h := bif_of h
    rw [Option.map_eq_some_iff] at h
    obtain ⟨el, _, h⟩ := h
    cases h; rfl
  · cases h
theorem storeD_ys {T : Ty} {env env' : Env} {t : Nat} {x d : D} {s : Bool} (h : storeD T env t x d = some (s, env')) : env'.ys = env.ys := by
  have gen : ∀ {x : D}, ((storeR T env t x d).map fun env' => (true, env')) = some (s, env') → env'.ys = env.ys := by
    intro x h
    rw [Option.map_eq_some_iff] at h
    obtain ⟨e, he, h⟩ := h
    cases h
    exact storeR_ys he
  cases x
  case rptr st es i off => exact storeRow_ys h
  all_goals (simp only [storeD] at h; exact gen h)
theorem clearD_ys {T : Ty} {env env' : Env} {t : Nat} {x : D} {s : Bool} (h : clearD T env t x = some (s, env')) : env'.ys = env.ys := by
  unfold clearD at h
  split at h
  · split at h
    · have := bif_of h; cases this; rfl
    · cases h
  · cases h
theorem mapUpR_ys {T : Ty} {env env' : Env} {t : Nat} {m k x : D} {s : Bool} (h : mapUpR T env t m k x = some (s, env')) : env'.ys = env.ys := by
  unfold mapUpR at h
  split at h
  · split at h
    · split at h
      · rename_i mc _ _ _ _ _ _
        cases hb : (mc.frozen || !k.good) with
        | true => rw [hb] at h; cases h
        | false =>
          rw [hb] at h
          simp only [cond_false] at h
          split at h
          · cases h; rfl
          · cases h
      · cases h
    · cases h
  · cases h
theorem canonW_ys {ts bs ms l : List Nat} {env env' : Env} (h : canonW ts bs ms l env = some env') : env'.ys = env.ys := by
  unfold canonW at h
  split at h
  · have := bif_of h; cases this; rfl
  · cases h

variable {P : Program} {T : Ty}
theorem doesP_one {g : Option (Nat × Bool)} {ρ : Operand → D} {bx : List (Nat × BoxC)} {mp : List (Nat × MapC)} {rw : List (Nat × RowC)} {dst : Nat} {op : Op} {gc : Prop} {K : Res → Prop} (h : doesP P T g ρ bx mp rw dst op gc K) :
    ∃ r, K r ∧ ∀ K' : Res → Prop, K' r → doesP P T g ρ bx mp rw dst op gc K' := by
  unfold doesP at h ⊢
  cases hc : callOf op with
  | some c =>
    rw [hc] at h
    simp only at h ⊢
    cases hd : callD T (fun x => unw g (ρ x)) bx mp c with
    | none => rw [hd] at h; exact ⟨{ d := .undef }, deadK_K h, fun K' k => deadK_mono h k⟩
    | some q =>
      obtain ⟨f, ds, fm, fz⟩ := q
      rw [hd] at h
      obtain ⟨d, h1, h2⟩ := h
      exact ⟨_, h2, fun K' k => ⟨d, h1, k⟩⟩
  | none =>
    rw [hc] at h
    simp only at h ⊢
    cases ho : opR T g ρ bx mp rw dst op with
    | none => rw [ho] at h; exact elseK_pick h
    | some r =>
      rw [ho] at h
      have := sideB_iff.1 h
      exact ⟨r, this.2, fun K' k => sideB_intro this.1 k⟩
theorem evOp_one {ops : Array Oper} {o : Oper} {env : Env} (hy : env.ys = none) : Sg (evOp P T ops o env) := by
  intro K h
  have gen : ∀ (g : Option (Nat × Bool)) (dst : Nat) (ρ : Operand → D) (bx : List (Nat × BoxC)) (mp : List (Nat × MapC)) (rw : List (Nat × RowC)) (gc : Prop) (F : Res → Option Env) (hF : ∀ r x, F r = some x → x.ys = none) (K : Env → Prop),
      (doesF P T g ρ bx mp rw dst o.op gc fun r => match F r with | some env' => K env' | none => False) →
      ∃ x, x.ys = none ∧ K x ∧ ∀ K' : Env → Prop, K' x → (doesF P T g ρ bx mp rw dst o.op gc fun r => match F r with | some env' => K' env' | none => False) := by
    intro g dst ρ bx mp rw gc F hF K h
    obtain ⟨r, h1, h2⟩ := doesP_one (doesF_iff.1 h)
    cases hr : F r with
    | none => rw [hr] at h1; exact h1.elim
    | some x =>
      rw [hr] at h1
      exact ⟨x, hF r x hr, h1, fun K' k => doesF_iff.2 (h2 _ (by rw [hr]; exact k))⟩
  unfold evOp at h ⊢
  cases hg : gslot ops o with
  | none => rw [hg] at h; exact h.elim
  | some g =>
    rw [hg] at h
    simp only at h ⊢
    split at h
    · rename_i t a x hop
      split at h
      · rename_i hd
        obtain ⟨env', hs, h⟩ := storeP_iff.1 h
        exact ⟨env', (storeD_ys hs).trans hy, h, fun K' k => storeP_iff.2 ⟨env', hs, k⟩⟩
      · exact h.elim
    · rename_i t m k x hop
      split at h
      · rename_i hd
        simp only [fD_iff] at h
        cases hs : mapUpR T env t (unw none (tv env.wt env.tm m)) (unw none (tv env.wt env.tm k)) (unw none (tv env.wt env.tm x)) with
        | none => rw [hs] at h; exact h.elim
        | some p =>
          obtain ⟨s, env'⟩ := p
          rw [hs] at h
          refine ⟨env', (mapUpR_ys hs).trans hy, h.2, fun K' k => ?_⟩
          simp only [fD_iff]
          rw [hs]
          exact ⟨h.1, k⟩
      · exact h.elim
    · cases hcl : clearOf o.op with
      | some q =>
        obtain ⟨x, t⟩ := q
        rw [hcl] at h
        simp only at h
        split at h
        · rename_i hd
          cases hs : clearD T env t (unw none (tv env.wt env.tm x)) with
          | none => rw [hs] at h; exact h.elim
          | some q =>
            obtain ⟨sd, env'⟩ := q
            rw [hs] at h
            obtain ⟨h1, h2⟩ := sideB_iff.1 h
            refine ⟨env', (clearD_ys hs).trans hy, h2, fun K' k => ?_⟩
            simp only
            rw [hs]
            exact sideB_intro h1 k
        · exact h.elim
      | none =>
      rw [hcl] at h
      simp only at h ⊢
      split at h
      · rename_i dst hd
        split at h
        · rename_i l ds hl
          rw [hy] at h
          split at h
          · rename_i e1 e2; cases e2
          · rename_i e1 e2; cases e2
          · exact h.elim
        · rename_i hl
          cases hm : memOf T env o.op with
          | none =>
            rw [hm] at h
            exact gen g dst _ _ _ _ _ (fun r => memG env dst g r) (fun r x e => (memG_ys e).trans hy) K h
          | some q =>
            obtain ⟨f, ds, caps⟩ := q
            rw [hm] at h
            cases g with
            | some _ => exact h.elim
            | none =>
              simp only [fL_iff] at h ⊢
              have h := (fNat_iff _ _).1 h
              obtain ⟨X, h⟩ := h
              have hX : ∀ K : Env → Prop, (match fmlBx X.ren X.rst env, fmlUs X.rst env, fmlL X.ren X.rst ds, expBx X.ren (X.nms (16 * dst + 1000)) X.bx, expT X.ren (X.nms (16 * dst + 1000)) X.d, fmlRw X.rst env, expRw (X.nms (16 * dst + 1000)) X.rw with
                | some bx0, some us0, some ds0, some bx1, some d1, some rw0, some rw1 => fB bx0 fun bx0 => fU us0 fun us0 => fL ds0 fun ds0 => fR rw0 fun rw0 => memOK X env (16 * dst + 1000) = true ∧ CallsR P f bx0 us0 rw0 (ds0 ++ caps) X.d X.bx X.us X.rw ∧ match Env.set (memAfter X env (16 * dst + 1000) bx1 rw1) dst none d1 with
                  | some env' => K env'
                  | none => False
                | _, _, _, _, _, _, _ => False) → ∃ x, x.ys = none ∧ K x ∧ ∀ K' : Env → Prop, K' x → evMem P f ds caps env dst K' := by
                intro K h
                split at h
                · rename_i bx0 us0 ds0 bx1 d1 rw0 rw1 e1 e2 e3 e4 e5 e6 e7
                  simp only [fB_iff, fU_iff, fL_iff, fR_iff] at h
                  obtain ⟨h1, h2, h3⟩ := h
                  cases hs : Env.set (memAfter X env (16 * dst + 1000) bx1 rw1) dst none d1 with
                  | none => rw [hs] at h3; exact h3.elim
                  | some x =>
                    rw [hs] at h3
                    refine ⟨x, (set_ys hs).trans hy, h3, fun K' k => (fNat_iff _ _).2 ⟨X, ?_⟩⟩
                    rw [e1, e2, e3, e4, e5, e6, e7]
                    simp only [fB_iff, fU_iff, fL_iff, fR_iff]
                    rw [hs]
                    exact ⟨h1, h2, k⟩
                · exact h.elim
              exact hX K h
      · exact h.elim
theorem evOps_one {ops : Array Oper} : ∀ {os : List Oper} {env : Env}, env.ys = none → Sg (evOps P T ops os env)
  | [], env, hy => fun K h => ⟨env.end, hy, (fE_iff _ _).1 h, fun _ k => (fE_iff _ _).2 k⟩
  | o :: os, env, hy => fun K h => by
    obtain ⟨x, h1, h2, h3⟩ := evOp_one hy _ h
    obtain ⟨y, k1, k2, k3⟩ := evOps_one h1 K ((fE1_iff _ _).1 h2)
    exact ⟨y, k1, k2, fun K' k => h3 _ ((fE1_iff _ _).2 (k3 K' k))⟩
theorem evPh_one {ops : Array Oper} {ph : List Oper} {bx : List (Nat × BoxC)} {mp : List (Nat × MapC)} {rw : List (Nat × RowC)} : ∀ {ms : List Nat} {i : Nat} {used : Nat} {os : List Oper} {env : Env}, env.ys = none → Sg (evPh P T ops ph bx mp rw ms i used os env)
  | _, _, _, [], env, hy => fun K h => ⟨env, hy, by simpa only [evPh] using h, fun _ k => by simpa only [evPh] using k⟩
  | [], _, _, _ :: _, _, _ => fun K h => h.elim
  | m :: ms, i, used, o :: os, env, hy => fun K h => by
    unfold evPh at h ⊢
    split at h
    · rename_i g dst hg hd
      obtain ⟨r, h1, h2⟩ := doesP_one (doesF_iff.1 h)
      split at h1
      · rename_i hc
        cases hm : memG env dst g r with
        | none => rw [hm] at h1; exact h1.elim
        | some x =>
          rw [hm] at h1
          obtain ⟨y, k1, k2, k3⟩ := evPh_one ((memG_ys hm).trans hy) K ((fNat_iff _ _).1 ((fE1_iff _ _).1 h1))
          refine ⟨y, k1, k2, fun K' k => doesF_iff.2 (h2 _ ?_)⟩
          rw [hc]
          simp only
          rw [hm]
          exact (fE1_iff _ _).2 ((fNat_iff _ _).2 (k3 K' k))
      · exact h1.elim
    · exact h.elim
theorem evRegion_one {ops : Array Oper} {draw : Bool} {env : Env} (hy : env.ys = none) : Sg (evRegion P T ops draw env) := by
  intro K h
  unfold evRegion at h ⊢
  cases draw with
  | false =>
    obtain ⟨x, h1, h2, h3⟩ := evOps_one (env := env.end) hy K ((fE_iff _ _).1 h)
    exact ⟨x, h1, h2, fun K' k => (fE_iff _ _).2 (h3 K' k)⟩
  | true =>
    simp only at h ⊢
    cases hf : frzB env.bx (sealsOf T env) with
    | none => rw [hf] at h; exact h.elim
    | some bx =>
    rw [hf] at h
    simp only at h ⊢
    unfold evDraw at h ⊢
    have hy : ({ env with bx := bx } : Env).ys = none := hy
    revert h hy
    generalize ({ env with bx := bx } : Env) = env
    intro h hy
    simp only [fN_iff, fNat_iff, fE_iff, fLs_iff] at h ⊢
    split at h
    · rename_i hn
      obtain ⟨tab, envF, h1, h2, h3, h4⟩ := h
      exact ⟨envF, h3.trans hy, h4, fun K' k => ⟨tab, envF, h1, h2, h3, k⟩⟩
    · rename_i hn
      obtain ⟨x, h1, h2, h3⟩ := evPh_one (env := env.end) hy _ h.2
      obtain ⟨y, k1, k2, k3⟩ := evOps_one h1 K h2
      refine ⟨y, k1, k2, fun K' k => ?_⟩
      exact ⟨h.1, h3 _ (k3 K' k)⟩
theorem loopEv_one {B : Env → (Exit → Env → Prop) → Prop} (hB : ∀ env : Env, env.ys = none → SgX (B env)) {ts bs ms : List Nat} : ∀ {n : Nat} {env : Env}, env.ys = none → SgX (loopEv B ts bs ms n env)
  | 0, _, _ => fun K h => h.elim
  | n + 1, env, hy => fun K h => by
    unfold loopEv at h ⊢
    obtain ⟨e, x, h1, h2, h3⟩ := hB env hy _ h
    cases e with
    | normal =>
      simp only [fN_iff] at h2
      cases hc : canonW ts bs ms (stampsIn ts bs x) x with
      | none => rw [hc] at h2; exact h2.elim
      | some x2 =>
        rw [hc] at h2
        obtain ⟨e', y, k1, k2, k3⟩ := loopEv_one hB ((canonW_ys hc).trans h1) K ((fE_iff _ _).1 h2)
        refine ⟨e', y, k1, k2, fun K' k => h3 _ ?_⟩
        simp only [fN_iff]
        rw [hc]
        exact (fE_iff _ _).2 (k3 K' k)
    | _ => exact ⟨_, x, h1, h2, fun K' k => h3 _ k⟩
theorem seqEv_one {B : Env → (Exit → Env → Prop) → Prop} (hB : ∀ env : Env, env.ys = none → SgX (B env)) {ps : List Nat} {nt0 : Nat} {tm0 : List (Nat × D)} {bs ms : List Nat} : ∀ {xs : List (List D)} {env : Env}, SgX (seqEv B ps nt0 tm0 bs ms none xs env)
  | [], env => fun K h => ⟨_, _, rfl, (fE_iff _ _).1 h, fun K' k => (fE_iff _ _).2 k⟩
  | x :: xs, env => fun K h => by
    unfold seqEv at h ⊢
    cases hl : Nat.beq x.length ps.length with
    | false => rw [hl] at h; exact h.elim
    | true =>
      rw [hl] at h
      simp only [fE_iff] at h ⊢
      obtain ⟨e, y, h1, h2, h3⟩ := hB _ rfl _ h
      simp only [fN_iff] at h2 h3 ⊢
      cases hc : canonW [] bs ms (stampsIn [] bs y) y with
      | none => rw [hc] at h2; exact h2.elim
      | some y2 =>
        rw [hc] at h2
        cases e with
        | normal =>
          obtain ⟨e', z, k1, k2, k3⟩ := seqEv_one hB (xs := xs) K h2
          refine ⟨e', z, k1, k2, fun K' k => h3 _ ?_⟩
          rw [hc]
          exact k3 K' k
        | ret =>
          refine ⟨_, _, rfl, h2, fun K' k => h3 _ ?_⟩
          rw [hc]
          exact k
        | exit i =>
          refine ⟨_, _, rfl, h2, fun K' k => h3 _ ?_⟩
          rw [hc]
          exact k
        | _ => exact h2.elim
theorem evLoop_one {B : Env → (Exit → Env → Prop) → Prop} (hB : ∀ env : Env, env.ys = none → SgX (B env)) {env : Env} (hy : env.ys = none) : SgX (evLoop B env) := by
  intro K h
  simp only [evLoop, fN_iff, fE_iff] at h ⊢
  cases hc : canonW (keysL env.tm) (keysOf env.bx) (keysOf env.mp) (stampsIn (keysL env.tm) (keysOf env.bx) env) env with
  | none => rw [hc] at h; exact h.elim
  | some env1 =>
    rw [hc] at h
    obtain ⟨m, hm⟩ := h
    obtain ⟨e, y, k1, k2, k3⟩ := loopEv_one hB ((canonW_ys hc).trans hy) K hm
    exact ⟨e, y, k1, k2, fun K' k => ⟨m, k3 K' k⟩⟩
theorem evRange_one {g : Operand} {ps : Array Tmp} {A B : Env → (Exit → Env → Prop) → Prop} (hA : ∀ env : Env, env.ys = none → SgX (A env)) (hB : ∀ env : Env, env.ys = none → SgX (B env)) {env : Env} (hy : env.ys = none) : SgX (evRange P g ps A B env) := by
  intro K h
  simp only [evRange, fN_iff, fE_iff] at h ⊢
  split at h
  · rename_i g caps hf
    split at h
    · rename_i hd
      cases hc : canonW (keysL env.tm) (keysOf env.bx) (keysOf env.mp) (stampsIn [] (keysOf env.bx) env) env with
      | none => rw [hc] at h; exact h.elim
      | some env1 =>
        rw [hc, hy] at h
        obtain ⟨xs, hx, hs⟩ := h
        have hAB : ∀ env : Env, env.ys = none → SgX (fun K => A env fun e env => match e with
          | .normal => B env K
          | _ => False) := by
          intro env hy K h
          obtain ⟨e, z, h1, h2, h3⟩ := hA env hy _ h
          cases e with
          | normal =>
            obtain ⟨e', y, k1, k2, k3⟩ := hB z h1 _ h2
            exact ⟨e', y, k1, k2, fun K' k => h3 _ (k3 K' k)⟩
          | _ => exact h2.elim
        obtain ⟨e, y, k1, k2, k3⟩ := seqEv_one hAB K hs
        refine ⟨e, y, k1, k2, fun K' k => ?_⟩
        rw [hy]
        exact ⟨xs, hx, k3 K' k⟩
    · exact h.elim
  · exact h.elim
theorem ev_one : ∀ (code : Code) {env : Env}, env.ys = none → SgX (ev P T code env) := by
  intro code
  induction code with
  | skip => exact fun hy K h => ⟨_, _, hy, h, fun _ k => k⟩
  | region id ops draw =>
    intro env hy K h
    obtain ⟨x, h1, h2, h3⟩ := evRegion_one hy _ h
    exact ⟨_, x, h1, h2, fun K' k => h3 _ k⟩
  | seq x y ihx ihy =>
    intro env hy K h
    obtain ⟨e, x, h1, h2, h3⟩ := ihx hy _ h
    cases e with
    | normal =>
      obtain ⟨e', y, k1, k2, k3⟩ := ihy h1 _ h2
      exact ⟨e', y, k1, k2, fun K' k => h3 _ (k3 K' k)⟩
    | _ => exact ⟨_, x, h1, h2, fun K' k => h3 _ k⟩
  | cond b x y ihx ihy =>
    intro env hy K h
    simp only [ev] at h ⊢
    cases hb : tv env.wt env.tm b <;> rw [hb] at h <;> (try simp only at h) <;> first | exact h.elim | skip
    rename_i t
    cases t with
    | true => exact ihx hy K h
    | false => exact ihy hy K h
  | block id x ih =>
    intro env hy K h
    obtain ⟨e, x, h1, h2, h3⟩ := ih hy _ h
    cases e with
    | exit i =>
      simp only at h2
      cases hi : Nat.beq i id with
      | true => rw [hi] at h2; exact ⟨_, x, h1, h2, fun K' k => h3 _ (by simp only; rw [hi]; exact k)⟩
      | false => rw [hi] at h2; exact ⟨_, x, h1, h2, fun K' k => h3 _ (by simp only; rw [hi]; exact k)⟩
    | _ => exact ⟨_, x, h1, h2, fun K' k => h3 _ k⟩
  | loop x ih =>
    intro env hy K h
    simp only [ev, fE_iff] at h ⊢
    obtain ⟨N, h⟩ := h
    cases hN : adjW N 0 env with
    | none => rw [hN] at h; exact h.elim
    | some env0 =>
    rw [hN] at h
    obtain ⟨e, x, h1, h2, h3⟩ := evLoop_one (fun env hy => ih hy) ((adjW_ys hN).trans hy) K h
    exact ⟨e, x, h1, h2, fun K' k => ⟨N, by rw [hN]; exact h3 K' k⟩⟩
  | exit i => exact fun hy K h => ⟨_, _, hy, h, fun _ k => k⟩
  | ret => exact fun hy K h => ⟨_, _, hy, h, fun _ k => k⟩
  | label l => exact fun hy K h => ⟨_, _, hy, h, fun _ k => k⟩
  | rangeFunc f ps x y ihx ihy =>
    intro env hy K h
    simp only [ev, fE_iff] at h ⊢
    obtain ⟨N, h⟩ := h
    cases hN : adjW N 0 env with
    | none => rw [hN] at h; exact h.elim
    | some env0 =>
    rw [hN] at h
    obtain ⟨e, x, h1, h2, h3⟩ := evRange_one (fun env hy => ihx hy) (fun env hy => ihy hy) ((adjW_ys hN).trans hy) K h
    exact ⟨e, x, h1, h2, fun K' k => ⟨N, by rw [hN]; exact h3 K' k⟩⟩
  | _ => exact fun hy K h => h.elim

/-- What a function's code returns is one of these. -/
def RunsQ (P : Program) (T : Ty) (nt : Nat) (code : Code) (rs : List ResultVar) (ds : List D) (Q : D → Prop) : Prop :=
  ds.length ≤ nt ∧ fE (entry nt ds) fun env => ev P T code env fun e env => match e with
    | .normal | .ret => match cloL env.mp ((resRaw T env rs).map (sealD env.bx)) with
      | some l => (frzM env.mp ((resRaw T env rs).flatMap cloM)).isSome = true ∧ Q (packR l)
      | none => False
    | _ => False
theorem runsQ_one {nt : Nat} {code : Code} {rs : List ResultVar} {ds : List D} {Q : D → Prop} (h : RunsQ P T nt code rs ds Q) : ∃ d, Q d ∧ Runs P T nt code rs ds d := by
  obtain ⟨h0, h⟩ := h
  obtain ⟨e, x, h1, h2, h3⟩ := ev_one code (env := entry nt ds) rfl _ ((fE_iff _ _).1 h)
  have fin : ∀ (k : ∀ K' : Exit → Env → Prop, K' e x → ev P T code (entry nt ds) K') (he : e = .normal ∨ e = .ret) (h2 : match cloL x.mp ((resRaw T x rs).map (sealD x.bx)) with
      | some l => (frzM x.mp ((resRaw T x rs).flatMap cloM)).isSome = true ∧ Q (packR l)
      | none => False), ∃ d, Q d ∧ Runs P T nt code rs ds d := by
    intro k he h2
    cases hc : cloL x.mp ((resRaw T x rs).map (sealD x.bx)) with
    | none => rw [hc] at h2; exact h2.elim
    | some l =>
      rw [hc] at h2
      have q1 : (frzM x.mp ((resRaw T x rs).flatMap cloM)).isSome = true ∧ Q (packR l) := h2
      clear h2
      refine ⟨packR l, q1.2, h0, (fE_iff _ _).2 (k _ ?_)⟩
      rcases he with rfl | rfl
      · simp only; rw [hc]; exact ⟨q1.1, rfl⟩
      · simp only; rw [hc]; exact ⟨q1.1, rfl⟩
  cases e with
  | normal => exact fin h3 (.inl rfl) h2
  | ret => exact fin h3 (.inr rfl) h2
  | _ => exact h2.elim
end Go.Proofs.YtnooelecdbbfkaaGreatDoor.Fw

/- A function that is handed rows and variables for its own, evaluated, may be called. -/
namespace Go.Proofs.YtnooelecdbbfkaaGreatDoor.Fw
open Go Go.RowKit
set_option linter.unusedSectionVars false
variable [Inhabited GLT]

variable {P : Program} {T : Ty}

def sizeOf (w : World) (g : Nat) : Nat := match w.heap[g]? with
  | some (.cells cur _ _) => cur.size
  | _ => 0
theorem room_size {w : World} {g n : Nat} (h : Room w g n) : n = sizeOf w g := by
  obtain ⟨cur, u, fr, h1, h2⟩ := h
  simp [sizeOf, h1, h2]
/-- The rows that were handed over stay. -/
def handed (c : Ctx) (rw : List (Nat × RowC)) (w : World) (st : Nat) : Option (Option (Nat × Nat)) := if (look st rw).isSome = true then some ((c.σ st).map fun g => (g, sizeOf w g)) else none
def rootM (c : Ctx) (bx : List (Nat × BoxC)) (us : List (Nat × Nat)) (rw : List (Nat × RowC)) (w : World) (G : Option (Nat × List (List D)) → (Nat → Prop) → World → Im → Prop) : Root :=
  ⟨w, fun k => k < w.heap.size ∧ ¬ passed c bx us k, [], none, fun k s => bif k && (look s bx).isSome then some (c.ρ s) else none, handed c rw w, G, []⟩

theorem entryM_St {c : Ctx} {bx : List (Nat × BoxC)} {us : List (Nat × Nat)} {rw : List (Nat × RowC)} {w : World} {ds : List D} {vs : List Value} {nt : Nat} {G : Option (Nat × List (List D)) → (Nat → Prop) → World → Im → Prop} (hlen : ds.length ≤ nt) (hbig : ∀ st, (look st rw).isSome = true → bigS ≤ st) (hm : Mem c bx us rw w) (hrep : All2 (RepT c (memEnv bx us rw) w) ds vs)
    (hg : G none (fun k => k < w.heap.size ∧ ¬ passed c bx us k) w c.I) :
    St { c with w0 := rootM c bx us rw w G, I0 := c.I, df := [] } { entry nt ds with bx := bx, us := us, rw := rw } { tmps := (⟨vs⟩ : Array Value) ++ Array.replicate (nt - (⟨vs⟩ : Array Value).size) undef, defers := [] } w := by
  have hvl : ds.length = vs.length := hrep.length
  have S : Step c (memEnv bx us rw) w { c with w0 := rootM c bx us rw w G, I0 := c.I, df := [] } { entry nt ds with bx := bx, us := us, rw := rw } w :=
    .of (Keeps.refl _ _) (fun _ h => ⟨h, rfl⟩) (fun _ h => ⟨h, rfl⟩) (fun _ _ h => h) (fun _ h => h) (fun _ _ _ => ⟨rfl, fun _ _ => ⟨rfl, fun _ h => h⟩⟩)
  have hblk : ∀ s, Env.blk { entry nt ds with bx := bx, us := us, rw := rw } s → (look s bx).isSome = true := fun s hs => by
    rcases hs with hs | hs
    · exact hs
    · simp [entry, look] at hs
  have hliv : ∀ s, Env.live { entry nt ds with bx := bx, us := us, rw := rw } s → (look s us).isSome = true := fun s hs => hs.1
  refine ⟨?_, ⟨rfl, rfl⟩, fun t d ht => ?_, fun t d ht => by simp [entry, look] at ht, fun s b hs => (hm.var s b hs).step S rfl rfl (fun _ h => h), fun s m hs => by simp [entry, look] at hs, fun s s' h1 h2 e => hm.inj s s' (hblk s h1) (hblk s' h2) e,
    fun s h1 => ⟨fun x => x.2 (.inl ⟨s, hblk s h1, rfl⟩), by simp [rootM]⟩, fun s h1 => hm.lt s (hblk s h1), fun s s' g h1 h2 e1 e2 => hm.ownInj s s' g (hliv s h1) (hliv s' h2) e1 e2,
    fun s g h1 e => ⟨⟨fun x => x.2 (.inr ⟨s, hliv s h1, e⟩), by simp [rootM]⟩, (hm.ownLt s g (hliv s h1) e).1, fun s' h2 => (hm.ownLt s g (hliv s h1) e).2 s' (hblk s' h2)⟩, hm.im, Keeps.refl _ _, fun _ _ h => .inl h,
    ⟨rfl, rfl, rfl, Nat.le_refl _, fun _ x => x.1, fun _ _ => rfl, fun _ x => (by cases x), List.nodup_nil, fun _ x => (by cases x), fun _ x => (by cases x)⟩, ⟨hg, fun k s b x => ?_, fun st o x => ?_⟩, fun st r hr => S.rowOK (S.same _) (hm.row st r hr)⟩
  · simp [entry]; omega
  · have : ∀ (ds : List D) (i : Nat), look t ((List.range' i ds.length).zip ds) = some d → ∃ k, t = i + k ∧ ds[k]? = some d := by
      intro ds
      induction ds with
      | nil => intro i h; simp [look] at h
      | cons x ds ih =>
        intro i h
        rw [List.length_cons, List.range'_succ, List.zip_cons_cons, look_cons] at h
        split at h
        · rename_i e; exact ⟨0, by omega, h⟩
        · obtain ⟨k, e1, e2⟩ := ih (i + 1) h
          exact ⟨k + 1, by omega, by simpa using e2⟩
    obtain ⟨k, e1, e2⟩ := this ds 0 (by rw [← List.range_eq_range']; exact ht)
    obtain ⟨v, e3, e4⟩ := hrep.get k d e2
    have hk : k < vs.length := (List.getElem?_eq_some_iff.1 e3).1
    have e5 : ((⟨vs⟩ : Array Value) ++ Array.replicate (nt - (⟨vs⟩ : Array Value).size) undef).getD t undef = v := by
      rw [show t = k from by omega, Array.getD_eq_getD_getElem?, Array.getElem?_append_left (by simpa using hk)]
      simp [e3]
    rw [e5]
    exact S.repT e4
  · simp only [rootM] at x
    cases k with
    | false => simp at x
    | true =>
      cases h1 : (look s bx).isSome with
      | false => rw [h1] at x; simp at x
      | true => rw [h1] at x; simp at x; exact ⟨rfl, x⟩
  · simp only [rootM, handed] at x
    split at x
    · rename_i hs
      simp only [Option.some.injEq] at x; subst x
      refine ⟨hbig st hs, fun _ => ?_⟩
      obtain ⟨r, hr⟩ := Option.isSome_iff_exists.1 hs
      obtain ⟨_, _, h3⟩ := hm.row st r hr
      obtain ⟨_, h3⟩ := h3.resolve_left (fun h => by cases h)
      show FixR w ((c.σ st).map fun g => (g, sizeOf w g)) (c.σ st)
      cases hσ : c.σ st with
      | none => rfl
      | some g =>
        rw [hσ] at h3
        obtain ⟨vs, rest, fr, h4, _⟩ := h3
        exact ⟨rfl, _, _, _, h4, by simp [sizeOf, h4]⟩
    · cases x

section
variable {c : Ctx} {env : Env} {a : Act} {w : World} {bx' : List (Nat × BoxC)} {us' : List (Nat × Nat)} {rw' : List (Nat × RowC)} {ks : List Nat}
theorem outD_cell (hk : ∀ s, s ∈ ks → (look s bx').isSome = true) (hu : ∀ st u, look st us' = some u → look st env.us = some u ∧ st ∉ env.dd ∧ 2 ≤ st) {d d' : D} {v : Value} (hr : RepC c env w d v) (ho : outD ks us' d = some d') : RepC c (memEnv bx' us' rw') w d' v := by
  cases d <;> simp only [outD] at ho <;> first | (cases ho; done) | skip
  case agg cs => exact hr.elim
  case loc s off =>
    cases h : ks.contains s with
    | false => rw [h] at ho; cases ho
    | true => rw [h] at ho; cases ho; exact ⟨hk s (by simpa using h), hr.2⟩
  case lsl s off n =>
    cases h : ks.contains s with
    | false => rw [h] at ho; cases ho
    | true => rw [h] at ho; cases ho; exact ⟨hk s (by simpa using h), hr.2⟩
  case sl st es xs =>
    cases ho
    obtain ⟨h1, h2⟩ := hr
    refine ⟨h1, ?_⟩
    cases hl : look st us' with
    | none =>
      simp only [Option.isSome_none, cond_false]
      cases h1 : Nat.beq st 1 with
      | false => exact .inl rfl
      | true =>
        have := nbeq.1 h1
        subst this
        rcases h2 with h2 | h2 | h2
        · cases h2
        · exact .inr (.inl ⟨rfl, h2.2⟩)
        · exact absurd h2.1 (by omega)
    | some u =>
      simp only [Option.isSome_some, cond_true]
      obtain ⟨g1, g2, g3⟩ := hu st u hl
      rcases h2 with h2 | h2 | ⟨_, u', hu', hm0, h2⟩
      · omega
      · omega
      · rw [g1] at hu'; cases hu'
        exact .inr (.inr ⟨g3, u, hl, hm0, .inr (h2.resolve_left g2)⟩)
  case rsl st es lo n =>
    cases hl : look st us' with
    | none => rw [hl] at ho; cases ho
    | some u =>
      rw [hl] at ho; cases ho
      obtain ⟨g1, g2, _⟩ := hu st u hl
      obtain ⟨q1, q2, q3⟩ := hr
      rw [g1] at q1; cases q1
      exact ⟨hl, q2, .inr (q3.resolve_left g2)⟩
  case rptr st es i off =>
    cases hl : look st us' with
    | none => rw [hl] at ho; cases ho
    | some u =>
      rw [hl] at ho; cases ho
      obtain ⟨g1, g2, _⟩ := hu st u hl
      obtain ⟨q1, q2, q3⟩ := hr
      rw [g1] at q1; cases q1
      exact ⟨hl, q2, .inr (q3.resolve_left g2)⟩
  all_goals (cases ho; exact hr)
theorem outD_cells (hk : ∀ s, s ∈ ks → (look s bx').isSome = true) (hu : ∀ st u, look st us' = some u → look st env.us = some u ∧ st ∉ env.dd ∧ 2 ≤ st) : ∀ {ds ds' : List D} {vs : List Value}, All2 (RepC c env w) ds vs → outL ks us' ds = some ds' → All2 (RepC c (memEnv bx' us' rw') w) ds' vs
  | [], ds', vs, hr, hf => by simp only [outL, Option.some.injEq] at hf; subst hf; cases vs <;> first | trivial | exact hr.elim
  | d :: ds, ds', [], hr, _ => hr.elim
  | d :: ds, ds', v :: vs, hr, hf => by
    simp only [outL] at hf
    cases h1 : outD ks us' d with
    | none => rw [h1] at hf; cases hf
    | some d' =>
      cases h2 : outL ks us' ds with
      | none => rw [h1, h2] at hf; cases hf
      | some es =>
        rw [h1, h2] at hf; cases hf
        exact ⟨outD_cell hk hu hr.1 h1, outD_cells hk hu hr.2 h2⟩
theorem outD_val (hk : ∀ s, s ∈ ks → (look s bx').isSome = true) (hu : ∀ st u, look st us' = some u → look st env.us = some u ∧ st ∉ env.dd ∧ 2 ≤ st) {d d' : D} {v : Value} (hr : RepT c env w d v) (ho : outD ks us' d = some d') : RepV c (memEnv bx' us' rw') w d' v := by
  cases d <;> first | (cases ho; done) | skip
  case agg cs =>
    simp only [outD] at ho
    cases h1 : outL ks us' cs with
    | none => rw [h1] at ho; cases ho
    | some cs' =>
      rw [h1] at ho; cases ho
      obtain ⟨vs, e, hr⟩ := hr
      exact ⟨vs, e, outD_cells hk hu hr h1⟩
  all_goals
    simp only [RepT, RepV] at hr
    have := outD_cell (rw' := rw') hk hu hr ho
    simp only [outD] at ho
    first
      | (cases ho; exact this)
      | (cases h : ks.contains _ with
        | false => rw [h] at ho; cases ho
        | true => rw [h] at ho; cases ho; exact this)
      | (cases h : look _ us' with
        | none => rw [h] at ho; cases ho
        | some u => rw [h] at ho; cases ho; exact this)
theorem outD_vals (hk : ∀ s, s ∈ ks → (look s bx').isSome = true) (hu : ∀ st u, look st us' = some u → look st env.us = some u ∧ st ∉ env.dd ∧ 2 ≤ st) : ∀ {ds ds' : List D} {vs : List Value}, All2 (RepT c env w) ds vs → outL ks us' ds = some ds' → All2 (RepV c (memEnv bx' us' rw') w) ds' vs
  | [], ds', vs, hr, hf => by simp only [outL, Option.some.injEq] at hf; subst hf; cases vs <;> first | trivial | exact hr.elim
  | d :: ds, ds', [], hr, _ => hr.elim
  | d :: ds, ds', v :: vs, hr, hf => by
    simp only [outL] at hf
    cases h1 : outD ks us' d with
    | none => rw [h1] at hf; cases hf
    | some d' =>
      cases h2 : outL ks us' ds with
      | none => rw [h1, h2] at hf; cases hf
      | some es =>
        rw [h1, h2] at hf; cases hf
        exact ⟨outD_val hk hu hr.1 h1, outD_vals hk hu hr.2 h2⟩
theorem outL_ndef : ∀ {ds l : List D}, outL ks us' ds = some l → ∀ d ∈ ds, d ≠ .undef
  | [], _, _, d, hd => by cases hd
  | x :: ds, l, h, d, hd => by
    simp only [outL] at h
    cases h1 : outD ks us' x with
    | none => rw [h1] at h; cases h
    | some a =>
      cases h2 : outL ks us' ds with
      | none => rw [h1, h2] at h; cases h
      | some b =>
        rcases List.mem_cons.1 hd with rfl | hd
        · rintro rfl; simp [outD] at h1
        · exact outL_ndef h2 d hd
theorem usOK_spec (h : usOK us' env = true) : ∀ st u, look st us' = some u → look st env.us = some u ∧ st ∉ env.dd ∧ 2 ≤ st := by
  simp only [usOK, Bool.and_eq_true, List.all_eq_true, beq_iff_eq, Bool.not_eq_true', List.contains_eq_mem, decide_eq_false_iff_not, Nat.ble_eq] at h
  exact fun st u hl => h.2 _ (mem_of_look hl)
theorem outBx_look (h : outBx ks us' env = some bx') (s : Nat) : look s bx' = if s ∈ ks then outB ks us' env s else none := look_allSome (outB ks us' env) h s
theorem outB_spec {s : Nat} {b : BoxC} (h : outB ks us' env s = some b) : ∃ b0, look s env.bx = some b0 ∧ outL ks us' b0.cells = some b.cells ∧ b.frozen = b0.frozen := by
  unfold outB at h
  cases h1 : look s env.bx with
  | none => rw [h1] at h; cases h
  | some b0 =>
    rw [h1] at h
    simp only at h
    cases h2 : outL ks us' b0.cells with
    | none => rw [h2] at h; cases h
    | some cs => rw [h2] at h; cases h; exact ⟨b0, rfl, h2, rfl⟩

/-- What is handed back, out of a state. -/
theorem outRw_look {st : Nat} {r : RowC} : ∀ {us : List (Nat × Nat)}, look st (outRw us env) = some r → look st env.rw = some r ∧ (look st us).isSome = true
  | [], h => by cases h
  | (k, u) :: us, h => by
    simp only [outRw, List.filterMap_cons] at h
    have tl : look st (outRw us env) = some r → look st env.rw = some r ∧ (look st ((k, u) :: us)).isSome = true := fun h => by
      obtain ⟨h1, h2⟩ := outRw_look h
      refine ⟨h1, ?_⟩
      rw [look_cons]; split
      · rfl
      · exact h2
    cases hk : look k env.rw with
    | none => rw [hk] at h; exact tl h
    | some r' =>
      rw [hk] at h
      simp only [Option.map_some, look_cons] at h
      split at h
      · rename_i e; subst e; cases h; exact ⟨hk, by rw [look_cons, if_pos rfl]; rfl⟩
      · exact tl h
theorem St.out (h : St c env a w) (hb : outBx ks us' env = some bx') (hu : usOK us' env = true) (hrw : ∀ st r, look st rw' = some r → look st env.rw = some r ∧ (look st us').isSome = true) : Mem c bx' us' rw' w ∧ (∀ s, s ∈ ks → (look s bx').isSome = true) ∧ ∀ s, (look s bx').isSome = true → (look s env.bx).isSome = true := by
  have hk : ∀ s, s ∈ ks → (look s bx').isSome = true := fun s hs => by rw [outBx_look hb, if_pos hs]; exact allSome_isSome (outB ks us' env) hb s hs
  have hus := usOK_spec hu
  have hB : ∀ s, (look s bx').isSome = true → (look s env.bx).isSome = true := fun s hs => by
    rw [outBx_look hb] at hs
    split at hs
    · obtain ⟨b, hs⟩ := Option.isSome_iff_exists.1 hs
      obtain ⟨b0, e1, _⟩ := outB_spec hs
      rw [e1]; rfl
    · cases hs
  have hl : ∀ st, (look st us').isSome = true → env.live st := fun st hs => by
    obtain ⟨u, hs⟩ := Option.isSome_iff_exists.1 hs
    obtain ⟨h1, h2, _⟩ := hus st u hs
    exact ⟨by rw [h1]; rfl, h2⟩
  refine ⟨⟨fun s b hs => ?_, fun s s' h1 h2 e => h.inj s s' (.inl (hB s h1)) (.inl (hB s' h2)) e, fun s hs => h.lt s (.inl (hB s hs)), fun st st' g h1 h2 => h.ownInj st st' g (hl st h1) (hl st' h2),
    fun st g h1 e => ⟨(h.ownAbove st g (hl st h1) e).2.1, fun s hs => (h.ownAbove st g (hl st h1) e).2.2 s (.inl (hB s hs))⟩, h.im, fun st r hr => ?_⟩, hk, hB⟩
  rotate_left
  · obtain ⟨e1, e2⟩ := hrw st r hr
    obtain ⟨u, e2⟩ := Option.isSome_iff_exists.1 e2
    obtain ⟨f1, f2, f3⟩ := hus st u e2
    obtain ⟨q1, q2, q3⟩ := h.rw st r e1
    rw [f1] at q2; cases q2
    exact ⟨q1, e2, .inr (q3.resolve_left f2)⟩
  rw [outBx_look hb] at hs
  split at hs
  · obtain ⟨b0, e1, e2, e3⟩ := outB_spec hs
    obtain ⟨vs, e, g1, g2, g3, g4⟩ := h.bx s b0 e1
    exact ⟨vs, e, g1, outD_cells hk hus g2 e2, fun hf => g3 (by rw [← e3]; exact hf), fun hf => g4 (by rw [← e3]; exact hf)⟩
  · cases hs
end

theorem rep_packT {c : Ctx} {env : Env} {w : World} {l : List D} {vs : List Value} (h : All2 (RepV c env w) l vs) (hu : ∀ d ∈ l, d ≠ .undef) (ht : ∀ d ∈ l, d.isVal = true) : RepT c env w (packR l) (if h : (⟨vs⟩ : Array Value).size = 1 then (⟨vs⟩ : Array Value)[0] else .tuple ⟨vs⟩) := by
  match l, vs, h with
  | [], [], h => exact ⟨[], by simp [packR], trivial⟩
  | [d], [v], h =>
    have h1 : RepV c env w d v := h.1
    have h2 := hu d (by simp)
    have h3 := ht d (by simp)
    have e : (if h : (⟨[v]⟩ : Array Value).size = 1 then (⟨[v]⟩ : Array Value)[0] else .tuple ⟨[v]⟩) = v := by simp
    rw [e]
    cases d <;> first | exact absurd rfl h2 | (cases h3; done) | exact h1
  | d :: d2 :: l, v :: v2 :: vs, h => exact ⟨v :: v2 :: vs, by simp, h⟩
  | [_], _ :: _ :: _, h => exact h.2.elim
  | _ :: _ :: _, [_], h => exact h.2.elim
theorem outL_vals {ks : List Nat} {us' : List (Nat × Nat)} : ∀ {ds l : List D}, outL ks us' ds = some l → ∀ d ∈ l, d ≠ .undef ∧ d.isVal = true
  | [], l, h, d, hd => by simp only [outL, Option.some.injEq] at h; subst h; cases hd
  | x :: ds, l, h, d, hd => by
    simp only [outL] at h
    cases h1 : outD ks us' x with
    | none => rw [h1] at h; cases h
    | some a =>
      cases h2 : outL ks us' ds with
      | none => rw [h1, h2] at h; cases h
      | some b =>
        rw [h1, h2] at h; cases h
        rcases List.mem_cons.1 hd with rfl | hd
        · cases x <;> simp only [outD] at h1 <;> first
            | (cases h1; done)
            | (cases h1; exact ⟨(fun e => by cases e), rfl⟩)
            | (cases hq : outL ks us' _ with
              | none => rw [hq] at h1; cases h1
              | some _ => rw [hq] at h1; cases h1; exact ⟨(fun e => by cases e), rfl⟩)
            | (cases hq : ks.contains _ with
              | false => rw [hq] at h1; cases h1
              | true => rw [hq] at h1; cases h1; exact ⟨(fun e => by cases e), rfl⟩)
            | (cases hq : (look _ us').isSome with
              | false => rw [hq] at h1; cases h1
              | true => rw [hq] at h1; cases h1; exact ⟨(fun e => by cases e), rfl⟩)
        · exact outL_vals h2 d hd

/-- Likewise; which rows are told of, F says. -/
theorem callsF_of_runs (hT : TyOK P T) (hmo : P.follows .mixedOrders = true) {f : Nat} {fn : Func} {code : Code} {bx : List (Nat × BoxC)} {us us' : List (Nat × Nat)} {rw : List (Nat × RowC)} {ds : List D} {Q : D → List (Nat × BoxC) → List (Nat × RowC) → Prop} (hf : P.funcs[f]? = some fn) (hb : fn.body = some code) (hname : fn.name ≠ "runtime.NumGoroutine")
    (F : Env → List (Nat × RowC)) (hF : ∀ env st r, look st (F env) = some r → look st env.rw = some r ∧ (look st us').isSome = true) (hlen : ds.length ≤ fn.ntmps) (hbg : (rw.all (fun p => Nat.ble bigS p.1) && us'.all (fun p => !Nat.ble bigS p.1 || (look p.1 rw).isSome)) = true)
    (hev : ev P T code { entry fn.ntmps ds with bx := bx, us := us, rw := rw } fun e env => match e with
      | .normal | .ret => match outL (bx.map (·.1)) us' (resRaw T env fn.results.toList), outBx (bx.map (·.1)) us' env with
        | some l, some bx' => usOK us' env = true ∧ Q (packR l) bx' (F env)
        | _, _ => False
      | _ => False) : ∃ d bx' rw', Q d bx' rw' ∧ CallsR P f bx us rw ds d bx' us' rw' := by
  have hbig : ∀ st, (look st rw).isSome = true → bigS ≤ st := fun st hs => by
    obtain ⟨r, hr⟩ := Option.isSome_iff_exists.1 hs
    simp only [Bool.and_eq_true, List.all_eq_true, Nat.ble_eq] at hbg
    exact hbg.1 _ (mem_of_look hr)
  have hbus : ∀ st, bigS ≤ st → (look st us').isSome = true → (look st rw).isSome = true := fun st hb hs => by
    obtain ⟨u, hu⟩ := Option.isSome_iff_exists.1 hs
    simp only [Bool.and_eq_true, List.all_eq_true] at hbg
    have := hbg.2 _ (mem_of_look hu)
    simpa [Nat.ble_eq_true_of_le hb] using this
  obtain ⟨e0, x0, hx1, hx2, hx3⟩ := ev_one code (env := { entry fn.ntmps ds with bx := bx, us := us, rw := rw }) rfl _ hev
  clear hev
  have key : ∀ (he : e0 = .normal ∨ e0 = .ret) (hk : match outL (bx.map (·.1)) us' (resRaw T x0 fn.results.toList), outBx (bx.map (·.1)) us' x0 with
      | some l, some bx' => usOK us' x0 = true ∧ Q (packR l) bx' (F x0)
      | _, _ => False), ∃ d bx' rw', Q d bx' rw' ∧ CallsR P f bx us rw ds d bx' us' rw' := by
    intro he hk
    cases ho : outL (bx.map (·.1)) us' (resRaw T x0 fn.results.toList) with
    | none => rw [ho] at hk; exact hk.elim
    | some l =>
    cases hob : outBx (bx.map (·.1)) us' x0 with
    | none => rw [ho, hob] at hk; exact hk.elim
    | some bx' =>
    rw [ho, hob] at hk
    have hk' : usOK us' x0 = true ∧ Q (packR l) bx' (F x0) := hk
    obtain ⟨husok, hQ⟩ := hk'
    refine ⟨packR l, bx', F x0, hQ, ⟨fn, hf, hname, by rw [hb]; rfl⟩, fun c w vs hm hrep => ?_⟩
    have hst := entryM_St (nt := fn.ntmps) (G := fun ys far wd I0 => ys = none ∧ far = (fun k => k < w.heap.size ∧ ¬ passed c bx us k) ∧ wd = w ∧ I0 = c.I) hlen hbig hm.toMem hrep ⟨rfl, rfl, rfl, rfl⟩
    have hG : GYield P (rootM c bx us rw w fun ys far wd I0 => ys = none ∧ far = (fun k => k < w.heap.size ∧ ¬ passed c bx us k) ∧ wd = w ∧ I0 = c.I) :=
      ⟨.inl rfl, fun _ _ _ _ _ _ _ _ _ _ _ h => (by cases h.1), fun _ _ _ _ h => by obtain ⟨_, _, rfl, rfl⟩ := h; exact hm.gl⟩
    refine (fr_calls (r := none) (n := 0)).1 (callsIn_of_wp_marks hf hb trivial (ev_sound hT hmo code none 0 hst hG rfl (hx3 (fun e env => e = e0 ∧ env = x0) ⟨rfl, rfl⟩) fun e env c' a' w' hk hgr hs => ?_))
    obtain ⟨rfl, rfl⟩ := hk
    have fin : LeavesInM (Fr none) 0 P fn a'.tmps (fun e w' => ∃ v c', e = .returned v ∧ MemOut c c' bx bx' us us' rw (F env) w w' ∧ RepT c' (memEnv bx' us' (F env)) w' (packR l) v) a'.defers .returning w' := by
      have htl : c'.w0.tl = [] := hgr.tl
      rw [hs.df.1, hs.df.2, htl, List.append_nil]
      refine leave_marks _ _ hs.base.marks hs.base.nodup fun w2 o1 o2 o3 o4 o5 => ?_
      have hgh := hs.gh.1
      rw [hgr.G] at hgh
      obtain ⟨_, g2, g3, g4⟩ := hgh
      have hfix := hs.gh.2
      obtain ⟨c3, hs3, k2, k3, k4, k5, k6⟩ := hs.unmark o1 o2 o3 o4 o5
      rw [g2] at k2; rw [g3] at k3; rw [g4] at k4
      obtain ⟨rvs, p1, p2⟩ := run_results hT hs3 (outL_ndef ho)
      obtain ⟨q1, q2, q3⟩ := hs3.out hob husok (hF env)
      have g1 := outD_vals (rw' := F env) q2 (usOK_spec husok) p2 ho
      have hslot : ∀ s, (look s bx).isSome = true → c3.ρ s = c.ρ s := fun s hs' => by
        have := hfix.1 true s (c.ρ s) (by rw [hgr.fix]; simp [rootM, hs'])
        rw [k5]; exact this.2
      have hoff : ∀ b, c3.w0.off b → passed c bx us b ∨ w.heap.size ≤ b := fun b hb => by
        have := hb.1
        rw [k2] at this
        by_cases hp : passed c bx us b
        · exact .inl hp
        · exact .inr (Nat.le_of_not_lt fun hl => this ⟨hl, hp⟩)
      refine ⟨_, ?_, _, c3, rfl, ⟨q1, ?_, ?_, ?_, ?_, ?_, fun k hk hp => ?_, fun b o hi => ?_, hslot, fun st g hst hg => ?_, fun st hb hst => ?_⟩, rep_packT g1 (fun d hd => (outL_vals ho d hd).1) fun d hd => (outL_vals ho d hd).2⟩
      · rw [results_eq]
        have e1 : (fn.results.mapM (resOne a'.tmps)).run P w2 = .ok ⟨rvs⟩ w2 := by
          rw [Array.mapM_eq_mapM_toList]
          simp [p1]
        simp only [Sem.run_bind, e1, Result.andThen_ok, Sem.run_pure]
      · have := hs3.im0
        rw [k3, k4] at this
        exact this
      · have := hs3.base.os; rw [k3] at this; exact this
      · have := hs3.base.tape; rw [k3] at this; exact this
      · have := hs3.base.output; rw [k3] at this; exact this
      · have := hs3.base.grow; rw [k3] at this; exact this
      · have := hs3.base.block k (by rw [k2]; exact ⟨hk, hp⟩)
        rw [k3] at this; exact this
      · rcases hs3.imNew b o hi with x | x
        · rw [k4] at x; exact .inl x
        · exact .inr (hoff b x)
      · obtain ⟨u, hu⟩ := Option.isSome_iff_exists.1 hst
        obtain ⟨r1, r2, _⟩ := usOK_spec husok st u hu
        exact hoff g (hs3.ownAbove st g ⟨by rw [r1]; rfl, r2⟩ hg).1
      · have hin := hbus st hb hst
        obtain ⟨u, hu⟩ := Option.isSome_iff_exists.1 hst
        obtain ⟨r1, r2, _⟩ := usOK_spec husok st u hu
        have hlv : env.live st := ⟨by rw [r1]; rfl, r2⟩
        have h1 := (hfix.2 st ((c.σ st).map fun g => (g, sizeOf w g)) (by rw [hgr.fixr]; simp [rootM, handed, hin])).2 hlv
        refine ⟨hin, ?_⟩
        rw [k6]
        cases hσ : c.σ st with
        | none =>
          rw [hσ] at h1
          exact ⟨h1, fun g n e => by cases e⟩
        | some g =>
          rw [hσ] at h1
          obtain ⟨h2, cur, u2, fr, h3, h4⟩ := h1
          refine ⟨h2, fun g' n e hr => ?_⟩
          cases e
          refine ⟨cur, u2, fr, ?_, h4.trans (room_size hr).symm⟩
          rw [o5 g (hs.ownAbove st g hlv h2).1.2]; exact h3
    rcases he with rfl | rfl
    · exact fin
    · exact fin
  cases e0 with
  | normal => exact key (.inl rfl) hx2
  | ret => exact key (.inr rfl) hx2
  | _ => exact hx2.elim

theorem callsR_of_runs (hT : TyOK P T) (hmo : P.follows .mixedOrders = true) {f : Nat} {fn : Func} {code : Code} {bx : List (Nat × BoxC)} {us us' : List (Nat × Nat)} {rw : List (Nat × RowC)} {ds : List D} {Q : D → List (Nat × BoxC) → List (Nat × RowC) → Prop} (hf : P.funcs[f]? = some fn) (hb : fn.body = some code) (hname : fn.name ≠ "runtime.NumGoroutine")
    (hr : RunsR P T fn.ntmps code fn.results.toList bx us rw ds Q us') : ∃ d bx' rw', Q d bx' rw' ∧ CallsR P f bx us rw ds d bx' us' rw' :=
  callsF_of_runs hT hmo hf hb hname (outRw us') (fun _ _ _ => outRw_look) hr.1 hr.2.1 ((fE_iff _ _).1 hr.2.2)

theorem callsM_of_runs (hT : TyOK P T) (hmo : P.follows .mixedOrders = true) {f : Nat} {fn : Func} {code : Code} {bx : List (Nat × BoxC)} {us us' : List (Nat × Nat)} {ds : List D} {Q : D → List (Nat × BoxC) → Prop} (hf : P.funcs[f]? = some fn) (hb : fn.body = some code) (hname : fn.name ≠ "runtime.NumGoroutine")
    (hr : RunsM P T fn.ntmps code fn.results.toList bx us ds Q us') : ∃ d bx', Q d bx' ∧ CallsM P f bx us ds d bx' us' := by
  obtain ⟨d, bx', rw', ⟨h1, h2⟩, h3⟩ := callsF_of_runs (Q := fun d bx rw => Q d bx ∧ rw = []) hT hmo hf hb hname (fun _ => []) (fun _ _ _ h => by cases h) (rw := []) hr.1 (by
    simp only [List.all_nil, Bool.true_and, List.all_eq_true, Bool.or_eq_true]
    exact fun p hp => .inl (List.all_eq_true.1 hr.2.1 p hp)) (by
      obtain ⟨e, x, _, h1, h2⟩ := ev_one code (env := { entry fn.ntmps ds with bx := bx, us := us, rw := [] }) rfl _ ((fE_iff _ _).1 hr.2.2)
      refine h2 _ ?_
      cases e <;> first | exact h1 | skip
      all_goals
        simp only at h1 ⊢
        split at h1
        · rename_i l b e1 e2
          rw [e1, e2]
          exact ⟨h1.1, h1.2, trivial⟩
        · exact h1.elim)
  subst h2
  exact ⟨d, bx', h1, h3⟩
end Go.Proofs.YtnooelecdbbfkaaGreatDoor.Fw

/- Calls that hand out rows, told as calls that change nothing; calls that change nothing, of rows that are changed in place. -/
namespace Go.Proofs.YtnooelecdbbfkaaGreatDoor.Fw
open Go Go.RowKit
set_option linter.unusedSectionVars false
variable [Inhabited GLT]

/-- What data is once its rows change no more. -/
def ClC (rw : List (Nat × RowC)) : D → D → Prop
  | .rsl st es lo n, d' => ∃ r, look st rw = some r ∧ r.es = es ∧ lo + n ≤ r.xs.length ∧ d' = .sl 0 es (sliceD r.xs lo (lo + n))
  | .sl _ es xs, d' => d' = .sl 0 es xs
  | .loc _ _, _ | .lsl _ _ _, _ | .mapr _, _ | .wh _ _ _, _ | .undef, _ | .tup _, _ | .agg _, _ | .rptr _ _ _ _, _ => False
  | d, d' => d' = d
def ClV (rw : List (Nat × RowC)) : D → D → Prop
  | .agg cs, d' => ∃ cs', d' = .agg cs' ∧ All2 (ClC rw) cs cs'
  | d, d' => ClC rw d d'
def ClT (rw : List (Nat × RowC)) : D → D → Prop
  | .tup ds, d' => ∃ ds', d' = .tup ds' ∧ All2 (ClV rw) ds ds'
  | d, d' => ClV rw d d'

section
variable {c : Ctx} {env : Env} {w : World} {I' : Im} {rw : List (Nat × RowC)}

theorem repRow_at {I : Im} {g o es : Nat} : ∀ {ys : List D} {i : Nat}, (∀ (j : Nat) (d : D), ys[j]? = some d → d.cells.length = es ∧ RepAt I w d ⟨g, o + (i + j) * es, none⟩) → RepRow I w es ys ⟨g, o, none⟩ i
  | [], _, _ => by simp only [RepRow]
  | y :: ys, i, h => by
    rw [repRow_cons]
    have h0 := h 0 y rfl
    refine ⟨⟨h0.1, ?_⟩, repRow_at fun j d hd => ?_⟩
    · rw [addr_add_mk]; exact h0.2
    · have := h (j + 1) d (by simpa using hd)
      rw [show i + (j + 1) = i + 1 + j from by omega] at this
      exact this

theorem repAt_row {I : Im} {g es : Nat} {u : TypeId} {fr : Nat × Nat} {xs : List D} {vs rest : List Value} (hh : w.heap[g]? = some (.cells ⟨vs ++ rest⟩ u fr)) (hv : All2 (Rep I w) (xs.flatMap D.cells) vs) (hs : ShapeR es xs) (hI : ∀ o, o < xs.length * es → I g o)
    {k : Nat} {d : D} (hk : xs[k]? = some d) : d.cells.length = es ∧ RepAt I w d ⟨g, k * es, none⟩ := by
  have hm := List.mem_of_getElem? hk
  obtain ⟨h1, h2, h3⟩ := hs d hm
  refine ⟨h1, ?_⟩
  have hlt := (List.getElem?_eq_some_iff.1 hk).1
  have hmul : k * es + es ≤ xs.length * es := by
    have := Nat.mul_le_mul_right es (show k + 1 ≤ xs.length from hlt)
    rw [Nat.add_mul, Nat.one_mul] at this; exact this
  have cell : ∀ (j : Nat) (x : D), d.cells[j]? = some x → x.isCell = true ∧ I g (k * es + j) ∧ ∃ v, w.cell? ⟨g, k * es + j, none⟩ = some v ∧ Rep I w x v := by
    intro j x hx
    have hj : j < es := by rw [← h1]; exact (List.getElem?_eq_some_iff.1 hx).1
    have hf := flat_get (fun d hd => (hs d hd).1) k d hk j hj
    rw [hx] at hf
    obtain ⟨v, e1, e2⟩ := hv.get _ x hf
    refine ⟨List.all_eq_true.1 h2 x (List.mem_of_getElem? hx), hI _ (by omega), v, ?_, e2⟩
    rw [cell_of_row w g _ _ _ fr hh]
    have : k * es + j < vs.length := (List.getElem?_eq_some_iff.1 e1).1
    simp only [List.getElem?_toArray]
    rw [List.getElem?_append_left this]; exact e1
  cases d with
  | agg cs =>
    show RepCs I w cs ⟨g, k * es, none⟩ 0
    refine repCs_of fun i x hx => ?_
    rw [Nat.zero_add]
    exact cell i x hx
  | tup cs => simp [D.cells, D.isCell] at h2
  | _ =>
    have := cell 0 _ rfl
    exact this

/-- What changes no more from now on. -/
structure Froze (c : Ctx) (env : Env) (w : World) (rw : List (Nat × RowC)) (I' : Im) : Prop where
  dd : env.dd = []
  row : ∀ st r, look st rw = some r → RowOK c env w st r
  keeps : Keeps c.I I' w w
  cells : ∀ st r g, look st rw = some r → c.σ st = some g → ∀ o, o < r.xs.length * r.es → I' g o

theorem clC_rep (F : Froze c env w rw I') {d d' : D} {v : Value} (hr : RepC c env w d v) (hc : ClC rw d d') : Rep I' w d' v ∧ d'.isCell = true := by
  cases d <;> simp only [ClC] at hc <;> first | exact hc.elim | skip
  case rsl st es lo n =>
    obtain ⟨r, hl, rfl, hle, rfl⟩ := hc
    refine ⟨?_, rfl⟩
    obtain ⟨_, _, h3⟩ := hr
    have h3 := h3.resolve_left (by rw [F.dd]; simp)
    obtain ⟨_, _, h4⟩ := F.row st r hl
    obtain ⟨_, h4⟩ := h4.resolve_left (by rw [F.dd]; simp)
    have hlen : (sliceD r.xs lo (lo + n)).length = n := by simp only [sliceD, List.length_drop, List.length_take]; omega
    simp only [Rep, true_and]
    cases hσ : c.σ st with
    | none =>
      rw [hσ] at h3
      obtain ⟨_, rfl, b, rfl⟩ := h3
      have e := List.eq_nil_of_length_eq_zero hlen
      rw [e]
      cases b with
      | none => exact .inl ⟨rfl, rfl⟩
      | some b => exact .inr ⟨b, 0, rfl, Nat.le_refl _, by simp only [RepRow]⟩
    | some g =>
      rw [hσ] at h3 h4
      obtain ⟨ad, cap, rfl, hp, hn, _, _⟩ := h3
      obtain ⟨vs, rest, fr, hh, _, hv, hsh, _⟩ := h4
      refine .inr ⟨ad, cap, by rw [hlen], by rw [hlen]; exact hn, ?_⟩
      by_cases h0 : n = 0
      · subst h0
        rw [List.eq_nil_of_length_eq_zero hlen]; simp only [RepRow]
      · obtain rfl := hp (by omega)
        refine repRow_at fun j d hd => ?_
        have hj := (List.getElem?_eq_some_iff.1 hd).1
        have hd' : r.xs[lo + j]? = some d := by
          simp only [sliceD, List.getElem?_drop, List.getElem?_take] at hd
          split at hd
          · exact hd
          · cases hd
        have := repAt_row hh (hv.mono fun _ _ => Rep.keeps F.keeps _ _) hsh (F.cells st r g hl hσ) hd'
        rw [Nat.zero_add, ← Nat.add_mul]; exact this
  case sl st es xs => subst hc; exact ⟨Rep.keeps F.keeps _ _ hr.1, rfl⟩
  all_goals (subst hc; exact ⟨Rep.keeps F.keeps _ _ hr, rfl⟩)
theorem clL_rep (F : Froze c env w rw I') : ∀ {ds ds' : List D} {vs : List Value}, All2 (RepC c env w) ds vs → All2 (ClC rw) ds ds' → All2 (Rep I' w) ds' vs ∧ ds'.all D.isCell = true
  | [], [], [], _, _ => ⟨trivial, rfl⟩
  | d :: ds, d' :: ds', v :: vs, hr, hc => by
    obtain ⟨h1, h2⟩ := clC_rep F hr.1 hc.1
    obtain ⟨h3, h4⟩ := clL_rep F hr.2 hc.2
    exact ⟨⟨h1, h3⟩, by simp [h2, h4]⟩
  | [], _ :: _, _, _, hc => hc.elim
  | _ :: _, [], _, _, hc => hc.elim
  | [], [], _ :: _, hr, _ => hr.elim
  | _ :: _, _ :: _, [], hr, _ => hr.elim
theorem clV_rep (F : Froze c env w rw I') {d d' : D} {v : Value} (hr : RepV c env w d v) (hc : ClV rw d d') : Rep I' w d' v ∧ d'.isVal = true := by
  cases d
  case agg cs =>
    obtain ⟨cs', rfl, hc⟩ := hc
    obtain ⟨vs, rfl, hr⟩ := hr
    obtain ⟨h1, h2⟩ := clL_rep F hr hc
    simp only [Rep]
    exact ⟨⟨vs, rfl, h2, all2_repL.2 h1⟩, rfl⟩
  all_goals
    simp only [RepV] at hr
    simp only [ClV] at hc
    obtain ⟨h1, h2⟩ := clC_rep F hr hc
    refine ⟨h1, ?_⟩
    cases d' <;> first | rfl | (cases h2; done)
theorem clVs_rep (F : Froze c env w rw I') : ∀ {ds ds' : List D} {vs : List Value}, All2 (RepV c env w) ds vs → All2 (ClV rw) ds ds' → All2 (Rep I' w) ds' vs ∧ ds'.all D.isVal = true
  | [], [], [], _, _ => ⟨trivial, rfl⟩
  | d :: ds, d' :: ds', v :: vs, hr, hc => by
    obtain ⟨h1, h2⟩ := clV_rep F hr.1 hc.1
    obtain ⟨h3, h4⟩ := clVs_rep F hr.2 hc.2
    exact ⟨⟨h1, h3⟩, by simp [h2, h4]⟩
  | [], _ :: _, _, _, hc => hc.elim
  | _ :: _, [], _, _, hc => hc.elim
  | [], [], _ :: _, hr, _ => hr.elim
  | _ :: _, _ :: _, [], hr, _ => hr.elim
theorem clT_rep (F : Froze c env w rw I') {d d' : D} {v : Value} (hr : RepT c env w d v) (hc : ClT rw d d') : Rep I' w d' v := by
  cases d
  case tup ds =>
    obtain ⟨ds', rfl, hc⟩ := hc
    obtain ⟨vs, rfl, hr⟩ := hr
    obtain ⟨h1, h2⟩ := clVs_rep F hr hc
    simp only [Rep]
    exact ⟨vs, rfl, h2, all2_repL.2 h1⟩
  case undef => exact hc.elim
  all_goals
    simp only [RepT] at hr
    simp only [ClT] at hc
    exact (clV_rep F hr hc).1
theorem clTs_rep (F : Froze c env w rw I') : ∀ {ds ds' : List D} {vs : List Value}, All2 (RepT c env w) ds vs → All2 (ClT rw) ds ds' → All2 (Rep I' w) ds' vs
  | [], [], [], _, _ => trivial
  | d :: ds, d' :: ds', v :: vs, hr, hc => ⟨clT_rep F hr.1 hc.1, clTs_rep F hr.2 hc.2⟩
  | [], _ :: _, _, _, hc => hc.elim
  | _ :: _, [], _, _, hc => hc.elim
  | [], [], _ :: _, hr, _ => hr.elim
  | _ :: _, _ :: _, [], hr, _ => hr.elim
end

variable {P : Program}

/-- Rows that are handed out change no more. -/
theorem callsTo_of_callsR {f : Nat} {ds : List D} {d d' : D} {bx' : List (Nat × BoxC)} {us' : List (Nat × Nat)} {rw' : List (Nat × RowC)} (h : CallsR P f [] [] [] ds d bx' us' rw') (hc : ClT rw' d d') : CallsTo P f ds d' := by
  obtain ⟨hf, h⟩ := h
  refine ⟨hf, fun I w vs him hrep => ?_⟩
  have hm : Mem ⟨fun _ => 0, fun _ => none, I, Root.plain w, I, []⟩ [] [] [] w := ⟨fun s b h => (by cases h), fun s s' h => (by cases h), fun s h => (by cases h), fun s s' g h => (by cases h), fun s g h => (by cases h), him.1, fun s r h => (by cases h)⟩
  refine Calls.mono (h _ w vs ⟨hm, him.2⟩ ((all2_repL.1 hrep).mono fun _ _ hr => rep_repT hr)) fun e w' he => ?_
  obtain ⟨v, c', rfl, M, hr⟩ := he
  have hnp : ∀ k, ¬ passed ⟨fun _ => 0, fun _ => none, I, Root.plain w, I, []⟩ [] [] k := fun k hk => by
    rcases hk with ⟨s, hs, _⟩ | ⟨s, hs, _⟩ <;> cases hs
  have hrow : ∀ st r g, look st rw' = some r → c'.σ st = some g → w.heap.size ≤ g ∧ g < w'.heap.size := fun st r g hl hσ => by
    obtain ⟨_, hu, _⟩ := M.mem.row st r hl
    have hus : (look st us').isSome = true := by rw [show look st us' = some rowMark from hu]; rfl
    exact ⟨(M.row st g hus hσ).resolve_left (hnp g), (M.mem.ownLt st g hus hσ).1⟩
  have F : Froze c' (memEnv bx' us' rw') w' rw' (fun b o => c'.I b o ∨ ∃ st r, look st rw' = some r ∧ c'.σ st = some b ∧ o < r.xs.length * r.es) :=
    ⟨rfl, M.mem.row, ⟨fun _ _ h => .inl h, fun _ _ _ h => h, fun _ _ _ _ h => h⟩, fun st r g hl hσ o ho => .inr ⟨st, r, hl, hσ, ho⟩⟩
  refine ⟨v, _, rfl, fun b o hi => .inl (M.keeps.im b o hi), fun b o hi => ?_, fun b o hi => ?_, clT_rep F hr hc, ⟨M.os, M.tape, M.output, M.size, fun k hk => M.block k hk (hnp k)⟩⟩
  · rcases hi with hi | ⟨st, r, hl, hσ, _⟩
    · rcases M.imNew b o hi with x | x | x
      · exact .inl x
      · exact absurd x (hnp b)
      · exact .inr x
    · exact .inr (hrow st r b hl hσ).1
  · rcases hi with hi | ⟨st, r, hl, hσ, _⟩
    · exact M.mem.im b o hi
    · exact (hrow st r b hl hσ).2

/-- Data that lies nowhere. -/
def flatC : D → Bool
  | .int _ _ | .bool _ | .str _ | .nilp | .nilf | .nili | .nilm => true
  | .sl _ _ [] => false
  | _ => false
def flatV : D → Bool
  | .agg cs => cs.all flatC
  | d => flatC d
def flatT : D → Bool
  | .tup ds => ds.all flatV
  | d => flatV d
theorem flatC_rep {I I2 : Im} {w w2 : World} {d : D} {v : Value} (hf : flatC d = true) (h : Rep I w d v) : Rep I2 w2 d v := by
  cases d <;> first | (cases hf; done) | (simpa only [Rep] using h) | skip
  rename_i st es xs
  cases xs <;> cases hf
theorem flatL_rep {I I2 : Im} {w w2 : World} : ∀ {ds : List D} {vs : List Value}, ds.all flatC = true → RepL I w ds vs → RepL I2 w2 ds vs
  | [], vs, _, h => by simpa only [RepL] using h
  | d :: ds, vs, hf, h => by
    simp only [List.all_cons, Bool.and_eq_true] at hf
    simp only [RepL] at h ⊢
    obtain ⟨v, us, e, h1, h2⟩ := h
    exact ⟨v, us, e, flatC_rep hf.1 h1, flatL_rep hf.2 h2⟩
theorem flatV_rep {I I2 : Im} {w w2 : World} {d : D} {v : Value} (hf : flatV d = true) (h : Rep I w d v) : Rep I2 w2 d v := by
  cases d
  case agg cs =>
    simp only [Rep] at h ⊢
    obtain ⟨vs, e, h1, h2⟩ := h
    exact ⟨vs, e, h1, flatL_rep hf h2⟩
  all_goals exact flatC_rep hf h
theorem flatVs_rep {I I2 : Im} {w w2 : World} : ∀ {ds : List D} {vs : List Value}, ds.all flatV = true → RepL I w ds vs → RepL I2 w2 ds vs
  | [], vs, _, h => by simpa only [RepL] using h
  | d :: ds, vs, hf, h => by
    simp only [List.all_cons, Bool.and_eq_true] at hf
    simp only [RepL] at h ⊢
    obtain ⟨v, us, e, h1, h2⟩ := h
    exact ⟨v, us, e, flatV_rep hf.1 h1, flatVs_rep hf.2 h2⟩
theorem flatT_rep {I I2 : Im} {w w2 : World} {d : D} {v : Value} (hf : flatT d = true) (h : Rep I w d v) : Rep I2 w2 d v := by
  cases d
  case tup ds =>
    simp only [Rep] at h ⊢
    obtain ⟨vs, e, h1, h2⟩ := h
    exact ⟨vs, e, h1, flatVs_rep hf h2⟩
  all_goals exact flatV_rep hf h

/-- A call that changes nothing, and hands out nothing that lies anywhere, may be handed rows that are changed in place. -/
theorem callsR_of_callsTo {f : Nat} {bx : List (Nat × BoxC)} {us : List (Nat × Nat)} {rw : List (Nat × RowC)} {ds0 ds : List D} {d : D} (h : CallsTo P f ds d) (hc : All2 (ClT rw) ds0 ds) (hd : flatT d = true) (hb : us.all (fun p => !Nat.ble bigS p.1 || (look p.1 rw).isSome) = true) : CallsR P f bx us rw ds0 d bx us rw := by
  obtain ⟨hf, h⟩ := h
  refine ⟨hf, fun c w vs hm hrep => ?_⟩
  have hus : ∀ st r, look st rw = some r → (look st us).isSome = true := fun st r hl => by
    obtain ⟨_, hu, _⟩ := hm.row st r hl
    rw [show look st us = some rowMark from hu]; rfl
  have F : Froze c (memEnv bx us rw) w rw (fun b o => c.I b o ∨ ∃ st r, look st rw = some r ∧ c.σ st = some b ∧ o < r.xs.length * r.es) :=
    ⟨rfl, hm.row, ⟨fun _ _ h => .inl h, fun _ _ _ h => h, fun _ _ _ _ h => h⟩, fun st r g hl hσ o ho => .inr ⟨st, r, hl, hσ, ho⟩⟩
  refine Calls.mono (h _ w vs ⟨fun b o hi => ?_, hm.gl.keeps ⟨fun _ _ h => .inl h, fun _ _ _ h => h, fun _ _ _ _ h => h⟩⟩ (all2_repL.2 (clTs_rep F hrep hc))) fun e w' he => ?_
  · rcases hi with hi | ⟨st, r, hl, hσ, _⟩
    · exact hm.im b o hi
    · exact (hm.ownLt st b (hus st r hl) hσ).1
  · obtain ⟨v, I', rfl, _, _, _, hr, hbel⟩ := he
    have hh : ∀ k, k < w.heap.size → w'.heap[k]? = w.heap[k]? := hbel.block
    have hK : Keeps c.I c.I w w' := ⟨fun _ _ h => h, fun x u hi hu => (World.cell?_of_block (hh _ (hm.im _ _ hi))).trans hu, fun r es k hi hr => (hh _ (hm.im _ _ hi)).trans hr⟩
    have S : Step c (memEnv bx us rw) w c (memEnv bx us rw) w' :=
      .of hK (fun _ h => ⟨h, rfl⟩) (fun _ h => ⟨h, rfl⟩) (fun _ _ h => h) (fun _ h => h) (fun st hl _ => ⟨rfl, fun g hg => ⟨hh g (hm.ownLt st g hl.1 hg).1, fun _ h => h⟩⟩)
    refine ⟨v, c, rfl, ⟨⟨fun s b hs => (hm.var s b hs).step S rfl (hh _ (hm.lt s (by rw [hs]; rfl))) (fun _ h => h), hm.inj, fun s hs => Nat.lt_of_lt_of_le (hm.lt s hs) hbel.size, hm.ownInj,
      fun st g h1 h2 => ⟨Nat.lt_of_lt_of_le (hm.ownLt st g h1 h2).1 hbel.size, (hm.ownLt st g h1 h2).2⟩, fun b o hi => Nat.lt_of_lt_of_le (hm.im b o hi) hbel.size, fun st r hl => S.rowOK (S.same st) (hm.row st r hl)⟩,
      hK, hbel.os, hbel.tape, hbel.output, hbel.size, fun k hk _ => hh k hk, fun b o hi => .inl hi, fun _ _ => rfl, fun st g h1 h2 => .inl (.inr ⟨st, h1, h2⟩), fun st hb' h1 => ?_⟩, rep_repT (flatT_rep hd hr)⟩
    obtain ⟨u, hu⟩ := Option.isSome_iff_exists.1 h1
    have h2 := List.all_eq_true.1 hb _ (mem_of_look hu)
    have h2 : (look st rw).isSome = true := by simpa [Nat.ble_eq_true_of_le hb'] using h2
    refine ⟨h2, rfl, fun g n hg => ?_⟩
    rintro ⟨cur, u, fr, q1, q2⟩
    exact ⟨cur, u, fr, (hh g (hm.ownLt st g h1 hg).1).trans q1, q2⟩

/-- Of what is known more, less is known. -/
def WkD (a b : D) : Prop := ∀ (c : Ctx) (env : Env) (w : World) (v : Value), RepT c env w a v → RepT c env w b v
theorem WkD.rfl' (a : D) : WkD a a := fun _ _ _ _ h => h
theorem WkD.sl {st es : Nat} {xs : List D} : WkD (.sl st es xs) (.sl 0 es xs) := fun _ _ _ _ h => ⟨h.1, .inl rfl⟩
theorem WkD.nil {st es es' : Nat} : WkD (.sl st es []) (.sl 0 es' []) := fun _ _ _ _ h => by
  refine ⟨⟨rfl, ?_⟩, .inl rfl⟩
  rcases h.1.2 with ⟨h1, _⟩ | ⟨a, cap, h1, h2, _⟩
  · exact .inl ⟨h1, rfl⟩
  · exact .inr ⟨a, cap, h1, h2, by simp only [RepRow]⟩
theorem callsR_weak {f : Nat} {bx bx' : List (Nat × BoxC)} {us us' : List (Nat × Nat)} {rw rw' : List (Nat × RowC)} {ds0 ds : List D} {d : D} (h : CallsR P f bx us rw ds d bx' us' rw') (hw : All2 WkD ds0 ds) : CallsR P f bx us rw ds0 d bx' us' rw' := by
  refine ⟨h.1, fun c w vs hm hrep => h.2 c w vs hm ?_⟩
  have : ∀ {ds0 ds : List D} {vs : List Value}, All2 WkD ds0 ds → All2 (RepT c (memEnv bx us rw) w) ds0 vs → All2 (RepT c (memEnv bx us rw) w) ds vs := by
    intro ds0
    induction ds0 with
    | nil =>
      intro ds vs h1 h2
      cases ds with
      | nil => exact h2
      | cons _ _ => exact h1.elim
    | cons a xs ih =>
      intro ds vs h1 h2
      cases ds with
      | nil => exact h1.elim
      | cons b bs =>
        cases vs with
        | nil => exact h2.elim
        | cons v vs => exact ⟨h1.1 _ _ _ _ h2.1, ih h1.2 h2.2⟩
  exact this hw hrep

/-- Known of a result, less is known of it. -/
def RkD (a b : D) : Prop := ∀ (I : Im) (w : World) (v : Value), Rep I w a v → Rep I w b v
theorem callsTo_res {f : Nat} {ds : List D} {d d' : D} (h : CallsTo P f ds d) (hr : RkD d d') : CallsTo P f ds d' := by
  refine ⟨h.1, fun I w vs him hrep => Calls.mono (h.2 I w vs him hrep) fun e w' he => ?_⟩
  obtain ⟨v, I', e1, e2, e3, e4, e5, e6⟩ := he
  exact ⟨v, I', e1, e2, e3, e4, hr _ _ _ e5, e6⟩
theorem RkD.nil {es es' : Nat} : RkD (.sl 0 es []) (.sl 0 es' []) := fun I w v h => by
  simp only [Rep, true_and] at h ⊢
  rcases h with ⟨h1, _⟩ | ⟨a, cap, h1, h2, _⟩
  · exact .inl ⟨h1, trivial⟩
  · exact .inr ⟨a, cap, h1, h2, by simp only [RepRow]⟩
/-- A slice that holds nothing is nil, or is not. -/
theorem sl_cases {I : Im} {w : World} {es : Nat} {v : Value} (h : Rep I w (.sl 0 es []) v) : Rep I w .nils v ∨ Rep I w .sle v := by
  simp only [Rep, true_and] at h ⊢
  rcases h with ⟨h1, _⟩ | ⟨a, cap, h1, _⟩
  · exact .inl h1
  · exact .inr ⟨a, cap, h1⟩
theorem callsTo_nil {f es : Nat} {ds : List D} {d : D} (h1 : CallsTo P f (.nils :: ds) d) (h2 : CallsTo P f (.sle :: ds) d) : CallsTo P f (.sl 0 es [] :: ds) d := by
  refine ⟨h1.1, fun I w vs him hrep => ?_⟩
  obtain ⟨v, us, rfl, hr, hrs⟩ := hrep
  rcases sl_cases hr with h | h
  · exact h1.2 I w _ him ⟨v, us, rfl, h, hrs⟩
  · exact h2.2 I w _ him ⟨v, us, rfl, h, hrs⟩
theorem callsR_nil {f es : Nat} {bx bx' : List (Nat × BoxC)} {us us' : List (Nat × Nat)} {rw rw' : List (Nat × RowC)} {ds : List D} {d : D} (h1 : CallsR P f bx us rw (.nils :: ds) d bx' us' rw') (h2 : CallsR P f bx us rw (.sle :: ds) d bx' us' rw') : CallsR P f bx us rw (.sl 0 es [] :: ds) d bx' us' rw' := by
  refine ⟨h1.1, fun c w vs hm hrep => ?_⟩
  cases vs with
  | nil => exact hrep.elim
  | cons v vs =>
    rcases sl_cases hrep.1.1 with h | h
    · exact h1.2 c w _ hm ⟨h, hrep.2⟩
    · exact h2.2 c w _ hm ⟨h, hrep.2⟩
/-- Rows that are told of. -/
theorem callsR_res {f : Nat} {bx bx' : List (Nat × BoxC)} {us us' : List (Nat × Nat)} {rw rw' : List (Nat × RowC)} {ds : List D} {d d' : D} (h : CallsR P f bx us rw ds d bx' us' rw') (hr : ∀ (c : Ctx) (w : World) (v : Value), Mem c bx' us' rw' w → RepT c (memEnv bx' us' rw') w d v → RepT c (memEnv bx' us' rw') w d' v) : CallsR P f bx us rw ds d' bx' us' rw' := by
  refine ⟨h.1, fun c w vs hm hrep => Calls.mono (h.2 c w vs hm hrep) fun e w' he => ?_⟩
  obtain ⟨v, c', e1, M, e2⟩ := he
  exact ⟨v, c', e1, M, hr c' w' v M.mem e2⟩
end Go.Proofs.YtnooelecdbbfkaaGreatDoor.Fw

/- The types of this program, and that they are so. -/
namespace Go.Proofs.YtnooelecdbbfkaaGreatDoor.Fw
open Go Go.RowKit
set_option linter.unusedSectionVars false
variable [Inhabited GLT]

def tab : List (Nat × TE) := [
  (1, ⟨.func, 1, 8, .nilf, true⟩),
  (2, ⟨.int .i64, 1, 8, .int .i64 0, true⟩),
  (3, ⟨.int .i64, 1, 8, .int .i64 0, true⟩),
  (4, ⟨.bool, 1, 1, .bool false, true⟩),
  (5, ⟨.int .u8, 1, 1, .int .u8 0, true⟩),
  (6, ⟨.int .u8, 1, 1, .int .u8 0, true⟩),
  (7, ⟨.agg [(0, 2), (1, 3), (2, 4), (3, 6)], 4, 24, .agg [.int .i64 0, .int .i64 0, .bool false, .int .u8 0], true⟩),
  (8, ⟨.agg [(0, 2), (1, 3), (2, 4), (3, 6)], 4, 24, .agg [.int .i64 0, .int .i64 0, .bool false, .int .u8 0], true⟩),
  (9, ⟨.str, 1, 16, .str [], true⟩),
  (10, ⟨.str, 1, 16, .str [], true⟩),
  (11, ⟨.str, 1, 16, .str [], true⟩),
  (12, ⟨.int .u64, 1, 8, .int .u64 0, true⟩),
  (15, ⟨.ptr, 1, 8, .nilp, true⟩),
  (16, ⟨.ptr, 1, 8, .nilp, true⟩),
  (17, ⟨.ptr, 1, 8, .nilp, true⟩),
  (20, ⟨.ifc, 1, 16, .nili, true⟩),
  (21, ⟨.int .i32, 1, 4, .int .i32 0, true⟩),
  (22, ⟨.agg [(0, 9), (1, 9), (2, 9), (3, 9), (4, 9), (5, 9)], 6, 96, .agg [.str [], .str [], .str [], .str [], .str [], .str []], true⟩),
  (23, ⟨.agg [(0, 9), (1, 9), (2, 9), (3, 9), (4, 9), (5, 9)], 6, 96, .agg [.str [], .str [], .str [], .str [], .str [], .str []], true⟩),
  (24, ⟨.arr 3 9, 3, 48, .agg [.str [], .str [], .str []], true⟩),
  (25, ⟨.agg [(0, 3), (1, 3), (2, 4), (3, 24), (6, 24)], 9, 120, .agg [.int .i64 0, .int .i64 0, .bool false, .str [], .str [], .str [], .str [], .str [], .str []], true⟩),
  (26, ⟨.agg [(0, 3), (1, 3), (2, 4), (3, 24), (6, 24)], 9, 120, .agg [.int .i64 0, .int .i64 0, .bool false, .str [], .str [], .str [], .str [], .str [], .str []], true⟩),
  (27, ⟨.sl 80, 1, 24, .sl 1 7 [], true⟩),
  (28, ⟨.sl 3, 1, 24, .sl 1 1 [], true⟩),
  (29, ⟨.agg [(0, 27), (1, 28), (2, 28), (3, 28), (4, 3), (5, 3), (6, 3)], 7, 120, .agg [.sl 1 7 [], .sl 1 1 [], .sl 1 1 [], .sl 1 1 [], .int .i64 0, .int .i64 0, .int .i64 0], true⟩),
  (30, ⟨.agg [(0, 27), (1, 28), (2, 28), (3, 28), (4, 3), (5, 3), (6, 3)], 7, 120, .agg [.sl 1 7 [], .sl 1 1 [], .sl 1 1 [], .sl 1 1 [], .int .i64 0, .int .i64 0, .int .i64 0], true⟩),
  (31, ⟨.func, 1, 8, .nilf, true⟩),
  (32, ⟨.func, 1, 8, .nilf, true⟩),
  (33, ⟨.func, 1, 8, .nilf, true⟩),
  (34, ⟨.agg [(0, 9), (1, 9)], 2, 32, .agg [.str [], .str []], true⟩),
  (35, ⟨.agg [(0, 9), (1, 9)], 2, 32, .agg [.str [], .str []], true⟩),
  (36, ⟨.func, 1, 8, .nilf, true⟩),
  (37, ⟨.func, 1, 8, .nilf, true⟩),
  (38, ⟨.func, 1, 8, .nilf, true⟩),
  (39, ⟨.sl 55, 1, 24, .sl 1 6 [], true⟩),
  (40, ⟨.sl 23, 1, 24, .sl 1 6 [], true⟩),
  (41, ⟨.sl 26, 1, 24, .sl 1 9 [], true⟩),
  (42, ⟨.sl 35, 1, 24, .sl 1 2 [], true⟩),
  (43, ⟨.agg [(0, 39), (1, 40), (2, 41), (3, 42), (4, 3), (5, 3)], 6, 112, .agg [.sl 1 6 [], .sl 1 6 [], .sl 1 9 [], .sl 1 2 [], .int .i64 0, .int .i64 0], true⟩),
  (44, ⟨.agg [(0, 39), (1, 40), (2, 41), (3, 42), (4, 3), (5, 3)], 6, 112, .agg [.sl 1 6 [], .sl 1 6 [], .sl 1 9 [], .sl 1 2 [], .int .i64 0, .int .i64 0], true⟩),
  (45, ⟨.func, 1, 8, .nilf, true⟩),
  (46, ⟨.func, 1, 8, .nilf, true⟩),
  (47, ⟨.ifc, 1, 16, .nili, false⟩),
  (48, ⟨.ifc, 1, 16, .nili, false⟩),
  (50, ⟨.func, 1, 8, .nilf, true⟩),
  (51, ⟨.func, 1, 8, .nilf, true⟩),
  (52, ⟨.func, 1, 8, .nilf, true⟩),
  (53, ⟨.func, 1, 8, .nilf, true⟩),
  (54, ⟨.agg [(0, 3), (1, 9), (2, 9), (3, 9), (4, 9), (5, 9)], 6, 88, .agg [.int .i64 0, .str [], .str [], .str [], .str [], .str []], true⟩),
  (55, ⟨.agg [(0, 3), (1, 9), (2, 9), (3, 9), (4, 9), (5, 9)], 6, 88, .agg [.int .i64 0, .str [], .str [], .str [], .str [], .str []], true⟩),
  (56, ⟨.func, 1, 8, .nilf, true⟩),
  (57, ⟨.int .i64, 1, 8, .int .i64 0, true⟩),
  (58, ⟨.agg [(0, 9), (1, 57), (2, 3), (3, 9)], 4, 48, .agg [.str [], .int .i64 0, .int .i64 0, .str []], true⟩),
  (59, ⟨.agg [(0, 9), (1, 57), (2, 3), (3, 9)], 4, 48, .agg [.str [], .int .i64 0, .int .i64 0, .str []], true⟩),
  (60, ⟨.func, 1, 8, .nilf, true⟩),
  (61, ⟨.func, 1, 8, .nilf, true⟩),
  (62, ⟨.arr 2 3, 2, 16, .agg [.int .i64 0, .int .i64 0], true⟩),
  (63, ⟨.func, 1, 8, .nilf, true⟩),
  (64, ⟨.func, 1, 8, .nilf, true⟩),
  (65, ⟨.func, 1, 8, .nilf, true⟩),
  (66, ⟨.func, 1, 8, .nilf, true⟩),
  (68, ⟨.func, 1, 8, .nilf, true⟩),
  (69, ⟨.sl 5, 1, 24, .sl 1 1 [], true⟩),
  (70, ⟨.func, 1, 8, .nilf, true⟩),
  (71, ⟨.func, 1, 8, .nilf, true⟩),
  (72, ⟨.func, 1, 8, .nilf, true⟩),
  (73, ⟨.func, 1, 8, .nilf, true⟩),
  (74, ⟨.sl 9, 1, 24, .sl 1 1 [], true⟩),
  (75, ⟨.sl 70, 1, 24, .sl 1 1 [], true⟩),
  (76, ⟨.func, 1, 8, .nilf, true⟩),
  (77, ⟨.func, 1, 8, .nilf, true⟩),
  (78, ⟨.func, 1, 8, .nilf, true⟩),
  (79, ⟨.agg [(0, 3), (1, 3), (2, 3), (3, 3), (4, 3), (5, 3), (6, 3)], 7, 56, .agg [.int .i64 0, .int .i64 0, .int .i64 0, .int .i64 0, .int .i64 0, .int .i64 0, .int .i64 0], true⟩),
  (80, ⟨.agg [(0, 3), (1, 3), (2, 3), (3, 3), (4, 3), (5, 3), (6, 3)], 7, 56, .agg [.int .i64 0, .int .i64 0, .int .i64 0, .int .i64 0, .int .i64 0, .int .i64 0, .int .i64 0], true⟩),
  (81, ⟨.func, 1, 8, .nilf, true⟩),
  (82, ⟨.func, 1, 8, .nilf, true⟩),
  (83, ⟨.func, 1, 8, .nilf, true⟩),
  (84, ⟨.func, 1, 8, .nilf, true⟩),
  (85, ⟨.func, 1, 8, .nilf, true⟩),
  (86, ⟨.func, 1, 8, .nilf, true⟩),
  (87, ⟨.func, 1, 8, .nilf, true⟩),
  (89, ⟨.func, 1, 8, .nilf, true⟩),
  (90, ⟨.func, 1, 8, .nilf, true⟩),
  (92, ⟨.func, 1, 8, .nilf, true⟩),
  (93, ⟨.func, 1, 8, .nilf, true⟩),
  (94, ⟨.func, 1, 8, .nilf, true⟩),
  (95, ⟨.func, 1, 8, .nilf, true⟩),
  (96, ⟨.func, 1, 8, .nilf, true⟩),
  (97, ⟨.func, 1, 8, .nilf, true⟩),
  (98, ⟨.func, 1, 8, .nilf, true⟩),
  (99, ⟨.func, 1, 8, .nilf, true⟩),
  (100, ⟨.func, 1, 8, .nilf, true⟩),
  (101, ⟨.sl 48, 1, 24, .sl 1 1 [], true⟩),
  (102, ⟨.func, 1, 8, .nilf, true⟩),
  (103, ⟨.func, 1, 8, .nilf, true⟩),
  (104, ⟨.int .u64, 1, 8, .int .u64 0, true⟩),
  (105, ⟨.func, 1, 8, .nilf, true⟩),
  (107, ⟨.func, 1, 8, .nilf, true⟩),
  (108, ⟨.func, 1, 8, .nilf, true⟩),
  (109, ⟨.func, 1, 8, .nilf, true⟩),
  (110, ⟨.func, 1, 8, .nilf, true⟩),
  (111, ⟨.func, 1, 8, .nilf, true⟩),
  (112, ⟨.func, 1, 8, .nilf, true⟩),
  (113, ⟨.arr 4 3, 4, 32, .agg [.int .i64 0, .int .i64 0, .int .i64 0, .int .i64 0], true⟩),
  (114, ⟨.func, 1, 8, .nilf, true⟩),
  (115, ⟨.ptr, 1, 8, .nilp, true⟩),
  (116, ⟨.func, 1, 8, .nilf, true⟩),
  (117, ⟨.func, 1, 8, .nilf, true⟩),
  (118, ⟨.func, 1, 8, .nilf, true⟩),
  (119, ⟨.ptr, 1, 8, .nilp, true⟩),
  (120, ⟨.agg [(0, 3), (1, 9), (2, 48)], 3, 40, .agg [.int .i64 0, .str [], .nili], false⟩),
  (121, ⟨.agg [(0, 3), (1, 9), (2, 48)], 3, 40, .agg [.int .i64 0, .str [], .nili], false⟩),
  (122, ⟨.func, 1, 8, .nilf, true⟩),
  (123, ⟨.ptr, 1, 8, .nilp, true⟩),
  (124, ⟨.agg [(0, 9), (1, 4)], 2, 24, .agg [.str [], .bool false], true⟩),
  (125, ⟨.agg [(0, 9), (1, 4)], 2, 24, .agg [.str [], .bool false], true⟩),
  (126, ⟨.func, 1, 8, .nilf, true⟩),
  (127, ⟨.func, 1, 8, .nilf, true⟩),
  (128, ⟨.func, 1, 8, .nilf, true⟩),
  (129, ⟨.func, 1, 8, .nilf, true⟩),
  (130, ⟨.func, 1, 8, .nilf, true⟩),
  (131, ⟨.func, 1, 8, .nilf, true⟩),
  (132, ⟨.func, 1, 8, .nilf, true⟩),
  (133, ⟨.func, 1, 8, .nilf, true⟩),
  (134, ⟨.func, 1, 8, .nilf, true⟩),
  (135, ⟨.func, 1, 8, .nilf, true⟩),
  (136, ⟨.agg [(0, 44), (6, 4)], 7, 120, .agg [.sl 1 6 [], .sl 1 6 [], .sl 1 9 [], .sl 1 2 [], .int .i64 0, .int .i64 0, .bool false], true⟩),
  (137, ⟨.agg [(0, 44), (6, 4)], 7, 120, .agg [.sl 1 6 [], .sl 1 6 [], .sl 1 9 [], .sl 1 2 [], .int .i64 0, .int .i64 0, .bool false], true⟩),
  (138, ⟨.func, 1, 8, .nilf, true⟩),
  (139, ⟨.func, 1, 8, .nilf, true⟩),
  (140, ⟨.func, 1, 8, .nilf, true⟩),
  (141, ⟨.func, 1, 8, .nilf, true⟩),
  (142, ⟨.func, 1, 8, .nilf, true⟩),
  (143, ⟨.func, 1, 8, .nilf, true⟩),
  (144, ⟨.ptr, 1, 8, .nilp, true⟩),
  (145, ⟨.arr 5 144, 5, 40, .agg [.nilp, .nilp, .nilp, .nilp, .nilp], true⟩),
  (146, ⟨.func, 1, 8, .nilf, true⟩),
  (147, ⟨.ptr, 1, 8, .nilp, true⟩),
  (148, ⟨.func, 1, 8, .nilf, true⟩),
  (150, ⟨.func, 1, 8, .nilf, true⟩),
  (151, ⟨.ptr, 1, 8, .nilp, true⟩),
  (152, ⟨.agg [(0, 151), (1, 69)], 2, 32, .agg [.nilp, .sl 1 1 []], true⟩),
  (153, ⟨.agg [(0, 151), (1, 69)], 2, 32, .agg [.nilp, .sl 1 1 []], true⟩),
  (155, ⟨.func, 1, 8, .nilf, true⟩),
  (156, ⟨.ptr, 1, 8, .nilp, true⟩),
  (158, ⟨.func, 1, 8, .nilf, true⟩),
  (159, ⟨.func, 1, 8, .nilf, true⟩),
  (160, ⟨.func, 1, 8, .nilf, true⟩),
  (161, ⟨.arr 5 9, 5, 80, .agg [.str [], .str [], .str [], .str [], .str []], true⟩),
  (162, ⟨.func, 1, 8, .nilf, true⟩),
  (163, ⟨.agg [(0, 104), (1, 4)], 2, 16, .agg [.int .u64 0, .bool false], true⟩),
  (164, ⟨.agg [(0, 104), (1, 4)], 2, 16, .agg [.int .u64 0, .bool false], true⟩),
  (165, ⟨.func, 1, 8, .nilf, true⟩),
  (166, ⟨.func, 1, 8, .nilf, true⟩),
  (168, ⟨.int .u64, 1, 8, .int .u64 0, true⟩),
  (171, ⟨.func, 1, 8, .nilf, true⟩),
  (172, ⟨.ifc, 1, 16, .nili, false⟩),
  (173, ⟨.ifc, 1, 16, .nili, false⟩),
  (174, ⟨.func, 1, 8, .nilf, true⟩),
  (175, ⟨.int .u8, 1, 1, .int .u8 0, true⟩),
  (176, ⟨.func, 1, 8, .nilf, true⟩),
  (177, ⟨.func, 1, 8, .nilf, true⟩),
  (178, ⟨.func, 1, 8, .nilf, true⟩),
  (179, ⟨.func, 1, 8, .nilf, true⟩),
  (181, ⟨.ifc, 1, 16, .nili, false⟩),
  (182, ⟨.ifc, 1, 16, .nili, false⟩),
  (184, ⟨.func, 1, 8, .nilf, true⟩),
  (185, ⟨.func, 1, 8, .nilf, true⟩),
  (186, ⟨.func, 1, 8, .nilf, true⟩),
  (187, ⟨.func, 1, 8, .nilf, true⟩),
  (188, ⟨.func, 1, 8, .nilf, true⟩),
  (189, ⟨.agg [(0, 55), (6, 4)], 7, 96, .agg [.int .i64 0, .str [], .str [], .str [], .str [], .str [], .bool false], true⟩),
  (190, ⟨.agg [(0, 55), (6, 4)], 7, 96, .agg [.int .i64 0, .str [], .str [], .str [], .str [], .str [], .bool false], true⟩),
  (191, ⟨.func, 1, 8, .nilf, true⟩),
  (192, ⟨.func, 1, 8, .nilf, true⟩),
  (193, ⟨.func, 1, 8, .nilf, true⟩),
  (194, ⟨.func, 1, 8, .nilf, true⟩),
  (195, ⟨.func, 1, 8, .nilf, true⟩),
  (196, ⟨.func, 1, 8, .nilf, true⟩),
  (197, ⟨.func, 1, 8, .nilf, true⟩),
  (198, ⟨.mp 3 90, 1, 8, .nilm, true⟩),
  (199, ⟨.int .u64, 1, 8, .int .u64 0, true⟩),
  (200, ⟨.ptr, 1, 8, .nilp, true⟩),
  (201, ⟨.func, 1, 8, .nilf, true⟩),
  (202, ⟨.func, 1, 8, .nilf, true⟩),
  (203, ⟨.func, 1, 8, .nilf, true⟩),
  (204, ⟨.func, 1, 8, .nilf, true⟩),
  (205, ⟨.func, 1, 8, .nilf, true⟩),
  (206, ⟨.agg [(0, 3), (1, 3), (2, 9)], 3, 32, .agg [.int .i64 0, .int .i64 0, .str []], true⟩),
  (207, ⟨.agg [(0, 3), (1, 3), (2, 9)], 3, 32, .agg [.int .i64 0, .int .i64 0, .str []], true⟩),
  (210, ⟨.ptr, 1, 8, .nilp, true⟩),
  (211, ⟨.func, 1, 8, .nilf, true⟩),
  (212, ⟨.func, 1, 8, .nilf, true⟩),
  (213, ⟨.func, 1, 8, .nilf, true⟩),
  (214, ⟨.ifc, 1, 16, .nili, false⟩),
  (216, ⟨.func, 1, 8, .nilf, true⟩),
  (217, ⟨.ifc, 1, 16, .nili, false⟩),
  (218, ⟨.func, 1, 8, .nilf, true⟩),
  (220, ⟨.func, 1, 8, .nilf, true⟩),
  (221, ⟨.func, 1, 8, .nilf, true⟩),
  (222, ⟨.func, 1, 8, .nilf, true⟩),
  (223, ⟨.agg [(0, 9), (1, 4)], 2, 24, .agg [.str [], .bool false], true⟩),
  (224, ⟨.agg [(0, 9), (1, 4)], 2, 24, .agg [.str [], .bool false], true⟩),
  (225, ⟨.func, 1, 8, .nilf, true⟩),
  (226, ⟨.func, 1, 8, .nilf, true⟩),
  (227, ⟨.func, 1, 8, .nilf, true⟩),
  (228, ⟨.func, 1, 8, .nilf, true⟩),
  (229, ⟨.func, 1, 8, .nilf, true⟩),
  (230, ⟨.func, 1, 8, .nilf, true⟩),
  (231, ⟨.func, 1, 8, .nilf, true⟩),
  (232, ⟨.func, 1, 8, .nilf, true⟩),
  (233, ⟨.int .u32, 1, 4, .int .u32 0, true⟩),
  (235, ⟨.func, 1, 8, .nilf, true⟩),
  (237, ⟨.func, 1, 8, .nilf, true⟩),
  (238, ⟨.func, 1, 8, .nilf, true⟩),
  (239, ⟨.arr 26 9, 26, 416, .agg [.str [], .str [], .str [], .str [], .str [], .str [], .str [], .str [], .str [], .str [], .str [], .str [], .str [], .str [], .str [], .str [], .str [], .str [], .str [], .str [], .str [], .str [], .str [], .str [], .str [], .str []], true⟩),
  (240, ⟨.func, 1, 8, .nilf, true⟩),
  (241, ⟨.int .i64, 1, 8, .int .i64 0, true⟩),
  (243, ⟨.func, 1, 8, .nilf, true⟩),
  (244, ⟨.func, 1, 8, .nilf, true⟩),
  (245, ⟨.func, 1, 8, .nilf, true⟩),
  (247, ⟨.func, 1, 8, .nilf, true⟩),
  (248, ⟨.func, 1, 8, .nilf, true⟩),
  (249, ⟨.func, 1, 8, .nilf, true⟩),
  (250, ⟨.int .u64, 1, 8, .int .u64 0, true⟩),
  (251, ⟨.func, 1, 8, .nilf, true⟩),
  (252, ⟨.func, 1, 8, .nilf, true⟩),
  (253, ⟨.func, 1, 8, .nilf, true⟩),
  (254, ⟨.ptr, 1, 8, .nilp, true⟩),
  (255, ⟨.func, 1, 8, .nilf, true⟩),
  (256, ⟨.ptr, 1, 8, .nilp, true⟩),
  (258, ⟨.func, 1, 8, .nilf, true⟩),
  (261, ⟨.arr 0 16, 0, 0, .agg [], true⟩),
  (264, ⟨.func, 1, 8, .nilf, true⟩),
  (265, ⟨.int .u8, 1, 1, .int .u8 0, true⟩),
  (266, ⟨.func, 1, 8, .nilf, true⟩),
  (267, ⟨.int .i32, 1, 4, .int .i32 0, true⟩),
  (268, ⟨.int .i32, 1, 4, .int .i32 0, true⟩),
  (271, ⟨.func, 1, 8, .nilf, true⟩),
  (272, ⟨.func, 1, 8, .nilf, true⟩),
  (275, ⟨.ptr, 1, 8, .nilp, true⟩),
  (276, ⟨.func, 1, 8, .nilf, true⟩),
  (277, ⟨.int .u16, 1, 2, .int .u16 0, true⟩),
  (280, ⟨.sl 283, 1, 24, .sl 1 0 [], true⟩),
  (281, ⟨.int .i32, 1, 4, .int .i32 0, true⟩),
  (284, ⟨.ptr, 1, 8, .nilp, true⟩)]

/-- The types; m: functions that are handed rows, or variables; u: types of elements of rows that are changed in place. -/
def Tm (m u : List Nat) : Ty := ⟨fun t => look t tab, fun f => m.any (Nat.beq f), fun t => u.any (Nat.beq t)⟩
abbrev T : Ty := Tm [] []
theorem tabOK : tab.map (fun p => (teOf Tryz.prog p.1).map fun e => { e with zero := fixZ e.zero p.2.zero }) = tab.map (fun p => some p.2) := by kernel_rfl
theorem tyOKm (m u : List Nat) : TyOK Tryz.prog (Tm m u) := tyOK_of (tab := tab) (m := fun f => m.any (Nat.beq f)) (u := fun t => u.any (Nat.beq t)) tabOK
theorem tyOK : TyOK Tryz.prog T := tyOKm [] []
theorem mixed : Tryz.prog.follows .mixedOrders = true := by kernel_rfl
section
variable {m u : List Nat} {f : Nat} {fn : Func} {code : Code} (hf : Tryz.prog.funcs[f]? = some fn) (hb : fn.body = some code) (hname : fn.name ≠ "runtime.NumGoroutine")
include hf hb hname
theorem calls {ds : List D} {d : D} (hr : Runs Tryz.prog (Tm m u) fn.ntmps code fn.results.toList ds d) : CallsTo Tryz.prog f ds d :=
  callsTo_of_runs (tyOKm m u) mixed hf hb hname hr
theorem callsQ {ds : List D} {Q : D → Prop} (hr : RunsQ Tryz.prog (Tm m u) fn.ntmps code fn.results.toList ds Q) : ∃ d, Q d ∧ CallsTo Tryz.prog f ds d := by
  obtain ⟨d, h, k⟩ := runsQ_one hr
  exact ⟨d, h, callsTo_of_runs (tyOKm m u) mixed hf hb hname k⟩
theorem callsM {bx : List (Nat × BoxC)} {us us' : List (Nat × Nat)} {ds : List D} {Q : D → List (Nat × BoxC) → Prop}
    (hr : RunsM Tryz.prog (Tm m u) fn.ntmps code fn.results.toList bx us ds Q us') : ∃ d bx', Q d bx' ∧ CallsM Tryz.prog f bx us ds d bx' us' := callsM_of_runs (tyOKm m u) mixed hf hb hname hr
theorem callsR {bx : List (Nat × BoxC)} {us us' : List (Nat × Nat)} {rw : List (Nat × RowC)} {ds : List D} {Q : D → List (Nat × BoxC) → List (Nat × RowC) → Prop}
    (hr : RunsR Tryz.prog (Tm m u) fn.ntmps code fn.results.toList bx us rw ds Q us') : ∃ d bx' rw', Q d bx' rw' ∧ CallsR Tryz.prog f bx us rw ds d bx' us' rw' := callsR_of_runs (tyOKm m u) mixed hf hb hname hr
theorem iters {caps : List D} {xs : List (List D)} (hres : fn.results = #[]) (hr : Yields Tryz.prog (Tm m u) fn.ntmps code caps xs) : IterTo Tryz.prog f caps xs :=
  iterTo_of_yields (tyOKm m u) mixed hf hb hname hres hr
end

end Go.Proofs.YtnooelecdbbfkaaGreatDoor.Fw

/- Rules of loops. -/
namespace Go.Proofs.YtnooelecdbbfkaaGreatDoor.Fw
open Go Go.RowKit
set_option linter.unusedSectionVars false
variable [Inhabited GLT]

theorem loop_rule {B : Env → (Exit → Env → Prop) → Prop} {ts bs ms : List Nat} {Q : Exit → Env → Prop} {σ : Type} (E : σ → Env) (m : σ → Nat) (I : σ → Prop) (step : ∀ s, I s → (∀ s', I s' → m s = m s' + 1 → loopEv B ts bs ms (m s) (E s') Q) → B (E s) (fun e env' => match e with
      | .normal => fN (stampsIn ts bs env') fun l => match canonW ts bs ms l env' with
        | some env2 => fE env2 fun env2 => loopEv B ts bs ms (m s) env2 Q
        | none => False
      | e => Q e env')) : ∀ s, I s → loopEv B ts bs ms (m s + 1) (E s) Q := by
  have : ∀ k s, I s → m s = k → loopEv B ts bs ms (m s + 1) (E s) Q := by
    intro k
    induction k with
    | zero => exact fun s hI hs => step s hI fun s' _ h => absurd (h.symm.trans hs) (Nat.succ_ne_zero _)
    | succ k ih => exact fun s hI hs => step s hI fun s' hI' h => by rw [h]; exact ih s' hI' (by omega)
  exact fun s hI => this _ s hI rfl

theorem getD_map {α : Type} {enc : α → D} {xs : List α} {i : Nat} (h : i < xs.length) : (List.map enc xs).getD (Int.toNat (i : Int)) D.undef = enc xs[i] := by
  simp [List.getD, h]

end Go.Proofs.YtnooelecdbbfkaaGreatDoor.Fw

/- Loops and rounds without typing their state: what changes is named, all else stays. -/
namespace Go.Proofs.YtnooelecdbbfkaaGreatDoor.Fw
open Go Go.RowKit
set_option linter.unusedSectionVars false
variable [Inhabited GLT]

theorem seqEv_at {B : Env → (Exit → Env → Prop) → Prop} {ps : List Nat} {nt0 : Nat} {tm0 : List (Nat × D)} {bs ms : List Nat} {ys : Option (Nat × List (List D))} {xs : List (List D)} {env : Env} {Q : Exit → Env → Prop} (k : Nat) (h : seqEv B ps nt0 tm0 bs ms ys xs { env with nt := k, tm := [], wt := [] } Q) : seqEv B ps nt0 tm0 bs ms ys xs env Q := by
  cases xs <;> exact h
theorem seq_rule {B : Env → (Exit → Env → Prop) → Prop} {ps : List Nat} {nt0 : Nat} {tm0 : List (Nat × D)} {bs ms : List Nat} {ys : Option (Nat × List (List D))} {Q : Exit → Env → Prop} {σ α : Type} (enc : α → List D) (E : σ → Env) (I : σ → List α → Prop)
    (nil : ∀ s, I s [] → seqEv B ps nt0 tm0 bs ms ys [] (E s) Q) (cons : ∀ s x xs, I s (x :: xs) → (∀ s', I s' xs → seqEv B ps nt0 tm0 bs ms ys (xs.map enc) (E s') Q) → seqEv B ps nt0 tm0 bs ms ys (enc x :: xs.map enc) (E s) Q) :
    ∀ xs s, I s xs → seqEv B ps nt0 tm0 bs ms ys (xs.map enc) (E s) Q
  | [], s, h => nil s h
  | x :: xs, s, h => cons s x xs h fun s' h' => seq_rule enc E I nil cons xs s' h'

def setL {α : Type} (t : Nat) (f : α → α) : List (Nat × α) → List (Nat × α)
  | [] => []
  | (s, x) :: l => match Nat.beq s t with
    | true => (s, f x) :: l
    | false => (s, x) :: setL t f l
/-- A slot. -/
def Env.setT (t : Nat) (d : D) (env : Env) : Env := { env with tm := setL t (fun _ => d) env.tm }
/-- A variable's cells. -/
def Env.setC (s : Nat) (f : List D → List D) (env : Env) : Env := { env with bx := setL s (fun b => { b with cells := f b.cells }) env.bx }
/-- One cell. -/
def Env.setC1 (s i : Nat) (d : D) (env : Env) : Env := env.setC s fun cs => cs.take i ++ d :: cs.drop (i + 1)
/-- A map. -/
def Env.setM (s : Nat) (ks vs : List D) (env : Env) : Env := { env with mp := setL s (fun m => { m with ks := ks, vs := vs }) env.mp }

/-- A row's content. -/
def Env.setX (st : Nat) (xs : List D) (env : Env) : Env := { env with rw := setL st (fun r => { r with xs := xs }) env.rw }

theorem loop_at {B : Env → (Exit → Env → Prop) → Prop} {ts bs ms : List Nat} {Q : Exit → Env → Prop} {σ : Type} {env0 : Env} (upd : σ → Env → Env) (m : σ → Nat) (I : σ → Prop) (s0 : σ) (hI : I s0) (h0 : upd s0 env0 = env0)
    (step : ∀ s, I s → (∀ s', I s' → m s = m s' + 1 → loopEv B ts bs ms (m s) (upd s' env0) Q) → B (upd s env0) (fun e env' => match e with
      | .normal => fN (stampsIn ts bs env') fun l => match canonW ts bs ms l env' with
        | some env2 => fE env2 fun env2 => loopEv B ts bs ms (m s) env2 Q
        | none => False
      | e => Q e env')) : ∃ n, loopEv B ts bs ms n env0 Q := by
  have := loop_rule (fun s => upd s env0) m I step s0 hI
  rw [h0] at this
  exact ⟨_, this⟩
theorem seq_at {B : Env → (Exit → Env → Prop) → Prop} {ps : List Nat} {nt0 : Nat} {tm0 : List (Nat × D)} {bs ms : List Nat} {ys : Option (Nat × List (List D))} {Q : Exit → Env → Prop} {σ α : Type} {env0 : Env} {xs : List α} (enc : α → List D) (upd : σ → Env → Env) (I : σ → List α → Prop) (s0 : σ) (hI : I s0 xs)
    (nil : ∀ s, I s [] → seqEv B ps nt0 tm0 bs ms ys [] (upd s { env0 with nt := 0, tm := [], wt := [] }) Q)
    (cons : ∀ s x xs, I s (x :: xs) → (∀ s', I s' xs → seqEv B ps nt0 tm0 bs ms ys (xs.map enc) (upd s' { env0 with nt := 0, tm := [], wt := [] }) Q) → seqEv B ps nt0 tm0 bs ms ys (enc x :: xs.map enc) (upd s { env0 with nt := 0, tm := [], wt := [] }) Q)
    (h1 : upd s0 { env0 with nt := 0, tm := [], wt := [] } = { env0 with nt := 0, tm := [], wt := [] }) : seqEv B ps nt0 tm0 bs ms ys (xs.map enc) env0 Q := by
  have := seq_rule enc (fun s => upd s { env0 with nt := 0, tm := [], wt := [] }) I nil cons xs s0 hI
  rw [h1] at this
  exact seqEv_at 0 this
/-- What an operation gives is shown by hand. -/
def dO (P : Program) (g : Option (Nat × Bool)) (ρ : Operand → D) (op : Op) (o : Option Res) (gc : Prop) (K : Res → Prop) : Prop := match o with
  | some r => sideB r.side gc (K r)
  | none => elseK P g ρ op gc K
theorem dO_of {P : Program} {g : Option (Nat × Bool)} {ρ : Operand → D} {op : Op} {o : Option Res} {r : Res} {gc : Prop} {K : Res → Prop} (h : o = some r) (k : sideB r.side gc (K r)) : dO P g ρ op o gc K := by subst h; exact k
/-- Likewise, of states that are only named. -/
def tabEF (P : Program) (T : Ty) (ops : Array Oper) (F : Nat → Env → Prop) (m : Nat) (env : Env) (i : Nat) : Prop := match ops.toList[i]? with
  | some o => evOp P T ops o env fun env' => fE env'.norm1 fun env' => fNat (m ||| 1 <<< i) fun m' => F m' env'
  | none => False
def tabGF (P : Program) (T : Ty) (ops : Array Oper) (F : Nat → Env → Prop) (K : Env → Prop) : List (Nat × Env) → Prop
  | [] => True
  | (m, env) :: l => (match nextM T env ops m with
    | [] => K env
    | i :: is => andL (tabEF P T ops F m env) (i :: is)) ∧ tabGF P T ops F K l
def allF (F : Nat → Env → Prop) : List (Nat × Env) → Prop
  | [] => True
  | (m, env) :: l => F m env ∧ allF F l
theorem tab_F {P : Program} {T : Ty} {ops : Array Oper} {tab : List (Nat × Env)} {K : Env → Prop} (hd : distinct (tab.map (·.1)) = true) (h : ∀ F : Nat → Env → Prop, allF F tab → tabGF P T ops F K tab) : tabGo P T ops tab K tab := by
  have h0 : ∀ {l : List (Nat × Env)}, distinct (l.map (·.1)) = true → ∀ {G : Nat → Env → Prop}, (∀ m e, look m l = some e → G m e) → allF G l := by
    intro l
    induction l with
    | nil => intro _ G _; trivial
    | cons p l ih =>
      obtain ⟨m, e⟩ := p
      intro hd G hG
      simp only [List.map_cons, distinct, Bool.and_eq_true, Bool.not_eq_true'] at hd
      refine ⟨hG m e (by rw [look_cons, if_pos rfl]), ih hd.2 fun m' e' hm => hG m' e' ?_⟩
      rw [look_cons, if_neg]
      · exact hm
      · rintro rfl
        have : m ∈ l.map (·.1) := by
          clear ih hd hG
          induction l with
          | nil => cases hm
          | cons q l ih =>
            obtain ⟨a, b⟩ := q
            rw [look_cons] at hm
            split at hm
            · rename_i e; subst e; simp
            · exact List.mem_cons_of_mem _ (ih hm)
        have h2 := hd.1
        rw [List.contains_eq_mem, decide_eq_false_iff_not] at h2
        exact h2 this
  have := h (fun m e => look m tab = some e) (h0 hd fun m e h => h)
  have key : ∀ l, tabGF P T ops (fun m e => look m tab = some e) K l → tabGo P T ops tab K l := by
    intro l
    induction l with
    | nil => intro _; trivial
    | cons p l ih => obtain ⟨m, e⟩ := p; exact fun h => ⟨h.1, ih h.2⟩
  exact key tab this
section
variable {P : Program} {T : Ty} {ops : Array Oper} {F : Nat → Env → Prop} {l : List (Nat × Env)} {K : Env → Prop} {m : Nat} {env : Env} {i j k o : Nat}
theorem tab_0 (h : nextM T env ops m = []) (a : K env) (r : tabGF P T ops F K l) : tabGF P T ops F K ((m, env) :: l) := by
  unfold tabGF; rw [h]; exact ⟨a, r⟩
theorem tab_1 (h : nextM T env ops m = [i]) (a : tabEF P T ops F m env i) (r : tabGF P T ops F K l) : tabGF P T ops F K ((m, env) :: l) := by
  unfold tabGF; rw [h]; exact ⟨a, r⟩
theorem tab_2 (h : nextM T env ops m = [i, j]) (a : tabEF P T ops F m env i) (b : tabEF P T ops F m env j) (r : tabGF P T ops F K l) : tabGF P T ops F K ((m, env) :: l) := by
  unfold tabGF; rw [h]; exact ⟨⟨a, b⟩, r⟩
theorem tab_3 (h : nextM T env ops m = [i, j, k]) (a : tabEF P T ops F m env i) (b : tabEF P T ops F m env j) (c : tabEF P T ops F m env k) (r : tabGF P T ops F K l) : tabGF P T ops F K ((m, env) :: l) := by
  unfold tabGF; rw [h]; exact ⟨⟨a, b, c⟩, r⟩
theorem tab_4 (h : nextM T env ops m = [i, j, k, o]) (a : tabEF P T ops F m env i) (b : tabEF P T ops F m env j) (c : tabEF P T ops F m env k) (d : tabEF P T ops F m env o) (r : tabGF P T ops F K l) : tabGF P T ops F K ((m, env) :: l) := by
  unfold tabGF; rw [h]; exact ⟨⟨a, b, c, d⟩, r⟩
end
theorem map_snoc {α β : Type} {f : α → β} {l : List α} {x : α} : List.map f l ++ [f x] = List.map f (l ++ [x]) := by simp
theorem sliceD_end {α : Type} {l : List α} {i : Nat} : sliceD l i (Int.toNat (l.length : Int)) = l.drop i := by
  simp [sliceD]
end Go.Proofs.YtnooelecdbbfkaaGreatDoor.Fw

/- Maps whose keys are given by an encoding: looking, laying, and which keys fit. -/
namespace Go.Proofs.YtnooelecdbbfkaaGreatDoor.Fw
open Go Go.RowKit
set_option linter.unusedSectionVars false
variable [Inhabited GLT]

section
variable {α : Type} [DecidableEq α]
/-- Keys of a type, one for each a. -/
structure KeyEnc (T : Ty) (q : Nat) (enc : α → D) : Prop where
  eq : ∀ a b, eqKey (enc a) (enc b) = decide (a = b)
  fit : ∀ a b, fitK T q (enc a) (enc b) = true
  val : ∀ a, (enc a).isVal = true

def assoc {β : Type} (a : α) : List (α × β) → Option β
  | [] => none
  | p :: L => bif decide (a = p.1) then some p.2 else assoc a L
def putA {β : Type} (a : α) (v : β) : List (α × β) → List (α × β)
  | [] => [(a, v)]
  | p :: L => bif decide (a = p.1) then (a, v) :: L else p :: putA a v L
def insS (a : α) : List α → List α
  | [] => [a]
  | b :: L => bif decide (a = b) then b :: L else b :: insS a L

variable {T : Ty} {q : Nat} {enc : α → D} (h : KeyEnc T q enc)
include h
theorem keysFit_enc (a : α) (L : List α) : keysFit T q (enc a) (L.map enc) = true := by
  simp only [keysFit, h.val, h.fit, Bool.true_and, List.all_map, List.all_eq_true]
  intro x _; exact h.fit a x
theorem findD_map {β : Type} (val : β → D) (a : α) : ∀ L : List (α × β), findD (enc a) (L.map fun p => enc p.1) (L.map fun p => val p.2) = (assoc a L).map val
  | [] => rfl
  | p :: L => by
    simp only [List.map_cons, findD, assoc, h.eq]
    cases decide (a = p.1) with
    | true => rfl
    | false => exact findD_map val a L
theorem putD_map {β : Type} (val : β → D) (a : α) (v : β) : ∀ L : List (α × β), putD (enc a) (val v) (L.map fun p => enc p.1) (L.map fun p => val p.2) = ((putA a v L).map fun p => enc p.1, (putA a v L).map fun p => val p.2)
  | [] => rfl
  | p :: L => by
    simp only [List.map_cons, putD, putA, h.eq]
    cases decide (a = p.1) with
    | true => rfl
    | false => rw [putD_map val a v L]; rfl
theorem findD_set (d : D) (a : α) : ∀ L : List α, findD (enc a) (L.map enc) (L.map fun _ => d) = bif L.contains a then some d else none
  | [] => rfl
  | b :: L => by
    simp only [List.map_cons, findD, h.eq, List.contains_cons]
    by_cases e : a = b
    · simp [e]
    · simp only [decide_eq_false e, show (a == b) = false by simpa using e, cond_false, Bool.false_or]
      exact findD_set d a L
theorem putD_set (d : D) (a : α) : ∀ L : List α, putD (enc a) d (L.map enc) (L.map fun _ => d) = ((insS a L).map enc, (insS a L).map fun _ => d)
  | [] => rfl
  | b :: L => by
    simp only [List.map_cons, putD, insS, h.eq]
    by_cases e : a = b
    · subst e; simp
    · simp only [decide_eq_false e, cond_false, putD_set d a L, List.map_cons]
end

theorem beq_dec {α : Type} [DecidableEq α] [BEq α] [LawfulBEq α] (a b : α) : (a == b) = decide (a = b) := by
  by_cases h : a = b <;> simp [h]
def setD {α : Type} (enc : α → D) (L : List α) : D := .mapv (L.map enc) (L.map fun _ => .bool true)
theorem mem_insS {α : Type} [DecidableEq α] {a b : α} : ∀ {L : List α}, b ∈ insS a L ↔ b = a ∨ b ∈ L
  | [] => by simp [insS]
  | c :: L => by
    simp only [insS]
    by_cases e : a = c
    · subst e; simp
    · simp only [decide_eq_false e, cond_false, List.mem_cons, mem_insS]
      constructor
      · rintro (h | h | h) <;> simp [h]
      · rintro (h | h | h) <;> simp [h]
theorem assoc_putA {α β : Type} [DecidableEq α] {a b : α} {v : β} : ∀ {L : List (α × β)}, assoc b (putA a v L) = if b = a then some v else assoc b L
  | [] => by
    by_cases e : b = a <;> simp [putA, assoc, e]
  | p :: L => by
    simp only [putA]
    by_cases e : a = p.1
    · simp only [decide_eq_true e, cond_true, assoc]
      by_cases e2 : b = a
      · simp [e2]
      · simp [e2, show ¬ b = p.1 from fun x => e2 (x.trans e.symm)]
    · simp only [decide_eq_false e, cond_false, assoc, assoc_putA]
      by_cases e2 : b = a
      · simp [e2, e]
      · simp [e2]
end Go.Proofs.YtnooelecdbbfkaaGreatDoor.Fw

/- What can be read of an argument is plain data: the reading gives the data, and the memory holds it. -/
namespace Go.Proofs.YtnooelecdbbfkaaGreatDoor.Fw
open Go Go.RowKit
set_option linter.unusedSectionVars false
variable [Inhabited GLT]

def szT (T : Ty) (u : Nat) : Nat := match T u with | some e => e.size | none => 0
def wholeT (T : Ty) (u : Nat) (cs : List D) : D := match T u with | some e => bif e.isAgg then .agg cs else cs.headD .undef | none => .undef

def consec (T : Ty) : List (Nat × Nat) → Nat → Nat → Bool
  | [], o, tot => Nat.beq o tot
  | (off, u) :: fs, o, tot => Nat.beq off o && (T u).isSome && consec T fs (o + szT T u) tot

/-- A type of plain things: no pointer, no map, no interface. -/
def plainT (T : Ty) : Nat → Nat → Bool
  | 0, _ => false
  | n + 1, t => match T t with
    | some e => match e.kind with
      | .int _ | .bool | .str => true
      | .sl u => (T u).isSome && Nat.ble 1 (szT T u) && plainT T n u
      | .agg fs => consec T fs 0 e.size && fs.all (fun f => plainT T n f.2)
      | .arr m u => (T u).isSome && Nat.beq (m * szT T u) e.size && plainT T n u
      | _ => false
    | none => false

/-- What plain data of a type looks like. -/
def Shp (T : Ty) : Nat → Nat → List D → Prop
  | 0, _, _ => False
  | n + 1, t, ds => match T t with
    | some e => match e.kind with
      | .int k => ∃ m, ds = [.int k m] ∧ (Lit.int k m).wf = true
      | .bool => ∃ b, ds = [.bool b]
      | .str => ∃ l, ds = [.str l] ∧ l.length ≤ maxLen
      | .sl u => ∃ xs : List (List D), ds = [.sl 0 (szT T u) (xs.map (wholeT T u))] ∧ xs.length ≤ maxLen ∧ ∀ x ∈ xs, Shp T n u x
      | .agg fs => ∃ dss : List (List D), ds = dss.flatten ∧ All2 (fun f d => Shp T n f.2 d) fs dss
      | .arr m u => ∃ dss : List (List D), ds = dss.flatten ∧ dss.length = m ∧ ∀ d ∈ dss, Shp T n u d
      | _ => False
    | none => False

/-- All that was there. -/
def old (w : World) : Im := fun b _ => b < w.heap.size

structure Conv (T : Ty) (w : World) (n t : Nat) (cs : List Value) (ds : List D) : Prop where
  shp : Shp T n t ds
  rep : RepL (old w) w ds cs
  cell : ds.all D.isCell = true

section
variable {P : Program} {T : Ty} {w : World}

theorem TEok.cells {t : Nat} {e : TE} (h : TEok P t e) : P.cellsOf t = e.size := by
  obtain ⟨i, z, hi, hs, _⟩ := h.info
  simp [Program.cellsOf, hi, hs]

theorem cell_lt {a : Addr} {u : Value} (h : w.cell? a = some u) : a.block < w.heap.size := by
  unfold World.cell? at h
  by_cases hb : a.block < w.heap.size
  · exact hb
  · rw [Array.getElem?_eq_none (by omega)] at h; simp at h

theorem conv_cs {ds : List D} {cs : List Value} (hc : ds.all D.isCell = true) (hr : RepL (old w) w ds cs) {a : Addr} {n : Nat} (hw : w.cells? 0 a n = some cs) : RepCs (old w) w ds a 0 := by
  obtain ⟨_, hl, hcell⟩ := World.cells?_some hw
  have key : ∀ (ds : List D) (j : Nat), ds.all D.isCell = true → (∀ i x, ds[i]? = some x → ∃ u, w.cell? (a.add (j + i)) = some u ∧ Rep (old w) w x u) → RepCs (old w) w ds a j := by
    intro ds
    induction ds with
    | nil => intro j _ _; simp [RepCs]
    | cons d ds ih =>
      intro j hc h
      simp only [List.all_cons, Bool.and_eq_true] at hc
      refine ⟨⟨hc.1, ?_, ?_⟩, ih (j + 1) hc.2 fun i x hx => ?_⟩
      · obtain ⟨u, hu, _⟩ := h 0 d rfl
        exact cell_lt hu
      · exact h 0 d rfl
      · have := h (i + 1) x (by simpa using hx)
        rwa [show j + (i + 1) = j + 1 + i by omega] at this
  refine key ds 0 hc fun i x hx => ?_
  obtain ⟨u, hu, hrep⟩ := (all2_repL.1 hr).get i x hx
  have hi : i < n := by rw [← hl]; exact (List.getElem?_eq_some_iff.1 hu).1
  exact ⟨u, by rw [Nat.zero_add, hcell i hi, hu], hrep⟩

theorem conv_at (hT : TyOK P T) {u : Nat} {e : TE} (he : T u = some e) {ds : List D} {cs : List Value} (hc : ds.all D.isCell = true) (hr : RepL (old w) w ds cs) {a : Addr} (hw : w.cells? 0 a e.size = some cs) : (wholeT T u ds).cells.length = e.size ∧ RepAt (old w) w (wholeT T u ds) a := by
  have h0 := conv_cs hc hr hw
  obtain ⟨_, hl, _⟩ := World.cells?_some hw
  have hlen : ds.length = e.size := (all2_repL.1 hr).length.trans hl
  cases hag : e.isAgg with
  | true =>
    rw [show wholeT T u ds = .agg ds by simp [wholeT, he, hag]]
    exact ⟨hlen, h0⟩
  | false =>
    have h1 : e.size = 1 := (hT u e he).one hag
    rw [h1] at hlen
    obtain ⟨d, rfl⟩ := List.length_eq_one_iff.1 hlen
    rw [show wholeT T u [d] = d by simp [wholeT, he, hag]]
    simp only [List.all_cons, List.all_nil, Bool.and_true] at hc
    have h2 := h0.1
    rw [show a.add 0 = a by simp [Addr.add]] at h2
    cases d <;> first | exact ⟨h1.symm, h2⟩ | exact absurd hc (by simp [D.isCell])

theorem conv_row (hT : TyOK P T) {n u : Nat} {e : TE} (he : T u = some e) (a : Addr) : ∀ (len j : Nat), (∀ i, i < len → ∃ ds cs, w.cells? 0 (a.add ((j + i) * e.size)) e.size = some cs ∧ Conv T w n u cs ds) →
    ∃ xs : List (List D), xs.length = len ∧ (∀ x ∈ xs, Shp T n u x) ∧ RepRow (old w) w e.size (xs.map (wholeT T u)) a j
  | 0, _, _ => ⟨[], rfl, by simp, by simp [RepRow]⟩
  | len + 1, j, h => by
    obtain ⟨ds, cs, hw, hc⟩ := h 0 (by omega)
    obtain ⟨xs, hl, hs, hr⟩ := conv_row hT he a len (j + 1) fun i hi => by
      have := h (i + 1) (by omega)
      rwa [show j + (i + 1) = j + 1 + i by omega] at this
    refine ⟨ds :: xs, by simp [hl], ?_, ?_⟩
    · intro x hx
      rcases List.mem_cons.1 hx with rfl | hx
      · exact hc.shp
      · exact hs x hx
    · rw [List.map_cons, repRow_cons]
      exact ⟨conv_at hT he hc.cell hc.rep hw, hr⟩

theorem conv_parts {n : Nat} (hT : TyOK P T) : ∀ (fs : List (Nat × Nat)) (o tot : Nat) (cs : List Value), consec T fs o tot = true → cs.length = tot → (∀ f ∈ fs, ∃ ds, Conv T w n f.2 ((cs.drop f.1).take (P.cellsOf f.2)) ds) →
    ∃ dss : List (List D), All2 (fun f d => Shp T n f.2 d) fs dss ∧ RepL (old w) w dss.flatten (cs.drop o) ∧ dss.flatten.all D.isCell = true
  | [], o, tot, cs, h, hl, _ => ⟨[], trivial, by
      rw [List.drop_eq_nil_iff.2 (by have := Nat.eq_of_beq_eq_true h; omega)]; simp [RepL], rfl⟩
  | (off, u) :: fs, o, tot, cs, h, hl, hf => by
    simp only [consec, Bool.and_eq_true] at h
    obtain ⟨⟨h1, h2⟩, h3⟩ := h
    obtain rfl := Nat.eq_of_beq_eq_true h1
    obtain ⟨e, he⟩ := Option.isSome_iff_exists.1 h2
    obtain ⟨ds, hds⟩ := hf _ (List.mem_cons_self)
    obtain ⟨dss, ha, hr, hc⟩ := conv_parts hT fs _ tot cs h3 hl fun f hm => hf f (List.mem_cons_of_mem _ hm)
    have hsz : P.cellsOf u = szT T u := by rw [(hT u e he).cells]; simp [szT, he]
    refine ⟨ds :: dss, ⟨hds.shp, ha⟩, ?_, ?_⟩
    · have e1 : cs.drop off = (cs.drop off).take (P.cellsOf u) ++ cs.drop (off + szT T u) := by
        rw [hsz, ← List.drop_drop, List.take_append_drop]
      rw [e1, List.flatten_cons]
      exact all2_repL.2 (All2.append (all2_repL.1 hds.rep) (all2_repL.1 hr))
    · rw [List.flatten_cons, List.all_append, hds.cell, hc]; rfl

theorem conv_arr {n u : Nat} : ∀ (m o : Nat) (cs : List Value), cs.length = o + m * P.cellsOf u → (∀ i, i < m → ∃ ds, Conv T w n u ((cs.drop (o + i * P.cellsOf u)).take (P.cellsOf u)) ds) →
    ∃ dss : List (List D), dss.length = m ∧ (∀ d ∈ dss, Shp T n u d) ∧ RepL (old w) w dss.flatten (cs.drop o) ∧ dss.flatten.all D.isCell = true
  | 0, o, cs, hl, _ => ⟨[], rfl, by simp, by rw [List.drop_eq_nil_iff.2 (by omega)]; simp [RepL], rfl⟩
  | m + 1, o, cs, hl, h => by
    obtain ⟨ds, hds⟩ := h 0 (by omega)
    rw [Nat.zero_mul, Nat.add_zero] at hds
    have e0 : o + (m + 1) * P.cellsOf u = o + P.cellsOf u + m * P.cellsOf u := by rw [Nat.add_mul]; omega
    obtain ⟨dss, hl', hs, hr, hc⟩ := conv_arr m (o + P.cellsOf u) cs (by rw [hl, e0]) fun i hi => by
      have := h (i + 1) (by omega)
      rwa [show o + (i + 1) * P.cellsOf u = o + P.cellsOf u + i * P.cellsOf u by rw [Nat.add_mul]; omega] at this
    refine ⟨ds :: dss, by simp [hl'], ?_, ?_, ?_⟩
    · intro x hx
      rcases List.mem_cons.1 hx with rfl | hx
      · exact hds.shp
      · exact hs x hx
    · have e1 : cs.drop o = (cs.drop o).take (P.cellsOf u) ++ cs.drop (o + P.cellsOf u) := by
        rw [← List.drop_drop, List.take_append_drop]
      rw [e1, List.flatten_cons]
      exact all2_repL.2 (All2.append (all2_repL.1 hds.rep) (all2_repL.1 hr))
    · rw [List.flatten_cons, List.all_append, hds.cell, hc]; rfl

theorem conv {H : Type} {enc : TypeId × Value → H} (hT : TyOK P T) : ∀ (n t fuel : Nat) (cs : List Value) (x : DataW H × List MemPlace), plainT T n t = true → DataW.trod enc P w 0 (fun _ => true) true fuel t cs = some x → ∃ ds, Conv T w n t cs ds
  | 0, _, _, _, _, h, _ => by simp [plainT] at h
  | n + 1, t, fuel, cs, x, h, hx => by
    unfold plainT at h
    split at h
    case h_2 => cases h
    case h_1 e he =>
    have hk := (hT t e he).kind
    have hcells := (hT t e he).cells
    split at h
    case h_1 k hk' =>
      rw [hk'] at hk
      obtain ⟨m, rfl, _, hwf⟩ := DataW.trod_int hk hx
      exact ⟨[.int k m], by simp only [Shp, he, hk']; exact ⟨m, rfl, hwf⟩, by simp [RepL, Rep], rfl⟩
    case h_2 hk' =>
      rw [hk'] at hk
      obtain ⟨b, rfl, _⟩ := DataW.trod_bool hk hx
      exact ⟨[.bool b], by simp only [Shp, he, hk']; exact ⟨b, rfl⟩, by simp [RepL, Rep], rfl⟩
    case h_3 hk' =>
      rw [hk'] at hk
      obtain ⟨s, rfl, _, hs⟩ := DataW.trod_string hk hx
      exact ⟨[.str s.data.toList], by simp only [Shp, he, hk']; exact ⟨_, rfl, by simpa using hs⟩, by simp [RepL, Rep], rfl⟩
    case h_4 u hk' =>
      rw [hk'] at hk
      simp only [Bool.and_eq_true] at h
      obtain ⟨⟨h1, h2⟩, h3⟩ := h
      obtain ⟨eu, heu⟩ := Option.isSome_iff_exists.1 h1
      have hsu := (hT u eu heu).cells
      have hsz : szT T u = eu.size := by simp [szT, heu]
      rcases Deep.open_slice hk hx with ⟨rfl, _⟩ | ⟨a, len, cap, m, f, Da, Pl, rfl, _, hlc, hcm, hm, _, hel⟩
      · exact ⟨[.sl 0 (szT T u) []], by simp only [Shp, he, hk']; exact ⟨[], rfl, by simp, by simp⟩, by simp [RepL, Rep], rfl⟩
      · obtain ⟨xs, hl, hs, hr⟩ := conv_row hT heu a len 0 (n := n) fun i hi => by
          obtain ⟨cs', hc', ht'⟩ := hel i (by rw [hm]; simp; omega)
          obtain ⟨ds, hds⟩ := conv hT n u f cs' _ h3 ht'
          exact ⟨ds, cs', by rw [Nat.zero_add, ← hsu]; exact hc', hds⟩
        refine ⟨[.sl 0 (szT T u) (xs.map (wholeT T u))], ?_, ?_, rfl⟩
        · simp only [Shp, he, hk']; exact ⟨xs, rfl, by omega, hs⟩
        · rw [hsz]
          refine ⟨_, _, rfl, ⟨rfl, Or.inr ⟨a, cap, ?_, ?_, hr⟩⟩, rfl⟩
          · simp [hl]
          · simp [hl]; omega
    case h_5 fs hk' =>
      rw [hk'] at hk
      simp only [Bool.and_eq_true] at h
      obtain ⟨h1, h2⟩ := h
      obtain ⟨Fs, hu, hfs, _⟩ := hk
      obtain ⟨xs, f, _, _, hlen, hxl, hel⟩ := DataW.trod_struct hu hx
      obtain ⟨dss, ha, hr, hc⟩ := conv_parts (w := w) (n := n) hT fs 0 e.size cs h1 (by rw [hlen, hcells]) fun g hg => by
        rw [← hfs] at hg
        obtain ⟨F, hF, rfl⟩ := List.mem_map.1 hg
        obtain ⟨i, hi⟩ := List.getElem?_of_mem hF
        have hi' : Fs[i]? = some F := by rw [← Array.getElem?_toList]; exact hi
        have hlt : i < xs.length := by rw [hxl]; exact (Array.getElem?_eq_some_iff.1 hi').1
        have := hel i F hi'
        rw [List.getElem?_eq_getElem hlt] at this
        exact conv hT n F.type f _ _ (List.all_eq_true.1 h2 (F.offset, F.type) (by rw [← hfs]; exact List.mem_map.2 ⟨F, hF, rfl⟩)) this
      exact ⟨dss.flatten, by simp only [Shp, he, hk']; exact ⟨dss, rfl, ha⟩, by simpa using hr, hc⟩
    case h_6 m u hk' =>
      rw [hk'] at hk
      simp only [Bool.and_eq_true] at h
      obtain ⟨⟨h1, h2⟩, h3⟩ := h
      obtain ⟨eu, heu⟩ := Option.isSome_iff_exists.1 h1
      have hsu := (hT u eu heu).cells
      have hsz : szT T u = eu.size := by simp [szT, heu]
      have h2' := Nat.eq_of_beq_eq_true h2
      obtain ⟨xs, f, _, _, hlen, hxl, hel⟩ := DataW.trod_array hk hx
      obtain ⟨dss, hl, hs, hr, hc⟩ := conv_arr (P := P) (T := T) (w := w) (n := n) (u := u) m 0 cs (by rw [hlen, hcells, ← h2', hsu, hsz]; omega) fun i hi => by
        have hlt : i < xs.length := by rw [hxl]; exact hi
        have := hel i hi
        rw [List.getElem?_eq_getElem hlt] at this
        rw [Nat.zero_add]
        exact conv hT n u f _ _ h3 this
      exact ⟨dss.flatten, by simp only [Shp, he, hk']; exact ⟨dss, rfl, hl, hs⟩, by simpa using hr, hc⟩
    case h_7 => cases h
end
end Go.Proofs.YtnooelecdbbfkaaGreatDoor.Fw
