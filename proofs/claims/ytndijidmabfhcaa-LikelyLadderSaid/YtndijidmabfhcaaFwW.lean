/- Regions whose operations come in any order. -/
import Derived.Test.YtndijidmabfhcaaFwV
namespace Go.Proofs.Ytndijidmabfhcaa.Fw
open Go Go.RowKit

/-- States that say the same. -/
structure EnvEq (e e' : Env) : Prop where
  nt : e.nt = e'.nt
  tm : ∀ t, look t e.tm = look t e'.tm
  wt : ∀ t, look t e.wt = look t e'.wt
  bx : ∀ t, look t e.bx = look t e'.bx
  mp : e.mp = e'.mp
  us : e.us = e'.us
  dd : e.dd = e'.dd
  ys : e.ys = e'.ys

theorem St.congr {c : Ctx} {e e' : Env} {a : Act} {w : World} (h : St c e a w) (q : EnvEq e e') : St c e' a w := by
  have S : Step c e w c e' w := ⟨Keeps.refl _ _, fun s hs => ⟨by rw [← q.bx]; exact hs, rfl⟩, fun s hs => ⟨by rw [← q.mp]; exact hs, rfl⟩, fun st u hs => by rw [← q.us]; exact hs, fun st hs => by rw [← q.dd]; exact hs, fun _ _ _ => ⟨rfl, fun _ _ => ⟨rfl, fun _ h => h⟩⟩⟩
  have hb : ∀ s, e'.blk s → e.blk s := fun s hs => by
    rcases hs with hs | hs
    · exact .inl (by rw [q.bx]; exact hs)
    · exact .inr (by rw [q.mp]; exact hs)
  have hl : ∀ s, e'.live s → e.live s := fun s hs => ⟨by rw [q.us]; exact hs.1, by rw [q.dd]; exact hs.2⟩
  exact ⟨h.nt.trans q.nt, h.df, fun t d hd => S.repT (h.tm t d (by rw [q.tm]; exact hd)), fun t d hd => (h.wt t d (by rw [q.wt]; exact hd)).step S, fun s b hs => (h.bx s b (by rw [q.bx]; exact hs)).step S rfl rfl (fun _ x => x),
    fun s m hs => (h.mp s m (by rw [q.mp]; exact hs)).step S rfl rfl (fun _ x => x), fun s s' h1 h2 => h.inj s s' (hb s h1) (hb s' h2), fun s h1 => h.above s (hb s h1), fun s h1 => h.lt s (hb s h1), fun s s' g h1 h2 => h.ownInj s s' g (hl s h1) (hl s' h2),
    fun s g h1 h2 => ⟨(h.ownAbove s g (hl s h1) h2).1, (h.ownAbove s g (hl s h1) h2).2.1, fun s' h3 => (h.ownAbove s g (hl s h1) h2).2.2 s' (hb s' h3)⟩, h.im, h.im0, h.imNew, h.base, by rw [← q.ys]; exact h.gh.1, S.fix h.gh.2⟩

/-- What one operation does to the state. -/
structure Doing where
  dst : Nat
  tmd : D
  wte : Option D
  bx : Option BoxC
  own : Option (Nat × Nat)

def Doing.app (x : Doing) (env : Env) : Env :=
  { nt := env.nt, tm := (x.dst, x.tmd) :: env.tm,
    wt := (match x.wte with | some d => (x.dst, d) :: env.wt | none => env.wt),
    bx := (match x.bx with | some b => (x.dst, b) :: env.bx | none => env.bx), mp := env.mp,
    us := (match x.own with | some (u, _) => (2 * x.dst + 3, u) :: env.us | none => env.us),
    dd := (match x.own with | some (_, k) => (bif Nat.beq k 1 then env.dd else k :: env.dd) | none => env.dd), ys := env.ys }

def ownD (dst : Nat) (r : Res) : D :=
  match r.own with
  | some _ => match r.d with
    | .sl _ es xs => .sl (2 * dst + 3) es xs
    | d => d
  | none => r.d

def doing (dst : Nat) (g : Option (Nat × Bool)) (r : Res) : Doing :=
  match g with
  | none => ⟨dst, ownD dst r, none, (match r.own with | some _ => none | none => r.bx), r.own.map fun u => (u, r.kill)⟩
  | some (s, b) => ⟨dst, .undef, some (.wh s b r.d), none, none⟩

theorem doing_dst (dst : Nat) (g : Option (Nat × Bool)) (r : Res) : (doing dst g r).dst = dst := by
  cases g <;> rfl

/-- An operation's place in the state, in any other state that differs little. -/
theorem memG_doing {env env2 e1 : Env} {dst : Nat} {g : Option (Nat × Bool)} {r : Res} (h : memG env dst g r = some e1) (hfz : r.fz = []) (hfm : r.fm = []) (hmp : r.mp = none)
    (hnt : env2.nt = env.nt) (hwt : wtFree dst env2.wt = true) (hfree : (doing dst g r).bx.isSome = true → env.free dst = true → env2.free dst = true) (hown : (doing dst g r).own.isSome = true → env2.us = env.us ∧ env2.dd = env.dd) :
    memG env2 dst g r = some ((doing dst g r).app env2) := by
  obtain ⟨side, d, bx, mp, fz, fm, kill, own⟩ := r
  simp only at hfz hfm hmp
  subst hfz; subst hfm; subst hmp
  cases g with
  | some q =>
    obtain ⟨s, b⟩ := q
    simp only [memG] at h ⊢
    cases hpl : Res.plain ⟨side, d, bx, none, [], [], kill, own⟩ with
    | false => rw [hpl] at h; cases h
    | true =>
      rw [hpl, cond_true] at h
      rw [cond_true]
      simp only [Env.set] at h ⊢
      cases hc : (Nat.blt dst env.nt && wtFree dst env.wt) with
      | false => rw [hc] at h; cases h
      | true =>
        rw [hc, cond_true] at h
        simp only [Bool.and_eq_true] at hc
        rw [hnt, hc.1, hwt]
        simp only [Bool.and_self, cond_true]
        cases hs : Nat.beq s dst with
        | true => rw [hs] at h; cases h
        | false => rw [cond_false]; simp [doing, Doing.app, hnt]
  | none =>
    simp only [memG] at h ⊢
    have hset : ∀ {ea eb ec : Env} {x : D}, ea.set dst none x = some eb → ec.nt = ea.nt → wtFree dst ec.wt = true → ec.set dst none x = some { ec with tm := (dst, x) :: ec.tm } := by
      intro ea eb ec x hs e1 e2
      simp only [Env.set] at hs ⊢
      cases hc : (Nat.blt dst ea.nt && wtFree dst ea.wt) with
      | false => rw [hc] at hs; cases hs
      | true =>
        simp only [Bool.and_eq_true] at hc
        rw [e1, hc.1, e2]; rfl
    cases own with
    | some u =>
      obtain ⟨h1, h2⟩ := hown rfl
      simp only [memR, frzM, frzB] at h ⊢
      cases d <;> simp only at h <;> first | (cases h; done) | skip
      rename_i st es xs
      rw [h1, h2]
      cases hcd : ((look (2 * dst + 3) env.us).isNone && !env.dd.contains (2 * dst + 3) && (Nat.beq kill 1 || (Nat.ble 2 kill && (look kill env.us == some u) && !env.dd.contains kill))) with
      | false => rw [hcd] at h; cases h
      | true =>
        rw [hcd, cond_true] at h
        simp only at h
        simp only [cond_true]
        rw [hset h (by exact hnt) (by exact hwt)]
        simp only [doing, Doing.app, ownD, Env.stamp, Option.map_some, h1, h2]
    | none =>
      simp only [memR, frzM, frzB] at h ⊢
      cases bx with
      | none =>
        simp only at h ⊢
        rw [hset h hnt hwt]
        rfl
      | some b =>
        simp only at h ⊢
        cases hf : env.free dst with
        | false => rw [hf] at h; cases h
        | true =>
          rw [hf, cond_true] at h
          simp only at h
          rw [hfree rfl hf, cond_true]
          simp only
          rw [hset h (by exact hnt) (by exact hwt)]
          rfl

theorem memG_free {env e1 : Env} {dst : Nat} {g : Option (Nat × Bool)} {r : Res} (h : memG env dst g r = some e1) (hfz : r.fz = []) (hfm : r.fm = []) (hmp : r.mp = none) : wtFree dst env.wt = true ∧ ((doing dst g r).bx.isSome = true → env.free dst = true) ∧ (∀ s b, g = some (s, b) → s ≠ dst) := by
  obtain ⟨side, d, bx, mp, fz, fm, kill, own⟩ := r
  simp only at hfz hfm hmp
  subst hfz; subst hfm; subst hmp
  have hset : ∀ {ea eb : Env} {x : D} {g : Option (Nat × Bool)}, ea.set dst g x = some eb → wtFree dst ea.wt = true := by
    intro ea eb x g hs
    simp only [Env.set] at hs
    cases hc : (Nat.blt dst ea.nt && wtFree dst ea.wt) with
    | false => rw [hc] at hs; cases hs
    | true => simp only [Bool.and_eq_true] at hc; exact hc.2
  cases g with
  | some q =>
    obtain ⟨s, b⟩ := q
    simp only [memG] at h
    cases hpl : Res.plain ⟨side, d, bx, none, [], [], kill, own⟩ with
    | false => rw [hpl] at h; cases h
    | true =>
      rw [hpl, cond_true] at h
      refine ⟨hset h, fun hb => by simp [doing] at hb, fun s' b' e => ?_⟩
      cases e
      simp only [Env.set] at h
      cases hc : (Nat.blt dst env.nt && wtFree dst env.wt) with
      | false => rw [hc] at h; cases h
      | true =>
        rw [hc, cond_true] at h
        cases hs : Nat.beq s dst with
        | true => rw [hs] at h; cases h
        | false => exact nbeq_f.1 hs
  | none =>
    simp only [memG] at h
    refine ⟨?_, fun hb => ?_, fun s b e => by cases e⟩
    · cases hm : memR env dst ⟨side, d, bx, none, [], [], kill, own⟩ with
      | none => rw [hm] at h; cases h
      | some q =>
        obtain ⟨env1, d1⟩ := q
        rw [hm] at h
        have hw : env1.wt = env.wt := by
          cases own with
          | some u =>
            simp only [memR, frzM, frzB] at hm
            cases d <;> simp only at hm <;> first | (cases hm; done) | skip
            cases hcd : ((look (2 * dst + 3) env.us).isNone && !env.dd.contains (2 * dst + 3) && (Nat.beq kill 1 || (Nat.ble 2 kill && (look kill env.us == some u) && !env.dd.contains kill))) with
            | false => rw [hcd] at hm; cases hm
            | true =>
              rw [hcd, cond_true] at hm
              simp only [Option.some.injEq, Prod.mk.injEq] at hm
              rw [← hm.1]; rfl
          | none =>
            simp only [memR, frzM, frzB] at hm
            cases bx with
            | none => simp only [Option.some.injEq, Prod.mk.injEq] at hm; rw [← hm.1]
            | some b =>
              simp only at hm
              cases hf : env.free dst with
              | false => rw [hf] at hm; cases hm
              | true => rw [hf, cond_true] at hm; simp only [Option.some.injEq, Prod.mk.injEq] at hm; rw [← hm.1]
        rw [← hw]; exact hset h
    · cases bx with
      | none => cases own <;> simp [doing] at hb
      | some b =>
        cases own with
        | some u => simp [doing] at hb
        | none =>
          simp only [memR, frzM, frzB] at h
          cases hf : env.free dst with
          | false => rw [hf] at h; cases h
          | true => rfl

/-- The state once these have been done. -/
def runS (S : Nat → Bool) : Nat → List Doing → Env → Env
  | _, [], env => env
  | k, x :: xs, env => runS S (k + 1) xs (if S k = true then x.app env else env)

theorem runS_false : ∀ {X : List Doing} {k : Nat} {env : Env}, runS (fun _ => false) k X env = env
  | [], _, _ => rfl
  | x :: X, k, env => by simp only [runS]; rw [if_neg (by simp)]; exact runS_false

theorem runS_lt : ∀ (X : List Doing) (j k : Nat) (env : Env), runS (fun m => decide (m < k + j)) k X env = (X.take j).foldl (fun e x => x.app e) env
  | [], j, k, env => by cases j <;> rfl
  | x :: X, 0, k, env => by
    have : ∀ (X : List Doing) (k' : Nat) (env : Env), k ≤ k' → runS (fun m => decide (m < k + 0)) k' X env = env := by
      intro X
      induction X with
      | nil => intro k' env _; rfl
      | cons y X ih =>
        intro k' env hk
        simp only [runS]
        rw [if_neg (by rw [decide_eq_true_eq]; omega)]
        exact ih (k' + 1) env (by omega)
    rw [this _ k env (Nat.le_refl k)]; rfl
  | x :: X, j + 1, k, env => by
    simp only [runS]
    rw [if_pos (by rw [decide_eq_true_eq]; omega), List.take_succ_cons, List.foldl_cons, ← runS_lt X j (k + 1)]
    congr 1
    funext m
    rw [show k + (j + 1) = k + 1 + j from by omega]

section
variable {β : Type} {f : Env → β} {rel : Doing → Prop} (hne : ∀ x env, ¬ rel x → f (x.app env) = f env) (heq : ∀ x env env', rel x → f env = f env' → f (x.app env) = f (x.app env'))
include hne heq
theorem look_runS {S S' : Nat → Bool} : ∀ {X : List Doing} {k : Nat} {env env' : Env}, (∀ j x, X[j]? = some x → rel x → S (k + j) = S' (k + j)) → f env = f env' → f (runS S k X env) = f (runS S' k X env')
  | [], _, _, _, _, h => h
  | x :: X, k, env, env', hS, h => by
    simp only [runS]
    refine look_runS (fun j y hj hr => by rw [show k + 1 + j = k + (j + 1) from by omega]; exact hS (j + 1) y (by simpa using hj) hr) ?_
    by_cases hr : rel x
    · have h0 := hS 0 x rfl hr
      rw [Nat.add_zero] at h0
      rw [h0]
      split
      · exact heq x env env' hr h
      · exact h
    · have e1 : ∀ (b : Bool) (e : Env), f (if b = true then x.app e else e) = f e := fun b e => by
        split
        · exact hne x e hr
        · rfl
      rw [e1, e1, h]

theorem runS_hit {S : Nat → Bool} : ∀ {X : List Doing} {k : Nat} {env : Env} {j : Nat} {x : Doing}, X[j]? = some x → rel x → (∀ j' x', X[j']? = some x' → rel x' → j' = j) → S (k + j) = true → f (runS S k X env) = f (x.app env)
  | [], _, _, j, _, h, _, _, _ => by simp at h
  | y :: X, k, env, 0, x, hx, hr, hu, hs => by
    simp only [List.getElem?_cons_zero, Option.some.injEq] at hx; subst hx
    rw [Nat.add_zero] at hs
    simp only [runS]
    rw [if_pos hs]
    have := look_runS hne heq (S := S) (S' := fun _ => false) (X := X) (k := k + 1) (env := y.app env) (env' := y.app env) (fun j x' hj hr' => absurd (hu (j + 1) x' (by simpa using hj) hr') (by omega)) rfl
    rw [this, runS_false]
  | y :: X, k, env, j + 1, x, hx, hr, hu, hs => by
    simp only [runS]
    have hny : ¬ rel y := fun hy => absurd (hu 0 y rfl hy) (by omega)
    rw [runS_hit (env := if S k = true then y.app env else env) (j := j) (x := x) (by simpa using hx) hr (fun j' x' h1 h2 => by have := hu (j' + 1) x' (by simpa using h1) h2; omega) (by rw [show k + 1 + j = k + (j + 1) from by omega]; exact hs)]
    refine heq x _ _ hr ?_
    split
    · exact hne y env hny
    · rfl
end

theorem app_tm (x : Doing) (env : Env) (t : Nat) : look t (x.app env).tm = if x.dst = t then some x.tmd else look t env.tm := look_cons ..
theorem app_wt (x : Doing) (env : Env) (t : Nat) : look t (x.app env).wt = if x.dst = t then (match x.wte with | some d => some d | none => look t env.wt) else look t env.wt := by
  unfold Doing.app
  cases x.wte with
  | none => simp
  | some d => exact look_cons ..
theorem app_bx (x : Doing) (env : Env) (t : Nat) : look t (x.app env).bx = if x.dst = t then (match x.bx with | some d => some d | none => look t env.bx) else look t env.bx := by
  unfold Doing.app
  cases x.bx with
  | none => simp
  | some d => exact look_cons ..

theorem tm_ne {t : Nat} : ∀ (x : Doing) (env : Env), ¬ x.dst = t → look t (x.app env).tm = look t env.tm := fun x env h => by rw [app_tm, if_neg h]
theorem tm_eq {t : Nat} : ∀ (x : Doing) (env env' : Env), x.dst = t → look t env.tm = look t env'.tm → look t (x.app env).tm = look t (x.app env').tm := fun x env env' h _ => by rw [app_tm, app_tm, if_pos h, if_pos h]
theorem wt_ne {t : Nat} : ∀ (x : Doing) (env : Env), ¬ x.dst = t → look t (x.app env).wt = look t env.wt := fun x env h => by rw [app_wt, if_neg h]
theorem wt_eq {t : Nat} : ∀ (x : Doing) (env env' : Env), x.dst = t → look t env.wt = look t env'.wt → look t (x.app env).wt = look t (x.app env').wt := fun x env env' h e => by rw [app_wt, app_wt, if_pos h, if_pos h, e]
theorem bx_ne {t : Nat} : ∀ (x : Doing) (env : Env), ¬ x.dst = t → look t (x.app env).bx = look t env.bx := fun x env h => by rw [app_bx, if_neg h]
theorem bx_eq {t : Nat} : ∀ (x : Doing) (env env' : Env), x.dst = t → look t env.bx = look t env'.bx → look t (x.app env).bx = look t (x.app env').bx := fun x env env' h e => by rw [app_bx, app_bx, if_pos h, if_pos h, e]
theorem us_ne : ∀ (x : Doing) (env : Env), ¬ x.own.isSome = true → (x.app env).us = env.us := fun x env h => by unfold Doing.app; cases hx : x.own <;> simp_all
theorem us_eq : ∀ (x : Doing) (env env' : Env), x.own.isSome = true → env.us = env'.us → (x.app env).us = (x.app env').us := fun x env env' _ h => by unfold Doing.app; simp only [h]
theorem dd_ne : ∀ (x : Doing) (env : Env), ¬ x.own.isSome = true → (x.app env).dd = env.dd := fun x env h => by unfold Doing.app; cases hx : x.own <;> simp_all
theorem dd_eq : ∀ (x : Doing) (env env' : Env), x.own.isSome = true → env.dd = env'.dd → (x.app env).dd = (x.app env').dd := fun x env env' _ h => by unfold Doing.app; simp only [h]
theorem runS_ys {S : Nat → Bool} : ∀ {X : List Doing} {k : Nat} {env : Env}, (runS S k X env).ys = env.ys
  | [], _, _ => rfl
  | x :: X, k, env => by
    simp only [runS]
    rw [runS_ys (S := S) (X := X) (k := k + 1) (env := if S k = true then x.app env else env)]
    split <;> rfl
theorem runS_mp {S : Nat → Bool} : ∀ {X : List Doing} {k : Nat} {env : Env}, (runS S k X env).mp = env.mp ∧ (runS S k X env).nt = env.nt
  | [], _, _ => ⟨rfl, rfl⟩
  | x :: X, k, env => by
    simp only [runS]
    obtain ⟨h1, h2⟩ := runS_mp (S := S) (X := X) (k := k + 1) (env := if S k = true then x.app env else env)
    rw [h1, h2]
    split <;> exact ⟨rfl, rfl⟩

/-- One more of them: the same, in whatever order. -/
theorem app_runS {X : List Doing} {env : Env} {S S' : Nat → Bool} {i : Nat} {x : Doing} (hx : X[i]? = some x) (hd : ∀ (j j' : Nat) (y y' : Doing), X[j]? = some y → X[j']? = some y' → y.dst = y'.dst → j = j') (ho : ∀ (j j' : Nat) (y y' : Doing), X[j]? = some y → X[j']? = some y' → y.own.isSome = true → y'.own.isSome = true → j = j')
    (hS : S i = false) (hS' : S' i = true) (hSS : ∀ j, j ≠ i → S' j = S j) : EnvEq (x.app (runS S 0 X env)) (runS S' 0 X env) := by
  have gen : ∀ {β : Type} {f : Env → β} {rel : Doing → Prop}, (∀ x env, ¬ rel x → f (x.app env) = f env) → (∀ x env env', rel x → f env = f env' → f (x.app env) = f (x.app env')) → (∀ (j j' : Nat) (y y' : Doing), X[j]? = some y → X[j']? = some y' → rel y → rel y' → j = j') → f (x.app (runS S 0 X env)) = f (runS S' 0 X env) := by
    intro β f rel hne heq hu
    by_cases hr : rel x
    · rw [runS_hit hne heq hx hr (fun j' x' h1 h2 => hu j' i x' x h1 hx h2 hr) (by rw [Nat.zero_add]; exact hS')]
      refine heq x _ _ hr ?_
      have := look_runS hne heq (S := S) (S' := fun _ => false) (X := X) (k := 0) (env := env) (env' := env) (fun j x' hj hr' => by
        rw [hu j i x' x hj hx hr' hr, Nat.zero_add]; exact hS) rfl
      rw [this, runS_false]
    · rw [hne x _ hr]
      exact look_runS hne heq (fun j x' hj hr' => by
        rw [Nat.zero_add]
        refine (hSS j fun e => hr ?_).symm
        subst e; rw [hx] at hj; cases hj; exact hr') rfl
  refine ⟨?_, fun t => ?_, fun t => ?_, fun t => ?_, ?_, ?_, ?_, ?_⟩
  · show (runS S 0 X env).nt = _
    rw [runS_mp.2, runS_mp.2]
  · exact gen (f := fun e => look t e.tm) (rel := fun x => x.dst = t) tm_ne tm_eq (fun j j' y y' h1 h2 r1 r2 => hd j j' y y' h1 h2 (r1.trans r2.symm))
  · exact gen (f := fun e => look t e.wt) (rel := fun x => x.dst = t) wt_ne wt_eq (fun j j' y y' h1 h2 r1 r2 => hd j j' y y' h1 h2 (r1.trans r2.symm))
  · exact gen (f := fun e => look t e.bx) (rel := fun x => x.dst = t) bx_ne bx_eq (fun j j' y y' h1 h2 r1 r2 => hd j j' y y' h1 h2 (r1.trans r2.symm))
  · show (runS S 0 X env).mp = _
    rw [runS_mp.1, runS_mp.1]
  · exact gen (f := fun e => e.us) (rel := fun x => x.own.isSome = true) us_ne us_eq ho
  · exact gen (f := fun e => e.dd) (rel := fun x => x.own.isSome = true) dd_ne dd_eq ho
  · show (runS S 0 X env).ys = _
    rw [runS_ys, runS_ys]

section
variable {P : Program} {T : Ty} {ops : Array Oper}

theorem doesP_pick {g : Option (Nat × Bool)} {ρ : Operand → D} {bx : List (Nat × BoxC)} {mp : List (Nat × MapC)} {dst : Nat} {op : Op} {gc : Prop} {K : Res → Prop} (h : doesP P T g ρ bx mp dst op gc K) : ∃ r, K r ∧ doesP P T g ρ bx mp dst op gc (fun r' => r' = r) := by
  unfold doesP at h
  cases hc : callOf op with
  | some cl =>
    rw [hc] at h
    simp only at h
    cases hd : callD (fun x => unw g (ρ x)) mp cl with
    | none => rw [hd] at h; exact h.elim
    | some q =>
      obtain ⟨f, ds, fm⟩ := q
      rw [hd] at h
      obtain ⟨d, h1, h2⟩ := h
      refine ⟨_, h2, ?_⟩
      unfold doesP
      rw [hc]
      simp only [hd]
      exact ⟨d, h1, by trivial⟩
  | none =>
    rw [hc] at h
    simp only at h
    cases hr : opR T g ρ bx mp dst op with
    | none => rw [hr] at h; exact h.elim
    | some r =>
      rw [hr] at h
      obtain ⟨h1, h2⟩ := sideB_iff.1 h
      refine ⟨r, h2, ?_⟩
      unfold doesP
      rw [hc]
      simp only [hr]
      exact sideB_iff.2 ⟨h1, by trivial⟩

theorem memG_self {env e1 : Env} {dst : Nat} {g : Option (Nat × Bool)} {r : Res} (h : memG env dst g r = some e1) (hfz : r.fz = []) (hfm : r.fm = []) (hmp : r.mp = none) : e1 = (doing dst g r).app env := by
  have h2 := memG_doing (env2 := env) h hfz hfm hmp rfl (memG_free h hfz hfm hmp).1 (fun _ h => h) (fun _ => ⟨rfl, rfl⟩)
  rw [h] at h2; exact Option.some.inj h2

/-- What each operation of the first part gives. -/
structure OpFact (P : Program) (T : Ty) (ops : Array Oper) (ph : List Oper) (bx : List (Nat × BoxC)) (mp : List (Nat × MapC)) (m i : Nat) (o : Oper) (x : Doing) (e : Env) (g : Option (Nat × Bool)) (dst : Nat) (r : Res) : Prop where
  isG : gslot ops o = some g
  isDst : o.dst = some dst
  isX : x = doing dst g r
  fz : r.fz = []
  fm : r.fm = []
  noM : r.mp = none
  mem : ∃ e1, memG e dst g r = some e1
  does : doesP P T g (tvR (fun t => okT m i t ph 0) e.wt e.tm) bx mp dst o.op (gcond (fun t => okT m i t ph 0) 8 e.wt e.tm g) (fun r' => r' = r)

theorem evPh_facts {ph : List Oper} {bx : List (Nat × BoxC)} {mp : List (Nat × MapC)} {K : Env → Prop} : ∀ (os : List Oper) (ms : List Nat) (i : Nat) (used : Bool) (env : Env), evPh P T ops ph bx mp ms i used os env K →
    ∃ X : List Doing, X.length = os.length ∧ K (X.foldl (fun e x => x.app e) env) ∧
      (∀ j o, os[j]? = some o → ∃ g dst r x, X[j]? = some x ∧ OpFact P T ops ph bx mp (ms.getD j 0) (i + j) o x ((X.take j).foldl (fun e x => x.app e) env) g dst r) ∧
      (∀ (j : Nat) (x : Doing), X[j]? = some x → x.own.isSome = true → used = false) ∧ (∀ (j j' : Nat) (y y' : Doing), X[j]? = some y → X[j']? = some y' → y.own.isSome = true → y'.own.isSome = true → j = j')
  | [], ms, i, used, env, h => by
    refine ⟨[], rfl, ?_, fun j o h => by simp at h, fun j x h => by simp at h, fun j j' y y' h => by simp at h⟩
    cases ms <;> exact h
  | o :: os, [], i, used, env, h => h.elim
  | o :: os, m :: ms, i, used, env, h => by
    simp only [evPh] at h
    cases hg : gslot ops o with
    | none => rw [hg] at h; exact h.elim
    | some g =>
    cases hdst : o.dst with
    | none => rw [hg, hdst] at h; exact h.elim
    | some dst =>
    rw [hg, hdst] at h
    simp only at h
    obtain ⟨r, hr, hd⟩ := doesP_pick (doesF_iff.1 h)
    cases hc : (r.fz.isEmpty && r.fm.isEmpty && r.mp.isNone && !(used && r.own.isSome)) with
    | false => rw [hc] at hr; exact hr.elim
    | true =>
    rw [hc] at hr
    simp only at hr
    cases hm : memG env dst g r with
    | none => rw [hm] at hr; exact hr.elim
    | some e1 =>
    rw [hm] at hr
    simp only at hr
    have hr := (fE1_iff _ _).1 hr
    simp only [Bool.and_eq_true, List.isEmpty_iff, Option.isNone_iff_eq_none, Bool.not_eq_true', Bool.and_eq_false_iff] at hc
    obtain ⟨⟨⟨hfz, hfm⟩, hmp⟩, hused⟩ := hc
    obtain rfl := memG_self hm hfz hfm hmp
    obtain ⟨X, h1, h2, h3, h4, h5⟩ := evPh_facts os ms (i + 1) (used || r.own.isSome) _ hr
    have hown : (doing dst g r).own.isSome = true → r.own.isSome = true := by
      cases g with
      | none => intro h; simpa [doing] using h
      | some q => intro h; simp [doing] at h
    refine ⟨doing dst g r :: X, by simp [h1], h2, ?_, ?_, ?_⟩
    · intro j o' hj
      cases j with
      | zero =>
        simp only [List.getElem?_cons_zero, Option.some.injEq] at hj; subst hj
        exact ⟨g, dst, r, _, rfl, ⟨hg, hdst, rfl, hfz, hfm, hmp, ⟨_, hm⟩, hd⟩⟩
      | succ j =>
        obtain ⟨g', dst', r', x', k1, k2⟩ := h3 j o' (by simpa using hj)
        refine ⟨g', dst', r', x', by simpa using k1, ?_⟩
        rw [show i + (j + 1) = i + 1 + j from by omega]
        exact k2
    · intro j x hj hx
      cases j with
      | zero =>
        simp only [List.getElem?_cons_zero, Option.some.injEq] at hj; subst hj
        rcases hused with hu | hu
        · exact hu
        · rw [hown hx] at hu; cases hu
      | succ j =>
        have := h4 j x (by simpa using hj) hx
        simp only [Bool.or_eq_false_iff] at this
        exact this.1
    · intro j j' y y' hj hj' hy hy'
      cases j with
      | zero =>
        cases j' with
        | zero => rfl
        | succ j' =>
          simp only [List.getElem?_cons_zero, Option.some.injEq] at hj; subst hj
          have := h4 j' y' (by simpa using hj') hy'
          simp only [Bool.or_eq_false_iff] at this
          rw [hown hy] at this; exact absurd this.2 (by simp)
      | succ j =>
        cases j' with
        | zero =>
          simp only [List.getElem?_cons_zero, Option.some.injEq] at hj'; subst hj'
          have := h4 j y (by simpa using hj) hy
          simp only [Bool.or_eq_false_iff] at this
          rw [hown hy'] at this; exact absurd this.2 (by simp)
        | succ j' => rw [h5 j j' y y' (by simpa using hj) (by simpa using hj') hy hy']

/-! ### Which operations are ahead of which -/
theorem maskOf_bit {acc : List Nat} {o : Oper} {j : Nat} (h : Nat.testBit (maskOf acc o) j = true) : ∃ e ∈ o.after.toList, bindsB e = true ∧ (j = e.on ∨ Nat.testBit (acc.getD e.on 0) j = true) := by
  have : ∀ (es : List Edge) (m0 : Nat), Nat.testBit (es.foldl (fun m e => match bindsB e with | true => m ||| (1 <<< e.on ||| acc.getD e.on 0) | false => m) m0) j = true → Nat.testBit m0 j = true ∨ ∃ e ∈ es, bindsB e = true ∧ (j = e.on ∨ Nat.testBit (acc.getD e.on 0) j = true) := by
    intro es
    induction es with
    | nil => intro m0 h; exact .inl h
    | cons e es ih =>
      intro m0 h
      rw [List.foldl_cons] at h
      rcases ih _ h with h1 | ⟨e', h1, h2⟩
      · cases hb : bindsB e with
        | false => rw [hb] at h1; exact .inl h1
        | true =>
          rw [hb] at h1
          simp only [Nat.testBit_or, Bool.or_eq_true, Nat.one_shiftLeft, Nat.testBit_two_pow, decide_eq_true_eq] at h1
          rcases h1 with h1 | h1 | h1
          · exact .inl h1
          · exact .inr ⟨e, by simp, hb, .inl h1.symm⟩
          · exact .inr ⟨e, by simp, hb, .inr h1⟩
      · exact .inr ⟨e', by simp [h1], h2⟩
  rcases this _ _ h with h | h
  · simp at h
  · exact h

theorem ancs_spec : ∀ (os : List Oper) (acc : List Nat), ∃ tl, ancs os acc = acc ++ tl ∧ tl.length = os.length ∧ ∀ k o, os[k]? = some o → ∃ pre, pre.length = acc.length + k ∧ (∃ suf, ancs os acc = pre ++ suf) ∧ (ancs os acc).getD (acc.length + k) 0 = maskOf pre o
  | [], acc => ⟨[], by simp [ancs], rfl, fun k o h => by simp at h⟩
  | o :: os, acc => by
    obtain ⟨tl, h1, h2, h3⟩ := ancs_spec os (acc ++ [maskOf acc o])
    refine ⟨maskOf acc o :: tl, by rw [ancs, h1]; simp, by simp [h2], fun k o' hk => ?_⟩
    rw [ancs]
    cases k with
    | zero =>
      simp only [List.getElem?_cons_zero, Option.some.injEq] at hk; subst hk
      refine ⟨acc, by simp, ⟨maskOf acc o :: tl, by rw [h1]; simp⟩, ?_⟩
      rw [h1, List.append_assoc, List.getD_eq_getElem?_getD, List.getElem?_append_right (by omega)]
      simp
    | succ k =>
      obtain ⟨pre, k1, k2, k3⟩ := h3 k o' (by simpa using hk)
      refine ⟨pre, by simp at k1; omega, k2, ?_⟩
      rw [← k3]; congr 1; simp; omega

/-- What must be ahead of an operation has been done, once its own edges let it come. -/
theorem anc_done {l : List Oper} (hback : ∀ (i : Nat) (o : Oper), l[i]? = some o → ∀ e ∈ o.after.toList, bindsB e = true → e.on < i) {S : Nat → Bool} (hcl : ∀ (k : Nat) (o : Oper), l[k]? = some o → S k = true → ∀ e ∈ o.after.toList, bindsB e = true → S e.on = true) :
    ∀ (i : Nat) (o : Oper), l[i]? = some o → (∀ e ∈ o.after.toList, bindsB e = true → S e.on = true) → ∀ j, Nat.testBit ((ancs l []).getD i 0) j = true → S j = true := by
  intro i
  induction i using Nat.strongRecOn with
  | _ i ih =>
    intro o ho hr j hj
    obtain ⟨tl, _, _, h3⟩ := ancs_spec l []
    obtain ⟨pre, k1, ⟨suf, k2⟩, k3⟩ := h3 i o ho
    simp only [List.length_nil, Nat.zero_add] at k1 k3
    rw [k3] at hj
    obtain ⟨e, he, hb, hj⟩ := maskOf_bit hj
    rcases hj with rfl | hj
    · exact hr e he hb
    · have hlt := hback i o ho e he hb
      have hpre : pre.getD e.on 0 = (ancs l []).getD e.on 0 := by
        rw [k2, List.getD_eq_getElem?_getD, List.getD_eq_getElem?_getD, List.getElem?_append_left (by omega)]
      rw [hpre] at hj
      have hl : e.on < l.length := Nat.lt_trans hlt (List.getElem?_eq_some_iff.1 ho).1
      exact ih e.on hlt l[e.on] (List.getElem?_eq_getElem hl) (hcl e.on _ (List.getElem?_eq_getElem hl) (hr e he hb)) j hj
end

theorem okT_spec {m i t : Nat} : ∀ {ph : List Oper} {k : Nat}, okT m i t ph k = true → ∀ (j : Nat) (o : Oper), ph[j]? = some o → o.dst = some t → Nat.testBit m (k + j) = true ∧ k + j < i
  | [], _, _, j, o, h, _ => by simp at h
  | x :: ph, k, hk, j, o, h, hd => by
    simp only [okT, Bool.and_eq_true] at hk
    cases j with
    | zero =>
      simp only [List.getElem?_cons_zero, Option.some.injEq] at h; subst h
      rw [hd] at hk
      simp only [nbeq.2 rfl, Bool.not_true, Bool.false_or, Bool.and_eq_true, Nat.blt_eq] at hk
      exact hk.1
    | succ j =>
      rw [show k + (j + 1) = k + 1 + j from by omega]
      exact okT_spec hk.2 j o (by simpa using h) hd

theorem gcond_congr {ok : Nat → Bool} {wt wt' tm tm' : List (Nat × D)} (h : ∀ s, ok s = true → look s wt = look s wt' ∧ look s tm = look s tm') : ∀ (n : Nat) (g : Option (Nat × Bool)), gcond ok n wt tm g = gcond ok n wt' tm' g
  | 0, _ => rfl
  | _ + 1, none => rfl
  | n + 1, some (s, b) => by
    simp only [gcond]
    cases hs : ok s with
    | false => rfl
    | true =>
      simp only
      obtain ⟨h1, h2⟩ := h s hs
      rw [h1, h2]
      cases look s wt' with
      | none => rfl
      | some d =>
        cases d <;> first | rfl | skip
        simp only
        rw [gcond_congr h n]

theorem tvR_congr {ok : Nat → Bool} {wt wt' tm tm' : List (Nat × D)} (h : ∀ s, ok s = true → look s wt = look s wt' ∧ look s tm = look s tm') : tvR ok wt tm = tvR ok wt' tm' := by
  funext x
  cases x with
  | tmp t =>
    simp only [tvR]
    cases ht : ok t with
    | false => rfl
    | true =>
      obtain ⟨h1, h2⟩ := h t ht
      simp only [tv, h1, h2]
  | _ => rfl

theorem rep_tvR {c : Ctx} {env : Env} {a : Act} {w : World} (h : St c env a w) (ok : Nat → Bool) (x : Operand) : RepX c env w a.tmps (tvR ok env.wt env.tm x) (a.eval x) := by
  cases x with
  | tmp t =>
    simp only [tvR]
    cases ok t with
    | false => trivial
    | true => exact rep_tvX h (.tmp t)
  | const v => exact rep_tvX h (.const v)
  | global v => exact rep_tvX h (.global v)
  | func v => exact rep_tvX h (.func v)

theorem wtFree_runS {S : Nat → Bool} {dst : Nat} : ∀ {X : List Doing} {k : Nat} {env : Env}, wtFree dst env.wt = true → (∀ j x d, X[j]? = some x → S (k + j) = true → x.wte = some d → ∃ s b y, d = .wh s b y ∧ x.dst ≠ dst ∧ s ≠ dst) → wtFree dst (runS S k X env).wt = true
  | [], _, _, h, _ => h
  | x :: X, k, env, h, hx => by
    simp only [runS]
    refine wtFree_runS ?_ fun j y d hj hs hd => hx (j + 1) y d (by simpa using hj) (by rw [show k + (j + 1) = k + 1 + j from by omega]; exact hs) hd
    split
    · rename_i hs
      unfold Doing.app
      cases hw : x.wte with
      | none => exact h
      | some d =>
        obtain ⟨s, b, y, rfl, h1, h2⟩ := hx 0 x d rfl hs hw
        simp only [wtFree, h, nbeq_f.2 h1, nbeq_f.2 h2]; rfl
    · exact h

theorem bx_keep {S : Nat → Bool} {s : Nat} {b : BoxC} : ∀ {X : List Doing} {k : Nat} {env : Env}, look s env.bx = some b → (∀ (j : Nat) (x : Doing), X[j]? = some x → x.bx.isSome = true → x.dst ≠ s) → look s (runS S k X env).bx = some b
  | [], _, _, h, _ => h
  | x :: X, k, env, h, hx => by
    simp only [runS]
    refine bx_keep ?_ fun j y hj hb => hx (j + 1) y (by simpa using hj) hb
    split
    · rw [app_bx]
      split
      · rename_i e
        cases hb : x.bx with
        | none => exact h
        | some b' => exact absurd e (hx 0 x rfl (by rw [hb]; rfl))
      · exact h
    · exact h

theorem bx_some {s : Nat} : ∀ {X : List Doing} {env : Env}, (look s env.bx).isSome = true → (look s (X.foldl (fun e x => x.app e) env).bx).isSome = true
  | [], _, h => h
  | x :: X, env, h => by
    rw [List.foldl_cons]
    refine bx_some ?_
    rw [app_bx]
    split
    · cases x.bx with
      | none => exact h
      | some _ => rfl
    · exact h

structure Reg (P : Program) (T : Ty) (ops : Array Oper) (p : Nat) (env0 : Env) (X : List Doing) : Prop where
  hp : p ≤ ops.toList.length
  back : ∀ (i : Nat) (o : Oper), ops.toList[i]? = some o → ∀ e ∈ o.after.toList, bindsB e = true → e.on < i
  len : X.length = p
  fact : ∀ (j : Nat) (o : Oper), (ops.toList.take p)[j]? = some o → ∃ g dst r x, X[j]? = some x ∧ OpFact P T ops (ops.toList.take p) env0.bx env0.mp ((ancs ops.toList []).getD j 0) (0 + j) o x ((X.take j).foldl (fun e x => x.app e) env0) g dst r
  dstU : ∀ (j j' : Nat) (y y' : Doing), X[j]? = some y → X[j']? = some y' → y.dst = y'.dst → j = j'
  ownU : ∀ (j j' : Nat) (y y' : Doing), X[j]? = some y → X[j']? = some y' → y.own.isSome = true → y'.own.isSome = true → j = j'
  guard : ∀ (i : Nat) (o : Oper), ops.toList[i]? = some o → i < p → ∀ j b, o.guard = some (j, b) → j < i ∧ Nat.testBit ((ancs ops.toList []).getD i 0) j = true
  tail : ∀ (i : Nat) (o : Oper), ops.toList[i]? = some o → p ≤ i → ∀ j, j < i → Nat.testBit ((ancs ops.toList []).getD i 0) j = true
  wt0 : env0.wt = []

section
variable {P : Program} {T : Ty} {ops : Array Oper} {p : Nat} {env0 : Env} {X : List Doing} {rr : Option Nat} {n : Nat}

/-- One of the first part, wherever it comes. -/
theorem Reg.step (hT : TyOK P T) (R : Reg P T ops p env0 X) {S S' : Nat → Bool} (hcl : ∀ (k : Nat) (o : Oper), ops.toList[k]? = some o → S k = true → ∀ e ∈ o.after.toList, bindsB e = true → S e.on = true)
    {i : Nat} {o : Oper} (ho : ops.toList[i]? = some o) (hip : i < p) (hSi : S i = false) (hr : ∀ e ∈ o.after.toList, bindsB e = true → S e.on = true) (hS' : S' i = true) (hSS : ∀ j, j ≠ i → S' j = S j)
    {c : Ctx} {a : Act} {w : World} (h : St c (runS S 0 X env0) a w) {K : Act → World → Prop} {Q : Exit → Act → World → Prop} (hK : ∀ c' a' w', c.Next c' → St c' (runS S' 0 X env0) a' w' → K a' w') : wpOpIn (Fr rr) n P ops Q i K a w := by
  have hanc := anc_done R.back hcl
  have hpre : ∀ {j : Nat}, j < p → ∀ {o' : Oper}, ops.toList[j]? = some o' → (ops.toList.take p)[j]? = some o' := fun hj _ h => by rw [List.getElem?_take, if_pos hj]; exact h
  obtain ⟨g, dst, r, x, hx, F⟩ := R.fact i o (hpre hip ho)
  have hEi : (X.take i).foldl (fun e x => x.app e) env0 = runS (fun m => decide (m < 0 + i)) 0 X env0 := (runS_lt X i 0 env0).symm
  rw [hEi] at F
  have hxd : x.dst = dst := by rw [F.isX, doing_dst]
  -- whose slot is whose
  have hmk : ∀ (j : Nat) (y : Doing), X[j]? = some y → j < p ∧ ∃ o', ops.toList[j]? = some o' ∧ o'.dst = some y.dst := by
    intro j y hj
    have hjp : j < p := by rw [← R.len]; exact (List.getElem?_eq_some_iff.1 hj).1
    have hjl : ∃ o', ops.toList[j]? = some o' := ⟨_, List.getElem?_eq_getElem (Nat.lt_of_lt_of_le hjp R.hp)⟩
    obtain ⟨o', ho'⟩ := hjl
    obtain ⟨g', dst', r', x', k1, F'⟩ := R.fact j o' (hpre hjp ho')
    rw [hj] at k1; cases k1
    exact ⟨hjp, o', ho', by rw [F'.isDst, F'.isX, doing_dst]⟩
  have hagree : ∀ t, okT ((ancs ops.toList []).getD i 0) (0 + i) t (ops.toList.take p) 0 = true → look t (runS (fun m => decide (m < 0 + i)) 0 X env0).wt = look t (runS S 0 X env0).wt ∧ look t (runS (fun m => decide (m < 0 + i)) 0 X env0).tm = look t (runS S 0 X env0).tm := by
    intro t ht
    have key : ∀ (j : Nat) (y : Doing), X[j]? = some y → y.dst = t → (fun m => decide (m < 0 + i)) (0 + j) = S (0 + j) := by
      intro j y hj hy
      obtain ⟨hjp, o', ho', hd⟩ := hmk j y hj
      obtain ⟨h1, h2⟩ := okT_spec ht j o' (hpre hjp ho') (by rw [hd, hy])
      rw [hanc i o ho hr (0 + j) h1]
      simpa using h2
    exact ⟨look_runS (f := fun e => look t e.wt) (rel := fun x => x.dst = t) wt_ne wt_eq key rfl, look_runS (f := fun e => look t e.tm) (rel := fun x => x.dst = t) tm_ne tm_eq key rfl⟩
  have hdoes := F.does
  rw [tvR_congr hagree, gcond_congr hagree, ← (runS_mp (S := S) (X := X) (k := 0) (env := env0)).1] at hdoes
  obtain ⟨e1, he1⟩ := F.mem
  obtain ⟨_, hfr, _⟩ := memG_free he1 F.fz F.fm F.noM
  -- no other one has this slot
  have hnot : ∀ (j : Nat) (y : Doing), X[j]? = some y → y.dst = dst → j = i := fun j y hj hy => R.dstU j i y x hj hx (hy.trans hxd.symm)
  have hbS : ∀ (S1 : Nat → Bool), S1 i = false → look dst (runS S1 0 X env0).bx = look dst env0.bx := by
    intro S1 h1
    have := look_runS (f := fun e => look dst e.bx) (rel := fun x => x.dst = dst) bx_ne bx_eq (S := S1) (S' := fun _ => false) (X := X) (k := 0) (env := env0) (env' := env0) (fun j y hj hy => by rw [hnot j y hj hy, Nat.zero_add]; exact h1) rfl
    rw [runS_false] at this
    exact this
  have hi0 : (fun m => decide (m < 0 + i)) i = false := by simp
  have hgo : gslot ops o = some g := F.isG
  have hmem : memG (runS S 0 X env0) dst g r = some (x.app (runS S 0 X env0)) := by
    rw [F.isX]
    refine memG_doing he1 F.fz F.fm F.noM (by rw [runS_mp.2, runS_mp.2]) ?_ (fun hb hf => ?_) (fun how => ?_)
    · refine wtFree_runS (by rw [R.wt0]; rfl) fun j y d hj hs hd => ?_
      rw [Nat.zero_add] at hs
      obtain ⟨hjp, o', ho', hdo⟩ := hmk j y hj
      obtain ⟨g', dst', r', x', k1, F'⟩ := R.fact j o' (hpre hjp ho')
      rw [hj] at k1; cases k1
      have hyx := F'.isX
      cases g' with
      | none => rw [hyx] at hd; simp [doing] at hd
      | some q =>
        obtain ⟨s, b⟩ := q
        rw [hyx] at hd
        simp only [doing, Option.some.injEq] at hd
        refine ⟨s, b, r'.d, hd.symm, fun e => ?_, fun e => ?_⟩
        · have := hnot j y hj e
          subst this
          rw [hs] at hSi; cases hSi
        · subst e
          rcases gslot_spec F'.isG with ⟨_, e⟩ | ⟨jj, b', pp, s', hgd, hpp, hps, e⟩
          · cases e
          · cases e
            obtain ⟨hlt, hbit⟩ := R.guard j o' ho' hjp jj b hgd
            have hSjj : S jj = true := hanc j o' ho' (hcl j o' ho' hs) jj hbit
            have hppl : ops.toList[jj]? = some pp := by simpa using hpp
            obtain ⟨g2, dst2, r2, x2, k2, F2⟩ := R.fact jj pp (hpre (by omega) hppl)
            have hd2 : x2.dst = s := by
              rw [F2.isX, doing_dst]
              have := F2.isDst
              rw [hps] at this; exact (Option.some.inj this).symm
            have := hnot jj x2 k2 hd2
            subst this
            rw [hSjj] at hSi; cases hSi
    · obtain ⟨h1, h2⟩ := free_spec hf
      unfold Env.free
      rw [hbS S hSi, ← hbS (fun m => decide (m < 0 + i)) hi0, h1, runS_mp.1, ← (runS_mp (S := fun m => decide (m < 0 + i)) (X := X) (k := 0) (env := env0)).1, h2]; rfl
    · have hxo : x.own.isSome = true := by rw [F.isX]; exact how
      have key : ∀ (j : Nat) (y : Doing), X[j]? = some y → y.own.isSome = true → S (0 + j) = (fun m => decide (m < 0 + i)) (0 + j) := by
        intro j y hj hy
        rw [R.ownU j i y x hj hx hy hxo, Nat.zero_add, hSi]
        simp
      exact ⟨look_runS (f := fun e => e.us) (rel := fun x => x.own.isSome = true) us_ne us_eq key rfl, look_runS (f := fun e => e.dd) (rel := fun x => x.own.isSome = true) dd_ne dd_eq key rfl⟩
  have hbx : ∀ s b, look s env0.bx = some b → look s (runS S 0 X env0).bx = some b := by
    intro s b hs
    refine bx_keep hs fun j y hj hyb e => ?_
    obtain ⟨hjp, o', ho', _⟩ := hmk j y hj
    obtain ⟨g', dst', r', x', k1, F'⟩ := R.fact j o' (hpre hjp ho')
    rw [hj] at k1; cases k1
    obtain ⟨e2, he2⟩ := F'.mem
    have hf := (memG_free he2 F'.fz F'.fm F'.noM).2.1 (by rw [← F'.isX]; exact hyb)
    have h1 := (free_spec hf).1
    have h2 : (look dst' ((X.take j).foldl (fun e x => x.app e) env0).bx).isSome = true := bx_some (by
      have : y.dst = dst' := by rw [F'.isX, doing_dst]
      rw [← this, e, hs]; rfl)
    rw [h1] at h2; cases h2
  refine value_sound (env := runS S 0 X env0) hT h (ρ := tvR (fun t => okT ((ancs ops.toList []).getD i 0) (0 + i) t (ops.toList.take p) 0) (runS S 0 X env0).wt (runS S 0 X env0).tm) (rep_tvR h _) hbx (by simpa using ho) F.isDst hgo (gcond_sound _ h 8 g) hdoes (fun r' env' c' a' w' hr' he hn hst => ?_) (fun r' hr' => ?_)
  · subst hr'
    rw [hmem] at he; cases he
    exact hK c' a' w' hn (hst.congr (app_runS hx R.dstU R.ownU hSi hS' hSS))
  · subst hr'
    exact ⟨_, hmem⟩
end

end Go.Proofs.Ytndijidmabfhcaa.Fw
