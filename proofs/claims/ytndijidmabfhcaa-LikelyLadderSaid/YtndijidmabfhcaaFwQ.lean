/- Each value operation does what its evaluation over data says. -/
import Derived.Test.YtndijidmabfhcaaFwP
namespace Go.Proofs.Ytndijidmabfhcaa.Fw
open Go Go.RowKit

section
variable {P : Program} {T : Ty} {c : Ctx} {env : Env} {a : Act} {w : World}

/-- Likewise, of a step of the machine. -/
def AfterN (P : Program) (c : Ctx) (env' : Env) (a : Act) (w : World) (d : D) (s : Sem Next) : Prop :=
  ∃ v w' c', s.run P w = .ok (.value v) w' ∧ c.Next c' ∧ St c' env' a w' ∧ RepT c' env' w' d v

theorem After.next {env' : Env} {d : D} {s : Sem Value} (h : After P c env env' a w d s) : AfterN P c env' a w d (do pure (.value (← s))) := by
  obtain ⟨v, w', c', h1, h2, h3, h4⟩ := h
  exact ⟨v, w', c', by simp [h1], h2, h3, h4⟩

theorem AfterN.of_run {env' : Env} {d : D} {s s' : Sem Next} (e : s.run P w = s'.run P w) (h : AfterN P c env' a w d s') : AfterN P c env' a w d s := by
  unfold AfterN at *
  rw [e]; exact h

theorem run_builtin (ρ : Operand → Value) (dst : Option Tmp) (b : Builtin) (args : Array Operand) (argTypes : Array TypeId) (ty : TypeId) (pos : String) (after : Array Edge) (guard : Option (Nat × Bool)) :
    (execOp ρ { dst, op := .call ⟨.builtin b, args, argTypes⟩, type := ty, pos, after, guard }).run P w = (builtin b argTypes ty (args.map fun | .const _ => true | _ => false) (args.map ρ)).run P w := by
  simp [execOp, resolve, invoke]
  rfl

/-- What a slot that may stand under a guard holds. -/
def RepX (c : Ctx) (env : Env) (w : World) (tmps : Array Value) (d : D) (v : Value) : Prop :=
  match d with
  | .wh s b d => tmps.getD s undef = .bool b → RepT c env w d v
  | d => RepT c env w d v

theorem rep_tvX (h : St c env a w) (x : Operand) : RepX c env w a.tmps (tv env.wt env.tm x) (a.eval x) := by
  cases x with
  | tmp t =>
    simp only [tv, Act.eval]
    cases hw : look t env.wt with
    | some d =>
      have := h.wt t d hw
      cases d <;> first | exact this.elim | exact this.1
    | none =>
      simp only
      cases ht : look t env.tm with
      | none => simp [RepX, RepT]
      | some d =>
        have := h.tm t d ht
        simp only [Option.getD_some]
        cases d <;> first | exact this | exact (this : False).elim
  | const v =>
    have := rep_const (c := c) (env := env) (w := w) v
    simp only [tv, Act.eval]
    cases hd : dconst v <;> rw [hd] at this <;> first | exact this | exact (this : False).elim
  | global n => simp [tv, RepX, RepT]
  | func f => simp [tv, RepX, Act.eval, RepT, RepV, RepC, Rep, RepL]

theorem repX_unw {g : Option (Nat × Bool)} (hg : GOK a g) {d : D} {v : Value} (h : RepX c env w a.tmps d v) : RepT c env w (unw g d) v := by
  cases d with
  | wh s b d =>
    simp only [unw]
    cases g with
    | none => trivial
    | some p =>
      obtain ⟨s', b'⟩ := p
      simp only
      cases hc : (Nat.beq s s' && b == b') with
      | false => trivial
      | true =>
        simp only [Bool.and_eq_true, beq_iff_eq] at hc
        obtain ⟨h1, rfl⟩ := hc
        obtain rfl := nbeq.1 h1
        exact h (hg s b rfl)
  | _ => exact h

theorem loadD_mono {bx bx' : List (Nat × BoxC)} (hb : ∀ s b, look s bx = some b → look s bx' = some b) {e : TE} {x d : D} (h : loadD bx e x = some d) : loadD bx' e x = some d := by
  unfold loadD at *
  split at h
  · rename_i s off
    cases hl : look s bx with
    | none => rw [hl] at h; cases h
    | some b => rw [hl] at h; simp only [hb s b hl]; exact h
  · exact h
  · cases h

theorem capD_mono {bx bx' : List (Nat × BoxC)} (hb : ∀ s b, look s bx = some b → look s bx' = some b) {mp : List (Nat × MapC)} {x : D} {r : Nat × D × List Nat} (h : capD bx mp x = some r) : capD bx' mp x = some r := by
  unfold capD at *
  split at h
  · rename_i s
    cases hl : look s bx with
    | none => rw [hl] at h; cases h
    | some b => rw [hl] at h; simp only [hb s b hl]; exact h
  · cases h

theorem allSome_mono {α β : Type} {f f' : α → Option β} (hf : ∀ x r, f x = some r → f' x = some r) : ∀ {l : List α} {r : List β}, allSome (l.map f) = some r → allSome (l.map f') = some r
  | [], r, h => h
  | x :: l, r, h => by
    simp only [List.map_cons] at h ⊢
    cases hx : f x with
    | none => rw [hx] at h; simp [allSome] at h
    | some y =>
      rw [hx] at h
      simp only [allSome] at h
      cases hr : allSome (l.map f) with
      | none => rw [hr] at h; cases h
      | some r2 =>
        rw [hr] at h
        rw [hf x y hx]
        simp only [allSome]
        rw [allSome_mono hf hr]; exact h

theorem repX_unwk {g : Option (Nat × Bool)} (hg : GOK a g) {d : D} {v : Value} (h : RepX c env w a.tmps d v) : RepX c env w a.tmps (unwk g d) v := by
  cases d with
  | wh s b d =>
    simp only [unwk]
    cases g with
    | none => exact h
    | some p =>
      obtain ⟨s', b'⟩ := p
      simp only
      cases hc : (Nat.beq s s' && b == b') with
      | false => exact h
      | true =>
        simp only [Bool.and_eq_true, beq_iff_eq] at hc
        obtain ⟨h1, rfl⟩ := hc
        obtain rfl := nbeq.1 h1
        have : RepT c env w d v := h (hg s b rfl)
        rw [cond_true]
        cases d <;> first | exact this | exact (this : False).elim
  | _ => exact h

theorem repT_unwp {cnd : Operand} {t : Bool} (hc : a.eval cnd = .bool t) {d : D} {v : Value} (h : RepX c env w a.tmps d v) : RepT c env w (unwp cnd t d) v := by
  cases d with
  | wh s b d =>
    simp only [unwp]
    cases cnd with
    | tmp t' =>
      simp only
      cases hh : (Nat.beq s t' && b == t) with
      | false => trivial
      | true =>
        simp only [Bool.and_eq_true, beq_iff_eq] at hh
        obtain ⟨h1, rfl⟩ := hh
        obtain rfl := nbeq.1 h1
        exact h hc
    | _ => trivial
  | _ => exact h

theorem good_repV {d : D} {v : Value} (hg : d.good = true) (h : RepT c env w d v) : RepV c env w d v := by
  cases d <;> first | (cases hg; done) | exact h

theorem goods_repP {ρ : Operand → D} (hρ : ∀ x, RepT c env w (ρ x) (a.eval x)) : ∀ {ps : List (Nat × Operand)} {qs : List (Nat × D)}, goods (ps.map fun p => (p.1, ρ p.2)) = some qs → qs = (ps.map fun p => (p.1, ρ p.2)) ∧ RepP c env w qs (ps.map fun p => (p.1, a.eval p.2)) := by
  intro ps qs h
  unfold goods at h
  cases hall : (ps.map fun p => (p.1, ρ p.2)).all (fun p => p.2.good) with
  | false => rw [hall] at h; cases h
  | true =>
    rw [hall] at h
    simp only [cond_true, Option.some.injEq] at h; subst h
    refine ⟨rfl, ?_⟩
    revert hall
    induction ps with
    | nil => exact fun _ => trivial
    | cons p ps ih =>
      intro hall
      simp only [List.map_cons, List.all_cons, Bool.and_eq_true] at hall ⊢
      exact ⟨⟨rfl, good_repV hall.1 (hρ p.2)⟩, ih hall.2⟩

theorem memR_pure {dst : Nat} {s : Bool} {d d' : D} {env' : Env} (h : memR env dst { side := s, d := d } = some (env', d')) : env' = env ∧ d' = d := by
  simp only [memR, frzM, frzB, Option.some.injEq, Prod.mk.injEq] at h
  exact ⟨h.1.symm, h.2.symm⟩

theorem free_spec {dst : Nat} (h : env.free dst = true) : look dst env.bx = none ∧ look dst env.mp = none := by
  simp only [Env.free, Bool.and_eq_true, Option.isNone_iff_eq_none] at h
  exact h

theorem all2_map {α β γ : Type} {R : α → β → Prop} {f : γ → α} {g : γ → β} (h : ∀ x, R (f x) (g x)) : ∀ l : List γ, All2 R (l.map f) (l.map g)
  | [] => trivial
  | x :: l => ⟨h x, all2_map h l⟩

theorem two_args {ve : Operand → D} (hv : ∀ x, RepT c env w (ve x) (a.eval x)) {args : Array Operand} {d1 d2 : D} (h : args.toList.map ve = [d1, d2]) : ∃ v1 v2, args.map a.eval = #[v1, v2] ∧ RepT c env w d1 v1 ∧ RepT c env w d2 v2 := by
  obtain ⟨l⟩ := args
  match l, h with
  | [x, y], h =>
    simp only [List.map_cons, List.map_nil, List.cons.injEq, and_true] at h
    obtain ⟨rfl, rfl⟩ := h
    exact ⟨a.eval x, a.eval y, by simp, hv x, hv y⟩

theorem elemTy_spec (hT : TyOK P T) {t u : Nat} {eu : TE} (h : elemTy T t = some (u, eu)) : T u = some eu ∧ P.underlying t = some (.slice u) := by
  unfold elemTy at h
  cases ht : T t with
  | none => rw [ht] at h; cases h
  | some e =>
    rw [ht] at h
    have hk := (hT t e ht).kind
    simp only at h
    cases hk' : e.kind <;> rw [hk'] at h hk <;> first | (cases h; done) | skip
    rename_i u'
    simp only at h
    cases hu : T u' with
    | none => rw [hu] at h; cases h
    | some eu' =>
      rw [hu] at h
      simp only [Option.map_some, Option.some.injEq, Prod.mk.injEq] at h
      obtain ⟨rfl, rfl⟩ := h
      exact ⟨hu, hk⟩

theorem notIfc_spec {t : Nat} {e : TE} (h : TEok P t e) (hn : e.kind.notIfc = true) : ∃ d, P.underlying t = some d ∧ ∀ ms, d ≠ .interface ms := by
  have hk := h.kind
  cases hk' : e.kind <;> rw [hk'] at hk hn <;> simp only [KindOK] at hk <;> first | (cases hn; done) | skip
  case agg fs => obtain ⟨Fs, h, _⟩ := hk; exact ⟨_, h, fun _ e => by cases e⟩
  case ptr => obtain ⟨x, h⟩ := hk; exact ⟨_, h, fun _ e => by cases e⟩
  case func => obtain ⟨x, y, z, h⟩ := hk; exact ⟨_, h, fun _ e => by cases e⟩
  all_goals exact ⟨_, hk, fun _ e => by cases e⟩

set_option maxHeartbeats 1000000 in
theorem opR_sound (hT : TyOK P T) (h : St c env a w) {g : Option (Nat × Bool)} (hg : GOK a g) {ρ : Operand → D} (hρ : ∀ x, RepX c env w a.tmps (ρ x) (a.eval x)) {bx0 : List (Nat × BoxC)} (hbx : ∀ s b, look s bx0 = some b → look s env.bx = some b)
    {o : Oper} {dst : Nat} {r : Res} (hr : opR T g ρ bx0 env.mp dst o.op = some r) (hs : r.side = true)
    {env' : Env} {d : D} (hm : memR env dst r = some (env', d)) : AfterN P c env' a w d (execOp a.eval o) := by
  have hv : ∀ x, RepT c env w ((fun x => unw g (ρ x)) x) (a.eval x) := fun x => repX_unw hg (hρ x)
  have hp : ∀ c0 t x, a.eval c0 = .bool t → RepT c env w ((fun c b x => unwp c b (unwk g (ρ x))) c0 t x) (a.eval x) := fun c0 t x hc => repT_unwp hc (repX_unwk hg (hρ x))
  unfold opR at hr
  generalize (fun x => unw g (ρ x)) = ve at hv hr
  generalize (fun c b x => unwp c b (unwk g (ρ x))) = pk at hp hr
  obtain ⟨odst, op, ty, pos, after, guard⟩ := o
  simp only at hr
  unfold opV at hr
  have pure_ : ∀ {d0 : D} {sd : Bool} {s : Sem Value}, r = { side := sd, d := d0 } → Yield P c env w d0 s → AfterN P c env' a w d (do pure (.value (← s))) := by
    intro d0 sd s e y
    subst e
    obtain ⟨rfl, rfl⟩ := memR_pure hm
    exact (y.after h).next
  have resB_ : ∀ {x : Option (Bool × D)} {s : Sem Value}, resB x = some r → (∀ sd d0, x = some (sd, d0) → sd = true → Yield P c env w d0 s) → AfterN P c env' a w d (do pure (.value (← s))) := by
    intro x s e y
    cases x with
    | none => cases e
    | some p =>
      obtain ⟨sd, d0⟩ := p
      simp only [resB, Option.map_some, Option.some.injEq] at e
      exact pure_ e.symm (y sd d0 rfl (by rw [← e] at hs; exact hs))
  have res_ : ∀ {x : Option D} {s : Sem Value}, res x = some r → (∀ d0, x = some d0 → Yield P c env w d0 s) → AfterN P c env' a w d (do pure (.value (← s))) := by
    intro x s e y
    cases x with
    | none => cases e
    | some d0 =>
      simp only [res, Option.map_some, Option.some.injEq] at e
      exact pure_ e.symm (y d0 rfl)
  cases op <;> (try simp only at hr) <;> first | (cases hr; done) | skip
  case move x =>
    simp only [ok, Option.some.injEq] at hr; subst hr
    obtain ⟨rfl, rfl⟩ := memR_pure hm
    exact ⟨a.eval x, w, c, rfl, .refl c, h, hv x⟩
  case assign x =>
    simp only [ok, Option.some.injEq] at hr; subst hr
    obtain ⟨rfl, rfl⟩ := memR_pure hm
    exact ⟨a.eval x, w, c, rfl, .refl c, h, hv x⟩
  case pick c0 x y =>
    split at hr
    · rename_i t b1 b2 e1 e2 e3
      simp only [ok, Option.some.injEq] at hr; subst hr
      obtain ⟨rfl, rfl⟩ := memR_pure hm
      have hc := hv c0
      rw [e1] at hc
      have hc := repT_bool hc
      refine ⟨if t then a.eval x else a.eval y, w, c, ?_, .refl c, h, ?_⟩
      · simp only [execOp]
        rw [hc]; cases t <;> simp [asBool]
      · cases t with
        | true =>
          have := hp c0 true x hc
          rw [e2] at this; simpa using this
        | false =>
          have := hp c0 false y hc
          rw [e3] at this; simpa using this
    · cases hr
  case alloc t =>
    cases ht : T t with
    | none => rw [ht] at hr; cases hr
    | some e =>
      rw [ht] at hr
      simp only [Option.map_some, Option.some.injEq] at hr; subst hr
      simp only [memR, frzM, frzB] at hm
      cases hf : env.free dst with
      | false => rw [hf] at hm; cases hm
      | true =>
        rw [hf] at hm
        simp only [cond_true, Option.some.injEq, Prod.mk.injEq] at hm
        obtain ⟨rfl, rfl⟩ := hm
        exact (after_alloc h (hT t e ht) (free_spec hf).1 (free_spec hf).2).next
  case box t x =>
    cases ht : T t with
    | none => rw [ht] at hr; cases hr
    | some e =>
      rw [ht] at hr
      simp only at hr
      cases hgd : ((ve x).good && Nat.beq (ve x).cells.length e.size) with
      | false => rw [hgd] at hr; cases hr
      | true =>
      rw [hgd] at hr
      simp only [cond_true, Option.some.injEq] at hr; subst hr
      simp only [Bool.and_eq_true] at hgd
      simp only [memR, frzM, frzB] at hm
      cases hf : env.free dst with
      | false => rw [hf] at hm; cases hm
      | true =>
        rw [hf] at hm
        simp only [cond_true, Option.some.injEq, Prod.mk.injEq] at hm
        obtain ⟨rfl, rfl⟩ := hm
        exact (after_box (t := t) h (good_repV hgd.1 (hv x)) (free_spec hf).1 (free_spec hf).2).next
  case build t ps =>
    split at hr
    · rename_i e qs ht hq
      cases hb : buildD T e qs with
      | none => rw [hb] at hr; cases hr
      | some cs =>
        rw [hb] at hr
        simp only [Option.map_some, Option.some.injEq] at hr
        obtain ⟨hq', hpp⟩ := goods_repP (ρ := ve) hv hq
        have y := yield_build hT ht hpp (cs := cs) (by unfold buildD at hb; exact hb)
        have e1 : ps.map (fun p => (p.1, a.eval p.2)) = ⟨ps.toList.map fun p => (p.1, a.eval p.2)⟩ := by
          apply Array.ext'; simp
        have := pure_ hr.symm y
        rw [← e1] at this
        exact this
    · cases hr
  case buildSlice t n ps =>
    split at hr
    · rename_i qs hq
      obtain ⟨hq', hpp⟩ := goods_repP (ρ := ve) hv hq
      have e1 : ps.map (fun p => (p.1, a.eval p.2)) = ⟨ps.toList.map fun p => (p.1, a.eval p.2)⟩ := by
        apply Array.ext'; simp
      show AfterN P c env' a w d (do pure (.value (← Instr.buildSlice t n (ps.map fun p => (p.1, a.eval p.2)))))
      rw [e1]
      unfold buildSliceD at hr
      cases het : elemTy T t with
      | none => rw [het] at hr; cases hr
      | some p =>
        obtain ⟨u, eu⟩ := p
        rw [het] at hr
        simp only at hr
        cases hsz : (!Nat.ble (n * eu.size) 16777216 || Nat.beq eu.size 0) with
        | true => rw [hsz] at hr; cases hr
        | false =>
          rw [hsz] at hr
          simp only [Bool.or_eq_false_iff, Bool.not_eq_false', Nat.ble_eq, nbeq_f] at hsz
          simp only [cond_false] at hr
          cases hb : buildCells (fun i => some (i * eu.size, eu.size)) ((List.replicate n eu.zero.cells).flatten) qs with
          | none => rw [hb] at hr; cases hr
          | some cs =>
            rw [hb] at hr
            simp only at hr
            obtain ⟨hu, hk⟩ : T u = some eu ∧ P.underlying t = some (.slice u) := by
              exact elemTy_spec hT het
            cases hc : cloL env.mp cs with
            | none =>
              rw [hc] at hr
              simp only [Option.some.injEq] at hr; subst hr
              simp only [memR, frzM, frzB] at hm
              cases hf : env.free dst with
              | false => rw [hf] at hm; cases hm
              | true =>
                rw [hf] at hm
                simp only [cond_true, Option.some.injEq, Prod.mk.injEq] at hm
                obtain ⟨rfl, rfl⟩ := hm
                exact (after_buildLocal hT h hk hu hsz.1 hsz.2 hpp hb (free_spec hf).1 (free_spec hf).2).next
            | some cs' =>
              rw [hc] at hr
              simp only [Option.some.injEq] at hr; subst hr
              simp only [memR, frzB] at hm
              cases hf : frzM env.mp (cloM (.agg cs)) with
              | none => rw [hf] at hm; cases hm
              | some mp =>
                rw [hf] at hm
                simp only [Option.some.injEq, Prod.mk.injEq] at hm
                obtain ⟨rfl, rfl⟩ := hm
                exact (after_buildSlice hT h hk hu hsz.1 hsz.2 hpp hb hc hf).next
    · cases hr
  case load t x =>
    cases ht : T t with
    | none => rw [ht] at hr; cases hr
    | some e =>
      rw [ht] at hr
      exact res_ hr fun d0 hd => yield_loadAt (hT t e ht) h (hv x) (loadD_mono hbx hd)
  case nilCheck x =>
    split at hr
    · rename_i s off e
      simp only [ok, Option.some.injEq] at hr; subst hr
      obtain ⟨rfl, rfl⟩ := memR_pure hm
      have hx := hv x
      rw [e] at hx
      refine ⟨a.eval x, w, c, ?_, .refl c, h, hx⟩
      have := (repT_loc hx).2
      simp only [execOp, this]; rfl
    · rename_i d0 off e
      simp only [ok, Option.some.injEq] at hr; subst hr
      obtain ⟨rfl, rfl⟩ := memR_pure hm
      have hx := hv x
      rw [e] at hx
      refine ⟨a.eval x, w, c, ?_, .refl c, h, hx⟩
      obtain ⟨ad, h1, _⟩ := repT_eptr hx
      simp only [execOp, h1]; rfl
    · cases hr
  case binOp bop t x y z =>
    obtain ⟨h1, h2⟩ := yield_bin hT (hv x) (hv y) hr
    exact pure_ h1 (h2 hs)
  case unOp uop t x =>
    obtain ⟨h1, h2⟩ := yield_un (hv x) hr
    exact pure_ h1 h2
  case convert s t x => exact res_ hr fun d0 hd => yield_conv hT (hv x) hd
  case makeInterface t x =>
    cases ht : T t with
    | none => rw [ht] at hr; cases hr
    | some e =>
    rw [ht] at hr
    simp only at hr
    cases hn : e.kind.notIfc with
    | false => rw [hn] at hr; cases hr
    | true =>
    rw [hn, cond_true] at hr
    obtain ⟨td, htd, hni⟩ := notIfc_spec (hT t e ht) hn
    cases hc : clo env.mp (ve x) with
    | none => rw [hc] at hr; cases hr
    | some x' =>
      rw [hc] at hr
      simp only [Option.map_some, Option.some.injEq] at hr; subst hr
      simp only [memR, frzB] at hm
      cases hf : frzM env.mp (cloM (ve x)) with
      | none => rw [hf] at hm; cases hm
      | some mp =>
        rw [hf] at hm
        simp only [Option.some.injEq, Prod.mk.injEq] at hm
        obtain ⟨rfl, rfl⟩ := hm
        exact (after_iface h htd hni (hv x) hc hf).next
  case makeFunc fn first caps =>
    cases fn <;> (try simp only at hr) <;> first | (cases hr; done) | skip
    rename_i f
    cases h0 : Nat.beq first.size 0 with
    | false => rw [h0] at hr; cases hr
    | true =>
      rw [h0, cond_true] at hr
      have hfirst : first = #[] := Array.eq_empty_of_size_eq_zero (nbeq.1 h0)
      subst hfirst
      cases hl : allSome (caps.toList.map fun x => capD bx0 env.mp (ve x)) with
      | none => rw [hl] at hr; cases hr
      | some l =>
        rw [hl] at hr
        simp only [Option.some.injEq] at hr; subst hr
        simp only [memR] at hm
        cases hfm : frzM env.mp (l.flatMap (·.2.2)) with
        | none => rw [hfm] at hm; cases hm
        | some mp =>
          cases hfb : frzB env.bx (l.map (·.1)) with
          | none => rw [hfm, hfb] at hm; cases hm
          | some bx =>
            rw [hfm, hfb] at hm
            simp only [Option.some.injEq, Prod.mk.injEq] at hm
            obtain ⟨rfl, rfl⟩ := hm
            have e1 : caps.map a.eval = ⟨caps.toList.map a.eval⟩ := by apply Array.ext'; simp
            refine AfterN.of_run (s' := do pure (.value (← Instr.makeFunc (.func f) #[] ⟨caps.toList.map a.eval⟩))) (by rw [← e1]; simp [execOp]) ?_
            exact (after_makeFunc (P := P) h (ds := caps.toList.map ve) (all2_map hv caps.toList) (by rw [List.map_map]; exact allSome_mono (fun x r hx => capD_mono hbx hx) hl) hfm hfb).next
  case makeMap t r0 =>
    cases r0 with
    | some _ => cases hr
    | none =>
      simp only [Option.some.injEq] at hr; subst hr
      simp only [memR, frzM, frzB] at hm
      cases hf : env.free dst with
      | false => rw [hf] at hm; cases hm
      | true =>
        rw [hf] at hm
        simp only [cond_true, Option.some.injEq, Prod.mk.injEq] at hm
        obtain ⟨rfl, rfl⟩ := hm
        exact (after_makeMap h (free_spec hf).1 (free_spec hf).2).next
  case slice t x lo hi mx =>
    have ho : ∀ y : Option Operand, RepO c env w (y.map ve) (y.map a.eval) := fun y => by cases y <;> first | trivial | exact hv _
    exact resB_ hr fun sd d0 hd hsd => yield_slice hT (hv x) (ho lo) (ho hi) (ho mx) hd hsd
  case fieldAddr t x f => exact res_ hr fun d0 hd => yield_fieldAddr hT (hv x) hd
  case field t x f => exact res_ hr fun d0 hd => yield_field hT (hv x) hd
  case indexAddr t x i =>
    split at hr
    · rename_i k n e
      have hi := hv i
      rw [e] at hi
      refine resB_ hr fun sd d0 hd hsd => ?_
      rw [repT_int hi]
      exact yield_indexAddr hT (hv x) hd hsd
    · cases hr
  case index t x i =>
    split at hr
    · rename_i k n e
      have hi := hv i
      rw [e] at hi
      refine resB_ hr fun sd d0 hd hsd => ?_
      rw [repT_int hi]
      exact yield_index hT (hv x) hd hsd
    · cases hr
  case lookup t m k comma => exact resB_ hr fun sd d0 hd hsd => yield_lookup hT h (hv m) (hv k) hd hsd
  case extract x i =>
    split at hr
    · rename_i ds e
      have hx := hv x
      rw [e] at hx
      exact res_ hr fun d0 hd => yield_extract hx hd
    · cases hr
  case call cl =>
    obtain ⟨callee, args, argTypes⟩ := cl
    cases callee <;> (try simp only at hr) <;> first | (cases hr; done) | skip
    rename_i b
    cases b <;> (try simp only at hr) <;> first | (cases hr; done) | skip
    case append =>
      split at hr
      · rename_i x y t t' e1 e2
        cases htt : Nat.beq t t' with
        | false => rw [htt] at hr; cases hr
        | true =>
          obtain rfl := nbeq.1 htt
          rw [htt, cond_true] at hr
          have hx := hv x
          have hy := hv y
          unfold appendD at hr
          split at hr
          · rename_i st es xs st2 es2 ys u eu ex ey het
            rw [ex] at hx
            rw [ey] at hy
            obtain ⟨hu, hk⟩ := elemTy_spec hT het
            cases hb : ((Nat.beq es eu.size || Nat.beq st 1) && (Nat.beq es2 eu.size || ys.isEmpty)) with
            | false => rw [hb] at hr; cases hr
            | true =>
              rw [hb, cond_true, Option.some.injEq] at hr
              subst hr
              simp only [memR, frzM, frzB] at hm
              cases hcd : ((look (2 * dst + 3) env.us).isNone && !env.dd.contains (2 * dst + 3) && (Nat.beq st 1 || (Nat.ble 2 st && (look st env.us == some u) && !env.dd.contains st))) with
              | false => rw [hcd] at hm; cases hm
              | true =>
                rw [hcd] at hm
                simp only [cond_true, Option.some.injEq, Prod.mk.injEq] at hm
                obtain ⟨rfl, rfl⟩ := hm
                simp only [Bool.and_eq_true, Bool.or_eq_true, Option.isNone_iff_eq_none, Bool.not_eq_true', List.contains_eq_mem, decide_eq_false_iff_not, beq_iff_eq, Nat.ble_eq, nbeq, List.isEmpty_iff] at hcd hb
                have e3 : args = ⟨[x, y]⟩ := by apply Array.ext'; simpa using e1
                have e4 : argTypes = #[t, t] := by apply Array.ext'; simpa using e2
                subst e3; subst e4
                have := after_append hT h hk hu hx hy (hcd.2.imp id fun h => ⟨h.1.1, h.1.2, h.2⟩) hb.1 hb.2 (by omega) hcd.1.1 hcd.1.2 (of_decide_eq_true hs) ty
                exact AfterN.of_run (by rw [run_builtin, show (⟨[x, y]⟩ : Array Operand).map a.eval = #[a.eval x, a.eval y] from by simp]; rfl) this.next
          · cases hr
      · cases hr
    case len =>
      split at hr
      · rename_i x e1
        split at hr
        · rename_i t e2
          cases ht : T t with
          | none => rw [ht] at hr; cases hr
          | some e =>
            rw [ht] at hr
            simp only at hr
            have e3 : args = ⟨[x]⟩ := by apply Array.ext'; simpa using e1
            have e4 : argTypes = #[t] := by apply Array.ext'; simpa using e2
            subst e3; subst e4
            have := res_ (s := Builtin.len_ #[t] ty #[a.eval x]) hr fun d0 hd => by
              cases hl : lenD env.mp e (ve x) with
              | none => rw [hl] at hd; cases hd
              | some n =>
                rw [hl] at hd
                rw [← Option.some.inj hd]
                exact yield_len hT h ht (hv x) hl ty
            exact AfterN.of_run (by rw [run_builtin, show (⟨[x]⟩ : Array Operand).map a.eval = #[a.eval x] from by simp]; rfl) this
        · cases hr
      · cases hr
    case min =>
      split at hr
      · rename_i k x k' y e1
        cases hk : (k == k') with
        | false => rw [hk] at hr; cases hr
        | true =>
          obtain rfl := eq_of_beq hk
          rw [hk, cond_true] at hr
          simp only [ok, Option.some.injEq] at hr; subst hr
          obtain ⟨rfl, rfl⟩ := memR_pure hm
          obtain ⟨ax, ay, e2, hx, hy⟩ := two_args hv e1
          refine ⟨.int k (if y < x then y else x), w, c, ?_, .refl c, h, ?_⟩
          · rw [run_builtin, e2]
            simp [builtin, Builtin.min_, repT_int hx, repT_int hy, Builtin.min2]
          · simp [RepT, RepV, RepC, Rep]
      · cases hr
    case max =>
      split at hr
      · rename_i k x k' y e1
        cases hk : (k == k') with
        | false => rw [hk] at hr; cases hr
        | true =>
          obtain rfl := eq_of_beq hk
          rw [hk, cond_true] at hr
          simp only [ok, Option.some.injEq] at hr; subst hr
          obtain ⟨rfl, rfl⟩ := memR_pure hm
          obtain ⟨ax, ay, e2, hx, hy⟩ := two_args hv e1
          refine ⟨.int k (if y > x then y else x), w, c, ?_, .refl c, h, ?_⟩
          · rw [run_builtin, e2]
            simp [builtin, Builtin.max_, repT_int hx, repT_int hy, Builtin.max2]
          · simp [RepT, RepV, RepC, Rep]
      · cases hr
end

end Go.Proofs.Ytndijidmabfhcaa.Fw
