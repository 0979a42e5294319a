/- Operations that make no memory: what they yield, and that it reads as the data's. -/
import Derived.Test.YtndijidmabfhcaaFwD
namespace Go.Proofs.Ytndijidmabfhcaa.Fw
open Go Go.RowKit

def notAggDesc : TypeDesc → Bool
  | .struct _ | .array _ _ => false
  | _ => true

/-- What the table says of a type is so. -/
def KindOK (P : Program) (t : Nat) : TK → Prop
  | .int k => P.underlying t = some (.int k)
  | .bool => P.underlying t = some .bool
  | .str => P.underlying t = some .string
  | .agg fs => ∃ Fs : Array Field, P.underlying t = some (.struct Fs) ∧ Fs.toList.map (fun f => (f.offset, f.type)) = fs ∧ (Fs.toList.all fun f => f.name != "_") = true ∧ P.stoodInHeld t = false ∧ (Fs.toList.mapM fun f => (P.info? f.type).map fun i => (f.offset, i.size)).isSome = true
  | .arr n e => P.underlying t = some (.array n e)
  | .sl e => P.underlying t = some (.slice e)
  | .mp k v => P.underlying t = some (.map k v)
  | .ptr => ∃ e, P.underlying t = some (.pointer e)
  | .func => ∃ x y z, P.underlying t = some (.func x y z)
  | .ifc => ∃ x, P.underlying t = some (.interface x)
  | .other => ∃ d, P.underlying t = some d ∧ notAggDesc d = true

structure TEok (P : Program) (t : Nat) (e : TE) : Prop where
  info : ∃ i z, P.info? t = some i ∧ i.size = e.size ∧ i.bytes = e.bytes ∧ i.zero = some z ∧ z.cells.size = e.size ∧ e.zero.cells.length = e.size ∧ ∀ c env w, RepV c env w e.zero z
  kind : KindOK P t e.kind
  one : e.isAgg = false → e.size = 1
  eqg : e.eqg = true → P.eqGuardType P.depth t = false

def TyOK (P : Program) (T : Ty) : Prop := ∀ t e, T t = some e → TEok P t e

section
variable {P : Program} {T : Ty}

theorem TEok.size {t : Nat} {e : TE} (h : TEok P t e) (w : World) : (sizeOf t).run P w = .ok e.size w := by
  obtain ⟨i, z, hi, hs, _⟩ := h.info
  simp [sizeOf, typeInfo, hi, hs]

theorem TEok.isAgg {t : Nat} {e : TE} (h : TEok P t e) (w : World) : (isAgg t).run P w = .ok e.isAgg w := by
  have hk := h.kind
  unfold TE.isAgg
  cases hk' : e.kind <;> rw [hk'] at hk <;> simp only [KindOK] at hk
  case agg fs => obtain ⟨Fs, h, _⟩ := hk; simp [Go.isAgg, run_underlying h]
  case other =>
    obtain ⟨d, h, hd⟩ := hk
    cases d <;> first | (simp [notAggDesc] at hd; done) | simp [Go.isAgg, run_underlying h]
  case ptr => obtain ⟨x, h⟩ := hk; simp [Go.isAgg, run_underlying h]
  case func => obtain ⟨x, y, z, h⟩ := hk; simp [Go.isAgg, run_underlying h]
  case ifc => obtain ⟨x, h⟩ := hk; simp [Go.isAgg, run_underlying h]
  all_goals simp [Go.isAgg, run_underlying hk]

variable {c : Ctx} {env : Env} {a : Act} {w : World}

/-- The guard under which an operation is done holds. -/
def GOK (a : Act) (g : Option (Nat × Bool)) : Prop := ∀ s b, g = some (s, b) → a.tmps.getD s undef = .bool b

theorem rep_const (v : Value) : RepT c env w (dconst v) v := by
  cases v with
  | int k n => simp [dconst, RepT, RepV, RepC, Rep]
  | bool b => simp [dconst, RepT, RepV, RepC, Rep]
  | string s => simp [dconst, RepT, RepV, RepC, Rep]
  | nilFunc => simp [dconst, RepT, RepV, RepC, Rep]
  | nilIface => simp [dconst, RepT, RepV, RepC, Rep]
  | pointer p => cases p <;> simp [dconst, RepT, RepV, RepC, Rep]
  | slice p n k =>
    cases p with
    | some p => simp [dconst, RepT]
    | none =>
      unfold dconst
      split <;> first | (simp [RepT]; done) | skip
      all_goals simp_all [RepT, RepV, RepC, Rep, OwnC]
  | map r => cases r <;> simp [dconst, RepT, RepV, RepC, Rep]
  | _ => simp [dconst, RepT]

theorem rep_tv (h : St c env a w) {g : Option (Nat × Bool)} (hg : GOK a g) (x : Operand) : RepT c env w (unw g (tv env.wt env.tm x)) (a.eval x) := by
  cases x with
  | tmp t =>
    simp only [tv, Act.eval]
    cases hw : look t env.wt with
    | some d =>
      have := h.wt t d hw
      cases d <;> first | exact this.elim | skip
      rename_i s b d
      simp only [unw]
      cases g with
      | none => trivial
      | some p =>
        obtain ⟨s', b'⟩ := p
        simp only
        cases hc : (Nat.beq s s' && b == b') with
        | false => trivial
        | true =>
          simp only [Bool.and_eq_true, beq_iff_eq] at hc
          obtain ⟨h1, rfl⟩ := hc
          obtain rfl := nbeq.1 h1
          exact this.1 (hg s b rfl)
    | none =>
      simp only
      cases ht : look t env.tm with
      | none => simp [unw, RepT]
      | some d =>
        have := h.tm t d ht
        simp only [Option.getD_some]
        cases d <;> first | exact this | (simp only [unw]; exact (this : False).elim)
  | const v =>
    have := rep_const (c := c) (env := env) (w := w) v
    simp only [tv, Act.eval]
    cases hd : dconst v <;> rw [hd] at this <;> first | exact this | exact (this : False).elim
  | global n => simp [tv, unw, RepT]
  | func f => simp [tv, unw, Act.eval, RepT, RepV, RepC, Rep, RepL]

theorem repT_int {k : IntKind} {n : Int} {v : Value} (h : RepT c env w (.int k n) v) : v = .int k n := by simpa [RepT, RepV, RepC, Rep] using h
theorem repT_bool {b : Bool} {v : Value} (h : RepT c env w (.bool b) v) : v = .bool b := by simpa [RepT, RepV, RepC, Rep] using h
theorem repT_str {l : List UInt8} {v : Value} (h : RepT c env w (.str l) v) : v = .string ⟨⟨l⟩⟩ := by simpa [RepT, RepV, RepC, Rep] using h
theorem rep_repC {d : D} {v : Value} (hc : d.isCell = true) (h : Rep c.I w d v) : RepC c env w d v := by
  cases d with
  | agg cs => cases hc
  | tup cs => cases hc
  | sl st es xs =>
    simp only [Rep] at h
    exact ⟨by simp only [Rep]; exact ⟨trivial, h.2⟩, .inl h.1⟩
  | loc _ _ | lsl _ _ _ | mapr _ | wh _ _ _ | undef => simp only [Rep] at h
  | _ => exact h
theorem rep_repCL : ∀ {cs : List D} {vs : List Value}, cs.all D.isCell = true → All2 (Rep c.I w) cs vs → All2 (RepC c env w) cs vs
  | [], [], _, _ => trivial
  | d :: ds, v :: vs, hc, h => by
    simp only [List.all_cons, Bool.and_eq_true] at hc
    exact ⟨rep_repC hc.1 h.1, rep_repCL hc.2 h.2⟩
  | [], _ :: _, _, h => h.elim
  | _ :: _, [], _, h => h.elim
theorem rep_repV {d : D} {v : Value} (hc : d.isVal = true) (h : Rep c.I w d v) : RepV c env w d v := by
  cases d with
  | agg cs =>
    simp only [Rep] at h
    obtain ⟨vs, e, hc, h⟩ := h
    exact ⟨vs, e, rep_repCL hc (all2_repL.1 h)⟩
  | tup cs => cases hc
  | _ => simp only [RepV]; exact rep_repC rfl h
theorem rep_repVL : ∀ {cs : List D} {vs : List Value}, cs.all D.isVal = true → All2 (Rep c.I w) cs vs → All2 (RepV c env w) cs vs
  | [], [], _, _ => trivial
  | d :: ds, v :: vs, hc, h => by
    simp only [List.all_cons, Bool.and_eq_true] at hc
    exact ⟨rep_repV hc.1 h.1, rep_repVL hc.2 h.2⟩
  | [], _ :: _, _, h => h.elim
  | _ :: _, [], _, h => h.elim
theorem rep_repT {d : D} {v : Value} (h : Rep c.I w d v) : RepT c env w d v := by
  cases d with
  | tup cs =>
    simp only [Rep] at h
    obtain ⟨vs, e, hc, h⟩ := h
    exact ⟨vs, e, rep_repVL hc (all2_repL.1 h)⟩
  | undef => trivial
  | _ => simp only [RepT]; exact rep_repV rfl h

/-- What a value operation leaves: a value that reads as said, the world as it was. -/
def Yield (P : Program) (c : Ctx) (env : Env) (w : World) (d : D) (s : Sem Value) : Prop := ∃ v, s.run P w = .ok v w ∧ RepT c env w d v

theorem Yield.next {d : D} {s : Sem Value} (h : Yield P c env w d s) : ∃ v, (do pure (Next.value (← s)) : Sem Next).run P w = .ok (.value v) w ∧ RepT c env w d v := by
  obtain ⟨v, h, hr⟩ := h
  exact ⟨v, by simp [h], hr⟩

/-! ### Reading a variable -/
theorem repC_one {d : D} {v : Value} (h : RepC c env w d v) : v.oneCell' = true := by
  cases d <;> simp only [RepC, Rep] at h
  case int => subst h; rfl
  case bool => subst h; rfl
  case str => subst h; rfl
  case sl => obtain ⟨⟨_, h⟩, _⟩ := h; rcases h with ⟨rfl, _⟩ | ⟨_, _, rfl, _⟩ <;> rfl
  case eptr d off => obtain ⟨a, rfl, _⟩ := (rep_eptr _ _ _ _ _).1 h; rfl
  case nilp => subst h; rfl
  case fn => obtain ⟨vs, rfl, _⟩ := h; rfl
  case nilf => subst h; rfl
  case ifc => obtain ⟨u, rfl, _⟩ := h; rfl
  case nili => subst h; rfl
  case mapv => obtain ⟨r, rfl, _⟩ := h; rfl
  case nilm => subst h; rfl
  case yld => subst h; rfl
  case loc => obtain ⟨_, rfl⟩ := h; rfl
  case lsl => obtain ⟨_, cap, rfl, _⟩ := h; rfl
  case mapr => obtain ⟨_, rfl⟩ := h; rfl
theorem repC_isCell {d : D} {v : Value} (h : RepC c env w d v) : d.isCell = true := by
  cases d <;> first | rfl | exact h.elim

theorem repCs_get {I : Im} : ∀ {ds : List D} {a : Addr} {j : Nat}, RepCs I w ds a j → ∀ (i : Nat) (x : D), ds[i]? = some x → x.isCell = true ∧ I (a.add (j + i)).block (a.add (j + i)).off ∧ ∃ u, w.cell? (a.add (j + i)) = some u ∧ Rep I w x u
  | [], _, _, _, i, x, h => by simp at h
  | d :: ds, a, j, h, 0, x, e => by
    simp only [List.getElem?_cons_zero, Option.some.injEq] at e; subst e
    simp only [RepCs] at h
    exact h.1
  | d :: ds, a, j, h, i + 1, x, e => by
    simp only [RepCs] at h
    have := repCs_get h.2 i x (by simpa using e)
    rw [show j + (i + 1) = j + 1 + i from by omega]
    exact this
theorem repAt_get {I : Im} {d : D} {a : Addr} (h : RepAt I w d a) (i : Nat) (x : D) (e : d.cells[i]? = some x) : x.isCell = true ∧ I (a.add i).block (a.add i).off ∧ ∃ u, w.cell? (a.add i) = some u ∧ Rep I w x u := by
  cases d with
  | agg cs => simpa using repCs_get (I := I) h i x e
  | tup cs => cases h.1
  | _ =>
    cases i with
    | zero => simp only [D.cells, List.getElem?_cons_zero, Option.some.injEq] at e; subst e; simp only [RepAt] at h; exact ⟨rfl, by simpa [Addr.add] using h.2⟩
    | succ i => simp [D.cells] at e

theorem add_add' (a : Addr) (i j : Nat) : (a.add i).add j = a.add (i + j) := by
  unfold Addr.add
  by_cases hi : i = 0 <;> by_cases hj : j = 0 <;> simp [hi, hj, Nat.add_assoc]

/-- Reading t at an address whose cells read as ds from off on. -/
theorem yield_load {t : Nat} {e : TE} (he : TEok P t e) {ds : List D} {off : Nat} {d : D} {ad : Addr} (hp : partD e ds off = some d)
    (hc : ∀ i x, ds[off + i]? = some x → ∃ u, w.cell? (ad.add i) = some u ∧ RepC c env w x u) : Yield P c env w d (loadVar t ad) := by
  unfold partD at hp
  unfold loadVar
  cases hag : e.isAgg with
  | true =>
    rw [hag, cond_true] at hp
    cases hl : Nat.ble (off + e.size) ds.length with
    | false => rw [hl] at hp; cases hp
    | true =>
    rw [hl, cond_true, Option.some.injEq] at hp
    subst hp
    have hl := Nat.le_of_ble_eq_true hl
    -- the values
    have key : ∀ n, n ≤ e.size → ∃ vs : List Value, vs.length = n ∧ (∀ (j : Nat) v, vs[j]? = some v → w.cell? (ad.add j) = some v) ∧ All2 (RepC c env w) ((ds.drop off).take n) vs := by
      intro n
      induction n with
      | zero => exact fun _ => ⟨[], rfl, by simp, by simp [All2]⟩
      | succ n ih =>
        intro hn
        obtain ⟨vs, h1, h2, h3⟩ := ih (by omega)
        obtain ⟨x, hx⟩ : ∃ x, ds[off + n]? = some x := ⟨_, List.getElem?_eq_getElem (by omega)⟩
        obtain ⟨u, hu, hr⟩ := hc n x hx
        refine ⟨vs ++ [u], by simp [h1], fun j v hj => ?_, ?_⟩
        · by_cases hjn : j < n
          · exact h2 j v (by rw [List.getElem?_append_left (by omega)] at hj; exact hj)
          · have : j = n := by
              have := (List.getElem?_eq_some_iff.1 hj).1
              simp at this; omega
            subst this
            rw [List.getElem?_append_right (by omega)] at hj
            simp [h1] at hj; subst hj; exact hu
        · rw [List.take_add_one, List.getElem?_drop, hx]
          exact h3.append ⟨hr, trivial⟩
    obtain ⟨vs, h1, h2, h3⟩ := key e.size (Nat.le_refl _)
    refine ⟨.agg ⟨vs⟩, ?_, ⟨vs, rfl, h3⟩⟩
    have := run_loadCells_list (P := P) w ad vs h2
    rw [h1] at this
    simp [he.isAgg, he.size, hag, this]
  | false =>
    rw [hag, cond_false] at hp
    obtain ⟨u, hu, hr⟩ := hc 0 d (by simpa using hp)
    refine ⟨u, by simp [he.isAgg, hag, Addr.add] at hu ⊢; simp [hu], ?_⟩
    have := repC_isCell hr
    cases d <;> first | (cases this; done) | exact hr | trivial

theorem repT_loc {s off : Nat} {v : Value} (h : RepT c env w (.loc s off) v) : (look s env.bx).isSome = true ∧ v = .pointer (some ⟨c.ρ s, off, none⟩) := h
theorem repT_eptr {d : D} {off : Nat} {v : Value} (h : RepT c env w (.eptr d off) v) : ∃ a : Addr, v = .pointer (some (a.add off)) ∧ RepAt c.I w d a := (rep_eptr _ _ _ _ _).1 h
theorem repT_eptr_mk {d : D} {off : Nat} {a : Addr} (h : RepAt c.I w d a) : RepT c env w (.eptr d off) (.pointer (some (a.add off))) := (rep_eptr _ _ _ _ _).2 ⟨a, rfl, h⟩

/-- The cells of a local variable. -/
theorem box_cells {s : Nat} {b : BoxC} (h : BoxOK c env w s b) (off : Nat) : ∀ (i : Nat) (x : D), b.cells[off + i]? = some x → ∃ u, w.cell? ((⟨c.ρ s, off, none⟩ : Addr).add i) = some u ∧ RepC c env w x u := by
  intro i x hx
  obtain ⟨vs, e, hh, hv, _⟩ := h
  obtain ⟨u, hu, hr⟩ := hv.get (off + i) x hx
  refine ⟨u, ?_, hr⟩
  have := cell_of_row w (c.ρ s) (off + i) ⟨vs⟩ e (0, 0) hh
  unfold Addr.add
  split
  · rename_i h0; subst h0; simpa using this.trans (by simpa using hu)
  · simpa using this.trans (by simpa using hu)

theorem yield_loadAt {t : Nat} {e : TE} (he : TEok P t e) (h : St c env a w) {x : D} {v : Value} (hx : RepT c env w x v) {d : D}
    (hr : loadD env.bx e x = some d) : Yield P c env w d (Instr.loadAt t v) := by
  cases x <;> first | (cases hr; done) | skip
  case loc s off =>
    obtain ⟨_, rfl⟩ := repT_loc hx
    simp only [loadD] at hr
    cases hb : look s env.bx with
    | none => rw [hb] at hr; cases hr
    | some b =>
      rw [hb] at hr
      obtain ⟨v, h1, h2⟩ := yield_load he hr (box_cells (h.bx s b hb) off)
      exact ⟨v, by simpa [Instr.loadAt, Instr.sureAddr] using h1, h2⟩
  case eptr d0 off =>
    obtain ⟨ad, rfl, hat⟩ := repT_eptr hx
    obtain ⟨v, h1, h2⟩ := yield_load (c := c) (env := env) (ad := ad.add off) he hr (fun i y hy => by
      obtain ⟨hc, _, u, hu, hr⟩ := repAt_get hat (off + i) y hy
      exact ⟨u, by rw [add_add']; exact hu, rep_repC hc hr⟩)
    exact ⟨v, by simpa [Instr.loadAt, Instr.sureAddr] using h1, h2⟩

theorem fieldOf_spec (hT : TyOK P T) {t f o : Nat} {eu : TE} (h : fieldOf T t f = some (o, eu)) :
    ∃ (Fs : Array Field) (F : Field), P.underlying t = some (.struct Fs) ∧ Fs[f]? = some F ∧ F.offset = o ∧ T F.type = some eu ∧ eu.size ≠ 0 := by
  unfold fieldOf at h
  cases hT' : T t with
  | none => rw [hT'] at h; cases h
  | some e =>
    rw [hT'] at h
    have hk := (hT t e hT').kind
    simp only at h
    cases hk' : e.kind <;> rw [hk'] at h <;> first | (cases h; done) | skip
    rename_i fs
    rw [hk'] at hk
    obtain ⟨Fs, h1, h2, _⟩ := hk
    simp only at h
    cases hf : fs[f]? with
    | none => rw [hf] at h; cases h
    | some q =>
      obtain ⟨o', u⟩ := q
      rw [hf] at h
      simp only at h
      cases hu : T u with
      | none => rw [hu] at h; cases h
      | some eu' =>
        rw [hu] at h
        simp only at h
        cases hz : Nat.beq eu'.size 0 with
        | true => rw [hz] at h; cases h
        | false =>
          rw [hz] at h
          simp only [cond_false, Option.some.injEq, Prod.mk.injEq] at h
          obtain ⟨rfl, rfl⟩ := h
          rw [← h2, List.getElem?_map, Array.getElem?_toList] at hf
          cases hF : Fs[f]? with
          | none => rw [hF] at hf; simp at hf
          | some F =>
            rw [hF] at hf
            simp only [Option.map_some, Option.some.injEq, Prod.mk.injEq] at hf
            exact ⟨Fs, F, h1, hF, hf.1, by rw [hf.2]; exact hu, nbeq_f.1 hz⟩

theorem yield_fieldAddr (hT : TyOK P T) {t f : Nat} {x : D} {v : Value} (hx : RepT c env w x v) {d : D} (hr : fieldAddrD T t f x = some d) : Yield P c env w d (Instr.fieldAt t v f) := by
  unfold fieldAddrD at hr
  cases hf : fieldOf T t f with
  | none => rw [hf] at hr; cases hr
  | some q =>
    obtain ⟨o, eu⟩ := q
    rw [hf] at hr
    obtain ⟨Fs, F, h1, h2, rfl, h4, h5⟩ := fieldOf_spec hT hf
    have hrun : ∀ ad : Addr, (Instr.fieldAt t (.pointer (some ad)) f).run P w = .ok (.pointer (some (ad.add F.offset))) w := fun ad => by
      simp [Instr.fieldAt, run_underlying h1, h2, Instr.sureAddr, fieldPlace, (hT _ _ h4).size, h5]
    cases x <;> first | (cases hr; done) | skip
    case loc s off =>
      obtain ⟨hs, rfl⟩ := repT_loc hx
      simp only [Option.some.injEq] at hr; subst hr
      refine ⟨_, hrun _, hs, ?_⟩
      unfold Addr.add; split
      · rename_i e; rw [e]; simp
      · rfl
    case eptr d0 off =>
      obtain ⟨ad, rfl, hat⟩ := repT_eptr hx
      simp only [Option.some.injEq] at hr; subst hr
      exact ⟨_, hrun _, by rw [add_add']; exact repT_eptr_mk hat⟩

/-- A part of a struct's or an array's cells. -/
theorem yield_part {t : Nat} {e : TE} (he : TEok P t e) {cs : List D} {vs : List Value} (hv : All2 (RepC c env w) cs vs) {off : Nat} {d : D} (hp : partD e cs off = some d) : Yield P c env w d (part t ⟨vs⟩ off) := by
  unfold partD at hp
  unfold part
  cases hag : e.isAgg with
  | true =>
    rw [hag, cond_true] at hp
    cases hl : Nat.ble (off + e.size) cs.length with
    | false => rw [hl] at hp; cases hp
    | true =>
      rw [hl, cond_true, Option.some.injEq] at hp; subst hp
      refine ⟨.agg ((⟨vs⟩ : Array Value).extract off (off + e.size)), by simp [he.isAgg, he.size, hag], (vs.drop off).take e.size, ?_, (hv.drop off).take e.size⟩
      simp [List.extract_eq_take_drop]
  | false =>
    rw [hag, cond_false] at hp
    obtain ⟨u, hu, hr⟩ := hv.get off d hp
    refine ⟨u, by simp [he.isAgg, hag, hu], ?_⟩
    have := repC_isCell hr
    cases d <;> first | (cases this; done) | exact hr | trivial

theorem yield_field (hT : TyOK P T) {t f : Nat} {x : D} {v : Value} (hx : RepT c env w x v) {d : D} (hr : fieldD T t f x = some d) : Yield P c env w d (Instr.field t v f) := by
  unfold fieldD at hr
  cases hf : fieldOf T t f with
  | none => rw [hf] at hr; cases hr
  | some q =>
    obtain ⟨o, eu⟩ := q
    rw [hf] at hr
    obtain ⟨Fs, F, h1, h2, rfl, h4, h5⟩ := fieldOf_spec hT hf
    cases x <;> first | (cases hr; done) | skip
    rename_i cs
    obtain ⟨vs, rfl, hv⟩ := hx
    obtain ⟨u, hu, hr⟩ := yield_part (hT _ _ h4) hv hr
    exact ⟨u, by simp [Instr.field, run_underlying h1, h2, asAgg, hu], hr⟩
end

end Go.Proofs.Ytndijidmabfhcaa.Fw
