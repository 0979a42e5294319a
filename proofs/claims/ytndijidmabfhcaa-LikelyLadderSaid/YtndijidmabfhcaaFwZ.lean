/- What a type is, read off the program's own table. -/
import Derived.Test.YtndijidmabfhcaaFwY
namespace Go.Proofs.Ytndijidmabfhcaa.Fw
open Go Go.RowKit

def cellD (v : Value) : Option D :=
  match dconst v with
  | .undef => none
  | d => some d
def cellsD : List Value → Option (List D)
  | [] => some []
  | v :: vs => match cellD v, cellsD vs with
    | some d, some ds => some (d :: ds)
    | _, _ => none
def zeroD (v : Value) : Option D :=
  match v with
  | .agg cs => (cellsD cs.toList).map .agg
  | v => cellD v

def kindD (P : Program) (t : Nat) : TypeDesc → Option TK
  | .int k => some (.int k)
  | .bool => some .bool
  | .string => some .str
  | .struct Fs => match Fs.toList.all (fun f => f.name != "_") && !P.stoodInHeld t && (Fs.toList.mapM fun f => (P.info? f.type).map fun i => (f.offset, i.size)).isSome with
    | true => some (.agg (Fs.toList.map fun f => (f.offset, f.type)))
    | false => none
  | .array n e => some (.arr n e)
  | .slice e => some (.sl e)
  | .map k v => some (.mp k v)
  | .pointer _ => some .ptr
  | .func _ _ _ => some .func
  | .interface _ => some .ifc
  | _ => none

def teOf (P : Program) (t : Nat) : Option TE :=
  match P.info? t, P.underlying t with
  | some i, some d => match i.zero with
    | some z => match kindD P t d, zeroD z with
      | some k, some zd => match Nat.beq z.cells.size i.size && Nat.beq zd.cells.length i.size && (TE.isAgg ⟨k, i.size, i.bytes, zd, true⟩ || Nat.beq i.size 1) with
        | true => some ⟨k, i.size, i.bytes, zd, !P.eqGuardType P.depth t⟩
        | false => none
      | _, _ => none
    | none => none
  | _, _ => none

section
variable {P : Program}

theorem cellD_rep {v : Value} {d : D} (h : cellD v = some d) (c : Ctx) (env : Env) (w : World) : RepC c env w d v := by
  have hr := rep_const (c := c) (env := env) (w := w) v
  unfold cellD at h
  have hno : ∀ {x : D}, dconst v = x → x ≠ .undef → x = d := by
    intro x hx hne
    rw [hx] at h
    cases x <;> first | exact Option.some.inj h | exact absurd rfl hne
  cases v with
  | int k n => have := hno rfl (by simp [dconst]); subst this; exact hr
  | bool b => have := hno rfl (by simp [dconst]); subst this; exact hr
  | string s => have := hno rfl (by simp [dconst]); subst this; exact hr
  | nilFunc => have := hno rfl (by simp [dconst]); subst this; exact hr
  | nilIface => have := hno rfl (by simp [dconst]); subst this; exact hr
  | pointer p =>
    cases p with
    | none => have := hno rfl (by simp [dconst]); subst this; exact hr
    | some p => simp [dconst] at h
  | map r =>
    cases r with
    | none => have := hno rfl (by simp [dconst]); subst this; exact hr
    | some p => simp [dconst] at h
  | slice p n k =>
    cases hd : dconst (.slice p n k) with
    | sl st es xs => rw [hd] at h hr; cases h; exact hr
    | undef => rw [hd] at h; cases h
    | _ =>
      exfalso
      unfold dconst at hd
      split at hd <;> simp_all
  | _ => simp [dconst] at h

theorem cellsD_rep : ∀ {vs : List Value} {ds : List D}, cellsD vs = some ds → ∀ (c : Ctx) (env : Env) (w : World), All2 (RepC c env w) ds vs
  | [], ds, h, c, env, w => by simp only [cellsD, Option.some.injEq] at h; subst h; trivial
  | v :: vs, ds, h, c, env, w => by
    simp only [cellsD] at h
    cases h1 : cellD v with
    | none => rw [h1] at h; cases h
    | some d =>
      cases h2 : cellsD vs with
      | none => rw [h1, h2] at h; cases h
      | some es =>
        rw [h1, h2] at h
        simp only [Option.some.injEq] at h; subst h
        exact ⟨cellD_rep h1 c env w, cellsD_rep h2 c env w⟩

theorem repC_repV {c : Ctx} {env : Env} {w : World} {d : D} {v : Value} (h : RepC c env w d v) : RepV c env w d v := by
  cases d <;> first | exact h | exact h.elim

theorem zeroD_rep {v : Value} {d : D} (h : zeroD v = some d) (c : Ctx) (env : Env) (w : World) : RepV c env w d v := by
  unfold zeroD at h
  split at h
  · rename_i cs
    cases h1 : cellsD cs.toList with
    | none => rw [h1] at h; cases h
    | some ds =>
      rw [h1] at h
      simp only [Option.map_some, Option.some.injEq] at h; subst h
      exact ⟨cs.toList, rfl, cellsD_rep h1 c env w⟩
  · exact repC_repV (cellD_rep h c env w)

theorem kindD_ok {t : Nat} {d : TypeDesc} {k : TK} (hd : P.underlying t = some d) (h : kindD P t d = some k) : KindOK P t k := by
  cases d <;> simp only [kindD] at h <;> first | (cases h; done) | skip
  case struct Fs =>
    split at h
    · rename_i hc
      simp only [Option.some.injEq] at h; subst h
      simp only [Bool.and_eq_true, Bool.not_eq_true'] at hc
      exact ⟨Fs, hd, rfl, hc.1.1, hc.1.2, hc.2⟩
    · cases h
  all_goals (simp only [Option.some.injEq] at h; subst h; first | exact hd | exact ⟨_, hd⟩ | exact ⟨_, _, _, hd⟩)

theorem teOf_ok {t : Nat} {e : TE} (h : teOf P t = some e) : TEok P t e := by
  unfold teOf at h
  cases hi : P.info? t with
  | none => rw [hi] at h; cases h
  | some i =>
  cases hd : P.underlying t with
  | none => rw [hi, hd] at h; cases h
  | some d =>
  rw [hi, hd] at h
  simp only at h
  cases hz : i.zero with
  | none => rw [hz] at h; cases h
  | some z =>
  rw [hz] at h
  simp only at h
  cases hk : kindD P t d with
  | none => rw [hk] at h; cases h
  | some k =>
  cases hzd : zeroD z with
  | none => rw [hk, hzd] at h; cases h
  | some zd =>
  rw [hk, hzd] at h
  simp only at h
  split at h
  · rename_i hc
    simp only [Option.some.injEq] at h; subst h
    simp only [Bool.and_eq_true, Bool.or_eq_true, nbeq] at hc
    refine ⟨⟨i, z, hi, rfl, rfl, hz, hc.1.1, hc.1.2, zeroD_rep hzd⟩, kindD_ok hd hk, fun hag => ?_, fun hq => by simpa using hq⟩
    rcases hc.2 with h2 | h2
    · exact absurd h2 (by
        intro h3
        have : TE.isAgg ⟨k, i.size, i.bytes, zd, !P.eqGuardType P.depth t⟩ = TE.isAgg ⟨k, i.size, i.bytes, zd, true⟩ := rfl
        rw [this, h3] at hag; cases hag)
    · exact h2
  · cases h

/-- A table whose rows are the program's. -/
theorem tyOK_of {tab : List (Nat × TE)} (h : tab.map (fun p => teOf P p.1) = tab.map (fun p => some p.2)) : TyOK P (fun t => look t tab) := by
  intro t e ht0
  have ht : look t tab = some e := ht0
  clear ht0
  induction tab with
  | nil => simp [look] at ht
  | cons p tab ih =>
    simp only [List.map_cons, List.cons.injEq] at h
    obtain ⟨s, e'⟩ := p
    rw [look_cons] at ht
    split at ht
    · rename_i es; subst es
      cases ht; exact teOf_ok h.1
    · exact ih h.2 ht
end

end Go.Proofs.Ytndijidmabfhcaa.Fw
