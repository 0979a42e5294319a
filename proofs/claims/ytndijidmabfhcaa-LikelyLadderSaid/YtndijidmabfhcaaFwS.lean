/- What code does, over plain data: regions, branches, loops, calls. Definitions. -/
import Derived.Test.YtndijidmabfhcaaFwR
import Derived.RangeFuncNested
import Derived.RangeFuncLeaves
namespace Go.Proofs.Ytndijidmabfhcaa.Fw
open Go Go.RowKit

/-- A function that can be entered. -/
def FnOK (P : Program) (f : Nat) : Prop := ∃ fn, P.funcs[f]? = some fn ∧ fn.name ≠ "runtime.NumGoroutine" ∧ fn.body.isNone = false

/-- A call of f with this data returns that data, and changes nothing. -/
def CallsTo (P : Program) (f : Nat) (ds : List D) (d : D) : Prop :=
  FnOK P f ∧ ∀ (I : Im) (w : World) (vs : List Value), (∀ b o, I b o → b < w.heap.size) → RepL I w ds vs →
    Calls P f ⟨vs⟩ w fun e w' => ∃ v I', e = .returned v ∧ (∀ b o, I b o → I' b o) ∧ (∀ b o, I' b o → I b o ∨ w.heap.size ≤ b) ∧ (∀ b o, I' b o → b < w'.heap.size) ∧ Rep I' w' d v ∧ Below w.heap.size w w'

/-- Under which slot's value an operation is done. -/
def gslot (ops : Array Oper) (o : Oper) : Option (Option (Nat × Bool)) :=
  match o.guard with
  | none => some none
  | some (j, b) => match ops[j]? with
    | some p => match p.dst with
      | some s => some (some (s, b))
      | none => none
    | none => none

/-- What is known where a guard holds, of the slots that may be asked. -/
def gcond (ok : Nat → Bool) : Nat → List (Nat × D) → List (Nat × D) → Option (Nat × Bool) → Prop
  | 0, _, _, _ => True
  | _ + 1, _, _, none => True
  | n + 1, wt, tm, some (s, b) => match ok s with
    | false => True
    | true => match look s wt with
      | some (.wh s' b' d) => (match d with | .bool x => x = b | _ => True) ∧ gcond ok n wt tm (some (s', b'))
      | some _ => True
      | none => match look s tm with
        | some (.bool x) => x = b
        | _ => True

def Res.plain (r : Res) : Bool := r.bx.isNone && r.mp.isNone && r.own.isNone && r.fz.isEmpty && r.fm.isEmpty

/-- The state after an operation. -/
def memG (env : Env) (dst : Nat) (g : Option (Nat × Bool)) (r : Res) : Option Env :=
  match g with
  | none => match memR env dst r with
    | some (env1, d) => env1.set dst none d
    | none => none
  | some _ => bif r.plain then env.set dst g r.d else none

def callD (v : Operand → D) (mp : List (Nat × MapC)) (c : Call) : Option (Nat × List D × List Nat) :=
  match c.callee with
  | .value f => match v f with
    | .fn fid caps => match cloL mp (c.args.toList.map v) with
      | some ds => some (fid, ds ++ caps, (c.args.toList.map v).flatMap cloM)
      | none => none
    | _ => none
  | _ => none

/-! ### What is known is written out before one goes on -/
def fNat (n : Nat) (K : Nat → Prop) : Prop := match n with | 0 => K 0 | m + 1 => K (m + 1)
theorem fNat_iff (n : Nat) (K : Nat → Prop) : fNat n K ↔ K n := by cases n <;> exact Iff.rfl
mutual
def fD : D → (D → Prop) → Prop
  | .int k n, K => K (.int k n)
  | .bool b, K => K (.bool b)
  | .str l, K => K (.str l)
  | .agg cs, K => fL cs fun cs => K (.agg cs)
  | .tup cs, K => fL cs fun cs => K (.tup cs)
  | .sl st es xs, K => fNat st fun st => fNat es fun es => K (.sl st es xs)
  | .eptr d o, K => fNat o fun o => K (.eptr d o)
  | .nilp, K => K .nilp
  | .fn f cs, K => K (.fn f cs)
  | .nilf, K => K .nilf
  | .ifc t d, K => K (.ifc t d)
  | .nili, K => K .nili
  | .mapv ks vs, K => K (.mapv ks vs)
  | .nilm, K => K .nilm
  | .yld l, K => K (.yld l)
  | .loc s o, K => fNat s fun s => fNat o fun o => K (.loc s o)
  | .lsl s o n, K => fNat s fun s => fNat o fun o => fNat n fun n => K (.lsl s o n)
  | .mapr s, K => fNat s fun s => K (.mapr s)
  | .wh s w d, K => fD d fun d => K (.wh s w d)
  | .undef, K => K .undef
def fL : List D → (List D → Prop) → Prop
  | [], K => K []
  | d :: ds, K => fD d fun d => fL ds fun ds => K (d :: ds)
end
mutual
theorem fD_iff : ∀ (d : D) (K : D → Prop), fD d K ↔ K d
  | .agg cs, K | .tup cs, K => by simp only [fD]; exact fL_iff cs _
  | .wh s w d, K => by simp only [fD]; exact fD_iff d _
  | .int _ _, _ | .bool _, _ | .str _, _ | .nilp, _ | .fn _ _, _ | .nilf, _ | .ifc _ _, _ | .nili, _ | .mapv _ _, _ | .nilm, _ | .yld _, _ | .undef, _ => by simp only [fD]
  | .sl _ _ _, _ | .eptr _ _, _ | .loc _ _, _ | .lsl _ _ _, _ | .mapr _, _ => by simp only [fD, fNat_iff]
theorem fL_iff : ∀ (ds : List D) (K : List D → Prop), fL ds K ↔ K ds
  | [], K => by simp only [fL]
  | d :: ds, K => by
    simp only [fL]
    exact (fD_iff d _).trans (fL_iff ds _)
end
def fT : List (Nat × D) → (List (Nat × D) → Prop) → Prop
  | [], K => K []
  | (t, d) :: l, K => fNat t fun t => fD d fun d => fT l fun l => K ((t, d) :: l)
theorem fT_iff : ∀ (l : List (Nat × D)) (K : List (Nat × D) → Prop), fT l K ↔ K l
  | [], _ => Iff.rfl
  | (t, d) :: l, _ => (fNat_iff t _).trans ((fD_iff d _).trans (fT_iff l _))
def fBool (b : Bool) (K : Bool → Prop) : Prop := match b with | true => K true | false => K false
theorem fBool_iff (b : Bool) (K : Bool → Prop) : fBool b K ↔ K b := by cases b <;> exact Iff.rfl
def fB : List (Nat × BoxC) → (List (Nat × BoxC) → Prop) → Prop
  | [], K => K []
  | (t, ⟨cs, ag, fz⟩) :: l, K => fNat t fun t => fL cs fun cs => fBool ag fun ag => fBool fz fun fz => fB l fun l => K ((t, ⟨cs, ag, fz⟩) :: l)
theorem fB_iff : ∀ (l : List (Nat × BoxC)) (K : List (Nat × BoxC) → Prop), fB l K ↔ K l
  | [], _ => Iff.rfl
  | (t, ⟨cs, ag, fz⟩) :: l, _ => (fNat_iff t _).trans ((fL_iff cs _).trans ((fBool_iff ag _).trans ((fBool_iff fz _).trans (fB_iff l _))))
def fM : List (Nat × MapC) → (List (Nat × MapC) → Prop) → Prop
  | [], K => K []
  | (t, ⟨ks, vs, fz⟩) :: l, K => fNat t fun t => fBool fz fun fz => fM l fun l => K ((t, ⟨ks, vs, fz⟩) :: l)
theorem fM_iff : ∀ (l : List (Nat × MapC)) (K : List (Nat × MapC) → Prop), fM l K ↔ K l
  | [], _ => Iff.rfl
  | (t, ⟨_, _, fz⟩) :: l, _ => (fNat_iff t _).trans ((fBool_iff fz _).trans (fM_iff l _))
def fU : List (Nat × Nat) → (List (Nat × Nat) → Prop) → Prop
  | [], K => K []
  | (t, u) :: l, K => fNat t fun t => fNat u fun u => fU l fun l => K ((t, u) :: l)
theorem fU_iff : ∀ (l : List (Nat × Nat)) (K : List (Nat × Nat) → Prop), fU l K ↔ K l
  | [], _ => Iff.rfl
  | (t, u) :: l, _ => (fNat_iff t _).trans ((fNat_iff u _).trans (fU_iff l _))
def fN : List Nat → (List Nat → Prop) → Prop
  | [], K => K []
  | t :: l, K => fNat t fun t => fN l fun l => K (t :: l)
theorem fN_iff : ∀ (l : List Nat) (K : List Nat → Prop), fN l K ↔ K l
  | [], _ => Iff.rfl
  | t :: l, _ => (fNat_iff t _).trans (fN_iff l _)
def fY (y : Option (Nat × List (List D))) (K : Option (Nat × List (List D)) → Prop) : Prop :=
  match y with
  | none => K none
  | some (l, xs) => K (some (l, xs))
theorem fY_iff (y : Option (Nat × List (List D))) (K : Option (Nat × List (List D)) → Prop) : fY y K ↔ K y := by
  match y with
  | none => exact Iff.rfl
  | some (l, xs) => exact Iff.rfl
def fE (env : Env) (K : Env → Prop) : Prop :=
  match env with
  | ⟨nt, tm, wt, bx, mp, us, dd, ys⟩ => fNat nt fun nt => fT tm fun tm => fT wt fun wt => fB bx fun bx => fM mp fun mp => fU us fun us => fN dd fun dd => fY ys fun ys => K ⟨nt, tm, wt, bx, mp, us, dd, ys⟩
theorem fE_iff (env : Env) (K : Env → Prop) : fE env K ↔ K env := by
  obtain ⟨nt, tm, wt, bx, mp, us, dd, ys⟩ := env
  simp only [fE, fNat_iff, fT_iff, fB_iff, fM_iff, fU_iff, fN_iff, fY_iff]

/-- Likewise of what has come last: the rest is written out already. -/
def fC {α : Type} (l : List α) (K : List α → Prop) : Prop := match l with
  | [] => K []
  | p :: l => K (p :: l)
theorem fC_iff {α : Type} (l : List α) (K : List α → Prop) : fC l K ↔ K l := by cases l <;> exact Iff.rfl
def f1T : List (Nat × D) → (List (Nat × D) → Prop) → Prop
  | [], K => K []
  | (t, d) :: l, K => fNat t fun t => fD d fun d => fC l fun l => K ((t, d) :: l)
theorem f1T_iff : ∀ (l : List (Nat × D)) (K : List (Nat × D) → Prop), f1T l K ↔ K l
  | [], _ => Iff.rfl
  | (t, d) :: _, _ => by simp only [f1T, fNat_iff, fD_iff, fC_iff]
def f1B : List (Nat × BoxC) → (List (Nat × BoxC) → Prop) → Prop
  | [], K => K []
  | (t, ⟨cs, ag, fz⟩) :: l, K => fNat t fun t => fL cs fun cs => fBool ag fun ag => fBool fz fun fz => fC l fun l => K ((t, ⟨cs, ag, fz⟩) :: l)
theorem f1B_iff : ∀ (l : List (Nat × BoxC)) (K : List (Nat × BoxC) → Prop), f1B l K ↔ K l
  | [], _ => Iff.rfl
  | (t, ⟨cs, ag, fz⟩) :: _, _ => by simp only [f1B, fNat_iff, fL_iff, fBool_iff, fC_iff]
def fE1 (env : Env) (K : Env → Prop) : Prop :=
  match env with
  | ⟨nt, tm, wt, bx, mp, us, dd, ys⟩ => fNat nt fun nt => f1T tm fun tm => f1T wt fun wt => f1B bx fun bx => fM mp fun mp => fU us fun us => fN dd fun dd => fY ys fun ys => K ⟨nt, tm, wt, bx, mp, us, dd, ys⟩
theorem fE1_iff (env : Env) (K : Env → Prop) : fE1 env K ↔ K env := by
  obtain ⟨nt, tm, wt, bx, mp, us, dd, ys⟩ := env
  simp only [fE1, fNat_iff, f1T_iff, f1B_iff, fM_iff, fU_iff, fN_iff, fY_iff]

/-- What is asked of an operation ahead of what comes behind it. -/
def sideB (s : Bool) (gc K : Prop) : Prop :=
  match s with
  | true => K
  | false => (gc → False) ∧ K
theorem sideB_iff {s : Bool} {gc K : Prop} : sideB s gc K ↔ (gc → s = true) ∧ K := by
  cases s <;> simp [sideB]
theorem sideB_intro {s : Bool} {gc K : Prop} (h : gc → s = true) (k : K) : sideB s gc K := sideB_iff.2 ⟨h, k⟩

def callOf : Op → Option Call
  | .call c => match c.callee with
    | .value _ => some c
    | _ => none
  | _ => none

/-- What a value operation, or a call, gives. -/
def doesP (P : Program) (T : Ty) (g : Option (Nat × Bool)) (ρ : Operand → D) (bx : List (Nat × BoxC)) (mp : List (Nat × MapC)) (dst : Nat) (op : Op) (gc : Prop) (K : Res → Prop) : Prop :=
  match callOf op with
  | some c => match callD (fun x => unw g (ρ x)) mp c with
    | some (f, ds, fm) => ∃ d, (gc → CallsTo P f ds d) ∧ K { d := d, fm := fm }
    | none => False
  | none => match opR T g ρ bx mp dst op with
    | some r => sideB r.side gc (K r)
    | none => False

/-- A yield: of whom, and with what. -/
def yldOf (env : Env) (op : Op) : Option (Nat × List D) :=
  match callOf op with
  | some c => match c.callee with
    | .value f => match unw none (tv env.wt env.tm f) with
      | .yld l => match cloL env.mp (c.args.toList.map fun x => unw none (tv env.wt env.tm x)), (c.args.toList.map fun x => unw none (tv env.wt env.tm x)).flatMap cloM with
        | some ds, [] => some (l, ds)
        | _, _ => none
      | _ => none
    | _ => none
  | none => none

/-- The slots that an operation asks for (but for what is asked for once alone). -/
def tmpOf : Operand → List Nat
  | .tmp t => [t]
  | _ => []
def opTmps : Op → List Nat
  | .build _ ps => ps.toList.flatMap fun p => tmpOf p.2
  | .buildSlice _ _ ps => ps.toList.flatMap fun p => tmpOf p.2
  | .binOp _ _ x y _ => tmpOf x ++ tmpOf y
  | .load _ x => tmpOf x
  | .box _ x => tmpOf x
  | .lookup _ x y _ => tmpOf x ++ tmpOf y
  | .indexAddr _ x y => tmpOf x ++ tmpOf y
  | .index _ x y => tmpOf x ++ tmpOf y
  | .slice _ x a b c => tmpOf x ++ (match a with | some a => tmpOf a | none => []) ++ (match b with | some b => tmpOf b | none => []) ++ (match c with | some c => tmpOf c | none => [])
  | .call c => c.args.toList.flatMap tmpOf
  | .pick a b c => tmpOf a ++ tmpOf b ++ tmpOf c
  | .field _ x _ => tmpOf x
  | .extract x _ => tmpOf x
  | _ => []
def vOf (l : List (Nat × D)) (ρ : Operand → D) : Operand → D
  | .tmp t => match look t l with
    | some d => d
    | none => ρ (.tmp t)
  | x => ρ x
theorem vOf_eq (ts : List Nat) (ρ : Operand → D) : vOf (ts.map fun t => (t, ρ (.tmp t))) ρ = ρ := by
  funext x
  cases x with
  | tmp t =>
    simp only [vOf]
    induction ts with
    | nil => rfl
    | cons s ts ih =>
      simp only [List.map_cons, look]
      cases h : Nat.beq s t with
      | true => have := Nat.eq_of_beq_eq_true h; subst this; rfl
      | false => exact ih
  | _ => rfl
/-- What a map has is asked once. -/
def fO (o : Option D) (A : Prop) (B : D → Prop) : Prop := match o with
  | none => A
  | some d => B d
theorem fO_iff (o : Option D) (K : Option D → Prop) : fO o (K none) (fun d => K (some d)) ↔ K o := by cases o <;> exact Iff.rfl
theorem fO_of {x y : Option D} {A : Prop} {B : D → Prop} (h : x = y) (k : fO y A B) : fO x A B := h ▸ k
theorem fD_of {x y : D} {K : D → Prop} (h : x = y) (k : fD y K) : fD x K := h ▸ k
/-- Cells, written out one by one. -/
def bK (off : Nat → Option (Nat × Nat)) : List D → List (Nat × D) → (List D → Prop) → Prop
  | cs, [], K => K cs
  | cs, (i, d) :: ps, K => match off i with
    | some (o, n) => match Nat.beq d.cells.length n && Nat.ble (o + n) cs.length with
      | true => fL (splice cs o d.cells) fun cs => bK off cs ps K
      | false => False
    | none => False
theorem bK_iff {off : Nat → Option (Nat × Nat)} : ∀ {ps : List (Nat × D)} {cs : List D} {K : List D → Prop}, bK off cs ps K ↔ match buildCells off cs ps with
    | some cs' => K cs'
    | none => False
  | [], cs, K => Iff.rfl
  | (i, d) :: ps, cs, K => by
    simp only [bK, buildCells]
    cases off i with
    | none => exact Iff.rfl
    | some on =>
      obtain ⟨o, n⟩ := on
      simp only
      cases (Nat.beq d.cells.length n && Nat.ble (o + n) cs.length) with
      | true => simp only [fL_iff, cond_true]; exact bK_iff
      | false => exact Iff.rfl
/-- Likewise, with what is asked for written out. -/
def doesF (P : Program) (T : Ty) (g : Option (Nat × Bool)) (ρ : Operand → D) (bx : List (Nat × BoxC)) (mp : List (Nat × MapC)) (dst : Nat) (op : Op) (gc : Prop) (K : Res → Prop) : Prop :=
  fT ((opTmps op).map fun t => (t, ρ (.tmp t))) fun l => match op with
    | .lookup t m k comma => match T t with
      | some e => match e.kind with
        | .mp q u => match T u with
          | some eu => match entsD mp (unw g (vOf l ρ m)) with
            | some (ks, vs) => fD (unw g (vOf l ρ k)) fun kd => sideB (keysFit T q kd ks) gc (fO (findD kd ks vs) (K { side := keysFit T q kd ks, d := match comma with
              | true => .tup [eu.zero, .bool false]
              | false => eu.zero }) fun d => K { side := keysFit T q kd ks, d := match comma with
              | true => .tup [d, .bool true]
              | false => d })
            | none => False
          | none => False
        | _ => False
      | none => False
    | .build t ps => fT (ps.toList.map fun p => (p.1, unw g (vOf l ρ p.2))) fun qs => match T t with
      | some e => match goods qs with
        | some _ => match e.kind with
          | .agg fs => bK (fun i => match fs[i]? with | some (o, u) => (T u).map fun eu => (o, eu.size) | none => none) e.zero.cells qs fun cs => K { d := .agg cs }
          | .arr _ u => match T u with
            | some eu => bK (fun i => some (i * eu.size, eu.size)) e.zero.cells qs fun cs => K { d := .agg cs }
            | none => False
          | _ => False
        | none => False
      | none => False
    | .buildSlice t n ps => fT (ps.toList.map fun p => (p.1, unw g (vOf l ρ p.2))) fun qs => match goods qs with
      | some _ => match elemTy T t with
        | some (_, eu) => match !Nat.ble (n * eu.size) 16777216 || Nat.beq eu.size 0 with
          | true => False
          | false => bK (fun i => some (i * eu.size, eu.size)) ((List.replicate n eu.zero.cells).flatten) qs fun cs => match cloL mp cs with
            | some cs' => K { d := .sl 0 eu.size (chunk eu n cs'), fm := cloM (.agg cs) }
            | none => K { d := .lsl dst 0 n, bx := some ⟨cs, true, false⟩ }
        | none => False
      | none => False
    | op => doesP P T g (vOf l ρ) bx mp dst op gc K
theorem doesF_iff {P : Program} {T : Ty} {g : Option (Nat × Bool)} {ρ : Operand → D} {bx : List (Nat × BoxC)} {mp : List (Nat × MapC)} {dst : Nat} {op : Op} {gc : Prop} {K : Res → Prop} : doesF P T g ρ bx mp dst op gc K ↔ doesP P T g ρ bx mp dst op gc K := by
  unfold doesF
  rw [fT_iff, vOf_eq]
  cases op <;> first | exact Iff.rfl | skip
  case build t ps =>
    simp only [doesP, callOf, opR, opV, fT_iff, buildD]
    cases T t with
    | none => exact Iff.rfl
    | some e =>
      simp only
      cases hg : goods (ps.toList.map fun p => (p.1, unw g (ρ p.2))) with
      | none => exact Iff.rfl
      | some qs =>
        have : qs = ps.toList.map fun p => (p.1, unw g (ρ p.2)) := by
          unfold goods at hg
          cases hb : ((ps.toList.map fun p => (p.1, unw g (ρ p.2))).all fun p => p.2.good) with
          | true => rw [hb] at hg; exact (Option.some.inj hg).symm
          | false => rw [hb] at hg; cases hg
        subst this
        simp only
        cases e.kind <;> first | exact Iff.rfl | skip
        · simp only [bK_iff]
          cases buildCells _ e.zero.cells _ <;> exact Iff.rfl
        · rename_i n u
          simp only [bK_iff]
          cases hu : T u with
          | none => simp
          | some eu =>
            simp only
            cases buildCells (fun i => some (i * eu.size, eu.size)) e.zero.cells (ps.toList.map fun p => (p.1, unw g (ρ p.2))) <;> exact Iff.rfl
  case buildSlice t n ps =>
    simp only [doesP, callOf, opR, opV, fT_iff, buildSliceD]
    cases hg : goods (ps.toList.map fun p => (p.1, unw g (ρ p.2))) with
    | none => exact Iff.rfl
    | some qs =>
      have : qs = ps.toList.map fun p => (p.1, unw g (ρ p.2)) := by
        unfold goods at hg
        cases hb : ((ps.toList.map fun p => (p.1, unw g (ρ p.2))).all fun p => p.2.good) with
        | true => rw [hb] at hg; exact (Option.some.inj hg).symm
        | false => rw [hb] at hg; cases hg
      subst this
      simp only
      cases elemTy T t with
      | none => exact Iff.rfl
      | some ue =>
        obtain ⟨u, eu⟩ := ue
        simp only
        cases (!Nat.ble (n * eu.size) 16777216 || Nat.beq eu.size 0) with
        | true => exact Iff.rfl
        | false =>
          simp only [bK_iff, cond_false]
          cases buildCells _ _ _ with
          | none => exact Iff.rfl
          | some cs =>
            simp only
            cases cloL mp cs <;> exact Iff.rfl
  rename_i t m k comma
  simp only [doesP, callOf, opR, opV, lookupD, fD_iff]
  cases T t with
  | none => exact Iff.rfl
  | some e =>
    simp only
    cases e.kind <;> first | exact Iff.rfl | skip
    rename_i q u
    simp only
    cases T u with
    | none => exact Iff.rfl
    | some eu =>
      simp only
      cases entsD mp (unw g (ρ m)) with
      | none => exact Iff.rfl
      | some kv =>
        obtain ⟨ks, vs⟩ := kv
        simp only
        cases hf : findD (unw g (ρ k)) ks vs <;> cases comma <;> simp only [fO, resB, Option.map_some, Option.getD_none, Option.getD_some, Option.isSome_none, Option.isSome_some]

/-- One operation, in order. -/
def evOp (P : Program) (T : Ty) (ops : Array Oper) (o : Oper) (env : Env) (K : Env → Prop) : Prop :=
  match gslot ops o with
  | none => False
  | some g => match o.op with
    | .store t a x => match g, o.dst with
      | none, none => match storeR T env t (unw none (tv env.wt env.tm a)) (unw none (tv env.wt env.tm x)) with
        | some env' => K env'
        | none => False
      | _, _ => False
    | .mapUpdate t m k x => match g, o.dst with
      | none, none => fD (unw none (tv env.wt env.tm k)) fun kd => fD (unw none (tv env.wt env.tm x)) fun xd => match mapUpR T env t (unw none (tv env.wt env.tm m)) kd xd with
        | some (s, env') => s = true ∧ K env'
        | none => False
      | _, _ => False
    | _ => match o.dst with
      | some dst => match yldOf env o.op with
        | some (l, ds) => match g, env.ys with
          | none, some (l', x :: rest) => (l = l' ∧ ds = x) ∧ (match memG { env with ys := some (l', rest) } dst none { d := .bool true } with
            | some env' => K env'
            | none => False) ∧ (match memG { env with ys := none } dst none { d := .bool false } with
            | some env' => K env'
            | none => False)
          | _, _ => False
        | none => doesF P T g (tv env.wt env.tm) env.bx env.mp dst o.op (gcond (fun _ => true) 8 env.wt env.tm g) fun r => match memG env dst g r with
        | some env' => K env'
        | none => False
      | none => False

def Env.end (env : Env) : Env := { env with wt := [] }

def evOps (P : Program) (T : Ty) (ops : Array Oper) : List Oper → Env → (Env → Prop) → Prop
  | [], env, K => fE env.end K
  | o :: os, env, K => evOp P T ops o env fun env' => fE1 env' fun env' => evOps P T ops os env' K

/-- May operation i, that comes behind those of m in every order, ask for slot t? -/
def okT (m i t : Nat) : List Oper → Nat → Bool
  | [], _ => true
  | o :: os, j => (match o.dst with
    | some d => !Nat.beq d t || (Nat.testBit m j && Nat.blt j i)
    | none => true) && okT m i t os (j + 1)
def tvR (ok : Nat → Bool) (wt tm : List (Nat × D)) : Operand → D
  | .tmp t => match ok t with
    | true => tv wt tm (.tmp t)
    | false => .undef
  | x => tv wt tm x

/-- Operations that may come in any order: each looks at variables as they were ahead of all. -/
def evPh (P : Program) (T : Ty) (ops : Array Oper) (ph : List Oper) (bx : List (Nat × BoxC)) (mp : List (Nat × MapC)) : List Nat → Nat → Bool → List Oper → Env → (Env → Prop) → Prop
  | _, _, _, [], env, K => K env
  | [], _, _, _ :: _, _, _ => False
  | m :: ms, i, used, o :: os, env, K => match gslot ops o, o.dst with
    | some g, some dst => doesF P T g (tvR (fun t => okT m i t ph 0) env.wt env.tm) bx mp dst o.op (gcond (fun t => okT m i t ph 0) 8 env.wt env.tm g) fun r =>
        match r.fz.isEmpty && r.fm.isEmpty && r.mp.isNone && !(used && r.own.isSome) with
        | true => (match memG env dst g r with
          | some env' => fE1 env' fun env' => evPh P T ops ph bx mp ms (i + 1) (used || r.own.isSome) os env' K
          | none => False)
        | false => False
    | _, _ => False

/-- Is it an operation that changes a variable? -/
def isEff : Op → Bool
  | .store .. | .mapUpdate .. | .insert .. | .assign _ => true
  | _ => false
/-- How many operations are ahead of those. -/
def ahead : List Oper → Nat
  | [] => 0
  | o :: os => bif isEff o.op then 0 else ahead os + 1

def bindsB (e : Edge) : Bool := Region.binds .any e

/-- Of each operation, which others are ahead of it in every order, as bits. -/
def maskOf (acc : List Nat) (o : Oper) : Nat := o.after.toList.foldl (fun m e => match bindsB e with | true => m ||| (1 <<< e.on ||| acc.getD e.on 0) | false => m) 0
def ancs : List Oper → List Nat → List Nat
  | [], acc => acc
  | o :: os, acc => ancs os (acc ++ [maskOf acc o])

def distinct : List Nat → Bool
  | [] => true
  | x :: xs => !xs.contains x && distinct xs

/-- May a region's operations come in any order, but the last ones? -/
def drawOK (l : List Oper) (an : List Nat) (p : Nat) : Bool :=
  Nat.ble p l.length && distinct ((l.take p).filterMap (·.dst)) &&
  (List.range l.length).all (fun i => match l[i]? with
    | some o => o.after.toList.all (fun e => !bindsB e || Nat.blt e.on i) &&
      (match Nat.blt i p with
      | true => o.dst.isSome && (match o.guard with | some (j, _) => Nat.blt j i && Nat.testBit (an.getD i 0) j | none => true)
      | false => (List.range i).all fun j => Nat.testBit (an.getD i 0) j)
    | none => false)

def evRegion (P : Program) (T : Ty) (ops : Array Oper) (draw : Bool) (env : Env) (K : Env → Prop) : Prop :=
  match draw with
  | false => fE env.end fun env => evOps P T ops ops.toList env K
  | true => fN (ancs ops.toList []) fun an => fNat (ahead ops.toList) fun p => drawOK ops.toList an p = true ∧ fE env.end fun env => evPh P T ops (ops.toList.take p) env.bx env.mp an 0 false (ops.toList.take p) env fun env' => evOps P T ops (ops.toList.drop p) env' K

/-! ### At the head of a loop: what was not there ahead of it is forgotten -/
mutual
def trim (f : Nat → Nat) (bs ms : List Nat) : D → Option D
  | .sl st es xs => some (.sl (f st) es xs)
  | .agg cs => (trimL f bs ms cs).map .agg
  | .loc s off => bif bs.contains s then some (.loc s off) else none
  | .lsl s off n => bif bs.contains s then some (.lsl s off n) else none
  | .mapr s => bif ms.contains s then some (.mapr s) else none
  | .tup _ => none
  | .wh _ _ _ => none
  | d => some d
def trimL (f : Nat → Nat) (bs ms : List Nat) : List D → Option (List D)
  | [] => some []
  | d :: ds => match trim f bs ms d, trimL f bs ms ds with
    | some a, some b => some (a :: b)
    | _, _ => none
end

mutual
def stampsOf : D → List Nat
  | .sl st _ _ => [st]
  | .agg cs => stampsOfL cs
  | _ => []
def stampsOfL : List D → List Nat
  | [] => []
  | d :: ds => stampsOf d ++ stampsOfL ds
end

def dedup : List Nat → List Nat → List Nat
  | [], acc => acc
  | x :: xs, acc => match acc.contains x with
    | true => dedup xs acc
    | false => dedup xs (x :: acc)

def idxOf (x : Nat) : List Nat → Nat → Option Nat
  | [], _ => none
  | y :: ys, i => bif Nat.beq x y then some i else idxOf x ys (i + 1)

def restamp (dd l : List Nat) (st : Nat) : Nat :=
  bif Nat.ble st 1 then st else bif dd.contains st then 0 else match idxOf st l 0 with
    | some i => 2 * i + 2
    | none => 0

def keysOf {α : Type} (l : List (Nat × α)) : List Nat := dedup (l.map (·.1)) []

def usOf (us : List (Nat × Nat)) : List Nat → Nat → Option (List (Nat × Nat))
  | [], _ => some []
  | st :: l, i => match look st us, usOf us l (i + 1) with
    | some u, some r => some ((2 * i + 2, u) :: r)
    | _, _ => none

/-- The stamps that go on, of these slots and variables. -/
def stampsIn (ts bs : List Nat) (env : Env) : List Nat :=
  (dedup (ts.flatMap (fun t => stampsOf ((look t env.tm).getD .undef)) ++ bs.flatMap (fun s => match look s env.bx with | some b => stampsOfL b.cells | none => [])) []).filter fun st => Nat.ble 2 st && !env.dd.contains st

def canonBx (f : Nat → Nat) (bs ms : List Nat) (bx : List (Nat × BoxC)) (s : Nat) : Option BoxC :=
  match look s bx with
  | some b => match trimL f bs ms b.cells with
    | some cs => some { b with cells := cs }
    | none => none
  | none => none

/-- The state with only these slots, variables and maps. -/
def canonW (ts bs ms l : List Nat) (env : Env) : Option Env :=
  match allSome (bs.map fun s => (canonBx (restamp env.dd l) bs ms env.bx s).map fun b => (s, b)), allSome (ms.map fun s => (look s env.mp).map fun m => (s, m)), usOf env.us l 0 with
  | some bx', some mp', some us' => bif distinct l && l.all (fun st => Nat.ble 2 st && !env.dd.contains st) then some { nt := env.nt, tm := ts.map fun t => (t, (trim (restamp env.dd l) bs ms ((look t env.tm).getD .undef)).getD .undef), wt := [], bx := bx', mp := mp', us := us', dd := [], ys := env.ys } else none
  | _, _, _ => none
def Env.canon (ts bs ms : List Nat) (env : Env) : Option Env := canonW ts bs ms (stampsIn ts bs env) env

def loopEv (body : Env → (Exit → Env → Prop) → Prop) (ts bs ms : List Nat) : Nat → Env → (Exit → Env → Prop) → Prop
  | 0, _, _ => False
  | n + 1, env, Q => body env fun e env' => match e with
    | .normal => fN (stampsIn ts bs env') fun l => match canonW ts bs ms l env' with
      | some env2 => fE env2 fun env2 => loopEv body ts bs ms n env2 Q
      | none => False
    | e => Q e env'

/-! ### Ranges over functions -/
/-- What an iterator does between two yields: O are its own blocks. -/
structure ItStep (O : Nat → Prop) (I : Im) (W : World) (O' : Nat → Prop) (I' : Im) (W' : World) : Prop where
  os : W'.os = W.os
  tape : W'.tape = W.tape
  output : W'.output = W.output
  size : W.heap.size ≤ W'.heap.size
  same : ∀ k, k < W.heap.size → ¬ O k → W'.heap[k]? = W.heap[k]?
  keeps : Keeps I I' W W'
  own : ∀ k, O' k → O k ∨ W.heap.size ≤ k
  im : ∀ b o, I' b o → I b o ∨ O b ∨ W.heap.size ≤ b
  lt : ∀ b o, I' b o → b < W'.heap.size
  olt : ∀ k, O' k → k < W'.heap.size
/-- What a round leaves of it. -/
structure ItBack (O : Nat → Prop) (I : Im) (W W' : World) : Prop where
  os : W'.os = W.os
  tape : W'.tape = W.tape
  output : W'.output = W.output
  size : W.heap.size ≤ W'.heap.size
  same : ∀ k, O k → W'.heap[k]? = W.heap[k]?
  keeps : Keeps I I W W'

/-- A range over f, with these captured, has these values, one after the other. -/
def IterTo (P : Program) (f : Nat) (caps : List D) (xs : List (List D)) : Prop :=
  FnOK P f ∧ ∀ (l : Nat) (J : List (List D) → (Nat → Prop) → Im → World → Prop) (Jx : (Nat → Prop) → Im → World → Prop) (I : Im) (W : World) (cvs : List Value),
    (∀ b o, I b o → b < W.heap.size) → RepL I W caps cvs →
    (∀ ys O I W O' I' W', J ys O I W → ItStep O I W O' I' W' → J ys O' I' W') → (∀ O I W O' I' W', Jx O I W → ItStep O I W O' I' W' → Jx O' I' W') →
    (∀ x ys O I W vs n, J (x :: ys) O I W → RepL I W x vs → x.all D.isVal = true → YieldAt Fence.wide n P l ⟨vs⟩ W fun e W' => ItBack O I W W' ∧ ((e = .returned (.bool true) ∧ J ys O I W') ∨ (e = .returned (.bool false) ∧ Jx O I W'))) →
    J xs (fun _ => False) I W →
    Calls P f ⟨.func (.yield l) #[] #[] :: cvs⟩ W fun e W' => (∃ v, e = .returned v) ∧ ∃ O' I', J [] O' I' W' ∨ Jx O' I' W'

def dstC : D → D
  | .sl st es xs => .sl (bif Nat.ble st 1 then st else 0) es xs
  | d => d
/-- What goes on through all rounds: no row that is appended to. -/
def dstD : D → D
  | .agg cs => .agg (cs.map dstC)
  | .tup _ => .undef
  | d => dstC d

def seqEv (body : Env → (Exit → Env → Prop) → Prop) (ps : List Nat) (nt0 : Nat) (tm0 : List (Nat × D)) (bs ms : List Nat) (ys : Option (Nat × List (List D))) : List (List D) → Env → (Exit → Env → Prop) → Prop
  | [], env, Q => fE { env with nt := nt0, tm := tm0, wt := [], ys := ys } (Q .normal)
  | x :: xs, env, Q => match Nat.beq x.length ps.length with
    | true => fE { env with nt := nt0, tm := ps.zip x ++ tm0, wt := [], ys := none } fun env => body env fun e env' => fN (stampsIn [] bs env') fun l => match canonW [] bs ms l env' with
      | some env2 => (match e with
        | .normal => fE env2 fun env2 => seqEv body ps nt0 tm0 bs ms ys xs env2 Q
        | .ret => fE { env2 with nt := nt0, tm := tm0, wt := [], ys := ys } (Q .ret)
        | .exit i => fE { env2 with nt := nt0, tm := tm0, wt := [], ys := ys } (Q (.exit i))
        | _ => False)
      | none => False
    | false => False

def ifB (b : Bool) (A B : Prop) : Prop :=
  match b with
  | true => A
  | false => B
theorem ifB_intro {b : Bool} {A B : Prop} (ht : b = true → A) (hf : b = false → B) : ifB b A B := by
  cases b
  · exact hf rfl
  · exact ht rfl

/-- Code. -/
def ev (P : Program) (T : Ty) : Code → Env → (Exit → Env → Prop) → Prop
  | .skip, env, Q => Q .normal env
  | .region _ ops draw, env, Q => evRegion P T ops draw env fun env' => Q .normal env'
  | .seq a b, env, Q => ev P T a env fun e env' => match e with
    | .normal => ev P T b env' Q
    | e => Q e env'
  | .cond c a b, env, Q => match tv env.wt env.tm c with
    | .bool t => ifB t (ev P T a env Q) (ev P T b env Q)
    | _ => False
  | .block id body, env, Q => ev P T body env fun e env' => match e with
    | .exit i => match Nat.beq i id with
      | true => Q .normal env'
      | false => Q (.exit i) env'
    | e => Q e env'
  | .loop body, env, Q => fN (keysOf env.tm) fun ts => fN (keysOf env.bx) fun bs => fN (keysOf env.mp) fun ms => fN (stampsIn ts bs env) fun l => match canonW ts bs ms l env with
    | some env1 => fE env1 fun env1 => ∃ n, loopEv (ev P T body) ts bs ms n env1 Q
    | none => False
  | .rangeFunc g ps asg body, env, Q => match tv env.wt env.tm g with
    | .fn f caps => match distinct ps.toList && ps.toList.all (fun p => Nat.blt p env.nt) with
      | true => fN (keysOf env.tm) fun ts => fN (keysOf env.bx) fun bs => fN (keysOf env.mp) fun ms => fN (stampsIn [] bs env) fun l => match canonW ts bs ms l env with
        | some env1 => fE env1 fun env1 => ∃ xs, IterTo P f caps xs ∧ seqEv (fun env K => ev P T asg env fun e env => match e with
            | .normal => ev P T body env K
            | _ => False) ps.toList env1.nt (env1.tm.map fun p => (p.1, dstD p.2)) bs ms env.ys xs env1 Q
        | none => False
      | false => False
    | _ => False
  | .exit i, env, Q => Q (.exit i) env
  | .ret, env, Q => Q .ret env
  | .label _, env, Q => Q .normal env
  | _, _, _ => False

/-- The state in which a function begins. -/
def entry (nt : Nat) (ds : List D) : Env := { nt := nt, tm := (List.range ds.length).zip ds, wt := [], bx := [], mp := [], us := [], dd := [] }

/-- What a function returns. -/
def resRaw (T : Ty) (env : Env) : List ResultVar → List D
  | [] => []
  | .tmp t :: rs => (look t env.tm).getD .undef :: resRaw T env rs
  | .cell a t :: rs => (match T t with
    | some e => (loadD env.bx e ((look a env.tm).getD .undef)).getD .undef
    | none => .undef) :: resRaw T env rs
def packR : List D → D
  | [d] => d
  | ds => .tup ds

/-- What a function's code returns, of this data. -/
def Runs (P : Program) (T : Ty) (nt : Nat) (code : Code) (rs : List ResultVar) (ds : List D) (d : D) : Prop :=
  ds.length ≤ nt ∧ fE (entry nt ds) fun env => ev P T code env fun e env => match e with
    | .normal | .ret => match cloL env.mp (resRaw T env rs) with
      | some l => (frzM env.mp ((resRaw T env rs).flatMap cloM)).isSome = true ∧ packR l = d
      | none => False
    | _ => False

/-- What an iterator's code yields, of what is captured. -/
def Yields (P : Program) (T : Ty) (nt : Nat) (code : Code) (caps : List D) (xs : List (List D)) : Prop :=
  caps.length + 1 ≤ nt ∧ ∀ l : Nat, fE { entry nt (.yld l :: caps) with ys := some (l, xs) } fun env => ev P T code env fun e env => match e with
    | .normal | .ret => match env.ys with
      | some (_, _ :: _) => False
      | _ => True
    | _ => False

end Go.Proofs.Ytndijidmabfhcaa.Fw
