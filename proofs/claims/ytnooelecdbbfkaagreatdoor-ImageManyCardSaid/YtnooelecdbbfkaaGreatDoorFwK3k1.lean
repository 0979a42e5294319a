/- Texts A, B, C, D, E, F, G, H, J of the proof, in one. -/
import Derived.WalkKit
set_option linter.unusedSimpArgs false
set_option linter.unusedVariables false
set_option linter.unusedSectionVars false
set_option linter.unnecessarySimpa false

/- A deterministic evaluation of the loaded code over plain data: the data, the state of a function, and what each operation gives. Nothing is claimed here. -/
namespace Go.Proofs.YtnooelecdbbfkaaGreatDoor.Fw
open Go

/-- Plain data. A slice is what it holds; a pointer to what changes no more is what it points to. -/
inductive D where
  | int (k : IntKind) (n : Int)
  | bool (b : Bool)
  | str (l : List UInt8)
  | agg (cs : List D)
  | tup (vs : List D)
  | sl (st es : Nat) (xs : List D)
  | eptr (d : D) (off : Nat)
  | nilp
  | fn (f : Nat) (caps : List D)
  | nilf
  | ifc (t : Nat) (d : D)
  | nili
  | mapv (ks vs : List D)
  | nilm
  | yld (l : Nat)
  | loc (s off : Nat)
  | lsl (s off n : Nat)
  | mapr (s : Nat)
  | rsl (st es lo n : Nat)
  | rptr (st es i off : Nat)
  | nils
  | sle
  | wh (s : Nat) (w : Bool) (d : D)
  | undef
  deriving Inhabited

def D.cells : D → List D
  | .agg cs => cs
  | d => [d]

/-- What lies in one cell. -/
def D.isCell : D → Bool
  | .agg _ | .tup _ => false
  | _ => true
def D.isAgg : D → Bool
  | .agg _ => true
  | _ => false
def D.isInt : D → Bool
  | .int _ _ => true
  | _ => false
def D.isBool : D → Bool
  | .bool _ => true
  | _ => false
def D.isStr : D → Bool
  | .str _ => true
  | _ => false
def D.isVal : D → Bool
  | .tup _ => false
  | _ => true

/-- What may be laid into a variable. -/
def D.good : D → Bool
  | .undef | .tup _ | .wh _ _ _ => false
  | _ => true
def goods (ps : List (Nat × D)) : Option (List (Nat × D)) := bif ps.all (fun p => p.2.good) then some ps else none

/-- A local variable: its cells; whether it is a struct or an array; whether it changes no more. -/
structure BoxC where
  cells : List D
  isAgg : Bool
  frozen : Bool
structure MapC where
  ks : List D
  vs : List D
  frozen : Bool

/-- A row that is changed in place: its elements' type, how many cells each has, and what they hold. -/
structure RowC where
  u : Nat
  es : Nat
  xs : List D
  sh : Bool := false

def BoxC.whole (b : BoxC) : D := if b.isAgg then .agg b.cells else b.cells.headD .undef

structure Env where
  nt : Nat
  tm : List (Nat × D)
  wt : List (Nat × D)
  bx : List (Nat × BoxC)
  mp : List (Nat × MapC)
  us : List (Nat × Nat)
  dd : List Nat
  ys : Option (Nat × List (List D)) := none
  rw : List (Nat × RowC) := []

def look {α : Type} (t : Nat) : List (Nat × α) → Option α
  | [] => none
  | (s, x) :: l => bif Nat.beq s t then some x else look t l

/-- Types: what is asked of a type. -/
inductive TK where
  | int (k : IntKind)
  | bool
  | str
  | agg (fs : List (Nat × Nat))   -- fields: offset, type
  | arr (n e : Nat)
  | sl (e : Nat) | mp (k v : Nat) | ptr | func | ifc | other
def TK.notIfc : TK → Bool
  | .ifc | .other => false
  | _ => true
structure TE where
  kind : TK
  size : Nat
  bytes : Nat
  zero : D
  eqg : Bool
structure Ty where
  f : Nat → Option TE
  mem : Nat → Bool
  mu : Nat → Bool := fun _ => false
instance : CoeFun Ty fun _ => Nat → Option TE := ⟨Ty.f⟩

def TE.isAgg (t : TE) : Bool := match t.kind with | .agg _ | .arr _ _ => true | _ => false

def dconst : Value → D
  | .int k n => .int k n
  | .bool b => .bool b
  | .string s => .str s.data.toList
  | .nilFunc => .nilf
  | .nilIface => .nili
  | .pointer none => .nilp
  | .slice none 0 0 => .sl 1 0 []
  | .map none => .nilm
  | _ => .undef

def tv (wt tm : List (Nat × D)) : Operand → D
  | .tmp t => match look t wt with
    | some d => d
    | none => (look t tm).getD .undef
  | .const v => dconst v
  | .global _ => .undef
  | .func f => .fn f []

/-- What is used by an operation that is done only if slot s holds w. -/
def unw (g : Option (Nat × Bool)) : D → D
  | .wh s w d => match g with
    | some (s', w') => bif Nat.beq s s' && (w == w') then d else .undef
    | none => .undef
  | d => d

def unwk (g : Option (Nat × Bool)) : D → D
  | .wh s w d => match g with
    | some (s', w') => bif Nat.beq s s' && (w == w') then d else .wh s w d
    | none => .wh s w d
  | d => d

def unwp (c : Operand) (b : Bool) : D → D
  | .wh s w d => match c with
    | .tmp t => bif Nat.beq s t && (w == b) then d else .undef
    | _ => .undef
  | d => d

mutual
/-- What may leave the function: no local variables; stamps are left off. -/
def clo (mp : List (Nat × MapC)) : D → Option D
  | .sl _ es xs => some (.sl 0 es xs)
  | .agg cs => (cloL mp cs).map .agg
  | .mapr s => (look s mp).map fun m => .mapv m.ks m.vs
  | .loc _ _ | .lsl _ _ _ | .wh _ _ _ | .undef | .tup _ | .rsl _ _ _ _ | .rptr _ _ _ _ => none
  | d => some d
def cloL (mp : List (Nat × MapC)) : List D → Option (List D)
  | [] => some []
  | d :: ds => match clo mp d, cloL mp ds with
    | some a, some b => some (a :: b)
    | _, _ => none
end

/-- The maps that go out so. -/
def cloM : D → List Nat
  | .mapr s => [s]
  | .agg cs => cs.filterMap fun | .mapr s => some s | _ => none
  | _ => []

def partD (e : TE) (cs : List D) (off : Nat) : Option D :=
  bif e.isAgg then (bif Nat.ble (off + e.size) cs.length then some (.agg ((cs.drop off).take e.size)) else none) else cs[off]?

/-- Is a slot free of what is under a guard? -/
def wtFree (dst : Nat) : List (Nat × D) → Bool
  | [] => true
  | (t, .wh s _ _) :: l => !Nat.beq t dst && !Nat.beq s dst && wtFree dst l
  | _ => false

def Env.set (env : Env) (dst : Nat) (g : Option (Nat × Bool)) (d : D) : Option Env :=
  bif Nat.blt dst env.nt && wtFree dst env.wt then
    match g with
    | none => some { env with tm := (dst, d) :: env.tm }
    | some (s, b) => bif Nat.beq s dst then none else some { env with tm := (dst, .undef) :: env.tm, wt := (dst, .wh s b d) :: env.wt }
  else none

def splice (cs : List D) (off : Nat) (new : List D) : List D := cs.take off ++ new ++ cs.drop (off + new.length)

/-- What one operation gives. -/
structure Res where
  side : Bool := true
  d : D
  bx : Option BoxC := none
  mp : Option MapC := none
  fz : List Nat := []
  fm : List Nat := []
  kill : Nat := 0
  own : Option Nat := none
  row : Option RowC := none

def ok (d : D) : Option Res := some { d }

def bytesLess := Op.bytesLess

/-- Two things of a plain kind are the same. -/
def eqD : D → D → Option Bool
  | .int k a, .int k' b => bif k == k' then some (a == b) else none
  | .bool a, .bool b => some (a == b)
  | .str a, .str b => some (a == b)
  | _, _ => none
def allB : List (Option Bool) → Option Bool
  | [] => some true
  | some x :: l => (allB l).map (x && ·)
  | none :: _ => none
/-- Two structs or arrays of plain things are the same, field by field. -/
def eqTy (T : Ty) : Nat → Nat → List D → List D → Option Bool
  | 0, _, _, _ => none
  | n + 1, t, xs, ys => match T t with
    | some e => match e.kind with
      | .int _ => match xs, ys with
        | [a], [b] => bif a.isInt then eqD a b else none
        | _, _ => none
      | .bool => match xs, ys with
        | [a], [b] => bif a.isBool then eqD a b else none
        | _, _ => none
      | .str => match xs, ys with
        | [a], [b] => bif a.isStr then eqD a b else none
        | _, _ => none
      | .agg fs => allB (fs.map fun p => match T p.2 with
        | some eu => bif Nat.ble (p.1 + eu.size) xs.length && Nat.ble (p.1 + eu.size) ys.length then eqTy T n p.2 ((xs.drop p.1).take eu.size) ((ys.drop p.1).take eu.size) else none
        | none => none)
      | .arr m u => match T u with
        | some eu => allB ((List.range m).map fun i => bif Nat.ble (i * eu.size + eu.size) xs.length && Nat.ble (i * eu.size + eu.size) ys.length then eqTy T n u ((xs.drop (i * eu.size)).take eu.size) ((ys.drop (i * eu.size)).take eu.size) else none)
        | none => none
      | _ => none
    | none => none
def eqKind (T : Ty) (t : Nat) (e : TE) (cst : Bool) (a b : D) : Option Bool :=
  match e.kind with
  | .agg _ | .arr _ _ => match a, b with
    | .agg x, .agg y => bif e.eqg then eqTy T 6 t x y else none
    | _, _ => none
  | .bool => match a, b with
    | .bool x, .bool y => some (x == y)
    | _, _ => none
  | .ptr => match a, b with
    | .nilp, .nilp => some true
    | .nilp, .eptr _ _ | .eptr _ _, .nilp | .nilp, .loc _ _ | .loc _ _, .nilp => some false
    | _, _ => none
  | .func => match a, b with
    | .nilf, .nilf => some true
    | .nilf, .fn _ _ | .fn _ _, .nilf => some false
    | _, _ => none
  | .ifc => match a, b with
    | .nili, .ifc _ _ | .ifc _ _, .nili => some false
    | .nili, .nili => bif cst then some true else none
    | _, _ => none
  | _ => none
def eqAny (T : Ty) (t : Nat) (cst : Bool) (a b : D) : Option Bool :=
  match T t with
  | some e => eqKind T t e cst a b
  | none => none

def isC : Operand → Bool
  | .const _ => true
  | _ => false

def binD (T : Ty) (t : Nat) (cst : Bool) (op : BinOp) (a b : D) : Option Res :=
  match a, b with
  | .int k x, .int k' y =>
    match op with
    | .shl => some { d := .int k (k.wrap (x * 2 ^ (min y.toNat k.bits))), side := decide (0 ≤ y) }
    | .shr => some { d := .int k (x.fdiv (2 ^ (min y.toNat k.bits))), side := decide (0 ≤ y) }
    | _ => bif k == k' then match op with
      | .add => ok (.int k (k.wrap (x + y)))
      | .sub => ok (.int k (k.wrap (x - y)))
      | .mul => ok (.int k (k.wrap (x * y)))
      | .quo => some { d := .int k (k.wrap (x.tdiv y)), side := decide (y ≠ 0) }
      | .rem => some { d := .int k (x.tmod y), side := decide (y ≠ 0) }
      | .and => ok (.int k (k.wrap (BitVec.ofInt k.bits x &&& BitVec.ofInt k.bits y).toNat))
      | .or => ok (.int k (k.wrap (BitVec.ofInt k.bits x ||| BitVec.ofInt k.bits y).toNat))
      | .xor => ok (.int k (k.wrap (BitVec.ofInt k.bits x ^^^ BitVec.ofInt k.bits y).toNat))
      | .andNot => ok (.int k (k.wrap (BitVec.ofInt k.bits x &&& ~~~ BitVec.ofInt k.bits y).toNat))
      | .eql => ok (.bool (x == y))
      | .neq => ok (.bool (x != y))
      | .lss => ok (.bool (decide (x < y)))
      | .leq => ok (.bool (decide (x ≤ y)))
      | .gtr => ok (.bool (decide (y < x)))
      | .geq => ok (.bool (decide (y ≤ x)))
      | _ => none
      else none
  | .str x, .str y =>
    match op with
    | .add => some { d := .str (x ++ y), side := decide (x.length + y.length ≤ 9223372036854775807) }
    | .eql => ok (.bool (x == y))
    | .neq => ok (.bool (!(x == y)))
    | .lss => ok (.bool (bytesLess x y))
    | .leq => ok (.bool (bytesLess x y || x == y))
    | .gtr => ok (.bool !(bytesLess x y || x == y))
    | .geq => ok (.bool !(bytesLess x y))
    | _ => none
  | _, _ =>
    match op with
    | .eql => (eqAny T t cst a b).map fun r => { d := .bool r }
    | .neq => (eqAny T t cst a b).map fun r => { d := .bool !r }
    | _ => none

def unD (op : UnOp) (a : D) : Option Res :=
  match op, a with
  | .not, .bool b => ok (.bool !b)
  | .neg, .int k n => ok (.int k (k.wrap (0 - n)))
  | _, _ => none

/-- Two keys are the same, cell by cell. -/
def eqCs : List D → List D → Option Bool
  | [], [] => some true
  | a :: xa, b :: bs => match eqD a b, eqCs xa bs with
    | some x, some y => some (x && y)
    | _, _ => none
  | _, _ => none
def eqKey (k x : D) : Bool := (eqCs k.cells x.cells).getD false
/-- Where a map has a key: the first place. -/
def findD (k : D) : List D → List D → Option D
  | x :: ks, v :: vs => bif eqKey k x then some v else findD k ks vs
  | _, _ => none
def putD (k v : D) : List D → List D → List D × List D
  | x :: ks, u :: vs => bif eqKey k x then (k :: ks, v :: vs) else (x :: (putD k v ks vs).1, u :: (putD k v ks vs).2)
  | _, _ => ([k], [v])
/-- A key, and keys, of a type of plain things. -/
def fitK (T : Ty) (q : Nat) (k x : D) : Bool := x.isVal && (match T q with | some e => e.isAgg == x.isAgg | none => false) && match eqTy T 6 q k.cells x.cells, eqCs k.cells x.cells with
  | some a, some b => a == b
  | _, _ => false
def keysFit (T : Ty) (q : Nat) (k : D) (ks : List D) : Bool := k.isVal && (fitK T q k k && ks.all (fitK T q k))

def buildCells (off : Nat → Option (Nat × Nat)) : List D → List (Nat × D) → Option (List D)
  | cs, [] => some cs
  | cs, (i, d) :: ps => match off i with
    | some (o, n) => bif Nat.beq d.cells.length n && Nat.ble (o + n) cs.length then buildCells off (splice cs o d.cells) ps else none
    | none => none

def buildD (T : Ty) (e : TE) (ps : List (Nat × D)) : Option (List D) :=
  match e.kind with
  | .agg fs => buildCells (fun i => match fs[i]? with | some (o, u) => (T u).map fun eu => (o, eu.size) | none => none) e.zero.cells ps
  | .arr _ u => match T u with
    | some eu => buildCells (fun i => some (i * eu.size, eu.size)) e.zero.cells ps
    | none => none
  | _ => none

def fieldOf (T : Ty) (t f : Nat) : Option (Nat × TE) :=
  match T t with
  | some e => match e.kind with
    | .agg fs => match fs[f]? with
      | some (o, u) => match T u with
        | some eu => bif Nat.beq eu.size 0 then none else some (o, eu)
        | none => none
      | none => none
    | _ => none
  | none => none

/-- Element i of flat cells. -/
def chunk (e : TE) : Nat → List D → List D
  | 0, _ => []
  | n + 1, cs => (bif e.isAgg then .agg (cs.take e.size) else cs.headD .undef) :: chunk e n (cs.drop e.size)

def u8s : List D → Option (List UInt8)
  | [] => some []
  | .int .u8 n :: xs => (u8s xs).map (UInt8.ofNat n.toNat :: ·)
  | _ => none

def sliceD {α : Type} (l : List α) (lo hi : Nat) : List α := (l.take hi).drop lo

def bound (x : Option D) (dflt : Nat) : Option Int :=
  match x with
  | none => some (dflt : Int)
  | some (.int _ n) => some n
  | _ => none

def lenD (mp : List (Nat × MapC)) (rw : List (Nat × RowC)) (e : TE) (x : D) : Option Nat :=
  match e.kind with
  | .str => match x with
    | .str l => some l.length
    | _ => none
  | .sl _ => match x with
    | .sl _ _ xs => some xs.length
    | .lsl _ _ n => some n
    | .rsl st _ _ n => (look st rw).map fun _ => n
    | _ => none
  | .mp _ _ => match x with
    | .mapr s => (look s mp).map fun m => m.ks.length
    | .mapv ks _ => some ks.length
    | .nilm => some 0
    | _ => none
  | _ => none

def allSome {α : Type} : List (Option α) → Option (List α)
  | [] => some []
  | some a :: l => (allSome l).map (a :: ·)
  | none :: _ => none

def loadD (bx : List (Nat × BoxC)) (e : TE) : D → Option D
  | .loc s off => match look s bx with
    | some b => partD e b.cells off
    | none => none
  | .eptr d off => partD e d.cells off
  | _ => none
/-- Likewise of a row that is changed in place. -/
def rowD (rw : List (Nat × RowC)) (e : TE) (st es i off : Nat) : Option (Bool × D) :=
  match look st rw with
  | some r => bif Nat.beq r.es es then (partD e (r.xs.getD i .undef).cells off).map fun d => (Nat.blt i r.xs.length, d) else none
  | none => none

def fieldAddrD (T : Ty) (rw : List (Nat × RowC)) (t f : Nat) (x : D) : Option D :=
  match fieldOf T t f with
  | some (o, _) => match x with
    | .loc s off => some (.loc s (off + o))
    | .eptr d off => some (.eptr d (off + o))
    | .rptr st es i off => (look st rw).map fun _ => .rptr st es i (off + o)
    | _ => none
  | none => none

def fieldD (T : Ty) (t f : Nat) (x : D) : Option D :=
  match fieldOf T t f with
  | some (o, e) => match x with
    | .agg cs => partD e cs o
    | _ => none
  | none => none

def elemTy (T : Ty) (t : Nat) : Option (Nat × TE) :=
  match T t with
  | some e => match e.kind with
    | .sl u => (T u).map fun eu => (u, eu)
    | _ => none
  | none => none

def indexAddrD (T : Ty) (rw : List (Nat × RowC)) (t : Nat) (x : D) (n : Int) : Option (Bool × D) :=
  match T t with
  | some e => match e.kind with
    | .sl u => match x with
      | .sl _ es xs => match T u with
        | some eu => bif Nat.beq es eu.size then some (decide (0 ≤ n ∧ n < xs.length), .eptr (xs.getD n.toNat .undef) 0) else none
        | none => none
      | .lsl s off m => (T u).map fun eu => (decide (0 ≤ n ∧ n < m), .loc s (off + n.toNat * eu.size))
      | .rsl st es lo m => match T u, look st rw with
        | some eu, some _ => bif Nat.beq es eu.size then some (decide (0 ≤ n ∧ n < m), .rptr st es (lo + n.toNat) 0) else none
        | _, _ => none
      | _ => none
    | .arr m u => match x with
      | .loc s off => (T u).map fun eu => (decide (0 ≤ n ∧ n < m), .loc s (off + n.toNat * eu.size))
      | .eptr d off => (T u).map fun eu => (decide (0 ≤ n ∧ n < m), .eptr d (off + n.toNat * eu.size))
      | _ => none
    | _ => none
  | none => none

def indexD (T : Ty) (t : Nat) (x : D) (n : Int) : Option (Bool × D) :=
  match x with
  | .str l => match T t with
    | some e => match e.kind with
      | .str => some (decide (0 ≤ n ∧ n < l.length), .int .u8 (l.getD n.toNat 0).toNat)
      | _ => none
    | none => none
  | .agg cs => match T t with
    | some e => match e.kind with
      | .arr m u => match T u with
        | some eu => (partD eu cs (n.toNat * eu.size)).map fun d => (decide (0 ≤ n ∧ n < m), d)
        | none => none
      | _ => none
    | none => none
  | _ => none

def strSliceD (l : List UInt8) (lo hi : Option D) : Option (Bool × D) :=
  match bound lo 0, bound hi l.length with
  | some a, some b => some (decide (0 ≤ a ∧ a ≤ b ∧ b ≤ l.length), .str (sliceD l a.toNat b.toNat))
  | _, _ => none
def slSliceD (es : Nat) (xs : List D) (lo hi mx : Option D) : Option (Bool × D) :=
  match bound lo 0, bound hi xs.length, bound mx xs.length with
  | some a, some b, some c => some (bif mx.isSome then decide (0 ≤ a ∧ a ≤ b ∧ b = c ∧ c ≤ xs.length) else decide (0 ≤ a ∧ a ≤ b ∧ b ≤ c ∧ c ≤ xs.length), .sl (bif mx.isSome then 1 else 0) es (sliceD xs a.toNat b.toNat))
  | _, _, _ => none
def rslSliceD (st es l0 m : Nat) (lo hi : Option D) : Option (Bool × D) :=
  match bound lo 0, bound hi m with
  | some a, some b => some (decide (0 ≤ a ∧ a ≤ b ∧ b ≤ m), .rsl st es (l0 + a.toNat) (b.toNat - a.toNat))
  | _, _ => none
def sliceOpD (T : Ty) (rw : List (Nat × RowC)) (t : Nat) (x : D) (lo hi mx : Option D) : Option (Bool × D) :=
  match T t with
  | some e => match e.kind with
    | .str => match x, mx with
      | .str l, none => strSliceD l lo hi
      | _, _ => none
    | .sl u => match x, T u with
      | .sl _ es xs, some eu => bif Nat.beq es eu.size && !(mx.isSome && hi.isNone) then slSliceD es xs lo hi mx else none
      | .rsl st es l0 m, some eu => match look st rw with
        | some _ => bif Nat.beq es eu.size && mx.isNone then rslSliceD st es l0 m lo hi else none
        | none => none
      | _, _ => none
    | .arr n u => match x, T u, lo, hi, mx with
      | .loc s off, some _, none, none, none => some (true, .lsl s off n)
      | _, _, _, _, _ => none
    | _ => none
  | none => none

def entsD (mp : List (Nat × MapC)) : D → Option (List D × List D)
  | .mapr s => (look s mp).map fun c => (c.ks, c.vs)
  | .mapv ks vs => some (ks, vs)
  | .nilm => some ([], [])
  | _ => none

def lookupD (T : Ty) (mp : List (Nat × MapC)) (t : Nat) (m k : D) (comma : Bool) : Option (Bool × D) :=
  match T t with
  | some e => match e.kind with
    | .mp q u => match T u with
      | some eu => match entsD mp m with
        | some (ks, vs) =>
          match comma with
          | true => some (keysFit T q k ks, .tup [(findD k ks vs).getD eu.zero, .bool (findD k ks vs).isSome])
          | false => some (keysFit T q k ks, (findD k ks vs).getD eu.zero)
        | none => none
      | none => none
    | _ => none
  | none => none

def convD (T : Ty) (s t : Nat) (x : D) : Option D :=
  match T s, T t with
  | some es, some e => match x with
    | .int _ n => match e.kind with
      | .int k => some (.int k (k.wrap n))
      | _ => none
    | .str l => match e.kind with
      | .str => some (.str l)
      | _ => none
    | .sl _ z xs => match e.kind with
      | .str => match es.kind with
        | .sl u => match T u with
          | some eu => match eu.kind with
            | .int .u8 => bif Nat.beq z 1 then (u8s xs).map .str else none
            | _ => none
          | none => none
        | _ => none
      | _ => none
    | _ => none
  | _, _ => none

/-- A captured variable changes no more. -/
def capD (bx : List (Nat × BoxC)) (mp : List (Nat × MapC)) : D → Option (Nat × D × List Nat)
  | .loc s 0 => match look s bx with
    | some b => match cloL mp b.cells with
      | some cs => bif !b.isAgg && cs.isEmpty then none else some (s, .eptr (BoxC.whole { b with cells := cs }) 0, cloM (.agg b.cells))
      | none => none
    | none => none
  | _ => none

/-- A variable that goes out by its address changes no more. -/
def sealD (bx : List (Nat × BoxC)) : D → D
  | .loc s 0 => match capD bx [] (.loc s 0) with
    | some p => p.2.1
    | none => .loc s 0
  | d => d
def sealF (bx : List (Nat × BoxC)) : D → List Nat
  | .loc s 0 => match capD bx [] (.loc s 0) with
    | some _ => [s]
    | none => []
  | _ => []
def buildSliceD (T : Ty) (mp : List (Nat × MapC)) (dst t n : Nat) (ps : List (Nat × D)) : Option Res :=
  match elemTy T t with
  | some (u, eu) => bif !Nat.ble (n * eu.size) 16777216 || Nat.beq eu.size 0 then none else match buildCells (fun i => some (i * eu.size, eu.size)) ((List.replicate n eu.zero.cells).flatten) ps with
    | some cs => match (bif T.mu (u + 1000000) then none else cloL mp cs) with
      | some cs' => some { d := .sl 1 eu.size (chunk eu n cs'), fm := cloM (.agg cs) }
      | none => some { d := .lsl dst 0 n, bx := some ⟨cs, true, false⟩ }
    | none => none
  | none => none

def appendD (T : Ty) (t : Nat) (x y : D) : Option Res :=
  match x, y, elemTy T t with
  | .sl st es xs, .sl _ es2 ys, some (u, eu) => bif (Nat.beq es eu.size || (Nat.beq st 1 && xs.isEmpty)) && (Nat.beq es2 eu.size || ys.isEmpty) then
      some { d := .sl 0 eu.size (xs ++ ys), kill := st, own := some u, side := decide ((xs.length + ys.length) * eu.bytes ≤ 140737488355328 ∧ xs.length + ys.length ≤ 9223372036854775807) }
    else none
  | _, _, _ => none

/-- The mark of stamps of rows that are changed in place. -/
def rowMark : Nat := 1000000
/-- Stamps from here on are those of rows that a function was handed. -/
def bigS : Nat := 1000000
/-- What is laid behind a row. -/
def srcD (rw : List (Nat × RowC)) : D → Option (Bool × Nat × List D)
  | .sl _ es xs => some (true, es, xs)
  | .rsl st es lo n => match look st rw with
    | some r => bif Nat.beq r.es es then some (Nat.ble (lo + n) r.xs.length, es, sliceD r.xs lo (lo + n)) else none
    | none => none
  | _ => none
def appendSide (e : TE) (n m : Nat) : Bool := decide ((n + m) * e.bytes ≤ 140737488355328 ∧ n + m ≤ 9223372036854775807)
/-- An append that makes a row that is changed in place. -/
def appendR (T : Ty) (rw : List (Nat × RowC)) (t dst : Nat) (x y : D) : Option Res :=
  match elemTy T t, srcD rw y with
  | some (u, eu), some (sy, es2, ys) => bif (Nat.beq es2 eu.size || ys.isEmpty) && !Nat.beq eu.size 0 then match x with
    | .sl st es xs => bif Nat.beq st 1 && (Nat.beq es eu.size || xs.isEmpty) then
        some { d := .rsl (2 * dst + 3) eu.size 0 (xs.length + ys.length), kill := 1, row := some ⟨u, eu.size, xs ++ ys, false⟩, side := sy && (appendSide eu xs.length ys.length && (xs.isEmpty || !ys.isEmpty)) }
      else none
    | .rsl st es lo n => match look st rw with
      | some r => bif Nat.beq es eu.size && (Nat.beq r.u u && (Nat.beq r.es es && (Nat.beq lo 0 && !r.sh))) then
          some { d := .rsl (2 * dst + 3) eu.size 0 (n + ys.length), kill := st, row := some ⟨u, eu.size, r.xs.take n ++ ys, false⟩, side := sy && (appendSide eu n ys.length && Nat.ble n r.xs.length) }
        else none
      | none => none
    | _ => none
    else none
  | _, _ => none
/-- A new row, of zeros. -/
def makeD (T : Ty) (t dst : Nat) (l k : D) : Option Res :=
  match elemTy T t, l, k with
  | some (u, eu), .int _ n, .int _ m => bif T.mu u && !Nat.beq eu.size 0 then
      some { d := .rsl (2 * dst + 3) eu.size 0 n.toNat, kill := 1, row := some ⟨u, eu.size, List.replicate n.toNat eu.zero, false⟩, side := decide (0 ≤ n ∧ n ≤ m) && appendSide eu m.toNat 0 }
    else none
  | _, _, _ => none

def res (x : Option D) : Option Res := x.map fun d => { d }
def resB (x : Option (Bool × D)) : Option Res := x.map fun p => { side := p.1, d := p.2 }

def isStrTy (T : Ty) (s : Nat) : Bool :=
  match T s with
  | some e => match e.kind with
    | .str => true
    | _ => false
  | none => false
/-- A row of numbers that is made, all of them zero. -/
def mkRowD (T : Ty) (t dst : Nat) (n m : Int) : Option Res :=
  match elemTy T t with
  | some (u, eu) => match eu.zero with
    | .int k z => bif T.mu u && Nat.beq eu.size 1 then
        some { d := .rsl (2 * dst + 3) 1 0 n.toNat, kill := 1, row := some ⟨u, 1, List.replicate n.toNat (.int k z), false⟩, side := decide (n = m ∧ 0 ≤ n ∧ (eu.bytes : Int) * n ≤ 281474976710656 ∧ n ≤ 9223372036854775807) }
      else none
    | _ => none
  | none => none
/-- The bytes of a text, as a row. -/
def bytesD (T : Ty) (s t dst : Nat) (l : List UInt8) : Option Res :=
  match elemTy T t with
  | some (u, eu) => match eu.kind with
    | .int .u8 => bif T.mu u && (Nat.beq eu.size 1 && isStrTy T s) then some { d := .rsl (2 * dst + 3) 1 0 l.length, kill := 1, row := some ⟨u, 1, l.map (fun b => .int .u8 b.toNat), true⟩, side := decide (l.length ≤ 9223372036854775807) } else none
    | _ => none
  | none => none
/-- May a row be made a text? -/
def rowStr (T : Ty) (rw : List (Nat × RowC)) (s t st es : Nat) : Option (List D) :=
  match T t with
  | some e => match e.kind with
    | .str => match elemTy T s with
      | some (_, eu) => match eu.kind with
        | .int .u8 => match look st rw with
          | some r => bif Nat.beq r.es 1 && Nat.beq es 1 then some r.xs else none
          | none => none
        | _ => none
      | none => none
    | _ => none
  | none => none
def convRow (T : Ty) (rw : List (Nat × RowC)) (s t st es lo n : Nat) : Option Res :=
  match rowStr T rw s t st es with
  | some xs => (u8s (sliceD xs lo (lo + n))).map fun l => { d := .str l, side := Nat.ble (lo + n) xs.length }
  | none => none
/-- A local array of bytes, as a text. -/
def strTy (T : Ty) (s t : Nat) : Bool :=
  match T t with
  | some e => match e.kind with
    | .str => match elemTy T s with
      | some (_, eu) => match eu.kind with
        | .int .u8 => true
        | _ => false
      | none => false
    | _ => false
  | none => false
def convLsl (T : Ty) (bx : List (Nat × BoxC)) (s t sl off n : Nat) : Option Res :=
  bif strTy T s t then match look sl bx with
    | some b => (u8s (sliceD b.cells off (off + n))).map fun l => { d := .str l, side := Nat.ble (off + n) b.cells.length }
    | none => none
  else none
/-- Is it known whether a slice is nil? -/
def isNilD : D → Option Bool
  | .nils => some true
  | .sle => some false
  | .sl _ _ (_ :: _) => some false
  | _ => none
def isNilC : Operand → Bool
  | .const (.slice none _ _) => true
  | _ => false
def isSlTy (T : Ty) (t : Nat) : Bool :=
  match T t with
  | some e => match e.kind with
    | .sl _ => true
    | _ => false
  | none => false
def nilD (op : BinOp) (d : D) : Option Res :=
  match isNilD d with
  | some b => match op with
    | .eql => ok (.bool b)
    | .neq => ok (.bool !b)
    | _ => none
  | none => none
def asSl : D → D
  | .nils | .sle => .sl 0 0 []
  | d => d
/-- A value operation: what it gives, of the operands' data (g: under which guard it is done). -/
def opV (T : Ty) (v : Operand → D) (pk : Operand → Bool → Operand → D) (bx : List (Nat × BoxC)) (mp : List (Nat × MapC)) (rw : List (Nat × RowC)) (dst : Nat) (o : Op) : Option Res :=
  match o with
  | .move x => ok (v x)
  | .assign x => ok (v x)
  | .pick c a b => match v c, pk c true a, pk c false b with
    | .bool t, .bool x, .bool y => ok (.bool (bif t then x else y))
    | .bool t, .undef, .bool y => some { side := !t, d := .bool y }
    | .bool t, .bool x, .undef => some { side := t, d := .bool x }
    | _, _, _ => none
  | .alloc t => (T t).map fun e => { d := .loc dst 0, bx := some ⟨e.zero.cells, e.isAgg, false⟩ }
  | .box t x => match T t with
    | some e => bif (v x).good && Nat.beq (v x).cells.length e.size then some { d := .loc dst 0, bx := some ⟨(v x).cells, e.isAgg, false⟩ } else none
    | none => none
  | .build t ps => match T t, goods (ps.toList.map fun p => (p.1, v p.2)) with
    | some e, some qs => (buildD T e qs).map fun cs => { d := .agg cs }
    | _, _ => none
  | .buildSlice t n ps => match goods (ps.toList.map fun p => (p.1, v p.2)) with
    | some qs => buildSliceD T mp dst t n qs
    | none => none
  | .load t x => match T t with
    | some e => match v x with
      | .rptr st es i off => resB (rowD rw e st es i off)
      | d => res (loadD bx e d)
    | none => none
  | .nilCheck x => match v x with
    | .loc s o => ok (.loc s o)
    | .eptr d o => ok (.eptr d o)
    | .rptr st es i o => (look st rw).map fun _ => { d := .rptr st es i o }
    | _ => none
  | .binOp op t x y _ => bif isNilC y && isSlTy T t then nilD op (v x) else binD T t (isC x || isC y) op (v x) (v y)
  | .unOp op _ x => unD op (v x)
  | .convert s t x => match v x with
    | .rsl st es lo n => convRow T rw s t st es lo n
    | .lsl sl off n => convLsl T bx s t sl off n
    | .str l => match elemTy T t with
      | some _ => bytesD T s t dst l
      | none => res (convD T s t (.str l))
    | d => res (convD T s t d)
  | .makeFunc (.func f) first caps => bif Nat.beq first.size 0 then
      match allSome (caps.toList.map fun x => capD bx mp (v x)) with
      | some l => some { d := .fn f (l.map (·.2.1)), fz := l.map (·.1), fm := l.flatMap (·.2.2) }
      | none => none
    else none
  | .makeMap _ none => some { d := .mapr dst, mp := some ⟨[], [], false⟩ }
  | .makeSlice t x y => match v x, v y with
    | .int _ n, .int _ m => mkRowD T t dst n m
    | _, _ => none
  | .fieldAddr t x f => res (fieldAddrD T rw t f (v x))
  | .field t x f => res (fieldD T t f (v x))
  | .indexAddr t x i => match v i with
    | .int _ n => resB (indexAddrD T rw t (v x) n)
    | _ => none
  | .index t x i => match v i with
    | .int _ n => resB (indexD T t (v x) n)
    | _ => none
  | .slice t x lo hi mx => resB (sliceOpD T rw t (v x) (lo.map v) (hi.map v) (mx.map v))
  | .lookup t m k comma => resB (lookupD T mp t (v m) (v k) comma)
  | .extract x i => match v x with
    | .tup ds => res ds[i]?
    | _ => none
  | .makeInterface t x => match T t with
    | some e => bif e.kind.notIfc then (clo mp (sealD bx (v x))).map fun d => { d := .ifc t d, fm := cloM (v x), fz := sealF bx (v x) } else none
    | none => none
  | .call { callee := .builtin .len, args, argTypes } => match args.toList with
    | [x] => match argTypes.toList with
      | [t] => match T t with
        | some e => res ((lenD mp rw e (v x)).map fun n => .int .i64 n)
        | none => none
      | _ => none
    | _ => none
  | .call { callee := .builtin .min, args, .. } => match args.toList.map v with
    | [.int k x, .int k' y] => bif k == k' then ok (.int k (if y < x then y else x)) else none
    | _ => none
  | .call { callee := .builtin .max, args, .. } => match args.toList.map v with
    | [.int k x, .int k' y] => bif k == k' then ok (.int k (if y > x then y else x)) else none
    | _ => none
  | .call { callee := .builtin .append, args, argTypes } => match args.toList, argTypes.toList with
    | [x, y], [t, t'] => bif Nat.beq t t' then (match elemTy T t with
      | some (u, _) => bif T.mu u then appendR T rw t dst (v x) (asSl (v y)) else appendD T t (v x) (asSl (v y))
      | none => none) else none
    | _, _ => none
  | _ => none

def opR (T : Ty) (g : Option (Nat × Bool)) (ρ : Operand → D) (bx : List (Nat × BoxC)) (mp : List (Nat × MapC)) (rw : List (Nat × RowC)) (dst : Nat) (o : Op) : Option Res :=
  opV T (fun x => unw g (ρ x)) (fun c b x => unwp c b (unwk g (ρ x))) bx mp rw dst o

def Env.free (env : Env) (dst : Nat) : Bool := (look dst env.bx).isNone && (look dst env.mp).isNone

/-- Maps, and variables, that change no more from now on. -/
def frzM (mp : List (Nat × MapC)) : List Nat → Option (List (Nat × MapC))
  | [] => some mp
  | s :: ss => match look s mp with
    | some m => frzM ((s, { m with frozen := true }) :: mp) ss
    | none => none
def frzB (bx : List (Nat × BoxC)) : List Nat → Option (List (Nat × BoxC))
  | [] => some bx
  | s :: ss => match look s bx with
    | some b => frzB ((s, { b with frozen := true }) :: bx) ss
    | none => none

/-- The state after an append that is stamped s'. -/
def Env.stamp (env : Env) (s' u st : Nat) : Env := { env with us := (s', u) :: env.us, dd := bif Nat.beq st 1 then env.dd else st :: env.dd }

def Env.stampR (env : Env) (s' : Nat) (r : RowC) (st : Nat) : Env := { env with us := (s', rowMark) :: env.us, dd := bif Nat.beq st 1 then env.dd else st :: env.dd, rw := (s', r) :: env.rw }
/-- The rows that are changed in place, and live. -/
def Env.rows (env : Env) : List (Nat × RowC) := env.rw.filter fun p => !env.dd.contains p.1

/-- A stamp that nobody has; a stamp that may be left off. -/
def Env.fresh (env : Env) (s : Nat) : Bool := Nat.blt s bigS && ((look s env.us).isNone && !env.dd.contains s)
def Env.killOK (env : Env) (k u : Nat) : Bool := Nat.beq k 1 || (Nat.ble 2 k && ((look k env.us == some u) && !env.dd.contains k))
/-- What an operation's result does to the state, but for its slot. -/
def memR (env : Env) (dst : Nat) (r : Res) : Option (Env × D) :=
  match frzM env.mp r.fm, frzB env.bx r.fz with
  | some mp, some bx => match r.row with
   | some rc => bif env.fresh (2 * dst + 3) && env.killOK r.kill rowMark then some (Env.stampR { env with mp, bx } (2 * dst + 3) rc r.kill, r.d) else none
   | none => match r.own with
    | some u => match r.d with
      | .sl _ es xs => bif !Nat.beq u rowMark && (env.fresh (2 * dst + 3) && env.killOK r.kill u) then some (Env.stamp { env with mp, bx } (2 * dst + 3) u r.kill, .sl (2 * dst + 3) es xs) else none
      | _ => none
    | none => match r.bx, r.mp with
      | none, none => some ({ env with mp, bx }, r.d)
      | some b, none => bif env.free dst then some ({ env with mp, bx := (dst, b) :: bx }, r.d) else none
      | none, some m => bif env.free dst then some ({ env with mp := (dst, m) :: mp, bx }, r.d) else none
      | _, _ => none
  | _, _ => none

end Go.Proofs.YtnooelecdbbfkaaGreatDoor.Fw

/- What it means that a value of the machine reads as given data, and that a function's state does. Definitions and their first laws. -/
namespace Go.Proofs.YtnooelecdbbfkaaGreatDoor.Fw
open Go

abbrev Im := Nat → Nat → Prop

mutual
/-- A value reads as data, all of it in cells that change no more. -/
def Rep (I : Im) (w : World) : D → Value → Prop
  | .int k n, v => v = .int k n
  | .bool b, v => v = .bool b
  | .str l, v => v = .string ⟨⟨l⟩⟩
  | .agg cs, v => ∃ vs : List Value, v = .agg ⟨vs⟩ ∧ cs.all D.isCell = true ∧ RepL I w cs vs
  | .tup cs, v => ∃ vs : List Value, v = .tuple ⟨vs⟩ ∧ cs.all D.isVal = true ∧ RepL I w cs vs
  | .sl st es xs, v => st = 0 ∧ ((v = .slice none 0 0 ∧ xs = []) ∨ ∃ a cap, v = .slice (some a) xs.length cap ∧ xs.length ≤ cap ∧ RepRow I w es xs a 0)
  | .eptr d off, v => match d with
    | .agg cs => ∃ a : Addr, v = .pointer (some (a.add off)) ∧ RepCs I w cs a 0
    | d => ∃ a : Addr, v = .pointer (some (a.add off)) ∧ d.isCell = true ∧ I a.block a.off ∧ ∃ u, w.cell? a = some u ∧ Rep I w d u
  | .nilp, v => v = .pointer none
  | .fn f caps, v => ∃ vs : List Value, v = .func (.func f) #[] ⟨vs⟩ ∧ RepL I w caps vs
  | .nilf, v => v = .nilFunc
  | .ifc t d, v => ∃ u, v = .iface t u ∧ Rep I w d u
  | .nili, v => v = .nilIface
  | .mapv ks vs, v => ∃ r, v = .map (some r) ∧ I r 0 ∧ ∃ es clock, w.heap[r]? = some (.map es clock) ∧ RepL I w ks (es.toList.map (·.key)) ∧ RepL I w vs (es.toList.map (·.val)) ∧ vs.all D.isVal = true
  | .nilm, v => v = .map none
  | .yld l, v => v = .func (.yield l) #[] #[]
  | .loc _ _, _ => False
  | .lsl _ _ _, _ => False
  | .mapr _, _ => False
  | .rsl _ _ _ _, _ => False
  | .rptr _ _ _ _, _ => False
  | .nils, v => v = .slice none 0 0
  | .sle, v => ∃ a cap, v = .slice (some a) 0 cap
  | .wh _ _ _, _ => False
  | .undef, _ => False
def RepL (I : Im) (w : World) : List D → List Value → Prop
  | [], vs => vs = []
  | d :: ds, vs => ∃ v us, vs = v :: us ∧ Rep I w d v ∧ RepL I w ds us
/-- Elements of es cells each, from place i on. -/
def RepRow (I : Im) (w : World) (es : Nat) : List D → Addr → Nat → Prop
  | [], _, _ => True
  | d :: ds, a, i => (match d with
    | .agg cs => cs.length = es ∧ RepCs I w cs (a.add (i * es)) 0
    | d => es = 1 ∧ d.isCell = true ∧ I (a.add (i * es)).block (a.add (i * es)).off ∧ ∃ u, w.cell? (a.add (i * es)) = some u ∧ Rep I w d u) ∧ RepRow I w es ds a (i + 1)
/-- Cells from place j on. -/
def RepCs (I : Im) (w : World) : List D → Addr → Nat → Prop
  | [], _, _ => True
  | d :: ds, a, j => (d.isCell = true ∧ I (a.add j).block (a.add j).off ∧ ∃ u, w.cell? (a.add j) = some u ∧ Rep I w d u) ∧ RepCs I w ds a (j + 1)
end

/-- The variable at an address holds the data. -/
def RepAt (I : Im) (w : World) (d : D) (a : Addr) : Prop :=
  match d with
  | .agg cs => RepCs I w cs a 0
  | d => d.isCell = true ∧ I a.block a.off ∧ ∃ u, w.cell? a = some u ∧ Rep I w d u

theorem rep_eptr (I : Im) (w : World) (d : D) (off : Nat) (v : Value) : Rep I w (.eptr d off) v ↔ ∃ a : Addr, v = .pointer (some (a.add off)) ∧ RepAt I w d a := by
  cases d <;> rfl

/-- How many cells data has. -/
theorem repRow_cons (I : Im) (w : World) (es : Nat) (d : D) (ds : List D) (a : Addr) (i : Nat) :
    RepRow I w es (d :: ds) a i ↔ (d.cells.length = es ∧ RepAt I w d (a.add (i * es))) ∧ RepRow I w es ds a (i + 1) := by
  cases d with
  | agg cs => exact Iff.rfl
  | _ => exact ⟨fun h => ⟨⟨h.1.1.symm, h.1.2⟩, h.2⟩, fun h => ⟨⟨h.1.1.symm, h.1.2⟩, h.2⟩⟩

/-- What changes no more is as it was. -/
structure Keeps (I I' : Im) (w w' : World) : Prop where
  im : ∀ b o, I b o → I' b o
  cell : ∀ (a : Addr) u, I a.block a.off → w.cell? a = some u → w'.cell? a = some u
  map : ∀ (r : Nat) es c, I r 0 → w.heap[r]? = some (.map es c) → w'.heap[r]? = some (.map es c)

/-- What the laid variables hold: a row of a law says which it lays. -/
structure GLT where
  gl : Nat → Nat → Value → Prop
set_option linter.unusedSectionVars false
variable [Inhabited GLT]
/-- They hold that, and change no more. -/
def GlobW (_ : Program) (I : Im) (w : World) : Prop := ∀ g o v, (default : GLT).gl g o v → I g o ∧ w.cell? ⟨g, o, none⟩ = some v
theorem GlobW.keeps {P : Program} {I I' : Im} {w w' : World} (h : GlobW P I w) (k : Keeps I I' w w') : GlobW P I' w' :=
  fun g o v e => ⟨k.im _ _ (h g o v e).1, k.cell _ _ (h g o v e).1 (h g o v e).2⟩
theorem globW_none {P : Program} {I : Im} {w : World} (h : ∀ g o v, ¬ (default : GLT).gl g o v) : GlobW P I w := fun g o v e => absurd e (h g o v)
def ImW (P : Program) (I : Im) (w : World) : Prop := (∀ b o, I b o → b < w.heap.size) ∧ GlobW P I w

theorem Keeps.refl (I : Im) (w : World) : Keeps I I w w := ⟨fun _ _ h => h, fun _ _ _ h => h, fun _ _ _ _ h => h⟩
theorem Keeps.trans {I I' I'' : Im} {w w' w'' : World} (h : Keeps I I' w w') (k : Keeps I' I'' w' w'') : Keeps I I'' w w'' :=
  ⟨fun b o x => k.im b o (h.im b o x), fun a u i c => k.cell a u (h.im _ _ i) (h.cell a u i c), fun r es c i x => k.map r es c (h.im _ _ i) (h.map r es c i x)⟩

set_option linter.unusedSectionVars false in
section
variable {I I' : Im} {w w' : World} (K : Keeps I I' w w')
include K
mutual
theorem Rep.keeps : ∀ (d : D) (v : Value), Rep I w d v → Rep I' w' d v
  | .int _ _, _, h | .bool _, _, h | .str _, _, h | .nilp, _, h | .nilf, _, h | .nili, _, h | .nilm, _, h | .yld _, _, h | .nils, _, h | .sle, _, h => by simpa only [Rep] using h
  | .agg cs, v, h => by
    simp only [Rep] at h ⊢
    obtain ⟨vs, e, hc, h⟩ := h
    exact ⟨vs, e, hc, RepL.keeps cs vs h⟩
  | .tup cs, v, h => by
    simp only [Rep] at h ⊢
    obtain ⟨vs, e, hc, h⟩ := h
    exact ⟨vs, e, hc, RepL.keeps cs vs h⟩
  | .sl _ es xs, v, h => by
    simp only [Rep] at h ⊢
    obtain ⟨h0, h⟩ := h
    refine ⟨h0, ?_⟩
    rcases h with h | ⟨a, cap, e, hl, h⟩
    · exact .inl h
    · exact .inr ⟨a, cap, e, hl, RepRow.keeps es xs a 0 h⟩
  | .eptr d off, v, h => by
    rw [rep_eptr] at h ⊢
    obtain ⟨a, e, h⟩ := h
    refine ⟨a, e, ?_⟩
    cases d with
    | agg cs => exact RepCs.keeps cs a 0 h
    | _ =>
      obtain ⟨hc, hi, u, hu, h⟩ := h
      exact ⟨hc, K.im _ _ hi, u, K.cell _ _ hi hu, Rep.keeps _ u h⟩
  | .fn f caps, v, h => by
    simp only [Rep] at h ⊢
    obtain ⟨vs, e, h⟩ := h
    exact ⟨vs, e, RepL.keeps caps vs h⟩
  | .ifc t d, v, h => by
    simp only [Rep] at h ⊢
    obtain ⟨u, e, h⟩ := h
    exact ⟨u, e, Rep.keeps d u h⟩
  | .mapv ks vs, v, h => by
    simp only [Rep] at h ⊢
    obtain ⟨r, e, hi, es, c, hr, h1, h2, h3⟩ := h
    exact ⟨r, e, K.im _ _ hi, es, c, K.map _ _ _ hi hr, RepL.keeps ks _ h1, RepL.keeps vs _ h2, h3⟩
  | .loc _ _, _, h | .lsl _ _ _, _, h | .mapr _, _, h | .rsl _ _ _ _, _, h | .rptr _ _ _ _, _, h | .wh _ _ _, _, h | .undef, _, h => by simp only [Rep] at h
theorem RepL.keeps : ∀ (ds : List D) (vs : List Value), RepL I w ds vs → RepL I' w' ds vs
  | [], vs, h => by simpa only [RepL] using h
  | d :: ds, vs, h => by
    simp only [RepL] at h ⊢
    obtain ⟨v, us, e, h1, h2⟩ := h
    exact ⟨v, us, e, Rep.keeps d v h1, RepL.keeps ds us h2⟩
theorem RepRow.keeps (es : Nat) : ∀ (ds : List D) (a : Addr) (i : Nat), RepRow I w es ds a i → RepRow I' w' es ds a i
  | [], _, _, h => by simp only [RepRow]
  | d :: ds, a, i, h => by
    cases d with
    | agg cs =>
      simp only [RepRow] at h ⊢
      exact ⟨⟨h.1.1, RepCs.keeps cs _ 0 h.1.2⟩, RepRow.keeps es ds a (i + 1) h.2⟩
    | _ =>
      simp only [RepRow] at h ⊢
      obtain ⟨⟨e, hc, hi, u, hu, h⟩, h2⟩ := h
      exact ⟨⟨e, hc, K.im _ _ hi, u, K.cell _ _ hi hu, Rep.keeps _ u h⟩, RepRow.keeps es ds a (i + 1) h2⟩
theorem RepCs.keeps : ∀ (ds : List D) (a : Addr) (j : Nat), RepCs I w ds a j → RepCs I' w' ds a j
  | [], _, _, h => by simp only [RepCs]
  | d :: ds, a, j, h => by
    simp only [RepCs] at h ⊢
    obtain ⟨⟨hd, hi, u, hu, h1⟩, h2⟩ := h
    exact ⟨⟨hd, K.im _ _ hi, u, K.cell _ _ hi hu, Rep.keeps d u h1⟩, RepCs.keeps ds a (j + 1) h2⟩
end
theorem RepAt.keeps {d : D} {a : Addr} (h : RepAt I w d a) : RepAt I' w' d a := by
  cases d with
  | agg cs => exact RepCs.keeps K cs a 0 h
  | _ =>
    obtain ⟨hc, hi, u, hu, h⟩ := h
    exact ⟨hc, K.im _ _ hi, u, K.cell _ _ hi hu, Rep.keeps K _ u h⟩
end

end Go.Proofs.YtnooelecdbbfkaaGreatDoor.Fw

/- The state of a function that reads as given data: what is asked of it, and how steps of the machine keep it. -/
namespace Go.Proofs.YtnooelecdbbfkaaGreatDoor.Fw
open Go Go.RowKit
set_option linter.unusedSectionVars false
variable [Inhabited GLT]

/-- Names of blocks: of local variables and maps; of rows that are appended to; what changes no more; where the function began. -/
structure Root where
  wd : World
  far : Nat → Prop
  mks : List Nat
  lp : Option Nat
  fix : Bool → Nat → Option Nat
  fixr : Nat → Option (Option (Nat × Nat)) := fun _ => none
  G : Option (Nat × List (List D)) → (Nat → Prop) → World → Im → Prop
  tl : List Deferred := []
/-- A block that the function may have for its own. -/
def Root.off (r : Root) (k : Nat) : Prop := ¬ r.far k ∧ k ∉ r.mks
def Root.plain (w : World) : Root := ⟨w, fun k => k < w.heap.size, [], none, fun _ _ => none, fun _ => none, fun _ _ _ _ => True, []⟩
def markOf (k : Nat) : Deferred := { target := .collected k, args := #[] }

structure Ctx where
  ρ : Nat → Nat
  σ : Nat → Option Nat
  I : Im
  w0 : Root
  I0 : Im
  df : List Deferred

def All2 {α β : Type} (R : α → β → Prop) : List α → List β → Prop
  | [], [] => True
  | a :: xa, b :: bs => R a b ∧ All2 R xa bs
  | _, _ => False

theorem All2.length {α β : Type} {R : α → β → Prop} : ∀ {xa : List α} {bs : List β}, All2 R xa bs → xa.length = bs.length
  | [], [], _ => rfl
  | _ :: _, _ :: _, h => by simp [All2.length h.2]
  | [], _ :: _, h => h.elim
  | _ :: _, [], h => h.elim
theorem All2.mono {α β : Type} {R S : α → β → Prop} (hrs : ∀ a b, R a b → S a b) : ∀ {xa : List α} {bs : List β}, All2 R xa bs → All2 S xa bs
  | [], [], _ => trivial
  | _ :: _, _ :: _, h => ⟨hrs _ _ h.1, All2.mono hrs h.2⟩
  | [], _ :: _, h => h.elim
  | _ :: _, [], h => h.elim
theorem All2.get {α β : Type} {R : α → β → Prop} : ∀ {xa : List α} {bs : List β}, All2 R xa bs → ∀ (i : Nat) (a : α), xa[i]? = some a → ∃ b, bs[i]? = some b ∧ R a b
  | [], [], _, i, a, h => by simp at h
  | a' :: _, b' :: _, h, 0, a, e => by simp at e; subst e; exact ⟨b', rfl, h.1⟩
  | _ :: _, _ :: _, h, i + 1, a, e => by simpa using All2.get h.2 i a (by simpa using e)
  | [], _ :: _, h, _, _, _ => h.elim
  | _ :: _, [], h, _, _, _ => h.elim
theorem All2.append {α β : Type} {R : α → β → Prop} : ∀ {xa : List α} {bs : List β} {xa' : List α} {bs' : List β}, All2 R xa bs → All2 R xa' bs' → All2 R (xa ++ xa') (bs ++ bs')
  | [], [], _, _, _, h' => h'
  | _ :: _, _ :: _, _, _, h, h' => ⟨h.1, All2.append h.2 h'⟩
  | [], _ :: _, _, _, h, _ => h.elim
  | _ :: _, [], _, _, h, _ => h.elim
theorem All2.take {α β : Type} {R : α → β → Prop} : ∀ (n : Nat) {xa : List α} {bs : List β}, All2 R xa bs → All2 R (xa.take n) (bs.take n)
  | 0, _, _, _ => trivial
  | _ + 1, [], [], _ => trivial
  | n + 1, _ :: _, _ :: _, h => ⟨h.1, All2.take n h.2⟩
  | _ + 1, [], _ :: _, h => h.elim
  | _ + 1, _ :: _, [], h => h.elim
theorem All2.drop {α β : Type} {R : α → β → Prop} : ∀ (n : Nat) {xa : List α} {bs : List β}, All2 R xa bs → All2 R (xa.drop n) (bs.drop n)
  | 0, _, _, h => h
  | _ + 1, [], [], _ => trivial
  | n + 1, _ :: _, _ :: _, h => All2.drop n h.2
  | _ + 1, [], _ :: _, h => h.elim
  | _ + 1, _ :: _, [], h => h.elim
theorem all2_repL {I : Im} {w : World} : ∀ {ds : List D} {vs : List Value}, RepL I w ds vs ↔ All2 (Rep I w) ds vs
  | [], [] => by simp [RepL, All2]
  | [], _ :: _ => by simp [RepL, All2]
  | _ :: _, [] => by simp [RepL, All2]
  | d :: ds, v :: vs => by
    simp only [RepL, All2, List.cons.injEq]
    constructor
    · rintro ⟨v', us, ⟨rfl, rfl⟩, h1, h2⟩; exact ⟨h1, all2_repL.1 h2⟩
    · rintro ⟨h1, h2⟩; exact ⟨v, vs, ⟨rfl, rfl⟩, h1, all2_repL.2 h2⟩

def Env.live (env : Env) (st : Nat) : Prop := (look st env.us).isSome = true ∧ st ∉ env.dd
def Env.blk (env : Env) (s : Nat) : Prop := (look s env.bx).isSome = true ∨ (look s env.mp).isSome = true

/-- A block of so many cells. -/
def Room (w : World) (g n : Nat) : Prop := ∃ (cur : Array Value) (u : TypeId) (fr : Nat × Nat), w.heap[g]? = some (.cells cur u fr) ∧ cur.size = n
/-- A row that was handed over stays where it is, and as large as it was. -/
def FixR (w : World) : Option (Nat × Nat) → Option Nat → Prop
  | none, x => x = none
  | some (g, n), x => x = some g ∧ Room w g n
/-- The slice is one that may be appended to: nil, or a row whose cells behind it nobody has. -/
def OwnC (c : Ctx) (env : Env) (w : World) (st es n : Nat) (v : Value) : Prop :=
  st = 0 ∨ (st = 1 ∧ ∃ b, v = .slice b n n) ∨ (2 ≤ st ∧ ∃ u, look st env.us = some u ∧ u ≠ rowMark ∧ (st ∈ env.dd ∨
    match c.σ st with
    | none => ∃ b, v = .slice b n n
    | some g => ∃ cap cur, v = .slice (some ⟨g, 0, none⟩) n cap ∧ w.heap[g]? = some (.cells cur u (0, 0)) ∧ cur.size = cap * es ∧ cap ≤ maxLen ∧ n ≤ cap ∧ ∀ o, n * es ≤ o → ¬ c.I g o))

/-- What leads into a row that is changed in place. -/
def RowV (c : Ctx) (env : Env) (w : World) (st es lo n : Nat) (v : Value) : Prop :=
  look st env.us = some rowMark ∧ v.oneCell' = true ∧ (st ∈ env.dd ∨ match c.σ st with
    | none => lo = 0 ∧ n = 0 ∧ ∃ b, v = .slice b 0 0
    | some g => ∃ ad cap, v = .slice (some ad) n cap ∧ (0 < cap → ad = ⟨g, lo * es, none⟩) ∧ n ≤ cap ∧ Room w g ((lo + cap) * es) ∧ cap ≤ maxLen)
def RowP (c : Ctx) (env : Env) (st es i off : Nat) (v : Value) : Prop :=
  look st env.us = some rowMark ∧ v.oneCell' = true ∧ (st ∈ env.dd ∨ ∃ g, c.σ st = some g ∧ v = .pointer (some ⟨g, i * es + off, none⟩))
/-- Nothing of it is kept from being written. -/
def FrOK (sh : Bool) (n : Nat) (fr : Nat × Nat) : Prop :=
  match sh with
  | false => fr = (0, 0)
  | true => n ≤ fr.1
/-- Such a row. -/
def RowOK (c : Ctx) (env : Env) (w : World) (st : Nat) (r : RowC) : Prop :=
  2 ≤ st ∧ look st env.us = some rowMark ∧ (st ∈ env.dd ∨ (0 < r.es ∧ match c.σ st with
    | none => r.xs = []
    | some g => ∃ (vs rest : List Value) (fr : Nat × Nat), w.heap[g]? = some (.cells ⟨vs ++ rest⟩ r.u fr) ∧ FrOK r.sh (vs ++ rest).length fr ∧ All2 (Rep c.I w) (r.xs.flatMap D.cells) vs ∧ (∀ d ∈ r.xs, d.cells.length = r.es ∧ (d.cells.all D.isCell = true ∧ (d.isAgg = false → r.es = 1))) ∧ ∀ o, ¬ c.I g o))

/-- One cell's value. -/
def RepC (c : Ctx) (env : Env) (w : World) (d : D) (v : Value) : Prop :=
  match d with
  | .loc s off => (look s env.bx).isSome = true ∧ v = .pointer (some ⟨c.ρ s, off, none⟩)
  | .lsl s off n => (look s env.bx).isSome = true ∧ ∃ cap, v = .slice (some ⟨c.ρ s, off, none⟩) n cap ∧ n ≤ cap
  | .mapr s => (look s env.mp).isSome = true ∧ v = .map (some (c.ρ s))
  | .sl st es xs => Rep c.I w (.sl 0 es xs) v ∧ OwnC c env w st es xs.length v
  | .rsl st es lo n => RowV c env w st es lo n v
  | .rptr st es i off => RowP c env st es i off v
  | .agg _ => False
  | .tup _ => False
  | d => Rep c.I w d v

def RepV (c : Ctx) (env : Env) (w : World) (d : D) (v : Value) : Prop :=
  match d with
  | .agg cs => ∃ vs : List Value, v = .agg ⟨vs⟩ ∧ All2 (RepC c env w) cs vs
  | d => RepC c env w d v

def RepT (c : Ctx) (env : Env) (w : World) (d : D) (v : Value) : Prop :=
  match d with
  | .tup ds => ∃ vs : List Value, v = .tuple ⟨vs⟩ ∧ All2 (RepV c env w) ds vs
  | .undef => True
  | d => RepV c env w d v

def RepW (c : Ctx) (env : Env) (w : World) (tmps : Array Value) (d : D) (v : Value) : Prop :=
  match d with
  | .wh s b d => (tmps.getD s undef = .bool b → RepT c env w d v) ∧ (tmps.getD s undef ≠ .bool b → v = undef)
  | _ => False

def BoxOK (c : Ctx) (env : Env) (w : World) (s : Nat) (b : BoxC) : Prop :=
  ∃ (vs : List Value) (e : TypeId), w.heap[c.ρ s]? = some (.cells ⟨vs⟩ e (0, 0)) ∧ All2 (RepC c env w) b.cells vs ∧
    (b.frozen = true → ∀ o, o < vs.length → c.I (c.ρ s) o) ∧ (b.frozen = false → ∀ o, ¬ c.I (c.ρ s) o)
def MapOK (c : Ctx) (w : World) (s : Nat) (m : MapC) : Prop :=
  ∃ (es : Array MapEntry) (clock : Nat), w.heap[c.ρ s]? = some (.map es clock) ∧ RepL c.I w m.ks (es.toList.map (·.key)) ∧ RepL c.I w m.vs (es.toList.map (·.val)) ∧ m.vs.all D.isVal = true ∧
    (m.frozen = true → c.I (c.ρ s) 0) ∧ (m.frozen = false → ∀ o, ¬ c.I (c.ρ s) o)

/-- What has not changed since the root's world. -/
structure BaseF (r : Root) (w : World) : Prop where
  os : w.os = r.wd.os
  tape : w.tape = r.wd.tape
  output : w.output = r.wd.output
  grow : r.wd.heap.size ≤ w.heap.size
  lt : ∀ k, r.far k → k < r.wd.heap.size
  block : ∀ k, r.far k → w.heap[k]? = r.wd.heap[k]?
  marks : ∀ k ∈ r.mks, w.heap[k]? = some (.deferred (some []))
  nodup : r.mks.Nodup
  disj : ∀ k ∈ r.mks, ¬ r.far k
  loop : ∀ l, r.lp = some l → r.far l ∧ ∃ x, w.heap[l]? = some (.loop x)
structure KeptF (r : Root) (w w' : World) : Prop where
  os : w'.os = w.os
  tape : w'.tape = w.tape
  output : w'.output = w.output
  size : w.heap.size ≤ w'.heap.size
  block : ∀ k, ¬ r.off k → w'.heap[k]? = w.heap[k]?

theorem off_of_far {r : Root} {k : Nat} (h : r.far k) : ¬ r.off k := fun x => x.1 h
theorem off_of_mk {r : Root} {k : Nat} (h : k ∈ r.mks) : ¬ r.off k := fun x => x.2 h
theorem BaseF.below_of {r : Root} {w : World} (h : BaseF r w) {k : Nat} (hk : ¬ r.off k) : k < w.heap.size := by
  by_cases hf : r.far k
  · exact Nat.lt_of_lt_of_le (h.lt k hf) h.grow
  · by_cases hm : k ∈ r.mks
    · exact (Array.getElem?_eq_some_iff.1 (h.marks k hm)).1
    · exact absurd ⟨hf, hm⟩ hk
theorem BaseF.new {r : Root} {w : World} (h : BaseF r w) {k : Nat} (hk : w.heap.size ≤ k) : r.off k :=
  ⟨fun hf => absurd (h.below_of (off_of_far hf)) (by omega), fun hm => absurd (h.below_of (off_of_mk hm)) (by omega)⟩
theorem BaseF.size {r : Root} {w : World} (h : BaseF r w) : r.off w.heap.size := h.new (Nat.le_refl _)
theorem BaseF.trans {r : Root} {w w' : World} (h : BaseF r w) (k : KeptF r w w') : BaseF r w' :=
  ⟨k.os.trans h.os, k.tape.trans h.tape, k.output.trans h.output, Nat.le_trans h.grow k.size, h.lt, fun i hi => (k.block i (off_of_far hi)).trans (h.block i hi), fun i hi => (k.block i (off_of_mk hi)).trans (h.marks i hi), h.nodup, h.disj,
    fun l hl => ⟨(h.loop l hl).1, by rw [k.block l (off_of_far (h.loop l hl).1)]; exact (h.loop l hl).2⟩⟩
theorem BaseF.below {r : Root} {w w' : World} (h : BaseF r w) (hb : Below w.heap.size w w') : BaseF r w' :=
  h.trans ⟨hb.os, hb.tape, hb.output, hb.size, fun k hk => hb.block k (h.below_of hk)⟩
theorem BaseF.alloc {r : Root} {w : World} (h : BaseF r w) (_ : r.off w.heap.size) (o : Obj) : BaseF r (w.alloc o) := h.below ((Below.refl _ w).alloc (Nat.le_refl _) o)
theorem BaseF.drew {r : Root} {w : World} (h : BaseF r w) : BaseF r w.drew := h.below (Below.refl _ w).drew

/-- Variables, maps, and rows, that stay where they are. -/
def FixAll (r : Root) (ρ : Nat → Nat) (σ : Nat → Option Nat) (env : Env) (w : World) : Prop :=
  (∀ k s b, r.fix k s = some b → (match k with | true => (look s env.bx).isSome = true | false => (look s env.mp).isSome = true) ∧ ρ s = b) ∧
  ∀ st o, r.fixr st = some o → bigS ≤ st ∧ (env.live st → FixR w o (σ st))

structure St (c : Ctx) (env : Env) (a : Act) (w : World) : Prop where
  nt : a.tmps.size = env.nt
  df : a.defers = c.df ∧ c.df = c.w0.mks.map markOf ++ c.w0.tl
  tm : ∀ t d, look t env.tm = some d → RepT c env w d (a.tmps.getD t undef)
  wt : ∀ t d, look t env.wt = some d → RepW c env w a.tmps d (a.tmps.getD t undef)
  bx : ∀ s b, look s env.bx = some b → BoxOK c env w s b
  mp : ∀ s m, look s env.mp = some m → MapOK c w s m
  inj : ∀ s s', env.blk s → env.blk s' → c.ρ s = c.ρ s' → s = s'
  above : ∀ s, env.blk s → c.w0.off (c.ρ s)
  lt : ∀ s, env.blk s → c.ρ s < w.heap.size
  ownInj : ∀ st st' g, env.live st → env.live st' → c.σ st = some g → c.σ st' = some g → st = st'
  ownAbove : ∀ st g, env.live st → c.σ st = some g → c.w0.off g ∧ g < w.heap.size ∧ ∀ s, env.blk s → c.ρ s ≠ g
  im : ∀ b o, c.I b o → b < w.heap.size
  im0 : Keeps c.I0 c.I c.w0.wd w
  imNew : ∀ b o, c.I b o → c.I0 b o ∨ c.w0.off b
  base : BaseF c.w0 w
  gh : c.w0.G env.ys c.w0.far c.w0.wd c.I0 ∧ FixAll c.w0 c.ρ c.σ env w
  rw : ∀ st r, look st env.rw = some r → RowOK c env w st r

/-- A step that keeps what is known of cells' values. -/
structure StepW (c : Ctx) (env : Env) (w : World) (c' : Ctx) (env' : Env) (w' : World) : Prop where
  keeps : Keeps c.I c'.I w w'
  bx : ∀ s, (look s env.bx).isSome = true → (look s env'.bx).isSome = true ∧ c'.ρ s = c.ρ s
  mp : ∀ s, (look s env.mp).isSome = true → (look s env'.mp).isSome = true ∧ c'.ρ s = c.ρ s
  us : ∀ st u, look st env.us = some u → look st env'.us = some u
  dd : ∀ st, st ∈ env.dd → st ∈ env'.dd
  own : ∀ st, env.live st → st ∉ env'.dd → c'.σ st = c.σ st ∧ ∀ g, c.σ st = some g → (look st env.us ≠ some rowMark → w'.heap[g]? = w.heap[g]?) ∧ (∀ n, Room w g n → Room w' g n) ∧ ∀ o, c'.I g o → c.I g o
  newS : ∀ st, bigS ≤ st → env'.live st → env.live st
/-- Likewise; rows that are changed in place are as they were. -/
structure Step (c : Ctx) (env : Env) (w : World) (c' : Ctx) (env' : Env) (w' : World) : Prop extends StepW c env w c' env' w' where
  same : ∀ st, env.live st → st ∉ env'.dd → ∀ g, c.σ st = some g → w'.heap[g]? = w.heap[g]?

theorem Step.of {c c' : Ctx} {env env' : Env} {w w' : World} (keeps : Keeps c.I c'.I w w') (bx : ∀ s, (look s env.bx).isSome = true → (look s env'.bx).isSome = true ∧ c'.ρ s = c.ρ s)
    (mp : ∀ s, (look s env.mp).isSome = true → (look s env'.mp).isSome = true ∧ c'.ρ s = c.ρ s) (us : ∀ st u, look st env.us = some u → look st env'.us = some u) (dd : ∀ st, st ∈ env.dd → st ∈ env'.dd)
    (own : ∀ st, env.live st → st ∉ env'.dd → c'.σ st = c.σ st ∧ ∀ g, c.σ st = some g → w'.heap[g]? = w.heap[g]? ∧ ∀ o, c'.I g o → c.I g o)
    (newS : ∀ st, bigS ≤ st → env'.live st → env.live st := by exact fun _ _ h => h) : Step c env w c' env' w' where
  keeps := keeps
  bx := bx
  mp := mp
  us := us
  dd := dd
  own := fun st hl hn => ⟨(own st hl hn).1, fun g hg => ⟨fun _ => ((own st hl hn).2 g hg).1, fun n => by rintro ⟨cur, u, fr, h1, h2⟩; exact ⟨cur, u, fr, ((own st hl hn).2 g hg).1.trans h1, h2⟩, ((own st hl hn).2 g hg).2⟩⟩
  newS := newS
  same := fun st hl hn g hg => ((own st hl hn).2 g hg).1

instance {c c' : Ctx} {env env' : Env} {w w' : World} : Coe (Step c env w c' env' w') (StepW c env w c' env' w') := ⟨Step.toStepW⟩
theorem Step.ownS {c c' : Ctx} {env env' : Env} {w w' : World} (S : Step c env w c' env' w') : ∀ st, env.live st → st ∉ env'.dd → c'.σ st = c.σ st ∧ ∀ g, c.σ st = some g → w'.heap[g]? = w.heap[g]? ∧ ∀ o, c'.I g o → c.I g o :=
  fun st hl hn => ⟨(S.own st hl hn).1, fun g hg => ⟨S.same st hl hn g hg, ((S.own st hl hn).2 g hg).2.2⟩⟩

section
variable {c c' : Ctx} {env env' : Env} {w w' : World} (S : StepW c env w c' env' w')
include S
theorem StepW.fix {r : Root} (h : FixAll r c.ρ c.σ env w) : FixAll r c'.ρ c'.σ env' w' := ⟨fun k s b hs => by
  obtain ⟨h1, h2⟩ := h.1 k s b hs
  cases k with
  | true => exact ⟨(S.bx s h1).1, (S.bx s h1).2.trans h2⟩
  | false => exact ⟨(S.mp s h1).1, (S.mp s h1).2.trans h2⟩, fun st o ho => ⟨(h.2 st o ho).1, fun hl => by
    have hl0 := S.newS st (h.2 st o ho).1 hl
    have h1 := (h.2 st o ho).2 hl0
    obtain ⟨h2, h3⟩ := S.own st hl0 hl.2
    rw [h2]
    cases o with
    | none => exact h1
    | some p => exact ⟨h1.1, (h3 p.1 h1.1).2.1 _ h1.2⟩⟩⟩
theorem StepW.ownC {st es n : Nat} {v : Value} (h : OwnC c env w st es n v) : OwnC c' env' w' st es n v := by
  rcases h with h | h | ⟨h2, u, hu, hm0, h⟩
  · exact .inl h
  · exact .inr (.inl h)
  · refine .inr (.inr ⟨h2, u, S.us st u hu, hm0, ?_⟩)
    by_cases hd' : st ∈ env'.dd
    · exact .inl hd'
    · rcases h with h | h
      · exact .inl (S.dd st h)
      · right
        by_cases hd : st ∈ env.dd
        · exact absurd (S.dd st hd) hd'
        obtain ⟨e, hg⟩ := S.own st ⟨by rw [hu]; rfl, hd⟩ hd'
        rw [e]
        cases hs : c.σ st with
        | none => rw [hs] at h; exact h
        | some g =>
          rw [hs] at h
          obtain ⟨cap, cur, hv, hh, hsz, hm, hn, hI⟩ := h
          obtain ⟨h1, _, h2⟩ := hg g hs
          exact ⟨cap, cur, hv, (h1 (by rw [hu]; exact fun e => hm0 (Option.some.inj e))).trans hh, hsz, hm, hn, fun o ho hi => hI o ho (h2 o hi)⟩
theorem StepW.row {st : Nat} (hu : look st env.us = some rowMark) (hd : st ∉ env.dd) (hd' : st ∉ env'.dd) : c'.σ st = c.σ st ∧ ∀ g, c.σ st = some g → (look st env.us ≠ some rowMark → w'.heap[g]? = w.heap[g]?) ∧ (∀ n, Room w g n → Room w' g n) ∧ ∀ o, c'.I g o → c.I g o :=
  S.own st ⟨by rw [hu]; rfl, hd⟩ hd'
theorem StepW.rowV {st es lo n : Nat} {v : Value} (h : RowV c env w st es lo n v) : RowV c' env' w' st es lo n v := by
  obtain ⟨hu, ho, h⟩ := h
  refine ⟨S.us _ _ hu, ho, ?_⟩
  by_cases hd' : st ∈ env'.dd
  · exact .inl hd'
  · rcases h with h | h
    · exact .inl (S.dd st h)
    · by_cases hd : st ∈ env.dd
      · exact .inl (S.dd st hd)
      obtain ⟨e, hg⟩ := S.row hu hd hd'
      right
      rw [e]
      cases hs : c.σ st with
      | none => rw [hs] at h; exact h
      | some g =>
        rw [hs] at h
        obtain ⟨ad, cap, hv, hp, hn, hr, hm⟩ := h
        exact ⟨ad, cap, hv, hp, hn, (hg g hs).2.1 _ hr, hm⟩
theorem StepW.rowP {st es i off : Nat} {v : Value} (h : RowP c env st es i off v) : RowP c' env' st es i off v := by
  obtain ⟨hu, ho, h⟩ := h
  refine ⟨S.us _ _ hu, ho, ?_⟩
  by_cases hd' : st ∈ env'.dd
  · exact .inl hd'
  · rcases h with h | h
    · exact .inl (S.dd st h)
    · by_cases hd : st ∈ env.dd
      · exact .inl (S.dd st hd)
      obtain ⟨e, hg⟩ := S.row hu hd hd'
      right
      rw [e]; exact h
theorem StepW.rowOK {st : Nat} {r : RowC} (same : env.live st → st ∉ env'.dd → ∀ g, c.σ st = some g → w'.heap[g]? = w.heap[g]?) (h : RowOK c env w st r) : RowOK c' env' w' st r := by
  obtain ⟨h2, hu, h⟩ := h
  refine ⟨h2, S.us _ _ hu, ?_⟩
  by_cases hd' : st ∈ env'.dd
  · exact .inl hd'
  · rcases h with h | ⟨he, h⟩
    · exact .inl (S.dd st h)
    · by_cases hd : st ∈ env.dd
      · exact .inl (S.dd st hd)
      obtain ⟨e, hg⟩ := S.row hu hd hd'
      refine .inr ⟨he, ?_⟩
      rw [e]
      cases hs : c.σ st with
      | none => rw [hs] at h; exact h
      | some g =>
        rw [hs] at h
        obtain ⟨vs, rest, fr, hh, hfr, h1, h3, hI⟩ := h
        exact ⟨vs, rest, fr, (same ⟨by rw [hu]; rfl, hd⟩ hd' g hs).trans hh, hfr, h1.mono fun _ _ => Rep.keeps S.keeps _ _, h3, fun o ho => hI o ((hg g hs).2.2 o ho)⟩
theorem StepW.repC {d : D} {v : Value} (h : RepC c env w d v) : RepC c' env' w' d v := by
  cases d with
  | loc s off => exact ⟨(S.bx s h.1).1, by rw [(S.bx s h.1).2]; exact h.2⟩
  | lsl s off n => exact ⟨(S.bx s h.1).1, by rw [(S.bx s h.1).2]; exact h.2⟩
  | mapr s => exact ⟨(S.mp s h.1).1, by rw [(S.mp s h.1).2]; exact h.2⟩
  | sl st es xs => exact ⟨Rep.keeps S.keeps _ _ h.1, S.ownC h.2⟩
  | rsl st es lo n => exact S.rowV h
  | rptr st es i off => exact S.rowP h
  | agg cs => exact h.elim
  | tup cs => exact h.elim
  | _ => exact Rep.keeps S.keeps _ _ h
theorem StepW.repV {d : D} {v : Value} (h : RepV c env w d v) : RepV c' env' w' d v := by
  cases d with
  | agg cs => obtain ⟨vs, e, h⟩ := h; exact ⟨vs, e, h.mono fun _ _ => S.repC⟩
  | _ => simp only [RepV] at h ⊢; exact S.repC h
theorem StepW.repT {d : D} {v : Value} (h : RepT c env w d v) : RepT c' env' w' d v := by
  cases d with
  | tup ds => obtain ⟨vs, e, h⟩ := h; exact ⟨vs, e, h.mono fun _ _ => S.repV⟩
  | undef => trivial
  | _ => simp only [RepT] at h ⊢; exact S.repV h
end

/-- Rows stay, if their list does. -/
theorem St.rows {c c' : Ctx} {env env' : Env} {a : Act} {w w' : World} (h : St c env a w) (S : Step c env w c' env' w') (e : env'.rw = env.rw := by rfl) : ∀ st r, look st env'.rw = some r → RowOK c' env' w' st r :=
  fun st r hr => S.rowOK (S.same st) (h.rw st r (by rw [← e]; exact hr))

theorem StepW.trans {c c' c'' : Ctx} {env env' env'' : Env} {w w' w'' : World} (h : StepW c env w c' env' w') (k : StepW c' env' w' c'' env'' w'') : StepW c env w c'' env'' w'' := by
  have hlv : ∀ st, env.live st → st ∉ env''.dd → env'.live st := fun st hl hn => ⟨by
      cases hu : look st env.us with
      | none => have := hl.1; rw [hu] at this; cases this
      | some u => rw [h.us st u hu]; rfl, fun e => hn (k.dd st e)⟩
  refine ⟨h.keeps.trans k.keeps, fun s hs => ?_, fun s hs => ?_, fun st u hs => k.us st u (h.us st u hs), fun st hs => k.dd st (h.dd st hs), fun st hl hn => ?_, fun st hb hl => h.newS st hb (k.newS st hb hl)⟩
  · obtain ⟨h1, h2⟩ := h.bx s hs; obtain ⟨k1, k2⟩ := k.bx s h1; exact ⟨k1, k2.trans h2⟩
  · obtain ⟨h1, h2⟩ := h.mp s hs; obtain ⟨k1, k2⟩ := k.mp s h1; exact ⟨k1, k2.trans h2⟩
  · have hl' := hlv st hl hn
    obtain ⟨h1, h2⟩ := h.own st hl hl'.2
    obtain ⟨k1, k2⟩ := k.own st hl' hn
    refine ⟨k1.trans h1, fun g hg => ?_⟩
    obtain ⟨h3, h5, h4⟩ := h2 g hg
    obtain ⟨k3, k5, k4⟩ := k2 g (h1.trans hg)
    refine ⟨fun hm => (k3 fun e => hm ?_).trans (h3 hm), fun n hr => k5 n (h5 n hr), fun o ho => h4 o (k4 o ho)⟩
    cases hu : look st env.us with
    | none => have := hl.1; rw [hu] at this; cases this
    | some u => rw [h.us st u hu] at e; exact e
theorem Step.trans {c c' c'' : Ctx} {env env' env'' : Env} {w w' w'' : World} (h : Step c env w c' env' w') (k : Step c' env' w' c'' env'' w'') : Step c env w c'' env'' w'' := by
  refine ⟨h.toStepW.trans k.toStepW, fun st hl hn g hg => ?_⟩
  have hn' : st ∉ env'.dd := fun e => hn (k.dd st e)
  have hl' : env'.live st := ⟨by
      cases hu : look st env.us with
      | none => have := hl.1; rw [hu] at this; cases this
      | some u => rw [h.us st u hu]; rfl, hn'⟩
  exact (k.same st hl' hn g ((h.own st hl hn').1.trans hg)).trans (h.same st hl hn' g hg)

theorem Step.refl (c : Ctx) (env : Env) (w : World) : Step c env w c env w :=
  .of (Keeps.refl _ _) (fun _ h => ⟨h, rfl⟩) (fun _ h => ⟨h, rfl⟩) (fun _ _ h => h) (fun _ h => h) (fun _ _ _ => ⟨rfl, fun _ _ => ⟨rfl, fun _ h => h⟩⟩)

end Go.Proofs.YtnooelecdbbfkaaGreatDoor.Fw

/- Steps of the machine that keep a function's state: a result laid into its slot; a new block. -/
namespace Go.Proofs.YtnooelecdbbfkaaGreatDoor.Fw
open Go Go.RowKit
set_option linter.unusedSectionVars false
variable [Inhabited GLT]

theorem nbeq {a b : Nat} : (Nat.beq a b = true) ↔ a = b := ⟨Nat.eq_of_beq_eq_true, fun h => by subst h; exact Nat.beq_refl a⟩
theorem nbeq_f {a b : Nat} : (Nat.beq a b = false) ↔ a ≠ b := by
  rw [← Bool.not_eq_true, not_congr nbeq]
theorem look_cons {α : Type} (t s : Nat) (x : α) (l : List (Nat × α)) : look t ((s, x) :: l) = if s = t then some x else look t l := by
  show (bif Nat.beq s t then some x else look t l) = _
  by_cases h : s = t
  · rw [nbeq.2 h, if_pos h]; rfl
  · rw [nbeq_f.2 h, if_neg h]; rfl

theorem wtFree_spec {dst : Nat} : ∀ {l : List (Nat × D)}, wtFree dst l = true → ∀ t d, look t l = some d → t ≠ dst ∧ ∃ s b x, d = .wh s b x ∧ s ≠ dst
  | [], _, t, d, h => by simp [look] at h
  | (t', d') :: l, hf, t, d, h => by
    cases d' with
    | wh s b x =>
      simp only [wtFree, Bool.and_eq_true, Bool.not_eq_true', nbeq_f] at hf
      rw [look_cons] at h
      split at h
      · rename_i e; subst e
        simp only [Option.some.injEq] at h; subst h
        exact ⟨hf.1.1, s, b, x, rfl, hf.1.2⟩
      · exact wtFree_spec hf.2 t d h
    | _ => simp [wtFree] at hf

theorem getD_put {a : Act} {dst : Nat} {v : Value} (h : dst < a.tmps.size) (t : Nat) : (a.put (some dst) v).tmps.getD t undef = if t = dst then v else a.tmps.getD t undef := by
  simp only [Act.put, Array.getD_eq_getD_getElem?, Array.getElem?_setIfInBounds]
  by_cases e : dst = t
  · subst e; simp [h]
  · have e' : t ≠ dst := fun h => e h.symm
    simp [e, e']

section
variable {c : Ctx} {env : Env} {a : Act} {w : World}

/-- RepT asks of the state of boxes, maps and stamps alone. -/
theorem Step.sameEnv {env' : Env} (hb : env'.bx = env.bx) (hm : env'.mp = env.mp) (hu : env'.us = env.us) (hd : env'.dd = env.dd) : Step c env w c env' w :=
  .of (Keeps.refl _ _) (fun _ h => ⟨by rw [hb]; exact h, rfl⟩) (fun _ h => ⟨by rw [hm]; exact h, rfl⟩) (fun _ _ h => by rw [hu]; exact h) (fun _ h => by rw [hd]; exact h) (fun _ _ _ => ⟨rfl, fun _ _ => ⟨rfl, fun _ h => h⟩⟩) (fun _ _ h => ⟨by rw [← hu]; exact h.1, by rw [← hd]; exact h.2⟩)

theorem BoxOK.step {c' : Ctx} {env' : Env} {w' : World} {s : Nat} {b : BoxC} (S : StepW c env w c' env' w') (h : BoxOK c env w s b) (hρ : c'.ρ s = c.ρ s) (hh : w'.heap[c.ρ s]? = w.heap[c.ρ s]?)
    (hI : ∀ o, c'.I (c.ρ s) o → c.I (c.ρ s) o) : BoxOK c' env' w' s b := by
  obtain ⟨vs, e, h1, h2, h3, h4⟩ := h
  exact ⟨vs, e, by rw [hρ, hh]; exact h1, h2.mono fun _ _ => S.repC, fun hf o ho => by rw [hρ]; exact S.keeps.im _ _ (h3 hf o ho), fun hf o ho => h4 hf o (hI o (by rw [hρ] at ho; exact ho))⟩

theorem MapOK.stepK {c' : Ctx} {w' : World} {s : Nat} {m : MapC} (K : Keeps c.I c'.I w w') (h : MapOK c w s m) (hρ : c'.ρ s = c.ρ s) (hh : w'.heap[c.ρ s]? = w.heap[c.ρ s]?)
    (hI : ∀ o, c'.I (c.ρ s) o → c.I (c.ρ s) o) : MapOK c' w' s m := by
  obtain ⟨es, k, h1, h2, h3, h0, h4, h5⟩ := h
  refine ⟨es, k, by rw [hρ, hh]; exact h1, RepL.keeps K _ _ h2, RepL.keeps K _ _ h3, h0, fun hf => by rw [hρ]; exact K.im _ _ (h4 hf), fun hf o ho => h5 hf o (hI o (by rw [hρ] at ho; exact ho))⟩
theorem MapOK.step {c' : Ctx} {env' : Env} {w' : World} {s : Nat} {m : MapC} (S : Step c env w c' env' w') (h : MapOK c w s m) (hρ : c'.ρ s = c.ρ s) (hh : w'.heap[c.ρ s]? = w.heap[c.ρ s]?)
    (hI : ∀ o, c'.I (c.ρ s) o → c.I (c.ρ s) o) : MapOK c' w' s m := h.stepK S.keeps hρ hh hI

theorem RepW.step {c' : Ctx} {env' : Env} {w' : World} (S : StepW c env w c' env' w') {tmps : Array Value} {d : D} {v : Value} (h : RepW c env w tmps d v) : RepW c' env' w' tmps d v := by
  cases d <;> first | exact h.elim | exact ⟨fun hs => S.repT (h.1 hs), h.2⟩

/-- The result of an operation in its slot. -/
theorem St.put {dst : Nat} {d : D} {v : Value} (h : St c env a w) (hd : RepT c env w d v) {env' : Env} (he : env.set dst none d = some env') : St c env' (a.put (some dst) v) w := by
  unfold Env.set at he
  cases hc : (Nat.blt dst env.nt && wtFree dst env.wt) with
  | false => rw [hc] at he; cases he
  | true =>
    rw [hc] at he
    simp only [cond_true, Option.some.injEq] at he
    subst he
    simp only [Bool.and_eq_true, Nat.blt_eq] at hc
    have hlt : dst < a.tmps.size := by rw [h.nt]; exact hc.1
    have S : Step c env w c { env with tm := (dst, d) :: env.tm } w := Step.sameEnv rfl rfl rfl rfl
    refine ⟨by simp [Act.put, h.nt], h.df, ?_, ?_, fun s b hs => (h.bx s b hs).step S rfl rfl (fun _ x => x), fun s m hs => (h.mp s m hs).step S rfl rfl (fun _ x => x), h.inj, h.above, h.lt, h.ownInj, h.ownAbove, h.im, h.im0, h.imNew, h.base, h.gh, h.rows S⟩
    · intro t x hx
      rw [look_cons] at hx
      rw [getD_put hlt]
      split at hx
      · rename_i e; subst e; cases hx; simp only [if_true]; exact S.repT hd
      · rename_i e; rw [if_neg (fun e' => e e'.symm)]; exact S.repT (h.tm t x hx)
    · intro t x hx
      obtain ⟨hne, s, b, y, rfl, hs⟩ := wtFree_spec hc.2 t x hx
      simp only [RepW, getD_put hlt, if_neg hs, if_neg hne]
      exact ⟨fun hg => S.repT ((h.wt t _ hx).1 hg), (h.wt t _ hx).2⟩

/-- Likewise of one under a guard, whether it has been done or not. -/
theorem St.putW {dst s : Nat} {b : Bool} {d : D} {v : Value} (h : St c env a w) (hd : a.tmps.getD s undef = .bool b → RepT c env w d v) (hu : a.tmps.getD s undef ≠ .bool b → v = undef) {env' : Env} (he : env.set dst (some (s, b)) d = some env') : St c env' (a.put (some dst) v) w := by
  unfold Env.set at he
  cases hc : (Nat.blt dst env.nt && wtFree dst env.wt) with
  | false => rw [hc] at he; cases he
  | true =>
    rw [hc] at he
    simp only [cond_true] at he
    cases hsd : Nat.beq s dst with
    | true => rw [hsd] at he; cases he
    | false =>
    rw [hsd] at he
    simp only [cond_false, Option.some.injEq] at he
    subst he
    have hsd := nbeq_f.1 hsd
    simp only [Bool.and_eq_true, Nat.blt_eq] at hc
    have hlt : dst < a.tmps.size := by rw [h.nt]; exact hc.1
    have S : Step c env w c { env with tm := (dst, .undef) :: env.tm, wt := (dst, .wh s b d) :: env.wt } w := Step.sameEnv rfl rfl rfl rfl
    refine ⟨by simp [Act.put, h.nt], h.df, ?_, ?_, fun s b hs => (h.bx s b hs).step S rfl rfl (fun _ x => x), fun s m hs => (h.mp s m hs).step S rfl rfl (fun _ x => x), h.inj, h.above, h.lt, h.ownInj, h.ownAbove, h.im, h.im0, h.imNew, h.base, h.gh, h.rows S⟩
    · intro t x hx
      rw [look_cons] at hx
      rw [getD_put hlt]
      split at hx
      · cases hx; trivial
      · rename_i e; rw [if_neg (fun e' => e e'.symm)]; exact S.repT (h.tm t x hx)
    · intro t x hx
      rw [look_cons] at hx
      split at hx
      · rename_i e; subst e; cases hx
        simp only [RepW, getD_put hlt, if_neg hsd, if_true]
        exact ⟨fun hg => S.repT (hd hg), hu⟩
      · rename_i e
        obtain ⟨hne, s', b', y, rfl, hs⟩ := wtFree_spec hc.2 t x hx
        simp only [RepW, getD_put hlt, if_neg hs, if_neg hne]
        exact ⟨fun hg => S.repT ((h.wt t _ hx).1 hg), (h.wt t _ hx).2⟩

/-- What is forgotten. -/
theorem St.endRegion (h : St c env a w) : St c { env with wt := [] } a w :=
  ⟨h.nt, h.df, fun t d hd => (Step.sameEnv (c := c) (env := env) (env' := { env with wt := [] }) (w := w) rfl rfl rfl rfl).repT (h.tm t d hd), fun t d hd => by simp [look] at hd,
    fun s b hs => (h.bx s b hs).step (Step.toStepW (Step.sameEnv rfl rfl rfl rfl)) rfl rfl (fun _ x => x), fun s m hs => (h.mp s m hs).step (env := env) (env' := env) (Step.sameEnv rfl rfl rfl rfl) rfl rfl (fun _ x => x), h.inj, h.above, h.lt, h.ownInj, h.ownAbove, h.im, h.im0, h.imNew, h.base, h.gh, h.rows (Step.sameEnv rfl rfl rfl rfl)⟩

/-- A new block that nothing names yet: whatever it is. -/
theorem Step.alloc (hlt : ∀ b o, c.I b o → b < w.heap.size) (hown : ∀ st g, env.live st → c.σ st = some g → g < w.heap.size) (o : Obj) : Step c env w c env (w.alloc o) := by
  have hh : ∀ k, k < w.heap.size → (w.alloc o).heap[k]? = w.heap[k]? := fun k hk => Below.heap_alloc w o k hk
  refine .of (⟨fun _ _ h => h, fun x u hi hu => ?_, fun r es k hi hr => (hh r (hlt _ _ hi)).trans hr⟩) (fun _ h => ⟨h, rfl⟩) (fun _ h => ⟨h, rfl⟩) (fun _ _ h => h) (fun _ h => h) (fun st hl _ => ⟨rfl, fun g hg => ⟨hh g (hown st g hl hg), fun _ h => h⟩⟩)
  exact (World.cell?_of_block (hh _ (hlt _ _ hi))).trans hu

theorem Step.allocSt (h : St c env a w) (o : Obj) : Step c env w c env (w.alloc o) := Step.alloc h.im (fun st g hl hg => (h.ownAbove st g hl hg).2.1) o

theorem St.alloc (h : St c env a w) (o : Obj) : St c env a (w.alloc o) := by
  have S := Step.allocSt h o
  have hh : ∀ k, k < w.heap.size → (w.alloc o).heap[k]? = w.heap[k]? := fun k hk => Below.heap_alloc w o k hk
  exact ⟨h.nt, h.df, fun t d hd => S.repT (h.tm t d hd), fun t d hd => (h.wt t d hd).step S,
    fun s b hs => (h.bx s b hs).step S rfl (hh _ (h.lt s (.inl (by rw [hs]; rfl)))) (fun _ x => x), fun s m hs => (h.mp s m hs).step S rfl (hh _ (h.lt s (.inr (by rw [hs]; rfl)))) (fun _ x => x),
    h.inj, h.above, fun s hs => Nat.lt_trans (h.lt s hs) (by simp), h.ownInj, fun st g hl hg => ⟨(h.ownAbove st g hl hg).1, Nat.lt_trans (h.ownAbove st g hl hg).2.1 (by simp), (h.ownAbove st g hl hg).2.2⟩,
    fun b o' hi => Nat.lt_trans (h.im b o' hi) (by simp), h.im0.trans S.keeps, h.imNew, h.base.alloc h.base.size o, ⟨h.gh.1, S.fix h.gh.2⟩, h.rows S⟩

/-- The world draws. -/
theorem St.drew (h : St c env a w) : St c env a w.drew := by
  have S : Step c env w c env w.drew := .of (⟨fun _ _ h => h, fun _ _ _ h => h, fun _ _ _ _ h => h⟩) (fun _ h => ⟨h, rfl⟩) (fun _ h => ⟨h, rfl⟩) (fun _ _ h => h) (fun _ h => h) (fun _ _ _ => ⟨rfl, fun _ _ => ⟨rfl, fun _ h => h⟩⟩)
  exact ⟨h.nt, h.df, fun t d hd => S.repT (h.tm t d hd), fun t d hd => (h.wt t d hd).step S, fun s b hs => (h.bx s b hs).step S rfl rfl (fun _ x => x), fun s m hs => (h.mp s m hs).step S rfl rfl (fun _ x => x),
    h.inj, h.above, h.lt, h.ownInj, h.ownAbove, h.im, h.im0.trans S.keeps, h.imNew, h.base.drew, ⟨h.gh.1, S.fix h.gh.2⟩, h.rows S⟩

/-- A new block becomes the local variable of a slot. -/
theorem St.newBox (h : St c env a w) {dst : Nat} {cells : List D} {vs : List Value} (isAgg : Bool) (e : TypeId) (hb : look dst env.bx = none) (hm : look dst env.mp = none) (hv : All2 (RepC c env w) cells vs) :
    St { c with ρ := fun s => if s = dst then w.heap.size else c.ρ s } { env with bx := (dst, ⟨cells, isAgg, false⟩) :: env.bx } a (w.alloc (.cells ⟨vs⟩ e)) ∧
    RepC { c with ρ := fun s => if s = dst then w.heap.size else c.ρ s } { env with bx := (dst, ⟨cells, isAgg, false⟩) :: env.bx } (w.alloc (.cells ⟨vs⟩ e)) (.loc dst 0) (.pointer (some ⟨w.heap.size, 0, none⟩)) := by
  have hh : ∀ k, k < w.heap.size → (w.alloc (.cells ⟨vs⟩ e)).heap[k]? = w.heap[k]? := fun k hk => Below.heap_alloc w _ k hk
  have hne : ∀ s, (look s env.bx).isSome = true ∨ (look s env.mp).isSome = true → s ≠ dst := by
    rintro s hs rfl; rcases hs with hs | hs
    · rw [hb] at hs; cases hs
    · rw [hm] at hs; cases hs
  have hblk : ∀ s, Env.blk { env with bx := (dst, ⟨cells, isAgg, false⟩) :: env.bx } s → s = dst ∨ env.blk s := by
    intro s hs
    unfold Env.blk at hs ⊢
    simp only [look_cons] at hs
    by_cases e : dst = s
    · exact .inl e.symm
    · rw [if_neg e] at hs; exact .inr hs
  have S : Step c env w { c with ρ := fun s => if s = dst then w.heap.size else c.ρ s } { env with bx := (dst, ⟨cells, isAgg, false⟩) :: env.bx } (w.alloc (.cells ⟨vs⟩ e)) := by
    have S1 := Step.allocSt h (.cells ⟨vs⟩ e)
    refine .of (S1.keeps) (fun s hs => ⟨?_, by simp [hne s (.inl hs)]⟩) (fun s hs => ⟨hs, by simp [hne s (.inr hs)]⟩) (S1.us) (S1.dd) (S1.ownS)
    simp only [look_cons]; split
    · rfl
    · exact hs
  refine ⟨⟨h.nt, h.df, fun t d hd => S.repT (h.tm t d hd), fun t d hd => (h.wt t d hd).step S, ?_, ?_, ?_, ?_, ?_, h.ownInj, ?_, ?_, h.im0.trans S.keeps, h.imNew, h.base.alloc h.base.size _, ⟨h.gh.1, S.fix h.gh.2⟩, h.rows S⟩, by simp [look_cons], by simp⟩
  · intro s b hs
    simp only [look_cons] at hs
    split at hs
    · rename_i e'; subst e'; cases hs
      exact ⟨vs, e, by simp only [if_true]; exact heap_alloc_new w _, hv.mono fun _ _ => S.repC, (fun hf => by cases hf), (fun _ o ho => by have ho : c.I (if dst = dst then w.heap.size else c.ρ dst) o := ho; rw [if_pos rfl] at ho; exact Nat.lt_irrefl _ (h.im _ _ ho))⟩
    · have hlt := h.lt s (.inl (by rw [hs]; rfl))
      exact (h.bx s b hs).step S (by simp [hne s (.inl (by rw [hs]; rfl))]) (hh _ hlt) (fun _ x => x)
  · intro s m hs
    have hlt := h.lt s (.inr (by rw [hs]; rfl))
    exact (h.mp s m hs).step S (by simp [hne s (.inr (by rw [hs]; rfl))]) (hh _ hlt) (fun _ x => x)
  · intro s s' hs hs' e'
    rcases hblk s hs with rfl | h1 <;> rcases hblk s' hs' with rfl | h2
    · rfl
    · simp only [if_true, if_neg (hne s' h2)] at e'; have := h.lt s' h2; omega
    · simp only [if_true, if_neg (hne s h1)] at e'; have := h.lt s h1; omega
    · simp only [if_neg (hne s h1), if_neg (hne s' h2)] at e'; exact h.inj s s' h1 h2 e'
  · intro s hs
    rcases hblk s hs with rfl | h1
    · simp only [if_true]; exact h.base.size
    · simp only [if_neg (hne s h1)]; exact h.above s h1
  · intro s hs
    rcases hblk s hs with rfl | h1
    · simp
    · simp only [if_neg (hne s h1)]; exact Nat.lt_trans (h.lt s h1) (by simp)
  · intro st g hl hg
    obtain ⟨h1, h2, h3⟩ := h.ownAbove st g hl hg
    refine ⟨h1, Nat.lt_trans h2 (by simp), fun s hs => ?_⟩
    rcases hblk s hs with rfl | h1
    · simp only [if_true]; omega
    · simp only [if_neg (hne s h1)]; exact h3 s h1
  · intro b o hi; exact Nat.lt_trans (h.im b o hi) (by simp)
end

end Go.Proofs.YtnooelecdbbfkaaGreatDoor.Fw

/- Operations that make no memory: what they yield, and that it reads as the data's. -/
namespace Go.Proofs.YtnooelecdbbfkaaGreatDoor.Fw
open Go Go.RowKit
set_option linter.unusedSectionVars false
variable [Inhabited GLT]

def notAggDesc : TypeDesc → Bool
  | .struct _ | .array _ _ => false
  | _ => true

/-- What the table says of a type is so. -/
def KindOK (P : Program) (t : Nat) : TK → Prop
  | .int k => P.underlying t = some (.int k)
  | .bool => P.underlying t = some .bool
  | .str => P.underlying t = some .string
  | .agg fs => ∃ Fs : Array Field, P.underlying t = some (.struct Fs) ∧ Fs.toList.map (fun f => (f.offset, f.type)) = fs ∧ (Fs.toList.all fun f => f.name != "_") = true ∧ P.stoodInHeld t = false ∧ (Fs.toList.mapM fun f => (P.info? f.type).map fun i => (f.offset, i.size)).isSome = true
  | .arr n e => P.underlying t = some (.array n e)
  | .sl e => P.underlying t = some (.slice e)
  | .mp k v => P.underlying t = some (.map k v)
  | .ptr => ∃ e, P.underlying t = some (.pointer e)
  | .func => ∃ x y z, P.underlying t = some (.func x y z)
  | .ifc => ∃ x, P.underlying t = some (.interface x)
  | .other => ∃ d, P.underlying t = some d ∧ notAggDesc d = true

structure TEok (P : Program) (t : Nat) (e : TE) : Prop where
  info : ∃ i z, P.info? t = some i ∧ i.size = e.size ∧ i.bytes = e.bytes ∧ i.zero = some z ∧ z.cells.size = e.size ∧ e.zero.cells.length = e.size ∧ ∀ c env w, RepV c env w e.zero z
  kind : KindOK P t e.kind
  one : e.isAgg = false → e.size = 1
  eqg : e.eqg = true → P.eqGuardType P.depth t = false

def TyOK (P : Program) (T : Ty) : Prop := ∀ t e, T t = some e → TEok P t e

section
variable {P : Program} {T : Ty}

theorem TEok.size {t : Nat} {e : TE} (h : TEok P t e) (w : World) : (sizeOf t).run P w = .ok e.size w := by
  obtain ⟨i, z, hi, hs, _⟩ := h.info
  simp [sizeOf, typeInfo, hi, hs]

theorem TEok.isAgg {t : Nat} {e : TE} (h : TEok P t e) (w : World) : (isAgg t).run P w = .ok e.isAgg w := by
  have hk := h.kind
  unfold TE.isAgg
  cases hk' : e.kind <;> rw [hk'] at hk <;> simp only [KindOK] at hk
  case agg fs => obtain ⟨Fs, h, _⟩ := hk; simp [Go.isAgg, run_underlying h]
  case other =>
    obtain ⟨d, h, hd⟩ := hk
    cases d <;> first | (simp [notAggDesc] at hd; done) | simp [Go.isAgg, run_underlying h]
  case ptr => obtain ⟨x, h⟩ := hk; simp [Go.isAgg, run_underlying h]
  case func => obtain ⟨x, y, z, h⟩ := hk; simp [Go.isAgg, run_underlying h]
  case ifc => obtain ⟨x, h⟩ := hk; simp [Go.isAgg, run_underlying h]
  all_goals simp [Go.isAgg, run_underlying hk]

variable {c : Ctx} {env : Env} {a : Act} {w : World}

/-- The guard under which an operation is done holds. -/
def GOK (a : Act) (g : Option (Nat × Bool)) : Prop := ∀ s b, g = some (s, b) → a.tmps.getD s undef = .bool b

theorem rep_const (v : Value) : RepT c env w (dconst v) v := by
  cases v with
  | int k n => simp [dconst, RepT, RepV, RepC, Rep]
  | bool b => simp [dconst, RepT, RepV, RepC, Rep]
  | string s => simp [dconst, RepT, RepV, RepC, Rep]
  | nilFunc => simp [dconst, RepT, RepV, RepC, Rep]
  | nilIface => simp [dconst, RepT, RepV, RepC, Rep]
  | pointer p => cases p <;> simp [dconst, RepT, RepV, RepC, Rep]
  | slice p n k =>
    cases p with
    | some p => simp [dconst, RepT]
    | none =>
      unfold dconst
      split <;> first | (simp [RepT]; done) | skip
      all_goals simp_all [RepT, RepV, RepC, Rep, OwnC]
  | map r => cases r <;> simp [dconst, RepT, RepV, RepC, Rep]
  | _ => simp [dconst, RepT]

theorem rep_tv (h : St c env a w) {g : Option (Nat × Bool)} (hg : GOK a g) (x : Operand) : RepT c env w (unw g (tv env.wt env.tm x)) (a.eval x) := by
  cases x with
  | tmp t =>
    simp only [tv, Act.eval]
    cases hw : look t env.wt with
    | some d =>
      have := h.wt t d hw
      cases d <;> first | exact this.elim | skip
      rename_i s b d
      simp only [unw]
      cases g with
      | none => trivial
      | some p =>
        obtain ⟨s', b'⟩ := p
        simp only
        cases hc : (Nat.beq s s' && b == b') with
        | false => trivial
        | true =>
          simp only [Bool.and_eq_true, beq_iff_eq] at hc
          obtain ⟨h1, rfl⟩ := hc
          obtain rfl := nbeq.1 h1
          exact this.1 (hg s b rfl)
    | none =>
      simp only
      cases ht : look t env.tm with
      | none => simp [unw, RepT]
      | some d =>
        have := h.tm t d ht
        simp only [Option.getD_some]
        cases d <;> first | exact this | (simp only [unw]; exact (this : False).elim)
  | const v =>
    have := rep_const (c := c) (env := env) (w := w) v
    simp only [tv, Act.eval]
    cases hd : dconst v <;> rw [hd] at this <;> first | exact this | exact (this : False).elim
  | global n => simp [tv, unw, RepT]
  | func f => simp [tv, unw, Act.eval, RepT, RepV, RepC, Rep, RepL]

theorem repT_int {k : IntKind} {n : Int} {v : Value} (h : RepT c env w (.int k n) v) : v = .int k n := by simpa [RepT, RepV, RepC, Rep] using h
theorem repT_bool {b : Bool} {v : Value} (h : RepT c env w (.bool b) v) : v = .bool b := by simpa [RepT, RepV, RepC, Rep] using h
theorem repT_str {l : List UInt8} {v : Value} (h : RepT c env w (.str l) v) : v = .string ⟨⟨l⟩⟩ := by simpa [RepT, RepV, RepC, Rep] using h
theorem rep_repC {d : D} {v : Value} (hc : d.isCell = true) (h : Rep c.I w d v) : RepC c env w d v := by
  cases d with
  | agg cs => cases hc
  | tup cs => cases hc
  | sl st es xs =>
    simp only [Rep] at h
    exact ⟨by simp only [Rep]; exact ⟨trivial, h.2⟩, .inl h.1⟩
  | loc _ _ | lsl _ _ _ | mapr _ | wh _ _ _ | undef | rsl _ _ _ _ | rptr _ _ _ _ => simp only [Rep] at h
  | _ => exact h
theorem rep_repCL : ∀ {cs : List D} {vs : List Value}, cs.all D.isCell = true → All2 (Rep c.I w) cs vs → All2 (RepC c env w) cs vs
  | [], [], _, _ => trivial
  | d :: ds, v :: vs, hc, h => by
    simp only [List.all_cons, Bool.and_eq_true] at hc
    exact ⟨rep_repC hc.1 h.1, rep_repCL hc.2 h.2⟩
  | [], _ :: _, _, h => h.elim
  | _ :: _, [], _, h => h.elim
theorem rep_repV {d : D} {v : Value} (hc : d.isVal = true) (h : Rep c.I w d v) : RepV c env w d v := by
  cases d with
  | agg cs =>
    simp only [Rep] at h
    obtain ⟨vs, e, hc, h⟩ := h
    exact ⟨vs, e, rep_repCL hc (all2_repL.1 h)⟩
  | tup cs => cases hc
  | _ => simp only [RepV]; exact rep_repC rfl h
theorem rep_repVL : ∀ {cs : List D} {vs : List Value}, cs.all D.isVal = true → All2 (Rep c.I w) cs vs → All2 (RepV c env w) cs vs
  | [], [], _, _ => trivial
  | d :: ds, v :: vs, hc, h => by
    simp only [List.all_cons, Bool.and_eq_true] at hc
    exact ⟨rep_repV hc.1 h.1, rep_repVL hc.2 h.2⟩
  | [], _ :: _, _, h => h.elim
  | _ :: _, [], _, h => h.elim
theorem rep_repT {d : D} {v : Value} (h : Rep c.I w d v) : RepT c env w d v := by
  cases d with
  | tup cs =>
    simp only [Rep] at h
    obtain ⟨vs, e, hc, h⟩ := h
    exact ⟨vs, e, rep_repVL hc (all2_repL.1 h)⟩
  | undef => trivial
  | _ => simp only [RepT]; exact rep_repV rfl h

/-- What a value operation leaves: a value that reads as said, the world as it was. -/
def Yield (P : Program) (c : Ctx) (env : Env) (w : World) (d : D) (s : Sem Value) : Prop := ∃ v, s.run P w = .ok v w ∧ RepT c env w d v

theorem Yield.next {d : D} {s : Sem Value} (h : Yield P c env w d s) : ∃ v, (do pure (Next.value (← s)) : Sem Next).run P w = .ok (.value v) w ∧ RepT c env w d v := by
  obtain ⟨v, h, hr⟩ := h
  exact ⟨v, by simp [h], hr⟩

/-! ### Reading a variable -/
theorem repC_one {d : D} {v : Value} (h : RepC c env w d v) : v.oneCell' = true := by
  cases d <;> simp only [RepC, Rep] at h
  case int => subst h; rfl
  case bool => subst h; rfl
  case str => subst h; rfl
  case sl => obtain ⟨⟨_, h⟩, _⟩ := h; rcases h with ⟨rfl, _⟩ | ⟨_, _, rfl, _⟩ <;> rfl
  case eptr d off => obtain ⟨a, rfl, _⟩ := (rep_eptr _ _ _ _ _).1 h; rfl
  case nilp => subst h; rfl
  case fn => obtain ⟨vs, rfl, _⟩ := h; rfl
  case nilf => subst h; rfl
  case ifc => obtain ⟨u, rfl, _⟩ := h; rfl
  case nili => subst h; rfl
  case mapv => obtain ⟨r, rfl, _⟩ := h; rfl
  case nilm => subst h; rfl
  case yld => subst h; rfl
  case loc => obtain ⟨_, rfl⟩ := h; rfl
  case lsl => obtain ⟨_, cap, rfl, _⟩ := h; rfl
  case mapr => obtain ⟨_, rfl⟩ := h; rfl
  case rsl => exact h.2.1
  case rptr => exact h.2.1
  case nils => subst h; rfl
  case sle => obtain ⟨a, cap, rfl⟩ := h; rfl
theorem repC_isCell {d : D} {v : Value} (h : RepC c env w d v) : d.isCell = true := by
  cases d <;> first | rfl | exact h.elim

theorem repCs_get {I : Im} : ∀ {ds : List D} {a : Addr} {j : Nat}, RepCs I w ds a j → ∀ (i : Nat) (x : D), ds[i]? = some x → x.isCell = true ∧ I (a.add (j + i)).block (a.add (j + i)).off ∧ ∃ u, w.cell? (a.add (j + i)) = some u ∧ Rep I w x u
  | [], _, _, _, i, x, h => by simp at h
  | d :: ds, a, j, h, 0, x, e => by
    simp only [List.getElem?_cons_zero, Option.some.injEq] at e; subst e
    simp only [RepCs] at h
    exact h.1
  | d :: ds, a, j, h, i + 1, x, e => by
    simp only [RepCs] at h
    have := repCs_get h.2 i x (by simpa using e)
    rw [show j + (i + 1) = j + 1 + i from by omega]
    exact this
theorem repAt_get {I : Im} {d : D} {a : Addr} (h : RepAt I w d a) (i : Nat) (x : D) (e : d.cells[i]? = some x) : x.isCell = true ∧ I (a.add i).block (a.add i).off ∧ ∃ u, w.cell? (a.add i) = some u ∧ Rep I w x u := by
  cases d with
  | agg cs => simpa using repCs_get (I := I) h i x e
  | tup cs => cases h.1
  | _ =>
    cases i with
    | zero => simp only [D.cells, List.getElem?_cons_zero, Option.some.injEq] at e; subst e; simp only [RepAt] at h; exact ⟨rfl, by simpa [Addr.add] using h.2⟩
    | succ i => simp [D.cells] at e

theorem add_add' (a : Addr) (i j : Nat) : (a.add i).add j = a.add (i + j) := by
  unfold Addr.add
  by_cases hi : i = 0 <;> by_cases hj : j = 0 <;> simp [hi, hj, Nat.add_assoc]

/-- Reading t at an address whose cells read as ds from off on. -/
theorem yield_load {t : Nat} {e : TE} (he : TEok P t e) {ds : List D} {off : Nat} {d : D} {ad : Addr} (hp : partD e ds off = some d)
    (hc : ∀ i x, ds[off + i]? = some x → ∃ u, w.cell? (ad.add i) = some u ∧ RepC c env w x u) : Yield P c env w d (loadVar t ad) := by
  unfold partD at hp
  unfold loadVar
  cases hag : e.isAgg with
  | true =>
    rw [hag, cond_true] at hp
    cases hl : Nat.ble (off + e.size) ds.length with
    | false => rw [hl] at hp; cases hp
    | true =>
    rw [hl, cond_true, Option.some.injEq] at hp
    subst hp
    have hl := Nat.le_of_ble_eq_true hl
    -- the values
    have key : ∀ n, n ≤ e.size → ∃ vs : List Value, vs.length = n ∧ (∀ (j : Nat) v, vs[j]? = some v → w.cell? (ad.add j) = some v) ∧ All2 (RepC c env w) ((ds.drop off).take n) vs := by
      intro n
      induction n with
      | zero => exact fun _ => ⟨[], rfl, by simp, by simp [All2]⟩
      | succ n ih =>
        intro hn
        obtain ⟨vs, h1, h2, h3⟩ := ih (by omega)
        obtain ⟨x, hx⟩ : ∃ x, ds[off + n]? = some x := ⟨_, List.getElem?_eq_getElem (by omega)⟩
        obtain ⟨u, hu, hr⟩ := hc n x hx
        refine ⟨vs ++ [u], by simp [h1], fun j v hj => ?_, ?_⟩
        · by_cases hjn : j < n
          · exact h2 j v (by rw [List.getElem?_append_left (by omega)] at hj; exact hj)
          · have : j = n := by
              have := (List.getElem?_eq_some_iff.1 hj).1
              simp at this; omega
            subst this
            rw [List.getElem?_append_right (by omega)] at hj
            simp [h1] at hj; subst hj; exact hu
        · rw [List.take_add_one, List.getElem?_drop, hx]
          exact h3.append ⟨hr, trivial⟩
    obtain ⟨vs, h1, h2, h3⟩ := key e.size (Nat.le_refl _)
    refine ⟨.agg ⟨vs⟩, ?_, ⟨vs, rfl, h3⟩⟩
    have := run_loadCells_list (P := P) w ad vs h2
    rw [h1] at this
    simp [he.isAgg, he.size, hag, this]
  | false =>
    rw [hag, cond_false] at hp
    obtain ⟨u, hu, hr⟩ := hc 0 d (by simpa using hp)
    refine ⟨u, by simp [he.isAgg, hag, Addr.add] at hu ⊢; simp [hu], ?_⟩
    have := repC_isCell hr
    cases d <;> first | (cases this; done) | exact hr | trivial

theorem repT_loc {s off : Nat} {v : Value} (h : RepT c env w (.loc s off) v) : (look s env.bx).isSome = true ∧ v = .pointer (some ⟨c.ρ s, off, none⟩) := h
theorem repT_eptr {d : D} {off : Nat} {v : Value} (h : RepT c env w (.eptr d off) v) : ∃ a : Addr, v = .pointer (some (a.add off)) ∧ RepAt c.I w d a := (rep_eptr _ _ _ _ _).1 h
theorem repT_eptr_mk {d : D} {off : Nat} {a : Addr} (h : RepAt c.I w d a) : RepT c env w (.eptr d off) (.pointer (some (a.add off))) := (rep_eptr _ _ _ _ _).2 ⟨a, rfl, h⟩

/-- The cells of a local variable. -/
theorem box_cells {s : Nat} {b : BoxC} (h : BoxOK c env w s b) (off : Nat) : ∀ (i : Nat) (x : D), b.cells[off + i]? = some x → ∃ u, w.cell? ((⟨c.ρ s, off, none⟩ : Addr).add i) = some u ∧ RepC c env w x u := by
  intro i x hx
  obtain ⟨vs, e, hh, hv, _⟩ := h
  obtain ⟨u, hu, hr⟩ := hv.get (off + i) x hx
  refine ⟨u, ?_, hr⟩
  have := cell_of_row w (c.ρ s) (off + i) ⟨vs⟩ e (0, 0) hh
  unfold Addr.add
  split
  · rename_i h0; subst h0; simpa using this.trans (by simpa using hu)
  · simpa using this.trans (by simpa using hu)

theorem yield_loadAt {t : Nat} {e : TE} (he : TEok P t e) (h : St c env a w) {x : D} {v : Value} (hx : RepT c env w x v) {d : D}
    (hr : loadD env.bx e x = some d) : Yield P c env w d (Instr.loadAt t v) := by
  cases x <;> first | (cases hr; done) | skip
  case loc s off =>
    obtain ⟨_, rfl⟩ := repT_loc hx
    simp only [loadD] at hr
    cases hb : look s env.bx with
    | none => rw [hb] at hr; cases hr
    | some b =>
      rw [hb] at hr
      obtain ⟨v, h1, h2⟩ := yield_load he hr (box_cells (h.bx s b hb) off)
      exact ⟨v, by simpa [Instr.loadAt, Instr.sureAddr] using h1, h2⟩
  case eptr d0 off =>
    obtain ⟨ad, rfl, hat⟩ := repT_eptr hx
    obtain ⟨v, h1, h2⟩ := yield_load (c := c) (env := env) (ad := ad.add off) he hr (fun i y hy => by
      obtain ⟨hc, _, u, hu, hr⟩ := repAt_get hat (off + i) y hy
      exact ⟨u, by rw [add_add']; exact hu, rep_repC hc hr⟩)
    exact ⟨v, by simpa [Instr.loadAt, Instr.sureAddr] using h1, h2⟩

theorem fieldOf_spec (hT : TyOK P T) {t f o : Nat} {eu : TE} (h : fieldOf T t f = some (o, eu)) :
    ∃ (Fs : Array Field) (F : Field), P.underlying t = some (.struct Fs) ∧ Fs[f]? = some F ∧ F.offset = o ∧ T F.type = some eu ∧ eu.size ≠ 0 := by
  unfold fieldOf at h
  cases hT' : T t with
  | none => rw [hT'] at h; cases h
  | some e =>
    rw [hT'] at h
    have hk := (hT t e hT').kind
    simp only at h
    cases hk' : e.kind <;> rw [hk'] at h <;> first | (cases h; done) | skip
    rename_i fs
    rw [hk'] at hk
    obtain ⟨Fs, h1, h2, _⟩ := hk
    simp only at h
    cases hf : fs[f]? with
    | none => rw [hf] at h; cases h
    | some q =>
      obtain ⟨o', u⟩ := q
      rw [hf] at h
      simp only at h
      cases hu : T u with
      | none => rw [hu] at h; cases h
      | some eu' =>
        rw [hu] at h
        simp only at h
        cases hz : Nat.beq eu'.size 0 with
        | true => rw [hz] at h; cases h
        | false =>
          rw [hz] at h
          simp only [cond_false, Option.some.injEq, Prod.mk.injEq] at h
          obtain ⟨rfl, rfl⟩ := h
          rw [← h2, List.getElem?_map, Array.getElem?_toList] at hf
          cases hF : Fs[f]? with
          | none => rw [hF] at hf; simp at hf
          | some F =>
            rw [hF] at hf
            simp only [Option.map_some, Option.some.injEq, Prod.mk.injEq] at hf
            exact ⟨Fs, F, h1, hF, hf.1, by rw [hf.2]; exact hu, nbeq_f.1 hz⟩

/-- The rows that live. -/
theorem rows_look {st : Nat} {r : RowC} (h : look st env.rows = some r) : look st env.rw = some r ∧ st ∉ env.dd := by
  unfold Env.rows at h
  generalize env.rw = l at h ⊢
  induction l with
  | nil => cases h
  | cons p l ih =>
    obtain ⟨k, x⟩ := p
    simp only [List.filter_cons] at h
    rw [look_cons]
    cases hd : env.dd.contains k with
    | true =>
      rw [hd] at h
      simp only [Bool.not_true, Bool.false_eq_true, if_false] at h
      obtain ⟨h1, h2⟩ := ih h
      rw [if_neg]
      · exact ⟨h1, h2⟩
      · rintro rfl; exact h2 (by simpa using hd)
    | false =>
      rw [hd] at h
      simp only [Bool.not_false, if_true, look_cons] at h
      split at h
      · rename_i e; subst e; rw [if_pos rfl]; exact ⟨h, by simpa using hd⟩
      · rename_i e; rw [if_neg e]; exact ih h
theorem rowP_live {st es i off : Nat} {r : RowC} {v : Value} (hx : RepT c env w (.rptr st es i off) v) (hr : look st env.rows = some r) : ∃ g, c.σ st = some g ∧ v = .pointer (some ⟨g, i * es + off, none⟩) :=
  (hx : RowP c env st es i off v).2.2.resolve_left (rows_look hr).2

theorem yield_fieldAddr (hT : TyOK P T) {t f : Nat} {x : D} {v : Value} (hx : RepT c env w x v) {d : D} (hr : fieldAddrD T env.rows t f x = some d) : Yield P c env w d (Instr.fieldAt t v f) := by
  unfold fieldAddrD at hr
  cases hf : fieldOf T t f with
  | none => rw [hf] at hr; cases hr
  | some q =>
    obtain ⟨o, eu⟩ := q
    rw [hf] at hr
    obtain ⟨Fs, F, h1, h2, rfl, h4, h5⟩ := fieldOf_spec hT hf
    have hrun : ∀ ad : Addr, (Instr.fieldAt t (.pointer (some ad)) f).run P w = .ok (.pointer (some (ad.add F.offset))) w := fun ad => by
      simp [Instr.fieldAt, run_underlying h1, h2, Instr.sureAddr, fieldPlace, (hT _ _ h4).size, h5]
    cases x <;> first | (cases hr; done) | skip
    case loc s off =>
      obtain ⟨hs, rfl⟩ := repT_loc hx
      simp only [Option.some.injEq] at hr; subst hr
      refine ⟨_, hrun _, hs, ?_⟩
      unfold Addr.add; split
      · rename_i e; rw [e]; simp
      · rfl
    case eptr d0 off =>
      obtain ⟨ad, rfl, hat⟩ := repT_eptr hx
      simp only [Option.some.injEq] at hr; subst hr
      exact ⟨_, hrun _, by rw [add_add']; exact repT_eptr_mk hat⟩
    case rptr st es i off =>
      simp only at hr
      cases hlk : look st env.rows with
      | none => rw [hlk] at hr; cases hr
      | some r =>
        rw [hlk] at hr
        simp only [Option.map_some, Option.some.injEq] at hr; subst hr
        obtain ⟨g, hg, rfl⟩ := rowP_live hx hlk
        refine ⟨_, hrun _, (hx : RowP c env st es i off _).1, rfl, .inr ⟨g, hg, ?_⟩⟩
        unfold Addr.add; split
        · rename_i e; rw [e]; simp
        · simp only [Nat.add_assoc]

/-- A part of a struct's or an array's cells. -/
theorem yield_part {t : Nat} {e : TE} (he : TEok P t e) {cs : List D} {vs : List Value} (hv : All2 (RepC c env w) cs vs) {off : Nat} {d : D} (hp : partD e cs off = some d) : Yield P c env w d (part t ⟨vs⟩ off) := by
  unfold partD at hp
  unfold part
  cases hag : e.isAgg with
  | true =>
    rw [hag, cond_true] at hp
    cases hl : Nat.ble (off + e.size) cs.length with
    | false => rw [hl] at hp; cases hp
    | true =>
      rw [hl, cond_true, Option.some.injEq] at hp; subst hp
      refine ⟨.agg ((⟨vs⟩ : Array Value).extract off (off + e.size)), by simp [he.isAgg, he.size, hag], (vs.drop off).take e.size, ?_, (hv.drop off).take e.size⟩
      simp [List.extract_eq_take_drop]
  | false =>
    rw [hag, cond_false] at hp
    obtain ⟨u, hu, hr⟩ := hv.get off d hp
    refine ⟨u, by simp [he.isAgg, hag, hu], ?_⟩
    have := repC_isCell hr
    cases d <;> first | (cases this; done) | exact hr | trivial

theorem yield_field (hT : TyOK P T) {t f : Nat} {x : D} {v : Value} (hx : RepT c env w x v) {d : D} (hr : fieldD T t f x = some d) : Yield P c env w d (Instr.field t v f) := by
  unfold fieldD at hr
  cases hf : fieldOf T t f with
  | none => rw [hf] at hr; cases hr
  | some q =>
    obtain ⟨o, eu⟩ := q
    rw [hf] at hr
    obtain ⟨Fs, F, h1, h2, rfl, h4, h5⟩ := fieldOf_spec hT hf
    cases x <;> first | (cases hr; done) | skip
    rename_i cs
    obtain ⟨vs, rfl, hv⟩ := hx
    obtain ⟨u, hu, hr⟩ := yield_part (hT _ _ h4) hv hr
    exact ⟨u, by simp [Instr.field, run_underlying h1, h2, asAgg, hu], hr⟩
end

end Go.Proofs.YtnooelecdbbfkaaGreatDoor.Fw

/- More operations that make no memory. -/
namespace Go.Proofs.YtnooelecdbbfkaaGreatDoor.Fw
open Go Go.RowKit
set_option linter.unusedSectionVars false
variable [Inhabited GLT]

section
variable {P : Program} {T : Ty} {c : Ctx} {env : Env} {a : Act} {w : World}

theorem repRow_get {I : Im} {es : Nat} : ∀ {ds : List D} {b : Addr} {i : Nat}, RepRow I w es ds b i → ∀ (j : Nat) (x : D), ds[j]? = some x → x.cells.length = es ∧ RepAt I w x (b.add ((i + j) * es))
  | [], _, _, _, j, x, h => by simp at h
  | d :: ds, b, i, h, 0, x, e => by
    simp only [List.getElem?_cons_zero, Option.some.injEq] at e; subst e
    exact ((repRow_cons _ _ _ _ _ _ _).1 h).1
  | d :: ds, b, i, h, j + 1, x, e => by
    have := repRow_get ((repRow_cons _ _ _ _ _ _ _).1 h).2 j x (by simpa using e)
    rw [show i + (j + 1) = i + 1 + j from by omega]; exact this

theorem repT_sl {st es : Nat} {xs : List D} {v : Value} (h : RepT c env w (.sl st es xs) v) : ((v = .slice none 0 0 ∧ xs = []) ∨ ∃ (b : Addr) (cap : Nat), v = .slice (some b) xs.length cap ∧ xs.length ≤ cap ∧ RepRow c.I w es xs b 0) ∧ OwnC c env w st es xs.length v := by
  have h : RepC c env w (.sl st es xs) v := h
  simp only [RepC, Rep] at h
  exact ⟨h.1.2, h.2⟩

theorem repT_sl_mk {es : Nat} {xs : List D} {v : Value} (h : (v = .slice none 0 0 ∧ xs = []) ∨ ∃ (b : Addr) (cap : Nat), v = .slice (some b) xs.length cap ∧ xs.length ≤ cap ∧ RepRow c.I w es xs b 0) : RepT c env w (.sl 0 es xs) v := by
  show RepC c env w (.sl 0 es xs) v
  simp only [RepC, Rep]
  exact ⟨⟨trivial, h⟩, .inl rfl⟩

theorem repT_lsl {s off n : Nat} {v : Value} (h : RepT c env w (.lsl s off n) v) : (look s env.bx).isSome = true ∧ ∃ cap, v = .slice (some ⟨c.ρ s, off, none⟩) n cap ∧ n ≤ cap := h

theorem addr_add_mk (b o n : Nat) : (⟨b, o, none⟩ : Addr).add n = ⟨b, o + n, none⟩ := by
  unfold Addr.add; split
  · rename_i h; rw [h]; rfl
  · rfl

theorem repT_rsl {st es lo n : Nat} {r : RowC} {v : Value} (hx : RepT c env w (.rsl st es lo n) v) (hr : look st env.rows = some r) : look st env.us = some rowMark ∧ match c.σ st with
    | none => lo = 0 ∧ n = 0 ∧ ∃ b, v = .slice b 0 0
    | some g => ∃ ad cap, v = .slice (some ad) n cap ∧ (0 < cap → ad = ⟨g, lo * es, none⟩) ∧ n ≤ cap ∧ Room w g ((lo + cap) * es) ∧ cap ≤ maxLen :=
  ⟨(hx : RowV c env w st es lo n v).1, (hx : RowV c env w st es lo n v).2.2.resolve_left (rows_look hr).2⟩

theorem yield_indexAddr (hT : TyOK P T) {t : Nat} {x : D} {v : Value} (hx : RepT c env w x v) {k : IntKind} {n : Int} {s : Bool} {d : D} (hr : indexAddrD T env.rows t x n = some (s, d)) (hs : s = true) : Yield P c env w d (Instr.indexAt t v (.int k n)) := by
  subst hs
  unfold indexAddrD at hr
  cases hT' : T t with
  | none => rw [hT'] at hr; cases hr
  | some e =>
    rw [hT'] at hr
    have hk := (hT t e hT').kind
    simp only at hr
    cases hk' : e.kind <;> rw [hk'] at hr hk <;> first | (cases hr; done) | skip
    case sl u =>
      simp only [KindOK] at hk
      cases x <;> first | (cases hr; done) | skip
      case sl st es xs =>
        simp only at hr
        cases hu : T u with
        | none => rw [hu] at hr; cases hr
        | some eu =>
          rw [hu] at hr
          simp only at hr
          cases hes : Nat.beq es eu.size with
          | false => rw [hes] at hr; cases hr
          | true =>
            obtain rfl := nbeq.1 hes
            rw [hes, cond_true, Option.some.injEq, Prod.mk.injEq] at hr
            obtain ⟨h1, rfl⟩ := hr
            have h1 := of_decide_eq_true h1
            obtain ⟨h2, _⟩ := repT_sl hx
            rcases h2 with ⟨rfl, rfl⟩ | ⟨b, cap, rfl, hcap, hrow⟩
            · simp at h1; omega
            · have hlt : n.toNat < xs.length := by omega
              obtain ⟨hc, hat⟩ := repRow_get hrow n.toNat (xs.getD n.toNat .undef) (by rw [List.getD_eq_getElem?_getD, List.getElem?_eq_getElem hlt]; rfl)
              refine ⟨.pointer (some (b.add (n.toNat * eu.size))), ?_, ?_⟩
              · simp [Instr.indexAt, asIntOf, run_underlying hk, (hT u eu hu).size, h1]
              · have := repT_eptr_mk (env := env) (off := 0) hat
                rw [Nat.zero_add] at this
                simpa [Addr.add] using this
      case lsl s' off m =>
        simp only at hr
        cases hu : T u with
        | none => rw [hu] at hr; cases hr
        | some eu =>
          rw [hu] at hr
          simp only [Option.map_some, Option.some.injEq, Prod.mk.injEq] at hr
          obtain ⟨h1, rfl⟩ := hr
          have h1 := of_decide_eq_true h1
          obtain ⟨hs, cap, rfl, _⟩ := repT_lsl hx
          refine ⟨.pointer (some ((⟨c.ρ s', off, none⟩ : Addr).add (n.toNat * eu.size))), ?_, hs, by rw [addr_add_mk]⟩
          simp [Instr.indexAt, asIntOf, run_underlying hk, (hT u eu hu).size, h1]
      case rsl st es lo m =>
        simp only at hr
        cases hu : T u with
        | none => rw [hu] at hr; cases hr
        | some eu =>
        cases hl : look st env.rows with
        | none => rw [hu, hl] at hr; cases hr
        | some r =>
          rw [hu, hl] at hr
          simp only at hr
          cases hes : Nat.beq es eu.size with
          | false => rw [hes] at hr; cases hr
          | true =>
            obtain rfl := nbeq.1 hes
            rw [hes, cond_true, Option.some.injEq, Prod.mk.injEq] at hr
            obtain ⟨h1, rfl⟩ := hr
            have h1 := of_decide_eq_true h1
            obtain ⟨hus, h2⟩ := repT_rsl hx hl
            cases hσ : c.σ st with
            | none => rw [hσ] at h2; obtain ⟨_, rfl, _⟩ := h2; omega
            | some g =>
              rw [hσ] at h2
              obtain ⟨ad, cap, rfl, hp, hn, _, _⟩ := h2
              obtain rfl := hp (by omega)
              refine ⟨.pointer (some ((⟨g, lo * eu.size, none⟩ : Addr).add (n.toNat * eu.size))), ?_, hus, rfl, .inr ⟨g, hσ, ?_⟩⟩
              · simp [Instr.indexAt, asIntOf, run_underlying hk, (hT u eu hu).size, h1]
              · rw [addr_add_mk, Nat.add_zero, Nat.add_mul]
    case arr m u =>
      simp only [KindOK] at hk
      cases x <;> first | (cases hr; done) | skip
      case loc s' off =>
        simp only at hr
        cases hu : T u with
        | none => rw [hu] at hr; cases hr
        | some eu =>
          rw [hu] at hr
          simp only [Option.map_some, Option.some.injEq, Prod.mk.injEq] at hr
          obtain ⟨h1, rfl⟩ := hr
          have h1 := of_decide_eq_true h1
          obtain ⟨hs, rfl⟩ := repT_loc hx
          refine ⟨.pointer (some ((⟨c.ρ s', off, none⟩ : Addr).add (n.toNat * eu.size))), ?_, hs, by rw [addr_add_mk]⟩
          simp [Instr.indexAt, asIntOf, Instr.sureAddr, run_underlying hk, (hT u eu hu).size, h1]
      case eptr d0 off =>
        simp only at hr
        cases hu : T u with
        | none => rw [hu] at hr; cases hr
        | some eu =>
          rw [hu] at hr
          simp only [Option.map_some, Option.some.injEq, Prod.mk.injEq] at hr
          obtain ⟨h1, rfl⟩ := hr
          have h1 := of_decide_eq_true h1
          obtain ⟨ad, rfl, hat⟩ := repT_eptr hx
          refine ⟨.pointer (some ((ad.add off).add (n.toNat * eu.size))), ?_, by rw [add_add']; exact repT_eptr_mk hat⟩
          simp [Instr.indexAt, asIntOf, Instr.sureAddr, run_underlying hk, (hT u eu hu).size, h1]

theorem yield_index (hT : TyOK P T) {t : Nat} {x : D} {v : Value} (hx : RepT c env w x v) {k : IntKind} {n : Int} {s : Bool} {d : D} (hr : indexD T t x n = some (s, d)) (hs : s = true) : Yield P c env w d (Instr.index t v (.int k n)) := by
  subst hs
  unfold indexD at hr
  cases x <;> first | (cases hr; done) | skip
  case str l =>
    obtain rfl := repT_str hx
    simp only at hr
    cases hT' : T t with
    | none => rw [hT'] at hr; cases hr
    | some e =>
      rw [hT'] at hr
      have hk := (hT t e hT').kind
      simp only at hr
      cases hk' : e.kind <;> rw [hk'] at hr hk <;> first | (cases hr; done) | skip
      simp only [KindOK] at hk
      simp only [Option.some.injEq, Prod.mk.injEq] at hr
      obtain ⟨h1, rfl⟩ := hr
      have h1 := of_decide_eq_true h1
      have hlt : n.toNat < l.length := by omega
      have hb : (⟨⟨l⟩⟩ : ByteArray)[n.toNat]? = some (l[n.toNat]'hlt) := by
        have : n.toNat < (⟨⟨l⟩⟩ : ByteArray).size := hlt
        rw [getElem?_pos (⟨⟨l⟩⟩ : ByteArray) n.toNat this]; rfl
      refine ⟨.int .u8 (l[n.toNat]'hlt).toNat, ?_, by simp [RepT, RepV, RepC, Rep, List.getD_eq_getElem?_getD, hlt]⟩
      simp [Instr.index, asIntOf, run_underlying hk, h1.1, hb]
  case agg cs =>
    obtain ⟨vs, rfl, hv⟩ := hx
    simp only at hr
    cases hT' : T t with
    | none => rw [hT'] at hr; cases hr
    | some e =>
      rw [hT'] at hr
      have hk := (hT t e hT').kind
      simp only at hr
      cases hk' : e.kind <;> rw [hk'] at hr hk <;> first | (cases hr; done) | skip
      rename_i m u
      simp only [KindOK] at hk
      simp only at hr
      cases hu : T u with
      | none => rw [hu] at hr; cases hr
      | some eu =>
        rw [hu] at hr
        simp only at hr
        cases hp : partD eu cs (n.toNat * eu.size) with
        | none => rw [hp] at hr; cases hr
        | some d' =>
          rw [hp] at hr
          simp only [Option.map_some, Option.some.injEq, Prod.mk.injEq] at hr
          obtain ⟨h1, rfl⟩ := hr
          have h1 := of_decide_eq_true h1
          obtain ⟨u', hu', hr'⟩ := yield_part (hT u eu hu) hv hp
          exact ⟨u', by simp [Instr.index, asIntOf, run_underlying hk, (hT u eu hu).size, h1, hu'], hr'⟩

theorem bound_int {x : Option D} {dflt : Nat} {n : Int} (h : bound x dflt = some n) : (x = none ∧ n = dflt) ∨ ∃ k, x = some (.int k n) := by
  unfold bound at h
  split at h
  · simp only [Option.some.injEq] at h; exact .inl ⟨rfl, h.symm⟩
  · simp only [Option.some.injEq] at h; subst h; exact .inr ⟨_, rfl⟩
  · cases h

/-- An operand that may be left off. -/
def RepO (c : Ctx) (env : Env) (w : World) : Option D → Option Value → Prop
  | none, none => True
  | some d, some v => RepT c env w d v
  | _, _ => False
theorem repO_bound {x : Option D} {y : Option Value} (hx : RepO c env w x y) {dflt : Nat} {n : Int} (h : bound x dflt = some n) : (y = none ∧ n = dflt) ∨ ∃ k, y = some (.int k n) := by
  rcases bound_int h with ⟨rfl, e⟩ | ⟨k, rfl⟩
  · cases y <;> first | exact .inl ⟨rfl, e⟩ | exact hx.elim
  · cases y with
    | none => exact hx.elim
    | some v => exact .inr ⟨k, by have := repT_int (c := c) (env := env) (w := w) hx; rw [this]⟩

theorem run_sliceBounds {isSlice : Bool} {len cap l h m : Nat} {lo hi mx : Option Value} (hlo : (lo = none ∧ l = 0) ∨ ∃ k, lo = some (.int k (l : Int))) (hhi : (hi = none ∧ h = len) ∨ ∃ k, hi = some (.int k (h : Int)))
    (hmx : (mx = none ∧ m = cap) ∨ (hi ≠ none ∧ ∃ k, mx = some (.int k (m : Int)))) (h1 : l ≤ h) (h2 : h ≤ m) (h3 : m ≤ cap) :
    (Instr.sliceBounds isSlice len cap lo hi mx).run P w = .ok (l, h, m) w := by
  have hle : ∀ {k : IntKind} {x y : Nat} {cd : BoundsCode}, x ≤ y → (Instr.sliceBound (.int k (x : Int)) y cd).run P w = .ok x w := fun {k x y cd} hxy => by
    simp [Instr.sliceBound, asIntOf, hxy]
  rcases hmx with ⟨rfl, rfl⟩ | ⟨hh, km, rfl⟩ <;> rcases hhi with ⟨rfl, rfl⟩ | ⟨kh, rfl⟩ <;> rcases hlo with ⟨rfl, rfl⟩ | ⟨kl, rfl⟩ <;>
    first | exact absurd rfl hh | simp [Instr.sliceBounds, hle h1, hle h2, hle h3]

theorem repRow_drop {I : Im} {es : Nat} : ∀ (k : Nat) {ds : List D} {b : Addr} {i : Nat}, RepRow I w es ds b i → RepRow I w es (ds.drop k) b (i + k)
  | 0, _, _, _, h => h
  | _ + 1, [], _, _, _ => by simp only [List.drop_nil, RepRow]
  | k + 1, d :: ds, b, i, h => by
    have := repRow_drop k ((repRow_cons _ _ _ _ _ _ _).1 h).2
    rw [show i + (k + 1) = i + 1 + k from by omega]; exact this
theorem repRow_take {I : Im} {es : Nat} : ∀ (k : Nat) {ds : List D} {b : Addr} {i : Nat}, RepRow I w es ds b i → RepRow I w es (ds.take k) b i
  | 0, _, _, _, _ => by simp only [List.take_zero, RepRow]
  | _ + 1, [], _, _, _ => by simp only [List.take_nil, RepRow]
  | k + 1, d :: ds, b, i, h => by
    have h := (repRow_cons _ _ _ _ _ _ _).1 h
    exact (repRow_cons _ _ _ _ _ _ _).2 ⟨h.1, repRow_take k h.2⟩
theorem repRow_shift {I : Im} {es : Nat} : ∀ {ds : List D} {b : Addr} {i j : Nat}, RepRow I w es ds b (j + i) → RepRow I w es ds (b.add (j * es)) i
  | [], _, _, _, _ => by simp only [RepRow]
  | d :: ds, b, i, j, h => by
    have h := (repRow_cons _ _ _ _ _ _ _).1 h
    refine (repRow_cons _ _ _ _ _ _ _).2 ⟨⟨h.1.1, ?_⟩, repRow_shift (j := j) (by rw [show j + (i + 1) = j + i + 1 from rfl]; exact h.2)⟩
    rw [add_add', ← Nat.add_mul]; exact h.1.2

theorem repO_nat {x : Option D} {y : Option Value} (hx : RepO c env w x y) {dflt n : Nat} (h : bound x dflt = some (n : Int)) : (y = none ∧ n = dflt) ∨ ∃ k, y = some (.int k (n : Int)) := by
  rcases repO_bound hx h with ⟨h1, h2⟩ | h1
  · exact .inl ⟨h1, by omega⟩
  · exact .inr h1

theorem extract_list (l : List UInt8) (i j : Nat) : (⟨⟨l⟩⟩ : ByteArray).extract i j = ⟨⟨sliceD l i j⟩⟩ := by
  apply ByteArray.ext
  rw [ByteArray.data_extract]
  simp [sliceD, List.drop_take]

theorem run_strSlice {t : Nat} (ht : P.underlying t = some .string) {l : List UInt8} {lo hi : Option D} {vlo vhi : Option Value} (hlo : RepO c env w lo vlo) (hhi : RepO c env w hi vhi) {d : D} (hr : strSliceD l lo hi = some (true, d)) :
    Yield P c env w d (Instr.sliceAt t (.string ⟨⟨l⟩⟩) vlo vhi none) := by
  unfold strSliceD at hr
  cases h1 : bound lo 0 with
  | none => rw [h1] at hr; cases hr
  | some i =>
  cases h2 : bound hi l.length with
  | none => rw [h1, h2] at hr; cases hr
  | some j =>
  rw [h1, h2] at hr
  simp only [Option.some.injEq, Prod.mk.injEq] at hr
  obtain ⟨h3, rfl⟩ := hr
  have h3 := of_decide_eq_true h3
  obtain ⟨i, rfl⟩ : ∃ n : Nat, i = n := ⟨i.toNat, by omega⟩
  obtain ⟨j, rfl⟩ : ∃ n : Nat, j = n := ⟨j.toNat, by omega⟩
  have hb := run_sliceBounds (P := P) (w := w) (isSlice := false) (len := l.length) (cap := l.length) (m := l.length) (mx := none) (l := i) (h := j) (repO_nat hlo h1) (repO_nat hhi h2) (.inl ⟨rfl, rfl⟩) (by omega) (by omega) (Nat.le_refl _)
  refine ⟨.string ((⟨⟨l⟩⟩ : ByteArray).extract i j), ?_, ?_⟩
  · have : (⟨⟨l⟩⟩ : ByteArray).size = l.length := rfl
    simp [Instr.sliceAt, run_underlying ht, Instr.slice, this, hb]
  · rw [extract_list]
    simp [RepT, RepV, RepC, Rep]

theorem run_slSlice {t u : Nat} {eu : TE} (ht : P.underlying t = some (.slice u)) (hu : TEok P u eu) {st : Nat} {xs : List D} {v : Value} (hx : RepT c env w (.sl st eu.size xs) v) {lo hi mx : Option D} {vlo vhi vmx : Option Value}
    (hlo : RepO c env w lo vlo) (hhi : RepO c env w hi vhi) (hmx : RepO c env w mx vmx) (hmh : (mx.isSome && hi.isNone) = false) {d : D} (hr : slSliceD eu.size xs lo hi mx = some (true, d)) : Yield P c env w d (Instr.sliceAt t v vlo vhi vmx) := by
  unfold slSliceD at hr
  cases h1 : bound lo 0 with
  | none => rw [h1] at hr; cases hr
  | some i =>
  cases h2 : bound hi xs.length with
  | none => rw [h1, h2] at hr; cases hr
  | some j =>
  cases h3 : bound mx xs.length with
  | none => rw [h1, h2, h3] at hr; cases hr
  | some k =>
  rw [h1, h2, h3] at hr
  simp only [Option.some.injEq, Prod.mk.injEq] at hr
  obtain ⟨h4, rfl⟩ := hr
  obtain ⟨h4, hjk⟩ : (0 ≤ i ∧ i ≤ j ∧ j ≤ k ∧ k ≤ xs.length) ∧ (mx.isSome = true → j = k) := by
    cases hm : mx.isSome with
    | true =>
      rw [hm, cond_true] at h4
      have h4 := of_decide_eq_true h4
      exact ⟨by omega, fun _ => h4.2.2.1⟩
    | false =>
      rw [hm, cond_false] at h4
      exact ⟨of_decide_eq_true h4, fun e => by cases e⟩
  obtain ⟨i, rfl⟩ : ∃ n : Nat, i = n := ⟨i.toNat, by omega⟩
  obtain ⟨j, rfl⟩ : ∃ n : Nat, j = n := ⟨j.toNat, by omega⟩
  obtain ⟨k, rfl⟩ : ∃ n : Nat, k = n := ⟨k.toNat, by omega⟩
  rw [Int.toNat_natCast, Int.toNat_natCast]
  have hne : vmx ≠ none → vhi ≠ none := by
    rintro hm rfl
    cases mx with
    | none => cases vmx <;> first | exact hm rfl | exact hmx.elim
    | some _ => cases hi with
      | none => cases hmh
      | some _ => exact hhi.elim
  obtain ⟨h5, _⟩ := repT_sl hx
  -- the bounds, at whatever capacity
  have key : ∀ cap, xs.length ≤ cap → ∃ m, j ≤ m ∧ m ≤ cap ∧ (mx.isSome = true → m = j) ∧ (Instr.sliceBounds true xs.length cap vlo vhi vmx).run P w = .ok (i, j, m) w := by
    intro cap hcap
    rcases repO_nat hmx h3 with ⟨rfl, rfl⟩ | ⟨km, rfl⟩
    · exact ⟨cap, by omega, Nat.le_refl _, (fun e => by
        cases mx with
        | none => cases e
        | some _ => exact hmx.elim), run_sliceBounds (repO_nat hlo h1) (repO_nat hhi h2) (.inl ⟨rfl, rfl⟩) (by omega) (by omega) (Nat.le_refl _)⟩
    · exact ⟨k, by omega, by omega, (fun e => by have := hjk e; omega), run_sliceBounds (repO_nat hlo h1) (repO_nat hhi h2) (.inr ⟨hne (by simp), km, rfl⟩) (by omega) (by omega) (by omega)⟩
  rcases h5 with ⟨rfl, rfl⟩ | ⟨b, cap, rfl, hcap, hrow⟩
  · obtain ⟨m, hm1, hm2, _, hb⟩ := key 0 (Nat.le_refl _)
    simp only [List.length_nil] at h4 hb
    obtain rfl : j = 0 := by omega
    obtain rfl : i = 0 := by omega
    obtain rfl : m = 0 := by omega
    refine ⟨.slice none 0 0, ?_, ⟨⟨rfl, .inl ⟨rfl, by simp [sliceD]⟩⟩, ?_⟩⟩
    case refine_2 =>
      cases mx.isSome with
      | true => exact .inr (.inl ⟨rfl, none, by simp [sliceD]⟩)
      | false => exact .inl rfl
    simp [Instr.sliceAt, run_underlying ht, Instr.slice, hb, hu.size]
  · obtain ⟨m, hm1, hm2, hmj, hb⟩ := key cap hcap
    have hlen : (sliceD xs i j).length = j - i := by simp [sliceD]; omega
    refine ⟨.slice (if m = i then some b else some (b.add (i * eu.size))) (j - i) (m - i), ?_, ⟨⟨rfl, .inr ?_⟩, ?_⟩⟩
    case refine_3 =>
      cases hms : mx.isSome with
      | true =>
        refine .inr (.inl ⟨rfl, (if m = i then some b else some (b.add (i * eu.size))), ?_⟩)
        have : m = j := hmj hms
        rw [hlen, this]
      | false => exact .inl rfl
    · simp only [Instr.sliceAt, Sem.run_bind, run_underlying ht, Result.andThen_ok, Instr.slice, hb, hu.size, Sem.run_pure, Option.map_some]
    · refine ⟨if m = i then b else b.add (i * eu.size), m - i, by rw [hlen]; split <;> rfl, by omega, ?_⟩
      by_cases hmi : m = i
      · obtain rfl : j = i := by omega
        have : sliceD xs j j = [] := by simp [sliceD]
        rw [this]; simp only [RepRow]
      · rw [if_neg hmi]
        refine repRow_shift (i := 0) (j := i) ?_
        have := repRow_drop i (repRow_take j hrow)
        rw [Nat.zero_add] at this
        exact this

theorem run_rslSlice {t u : Nat} {eu : TE} (ht : P.underlying t = some (.slice u)) (hu : TEok P u eu) {st l0 n : Nat} {r : RowC} {v : Value} (hx : RepT c env w (.rsl st eu.size l0 n) v) (hlk : look st env.rows = some r) {lo hi mx : Option D} {vlo vhi vmx : Option Value}
    (hlo : RepO c env w lo vlo) (hhi : RepO c env w hi vhi) (hmx : RepO c env w mx vmx) (hmn : mx.isNone = true) {d : D} (hr : rslSliceD st eu.size l0 n lo hi = some (true, d)) : Yield P c env w d (Instr.sliceAt t v vlo vhi vmx) := by
  cases mx with
  | some _ => cases hmn
  | none =>
  cases vmx with
  | some _ => exact hmx.elim
  | none =>
  unfold rslSliceD at hr
  cases h1 : bound lo 0 with
  | none => rw [h1] at hr; cases hr
  | some i =>
  cases h2 : bound hi n with
  | none => rw [h1, h2] at hr; cases hr
  | some j =>
  rw [h1, h2] at hr
  simp only [Option.some.injEq, Prod.mk.injEq] at hr
  obtain ⟨h4, rfl⟩ := hr
  have h4 := of_decide_eq_true h4
  obtain ⟨i, rfl⟩ : ∃ n : Nat, i = n := ⟨i.toNat, by omega⟩
  obtain ⟨j, rfl⟩ : ∃ n : Nat, j = n := ⟨j.toNat, by omega⟩
  rw [Int.toNat_natCast, Int.toNat_natCast]
  obtain ⟨hus, h5⟩ := repT_rsl hx hlk
  have key : ∀ cap, n ≤ cap → (Instr.sliceBounds true n cap vlo vhi none).run P w = .ok (i, j, cap) w := fun cap hcap =>
    run_sliceBounds (repO_nat hlo h1) (repO_nat hhi h2) (.inl ⟨rfl, rfl⟩) (by omega) (by omega) (Nat.le_refl _)
  cases hσ : c.σ st with
  | none =>
    rw [hσ] at h5
    obtain ⟨rfl, rfl, b, rfl⟩ := h5
    obtain rfl : j = 0 := by omega
    obtain rfl : i = 0 := by omega
    have hb := key 0 (Nat.le_refl _)
    refine ⟨.slice b 0 0, ?_, hus, rfl, .inr ?_⟩
    · cases b <;> simp [Instr.sliceAt, run_underlying ht, Instr.slice, hb, hu.size]
    · rw [hσ]; exact ⟨rfl, rfl, b, rfl⟩
  | some g =>
    rw [hσ] at h5
    obtain ⟨ad, cap, rfl, hp, hn, hroom, hm⟩ := h5
    have hb := key cap hn
    refine ⟨.slice (if cap = i then some ad else some (ad.add (i * eu.size))) (j - i) (cap - i), ?_, hus, ?_, .inr ?_⟩
    · simp only [Instr.sliceAt, Sem.run_bind, run_underlying ht, Result.andThen_ok, Instr.slice, hb, hu.size, Sem.run_pure, Option.map_some]
    · split <;> rfl
    · rw [hσ]
      refine ⟨if cap = i then ad else ad.add (i * eu.size), cap - i, by split <;> rfl, fun h0 => ?_, by omega, ?_, by omega⟩
      · rw [if_neg (by omega), hp (by omega), addr_add_mk, Nat.add_mul]
      · rw [show l0 + i + (cap - i) = l0 + cap from by omega]; exact hroom

theorem yield_slice (hT : TyOK P T) {t : Nat} {x : D} {v : Value} (hx : RepT c env w x v) {lo hi mx : Option D} {vlo vhi vmx : Option Value} (hlo : RepO c env w lo vlo) (hhi : RepO c env w hi vhi) (hmx : RepO c env w mx vmx)
    {s : Bool} {d : D} (hr : sliceOpD T env.rows t x lo hi mx = some (s, d)) (hs : s = true) : Yield P c env w d (Instr.sliceAt t v vlo vhi vmx) := by
  subst hs
  unfold sliceOpD at hr
  cases hT' : T t with
  | none => rw [hT'] at hr; cases hr
  | some e =>
  rw [hT'] at hr
  have hk := (hT t e hT').kind
  simp only at hr
  cases hk' : e.kind <;> rw [hk'] at hr hk <;> first | (cases hr; done) | skip
  case str =>
    cases x <;> first | (cases hr; done) | skip
    cases mx with
    | some _ => cases hr
    | none =>
      cases vmx with
      | some _ => exact hmx.elim
      | none =>
        obtain rfl := repT_str hx
        exact run_strSlice hk hlo hhi hr
  case sl u =>
    cases x <;> first | (cases hr; done) | skip
    case rsl st es l0 n =>
      simp only at hr
      cases hu : T u with
      | none => rw [hu] at hr; cases hr
      | some eu =>
      cases hl : look st env.rows with
      | none => rw [hu] at hr; simp only [hl] at hr; cases hr
      | some r =>
        rw [hu] at hr
        simp only [hl] at hr
        cases hb : (Nat.beq es eu.size && mx.isNone) with
        | false => rw [hb] at hr; cases hr
        | true =>
          rw [hb, cond_true] at hr
          simp only [Bool.and_eq_true] at hb
          obtain rfl := nbeq.1 hb.1
          exact run_rslSlice hk (hT u eu hu) hx hl hlo hhi hmx hb.2 hr
    rename_i st es xs
    simp only at hr
    cases hu : T u with
    | none => rw [hu] at hr; cases hr
    | some eu =>
      rw [hu] at hr
      simp only at hr
      cases hb : (Nat.beq es eu.size && !(mx.isSome && hi.isNone)) with
      | false => rw [hb] at hr; cases hr
      | true =>
        rw [hb, cond_true] at hr
        simp only [Bool.and_eq_true, Bool.not_eq_true'] at hb
        obtain rfl := nbeq.1 hb.1
        exact run_slSlice hk (hT u eu hu) hx hlo hhi hmx hb.2 hr
  case arr n u =>
    cases x <;> first | (cases hr; done) | skip
    rename_i s' off
    cases hu : T u with
    | none => simp only [hu] at hr; cases hr
    | some eu =>
    cases lo <;> first | (simp only [hu] at hr; cases hr; done) | skip
    cases hi <;> first | (simp only [hu] at hr; cases hr; done) | skip
    cases mx <;> first | (simp only [hu] at hr; cases hr; done) | skip
    simp only [hu, Option.some.injEq, Prod.mk.injEq, true_and] at hr
    subst hr
    cases vlo <;> first | exact hlo.elim | skip
    cases vhi <;> first | exact hhi.elim | skip
    cases vmx <;> first | exact hmx.elim | skip
    obtain ⟨hs, rfl⟩ := repT_loc hx
    have hb := run_sliceBounds (P := P) (w := w) (isSlice := false) (len := n) (cap := n) (m := n) (lo := none) (hi := none) (mx := none) (l := 0) (h := n) (.inl ⟨rfl, rfl⟩) (.inl ⟨rfl, rfl⟩) (.inl ⟨rfl, rfl⟩) (Nat.zero_le _) (Nat.le_refl _) (Nat.le_refl _)
    refine ⟨.slice (some ⟨c.ρ s', off, none⟩) n n, ?_, hs, n, rfl, Nat.le_refl _⟩
    simp only [KindOK] at hk
    simp [Instr.sliceAt, run_underlying hk, Instr.sureAddr, hb, (hT u eu hu).size, Addr.add]

theorem yield_pick {c1 : Bool} {x y : Bool} {vx vy : Value} (hx : c1 = true → RepT c env w (.bool x) vx) (hy : c1 = false → RepT c env w (.bool y) vy) :
    Yield P c env w (.bool (bif c1 then x else y)) (do pure (if ← asBool (.bool c1) then vx else vy)) := by
  cases c1
  · exact ⟨vy, by simp [asBool], by have := repT_bool (hy rfl); subst this; simpa using hy rfl⟩
  · exact ⟨vx, by simp [asBool], by have := repT_bool (hx rfl); subst this; simpa using hx rfl⟩

theorem yield_extract {ds : List D} {v : Value} (hx : RepT c env w (.tup ds) v) {i : Nat} {d : D} (h : ds[i]? = some d) : Yield P c env w d (Instr.extract v i) := by
  obtain ⟨vs, rfl, hv⟩ := hx
  obtain ⟨u, hu, hr⟩ := hv.get i d h
  refine ⟨u, by simp [Instr.extract, hu], ?_⟩
  cases d <;> first | exact hr | trivial | exact (hr : False).elim

theorem yield_un {op : UnOp} {x : D} {v : Value} (hx : RepT c env w x v) {r : Res} (hr : unD op x = some r) : r = { d := r.d } ∧ Yield P c env w r.d (Op.unary op v) := by
  unfold unD at hr
  split at hr
  · simp only [ok, Option.some.injEq] at hr; subst hr
    obtain rfl := repT_bool hx
    exact ⟨rfl, _, by simp only [Op.unary, Sem.run_pure]; rfl, by simp [RepT, RepV, RepC, Rep]⟩
  · simp only [ok, Option.some.injEq] at hr; subst hr
    obtain rfl := repT_int hx
    exact ⟨rfl, _, by simp only [Op.unary, Op.intArith, Sem.run_pure]; rfl, by simp [RepT, RepV, RepC, Rep]⟩
  · cases hr

theorem len_repL {I : Im} {ds : List D} {vs : List Value} (h : RepL I w ds vs) : ds.length = vs.length := (all2_repL.1 h).length

theorem yield_len (hT : TyOK P T) (h : St c env a w) {t : Nat} {e : TE} (ht : T t = some e) {x : D} {v : Value} (hx : RepT c env w x v) {n : Nat} (hr : lenD env.mp env.rows e x = some n) (ty : TypeId) :
    Yield P c env w (.int .i64 n) (Builtin.len_ #[t] ty #[v]) := by
  have hk := (hT t e ht).kind
  have hout : RepT c env w (.int .i64 n) (.int .i64 n) := by simp [RepT, RepV, RepC, Rep]
  unfold lenD at hr
  cases hk' : e.kind <;> rw [hk'] at hr hk <;> first | (cases hr; done) | skip
  all_goals simp only [KindOK] at hk
  case str =>
    cases x <;> simp only at hr <;> first | (cases hr; done) | skip
    simp only [Option.some.injEq] at hr; subst hr
    obtain rfl := repT_str hx
    exact ⟨_, by simp [Builtin.len_, run_underlying hk]; rfl, hout⟩
  case sl u =>
    cases x <;> simp only at hr <;> first | (cases hr; done) | skip
    · simp only [Option.some.injEq] at hr; subst hr
      obtain ⟨h1, _⟩ := repT_sl hx
      rcases h1 with ⟨rfl, rfl⟩ | ⟨b, cap, rfl, _⟩ <;> exact ⟨_, by simp [Builtin.len_, run_underlying hk]; rfl, hout⟩
    · simp only [Option.some.injEq] at hr; subst hr
      obtain ⟨_, cap, rfl, _⟩ := repT_lsl hx
      exact ⟨_, by simp [Builtin.len_, run_underlying hk]; rfl, hout⟩
    · rename_i st es lo m
      cases hl : look st env.rows with
      | none => rw [hl] at hr; cases hr
      | some r =>
        rw [hl] at hr
        simp only [Option.map_some, Option.some.injEq] at hr; subst hr
        obtain ⟨_, h2⟩ := repT_rsl hx hl
        cases hσ : c.σ st with
        | none => rw [hσ] at h2; obtain ⟨_, rfl, b, rfl⟩ := h2; exact ⟨_, by simp [Builtin.len_, run_underlying hk]; rfl, hout⟩
        | some g => rw [hσ] at h2; obtain ⟨ad, cap, rfl, _⟩ := h2; exact ⟨_, by simp [Builtin.len_, run_underlying hk]; rfl, hout⟩
  case mp q u =>
    cases x <;> simp only at hr <;> first | (cases hr; done) | skip
    · rename_i ks vs
      simp only [Option.some.injEq] at hr; subst hr
      have hx : RepC c env w (.mapv ks vs) v := hx
      simp only [RepC, Rep] at hx
      obtain ⟨r, rfl, _, es, clock, hh, h1, _⟩ := hx
      have := len_repL h1
      exact ⟨_, by simp [Builtin.len_, run_underlying hk, getObj, Sem.run, hh]; rfl, by simpa [this, goInt] using hout⟩
    · simp only [Option.some.injEq] at hr; subst hr
      have hx : RepC c env w .nilm v := hx
      simp only [RepC, Rep] at hx; subst hx
      exact ⟨_, by simp [Builtin.len_, run_underlying hk]; rfl, hout⟩
    · rename_i s
      cases hm : look s env.mp with
      | none => rw [hm] at hr; cases hr
      | some m =>
        rw [hm] at hr
        simp only [Option.map_some, Option.some.injEq] at hr; subst hr
        obtain ⟨_, rfl⟩ : (look s env.mp).isSome = true ∧ v = .map (some (c.ρ s)) := hx
        obtain ⟨es, clock, hh, h1, _⟩ := h.mp s m hm
        have := len_repL h1
        exact ⟨_, by simp [Builtin.len_, run_underlying hk, getObj, Sem.run, hh]; rfl, by simpa [this, goInt] using hout⟩
end

end Go.Proofs.YtnooelecdbbfkaaGreatDoor.Fw

/- Comparisons, arithmetic, maps, structs that are built. -/
namespace Go.Proofs.YtnooelecdbbfkaaGreatDoor.Fw
open Go Go.RowKit
set_option linter.unusedSectionVars false
variable [Inhabited GLT]

section
variable {P : Program} {T : Ty} {c : Ctx} {env : Env} {a : Act} {w : World}

theorem repC_eqD {x y : D} {vx vy : Value} (hx : RepC c env w x vx) (hy : RepC c env w y vy) {b : Bool} (h : eqD x y = some b) :
    (∃ k m n, vx = .int k m ∧ vy = .int k n ∧ b = (m == n)) ∨ (∃ m n, vx = .bool m ∧ vy = .bool n ∧ b = (m == n)) ∨ (∃ m n, vx = .string ⟨⟨m⟩⟩ ∧ vy = .string ⟨⟨n⟩⟩ ∧ b = (m == n)) := by
  unfold eqD at h
  split at h
  · rename_i k m k' n
    cases hk : (k == k') with
    | false => rw [hk] at h; cases h
    | true =>
      rw [hk, cond_true, Option.some.injEq] at h
      obtain rfl := eq_of_beq hk
      simp only [RepC, Rep] at hx hy
      exact .inl ⟨k, m, n, hx, hy, h.symm⟩
  · simp only [RepC, Rep] at hx hy; simp only [Option.some.injEq] at h
    exact .inr (.inl ⟨_, _, hx, hy, h.symm⟩)
  · simp only [RepC, Rep] at hx hy; simp only [Option.some.injEq] at h
    exact .inr (.inr ⟨_, _, hx, hy, h.symm⟩)
  · cases h

theorem ba_toList (l : List UInt8) : (⟨⟨l⟩⟩ : ByteArray).toList = l := by rw [ByteArray.toList_eq]

/-- One cell's value, or a struct's. -/
def asV (e : TE) (vs : List Value) : Value := if e.isAgg then .agg ⟨vs⟩ else vs.headD undef

theorem run_part_at {t : Nat} {e : TE} (he : TEok P t e) {vs : List Value} {off : Nat} (hl : off + e.size ≤ vs.length) (hs : e.isAgg = false → e.size = 1) : (part t ⟨vs⟩ off).run P w = .ok (asV e ((vs.drop off).take e.size)) w := by
  unfold part asV
  cases hag : e.isAgg with
  | true => simp [he.isAgg, he.size, hag, List.extract_eq_take_drop]
  | false =>
    have h1 := hs hag
    have hlt : off < vs.length := by omega
    have : vs[off]? = some vs[off] := List.getElem?_eq_getElem hlt
    simp [he.isAgg, hag, h1, this, List.head?_take, List.head?_drop]

theorem asV_one {e : TE} (h : e.isAgg = false) (v : Value) : asV e [v] = v := by simp [asV, h]

theorem list_one {α : Type} {l : List α} (h : l.length = 1) : ∃ x, l = [x] := by
  match l, h with
  | [x], _ => exact ⟨x, rfl⟩

theorem run_eqPlain (m : Nat) {t : Nat} {e : TE} (he : TEok P t e) (hk : (∃ k, e.kind = .int k) ∨ e.kind = .bool ∨ e.kind = .str) {x y : D} {vx vy : Value} (hx : RepC c env w x vx) (hy : RepC c env w y vy) {b : Bool} (h : eqD x y = some b)
    (hf : match e.kind with | .int _ => x.isInt = true | .bool => x.isBool = true | .str => x.isStr = true | _ => False) :
    (Op.equalIn (m + 1) t vx vy).run P w = .ok b w := by
  have hK := he.kind
  rcases hk with ⟨k0, hk⟩ | hk | hk <;> rw [hk] at hK hf <;> simp only [KindOK] at hK
  · cases x <;> first | (cases hf; done) | skip
    rcases repC_eqD hx hy h with ⟨k, m', n', rfl, rfl, rfl⟩ | ⟨m', n', rfl, _⟩ | ⟨m', n', rfl, _⟩
    · exact run_equalIn_int w m t k k0 m' n' hK
    · simp only [RepC, Rep] at hx; cases hx
    · simp only [RepC, Rep] at hx; cases hx
  · cases x <;> first | (cases hf; done) | skip
    rcases repC_eqD hx hy h with ⟨k, m', n', rfl, _⟩ | ⟨m', n', rfl, rfl, rfl⟩ | ⟨m', n', rfl, _⟩
    · simp only [RepC, Rep] at hx; cases hx
    · exact run_equalIn_bool' w m t m' n' hK
    · simp only [RepC, Rep] at hx; cases hx
  · cases x <;> first | (cases hf; done) | skip
    rcases repC_eqD hx hy h with ⟨k, m', n', rfl, _⟩ | ⟨m', n', rfl, _⟩ | ⟨m', n', rfl, rfl, rfl⟩
    · simp only [RepC, Rep] at hx; cases hx
    · simp only [RepC, Rep] at hx; cases hx
    · rw [run_equalIn_string w m t _ _ hK, ba_toList, ba_toList]

theorem allB_nil {b : Bool} (h : allB [] = some b) : b = true := by simpa [allB] using h.symm
theorem allB_cons {x : Option Bool} {l : List (Option Bool)} {b : Bool} (h : allB (x :: l) = some b) : ∃ u v, x = some u ∧ allB l = some v ∧ b = (u && v) := by
  cases x with
  | none => cases h
  | some u =>
    simp only [allB] at h
    cases hl : allB l with
    | none => rw [hl] at h; cases h
    | some v => rw [hl] at h; simp only [Option.map_some, Option.some.injEq] at h; exact ⟨u, v, rfl, rfl, h.symm⟩

/-- The loop over an array's elements. -/
theorem run_eqLoop (f : Nat → Sem Value) (f' : Nat → Sem Value) (k : Value → Value → Sem Bool) (g : Nat → Bool) (w : World) : ∀ (l : List Nat), (∀ i ∈ l, ∃ x y, (f i).run P w = .ok x w ∧ (f' i).run P w = .ok y w ∧ (k x y).run P w = .ok (g i) w) →
    (forIn l ((none, ()) : Option Bool × Unit) fun i _ => do
          let x ← f i
          let y ← f' i
          let z ← k x y
          if (!z) = true then pure (ForInStep.done (some false, ())) else pure (ForInStep.yield (none, ())) : Sem (Option Bool × Unit)).run P w = .ok (if l.all g then none else some false, ()) w
  | [], _ => by simp
  | i :: l, h => by
    obtain ⟨x, y, h1, h2, h3⟩ := h i (by simp)
    have ih := run_eqLoop f f' k g w l (fun j hj => h j (by simp [hj]))
    simp only [List.forIn_cons, Sem.run_bind, h1, h2, h3, Result.andThen_ok, Sem.run_ite, List.all_cons] at ih ⊢
    rcases Bool.eq_false_or_eq_true (g i) with hg | hg
    · simp only [hg, Bool.not_true, Bool.false_eq_true, if_false, Sem.run_pure, Result.andThen_ok, Bool.true_and]
      exact ih
    · simp [hg]

theorem run_equalIn_array (d : Nat) (t u n : Nat) (xs ys : Array Value) {eu : TE} (hu : TEok P u eu) (ht : P.underlying t = some (.array n u)) (g : Nat → Bool)
    (h : ∀ i, i < n → ∃ x y, (part u xs (i * eu.size)).run P w = .ok x w ∧ (part u ys (i * eu.size)).run P w = .ok y w ∧ (Op.equalIn d u x y).run P w = .ok (g i) w) :
    (Op.equalIn (d + 1) t (.agg xs) (.agg ys)).run P w = .ok ((List.range n).all g) w := by
  simp only [Op.equalIn, Sem.run_bind, run_underlying ht, Result.andThen_ok, hu.size]
  rw [Std.Legacy.Range.forIn_eq_forIn_range']
  have := run_eqLoop (P := P) (fun i => part u xs (i * eu.size)) (fun i => part u ys (i * eu.size)) (fun x y => Op.equalIn d u x y) g w (List.range n) (fun i hi => h i (List.mem_range.1 hi))
  have hr : List.range' ([:n] : Std.Legacy.Range).start ([:n] : Std.Legacy.Range).size ([:n] : Std.Legacy.Range).step = List.range n := by
    simp [Std.Legacy.Range.size, List.range_eq_range']
  rw [hr, this]
  cases (List.range n).all g <;> rfl

theorem allB_map {α : Type} {f : α → Option Bool} : ∀ {l : List α} {b : Bool}, allB (l.map f) = some b → ∃ g : α → Bool, b = l.all g ∧ ∀ x ∈ l, f x = some (g x)
  | [], b, h => ⟨fun _ => true, by simpa using allB_nil h, by simp⟩
  | x :: l, b, h => by
    classical
    obtain ⟨u, v, h1, h2, rfl⟩ := allB_cons h
    obtain ⟨g, rfl, h3⟩ := allB_map h2
    refine ⟨fun y => (f y).getD false, ?_, fun y hy => ?_⟩
    · rw [List.all_cons, h1, Option.getD_some]
      congr 1
      rw [Bool.eq_iff_iff, List.all_eq_true, List.all_eq_true]
      exact ⟨fun hh y hy => by rw [h3 y hy]; exact hh y hy, fun hh y hy => by have := hh y hy; rw [h3 y hy] at this; exact this⟩
    · rcases List.mem_cons.1 hy with rfl | hy
      · simp [h1]
      · simp [h3 y hy]

theorem run_eqFields (d : Nat) (xs ys : List Value) : ∀ (Fs : List Field) (g : Field → Bool), (Fs.all fun f => f.name != "_") = true →
    (∀ F ∈ Fs, ∃ x y, (part F.type ⟨xs⟩ F.offset).run P w = .ok x w ∧ (part F.type ⟨ys⟩ F.offset).run P w = .ok y w ∧ (Op.equalIn d F.type x y).run P w = .ok (g F) w) →
    (Op.eqFields d ⟨xs⟩ ⟨ys⟩ Fs).run P w = .ok (Fs.all g) w
  | [], g, _, _ => by simp [Op.eqFields]
  | F :: Fs, g, hn, h => by
    simp only [List.all_cons, Bool.and_eq_true, bne_iff_ne, ne_eq] at hn
    obtain ⟨x, y, h1, h2, h3⟩ := h F (by simp)
    have ih := run_eqFields d xs ys Fs g hn.2 (fun F' hF => h F' (by simp [hF]))
    simp only [Op.eqFields, Sem.run_bind, h1, h2, h3, Result.andThen_ok, Sem.run_ite, ne_eq, hn.1, not_false_eq_true, if_true, List.all_cons]
    cases hg : g F
    · simp
    · simp only [Bool.not_true, Bool.false_eq_true, if_false, Bool.true_and]; exact ih

theorem run_eqTy (hT : TyOK P T) : ∀ (n t : Nat) (e : TE) (xs ys : List D) (vx vy : List Value) (b : Bool), T t = some e → eqTy T n t xs ys = some b → All2 (RepC c env w) xs vx → All2 (RepC c env w) ys vy →
    ∀ m, n ≤ m → (Op.equalIn m t (asV e vx) (asV e vy)).run P w = .ok b w
  | 0, t, e, xs, ys, vx, vy, b, ht, h, hx, hy, m, hm => by simp [eqTy] at h
  | n + 1, t, e, xs, ys, vx, vy, b, ht, h, hx, hy, m, hm => by
    obtain ⟨m, rfl⟩ : ∃ k, m = k + 1 := ⟨m - 1, by omega⟩
    have he := hT t e ht
    have hK := he.kind
    simp only [eqTy, ht] at h
    have plain : ∀ x y v u, e.isAgg = false → ((∃ k, e.kind = .int k) ∨ e.kind = .bool ∨ e.kind = .str) → (match e.kind with | .int _ => x.isInt = true | .bool => x.isBool = true | .str => x.isStr = true | _ => False) → RepC c env w x v → RepC c env w y u → eqD x y = some b →
        (Op.equalIn (m + 1) t (asV e [v]) (asV e [u])).run P w = .ok b w := by
      intro x y v u hag hk hf hx hy h
      rw [asV_one hag, asV_one hag]
      exact run_eqPlain m he hk hx hy h hf
    cases hk : e.kind <;> rw [hk] at h hK <;> simp only at h <;> first | (cases h; done) | skip
    case int k =>
      split at h
      · rename_i x y
        match vx, vy, hx, hy with
        | [v], [u], hx, hy =>
          cases hc : x.isInt with
          | false => rw [hc] at h; cases h
          | true => rw [hc] at h; exact plain x y v u (by simp [TE.isAgg, hk]) (.inl ⟨k, hk⟩) (by rw [hk]; exact hc) hx.1 hy.1 h
      · cases h
    case bool =>
      split at h
      · rename_i x y
        match vx, vy, hx, hy with
        | [v], [u], hx, hy =>
          cases hc : x.isBool with
          | false => rw [hc] at h; cases h
          | true => rw [hc] at h; exact plain x y v u (by simp [TE.isAgg, hk]) (.inr (.inl hk)) (by rw [hk]; exact hc) hx.1 hy.1 h
      · cases h
    case str =>
      split at h
      · rename_i x y
        match vx, vy, hx, hy with
        | [v], [u], hx, hy =>
          cases hc : x.isStr with
          | false => rw [hc] at h; cases h
          | true => rw [hc] at h; exact plain x y v u (by simp [TE.isAgg, hk]) (.inr (.inr hk)) (by rw [hk]; exact hc) hx.1 hy.1 h
      · cases h
    case agg fs =>
      obtain ⟨Fs, h1, h2, h3, h4, _⟩ := hK
      have hag : e.isAgg = true := by simp [TE.isAgg, hk]
      have hF : P.fieldsOf t = Fs := by simp [Program.fieldsOf, h1]
      simp only [asV, hag, if_true]
      rw [run_equalIn_struct w m t ⟨vx⟩ ⟨vy⟩ (by rw [hF]; exact h1) h4, hF]
      subst h2
      rw [List.map_map] at h
      obtain ⟨g, rfl, hg⟩ := allB_map h
      refine run_eqFields m vx vy Fs.toList g h3 (fun F hFm => ?_)
      have hgF := hg F hFm
      simp only [Function.comp] at hgF
      cases hu : T F.type with
      | none => rw [hu] at hgF; cases hgF
      | some eu =>
        rw [hu] at hgF
        simp only at hgF
        cases hb : (Nat.ble (F.offset + eu.size) xs.length && Nat.ble (F.offset + eu.size) ys.length) with
        | false => rw [hb] at hgF; cases hgF
        | true =>
          rw [hb, cond_true] at hgF
          simp only [Bool.and_eq_true, Nat.ble_eq] at hb
          have l1 := hx.length; have l2 := hy.length
          exact ⟨_, _, run_part_at (hT _ _ hu) (by omega) (hT _ _ hu).one, run_part_at (hT _ _ hu) (by omega) (hT _ _ hu).one,
            run_eqTy hT n F.type eu _ _ _ _ _ hu hgF ((hx.drop _).take _) ((hy.drop _).take _) m (by omega)⟩
    case arr k u =>
      have hag : e.isAgg = true := by simp [TE.isAgg, hk]
      simp only [KindOK] at hK
      simp only [asV, hag, if_true]
      cases hu : T u with
      | none => rw [hu] at h; cases h
      | some eu =>
        rw [hu] at h
        simp only at h
        obtain ⟨g, rfl, hg⟩ := allB_map h
        refine run_equalIn_array m t u k ⟨vx⟩ ⟨vy⟩ (hT _ _ hu) hK g (fun i hi => ?_)
        have hgi := hg i (List.mem_range.2 hi)
        cases hb : (Nat.ble (i * eu.size + eu.size) xs.length && Nat.ble (i * eu.size + eu.size) ys.length) with
        | false => rw [hb] at hgi; cases hgi
        | true =>
          rw [hb, cond_true] at hgi
          simp only [Bool.and_eq_true, Nat.ble_eq] at hb
          have l1 := hx.length; have l2 := hy.length
          exact ⟨_, _, run_part_at (hT _ _ hu) (by omega) (hT _ _ hu).one, run_part_at (hT _ _ hu) (by omega) (hT _ _ hu).one,
            run_eqTy hT n u eu _ _ _ _ _ hu hgi ((hx.drop _).take _) ((hy.drop _).take _) m (by omega)⟩
end

end Go.Proofs.YtnooelecdbbfkaaGreatDoor.Fw

/- Operators; conversions; look-ups; what is built. -/
namespace Go.Proofs.YtnooelecdbbfkaaGreatDoor.Fw
open Go Go.RowKit
set_option linter.unusedSectionVars false
variable [Inhabited GLT]

section
variable {P : Program} {T : Ty} {c : Ctx} {env : Env} {a : Act} {w : World}

theorem mkInt (k : IntKind) (n : Int) : RepT c env w (.int k n) (.int k n) := by simp [RepT, RepV, RepC, Rep]
theorem mkBool (b : Bool) : RepT c env w (.bool b) (.bool b) := by simp [RepT, RepV, RepC, Rep]
theorem mkStr (l : List UInt8) : RepT c env w (.str l) (.string ⟨⟨l⟩⟩) := by simp [RepT, RepV, RepC, Rep]

/-- The value of an operator. -/
def binV (op : BinOp) (t : TypeId) (x y : Operand) (vx vy : Value) : Sem Value := do eqGuard op t x y vx vy; binOp op t vx vy

theorem size_mk (l : List UInt8) : (⟨⟨l⟩⟩ : ByteArray).size = l.length := rfl

theorem equal_of {t : TypeId} {vx vy : Value} {b : Bool} (h : ∀ d, (Op.equalIn (d + 1) t vx vy).run P w = .ok b w) : (Op.equal t vx vy).run P w = .ok b w := h 9999

theorem eq_ptr {t el : TypeId} (hK : P.underlying t = some (.pointer el)) (p q : Option Addr) (h : p = none ∨ q = none) (d : Nat) : (Op.equalIn (d + 1) t (.pointer p) (.pointer q)).run P w = .ok (p.isNone && q.isNone) w := by
  rcases h with rfl | rfl
  · cases q <;> simp [Op.equalIn, run_underlying hK]
  · cases p <;> simp [Op.equalIn, run_underlying hK]
theorem eq_func {t : TypeId} {q1 : Array TypeId} {q2 : Array TypeId} {q3 : Bool} (hK : P.underlying t = some (.func q1 q2 q3)) (d : Nat) :
    (Op.equalIn (d + 1) t .nilFunc .nilFunc).run P w = .ok true w ∧ (∀ f x y, (Op.equalIn (d + 1) t .nilFunc (.func f x y)).run P w = .ok false w) ∧ ∀ f x y, (Op.equalIn (d + 1) t (.func f x y) .nilFunc).run P w = .ok false w :=
  ⟨by simp [Op.equalIn, run_underlying hK], fun f x y => by simp [Op.equalIn, run_underlying hK], fun f x y => by simp [Op.equalIn, run_underlying hK]⟩
theorem eq_ifc {t : TypeId} {ms : Array (String × TypeId)} (hK : P.underlying t = some (.interface ms)) (d : Nat) :
    (Op.equalIn (d + 1) t .nilIface .nilIface).run P w = .ok true w ∧ (∀ f x, (Op.equalIn (d + 1) t .nilIface (.iface f x)).run P w = .ok false w) ∧ ∀ f x, (Op.equalIn (d + 1) t (.iface f x) .nilIface).run P w = .ok false w :=
  ⟨by simp [Op.equalIn, run_underlying hK], fun f x => by simp [Op.equalIn, run_underlying hK], fun f x => by simp [Op.equalIn, run_underlying hK]⟩

theorem run_eqAny (hT : TyOK P T) {t : Nat} {x y : Operand} {op : BinOp} (hop : op = .eql ∨ op = .neq) {dx dy : D} {vx vy : Value} (hx : RepT c env w dx vx) (hy : RepT c env w dy vy) {b : Bool} (h : eqAny T t (isC x || isC y) dx dy = some b) :
    (eqGuard op t x y vx vy).run P w = .ok () w ∧ (Op.equal t vx vy).run P w = .ok b w := by
  unfold eqAny at h
  cases ht : T t with
  | none => rw [ht] at h; cases h
  | some e =>
  rw [ht] at h
  have he := hT t e ht
  have hK := he.kind
  simp only [eqKind] at h
  have aggc : ∀ xs ys, dx = .agg xs → dy = .agg ys → e.isAgg = true → (bif e.eqg then eqTy T 6 t xs ys else none) = some b → (eqGuard op t x y vx vy).run P w = .ok () w ∧ (Op.equal t vx vy).run P w = .ok b w := by
    rintro xs ys rfl rfl hag h
    cases hg : e.eqg with
    | false => rw [hg] at h; cases h
    | true =>
      rw [hg, cond_true] at h
      obtain ⟨us, rfl, h1⟩ := hx
      obtain ⟨vs, rfl, h2⟩ := hy
      have hq := he.eqg hg
      refine ⟨?_, ?_⟩
      · rcases hop with rfl | rfl <;> simp [eqGuard, hq]
      · have := run_eqTy (c := c) (env := env) (w := w) hT 6 t e xs ys us vs b ht h h1 h2 Op.maxDepth (by decide)
        simpa [asV, hag, Op.equal] using this
  cases hk : e.kind <;> rw [hk] at h hK <;> simp only at h <;> first | (cases h; done) | skip
  case bool =>
    split at h
    · simp only [Option.some.injEq] at h; subst h
      obtain rfl := repT_bool hx
      obtain rfl := repT_bool hy
      simp only [KindOK] at hK
      exact ⟨by rcases hop with rfl | rfl <;> rfl, by simp [Op.equal, Op.maxDepth, run_equalIn_bool' w 9999 t _ _ hK]⟩
    · cases h
  case agg fs =>
    split at h
    · exact aggc _ _ rfl rfl (by simp [TE.isAgg, hk]) h
    · cases h
  case arr n u =>
    split at h
    · exact aggc _ _ rfl rfl (by simp [TE.isAgg, hk]) h
    · cases h
  case ptr =>
    obtain ⟨el, hK⟩ := hK
    have g : ∀ p q : Option Addr, (eqGuard op t x y (.pointer p) (.pointer q)).run P w = .ok () w := fun p q => by rcases hop with rfl | rfl <;> rfl
    have np : ∀ d : D, (∃ s o, d = .loc s o) ∨ (∃ d' o, d = .eptr d' o) → ∀ v, RepT c env w d v → ∃ ad, v = .pointer (some ad) := by
      rintro d (⟨s, o, rfl⟩ | ⟨d', o, rfl⟩) v hv
      · exact ⟨_, (repT_loc hv).2⟩
      · obtain ⟨ad, rfl, _⟩ := repT_eptr hv; exact ⟨_, rfl⟩
    have nn : ∀ v, RepT c env w .nilp v → v = .pointer none := fun v hv => by simpa [RepT, RepV, RepC, Rep] using hv
    split at h
    · simp only [Option.some.injEq] at h; subst h
      obtain rfl := nn _ hx; obtain rfl := nn _ hy
      exact ⟨g _ _, equal_of (eq_ptr hK _ _ (.inl rfl))⟩
    · simp only [Option.some.injEq] at h; subst h
      obtain rfl := nn _ hx; obtain ⟨ad, rfl⟩ := np _ (.inr ⟨_, _, rfl⟩) _ hy
      exact ⟨g _ _, equal_of (eq_ptr hK _ _ (.inl rfl))⟩
    · simp only [Option.some.injEq] at h; subst h
      obtain rfl := nn _ hy; obtain ⟨ad, rfl⟩ := np _ (.inr ⟨_, _, rfl⟩) _ hx
      exact ⟨g _ _, equal_of (eq_ptr hK _ _ (.inr rfl))⟩
    · simp only [Option.some.injEq] at h; subst h
      obtain rfl := nn _ hx; obtain ⟨ad, rfl⟩ := np _ (.inl ⟨_, _, rfl⟩) _ hy
      exact ⟨g _ _, equal_of (eq_ptr hK _ _ (.inl rfl))⟩
    · simp only [Option.some.injEq] at h; subst h
      obtain rfl := nn _ hy; obtain ⟨ad, rfl⟩ := np _ (.inl ⟨_, _, rfl⟩) _ hx
      exact ⟨g _ _, equal_of (eq_ptr hK _ _ (.inr rfl))⟩
    · cases h
  case func =>
    obtain ⟨q1, q2, q3, hK⟩ := hK
    have nn : ∀ v, RepT c env w .nilf v → v = .nilFunc := fun v hv => by simpa [RepT, RepV, RepC, Rep] using hv
    have nf : ∀ f cs v, RepT c env w (.fn f cs) v → ∃ vs : List Value, v = .func (.func f) #[] ⟨vs⟩ := fun f cs v hv => by
      have hv : RepC c env w (.fn f cs) v := hv
      simp only [RepC, Rep] at hv
      obtain ⟨vs, e, _⟩ := hv; exact ⟨vs, e⟩
    have g : ∀ u v : Value, (u = .nilFunc ∨ ∃ f x y, u = .func f x y) → (eqGuard op t x y u v).run P w = .ok () w := by
      rintro u v (rfl | ⟨f, x', y', rfl⟩) <;> rcases hop with rfl | rfl <;> rfl
    split at h
    · simp only [Option.some.injEq] at h; subst h
      obtain rfl := nn _ hx; obtain rfl := nn _ hy
      exact ⟨g _ _ (.inl rfl), equal_of fun d => (eq_func hK d).1⟩
    · simp only [Option.some.injEq] at h; subst h
      obtain rfl := nn _ hx; obtain ⟨vs, rfl⟩ := nf _ _ _ hy
      exact ⟨g _ _ (.inl rfl), equal_of fun d => (eq_func hK d).2.1 _ _ _⟩
    · simp only [Option.some.injEq] at h; subst h
      obtain rfl := nn _ hy; obtain ⟨vs, rfl⟩ := nf _ _ _ hx
      exact ⟨g _ _ (.inr ⟨_, _, _, rfl⟩), equal_of fun d => (eq_func hK d).2.2 _ _ _⟩
    · cases h
  case ifc =>
    obtain ⟨ms, hK⟩ := hK
    have nn : ∀ v, RepT c env w .nili v → v = .nilIface := fun v hv => by simpa [RepT, RepV, RepC, Rep] using hv
    have nf : ∀ f cs v, RepT c env w (.ifc f cs) v → ∃ u, v = .iface f u := fun f cs v hv => by
      have hv : RepC c env w (.ifc f cs) v := hv
      simp only [RepC, Rep] at hv
      obtain ⟨vs, e, _⟩ := hv; exact ⟨vs, e⟩
    split at h
    · simp only [Option.some.injEq] at h; subst h
      obtain rfl := nn _ hx; obtain ⟨u, rfl⟩ := nf _ _ _ hy
      exact ⟨by rcases hop with rfl | rfl <;> rfl, equal_of fun d => (eq_ifc hK d).2.1 _ _⟩
    · simp only [Option.some.injEq] at h; subst h
      obtain rfl := nn _ hy; obtain ⟨u, rfl⟩ := nf _ _ _ hx
      exact ⟨by rcases hop with rfl | rfl <;> rfl, equal_of fun d => (eq_ifc hK d).2.2 _ _⟩
    · obtain rfl := nn _ hx; obtain rfl := nn _ hy
      cases hc : (isC x || isC y) with
      | false => rw [hc] at h; cases h
      | true =>
        rw [hc] at h
        simp only [cond_true, Option.some.injEq] at h; subst h
        refine ⟨?_, equal_of fun d => (eq_ifc hK d).1⟩
        cases x <;> cases y <;> first | (simp [isC] at hc; done) | (rcases hop with rfl | rfl <;> rfl)
    · cases h

theorem binOp_eqs (t : TypeId) {vx vy : Value} (n : (∀ k n, vx = .int k n → ∀ k n, vy ≠ .int k n) ∧ (∀ s, vx = .string s → ∀ s, vy ≠ .string s) ∧ (∀ k n, vx ≠ .float k n) ∧ ∀ k n m, vx ≠ .complex k n m) :
    binOp .eql t vx vy = (do pure (.bool (← Op.equal t vx vy))) ∧ binOp .neq t vx vy = (do pure (.bool (!(← Op.equal t vx vy)))) := by
  obtain ⟨n1, n2, n3, n4⟩ := n
  cases vx <;> cases vy <;> first | exact ⟨rfl, rfl⟩ | exact absurd rfl (n1 _ _ rfl _ _) | exact absurd rfl (n2 _ rfl _) | exact absurd rfl (n3 _ _) | exact absurd rfl (n4 _ _ _)

/-- What is compared by 'eqAny' is no number, nor a text. -/
theorem eqAny_forms {t : Nat} {cst : Bool} {dx dy : D} {vx vy : Value} (hx : RepT c env w dx vx) {b : Bool} (h : eqAny T t cst dx dy = some b)
    : (∀ k n, vx = .int k n → ∀ k n, vy ≠ .int k n) ∧ (∀ s, vx = .string s → ∀ s, vy ≠ .string s) ∧ (∀ k n, vx ≠ .float k n) ∧ ∀ k n m, vx ≠ .complex k n m := by
  have any : (∀ k n, vx ≠ .int k n) ∧ (∀ s, vx ≠ .string s) ∧ (∀ k n, vx ≠ .float k n) ∧ (∀ k n m, vx ≠ .complex k n m) → ((∀ k n, vx = .int k n → ∀ k n, vy ≠ .int k n) ∧ (∀ s, vx = .string s → ∀ s, vy ≠ .string s) ∧ (∀ k n, vx ≠ .float k n) ∧ ∀ k n m, vx ≠ .complex k n m) :=
    fun h => ⟨fun k n e => absurd e (h.1 k n), fun s e => absurd e (h.2.1 s), h.2.2.1, h.2.2.2⟩
  apply any
  have bad : (∀ e : TE, eqKind T t e cst dx dy = none) → False := by
    intro hb
    unfold eqAny at h
    cases ht : T t with
    | none => rw [ht] at h; cases h
    | some e => rw [ht] at h; simp only [hb e] at h; cases h
  cases dx with
  | bool b => obtain rfl := repT_bool hx; simp
  | agg cs => obtain ⟨vs, rfl, _⟩ := hx; simp
  | loc s o => obtain ⟨_, rfl⟩ := repT_loc hx; simp
  | eptr d o => obtain ⟨_, rfl, _⟩ := repT_eptr hx; simp
  | nilp => have : vx = .pointer none := by simpa [RepT, RepV, RepC, Rep] using hx
            subst this; simp
  | fn f cs =>
    have hv : RepC c env w (.fn f cs) vx := hx
    simp only [RepC, Rep] at hv
    obtain ⟨vs, rfl, _⟩ := hv; simp
  | nilf => have : vx = .nilFunc := by simpa [RepT, RepV, RepC, Rep] using hx
            subst this; simp
  | ifc f u =>
    have hv : RepC c env w (.ifc f u) vx := hx
    simp only [RepC, Rep] at hv
    obtain ⟨vs, rfl, _⟩ := hv; simp
  | nili => have : vx = .nilIface := by simpa [RepT, RepV, RepC, Rep] using hx
            subst this; simp
  | _ => exact absurd (fun e => by unfold eqKind; cases e.kind <;> rfl) bad

theorem run_intBits {k : IntKind} {x y : Int} : (Op.intBits .and k x y).run P w = .ok (.int k (k.wrap (BitVec.ofInt k.bits x &&& BitVec.ofInt k.bits y).toNat)) w ∧
    (Op.intBits .or k x y).run P w = .ok (.int k (k.wrap (BitVec.ofInt k.bits x ||| BitVec.ofInt k.bits y).toNat)) w ∧
    (Op.intBits .xor k x y).run P w = .ok (.int k (k.wrap (BitVec.ofInt k.bits x ^^^ BitVec.ofInt k.bits y).toNat)) w ∧
    (Op.intBits .andNot k x y).run P w = .ok (.int k (k.wrap (BitVec.ofInt k.bits x &&& ~~~ BitVec.ofInt k.bits y).toNat)) w := ⟨rfl, rfl, rfl, rfl⟩

theorem yield_bin (hT : TyOK P T) {t : Nat} {x y : Operand} {op : BinOp} {dx dy : D} {vx vy : Value} (hx : RepT c env w dx vx) (hy : RepT c env w dy vy) {r : Res} (h : binD T t (isC x || isC y) op dx dy = some r) :
    r = { side := r.side, d := r.d } ∧ (r.side = true → Yield P c env w r.d (binV op t x y vx vy)) := by
  unfold binD at h
  split at h
  · obtain rfl := repT_int hx
    obtain rfl := repT_int hy
    rename_i k m k' n
    split at h
    · simp only [Option.some.injEq] at h; subst h
      refine ⟨rfl, fun hs => ⟨_, ?_, mkInt _ _⟩⟩
      have hs := of_decide_eq_true hs
      simp [binV, eqGuard, binOp, Op.shift, Int.not_lt.2 hs]
    · simp only [Option.some.injEq] at h; subst h
      refine ⟨rfl, fun hs => ⟨_, ?_, mkInt _ _⟩⟩
      have hs := of_decide_eq_true hs
      simp [binV, eqGuard, binOp, Op.shift, Int.not_lt.2 hs]
    · cases hk : (k == k') with
      | false => rw [hk] at h; cases h
      | true =>
        obtain rfl := eq_of_beq hk
        rw [hk, cond_true] at h
        cases op <;> simp only [ok, Option.some.injEq] at h <;> first | (cases h; done) | (subst h; refine ⟨rfl, fun hs => ?_⟩)
        case add => exact ⟨_, by simp [binV, eqGuard, binOp_add, Op.intArith], mkInt _ _⟩
        case sub => exact ⟨_, by simp [binV, eqGuard, binOp_sub, Op.intArith], mkInt _ _⟩
        case mul => exact ⟨_, by simp [binV, eqGuard, binOp_mul, Op.intArith], mkInt _ _⟩
        case quo => have hs := of_decide_eq_true hs; exact ⟨_, by simp [binV, eqGuard, binOp_quo, Op.intDiv, hs], mkInt _ _⟩
        case rem => have hs := of_decide_eq_true hs; exact ⟨_, by simp [binV, eqGuard, binOp_rem, Op.intDiv, hs], mkInt _ _⟩
        case and => exact ⟨_, by simp [binV, eqGuard, binOp_and, run_intBits.1], mkInt _ _⟩
        case or => exact ⟨_, by simp [binV, eqGuard, binOp_or, run_intBits.2.1], mkInt _ _⟩
        case xor => exact ⟨_, by simp [binV, eqGuard, binOp_xor, run_intBits.2.2.1], mkInt _ _⟩
        case andNot => exact ⟨_, by simp [binV, eqGuard, binOp_andNot, run_intBits.2.2.2], mkInt _ _⟩
        case eql => exact ⟨_, by simp [binV, eqGuard, Go.binOp_eql], mkBool _⟩
        case neq => exact ⟨_, by simp [binV, eqGuard, Go.binOp_neq], mkBool _⟩
        case lss => exact ⟨_, by simp [binV, eqGuard, Go.binOp_lss], mkBool _⟩
        case leq => exact ⟨_, by simp [binV, eqGuard, Go.binOp_leq], mkBool _⟩
        case gtr => exact ⟨_, by simp [binV, eqGuard, Go.binOp_gtr], mkBool _⟩
        case geq => exact ⟨_, by simp [binV, eqGuard, Go.binOp_geq], mkBool _⟩
  · obtain rfl := repT_str hx
    obtain rfl := repT_str hy
    rename_i l m
    cases op <;> simp only [ok, Option.some.injEq] at h <;> first | (cases h; done) | (subst h; refine ⟨rfl, fun hs => ?_⟩)
    case add =>
      have hs := of_decide_eq_true hs
      have h1 : ¬ (((l.length + m.length : Nat) : Int) > IntKind.i64.max) := by rw [IntKind.max_i64]; omega
      have h2 : (⟨⟨l⟩⟩ : ByteArray) ++ (⟨⟨m⟩⟩ : ByteArray) = ⟨⟨l ++ m⟩⟩ := by apply ByteArray.ext; simp
      refine ⟨_, ?_, mkStr _⟩
      simp only [binV, eqGuard, binOp, Op.stringOp, size_mk]
      rw [if_neg h1, h2]
      rfl
    all_goals
      refine ⟨_, ?_, mkBool _⟩
      simp [binV, eqGuard, binOp, Op.stringOp, bytesLess]
  · split at h
    · cases hq : eqAny T t (isC x || isC y) dx dy with
      | none => rw [hq] at h; cases h
      | some b =>
        rw [hq] at h
        simp only [Option.map_some, Option.some.injEq] at h; subst h
        obtain ⟨h1, h2⟩ := run_eqAny (w := w) hT (.inl rfl) hx hy hq
        exact ⟨rfl, fun _ => ⟨_, by simp only [binV, (binOp_eqs t (eqAny_forms hx hq)).1]; simp [h1, h2], mkBool _⟩⟩
    · cases hq : eqAny T t (isC x || isC y) dx dy with
      | none => rw [hq] at h; cases h
      | some b =>
        rw [hq] at h
        simp only [Option.map_some, Option.some.injEq] at h; subst h
        obtain ⟨h1, h2⟩ := run_eqAny (w := w) hT (.inr rfl) hx hy hq
        exact ⟨rfl, fun _ => ⟨_, by simp only [binV, (binOp_eqs t (eqAny_forms hx hq)).2]; simp [h1, h2], mkBool _⟩⟩
    · cases h
end

end Go.Proofs.YtnooelecdbbfkaaGreatDoor.Fw

/- Maps, structs that are built, conversions. -/
namespace Go.Proofs.YtnooelecdbbfkaaGreatDoor.Fw
open Go Go.RowKit
set_option linter.unusedSectionVars false
variable [Inhabited GLT]

theorem all2_iff {α β : Type} {R : α → β → Prop} : ∀ {xa : List α} {bs : List β}, All2 R xa bs ↔ xa.length = bs.length ∧ ∀ (i : Nat) a b, xa[i]? = some a → bs[i]? = some b → R a b
  | [], [] => by simp [All2]
  | [], _ :: _ => by simp [All2]
  | _ :: _, [] => by simp [All2]
  | a :: xa, b :: bs => by
    simp only [All2, all2_iff (xa := xa) (bs := bs), List.length_cons, Nat.add_right_cancel_iff]
    constructor
    · rintro ⟨h1, h2, h3⟩
      refine ⟨h2, fun i x y hx hy => ?_⟩
      cases i with
      | zero => simp at hx hy; subst hx hy; exact h1
      | succ i => exact h3 i x y (by simpa using hx) (by simpa using hy)
    · rintro ⟨h1, h2⟩
      exact ⟨h2 0 a b rfl rfl, h1, fun i x y hx hy => h2 (i + 1) x y (by simpa using hx) (by simpa using hy)⟩

section
variable {P : Program} {T : Ty} {c : Ctx} {env : Env} {a : Act} {w : World}

theorem repV_cells {d : D} {v : Value} (h : RepV c env w d v) : ∃ vs : List Value, v.cells = ⟨vs⟩ ∧ All2 (RepC c env w) d.cells vs := by
  cases d with
  | agg cs => obtain ⟨vs, rfl, h⟩ := h; exact ⟨vs, rfl, h⟩
  | _ =>
    simp only [RepV] at h
    have h1 := repC_one h
    refine ⟨[v], ?_, h, trivial⟩
    cases v <;> first | rfl | (cases h1; done)

theorem size_foldSet (off : Nat) : ∀ (l : List Value) (j : Nat) (cs : Array Value), ((l.zipIdx j).foldl (fun cs p => cs.setIfInBounds (off + p.2) p.1) cs).size = cs.size
  | [], _, _ => rfl
  | x :: l, j, cs => by simp only [List.zipIdx_cons, List.foldl_cons]; rw [size_foldSet off l (j + 1)]; simp
theorem get_foldSet (off : Nat) : ∀ (l : List Value) (j : Nat) (cs : Array Value), off + j + l.length ≤ cs.size → ∀ k, ((l.zipIdx j).foldl (fun cs p => cs.setIfInBounds (off + p.2) p.1) cs)[k]? = if off + j ≤ k ∧ k < off + j + l.length then l[k - (off + j)]? else cs[k]?
  | [], j, cs, _, k => by simp; omega
  | x :: l, j, cs, hl, k => by
    simp only [List.zipIdx_cons, List.foldl_cons, List.length_cons] at hl ⊢
    rw [get_foldSet off l (j + 1) _ (by simp; omega) k]
    by_cases h1 : off + (j + 1) ≤ k ∧ k < off + (j + 1) + l.length
    · rw [if_pos h1, if_pos (by omega)]
      rw [show k - (off + j) = (k - (off + (j + 1))) + 1 from by omega]; simp
    · rw [if_neg h1]
      rw [Array.getElem?_setIfInBounds]
      by_cases h2 : off + j = k
      · subst h2
        rw [if_pos rfl, if_pos (by omega), if_pos (by omega)]; simp
      · rw [if_neg h2, if_neg (by omega)]

theorem splice_get (cs new : List D) (off k : Nat) (h : off + new.length ≤ cs.length) : (splice cs off new)[k]? = if off ≤ k ∧ k < off + new.length then new[k - off]? else cs[k]? := by
  unfold splice
  by_cases h1 : k < off
  · rw [if_neg (by omega), List.append_assoc, List.getElem?_append_left (by simp; omega), List.getElem?_take, if_pos h1]
  · by_cases h2 : k < off + new.length
    · rw [if_pos (by omega), List.append_assoc, List.getElem?_append_right (by simp; omega), List.getElem?_append_left (by simp; omega)]
      simp [show min off cs.length = off from by omega]
    · rw [if_neg (by omega), List.getElem?_append_right (by simp; omega), List.getElem?_drop]
      congr 1
      simp; omega
theorem splice_length (cs new : List D) (off : Nat) (h : off + new.length ≤ cs.length) : (splice cs off new).length = cs.length := by
  unfold splice; simp; omega

theorem all2_splice {cs new : List D} {vs us : List Value} {off : Nat} (h : All2 (RepC c env w) cs vs) (hn : All2 (RepC c env w) new us) (hl : off + new.length ≤ cs.length) {ws : Array Value} (hs : ws.size = vs.length)
    (hg : ∀ k, ws[k]? = if off ≤ k ∧ k < off + us.length then us[k - off]? else vs[k]?) : All2 (RepC c env w) (splice cs off new) ws.toList := by
  have l1 := h.length; have l2 := hn.length
  refine all2_iff.2 ⟨by rw [splice_length _ _ _ hl]; simp [hs, l1], fun i x y hx hy => ?_⟩
  rw [splice_get _ _ _ _ hl] at hx
  rw [Array.getElem?_toList, hg] at hy
  by_cases h1 : off ≤ i ∧ i < off + new.length
  · rw [if_pos h1] at hx; rw [if_pos (by omega)] at hy
    exact (all2_iff.1 hn).2 _ _ _ hx hy
  · rw [if_neg h1] at hx; rw [if_neg (by omega)] at hy
    exact (all2_iff.1 h).2 _ _ _ hx hy

/-- The parts of a struct or an array. -/
def RepP (c : Ctx) (env : Env) (w : World) : List (Nat × D) → List (Nat × Value) → Prop := All2 fun p q => p.1 = q.1 ∧ RepV c env w p.2 q.2

theorem fill_rep {off place : Nat → Option (Nat × Nat)} (hp : ∀ i o n, off i = some (o, n) → place i = some (o, n)) : ∀ (ps : List (Nat × D)) (qs : List (Nat × Value)) (cs : List D) (vs : List Value) (r : List D), RepP c env w ps qs → All2 (RepC c env w) cs vs → buildCells off cs ps = some r →
    ∃ us : List Value, Instr.fill place ⟨vs⟩ qs = some ⟨us⟩ ∧ All2 (RepC c env w) r us
  | [], [], cs, vs, r, _, hv, h => by simp only [buildCells, Option.some.injEq] at h; subst h; exact ⟨vs, rfl, hv⟩
  | [], _ :: _, _, _, _, h, _, _ => h.elim
  | _ :: _, [], _, _, _, h, _, _ => h.elim
  | (i, d) :: ps, (i', v) :: qs, cs, vs, r, hpq, hv, h => by
    obtain ⟨⟨e, hd⟩, hpq⟩ := hpq
    simp only at e hd; subst e
    simp only [buildCells] at h
    cases ho : off i with
    | none => rw [ho] at h; cases h
    | some q =>
      obtain ⟨o, n⟩ := q
      rw [ho] at h
      simp only at h
      cases hb : (Nat.beq d.cells.length n && Nat.ble (o + n) cs.length) with
      | false => rw [hb] at h; cases h
      | true =>
        rw [hb, cond_true] at h
        simp only [Bool.and_eq_true, nbeq, Nat.ble_eq] at hb
        obtain ⟨rfl, hle⟩ := hb
        obtain ⟨us, hus, hr⟩ := repV_cells hd
        have l1 := hr.length; have l2 := hv.length
        have hws := all2_splice hv hr hle (ws := (us.zipIdx 0).foldl (fun cs p => cs.setIfInBounds (o + p.2) p.1) ⟨vs⟩) (by rw [size_foldSet]; rfl) (fun k => by
          rw [get_foldSet o us 0 ⟨vs⟩ (by show o + 0 + us.length ≤ vs.length; omega) k]; simp)
        obtain ⟨zs, hz, hz2⟩ := fill_rep hp ps qs _ _ r hpq hws h
        refine ⟨zs, ?_, hz2⟩
        unfold Instr.fill
        rw [hp i _ _ ho]
        have e1 : ((⟨us⟩ : Array Value).size ≠ d.cells.length || decide (o + (⟨us⟩ : Array Value).size > (⟨vs⟩ : Array Value).size)) = false := by
          have e2 : (⟨us⟩ : Array Value).size = us.length := rfl
          have e3 : (⟨vs⟩ : Array Value).size = vs.length := rfl
          rw [e2, e3]; simp; omega
        simp only [hus]
        rw [if_neg (by rw [e1]; simp)]
        have : ((⟨us⟩ : Array Value).zipIdx.foldl (fun cs x => match x with | (c, j) => cs.setIfInBounds (o + j) c) (⟨vs⟩ : Array Value)) = (us.zipIdx 0).foldl (fun (cs : Array Value) p => cs.setIfInBounds (o + p.2) p.1) ⟨vs⟩ := by
          rw [← Array.foldl_toList]
          have : (⟨us⟩ : Array Value).zipIdx.toList = us.zipIdx 0 := by simp
          rw [this]
        rw [this]
        exact hz

theorem zero_spec {t : Nat} {e : TE} (he : TEok P t e) : ∃ (z : Value) (vs : List Value), (∀ w, (zeroValue t).run P w = .ok z w) ∧ z.cells = ⟨vs⟩ ∧ vs.length = e.size ∧ e.zero.cells.length = e.size ∧ (∀ c env w, RepV c env w e.zero z) := by
  obtain ⟨i, z, h1, h2, h3, h4, h5, h6, h7⟩ := he.info
  refine ⟨z, z.cells.toList, fun w => by simp [zeroValue, typeInfo, h1, h4], rfl, by simp [h5], h6, h7⟩

theorem mapM_get {α β : Type} {f : α → Option β} : ∀ {l : List α} {r : List β}, l.mapM f = some r → ∀ (i : Nat) (x : α) (y : β), l[i]? = some x → f x = some y → r[i]? = some y
  | [], r, h, i, x, y, hx, hy => by simp at hx
  | z :: l, r, h, i, x, y, hx, hy => by
    simp only [List.mapM_cons, Option.bind_eq_bind, Option.bind_eq_some_iff, Option.pure_def, Option.some.injEq] at h
    obtain ⟨u, hu, us, hus, rfl⟩ := h
    cases i with
    | zero => simp at hx; subst hx; rw [hu] at hy; simpa using hy
    | succ i => simpa using mapM_get hus i x y (by simpa using hx) hy

theorem yield_build (hT : TyOK P T) {t : Nat} {e : TE} (ht : T t = some e) {ps : List (Nat × D)} {qs : List (Nat × Value)} (hp : RepP c env w ps qs) {cs : List D}
    (h : (match e.kind with
      | .agg fs => buildCells (fun i => match fs[i]? with | some (o, u) => (T u).map fun eu => (o, eu.size) | none => none) e.zero.cells ps
      | .arr _ u => match T u with
        | some eu => buildCells (fun i => some (i * eu.size, eu.size)) e.zero.cells ps
        | none => none
      | _ => none) = some cs) : Yield P c env w (.agg cs) (Instr.build t ⟨qs⟩) := by
  have he := hT t e ht
  obtain ⟨z, zs, hz, hzc, hzl, _, hzr⟩ := zero_spec he
  obtain ⟨zs', hzc', hz2⟩ := repV_cells (hzr c env w)
  rw [hzc] at hzc'
  obtain rfl : zs = zs' := by injection hzc'
  have hK := he.kind
  cases hk : e.kind <;> rw [hk] at h hK <;> simp only at h <;> first | (cases h; done) | skip
  case agg fs =>
    obtain ⟨Fs, h1, h2, _, _, h5⟩ := hK
    subst h2
    obtain ⟨places, hpl⟩ := Option.isSome_iff_exists.1 h5
    have hoff : ∀ i o n : Nat, (match (Fs.toList.map fun f => (f.offset, f.type))[i]? with | some (o, u) => (T u).map (fun eu : TE => (o, eu.size)) | none => none) = some (o, n) → places.toArray[i]? = some (o, n) := by
      intro i o n hi
      rw [List.getElem?_map] at hi
      cases hF : Fs.toList[i]? with
      | none => rw [hF] at hi; cases hi
      | some F =>
        rw [hF] at hi
        simp only [Option.map_some] at hi
        cases hu : T F.type with
        | none => rw [hu] at hi; cases hi
        | some eu =>
          rw [hu] at hi
          simp only [Option.map_some, Option.some.injEq, Prod.mk.injEq] at hi
          obtain ⟨rfl, rfl⟩ := hi
          obtain ⟨inf, _, g1, g2, _⟩ := (hT _ _ hu).info
          rw [List.getElem?_toArray]
          exact mapM_get hpl i F _ hF (by rw [g1, Option.map_some, g2])
    obtain ⟨us, hus, hr⟩ := fill_rep hoff ps qs _ _ cs hp hz2 h
    refine ⟨.agg ⟨us⟩, ?_, us, rfl, hr⟩
    obtain ⟨inf, z0, g1, _, _, g4, _⟩ := he.info
    have hz0 : z0 = z := by
      have := hz w
      simp [zeroValue, typeInfo, g1, g4] at this
      exact this
    subst hz0
    exact run_build w t ⟨qs⟩ ⟨us⟩ (by simp only [Program.built, g1, h1, g4, hpl]; rw [hzc]; exact hus)
  case arr n u =>
    simp only [KindOK] at hK
    cases hu : T u with
    | none => rw [hu] at h; cases h
    | some eu =>
      rw [hu] at h
      obtain ⟨us, hus, hr⟩ := fill_rep (place := fun i => some (i * eu.size, eu.size)) (fun i o n hi => hi) ps qs _ _ cs hp hz2 h
      refine ⟨.agg ⟨us⟩, ?_, us, rfl, hr⟩
      obtain ⟨inf, z0, g1, _, _, g4, _⟩ := he.info
      obtain ⟨infu, _, k1, k2, _⟩ := (hT _ _ hu).info
      have hz0 : z0 = z := by
        have := hz w
        simp [zeroValue, typeInfo, g1, g4] at this
        exact this
      subst hz0
      exact run_build w t ⟨qs⟩ ⟨us⟩ (by simp only [Program.built, g1, hK, g4, k1]; rw [hzc, k2]; exact hus)

/-! ### Maps -/
theorem eqD_true {x y : D} {vx vy : Value} (hx : RepC c env w x vx) (hy : RepC c env w y vy) (h : eqD x y = some true) : vx = vy := by
  rcases repC_eqD hx hy h with ⟨k, m, n, rfl, rfl, e⟩ | ⟨m, n, rfl, rfl, e⟩ | ⟨m, n, rfl, rfl, e⟩ <;> rw [eq_of_beq e.symm]
theorem eqCs_true : ∀ {cs ds : List D} {us vs : List Value}, eqCs cs ds = some true → All2 (RepC c env w) cs us → All2 (RepC c env w) ds vs → us = vs
  | [], [], [], [], _, _, _ => rfl
  | x :: cs, y :: ds, u :: us, v :: vs, h, h1, h2 => by
    simp only [eqCs] at h
    cases e1 : eqD x y with
    | none => rw [e1] at h; cases h
    | some p =>
      cases e2 : eqCs cs ds with
      | none => rw [e1, e2] at h; cases h
      | some q =>
        rw [e1, e2] at h
        simp only [Option.some.injEq, Bool.and_eq_true] at h
        obtain ⟨rfl, rfl⟩ := h
        rw [eqD_true h1.1 h2.1 e1, eqCs_true e2 h1.2 h2.2]
  | [], [], [], _ :: _, _, _, h => h.elim
  | [], [], _ :: _, _, _, h, _ => h.elim
  | [], _ :: _, _, _, h, _, _ => by simp [eqCs] at h
  | _ :: _, [], _, _, h, _, _ => by simp [eqCs] at h
  | _ :: _, _ :: _, [], _, _, h, _ => h.elim
  | _ :: _, _ :: _, _ :: _, [], _, _, h => h.elim

theorem asV_of {e : TE} {d : D} {v : Value} (hd : RepV c env w d v) (ha : e.isAgg = d.isAgg) : ∃ vs, v = asV e vs ∧ All2 (RepC c env w) d.cells vs := by
  cases d with
  | agg cs => obtain ⟨vs, rfl, h⟩ := hd; exact ⟨vs, by simp [asV, ha, D.isAgg], h⟩
  | _ => simp only [RepV] at hd; exact ⟨[v], by simp [asV, ha, D.isAgg], hd, trivial⟩

/-- What a key that fits says. -/
theorem fitK_spec {q : Nat} {k x : D} (h : fitK T q k x = true) : x.isVal = true ∧ (∃ e, T q = some e ∧ e.isAgg = x.isAgg) ∧ ∃ b, eqTy T 6 q k.cells x.cells = some b ∧ eqCs k.cells x.cells = some b ∧ eqKey k x = b := by
  unfold fitK at h
  simp only [Bool.and_eq_true] at h
  obtain ⟨⟨h1, h2⟩, h3⟩ := h
  refine ⟨h1, ?_, ?_⟩
  · cases ht : T q with
    | none => rw [ht] at h2; cases h2
    | some e => rw [ht] at h2; exact ⟨e, rfl, by simpa using h2⟩
  · cases e1 : eqTy T 6 q k.cells x.cells with
    | none => rw [e1] at h3; cases h3
    | some b =>
      cases e2 : eqCs k.cells x.cells with
      | none => rw [e1, e2] at h3; cases h3
      | some b' =>
        rw [e1, e2] at h3
        simp only [beq_iff_eq] at h3; subst h3
        exact ⟨b, rfl, rfl, by simp [eqKey, e2]⟩

theorem run_key_equal (hT : TyOK P T) {q : Nat} {k x : D} {vk vx : Value} (hk : RepV c env w k vk) (hx : RepV c env w x vx) {e : TE} (he : T q = some e) (hka : e.isAgg = k.isAgg) (hf : fitK T q k x = true) :
    (∀ m, (Op.equalIn (m + 6) q vk vx).run P w = .ok (eqKey k x) w) ∧ (eqKey k x = true → vk = vx) := by
  obtain ⟨h1, ⟨e', he', ha⟩, b, h2, h3, rfl⟩ := fitK_spec hf
  rw [he] at he'; cases he'
  obtain ⟨us, rfl, hu⟩ := asV_of hk hka
  obtain ⟨vs, rfl, hv⟩ := asV_of hx ha
  refine ⟨fun m => run_eqTy hT 6 q e _ _ _ _ _ he h2 hu hv (m + 6) (by omega), fun hb => ?_⟩
  rw [hb] at h3
  rw [eqCs_true h3 hu hv]

theorem run_forUnit {α : Type} (f : α → PUnit → Sem (ForInStep PUnit)) (w : World) : ∀ (l : List α), (∀ x ∈ l, (f x PUnit.unit).run P w = .ok (ForInStep.yield PUnit.unit) w) → (forIn l (PUnit.unit : PUnit) f : Sem PUnit).run P w = .ok ⟨⟩ w
  | [], _ => by simp
  | x :: l, h => by
    have h1 := h x (by simp)
    have ih := run_forUnit f w l (fun y hy => h y (by simp [hy]))
    simp only [List.forIn_cons, Sem.run_bind, h1, Result.andThen_ok]
    exact ih

theorem run_checkKey (hT : TyOK P T) (empty : Bool) : ∀ (n q : Nat) (e : TE) (xs : List D) (vx : List Value) (b : Bool), T q = some e → eqTy T n q xs xs = some b → All2 (RepC c env w) xs vx → ∀ m, n ≤ m → (Instr.checkKey empty m q (asV e vx)).run P w = .ok () w
  | 0, q, e, xs, vx, b, ht, h, hx, m, hm => by simp [eqTy] at h
  | n + 1, q, e, xs, vx, b, ht, h, hx, m, hm => by
    obtain ⟨m, rfl⟩ : ∃ k, m = k + 1 := ⟨m - 1, by omega⟩
    have he := hT q e ht
    have hK := he.kind
    simp only [eqTy, ht] at h
    cases hk : e.kind <;> rw [hk] at h hK <;> simp only at h <;> first | (cases h; done) | skip
    case int k => simp only [KindOK] at hK; simp [Instr.checkKey, run_underlying hK]
    case bool => simp only [KindOK] at hK; simp [Instr.checkKey, run_underlying hK]
    case str => simp only [KindOK] at hK; simp [Instr.checkKey, run_underlying hK]
    case agg fs =>
      obtain ⟨Fs, h1, h2, h3, h4, _⟩ := hK
      have hag : e.isAgg = true := by simp [TE.isAgg, hk]
      subst h2
      rw [List.map_map] at h
      obtain ⟨g, _, hg⟩ := allB_map h
      simp only [asV, hag, if_true, Instr.checkKey, Sem.run_bind, run_underlying h1, Result.andThen_ok]
      rw [← Array.forIn_toList, run_forUnit (P := P) _ w Fs.toList (fun F hF => ?_)]
      · rfl
      · have hgF := hg F hF
        simp only [Function.comp] at hgF
        have hn : F.name ≠ "_" := by simpa using List.all_eq_true.1 h3 F hF
        cases hu : T F.type with
        | none => rw [hu] at hgF; cases hgF
        | some eu =>
          rw [hu] at hgF
          simp only at hgF
          cases hb : (Nat.ble (F.offset + eu.size) xs.length && Nat.ble (F.offset + eu.size) xs.length) with
          | false => rw [hb] at hgF; cases hgF
          | true =>
            rw [hb, cond_true] at hgF
            simp only [Bool.and_eq_true, Nat.ble_eq] at hb
            have l1 := hx.length
            rw [if_pos hn]
            simp only [Sem.run_bind, run_part_at (hT _ _ hu) (show F.offset + eu.size ≤ vx.length by omega) (hT _ _ hu).one, Result.andThen_ok,
              run_checkKey hT empty n F.type eu _ _ _ hu hgF ((hx.drop _).take _) m (by omega), Sem.run_pure]
    case arr k u =>
      have hag : e.isAgg = true := by simp [TE.isAgg, hk]
      simp only [KindOK] at hK
      cases hu : T u with
      | none => rw [hu] at h; cases h
      | some eu =>
        rw [hu] at h
        simp only at h
        obtain ⟨g, _, hg⟩ := allB_map h
        simp only [asV, hag, if_true, Instr.checkKey, Sem.run_bind, run_underlying hK, Result.andThen_ok]
        rw [Std.Legacy.Range.forIn_eq_forIn_range']
        have hr : List.range' ([:k] : Std.Legacy.Range).start ([:k] : Std.Legacy.Range).size ([:k] : Std.Legacy.Range).step = List.range k := by
          simp [Std.Legacy.Range.size, List.range_eq_range']
        rw [hr, run_forUnit (P := P) _ w (List.range k) (fun i hi => ?_)]
        · rfl
        · have hgi := hg i hi
          cases hb : (Nat.ble (i * eu.size + eu.size) xs.length && Nat.ble (i * eu.size + eu.size) xs.length) with
          | false => rw [hb] at hgi; cases hgi
          | true =>
            rw [hb, cond_true] at hgi
            simp only [Bool.and_eq_true, Nat.ble_eq] at hb
            have l1 := hx.length
            simp only [Sem.run_bind, (hT _ _ hu).size, Result.andThen_ok, run_part_at (hT _ _ hu) (show i * eu.size + eu.size ≤ vx.length by omega) (hT _ _ hu).one,
              run_checkKey hT empty n u eu _ _ _ hu hgi ((hx.drop _).take _) m (by omega), Sem.run_pure]

theorem findD_eq {k : D} : ∀ {ks vs : List D}, ks.length = vs.length → findD k ks vs = (ks.findIdx? (eqKey k)).bind (vs[·]?)
  | [], [], _ => rfl
  | x :: ks, v :: vs, h => by
    simp only [findD, List.findIdx?_cons]
    cases hk : eqKey k x with
    | true => simp
    | false =>
      simp only [cond_false, Bool.false_eq_true, if_false]
      rw [findD_eq (by simpa using h), Option.map_eq_bind, Option.bind_assoc]
      congr 1
  | [], _ :: _, h => by simp at h
  | _ :: _, [], h => by simp at h
theorem putD_eq {k v : D} : ∀ {ks vs : List D}, ks.length = vs.length → putD k v ks vs = match ks.findIdx? (eqKey k) with
    | some i => (ks.set i k, vs.set i v)
    | none => (ks ++ [k], vs ++ [v])
  | [], [], _ => rfl
  | x :: ks, u :: vs, h => by
    simp only [putD, List.findIdx?_cons]
    cases hk : eqKey k x with
    | true => simp
    | false =>
      simp only [cond_false, Bool.false_eq_true, if_false]
      rw [putD_eq (by simpa using h)]
      cases ks.findIdx? (eqKey k) <;> simp
  | [], _ :: _, h => by simp at h
  | _ :: _, [], h => by simp at h

theorem run_findAsking (f : MapEntry → Bool) {q : Nat} {vk : Value} : ∀ (es : List MapEntry) (i : Nat), (∀ e ∈ es, (Op.equal q vk e.key).run P w = .ok (f e) w) →
    (Instr.findAsking q vk es i).run P w = .ok ((es.findIdx? f).bind fun j => (es[j]?).map fun e => (i + j, e.val)) w
  | [], _, _ => by simp [Instr.findAsking]
  | e :: es, i, h => by
    have h1 := h e (by simp)
    have ih := run_findAsking f es (i + 1) (fun x hx => h x (by simp [hx]))
    simp only [Instr.findAsking, Sem.run_bind, h1, Result.andThen_ok, Sem.run_ite, List.findIdx?_cons]
    cases hf : f e
    · simp only [Bool.false_eq_true, if_false, ih]
      congr 1
      rw [Option.map_eq_bind, Option.bind_assoc]
      congr 1
      funext j
      simp [Nat.add_assoc, Nat.add_comm 1 j]
    · simp

theorem findNow_eq (f : MapEntry → Bool) {d : TypeDesc} {vk : Value} : ∀ (es : List MapEntry) (i : Nat), (∀ e ∈ es, Instr.sameNow d vk e.key = some (f e) ∨ Instr.sameNow d vk e.key = none) → ∀ r, Instr.findNow d vk es i = some r → r = (es.findIdx? f).bind fun j => (es[j]?).map fun e => (i + j, e.val)
  | [], _, _, r, h => by simp [Instr.findNow] at h; simp [← h]
  | e :: es, i, hs, r, h => by
    simp only [Instr.findNow] at h
    rcases hs e (by simp) with h1 | h1
    · rw [h1] at h
      cases hf : f e with
      | true => rw [hf] at h; simp only [Option.some.injEq] at h; subst h; simp [List.findIdx?_cons, hf]
      | false =>
        rw [hf] at h
        simp only at h
        rw [findNow_eq f es (i + 1) (fun x hx => hs x (by simp [hx])) r h]
        simp only [List.findIdx?_cons, hf, Bool.false_eq_true, if_false, Option.map_eq_bind, Option.bind_assoc]
        congr 1
        funext j
        simp [Nat.add_assoc, Nat.add_comm 1 j]
    · rw [h1] at h; cases h
end

end Go.Proofs.YtnooelecdbbfkaaGreatDoor.Fw
