/- A deterministic evaluation of the loaded code over plain data: the data, the state of a function, and what each operation gives. Nothing is claimed here. -/
import Derived.WalkKit
namespace Go.Proofs.Ytndijidmabfhcaa.Fw
open Go

/-- Plain data. A slice is what it holds; a pointer to what changes no more is what it points to. -/
inductive D where
  | int (k : IntKind) (n : Int)
  | bool (b : Bool)
  | str (l : List UInt8)
  | agg (cs : List D)
  | tup (vs : List D)
  | sl (st es : Nat) (xs : List D)
  | eptr (d : D) (off : Nat)
  | nilp
  | fn (f : Nat) (caps : List D)
  | nilf
  | ifc (t : Nat) (d : D)
  | nili
  | mapv (ks vs : List D)
  | nilm
  | yld (l : Nat)
  | loc (s off : Nat)
  | lsl (s off n : Nat)
  | mapr (s : Nat)
  | wh (s : Nat) (w : Bool) (d : D)
  | undef
  deriving Inhabited

def D.cells : D → List D
  | .agg cs => cs
  | d => [d]

/-- What lies in one cell. -/
def D.isCell : D → Bool
  | .agg _ | .tup _ => false
  | _ => true
def D.isAgg : D → Bool
  | .agg _ => true
  | _ => false
def D.isInt : D → Bool
  | .int _ _ => true
  | _ => false
def D.isBool : D → Bool
  | .bool _ => true
  | _ => false
def D.isStr : D → Bool
  | .str _ => true
  | _ => false
def D.isVal : D → Bool
  | .tup _ => false
  | _ => true

/-- What may be laid into a variable. -/
def D.good : D → Bool
  | .undef | .tup _ | .wh _ _ _ => false
  | _ => true
def goods (ps : List (Nat × D)) : Option (List (Nat × D)) := bif ps.all (fun p => p.2.good) then some ps else none

/-- A local variable: its cells; whether it is a struct or an array; whether it changes no more. -/
structure BoxC where
  cells : List D
  isAgg : Bool
  frozen : Bool
structure MapC where
  ks : List D
  vs : List D
  frozen : Bool

def BoxC.whole (b : BoxC) : D := if b.isAgg then .agg b.cells else b.cells.headD .undef

structure Env where
  nt : Nat
  tm : List (Nat × D)
  wt : List (Nat × D)
  bx : List (Nat × BoxC)
  mp : List (Nat × MapC)
  us : List (Nat × Nat)
  dd : List Nat
  ys : Option (Nat × List (List D)) := none

def look {α : Type} (t : Nat) : List (Nat × α) → Option α
  | [] => none
  | (s, x) :: l => bif Nat.beq s t then some x else look t l

/-- Types: what is asked of a type. -/
inductive TK where
  | int (k : IntKind)
  | bool
  | str
  | agg (fs : List (Nat × Nat))   -- fields: offset, type
  | arr (n e : Nat)
  | sl (e : Nat) | mp (k v : Nat) | ptr | func | ifc | other
def TK.notIfc : TK → Bool
  | .ifc | .other => false
  | _ => true
structure TE where
  kind : TK
  size : Nat
  bytes : Nat
  zero : D
  eqg : Bool
abbrev Ty := Nat → Option TE

def TE.isAgg (t : TE) : Bool := match t.kind with | .agg _ | .arr _ _ => true | _ => false

def dconst : Value → D
  | .int k n => .int k n
  | .bool b => .bool b
  | .string s => .str s.data.toList
  | .nilFunc => .nilf
  | .nilIface => .nili
  | .pointer none => .nilp
  | .slice none 0 0 => .sl 1 0 []
  | .map none => .nilm
  | _ => .undef

def tv (wt tm : List (Nat × D)) : Operand → D
  | .tmp t => match look t wt with
    | some d => d
    | none => (look t tm).getD .undef
  | .const v => dconst v
  | .global _ => .undef
  | .func f => .fn f []

/-- What is used by an operation that is done only if slot s holds w. -/
def unw (g : Option (Nat × Bool)) : D → D
  | .wh s w d => match g with
    | some (s', w') => bif Nat.beq s s' && (w == w') then d else .undef
    | none => .undef
  | d => d

def unwk (g : Option (Nat × Bool)) : D → D
  | .wh s w d => match g with
    | some (s', w') => bif Nat.beq s s' && (w == w') then d else .wh s w d
    | none => .wh s w d
  | d => d

def unwp (c : Operand) (b : Bool) : D → D
  | .wh s w d => match c with
    | .tmp t => bif Nat.beq s t && (w == b) then d else .undef
    | _ => .undef
  | d => d

mutual
/-- What may leave the function: no local variables; stamps are left off. -/
def clo (mp : List (Nat × MapC)) : D → Option D
  | .sl _ es xs => some (.sl 0 es xs)
  | .agg cs => (cloL mp cs).map .agg
  | .mapr s => (look s mp).map fun m => .mapv m.ks m.vs
  | .loc _ _ | .lsl _ _ _ | .wh _ _ _ | .undef | .tup _ => none
  | d => some d
def cloL (mp : List (Nat × MapC)) : List D → Option (List D)
  | [] => some []
  | d :: ds => match clo mp d, cloL mp ds with
    | some a, some b => some (a :: b)
    | _, _ => none
end

/-- The maps that go out so. -/
def cloM : D → List Nat
  | .mapr s => [s]
  | .agg cs => cs.filterMap fun | .mapr s => some s | _ => none
  | _ => []

def partD (e : TE) (cs : List D) (off : Nat) : Option D :=
  bif e.isAgg then (bif Nat.ble (off + e.size) cs.length then some (.agg ((cs.drop off).take e.size)) else none) else cs[off]?

/-- Is a slot free of what is under a guard? -/
def wtFree (dst : Nat) : List (Nat × D) → Bool
  | [] => true
  | (t, .wh s _ _) :: l => !Nat.beq t dst && !Nat.beq s dst && wtFree dst l
  | _ => false

def Env.set (env : Env) (dst : Nat) (g : Option (Nat × Bool)) (d : D) : Option Env :=
  bif Nat.blt dst env.nt && wtFree dst env.wt then
    match g with
    | none => some { env with tm := (dst, d) :: env.tm }
    | some (s, b) => bif Nat.beq s dst then none else some { env with tm := (dst, .undef) :: env.tm, wt := (dst, .wh s b d) :: env.wt }
  else none

def splice (cs : List D) (off : Nat) (new : List D) : List D := cs.take off ++ new ++ cs.drop (off + new.length)

/-- What one operation gives. -/
structure Res where
  side : Bool := true
  d : D
  bx : Option BoxC := none
  mp : Option MapC := none
  fz : List Nat := []
  fm : List Nat := []
  kill : Nat := 0
  own : Option Nat := none

def ok (d : D) : Option Res := some { d }

def bytesLess := Op.bytesLess

/-- Two things of a plain kind are the same. -/
def eqD : D → D → Option Bool
  | .int k a, .int k' b => bif k == k' then some (a == b) else none
  | .bool a, .bool b => some (a == b)
  | .str a, .str b => some (a == b)
  | _, _ => none
def allB : List (Option Bool) → Option Bool
  | [] => some true
  | some x :: l => (allB l).map (x && ·)
  | none :: _ => none
/-- Two structs or arrays of plain things are the same, field by field. -/
def eqTy (T : Ty) : Nat → Nat → List D → List D → Option Bool
  | 0, _, _, _ => none
  | n + 1, t, xs, ys => match T t with
    | some e => match e.kind with
      | .int _ => match xs, ys with
        | [a], [b] => bif a.isInt then eqD a b else none
        | _, _ => none
      | .bool => match xs, ys with
        | [a], [b] => bif a.isBool then eqD a b else none
        | _, _ => none
      | .str => match xs, ys with
        | [a], [b] => bif a.isStr then eqD a b else none
        | _, _ => none
      | .agg fs => allB (fs.map fun p => match T p.2 with
        | some eu => bif Nat.ble (p.1 + eu.size) xs.length && Nat.ble (p.1 + eu.size) ys.length then eqTy T n p.2 ((xs.drop p.1).take eu.size) ((ys.drop p.1).take eu.size) else none
        | none => none)
      | .arr m u => match T u with
        | some eu => allB ((List.range m).map fun i => bif Nat.ble (i * eu.size + eu.size) xs.length && Nat.ble (i * eu.size + eu.size) ys.length then eqTy T n u ((xs.drop (i * eu.size)).take eu.size) ((ys.drop (i * eu.size)).take eu.size) else none)
        | none => none
      | _ => none
    | none => none
def eqKind (T : Ty) (t : Nat) (e : TE) (cst : Bool) (a b : D) : Option Bool :=
  match e.kind with
  | .agg _ | .arr _ _ => match a, b with
    | .agg x, .agg y => bif e.eqg then eqTy T 6 t x y else none
    | _, _ => none
  | .bool => match a, b with
    | .bool x, .bool y => some (x == y)
    | _, _ => none
  | .ptr => match a, b with
    | .nilp, .nilp => some true
    | .nilp, .eptr _ _ | .eptr _ _, .nilp | .nilp, .loc _ _ | .loc _ _, .nilp => some false
    | _, _ => none
  | .func => match a, b with
    | .nilf, .nilf => some true
    | .nilf, .fn _ _ | .fn _ _, .nilf => some false
    | _, _ => none
  | .ifc => match a, b with
    | .nili, .ifc _ _ | .ifc _ _, .nili => some false
    | .nili, .nili => bif cst then some true else none
    | _, _ => none
  | _ => none
def eqAny (T : Ty) (t : Nat) (cst : Bool) (a b : D) : Option Bool :=
  match T t with
  | some e => eqKind T t e cst a b
  | none => none

def isC : Operand → Bool
  | .const _ => true
  | _ => false

def binD (T : Ty) (t : Nat) (cst : Bool) (op : BinOp) (a b : D) : Option Res :=
  match a, b with
  | .int k x, .int k' y =>
    match op with
    | .shl => some { d := .int k (k.wrap (x * 2 ^ (min y.toNat k.bits))), side := decide (0 ≤ y) }
    | .shr => some { d := .int k (x.fdiv (2 ^ (min y.toNat k.bits))), side := decide (0 ≤ y) }
    | _ => bif k == k' then match op with
      | .add => ok (.int k (k.wrap (x + y)))
      | .sub => ok (.int k (k.wrap (x - y)))
      | .mul => ok (.int k (k.wrap (x * y)))
      | .quo => some { d := .int k (k.wrap (x.tdiv y)), side := decide (y ≠ 0) }
      | .rem => some { d := .int k (x.tmod y), side := decide (y ≠ 0) }
      | .and => ok (.int k (k.wrap (BitVec.ofInt k.bits x &&& BitVec.ofInt k.bits y).toNat))
      | .or => ok (.int k (k.wrap (BitVec.ofInt k.bits x ||| BitVec.ofInt k.bits y).toNat))
      | .xor => ok (.int k (k.wrap (BitVec.ofInt k.bits x ^^^ BitVec.ofInt k.bits y).toNat))
      | .andNot => ok (.int k (k.wrap (BitVec.ofInt k.bits x &&& ~~~ BitVec.ofInt k.bits y).toNat))
      | .eql => ok (.bool (x == y))
      | .neq => ok (.bool (x != y))
      | .lss => ok (.bool (decide (x < y)))
      | .leq => ok (.bool (decide (x ≤ y)))
      | .gtr => ok (.bool (decide (y < x)))
      | .geq => ok (.bool (decide (y ≤ x)))
      | _ => none
      else none
  | .str x, .str y =>
    match op with
    | .add => some { d := .str (x ++ y), side := decide (x.length + y.length ≤ 9223372036854775807) }
    | .eql => ok (.bool (x == y))
    | .neq => ok (.bool (!(x == y)))
    | .lss => ok (.bool (bytesLess x y))
    | .leq => ok (.bool (bytesLess x y || x == y))
    | .gtr => ok (.bool !(bytesLess x y || x == y))
    | .geq => ok (.bool !(bytesLess x y))
    | _ => none
  | _, _ =>
    match op with
    | .eql => (eqAny T t cst a b).map fun r => { d := .bool r }
    | .neq => (eqAny T t cst a b).map fun r => { d := .bool !r }
    | _ => none

def unD (op : UnOp) (a : D) : Option Res :=
  match op, a with
  | .not, .bool b => ok (.bool !b)
  | .neg, .int k n => ok (.int k (k.wrap (0 - n)))
  | _, _ => none

/-- Two keys are the same, cell by cell. -/
def eqCs : List D → List D → Option Bool
  | [], [] => some true
  | a :: as, b :: bs => match eqD a b, eqCs as bs with
    | some x, some y => some (x && y)
    | _, _ => none
  | _, _ => none
def eqKey (k x : D) : Bool := (eqCs k.cells x.cells).getD false
/-- Where a map has a key: the first place. -/
def findD (k : D) : List D → List D → Option D
  | x :: ks, v :: vs => bif eqKey k x then some v else findD k ks vs
  | _, _ => none
def putD (k v : D) : List D → List D → List D × List D
  | x :: ks, u :: vs => bif eqKey k x then (k :: ks, v :: vs) else (x :: (putD k v ks vs).1, u :: (putD k v ks vs).2)
  | _, _ => ([k], [v])
/-- A key, and keys, of a type of plain things. -/
def fitK (T : Ty) (q : Nat) (k x : D) : Bool := x.isVal && (match T q with | some e => e.isAgg == x.isAgg | none => false) && match eqTy T 6 q k.cells x.cells, eqCs k.cells x.cells with
  | some a, some b => a == b
  | _, _ => false
def keysFit (T : Ty) (q : Nat) (k : D) (ks : List D) : Bool := k.isVal && (fitK T q k k && ks.all (fitK T q k))

def buildCells (off : Nat → Option (Nat × Nat)) : List D → List (Nat × D) → Option (List D)
  | cs, [] => some cs
  | cs, (i, d) :: ps => match off i with
    | some (o, n) => bif Nat.beq d.cells.length n && Nat.ble (o + n) cs.length then buildCells off (splice cs o d.cells) ps else none
    | none => none

def buildD (T : Ty) (e : TE) (ps : List (Nat × D)) : Option (List D) :=
  match e.kind with
  | .agg fs => buildCells (fun i => match fs[i]? with | some (o, u) => (T u).map fun eu => (o, eu.size) | none => none) e.zero.cells ps
  | .arr _ u => match T u with
    | some eu => buildCells (fun i => some (i * eu.size, eu.size)) e.zero.cells ps
    | none => none
  | _ => none

def fieldOf (T : Ty) (t f : Nat) : Option (Nat × TE) :=
  match T t with
  | some e => match e.kind with
    | .agg fs => match fs[f]? with
      | some (o, u) => match T u with
        | some eu => bif Nat.beq eu.size 0 then none else some (o, eu)
        | none => none
      | none => none
    | _ => none
  | none => none

/-- Element i of flat cells. -/
def chunk (e : TE) : Nat → List D → List D
  | 0, _ => []
  | n + 1, cs => (bif e.isAgg then .agg (cs.take e.size) else cs.headD .undef) :: chunk e n (cs.drop e.size)

def u8s : List D → Option (List UInt8)
  | [] => some []
  | .int .u8 n :: xs => (u8s xs).map (UInt8.ofNat n.toNat :: ·)
  | _ => none

def sliceD {α : Type} (l : List α) (lo hi : Nat) : List α := (l.take hi).drop lo

def bound (x : Option D) (dflt : Nat) : Option Int :=
  match x with
  | none => some (dflt : Int)
  | some (.int _ n) => some n
  | _ => none

def lenD (mp : List (Nat × MapC)) (e : TE) (x : D) : Option Nat :=
  match e.kind with
  | .str => match x with
    | .str l => some l.length
    | _ => none
  | .sl _ => match x with
    | .sl _ _ xs => some xs.length
    | .lsl _ _ n => some n
    | _ => none
  | .mp _ _ => match x with
    | .mapr s => (look s mp).map fun m => m.ks.length
    | .mapv ks _ => some ks.length
    | .nilm => some 0
    | _ => none
  | _ => none

def allSome {α : Type} : List (Option α) → Option (List α)
  | [] => some []
  | some a :: l => (allSome l).map (a :: ·)
  | none :: _ => none

def loadD (bx : List (Nat × BoxC)) (e : TE) : D → Option D
  | .loc s off => match look s bx with
    | some b => partD e b.cells off
    | none => none
  | .eptr d off => partD e d.cells off
  | _ => none

def fieldAddrD (T : Ty) (t f : Nat) (x : D) : Option D :=
  match fieldOf T t f with
  | some (o, _) => match x with
    | .loc s off => some (.loc s (off + o))
    | .eptr d off => some (.eptr d (off + o))
    | _ => none
  | none => none

def fieldD (T : Ty) (t f : Nat) (x : D) : Option D :=
  match fieldOf T t f with
  | some (o, e) => match x with
    | .agg cs => partD e cs o
    | _ => none
  | none => none

def elemTy (T : Ty) (t : Nat) : Option (Nat × TE) :=
  match T t with
  | some e => match e.kind with
    | .sl u => (T u).map fun eu => (u, eu)
    | _ => none
  | none => none

def indexAddrD (T : Ty) (t : Nat) (x : D) (n : Int) : Option (Bool × D) :=
  match T t with
  | some e => match e.kind with
    | .sl u => match x with
      | .sl _ es xs => match T u with
        | some eu => bif Nat.beq es eu.size then some (decide (0 ≤ n ∧ n < xs.length), .eptr (xs.getD n.toNat .undef) 0) else none
        | none => none
      | .lsl s off m => (T u).map fun eu => (decide (0 ≤ n ∧ n < m), .loc s (off + n.toNat * eu.size))
      | _ => none
    | .arr m u => match x with
      | .loc s off => (T u).map fun eu => (decide (0 ≤ n ∧ n < m), .loc s (off + n.toNat * eu.size))
      | .eptr d off => (T u).map fun eu => (decide (0 ≤ n ∧ n < m), .eptr d (off + n.toNat * eu.size))
      | _ => none
    | _ => none
  | none => none

def indexD (T : Ty) (t : Nat) (x : D) (n : Int) : Option (Bool × D) :=
  match x with
  | .str l => match T t with
    | some e => match e.kind with
      | .str => some (decide (0 ≤ n ∧ n < l.length), .int .u8 (l.getD n.toNat 0).toNat)
      | _ => none
    | none => none
  | .agg cs => match T t with
    | some e => match e.kind with
      | .arr m u => match T u with
        | some eu => (partD eu cs (n.toNat * eu.size)).map fun d => (decide (0 ≤ n ∧ n < m), d)
        | none => none
      | _ => none
    | none => none
  | _ => none

def strSliceD (l : List UInt8) (lo hi : Option D) : Option (Bool × D) :=
  match bound lo 0, bound hi l.length with
  | some a, some b => some (decide (0 ≤ a ∧ a ≤ b ∧ b ≤ l.length), .str (sliceD l a.toNat b.toNat))
  | _, _ => none
def slSliceD (es : Nat) (xs : List D) (lo hi mx : Option D) : Option (Bool × D) :=
  match bound lo 0, bound hi xs.length, bound mx xs.length with
  | some a, some b, some c => some (decide (0 ≤ a ∧ a ≤ b ∧ b ≤ c ∧ c ≤ xs.length), .sl 0 es (sliceD xs a.toNat b.toNat))
  | _, _, _ => none
def sliceOpD (T : Ty) (t : Nat) (x : D) (lo hi mx : Option D) : Option (Bool × D) :=
  match T t with
  | some e => match e.kind with
    | .str => match x, mx with
      | .str l, none => strSliceD l lo hi
      | _, _ => none
    | .sl u => match x, T u with
      | .sl _ es xs, some eu => bif Nat.beq es eu.size && !(mx.isSome && hi.isNone) then slSliceD es xs lo hi mx else none
      | _, _ => none
    | .arr n u => match x, T u, lo, hi, mx with
      | .loc s off, some _, none, none, none => some (true, .lsl s off n)
      | _, _, _, _, _ => none
    | _ => none
  | none => none

def entsD (mp : List (Nat × MapC)) : D → Option (List D × List D)
  | .mapr s => (look s mp).map fun c => (c.ks, c.vs)
  | .mapv ks vs => some (ks, vs)
  | .nilm => some ([], [])
  | _ => none

def lookupD (T : Ty) (mp : List (Nat × MapC)) (t : Nat) (m k : D) (comma : Bool) : Option (Bool × D) :=
  match T t with
  | some e => match e.kind with
    | .mp q u => match T u with
      | some eu => match entsD mp m with
        | some (ks, vs) =>
          match comma with
          | true => some (keysFit T q k ks, .tup [(findD k ks vs).getD eu.zero, .bool (findD k ks vs).isSome])
          | false => some (keysFit T q k ks, (findD k ks vs).getD eu.zero)
        | none => none
      | none => none
    | _ => none
  | none => none

def convD (T : Ty) (s t : Nat) (x : D) : Option D :=
  match T s, T t with
  | some es, some e => match x with
    | .int _ n => match e.kind with
      | .int k => some (.int k (k.wrap n))
      | _ => none
    | .str l => match e.kind with
      | .str => some (.str l)
      | _ => none
    | .sl _ z xs => match e.kind with
      | .str => match es.kind with
        | .sl u => match T u with
          | some eu => match eu.kind with
            | .int .u8 => bif Nat.beq z 1 then (u8s xs).map .str else none
            | _ => none
          | none => none
        | _ => none
      | _ => none
    | _ => none
  | _, _ => none

/-- A captured variable changes no more. -/
def capD (bx : List (Nat × BoxC)) (mp : List (Nat × MapC)) : D → Option (Nat × D × List Nat)
  | .loc s 0 => match look s bx with
    | some b => match cloL mp b.cells with
      | some cs => bif !b.isAgg && cs.isEmpty then none else some (s, .eptr (BoxC.whole { b with cells := cs }) 0, cloM (.agg b.cells))
      | none => none
    | none => none
  | _ => none

def buildSliceD (T : Ty) (mp : List (Nat × MapC)) (dst t n : Nat) (ps : List (Nat × D)) : Option Res :=
  match elemTy T t with
  | some (_, eu) => bif !Nat.ble (n * eu.size) 16777216 || Nat.beq eu.size 0 then none else match buildCells (fun i => some (i * eu.size, eu.size)) ((List.replicate n eu.zero.cells).flatten) ps with
    | some cs => match cloL mp cs with
      | some cs' => some { d := .sl 0 eu.size (chunk eu n cs'), fm := cloM (.agg cs) }
      | none => some { d := .lsl dst 0 n, bx := some ⟨cs, true, false⟩ }
    | none => none
  | none => none

def appendD (T : Ty) (t : Nat) (x y : D) : Option Res :=
  match x, y, elemTy T t with
  | .sl st es xs, .sl _ es2 ys, some (u, eu) => bif (Nat.beq es eu.size || Nat.beq st 1) && (Nat.beq es2 eu.size || ys.isEmpty) then
      some { d := .sl 0 eu.size (xs ++ ys), kill := st, own := some u, side := decide ((xs.length + ys.length) * eu.bytes ≤ 140737488355328 ∧ xs.length + ys.length ≤ 9223372036854775807) }
    else none
  | _, _, _ => none

def res (x : Option D) : Option Res := x.map fun d => { d }
def resB (x : Option (Bool × D)) : Option Res := x.map fun p => { side := p.1, d := p.2 }

/-- A value operation: what it gives, of the operands' data (g: under which guard it is done). -/
def opV (T : Ty) (v : Operand → D) (pk : Operand → Bool → Operand → D) (bx : List (Nat × BoxC)) (mp : List (Nat × MapC)) (dst : Nat) (o : Op) : Option Res :=
  match o with
  | .move x => ok (v x)
  | .assign x => ok (v x)
  | .pick c a b => match v c, pk c true a, pk c false b with
    | .bool t, .bool x, .bool y => ok (.bool (bif t then x else y))
    | _, _, _ => none
  | .alloc t => (T t).map fun e => { d := .loc dst 0, bx := some ⟨e.zero.cells, e.isAgg, false⟩ }
  | .box t x => match T t with
    | some e => bif (v x).good && Nat.beq (v x).cells.length e.size then some { d := .loc dst 0, bx := some ⟨(v x).cells, e.isAgg, false⟩ } else none
    | none => none
  | .build t ps => match T t, goods (ps.toList.map fun p => (p.1, v p.2)) with
    | some e, some qs => (buildD T e qs).map fun cs => { d := .agg cs }
    | _, _ => none
  | .buildSlice t n ps => match goods (ps.toList.map fun p => (p.1, v p.2)) with
    | some qs => buildSliceD T mp dst t n qs
    | none => none
  | .load t x => match T t with
    | some e => res (loadD bx e (v x))
    | none => none
  | .nilCheck x => match v x with
    | .loc s o => ok (.loc s o)
    | .eptr d o => ok (.eptr d o)
    | _ => none
  | .binOp op t x y _ => binD T t (isC x || isC y) op (v x) (v y)
  | .unOp op _ x => unD op (v x)
  | .convert s t x => res (convD T s t (v x))
  | .makeFunc (.func f) first caps => bif Nat.beq first.size 0 then
      match allSome (caps.toList.map fun x => capD bx mp (v x)) with
      | some l => some { d := .fn f (l.map (·.2.1)), fz := l.map (·.1), fm := l.flatMap (·.2.2) }
      | none => none
    else none
  | .makeMap _ none => some { d := .mapr dst, mp := some ⟨[], [], false⟩ }
  | .fieldAddr t x f => res (fieldAddrD T t f (v x))
  | .field t x f => res (fieldD T t f (v x))
  | .indexAddr t x i => match v i with
    | .int _ n => resB (indexAddrD T t (v x) n)
    | _ => none
  | .index t x i => match v i with
    | .int _ n => resB (indexD T t (v x) n)
    | _ => none
  | .slice t x lo hi mx => resB (sliceOpD T t (v x) (lo.map v) (hi.map v) (mx.map v))
  | .lookup t m k comma => resB (lookupD T mp t (v m) (v k) comma)
  | .extract x i => match v x with
    | .tup ds => res ds[i]?
    | _ => none
  | .makeInterface t x => match T t with
    | some e => bif e.kind.notIfc then (clo mp (v x)).map fun d => { d := .ifc t d, fm := cloM (v x) } else none
    | none => none
  | .call { callee := .builtin .len, args, argTypes } => match args.toList with
    | [x] => match argTypes.toList with
      | [t] => match T t with
        | some e => res ((lenD mp e (v x)).map fun n => .int .i64 n)
        | none => none
      | _ => none
    | _ => none
  | .call { callee := .builtin .min, args, .. } => match args.toList.map v with
    | [.int k x, .int k' y] => bif k == k' then ok (.int k (if y < x then y else x)) else none
    | _ => none
  | .call { callee := .builtin .max, args, .. } => match args.toList.map v with
    | [.int k x, .int k' y] => bif k == k' then ok (.int k (if y > x then y else x)) else none
    | _ => none
  | .call { callee := .builtin .append, args, argTypes } => match args.toList, argTypes.toList with
    | [x, y], [t, t'] => bif Nat.beq t t' then appendD T t (v x) (v y) else none
    | _, _ => none
  | _ => none

def opR (T : Ty) (g : Option (Nat × Bool)) (ρ : Operand → D) (bx : List (Nat × BoxC)) (mp : List (Nat × MapC)) (dst : Nat) (o : Op) : Option Res :=
  opV T (fun x => unw g (ρ x)) (fun c b x => unwp c b (unwk g (ρ x))) bx mp dst o

def Env.free (env : Env) (dst : Nat) : Bool := (look dst env.bx).isNone && (look dst env.mp).isNone

/-- Maps, and variables, that change no more from now on. -/
def frzM (mp : List (Nat × MapC)) : List Nat → Option (List (Nat × MapC))
  | [] => some mp
  | s :: ss => match look s mp with
    | some m => frzM ((s, { m with frozen := true }) :: mp) ss
    | none => none
def frzB (bx : List (Nat × BoxC)) : List Nat → Option (List (Nat × BoxC))
  | [] => some bx
  | s :: ss => match look s bx with
    | some b => frzB ((s, { b with frozen := true }) :: bx) ss
    | none => none

/-- The state after an append that is stamped s'. -/
def Env.stamp (env : Env) (s' u st : Nat) : Env := { env with us := (s', u) :: env.us, dd := bif Nat.beq st 1 then env.dd else st :: env.dd }

/-- What an operation's result does to the state, but for its slot. -/
def memR (env : Env) (dst : Nat) (r : Res) : Option (Env × D) :=
  match frzM env.mp r.fm, frzB env.bx r.fz with
  | some mp, some bx => match r.own with
    | some u => match r.d with
      | .sl _ es xs => bif (look (2 * dst + 3) env.us).isNone && !env.dd.contains (2 * dst + 3) && (Nat.beq r.kill 1 || (Nat.ble 2 r.kill && (look r.kill env.us == some u) && !env.dd.contains r.kill)) then some (Env.stamp { env with mp, bx } (2 * dst + 3) u r.kill, .sl (2 * dst + 3) es xs) else none
      | _ => none
    | none => match r.bx, r.mp with
      | none, none => some ({ env with mp, bx }, r.d)
      | some b, none => bif env.free dst then some ({ env with mp, bx := (dst, b) :: bx }, r.d) else none
      | none, some m => bif env.free dst then some ({ env with mp := (dst, m) :: mp, bx }, r.d) else none
      | _, _ => none
  | _, _ => none

end Go.Proofs.Ytndijidmabfhcaa.Fw
