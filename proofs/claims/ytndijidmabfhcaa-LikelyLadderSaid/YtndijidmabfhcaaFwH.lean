/- Operators; conversions; look-ups; what is built. -/
import Derived.Test.YtndijidmabfhcaaFwG
namespace Go.Proofs.Ytndijidmabfhcaa.Fw
open Go Go.RowKit

section
variable {P : Program} {T : Ty} {c : Ctx} {env : Env} {a : Act} {w : World}

theorem mkInt (k : IntKind) (n : Int) : RepT c env w (.int k n) (.int k n) := by simp [RepT, RepV, RepC, Rep]
theorem mkBool (b : Bool) : RepT c env w (.bool b) (.bool b) := by simp [RepT, RepV, RepC, Rep]
theorem mkStr (l : List UInt8) : RepT c env w (.str l) (.string ⟨⟨l⟩⟩) := by simp [RepT, RepV, RepC, Rep]

/-- The value of an operator. -/
def binV (op : BinOp) (t : TypeId) (x y : Operand) (vx vy : Value) : Sem Value := do eqGuard op t x y vx vy; binOp op t vx vy

theorem size_mk (l : List UInt8) : (⟨⟨l⟩⟩ : ByteArray).size = l.length := rfl

theorem equal_of {t : TypeId} {vx vy : Value} {b : Bool} (h : ∀ d, (Op.equalIn (d + 1) t vx vy).run P w = .ok b w) : (Op.equal t vx vy).run P w = .ok b w := h 9999

theorem eq_ptr {t el : TypeId} (hK : P.underlying t = some (.pointer el)) (p q : Option Addr) (h : p = none ∨ q = none) (d : Nat) : (Op.equalIn (d + 1) t (.pointer p) (.pointer q)).run P w = .ok (p.isNone && q.isNone) w := by
  rcases h with rfl | rfl
  · cases q <;> simp [Op.equalIn, run_underlying hK]
  · cases p <;> simp [Op.equalIn, run_underlying hK]
theorem eq_func {t : TypeId} {q1 : Array TypeId} {q2 : Array TypeId} {q3 : Bool} (hK : P.underlying t = some (.func q1 q2 q3)) (d : Nat) :
    (Op.equalIn (d + 1) t .nilFunc .nilFunc).run P w = .ok true w ∧ (∀ f x y, (Op.equalIn (d + 1) t .nilFunc (.func f x y)).run P w = .ok false w) ∧ ∀ f x y, (Op.equalIn (d + 1) t (.func f x y) .nilFunc).run P w = .ok false w :=
  ⟨by simp [Op.equalIn, run_underlying hK], fun f x y => by simp [Op.equalIn, run_underlying hK], fun f x y => by simp [Op.equalIn, run_underlying hK]⟩
theorem eq_ifc {t : TypeId} {ms : Array (String × TypeId)} (hK : P.underlying t = some (.interface ms)) (d : Nat) :
    (Op.equalIn (d + 1) t .nilIface .nilIface).run P w = .ok true w ∧ (∀ f x, (Op.equalIn (d + 1) t .nilIface (.iface f x)).run P w = .ok false w) ∧ ∀ f x, (Op.equalIn (d + 1) t (.iface f x) .nilIface).run P w = .ok false w :=
  ⟨by simp [Op.equalIn, run_underlying hK], fun f x => by simp [Op.equalIn, run_underlying hK], fun f x => by simp [Op.equalIn, run_underlying hK]⟩

theorem run_eqAny (hT : TyOK P T) {t : Nat} {x y : Operand} {op : BinOp} (hop : op = .eql ∨ op = .neq) {dx dy : D} {vx vy : Value} (hx : RepT c env w dx vx) (hy : RepT c env w dy vy) {b : Bool} (h : eqAny T t (isC x || isC y) dx dy = some b) :
    (eqGuard op t x y vx vy).run P w = .ok () w ∧ (Op.equal t vx vy).run P w = .ok b w := by
  unfold eqAny at h
  cases ht : T t with
  | none => rw [ht] at h; cases h
  | some e =>
  rw [ht] at h
  have he := hT t e ht
  have hK := he.kind
  simp only [eqKind] at h
  have aggc : ∀ xs ys, dx = .agg xs → dy = .agg ys → e.isAgg = true → (bif e.eqg then eqTy T 6 t xs ys else none) = some b → (eqGuard op t x y vx vy).run P w = .ok () w ∧ (Op.equal t vx vy).run P w = .ok b w := by
    rintro xs ys rfl rfl hag h
    cases hg : e.eqg with
    | false => rw [hg] at h; cases h
    | true =>
      rw [hg, cond_true] at h
      obtain ⟨us, rfl, h1⟩ := hx
      obtain ⟨vs, rfl, h2⟩ := hy
      have hq := he.eqg hg
      refine ⟨?_, ?_⟩
      · rcases hop with rfl | rfl <;> simp [eqGuard, hq]
      · have := run_eqTy (c := c) (env := env) (w := w) hT 6 t e xs ys us vs b ht h h1 h2 Op.maxDepth (by decide)
        simpa [asV, hag, Op.equal] using this
  cases hk : e.kind <;> rw [hk] at h hK <;> simp only at h <;> first | (cases h; done) | skip
  case bool =>
    split at h
    · simp only [Option.some.injEq] at h; subst h
      obtain rfl := repT_bool hx
      obtain rfl := repT_bool hy
      simp only [KindOK] at hK
      exact ⟨by rcases hop with rfl | rfl <;> rfl, by simp [Op.equal, Op.maxDepth, run_equalIn_bool' w 9999 t _ _ hK]⟩
    · cases h
  case agg fs =>
    split at h
    · exact aggc _ _ rfl rfl (by simp [TE.isAgg, hk]) h
    · cases h
  case arr n u =>
    split at h
    · exact aggc _ _ rfl rfl (by simp [TE.isAgg, hk]) h
    · cases h
  case ptr =>
    obtain ⟨el, hK⟩ := hK
    have g : ∀ p q : Option Addr, (eqGuard op t x y (.pointer p) (.pointer q)).run P w = .ok () w := fun p q => by rcases hop with rfl | rfl <;> rfl
    have np : ∀ d : D, (∃ s o, d = .loc s o) ∨ (∃ d' o, d = .eptr d' o) → ∀ v, RepT c env w d v → ∃ ad, v = .pointer (some ad) := by
      rintro d (⟨s, o, rfl⟩ | ⟨d', o, rfl⟩) v hv
      · exact ⟨_, (repT_loc hv).2⟩
      · obtain ⟨ad, rfl, _⟩ := repT_eptr hv; exact ⟨_, rfl⟩
    have nn : ∀ v, RepT c env w .nilp v → v = .pointer none := fun v hv => by simpa [RepT, RepV, RepC, Rep] using hv
    split at h
    · simp only [Option.some.injEq] at h; subst h
      obtain rfl := nn _ hx; obtain rfl := nn _ hy
      exact ⟨g _ _, equal_of (eq_ptr hK _ _ (.inl rfl))⟩
    · simp only [Option.some.injEq] at h; subst h
      obtain rfl := nn _ hx; obtain ⟨ad, rfl⟩ := np _ (.inr ⟨_, _, rfl⟩) _ hy
      exact ⟨g _ _, equal_of (eq_ptr hK _ _ (.inl rfl))⟩
    · simp only [Option.some.injEq] at h; subst h
      obtain rfl := nn _ hy; obtain ⟨ad, rfl⟩ := np _ (.inr ⟨_, _, rfl⟩) _ hx
      exact ⟨g _ _, equal_of (eq_ptr hK _ _ (.inr rfl))⟩
    · simp only [Option.some.injEq] at h; subst h
      obtain rfl := nn _ hx; obtain ⟨ad, rfl⟩ := np _ (.inl ⟨_, _, rfl⟩) _ hy
      exact ⟨g _ _, equal_of (eq_ptr hK _ _ (.inl rfl))⟩
    · simp only [Option.some.injEq] at h; subst h
      obtain rfl := nn _ hy; obtain ⟨ad, rfl⟩ := np _ (.inl ⟨_, _, rfl⟩) _ hx
      exact ⟨g _ _, equal_of (eq_ptr hK _ _ (.inr rfl))⟩
    · cases h
  case func =>
    obtain ⟨q1, q2, q3, hK⟩ := hK
    have nn : ∀ v, RepT c env w .nilf v → v = .nilFunc := fun v hv => by simpa [RepT, RepV, RepC, Rep] using hv
    have nf : ∀ f cs v, RepT c env w (.fn f cs) v → ∃ vs : List Value, v = .func (.func f) #[] ⟨vs⟩ := fun f cs v hv => by
      have hv : RepC c env w (.fn f cs) v := hv
      simp only [RepC, Rep] at hv
      obtain ⟨vs, e, _⟩ := hv; exact ⟨vs, e⟩
    have g : ∀ u v : Value, (u = .nilFunc ∨ ∃ f x y, u = .func f x y) → (eqGuard op t x y u v).run P w = .ok () w := by
      rintro u v (rfl | ⟨f, x', y', rfl⟩) <;> rcases hop with rfl | rfl <;> rfl
    split at h
    · simp only [Option.some.injEq] at h; subst h
      obtain rfl := nn _ hx; obtain rfl := nn _ hy
      exact ⟨g _ _ (.inl rfl), equal_of fun d => (eq_func hK d).1⟩
    · simp only [Option.some.injEq] at h; subst h
      obtain rfl := nn _ hx; obtain ⟨vs, rfl⟩ := nf _ _ _ hy
      exact ⟨g _ _ (.inl rfl), equal_of fun d => (eq_func hK d).2.1 _ _ _⟩
    · simp only [Option.some.injEq] at h; subst h
      obtain rfl := nn _ hy; obtain ⟨vs, rfl⟩ := nf _ _ _ hx
      exact ⟨g _ _ (.inr ⟨_, _, _, rfl⟩), equal_of fun d => (eq_func hK d).2.2 _ _ _⟩
    · cases h
  case ifc =>
    obtain ⟨ms, hK⟩ := hK
    have nn : ∀ v, RepT c env w .nili v → v = .nilIface := fun v hv => by simpa [RepT, RepV, RepC, Rep] using hv
    have nf : ∀ f cs v, RepT c env w (.ifc f cs) v → ∃ u, v = .iface f u := fun f cs v hv => by
      have hv : RepC c env w (.ifc f cs) v := hv
      simp only [RepC, Rep] at hv
      obtain ⟨vs, e, _⟩ := hv; exact ⟨vs, e⟩
    split at h
    · simp only [Option.some.injEq] at h; subst h
      obtain rfl := nn _ hx; obtain ⟨u, rfl⟩ := nf _ _ _ hy
      exact ⟨by rcases hop with rfl | rfl <;> rfl, equal_of fun d => (eq_ifc hK d).2.1 _ _⟩
    · simp only [Option.some.injEq] at h; subst h
      obtain rfl := nn _ hy; obtain ⟨u, rfl⟩ := nf _ _ _ hx
      exact ⟨by rcases hop with rfl | rfl <;> rfl, equal_of fun d => (eq_ifc hK d).2.2 _ _⟩
    · obtain rfl := nn _ hx; obtain rfl := nn _ hy
      cases hc : (isC x || isC y) with
      | false => rw [hc] at h; cases h
      | true =>
        rw [hc] at h
        simp only [cond_true, Option.some.injEq] at h; subst h
        refine ⟨?_, equal_of fun d => (eq_ifc hK d).1⟩
        cases x <;> cases y <;> first | (simp [isC] at hc; done) | (rcases hop with rfl | rfl <;> rfl)
    · cases h

theorem binOp_eqs (t : TypeId) {vx vy : Value} (n : (∀ k n, vx = .int k n → ∀ k n, vy ≠ .int k n) ∧ (∀ s, vx = .string s → ∀ s, vy ≠ .string s) ∧ (∀ k n, vx ≠ .float k n) ∧ ∀ k n m, vx ≠ .complex k n m) :
    binOp .eql t vx vy = (do pure (.bool (← Op.equal t vx vy))) ∧ binOp .neq t vx vy = (do pure (.bool (!(← Op.equal t vx vy)))) := by
  obtain ⟨n1, n2, n3, n4⟩ := n
  cases vx <;> cases vy <;> first | exact ⟨rfl, rfl⟩ | exact absurd rfl (n1 _ _ rfl _ _) | exact absurd rfl (n2 _ rfl _) | exact absurd rfl (n3 _ _) | exact absurd rfl (n4 _ _ _)

/-- What is compared by 'eqAny' is no number, nor a text. -/
theorem eqAny_forms {t : Nat} {cst : Bool} {dx dy : D} {vx vy : Value} (hx : RepT c env w dx vx) {b : Bool} (h : eqAny T t cst dx dy = some b)
    : (∀ k n, vx = .int k n → ∀ k n, vy ≠ .int k n) ∧ (∀ s, vx = .string s → ∀ s, vy ≠ .string s) ∧ (∀ k n, vx ≠ .float k n) ∧ ∀ k n m, vx ≠ .complex k n m := by
  have any : (∀ k n, vx ≠ .int k n) ∧ (∀ s, vx ≠ .string s) ∧ (∀ k n, vx ≠ .float k n) ∧ (∀ k n m, vx ≠ .complex k n m) → ((∀ k n, vx = .int k n → ∀ k n, vy ≠ .int k n) ∧ (∀ s, vx = .string s → ∀ s, vy ≠ .string s) ∧ (∀ k n, vx ≠ .float k n) ∧ ∀ k n m, vx ≠ .complex k n m) :=
    fun h => ⟨fun k n e => absurd e (h.1 k n), fun s e => absurd e (h.2.1 s), h.2.2.1, h.2.2.2⟩
  apply any
  have bad : (∀ e : TE, eqKind T t e cst dx dy = none) → False := by
    intro hb
    unfold eqAny at h
    cases ht : T t with
    | none => rw [ht] at h; cases h
    | some e => rw [ht] at h; simp only [hb e] at h; cases h
  cases dx with
  | bool b => obtain rfl := repT_bool hx; simp
  | agg cs => obtain ⟨vs, rfl, _⟩ := hx; simp
  | loc s o => obtain ⟨_, rfl⟩ := repT_loc hx; simp
  | eptr d o => obtain ⟨_, rfl, _⟩ := repT_eptr hx; simp
  | nilp => have : vx = .pointer none := by simpa [RepT, RepV, RepC, Rep] using hx
            subst this; simp
  | fn f cs =>
    have hv : RepC c env w (.fn f cs) vx := hx
    simp only [RepC, Rep] at hv
    obtain ⟨vs, rfl, _⟩ := hv; simp
  | nilf => have : vx = .nilFunc := by simpa [RepT, RepV, RepC, Rep] using hx
            subst this; simp
  | ifc f u =>
    have hv : RepC c env w (.ifc f u) vx := hx
    simp only [RepC, Rep] at hv
    obtain ⟨vs, rfl, _⟩ := hv; simp
  | nili => have : vx = .nilIface := by simpa [RepT, RepV, RepC, Rep] using hx
            subst this; simp
  | _ => exact absurd (fun e => by unfold eqKind; cases e.kind <;> rfl) bad

theorem run_intBits {k : IntKind} {x y : Int} : (Op.intBits .and k x y).run P w = .ok (.int k (k.wrap (BitVec.ofInt k.bits x &&& BitVec.ofInt k.bits y).toNat)) w ∧
    (Op.intBits .or k x y).run P w = .ok (.int k (k.wrap (BitVec.ofInt k.bits x ||| BitVec.ofInt k.bits y).toNat)) w ∧
    (Op.intBits .xor k x y).run P w = .ok (.int k (k.wrap (BitVec.ofInt k.bits x ^^^ BitVec.ofInt k.bits y).toNat)) w ∧
    (Op.intBits .andNot k x y).run P w = .ok (.int k (k.wrap (BitVec.ofInt k.bits x &&& ~~~ BitVec.ofInt k.bits y).toNat)) w := ⟨rfl, rfl, rfl, rfl⟩

theorem yield_bin (hT : TyOK P T) {t : Nat} {x y : Operand} {op : BinOp} {dx dy : D} {vx vy : Value} (hx : RepT c env w dx vx) (hy : RepT c env w dy vy) {r : Res} (h : binD T t (isC x || isC y) op dx dy = some r) :
    r = { side := r.side, d := r.d } ∧ (r.side = true → Yield P c env w r.d (binV op t x y vx vy)) := by
  unfold binD at h
  split at h
  · obtain rfl := repT_int hx
    obtain rfl := repT_int hy
    rename_i k m k' n
    split at h
    · simp only [Option.some.injEq] at h; subst h
      refine ⟨rfl, fun hs => ⟨_, ?_, mkInt _ _⟩⟩
      have hs := of_decide_eq_true hs
      simp [binV, eqGuard, binOp, Op.shift, Int.not_lt.2 hs]
    · simp only [Option.some.injEq] at h; subst h
      refine ⟨rfl, fun hs => ⟨_, ?_, mkInt _ _⟩⟩
      have hs := of_decide_eq_true hs
      simp [binV, eqGuard, binOp, Op.shift, Int.not_lt.2 hs]
    · cases hk : (k == k') with
      | false => rw [hk] at h; cases h
      | true =>
        obtain rfl := eq_of_beq hk
        rw [hk, cond_true] at h
        cases op <;> simp only [ok, Option.some.injEq] at h <;> first | (cases h; done) | (subst h; refine ⟨rfl, fun hs => ?_⟩)
        case add => exact ⟨_, by simp [binV, eqGuard, binOp_add, Op.intArith], mkInt _ _⟩
        case sub => exact ⟨_, by simp [binV, eqGuard, binOp_sub, Op.intArith], mkInt _ _⟩
        case mul => exact ⟨_, by simp [binV, eqGuard, binOp_mul, Op.intArith], mkInt _ _⟩
        case quo => have hs := of_decide_eq_true hs; exact ⟨_, by simp [binV, eqGuard, binOp_quo, Op.intDiv, hs], mkInt _ _⟩
        case rem => have hs := of_decide_eq_true hs; exact ⟨_, by simp [binV, eqGuard, binOp_rem, Op.intDiv, hs], mkInt _ _⟩
        case and => exact ⟨_, by simp [binV, eqGuard, binOp_and, run_intBits.1], mkInt _ _⟩
        case or => exact ⟨_, by simp [binV, eqGuard, binOp_or, run_intBits.2.1], mkInt _ _⟩
        case xor => exact ⟨_, by simp [binV, eqGuard, binOp_xor, run_intBits.2.2.1], mkInt _ _⟩
        case andNot => exact ⟨_, by simp [binV, eqGuard, binOp_andNot, run_intBits.2.2.2], mkInt _ _⟩
        case eql => exact ⟨_, by simp [binV, eqGuard, Go.binOp_eql], mkBool _⟩
        case neq => exact ⟨_, by simp [binV, eqGuard, Go.binOp_neq], mkBool _⟩
        case lss => exact ⟨_, by simp [binV, eqGuard, Go.binOp_lss], mkBool _⟩
        case leq => exact ⟨_, by simp [binV, eqGuard, Go.binOp_leq], mkBool _⟩
        case gtr => exact ⟨_, by simp [binV, eqGuard, Go.binOp_gtr], mkBool _⟩
        case geq => exact ⟨_, by simp [binV, eqGuard, Go.binOp_geq], mkBool _⟩
  · obtain rfl := repT_str hx
    obtain rfl := repT_str hy
    rename_i l m
    cases op <;> simp only [ok, Option.some.injEq] at h <;> first | (cases h; done) | (subst h; refine ⟨rfl, fun hs => ?_⟩)
    case add =>
      have hs := of_decide_eq_true hs
      have h1 : ¬ (((l.length + m.length : Nat) : Int) > IntKind.i64.max) := by rw [IntKind.max_i64]; omega
      have h2 : (⟨⟨l⟩⟩ : ByteArray) ++ (⟨⟨m⟩⟩ : ByteArray) = ⟨⟨l ++ m⟩⟩ := by apply ByteArray.ext; simp
      refine ⟨_, ?_, mkStr _⟩
      simp only [binV, eqGuard, binOp, Op.stringOp, size_mk]
      rw [if_neg h1, h2]
      rfl
    all_goals
      refine ⟨_, ?_, mkBool _⟩
      simp [binV, eqGuard, binOp, Op.stringOp, bytesLess]
  · split at h
    · cases hq : eqAny T t (isC x || isC y) dx dy with
      | none => rw [hq] at h; cases h
      | some b =>
        rw [hq] at h
        simp only [Option.map_some, Option.some.injEq] at h; subst h
        obtain ⟨h1, h2⟩ := run_eqAny (w := w) hT (.inl rfl) hx hy hq
        exact ⟨rfl, fun _ => ⟨_, by simp only [binV, (binOp_eqs t (eqAny_forms hx hq)).1]; simp [h1, h2], mkBool _⟩⟩
    · cases hq : eqAny T t (isC x || isC y) dx dy with
      | none => rw [hq] at h; cases h
      | some b =>
        rw [hq] at h
        simp only [Option.map_some, Option.some.injEq] at h; subst h
        obtain ⟨h1, h2⟩ := run_eqAny (w := w) hT (.inr rfl) hx hy hq
        exact ⟨rfl, fun _ => ⟨_, by simp only [binV, (binOp_eqs t (eqAny_forms hx hq)).2]; simp [h1, h2], mkBool _⟩⟩
    · cases h
end

end Go.Proofs.Ytndijidmabfhcaa.Fw
