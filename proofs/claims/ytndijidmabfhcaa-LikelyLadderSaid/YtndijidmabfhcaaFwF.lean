/- More operations that make no memory. -/
import Derived.Test.YtndijidmabfhcaaFwE
namespace Go.Proofs.Ytndijidmabfhcaa.Fw
open Go Go.RowKit

section
variable {P : Program} {T : Ty} {c : Ctx} {env : Env} {a : Act} {w : World}

theorem repRow_get {I : Im} {es : Nat} : ∀ {ds : List D} {b : Addr} {i : Nat}, RepRow I w es ds b i → ∀ (j : Nat) (x : D), ds[j]? = some x → x.cells.length = es ∧ RepAt I w x (b.add ((i + j) * es))
  | [], _, _, _, j, x, h => by simp at h
  | d :: ds, b, i, h, 0, x, e => by
    simp only [List.getElem?_cons_zero, Option.some.injEq] at e; subst e
    exact ((repRow_cons _ _ _ _ _ _ _).1 h).1
  | d :: ds, b, i, h, j + 1, x, e => by
    have := repRow_get ((repRow_cons _ _ _ _ _ _ _).1 h).2 j x (by simpa using e)
    rw [show i + (j + 1) = i + 1 + j from by omega]; exact this

theorem repT_sl {st es : Nat} {xs : List D} {v : Value} (h : RepT c env w (.sl st es xs) v) : ((v = .slice none 0 0 ∧ xs = []) ∨ ∃ (b : Addr) (cap : Nat), v = .slice (some b) xs.length cap ∧ xs.length ≤ cap ∧ RepRow c.I w es xs b 0) ∧ OwnC c env w st es xs.length v := by
  have h : RepC c env w (.sl st es xs) v := h
  simp only [RepC, Rep] at h
  exact ⟨h.1.2, h.2⟩

theorem repT_sl_mk {es : Nat} {xs : List D} {v : Value} (h : (v = .slice none 0 0 ∧ xs = []) ∨ ∃ (b : Addr) (cap : Nat), v = .slice (some b) xs.length cap ∧ xs.length ≤ cap ∧ RepRow c.I w es xs b 0) : RepT c env w (.sl 0 es xs) v := by
  show RepC c env w (.sl 0 es xs) v
  simp only [RepC, Rep]
  exact ⟨⟨trivial, h⟩, .inl rfl⟩

theorem repT_lsl {s off n : Nat} {v : Value} (h : RepT c env w (.lsl s off n) v) : (look s env.bx).isSome = true ∧ ∃ cap, v = .slice (some ⟨c.ρ s, off, none⟩) n cap ∧ n ≤ cap := h

theorem addr_add_mk (b o n : Nat) : (⟨b, o, none⟩ : Addr).add n = ⟨b, o + n, none⟩ := by
  unfold Addr.add; split
  · rename_i h; rw [h]; rfl
  · rfl

theorem yield_indexAddr (hT : TyOK P T) {t : Nat} {x : D} {v : Value} (hx : RepT c env w x v) {k : IntKind} {n : Int} {s : Bool} {d : D} (hr : indexAddrD T t x n = some (s, d)) (hs : s = true) : Yield P c env w d (Instr.indexAt t v (.int k n)) := by
  subst hs
  unfold indexAddrD at hr
  cases hT' : T t with
  | none => rw [hT'] at hr; cases hr
  | some e =>
    rw [hT'] at hr
    have hk := (hT t e hT').kind
    simp only at hr
    cases hk' : e.kind <;> rw [hk'] at hr hk <;> first | (cases hr; done) | skip
    case sl u =>
      simp only [KindOK] at hk
      cases x <;> first | (cases hr; done) | skip
      case sl st es xs =>
        simp only at hr
        cases hu : T u with
        | none => rw [hu] at hr; cases hr
        | some eu =>
          rw [hu] at hr
          simp only at hr
          cases hes : Nat.beq es eu.size with
          | false => rw [hes] at hr; cases hr
          | true =>
            obtain rfl := nbeq.1 hes
            rw [hes, cond_true, Option.some.injEq, Prod.mk.injEq] at hr
            obtain ⟨h1, rfl⟩ := hr
            have h1 := of_decide_eq_true h1
            obtain ⟨h2, _⟩ := repT_sl hx
            rcases h2 with ⟨rfl, rfl⟩ | ⟨b, cap, rfl, hcap, hrow⟩
            · simp at h1; omega
            · have hlt : n.toNat < xs.length := by omega
              obtain ⟨hc, hat⟩ := repRow_get hrow n.toNat (xs.getD n.toNat .undef) (by rw [List.getD_eq_getElem?_getD, List.getElem?_eq_getElem hlt]; rfl)
              refine ⟨.pointer (some (b.add (n.toNat * eu.size))), ?_, ?_⟩
              · simp [Instr.indexAt, asIntOf, run_underlying hk, (hT u eu hu).size, h1]
              · have := repT_eptr_mk (env := env) (off := 0) hat
                rw [Nat.zero_add] at this
                simpa [Addr.add] using this
      case lsl s' off m =>
        simp only at hr
        cases hu : T u with
        | none => rw [hu] at hr; cases hr
        | some eu =>
          rw [hu] at hr
          simp only [Option.map_some, Option.some.injEq, Prod.mk.injEq] at hr
          obtain ⟨h1, rfl⟩ := hr
          have h1 := of_decide_eq_true h1
          obtain ⟨hs, cap, rfl, _⟩ := repT_lsl hx
          refine ⟨.pointer (some ((⟨c.ρ s', off, none⟩ : Addr).add (n.toNat * eu.size))), ?_, hs, by rw [addr_add_mk]⟩
          simp [Instr.indexAt, asIntOf, run_underlying hk, (hT u eu hu).size, h1]
    case arr m u =>
      simp only [KindOK] at hk
      cases x <;> first | (cases hr; done) | skip
      case loc s' off =>
        simp only at hr
        cases hu : T u with
        | none => rw [hu] at hr; cases hr
        | some eu =>
          rw [hu] at hr
          simp only [Option.map_some, Option.some.injEq, Prod.mk.injEq] at hr
          obtain ⟨h1, rfl⟩ := hr
          have h1 := of_decide_eq_true h1
          obtain ⟨hs, rfl⟩ := repT_loc hx
          refine ⟨.pointer (some ((⟨c.ρ s', off, none⟩ : Addr).add (n.toNat * eu.size))), ?_, hs, by rw [addr_add_mk]⟩
          simp [Instr.indexAt, asIntOf, Instr.sureAddr, run_underlying hk, (hT u eu hu).size, h1]
      case eptr d0 off =>
        simp only at hr
        cases hu : T u with
        | none => rw [hu] at hr; cases hr
        | some eu =>
          rw [hu] at hr
          simp only [Option.map_some, Option.some.injEq, Prod.mk.injEq] at hr
          obtain ⟨h1, rfl⟩ := hr
          have h1 := of_decide_eq_true h1
          obtain ⟨ad, rfl, hat⟩ := repT_eptr hx
          refine ⟨.pointer (some ((ad.add off).add (n.toNat * eu.size))), ?_, by rw [add_add']; exact repT_eptr_mk hat⟩
          simp [Instr.indexAt, asIntOf, Instr.sureAddr, run_underlying hk, (hT u eu hu).size, h1]

theorem yield_index (hT : TyOK P T) {t : Nat} {x : D} {v : Value} (hx : RepT c env w x v) {k : IntKind} {n : Int} {s : Bool} {d : D} (hr : indexD T t x n = some (s, d)) (hs : s = true) : Yield P c env w d (Instr.index t v (.int k n)) := by
  subst hs
  unfold indexD at hr
  cases x <;> first | (cases hr; done) | skip
  case str l =>
    obtain rfl := repT_str hx
    simp only at hr
    cases hT' : T t with
    | none => rw [hT'] at hr; cases hr
    | some e =>
      rw [hT'] at hr
      have hk := (hT t e hT').kind
      simp only at hr
      cases hk' : e.kind <;> rw [hk'] at hr hk <;> first | (cases hr; done) | skip
      simp only [KindOK] at hk
      simp only [Option.some.injEq, Prod.mk.injEq] at hr
      obtain ⟨h1, rfl⟩ := hr
      have h1 := of_decide_eq_true h1
      have hlt : n.toNat < l.length := by omega
      have hb : (⟨⟨l⟩⟩ : ByteArray)[n.toNat]? = some (l[n.toNat]'hlt) := by
        have : n.toNat < (⟨⟨l⟩⟩ : ByteArray).size := hlt
        rw [getElem?_pos (⟨⟨l⟩⟩ : ByteArray) n.toNat this]; rfl
      refine ⟨.int .u8 (l[n.toNat]'hlt).toNat, ?_, by simp [RepT, RepV, RepC, Rep, List.getD_eq_getElem?_getD, hlt]⟩
      simp [Instr.index, asIntOf, run_underlying hk, h1.1, hb]
  case agg cs =>
    obtain ⟨vs, rfl, hv⟩ := hx
    simp only at hr
    cases hT' : T t with
    | none => rw [hT'] at hr; cases hr
    | some e =>
      rw [hT'] at hr
      have hk := (hT t e hT').kind
      simp only at hr
      cases hk' : e.kind <;> rw [hk'] at hr hk <;> first | (cases hr; done) | skip
      rename_i m u
      simp only [KindOK] at hk
      simp only at hr
      cases hu : T u with
      | none => rw [hu] at hr; cases hr
      | some eu =>
        rw [hu] at hr
        simp only at hr
        cases hp : partD eu cs (n.toNat * eu.size) with
        | none => rw [hp] at hr; cases hr
        | some d' =>
          rw [hp] at hr
          simp only [Option.map_some, Option.some.injEq, Prod.mk.injEq] at hr
          obtain ⟨h1, rfl⟩ := hr
          have h1 := of_decide_eq_true h1
          obtain ⟨u', hu', hr'⟩ := yield_part (hT u eu hu) hv hp
          exact ⟨u', by simp [Instr.index, asIntOf, run_underlying hk, (hT u eu hu).size, h1, hu'], hr'⟩

theorem bound_int {x : Option D} {dflt : Nat} {n : Int} (h : bound x dflt = some n) : (x = none ∧ n = dflt) ∨ ∃ k, x = some (.int k n) := by
  unfold bound at h
  split at h
  · simp only [Option.some.injEq] at h; exact .inl ⟨rfl, h.symm⟩
  · simp only [Option.some.injEq] at h; subst h; exact .inr ⟨_, rfl⟩
  · cases h

/-- An operand that may be left off. -/
def RepO (c : Ctx) (env : Env) (w : World) : Option D → Option Value → Prop
  | none, none => True
  | some d, some v => RepT c env w d v
  | _, _ => False
theorem repO_bound {x : Option D} {y : Option Value} (hx : RepO c env w x y) {dflt : Nat} {n : Int} (h : bound x dflt = some n) : (y = none ∧ n = dflt) ∨ ∃ k, y = some (.int k n) := by
  rcases bound_int h with ⟨rfl, e⟩ | ⟨k, rfl⟩
  · cases y <;> first | exact .inl ⟨rfl, e⟩ | exact hx.elim
  · cases y with
    | none => exact hx.elim
    | some v => exact .inr ⟨k, by have := repT_int (c := c) (env := env) (w := w) hx; rw [this]⟩

theorem run_sliceBounds {isSlice : Bool} {len cap l h m : Nat} {lo hi mx : Option Value} (hlo : (lo = none ∧ l = 0) ∨ ∃ k, lo = some (.int k (l : Int))) (hhi : (hi = none ∧ h = len) ∨ ∃ k, hi = some (.int k (h : Int)))
    (hmx : (mx = none ∧ m = cap) ∨ (hi ≠ none ∧ ∃ k, mx = some (.int k (m : Int)))) (h1 : l ≤ h) (h2 : h ≤ m) (h3 : m ≤ cap) :
    (Instr.sliceBounds isSlice len cap lo hi mx).run P w = .ok (l, h, m) w := by
  have hle : ∀ {k : IntKind} {x y : Nat} {cd : BoundsCode}, x ≤ y → (Instr.sliceBound (.int k (x : Int)) y cd).run P w = .ok x w := fun {k x y cd} hxy => by
    simp [Instr.sliceBound, asIntOf, hxy]
  rcases hmx with ⟨rfl, rfl⟩ | ⟨hh, km, rfl⟩ <;> rcases hhi with ⟨rfl, rfl⟩ | ⟨kh, rfl⟩ <;> rcases hlo with ⟨rfl, rfl⟩ | ⟨kl, rfl⟩ <;>
    first | exact absurd rfl hh | simp [Instr.sliceBounds, hle h1, hle h2, hle h3]

theorem repRow_drop {I : Im} {es : Nat} : ∀ (k : Nat) {ds : List D} {b : Addr} {i : Nat}, RepRow I w es ds b i → RepRow I w es (ds.drop k) b (i + k)
  | 0, _, _, _, h => h
  | _ + 1, [], _, _, _ => by simp only [List.drop_nil, RepRow]
  | k + 1, d :: ds, b, i, h => by
    have := repRow_drop k ((repRow_cons _ _ _ _ _ _ _).1 h).2
    rw [show i + (k + 1) = i + 1 + k from by omega]; exact this
theorem repRow_take {I : Im} {es : Nat} : ∀ (k : Nat) {ds : List D} {b : Addr} {i : Nat}, RepRow I w es ds b i → RepRow I w es (ds.take k) b i
  | 0, _, _, _, _ => by simp only [List.take_zero, RepRow]
  | _ + 1, [], _, _, _ => by simp only [List.take_nil, RepRow]
  | k + 1, d :: ds, b, i, h => by
    have h := (repRow_cons _ _ _ _ _ _ _).1 h
    exact (repRow_cons _ _ _ _ _ _ _).2 ⟨h.1, repRow_take k h.2⟩
theorem repRow_shift {I : Im} {es : Nat} : ∀ {ds : List D} {b : Addr} {i j : Nat}, RepRow I w es ds b (j + i) → RepRow I w es ds (b.add (j * es)) i
  | [], _, _, _, _ => by simp only [RepRow]
  | d :: ds, b, i, j, h => by
    have h := (repRow_cons _ _ _ _ _ _ _).1 h
    refine (repRow_cons _ _ _ _ _ _ _).2 ⟨⟨h.1.1, ?_⟩, repRow_shift (j := j) (by rw [show j + (i + 1) = j + i + 1 from rfl]; exact h.2)⟩
    rw [add_add', ← Nat.add_mul]; exact h.1.2

theorem repO_nat {x : Option D} {y : Option Value} (hx : RepO c env w x y) {dflt n : Nat} (h : bound x dflt = some (n : Int)) : (y = none ∧ n = dflt) ∨ ∃ k, y = some (.int k (n : Int)) := by
  rcases repO_bound hx h with ⟨h1, h2⟩ | h1
  · exact .inl ⟨h1, by omega⟩
  · exact .inr h1

theorem extract_list (l : List UInt8) (i j : Nat) : (⟨⟨l⟩⟩ : ByteArray).extract i j = ⟨⟨sliceD l i j⟩⟩ := by
  apply ByteArray.ext
  rw [ByteArray.data_extract]
  simp [sliceD, List.drop_take]

theorem run_strSlice {t : Nat} (ht : P.underlying t = some .string) {l : List UInt8} {lo hi : Option D} {vlo vhi : Option Value} (hlo : RepO c env w lo vlo) (hhi : RepO c env w hi vhi) {d : D} (hr : strSliceD l lo hi = some (true, d)) :
    Yield P c env w d (Instr.sliceAt t (.string ⟨⟨l⟩⟩) vlo vhi none) := by
  unfold strSliceD at hr
  cases h1 : bound lo 0 with
  | none => rw [h1] at hr; cases hr
  | some i =>
  cases h2 : bound hi l.length with
  | none => rw [h1, h2] at hr; cases hr
  | some j =>
  rw [h1, h2] at hr
  simp only [Option.some.injEq, Prod.mk.injEq] at hr
  obtain ⟨h3, rfl⟩ := hr
  have h3 := of_decide_eq_true h3
  obtain ⟨i, rfl⟩ : ∃ n : Nat, i = n := ⟨i.toNat, by omega⟩
  obtain ⟨j, rfl⟩ : ∃ n : Nat, j = n := ⟨j.toNat, by omega⟩
  have hb := run_sliceBounds (P := P) (w := w) (isSlice := false) (len := l.length) (cap := l.length) (m := l.length) (mx := none) (l := i) (h := j) (repO_nat hlo h1) (repO_nat hhi h2) (.inl ⟨rfl, rfl⟩) (by omega) (by omega) (Nat.le_refl _)
  refine ⟨.string ((⟨⟨l⟩⟩ : ByteArray).extract i j), ?_, ?_⟩
  · have : (⟨⟨l⟩⟩ : ByteArray).size = l.length := rfl
    simp [Instr.sliceAt, run_underlying ht, Instr.slice, this, hb]
  · rw [extract_list]
    simp [RepT, RepV, RepC, Rep]

theorem run_slSlice {t u : Nat} {eu : TE} (ht : P.underlying t = some (.slice u)) (hu : TEok P u eu) {st : Nat} {xs : List D} {v : Value} (hx : RepT c env w (.sl st eu.size xs) v) {lo hi mx : Option D} {vlo vhi vmx : Option Value}
    (hlo : RepO c env w lo vlo) (hhi : RepO c env w hi vhi) (hmx : RepO c env w mx vmx) (hmh : (mx.isSome && hi.isNone) = false) {d : D} (hr : slSliceD eu.size xs lo hi mx = some (true, d)) : Yield P c env w d (Instr.sliceAt t v vlo vhi vmx) := by
  unfold slSliceD at hr
  cases h1 : bound lo 0 with
  | none => rw [h1] at hr; cases hr
  | some i =>
  cases h2 : bound hi xs.length with
  | none => rw [h1, h2] at hr; cases hr
  | some j =>
  cases h3 : bound mx xs.length with
  | none => rw [h1, h2, h3] at hr; cases hr
  | some k =>
  rw [h1, h2, h3] at hr
  simp only [Option.some.injEq, Prod.mk.injEq] at hr
  obtain ⟨h4, rfl⟩ := hr
  have h4 := of_decide_eq_true h4
  obtain ⟨i, rfl⟩ : ∃ n : Nat, i = n := ⟨i.toNat, by omega⟩
  obtain ⟨j, rfl⟩ : ∃ n : Nat, j = n := ⟨j.toNat, by omega⟩
  obtain ⟨k, rfl⟩ : ∃ n : Nat, k = n := ⟨k.toNat, by omega⟩
  rw [Int.toNat_natCast, Int.toNat_natCast]
  have hne : vmx ≠ none → vhi ≠ none := by
    rintro hm rfl
    cases mx with
    | none => cases vmx <;> first | exact hm rfl | exact hmx.elim
    | some _ => cases hi with
      | none => cases hmh
      | some _ => exact hhi.elim
  obtain ⟨h5, _⟩ := repT_sl hx
  -- the bounds, at whatever capacity
  have key : ∀ cap, xs.length ≤ cap → ∃ m, j ≤ m ∧ m ≤ cap ∧ (Instr.sliceBounds true xs.length cap vlo vhi vmx).run P w = .ok (i, j, m) w := by
    intro cap hcap
    rcases repO_nat hmx h3 with ⟨rfl, rfl⟩ | ⟨km, rfl⟩
    · exact ⟨cap, by omega, Nat.le_refl _, run_sliceBounds (repO_nat hlo h1) (repO_nat hhi h2) (.inl ⟨rfl, rfl⟩) (by omega) (by omega) (Nat.le_refl _)⟩
    · exact ⟨k, by omega, by omega, run_sliceBounds (repO_nat hlo h1) (repO_nat hhi h2) (.inr ⟨hne (by simp), km, rfl⟩) (by omega) (by omega) (by omega)⟩
  rcases h5 with ⟨rfl, rfl⟩ | ⟨b, cap, rfl, hcap, hrow⟩
  · obtain ⟨m, hm1, hm2, hb⟩ := key 0 (Nat.le_refl _)
    simp only [List.length_nil] at h4 hb
    obtain rfl : j = 0 := by omega
    obtain rfl : i = 0 := by omega
    obtain rfl : m = 0 := by omega
    refine ⟨.slice none 0 0, ?_, repT_sl_mk (.inl ⟨rfl, by simp [sliceD]⟩)⟩
    simp [Instr.sliceAt, run_underlying ht, Instr.slice, hb, hu.size]
  · obtain ⟨m, hm1, hm2, hb⟩ := key cap hcap
    have hlen : (sliceD xs i j).length = j - i := by simp [sliceD]; omega
    refine ⟨.slice (if m = i then some b else some (b.add (i * eu.size))) (j - i) (m - i), ?_, repT_sl_mk (.inr ?_)⟩
    · simp only [Instr.sliceAt, Sem.run_bind, run_underlying ht, Result.andThen_ok, Instr.slice, hb, hu.size, Sem.run_pure, Option.map_some]
    · refine ⟨if m = i then b else b.add (i * eu.size), m - i, by rw [hlen]; split <;> rfl, by omega, ?_⟩
      by_cases hmi : m = i
      · obtain rfl : j = i := by omega
        have : sliceD xs j j = [] := by simp [sliceD]
        rw [this]; simp only [RepRow]
      · rw [if_neg hmi]
        refine repRow_shift (i := 0) (j := i) ?_
        have := repRow_drop i (repRow_take j hrow)
        rw [Nat.zero_add] at this
        exact this

theorem yield_slice (hT : TyOK P T) {t : Nat} {x : D} {v : Value} (hx : RepT c env w x v) {lo hi mx : Option D} {vlo vhi vmx : Option Value} (hlo : RepO c env w lo vlo) (hhi : RepO c env w hi vhi) (hmx : RepO c env w mx vmx)
    {s : Bool} {d : D} (hr : sliceOpD T t x lo hi mx = some (s, d)) (hs : s = true) : Yield P c env w d (Instr.sliceAt t v vlo vhi vmx) := by
  subst hs
  unfold sliceOpD at hr
  cases hT' : T t with
  | none => rw [hT'] at hr; cases hr
  | some e =>
  rw [hT'] at hr
  have hk := (hT t e hT').kind
  simp only at hr
  cases hk' : e.kind <;> rw [hk'] at hr hk <;> first | (cases hr; done) | skip
  case str =>
    cases x <;> first | (cases hr; done) | skip
    cases mx with
    | some _ => cases hr
    | none =>
      cases vmx with
      | some _ => exact hmx.elim
      | none =>
        obtain rfl := repT_str hx
        exact run_strSlice hk hlo hhi hr
  case sl u =>
    cases x <;> first | (cases hr; done) | skip
    rename_i st es xs
    simp only at hr
    cases hu : T u with
    | none => rw [hu] at hr; cases hr
    | some eu =>
      rw [hu] at hr
      simp only at hr
      cases hb : (Nat.beq es eu.size && !(mx.isSome && hi.isNone)) with
      | false => rw [hb] at hr; cases hr
      | true =>
        rw [hb, cond_true] at hr
        simp only [Bool.and_eq_true, Bool.not_eq_true'] at hb
        obtain rfl := nbeq.1 hb.1
        exact run_slSlice hk (hT u eu hu) hx hlo hhi hmx hb.2 hr
  case arr n u =>
    cases x <;> first | (cases hr; done) | skip
    rename_i s' off
    cases hu : T u with
    | none => simp only [hu] at hr; cases hr
    | some eu =>
    cases lo <;> first | (simp only [hu] at hr; cases hr; done) | skip
    cases hi <;> first | (simp only [hu] at hr; cases hr; done) | skip
    cases mx <;> first | (simp only [hu] at hr; cases hr; done) | skip
    simp only [hu, Option.some.injEq, Prod.mk.injEq, true_and] at hr
    subst hr
    cases vlo <;> first | exact hlo.elim | skip
    cases vhi <;> first | exact hhi.elim | skip
    cases vmx <;> first | exact hmx.elim | skip
    obtain ⟨hs, rfl⟩ := repT_loc hx
    have hb := run_sliceBounds (P := P) (w := w) (isSlice := false) (len := n) (cap := n) (m := n) (lo := none) (hi := none) (mx := none) (l := 0) (h := n) (.inl ⟨rfl, rfl⟩) (.inl ⟨rfl, rfl⟩) (.inl ⟨rfl, rfl⟩) (Nat.zero_le _) (Nat.le_refl _) (Nat.le_refl _)
    refine ⟨.slice (some ⟨c.ρ s', off, none⟩) n n, ?_, hs, n, rfl, Nat.le_refl _⟩
    simp only [KindOK] at hk
    simp [Instr.sliceAt, run_underlying hk, Instr.sureAddr, hb, (hT u eu hu).size, Addr.add]

theorem yield_pick {c1 : Bool} {x y : Bool} {vx vy : Value} (hx : c1 = true → RepT c env w (.bool x) vx) (hy : c1 = false → RepT c env w (.bool y) vy) :
    Yield P c env w (.bool (bif c1 then x else y)) (do pure (if ← asBool (.bool c1) then vx else vy)) := by
  cases c1
  · exact ⟨vy, by simp [asBool], by have := repT_bool (hy rfl); subst this; simpa using hy rfl⟩
  · exact ⟨vx, by simp [asBool], by have := repT_bool (hx rfl); subst this; simpa using hx rfl⟩

theorem yield_extract {ds : List D} {v : Value} (hx : RepT c env w (.tup ds) v) {i : Nat} {d : D} (h : ds[i]? = some d) : Yield P c env w d (Instr.extract v i) := by
  obtain ⟨vs, rfl, hv⟩ := hx
  obtain ⟨u, hu, hr⟩ := hv.get i d h
  refine ⟨u, by simp [Instr.extract, hu], ?_⟩
  cases d <;> first | exact hr | trivial | exact (hr : False).elim

theorem yield_un {op : UnOp} {x : D} {v : Value} (hx : RepT c env w x v) {r : Res} (hr : unD op x = some r) : r = { d := r.d } ∧ Yield P c env w r.d (Op.unary op v) := by
  unfold unD at hr
  split at hr
  · simp only [ok, Option.some.injEq] at hr; subst hr
    obtain rfl := repT_bool hx
    exact ⟨rfl, _, by simp only [Op.unary, Sem.run_pure]; rfl, by simp [RepT, RepV, RepC, Rep]⟩
  · simp only [ok, Option.some.injEq] at hr; subst hr
    obtain rfl := repT_int hx
    exact ⟨rfl, _, by simp only [Op.unary, Op.intArith, Sem.run_pure]; rfl, by simp [RepT, RepV, RepC, Rep]⟩
  · cases hr

theorem len_repL {I : Im} {ds : List D} {vs : List Value} (h : RepL I w ds vs) : ds.length = vs.length := (all2_repL.1 h).length

theorem yield_len (hT : TyOK P T) (h : St c env a w) {t : Nat} {e : TE} (ht : T t = some e) {x : D} {v : Value} (hx : RepT c env w x v) {n : Nat} (hr : lenD env.mp e x = some n) (ty : TypeId) :
    Yield P c env w (.int .i64 n) (Builtin.len_ #[t] ty #[v]) := by
  have hk := (hT t e ht).kind
  have hout : RepT c env w (.int .i64 n) (.int .i64 n) := by simp [RepT, RepV, RepC, Rep]
  unfold lenD at hr
  cases hk' : e.kind <;> rw [hk'] at hr hk <;> first | (cases hr; done) | skip
  all_goals simp only [KindOK] at hk
  case str =>
    cases x <;> simp only at hr <;> first | (cases hr; done) | skip
    simp only [Option.some.injEq] at hr; subst hr
    obtain rfl := repT_str hx
    exact ⟨_, by simp [Builtin.len_, run_underlying hk]; rfl, hout⟩
  case sl u =>
    cases x <;> simp only at hr <;> first | (cases hr; done) | skip
    · simp only [Option.some.injEq] at hr; subst hr
      obtain ⟨h1, _⟩ := repT_sl hx
      rcases h1 with ⟨rfl, rfl⟩ | ⟨b, cap, rfl, _⟩ <;> exact ⟨_, by simp [Builtin.len_, run_underlying hk]; rfl, hout⟩
    · simp only [Option.some.injEq] at hr; subst hr
      obtain ⟨_, cap, rfl, _⟩ := repT_lsl hx
      exact ⟨_, by simp [Builtin.len_, run_underlying hk]; rfl, hout⟩
  case mp q u =>
    cases x <;> simp only at hr <;> first | (cases hr; done) | skip
    · rename_i ks vs
      simp only [Option.some.injEq] at hr; subst hr
      have hx : RepC c env w (.mapv ks vs) v := hx
      simp only [RepC, Rep] at hx
      obtain ⟨r, rfl, _, es, clock, hh, h1, _⟩ := hx
      have := len_repL h1
      exact ⟨_, by simp [Builtin.len_, run_underlying hk, getObj, Sem.run, hh]; rfl, by simpa [this, goInt] using hout⟩
    · simp only [Option.some.injEq] at hr; subst hr
      have hx : RepC c env w .nilm v := hx
      simp only [RepC, Rep] at hx; subst hx
      exact ⟨_, by simp [Builtin.len_, run_underlying hk]; rfl, hout⟩
    · rename_i s
      cases hm : look s env.mp with
      | none => rw [hm] at hr; cases hr
      | some m =>
        rw [hm] at hr
        simp only [Option.map_some, Option.some.injEq] at hr; subst hr
        obtain ⟨_, rfl⟩ : (look s env.mp).isSome = true ∧ v = .map (some (c.ρ s)) := hx
        obtain ⟨es, clock, hh, h1, _⟩ := h.mp s m hm
        have := len_repL h1
        exact ⟨_, by simp [Builtin.len_, run_underlying hk, getObj, Sem.run, hh]; rfl, by simpa [this, goInt] using hout⟩
end

end Go.Proofs.Ytndijidmabfhcaa.Fw
