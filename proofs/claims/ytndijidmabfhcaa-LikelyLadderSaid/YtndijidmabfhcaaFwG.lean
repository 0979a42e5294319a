/- Comparisons, arithmetic, maps, structs that are built. -/
import Derived.Test.YtndijidmabfhcaaFwF
namespace Go.Proofs.Ytndijidmabfhcaa.Fw
open Go Go.RowKit

section
variable {P : Program} {T : Ty} {c : Ctx} {env : Env} {a : Act} {w : World}

theorem repC_eqD {x y : D} {vx vy : Value} (hx : RepC c env w x vx) (hy : RepC c env w y vy) {b : Bool} (h : eqD x y = some b) :
    (∃ k m n, vx = .int k m ∧ vy = .int k n ∧ b = (m == n)) ∨ (∃ m n, vx = .bool m ∧ vy = .bool n ∧ b = (m == n)) ∨ (∃ m n, vx = .string ⟨⟨m⟩⟩ ∧ vy = .string ⟨⟨n⟩⟩ ∧ b = (m == n)) := by
  unfold eqD at h
  split at h
  · rename_i k m k' n
    cases hk : (k == k') with
    | false => rw [hk] at h; cases h
    | true =>
      rw [hk, cond_true, Option.some.injEq] at h
      obtain rfl := eq_of_beq hk
      simp only [RepC, Rep] at hx hy
      exact .inl ⟨k, m, n, hx, hy, h.symm⟩
  · simp only [RepC, Rep] at hx hy; simp only [Option.some.injEq] at h
    exact .inr (.inl ⟨_, _, hx, hy, h.symm⟩)
  · simp only [RepC, Rep] at hx hy; simp only [Option.some.injEq] at h
    exact .inr (.inr ⟨_, _, hx, hy, h.symm⟩)
  · cases h

theorem ba_toList (l : List UInt8) : (⟨⟨l⟩⟩ : ByteArray).toList = l := by rw [ByteArray.toList_eq]

/-- One cell's value, or a struct's. -/
def asV (e : TE) (vs : List Value) : Value := if e.isAgg then .agg ⟨vs⟩ else vs.headD undef

theorem run_part_at {t : Nat} {e : TE} (he : TEok P t e) {vs : List Value} {off : Nat} (hl : off + e.size ≤ vs.length) (hs : e.isAgg = false → e.size = 1) : (part t ⟨vs⟩ off).run P w = .ok (asV e ((vs.drop off).take e.size)) w := by
  unfold part asV
  cases hag : e.isAgg with
  | true => simp [he.isAgg, he.size, hag, List.extract_eq_take_drop]
  | false =>
    have h1 := hs hag
    have hlt : off < vs.length := by omega
    have : vs[off]? = some vs[off] := List.getElem?_eq_getElem hlt
    simp [he.isAgg, hag, h1, this, List.head?_take, List.head?_drop]

theorem asV_one {e : TE} (h : e.isAgg = false) (v : Value) : asV e [v] = v := by simp [asV, h]

theorem list_one {α : Type} {l : List α} (h : l.length = 1) : ∃ x, l = [x] := by
  match l, h with
  | [x], _ => exact ⟨x, rfl⟩

theorem run_eqPlain (m : Nat) {t : Nat} {e : TE} (he : TEok P t e) (hk : (∃ k, e.kind = .int k) ∨ e.kind = .bool ∨ e.kind = .str) {x y : D} {vx vy : Value} (hx : RepC c env w x vx) (hy : RepC c env w y vy) {b : Bool} (h : eqD x y = some b)
    (hf : match e.kind with | .int _ => x.isInt = true | .bool => x.isBool = true | .str => x.isStr = true | _ => False) :
    (Op.equalIn (m + 1) t vx vy).run P w = .ok b w := by
  have hK := he.kind
  rcases hk with ⟨k0, hk⟩ | hk | hk <;> rw [hk] at hK hf <;> simp only [KindOK] at hK
  · cases x <;> first | (cases hf; done) | skip
    rcases repC_eqD hx hy h with ⟨k, m', n', rfl, rfl, rfl⟩ | ⟨m', n', rfl, _⟩ | ⟨m', n', rfl, _⟩
    · exact run_equalIn_int w m t k k0 m' n' hK
    · simp only [RepC, Rep] at hx; cases hx
    · simp only [RepC, Rep] at hx; cases hx
  · cases x <;> first | (cases hf; done) | skip
    rcases repC_eqD hx hy h with ⟨k, m', n', rfl, _⟩ | ⟨m', n', rfl, rfl, rfl⟩ | ⟨m', n', rfl, _⟩
    · simp only [RepC, Rep] at hx; cases hx
    · exact run_equalIn_bool' w m t m' n' hK
    · simp only [RepC, Rep] at hx; cases hx
  · cases x <;> first | (cases hf; done) | skip
    rcases repC_eqD hx hy h with ⟨k, m', n', rfl, _⟩ | ⟨m', n', rfl, _⟩ | ⟨m', n', rfl, rfl, rfl⟩
    · simp only [RepC, Rep] at hx; cases hx
    · simp only [RepC, Rep] at hx; cases hx
    · rw [run_equalIn_string w m t _ _ hK, ba_toList, ba_toList]

theorem allB_nil {b : Bool} (h : allB [] = some b) : b = true := by simpa [allB] using h.symm
theorem allB_cons {x : Option Bool} {l : List (Option Bool)} {b : Bool} (h : allB (x :: l) = some b) : ∃ u v, x = some u ∧ allB l = some v ∧ b = (u && v) := by
  cases x with
  | none => cases h
  | some u =>
    simp only [allB] at h
    cases hl : allB l with
    | none => rw [hl] at h; cases h
    | some v => rw [hl] at h; simp only [Option.map_some, Option.some.injEq] at h; exact ⟨u, v, rfl, rfl, h.symm⟩

/-- The loop over an array's elements. -/
theorem run_eqLoop (f : Nat → Sem Value) (f' : Nat → Sem Value) (k : Value → Value → Sem Bool) (g : Nat → Bool) (w : World) : ∀ (l : List Nat), (∀ i ∈ l, ∃ x y, (f i).run P w = .ok x w ∧ (f' i).run P w = .ok y w ∧ (k x y).run P w = .ok (g i) w) →
    (forIn l ((none, ()) : Option Bool × Unit) fun i _ => do
          let x ← f i
          let y ← f' i
          let z ← k x y
          if (!z) = true then pure (ForInStep.done (some false, ())) else pure (ForInStep.yield (none, ())) : Sem (Option Bool × Unit)).run P w = .ok (if l.all g then none else some false, ()) w
  | [], _ => by simp
  | i :: l, h => by
    obtain ⟨x, y, h1, h2, h3⟩ := h i (by simp)
    have ih := run_eqLoop f f' k g w l (fun j hj => h j (by simp [hj]))
    simp only [List.forIn_cons, Sem.run_bind, h1, h2, h3, Result.andThen_ok, Sem.run_ite, List.all_cons] at ih ⊢
    rcases Bool.eq_false_or_eq_true (g i) with hg | hg
    · simp only [hg, Bool.not_true, Bool.false_eq_true, if_false, Sem.run_pure, Result.andThen_ok, Bool.true_and]
      exact ih
    · simp [hg]

theorem run_equalIn_array (d : Nat) (t u n : Nat) (xs ys : Array Value) {eu : TE} (hu : TEok P u eu) (ht : P.underlying t = some (.array n u)) (g : Nat → Bool)
    (h : ∀ i, i < n → ∃ x y, (part u xs (i * eu.size)).run P w = .ok x w ∧ (part u ys (i * eu.size)).run P w = .ok y w ∧ (Op.equalIn d u x y).run P w = .ok (g i) w) :
    (Op.equalIn (d + 1) t (.agg xs) (.agg ys)).run P w = .ok ((List.range n).all g) w := by
  simp only [Op.equalIn, Sem.run_bind, run_underlying ht, Result.andThen_ok, hu.size]
  rw [Std.Legacy.Range.forIn_eq_forIn_range']
  have := run_eqLoop (P := P) (fun i => part u xs (i * eu.size)) (fun i => part u ys (i * eu.size)) (fun x y => Op.equalIn d u x y) g w (List.range n) (fun i hi => h i (List.mem_range.1 hi))
  have hr : List.range' ([:n] : Std.Legacy.Range).start ([:n] : Std.Legacy.Range).size ([:n] : Std.Legacy.Range).step = List.range n := by
    simp [Std.Legacy.Range.size, List.range_eq_range']
  rw [hr, this]
  cases (List.range n).all g <;> rfl

theorem allB_map {α : Type} {f : α → Option Bool} : ∀ {l : List α} {b : Bool}, allB (l.map f) = some b → ∃ g : α → Bool, b = l.all g ∧ ∀ x ∈ l, f x = some (g x)
  | [], b, h => ⟨fun _ => true, by simpa using allB_nil h, by simp⟩
  | x :: l, b, h => by
    classical
    obtain ⟨u, v, h1, h2, rfl⟩ := allB_cons h
    obtain ⟨g, rfl, h3⟩ := allB_map h2
    refine ⟨fun y => (f y).getD false, ?_, fun y hy => ?_⟩
    · rw [List.all_cons, h1, Option.getD_some]
      congr 1
      rw [Bool.eq_iff_iff, List.all_eq_true, List.all_eq_true]
      exact ⟨fun hh y hy => by rw [h3 y hy]; exact hh y hy, fun hh y hy => by have := hh y hy; rw [h3 y hy] at this; exact this⟩
    · rcases List.mem_cons.1 hy with rfl | hy
      · simp [h1]
      · simp [h3 y hy]

theorem run_eqFields (d : Nat) (xs ys : List Value) : ∀ (Fs : List Field) (g : Field → Bool), (Fs.all fun f => f.name != "_") = true →
    (∀ F ∈ Fs, ∃ x y, (part F.type ⟨xs⟩ F.offset).run P w = .ok x w ∧ (part F.type ⟨ys⟩ F.offset).run P w = .ok y w ∧ (Op.equalIn d F.type x y).run P w = .ok (g F) w) →
    (Op.eqFields d ⟨xs⟩ ⟨ys⟩ Fs).run P w = .ok (Fs.all g) w
  | [], g, _, _ => by simp [Op.eqFields]
  | F :: Fs, g, hn, h => by
    simp only [List.all_cons, Bool.and_eq_true, bne_iff_ne, ne_eq] at hn
    obtain ⟨x, y, h1, h2, h3⟩ := h F (by simp)
    have ih := run_eqFields d xs ys Fs g hn.2 (fun F' hF => h F' (by simp [hF]))
    simp only [Op.eqFields, Sem.run_bind, h1, h2, h3, Result.andThen_ok, Sem.run_ite, ne_eq, hn.1, not_false_eq_true, if_true, List.all_cons]
    cases hg : g F
    · simp
    · simp only [Bool.not_true, Bool.false_eq_true, if_false, Bool.true_and]; exact ih

theorem run_eqTy (hT : TyOK P T) : ∀ (n t : Nat) (e : TE) (xs ys : List D) (vx vy : List Value) (b : Bool), T t = some e → eqTy T n t xs ys = some b → All2 (RepC c env w) xs vx → All2 (RepC c env w) ys vy →
    ∀ m, n ≤ m → (Op.equalIn m t (asV e vx) (asV e vy)).run P w = .ok b w
  | 0, t, e, xs, ys, vx, vy, b, ht, h, hx, hy, m, hm => by simp [eqTy] at h
  | n + 1, t, e, xs, ys, vx, vy, b, ht, h, hx, hy, m, hm => by
    obtain ⟨m, rfl⟩ : ∃ k, m = k + 1 := ⟨m - 1, by omega⟩
    have he := hT t e ht
    have hK := he.kind
    simp only [eqTy, ht] at h
    have plain : ∀ x y v u, e.isAgg = false → ((∃ k, e.kind = .int k) ∨ e.kind = .bool ∨ e.kind = .str) → (match e.kind with | .int _ => x.isInt = true | .bool => x.isBool = true | .str => x.isStr = true | _ => False) → RepC c env w x v → RepC c env w y u → eqD x y = some b →
        (Op.equalIn (m + 1) t (asV e [v]) (asV e [u])).run P w = .ok b w := by
      intro x y v u hag hk hf hx hy h
      rw [asV_one hag, asV_one hag]
      exact run_eqPlain m he hk hx hy h hf
    cases hk : e.kind <;> rw [hk] at h hK <;> simp only at h <;> first | (cases h; done) | skip
    case int k =>
      split at h
      · rename_i x y
        match vx, vy, hx, hy with
        | [v], [u], hx, hy =>
          cases hc : x.isInt with
          | false => rw [hc] at h; cases h
          | true => rw [hc] at h; exact plain x y v u (by simp [TE.isAgg, hk]) (.inl ⟨k, hk⟩) (by rw [hk]; exact hc) hx.1 hy.1 h
      · cases h
    case bool =>
      split at h
      · rename_i x y
        match vx, vy, hx, hy with
        | [v], [u], hx, hy =>
          cases hc : x.isBool with
          | false => rw [hc] at h; cases h
          | true => rw [hc] at h; exact plain x y v u (by simp [TE.isAgg, hk]) (.inr (.inl hk)) (by rw [hk]; exact hc) hx.1 hy.1 h
      · cases h
    case str =>
      split at h
      · rename_i x y
        match vx, vy, hx, hy with
        | [v], [u], hx, hy =>
          cases hc : x.isStr with
          | false => rw [hc] at h; cases h
          | true => rw [hc] at h; exact plain x y v u (by simp [TE.isAgg, hk]) (.inr (.inr hk)) (by rw [hk]; exact hc) hx.1 hy.1 h
      · cases h
    case agg fs =>
      obtain ⟨Fs, h1, h2, h3, h4, _⟩ := hK
      have hag : e.isAgg = true := by simp [TE.isAgg, hk]
      have hF : P.fieldsOf t = Fs := by simp [Program.fieldsOf, h1]
      simp only [asV, hag, if_true]
      rw [run_equalIn_struct w m t ⟨vx⟩ ⟨vy⟩ (by rw [hF]; exact h1) h4, hF]
      subst h2
      rw [List.map_map] at h
      obtain ⟨g, rfl, hg⟩ := allB_map h
      refine run_eqFields m vx vy Fs.toList g h3 (fun F hFm => ?_)
      have hgF := hg F hFm
      simp only [Function.comp] at hgF
      cases hu : T F.type with
      | none => rw [hu] at hgF; cases hgF
      | some eu =>
        rw [hu] at hgF
        simp only at hgF
        cases hb : (Nat.ble (F.offset + eu.size) xs.length && Nat.ble (F.offset + eu.size) ys.length) with
        | false => rw [hb] at hgF; cases hgF
        | true =>
          rw [hb, cond_true] at hgF
          simp only [Bool.and_eq_true, Nat.ble_eq] at hb
          have l1 := hx.length; have l2 := hy.length
          exact ⟨_, _, run_part_at (hT _ _ hu) (by omega) (hT _ _ hu).one, run_part_at (hT _ _ hu) (by omega) (hT _ _ hu).one,
            run_eqTy hT n F.type eu _ _ _ _ _ hu hgF ((hx.drop _).take _) ((hy.drop _).take _) m (by omega)⟩
    case arr k u =>
      have hag : e.isAgg = true := by simp [TE.isAgg, hk]
      simp only [KindOK] at hK
      simp only [asV, hag, if_true]
      cases hu : T u with
      | none => rw [hu] at h; cases h
      | some eu =>
        rw [hu] at h
        simp only at h
        obtain ⟨g, rfl, hg⟩ := allB_map h
        refine run_equalIn_array m t u k ⟨vx⟩ ⟨vy⟩ (hT _ _ hu) hK g (fun i hi => ?_)
        have hgi := hg i (List.mem_range.2 hi)
        cases hb : (Nat.ble (i * eu.size + eu.size) xs.length && Nat.ble (i * eu.size + eu.size) ys.length) with
        | false => rw [hb] at hgi; cases hgi
        | true =>
          rw [hb, cond_true] at hgi
          simp only [Bool.and_eq_true, Nat.ble_eq] at hb
          have l1 := hx.length; have l2 := hy.length
          exact ⟨_, _, run_part_at (hT _ _ hu) (by omega) (hT _ _ hu).one, run_part_at (hT _ _ hu) (by omega) (hT _ _ hu).one,
            run_eqTy hT n u eu _ _ _ _ _ hu hgi ((hx.drop _).take _) ((hy.drop _).take _) m (by omega)⟩
end

end Go.Proofs.Ytndijidmabfhcaa.Fw
