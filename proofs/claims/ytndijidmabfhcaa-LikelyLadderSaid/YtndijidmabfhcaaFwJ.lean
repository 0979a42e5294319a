/- Maps, structs that are built, conversions. -/
import Derived.Test.YtndijidmabfhcaaFwH
namespace Go.Proofs.Ytndijidmabfhcaa.Fw
open Go Go.RowKit

theorem all2_iff {α β : Type} {R : α → β → Prop} : ∀ {as : List α} {bs : List β}, All2 R as bs ↔ as.length = bs.length ∧ ∀ (i : Nat) a b, as[i]? = some a → bs[i]? = some b → R a b
  | [], [] => by simp [All2]
  | [], _ :: _ => by simp [All2]
  | _ :: _, [] => by simp [All2]
  | a :: as, b :: bs => by
    simp only [All2, all2_iff (as := as) (bs := bs), List.length_cons, Nat.add_right_cancel_iff]
    constructor
    · rintro ⟨h1, h2, h3⟩
      refine ⟨h2, fun i x y hx hy => ?_⟩
      cases i with
      | zero => simp at hx hy; subst hx hy; exact h1
      | succ i => exact h3 i x y (by simpa using hx) (by simpa using hy)
    · rintro ⟨h1, h2⟩
      exact ⟨h2 0 a b rfl rfl, h1, fun i x y hx hy => h2 (i + 1) x y (by simpa using hx) (by simpa using hy)⟩

section
variable {P : Program} {T : Ty} {c : Ctx} {env : Env} {a : Act} {w : World}

theorem repV_cells {d : D} {v : Value} (h : RepV c env w d v) : ∃ vs : List Value, v.cells = ⟨vs⟩ ∧ All2 (RepC c env w) d.cells vs := by
  cases d with
  | agg cs => obtain ⟨vs, rfl, h⟩ := h; exact ⟨vs, rfl, h⟩
  | _ =>
    simp only [RepV] at h
    have h1 := repC_one h
    refine ⟨[v], ?_, h, trivial⟩
    cases v <;> first | rfl | (cases h1; done)

theorem size_foldSet (off : Nat) : ∀ (l : List Value) (j : Nat) (cs : Array Value), ((l.zipIdx j).foldl (fun cs p => cs.setIfInBounds (off + p.2) p.1) cs).size = cs.size
  | [], _, _ => rfl
  | x :: l, j, cs => by simp only [List.zipIdx_cons, List.foldl_cons]; rw [size_foldSet off l (j + 1)]; simp
theorem get_foldSet (off : Nat) : ∀ (l : List Value) (j : Nat) (cs : Array Value), off + j + l.length ≤ cs.size → ∀ k, ((l.zipIdx j).foldl (fun cs p => cs.setIfInBounds (off + p.2) p.1) cs)[k]? = if off + j ≤ k ∧ k < off + j + l.length then l[k - (off + j)]? else cs[k]?
  | [], j, cs, _, k => by simp; omega
  | x :: l, j, cs, hl, k => by
    simp only [List.zipIdx_cons, List.foldl_cons, List.length_cons] at hl ⊢
    rw [get_foldSet off l (j + 1) _ (by simp; omega) k]
    by_cases h1 : off + (j + 1) ≤ k ∧ k < off + (j + 1) + l.length
    · rw [if_pos h1, if_pos (by omega)]
      rw [show k - (off + j) = (k - (off + (j + 1))) + 1 from by omega]; simp
    · rw [if_neg h1]
      rw [Array.getElem?_setIfInBounds]
      by_cases h2 : off + j = k
      · subst h2
        rw [if_pos rfl, if_pos (by omega), if_pos (by omega)]; simp
      · rw [if_neg h2, if_neg (by omega)]

theorem splice_get (cs new : List D) (off k : Nat) (h : off + new.length ≤ cs.length) : (splice cs off new)[k]? = if off ≤ k ∧ k < off + new.length then new[k - off]? else cs[k]? := by
  unfold splice
  by_cases h1 : k < off
  · rw [if_neg (by omega), List.append_assoc, List.getElem?_append_left (by simp; omega), List.getElem?_take, if_pos h1]
  · by_cases h2 : k < off + new.length
    · rw [if_pos (by omega), List.append_assoc, List.getElem?_append_right (by simp; omega), List.getElem?_append_left (by simp; omega)]
      simp [show min off cs.length = off from by omega]
    · rw [if_neg (by omega), List.getElem?_append_right (by simp; omega), List.getElem?_drop]
      congr 1
      simp; omega
theorem splice_length (cs new : List D) (off : Nat) (h : off + new.length ≤ cs.length) : (splice cs off new).length = cs.length := by
  unfold splice; simp; omega

theorem all2_splice {cs new : List D} {vs us : List Value} {off : Nat} (h : All2 (RepC c env w) cs vs) (hn : All2 (RepC c env w) new us) (hl : off + new.length ≤ cs.length) {ws : Array Value} (hs : ws.size = vs.length)
    (hg : ∀ k, ws[k]? = if off ≤ k ∧ k < off + us.length then us[k - off]? else vs[k]?) : All2 (RepC c env w) (splice cs off new) ws.toList := by
  have l1 := h.length; have l2 := hn.length
  refine all2_iff.2 ⟨by rw [splice_length _ _ _ hl]; simp [hs, l1], fun i x y hx hy => ?_⟩
  rw [splice_get _ _ _ _ hl] at hx
  rw [Array.getElem?_toList, hg] at hy
  by_cases h1 : off ≤ i ∧ i < off + new.length
  · rw [if_pos h1] at hx; rw [if_pos (by omega)] at hy
    exact (all2_iff.1 hn).2 _ _ _ hx hy
  · rw [if_neg h1] at hx; rw [if_neg (by omega)] at hy
    exact (all2_iff.1 h).2 _ _ _ hx hy

/-- The parts of a struct or an array. -/
def RepP (c : Ctx) (env : Env) (w : World) : List (Nat × D) → List (Nat × Value) → Prop := All2 fun p q => p.1 = q.1 ∧ RepV c env w p.2 q.2

theorem fill_rep {off place : Nat → Option (Nat × Nat)} (hp : ∀ i o n, off i = some (o, n) → place i = some (o, n)) : ∀ (ps : List (Nat × D)) (qs : List (Nat × Value)) (cs : List D) (vs : List Value) (r : List D), RepP c env w ps qs → All2 (RepC c env w) cs vs → buildCells off cs ps = some r →
    ∃ us : List Value, Instr.fill place ⟨vs⟩ qs = some ⟨us⟩ ∧ All2 (RepC c env w) r us
  | [], [], cs, vs, r, _, hv, h => by simp only [buildCells, Option.some.injEq] at h; subst h; exact ⟨vs, rfl, hv⟩
  | [], _ :: _, _, _, _, h, _, _ => h.elim
  | _ :: _, [], _, _, _, h, _, _ => h.elim
  | (i, d) :: ps, (i', v) :: qs, cs, vs, r, hpq, hv, h => by
    obtain ⟨⟨e, hd⟩, hpq⟩ := hpq
    simp only at e hd; subst e
    simp only [buildCells] at h
    cases ho : off i with
    | none => rw [ho] at h; cases h
    | some q =>
      obtain ⟨o, n⟩ := q
      rw [ho] at h
      simp only at h
      cases hb : (Nat.beq d.cells.length n && Nat.ble (o + n) cs.length) with
      | false => rw [hb] at h; cases h
      | true =>
        rw [hb, cond_true] at h
        simp only [Bool.and_eq_true, nbeq, Nat.ble_eq] at hb
        obtain ⟨rfl, hle⟩ := hb
        obtain ⟨us, hus, hr⟩ := repV_cells hd
        have l1 := hr.length; have l2 := hv.length
        have hws := all2_splice hv hr hle (ws := (us.zipIdx 0).foldl (fun cs p => cs.setIfInBounds (o + p.2) p.1) ⟨vs⟩) (by rw [size_foldSet]; rfl) (fun k => by
          rw [get_foldSet o us 0 ⟨vs⟩ (by show o + 0 + us.length ≤ vs.length; omega) k]; simp)
        obtain ⟨zs, hz, hz2⟩ := fill_rep hp ps qs _ _ r hpq hws h
        refine ⟨zs, ?_, hz2⟩
        unfold Instr.fill
        rw [hp i _ _ ho]
        have e1 : ((⟨us⟩ : Array Value).size ≠ d.cells.length || decide (o + (⟨us⟩ : Array Value).size > (⟨vs⟩ : Array Value).size)) = false := by
          have e2 : (⟨us⟩ : Array Value).size = us.length := rfl
          have e3 : (⟨vs⟩ : Array Value).size = vs.length := rfl
          rw [e2, e3]; simp; omega
        simp only [hus]
        rw [if_neg (by rw [e1]; simp)]
        have : ((⟨us⟩ : Array Value).zipIdx.foldl (fun cs x => match x with | (c, j) => cs.setIfInBounds (o + j) c) (⟨vs⟩ : Array Value)) = (us.zipIdx 0).foldl (fun (cs : Array Value) p => cs.setIfInBounds (o + p.2) p.1) ⟨vs⟩ := by
          rw [← Array.foldl_toList]
          have : (⟨us⟩ : Array Value).zipIdx.toList = us.zipIdx 0 := by simp
          rw [this]
        rw [this]
        exact hz

theorem zero_spec {t : Nat} {e : TE} (he : TEok P t e) : ∃ (z : Value) (vs : List Value), (∀ w, (zeroValue t).run P w = .ok z w) ∧ z.cells = ⟨vs⟩ ∧ vs.length = e.size ∧ e.zero.cells.length = e.size ∧ (∀ c env w, RepV c env w e.zero z) := by
  obtain ⟨i, z, h1, h2, h3, h4, h5, h6, h7⟩ := he.info
  refine ⟨z, z.cells.toList, fun w => by simp [zeroValue, typeInfo, h1, h4], rfl, by simp [h5], h6, h7⟩

theorem mapM_get {α β : Type} {f : α → Option β} : ∀ {l : List α} {r : List β}, l.mapM f = some r → ∀ (i : Nat) (x : α) (y : β), l[i]? = some x → f x = some y → r[i]? = some y
  | [], r, h, i, x, y, hx, hy => by simp at hx
  | z :: l, r, h, i, x, y, hx, hy => by
    simp only [List.mapM_cons, Option.bind_eq_bind, Option.bind_eq_some_iff, Option.pure_def, Option.some.injEq] at h
    obtain ⟨u, hu, us, hus, rfl⟩ := h
    cases i with
    | zero => simp at hx; subst hx; rw [hu] at hy; simpa using hy
    | succ i => simpa using mapM_get hus i x y (by simpa using hx) hy

theorem yield_build (hT : TyOK P T) {t : Nat} {e : TE} (ht : T t = some e) {ps : List (Nat × D)} {qs : List (Nat × Value)} (hp : RepP c env w ps qs) {cs : List D}
    (h : (match e.kind with
      | .agg fs => buildCells (fun i => match fs[i]? with | some (o, u) => (T u).map fun eu => (o, eu.size) | none => none) e.zero.cells ps
      | .arr _ u => match T u with
        | some eu => buildCells (fun i => some (i * eu.size, eu.size)) e.zero.cells ps
        | none => none
      | _ => none) = some cs) : Yield P c env w (.agg cs) (Instr.build t ⟨qs⟩) := by
  have he := hT t e ht
  obtain ⟨z, zs, hz, hzc, hzl, _, hzr⟩ := zero_spec he
  obtain ⟨zs', hzc', hz2⟩ := repV_cells (hzr c env w)
  rw [hzc] at hzc'
  obtain rfl : zs = zs' := by injection hzc'
  have hK := he.kind
  cases hk : e.kind <;> rw [hk] at h hK <;> simp only at h <;> first | (cases h; done) | skip
  case agg fs =>
    obtain ⟨Fs, h1, h2, _, _, h5⟩ := hK
    subst h2
    obtain ⟨places, hpl⟩ := Option.isSome_iff_exists.1 h5
    have hoff : ∀ i o n : Nat, (match (Fs.toList.map fun f => (f.offset, f.type))[i]? with | some (o, u) => (T u).map (fun eu : TE => (o, eu.size)) | none => none) = some (o, n) → places.toArray[i]? = some (o, n) := by
      intro i o n hi
      rw [List.getElem?_map] at hi
      cases hF : Fs.toList[i]? with
      | none => rw [hF] at hi; cases hi
      | some F =>
        rw [hF] at hi
        simp only [Option.map_some] at hi
        cases hu : T F.type with
        | none => rw [hu] at hi; cases hi
        | some eu =>
          rw [hu] at hi
          simp only [Option.map_some, Option.some.injEq, Prod.mk.injEq] at hi
          obtain ⟨rfl, rfl⟩ := hi
          obtain ⟨inf, _, g1, g2, _⟩ := (hT _ _ hu).info
          rw [List.getElem?_toArray]
          exact mapM_get hpl i F _ hF (by rw [g1, Option.map_some, g2])
    obtain ⟨us, hus, hr⟩ := fill_rep hoff ps qs _ _ cs hp hz2 h
    refine ⟨.agg ⟨us⟩, ?_, us, rfl, hr⟩
    obtain ⟨inf, z0, g1, _, _, g4, _⟩ := he.info
    have hz0 : z0 = z := by
      have := hz w
      simp [zeroValue, typeInfo, g1, g4] at this
      exact this
    subst hz0
    exact run_build w t ⟨qs⟩ ⟨us⟩ (by simp only [Program.built, g1, h1, g4, hpl]; rw [hzc]; exact hus)
  case arr n u =>
    simp only [KindOK] at hK
    cases hu : T u with
    | none => rw [hu] at h; cases h
    | some eu =>
      rw [hu] at h
      obtain ⟨us, hus, hr⟩ := fill_rep (place := fun i => some (i * eu.size, eu.size)) (fun i o n hi => hi) ps qs _ _ cs hp hz2 h
      refine ⟨.agg ⟨us⟩, ?_, us, rfl, hr⟩
      obtain ⟨inf, z0, g1, _, _, g4, _⟩ := he.info
      obtain ⟨infu, _, k1, k2, _⟩ := (hT _ _ hu).info
      have hz0 : z0 = z := by
        have := hz w
        simp [zeroValue, typeInfo, g1, g4] at this
        exact this
      subst hz0
      exact run_build w t ⟨qs⟩ ⟨us⟩ (by simp only [Program.built, g1, hK, g4, k1]; rw [hzc, k2]; exact hus)

/-! ### Maps -/
theorem eqD_true {x y : D} {vx vy : Value} (hx : RepC c env w x vx) (hy : RepC c env w y vy) (h : eqD x y = some true) : vx = vy := by
  rcases repC_eqD hx hy h with ⟨k, m, n, rfl, rfl, e⟩ | ⟨m, n, rfl, rfl, e⟩ | ⟨m, n, rfl, rfl, e⟩ <;> rw [eq_of_beq e.symm]
theorem eqCs_true : ∀ {cs ds : List D} {us vs : List Value}, eqCs cs ds = some true → All2 (RepC c env w) cs us → All2 (RepC c env w) ds vs → us = vs
  | [], [], [], [], _, _, _ => rfl
  | x :: cs, y :: ds, u :: us, v :: vs, h, h1, h2 => by
    simp only [eqCs] at h
    cases e1 : eqD x y with
    | none => rw [e1] at h; cases h
    | some p =>
      cases e2 : eqCs cs ds with
      | none => rw [e1, e2] at h; cases h
      | some q =>
        rw [e1, e2] at h
        simp only [Option.some.injEq, Bool.and_eq_true] at h
        obtain ⟨rfl, rfl⟩ := h
        rw [eqD_true h1.1 h2.1 e1, eqCs_true e2 h1.2 h2.2]
  | [], [], [], _ :: _, _, _, h => h.elim
  | [], [], _ :: _, _, _, h, _ => h.elim
  | [], _ :: _, _, _, h, _, _ => by simp [eqCs] at h
  | _ :: _, [], _, _, h, _, _ => by simp [eqCs] at h
  | _ :: _, _ :: _, [], _, _, h, _ => h.elim
  | _ :: _, _ :: _, _ :: _, [], _, _, h => h.elim

theorem asV_of {e : TE} {d : D} {v : Value} (hd : RepV c env w d v) (ha : e.isAgg = d.isAgg) : ∃ vs, v = asV e vs ∧ All2 (RepC c env w) d.cells vs := by
  cases d with
  | agg cs => obtain ⟨vs, rfl, h⟩ := hd; exact ⟨vs, by simp [asV, ha, D.isAgg], h⟩
  | _ => simp only [RepV] at hd; exact ⟨[v], by simp [asV, ha, D.isAgg], hd, trivial⟩

/-- What a key that fits says. -/
theorem fitK_spec {q : Nat} {k x : D} (h : fitK T q k x = true) : x.isVal = true ∧ (∃ e, T q = some e ∧ e.isAgg = x.isAgg) ∧ ∃ b, eqTy T 6 q k.cells x.cells = some b ∧ eqCs k.cells x.cells = some b ∧ eqKey k x = b := by
  unfold fitK at h
  simp only [Bool.and_eq_true] at h
  obtain ⟨⟨h1, h2⟩, h3⟩ := h
  refine ⟨h1, ?_, ?_⟩
  · cases ht : T q with
    | none => rw [ht] at h2; cases h2
    | some e => rw [ht] at h2; exact ⟨e, rfl, by simpa using h2⟩
  · cases e1 : eqTy T 6 q k.cells x.cells with
    | none => rw [e1] at h3; cases h3
    | some b =>
      cases e2 : eqCs k.cells x.cells with
      | none => rw [e1, e2] at h3; cases h3
      | some b' =>
        rw [e1, e2] at h3
        simp only [beq_iff_eq] at h3; subst h3
        exact ⟨b, rfl, rfl, by simp [eqKey, e2]⟩

theorem run_key_equal (hT : TyOK P T) {q : Nat} {k x : D} {vk vx : Value} (hk : RepV c env w k vk) (hx : RepV c env w x vx) {e : TE} (he : T q = some e) (hka : e.isAgg = k.isAgg) (hf : fitK T q k x = true) :
    (∀ m, (Op.equalIn (m + 6) q vk vx).run P w = .ok (eqKey k x) w) ∧ (eqKey k x = true → vk = vx) := by
  obtain ⟨h1, ⟨e', he', ha⟩, b, h2, h3, rfl⟩ := fitK_spec hf
  rw [he] at he'; cases he'
  obtain ⟨us, rfl, hu⟩ := asV_of hk hka
  obtain ⟨vs, rfl, hv⟩ := asV_of hx ha
  refine ⟨fun m => run_eqTy hT 6 q e _ _ _ _ _ he h2 hu hv (m + 6) (by omega), fun hb => ?_⟩
  rw [hb] at h3
  rw [eqCs_true h3 hu hv]

theorem run_forUnit {α : Type} (f : α → PUnit → Sem (ForInStep PUnit)) (w : World) : ∀ (l : List α), (∀ x ∈ l, (f x PUnit.unit).run P w = .ok (ForInStep.yield PUnit.unit) w) → (forIn l (PUnit.unit : PUnit) f : Sem PUnit).run P w = .ok ⟨⟩ w
  | [], _ => by simp
  | x :: l, h => by
    have h1 := h x (by simp)
    have ih := run_forUnit f w l (fun y hy => h y (by simp [hy]))
    simp only [List.forIn_cons, Sem.run_bind, h1, Result.andThen_ok]
    exact ih

theorem run_checkKey (hT : TyOK P T) (empty : Bool) : ∀ (n q : Nat) (e : TE) (xs : List D) (vx : List Value) (b : Bool), T q = some e → eqTy T n q xs xs = some b → All2 (RepC c env w) xs vx → ∀ m, n ≤ m → (Instr.checkKey empty m q (asV e vx)).run P w = .ok () w
  | 0, q, e, xs, vx, b, ht, h, hx, m, hm => by simp [eqTy] at h
  | n + 1, q, e, xs, vx, b, ht, h, hx, m, hm => by
    obtain ⟨m, rfl⟩ : ∃ k, m = k + 1 := ⟨m - 1, by omega⟩
    have he := hT q e ht
    have hK := he.kind
    simp only [eqTy, ht] at h
    cases hk : e.kind <;> rw [hk] at h hK <;> simp only at h <;> first | (cases h; done) | skip
    case int k => simp only [KindOK] at hK; simp [Instr.checkKey, run_underlying hK]
    case bool => simp only [KindOK] at hK; simp [Instr.checkKey, run_underlying hK]
    case str => simp only [KindOK] at hK; simp [Instr.checkKey, run_underlying hK]
    case agg fs =>
      obtain ⟨Fs, h1, h2, h3, h4, _⟩ := hK
      have hag : e.isAgg = true := by simp [TE.isAgg, hk]
      subst h2
      rw [List.map_map] at h
      obtain ⟨g, _, hg⟩ := allB_map h
      simp only [asV, hag, if_true, Instr.checkKey, Sem.run_bind, run_underlying h1, Result.andThen_ok]
      rw [← Array.forIn_toList, run_forUnit (P := P) _ w Fs.toList (fun F hF => ?_)]
      · rfl
      · have hgF := hg F hF
        simp only [Function.comp] at hgF
        have hn : F.name ≠ "_" := by simpa using List.all_eq_true.1 h3 F hF
        cases hu : T F.type with
        | none => rw [hu] at hgF; cases hgF
        | some eu =>
          rw [hu] at hgF
          simp only at hgF
          cases hb : (Nat.ble (F.offset + eu.size) xs.length && Nat.ble (F.offset + eu.size) xs.length) with
          | false => rw [hb] at hgF; cases hgF
          | true =>
            rw [hb, cond_true] at hgF
            simp only [Bool.and_eq_true, Nat.ble_eq] at hb
            have l1 := hx.length
            rw [if_pos hn]
            simp only [Sem.run_bind, run_part_at (hT _ _ hu) (show F.offset + eu.size ≤ vx.length by omega) (hT _ _ hu).one, Result.andThen_ok,
              run_checkKey hT empty n F.type eu _ _ _ hu hgF ((hx.drop _).take _) m (by omega), Sem.run_pure]
    case arr k u =>
      have hag : e.isAgg = true := by simp [TE.isAgg, hk]
      simp only [KindOK] at hK
      cases hu : T u with
      | none => rw [hu] at h; cases h
      | some eu =>
        rw [hu] at h
        simp only at h
        obtain ⟨g, _, hg⟩ := allB_map h
        simp only [asV, hag, if_true, Instr.checkKey, Sem.run_bind, run_underlying hK, Result.andThen_ok]
        rw [Std.Legacy.Range.forIn_eq_forIn_range']
        have hr : List.range' ([:k] : Std.Legacy.Range).start ([:k] : Std.Legacy.Range).size ([:k] : Std.Legacy.Range).step = List.range k := by
          simp [Std.Legacy.Range.size, List.range_eq_range']
        rw [hr, run_forUnit (P := P) _ w (List.range k) (fun i hi => ?_)]
        · rfl
        · have hgi := hg i hi
          cases hb : (Nat.ble (i * eu.size + eu.size) xs.length && Nat.ble (i * eu.size + eu.size) xs.length) with
          | false => rw [hb] at hgi; cases hgi
          | true =>
            rw [hb, cond_true] at hgi
            simp only [Bool.and_eq_true, Nat.ble_eq] at hb
            have l1 := hx.length
            simp only [Sem.run_bind, (hT _ _ hu).size, Result.andThen_ok, run_part_at (hT _ _ hu) (show i * eu.size + eu.size ≤ vx.length by omega) (hT _ _ hu).one,
              run_checkKey hT empty n u eu _ _ _ hu hgi ((hx.drop _).take _) m (by omega), Sem.run_pure]

theorem findD_eq {k : D} : ∀ {ks vs : List D}, ks.length = vs.length → findD k ks vs = (ks.findIdx? (eqKey k)).bind (vs[·]?)
  | [], [], _ => rfl
  | x :: ks, v :: vs, h => by
    simp only [findD, List.findIdx?_cons]
    cases hk : eqKey k x with
    | true => simp
    | false =>
      simp only [cond_false, Bool.false_eq_true, if_false]
      rw [findD_eq (by simpa using h), Option.map_eq_bind, Option.bind_assoc]
      congr 1
  | [], _ :: _, h => by simp at h
  | _ :: _, [], h => by simp at h
theorem putD_eq {k v : D} : ∀ {ks vs : List D}, ks.length = vs.length → putD k v ks vs = match ks.findIdx? (eqKey k) with
    | some i => (ks.set i k, vs.set i v)
    | none => (ks ++ [k], vs ++ [v])
  | [], [], _ => rfl
  | x :: ks, u :: vs, h => by
    simp only [putD, List.findIdx?_cons]
    cases hk : eqKey k x with
    | true => simp
    | false =>
      simp only [cond_false, Bool.false_eq_true, if_false]
      rw [putD_eq (by simpa using h)]
      cases ks.findIdx? (eqKey k) <;> simp
  | [], _ :: _, h => by simp at h
  | _ :: _, [], h => by simp at h

theorem run_findAsking (f : MapEntry → Bool) {q : Nat} {vk : Value} : ∀ (es : List MapEntry) (i : Nat), (∀ e ∈ es, (Op.equal q vk e.key).run P w = .ok (f e) w) →
    (Instr.findAsking q vk es i).run P w = .ok ((es.findIdx? f).bind fun j => (es[j]?).map fun e => (i + j, e.val)) w
  | [], _, _ => by simp [Instr.findAsking]
  | e :: es, i, h => by
    have h1 := h e (by simp)
    have ih := run_findAsking f es (i + 1) (fun x hx => h x (by simp [hx]))
    simp only [Instr.findAsking, Sem.run_bind, h1, Result.andThen_ok, Sem.run_ite, List.findIdx?_cons]
    cases hf : f e
    · simp only [Bool.false_eq_true, if_false, ih]
      congr 1
      rw [Option.map_eq_bind, Option.bind_assoc]
      congr 1
      funext j
      simp [Nat.add_assoc, Nat.add_comm 1 j]
    · simp

theorem findNow_eq (f : MapEntry → Bool) {d : TypeDesc} {vk : Value} : ∀ (es : List MapEntry) (i : Nat), (∀ e ∈ es, Instr.sameNow d vk e.key = some (f e) ∨ Instr.sameNow d vk e.key = none) → ∀ r, Instr.findNow d vk es i = some r → r = (es.findIdx? f).bind fun j => (es[j]?).map fun e => (i + j, e.val)
  | [], _, _, r, h => by simp [Instr.findNow] at h; simp [← h]
  | e :: es, i, hs, r, h => by
    simp only [Instr.findNow] at h
    rcases hs e (by simp) with h1 | h1
    · rw [h1] at h
      cases hf : f e with
      | true => rw [hf] at h; simp only [Option.some.injEq] at h; subst h; simp [List.findIdx?_cons, hf]
      | false =>
        rw [hf] at h
        simp only at h
        rw [findNow_eq f es (i + 1) (fun x hx => hs x (by simp [hx])) r h]
        simp only [List.findIdx?_cons, hf, Bool.false_eq_true, if_false, Option.map_eq_bind, Option.bind_assoc]
        congr 1
        funext j
        simp [Nat.add_assoc, Nat.add_comm 1 j]
    · rw [h1] at h; cases h
end

end Go.Proofs.Ytndijidmabfhcaa.Fw
