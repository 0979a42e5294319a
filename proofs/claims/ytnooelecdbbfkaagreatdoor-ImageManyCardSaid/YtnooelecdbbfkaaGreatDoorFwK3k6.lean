/- Texts RB, RC, KA, IP, IA, IC, PK, TA, JA, PB, HC, ID, KB, KC, KD, KE, TS, TI, TO, TW, TX, TY, IF, KJ, KO, MA, IM, IN of the proof, in one. -/
import Derived.Below
import Derived.ChangeSame
import Derived.WalkKit
import Derived.ProofKit
import Derived.JoinedTies
import Derived.Defers
import Derived.Laws.Shifts
import Derived.Laws.Bits64
import Derived.LoopTactic
import Derived.RegionTactic
import Derived.Room.Shelf.Join48
import Derived.Shelf.Strings.Builder1
import Derived.Shelf.Strings.Search3
import Derived.Test.YtnooelecdbbfkaaGreatDoorFwK3k5
set_option linter.unusedSimpArgs false
set_option linter.unusedVariables false
set_option linter.unusedSectionVars false
set_option linter.unnecessarySimpa false

/- A law's row follows from the contract of its function over plain data. -/
namespace Go.Proofs.YtnooelecdbbfkaaGreatDoor.Fw
open Go Go.RowKit Go.WideShapes Go.ChangeShapes
set_option linter.unusedSectionVars false
variable [Inhabited GLT]

section
variable {H : Type} {enc : TypeId × Value → H} {P : Program}
theorem post_below {f : Func} {s : ChangeSpec} {apart fresh handsOn again : Bool} {W W' : World} {args : Array Value} {v : Value} {ds gs : List (DataW H)} {before pa pv : List MemPlace}
    (hW : DataW.Whole enc P f.params.toList s.vars apart W args.toList ds gs before)
    (hres : ∀ (b : Nat) (sp : Nat → Bool) (hd : Bool), DataW.TrodAll enc P W' b sp hd f.resultTypes.toList (v.resultList f.resultTypes.size) (s.fn H (ds ++ gs)).results [])
    (hargs : ∀ sp : Nat → Bool, (∀ p ∈ before, sp p.block = true) → DataW.TrodAll enc P W' 0 sp true f.params.toList args.toList (s.fn H (ds ++ gs)).args pa)
    (hvars : ∀ sp : Nat → Bool, (∀ p ∈ before, sp p.block = true) → DataW.TrodVars enc P W' sp s.vars (s.fn H (ds ++ gs)).vars pv)
    (hps : before = pa ++ pv) (hb : Below W.heap.size W W')
    (hok : ∀ (j : Nat) (t : TypeId) (r : Value), f.resultTypes[j]? = some t → (v.resultList f.resultTypes.size)[j]? = some r → Value.okWide P W' .any 0 t r) :
    s.post enc P f apart fresh handsOn again W args v W' := by
  have hlt : ∀ p ∈ before, p.block < W.heap.size := fun p hp => hW.lt p hp
  have hold : ∀ p ∈ before, (fun b => decide (b < W.heap.size)) p.block = true := fun p hp => by simpa using hlt p hp
  refine ⟨ds, gs, before, [], pa, pv, hW, hres _ _ _, hargs _ hold, hvars _ hold, World.keptBut_mono (fun p hp => ⟨hp, ?_⟩) (hb.frame (· ∈ before)), fun _ => ?_⟩
  · rw [hps, List.mem_append] at hp
    exact Or.inr hp
  · obtain ⟨_, _, _, _, _, hz, hn⟩ := hW
    refine ⟨hok, _, _, ([] ++ pa) ++ pv, ⟨[] ++ pa, pv, trodAll_append (hargs _ (fun _ _ => rfl)) (hres _ _ _), hvars _ (fun _ _ => rfl), rfl, ?_, ?_⟩, ?_⟩
    · intro b off hp
      have hin : MemPlace.cell b off ∈ before := by rw [hps]; simpa using hp
      rw [hb.frozen (hlt _ hin)]
      exact hz b off hin
    · intro ha
      have := hn ha
      rw [hps] at this
      simpa using this
    · intro p hp _
      rw [hps]
      simpa using hp

theorem same_below {w w' : World} (hb : Below w.heap.size w w') {p : MemPlace} (hp : p.block < w.heap.size) : w.sameAt w' p := by
  have h := hb.block p.block hp
  cases p with
  | cell b off => simp only [World.sameAt, World.cell?, MemPlace.block] at h ⊢; rw [h]
  | map b => exact h

theorem args_stay {w w' : World} (hl : laidOutB P = true) (hb : Below w.heap.size w w') {sp : Nat → Bool} : ∀ {ts : List TypeId} {vs : List Value} {ds : List (DataW H)} {ps : List MemPlace},
    (∀ t ∈ ts, P.readableRec t = true ∧ t < P.types.size) → DataW.TrodAll enc P w 0 (fun _ => true) true ts vs ds ps → (∀ p ∈ ps, sp p.block = true) → DataW.TrodAll enc P w' 0 sp true ts vs ds ps
  | [], [], [], _, _, h, _ => h
  | t :: _, v :: _, d :: _, _, hT, ⟨p, q, ⟨n, h1⟩, h2, e⟩, hs => by
    subst e
    obtain ⟨hr, hrow⟩ := hT t (List.mem_cons_self)
    refine ⟨p, q, ⟨n, ?_⟩, args_stay hl hb (fun t ht => hT t (List.mem_cons_of_mem _ ht)) h2 fun x hx => hs x (List.mem_append_right _ hx), rfl⟩
    exact DataW.trod_stays (kids_book hl hr) (book_sized hr) (fun h => by cases h) ⟨hrow, book_self t⟩ h1
      (fun x hx => same_below hb (DataW.trod_lt _ _ _ _ h1 x hx)) (fun x hx => hs x (List.mem_append_left _ hx))

/-- Plain data of a type, as one. -/
def ShpV (T : Ty) (t : Nat) (d : D) : Prop := ∃ cs, d = wholeT T t cs ∧ Shp T 20 t cs

theorem conv_arg {T : Ty} (hT : TyOK P T) {w : World} {base t : Nat} (ht : plainT T 20 t = true) {v : Value} (hv : Value.okWide P w .any base t v) {d : DataW H} {ps : List MemPlace} (hd : DataW.Trod enc P w 0 (fun _ => true) true t v d ps) :
    ∃ x, ShpV T t x ∧ Rep (old w) w x v := by
  obtain ⟨fuel, hf⟩ := hd
  obtain ⟨ds, hc⟩ := conv hT 20 t fuel _ _ ht hf
  refine ⟨wholeT T t ds, ⟨ds, rfl, hc.shp⟩, ?_⟩
  have ht' := ht
  unfold plainT at ht
  split at ht
  case h_2 => cases ht
  case h_1 e he =>
  have hk := (hT t e he).kind
  have hone := (hT t e he).one
  cases hag : e.isAgg with
  | true =>
    rw [show wholeT T t ds = .agg ds by simp [wholeT, he, hag]]
    have hagg : ∃ cs, v = .agg cs := by
      unfold Value.okWide at hv
      unfold TE.isAgg at hag
      split at hag <;> rename_i hk' <;> first | (rw [hk'] at hk) | (cases hag; done)
      · obtain ⟨Fs, hu, _⟩ := hk
        rw [hu] at hv
        exact ⟨hv.choose, hv.choose_spec.1⟩
      · simp only [KindOK] at hk
        rw [hk] at hv
        exact ⟨hv.choose, hv.choose_spec.1⟩
    obtain ⟨cs, rfl⟩ := hagg
    exact ⟨cs.toList, by simp, hc.cell, hc.rep⟩
  | false =>
    have hno : ∀ cs, v ≠ .agg cs := by
      rintro cs rfl
      unfold Value.okWide at hv
      split at ht <;> rename_i hk' <;> first | (cases ht; done) | skip
      all_goals first
        | (rw [hk'] at hk; simp only [KindOK] at hk; rw [hk] at hv; simp [Cell.okWide, Cell.ok, hk] at hv; done)
        | (simp [TE.isAgg, hk'] at hag; done)
    have hcs : v.cells.toList = [v] := by
      cases v <;> first | rfl | exact absurd rfl (hno _)
    have hr := hc.rep
    rw [hcs] at hr
    have hlen := (all2_repL.1 hr).length
    obtain ⟨x, rfl⟩ := List.length_eq_one_iff.1 (show ds.length = 1 from hlen)
    rw [show wholeT T t [x] = x by simp [wholeT, he, hag]]
    exact (all2_repL.1 hr).1

theorem conv_args {T : Ty} (hT : TyOK P T) {w : World} {base : Nat} : ∀ {ts : List Nat} {vs : List Value} {ds : List (DataW H)} {ps : List MemPlace}, (∀ t ∈ ts, plainT T 20 t = true) →
    (∀ (j : Nat) t v, ts[j]? = some t → vs[j]? = some v → Value.okWide P w .any base t v) → DataW.TrodAll enc P w 0 (fun _ => true) true ts vs ds ps →
    ds.length = ts.length ∧ ∃ xs, All2 (ShpV T) ts xs ∧ RepL (old w) w xs vs
  | [], [], [], _, _, _, _ => ⟨rfl, [], trivial, by simp [RepL]⟩
  | t :: ts, v :: vs, d :: ds, _, hT', hok, ⟨p, q, h1, h2, e⟩ => by
    obtain ⟨x, hx, hr⟩ := conv_arg hT (hT' t (List.mem_cons_self)) (hok 0 t v rfl rfl) h1
    obtain ⟨hl, xs, hxs, hrs⟩ := conv_args hT (fun t ht => hT' t (List.mem_cons_of_mem _ ht)) (fun j t v hj hv => hok (j + 1) t v (by simpa using hj) (by simpa using hv)) h2
    exact ⟨by simp [hl], x :: xs, ⟨hx, hxs⟩, ⟨v, vs, rfl, hr, hrs⟩⟩

theorem law_contract {T : Ty} (hT : TyOK P T) (hl : laidOutB P = true) {f : Nat} {fn : Func} {s : ChangeSpec} {apart fresh handsOn again : Bool} {tb : Nat}
    (hv : s.vars = []) (hres : fn.resultTypes = #[tb]) (hbool : P.underlying tb = some .bool)
    (hp : fn.params.toList.all (fun t => plainT T 20 t && P.readableRec t && decide (t < P.types.size)) = true)
    (hs : ∀ ds : List (DataW H), ds.length = fn.params.toList.length → s.fn H ds = { results := [.lit (.bool true)], args := ds })
    (hcall : ∀ xs, All2 (ShpV T) fn.params.toList xs → CallsTo P f xs (.bool true))
    (W : World) (base : Nat) (args : Array Value) (ds gs : List (DataW H)) (before : List MemPlace)
    (hval : ∀ (j : Nat) t v, fn.params[j]? = some t → args[j]? = some v → Value.okWide P W .any base t v)
    (hW : DataW.Whole enc P fn.params.toList s.vars apart W args.toList ds gs before) (hgl : GlobW P (old W) W) :
    Calls P f args W fun e W' => ∃ v, e = .returned v ∧ s.post enc P fn apart fresh handsOn again W args v W' := by
  have hW' := hW
  obtain ⟨p, q, hA, hV, hpq, hfz, hnd⟩ := hW
  rw [hv] at hV
  obtain ⟨rfl, rfl⟩ := trodVars_none hV
  have hp' : ∀ t ∈ fn.params.toList, plainT T 20 t = true ∧ P.readableRec t = true ∧ t < P.types.size := fun t ht => by
    have := List.all_eq_true.1 hp t ht
    simp only [Bool.and_eq_true, decide_eq_true_eq] at this
    exact ⟨this.1.1, this.1.2, this.2⟩
  obtain ⟨hlen, xs, hxs, hrs⟩ := conv_args (base := base) hT (fun t ht => (hp' t ht).1) (fun j t v hj hv => hval j t v (by rw [← Array.getElem?_toList]; exact hj) (by rw [← Array.getElem?_toList]; exact hv)) hA
  have hc := (hcall xs hxs).2 (old W) W args.toList ⟨fun b o h => h, hgl⟩ hrs
  refine Calls.mono hc fun e W' ⟨v, I', he, _, _, _, hv', hb⟩ => ?_
  subst he
  have hvb : v = .bool true := by simpa [Rep] using hv'
  subst hvb
  rw [List.append_nil] at hpq
  subst hpq
  refine ⟨_, rfl, post_below (pa := before) (pv := []) hW' ?_ ?_ ?_ (by simp) hb ?_⟩
  · intro b sp hd
    rw [List.append_nil, hs ds hlen, hres]
    exact trodAll_cons_mk (shut_bool hbool _) trodAll_mk0
  · intro sp hsp
    rw [List.append_nil, hs ds hlen]
    exact args_stay hl hb (fun t ht => (hp' t ht).2) hA hsp
  · intro sp _
    rw [List.append_nil, hs ds hlen, hv]
    rfl
  · exact ok_one hres rfl (okWide_bool_mk hbool _)
end
end Go.Proofs.YtnooelecdbbfkaaGreatDoor.Fw

/- Reading arguments of some shapes; what every row of the seat asks. -/
namespace Go.Proofs.YtnooelecdbbfkaaGreatDoor.Fw
open Go Go.RowKit Go.WideShapes Go.ChangeShapes
set_option linter.unusedSectionVars false
variable [Inhabited GLT]

theorem all2_inv1 {α β : Type} {R : α → β → Prop} {a : α} : ∀ {xs : List β}, All2 R [a] xs → ∃ x, xs = [x] ∧ R a x
  | [x], h => ⟨x, rfl, h.1⟩
  | [], h => h.elim
  | _ :: _ :: _, h => h.2.elim
theorem all2_inv2 {α β : Type} {R : α → β → Prop} {a b : α} : ∀ {xs : List β}, All2 R [a, b] xs → ∃ x y, xs = [x, y] ∧ R a x ∧ R b y
  | [x, y], h => ⟨x, y, rfl, h.1, h.2.1⟩
  | [], h => h.elim
  | [_], h => h.2.elim
  | _ :: _ :: _ :: _, h => h.2.2.elim
theorem all2_inv3 {α β : Type} {R : α → β → Prop} {a b c : α} : ∀ {xs : List β}, All2 R [a, b, c] xs → ∃ x y z, xs = [x, y, z] ∧ R a x ∧ R b y ∧ R c z
  | [x, y, z], h => ⟨x, y, z, rfl, h.1, h.2.1, h.2.2.1⟩
  | [], h => h.elim
  | [_], h => h.2.elim
  | [_, _], h => h.2.2.elim
  | _ :: _ :: _ :: _ :: _, h => h.2.2.2.elim
theorem laid : laidOutB Tryz.prog = true := by kernel_rfl
theorem own : ownKnob Tryz.prog.godebug = none := by kernel_rfl

theorem shp_int {t : Nat} {k : IntKind} {d : D} (ht : (T t).map (fun e => e.kind) = some (.int k)) (h : ShpV T t d) : ∃ n, d = .int k n := by
  obtain ⟨cs, rfl, h⟩ := h
  cases he : T t with
  | none => rw [he] at ht; cases ht
  | some e =>
    rw [he] at ht
    simp only [Option.map_some, Option.some.injEq] at ht
    simp only [Shp, he, ht] at h
    obtain ⟨m, rfl, _⟩ := h
    exact ⟨m, by simp [wholeT, he, TE.isAgg, ht]⟩
theorem shp_bool {t : Nat} {d : D} (ht : (T t).map (fun e => e.kind) = some .bool) (h : ShpV T t d) : ∃ b, d = .bool b := by
  obtain ⟨cs, rfl, h⟩ := h
  cases he : T t with
  | none => rw [he] at ht; cases ht
  | some e =>
    rw [he] at ht
    simp only [Option.map_some, Option.some.injEq] at ht
    simp only [Shp, he, ht] at h
    obtain ⟨m, rfl⟩ := h
    exact ⟨m, by simp [wholeT, he, TE.isAgg, ht]⟩
theorem shp_str {t : Nat} {d : D} (ht : (T t).map (fun e => e.kind) = some .str) (h : ShpV T t d) : ∃ l, d = .str l ∧ l.length ≤ maxLen := by
  obtain ⟨cs, rfl, h⟩ := h
  cases he : T t with
  | none => rw [he] at ht; cases ht
  | some e =>
    rw [he] at ht
    simp only [Option.map_some, Option.some.injEq] at ht
    simp only [Shp, he, ht] at h
    obtain ⟨m, rfl, hl⟩ := h
    exact ⟨m, by simp [wholeT, he, TE.isAgg, ht], hl⟩
abbrev S8 := List UInt8
theorem strs_of {n : Nat} : ∀ {xs : List (List D)}, (∀ x ∈ xs, Shp T (n + 1) 9 x) → ∃ l : List S8, xs.map (wholeT T 9) = l.map D.str ∧ l.length = xs.length ∧ ∀ s ∈ l, s.length ≤ maxLen
  | [], _ => ⟨[], rfl, rfl, fun s h => by cases h⟩
  | x :: xs, h => by
    obtain ⟨l, h1, h2, h3⟩ := strs_of (xs := xs) fun y hy => h y (List.mem_cons_of_mem _ hy)
    obtain ⟨m, rfl, hm⟩ := h x (List.mem_cons_self ..)
    exact ⟨m :: l, by rw [List.map_cons, List.map_cons, h1]; rfl, by simp [h2], fun s hs => by
      rcases List.mem_cons.1 hs with rfl | hs
      · exact hm
      · exact h3 s hs⟩
theorem shp_strs {d : D} (h : ShpV T 74 d) : ∃ l : List S8, d = .sl 0 1 (l.map D.str) ∧ l.length ≤ maxLen ∧ ∀ s ∈ l, s.length ≤ maxLen := by
  obtain ⟨cs, rfl, xs, rfl, hl, hs⟩ := h
  obtain ⟨l, h1, h2, h3⟩ := strs_of (n := 18) hs
  refine ⟨l, ?_, by omega, h3⟩
  rw [h1]; rfl
theorem shp_ints2 {d : D} (h : ShpV T 62 d) : ∃ a b, d = D.agg [.int .i64 a, .int .i64 b] := by
  obtain ⟨cs, rfl, dss, rfl, hl, hs⟩ := h
  have hs' : ∀ x ∈ dss, ∃ n, x = [.int .i64 n] := fun x hx => by
    obtain ⟨n, rfl, _⟩ := hs x hx
    exact ⟨n, rfl⟩
  match dss, hl, hs' with
  | [a, b], _, hs' =>
    obtain ⟨a, rfl⟩ := hs' a (by simp)
    obtain ⟨b, rfl⟩ := hs' b (by simp)
    exact ⟨a, b, rfl⟩
end Go.Proofs.YtnooelecdbbfkaaGreatDoor.Fw

/- Small functions: comparing, small letters. -/
namespace Go.Proofs.YtnooelecdbbfkaaGreatDoor.Fw
open Go Go.RowKit
set_option linter.unusedSectionVars false
variable [Inhabited GLT]
set_option maxRecDepth 100000
set_option maxHeartbeats 4000000

theorem run208 (s : S8) : Runs Tryz.prog T 6 (Tryz.f208.body.getD .skip) Tryz.f208.results.toList [.str s] (.bool false) := by
  refine ⟨Nat.le_of_ble_eq_true rfl, ?_⟩
  conv => whnf
  exact ⟨rfl, congrArg D.bool (by simp)⟩
theorem call208 (s : S8) : CallsTo Tryz.prog 208 [.str s] (.bool false) := calls Tryz.func208 rfl (by decide) (run208 s)
/-- By bytes, ahead. -/
abbrev lt8 (a b : S8) : Bool := bytesLess a b
def cmp8 (a b : S8) : Int := if lt8 a b then -1 else if a = b then 0 else 1
theorem run181 (a b : S8) : Runs Tryz.prog T 20 (Tryz.f181.body.getD .skip) Tryz.f181.results.toList [.str a, .str b] (.int .i64 (cmp8 a b)) := by
  refine ⟨Nat.le_of_ble_eq_true rfl, ?_⟩
  conv => whnf
  refine ⟨_, fun _ => call208 a, ?_⟩
  conv => whnf
  refine ⟨_, fun _ => call208 b, ?_⟩
  conv => whnf
  refine ifB_intro (fun h => ?_) (fun h => ?_)
  · conv => whnf
    have h : lt8 a b = true := h
    exact ⟨rfl, congrArg (D.int .i64) (by simp [cmp8, h])⟩
  · conv => whnf
    refine ifB_intro (fun h2 => ?_) (fun h2 => ?_)
    · conv => whnf
      have h : lt8 a b = false := h
      have h2 : (!(lt8 a b || a == b)) = true := h2
      rw [h] at h2
      simp only [Bool.false_or, Bool.not_eq_true', beq_eq_false_iff_ne] at h2
      exact ⟨rfl, congrArg (D.int .i64) (by simp [cmp8, h, h2])⟩
    · conv => whnf
      have h : lt8 a b = false := h
      have h2 : (!(lt8 a b || a == b)) = false := h2
      rw [h] at h2
      simp only [Bool.false_or, Bool.not_eq_false', beq_iff_eq] at h2
      subst h2
      exact ⟨rfl, congrArg (D.int .i64) (by simp [cmp8, h])⟩
theorem call181 (a b : S8) : CallsTo Tryz.prog 181 [.str a, .str b] (.int .i64 (cmp8 a b)) := calls Tryz.func181 rfl (by decide) (run181 a b)
/-- A byte, in small. -/
def lowB (b : UInt8) : UInt8 := if 65 ≤ b ∧ b ≤ 90 then b + 32 else b
def low (s : S8) : S8 := s.map lowB
theorem lowB_int (b : UInt8) : (lowB b).toNat = if 65 ≤ b.toNat ∧ b.toNat ≤ 90 then b.toNat + 32 else b.toNat := by
  unfold lowB
  have h1 : (65 ≤ b ∧ b ≤ 90) ↔ (65 ≤ b.toNat ∧ b.toNat ≤ 90) := by simp [UInt8.le_iff_toNat_le]
  by_cases h : 65 ≤ b ∧ b ≤ 90
  · rw [if_pos h, if_pos (h1.1 h), UInt8.toNat_add]
    have := h1.1 h
    simp; omega
  · rw [if_neg h, if_neg (fun x => h (h1.2 x))]
theorem wrap_u8 {n : Int} (h0 : 0 ≤ n) (h : n < 256) : IntKind.u8.wrap n = n := by
  have : IntKind.u8.wrap n = n % 256 := by simp [IntKind.wrap, IntKind.bits, IntKind.signed]
  rw [this]; omega
theorem run153 (b : UInt8) : Runs Tryz.prog T 12 (Tryz.f153.body.getD .skip) Tryz.f153.results.toList [.int .u8 b.toNat] (.int .u8 (lowB b).toNat) := by
  refine ⟨Nat.le_of_ble_eq_true rfl, ?_⟩
  conv => whnf
  have hb := lowB_int b
  have hl : b.toNat < 256 := b.toNat_lt
  refine ifB_intro (fun h => ?_) (fun h => ?_)
  · have h : ((65 : Int) ≤ b.toNat) ∧ ((b.toNat : Int) ≤ 90) := by
      revert h
      cases h1 : decide ((65 : Int) ≤ b.toNat) <;> simp_all
    conv => whnf
    refine ⟨rfl, congrArg (D.int .u8) ?_⟩
    rw [hb, if_pos (by omega), wrap_u8 (by omega) (by omega)]
    omega
  · conv => whnf
    refine ⟨rfl, congrArg (D.int .u8) ?_⟩
    have h : ¬ (((65 : Int) ≤ b.toNat) ∧ ((b.toNat : Int) ≤ 90)) := by
      intro h2
      rw [decide_eq_true h2.1, decide_eq_true h2.2] at h
      cases h
    rw [hb, if_neg (by omega)]
theorem call153 (b : UInt8) : CallsTo Tryz.prog 153 [.int .u8 b.toNat] (.int .u8 (lowB b).toNat) := calls Tryz.func153 rfl (by decide) (run153 b)
theorem run152 (n : Int) (b : UInt8) : Runs Tryz.prog T 7 (Tryz.f152.body.getD .skip) Tryz.f152.results.toList [.int .i64 n, .int .u8 b.toNat] (.int .u8 (lowB b).toNat) := by
  refine ⟨Nat.le_of_ble_eq_true rfl, ?_⟩
  conv => whnf
  refine ⟨_, fun _ => call153 b, ?_⟩
  conv => whnf
  exact ⟨rfl, rfl⟩
theorem call152 (n : Int) (b : UInt8) : CallsTo Tryz.prog 152 [.int .i64 n, .int .u8 b.toNat] (.int .u8 (lowB b).toNat) := calls Tryz.func152 rfl (by decide) (run152 n b)
abbrev Tby : Ty := Tm [] [5]
def byD (b : UInt8) : D := .int .u8 b.toNat
theorem getD_enc {α : Type} {enc : α → D} {l : List α} {k : Nat} {x : α} (h : l[k]? = some x) : (l.map enc).getD k D.undef = enc x := by
  simp [List.getD, h]
theorem set_enc {α : Type} {enc : α → D} {l : List α} {k : Nat} {x : α} {d : D} (h : d = enc x) : (l.map enc).set k d = (l.set k x).map enc := by
  rw [h, List.map_set]
theorem blt_of {a b : Nat} (h : a < b) : Nat.blt a b = true := by simpa using h
theorem ble_of {a b : Nat} (h : a ≤ b) : Nat.ble a b = true := Nat.ble_eq_true_of_le h
theorem zero_toNat (i : Nat) : 0 + Int.toNat (i : Int) = i := by omega
def lowSt (s : S8) (i : Nat) : S8 := (s.take i).map lowB ++ s.drop i
theorem lowSt_length {s : S8} {i : Nat} (h : i ≤ s.length) : (lowSt s i).length = s.length := by
  simp [lowSt]; omega
theorem lowSt_get {s : S8} {i : Nat} (h : i < s.length) : (lowSt s i)[i]? = some s[i] := by
  rw [lowSt, List.getElem?_append_right (by simp; omega)]
  simp [Nat.min_eq_left (Nat.le_of_lt h)]
theorem lowSt_set {s : S8} {i : Nat} (h : i < s.length) : (lowSt s i).set i (lowB s[i]) = lowSt s (i + 1) := by
  rw [lowSt, List.set_append_right _ _ (by simp; omega)]
  simp only [List.length_map, List.length_take, Nat.min_eq_left (Nat.le_of_lt h), Nat.sub_self]
  rw [List.drop_eq_getElem_cons h, List.set_cons_zero, lowSt, List.take_succ_eq_append_getElem h, List.map_append, List.append_assoc]
  rfl
theorem lowSt_end {s : S8} : lowSt s s.length = low s := by simp [lowSt, low]
theorem u8s_by : ∀ (l : S8), u8s (l.map byD) = some l
  | [] => rfl
  | b :: l => by simp [u8s, byD, u8s_by l]
theorem run151 (s : S8) (hs : s.length ≤ 1000000) : Runs Tryz.prog Tby 27 (Tryz.f151.body.getD .skip) Tryz.f151.results.toList [.str s, .fn 152 []] (.str (low s)) := by
  refine ⟨Nat.le_of_ble_eq_true rfl, ?_⟩
  conv => whnf
  refine sideB_intro (fun _ => decide_eq_true (by omega)) ?_
  conv => whnf
  refine ⟨[], ?_⟩
  conv => whnf
  refine loop_at (σ := Nat) (fun i env => (env.setT 12 (.int .i64 (i : Int))).setX 2 ((lowSt s i).map byD)) (fun i => s.length - i) (fun i => i ≤ s.length) 0 (Nat.zero_le _) rfl ?_
  rintro i hi ih
  conv => whnf
  refine ifB_intro (fun h => ?_) (fun h => ?_)
  · have h : (i : Int) < (s.length : Int) := of_decide_eq_true h
    have hlt : i < s.length := by omega
    have hw : IntKind.i64.wrap ((i : Int) + 1) = ((i + 1 : Nat) : Int) := by rw [IntKind.wrap_i64]; omega
    have ih' := ih (i + 1) hlt (by omega)
    have hg := lowSt_get hlt
    have hset := lowSt_set hlt
    have hll := lowSt_length (Nat.le_of_lt hlt)
    have hk := zero_toNat i
    revert hg hset hll ih'
    generalize lowSt s i = L
    generalize s[i] = x
    intro ih' hg hset hll
    conv => whnf
    refine sideB_intro (fun _ => decide_eq_true (by omega)) ?_
    conv => whnf
    refine fD_of (getD_enc (enc := byD) (x := x) (by rw [hk]; exact hg)) ?_
    conv => whnf
    refine sideB_intro (fun _ => blt_of (by simp only [List.length_map]; omega)) ?_
    conv => whnf
    refine ⟨_, fun _ => call152 _ x, ?_⟩
    conv => whnf
    refine sideB_intro (fun _ => decide_eq_true (by omega)) ?_
    conv => whnf
    refine sideB_intro (fun _ => blt_of (by simp only [List.length_map]; omega)) ?_
    conv => whnf
    rw [hw, hk, set_enc (enc := byD) (x := lowB x) (d := .int .u8 (lowB x).toNat) rfl, hset]
    exact ih'
  · conv => whnf
    have h : ¬ ((i : Int) < (s.length : Int)) := of_decide_eq_false h
    obtain rfl : i = s.length := by omega
    rw [lowSt_end]
    refine .inl ⟨low s, ?_, ?_⟩
    · rw [show sliceD (List.map byD (low s)) 0 (0 + s.length) = List.map byD (low s) from by simp only [sliceD, Nat.zero_add, List.drop_zero]; exact List.take_of_length_le (by simp [low])]
      exact u8s_by _
    refine sideB_intro (fun _ => ble_of (by simp [low])) ?_
    conv => whnf
    exact ⟨rfl, rfl⟩
theorem call151 (s : S8) (hs : s.length ≤ 1000000) : CallsTo Tryz.prog 151 [.str s, .fn 152 []] (.str (low s)) := calls Tryz.func151 rfl (by decide) (run151 s hs)
theorem run104 (s : S8) (hs : s.length ≤ 1000000) : Runs Tryz.prog T 5 (Tryz.f104.body.getD .skip) Tryz.f104.results.toList [.str s] (.str (low s)) := by
  refine ⟨Nat.le_of_ble_eq_true rfl, ?_⟩
  conv => whnf
  refine ⟨_, fun _ => call151 s hs, ?_⟩
  conv => whnf
  exact ⟨rfl, rfl⟩
theorem call104 (s : S8) (hs : s.length ≤ 1000000) : CallsTo Tryz.prog 104 [.str s] (.str (low s)) := calls Tryz.func104 rfl (by decide) (run104 s hs)
end Go.Proofs.YtnooelecdbbfkaaGreatDoor.Fw

/- Of what bytes a text is made: letters, digits; what may stand in an image's rows. Plain laws. -/
namespace Go.Proofs.YtnooelecdbbfkaaGreatDoor.Fw
open Go Go.RowKit
set_option linter.unusedSectionVars false
variable [Inhabited GLT]
/-- What a byte is: a letter, a digit. -/
def isLet (c : UInt8) : Bool := (decide (65 ≤ (c.toNat : Int)) && decide ((c.toNat : Int) ≤ 90)) || (decide (97 ≤ (c.toNat : Int)) && decide ((c.toNat : Int) ≤ 122))
def isDig (c : UInt8) : Bool := decide (48 ≤ (c.toNat : Int)) && decide ((c.toNat : Int) ≤ 57)
def oddB (c : UInt8) : Bool := !(isLet c || isDig c)
def kdB (c : UInt8) : Int := bif isLet c then 1 else bif isDig c then 2 else 0
def bitsK : Bool → Bool → Int
  | false, false => 0
  | true, false => 1
  | false, true => 2
  | true, true => 3
/-- What a text is made of. -/
def cls (s : S8) : Int := bif s.any oddB then 0 else bitsK (s.any isLet) (s.any isDig)
theorem not_both (c : UInt8) : (isLet c && isDig c) = false := by
  unfold isLet isDig
  by_cases h1 : (65 : Int) ≤ c.toNat <;> by_cases h2 : (c.toNat : Int) ≤ 90 <;> by_cases h3 : (97 : Int) ≤ c.toNat <;> by_cases h4 : (c.toNat : Int) ≤ 122 <;> by_cases h5 : (48 : Int) ≤ c.toNat <;> by_cases h6 : (c.toNat : Int) ≤ 57 <;> simp [h1, h2, h3, h4, h5, h6] <;> omega
/-- A language, a script, a region. -/
def tagL (s : S8) : Bool := decide (cls s = 1) && (decide (2 ≤ s.length) && decide (s.length ≤ 8))
def tagS (s : S8) : Bool := decide (cls s = 1) && decide (s.length = 4)
def tagR (s : S8) : Bool := (decide (cls s = 1) && decide (s.length = 2)) || (decide (cls s = 2) && decide (s.length = 3))
/-- In small letters, too. -/
def smB (p : S8 → Bool) (s : S8) : Bool := decide (s = low s) && p s
def lowL : S8 → Bool := smB tagL
def lowS : S8 → Bool := smB tagS
def lowR : S8 → Bool := smB tagR
def setN (s : S8) : Bool := smB (fun s => decide (cls s ≠ 0)) s && decide (s.length < 8)
def orE (p : S8 → Bool) (s : S8) : Bool := decide (s = []) || p s
/-- A likely row that may be. -/
def likelyOK (l s r tl ts tr : S8) : Bool := !decide (tl = [117, 110, 100]) && (lowL l && orE lowS s && orE lowR r && lowL tl && lowS ts && lowR tr)
def setS (s : S8) : Bool := !decide (s = []) && (decide (s.head? = some 36) || decide (s.head? = some 33)) && setN s.tail
def starOr (p : S8 → Bool) (s : S8) : Bool := decide (s = [42]) || p s
/-- What may stand at a place of a rule. -/
def placeS : Nat → S8 → Bool
  | 0 => starOr lowL
  | 1 => starOr lowS
  | _ => fun s => starOr lowR s || setS s
/-- Such as stand at the places of a rule of a level. -/
def placeN (lv i : Nat) (s : S8) : Bool := if i < lv then placeS i s else decide (s = [])
def placesOK (lv : Nat) (t : S8 × S8 × S8) : Bool := placeN lv 0 t.1 && (placeN lv 1 t.2.1 && placeN lv 2 t.2.2)
/-- A rule that may be. -/
def ruleOK (lv cost : Int) (d s : S8 × S8 × S8) : Bool := (decide (1 ≤ lv) && decide (lv ≤ 3) && decide (0 ≤ cost) && decide (cost ≤ 100)) && (placesOK lv.toNat d && placesOK lv.toNat s)
def memberOK (set r : S8) : Bool := setN set && lowR r
/-- A name's first byte is none of a region. -/
theorem lowR_head {s : S8} (h : lowR s = true) : s.head? ≠ some 36 ∧ s.head? ≠ some 33 ∧ s ≠ [] := by
  unfold lowR smB tagR at h
  have hc : cls s ≠ 0 := by
    intro hc
    simp [hc] at h
  have ho : s.any oddB = false := by
    cases e : s.any oddB
    · rfl
    · exact absurd (by simp [cls, e]) hc
  have hn : ∀ b, s.head? = some b → oddB b = false := by
    intro b hb
    obtain ⟨c, t, rfl⟩ : ∃ c t, s = c :: t := by
      cases s
      · cases hb
      · exact ⟨_, _, rfl⟩
    obtain rfl := Option.some.inj hb
    simp at ho
    exact ho.1
  refine ⟨fun hb => absurd (hn _ hb) (by decide), fun hb => absurd (hn _ hb) (by decide), ?_⟩
  rintro rfl
  exact hc rfl
/-- The document's third place. -/
theorem place2 (s : S8) : placeS 2 s = (bif decide (s = [42]) then true else bif !decide (s = []) && (decide (s.head? = some 36) || decide (s.head? = some 33)) then setN s.tail else lowR s) := by
  show (starOr lowR s || setS s) = _
  unfold starOr setS
  by_cases h : lowR s = true
  · obtain ⟨h1, h2, h3⟩ := lowR_head h
    simp [h, h1, h2, h3]
  · replace h : lowR s = false := by simpa using h
    rw [h]
    cases decide (s = [42]) <;> cases (!decide (s = []) && (decide (s.head? = some 36) || decide (s.head? = some 33))) <;> simp
theorem counts_sum (s : S8) : s.countP isLet + s.countP isDig + s.countP oddB = s.length := by
  induction s with
  | nil => rfl
  | cons c s ih =>
    have h := not_both c
    have e1 : oddB c = !(isLet c || isDig c) := rfl
    simp only [List.countP_cons, List.length_cons, e1]
    rcases Bool.eq_false_or_eq_true (isLet c) with h1 | h1 <;> rcases Bool.eq_false_or_eq_true (isDig c) with h2 | h2 <;> simp [h1, h2] at h ⊢ <;> omega
theorem any_count (p : UInt8 → Bool) (s : S8) : s.any p = decide (0 < s.countP p) := by
  rw [Bool.eq_iff_iff, decide_eq_true_eq, List.countP_pos_iff, List.any_eq_true]
theorem cls_counts (s : S8) : cls s = if s = [] ∨ s.countP isLet + s.countP isDig < s.length then 0 else if s.countP isDig = 0 then 1 else if s.countP isLet = 0 then 2 else 3 := by
  have hs := counts_sum s
  have he : s = [] ↔ s.length = 0 := by simp
  unfold cls
  rw [any_count, any_count, any_count]
  simp only [he]
  by_cases h : 0 < s.countP oddB
  · simp [h]
    intro h1 h2
    omega
  · simp only [decide_eq_false h, cond_false]
    by_cases h0 : s.length = 0
    · simp [h0, show s.countP isLet = 0 by omega, show s.countP isDig = 0 by omega, bitsK]
    · rw [if_neg (by omega)]
      by_cases h1 : s.countP isDig = 0
      · simp [h1, show 0 < s.countP isLet by omega, bitsK]
      · rw [if_neg h1]
        by_cases h2 : s.countP isLet = 0
        · simp [h2, show 0 < s.countP isDig by omega, bitsK]
        · simp [h2, show 0 < s.countP isLet by omega, show 0 < s.countP isDig by omega, bitsK]
theorem cls_nn (s : S8) : cls s = 0 ∨ cls s = 1 ∨ cls s = 2 ∨ cls s = 3 := by
  rw [cls_counts]; split <;> (try split) <;> (try split) <;> simp
theorem cls_app {s : S8} {c : UInt8} (ho : s.any oddB = false) (hc : oddB c = false) : cls (s ++ [c]) = bitsK (s.any isLet || isLet c) (s.any isDig || isDig c) := by
  unfold cls
  simp [ho, hc]
theorem cls_odd {s : S8} {c : UInt8} {k : Nat} (h : s[k]? = some c) (hc : oddB c = true) : cls s = 0 := by
  have : s.any oddB = true := List.any_eq_true.2 ⟨c, List.mem_of_getElem? h, hc⟩
  simp [cls, this]
end Go.Proofs.YtnooelecdbbfkaaGreatDoor.Fw

/- What a text is made of; languages, scripts, regions: the program's. -/
namespace Go.Proofs.YtnooelecdbbfkaaGreatDoor.Fw
open Go Go.RowKit
set_option linter.unusedSectionVars false
variable [Inhabited GLT]
set_option maxRecDepth 100000
set_option maxHeartbeats 4000000
theorem beq_eq_dec {α : Type} [BEq α] [LawfulBEq α] [DecidableEq α] (a b : α) : (a == b) = decide (a = b) := by
  rw [Bool.eq_iff_iff, beq_iff_eq, decide_eq_true_eq]
theorem or1 (x y : Bool) : IntKind.i64.wrap ((BitVec.ofInt IntKind.i64.bits (bitsK x y) ||| BitVec.ofInt IntKind.i64.bits 1).toNat : Int) = bitsK (x || true) (y || false) := by cases x <;> cases y <;> decide
theorem or2 (x y : Bool) : IntKind.i64.wrap ((BitVec.ofInt IntKind.i64.bits (bitsK x y) ||| BitVec.ofInt IntKind.i64.bits 2).toNat : Int) = bitsK (x || false) (y || true) := by cases x <;> cases y <;> decide
theorem kd1 {c : UInt8} (h : (bif decide ((65 : Int) ≤ (c.toNat : Int)) then decide ((c.toNat : Int) ≤ 90) else false) = true) : kdB c = 1 := by
  unfold kdB isLet isDig
  revert h
  cases decide ((65 : Int) ≤ (c.toNat : Int)) <;> cases decide ((c.toNat : Int) ≤ 90) <;> simp
theorem kd2 {c : UInt8} (h : (bif decide ((97 : Int) ≤ (c.toNat : Int)) then decide ((c.toNat : Int) ≤ 122) else false) = true) : kdB c = 1 := by
  unfold kdB isLet isDig
  revert h
  cases decide ((97 : Int) ≤ (c.toNat : Int)) <;> cases decide ((c.toNat : Int) ≤ 122) <;> simp
theorem kd3 {c : UInt8} (h1 : (bif decide ((65 : Int) ≤ (c.toNat : Int)) then decide ((c.toNat : Int) ≤ 90) else false) = false) (h2 : (bif decide ((97 : Int) ≤ (c.toNat : Int)) then decide ((c.toNat : Int) ≤ 122) else false) = false) :
    kdB c = bif (bif decide ((48 : Int) ≤ (c.toNat : Int)) then decide ((c.toNat : Int) ≤ 57) else false) then 2 else 0 := by
  unfold kdB isLet isDig
  revert h1 h2
  cases decide ((65 : Int) ≤ (c.toNat : Int)) <;> cases decide ((c.toNat : Int) ≤ 90) <;> cases decide ((97 : Int) ≤ (c.toNat : Int)) <;> cases decide ((c.toNat : Int) ≤ 122) <;> simp
theorem run197 (c : UInt8) : Runs Tryz.prog T 24 (Tryz.f197.body.getD .skip) Tryz.f197.results.toList [.int .u8 c.toNat] (.int .i64 (kdB c)) := by
  refine ⟨Nat.le_of_ble_eq_true rfl, ?_⟩
  conv => whnf
  refine ifB_intro (fun h1 => ?_) (fun h1 => ?_)
  · conv => whnf
    exact ⟨rfl, congrArg (D.int .i64) (kd1 h1).symm⟩
  · conv => whnf
    refine ifB_intro (fun h2 => ?_) (fun h2 => ?_)
    · conv => whnf
      exact ⟨rfl, congrArg (D.int .i64) (kd2 h2).symm⟩
    · conv => whnf
      refine ifB_intro (fun h3 => ?_) (fun h3 => ?_)
      · conv => whnf
        exact ⟨rfl, congrArg (D.int .i64) ((kd3 h1 h2).trans (by rw [h3]; rfl)).symm⟩
      · conv => whnf
        exact ⟨rfl, congrArg (D.int .i64) ((kd3 h1 h2).trans (by rw [h3]; rfl)).symm⟩
theorem call197 (c : UInt8) : CallsTo Tryz.prog 197 [.int .u8 c.toNat] (.int .i64 (kdB c)) := calls Tryz.func197 rfl (by decide) (run197 c)
theorem run154 (s : S8) (hs : s.length ≤ 1000000) : Runs Tryz.prog T 22 (Tryz.f154.body.getD .skip) Tryz.f154.results.toList [.str s] (.int .i64 (cls s)) := by
  refine ⟨Nat.le_of_ble_eq_true rfl, ?_⟩
  conv => whnf
  refine ⟨[], ?_⟩
  conv => whnf
  refine loop_at (σ := Nat) (fun i env => (env.setT 8 (.int .i64 (i : Int))).setT 3 (.int .i64 (bitsK ((s.take i).any isLet) ((s.take i).any isDig)))) (fun i => s.length - i) (fun i => i ≤ s.length ∧ (s.take i).any oddB = false) 0 ⟨Nat.zero_le _, rfl⟩ rfl ?_
  rintro i ⟨hi, ho⟩ ih
  conv => whnf
  refine ifB_intro (fun h => ?_) (fun h => ?_)
  · have h : (i : Int) < (s.length : Int) := of_decide_eq_true h
    have hlt : i < s.length := by omega
    have ih' := ih (i + 1)
    obtain ⟨b, hb⟩ : ∃ b, s[i]? = some b := ⟨_, List.getElem?_eq_getElem hlt⟩
    have hg : List.getD s (i : Int).toNat 0 = b := by
      rw [Int.toNat_natCast, List.getD_eq_getElem?_getD, hb]; rfl
    rw [List.take_add_one, hb, Option.toList_some] at ih'
    conv => whnf
    refine sideB_intro (fun _ => decide_eq_true (by omega)) ?_
    rw [hg]
    conv => whnf
    refine ⟨_, fun _ => call197 b, ?_⟩
    conv => whnf
    have hw : IntKind.i64.wrap ((i : Int) + 1) = ((i + 1 : Nat) : Int) := by rw [IntKind.wrap_i64]; omega
    have ha : ∀ p : UInt8 → Bool, (s.take i ++ [b]).any p = ((s.take i).any p || p b) := fun p => by simp
    have hnb := not_both b
    have e1 : oddB b = !(isLet b || isDig b) := rfl
    have e2 : kdB b = bif isLet b then 1 else bif isDig b then 2 else 0 := rfl
    rw [ha, ha, ha, ho] at ih'
    rcases Bool.eq_false_or_eq_true (isLet b) with hL | hL
    · have hD : isDig b = false := by rw [hL] at hnb; simpa using hnb
      rw [hL, hD] at e1 ih'
      rw [hL] at e2
      rw [e1] at ih'
      rw [show kdB b = 1 from e2]
      revert ih'
      generalize (s.take i).any isLet = x
      generalize (s.take i).any isDig = y
      intro ih'
      (conv => whnf)
      rw [hw, or1]
      exact ih' ⟨hlt, rfl⟩ (by omega)
    · rcases Bool.eq_false_or_eq_true (isDig b) with hD | hD
      · rw [hL, hD] at e1 ih'
        rw [hL, hD] at e2
        rw [e1] at ih'
        rw [show kdB b = 2 from e2]
        revert ih'
        generalize (s.take i).any isLet = x
        generalize (s.take i).any isDig = y
        intro ih'
        (conv => whnf)
        rw [hw, or2]
        exact ih' ⟨hlt, rfl⟩ (by omega)
      · rw [hL, hD] at e1 e2
        rw [e2]
        conv => whnf
        exact ⟨rfl, congrArg (D.int .i64) (cls_odd hb e1).symm⟩
  · have h : ¬ ((i : Int) < (s.length : Int)) := of_decide_eq_false h
    obtain rfl : i = s.length := by omega
    rw [List.take_length] at ho ⊢
    conv => whnf
    exact ⟨rfl, congrArg (D.int .i64) (by unfold cls; rw [ho]; rfl)⟩
theorem call154 (s : S8) (hs : s.length ≤ 1000000) : CallsTo Tryz.prog 154 [.str s] (.int .i64 (cls s)) := calls Tryz.func154 rfl (by decide) (run154 s hs)
theorem run105 (s : S8) (hs : s.length ≤ 1000000) : Runs Tryz.prog T 6 (Tryz.f105.body.getD .skip) Tryz.f105.results.toList [.str s] (.bool (decide (cls s = 1))) := by
  refine ⟨Nat.le_of_ble_eq_true rfl, ?_⟩
  conv => whnf
  refine ⟨_, fun _ => call154 s hs, ?_⟩
  conv => whnf
  exact ⟨rfl, congrArg D.bool (beq_eq_dec _ _)⟩
theorem call105 (s : S8) (hs : s.length ≤ 1000000) : CallsTo Tryz.prog 105 [.str s] (.bool (decide (cls s = 1))) := calls Tryz.func105 rfl (by decide) (run105 s hs)
theorem run107 (s : S8) (hs : s.length ≤ 1000000) : Runs Tryz.prog T 6 (Tryz.f107.body.getD .skip) Tryz.f107.results.toList [.str s] (.bool (decide (cls s = 2))) := by
  refine ⟨Nat.le_of_ble_eq_true rfl, ?_⟩
  conv => whnf
  refine ⟨_, fun _ => call154 s hs, ?_⟩
  conv => whnf
  exact ⟨rfl, congrArg D.bool (beq_eq_dec _ _)⟩
theorem call107 (s : S8) (hs : s.length ≤ 1000000) : CallsTo Tryz.prog 107 [.str s] (.bool (decide (cls s = 2))) := calls Tryz.func107 rfl (by decide) (run107 s hs)
theorem run114 (s : S8) (hs : s.length ≤ 1000000) : Runs Tryz.prog T 6 (Tryz.f114.body.getD .skip) Tryz.f114.results.toList [.str s] (.bool (decide (cls s ≠ 0))) := by
  refine ⟨Nat.le_of_ble_eq_true rfl, ?_⟩
  conv => whnf
  refine ⟨_, fun _ => call154 s hs, ?_⟩
  conv => whnf
  exact ⟨rfl, congrArg D.bool (by show (!(cls s == 0)) = _; rw [beq_eq_dec, decide_not])⟩
theorem call114 (s : S8) (hs : s.length ≤ 1000000) : CallsTo Tryz.prog 114 [.str s] (.bool (decide (cls s ≠ 0))) := calls Tryz.func114 rfl (by decide) (run114 s hs)
theorem and_eq (a b : Bool) : (bif a then b else false) = (a && b) := by cases a <;> rfl
theorem or_eq (a b : Bool) : (bif a then true else b) = (a || b) := by cases a <;> rfl
theorem run106 (s : S8) (a b : Int) : Runs Tryz.prog T 17 (Tryz.f106.body.getD .skip) Tryz.f106.results.toList [.str s, .int .i64 a, .int .i64 b] (.bool (decide (a ≤ (s.length : Int)) && decide ((s.length : Int) ≤ b))) := by
  refine ⟨Nat.le_of_ble_eq_true rfl, ?_⟩
  conv => whnf
  exact ⟨rfl, congrArg D.bool (and_eq _ _)⟩
theorem call106 (s : S8) (a b : Int) : CallsTo Tryz.prog 106 [.str s, .int .i64 a, .int .i64 b] (.bool (decide (a ≤ (s.length : Int)) && decide ((s.length : Int) ≤ b))) := calls Tryz.func106 rfl (by decide) (run106 s a b)
theorem run35 (s : S8) (hs : s.length ≤ 1000000) : Runs Tryz.prog T 9 (Tryz.f35.body.getD .skip) Tryz.f35.results.toList [.str s] (.bool (tagL s)) := by
  refine ⟨Nat.le_of_ble_eq_true rfl, ?_⟩
  conv => whnf
  refine ⟨_, fun _ => call105 s hs, ?_⟩
  conv => whnf
  refine ⟨_, fun _ => call106 s 2 8, ?_⟩
  conv => whnf
  refine ⟨rfl, congrArg D.bool ((and_eq _ _).trans ?_)⟩
  rw [show decide ((2 : Int) ≤ (s.length : Int)) = decide (2 ≤ s.length) from decide_eq_decide.2 (by omega), show decide ((s.length : Int) ≤ 8) = decide (s.length ≤ 8) from decide_eq_decide.2 (by omega)]
  rfl
theorem call35 (s : S8) (hs : s.length ≤ 1000000) : CallsTo Tryz.prog 35 [.str s] (.bool (tagL s)) := calls Tryz.func35 rfl (by decide) (run35 s hs)
theorem len_beq (s : S8) (n : Nat) : ((s.length : Int) == (n : Int)) = decide (s.length = n) := by
  rw [beq_eq_dec]
  exact decide_eq_decide.2 (by omega)
theorem run36 (s : S8) (hs : s.length ≤ 1000000) : Runs Tryz.prog T 10 (Tryz.f36.body.getD .skip) Tryz.f36.results.toList [.str s] (.bool (tagS s)) := by
  refine ⟨Nat.le_of_ble_eq_true rfl, ?_⟩
  conv => whnf
  refine ⟨_, fun _ => call105 s hs, ?_⟩
  conv => whnf
  refine ⟨rfl, congrArg D.bool ((and_eq _ _).trans ?_)⟩
  exact congrArg (and _) (len_beq s 4)
theorem call36 (s : S8) (hs : s.length ≤ 1000000) : CallsTo Tryz.prog 36 [.str s] (.bool (tagS s)) := calls Tryz.func36 rfl (by decide) (run36 s hs)
theorem run37 (s : S8) (hs : s.length ≤ 1000000) : Runs Tryz.prog T 19 (Tryz.f37.body.getD .skip) Tryz.f37.results.toList [.str s] (.bool (tagR s)) := by
  refine ⟨Nat.le_of_ble_eq_true rfl, ?_⟩
  conv => whnf
  refine ⟨_, fun _ => call105 s hs, ?_⟩
  conv => whnf
  refine ⟨_, fun _ => call107 s hs, ?_⟩
  conv => whnf
  refine ⟨rfl, congrArg D.bool ((or_eq _ _).trans ?_)⟩
  exact congr (congrArg or ((and_eq _ _).trans (congrArg (and _) (len_beq s 2)))) ((and_eq _ _).trans (congrArg (and _) (len_beq s 3)))
theorem call37 (s : S8) (hs : s.length ≤ 1000000) : CallsTo Tryz.prog 37 [.str s] (.bool (tagR s)) := calls Tryz.func37 rfl (by decide) (run37 s hs)
end Go.Proofs.YtnooelecdbbfkaaGreatDoor.Fw

/- Functions that ask something of texts: in small letters, or empty; whether each text is what is asked of its place. -/
namespace Go.Proofs.YtnooelecdbbfkaaGreatDoor.Fw
open Go Go.RowKit
set_option linter.unusedSectionVars false
variable [Inhabited GLT]
set_option maxRecDepth 100000
set_option maxHeartbeats 4000000
def smallF (f : Nat) : D := .fn 103 [.eptr (.fn f []) 0]
def maybeF (f : Nat) : D := .fn 108 [.eptr (smallF f) 0]
theorem run34 (f : Nat) : Runs Tryz.prog T 4 (Tryz.f34.body.getD .skip) Tryz.f34.results.toList [.fn f []] (smallF f) := by
  refine ⟨Nat.le_of_ble_eq_true rfl, ?_⟩
  conv => whnf
  exact ⟨rfl, rfl⟩
theorem call34 (f : Nat) : CallsTo Tryz.prog 34 [.fn f []] (smallF f) := calls Tryz.func34 rfl (by decide) (run34 f)
theorem run39 (f : Nat) : Runs Tryz.prog T 4 (Tryz.f39.body.getD .skip) Tryz.f39.results.toList [smallF f] (maybeF f) := by
  refine ⟨Nat.le_of_ble_eq_true rfl, ?_⟩
  conv => whnf
  exact ⟨rfl, rfl⟩
theorem call39 (f : Nat) : CallsTo Tryz.prog 39 [smallF f] (maybeF f) := calls Tryz.func39 rfl (by decide) (run39 f)
theorem run103 (f : Nat) (s : S8) (hs : s.length ≤ 1000000) (b : Bool) (hf : CallsTo Tryz.prog f [.str s] (.bool b)) : Runs Tryz.prog T 13 (Tryz.f103.body.getD .skip) Tryz.f103.results.toList [.str s, .eptr (.fn f []) 0] (.bool (decide (s = low s) && b)) := by
  refine ⟨Nat.le_of_ble_eq_true rfl, ?_⟩
  conv => whnf
  refine ⟨_, fun _ => call104 s hs, ?_⟩
  conv => whnf
  refine ⟨_, fun _ => hf, ?_⟩
  conv => whnf
  exact ⟨rfl, congrArg D.bool ((and_eq _ _).trans (by rw [beq_eq_dec]))⟩
theorem call103 (f : Nat) (s : S8) (hs : s.length ≤ 1000000) (b : Bool) (hf : CallsTo Tryz.prog f [.str s] (.bool b)) : CallsTo Tryz.prog 103 [.str s, .eptr (.fn f []) 0] (.bool (decide (s = low s) && b)) := calls Tryz.func103 rfl (by decide) (run103 f s hs b hf)
theorem run108 (f : Nat) (s : S8) (b : Bool) (hf : CallsTo Tryz.prog 103 [.str s, .eptr (.fn f []) 0] (.bool b)) : Runs Tryz.prog T 11 (Tryz.f108.body.getD .skip) Tryz.f108.results.toList [.str s, .eptr (smallF f) 0] (.bool (decide (s = []) || b)) := by
  refine ⟨Nat.le_of_ble_eq_true rfl, ?_⟩
  conv => whnf
  refine ⟨_, fun _ => hf, ?_⟩
  conv => whnf
  exact ⟨rfl, congrArg D.bool ((or_eq _ _).trans (congrArg (fun x => or x b) (beq_eq_dec s [])))⟩
theorem call108 (f : Nat) (s : S8) (b : Bool) (hf : CallsTo Tryz.prog 103 [.str s, .eptr (.fn f []) 0] (.bool b)) : CallsTo Tryz.prog 108 [.str s, .eptr (smallF f) 0] (.bool (decide (s = []) || b)) := calls Tryz.func108 rfl (by decide) (run108 f s b hf)
theorem callL (s : S8) (hs : s.length ≤ 1000000) : CallsTo Tryz.prog 103 [.str s, .eptr (.fn 35 []) 0] (.bool (lowL s)) := call103 35 s hs _ (call35 s hs)
theorem callS (s : S8) (hs : s.length ≤ 1000000) : CallsTo Tryz.prog 103 [.str s, .eptr (.fn 36 []) 0] (.bool (lowS s)) := call103 36 s hs _ (call36 s hs)
theorem callR (s : S8) (hs : s.length ≤ 1000000) : CallsTo Tryz.prog 103 [.str s, .eptr (.fn 37 []) 0] (.bool (lowR s)) := call103 37 s hs _ (call37 s hs)
theorem run45 (s : S8) (hs : s.length ≤ 1000000) : Runs Tryz.prog T 11 (Tryz.f45.body.getD .skip) Tryz.f45.results.toList [.str s] (.bool (setN s)) := by
  refine ⟨Nat.le_of_ble_eq_true rfl, ?_⟩
  conv => whnf
  refine ⟨_, fun _ => call34 114, ?_⟩
  conv => whnf
  refine ⟨_, fun _ => call103 114 s hs _ (call114 s hs), ?_⟩
  conv => whnf
  exact ⟨rfl, congrArg D.bool ((and_eq _ _).trans (congrArg (and _) (decide_eq_decide.2 (by omega))))⟩
theorem call45 (s : S8) (hs : s.length ≤ 1000000) : CallsTo Tryz.prog 45 [.str s] (.bool (setN s)) := calls Tryz.func45 rfl (by decide) (run45 s hs)
/-- The functions that are asked. -/
inductive FnK where
  | sm (f : Nat)
  | mb (f : Nat)
  | st (f : Nat)
  | no
  | pl
def FnK.f : FnK → Nat
  | .sm _ => 103
  | .mb _ => 108
  | .st _ => 47
  | .no => 48
  | .pl => 49
def FnK.c : FnK → List D
  | .sm f => [.eptr (.fn f []) 0]
  | .mb f => [.eptr (smallF f) 0]
  | .st f => [.eptr (.fn f []) 0]
  | .no => []
  | .pl => [.eptr (.fn 46 []) 0, .eptr (.fn 43 []) 0]
def fnD (k : FnK) : D := .fn k.f k.c
theorem run38 (ts : List S8) (fs : List FnK) (p : Nat → Bool) (hl : ts.length = fs.length) (hn : ts.length ≤ 1000) (hc : ∀ i t f, ts[i]? = some t → fs[i]? = some f → CallsTo Tryz.prog f.f (.str t :: f.c) (.bool (p i))) : Runs Tryz.prog T 22 (Tryz.f38.body.getD .skip) Tryz.f38.results.toList [.sl 0 1 (ts.map .str), .sl 0 1 (fs.map fnD)] (.bool ((List.range ts.length).all p)) := by
  refine ⟨Nat.le_of_ble_eq_true rfl, ?_⟩
  conv => whnf
  refine ⟨[], ?_⟩
  conv => whnf
  refine loop_at (σ := Nat) (fun i env => env.setT 9 (.int .i64 (i : Int))) (fun i => ts.length - i) (fun i => i ≤ ts.length ∧ (List.range i).all p = true) 0 ⟨Nat.zero_le _, rfl⟩ rfl ?_
  rintro i ⟨hi, ha⟩ ih
  conv => whnf
  refine ifB_intro (fun h => ?_) (fun h => ?_)
  · replace h : (i : Int) < ((ts.map D.str).length : Int) := of_decide_eq_true h
    rw [List.length_map] at h
    have hlt : i < ts.length := by omega
    have hw : IntKind.i64.wrap ((i : Int) + 1) = ((i + 1 : Nat) : Int) := by rw [IntKind.wrap_i64]; omega
    have ih' := ih (i + 1)
    obtain ⟨t, ht⟩ : ∃ t, ts[i]? = some t := ⟨_, List.getElem?_eq_getElem hlt⟩
    obtain ⟨f, hf⟩ : ∃ f, fs[i]? = some f := ⟨_, List.getElem?_eq_getElem (show i < fs.length by omega)⟩
    have hk := hc i t _ ht hf
    conv => whnf
    refine sideB_intro (fun _ => decide_eq_true (by simp only [List.length_map]; omega)) ?_
    rw [getD_enc (enc := D.str) (x := t) (show ts[(i : Int).toNat]? = some t from ht)]
    conv => whnf
    refine sideB_intro (fun _ => decide_eq_true (by simp only [List.length_map]; omega)) ?_
    rw [getD_enc (enc := fnD) (x := f) (show fs[(i : Int).toNat]? = some f from hf)]
    cases f
    · conv => whnf
      refine ⟨_, fun _ => hk, ?_⟩
      conv => whnf
      refine ifB_intro (fun hp => ?_) (fun hp => ?_)
      · conv => whnf
        have hp : p i = false := by simpa using hp
        refine ⟨rfl, congrArg D.bool ?_⟩
        symm
        rw [List.all_eq_false]
        exact ⟨i, List.mem_range.2 hlt, by simp [hp]⟩
      · conv => whnf
        have hp : p i = true := by simpa using hp
        rw [hw]
        exact ih' ⟨hlt, by rw [List.range_succ, List.all_append, ha]; simp [hp]⟩ (by omega)
    · conv => whnf
      refine ⟨_, fun _ => hk, ?_⟩
      conv => whnf
      refine ifB_intro (fun hp => ?_) (fun hp => ?_)
      · conv => whnf
        have hp : p i = false := by simpa using hp
        refine ⟨rfl, congrArg D.bool ?_⟩
        symm
        rw [List.all_eq_false]
        exact ⟨i, List.mem_range.2 hlt, by simp [hp]⟩
      · conv => whnf
        have hp : p i = true := by simpa using hp
        rw [hw]
        exact ih' ⟨hlt, by rw [List.range_succ, List.all_append, ha]; simp [hp]⟩ (by omega)
    · conv => whnf
      refine ⟨_, fun _ => hk, ?_⟩
      conv => whnf
      refine ifB_intro (fun hp => ?_) (fun hp => ?_)
      · conv => whnf
        have hp : p i = false := by simpa using hp
        refine ⟨rfl, congrArg D.bool ?_⟩
        symm
        rw [List.all_eq_false]
        exact ⟨i, List.mem_range.2 hlt, by simp [hp]⟩
      · conv => whnf
        have hp : p i = true := by simpa using hp
        rw [hw]
        exact ih' ⟨hlt, by rw [List.range_succ, List.all_append, ha]; simp [hp]⟩ (by omega)
    · conv => whnf
      refine ⟨_, fun _ => hk, ?_⟩
      conv => whnf
      refine ifB_intro (fun hp => ?_) (fun hp => ?_)
      · conv => whnf
        have hp : p i = false := by simpa using hp
        refine ⟨rfl, congrArg D.bool ?_⟩
        symm
        rw [List.all_eq_false]
        exact ⟨i, List.mem_range.2 hlt, by simp [hp]⟩
      · conv => whnf
        have hp : p i = true := by simpa using hp
        rw [hw]
        exact ih' ⟨hlt, by rw [List.range_succ, List.all_append, ha]; simp [hp]⟩ (by omega)
    · conv => whnf
      refine ⟨_, fun _ => hk, ?_⟩
      conv => whnf
      refine ifB_intro (fun hp => ?_) (fun hp => ?_)
      · conv => whnf
        have hp : p i = false := by simpa using hp
        refine ⟨rfl, congrArg D.bool ?_⟩
        symm
        rw [List.all_eq_false]
        exact ⟨i, List.mem_range.2 hlt, by simp [hp]⟩
      · conv => whnf
        have hp : p i = true := by simpa using hp
        rw [hw]
        exact ih' ⟨hlt, by rw [List.range_succ, List.all_append, ha]; simp [hp]⟩ (by omega)
  · replace h : ¬ ((i : Int) < ((ts.map D.str).length : Int)) := of_decide_eq_false h
    rw [List.length_map] at h
    obtain rfl : i = ts.length := by omega
    conv => whnf
    exact ⟨rfl, congrArg D.bool ha.symm⟩
theorem call38 (ts : List S8) (fs : List FnK) (p : Nat → Bool) (hl : ts.length = fs.length) (hn : ts.length ≤ 1000) (hc : ∀ i t f, ts[i]? = some t → fs[i]? = some f → CallsTo Tryz.prog f.f (.str t :: f.c) (.bool (p i))) : CallsTo Tryz.prog 38 [.sl 0 1 (ts.map .str), .sl 0 1 (fs.map fnD)] (.bool ((List.range ts.length).all p)) := calls Tryz.func38 rfl (by decide) (run38 ts fs p hl hn hc)
end Go.Proofs.YtnooelecdbbfkaaGreatDoor.Fw

/- A text as a number: walked by hand, since it defers. -/
namespace Go.Proofs.YtnooelecdbbfkaaGreatDoor.Fw
open Go Go.RowKit
set_option linter.unusedSectionVars false
variable [Inhabited GLT]
set_option maxRecDepth 100000
set_option maxHeartbeats 4000000
theorem packEnd_keep (p q : Addr) (u : FrameMode) (w : World) (hc : w.cell? q = some (.bool true)) :
    CallsD Tryz.prog 173 #[.pointer (some q), .pointer (some p)] u w fun e u' w' => u' = u ∧ (e = .returned (.tuple #[]) ∧ w' = w) := by
  go_enter_d Tryz.func173, Tryz.ntmps173
  go_wp2
  go_end0
  exact ⟨rfl, rfl⟩
theorem packEnd_zero (p q : Addr) (n : Int) (u : FrameMode) (w : World) (hc : w.cell? q = some (.bool false)) (hp : w.cell? p = some (.int .u64 n)) (hz : w.frozen? p = false) :
    CallsD Tryz.prog 173 #[.pointer (some q), .pointer (some p)] u w fun e u' w' => u' = u ∧ (e = .returned (.tuple #[]) ∧ w' = w.setCell p (.int .u64 0)) := by
  go_enter_d Tryz.func173, Tryz.ntmps173
  go_wp2
  go_end0
  exact ⟨rfl, rfl⟩
/-- A byte that may be packed. -/
def mayB (c : UInt8) : Bool := decide (c = 42) || decide (c = 33) || decide (c = 36) || ((decide (97 ≤ (c.toNat : Int)) && decide ((c.toNat : Int) ≤ 122)) || (decide (48 ≤ (c.toNat : Int)) && decide ((c.toNat : Int) ≤ 57)))
theorem mb4 (c : UInt8) (k : Nat) (hk : k < 256) : ((c.toNat : Int) == (k : Int)) = decide (c = UInt8.ofNat k) := by
  rw [beq_eq_dec]
  refine decide_eq_decide.2 ⟨fun h => UInt8.toNat_inj.1 ?_, fun h => ?_⟩
  · rw [UInt8.toNat_ofNat']; omega
  · subst h
    rw [UInt8.toNat_ofNat']; omega
theorem run174 (c : UInt8) : Runs Tryz.prog T 24 (Tryz.f174.body.getD .skip) Tryz.f174.results.toList [.int .u8 c.toNat] (.bool (mayB c)) := by
  refine ⟨Nat.le_of_ble_eq_true rfl, ?_⟩
  conv => whnf
  have e42 := mb4 c 42 (by decide)
  have e33 := mb4 c 33 (by decide)
  have e36 := mb4 c 36 (by decide)
  refine ifB_intro (fun h1 => ?_) (fun h1 => ?_)
  · conv => whnf
    have h1 : decide (c = 42) = true := e42.symm.trans h1
    exact ⟨rfl, congrArg D.bool (by unfold mayB; rw [h1]; rfl)⟩
  have h1 : decide (c = 42) = false := e42.symm.trans h1
  conv => whnf
  refine ifB_intro (fun h2 => ?_) (fun h2 => ?_)
  · conv => whnf
    have h2 : decide (c = 33) = true := e33.symm.trans h2
    exact ⟨rfl, congrArg D.bool (by unfold mayB; rw [h1, h2]; rfl)⟩
  have h2 : decide (c = 33) = false := e33.symm.trans h2
  conv => whnf
  refine ifB_intro (fun h3 => ?_) (fun h3 => ?_)
  · conv => whnf
    have h3 : decide (c = 36) = true := e36.symm.trans h3
    exact ⟨rfl, congrArg D.bool (by unfold mayB; rw [h1, h2, h3]; rfl)⟩
  have h3 : decide (c = 36) = false := e36.symm.trans h3
  conv => whnf
  refine ⟨rfl, congrArg D.bool ?_⟩
  unfold mayB
  rw [h1, h2, h3, ← and_eq, ← and_eq, ← or_eq, ← or_eq]
  rfl
theorem call174 (c : UInt8) : CallsTo Tryz.prog 174 [.int .u8 c.toNat] (.bool (mayB c)) := calls Tryz.func174 rfl (by decide) (run174 c)
theorem ImW.below {P : Program} {I : Im} {w w' : World} (h : ImW P I w) (hb : Below w.heap.size w w') : ImW P I w' := by
  have hh : ∀ k, k < w.heap.size → w'.heap[k]? = w.heap[k]? := hb.block
  exact ⟨fun b o hi => Nat.lt_of_lt_of_le (h.1 b o hi) hb.size, h.2.keeps ⟨fun _ _ h => h, fun x u hi hu => (World.cell?_of_block (hh _ (h.1 _ _ hi))).trans hu, fun r es k hi hr => (hh _ (h.1 _ _ hi)).trans hr⟩⟩
/-- What a call gives, in plain words. -/
theorem CallsTo.plain {P : Program} {f : Nat} {ds : List D} {d : D} (h : CallsTo P f ds d) {I : Im} {w : World} {vs : List Value} (him : ImW P I w) (hr : RepL I w ds vs) :
    Calls P f ⟨vs⟩ w fun e w' => ∃ v I', e = .returned v ∧ Rep I' w' d v ∧ Below w.heap.size w w' := by
  refine (h.2 I w vs him hr).mono ?_
  rintro e w' ⟨v, I', h1, _, _, _, h5, h6⟩
  exact ⟨v, I', h1, h5, h6⟩
theorem lowW {I : Im} (s : S8) (hs : s.length ≤ 1000000) (w : World) (him : ImW Tryz.prog I w) : Calls Tryz.prog 104 #[.string ⟨⟨s⟩⟩] w fun e w' => e = .returned (.string ⟨⟨low s⟩⟩) ∧ Below w.heap.size w w' := by
  refine ((call104 s hs).plain him (vs := [.string ⟨⟨s⟩⟩]) (by simp only [RepL, Rep]; exact ⟨_, _, rfl, rfl, rfl⟩)).mono ?_
  rintro e w' ⟨v, I', rfl, hr, hb⟩
  simp only [Rep] at hr
  subst hr
  exact ⟨rfl, hb⟩
theorem mayW {I : Im} (c : UInt8) (w : World) (him : ImW Tryz.prog I w) : Calls Tryz.prog 174 #[.int .u8 c.toNat] w fun e w' => e = .returned (.bool (mayB c)) ∧ Below w.heap.size w w' := by
  refine ((call174 c).plain him (vs := [.int .u8 c.toNat]) (by simp only [RepL, Rep]; exact ⟨_, _, rfl, rfl, rfl⟩)).mono ?_
  rintro e w' ⟨v, I', rfl, hr, hb⟩
  simp only [Rep] at hr
  subst hr
  exact ⟨rfl, hb⟩
theorem cs_same {w : World} {a : Addr} {u v : Value} (h : w.cell? a = some u) : (w.setCell a v).cell? a = some v := by
  rw [World.cell?_setCell_same (h := h)]
theorem cs_other {w : World} {a b : Addr} {v : Value} (h : a ≠ b) : (w.setCell a v).cell? b = w.cell? b := by
  rw [World.cell?_setCell_other (h := h)]
def shl8 (n : Int) : Int := IntKind.u64.wrap (n * 256)
def orC (n : Int) (c : UInt8) : Int := bits BinOp.or IntKind.u64 n (IntKind.u64.wrap c.toNat)
/-- What has been packed of a text's first bytes. -/
def packK (t : S8) : Nat → Int
  | 0 => 0
  | k + 1 => match t[k]? with
    | none => shl8 (packK t k)
    | some c => orC (shl8 (packK t k)) c
def packOK (s : S8) : Bool := decide (s.length ≤ 8) && (low s).all mayB
def packN (s : S8) : Int := if packOK s = true then packK (low s) 8 else 0
theorem packW {I : Im} (s : S8) (hs : s.length ≤ 1000000) (w : World) (him : ImW Tryz.prog I w) : Calls Tryz.prog 127 #[.string ⟨⟨s⟩⟩] w fun e w' => e = .returned (.tuple #[.int .u64 (packN s), .bool (packOK s)]) ∧ Below w.heap.size w w' := by
  have hmf : ∀ (fn : Fn) (first cap : Array Value) (w : World), (Instr.makeFunc fn first cap).run Tryz.prog w = .ok (.func fn first cap) w := fun _ _ _ _ => rfl
  go_enter_defers Tryz.func127, Tryz.ntmps127
  have hb1 : Below w.heap.size w ((w.alloc (.cells #[.int .u64 0] 104)).alloc (.cells #[.bool false] 4)) := ((Below.refl _ w).alloc (Nat.le_refl _) _).alloc (by simp) _
  go_wp2_with (go_at_call 104; refine (lowW s hs _ (him.below hb1)).mono ?_; rintro e w2 ⟨rfl, hb2⟩)
  · have h8 : 8 < (s.length : Int) := by assumption
    have hok : packOK s = false := by unfold packOK; rw [decide_eq_false (by omega)]; rfl
    have hn : packN s = 0 := by unfold packN; rw [hok]; rfl
    rw [hok, hn]
    refine leaves_cons (f := 173) (args := #[.pointer (some ⟨w.heap.size + 1, 0, none⟩), .pointer (some ⟨w.heap.size, 0, none⟩)]) (by simp) (by simp [go_sem]) ?_
    refine (packEnd_zero ⟨w.heap.size, 0, none⟩ ⟨w.heap.size + 1, 0, none⟩ 0 .returning _ (by simp) (by simp) (by simp [go_sem])).mono ?_
    rintro e u' w'' ⟨rfl, rfl, rfl⟩
    have hb9 := hb1.setCell (p := ⟨w.heap.size, 0, none⟩) (Nat.le_refl _) (.int .u64 0)
    simp [Leaves, settle, results, Tryz.results127, go_sem]
    exact hb1
  · have h8 : (s.length : Int) ≤ 8 := by assumption
    have hsz : ((w.alloc (.cells #[.int .u64 0] 104)).alloc (.cells #[.bool false] 4)).heap.size = w.heap.size + 2 := by simp
    have hlt0 : w.heap.size < ((w.alloc (.cells #[.int .u64 0] 104)).alloc (.cells #[.bool false] 4)).heap.size := by omega
    have hlt1 : w.heap.size + 1 < ((w.alloc (.cells #[.int .u64 0] 104)).alloc (.cells #[.bool false] 4)).heap.size := by omega
    have hp2 : w2.cell? ⟨w.heap.size, 0, none⟩ = some (.int .u64 0) := by rw [hb2.cell hlt0]; simp
    have hq2 : w2.cell? ⟨w.heap.size + 1, 0, none⟩ = some (.bool false) := by rw [hb2.cell hlt1]; simp
    have hfp2 : w2.frozen? ⟨w.heap.size, 0, none⟩ = false := by rw [hb2.frozen hlt0]; simp [go_sem]
    have hfq2 : w2.frozen? ⟨w.heap.size + 1, 0, none⟩ = false := by rw [hb2.frozen hlt1]; simp [go_sem]
    have hb3 : Below w.heap.size w w2 := hb1.trans (hb2.mono (by omega))
    have hsz2 : w.heap.size + 2 ≤ w2.heap.size := by have := hb2.size; omega
    clear hb1 hb2 hsz hlt0 hlt1
    have hpq : (⟨w.heap.size, 0, none⟩ : Addr) ≠ ⟨w.heap.size + 1, 0, none⟩ := fun e => by injection e with e; omega
    go_loopw [12] (fun i wr => ∃ k : Nat, k ≤ 8 ∧ i = .int .i64 k ∧ wr.cell? ⟨w.heap.size, 0, none⟩ = some (.int .u64 (packK (low s) k)) ∧ wr.cell? ⟨w.heap.size + 1, 0, none⟩ = some (.bool false) ∧ wr.frozen? ⟨w.heap.size, 0, none⟩ = false ∧ wr.frozen? ⟨w.heap.size + 1, 0, none⟩ = false ∧ Below w.heap.size w wr ∧ w.heap.size + 2 ≤ wr.heap.size ∧ ((low s).take k).all mayB = true)
      (fun i _ => 8 - (intOf i).toNat)
    case atStart => exact ⟨0, Nat.zero_le _, rfl, hp2, hq2, hfp2, hfq2, hb3, hsz2, rfl⟩
    case round =>
      obtain ⟨k, hk, rfl, hpr, hqr, hfp, hfq, hbr, hsr, hmay⟩ := hrel
      revert hpr
      generalize hn : packK (low s) k = n
      intro hpr
      have hbs : Below w.heap.size w (wr.setCell ⟨w.heap.size, 0, none⟩ (.int .u64 (IntKind.u64.wrap (n * 256)))) := hbr.setCell (p := ⟨w.heap.size, 0, none⟩) (Nat.le_refl _) _
      have hc1 : (wr.setCell ⟨w.heap.size, 0, none⟩ (.int .u64 (IntKind.u64.wrap (n * 256)))).cell? ⟨w.heap.size, 0, none⟩ = some (.int .u64 (IntKind.u64.wrap (n * 256))) := cs_same hpr
      have hc2 : (wr.setCell ⟨w.heap.size, 0, none⟩ (.int .u64 (IntKind.u64.wrap (n * 256)))).cell? ⟨w.heap.size + 1, 0, none⟩ = some (.bool false) := (cs_other hpq).trans hqr
      have hf1 : (wr.setCell ⟨w.heap.size, 0, none⟩ (.int .u64 (IntKind.u64.wrap (n * 256)))).frozen? ⟨w.heap.size, 0, none⟩ = false := by rw [World.frozen?_setCell]; exact hfp
      have hf2 : (wr.setCell ⟨w.heap.size, 0, none⟩ (.int .u64 (IntKind.u64.wrap (n * 256)))).frozen? ⟨w.heap.size + 1, 0, none⟩ = false := by rw [World.frozen?_setCell]; exact hfq
      have hss : (wr.setCell ⟨w.heap.size, 0, none⟩ (.int .u64 (IntKind.u64.wrap (n * 256)))).heap.size = wr.heap.size := by simp
      have hl0 : w.heap.size < (wr.setCell ⟨w.heap.size, 0, none⟩ (.int .u64 (IntKind.u64.wrap (n * 256)))).heap.size := by omega
      have hl1 : w.heap.size + 1 < (wr.setCell ⟨w.heap.size, 0, none⟩ (.int .u64 (IntKind.u64.wrap (n * 256)))).heap.size := by omega
      go_wp2_with (go_at_call 174; refine (mayW _ _ (him.below hbs)).mono ?_; rintro e w3 ⟨rfl, hb4⟩; have hp3 := (hb4.cell hl0).trans hc1; have hq3 := (hb4.cell hl1).trans hc2; have hfp3 := (hb4.frozen hl0).trans hf1; have hfq3 := (hb4.frozen hl1).trans hf2)
      · have hge : (low s).length ≤ k := by assumption
        have hk8 : k < 8 := by omega
        have e1 : packK (low s) (k + 1) = shl8 n := by rw [packK, hn, List.getElem?_eq_none hge]
        refine ⟨⟨k + 1, hk8, congrArg (Value.int .i64) (by omega), by rw [e1]; exact hc1, hc2, hf1, hf2, hbs, by omega, ?_⟩, by simp [intOf]; omega⟩
        rw [List.take_of_length_le (by omega)]
        rwa [List.take_of_length_le hge] at hmay
      · have hlt : k < (low s).length := by assumption
        have hm : (!mayB (low s)[k]) = true := by assumption
        have hb5 : Below w.heap.size w w3 := hbs.trans (hb4.mono (by omega))
        have hok : packOK s = false := by
          unfold packOK
          rw [Bool.and_eq_false_iff]
          refine .inr (List.all_eq_false.2 ⟨_, List.getElem_mem hlt, by simpa using hm⟩)
        have hn0 : packN s = 0 := by unfold packN; rw [hok]; rfl
        rw [hok, hn0]
        refine leaves_cons (f := 173) (args := #[.pointer (some ⟨w.heap.size + 1, 0, none⟩), .pointer (some ⟨w.heap.size, 0, none⟩)]) (by simp) (by simp [go_sem]) ?_
        refine (packEnd_zero ⟨w.heap.size, 0, none⟩ ⟨w.heap.size + 1, 0, none⟩ (IntKind.u64.wrap (n * 256)) .returning _ (cs_same ((cs_other hpq).trans hq3)) ((cs_other hpq.symm).trans (cs_same hp3)) (by rw [World.frozen?_setCell, World.frozen?_setCell]; exact hfp3)).mono ?_
        rintro e u' w'' ⟨rfl, rfl, rfl⟩
        have hb9 := ((hb5.setCell (p := ⟨w.heap.size, 0, none⟩) (Nat.le_refl _) (.int .u64 (IntKind.u64.wrap (n * 256)))).setCell (p := ⟨w.heap.size + 1, 0, none⟩) (Nat.le_succ _) (.bool false)).setCell (p := ⟨w.heap.size, 0, none⟩) (Nat.le_refl _) (.int .u64 0)
        simp [Leaves, settle, results, Tryz.results127, go_sem, hq3, hp3]
        exact hb9
      · go_region
        go_wp2
        have hlt : k < (low s).length := by assumption
        have hk8 : k < 8 := by
          have hll : (low s).length = s.length := by simp [low]
          omega
        have hm : (!mayB (low s)[k]) = false := by assumption
        have hb5 : Below w.heap.size w w3 := hbs.trans (hb4.mono (by omega))
        have e1 : packK (low s) (k + 1) = bits BinOp.or IntKind.u64 (IntKind.u64.wrap (n * 256)) (IntKind.u64.wrap ((low s)[k].toNat : Int)) := by
          rw [packK, hn, List.getElem?_eq_getElem hlt]; rfl
        have hs3 : w.heap.size + 2 ≤ w3.heap.size := by have := hb4.size; omega
        refine ⟨⟨k + 1, hk8, congrArg (Value.int .i64) (by omega), ?_, (cs_other hpq).trans hq3, (World.frozen?_setCell ..).trans hfp3, (World.frozen?_setCell ..).trans hfq3, (hb5.setCell (p := ⟨w.heap.size, 0, none⟩) (Nat.le_refl _) _).drew, ?_, ?_⟩, by simp [intOf]; omega⟩
        · rw [e1]
          exact cs_same hp3
        · show _ ≤ (w3.setCell _ _).heap.size
          simpa using hs3
        · rw [List.take_succ_eq_append_getElem hlt, List.all_append, hmay]
          simpa using hm
      · have hge : 8 ≤ (k : Int) := by assumption
        obtain rfl : k = 8 := by omega
        have hll : (low s).length = s.length := by simp [low]
        have hok : packOK s = true := by
          unfold packOK
          rw [List.take_of_length_le (by omega)] at hmay
          rw [hmay, decide_eq_true (by omega)]; rfl
        have hn0 : packN s = n := by unfold packN; rw [if_pos hok, hn]
        rw [hok, hn0]
        refine leaves_cons (f := 173) (args := #[.pointer (some ⟨w.heap.size + 1, 0, none⟩), .pointer (some ⟨w.heap.size, 0, none⟩)]) (by simp) (by simp [go_sem]) ?_
        refine (packEnd_keep ⟨w.heap.size, 0, none⟩ ⟨w.heap.size + 1, 0, none⟩ .returning _ (cs_same ((cs_other hpq).trans hqr))).mono ?_
        rintro e u' w'' ⟨rfl, rfl, rfl⟩
        have hb9 := (hbr.setCell (p := ⟨w.heap.size, 0, none⟩) (Nat.le_refl _) (.int .u64 n)).setCell (p := ⟨w.heap.size + 1, 0, none⟩) (Nat.le_succ _) (.bool true)
        simp [Leaves, settle, results, Tryz.results127, go_sem, hqr, hpr]
        exact hb9
theorem call127 (s : S8) (hs : s.length ≤ 1000000) : CallsTo Tryz.prog 127 [.str s] (.tup [.int .u64 (packN s), .bool (packOK s)]) := by
  refine ⟨⟨_, Tryz.func127, by decide, by decide⟩, fun I w vs him hrep => ?_⟩
  simp only [RepL, Rep] at hrep
  obtain ⟨v, us, rfl, rfl, rfl⟩ := hrep
  refine (packW s hs w him).mono ?_
  rintro e w' ⟨rfl, hb⟩
  refine ⟨_, I, rfl, fun _ _ h => h, fun _ _ h => .inl h, fun b o h => Nat.lt_of_lt_of_le (him.1 b o h) hb.size, ?_, hb⟩
  simp only [Rep, RepL]
  exact ⟨_, rfl, rfl, _, _, rfl, rfl, _, _, rfl, rfl, rfl⟩
end Go.Proofs.YtnooelecdbbfkaaGreatDoor.Fw

/- Tables: rows by number. -/
namespace Go.Proofs.YtnooelecdbbfkaaGreatDoor.Fw
open Go Go.RowKit
set_option linter.unusedSectionVars false
variable [Inhabited GLT]
set_option maxRecDepth 100000
set_option maxHeartbeats 4000000

/-- A table: how long rows are, and their keys; all rows. -/
structure Tab where
  w : Nat
  k : Nat
  bs : S8
def Tab.a (t : Tab) : D := .agg [.int .i64 t.w, .int .i64 t.k, .str t.bs]
abbrev Tab.d (t : Tab) : D := .eptr (.agg [.int .i64 t.w, .int .i64 t.k, .str t.bs]) 0
structure Tab.ok (t : Tab) : Prop where
  k0 : 0 < t.k
  kw : t.k ≤ t.w
  w1 : t.w ≤ 255
  len : t.bs.length ≤ 1000000
def Tab.n (t : Tab) : Nat := t.bs.length / t.w
def Tab.row (t : Tab) (i : Nat) : S8 := (t.bs.drop (i * t.w)).take t.w
def Tab.key (t : Tab) (i : Nat) : S8 := (t.row i).take t.k
theorem Tab.n_mul (t : Tab) : t.n * t.w ≤ t.bs.length := Nat.div_mul_le_self _ _
theorem Tab.row_in {t : Tab} {i : Nat} (h : i < t.n) : i * t.w + t.w ≤ t.bs.length := by
  have h1 := t.n_mul
  have h2 : (i + 1) * t.w ≤ t.n * t.w := Nat.mul_le_mul_right _ h
  rw [Nat.add_mul, Nat.one_mul] at h2
  omega
theorem Tab.row_len {t : Tab} {i : Nat} (h : i < t.n) : (t.row i).length = t.w := by
  have := Tab.row_in h
  unfold Tab.row
  rw [List.length_take, List.length_drop]; omega
theorem Tab.n_le {t : Tab} (h : t.ok) : t.n ≤ t.bs.length := Nat.div_le_self _ _
theorem run209 (t : Tab) (h : t.ok) : Runs Tryz.prog T 15 (Tryz.f209.body.getD .skip) Tryz.f209.results.toList [t.d] (.int .i64 t.n) := by
  refine ⟨Nat.le_of_ble_eq_true rfl, ?_⟩
  conv => whnf
  have h1 := h.k0
  have h2 := h.kw
  have h3 := h.len
  refine ⟨rfl, ?_⟩
  conv => whnf
  refine sideB_intro (fun _ => decide_eq_true (by omega)) ?_
  conv => whnf
  refine ⟨rfl, congrArg (D.int .i64) ?_⟩
  rw [IntKind.wrap_i64]
  have e : Int.tdiv (t.bs.length : Int) (t.w : Int) = ((t.bs.length / t.w : Nat) : Int) := rfl
  have e2 : t.bs.length / t.w ≤ t.bs.length := Nat.div_le_self _ _
  rw [e]
  unfold Tab.n
  generalize t.bs.length / t.w = q at e2
  omega
theorem call209 (t : Tab) (h : t.ok) : CallsTo Tryz.prog 209 [t.d] (.int .i64 t.n) := calls Tryz.func209 rfl (by decide) (run209 t h)
theorem run209n  : Runs Tryz.prog T 15 (Tryz.f209.body.getD .skip) Tryz.f209.results.toList [.nilp] (.int .i64 0) := by
  refine ⟨Nat.le_of_ble_eq_true rfl, ?_⟩
  conv => whnf
  exact ⟨rfl, rfl⟩
theorem call209n  : CallsTo Tryz.prog 209 [.nilp] (.int .i64 0) := calls Tryz.func209 rfl (by decide) (run209n)
theorem run210 (t : Tab) (i : Nat) (h : t.ok) (hi : i < t.n) : Runs Tryz.prog T 21 (Tryz.f210.body.getD .skip) Tryz.f210.results.toList [t.d, .int .i64 i] (.str (t.row i)) := by
  refine ⟨Nat.le_of_ble_eq_true rfl, ?_⟩
  conv => whnf
  have h1 := h.k0
  have h2 := h.kw
  have h3 := h.len
  have h4 := Tab.row_in hi
  have hm : IntKind.i64.wrap ((i : Int) * (t.w : Int)) = ((i * t.w : Nat) : Int) := by
    rw [IntKind.wrap_i64]
    have : (i : Int) * (t.w : Int) = ((i * t.w : Nat) : Int) := by simp
    rw [this]; omega
  refine ⟨rfl, ?_⟩
  conv => whnf
  rw [hm]
  refine sideB_intro (fun _ => decide_eq_true ?_) ?_
  · omega
  conv => whnf
  rw [show sliceD t.bs (Int.toNat ((i * t.w : Nat) : Int)) (Int.toNat (t.bs.length : Int)) = t.bs.drop (i * t.w) from by rw [sliceD_end, Int.toNat_natCast]]
  refine sideB_intro (fun _ => decide_eq_true ?_) ?_
  · rw [List.length_drop]; omega
  conv => whnf
  have e : sliceD (List.drop (i * t.w) t.bs) (Int.toNat ((0 : Nat) : Int)) (Int.toNat (t.w : Int)) = t.row i := by
    unfold Tab.row; simp [sliceD]
  exact ⟨rfl, congrArg D.str e⟩
theorem call210 (t : Tab) (i : Nat) (h : t.ok) (hi : i < t.n) : CallsTo Tryz.prog 210 [t.d, .int .i64 i] (.str (t.row i)) := calls Tryz.func210 rfl (by decide) (run210 t i h hi)
theorem run131 (t : Tab) : Runs Tryz.prog T 9 (Tryz.f131.body.getD .skip) Tryz.f131.results.toList [t.d] (.str t.bs) := by
  refine ⟨Nat.le_of_ble_eq_true rfl, ?_⟩
  conv => whnf
  exact ⟨rfl, rfl⟩
theorem call131 (t : Tab) : CallsTo Tryz.prog 131 [t.d] (.str t.bs) := calls Tryz.func131 rfl (by decide) (run131 t)
theorem run131n  : Runs Tryz.prog T 9 (Tryz.f131.body.getD .skip) Tryz.f131.results.toList [.nilp] (.str []) := by
  refine ⟨Nat.le_of_ble_eq_true rfl, ?_⟩
  conv => whnf
  exact ⟨rfl, rfl⟩
theorem call131n  : CallsTo Tryz.prog 131 [.nilp] (.str []) := calls Tryz.func131 rfl (by decide) (run131n)
/-- Does a text begin with another one? -/
def pre (s p : S8) : Bool := decide (p.length ≤ s.length) && (s.take p.length == p)
theorem run214 (s p : S8) : Runs Tryz.prog T 18 (Tryz.f214.body.getD .skip) Tryz.f214.results.toList [.str s, .str p] (.bool (pre s p)) := by
  refine ⟨Nat.le_of_ble_eq_true rfl, ?_⟩
  conv => whnf
  by_cases h : p.length ≤ s.length
  · have e1 : decide ((p.length : Int) ≤ (s.length : Int)) = true := decide_eq_true (by omega)
    have e2 : sliceD s (Int.toNat ((0 : Nat) : Int)) (Int.toNat (p.length : Int)) = s.take p.length := by simp [sliceD]
    refine sideB_intro (fun _ => decide_eq_true (by omega)) ?_
    conv => whnf
    rw [e1, e2]
    have : pre s p = (s.take p.length == p) := by simp [pre, h]
    rw [this]
    exact ⟨rfl, rfl⟩
  · have e1 : decide ((p.length : Int) ≤ (s.length : Int)) = false := decide_eq_false (by omega)
    refine sideB_intro (fun hg => ?_) ?_
    · have : decide ((p.length : Int) ≤ (s.length : Int)) = true := hg
      rw [e1] at this; cases this
    conv => whnf
    rw [e1]
    have : pre s p = false := by simp [pre, h]
    rw [this]
    exact ⟨rfl, rfl⟩
theorem call214 (s p : S8) : CallsTo Tryz.prog 214 [.str s, .str p] (.bool (pre s p)) := calls Tryz.func214 rfl (by decide) (run214 s p)
theorem run193 (s p : S8) : Runs Tryz.prog T 8 (Tryz.f193.body.getD .skip) Tryz.f193.results.toList [.str s, .str p] (.bool (pre s p)) := by
  refine ⟨Nat.le_of_ble_eq_true rfl, ?_⟩
  conv => whnf
  refine ⟨_, fun _ => call214 s p, ?_⟩
  conv => whnf
  exact ⟨rfl, rfl⟩
theorem call193 (s p : S8) : CallsTo Tryz.prog 193 [.str s, .str p] (.bool (pre s p)) := calls Tryz.func193 rfl (by decide) (run193 s p)
theorem run176 (w k : Int) : Runs Tryz.prog T 16 (Tryz.f176.body.getD .skip) Tryz.f176.results.toList [.int .i64 w, .int .i64 k] (.bool (decide (1 ≤ k ∧ k ≤ w ∧ w ≤ 255))) := by
  refine ⟨Nat.le_of_ble_eq_true rfl, ?_⟩
  conv => whnf
  have e : (bif (bif decide ((1 : Int) ≤ k) then decide (k ≤ w) else false) then decide (w ≤ 255) else false) = decide (1 ≤ k ∧ k ≤ w ∧ w ≤ 255) := by
    by_cases a : (1 : Int) ≤ k <;> by_cases b : k ≤ w <;> by_cases c : w ≤ 255 <;> simp [a, b, c]
  exact ⟨rfl, congrArg D.bool e⟩
theorem call176 (w k : Int) : CallsTo Tryz.prog 176 [.int .i64 w, .int .i64 k] (.bool (decide (1 ≤ k ∧ k ≤ w ∧ w ≤ 255))) := calls Tryz.func176 rfl (by decide) (run176 w k)
end Go.Proofs.YtnooelecdbbfkaaGreatDoor.Fw

/- strings.Join: by the library's own contract. -/
namespace Go.Proofs.YtnooelecdbbfkaaGreatDoor.Fw
open Go Go.RowKit Go.Shelf
set_option linter.unusedSectionVars false
variable [Inhabited GLT]
set_option maxRecDepth 100000
set_option maxHeartbeats 4000000

def joinRen : Go.Shelf.Ren := ⟨fun | 156 => 75 | 165 => 132 | 166 => 128 | 169 => 129 | 240 => 175 | 241 => 183 | 276 => 205 | 277 => 211 | n => n, fun | 31 => 74 | 9 => 9 | 3 => 3 | 4 => 4 | 0 => 0 | 20 => 20 | 72 => 153 | 76 => 154 | 70 => 151 | 37 => 69 | 75 => 48 | 127 => 200 | 164 => 167 | 5 => 5 | 80 => 56 | n => n, fun n => n⟩
theorem laysJoin : Lays.n156 Tryz.prog joinRen where
  mixed := by kernel_rfl
  f156 := Tryz.func75.trans (congrArg some (by kernel_rfl))
  f165 := Tryz.func132.trans (congrArg some (by kernel_rfl))
  f166 := Tryz.func128.trans (congrArg some (by kernel_rfl))
  f169 := Tryz.func129.trans (congrArg some (by kernel_rfl))
  f240 := Tryz.func175.trans (congrArg some (by kernel_rfl))
  f241 := Tryz.func183.trans (congrArg some (by kernel_rfl))
  f276 := Tryz.func205.trans (congrArg some (by kernel_rfl))
  f277 := Tryz.func211.trans (congrArg some (by kernel_rfl))
  t0 := Tryz.underlying0
  a0 := Tryz.isAgg0
  z0 := Tryz.sizeOf0
  v0 := Tryz.zeroValue0
  t3 := Tryz.underlying3
  a3 := Tryz.isAgg3
  z3 := Tryz.sizeOf3
  v3 := Tryz.zeroValue3
  t4 := Tryz.underlying4
  a4 := Tryz.isAgg4
  z4 := Tryz.sizeOf4
  v4 := Tryz.zeroValue4
  t9 := Tryz.underlying9
  a9 := Tryz.isAgg9
  z9 := Tryz.sizeOf9
  v9 := Tryz.zeroValue9
  t20 := Tryz.underlying20
  a20 := Tryz.isAgg20
  z20 := Tryz.sizeOf20
  v20 := Tryz.zeroValue20
  t31 := Tryz.underlying74
  a31 := Tryz.isAgg74
  z31 := Tryz.sizeOf74
  v31 := Tryz.zeroValue74
  t37 := Tryz.underlying69
  a37 := Tryz.isAgg69
  z37 := Tryz.sizeOf69
  v37 := Tryz.zeroValue69
  t70 := Tryz.underlying151
  a70 := Tryz.isAgg151
  z70 := Tryz.sizeOf151
  v70 := Tryz.zeroValue151
  t72 := Tryz.underlying153
  a72 := Tryz.isAgg153
  z72 := Tryz.sizeOf153
  v72 := Tryz.zeroValue153
  t75 := Tryz.underlying48
  a75 := Tryz.isAgg48
  z75 := Tryz.sizeOf48
  v75 := Tryz.zeroValue48
  t76 := Tryz.underlying154
  a76 := Tryz.isAgg154
  z76 := Tryz.sizeOf154
  v76 := Tryz.zeroValue154
  t127 := Tryz.underlying200
  a127 := Tryz.isAgg200
  z127 := Tryz.sizeOf200
  v127 := Tryz.zeroValue200
  t164 := Tryz.underlying167
  a164 := Tryz.isAgg167
  z164 := Tryz.sizeOf167
  v164 := Tryz.zeroValue167
theorem joinExtra : Builder.Extra Tryz.prog joinRen where
  sizeBuilder := by kernel_rfl
  liesBuilder := by kernel_rfl
  t5 := Tryz.underlying5
  a5 := Tryz.isAgg5
  z5 := Tryz.sizeOf5
  v5 := Tryz.zeroValue5
  infoByte := by kernel_rfl
  cellsByte := by kernel_rfl
  sizeByte := by kernel_rfl
  neB5 := by decide

/-- Texts, one behind the other, with one between. -/
def joinS (l : List S8) (sep : S8) : S8 := Lib.join l sep
theorem repRow_str {I : Im} {w : World} {a : Addr} : ∀ {l : List S8} {i : Nat}, RepRow I w 1 (l.map D.str) a i → ∀ (j : Nat) (s : S8), l[j]? = some s → I (a.add ((i + j) * 1)).block (a.add ((i + j) * 1)).off ∧ w.cell? (a.add ((i + j) * 1)) = some (.string ⟨⟨s⟩⟩)
  | [], _, _, j, s, h => by simp at h
  | x :: l, i, h, 0, s, hs => by
    simp only [List.getElem?_cons_zero, Option.some.injEq] at hs; subst hs
    simp only [List.map_cons, RepRow, Rep] at h
    obtain ⟨⟨_, _, h1, u, h2, rfl⟩, _⟩ := h
    exact ⟨h1, h2⟩
  | x :: l, i, h, j + 1, s, hs => by
    simp only [List.map_cons, RepRow] at h
    have := repRow_str h.2 j s (by simpa using hs)
    rw [show i + (j + 1) = i + 1 + j from by omega]; exact this
theorem call75c (l : List S8) (sep : S8) (hne : l ≠ []) (hl : l.length ≤ 1000000) (hj : (joinS l sep).length ≤ 281474976710656) : CallsTo Tryz.prog 75 [.sl 0 1 (l.map D.str), .str sep] (.str (joinS l sep)) := by
  refine ⟨⟨_, Tryz.func75, by decide, by decide⟩, fun I w vs him hrep => ?_⟩
  simp only [RepL] at hrep
  obtain ⟨v, us, rfl, hv, v2, us2, rfl, hv2, rfl⟩ := hrep
  simp only [Rep] at hv hv2
  subst hv2
  rcases hv with ⟨_, ⟨_, he⟩ | ⟨a, cap, rfl, hcap, hrow⟩⟩
  · exact absurd (List.map_eq_nil_iff.1 he) hne
  · rw [List.length_map] at hcap ⊢
    have hat := repRow_str hrow
    obtain ⟨x, r, hx⟩ : ∃ x r, l = x :: r := by
      cases l with
      | nil => exact absurd rfl hne
      | cons x r => exact ⟨x, r, rfl⟩
    have h0 := hat 0 x (by rw [hx]; rfl)
    have ha0 : a.add ((0 + 0) * 1) = a := rfl
    rw [ha0] at h0
    have hspot : a.spot = none := by
      have := h0.2
      unfold World.cell? at this
      split at this
      · split at this
        · cases this
        · rename_i h; simpa using h
      · cases this
    obtain ⟨bk, o, sp⟩ := a
    simp only at hspot
    subst hspot
    let xs : List ByteArray := l.map fun s => ⟨⟨s⟩⟩
    have hxl : xs.length = l.length := by simp [xs]
    have hxd : xs.map (·.data.toList) = l := by simp [xs, Function.comp_def]
    have hc := Any.strings_Join_48 laysJoin joinExtra bk o cap xs ⟨⟨sep⟩⟩ w (fun j y hy => by
      have hs : ∃ s, l[j]? = some s ∧ y = ⟨⟨s⟩⟩ := by
        simp only [xs, List.getElem?_map] at hy
        cases hlj : l[j]? with
        | none => rw [hlj] at hy; cases hy
        | some s => rw [hlj] at hy; exact ⟨s, rfl, (Option.some.inj hy).symm⟩
      obtain ⟨s, h1, rfl⟩ := hs
      have := (hat j s h1).2
      rw [addr_add_mk, Nat.zero_add, Nat.mul_one] at this
      exact this) (him.1 bk o h0.1) (by rw [hxl]; omega) (by rw [hxl]; exact hcap) (by rw [hxd]; exact hj)
    rw [hxl, hxd] at hc
    refine Calls.mono hc fun e w' he => ?_
    obtain ⟨rfl, hb⟩ := he
    refine ⟨_, I, rfl, fun _ _ h => h, fun _ _ h => .inl h, fun b o h => Nat.lt_of_lt_of_le (him.1 b o h) hb.size, ?_, hb⟩
    simp only [Rep]; rfl
theorem run75n (sep : S8) : Runs Tryz.prog T 75 (Tryz.f75.body.getD .skip) Tryz.f75.results.toList [.sl 0 1 [], .str sep] (.str []) := by
  refine ⟨Nat.le_of_ble_eq_true rfl, ?_⟩
  conv => whnf
  exact ⟨rfl, rfl⟩
theorem call75n (sep : S8) : CallsTo Tryz.prog 75 [.sl 0 1 [], .str sep] (.str []) := calls Tryz.func75 rfl (by decide) (run75n sep)
theorem call75 (l : List S8) (sep : S8) (hl : l.length ≤ 1000000) (hj : (joinS l sep).length ≤ 281474976710656) : CallsTo Tryz.prog 75 [.sl 0 1 (l.map D.str), .str sep] (.str (joinS l sep)) := by
  cases l with
  | nil => exact call75n sep
  | cons x r => exact call75c (x :: r) sep (by simp) hl hj
end Go.Proofs.YtnooelecdbbfkaaGreatDoor.Fw

/- Numbers as bytes; texts, packed, one behind the other. -/
namespace Go.Proofs.YtnooelecdbbfkaaGreatDoor.Fw
open Go Go.RowKit Go.Shelf
set_option linter.unusedSectionVars false
variable [Inhabited GLT]
set_option maxRecDepth 100000
set_option maxHeartbeats 4000000
theorem ws166 : Lays.n166 Tryz.prog joinRen := { laysJoin with }
theorem ws169 : Lays.n169 Tryz.prog joinRen := { laysJoin with }
/-- A number's byte. -/
def byI (n : Int) (i : Nat) : UInt8 := UInt8.ofNat (IntKind.u8.wrap (Int.fdiv n (2 ^ min (IntKind.i64.wrap (8 * (i : Int))).toNat IntKind.u64.bits))).toNat
def put8 (n : Int) : S8 := [byI n 7, byI n 6, byI n 5, byI n 4, byI n 3, byI n 2, byI n 1, byI n 0]
def put2 (n : Int) : S8 := [byI n 1, byI n 0]
theorem run74a (n : Int) : Runs Tryz.prog Tby 30 (Tryz.f74.body.getD .skip) Tryz.f74.results.toList [.int .u64 n, .int .i64 8] (.str (put8 n)) := by
  refine ⟨Nat.le_of_ble_eq_true rfl, ?_⟩
  conv => whnf
  refine ⟨[], ?_⟩
  conv => whnf
  refine ⟨9, ?_⟩
  conv => whnf
  refine .inl ⟨put8 n, rfl, ?_⟩
  conv => whnf
  exact ⟨rfl, rfl⟩
theorem call74a (n : Int) : CallsTo Tryz.prog 74 [.int .u64 n, .int .i64 8] (.str (put8 n)) := calls Tryz.func74 rfl (by decide) (run74a n)
theorem run74b (n : Int) : Runs Tryz.prog Tby 30 (Tryz.f74.body.getD .skip) Tryz.f74.results.toList [.int .u64 n, .int .i64 2] (.str (put2 n)) := by
  refine ⟨Nat.le_of_ble_eq_true rfl, ?_⟩
  conv => whnf
  refine ⟨[], ?_⟩
  conv => whnf
  refine ⟨3, ?_⟩
  conv => whnf
  refine .inl ⟨put2 n, rfl, ?_⟩
  conv => whnf
  exact ⟨rfl, rfl⟩
theorem call74b (n : Int) : CallsTo Tryz.prog 74 [.int .u64 n, .int .i64 2] (.str (put2 n)) := calls Tryz.func74 rfl (by decide) (run74b n)
theorem ownsRow_below {w w' : World} {B e : Nat} {v : Value} {n : Nat} {xs : List Value} (h : w.ownsRow B e 1 v n xs) (hb : Below w.heap.size w w') : w'.ownsRow B e 1 v n xs := by
  refine ⟨h.1, ?_⟩
  rcases h.2 with h2 | ⟨g, cap, cur, h1, h2, h3, h4⟩
  · exact .inl h2
  · refine .inr ⟨g, cap, cur, h1, h2, ?_, h4⟩
    rw [hb.block g (by
      rcases Nat.lt_or_ge g w.heap.size with h | h
      · exact h
      · rw [Array.getElem?_eq_none h] at h3; cases h3)]
    exact h3
theorem builderAt_below {T e B b : Nat} {p : Value} {bs : List Value} {w w' : World} (h : Lib.BuilderAt T e B b p bs w) (hb : Below w.heap.size w w') : Lib.BuilderAt T e B b p bs w' := by
  have hl := h.lt
  obtain ⟨h1, v, h2, h3, h4⟩ := h
  exact ⟨h1, v, by rw [hb.block b hl]; exact h2, ownsRow_below h3 hb, h4⟩
theorem isBuilder_below {T e B b : Nat} {bs : List Value} {w w' : World} (h : Lib.IsBuilder T e B b bs w) (hb : Below w.heap.size w w') : Lib.IsBuilder T e B b bs w' :=
  h.imp (fun h => builderAt_below h hb) (fun h => builderAt_below h hb)
theorem put8W {I : Im} (n : Int) (w : World) (him : ImW Tryz.prog I w) : Calls Tryz.prog 74 #[.int .u64 n, .int .i64 8] w fun e w' => e = .returned (.string ⟨⟨put8 n⟩⟩) ∧ Below w.heap.size w w' := by
  refine ((call74a n).plain him (vs := [.int .u64 n, .int .i64 8]) (by simp only [RepL, Rep]; exact ⟨_, _, rfl, rfl, _, _, rfl, rfl, rfl⟩)).mono ?_
  rintro e w' ⟨v, I', rfl, hr, hb⟩
  simp only [Rep] at hr
  subst hr
  exact ⟨rfl, hb⟩
/-- A text, packed. -/
def packS (s : S8) : S8 := put8 (packN s)
def packedS (l : List S8) : S8 := l.flatMap packS
theorem packedW {I : Im} (l : List S8) (hl : l.length ≤ 1000) (hs : ∀ s ∈ l, s.length ≤ 1000000) (bk o cap : Nat) (w : World) (him : ImW Tryz.prog I w) (hbk : bk < w.heap.size) (hcap : l.length ≤ cap)
    (hc : ∀ (k : Nat) (s : S8), l[k]? = some s → w.cell? ⟨bk, o + k, none⟩ = some (.string ⟨⟨s⟩⟩)) :
    Calls Tryz.prog 68 #[.slice (some ⟨bk, o, none⟩) l.length cap] w fun e w' => e = .returned (.string ⟨⟨packedS l⟩⟩) ∧ Below w.heap.size w w' := by
  have hlen8 : ∀ n : Int, (put8 n).length = 8 := fun _ => rfl
  go_enter Tryz.func68, Tryz.ntmps68
  go_wp2
  go_loopw [10] (fun i wr => ∃ k : Nat, k ≤ l.length ∧ i = .int .i64 k ∧ Lib.IsBuilder 153 5 w.heap.size w.heap.size (Lib.byteCells (packedS (l.take k))) wr ∧ Below w.heap.size w wr ∧ (packedS (l.take k)).length = 8 * k)
    (fun i _ => l.length - (intOf i).toNat)
  case atStart => exact ⟨0, Nat.zero_le _, rfl, Lib.fresh_isBuilder 153 5 w, (Below.refl _ w).alloc (Nat.le_refl _) _, rfl⟩
  case round =>
    obtain ⟨k, hk, rfl, hib, hbr, hpl⟩ := hrel
    have hcw : ∀ (j : Nat) (s : S8), l[j]? = some s → wr.cell? ⟨bk, o + j, none⟩ = some (.string ⟨⟨s⟩⟩) := fun j s h => (hbr.cell (by exact hbk)).trans (hc j s h)
    obtain ⟨x, hx⟩ : ∃ x : S8, k < l.length → l[k]? = some x := by
      rcases Nat.lt_or_ge k l.length with h | h
      · exact ⟨_, fun _ => List.getElem?_eq_getElem h⟩
      · exact ⟨[], fun h2 => by omega⟩
    have hck : k < l.length → wr.cell? ⟨bk, o + k, none⟩ = some (.string ⟨⟨x⟩⟩) := fun h => hcw k x (hx h)
    have hsl : k < l.length → x.length ≤ 1000000 := fun h => hs x (List.mem_of_getElem? (hx h))
    clear hcw hc hs
    have hsr := hbr.size
    go_wp2_with (first
      | (go_at_call 127; refine (packW x (hsl (by assumption)) wr (him.below hbr)).mono ?_; rintro e w3 ⟨rfl, hb3⟩; have hbr3 := hbr.trans (hb3.mono hsr); have hib3 := isBuilder_below hib hb3)
      | (go_at_call 74; refine (put8W (packN x) w3 (him.below hbr3)).mono ?_; rintro e w4 ⟨rfl, hb4⟩; have hbr4 := hbr3.trans (hb4.mono hbr3.size); have hib4 := isBuilder_below hib3 hb4)
      | (go_at_call 128; refine (Any.Builder_WriteString ws166 joinExtra w.heap.size w.heap.size (Lib.byteCells (packedS (l.take k))) ⟨⟨put8 (packN x)⟩⟩ w4 hib4 (by rw [Lib.byteCells_length, hpl]; show 8 * k + 8 ≤ _; omega) hbr4.size).mono ?_; rintro e w5 ⟨rfl, hib5, hb5⟩; have hbr5 := hbr4.trans hb5)
      | (go_at_call 129; refine (Any.Builder_String_any ws169 joinExtra w.heap.size w.heap.size (packedS (l.take k)) wr hib hbr.size).mono ?_; rintro e w6 ⟨rfl, hb6⟩; have hbr6 := hbr.trans hb6))
    · have hlt : k < l.length := by assumption
      have e : packedS (l.take (k + 1)) = packedS (l.take k) ++ put8 (packN x) := by
        rw [packedS, List.take_add_one, hx hlt, Option.toList_some, List.flatMap_append, List.flatMap_singleton]; rfl
      have e2 : Lib.byteCells (packedS (l.take (k + 1))) = Lib.byteCells (packedS (l.take k)) ++ Lib.strCells ⟨⟨put8 (packN x)⟩⟩ := by
        rw [e]; simp [Lib.byteCells, Lib.strCells]
      refine ⟨⟨k + 1, hlt, congrArg (Value.int .i64) (by omega), .inr ?_, hbr5, ?_⟩, by simp [intOf]; omega⟩
      · rw [e2]; exact hib5
      · rw [e, List.length_append, hpl, hlen8]; omega
    · obtain rfl : k = l.length := by omega
      rw [List.take_length]
      go_ret
      exact ⟨rfl, hbr6⟩
theorem call68 (l : List S8) (hne : l ≠ []) (hl : l.length ≤ 1000) (hs : ∀ s ∈ l, s.length ≤ 1000000) : CallsTo Tryz.prog 68 [.sl 0 1 (l.map D.str)] (.str (packedS l)) := by
  refine ⟨⟨_, Tryz.func68, by decide, by decide⟩, fun I w vs him hrep => ?_⟩
  simp only [RepL] at hrep
  obtain ⟨v, us, rfl, hv, rfl⟩ := hrep
  simp only [Rep] at hv
  rcases hv with ⟨_, ⟨_, he⟩ | ⟨a, cap, rfl, hcap, hrow⟩⟩
  · exact absurd (List.map_eq_nil_iff.1 he) hne
  · rw [List.length_map] at hcap ⊢
    have hat := repRow_str hrow
    obtain ⟨x, r, hx⟩ : ∃ x r, l = x :: r := by
      cases l with
      | nil => exact absurd rfl hne
      | cons x r => exact ⟨x, r, rfl⟩
    have h0 := hat 0 x (by rw [hx]; rfl)
    have ha0 : a.add ((0 + 0) * 1) = a := rfl
    rw [ha0] at h0
    have hspot : a.spot = none := by
      have := h0.2
      unfold World.cell? at this
      split at this
      · split at this
        · cases this
        · rename_i h; simpa using h
      · cases this
    obtain ⟨bk, o, sp⟩ := a
    simp only at hspot
    subst hspot
    refine (packedW l hl hs bk o cap w him (him.1 bk o h0.1) hcap fun k s hk => ?_).mono ?_
    · have := (hat k s hk).2
      rw [addr_add_mk, Nat.zero_add, Nat.mul_one] at this
      exact this
    · rintro e w' ⟨rfl, hb⟩
      refine ⟨_, I, rfl, fun _ _ h => h, fun _ _ h => .inl h, fun b o h => Nat.lt_of_lt_of_le (him.1 b o h) hb.size, ?_, hb⟩
      simp only [Rep]
end Go.Proofs.YtnooelecdbbfkaaGreatDoor.Fw

/- strings.Contains of one byte: by the library's own contract. -/
namespace Go.Proofs.YtnooelecdbbfkaaGreatDoor.Fw
open Go Go.RowKit Go.Shelf
set_option linter.unusedSectionVars false
variable [Inhabited GLT]
set_option maxRecDepth 100000
set_option maxHeartbeats 4000000
def conRen : Go.Shelf.Ren := { f := fun x => match x with | 144 => 44 | 143 => 113 | 219 => 157 | 217 => 199 | 225 => 200 | 224 => 201 | 267 => 202 | 266 => 215 | 314 => 216 | n => n, t := fun x => match x with | 9 => 9 | 4 => 4 | 3 => 3 | 5 => 5 | 46 => 199 | 146 => 234 | 51 => 233 | n => n, g := fun x => match x with | 1 => 1 | n => n }
theorem layscon : Lays.n144 Tryz.prog conRen where
  mixed := by kernel_rfl
  f143 := Tryz.func113.trans (congrArg some (by kernel_rfl))
  f144 := Tryz.func44.trans (congrArg some (by kernel_rfl))
  f217 := Tryz.func199.trans (congrArg some (by kernel_rfl))
  f219 := Tryz.func157.trans (congrArg some (by kernel_rfl))
  f224 := Tryz.func201.trans (congrArg some (by kernel_rfl))
  f225 := Tryz.func200.trans (congrArg some (by kernel_rfl))
  f266 := Tryz.func215.trans (congrArg some (by kernel_rfl))
  f267 := Tryz.func202.trans (congrArg some (by kernel_rfl))
  f314 := Tryz.func216.trans (congrArg some (by kernel_rfl))
  t3 := Tryz.underlying3
  a3 := Tryz.isAgg3
  z3 := Tryz.sizeOf3
  v3 := Tryz.zeroValue3
  t4 := Tryz.underlying4
  a4 := Tryz.isAgg4
  z4 := Tryz.sizeOf4
  v4 := Tryz.zeroValue4
  t5 := Tryz.underlying5
  a5 := Tryz.isAgg5
  z5 := Tryz.sizeOf5
  v5 := Tryz.zeroValue5
  t9 := Tryz.underlying9
  a9 := Tryz.isAgg9
  z9 := Tryz.sizeOf9
  v9 := Tryz.zeroValue9
  t46 := Tryz.underlying199
  a46 := Tryz.isAgg199
  z46 := Tryz.sizeOf199
  v46 := Tryz.zeroValue199
  t51 := Tryz.underlying233
  a51 := Tryz.isAgg233
  z51 := Tryz.sizeOf233
  v51 := Tryz.zeroValue233
  t146 := Tryz.underlying234
  a146 := Tryz.isAgg234
  z146 := Tryz.sizeOf234
  v146 := Tryz.zeroValue234
  g1 := by kernel_rfl
theorem call44 (l : S8) (c : UInt8) : CallsTo Tryz.prog 44 [.str l, .str [c]] (.bool (decide (0 ≤ Lib.indexByte l c))) := by
  refine ⟨⟨_, Tryz.func44, by decide, by decide⟩, fun I w vs him hrep => ?_⟩
  simp only [RepL] at hrep
  obtain ⟨v, us, rfl, hv, v2, us2, rfl, hv2, rfl⟩ := hrep
  simp only [Rep] at hv hv2
  subst hv hv2
  refine (Any.strings_Contains_one layscon ⟨⟨l⟩⟩ c w).mono ?_
  rintro e w' ⟨rfl, rfl⟩
  refine ⟨_, I, rfl, fun _ _ h => h, fun _ _ h => .inl h, fun b o h => him.1 b o h, ?_, Below.refl _ _⟩
  simp only [Rep]
theorem sets_has (c : UInt8) : decide (0 ≤ Lib.indexByte [36, 33] c) = (decide (c = 36) || decide (c = 33)) := by
  unfold Lib.indexByte
  by_cases h1 : c = 36
  · subst h1; decide
  · by_cases h2 : c = 33
    · subst h2; decide
    · simp [Lib.indexByte, h1, h2, Ne.symm h1, Ne.symm h2, beq_eq_false_iff_ne.2 (Ne.symm h1), beq_eq_false_iff_ne.2 (Ne.symm h2)]
end Go.Proofs.YtnooelecdbbfkaaGreatDoor.Fw

/- What may stand in likely rows, rules, members: the program's. -/
namespace Go.Proofs.YtnooelecdbbfkaaGreatDoor.Fw
open Go Go.RowKit
set_option linter.unusedSectionVars false
variable [Inhabited GLT]
set_option maxRecDepth 100000
set_option maxHeartbeats 4000000
theorem run43 (s : S8) (hs : s.length ≤ 1000000) : Runs Tryz.prog T 15 (Tryz.f43.body.getD .skip) Tryz.f43.results.toList [.str s] (.bool (setS s)) := by
  refine ⟨Nat.le_of_ble_eq_true rfl, ?_⟩
  conv => whnf
  cases s with
  | nil =>
    conv => whnf
    refine ⟨fun hg => by (conv at hg => whnf); first | exact absurd hg (by decide) | exact absurd hg.1 (by decide) | exact absurd hg.2 (by decide), ?_⟩
    conv => whnf
    refine ⟨.bool false, fun hg => by (conv at hg => whnf); first | exact absurd hg (by decide) | exact absurd hg.1 (by decide) | exact absurd hg.2 (by decide), ?_⟩
    conv => whnf
    refine ⟨fun hg => by (conv at hg => whnf); first | exact absurd hg (by decide) | exact absurd hg.1 (by decide) | exact absurd hg.2 (by decide), ?_⟩
    conv => whnf
    refine ⟨.bool false, fun hg => by (conv at hg => whnf); first | exact absurd hg (by decide) | exact absurd hg.1 (by decide) | exact absurd hg.2 (by decide), ?_⟩
    conv => whnf
    exact ⟨rfl, rfl⟩
  | cons c t =>
    replace hs : t.length + 1 ≤ 1000000 := hs
    have e1 : sliceD (c :: t) (Int.toNat ((0 : Nat) : Int)) (Int.toNat 1) = [c] := by simp [sliceD]
    conv => whnf
    refine sideB_intro (fun _ => decide_eq_true (by simp only [List.length_cons]; omega)) ?_
    rw [e1]
    conv => whnf
    refine ⟨_, fun _ => call44 [36, 33] c, ?_⟩
    conv => whnf
    refine sideB_intro (fun _ => decide_eq_true (by simp only [List.length_cons]; omega)) ?_
    rw [sliceD_end]
    conv => whnf
    refine ⟨_, fun _ => call45 t (by omega), ?_⟩
    conv => whnf
    exact ⟨rfl, congrArg D.bool ((and_eq _ _).trans (congrArg (fun x => and x _) ((and_eq _ _).trans (congrArg (and _) ((sets_has c).trans (by simp))))))⟩
def starF (f : Nat) : D := .fn 47 [.eptr (.fn f []) 0]
theorem run46 (f : Nat) : Runs Tryz.prog T 4 (Tryz.f46.body.getD .skip) Tryz.f46.results.toList [.fn f []] (starF f) := by
  refine ⟨Nat.le_of_ble_eq_true rfl, ?_⟩
  conv => whnf
  exact ⟨rfl, rfl⟩
theorem call46 (f : Nat) : CallsTo Tryz.prog 46 [.fn f []] (starF f) := calls Tryz.func46 rfl (by decide) (run46 f)
theorem run47 (f : Nat) (s : S8) (hs : s.length ≤ 1000000) (b : Bool) (hf : CallsTo Tryz.prog f [.str s] (.bool b)) : Runs Tryz.prog T 12 (Tryz.f47.body.getD .skip) Tryz.f47.results.toList [.str s, .eptr (.fn f []) 0] (.bool (decide (s = [42]) || (decide (s = low s) && b))) := by
  refine ⟨Nat.le_of_ble_eq_true rfl, ?_⟩
  conv => whnf
  refine ⟨_, fun _ => call34 f, ?_⟩
  conv => whnf
  refine ⟨_, fun _ => call103 f s hs b hf, ?_⟩
  conv => whnf
  exact ⟨rfl, congrArg D.bool ((or_eq _ _).trans (congrArg (fun x => or x _) (beq_eq_dec s [42])))⟩
theorem call47 (f : Nat) (s : S8) (hs : s.length ≤ 1000000) (b : Bool) (hf : CallsTo Tryz.prog f [.str s] (.bool b)) : CallsTo Tryz.prog 47 [.str s, .eptr (.fn f []) 0] (.bool (decide (s = [42]) || (decide (s = low s) && b))) := calls Tryz.func47 rfl (by decide) (run47 f s hs b hf)
theorem run48 (s : S8) : Runs Tryz.prog T 5 (Tryz.f48.body.getD .skip) Tryz.f48.results.toList [.str s] (.bool (decide (s = []))) := by
  refine ⟨Nat.le_of_ble_eq_true rfl, ?_⟩
  conv => whnf
  exact ⟨rfl, congrArg D.bool (beq_eq_dec s [])⟩
theorem call48 (s : S8) : CallsTo Tryz.prog 48 [.str s] (.bool (decide (s = []))) := calls Tryz.func48 rfl (by decide) (run48 s)
theorem callL2 (s : S8) (hs : s.length ≤ 1000000) : CallsTo Tryz.prog 47 [.str s, .eptr (.fn 35 []) 0] (.bool (starOr lowL s)) := call47 35 s hs _ (call35 s hs)
theorem callS2 (s : S8) (hs : s.length ≤ 1000000) : CallsTo Tryz.prog 47 [.str s, .eptr (.fn 36 []) 0] (.bool (starOr lowS s)) := call47 36 s hs _ (call36 s hs)
theorem callR2 (s : S8) (hs : s.length ≤ 1000000) : CallsTo Tryz.prog 47 [.str s, .eptr (.fn 37 []) 0] (.bool (starOr lowR s)) := call47 37 s hs _ (call37 s hs)
theorem call43 (s : S8) (hs : s.length ≤ 1000000) : CallsTo Tryz.prog 43 [.str s] (.bool (setS s)) := calls Tryz.func43 rfl (by decide) (run43 s hs)
theorem run49 (s : S8) (hs : s.length ≤ 1000000) : Runs Tryz.prog T 14 (Tryz.f49.body.getD .skip) Tryz.f49.results.toList [.str s, .eptr (.fn 46 []) 0, .eptr (.fn 43 []) 0] (.bool (placeS 2 s)) := by
  refine ⟨Nat.le_of_ble_eq_true rfl, ?_⟩
  conv => whnf
  refine ⟨_, fun _ => call46 37, ?_⟩
  conv => whnf
  refine ⟨_, fun _ => callR2 s hs, ?_⟩
  conv => whnf
  refine ⟨_, fun _ => call43 s hs, ?_⟩
  conv => whnf
  exact ⟨rfl, congrArg D.bool (or_eq _ _)⟩
theorem call49 (s : S8) (hs : s.length ≤ 1000000) : CallsTo Tryz.prog 49 [.str s, .eptr (.fn 46 []) 0, .eptr (.fn 43 []) 0] (.bool (placeS 2 s)) := calls Tryz.func49 rfl (by decide) (run49 s hs)
theorem run18 (set r : S8) (hs : set.length ≤ 1000000) (hr : r.length ≤ 1000000) : Runs Tryz.prog T 12 (Tryz.f18.body.getD .skip) Tryz.f18.results.toList [.agg [.str set, .str r]] (.bool (memberOK set r)) := by
  refine ⟨Nat.le_of_ble_eq_true rfl, ?_⟩
  conv => whnf
  refine ⟨rfl, ?_⟩
  conv => whnf
  refine ⟨_, fun _ => call45 set hs, ?_⟩
  conv => whnf
  refine ⟨_, fun _ => call34 37, ?_⟩
  conv => whnf
  refine ⟨_, fun _ => callR r hr, ?_⟩
  conv => whnf
  exact ⟨rfl, congrArg D.bool (and_eq _ _)⟩
theorem call18 (set r : S8) (hs : set.length ≤ 1000000) (hr : r.length ≤ 1000000) : CallsTo Tryz.prog 18 [.agg [.str set, .str r]] (.bool (memberOK set r)) := calls Tryz.func18 rfl (by decide) (run18 set r hs hr)
theorem run14 (l s r tl ts tr : S8) (h1 : l.length ≤ 1000000) (h2 : s.length ≤ 1000000) (h3 : r.length ≤ 1000000) (h4 : tl.length ≤ 1000000) (h5 : ts.length ≤ 1000000) (h6 : tr.length ≤ 1000000) : Runs Tryz.prog T 37 (Tryz.f14.body.getD .skip) Tryz.f14.results.toList [.agg [.str l, .str s, .str r, .str tl, .str ts, .str tr]] (.bool (likelyOK l s r tl ts tr)) := by
  refine ⟨Nat.le_of_ble_eq_true rfl, ?_⟩
  conv => whnf
  refine ⟨_, fun _ => call34 35, ?_⟩
  conv => whnf
  refine ⟨_, fun _ => call34 36, ?_⟩
  conv => whnf
  refine ⟨_, fun _ => call34 37, ?_⟩
  conv => whnf
  refine ⟨rfl, ?_⟩
  conv => whnf
  refine ⟨_, fun _ => call39 36, ?_⟩
  conv => whnf
  refine ⟨_, fun _ => call39 37, ?_⟩
  conv => whnf
  have hc : ∀ i t f, ([l, s, r, tl, ts, tr] : List S8)[i]? = some t → ([.sm 35, .mb 36, .mb 37, .sm 35, .sm 36, .sm 37] : List FnK)[i]? = some f → CallsTo Tryz.prog f.f (.str t :: f.c) (.bool ([lowL l, orE lowS s, orE lowR r, lowL tl, lowS ts, lowR tr].getD i false)) := by
    intro i t f ht hf
    rcases i with _ | _ | _ | _ | _ | _ | i
    · cases ht; cases hf; exact callL l (by omega)
    · cases ht; cases hf; exact call108 36 s _ (callS s (by omega))
    · cases ht; cases hf; exact call108 37 r _ (callR r (by omega))
    · cases ht; cases hf; exact callL tl (by omega)
    · cases ht; cases hf; exact callS ts (by omega)
    · cases ht; cases hf; exact callR tr (by omega)
    · cases ht
  refine ⟨_, fun _ => call38 [l, s, r, tl, ts, tr] [.sm 35, .mb 36, .mb 37, .sm 35, .sm 36, .sm 37] (fun i => [lowL l, orE lowS s, orE lowR r, lowL tl, lowS ts, lowR tr].getD i false) rfl (Nat.le_of_ble_eq_true rfl) hc, ?_⟩
  conv => whnf
  refine ⟨rfl, congrArg D.bool ((and_eq _ _).trans ?_)⟩
  refine congr (congrArg and (congrArg not (beq_eq_dec tl _))) ?_
  show (lowL l && (orE lowS s && (orE lowR r && (lowL tl && (lowS ts && (lowR tr && true)))))) = _
  simp only [Bool.and_true, Bool.and_assoc]
theorem call14 (l s r tl ts tr : S8) (h1 : l.length ≤ 1000000) (h2 : s.length ≤ 1000000) (h3 : r.length ≤ 1000000) (h4 : tl.length ≤ 1000000) (h5 : ts.length ≤ 1000000) (h6 : tr.length ≤ 1000000) :
    CallsTo Tryz.prog 14 [.agg [.str l, .str s, .str r, .str tl, .str ts, .str tr]] (.bool (likelyOK l s r tl ts tr)) := calls Tryz.func14 rfl (by decide) (run14 l s r tl ts tr h1 h2 h3 h4 h5 h6)
/-- The functions that are asked at the places of a rule of a level. -/
def ksOf : Nat → List FnK
  | 1 => [.st 35, .no, .no]
  | 2 => [.st 35, .st 36, .no]
  | _ => [.st 35, .st 36, .pl]
theorem hold3 (lv : Nat) (hlv : lv = 1 ∨ lv = 2 ∨ lv = 3) (a b c : S8) (ha : a.length ≤ 1000000) (hb : b.length ≤ 1000000) (hc : c.length ≤ 1000000) :
    CallsTo Tryz.prog 38 [.sl 0 1 ([a, b, c].map D.str), .sl 0 1 ((ksOf lv).map fnD)] (.bool (placesOK lv (a, b, c))) := by
  have key : ∀ i t f, ([a, b, c] : List S8)[i]? = some t → (ksOf lv)[i]? = some f → CallsTo Tryz.prog f.f (.str t :: f.c) (.bool ([placeN lv 0 a, placeN lv 1 b, placeN lv 2 c].getD i false)) := by
    intro i t f ht hf
    rcases hlv with rfl | rfl | rfl <;> rcases i with _ | _ | _ | i <;> first | (cases ht; done) | skip
    · cases ht; cases hf; exact callL2 a ha
    · cases ht; cases hf; exact call48 b
    · cases ht; cases hf; exact call48 c
    · cases ht; cases hf; exact callL2 a ha
    · cases ht; cases hf; exact callS2 b hb
    · cases ht; cases hf; exact call48 c
    · cases ht; cases hf; exact callL2 a ha
    · cases ht; cases hf; exact callS2 b hb
    · cases ht; cases hf; exact call49 c hc
  have h := call38 [a, b, c] (ksOf lv) (fun i => [placeN lv 0 a, placeN lv 1 b, placeN lv 2 c].getD i false) (by rcases hlv with rfl | rfl | rfl <;> rfl) (Nat.le_of_ble_eq_true rfl) key
  have e : ((List.range [a, b, c].length).all fun i => [placeN lv 0 a, placeN lv 1 b, placeN lv 2 c].getD i false) = placesOK lv (a, b, c) := by
    show (placeN lv 0 a && (placeN lv 1 b && (placeN lv 2 c && true))) = _
    rw [Bool.and_true]
    rfl
  rw [e] at h
  exact h
theorem run16 (lv n : Int) (one : Bool) (d0 d1 d2 s0 s1 s2 : S8) (h1 : d0.length ≤ 1000000) (h2 : d1.length ≤ 1000000) (h3 : d2.length ≤ 1000000) (h4 : s0.length ≤ 1000000) (h5 : s1.length ≤ 1000000) (h6 : s2.length ≤ 1000000) : Runs Tryz.prog (Tm [] [1000070]) 58 (Tryz.f16.body.getD .skip) Tryz.f16.results.toList [.agg [.int .i64 lv, .int .i64 n, .bool one, .str d0, .str d1, .str d2, .str s0, .str s1, .str s2]] (.bool (ruleOK lv n (d0, d1, d2) (s0, s1, s2))) := by
  refine ⟨Nat.le_of_ble_eq_true rfl, ?_⟩
  conv => whnf
  refine ⟨[(0, ?e1_0), (1, ?e1_1), (4, ?e1_2), (16, ?e1_3), (3, ?e1_4), (5, ?e1_5), (17, ?e1_6), (20, ?e1_7), (7, ?e1_8), (19, ?e1_9), (21, ?e1_10), (15, ?e1_11), (23, ?e1_12), (31, ?e1_13), (63, ?e1_14), (127, ?e1_15)], ?eF1, ?_, ?_, ?_⟩
  rotate_left 17
  · exact rfl
  refine tab_F rfl fun F hF => ?_
  obtain ⟨hF0, hF1, hF4, hF16, hF3, hF5, hF17, hF20, hF7, hF19, hF21, hF15, hF23, hF31, hF63, hF127, -⟩ := hF
  refine tab_3 rfl ?_ ?_ ?_ ?_
  · conv => whnf
    exact hF1
  · conv => whnf
    exact hF4
  · conv => whnf
    exact hF16
  refine tab_3 rfl ?_ ?_ ?_ ?_
  · conv => whnf
    refine ⟨_, fun _ => call46 35, ?_⟩
    conv => whnf
    exact hF3
  · conv => whnf
    exact hF5
  · conv => whnf
    exact hF17
  refine tab_2 rfl ?_ ?_ ?_
  · conv => whnf
    exact hF5
  · conv => whnf
    exact hF20
  refine tab_2 rfl ?_ ?_ ?_
  · conv => whnf
    exact hF17
  · conv => whnf
    exact hF20
  refine tab_2 rfl ?_ ?_ ?_
  · conv => whnf
    exact hF7
  · conv => whnf
    exact hF19
  refine tab_2 rfl ?_ ?_ ?_
  · conv => whnf
    refine ⟨_, fun _ => call46 35, ?_⟩
    conv => whnf
    exact hF7
  · conv => whnf
    exact hF21
  refine tab_2 rfl ?_ ?_ ?_
  · conv => whnf
    refine ⟨_, fun _ => call46 35, ?_⟩
    conv => whnf
    exact hF19
  · conv => whnf
    exact hF21
  refine tab_1 rfl ?_ ?_
  · conv => whnf
    exact hF21
  refine tab_2 rfl ?_ ?_ ?_
  · conv => whnf
    refine ⟨_, fun _ => call46 36, ?_⟩
    conv => whnf
    exact hF15
  · conv => whnf
    exact hF23
  refine tab_1 rfl ?_ ?_
  · conv => whnf
    exact hF23
  refine tab_1 rfl ?_ ?_
  · conv => whnf
    refine ⟨_, fun _ => call46 35, ?_⟩
    conv => whnf
    exact hF23
  refine tab_1 rfl ?_ ?_
  · conv => whnf
    exact hF31
  refine tab_1 rfl ?_ ?_
  · conv => whnf
    refine ⟨_, fun _ => call46 36, ?_⟩
    conv => whnf
    exact hF31
  refine tab_1 rfl ?_ ?_
  · conv => whnf
    exact hF63
  refine tab_1 rfl ?_ ?_
  · conv => whnf
    exact hF127
  refine tab_0 rfl ?_ trivial
  · conv => whnf
    try exact rfl
  refine ⟨rfl, ?_⟩
  conv => whnf
  refine ifB_intro (fun h => ?_) (fun h => ?_)
  · conv => whnf
    refine ⟨rfl, congrArg D.bool ?_⟩
    have h : (bif bif bif decide (lv < 1) then true else decide ((3 : Int) < lv) then true else decide (n < 0) then true else decide (100 < n)) = true := h
    simp only [or_eq, Bool.or_eq_true, decide_eq_true_eq] at h
    have e : (decide (1 ≤ lv) && decide (lv ≤ 3) && decide (0 ≤ n) && decide (n ≤ 100)) = false := by
      rw [Bool.eq_false_iff]
      intro hh
      simp only [Bool.and_eq_true, decide_eq_true_eq] at hh
      omega
    unfold ruleOK
    rw [e]
    rfl
  · have h : (bif bif bif decide (lv < 1) then true else decide ((3 : Int) < lv) then true else decide (n < 0) then true else decide (100 < n)) = false := h
    have hh : (lv = 1 ∨ lv = 2 ∨ lv = 3) ∧ 0 ≤ n ∧ n ≤ 100 := by
      simp only [or_eq, Bool.or_eq_false_iff, decide_eq_false_iff_not] at h
      omega
    obtain ⟨hlv, hn⟩ := hh
    clear h
    have fin : ∀ m : Nat, m = 1 ∨ m = 2 ∨ m = 3 → (bif placesOK m (d0, d1, d2) then placesOK m (s0, s1, s2) else false) = ruleOK (m : Int) n (d0, d1, d2) (s0, s1, s2) := by
      intro m hm
      unfold ruleOK
      have e : (decide (1 ≤ (m : Int)) && decide ((m : Int) ≤ 3) && decide (0 ≤ n) && decide (n ≤ 100)) = true := by
        simp only [Bool.and_eq_true, decide_eq_true_eq]
        omega
      rw [e, and_eq]
      rfl
    rcases hlv with rfl | rfl | rfl
    · conv => whnf
      refine ⟨[], ?_⟩
      conv => whnf
      refine ⟨4, ?_⟩
      conv => whnf
      refine ⟨_, fun _ => hold3 1 (by simp) d0 d1 d2 h1 h2 h3, ?_⟩
      conv => whnf
      refine ⟨_, fun _ => hold3 1 (by simp) s0 s1 s2 h4 h5 h6, ?_⟩
      conv => whnf
      exact ⟨rfl, congrArg D.bool (fin 1 (by simp))⟩
    · conv => whnf
      refine ⟨[], ?_⟩
      conv => whnf
      refine ⟨4, ?_⟩
      conv => whnf
      refine ⟨_, fun _ => hold3 2 (by simp) d0 d1 d2 h1 h2 h3, ?_⟩
      conv => whnf
      refine ⟨_, fun _ => hold3 2 (by simp) s0 s1 s2 h4 h5 h6, ?_⟩
      conv => whnf
      exact ⟨rfl, congrArg D.bool (fin 2 (by simp))⟩
    · conv => whnf
      refine ⟨[], ?_⟩
      conv => whnf
      refine ⟨4, ?_⟩
      conv => whnf
      refine ⟨_, fun _ => hold3 3 (by simp) d0 d1 d2 h1 h2 h3, ?_⟩
      conv => whnf
      refine ⟨_, fun _ => hold3 3 (by simp) s0 s1 s2 h4 h5 h6, ?_⟩
      conv => whnf
      exact ⟨rfl, congrArg D.bool (fin 3 (by simp))⟩
theorem call16 (lv n : Int) (one : Bool) (d0 d1 d2 s0 s1 s2 : S8) (h1 : d0.length ≤ 1000000) (h2 : d1.length ≤ 1000000) (h3 : d2.length ≤ 1000000) (h4 : s0.length ≤ 1000000) (h5 : s1.length ≤ 1000000) (h6 : s2.length ≤ 1000000) :
    CallsTo Tryz.prog 16 [.agg [.int .i64 lv, .int .i64 n, .bool one, .str d0, .str d1, .str d2, .str s0, .str s1, .str s2]] (.bool (ruleOK lv n (d0, d1, d2) (s0, s1, s2))) :=
  calls Tryz.func16 rfl (by decide) (run16 lv n one d0 d1 d2 s0 s1 s2 h1 h2 h3 h4 h5 h6)
end Go.Proofs.YtnooelecdbbfkaaGreatDoor.Fw

/- Sorting of rows by insertion. -/
namespace Go.Proofs.YtnooelecdbbfkaaGreatDoor.Fw
open Go Go.RowKit
set_option linter.unusedSectionVars false
variable [Inhabited GLT]
set_option maxRecDepth 100000
set_option maxHeartbeats 4000000

section
variable {α : Type} (lt : α → α → Bool)
/-- An element goes down as long as it is ahead of the one below it. -/
def sift : Nat → List α → List α
  | 0, L => L
  | j + 1, L => match L[j + 1]?, L[j]? with
    | some a, some b => bif lt a b then sift j ((L.set (j + 1) b).set j a) else L
    | _, _ => L
def sortTo (L : List α) : Nat → List α
  | 0 => L
  | i + 1 => sift lt i (sortTo L i)
theorem sift_length : ∀ (j : Nat) (L : List α), (sift lt j L).length = L.length
  | 0, L => rfl
  | j + 1, L => by
    unfold sift
    split
    · rename_i a b _ _
      cases lt a b
      · rfl
      · rw [cond_true, sift_length j]; simp
    · rfl
theorem sortTo_length (L : List α) : ∀ i, (sortTo lt L i).length = L.length
  | 0 => rfl
  | i + 1 => by rw [sortTo, sift_length, sortTo_length L i]
def isort (L : List α) : List α := sortTo lt L L.length
end

abbrev hS : List (Nat × Nat) := [(1000000, rowMark)]
def hR (u es : Nat) (xs : List D) : List (Nat × RowC) := [(1000000, ⟨u, es, xs, false⟩)]
end Go.Proofs.YtnooelecdbbfkaaGreatDoor.Fw

/- Copies of rows, the sorter's front. -/
namespace Go.Proofs.YtnooelecdbbfkaaGreatDoor.Fw
open Go Go.RowKit
set_option linter.unusedSectionVars false
variable [Inhabited GLT]
set_option maxRecDepth 100000
set_option maxHeartbeats 4000000

def Ctx.no (c : Ctx) (k : Nat) : Ctx := { c with σ := fun s => if s = k then none else c.σ s }
theorem memOut_new {c c' : Ctx} {w w' : World} (M : MemOut c c' [] [] [] [] [] [] w w') {k q : Nat} {rw' : List (Nat × RowC)} (hk : k < bigS) (hrow : ∀ st r, look st rw' = some r → RowOK (c'.no k) (memEnv [] [(k, q)] rw') w' st r) : MemOut c (c'.no k) [] [] [] [(k, q)] [] rw' w w' := by
  have hus : ∀ st, (look st [(k, q)]).isSome = true → st = k := fun st h => by
    rw [look_cons] at h
    split at h
    · rename_i e; exact e.symm
    · cases h
  have hσ : ∀ st, (look st [(k, q)]).isSome = true → (c'.no k).σ st = none := fun st h => by rw [hus st h]; simp [Ctx.no]
  exact ⟨⟨fun s b h => (by cases h), fun s s' h => (by cases h), fun s h => (by cases h), fun st st' g h1 h2 h3 => (by rw [hσ st h1] at h3; cases h3), fun st g h1 h3 => (by rw [hσ st h1] at h3; cases h3), M.mem.im, hrow⟩,
    M.keeps, M.os, M.tape, M.output, M.size, M.block, M.imNew, fun s h => (by cases h), fun st g h1 h3 => (by rw [hσ st h1] at h3; cases h3), fun st hb h1 => (by have := hus st h1; omega)⟩
section
variable {P : Program} {f : Nat} {ds : List D} {k u es es0 : Nat}
/-- Nothing, as a row that is changed in place. -/
theorem callsR_row0 (hk2 : 2 ≤ k) (hk : k < bigS) (hes : es ≠ 0) (h : CallsR P f [] [] [] ds (.sl 1 es0 []) [] [] []) : CallsR P f [] [] [] ds (.rsl k es 0 0) [] [(k, rowMark)] [(k, ⟨u, es, [], false⟩)] := by
  refine ⟨h.1, fun c w vs hm hrep => Calls.mono (h.2 c w vs hm hrep) fun e w' he => ?_⟩
  obtain ⟨v, c', e1, M, e2⟩ := he
  have hr : RepC c' (memEnv [] [] []) w' (.sl 1 es0 []) v := e2
  have h1 := repC_one hr
  obtain ⟨_, h2⟩ := hr
  obtain ⟨b, hv⟩ : ∃ b, v = .slice b 0 0 := by
    rcases h2 with h2 | h2 | h2
    · cases h2
    · exact h2.2
    · exact absurd h2.1 (by omega)
  refine ⟨v, c'.no k, e1, memOut_new M hk fun st r hl => ?_, ?_⟩
  · rw [look_cons] at hl
    split at hl
    · rename_i e; subst e; cases hl
      exact ⟨hk2, by simp [memEnv, look_cons], .inr ⟨Nat.pos_of_ne_zero hes, by simp [Ctx.no]⟩⟩
    · cases hl
  · show RepC (c'.no k) (memEnv [] [(k, rowMark)] [(k, ⟨u, es, [], false⟩)]) w' (.rsl k es 0 0) v
    refine ⟨by simp [memEnv, look_cons], h1, .inr ?_⟩
    simp only [Ctx.no, if_true]
    exact ⟨trivial, trivial, b, hv⟩
/-- Nothing, as a row that may be appended to. -/
theorem callsR_own0 (hk2 : 2 ≤ k) (hk : k < bigS) (hu : u ≠ rowMark) (h : CallsR P f [] [] [] ds (.sl 1 es0 []) [] [] []) : CallsR P f [] [] [] ds (.sl k es []) [] [(k, u)] [] := by
  refine ⟨h.1, fun c w vs hm hrep => Calls.mono (h.2 c w vs hm hrep) fun e w' he => ?_⟩
  obtain ⟨v, c', e1, M, e2⟩ := he
  have hr : RepC c' (memEnv [] [] []) w' (.sl 1 es0 []) v := e2
  have h1 := repC_one hr
  obtain ⟨h0, h2⟩ := hr
  obtain ⟨b, hv⟩ : ∃ b, v = .slice b 0 0 := by
    rcases h2 with h2 | h2 | h2
    · cases h2
    · exact h2.2
    · exact absurd h2.1 (by omega)
  refine ⟨v, c'.no k, e1, memOut_new M hk fun st r hl => (by cases hl), ?_⟩
  · show RepC (c'.no k) (memEnv [] [(k, u)] []) w' (.sl k es []) v
    refine ⟨⟨rfl, ?_⟩, .inr (.inr ⟨hk2, u, by simp [memEnv, look_cons], hu, .inr ?_⟩)⟩
    · rcases h0.2 with ⟨h3, h4⟩ | ⟨a, cap, h3, h4, h5⟩
      · exact .inl ⟨h3, h4⟩
      · exact .inr ⟨a, cap, h3, h4, by simp only [RepRow]⟩
    · simp only [Ctx.no, if_true]
      exact ⟨b, hv⟩
end

theorem callsR_imp {P : Program} {f : Nat} {bx us rw ds us'} {Q : D → List (Nat × BoxC) → List (Nat × RowC) → Prop} {d bx' rw'} (h : ∃ d bx' rw', Q d bx' rw' ∧ CallsR P f bx us rw ds d bx' us' rw') (e : ∀ a b c, Q a b c → a = d ∧ b = bx' ∧ c = rw') : CallsR P f bx us rw ds d bx' us' rw' := by
  obtain ⟨a, b, c, h1, h2⟩ := h
  obtain ⟨rfl, rfl, rfl⟩ := e a b c h1
  exact h2

abbrev Ts := Tm [] [9]
abbrev hN (es u n : Nat) (xs : List D) : D × List (Nat × RowC) := (.rsl 17 es 0 n, [(17, ⟨u, es, xs, false⟩)])
theorem run178a (x : S8) (l : List S8) (hl : l.length ≤ 1000000) : RunsR Tryz.prog Ts 8 (Tryz.f178.body.getD .skip) Tryz.f178.results.toList ([]) ([]) ([]) [.sl 0 1 ((x :: l).map D.str)] (fun d bx rw => d = .rsl 17 1 0 (l.length + 1) ∧ bx = [] ∧ rw = [(17, ⟨9, 1, (x :: l).map D.str, false⟩)]) ([(17, rowMark)]) := by
  refine ⟨Nat.le_of_ble_eq_true rfl, rfl, ?_⟩
  conv => whnf
  refine sideB_intro (fun _ => ?_) ?_
  · simp [appendSide]; omega
  conv => whnf
  exact ⟨rfl, congrArg (D.rsl 17 1 0) (by simp), rfl, rfl⟩
theorem run178b  : RunsR Tryz.prog Ts 8 (Tryz.f178.body.getD .skip) Tryz.f178.results.toList ([]) ([]) ([]) [.sle] (fun d bx rw => d = .rsl 17 1 0 0 ∧ bx = [] ∧ rw = [(17, ⟨9, 1, [], false⟩)]) ([(17, rowMark)]) := by
  refine ⟨Nat.le_of_ble_eq_true rfl, rfl, ?_⟩
  conv => whnf
  exact ⟨rfl, rfl, rfl, rfl⟩
theorem run178c  : RunsR Tryz.prog Ts 8 (Tryz.f178.body.getD .skip) Tryz.f178.results.toList ([]) ([]) ([]) [.nils] (fun d bx rw => d = .sl 1 0 [] ∧ bx = [] ∧ rw = []) ([]) := by
  refine ⟨Nat.le_of_ble_eq_true rfl, rfl, ?_⟩
  conv => whnf
  exact ⟨rfl, rfl, rfl, rfl⟩
theorem run178d (x : S8) (l : List S8) (hl : l.length ≤ 1000000) : RunsM Tryz.prog T 8 (Tryz.f178.body.getD .skip) Tryz.f178.results.toList [] [] [.sl 0 1 ((x :: l).map D.str)] (fun d bx => d = .sl 17 1 ((x :: l).map D.str) ∧ bx = []) [(17, 9)] := by
  refine ⟨Nat.le_of_ble_eq_true rfl, rfl, ?_⟩
  conv => whnf
  refine sideB_intro (fun _ => ?_) ?_
  · simp; omega
  conv => whnf
  exact ⟨rfl, rfl, rfl⟩
theorem run178e  : RunsM Tryz.prog T 8 (Tryz.f178.body.getD .skip) Tryz.f178.results.toList [] [] [.sle] (fun d bx => d = .sl 17 1 [] ∧ bx = []) [(17, 9)] := by
  refine ⟨Nat.le_of_ble_eq_true rfl, rfl, ?_⟩
  conv => whnf
  exact ⟨rfl, rfl, rfl⟩
/-- A copy, as a row that is changed in place. -/
theorem call178 (l : List S8) (hl : l.length ≤ 1000000) : CallsR Tryz.prog 178 [] [] [] [.sl 0 1 (l.map D.str)] (.rsl 17 1 0 l.length) [] [(17, rowMark)] [(17, ⟨9, 1, l.map D.str, false⟩)] := by
  cases l with
  | cons x l => exact callsR_imp (callsR Tryz.func178 rfl (by decide) (run178a x l (by simp at hl; omega))) fun a b c h => h
  | nil => exact callsR_nil (callsR_row0 (by decide) (by decide) (by decide) (callsR_imp (callsR Tryz.func178 rfl (by decide) run178c) fun a b c h => h)) (callsR_imp (callsR Tryz.func178 rfl (by decide) run178b) fun a b c h => h)
/-- A copy, as a row that may be appended to. -/
theorem call178m (l : List S8) (hl : l.length ≤ 1000000) : CallsM Tryz.prog 178 [] [] [.sl 0 1 (l.map D.str)] (.sl 17 1 (l.map D.str)) [] [(17, 9)] := by
  cases l with
  | cons x l =>
    obtain ⟨d, bx', ⟨rfl, rfl⟩, h⟩ := callsM Tryz.func178 rfl (by decide) (run178d x l (by simp at hl; omega))
    exact h
  | nil =>
    refine callsR_nil (callsR_own0 (es0 := 0) (by decide) (by decide) (by decide) (callsR_imp (callsR Tryz.func178 rfl (by decide) run178c) fun a b c h => h)) ?_
    obtain ⟨d, bx', ⟨rfl, rfl⟩, h⟩ := callsM Tryz.func178 rfl (by decide) run178e
    exact h
end Go.Proofs.YtnooelecdbbfkaaGreatDoor.Fw

/- The sorter's front: rows of at most 12. -/
namespace Go.Proofs.YtnooelecdbbfkaaGreatDoor.Fw
open Go Go.RowKit
set_option linter.unusedSectionVars false
variable [Inhabited GLT]
set_option maxRecDepth 100000
set_option maxHeartbeats 4000000

theorem run227 (n : Nat) (hn : n ≤ 12) : RunsQ Tryz.prog T 25 (Tryz.f227.body.getD .skip) Tryz.f227.results.toList [.int .u64 n] (fun d => ∃ m, d = .int .i64 m) := by
  refine ⟨Nat.le_of_ble_eq_true rfl, ?_⟩
  conv => whnf
  refine ifB_intro (fun h => ?_) (fun h => ?_)
  · have := of_decide_eq_true h; omega
  conv => whnf
  refine ifB_intro (fun h => ?_) (fun h => ?_)
  · have := of_decide_eq_true h; omega
  conv => whnf
  refine ifB_intro (fun h => ?_) (fun h => ?_)
  · have := of_decide_eq_true h; omega
  conv => whnf
  have hw : IntKind.u8.wrap (n : Int) = n := by
    rcases (show n = 0 ∨ n = 1 ∨ n = 2 ∨ n = 3 ∨ n = 4 ∨ n = 5 ∨ n = 6 ∨ n = 7 ∨ n = 8 ∨ n = 9 ∨ n = 10 ∨ n = 11 ∨ n = 12 from by omega) with rfl | rfl | rfl | rfl | rfl | rfl | rfl | rfl | rfl | rfl | rfl | rfl | rfl <;> rfl
  refine sideB_intro (fun _ => decide_eq_true ?_) ?_
  · rw [hw]
    exact ⟨by omega, by show (n : Int) < 256; omega⟩
  conv => whnf
  exact ⟨rfl, _, rfl⟩
theorem call227 (n : Nat) (hn : n ≤ 12) : ∃ d, (fun d => ∃ m, d = .int .i64 m) d ∧ CallsTo Tryz.prog 227 [.int .u64 n] d := by
  obtain ⟨d, h, k⟩ := runsQ_one (run227 n hn)
  exact ⟨d, h, calls Tryz.func227 rfl (by decide) k⟩
theorem run207 (n : Nat) (hn : n ≤ 12) : RunsQ Tryz.prog T 8 (Tryz.f207.body.getD .skip) Tryz.f207.results.toList [.int .u64 n] (fun d => ∃ m, d = .int .i64 m) := by
  refine ⟨Nat.le_of_ble_eq_true rfl, ?_⟩
  conv => whnf
  obtain ⟨d, ⟨m, rfl⟩, hc⟩ := call227 n hn
  refine ⟨_, fun _ => hc, ?_⟩
  conv => whnf
  exact ⟨rfl, _, rfl⟩
theorem call207 (n : Nat) (hn : n ≤ 12) : ∃ d, (fun d => ∃ m, d = .int .i64 m) d ∧ CallsTo Tryz.prog 207 [.int .u64 n] d := by
  obtain ⟨d, h, k⟩ := runsQ_one (run207 n hn)
  exact ⟨d, h, calls Tryz.func207 rfl (by decide) k⟩
theorem len12 (n : Nat) (hn : n ≤ 12) : ∃ m, CallsTo Tryz.prog 207 [.int .u64 (IntKind.u64.wrap (n : Int))] (.int .i64 m) := by
  have hw : IntKind.u64.wrap (n : Int) = n := by
    rcases (show n = 0 ∨ n = 1 ∨ n = 2 ∨ n = 3 ∨ n = 4 ∨ n = 5 ∨ n = 6 ∨ n = 7 ∨ n = 8 ∨ n = 9 ∨ n = 10 ∨ n = 11 ∨ n = 12 from by omega) with rfl | rfl | rfl | rfl | rfl | rfl | rfl | rfl | rfl | rfl | rfl | rfl | rfl <;> rfl
  obtain ⟨d, ⟨m, rfl⟩, hc⟩ := call207 n hn
  exact ⟨m, by rw [hw]; exact hc⟩
end Go.Proofs.YtnooelecdbbfkaaGreatDoor.Fw

/- Sorting of keys by insertion, and the sorter's front for them. -/
namespace Go.Proofs.YtnooelecdbbfkaaGreatDoor.Fw
open Go Go.RowKit
set_option linter.unusedSectionVars false
variable [Inhabited GLT]
set_option maxRecDepth 100000
set_option maxHeartbeats 4000000

theorem cmp_lt (a b : S8) : decide (cmp8 a b < 0) = lt8 a b := by
  unfold cmp8
  cases h : lt8 a b with
  | true => simp
  | false =>
    by_cases e : a = b
    · simp [e]
    · simp [e]
end Go.Proofs.YtnooelecdbbfkaaGreatDoor.Fw

/- Tables: searching. -/
namespace Go.Proofs.YtnooelecdbbfkaaGreatDoor.Fw
open Go Go.RowKit
set_option linter.unusedSectionVars false
variable [Inhabited GLT]
set_option maxRecDepth 100000
set_option maxHeartbeats 4000000

/-- Where a search ends. -/
def bsr (p : Nat → Bool) : Nat → Nat → Nat → Nat
  | 0, i, _ => i
  | f + 1, i, j => if i < j then (if p ((i + j) / 2) then bsr p f i ((i + j) / 2) else bsr p f ((i + j) / 2 + 1) j) else i
def srch (p : Nat → Bool) (n : Nat) : Nat := bsr p n 0 n
theorem bsr_end (p : Nat → Bool) : ∀ {f i j : Nat}, ¬ i < j → bsr p f i j = i
  | 0, _, _, _ => rfl
  | f + 1, i, j, h => if_neg h
theorem bsr_spec (p : Nat → Bool) (n : Nat) (hm : ∀ x y, x ≤ y → y < n → p x = true → p y = true) : ∀ (f i j : Nat), j ≤ i + f → i ≤ j → j ≤ n → (∀ x, x < i → p x = false) → (∀ x, j ≤ x → x < n → p x = true) → bsr p f i j ≤ n ∧ (∀ x, x < bsr p f i j → p x = false) ∧ ∀ x, bsr p f i j ≤ x → x < n → p x = true
  | 0, i, j, h1, h2, h3, h4, h5 => by
    have : i = j := by omega
    subst this
    exact ⟨h3, h4, h5⟩
  | f + 1, i, j, h1, h2, h3, h4, h5 => by
    unfold bsr
    by_cases hij : i < j
    · rw [if_pos hij]
      by_cases hp : p ((i + j) / 2) = true
      · rw [if_pos hp]
        exact bsr_spec p n hm f i _ (by omega) (by omega) (by omega) h4 fun x hx hn => hm _ x hx hn hp
      · rw [if_neg hp]
        exact bsr_spec p n hm f _ j (by omega) (by omega) h3 (fun x hx => by
          cases hpx : p x with
          | false => rfl
          | true => exact absurd (hm x _ (by omega) (by omega) hpx) hp) h5
    · rw [if_neg hij]
      have : i = j := by omega
      subst this
      exact ⟨h3, h4, h5⟩
theorem srch_spec (p : Nat → Bool) (n : Nat) (hm : ∀ x y, x ≤ y → y < n → p x = true → p y = true) : srch p n ≤ n ∧ (∀ x, x < srch p n → p x = false) ∧ ∀ x, srch p n ≤ x → x < n → p x = true :=
  bsr_spec p n hm n 0 n (by omega) (by omega) (Nat.le_refl _) (fun x h => absurd h (by omega)) fun x h1 h2 => absurd h1 (by omega)
/-- The i-th row's key is not ahead of a text. -/
def geK (t : Tab) (key : S8) (i : Nat) : Bool := !lt8 (t.key i) key
end Go.Proofs.YtnooelecdbbfkaaGreatDoor.Fw

/- Tables: rows of a beginning; finding. -/
namespace Go.Proofs.YtnooelecdbbfkaaGreatDoor.Fw
open Go Go.RowKit
set_option linter.unusedSectionVars false
variable [Inhabited GLT]
set_option maxRecDepth 100000
set_option maxHeartbeats 4000000

theorem bsr_le (p : Nat → Bool) : ∀ (f : Nat) {i j : Nat}, i ≤ j → bsr p f i j ≤ j
  | 0, _, _, h => h
  | f + 1, i, j, h => by
    unfold bsr
    by_cases hij : i < j
    · rw [if_pos hij]
      by_cases hp : p ((i + j) / 2) = true
      · rw [if_pos hp]; exact Nat.le_trans (bsr_le p f (by omega)) (by omega)
      · rw [if_neg hp]; exact bsr_le p f (by omega)
    · rw [if_neg hij]; exact h
def fromK (t : Tab) (key : S8) : Nat := srch (geK t key) t.n
def preGo (t : Tab) (key : S8) : Nat → Nat → List (Nat × S8)
  | 0, _ => []
  | f + 1, i => bif decide (i < t.n) && pre (t.key i) key then (i, t.row i) :: preGo t key f (i + 1) else []
def prefL (t : Tab) (key : S8) : List (Nat × S8) := preGo t key (t.n - fromK t key) (fromK t key)
def encR (p : Nat × S8) : List D := [.int .i64 p.1, .str p.2]
def Env.setY (ys : Option (Nat × List (List D))) (env : Env) : Env := { env with ys := ys }
theorem preGo_head {t : Tab} {key : S8} : ∀ {f i0 i : Nat} {r : S8} {l : List (Nat × S8)}, preGo t key f i0 = (i, r) :: l → i = i0 ∧ i < t.n ∧ r = t.row i ∧ pre (t.key i) key = true
  | 0, i0, i, r, l, h => by cases h
  | f + 1, i0, i, r, l, h => by
    unfold preGo at h
    cases hc : (decide (i0 < t.n) && pre (t.key i0) key) with
    | false => rw [hc] at h; cases h
    | true =>
      rw [hc, cond_true] at h
      simp only [List.cons.injEq, Prod.mk.injEq] at h
      obtain ⟨⟨rfl, rfl⟩, _⟩ := h
      simp only [Bool.and_eq_true, decide_eq_true_eq] at hc
      exact ⟨rfl, hc.1, rfl, hc.2⟩
/-- The row of a key. -/
def findT (t : Tab) (key : S8) : Option S8 := match prefL t key with
  | (i, _) :: _ => bif t.key i == key then some (t.row i) else none
  | [] => none
end Go.Proofs.YtnooelecdbbfkaaGreatDoor.Fw

/- Sorting of rows by their keys. -/
namespace Go.Proofs.YtnooelecdbbfkaaGreatDoor.Fw
open Go Go.RowKit
set_option linter.unusedSectionVars false
variable [Inhabited GLT]
set_option maxRecDepth 100000
set_option maxHeartbeats 4000000

/-- By the first k bytes. -/
abbrev ltP (k : Nat) (a b : S8) : Bool := lt8 (a.take k) (b.take k)
theorem sift_all {α : Type} (lt : α → α → Bool) {P : α → Prop} : ∀ (j : Nat) (L : List α), (∀ x ∈ L, P x) → ∀ x ∈ sift lt j L, P x
  | 0, L, h => h
  | j + 1, L, h => by
    unfold sift
    split
    · rename_i a b ha hb
      cases lt a b
      · exact h
      · rw [cond_true]
        refine sift_all lt j _ fun z hz => ?_
        rcases List.mem_or_eq_of_mem_set hz with hz | rfl
        · rcases List.mem_or_eq_of_mem_set hz with hz | rfl
          · exact h z hz
          · exact h _ (List.mem_of_getElem? hb)
        · exact h _ (List.mem_of_getElem? ha)
    · exact h
theorem sortTo_all {α : Type} (lt : α → α → Bool) {P : α → Prop} {L : List α} (h : ∀ x ∈ L, P x) : ∀ i, ∀ x ∈ sortTo lt L i, P x
  | 0 => h
  | i + 1 => sift_all lt i _ (sortTo_all lt h i)
theorem run180 (k : Nat) (a b : S8) (ha : k ≤ a.length) (hb : k ≤ b.length) : Runs Tryz.prog T 13 (Tryz.f180.body.getD .skip) Tryz.f180.results.toList [.str a, .str b, .eptr (.int .i64 k) 0] (.int .i64 (cmp8 (a.take k) (b.take k))) := by
  refine ⟨Nat.le_of_ble_eq_true rfl, ?_⟩
  conv => whnf
  refine ⟨rfl, ?_⟩
  conv => whnf
  refine sideB_intro (fun _ => decide_eq_true (by omega)) ?_
  conv => whnf
  refine sideB_intro (fun _ => decide_eq_true (by omega)) ?_
  conv => whnf
  have e : ∀ s : S8, sliceD s (Int.toNat ((0 : Nat) : Int)) (Int.toNat (k : Int)) = s.take k := fun s => by simp [sliceD]
  rw [e, e]
  refine ⟨_, fun _ => call181 (a.take k) (b.take k), ?_⟩
  conv => whnf
  exact ⟨rfl, rfl⟩
theorem call180 (k : Nat) (a b : S8) (ha : k ≤ a.length) (hb : k ≤ b.length) : CallsTo Tryz.prog 180 [.str a, .str b, .eptr (.int .i64 k) 0] (.int .i64 (cmp8 (a.take k) (b.take k))) := calls Tryz.func180 rfl (by decide) (run180 k a b ha hb)
theorem run218 (k : Nat) (l : List S8) (hl : l.length ≤ 1000000) (hkl : ∀ x ∈ l, k ≤ x.length) : RunsR Tryz.prog T 53 (Tryz.f218.body.getD .skip) Tryz.f218.results.toList ([]) (hS) (hR 9 1 (l.map D.str)) [.rsl 1000000 1 0 l.length, .int .i64 0, .int .i64 l.length, .fn 180 [.eptr (.int .i64 k) 0]] (fun d bx rw => d = .tup [] ∧ bx = [] ∧ rw = hR 9 1 ((isort (ltP k) l).map D.str)) (hS) := by
  refine ⟨Nat.le_of_ble_eq_true rfl, rfl, ?_⟩
  conv => whnf
  refine ⟨[], ?_⟩
  conv => whnf
  refine loop_at (σ := Nat) (fun i env => (env.setT 8 (.int .i64 ((i + 1 : Nat) : Int))).setX 1000000 ((sortTo (ltP k) l (i + 1)).map D.str)) (fun i => l.length - i) (fun i => i + 1 ≤ l.length ∨ i = 0) 0 (.inr rfl) rfl ?_
  rintro i hi ih
  conv => whnf
  refine ifB_intro (fun h => ?_) (fun h => ?_)
  · have h : ((i + 1 : Nat) : Int) < (l.length : Int) := of_decide_eq_true h
    have hlt : i + 1 < l.length := by omega
    have hw : IntKind.i64.wrap (((i + 1 : Nat) : Int) + 1) = ((i + 1 + 1 : Nat) : Int) := by rw [IntKind.wrap_i64]; omega
    have ih' := ih (i + 1) (.inl hlt) (by omega)
    have hlen := sortTo_length (ltP k) l (i + 1)
    have hmem : ∀ x ∈ sortTo (ltP k) l (i + 1), k ≤ x.length := sortTo_all (ltP k) hkl (i + 1)
    rw [sortTo] at ih'
    revert ih' hlen hmem
    generalize sortTo (ltP k) l (i + 1) = L0
    intro ih' hlen hmem
    conv => whnf
    refine ⟨[], ?_⟩
    conv => whnf
    refine loop_at (σ := Nat × List S8) (fun q env => (env.setT 9 (.int .i64 (q.1 : Int))).setX 1000000 (q.2.map D.str)) (fun q => q.1 + (l.length - l.length)) (fun q => q.1 ≤ i + 1 ∧ q.2.length = l.length ∧ (∀ x ∈ q.2, k ≤ x.length) ∧ sift (ltP k) q.1 q.2 = sift (ltP k) (i + 1) L0) (i + 1, L0) ⟨Nat.le_refl _, hlen, hmem, rfl⟩ rfl ?_
    rintro ⟨j, M⟩ ⟨hj, hM, hMk, hs⟩ ih2
    replace hj : j ≤ i + 1 := hj
    replace hM : M.length = l.length := hM
    replace hMk : ∀ x ∈ M, k ≤ x.length := hMk
    replace hs : sift (ltP k) j M = sift (ltP k) (i + 1) L0 := hs
    have hjl : j < M.length := by omega
    have hj1 : j - 1 < M.length := by omega
    obtain ⟨x, hx⟩ : ∃ x, M[j]? = some x := ⟨_, List.getElem?_eq_getElem hjl⟩
    obtain ⟨y, hy⟩ : ∃ y, M[j - 1]? = some y := ⟨_, List.getElem?_eq_getElem hj1⟩
    have hxk := hMk x (List.mem_of_getElem? hx)
    have hyk := hMk y (List.mem_of_getElem? hy)
    have hk := zero_toNat j
    have hk1 : 0 + Int.toNat (IntKind.i64.wrap ((j : Int) - 1)) = j - 1 := by rw [IntKind.wrap_i64]; omega
    conv => whnf
    refine ⟨rfl, ?_⟩
    conv => whnf
    refine sideB_intro (fun _ => decide_eq_true (by dsimp only; omega)) ?_
    conv => whnf
    refine fD_of (getD_enc (enc := D.str) (x := x) (by dsimp only; rw [hk]; exact hx)) ?_
    conv => whnf
    refine sideB_intro (fun _ => blt_of (by simp only [List.length_map]; omega)) ?_
    conv => whnf
    refine sideB_intro (fun hg => ?_) ?_
    · have hg : decide ((0 : Int) < (j : Int)) = true := hg
      have hg := of_decide_eq_true hg
      exact decide_eq_true (by dsimp only; rw [IntKind.wrap_i64]; omega)
    conv => whnf
    refine fD_of (getD_enc (enc := D.str) (x := y) (by dsimp only; rw [hk1]; exact hy)) ?_
    conv => whnf
    refine sideB_intro (fun _ => blt_of (by simp only [List.length_map]; omega)) ?_
    conv => whnf
    refine ⟨_, fun _ => call180 k x y hxk hyk, ?_⟩
    conv => whnf
    refine ifB_intro (fun hb => ?_) (fun hb => ?_)
    · have hb : 0 < j ∧ (ltP k) x y = true := by
        have hb : (bif decide ((0 : Int) < (j : Int)) then decide (cmp8 (x.take k) (y.take k) < 0) else false) = true := hb
        rw [cmp_lt] at hb
        by_cases h0 : (0 : Int) < (j : Int)
        · rw [decide_eq_true h0, cond_true] at hb; exact ⟨by omega, hb⟩
        · rw [decide_eq_false h0] at hb; cases hb
      obtain ⟨j, rfl⟩ : ∃ q, j = q + 1 := ⟨j - 1, by omega⟩
      have hsw : sift (ltP k) (j + 1) M = sift (ltP k) j ((M.set (j + 1) y).set j x) := by
        rw [sift, hx, show M[j]? = some y from hy]
        simp only [hb.2, cond_true]
      have ih3 := ih2 (j, (M.set (j + 1) y).set j x) ⟨by show j ≤ i + 1; omega, by simp [hM], fun z hz => (by
          rcases List.mem_or_eq_of_mem_set hz with hz | rfl
          · rcases List.mem_or_eq_of_mem_set hz with hz | rfl
            · exact hMk z hz
            · exact hyk
          · exact hxk), hsw.symm.trans hs⟩ (by dsimp only; omega)
      have hw2 : IntKind.i64.wrap (((j + 1 : Nat) : Int) - 1) = (j : Int) := by rw [IntKind.wrap_i64]; omega
      have hkj := zero_toNat j
      conv => whnf
      refine ⟨rfl, ?_⟩
      conv => whnf
      refine sideB_intro (fun _ => decide_eq_true (by dsimp only; rw [hw2]; omega)) ?_
      conv => whnf
      refine fD_of (getD_enc (enc := D.str) (x := y) (by dsimp only; rw [hk1]; exact hy)) ?_
      conv => whnf
      refine sideB_intro (fun _ => blt_of (by simp only [List.length_map]; omega)) ?_
      conv => whnf
      refine sideB_intro (fun _ => decide_eq_true (by dsimp only; omega)) ?_
      conv => whnf
      refine fD_of (getD_enc (enc := D.str) (x := x) (by dsimp only; rw [hk]; exact hx)) ?_
      conv => whnf
      refine sideB_intro (fun _ => blt_of (by simp only [List.length_map]; omega)) ?_
      conv => whnf
      refine sideB_intro (fun _ => decide_eq_true (by dsimp only; omega)) ?_
      conv => whnf
      refine sideB_intro (fun _ => blt_of (by simp only [List.length_map]; omega)) ?_
      conv => whnf
      refine sideB_intro (fun _ => decide_eq_true (by dsimp only; rw [hw2]; omega)) ?_
      conv => whnf
      refine sideB_intro (fun _ => blt_of (by simp only [List.length_map, List.length_set]; omega)) ?_
      conv => whnf
      rw [hw2, hkj, hk, set_enc (enc := D.str) (x := y) (d := .str y) rfl, set_enc (enc := D.str) (x := x) (d := .str x) rfl]
      exact ih3
    · have hb : ¬ (0 < j ∧ (ltP k) x y = true) := fun ⟨h0, h1⟩ => by
        have hb : (bif decide ((0 : Int) < (j : Int)) then decide (cmp8 (x.take k) (y.take k) < 0) else false) = false := hb
        rw [cmp_lt] at hb
        rw [decide_eq_true (by omega), cond_true, show lt8 (x.take k) (y.take k) = true from h1] at hb; cases hb
      have he : sift (ltP k) j M = M := by
        cases j with
        | zero => rfl
        | succ j =>
          rw [sift, hx, show M[j]? = some y from hy]
          have : (ltP k) x y = false := by
            cases h1 : (ltP k) x y with
            | false => rfl
            | true => exact absurd ⟨by omega, h1⟩ hb
          simp only [this, cond_false]
      rw [he] at hs
      conv => whnf
      rw [hs, hw]
      exact ih'
  · conv => whnf
    have h : ¬ (((i + 1 : Nat) : Int) < (l.length : Int)) := of_decide_eq_false h
    refine ⟨rfl, rfl, rfl, ?_⟩
    have : sortTo (ltP k) l (i + 1) = isort (ltP k) l := by
      rcases hi with hi | rfl
      · rw [isort, show i + 1 = l.length from by omega]
      · rw [isort]
        rcases (show l.length = 0 ∨ l.length = 1 from by omega) with e | e
        · rw [List.eq_nil_of_length_eq_zero e]; rfl
        · rw [e]
    rw [this]; rfl
theorem call218 (k : Nat) (l : List S8) (hl : l.length ≤ 1000000) (hkl : ∀ x ∈ l, k ≤ x.length) : CallsR Tryz.prog 218 [] hS (hR 9 1 (l.map D.str)) [.rsl 1000000 1 0 l.length, .int .i64 0, .int .i64 l.length, .fn 180 [.eptr (.int .i64 k) 0]] (.tup []) [] hS (hR 9 1 ((isort (ltP k) l).map D.str)) := callsR_imp (callsR Tryz.func218 rfl (by decide) (run218 k l hl hkl)) fun a b c h => h
abbrev Tp3 := Tm [218] []
theorem run206 (k : Nat) (l : List S8) (hl : l.length ≤ 12) (hkl : ∀ x ∈ l, k ≤ x.length) (m : Int) : RunsR Tryz.prog Tp3 148 (Tryz.f206.body.getD .skip) Tryz.f206.results.toList ([]) (hS) (hR 9 1 (l.map D.str)) [.rsl 1000000 1 0 l.length, .int .i64 0, .int .i64 l.length, .int .i64 m, .fn 180 [.eptr (.int .i64 k) 0]] (fun d bx rw => d = .tup [] ∧ bx = [] ∧ rw = hR 9 1 ((isort (ltP k) l).map D.str)) (hS) := by
  refine ⟨Nat.le_of_ble_eq_true rfl, rfl, ?_⟩
  conv => whnf
  refine ⟨[], ?_⟩
  conv => whnf
  refine ⟨1, ?_⟩
  conv => whnf
  refine ifB_intro (fun _ => ?_) (fun h => ?_)
  · conv => whnf
    refine ⟨⟨[], [(1000000, 1000000)], .tup [], [], hS, hR 9 1 ((isort (ltP k) l).map D.str)⟩, ?_⟩
    conv => whnf
    refine ⟨rfl, call218 k l (by omega) hkl, ?_⟩
    conv => whnf
    exact ⟨rfl, rfl, rfl, rfl⟩
  · exfalso
    have h := of_decide_eq_false h
    rw [IntKind.wrap_i64] at h; omega
theorem call206 (k : Nat) (l : List S8) (hl : l.length ≤ 12) (hkl : ∀ x ∈ l, k ≤ x.length) (m : Int) : CallsR Tryz.prog 206 [] hS (hR 9 1 (l.map D.str)) [.rsl 1000000 1 0 l.length, .int .i64 0, .int .i64 l.length, .int .i64 m, .fn 180 [.eptr (.int .i64 k) 0]] (.tup []) [] hS (hR 9 1 ((isort (ltP k) l).map D.str)) := callsR_imp (callsR Tryz.func206 rfl (by decide) (run206 k l hl hkl m)) fun a b c h => h
abbrev Tq3 := Tm [206] []
theorem run179 (k : Nat) (l : List S8) (hl : l.length ≤ 12) (hkl : ∀ x ∈ l, k ≤ x.length) : RunsR Tryz.prog Tq3 14 (Tryz.f179.body.getD .skip) Tryz.f179.results.toList ([]) (hS) (hR 9 1 (l.map D.str)) [.rsl 1000000 1 0 l.length, .fn 180 [.eptr (.int .i64 k) 0]] (fun d bx rw => d = .tup [] ∧ bx = [] ∧ rw = hR 9 1 ((isort (ltP k) l).map D.str)) (hS) := by
  refine ⟨Nat.le_of_ble_eq_true rfl, rfl, ?_⟩
  conv => whnf
  obtain ⟨m, hc⟩ := len12 l.length hl
  refine ⟨_, fun _ => hc, ?_⟩
  conv => whnf
  refine ⟨⟨[], [(1000000, 1000000)], .tup [], [], hS, hR 9 1 ((isort (ltP k) l).map D.str)⟩, ?_⟩
  conv => whnf
  refine ⟨rfl, call206 k l hl hkl m, ?_⟩
  conv => whnf
  exact ⟨rfl, rfl, rfl, rfl⟩
theorem call179 (k : Nat) (l : List S8) (hl : l.length ≤ 12) (hkl : ∀ x ∈ l, k ≤ x.length) : CallsR Tryz.prog 179 [] hS (hR 9 1 (l.map D.str)) [.rsl 1000000 1 0 l.length, .fn 180 [.eptr (.int .i64 k) 0]] (.tup []) [] hS (hR 9 1 ((isort (ltP k) l).map D.str)) := callsR_imp (callsR Tryz.func179 rfl (by decide) (run179 k l hl hkl)) fun a b c h => h
end Go.Proofs.YtnooelecdbbfkaaGreatDoor.Fw

/- Tables: what is wrong; making them. -/
namespace Go.Proofs.YtnooelecdbbfkaaGreatDoor.Fw
open Go Go.RowKit
set_option linter.unusedSectionVars false
variable [Inhabited GLT]
set_option maxRecDepth 100000
set_option maxHeartbeats 4000000

/-- A fault of a kind. -/
abbrev fltD (kind at_ : Int) (what : S8) : D := .ifc 119 (.eptr (.agg [.int .i64 at_, .str what, .ifc 57 (.int .i64 kind)]) 0)
def TABLE : S8 := [116, 97, 98, 108, 101]
theorem run124 (kind at_ : Int) (what : S8) (hk : kind ≠ 0) : Runs Tryz.prog T 16 (Tryz.f124.body.getD .skip) Tryz.f124.results.toList [.int .i64 kind, .int .i64 at_, .str what] (fltD kind at_ what) := by
  refine ⟨Nat.le_of_ble_eq_true rfl, ?_⟩
  conv => whnf
  have e : (kind == 0) = false := by simpa using hk
  rw [e]
  conv => whnf
  exact ⟨rfl, rfl⟩
theorem call124 (kind at_ : Int) (what : S8) (hk : kind ≠ 0) : CallsTo Tryz.prog 124 [.int .i64 kind, .int .i64 at_, .str what] (fltD kind at_ what) := calls Tryz.func124 rfl (by decide) (run124 kind at_ what hk)
theorem run177 (kind at_ : Int) (hk : kind ≠ 0) : Runs Tryz.prog T 8 (Tryz.f177.body.getD .skip) Tryz.f177.results.toList [.int .i64 kind, .int .i64 at_] (fltD kind at_ TABLE) := by
  refine ⟨Nat.le_of_ble_eq_true rfl, ?_⟩
  conv => whnf
  refine ⟨_, fun _ => call124 kind at_ TABLE hk, ?_⟩
  conv => whnf
  exact ⟨rfl, rfl⟩
theorem call177 (kind at_ : Int) (hk : kind ≠ 0) : CallsTo Tryz.prog 177 [.int .i64 kind, .int .i64 at_] (fltD kind at_ TABLE) := calls Tryz.func177 rfl (by decide) (run177 kind at_ hk)
/-- Is the i-th row's key behind the one ahead of it? -/
def Tab.up (t : Tab) (i : Nat) : Bool := lt8 (t.key (i - 1)) (t.key i)
theorem run182a (w k : Int) (bs : S8) (h : ¬ (1 ≤ k ∧ k ≤ w ∧ w ≤ 255)) : Runs Tryz.prog T 53 (Tryz.f182.body.getD .skip) Tryz.f182.results.toList [.int .i64 w, .int .i64 k, .str bs] (.tup [.nilp, fltD 1 0 TABLE]) := by
  refine ⟨Nat.le_of_ble_eq_true rfl, ?_⟩
  conv => whnf
  have hc := call176 w k
  rw [decide_eq_false h] at hc
  refine ⟨_, fun _ => hc, ?_⟩
  conv => whnf
  refine ⟨_, fun _ => call177 1 0 (by decide), ?_⟩
  conv => whnf
  exact ⟨rfl, rfl⟩
theorem call182a (w k : Int) (bs : S8) (h : ¬ (1 ≤ k ∧ k ≤ w ∧ w ≤ 255)) : CallsTo Tryz.prog 182 [.int .i64 w, .int .i64 k, .str bs] (.tup [.nilp, fltD 1 0 TABLE]) := calls Tryz.func182 rfl (by decide) (run182a w k bs h)
theorem run182b (w k : Nat) (bs : S8) (h : 1 ≤ k ∧ k ≤ w ∧ w ≤ 255) (hm : bs.length % w ≠ 0) : Runs Tryz.prog T 53 (Tryz.f182.body.getD .skip) Tryz.f182.results.toList [.int .i64 w, .int .i64 k, .str bs] (.tup [.nilp, fltD 12 bs.length TABLE]) := by
  refine ⟨Nat.le_of_ble_eq_true rfl, ?_⟩
  conv => whnf
  have hc := call176 w k
  rw [decide_eq_true (by omega)] at hc
  refine ⟨_, fun _ => hc, ?_⟩
  conv => whnf
  refine sideB_intro (fun _ => decide_eq_true (by omega)) ?_
  conv => whnf
  have e : (Int.tmod (bs.length : Int) (w : Int) != 0) = true := by
    have : Int.tmod (bs.length : Int) (w : Int) = ((bs.length % w : Nat) : Int) := rfl
    rw [this]; simp; omega
  rw [e]
  conv => whnf
  refine ⟨_, fun _ => call177 12 bs.length (by decide), ?_⟩
  conv => whnf
  exact ⟨rfl, rfl⟩
theorem call182b (w k : Nat) (bs : S8) (h : 1 ≤ k ∧ k ≤ w ∧ w ≤ 255) (hm : bs.length % w ≠ 0) : CallsTo Tryz.prog 182 [.int .i64 w, .int .i64 k, .str bs] (.tup [.nilp, fltD 12 bs.length TABLE]) := calls Tryz.func182 rfl (by decide) (run182b w k bs h hm)
theorem run182c (t : Tab) (h : t.ok) (hm : t.bs.length % t.w = 0) (hu : ∀ j, 1 ≤ j → j < t.n → t.up j = true) : Runs Tryz.prog T 53 (Tryz.f182.body.getD .skip) Tryz.f182.results.toList [.int .i64 t.w, .int .i64 t.k, .str t.bs] (.tup [t.d, .nili]) := by
  refine ⟨Nat.le_of_ble_eq_true rfl, ?_⟩
  conv => whnf
  have hc := call176 t.w t.k
  have k1 := h.k0
  have k2 := h.kw
  have k3 := h.w1
  have k4 := h.len
  have hn := Tab.n_le h
  rw [decide_eq_true (by omega)] at hc
  refine ⟨_, fun _ => hc, ?_⟩
  conv => whnf
  refine sideB_intro (fun _ => decide_eq_true (by omega)) ?_
  conv => whnf
  have e : (Int.tmod (t.bs.length : Int) (t.w : Int) != 0) = false := by
    have : Int.tmod (t.bs.length : Int) (t.w : Int) = ((t.bs.length % t.w : Nat) : Int) := rfl
    rw [this]; simp; omega
  rw [e]
  conv => whnf
  refine ⟨[.sealT 8], ?_⟩
  conv => whnf
  refine loop_at (σ := Nat) (fun i env => (env.setT 9 (.int .i64 ((i + 1 : Nat) : Int)))) (fun i => t.n - i) (fun i => i ≤ t.n) 0 (Nat.zero_le _) rfl ?_
  rintro i hi ih
  conv => whnf
  refine ⟨_, fun _ => call209 t h, ?_⟩
  conv => whnf
  refine ifB_intro (fun hc => ?_) (fun hc => ?_)
  · have hc : ((i + 1 : Nat) : Int) < (t.n : Int) := of_decide_eq_true hc
    have hup := hu (i + 1) (by omega) (by omega)
    have ih' := ih (i + 1) (by omega) (by omega)
    have hw : IntKind.i64.wrap (((i + 1 : Nat) : Int) + 1) = ((i + 1 + 1 : Nat) : Int) := by rw [IntKind.wrap_i64]; omega
    have hw1 : IntKind.i64.wrap (((i + 1 : Nat) : Int) - 1) = (i : Int) := by rw [IntKind.wrap_i64]; omega
    have hl1 := Tab.row_len (t := t) (i := i) (by omega)
    have hl2 := Tab.row_len (t := t) (i := i + 1) (by omega)
    conv => whnf
    refine ⟨rfl, ?_⟩
    conv => whnf
    rw [hw1]
    refine ⟨_, fun _ => call210 t i h (by omega), ?_⟩
    conv => whnf
    refine sideB_intro (fun _ => decide_eq_true (by omega)) ?_
    conv => whnf
    refine ⟨_, fun _ => call210 t (i + 1) h (by omega), ?_⟩
    conv => whnf
    refine sideB_intro (fun _ => decide_eq_true (by omega)) ?_
    conv => whnf
    have e1 : sliceD (t.row i) (Int.toNat ((0 : Nat) : Int)) (Int.toNat (t.k : Int)) = t.key i := by simp [sliceD, Tab.key]
    have e2 : sliceD (t.row (i + 1)) (Int.toNat ((0 : Nat) : Int)) (Int.toNat (t.k : Int)) = t.key (i + 1) := by simp [sliceD, Tab.key]
    rw [e1, e2]
    rw [show bytesLess (t.key i) (t.key (i + 1)) = true from hup]
    conv => whnf
    rw [hw]
    exact ih'
  · conv => whnf
    exact ⟨rfl, rfl⟩
theorem call182c (t : Tab) (h : t.ok) (hm : t.bs.length % t.w = 0) (hu : ∀ j, 1 ≤ j → j < t.n → t.up j = true) : CallsTo Tryz.prog 182 [.int .i64 t.w, .int .i64 t.k, .str t.bs] (.tup [t.d, .nili]) := calls Tryz.func182 rfl (by decide) (run182c t h hm hu)
theorem run182d (t : Tab) (h : t.ok) (hm : t.bs.length % t.w = 0) (q : Nat) (hq1 : 1 ≤ q) (hqn : q < t.n) (hu : ∀ j, 1 ≤ j → j < q → t.up j = true) (hq : t.up q = false) : Runs Tryz.prog T 53 (Tryz.f182.body.getD .skip) Tryz.f182.results.toList [.int .i64 t.w, .int .i64 t.k, .str t.bs] (.tup [.nilp, fltD 13 ((q * t.w : Nat) : Int) TABLE]) := by
  refine ⟨Nat.le_of_ble_eq_true rfl, ?_⟩
  conv => whnf
  have hc := call176 t.w t.k
  have k1 := h.k0
  have k2 := h.kw
  have k3 := h.w1
  have k4 := h.len
  have hn := Tab.n_le h
  rw [decide_eq_true (by omega)] at hc
  refine ⟨_, fun _ => hc, ?_⟩
  conv => whnf
  refine sideB_intro (fun _ => decide_eq_true (by omega)) ?_
  conv => whnf
  have e : (Int.tmod (t.bs.length : Int) (t.w : Int) != 0) = false := by
    have : Int.tmod (t.bs.length : Int) (t.w : Int) = ((t.bs.length % t.w : Nat) : Int) := rfl
    rw [this]; simp; omega
  rw [e]
  conv => whnf
  refine ⟨[.sealT 8], ?_⟩
  conv => whnf
  refine loop_at (σ := Nat) (fun i env => (env.setT 9 (.int .i64 ((i + 1 : Nat) : Int)))) (fun i => t.n - i) (fun i => i + 1 ≤ q) 0 (by omega) rfl ?_
  rintro i hi ih
  conv => whnf
  refine ⟨_, fun _ => call209 t h, ?_⟩
  conv => whnf
  refine ifB_intro (fun hc => ?_) (fun hc => ?_)
  · have hc : ((i + 1 : Nat) : Int) < (t.n : Int) := of_decide_eq_true hc
    have ih' := fun (hlt : i + 1 + 1 ≤ q) => ih (i + 1) hlt (by omega)
    have hw : IntKind.i64.wrap (((i + 1 : Nat) : Int) + 1) = ((i + 1 + 1 : Nat) : Int) := by rw [IntKind.wrap_i64]; omega
    have hw1 : IntKind.i64.wrap (((i + 1 : Nat) : Int) - 1) = (i : Int) := by rw [IntKind.wrap_i64]; omega
    have hl1 := Tab.row_len (t := t) (i := i) (by omega)
    have hl2 := Tab.row_len (t := t) (i := i + 1) (by omega)
    conv => whnf
    refine ⟨rfl, ?_⟩
    conv => whnf
    rw [hw1]
    refine ⟨_, fun _ => call210 t i h (by omega), ?_⟩
    conv => whnf
    refine sideB_intro (fun _ => decide_eq_true (by omega)) ?_
    conv => whnf
    refine ⟨_, fun _ => call210 t (i + 1) h (by omega), ?_⟩
    conv => whnf
    refine sideB_intro (fun _ => decide_eq_true (by omega)) ?_
    conv => whnf
    have e1 : sliceD (t.row i) (Int.toNat ((0 : Nat) : Int)) (Int.toNat (t.k : Int)) = t.key i := by simp [sliceD, Tab.key]
    have e2 : sliceD (t.row (i + 1)) (Int.toNat ((0 : Nat) : Int)) (Int.toNat (t.k : Int)) = t.key (i + 1) := by simp [sliceD, Tab.key]
    rw [e1, e2]
    by_cases he : i + 1 = q
    · rw [show bytesLess (t.key i) (t.key (i + 1)) = false from by have := hq; rw [← he] at this; exact this]
      conv => whnf
      have hrow := Tab.row_in (t := t) (i := i + 1) (by omega)
      have hm2 : IntKind.i64.wrap (((i + 1 : Nat) : Int) * (t.w : Int)) = ((q * t.w : Nat) : Int) := by
        have : ((i + 1 : Nat) : Int) * (t.w : Int) = (((i + 1) * t.w : Nat) : Int) := by simp
        rw [this, ← he, IntKind.wrap_i64]; omega
      rw [hm2]
      refine ⟨_, fun _ => call177 13 ((q * t.w : Nat) : Int) (by decide), ?_⟩
      conv => whnf
      exact ⟨rfl, rfl⟩
    · rw [show bytesLess (t.key i) (t.key (i + 1)) = true from hu (i + 1) (by omega) (by omega)]
      conv => whnf
      rw [hw]
      exact ih' (by omega)
  · exfalso
    have hc : ¬ (((i + 1 : Nat) : Int) < (t.n : Int)) := of_decide_eq_false hc
    omega
theorem call182d (t : Tab) (h : t.ok) (hm : t.bs.length % t.w = 0) (q : Nat) (hq1 : 1 ≤ q) (hqn : q < t.n) (hu : ∀ j, 1 ≤ j → j < q → t.up j = true) (hq : t.up q = false) : CallsTo Tryz.prog 182 [.int .i64 t.w, .int .i64 t.k, .str t.bs] (.tup [.nilp, fltD 13 ((q * t.w : Nat) : Int) TABLE]) := calls Tryz.func182 rfl (by decide) (run182d t h hm q hq1 hqn hu hq)
end Go.Proofs.YtnooelecdbbfkaaGreatDoor.Fw

/- Tables of rows. -/
namespace Go.Proofs.YtnooelecdbbfkaaGreatDoor.Fw
open Go Go.RowKit
set_option linter.unusedSectionVars false
variable [Inhabited GLT]
set_option maxRecDepth 100000
set_option maxHeartbeats 4000000

theorem joinS_nil (l : List S8) : joinS l [] = l.flatten := by
  cases l with
  | nil => rfl
  | cons x r =>
    unfold joinS
    rw [Lib.join_cons]
    unfold Lib.joinTail
    simp
def tabOf (w k : Nat) (L : List S8) : Tab := ⟨w, k, L.flatten⟩
theorem flat_len {w : Nat} : ∀ {L : List S8}, (∀ x ∈ L, x.length = w) → L.flatten.length = L.length * w
  | [], _ => by simp
  | x :: L, h => by
    rw [List.flatten_cons, List.length_append, h x (List.mem_cons_self ..), flat_len fun y hy => h y (List.mem_cons_of_mem _ hy), List.length_cons, Nat.add_mul]
    omega
theorem tabOf_n {w k : Nat} {L : List S8} (hw : 0 < w) (h : ∀ x ∈ L, x.length = w) : (tabOf w k L).n = L.length := by
  unfold Tab.n tabOf
  rw [flat_len h]
  exact Nat.mul_div_cancel _ hw
theorem flat_row {w : Nat} : ∀ {L : List S8} {i : Nat} {x : S8}, (∀ y ∈ L, y.length = w) → L[i]? = some x → (L.flatten.drop (i * w)).take w = x
  | [], i, x, _, h => by simp at h
  | y :: L, 0, x, hl, h => by
    simp only [List.getElem?_cons_zero, Option.some.injEq] at h; subst h
    have := hl y (List.mem_cons_self ..)
    rw [Nat.zero_mul, List.drop_zero, List.flatten_cons, List.take_append_of_le_length (by omega), List.take_of_length_le (by omega)]
  | y :: L, i + 1, x, hl, h => by
    have hy := hl y (List.mem_cons_self ..)
    rw [List.flatten_cons, Nat.add_mul, Nat.one_mul, List.drop_append, List.drop_of_length_le (by omega), List.nil_append, show i * w + w - y.length = i * w from by omega]
    exact flat_row (fun z hz => hl z (List.mem_cons_of_mem _ hz)) (by simpa using h)
theorem tabOf_row {w k : Nat} {L : List S8} (h : ∀ x ∈ L, x.length = w) {i : Nat} {x : S8} (hx : L[i]? = some x) : (tabOf w k L).row i = x := flat_row h hx
theorem tabOf_ok {w k : Nat} {L : List S8} (h : 1 ≤ k ∧ k ≤ w ∧ w ≤ 255) (hl : ∀ x ∈ L, x.length = w) (hn : L.length ≤ 1000) : (tabOf w k L).ok := by
  refine ⟨h.1, h.2.1, h.2.2, ?_⟩
  show L.flatten.length ≤ _
  rw [flat_len hl]
  have : L.length * w ≤ 1000 * 255 := Nat.mul_le_mul hn h.2.2
  omega
theorem tabOf_mod {w k : Nat} {L : List S8} (hl : ∀ x ∈ L, x.length = w) : (tabOf w k L).bs.length % (tabOf w k L).w = 0 := by
  show L.flatten.length % w = 0
  rw [flat_len hl]; exact Nat.mul_mod_left _ _
theorem run130a (w k : Int) (l : List S8) (h : ¬ (1 ≤ k ∧ k ≤ w ∧ w ≤ 255)) : Runs Tryz.prog T 42 (Tryz.f130.body.getD .skip) Tryz.f130.results.toList [.int .i64 w, .int .i64 k, .sl 0 1 (l.map D.str)] (.tup [.nilp, fltD 1 0 TABLE]) := by
  refine ⟨Nat.le_of_ble_eq_true rfl, ?_⟩
  conv => whnf
  have hc := call176 w k
  rw [decide_eq_false h] at hc
  refine ⟨_, fun _ => hc, ?_⟩
  conv => whnf
  refine ⟨_, fun _ => call177 1 0 (by decide), ?_⟩
  conv => whnf
  exact ⟨rfl, rfl⟩
theorem call130a (w k : Int) (l : List S8) (h : ¬ (1 ≤ k ∧ k ≤ w ∧ w ≤ 255)) : CallsTo Tryz.prog 130 [.int .i64 w, .int .i64 k, .sl 0 1 (l.map D.str)] (.tup [.nilp, fltD 1 0 TABLE]) := calls Tryz.func130 rfl (by decide) (run130a w k l h)
theorem run130b (w k : Nat) (l : List S8) (h : 1 ≤ k ∧ k ≤ w ∧ w ≤ 255) (hl : l.length ≤ 1000) (q : Nat) (x : S8) (hx : l[q]? = some x) (hq : x.length ≠ w) (hpre : ∀ j y, j < q → l[j]? = some y → y.length = w) : Runs Tryz.prog T 42 (Tryz.f130.body.getD .skip) Tryz.f130.results.toList [.int .i64 w, .int .i64 k, .sl 0 1 (l.map D.str)] (.tup [.nilp, fltD 12 q TABLE]) := by
  refine ⟨Nat.le_of_ble_eq_true rfl, ?_⟩
  conv => whnf
  have hc := call176 w k
  rw [decide_eq_true (by omega)] at hc
  refine ⟨_, fun _ => hc, ?_⟩
  conv => whnf
  refine ⟨[], ?_⟩
  conv => whnf
  have hql := (List.getElem?_eq_some_iff.1 hx).1
  refine loop_at (σ := Nat) (fun i env => (env.setT 18 (.int .i64 (i : Int)))) (fun i => l.length - i) (fun i => i ≤ q) 0 (Nat.zero_le _) rfl ?_
  rintro i hi ih
  conv => whnf
  refine ifB_intro (fun h2 => ?_) (fun h2 => ?_)
  · have h2 : (i : Int) < ((l.map D.str).length : Int) := of_decide_eq_true h2
    rw [List.length_map] at h2
    obtain ⟨y, hy⟩ : ∃ y, l[i]? = some y := ⟨_, List.getElem?_eq_getElem (by omega)⟩
    have hw : IntKind.i64.wrap ((i : Int) + 1) = ((i + 1 : Nat) : Int) := by rw [IntKind.wrap_i64]; omega
    conv => whnf
    refine sideB_intro (fun _ => decide_eq_true (by simp only [List.length_map]; omega)) ?_
    rw [getD_enc (enc := D.str) (x := y) (show l[(i : Int).toNat]? = some y from hy)]
    conv => whnf
    by_cases he : i = q
    · subst he
      rw [hx] at hy; cases hy
      have e : ((x.length : Int) != (w : Int)) = true := by simp; omega
      rw [e]
      conv => whnf
      refine ⟨_, fun _ => call177 12 i (by decide), ?_⟩
      conv => whnf
      exact ⟨rfl, rfl⟩
    · have hyl := hpre i y (by omega) hy
      have e : ((y.length : Int) != (w : Int)) = false := by simp; omega
      rw [e]
      conv => whnf
      rw [hw]
      exact ih (i + 1) (by omega) (by omega)
  · exfalso
    have h2 : ¬ ((i : Int) < ((l.map D.str).length : Int)) := of_decide_eq_false h2
    rw [List.length_map] at h2
    omega
theorem call130b (w k : Nat) (l : List S8) (h : 1 ≤ k ∧ k ≤ w ∧ w ≤ 255) (hl : l.length ≤ 1000) (q : Nat) (x : S8) (hx : l[q]? = some x) (hq : x.length ≠ w) (hpre : ∀ j y, j < q → l[j]? = some y → y.length = w) : CallsTo Tryz.prog 130 [.int .i64 w, .int .i64 k, .sl 0 1 (l.map D.str)] (.tup [.nilp, fltD 12 q TABLE]) := calls Tryz.func130 rfl (by decide) (run130b w k l h hl q x hx hq hpre)
theorem call75r (l : List S8) (hl : l.length ≤ 1000000) (hj : l.flatten.length ≤ 1000000) : CallsR Tryz.prog 75 [] hS (hR 9 1 (l.map D.str)) [.rsl 1000000 1 0 l.length, .str []] (.str l.flatten) [] hS (hR 9 1 (l.map D.str)) := by
  have h := call75 l [] hl (by rw [joinS_nil]; omega)
  rw [joinS_nil] at h
  refine callsR_of_callsTo h ⟨⟨_, rfl, rfl, ?_, ?_⟩, rfl, trivial⟩ rfl rfl
  · simp
  · simp only [sliceD, Nat.zero_add, List.drop_zero]
    rw [List.take_of_length_le (by simp)]
abbrev Tb := Tm [178, 179, 75] [9]
theorem run130c (w k : Nat) (l : List S8) (h : 1 ≤ k ∧ k ≤ w ∧ w ≤ 255) (hl : l.length ≤ 12) (hw : ∀ x ∈ l, x.length = w) (h62 : CallsTo Tryz.prog 182 [.int .i64 w, .int .i64 k, .str (isort (ltP k) l).flatten] (.tup [.eptr (.agg [.int .i64 w, .int .i64 k, .str (isort (ltP k) l).flatten]) 0, .nili])) : Runs Tryz.prog Tb 42 (Tryz.f130.body.getD .skip) Tryz.f130.results.toList [.int .i64 w, .int .i64 k, .sl 0 1 (l.map D.str)] (.tup [.eptr (.agg [.int .i64 w, .int .i64 k, .str (isort (ltP k) l).flatten]) 0, .nili]) := by
  refine ⟨Nat.le_of_ble_eq_true rfl, ?_⟩
  conv => whnf
  have hc := call176 w k
  rw [decide_eq_true (by omega)] at hc
  refine ⟨_, fun _ => hc, ?_⟩
  conv => whnf
  refine ⟨[], ?_⟩
  conv => whnf
  refine loop_at (σ := Nat) (fun i env => (env.setT 18 (.int .i64 (i : Int)))) (fun i => l.length - i) (fun i => i ≤ l.length) 0 (Nat.zero_le _) rfl ?_
  rintro i hi ih
  conv => whnf
  refine ifB_intro (fun h2 => ?_) (fun h2 => ?_)
  · have h2 : (i : Int) < ((l.map D.str).length : Int) := of_decide_eq_true h2
    rw [List.length_map] at h2
    obtain ⟨y, hy⟩ : ∃ y, l[i]? = some y := ⟨_, List.getElem?_eq_getElem (by omega)⟩
    have hwi : IntKind.i64.wrap ((i : Int) + 1) = ((i + 1 : Nat) : Int) := by rw [IntKind.wrap_i64]; omega
    have hyl := hw y (List.mem_of_getElem? hy)
    conv => whnf
    refine sideB_intro (fun _ => decide_eq_true (by simp only [List.length_map]; omega)) ?_
    rw [getD_enc (enc := D.str) (x := y) (show l[(i : Int).toNat]? = some y from hy)]
    conv => whnf
    have e : ((y.length : Int) != (w : Int)) = false := by simp; omega
    rw [e]
    conv => whnf
    rw [hwi]
    exact ih (i + 1) (by omega) (by omega)
  conv => whnf
  refine ⟨⟨[], [], .rsl 17 1 0 l.length, [], [(17, rowMark)], [(17, ⟨9, 1, l.map D.str, false⟩)]⟩, ?_⟩
  conv => whnf
  refine ⟨rfl, call178 l (by omega), ?_⟩
  conv => whnf
  refine ⟨⟨[], [(1000000, 2995)], .tup [], [], hS, hR 9 1 ((isort (ltP k) l).map D.str)⟩, ?_⟩
  conv => whnf
  refine ⟨rfl, call179 k l hl (fun x hx => by rw [hw x hx]; omega), ?_⟩
  conv => whnf
  have hln : (isort (ltP k) l).length = l.length := sortTo_length (ltP k) _ _
  have hmem : ∀ x ∈ isort (ltP k) l, x.length = w := sortTo_all (ltP k) hw _
  have hfl := flat_len hmem
  have h63 := call75r (isort (ltP k) l) (by omega) (by
    rw [hfl, hln]
    have : l.length * w ≤ 12 * 255 := Nat.mul_le_mul hl h.2.2
    omega)
  rw [hln] at h63
  generalize isort (ltP k) l = S at h62 h63
  refine ⟨[(0, ?e1_0), (1, ?e1_1), (5, ?e1_2), (7, ?e1_3), (13, ?e1_4), (15, ?e1_5), (31, ?e1_6), (63, ?e1_7), (95, ?e1_8), (127, ?e1_9), (255, ?e1_10), (511, ?e1_11)], ?eF1, ?_, ?_, ?_⟩
  rotate_left 13
  · exact rfl
  refine tab_F rfl fun F hF => ?_
  obtain ⟨hF0, hF1, hF5, hF7, hF13, hF15, hF31, hF63, hF95, hF127, hF255, hF511, -⟩ := hF
  refine tab_1 rfl ?_ ?_
  · conv => whnf
    exact hF1
  refine tab_1 rfl ?_ ?_
  · conv => whnf
    exact hF5
  refine tab_2 rfl ?_ ?_ ?_
  · conv => whnf
    exact hF7
  · conv => whnf
    refine ⟨⟨[], [(1000000, 2995)], .str S.flatten, [], hS, hR 9 1 (S.map D.str)⟩, ?_⟩
    conv => whnf
    refine ⟨rfl, h63, ?_⟩
    conv => whnf
    exact hF13
  refine tab_1 rfl ?_ ?_
  · conv => whnf
    refine ⟨⟨[], [(1000000, 2995)], .str S.flatten, [], hS, hR 9 1 (S.map D.str)⟩, ?_⟩
    conv => whnf
    refine ⟨rfl, h63, ?_⟩
    conv => whnf
    exact hF15
  refine tab_1 rfl ?_ ?_
  · conv => whnf
    exact hF15
  refine tab_1 rfl ?_ ?_
  · conv => whnf
    refine ⟨_, fun _ => h62, ?_⟩
    conv => whnf
    exact hF31
  refine tab_2 rfl ?_ ?_ ?_
  · conv => whnf
    exact hF63
  · conv => whnf
    exact hF95
  refine tab_1 rfl ?_ ?_
  · conv => whnf
    exact hF127
  refine tab_1 rfl ?_ ?_
  · conv => whnf
    exact hF127
  refine tab_1 rfl ?_ ?_
  · conv => whnf
    exact hF255
  refine tab_1 rfl ?_ ?_
  · conv => whnf
    exact hF511
  refine tab_0 rfl ?_ trivial
  · conv => whnf
    try exact rfl
  refine ⟨rfl, ?_⟩
  conv => whnf
  exact ⟨rfl, rfl⟩
theorem run130d (w k : Nat) (l : List S8) (q : Int) (h : 1 ≤ k ∧ k ≤ w ∧ w ≤ 255) (hl : l.length ≤ 12) (hw : ∀ x ∈ l, x.length = w) (h62 : CallsTo Tryz.prog 182 [.int .i64 w, .int .i64 k, .str (isort (ltP k) l).flatten] (.tup [.nilp, fltD 13 q TABLE])) : Runs Tryz.prog Tb 42 (Tryz.f130.body.getD .skip) Tryz.f130.results.toList [.int .i64 w, .int .i64 k, .sl 0 1 (l.map D.str)] (.tup [.nilp, fltD 13 q TABLE]) := by
  refine ⟨Nat.le_of_ble_eq_true rfl, ?_⟩
  conv => whnf
  have hc := call176 w k
  rw [decide_eq_true (by omega)] at hc
  refine ⟨_, fun _ => hc, ?_⟩
  conv => whnf
  refine ⟨[], ?_⟩
  conv => whnf
  refine loop_at (σ := Nat) (fun i env => (env.setT 18 (.int .i64 (i : Int)))) (fun i => l.length - i) (fun i => i ≤ l.length) 0 (Nat.zero_le _) rfl ?_
  rintro i hi ih
  conv => whnf
  refine ifB_intro (fun h2 => ?_) (fun h2 => ?_)
  · have h2 : (i : Int) < ((l.map D.str).length : Int) := of_decide_eq_true h2
    rw [List.length_map] at h2
    obtain ⟨y, hy⟩ : ∃ y, l[i]? = some y := ⟨_, List.getElem?_eq_getElem (by omega)⟩
    have hwi : IntKind.i64.wrap ((i : Int) + 1) = ((i + 1 : Nat) : Int) := by rw [IntKind.wrap_i64]; omega
    have hyl := hw y (List.mem_of_getElem? hy)
    conv => whnf
    refine sideB_intro (fun _ => decide_eq_true (by simp only [List.length_map]; omega)) ?_
    rw [getD_enc (enc := D.str) (x := y) (show l[(i : Int).toNat]? = some y from hy)]
    conv => whnf
    have e : ((y.length : Int) != (w : Int)) = false := by simp; omega
    rw [e]
    conv => whnf
    rw [hwi]
    exact ih (i + 1) (by omega) (by omega)
  conv => whnf
  refine ⟨⟨[], [], .rsl 17 1 0 l.length, [], [(17, rowMark)], [(17, ⟨9, 1, l.map D.str, false⟩)]⟩, ?_⟩
  conv => whnf
  refine ⟨rfl, call178 l (by omega), ?_⟩
  conv => whnf
  refine ⟨⟨[], [(1000000, 2995)], .tup [], [], hS, hR 9 1 ((isort (ltP k) l).map D.str)⟩, ?_⟩
  conv => whnf
  refine ⟨rfl, call179 k l hl (fun x hx => by rw [hw x hx]; omega), ?_⟩
  conv => whnf
  have hln : (isort (ltP k) l).length = l.length := sortTo_length (ltP k) _ _
  have hmem : ∀ x ∈ isort (ltP k) l, x.length = w := sortTo_all (ltP k) hw _
  have hfl := flat_len hmem
  have h63 := call75r (isort (ltP k) l) (by omega) (by
    rw [hfl, hln]
    have : l.length * w ≤ 12 * 255 := Nat.mul_le_mul hl h.2.2
    omega)
  rw [hln] at h63
  generalize isort (ltP k) l = S at h62 h63
  refine ⟨[(0, ?e2_0), (1, ?e2_1), (5, ?e2_2), (7, ?e2_3), (13, ?e2_4), (15, ?e2_5), (31, ?e2_6), (63, ?e2_7), (95, ?e2_8), (127, ?e2_9), (255, ?e2_10), (511, ?e2_11)], ?eF2, ?_, ?_, ?_⟩
  rotate_left 13
  · exact rfl
  refine tab_F rfl fun F hF => ?_
  obtain ⟨hF0, hF1, hF5, hF7, hF13, hF15, hF31, hF63, hF95, hF127, hF255, hF511, -⟩ := hF
  refine tab_1 rfl ?_ ?_
  · conv => whnf
    exact hF1
  refine tab_1 rfl ?_ ?_
  · conv => whnf
    exact hF5
  refine tab_2 rfl ?_ ?_ ?_
  · conv => whnf
    exact hF7
  · conv => whnf
    refine ⟨⟨[], [(1000000, 2995)], .str S.flatten, [], hS, hR 9 1 (S.map D.str)⟩, ?_⟩
    conv => whnf
    refine ⟨rfl, h63, ?_⟩
    conv => whnf
    exact hF13
  refine tab_1 rfl ?_ ?_
  · conv => whnf
    refine ⟨⟨[], [(1000000, 2995)], .str S.flatten, [], hS, hR 9 1 (S.map D.str)⟩, ?_⟩
    conv => whnf
    refine ⟨rfl, h63, ?_⟩
    conv => whnf
    exact hF15
  refine tab_1 rfl ?_ ?_
  · conv => whnf
    exact hF15
  refine tab_1 rfl ?_ ?_
  · conv => whnf
    refine ⟨_, fun _ => h62, ?_⟩
    conv => whnf
    exact hF31
  refine tab_2 rfl ?_ ?_ ?_
  · conv => whnf
    exact hF63
  · conv => whnf
    exact hF95
  refine tab_1 rfl ?_ ?_
  · conv => whnf
    exact hF127
  refine tab_1 rfl ?_ ?_
  · conv => whnf
    exact hF127
  refine tab_1 rfl ?_ ?_
  · conv => whnf
    exact hF255
  refine tab_1 rfl ?_ ?_
  · conv => whnf
    exact hF511
  refine tab_0 rfl ?_ trivial
  · conv => whnf
    try exact rfl
  refine ⟨rfl, ?_⟩
  conv => whnf
  exact ⟨rfl, rfl⟩
end Go.Proofs.YtnooelecdbbfkaaGreatDoor.Fw

/- Of no table nothing comes. -/
namespace Go.Proofs.YtnooelecdbbfkaaGreatDoor.Fw
open Go Go.RowKit
set_option linter.unusedSectionVars false
variable [Inhabited GLT]
set_option maxRecDepth 100000
set_option maxHeartbeats 4000000

/-- Do rows' keys rise? -/
def risesK (k : Nat) (S : List S8) : Prop := ∀ (j : Nat) (x y : S8), S[j]? = some x → S[j + 1]? = some y → lt8 (x.take k) (y.take k) = true
theorem tabOf_key {w k : Nat} {L : List S8} (h : ∀ x ∈ L, x.length = w) {i : Nat} {x : S8} (hx : L[i]? = some x) : (tabOf w k L).key i = x.take k := by
  unfold Tab.key; rw [tabOf_row h hx]; rfl
theorem call130c (w k : Nat) (l : List S8) (h : 1 ≤ k ∧ k ≤ w ∧ w ≤ 255) (hl : l.length ≤ 12) (hw : ∀ x ∈ l, x.length = w) (hr : risesK k (isort (ltP k) l)) : CallsTo Tryz.prog 130 [.int .i64 w, .int .i64 k, .sl 0 1 (l.map D.str)] (.tup [(tabOf w k (isort (ltP k) l)).d, .nili]) := by
  have hln : (isort (ltP k) l).length = l.length := sortTo_length (ltP k) _ _
  have hmem : ∀ x ∈ isort (ltP k) l, x.length = w := sortTo_all (ltP k) hw _
  have h62 := call182c (tabOf w k (isort (ltP k) l)) (tabOf_ok h hmem (by omega)) (tabOf_mod hmem) (fun j h1 h2 => by
    rw [tabOf_n (by omega) hmem] at h2
    have hx : (isort (ltP k) l)[j - 1]? = some (isort (ltP k) l)[j - 1] := List.getElem?_eq_getElem (by omega)
    have hy : (isort (ltP k) l)[j]? = some (isort (ltP k) l)[j] := List.getElem?_eq_getElem h2
    unfold Tab.up
    rw [tabOf_key hmem hx, tabOf_key hmem hy]
    exact hr (j - 1) _ _ hx (by rw [show j - 1 + 1 = j from by omega]; exact hy))
  exact calls Tryz.func130 rfl (by decide) (run130c w k l h hl hw h62)
def AWT : List S8 := [[98, 48, 49], [97, 49, 50], [97, 48, 51]]
def AWS : List S8 := [[97, 48, 51], [97, 49, 50], [98, 48, 49]]
theorem awt_sort : isort (ltP 2) AWT = AWS := by decide +kernel
theorem aws_rises : risesK 2 AWS := by
  intro j x y hx hy
  match j with
  | 0 => cases hx; cases hy; decide
  | 1 => cases hx; cases hy; decide
  | 2 => cases hy
  | j + 3 => cases hx
def A1 : S8 := [97, 49]
theorem find_aw : findT (tabOf 3 2 AWS) A1 = some [97, 49, 50] := by decide +kernel
end Go.Proofs.YtnooelecdbbfkaaGreatDoor.Fw

/- The bytes of an image with nothing in it. -/
namespace Go.Proofs.YtnooelecdbbfkaaGreatDoor.Fw
open Go Go.RowKit
set_option linter.unusedSectionVars false
variable [Inhabited GLT]
set_option maxRecDepth 100000
set_option maxHeartbeats 4000000
theorem nil_tup {es es' : Nat} : RkD (.tup [.sl 0 es [], .nili]) (.tup [.sl 0 es' [], .nili]) := fun I w v h => by
  simp only [Rep, RepL] at h ⊢
  obtain ⟨vs, rfl, hc, x, us, rfl, hx, r⟩ := h
  refine ⟨_, rfl, rfl, x, us, rfl, ?_, r⟩
  obtain ⟨h0, h1 | ⟨a, cap, e1, e2, _⟩⟩ := hx
  · exact ⟨trivial, .inl h1⟩
  · exact ⟨trivial, .inr ⟨a, cap, e1, e2, by simp only [RepRow]⟩⟩
theorem run59 (n : Int) : Runs Tryz.prog T 9 (Tryz.f59.body.getD .skip) Tryz.f59.results.toList [.int .i64 n] (.bool (decide (0 ≤ n) && decide (n ≤ 255))) := by
  refine ⟨Nat.le_of_ble_eq_true rfl, ?_⟩
  conv => whnf
  exact ⟨rfl, congrArg D.bool (and_eq _ _)⟩
theorem call59 (n : Int) : CallsTo Tryz.prog 59 [.int .i64 n] (.bool (decide (0 ≤ n) && decide (n ≤ 255))) := calls Tryz.func59 rfl (by decide) (run59 n)
theorem run60z  : Runs Tryz.prog T 25 (Tryz.f60.body.getD .skip) Tryz.f60.results.toList [.sl 0 1 [.int .i64 0, .int .i64 0, .int .i64 0, .int .i64 0]] (.int .i64 0) := by
  refine ⟨Nat.le_of_ble_eq_true rfl, ?_⟩
  conv => whnf
  refine ⟨[], ?_⟩
  conv => whnf
  refine ⟨4, ?_⟩
  conv => whnf
  exact ⟨rfl, rfl⟩
theorem call60z  : CallsTo Tryz.prog 60 [.sl 0 1 [.int .i64 0, .int .i64 0, .int .i64 0, .int .i64 0]] (.int .i64 0) := calls Tryz.func60 rfl (by decide) (run60z)
theorem run62n (what : S8) : Runs Tryz.prog T 35 (Tryz.f62.body.getD .skip) Tryz.f62.results.toList [.sl 0 6 [], .str what, .fn 63 [], .fn 64 []] (.tup [.sl 0 0 [], .nili]) := by
  refine ⟨Nat.le_of_ble_eq_true rfl, ?_⟩
  conv => whnf
  refine ⟨[], ?_⟩
  conv => whnf
  refine ⟨1, ?_⟩
  conv => whnf
  exact ⟨rfl, rfl⟩
theorem run66n (what : S8) : Runs Tryz.prog T 35 (Tryz.f66.body.getD .skip) Tryz.f66.results.toList [.sl 0 6 [], .str what, .fn 14 [], .fn 67 []] (.tup [.sl 0 0 [], .nili]) := by
  refine ⟨Nat.le_of_ble_eq_true rfl, ?_⟩
  conv => whnf
  refine ⟨[], ?_⟩
  conv => whnf
  refine ⟨1, ?_⟩
  conv => whnf
  exact ⟨rfl, rfl⟩
theorem run69n (what : S8) : Runs Tryz.prog T 35 (Tryz.f69.body.getD .skip) Tryz.f69.results.toList [.sl 0 9 [], .str what, .fn 16 [], .fn 70 []] (.tup [.sl 0 0 [], .nili]) := by
  refine ⟨Nat.le_of_ble_eq_true rfl, ?_⟩
  conv => whnf
  refine ⟨[], ?_⟩
  conv => whnf
  refine ⟨1, ?_⟩
  conv => whnf
  exact ⟨rfl, rfl⟩
theorem run71n (what : S8) : Runs Tryz.prog T 35 (Tryz.f71.body.getD .skip) Tryz.f71.results.toList [.sl 0 2 [], .str what, .fn 18 [], .fn 72 []] (.tup [.sl 0 0 [], .nili]) := by
  refine ⟨Nat.le_of_ble_eq_true rfl, ?_⟩
  conv => whnf
  refine ⟨[], ?_⟩
  conv => whnf
  refine ⟨1, ?_⟩
  conv => whnf
  exact ⟨rfl, rfl⟩
theorem call62n (what : S8) : CallsTo Tryz.prog 62 [.sl 0 6 [], .str what, .fn 63 [], .fn 64 []] (.tup [.sl 0 1 [], .nili]) := callsTo_res (calls Tryz.func62 rfl (by decide) (run62n what)) nil_tup
theorem call66n (what : S8) : CallsTo Tryz.prog 66 [.sl 0 6 [], .str what, .fn 14 [], .fn 67 []] (.tup [.sl 0 1 [], .nili]) := callsTo_res (calls Tryz.func66 rfl (by decide) (run66n what)) nil_tup
theorem call69n (what : S8) : CallsTo Tryz.prog 69 [.sl 0 9 [], .str what, .fn 16 [], .fn 70 []] (.tup [.sl 0 1 [], .nili]) := callsTo_res (calls Tryz.func69 rfl (by decide) (run69n what)) nil_tup
theorem call71n (what : S8) : CallsTo Tryz.prog 71 [.sl 0 2 [], .str what, .fn 18 [], .fn 72 []] (.tup [.sl 0 1 [], .nili]) := callsTo_res (calls Tryz.func71 rfl (by decide) (run71n what)) nil_tup
theorem call130n (w k : Nat) (h : 1 ≤ k ∧ k ≤ w ∧ w ≤ 255) : CallsTo Tryz.prog 130 [.int .i64 w, .int .i64 k, .sl 0 1 []] (.tup [(⟨w, k, []⟩ : Tab).d, .nili]) :=
  call130c w k [] h (by simp) (by simp) (by
    rw [show isort (ltP k) ([] : List S8) = [] from rfl]
    intro j x y hx
    simp at hx)
theorem run73n (w k : Nat) (h : 1 ≤ k ∧ k ≤ w ∧ w ≤ 255) (what : S8) : Runs Tryz.prog T 25 (Tryz.f73.body.getD .skip) Tryz.f73.results.toList [.sl 0 1 [], .int .i64 w, .int .i64 k, .str what] (.tup [.str [], .nili]) := by
  refine ⟨Nat.le_of_ble_eq_true rfl, ?_⟩
  conv => whnf
  refine ⟨_, fun _ => call130n w k h, ?_⟩
  conv => whnf
  refine ⟨_, fun _ => call131 ⟨w, k, []⟩, ?_⟩
  conv => whnf
  exact ⟨rfl, rfl⟩
theorem call73n (w k : Nat) (h : 1 ≤ k ∧ k ≤ w ∧ w ≤ 255) (what : S8) : CallsTo Tryz.prog 73 [.sl 0 1 [], .int .i64 w, .int .i64 k, .str what] (.tup [.str [], .nili]) := calls Tryz.func73 rfl (by decide) (run73n w k h what)
theorem run74z  : Runs Tryz.prog Tby 30 (Tryz.f74.body.getD .skip) Tryz.f74.results.toList [.int .u64 0, .int .i64 2] (.str [0, 0]) := by
  refine ⟨Nat.le_of_ble_eq_true rfl, ?_⟩
  conv => whnf
  refine ⟨[], ?_⟩
  conv => whnf
  refine ⟨3, ?_⟩
  conv => whnf
  refine .inl ⟨[0, 0], rfl, ?_⟩
  conv => whnf
  exact ⟨rfl, rfl⟩
theorem call74z  : CallsTo Tryz.prog 74 [.int .u64 0, .int .i64 2] (.str [0, 0]) := calls Tryz.func74 rfl (by decide) (run74z)
def HEAD0 : S8 := [105, 115, 111, 103, 0, 0, 0, 0, 0, 0, 0, 0, 40, 5]
theorem run21z  : Runs Tryz.prog T 153 (Tryz.f21.body.getD .skip) Tryz.f21.results.toList [.agg [.sl 0 6 [], .sl 0 6 [], .sl 0 9 [], .sl 0 2 [], .int .i64 40, .int .i64 5]] (.tup [.str HEAD0, .nili]) := by
  refine ⟨Nat.le_of_ble_eq_true rfl, ?_⟩
  conv => whnf
  refine ⟨_, fun _ => call60z, ?_⟩
  conv => whnf
  refine ⟨_, fun _ => call59 40, ?_⟩
  conv => whnf
  refine ⟨_, fun _ => call59 5, ?_⟩
  conv => whnf
  refine ⟨_, fun _ => call62n _, ?_⟩
  conv => whnf
  refine ⟨_, fun _ => call66n _, ?_⟩
  conv => whnf
  refine ⟨_, fun _ => call69n _, ?_⟩
  conv => whnf
  refine ⟨_, fun _ => call71n _, ?_⟩
  conv => whnf
  refine ⟨[], ?_⟩
  conv => whnf
  refine ⟨5, ?_⟩
  conv => whnf
  refine ⟨_, fun _ => call73n 41 17 (by decide) _, ?_⟩
  conv => whnf
  refine ⟨_, fun _ => call73n 48 24 (by decide) _, ?_⟩
  conv => whnf
  refine ⟨_, fun _ => call73n 16 16 (by decide) _, ?_⟩
  conv => whnf
  refine ⟨[], ?_⟩
  conv => whnf
  refine ⟨4, ?_⟩
  conv => whnf
  refine ⟨[], ?_⟩
  conv => whnf
  refine ⟨5, ?_⟩
  conv => whnf
  refine ⟨_, fun _ => call74z, ?_⟩
  conv => whnf
  refine ⟨_, fun _ => call74z, ?_⟩
  conv => whnf
  refine ⟨_, fun _ => call74z, ?_⟩
  conv => whnf
  refine ⟨_, fun _ => call74z, ?_⟩
  conv => whnf
  refine ⟨rfl, ?_⟩
  conv => whnf
  refine ⟨_, fun _ => call75n [], ?_⟩
  conv => whnf
  exact ⟨rfl, rfl⟩
theorem call21z : CallsTo Tryz.prog 21 [.agg [.sl 0 6 [], .sl 0 6 [], .sl 0 9 [], .sl 0 2 [], .int .i64 40, .int .i64 5]] (.tup [.str HEAD0, .nili]) := calls Tryz.func21 rfl (by decide) run21z
theorem run11  : Runs Tryz.prog T 14 (Tryz.f11.body.getD .skip) Tryz.f11.results.toList [] (.bool true) := by
  refine ⟨Nat.le_of_ble_eq_true rfl, ?_⟩
  conv => whnf
  refine ⟨_, fun _ => call21z, ?_⟩
  conv => whnf
  exact ⟨rfl, rfl⟩
theorem call11  : CallsTo Tryz.prog 11 [] (.bool true) := calls Tryz.func11 rfl (by decide) (run11)
end Go.Proofs.YtnooelecdbbfkaaGreatDoor.Fw

/- Small letters, of the document. -/
namespace Go.Proofs.YtnooelecdbbfkaaGreatDoor.Fw
open Go Go.RowKit
set_option linter.unusedSectionVars false
variable [Inhabited GLT]
set_option maxRecDepth 100000
set_option maxHeartbeats 4000000

theorem run198 (b : UInt8) : Runs Tryz.prog T 13 (Tryz.f198.body.getD .skip) Tryz.f198.results.toList [.int .u8 b.toNat] (.int .u8 (lowB b).toNat) := by
  refine ⟨Nat.le_of_ble_eq_true rfl, ?_⟩
  conv => whnf
  have hb := lowB_int b
  have hl : b.toNat < 256 := b.toNat_lt
  refine ifB_intro (fun h => ?_) (fun h => ?_)
  · have h : ((65 : Int) ≤ b.toNat) ∧ ((b.toNat : Int) ≤ 90) := by
      revert h
      cases h1 : decide ((65 : Int) ≤ b.toNat) <;> simp_all
    conv => whnf
    refine ⟨rfl, congrArg (D.int .u8) ?_⟩
    rw [hb, if_pos (by omega), wrap_u8 (n := (b.toNat : Int) - 65) (by omega) (by omega), wrap_u8 (by omega) (by omega)]
    omega
  · conv => whnf
    refine ⟨rfl, congrArg (D.int .u8) ?_⟩
    have h : ¬ (((65 : Int) ≤ b.toNat) ∧ ((b.toNat : Int) ≤ 90)) := by
      intro h2
      rw [decide_eq_true h2.1, decide_eq_true h2.2] at h
      cases h
    rw [hb, if_neg (by omega)]
theorem call198 (b : UInt8) : CallsTo Tryz.prog 198 [.int .u8 b.toNat] (.int .u8 (lowB b).toNat) := calls Tryz.func198 rfl (by decide) (run198 b)
theorem conv_u8 {T : Ty} {g : Option (Nat × Bool)} {ρ : Operand → D} {bx : List (Nat × BoxC)} {mp : List (Nat × MapC)} {rw : List (Nat × RowC)} {dst s t st : Nat} {x : Operand} {xs : List D} {l : List UInt8} (hx : unw g (ρ x) = .sl st 1 xs) (hT : ∀ xs, convD T s t (.sl st 1 xs) = (u8s xs).map .str) (hu : u8s xs = some l) :
    opR T g ρ bx mp rw dst (.convert s t x) = some { d := .str l } := by
  simp only [opR, opV, hx, hT, hu]; rfl
theorem run155 (s : S8) (hs : s.length ≤ 1000000) : Runs Tryz.prog T 20 (Tryz.f155.body.getD .skip) Tryz.f155.results.toList [.str s] (.str (low s)) := by
  refine ⟨Nat.le_of_ble_eq_true rfl, ?_⟩
  conv => whnf
  refine ⟨[.nilT 3 5 1], ?_⟩
  conv => whnf
  refine loop_at (σ := Nat) (fun i env => (env.setT 4 (.int .i64 (i : Int))).setT 3 (.sl 2 1 ((low (s.take i)).map byD))) (fun i => s.length - i) (fun i => i ≤ s.length) 0 (Nat.zero_le _) rfl ?_
  rintro i hi ih
  conv => whnf
  refine ifB_intro (fun h => ?_) (fun h => ?_)
  · have h : (i : Int) < (s.length : Int) := of_decide_eq_true h
    have hlt : i < s.length := by omega
    have hw : IntKind.i64.wrap ((i : Int) + 1) = ((i + 1 : Nat) : Int) := by rw [IntKind.wrap_i64]; omega
    have ih' := ih (i + 1) hlt (by omega)
    obtain ⟨b, hb⟩ : ∃ b, s[i]? = some b := ⟨_, List.getElem?_eq_getElem hlt⟩
    have hg : List.getD s (i : Int).toNat 0 = b := by
      rw [Int.toNat_natCast, List.getD_eq_getElem?_getD, hb]; rfl
    rw [List.take_add_one, hb, Option.toList_some, low, List.map_append, List.map_append] at ih'
    conv => whnf
    refine sideB_intro (fun _ => decide_eq_true (by omega)) ?_
    rw [hg]
    conv => whnf
    refine ⟨_, fun _ => call198 b, ?_⟩
    conv => whnf
    refine sideB_intro (fun _ => ?_) ?_
    · simp [low]; omega
    conv => whnf
    rw [hw]
    exact ih'
  · have h : ¬ ((i : Int) < (s.length : Int)) := of_decide_eq_false h
    rw [List.take_of_length_le (by omega)]
    conv => whnf
    refine dO_of (r := ?rr) ?hh ?kk
    case hh =>
      refine conv_u8 (st := ?st) ?h1 ?_ (u8s_by (low s))
      case h1 => rfl
      exact fun _ => rfl
    conv => whnf
    exact ⟨rfl, rfl⟩
theorem call155 (s : S8) (hs : s.length ≤ 1000000) : CallsTo Tryz.prog 155 [.str s] (.str (low s)) := calls Tryz.func155 rfl (by decide) (run155 s hs)
end Go.Proofs.YtnooelecdbbfkaaGreatDoor.Fw

/- Great letters. -/
namespace Go.Proofs.YtnooelecdbbfkaaGreatDoor.Fw
open Go Go.RowKit
set_option linter.unusedSectionVars false
variable [Inhabited GLT]
set_option maxRecDepth 100000
set_option maxHeartbeats 4000000

def upB (b : UInt8) : UInt8 := if 97 ≤ b ∧ b ≤ 122 then b - 32 else b
def upS (s : S8) : S8 := s.map upB
theorem upB_int (b : UInt8) : (upB b).toNat = if 97 ≤ b.toNat ∧ b.toNat ≤ 122 then b.toNat - 32 else b.toNat := by
  unfold upB
  have h1 : (97 ≤ b ∧ b ≤ 122) ↔ (97 ≤ b.toNat ∧ b.toNat ≤ 122) := by
    rw [UInt8.le_iff_toNat_le, UInt8.le_iff_toNat_le]; exact Iff.rfl
  by_cases h : 97 ≤ b ∧ b ≤ 122
  · rw [if_pos h, if_pos (h1.1 h), UInt8.toNat_sub_of_le _ _ (by rw [UInt8.le_iff_toNat_le]; have := (h1.1 h).1; show 32 ≤ _; omega)]; rfl
  · rw [if_neg h, if_neg (fun x => h (h1.2 x))]
theorem lowB_upB (b : UInt8) : lowB (upB b) = lowB b := by
  have h : (lowB (upB b)).toNat = (lowB b).toNat := by
    rw [lowB_int, upB_int, lowB_int]
    split <;> (try split) <;> (try split) <;> omega
  exact UInt8.toNat_inj.1 h
theorem low_up (s : S8) : low (upS s) = low s := by
  unfold low upS
  rw [List.map_map]
  exact List.map_congr_left fun b _ => lowB_upB b
theorem up_len (s : S8) : (upS s).length = s.length := by unfold upS; rw [List.length_map]
theorem run217 (b : UInt8) : Runs Tryz.prog T 13 (Tryz.f217.body.getD .skip) Tryz.f217.results.toList [.int .u8 b.toNat] (.int .u8 (upB b).toNat) := by
  refine ⟨Nat.le_of_ble_eq_true rfl, ?_⟩
  conv => whnf
  have hb := upB_int b
  have hl : b.toNat < 256 := b.toNat_lt
  refine ifB_intro (fun h => ?_) (fun h => ?_)
  · have h : ((97 : Int) ≤ b.toNat) ∧ ((b.toNat : Int) ≤ 122) := by
      revert h
      cases h1 : decide ((97 : Int) ≤ b.toNat) <;> simp_all
    conv => whnf
    refine ⟨rfl, congrArg (D.int .u8) ?_⟩
    rw [hb, if_pos (by omega), wrap_u8 (n := (b.toNat : Int) - 97) (by omega) (by omega), wrap_u8 (by omega) (by omega)]
    omega
  · conv => whnf
    refine ⟨rfl, congrArg (D.int .u8) ?_⟩
    have h : ¬ (((97 : Int) ≤ b.toNat) ∧ ((b.toNat : Int) ≤ 122)) := by
      intro h2
      rw [decide_eq_true h2.1, decide_eq_true h2.2] at h
      cases h
    rw [hb, if_neg (by omega)]
theorem call217 (b : UInt8) : CallsTo Tryz.prog 217 [.int .u8 b.toNat] (.int .u8 (upB b).toNat) := calls Tryz.func217 rfl (by decide) (run217 b)
theorem run203 (s : S8) (hs : s.length ≤ 1000000) : Runs Tryz.prog T 20 (Tryz.f203.body.getD .skip) Tryz.f203.results.toList [.str s] (.str (upS s)) := by
  refine ⟨Nat.le_of_ble_eq_true rfl, ?_⟩
  conv => whnf
  refine ⟨[.nilT 3 5 1], ?_⟩
  conv => whnf
  refine loop_at (σ := Nat) (fun i env => (env.setT 4 (.int .i64 (i : Int))).setT 3 (.sl 2 1 ((upS (s.take i)).map byD))) (fun i => s.length - i) (fun i => i ≤ s.length) 0 (Nat.zero_le _) rfl ?_
  rintro i hi ih
  conv => whnf
  refine ifB_intro (fun h => ?_) (fun h => ?_)
  · have h : (i : Int) < (s.length : Int) := of_decide_eq_true h
    have hlt : i < s.length := by omega
    have hw : IntKind.i64.wrap ((i : Int) + 1) = ((i + 1 : Nat) : Int) := by rw [IntKind.wrap_i64]; omega
    have ih' := ih (i + 1) hlt (by omega)
    obtain ⟨b, hb⟩ : ∃ b, s[i]? = some b := ⟨_, List.getElem?_eq_getElem hlt⟩
    have hg : List.getD s (i : Int).toNat 0 = b := by
      rw [Int.toNat_natCast, List.getD_eq_getElem?_getD, hb]; rfl
    rw [List.take_add_one, hb, Option.toList_some, upS, List.map_append, List.map_append] at ih'
    conv => whnf
    refine sideB_intro (fun _ => decide_eq_true (by omega)) ?_
    rw [hg]
    conv => whnf
    refine ⟨_, fun _ => call217 b, ?_⟩
    conv => whnf
    refine sideB_intro (fun _ => ?_) ?_
    · simp [upS]; omega
    conv => whnf
    rw [hw]
    exact ih'
  · have h : ¬ ((i : Int) < (s.length : Int)) := of_decide_eq_false h
    rw [List.take_of_length_le (by omega)]
    conv => whnf
    refine dO_of (r := ?rr) ?hh ?kk
    case hh =>
      refine conv_u8 (st := ?st) ?h1 ?_ (u8s_by (upS s))
      case h1 => rfl
      exact fun _ => rfl
    conv => whnf
    exact ⟨rfl, rfl⟩
theorem call203 (s : S8) (hs : s.length ≤ 1000000) : CallsTo Tryz.prog 203 [.str s] (.str (upS s)) := calls Tryz.func203 rfl (by decide) (run203 s hs)

end Go.Proofs.YtnooelecdbbfkaaGreatDoor.Fw

/- An image's things as plain data; picking; a text with one great letter. -/
namespace Go.Proofs.YtnooelecdbbfkaaGreatDoor.Fw
open Go Go.RowKit
set_option linter.unusedSectionVars false
variable [Inhabited GLT]
set_option maxRecDepth 100000
set_option maxHeartbeats 4000000
structure Al where
  k : Int
  a : S8
  b : S8
  l : S8
  s : S8
  r : S8
structure Lk where
  l : S8
  s : S8
  r : S8
  tl : S8
  ts : S8
  tr : S8
structure Ru where
  lv : Int
  n : Int
  one : Bool
  d0 : S8
  d1 : S8
  d2 : S8
  s0 : S8
  s1 : S8
  s2 : S8
structure Me where
  set : S8
  m : S8
def Al.d (x : Al) : D := .agg [.int .i64 x.k, .str x.a, .str x.b, .str x.l, .str x.s, .str x.r]
def Lk.d (x : Lk) : D := .agg [.str x.l, .str x.s, .str x.r, .str x.tl, .str x.ts, .str x.tr]
def Ru.d (x : Ru) : D := .agg [.int .i64 x.lv, .int .i64 x.n, .bool x.one, .str x.d0, .str x.d1, .str x.d2, .str x.s0, .str x.s1, .str x.s2]
def Me.d (x : Me) : D := .agg [.str x.set, .str x.m]
def imgD (xs : List Al) (ls : List Lk) (rs ms : List D) (th dm : Int) : D := .agg [.sl 0 6 (xs.map Al.d), .sl 0 6 (ls.map Lk.d), .sl 0 9 rs, .sl 0 2 ms, .int .i64 th, .int .i64 dm]
def intD (n : Int) : D := .int .i64 n
theorem and_true' {a b : Bool} (h : (bif a then b else false) = true) : a = true ∧ b = true := by cases a <;> simp_all
theorem rest_nat' (x : Int) (n : Nat) (h : 0 < n) (hn : n ≤ 1000000) : ∃ i : Nat, i < n ∧ (IntKind.i64.wrap (x.tmod n + n)).tmod n = (i : Int) := by
  have h1 := Int.tmod_lt_of_pos x (show (0 : Int) < n by omega)
  have h2 : -(n : Int) < x.tmod n := by have := Int.lt_tmod_of_pos x (show (0 : Int) < n by omega); omega
  rw [show IntKind.i64.wrap (x.tmod n + n) = x.tmod n + n by rw [IntKind.wrap_i64]; omega]
  refine ⟨((x.tmod n + n).tmod n).toNat, ?_, ?_⟩
  · have h3 := Int.tmod_lt_of_pos (x.tmod n + n) (show (0 : Int) < n by omega)
    have h4 := Int.tmod_nonneg n (show 0 ≤ x.tmod n + n by omega)
    omega
  · have h4 := Int.tmod_nonneg n (show 0 ≤ x.tmod n + n by omega)
    omega
theorem run57 (l : List S8) (x : Int) (i : Nat) (hi : i < l.length) (h : 0 < (List.map D.str l).length) (e : (IntKind.i64.wrap (x.tmod (List.map D.str l).length + (List.map D.str l).length)).tmod (List.map D.str l).length = (i : Int)) : Runs Tryz.prog T 18 (Tryz.f57.body.getD .skip) Tryz.f57.results.toList [.sl 0 1 (l.map .str), .int .i64 x] (.str l[i]) := by
  refine ⟨Nat.le_of_ble_eq_true rfl, ?_⟩
  conv => whnf
  refine sideB_intro (fun _ => decide_eq_true (by clear e; omega)) ?_
  conv => whnf
  refine sideB_intro (fun _ => decide_eq_true (by clear e; omega)) ?_
  conv => whnf
  rw [e]
  conv => whnf
  refine sideB_intro (fun _ => decide_eq_true (by clear e; simp only [List.length_map]; omega)) ?_
  conv => whnf
  rw [getD_map (enc := D.str) hi]
  conv => whnf
  exact ⟨rfl, rfl⟩
theorem call57 (l : List S8) (x : Int) (h : 0 < l.length) (h2 : l.length ≤ 1000000) : ∃ i : Nat, ∃ hi : i < l.length, CallsTo Tryz.prog 57 [.sl 0 1 (l.map .str), .int .i64 x] (.str l[i]) := by
  obtain ⟨i, hi, e⟩ := rest_nat' x l.length h h2
  have e' : (IntKind.i64.wrap (x.tmod (List.map D.str l).length + (List.map D.str l).length)).tmod (List.map D.str l).length = (i : Int) := by rw [List.length_map]; exact e
  exact ⟨i, hi, calls Tryz.func57 rfl (by decide) (run57 l x i hi (by rw [List.length_map]; exact h) e')⟩
theorem call57s (l : List S8) (x : Int) (h : 0 < l.length) (h2 : l.length ≤ 1000000) (n : Nat) (hn : l.all (fun s => Nat.ble s.length n) = true) : ∃ s : S8, s.length ≤ n ∧ CallsTo Tryz.prog 57 [.sl 0 1 (l.map .str), .int .i64 x] (.str s) := by
  obtain ⟨i, hi, hc⟩ := call57 l x h h2
  exact ⟨_, Nat.le_of_ble_eq_true (List.all_eq_true.1 hn _ (List.getElem_mem hi)), hc⟩
/-- One great letter, ahead. -/
def titleS : S8 → S8
  | [] => []
  | c :: l => upB c :: l.map lowB
theorem titleS_len (l : S8) : (titleS l).length = l.length := by cases l <;> simp [titleS]
theorem run160 (l : S8) (hl : l.length ≤ 1000000) : Runs Tryz.prog T 12 (Tryz.f160.body.getD .skip) Tryz.f160.results.toList [.str l] (.str (titleS l)) := by
  refine ⟨Nat.le_of_ble_eq_true rfl, ?_⟩
  conv => whnf
  cases l with
  | nil =>
    conv => whnf
    exact ⟨rfl, rfl⟩
  | cons c l =>
    replace hl : l.length + 1 ≤ 1000000 := hl
    conv => whnf
    refine ⟨rfl, ?_⟩
    conv => whnf
    refine sideB_intro (fun _ => decide_eq_true (by simp; omega)) ?_
    conv => whnf
    have hc := call203 [c] (Nat.le_of_ble_eq_true rfl)
    refine ⟨_, fun _ => hc, ?_⟩
    clear hc
    conv => whnf
    refine sideB_intro (fun _ => decide_eq_true (by simp; omega)) ?_
    conv => whnf
    rw [sliceD_end]
    have hc := call155 l (by omega)
    refine ⟨_, fun _ => hc, ?_⟩
    clear hc
    conv => whnf
    refine sideB_intro (fun _ => decide_eq_true (by simp [upS, low]; omega)) ?_
    conv => whnf
    exact ⟨rfl, rfl⟩
theorem call160 (l : S8) (hl : l.length ≤ 1000000) : CallsTo Tryz.prog 160 [.str l] (.str (titleS l)) := calls Tryz.func160 rfl (by decide) (run160 l hl)
end Go.Proofs.YtnooelecdbbfkaaGreatDoor.Fw

/- Rules as rows; the bytes of an image that has rules alone. -/
namespace Go.Proofs.YtnooelecdbbfkaaGreatDoor.Fw
open Go Go.RowKit
set_option linter.unusedSectionVars false
variable [Inhabited GLT]
set_option maxRecDepth 100000
set_option maxHeartbeats 40000000
def u8I (n : Int) : UInt8 := UInt8.ofNat (IntKind.u8.wrap n).toNat
/-- A rule's row. -/
def ruleRow (x : Ru) : S8 := [u8I x.lv, u8I x.n, bif x.one then 1 else 0] ++ packedS [x.d0, x.d1, x.d2] ++ packedS [x.s0, x.s1, x.s2]
theorem packS_len (s : S8) : (packS s).length = 8 := rfl
theorem packedS_len : ∀ l : List S8, (packedS l).length = 8 * l.length
  | [] => rfl
  | s :: l => by
    have := packedS_len l
    simp only [packedS, List.flatMap_cons, List.length_append, packS_len, List.length_cons] at this ⊢
    omega
theorem ruleRow_len (x : Ru) : (ruleRow x).length = 51 := by
  unfold ruleRow
  simp only [List.length_append, packedS_len, List.length_cons, List.length_nil]
structure okR (x : Ru) : Prop where
  d0 : x.d0.length ≤ 1000000
  d1 : x.d1.length ≤ 1000000
  d2 : x.d2.length ≤ 1000000
  s0 : x.s0.length ≤ 1000000
  s1 : x.s1.length ≤ 1000000
  s2 : x.s2.length ≤ 1000000
theorem okR.dl {x : Ru} (h : okR x) : ∀ s ∈ [x.d0, x.d1, x.d2], s.length ≤ 1000000 := by
  intro s hs
  simp only [List.mem_cons, List.not_mem_nil, or_false] at hs
  rcases hs with rfl | rfl | rfl
  · exact h.d0
  · exact h.d1
  · exact h.d2
theorem okR.sl {x : Ru} (h : okR x) : ∀ s ∈ [x.s0, x.s1, x.s2], s.length ≤ 1000000 := by
  intro s hs
  simp only [List.mem_cons, List.not_mem_nil, or_false] at hs
  rcases hs with rfl | rfl | rfl
  · exact h.s0
  · exact h.s1
  · exact h.s2
abbrev Tr : Ty := Tm [] [1000005, 2000001]
theorem run70 (x : Ru) (hx : okR x) : Runs Tryz.prog Tr 25 (Tryz.f70.body.getD .skip) Tryz.f70.results.toList [x.d] (.str (ruleRow x)) := by
  refine ⟨Nat.le_of_ble_eq_true rfl, ?_⟩
  conv => whnf
  refine ifB_intro (fun h => ?_) (fun h => ?_)
  · conv => whnf
    refine ⟨rfl, ?_⟩
    conv => whnf
    refine ⟨_, fun _ => call68 [x.d0, x.d1, x.d2] (by simp) (by simp) hx.dl, ?_⟩
    conv => whnf
    refine ⟨_, fun _ => call68 [x.s0, x.s1, x.s2] (by simp) (by simp) hx.sl, ?_⟩
    conv => whnf
    exact ⟨rfl, congrArg D.str (by unfold ruleRow; rw [show x.one = true from h]; rfl)⟩
  · conv => whnf
    refine ⟨rfl, ?_⟩
    conv => whnf
    refine ⟨_, fun _ => call68 [x.d0, x.d1, x.d2] (by simp) (by simp) hx.dl, ?_⟩
    conv => whnf
    refine ⟨_, fun _ => call68 [x.s0, x.s1, x.s2] (by simp) (by simp) hx.sl, ?_⟩
    conv => whnf
    exact ⟨rfl, congrArg D.str (by unfold ruleRow; rw [show x.one = false from h]; rfl)⟩
theorem call70 (x : Ru) (hx : okR x) : CallsTo Tryz.prog 70 [x.d] (.str (ruleRow x)) := calls Tryz.func70 rfl (by decide) (run70 x hx)
theorem run69 (rs : List Ru) (hl : rs.length ≤ 1000000) (hr : ∀ x ∈ rs, okR x ∧ ruleOK x.lv x.n (x.d0, x.d1, x.d2) (x.s0, x.s1, x.s2) = true) (what : S8) : Runs Tryz.prog T 35 (Tryz.f69.body.getD .skip) Tryz.f69.results.toList [.sl 0 9 (rs.map Ru.d), .str what, .fn 16 [], .fn 70 []] (.tup [.sl 0 1 ((rs.map ruleRow).map D.str), .nili]) := by
  refine ⟨Nat.le_of_ble_eq_true rfl, ?_⟩
  conv => whnf
  refine ⟨[.nilT 10 9 1], ?_⟩
  conv => whnf
  refine loop_at (σ := Nat) (fun i env => (env.setT 15 (.int .i64 (i : Int))).setT 10 (.sl 2 1 (((rs.take i).map ruleRow).map D.str))) (fun i => rs.length - i) (fun i => i ≤ rs.length) 0 (Nat.zero_le _) rfl ?_
  rintro i hi ih
  conv => whnf
  refine ifB_intro (fun h => ?_) (fun h => ?_)
  · replace h : (i : Int) < ((rs.map Ru.d).length : Int) := of_decide_eq_true h
    rw [List.length_map] at h
    have hlt : i < rs.length := by omega
    have hw : IntKind.i64.wrap ((i : Int) + 1) = ((i + 1 : Nat) : Int) := by rw [IntKind.wrap_i64]; omega
    have ih' := ih (i + 1) hlt (by omega)
    clear ih
    obtain ⟨x, hx⟩ : ∃ x, rs[i]? = some x := ⟨_, List.getElem?_eq_getElem hlt⟩
    obtain ⟨hox, hok⟩ := hr x (List.mem_of_getElem? hx)
    have hc := call16 x.lv x.n x.one x.d0 x.d1 x.d2 x.s0 x.s1 x.s2 hox.d0 hox.d1 hox.d2 hox.s0 hox.s1 hox.s2
    rw [hok] at hc
    rw [List.take_add_one, hx, Option.toList_some, List.map_append, List.map_append] at ih'
    have hg : (rs.map Ru.d).getD (i : Int).toNat D.undef = x.d := getD_enc (enc := Ru.d) (x := x) (show rs[(i : Int).toNat]? = some x from hx)
    have htl : (rs.take i).length = i := by simp; omega
    conv => whnf
    refine sideB_intro (fun _ => decide_eq_true (by simp only [List.length_map]; omega)) ?_
    rw [hg]
    conv => whnf
    refine ⟨_, fun _ => hc, ?_⟩
    conv => whnf
    refine ⟨_, fun _ => call70 x hox, ?_⟩
    conv => whnf
    refine sideB_intro (fun _ => decide_eq_true (by simp only [List.length_map, htl, List.length_cons, List.length_nil]; omega)) ?_
    conv => whnf
    rw [hw]
    exact ih'
  · replace h : ¬ ((i : Int) < ((rs.map Ru.d).length : Int)) := of_decide_eq_false h
    rw [List.length_map] at h
    obtain rfl : i = rs.length := by omega
    rw [List.take_length]
    conv => whnf
    exact ⟨rfl, rfl⟩
theorem call69 (rs : List Ru) (hl : rs.length ≤ 1000000) (hr : ∀ x ∈ rs, okR x ∧ ruleOK x.lv x.n (x.d0, x.d1, x.d2) (x.s0, x.s1, x.s2) = true) (what : S8) : CallsTo Tryz.prog 69 [.sl 0 9 (rs.map Ru.d), .str what, .fn 16 [], .fn 70 []] (.tup [.sl 0 1 ((rs.map ruleRow).map D.str), .nili]) := calls Tryz.func69 rfl (by decide) (run69 rs hl hr what)
theorem run61 (kind at_ : Int) (what : S8) (hk : kind ≠ 0) : Runs Tryz.prog T 11 (Tryz.f61.body.getD .skip) Tryz.f61.results.toList [.int .i64 kind, .int .i64 at_, .str what] (fltD kind at_ what) := by
  refine ⟨Nat.le_of_ble_eq_true rfl, ?_⟩
  conv => whnf
  refine ⟨_, fun _ => call124 kind at_ what hk, ?_⟩
  conv => whnf
  exact ⟨rfl, rfl⟩
theorem call61 (kind at_ : Int) (what : S8) (hk : kind ≠ 0) : CallsTo Tryz.prog 61 [.int .i64 kind, .int .i64 at_, .str what] (fltD kind at_ what) := calls Tryz.func61 rfl (by decide) (run61 kind at_ what hk)
theorem run60r (n : Nat) : Runs Tryz.prog T 25 (Tryz.f60.body.getD .skip) Tryz.f60.results.toList [.sl 0 1 [.int .i64 0, .int .i64 0, .int .i64 (n : Int), .int .i64 0]] (.int .i64 (n : Int)) := by
  refine ⟨Nat.le_of_ble_eq_true rfl, ?_⟩
  conv => whnf
  refine ⟨[], ?_⟩
  conv => whnf
  refine ⟨4, ?_⟩
  conv => whnf
  refine ⟨rfl, congrArg (D.int .i64) ?_⟩
  have e : (if (0 : Int) > 0 then (0 : Int) else 0) = 0 := rfl
  rw [e]
  by_cases h : (n : Int) > 0
  · rw [if_pos h, if_neg (by omega)]
  · rw [if_neg h]
    obtain rfl : n = 0 := by omega
    rfl
theorem call60r (n : Nat) : CallsTo Tryz.prog 60 [.sl 0 1 [.int .i64 0, .int .i64 0, .int .i64 (n : Int), .int .i64 0]] (.int .i64 (n : Int)) := calls Tryz.func60 rfl (by decide) (run60r n)
end Go.Proofs.YtnooelecdbbfkaaGreatDoor.Fw

/- The bytes of an image that has rules alone. -/
namespace Go.Proofs.YtnooelecdbbfkaaGreatDoor.Fw
open Go Go.RowKit
set_option linter.unusedSectionVars false
variable [Inhabited GLT]
set_option maxRecDepth 100000
set_option maxHeartbeats 40000000
def IMAGE : S8 := [105, 109, 97, 103, 101]
theorem run21m (rs : List Ru) (hn : 4000 < rs.length) : Runs Tryz.prog T 153 (Tryz.f21.body.getD .skip) Tryz.f21.results.toList [.agg [.sl 0 6 [], .sl 0 6 [], .sl 0 9 (rs.map Ru.d), .sl 0 2 [], .int .i64 0, .int .i64 0]] (.tup [.str [], fltD 16 0 IMAGE]) := by
  refine ⟨Nat.le_of_ble_eq_true rfl, ?_⟩
  conv => whnf
  have hc := call60r (rs.map Ru.d).length
  have hll : (rs.map Ru.d).length = rs.length := List.length_map ..
  refine ⟨_, fun _ => hc, ?_⟩
  conv => whnf
  rw [show decide ((4000 : Int) < ((rs.map Ru.d).length : Int)) = true from decide_eq_true (by omega)]
  conv => whnf
  refine ⟨_, fun _ => call61 16 0 IMAGE (by decide), ?_⟩
  conv => whnf
  exact ⟨rfl, rfl⟩
theorem call21m (rs : List Ru) (hn : 4000 < rs.length) : CallsTo Tryz.prog 21 [.agg [.sl 0 6 [], .sl 0 6 [], .sl 0 9 (rs.map Ru.d), .sl 0 2 [], .int .i64 0, .int .i64 0]] (.tup [.str [], fltD 16 0 IMAGE]) := calls Tryz.func21 rfl (by decide) (run21m rs hn)
def headN (n : Int) : S8 := [105, 115, 111, 103] ++ put2 0 ++ put2 0 ++ put2 n ++ put2 0 ++ [0, 0]
theorem rows_len : ∀ rs : List Ru, ((rs.map ruleRow).flatten).length = 51 * rs.length
  | [] => rfl
  | x :: rs => by
    have := rows_len rs
    simp only [List.map_cons, List.flatten_cons, List.length_append, ruleRow_len, List.length_cons] at this ⊢
    omega
theorem headN_len (rs : List Ru) : (headN (rs.length : Int) ++ (rs.map ruleRow).flatten).length = 14 + 51 * rs.length := by
  rw [List.length_append, rows_len]
  rfl
theorem call75f (l : List S8) (hl : l.length ≤ 1000000) (hj : l.flatten.length ≤ 281474976710656) : CallsTo Tryz.prog 75 [.sl 0 1 (l.map D.str), .str []] (.str l.flatten) := by
  have h := call75 l [] hl (by rw [joinS_nil]; exact hj)
  rwa [joinS_nil] at h
end Go.Proofs.YtnooelecdbbfkaaGreatDoor.Fw
