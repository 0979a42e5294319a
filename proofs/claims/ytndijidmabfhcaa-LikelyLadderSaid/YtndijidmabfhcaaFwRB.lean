/- A law's row follows from the contract of its function over plain data. -/
import Derived.Test.YtndijidmabfhcaaFwRA
import Derived.Below
import Derived.ChangeSame
import Derived.WalkKit
import Derived.ProofKit
import Derived.JoinedTies
namespace Go.Proofs.Ytndijidmabfhcaa.Fw
open Go Go.RowKit Go.WideShapes Go.ChangeShapes

section
variable {H : Type} {enc : TypeId × Value → H} {P : Program}
theorem post_below {f : Func} {s : ChangeSpec} {apart fresh handsOn again : Bool} {W W' : World} {args : Array Value} {v : Value} {ds gs : List (DataW H)} {before pa pv : List MemPlace}
    (hW : DataW.Whole enc P f.params.toList s.vars apart W args.toList ds gs before)
    (hres : ∀ (b : Nat) (sp : Nat → Bool) (hd : Bool), DataW.TrodAll enc P W' b sp hd f.resultTypes.toList (v.resultList f.resultTypes.size) (s.fn H (ds ++ gs)).results [])
    (hargs : ∀ sp : Nat → Bool, (∀ p ∈ before, sp p.block = true) → DataW.TrodAll enc P W' 0 sp true f.params.toList args.toList (s.fn H (ds ++ gs)).args pa)
    (hvars : ∀ sp : Nat → Bool, (∀ p ∈ before, sp p.block = true) → DataW.TrodVars enc P W' sp s.vars (s.fn H (ds ++ gs)).vars pv)
    (hps : before = pa ++ pv) (hb : Below W.heap.size W W')
    (hok : ∀ (j : Nat) (t : TypeId) (r : Value), f.resultTypes[j]? = some t → (v.resultList f.resultTypes.size)[j]? = some r → Value.okWide P W' .any 0 t r) :
    s.post enc P f apart fresh handsOn again W args v W' := by
  have hlt : ∀ p ∈ before, p.block < W.heap.size := fun p hp => hW.lt p hp
  have hold : ∀ p ∈ before, (fun b => decide (b < W.heap.size)) p.block = true := fun p hp => by simpa using hlt p hp
  refine ⟨ds, gs, before, [], pa, pv, hW, hres _ _ _, hargs _ hold, hvars _ hold, World.keptBut_mono (fun p hp => ⟨hp, ?_⟩) (hb.frame (· ∈ before)), fun _ => ?_⟩
  · rw [hps, List.mem_append] at hp
    exact Or.inr hp
  · obtain ⟨_, _, _, _, _, hz, hn⟩ := hW
    refine ⟨hok, _, _, ([] ++ pa) ++ pv, ⟨[] ++ pa, pv, trodAll_append (hargs _ (fun _ _ => rfl)) (hres _ _ _), hvars _ (fun _ _ => rfl), rfl, ?_, ?_⟩, ?_⟩
    · intro b off hp
      have hin : MemPlace.cell b off ∈ before := by rw [hps]; simpa using hp
      rw [hb.frozen (hlt _ hin)]
      exact hz b off hin
    · intro ha
      have := hn ha
      rw [hps] at this
      simpa using this
    · intro p hp _
      rw [hps]
      simpa using hp

theorem same_below {w w' : World} (hb : Below w.heap.size w w') {p : MemPlace} (hp : p.block < w.heap.size) : w.sameAt w' p := by
  have h := hb.block p.block hp
  cases p with
  | cell b off => simp only [World.sameAt, World.cell?, MemPlace.block] at h ⊢; rw [h]
  | map b => exact h

theorem args_stay {w w' : World} (hl : laidOutB P = true) (hb : Below w.heap.size w w') {sp : Nat → Bool} : ∀ {ts : List TypeId} {vs : List Value} {ds : List (DataW H)} {ps : List MemPlace},
    (∀ t ∈ ts, P.readableRec t = true ∧ t < P.types.size) → DataW.TrodAll enc P w 0 (fun _ => true) true ts vs ds ps → (∀ p ∈ ps, sp p.block = true) → DataW.TrodAll enc P w' 0 sp true ts vs ds ps
  | [], [], [], _, _, h, _ => h
  | t :: _, v :: _, d :: _, _, hT, ⟨p, q, ⟨n, h1⟩, h2, e⟩, hs => by
    subst e
    obtain ⟨hr, hrow⟩ := hT t (List.mem_cons_self)
    refine ⟨p, q, ⟨n, ?_⟩, args_stay hl hb (fun t ht => hT t (List.mem_cons_of_mem _ ht)) h2 fun x hx => hs x (List.mem_append_right _ hx), rfl⟩
    exact DataW.trod_stays (kids_book hl hr) (book_sized hr) (fun h => by cases h) ⟨hrow, book_self t⟩ h1
      (fun x hx => same_below hb (DataW.trod_lt _ _ _ _ h1 x hx)) (fun x hx => hs x (List.mem_append_left _ hx))

/-- Plain data of a type, as one. -/
def ShpV (T : Ty) (t : Nat) (d : D) : Prop := ∃ cs, d = wholeT T t cs ∧ Shp T 20 t cs

theorem conv_arg {T : Ty} (hT : TyOK P T) {w : World} {base t : Nat} (ht : plainT T 20 t = true) {v : Value} (hv : Value.okWide P w .any base t v) {d : DataW H} {ps : List MemPlace} (hd : DataW.Trod enc P w 0 (fun _ => true) true t v d ps) :
    ∃ x, ShpV T t x ∧ Rep (old w) w x v := by
  obtain ⟨fuel, hf⟩ := hd
  obtain ⟨ds, hc⟩ := conv hT 20 t fuel _ _ ht hf
  refine ⟨wholeT T t ds, ⟨ds, rfl, hc.shp⟩, ?_⟩
  have ht' := ht
  unfold plainT at ht
  split at ht
  case h_2 => cases ht
  case h_1 e he =>
  have hk := (hT t e he).kind
  have hone := (hT t e he).one
  cases hag : e.isAgg with
  | true =>
    rw [show wholeT T t ds = .agg ds by simp [wholeT, he, hag]]
    have hagg : ∃ cs, v = .agg cs := by
      unfold Value.okWide at hv
      unfold TE.isAgg at hag
      split at hag <;> rename_i hk' <;> first | (rw [hk'] at hk) | (cases hag; done)
      · obtain ⟨Fs, hu, _⟩ := hk
        rw [hu] at hv
        exact ⟨hv.choose, hv.choose_spec.1⟩
      · simp only [KindOK] at hk
        rw [hk] at hv
        exact ⟨hv.choose, hv.choose_spec.1⟩
    obtain ⟨cs, rfl⟩ := hagg
    exact ⟨cs.toList, by simp, hc.cell, hc.rep⟩
  | false =>
    have hno : ∀ cs, v ≠ .agg cs := by
      rintro cs rfl
      unfold Value.okWide at hv
      split at ht <;> rename_i hk' <;> first | (cases ht; done) | skip
      all_goals first
        | (rw [hk'] at hk; simp only [KindOK] at hk; rw [hk] at hv; simp [Cell.okWide, Cell.ok, hk] at hv; done)
        | (simp [TE.isAgg, hk'] at hag; done)
    have hcs : v.cells.toList = [v] := by
      cases v <;> first | rfl | exact absurd rfl (hno _)
    have hr := hc.rep
    rw [hcs] at hr
    have hlen := (all2_repL.1 hr).length
    obtain ⟨x, rfl⟩ := List.length_eq_one_iff.1 (show ds.length = 1 from hlen)
    rw [show wholeT T t [x] = x by simp [wholeT, he, hag]]
    exact (all2_repL.1 hr).1

theorem conv_args {T : Ty} (hT : TyOK P T) {w : World} {base : Nat} : ∀ {ts : List Nat} {vs : List Value} {ds : List (DataW H)} {ps : List MemPlace}, (∀ t ∈ ts, plainT T 20 t = true) →
    (∀ (j : Nat) t v, ts[j]? = some t → vs[j]? = some v → Value.okWide P w .any base t v) → DataW.TrodAll enc P w 0 (fun _ => true) true ts vs ds ps →
    ds.length = ts.length ∧ ∃ xs, All2 (ShpV T) ts xs ∧ RepL (old w) w xs vs
  | [], [], [], _, _, _, _ => ⟨rfl, [], trivial, by simp [RepL]⟩
  | t :: ts, v :: vs, d :: ds, _, hT', hok, ⟨p, q, h1, h2, e⟩ => by
    obtain ⟨x, hx, hr⟩ := conv_arg hT (hT' t (List.mem_cons_self)) (hok 0 t v rfl rfl) h1
    obtain ⟨hl, xs, hxs, hrs⟩ := conv_args hT (fun t ht => hT' t (List.mem_cons_of_mem _ ht)) (fun j t v hj hv => hok (j + 1) t v (by simpa using hj) (by simpa using hv)) h2
    exact ⟨by simp [hl], x :: xs, ⟨hx, hxs⟩, ⟨v, vs, rfl, hr, hrs⟩⟩

theorem law_contract {T : Ty} (hT : TyOK P T) (hl : laidOutB P = true) {f : Nat} {fn : Func} {s : ChangeSpec} {apart fresh handsOn again : Bool} {tb : Nat}
    (hv : s.vars = []) (hres : fn.resultTypes = #[tb]) (hbool : P.underlying tb = some .bool)
    (hp : fn.params.toList.all (fun t => plainT T 20 t && P.readableRec t && decide (t < P.types.size)) = true)
    (hs : ∀ ds : List (DataW H), ds.length = fn.params.toList.length → s.fn H ds = { results := [.lit (.bool true)], args := ds })
    (hcall : ∀ xs, All2 (ShpV T) fn.params.toList xs → CallsTo P f xs (.bool true))
    (W : World) (base : Nat) (args : Array Value) (ds gs : List (DataW H)) (before : List MemPlace)
    (hval : ∀ (j : Nat) t v, fn.params[j]? = some t → args[j]? = some v → Value.okWide P W .any base t v)
    (hW : DataW.Whole enc P fn.params.toList s.vars apart W args.toList ds gs before) :
    Calls P f args W fun e W' => ∃ v, e = .returned v ∧ s.post enc P fn apart fresh handsOn again W args v W' := by
  have hW' := hW
  obtain ⟨p, q, hA, hV, hpq, hfz, hnd⟩ := hW
  rw [hv] at hV
  obtain ⟨rfl, rfl⟩ := trodVars_none hV
  have hp' : ∀ t ∈ fn.params.toList, plainT T 20 t = true ∧ P.readableRec t = true ∧ t < P.types.size := fun t ht => by
    have := List.all_eq_true.1 hp t ht
    simp only [Bool.and_eq_true, decide_eq_true_eq] at this
    exact ⟨this.1.1, this.1.2, this.2⟩
  obtain ⟨hlen, xs, hxs, hrs⟩ := conv_args (base := base) hT (fun t ht => (hp' t ht).1) (fun j t v hj hv => hval j t v (by rw [← Array.getElem?_toList]; exact hj) (by rw [← Array.getElem?_toList]; exact hv)) hA
  have hc := (hcall xs hxs).2 (old W) W args.toList (fun b o h => h) hrs
  refine Calls.mono hc fun e W' ⟨v, I', he, _, _, _, hv', hb⟩ => ?_
  subst he
  have hvb : v = .bool true := by simpa [Rep] using hv'
  subst hvb
  rw [List.append_nil] at hpq
  subst hpq
  refine ⟨_, rfl, post_below (pa := before) (pv := []) hW' ?_ ?_ ?_ (by simp) hb ?_⟩
  · intro b sp hd
    rw [List.append_nil, hs ds hlen, hres]
    exact trodAll_cons_mk (shut_bool hbool _) trodAll_mk0
  · intro sp hsp
    rw [List.append_nil, hs ds hlen]
    exact args_stay hl hb (fun t ht => (hp' t ht).2) hA hsp
  · intro sp _
    rw [List.append_nil, hs ds hlen, hv]
    rfl
  · exact ok_one hres rfl (okWide_bool_mk hbool _)
end
end Go.Proofs.Ytndijidmabfhcaa.Fw
