/- Regions whose operations come in any order: all of them. -/
import Derived.Test.YtndijidmabfhcaaFwW
namespace Go.Proofs.Ytndijidmabfhcaa.Fw
open Go Go.RowKit

def SL (listed : Array Bool) (j : Nat) : Bool := listed.getD j false

theorem SL_lt {listed : Array Bool} {j : Nat} (h : SL listed j = true) : j < listed.size := by
  unfold SL at h
  apply Classical.byContradiction
  intro hn
  rw [Array.getD_eq_getD_getElem?, Array.getElem?_eq_none (by omega)] at h
  cases h

theorem SL_set {listed : Array Bool} {i j : Nat} (hi : i < listed.size) : SL (listed.setIfInBounds i true) j = if j = i then true else SL listed j := by
  unfold SL
  rw [Array.getD_eq_getD_getElem?, Array.getD_eq_getD_getElem?, Array.getElem?_setIfInBounds]
  by_cases e : j = i
  · subst e; simp [hi]
  · rw [if_neg (fun h => e h.symm), if_neg e]

theorem SL_get {listed : Array Bool} {i : Nat} (hi : i < listed.size) : listed.toList[i]? = some (SL listed i) := by
  unfold SL
  rw [Array.getD_eq_getD_getElem?, Array.getElem?_toList, Array.getElem?_eq_getElem hi]; rfl

theorem count_pos' {listed : Array Bool} {i : Nat} (hi : i < listed.size) (h : SL listed i = false) : 0 < listed.toList.count false := by
  rw [List.count_pos_iff]
  have := SL_get hi
  rw [h] at this
  exact List.mem_of_getElem? this

theorem count_set_lt {listed : Array Bool} {i : Nat} (hi : i < listed.size) (h : SL listed i = false) : (listed.setIfInBounds i true).toList.count false + 1 ≤ listed.toList.count false := by
  have hp := count_pos' hi h
  have hl : i < listed.toList.length := by simpa using hi
  have hg := SL_get hi
  rw [List.getElem?_eq_getElem hl, h] at hg
  have hg := Option.some.inj hg
  have e : (listed.toList.set i true).count false = listed.toList.count false - 1 := by rw [List.count_set hl, hg]; simp
  rw [Array.toList_setIfInBounds, e]; omega

theorem runS_ext {S S' : Nat → Bool} : ∀ {X : List Doing} {k : Nat} {env : Env}, (∀ j, j < X.length → S (k + j) = S' (k + j)) → runS S k X env = runS S' k X env
  | [], _, _, _ => rfl
  | x :: X, k, env, h => by
    simp only [runS]
    have h0 := h 0 (by simp)
    rw [Nat.add_zero] at h0
    rw [h0]
    exact runS_ext fun j hj => by rw [show k + 1 + j = k + (j + 1) from by omega]; exact h (j + 1) (by simpa using hj)

theorem filterMap_get : ∀ {L : List Oper}, (∀ o ∈ L, o.dst.isSome = true) → ∀ (j : Nat) (o : Oper), L[j]? = some o → (L.filterMap (·.dst))[j]? = o.dst
  | [], _, j, o, h => by simp at h
  | x :: L, hs, j, o, h => by
    have hx := hs x (by simp)
    cases hd : x.dst with
    | none => rw [hd] at hx; cases hx
    | some d =>
      rw [List.filterMap_cons_some hd]
      cases j with
      | zero => simp only [List.getElem?_cons_zero, Option.some.injEq] at h; subst h; rw [hd]; rfl
      | succ j => simpa using filterMap_get (fun o ho => hs o (by simp [ho])) j o (by simpa using h)

section
variable {P : Program} {T : Ty} {ops : Array Oper} {p : Nat} {env0 : Env} {X : List Doing} {rr : Option Nat} {n : Nat}

theorem ready_spec {listed : Array Bool} (hsz : listed.size = ops.size) {i : Nat} (h : i ∈ Region.ready .any ops listed) : i < ops.size ∧ SL listed i = false ∧ ∃ o, ops.toList[i]? = some o ∧ ∀ e ∈ o.after.toList, bindsB e = true → SL listed e.on = true := by
  simp only [Region.ready, List.mem_filter, List.mem_range, Bool.and_eq_true, Bool.not_eq_true'] at h
  obtain ⟨hi, h1, h2⟩ := h
  refine ⟨hi, ?_, ?_⟩
  · unfold SL
    rw [Array.getD_eq_getD_getElem?, Array.getElem?_eq_getElem (by omega)] at h1 ⊢
    exact h1
  · cases ho : ops[i]? with
    | none => rw [ho] at h2; cases h2
    | some o =>
      rw [ho] at h2
      simp only [Option.map_some, Option.getD_some] at h2
      refine ⟨o, by simpa using ho, fun e he hb => ?_⟩
      rw [← Array.all_toList] at h2
      have := List.all_eq_true.1 h2 e he
      unfold bindsB at hb
      rw [hb] at this
      simpa [SL] using this

theorem ready_mk {listed : Array Bool} (hsz : listed.size = ops.size) {i : Nat} {o : Oper} (ho : ops.toList[i]? = some o) (hl : SL listed i = false) (hr : ∀ e ∈ o.after.toList, bindsB e = true → SL listed e.on = true) : i ∈ Region.ready .any ops listed := by
  have hi : i < ops.size := by have := (List.getElem?_eq_some_iff.1 ho).1; simpa using this
  simp only [Region.ready, List.mem_filter, List.mem_range, Bool.and_eq_true, Bool.not_eq_true']
  refine ⟨hi, ?_, ?_⟩
  · unfold SL at hl
    rw [Array.getD_eq_getD_getElem?, Array.getElem?_eq_getElem (by omega)] at hl ⊢
    exact hl
  · have ho' : ops[i]? = some o := by simpa using ho
    rw [ho']
    simp only [Option.map_some, Option.getD_some]
    rw [← Array.all_toList]
    refine List.all_eq_true.2 fun e he => ?_
    cases hb : Region.binds .any e with
    | false => rfl
    | true => have := hr e he hb; simpa [SL] using this

theorem tail_all (hT : TyOK P T) (R : Reg P T ops p env0 X) {c0 : Ctx} (hG : GYield P c0.w0) {K0 : Env → Prop} {Q : Exit → Act → World → Prop} (hK : ∀ env' c' a' w', K0 env' → c0.Grow c' → St c' env' a' w' → Q .normal a' w') : ∀ (fuel k : Nat) (listed : Array Bool) (env : Env) (c : Ctx) (a : Act) (w : World), c0.Grow c → listed.size = ops.size → (∀ j, j < ops.size → SL listed j = decide (j < k)) → p ≤ k → k ≤ ops.size →
    St c env a w → evOps P T ops (ops.toList.drop k) env K0 → listed.toList.count false ≤ fuel → wpAnyIn (Fr rr) n P .any ops Q fuel listed a w := by
  intro fuel
  induction fuel with
  | zero =>
    intro k listed env c a w hn hsz hl hpk hkn h hd hf
    by_cases hk : k < ops.size
    · have := count_pos' (listed := listed) (i := k) (by omega) (by rw [hl k hk]; simp)
      omega
    · have hk : k = ops.size := by omega
      subst hk
      have hnr : Region.ready .any ops listed = [] := by
        apply List.eq_nil_iff_forall_not_mem.2
        intro i hi
        obtain ⟨h1, h2, _⟩ := ready_spec hsz hi
        rw [hl i h1] at h2
        simp only [decide_eq_false_iff_not] at h2; exact h2 h1
      have hdn : ops.toList.drop ops.size = [] := List.drop_eq_nil_iff.2 (by simp)
      rw [hdn] at hd
      exact ⟨hnr, hK _ c a w ((fE_iff _ _).1 hd) hn h.end⟩
  | succ fuel ih =>
    intro k listed env c a w hn hsz hl hpk hkn h hd hf
    have hback : ∀ {i : Nat} {o : Oper}, ops.toList[i]? = some o → i ≤ k → ∀ e ∈ o.after.toList, bindsB e = true → SL listed e.on = true := by
      intro i o ho hik e he hb
      have h1 := R.back i o ho e he hb
      have h2 := (List.getElem?_eq_some_iff.1 ho).1
      simp only [Array.length_toList] at h2
      rw [hl e.on (by omega)]; simp; omega
    by_cases hk : k < ops.size
    · obtain ⟨o, ho⟩ : ∃ o, ops.toList[k]? = some o := ⟨_, List.getElem?_eq_getElem (by simpa using hk)⟩
      have hkl : SL listed k = false := by rw [hl k hk]; simp
      refine ⟨fun hr => ?_, fun i hi => ?_⟩
      · have := ready_mk hsz ho hkl (hback ho (Nat.le_refl k))
        rw [hr] at this; cases this
      · obtain ⟨h1, h2, o', ho', h3⟩ := ready_spec hsz hi
        have hik : i = k := by
          rw [hl i h1] at h2
          simp only [decide_eq_false_iff_not] at h2
          rcases Nat.lt_or_ge k i with hlt | hge
          · have hcl : ∀ (j : Nat) (o : Oper), ops.toList[j]? = some o → SL listed j = true → ∀ e ∈ o.after.toList, bindsB e = true → SL listed e.on = true := by
              intro j oj hj hs
              refine hback hj ?_
              have hjn := (List.getElem?_eq_some_iff.1 hj).1
              simp only [Array.length_toList] at hjn
              rw [hl j hjn] at hs
              simp only [decide_eq_true_eq] at hs; omega
            have := anc_done R.back hcl i o' ho' h3 k (R.tail i o' ho' (by omega) k hlt)
            rw [hkl] at this; cases this
          · omega
        subst hik
        have hdr : ops.toList.drop i = o :: ops.toList.drop (i + 1) := by
          have hl' : i < ops.toList.length := by simpa using hk
          rw [List.drop_eq_getElem_cons hl']
          rw [List.getElem?_eq_getElem hl'] at ho
          rw [Option.some.inj ho]
        rw [hdr] at hd
        refine evOp_sound hT h (hG.grow hn) (by simpa using ho) hd fun env' c' a' w' hk' hn' hst => ?_
        refine ih (i + 1) _ env' c' a' w' (hn.trans hn') (by simpa using hsz) (fun j hj => ?_) (by omega) (by omega) hst ((fE1_iff _ _).1 hk') ?_
        · rw [SL_set (by omega)]
          by_cases e : j = i
          · subst e; simp
          · rw [if_neg e, hl j hj]
            congr 1
            simp only [eq_iff_iff]; omega
        · have := count_set_lt (listed := listed) (i := i) (by omega) hkl
          omega
    · have hk : k = ops.size := by omega
      subst hk
      have hdn : ops.toList.drop ops.size = [] := List.drop_eq_nil_iff.2 (by simp)
      rw [hdn] at hd
      refine ⟨fun _ => hK _ c a w ((fE_iff _ _).1 hd) hn h.end, fun i hi => ?_⟩
      obtain ⟨h1, h2, _⟩ := ready_spec hsz hi
      rw [hl i h1] at h2
      simp only [decide_eq_false_iff_not] at h2; exact absurd h1 h2

theorem phase_all (hT : TyOK P T) (R : Reg P T ops p env0 X) {c0 : Ctx} (hG : GYield P c0.w0) {K0 : Env → Prop} {Q : Exit → Act → World → Prop} (hK : ∀ env' c' a' w', K0 env' → c0.Grow c' → St c' env' a' w' → Q .normal a' w') (hd : evOps P T ops (ops.toList.drop p) (X.foldl (fun e x => x.app e) env0) K0) :
    ∀ (fuel : Nat) (listed : Array Bool) (c : Ctx) (a : Act) (w : World), c0.Grow c → listed.size = ops.size → (∀ (k : Nat) (o : Oper), ops.toList[k]? = some o → SL listed k = true → ∀ e ∈ o.after.toList, bindsB e = true → SL listed e.on = true) → (∀ j, p ≤ j → SL listed j = false) →
    St c (runS (SL listed) 0 X env0) a w → listed.toList.count false ≤ fuel → wpAnyIn (Fr rr) n P .any ops Q fuel listed a w := by
  intro fuel
  have hpn : p ≤ ops.size := by have := R.hp; simpa using this
  have done : ∀ (fuel : Nat) (listed : Array Bool) (c : Ctx) (a : Act) (w : World), c0.Grow c → listed.size = ops.size → (∀ j, p ≤ j → SL listed j = false) → St c (runS (SL listed) 0 X env0) a w → listed.toList.count false ≤ fuel → (∀ j, j < p → SL listed j = true) → wpAnyIn (Fr rr) n P .any ops Q fuel listed a w := by
    intro fuel listed c a w hn hsz htl h hf hall
    have hl : ∀ j, SL listed j = decide (j < p) := fun j => by
      by_cases hj : j < p
      · rw [hall j hj]; simp [hj]
      · rw [htl j (by omega)]; simp [hj]
    have e : runS (SL listed) 0 X env0 = X.foldl (fun e x => x.app e) env0 := by
      have h1 : runS (SL listed) 0 X env0 = runS (fun m => decide (m < 0 + p)) 0 X env0 := runS_ext fun j _ => by rw [hl]; simp
      rw [h1, runS_lt, List.take_of_length_le (by rw [R.len]; exact Nat.le_refl p)]
    rw [e] at h
    exact tail_all hT R hG hK fuel p listed _ c a w hn hsz (fun j _ => hl j) (Nat.le_refl p) hpn h hd hf
  have least : ∀ (listed : Array Bool), listed.size = ops.size → ¬ (∀ j, j < p → SL listed j = true) → ∃ j, j < p ∧ SL listed j = false ∧ j ∈ Region.ready .any ops listed := by
    intro listed hsz hna
    have h1 : ∃ j, j < p ∧ SL listed j = false := by
      apply Classical.byContradiction
      intro hno
      refine hna fun j hj => ?_
      cases hs : SL listed j with
      | true => rfl
      | false => exact absurd ⟨j, hj, hs⟩ hno
    have h2 : ∀ m j, j < m → j < p → SL listed j = false → ∃ j, j < p ∧ SL listed j = false ∧ j ∈ Region.ready .any ops listed := by
      intro m
      induction m with
      | zero => intro j hj; omega
      | succ m ih =>
        intro j hjm hj hs
        by_cases hex : ∃ j', j' < j ∧ SL listed j' = false
        · obtain ⟨j', h3, h4⟩ := hex
          exact ih j' (by omega) (by omega) h4
        · obtain ⟨o, ho⟩ : ∃ o, ops.toList[j]? = some o := ⟨_, List.getElem?_eq_getElem (by simp; omega)⟩
          refine ⟨j, hj, hs, ready_mk hsz ho hs fun e he hb => ?_⟩
          have := R.back j o ho e he hb
          cases he' : SL listed e.on with
          | true => rfl
          | false => exact absurd ⟨e.on, this, he'⟩ hex
    obtain ⟨j, h3, h4⟩ := h1
    exact h2 (j + 1) j (by omega) h3 h4
  induction fuel with
  | zero =>
    intro listed c a w hn hsz hcl htl h hf
    by_cases hall : ∀ j, j < p → SL listed j = true
    · exact done 0 listed c a w hn hsz htl h hf hall
    · obtain ⟨j, h1, h2, _⟩ := least listed hsz hall
      have := count_pos' (listed := listed) (i := j) (by omega) h2
      omega
  | succ fuel ih =>
    intro listed c a w hn hsz hcl htl h hf
    by_cases hall : ∀ j, j < p → SL listed j = true
    · exact done (fuel + 1) listed c a w hn hsz htl h hf hall
    · obtain ⟨j0, h1, h2, h3⟩ := least listed hsz hall
      refine ⟨fun hr => (by rw [hr] at h3; cases h3), fun i hi => ?_⟩
      obtain ⟨k1, k2, o, ho, k3⟩ := ready_spec hsz hi
      have hip : i < p := by
        rcases Nat.lt_or_ge i p with hlt | hge
        · exact hlt
        · have := anc_done R.back hcl i o ho k3 j0 (R.tail i o ho hge j0 (by omega))
          rw [h2] at this; cases this
      have hset : ∀ j, SL (listed.setIfInBounds i true) j = if j = i then true else SL listed j := fun j => SL_set (by omega)
      refine R.step hT hcl ho hip k2 k3 (S' := SL (listed.setIfInBounds i true)) (by rw [hset, if_pos rfl]) (fun j hj => by rw [hset, if_neg hj]) h fun c' a' w' hn' hst => ?_
      refine ih _ c' a' w' (hn.trans hn'.grow) (by simpa using hsz) (fun k ok hok hs e he hb => ?_) (fun j hj => by rw [hset, if_neg (by omega)]; exact htl j hj) hst ?_
      · rw [hset] at hs ⊢
        split
        · rfl
        · by_cases ek : k = i
          · subst ek
            rw [ho] at hok; cases hok
            exact k3 e he hb
          · rw [if_neg ek] at hs
            exact hcl k ok hok hs e he hb
      · have := count_set_lt (listed := listed) (i := i) (by omega) k2
        omega

theorem draw_sound (hT : TyOK P T) (hmo : P.follows .mixedOrders = true) {c : Ctx} {env : Env} {a : Act} {w : World} (h : St c env a w) (hG : GYield P c.w0) {id : Nat} {K0 : Env → Prop} {Q : Exit → Act → World → Prop} (hd : evRegion P T ops true env K0)
    (hK : ∀ env' c' a' w', K0 env' → c.Grow c' → St c' env' a' w' → Q .normal a' w') : (Code.region id ops true).wpIn (Fr rr) n P Q a w := by
  have hd := (fN_iff _ _).1 hd
  have hd := (fNat_iff _ _).1 hd
  obtain ⟨hok, hd⟩ := hd
  have hd := (fE_iff _ _).1 hd
  generalize ahead ops.toList = p at hok hd
  obtain ⟨X, h1, h2, h3, _, h5⟩ := evPh_facts _ _ _ _ _ hd
  simp only [drawOK, Bool.and_eq_true, Nat.ble_eq] at hok
  obtain ⟨⟨hple, hdis⟩, hall⟩ := hok
  have hat : ∀ (i : Nat) (o : Oper), ops.toList[i]? = some o → (o.after.toList.all (fun e => !bindsB e || Nat.blt e.on i) = true) ∧ ((match Nat.blt i p with
      | true => o.dst.isSome && (match o.guard with | some (j, _) => Nat.blt j i && Nat.testBit ((ancs ops.toList []).getD i 0) j | none => true)
      | false => (List.range i).all fun j => Nat.testBit ((ancs ops.toList []).getD i 0) j) = true) := by
    intro i o ho
    have := List.all_eq_true.1 hall i (List.mem_range.2 (List.getElem?_eq_some_iff.1 ho).1)
    rw [ho] at this
    have this := (Bool.and_eq_true _ _ ▸ this : _ ∧ _)
    exact this
  have hlen : (ops.toList.take p).length = p := by rw [List.length_take]; omega
  have hdst : ∀ o ∈ ops.toList.take p, o.dst.isSome = true := by
    intro o ho
    obtain ⟨i, hi⟩ := List.getElem?_of_mem ho
    have hip : i < p := by have := (List.getElem?_eq_some_iff.1 hi).1; omega
    rw [List.getElem?_take, if_pos hip] at hi
    have := (hat i o hi).2
    rw [show Nat.blt i p = true from by simpa using hip] at this
    simp only [Bool.and_eq_true] at this
    exact this.1
  have hfd : ∀ (j : Nat) (y : Doing), X[j]? = some y → ((ops.toList.take p).filterMap (·.dst))[j]? = some y.dst := by
    intro j y hj
    have hjp : j < (ops.toList.take p).length := by rw [← h1]; exact (List.getElem?_eq_some_iff.1 hj).1
    obtain ⟨g, dst, r, x, k1, F⟩ := h3 j _ (List.getElem?_eq_getElem hjp)
    rw [hj] at k1; cases k1
    rw [filterMap_get hdst j _ (List.getElem?_eq_getElem hjp), F.isDst, F.isX, doing_dst]
  have R : Reg P T ops p env.end X := by
    refine ⟨hple, fun i o ho e he hb => ?_, h1.trans hlen, h3, fun j j' y y' k1 k2 e => distinct_spec hdis j j' y.dst (hfd j y k1) (by rw [e]; exact hfd j' y' k2), h5, fun i o ho hip j b hg => ?_, fun i o ho hip j hj => ?_, rfl⟩
    · have := List.all_eq_true.1 (hat i o ho).1 e he
      rw [hb] at this
      simpa using this
    · have := (hat i o ho).2
      rw [show Nat.blt i p = true from by simpa using hip, hg] at this
      simp only [Bool.and_eq_true, Nat.blt_eq] at this
      exact this.2
    · have := (hat i o ho).2
      rw [show Nat.blt i p = false from by rw [← Bool.not_eq_true, Nat.blt_eq]; omega] at this
      exact List.all_eq_true.1 this j (List.mem_range.2 hj)
  refine wpIn_region_any hmo ?_
  have hS : ∀ j, SL (Array.replicate ops.size false) j = false := fun j => by
    unfold SL
    rw [Array.getD_eq_getD_getElem?, Array.getElem?_replicate]
    split <;> rfl
  refine phase_all hT R hG hK h2 ops.size _ c a _ (.refl c) (by simp) (fun k o _ hs => by rw [hS] at hs; cases hs) (fun j _ => hS j) ?_ (by simp)
  rw [runS_ext (S' := fun _ => false) (fun j _ => hS _), runS_false]
  exact h.end.drew
end

end Go.Proofs.Ytndijidmabfhcaa.Fw
