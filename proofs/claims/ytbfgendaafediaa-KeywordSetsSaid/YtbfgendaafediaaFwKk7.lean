/- Texts KW, KX of the proof, in one. -/
import Derived.Test.YtbfgendaafediaaFwKk6
set_option linter.unusedSimpArgs false
set_option linter.unusedVariables false
set_option linter.unusedSectionVars false
set_option linter.unnecessarySimpa false

/- Plain: what sorting, compacting, and the first of each key, give. -/
namespace Go.Proofs.Ytbfgendaafediaa.Fw
open Go Go.RowKit
set_option maxRecDepth 100000

theorem lt8_irrefl : ∀ a : S8, lt8 a a = false
  | [] => rfl
  | x :: a => by simp [lt8, bytesLess, Op.bytesLess]; exact lt8_irrefl a
theorem lt8_cons (x y : UInt8) (a b : S8) : lt8 (x :: a) (y :: b) = true ↔ x < y ∨ (x = y ∧ lt8 a b = true) := by
  unfold lt8 bytesLess
  rw [Op.bytesLess]
  by_cases h1 : x < y
  · simp [h1]
  · by_cases h2 : y < x
    · have : x ≠ y := fun e => by subst e; exact UInt8.lt_irrefl _ h2
      simp [h1, h2, this]
    · have : x = y := UInt8.le_antisymm (UInt8.not_lt.1 h2) (UInt8.not_lt.1 h1)
      simp [this]
theorem lt8_trans : ∀ {a b c : S8}, lt8 a b = true → lt8 b c = true → lt8 a c = true
  | [], [], _, h, _ => by cases h
  | [], _ :: _, [], _, h => by cases h
  | [], _ :: _, _ :: _, _, _ => rfl
  | _ :: _, [], _, h, _ => by cases h
  | _ :: _, _ :: _, [], _, h => by cases h
  | x :: a, y :: b, z :: c, h1, h2 => by
    rw [lt8_cons] at h1 h2 ⊢
    rcases h1 with h1 | ⟨rfl, h1⟩
    · rcases h2 with h2 | ⟨rfl, h2⟩
      · exact .inl (UInt8.lt_trans h1 h2)
      · exact .inl h1
    · rcases h2 with h2 | ⟨rfl, h2⟩
      · exact .inl h2
      · exact .inr ⟨rfl, lt8_trans h1 h2⟩
theorem lt8_tri : ∀ {a b : S8}, lt8 a b = false → lt8 b a = false → a = b
  | [], [], _, _ => rfl
  | [], _ :: _, h, _ => by cases h
  | _ :: _, [], _, h => by cases h
  | x :: a, y :: b, h1, h2 => by
    have e1 := fun h => (Bool.eq_false_iff.1 h1) ((lt8_cons x y a b).2 h)
    have e2 := fun h => (Bool.eq_false_iff.1 h2) ((lt8_cons y x b a).2 h)
    have h : x = y := UInt8.le_antisymm (UInt8.not_lt.1 fun h => e2 (.inl h)) (UInt8.not_lt.1 fun h => e1 (.inl h))
    subst h
    have := lt8_tri (a := a) (b := b) (Bool.eq_false_iff.2 fun h => e1 (.inr ⟨rfl, h⟩)) (Bool.eq_false_iff.2 fun h => e2 (.inr ⟨rfl, h⟩))
    rw [this]
theorem lt8_asymm {a b : S8} (h : lt8 a b = true) : lt8 b a = false := by
  cases hb : lt8 b a with
  | false => rfl
  | true => have := lt8_trans h hb; rw [lt8_irrefl] at this; cases this
theorem lt8_ge_trans {a b c : S8} (h1 : lt8 a b = false) (h2 : lt8 b c = false) : lt8 a c = false := by
  cases hc : lt8 a c with
  | false => rfl
  | true =>
    exfalso
    cases hb : lt8 b a with
    | true => have := lt8_trans hb hc; rw [h2] at this; cases this
    | false =>
      have := lt8_tri h1 hb; subst this
      rw [h2] at hc; cases hc

/-- An order that may be sorted by. -/
structure Ord {α : Type} (lt : α → α → Bool) : Prop where
  asymm : ∀ {a b}, lt a b = true → lt b a = false
  trans : ∀ {a b c}, lt a b = false → lt b c = false → lt a c = false
theorem ord8 : Ord lt8 := ⟨lt8_asymm, lt8_ge_trans⟩
theorem ordk : Ord ltk := ⟨fun h => lt8_asymm h, fun h1 h2 => lt8_ge_trans h1 h2⟩

section
variable {α : Type} (lt : α → α → Bool)
def insRev (a : α) : List α → List α
  | [] => [a]
  | b :: Q => bif lt a b then b :: insRev a Q else a :: b :: Q
theorem insRev_perm (a : α) : ∀ Q : List α, (insRev lt a Q).Perm (a :: Q)
  | [] => .refl _
  | b :: Q => by
    unfold insRev
    cases lt a b with
    | true => exact ((insRev_perm a Q).cons b).trans (.swap ..)
    | false => exact .refl _
theorem sift_eq : ∀ (j : Nat) (P D : List α) (a : α), P.length = j → sift lt j (P ++ a :: D) = (insRev lt a P.reverse).reverse ++ D
  | 0, P, D, a, h => by
    have := List.eq_nil_of_length_eq_zero h; subst this
    rfl
  | j + 1, P, D, a, h => by
    rcases List.eq_nil_or_concat P with rfl | ⟨P', b, rfl⟩
    · cases h
    · rw [List.concat_eq_append, List.length_append, List.length_singleton] at h
      have hj : P'.length = j := by omega
      rw [List.concat_eq_append]
      have g1 : (P' ++ [b] ++ a :: D)[j + 1]? = some a := by
        rw [List.getElem?_append_right (by simp; omega)]; simp [hj]
      have g2 : (P' ++ [b] ++ a :: D)[j]? = some b := by
        rw [List.append_assoc, List.getElem?_append_right (by omega)]; simp [hj]
      unfold sift
      rw [g1, g2]
      simp only [List.reverse_append, List.reverse_cons, List.reverse_nil, List.nil_append, List.singleton_append]
      unfold insRev
      cases lt a b with
      | true =>
        rw [cond_true, cond_true]
        have hs : ((P' ++ [b] ++ a :: D).set (j + 1) b).set j a = P' ++ a :: (b :: D) := by
          rw [List.append_assoc, List.set_append_right _ _ (by omega), List.set_append_right _ _ (by omega)]
          have : j + 1 - P'.length = 1 := by omega
          rw [this, show j - P'.length = 0 from by omega]
          rfl
        rw [hs, sift_eq j P' (b :: D) a hj]
        simp
      | false =>
        rw [cond_false, cond_false]; simp
def rs (L : List α) : List α := L.foldl (fun r a => insRev lt a r) []
theorem fold_perm : ∀ (L r : List α), (L.foldl (fun r a => insRev lt a r) r).Perm (r ++ L)
  | [], r => by simp
  | a :: L, r => by
    rw [List.foldl_cons]
    refine (fold_perm L _).trans ?_
    exact ((insRev_perm lt a r).append_right L).trans (List.perm_middle.symm)
theorem rs_perm (L : List α) : (rs lt L).Perm L := fold_perm lt L []
theorem sortTo_eq (L : List α) : ∀ i, i ≤ L.length → sortTo lt L i = (rs lt (L.take i)).reverse ++ L.drop i
  | 0, _ => by simp [sortTo, rs]
  | i + 1, h => by
    have hi : i < L.length := h
    rw [sortTo, sortTo_eq L i (by omega), List.drop_eq_getElem_cons hi, sift_eq lt i _ _ _ (by rw [List.length_reverse, (rs_perm lt _).length_eq, List.length_take]; omega)]
    rw [List.reverse_reverse, List.take_add_one, List.getElem?_eq_getElem hi]
    unfold rs
    rw [List.foldl_append]; rfl
theorem isort_eq (L : List α) : isort lt L = (rs lt L).reverse := by
  unfold isort
  rw [sortTo_eq lt L L.length (Nat.le_refl _), List.take_length, List.drop_length, List.append_nil]
theorem isort_perm (L : List α) : (isort lt L).Perm L := by
  rw [isort_eq]; exact (List.reverse_perm _).trans (rs_perm lt L)
variable {lt} (ho : Ord lt)
include ho
theorem insRev_desc {a : α} : ∀ {Q : List α}, Q.Pairwise (fun x y => lt x y = false) → (insRev lt a Q).Pairwise fun x y => lt x y = false
  | [], _ => by simp [insRev]
  | b :: Q, h => by
    have h' := List.pairwise_cons.1 h
    unfold insRev
    cases hab : lt a b with
    | true =>
      rw [cond_true]
      refine List.pairwise_cons.2 ⟨fun y hy => ?_, insRev_desc h'.2⟩
      rcases List.mem_cons.1 ((insRev_perm lt a Q).mem_iff.1 hy) with rfl | hy
      · exact ho.asymm hab
      · exact h'.1 y hy
    | false =>
      rw [cond_false]
      refine List.pairwise_cons.2 ⟨fun y hy => ?_, h⟩
      rcases List.mem_cons.1 hy with rfl | hy
      · exact hab
      · exact ho.trans hab (h'.1 y hy)
theorem fold_desc : ∀ (L r : List α), r.Pairwise (fun x y => lt x y = false) → (L.foldl (fun r a => insRev lt a r) r).Pairwise fun x y => lt x y = false
  | [], r, h => h
  | a :: L, r, h => fold_desc L _ (insRev_desc ho h)
theorem isort_sorted (L : List α) : (isort lt L).Pairwise fun x y => lt y x = false := by
  rw [isort_eq, List.pairwise_reverse]
  exact fold_desc ho L [] .nil
omit ho in
theorem fold_same : ∀ (L r : List α), L.Pairwise (fun x y => lt y x = false) → (∀ x ∈ r, ∀ y ∈ L, lt y x = false) → L.foldl (fun r a => insRev lt a r) r = L.reverse ++ r
  | [], r, _, _ => rfl
  | a :: L, r, h, hr => by
    have h' := List.pairwise_cons.1 h
    have hi : insRev lt a r = a :: r := by
      cases r with
      | nil => rfl
      | cons b Q => unfold insRev; rw [hr b (List.mem_cons_self ..) a (List.mem_cons_self ..)]; rfl
    rw [List.foldl_cons, hi, fold_same L (a :: r) h'.2 fun x hx y hy => by
      rcases List.mem_cons.1 hx with rfl | hx
      · exact h'.1 y hy
      · exact hr x hx y (List.mem_cons_of_mem _ hy)]
    simp
omit ho in
theorem isort_same {L : List α} (h : L.Pairwise (fun x y => lt y x = false)) : isort lt L = L := by
  rw [isort_eq, rs, fold_same L [] h (fun x hx => by cases hx)]; simp
end

/-- What is in order, each thing once, rises. -/
theorem cpt_spec {l : List S8} (hs : l.Pairwise fun x y => lt8 y x = false) : ∀ k, k ≤ l.length →
    (cpt l k).Pairwise (fun x y => lt8 x y = true) ∧ (∀ x ∈ cpt l k, x ∈ l) ∧ (0 < k → ∃ y, l[k - 1]? = some y ∧ y ∈ cpt l k ∧ ∀ x ∈ cpt l k, x = y ∨ lt8 x y = true)
  | 0, _ => ⟨.nil, fun x hx => (by cases hx), fun h => absurd h (by omega)⟩
  | k + 1, h => by
    obtain ⟨i1, i2, i3⟩ := cpt_spec hs k (by omega)
    have hk : l[k]? = some l[k] := List.getElem?_eq_getElem (by omega)
    have hm : l[k] ∈ l := List.getElem_mem _
    unfold cpt
    rw [hk]
    simp only
    cases h0 : Nat.beq k 0 with
    | true =>
      have := Nat.eq_of_beq_eq_true h0; subst this
      rw [cond_true]
      exact ⟨by simp, fun x hx => by simp only [List.mem_singleton] at hx; subst hx; exact hm, fun _ => ⟨l[0], by simp, by simp, fun x hx => .inl (by simpa using hx)⟩⟩
    | false =>
      rw [cond_false]
      have hk0 : 0 < k := by have := nbeq_f.1 h0; omega
      obtain ⟨y, y1, y2, y3⟩ := i3 hk0
      have hy : y = l[k - 1] := by rw [List.getElem?_eq_getElem (by omega)] at y1; exact (Option.some.inj y1).symm
      cases hb : (l[k - 1]? == some l[k]) with
      | true =>
        rw [cond_true]
        have : y = l[k] := by rw [y1] at hb; simpa using hb
        exact ⟨i1, i2, fun _ => ⟨l[k], by simp, this ▸ y2, fun x hx => this ▸ y3 x hx⟩⟩
      | false =>
        rw [cond_false]
        have hne : y ≠ l[k] := by rw [y1] at hb; simpa using hb
        have hle : lt8 l[k] y = false := by
          rw [hy]; exact List.pairwise_iff_getElem.1 hs (k - 1) k (by omega) (by omega) (by omega)
        have hlt : lt8 y l[k] = true := by
          cases hc : lt8 y l[k] with
          | true => rfl
          | false => exact absurd (lt8_tri hc hle) hne
        have hall : ∀ x ∈ cpt l k, lt8 x l[k] = true := fun x hx => by
          rcases y3 x hx with rfl | h
          · exact hlt
          · exact lt8_trans h hlt
        refine ⟨List.pairwise_append.2 ⟨i1, by simp, fun x hx z hz => by simp only [List.mem_singleton] at hz; subst hz; exact hall x hx⟩, fun x hx => ?_, fun _ => ⟨l[k], by simp, by simp, fun x hx => ?_⟩⟩
        · rcases List.mem_append.1 hx with hx | hx
          · exact i2 x hx
          · simp only [List.mem_singleton] at hx; subst hx; exact hm
        · rcases List.mem_append.1 hx with hx | hx
          · exact .inr (hall x hx)
          · exact .inl (by simpa using hx)
theorem cpt_same_all {l : List S8} (hs : l.Pairwise fun x y => lt8 x y = true) : ∀ k, k ≤ l.length → cpt l k = l.take k
  | 0, _ => by simp [cpt]
  | k + 1, h => by
    have hk : l[k]? = some l[k] := List.getElem?_eq_getElem (by omega)
    unfold cpt
    rw [hk, List.take_add_one, hk, cpt_same_all hs k (by omega)]
    simp only
    cases h0 : Nat.beq k 0 with
    | true => have := Nat.eq_of_beq_eq_true h0; subst this; simp
    | false =>
      rw [cond_false]
      have hk0 : 0 < k := by have := nbeq_f.1 h0; omega
      have hb : (l[k - 1]? == some l[k]) = false := by
        rw [List.getElem?_eq_getElem (by omega)]
        have := List.pairwise_iff_getElem.1 hs (k - 1) k (by omega) (by omega) (by omega)
        simp only [Option.some_beq_some, beq_eq_false_iff_ne]
        intro e; rw [e, lt8_irrefl] at this; cases this
      rw [hb, cond_false]; rfl

/-- The first of each key. -/
theorem fSt_spec (l : List Ext) : ∀ k, k ≤ l.length → (fSt l k).1.Pairwise (fun a b => a.key ≠ b.key) ∧ (∀ e ∈ (fSt l k).1, e ∈ l) ∧ (∀ s, s ∈ (fSt l k).2 ↔ ∃ e ∈ (fSt l k).1, e.key = s) ∧ ∀ j e, j < k → l[j]? = some e → e.key ∈ (fSt l k).2
  | 0, _ => ⟨.nil, fun e he => (by cases he), fun s => ⟨fun h => (by cases h), fun h => (by obtain ⟨e, he, _⟩ := h; cases he)⟩, fun j e hj => absurd hj (by omega)⟩
  | k + 1, h => by
    obtain ⟨i1, i2, i3, i4⟩ := fSt_spec l k (by omega)
    have hk : l[k]? = some l[k] := List.getElem?_eq_getElem (by omega)
    have hm : l[k] ∈ l := List.getElem_mem _
    unfold fSt
    rw [hk]
    generalize l[k] = e at hk hm
    simp only
    have hin : ∀ s, s ∈ insS e.key (fSt l k).2 ↔ s = e.key ∨ s ∈ (fSt l k).2 := fun s => mem_insS
    cases hh : has (fSt l k).2 e.key with
    | true =>
      have hh : e.key ∈ (fSt l k).2 := of_decide_eq_true hh
      rw [cond_true]
      refine ⟨i1, i2, fun s => ?_, fun j x hj hx => ?_⟩
      · rw [hin, ← i3]
        exact ⟨fun h => h.elim (fun h => h ▸ hh) id, .inr⟩
      · rw [hin]
        rcases Nat.lt_or_ge j k with hlt | hge
        · exact .inr (i4 j x hlt hx)
        · rw [show j = k from by omega, hk] at hx; cases hx; exact .inl rfl
    | false =>
      have hh : e.key ∉ (fSt l k).2 := of_decide_eq_false hh
      rw [cond_false]
      refine ⟨List.pairwise_append.2 ⟨i1, by simp, fun a ha b hb => ?_⟩, fun x hx => ?_, fun s => ?_, fun j x hj hx => ?_⟩
      · simp only [List.mem_singleton] at hb; subst hb
        exact fun e => hh ((i3 _).2 ⟨a, ha, e⟩)
      · rcases List.mem_append.1 hx with hx | hx
        · exact i2 x hx
        · simp only [List.mem_singleton] at hx; subst hx; exact hm
      · rw [hin]
        constructor
        · rintro (rfl | h)
          · exact ⟨e, by simp, rfl⟩
          · obtain ⟨a, ha, he⟩ := (i3 s).1 h
            exact ⟨a, List.mem_append_left _ ha, he⟩
        · rintro ⟨a, ha, rfl⟩
          rcases List.mem_append.1 ha with ha | ha
          · exact .inr ((i3 _).2 ⟨a, ha, rfl⟩)
          · simp only [List.mem_singleton] at ha; subst ha; exact .inl rfl
      · rw [hin]
        rcases Nat.lt_or_ge j k with hlt | hge
        · exact .inr (i4 j x hlt hx)
        · rw [show j = k from by omega, hk] at hx; cases hx; exact .inl rfl
theorem fSt_same {l : List Ext} (hs : l.Pairwise fun a b => a.key ≠ b.key) : ∀ k, k ≤ l.length → (fSt l k).1 = l.take k
  | 0, _ => by simp [fSt]
  | k + 1, h => by
    obtain ⟨_, _, i3, _⟩ := fSt_spec l k (by omega)
    have ih := fSt_same hs k (by omega)
    have hk : l[k]? = some l[k] := List.getElem?_eq_getElem (by omega)
    have hn : l[k].key ∉ (fSt l k).2 := fun hc => by
      obtain ⟨a, ha, he⟩ := (i3 _).1 hc
      rw [ih] at ha
      obtain ⟨j, hj, rfl⟩ := List.mem_take_iff_getElem.1 ha
      exact List.pairwise_iff_getElem.1 hs j k (by omega) (by omega) (by omega) he
    unfold fSt
    rw [hk, List.take_add_one, hk]
    simp only
    rw [show has (fSt l k).2 l[k].key = false from decide_eq_false hn, cond_false, ih]
    rfl
theorem noTrue_key (e : Ext) : (noTrue e).key = e.key := by unfold noTrue; split <;> rfl
theorem noTrue_idem (e : Ext) : noTrue (noTrue e) = noTrue e := by
  by_cases h : e.subs = [TRUE]
  · have : noTrue e = ⟨e.key, []⟩ := if_pos h
    rw [this]; exact if_neg (by simp)
  · have : noTrue e = e := if_neg h
    rw [this, this]
theorem noTrue_ne (e : Ext) : (noTrue e).subs ≠ [TRUE] := by
  by_cases h : e.subs = [TRUE]
  · rw [show noTrue e = ⟨e.key, []⟩ from if_pos h]; simp
  · rw [show noTrue e = e from if_neg h]; exact h

/-- What ordering gives. -/
theorem orderK_attrs (k : Kws) : (orderK k).attrs.Pairwise (fun x y => lt8 x y = true) ∧ ∀ x ∈ (orderK k).attrs, x ∈ k.attrs := by
  have h := cpt_spec (isort_sorted ord8 k.attrs) _ (Nat.le_refl _)
  exact ⟨h.1, fun x hx => (isort_perm lt8 k.attrs).mem_iff.1 (h.2.1 x hx)⟩
theorem firsts_keys (l : List Ext) : (isort ltk (firsts l)).Pairwise fun a b => ltk a b = true := by
  have h1 := isort_sorted ordk (firsts l)
  have h2 : (isort ltk (firsts l)).Pairwise fun a b => a.key ≠ b.key :=
    (isort_perm ltk (firsts l)).symm.pairwise (fSt_spec l _ (Nat.le_refl _)).1 (fun h => Ne.symm h)
  have := h1.and h2
  refine this.imp fun {a b} h => ?_
  cases hc : ltk a b with
  | true => rfl
  | false => exact absurd (lt8_tri hc h.1) h.2
theorem orderK_keys (k : Kws) : (orderK k).keys.Pairwise fun a b => ltk a b = true := by
  show ((isort ltk (firsts k.keys)).map noTrue).Pairwise _
  rw [List.pairwise_map]
  refine (firsts_keys k.keys).imp fun {a b} h => ?_
  rw [ltk, noTrue_key, noTrue_key]; exact h
theorem orderK_there (k : Kws) {e : Ext} (he : e ∈ k.keys) : ∃ x ∈ (orderK k).keys, x.key = e.key := by
  obtain ⟨j, hj, rfl⟩ := List.getElem_of_mem he
  obtain ⟨_, _, i3, i4⟩ := fSt_spec k.keys _ (Nat.le_refl _)
  obtain ⟨a, ha, hk⟩ := (i3 _).1 (i4 j _ hj (List.getElem?_eq_getElem hj))
  exact ⟨noTrue a, List.mem_map.2 ⟨a, (isort_perm ltk _).mem_iff.2 ha, rfl⟩, by rw [noTrue_key, hk]⟩
theorem orderK_idem (k : Kws) : orderK (orderK k) = orderK k := by
  have ha := (orderK_attrs k).1
  have hk := orderK_keys k
  have e1 : isort lt8 (orderK k).attrs = (orderK k).attrs := isort_same (ha.imp fun h => lt8_asymm h)
  have e2 : compact (orderK k).attrs = (orderK k).attrs := by
    unfold compact; rw [cpt_same_all ha _ (Nat.le_refl _), List.take_length]
  have e3 : firsts (orderK k).keys = (orderK k).keys := by
    unfold firsts
    rw [fSt_same (hk.imp fun {a b} h e => by rw [ltk, e, lt8_irrefl] at h; cases h) _ (Nat.le_refl _), List.take_length]
  have e4 : isort ltk (orderK k).keys = (orderK k).keys := isort_same (hk.imp fun h => lt8_asymm h)
  have e5 : (orderK k).keys.map noTrue = (orderK k).keys := by
    show ((isort ltk (firsts k.keys)).map noTrue).map noTrue = (isort ltk (firsts k.keys)).map noTrue
    rw [List.map_map]
    exact List.map_congr_left fun e _ => noTrue_idem e
  show Kws.mk (compact (isort lt8 (orderK k).attrs)) ((isort ltk (firsts (orderK k).keys)).map noTrue) = _
  rw [e1, e2, e3, e4, e5]
end Go.Proofs.Ytbfgendaafediaa.Fw

/- What is ordered rises. -/
namespace Go.Proofs.Ytbfgendaafediaa.Fw
open Go Go.RowKit
set_option maxRecDepth 100000
set_option maxHeartbeats 8000000

/-- Is one of the first n so? -/
def thereN (p : Nat → Bool) : Nat → Bool
  | 0 => false
  | n + 1 => bif thereN p n then true else p n
theorem thereN_iff (p : Nat → Bool) : ∀ n, thereN p n = true ↔ ∃ j, j < n ∧ p j = true
  | 0 => ⟨fun h => (by cases h), fun ⟨j, h, _⟩ => absurd h (by omega)⟩
  | n + 1 => by
    unfold thereN
    cases h : thereN p n with
    | true =>
      obtain ⟨j, h1, h2⟩ := (thereN_iff p n).1 h
      exact ⟨fun _ => ⟨j, by omega, h2⟩, fun _ => rfl⟩
    | false =>
      rw [cond_false]
      refine ⟨fun h2 => ⟨n, by omega, h2⟩, fun ⟨j, h1, h2⟩ => ?_⟩
      rcases Nat.lt_or_ge j n with hl | hg
      · have := (thereN_iff p n).2 ⟨j, hl, h2⟩; rw [h] at this; cases this
      · rw [show n = j from by omega]; exact h2
theorem run6 (k : Kws) (hk : k.ok) : Runs Try.prog T 169 (Try.f6.body.getD .skip) Try.f6.results.toList [k.d] (.bool true) := by
  refine ⟨Nat.le_of_ble_eq_true rfl, ?_⟩
  conv => whnf
  refine ⟨_, fun _ => call17, ?_⟩
  conv => whnf
  refine ⟨_, fun _ => call19 k hk, ?_⟩
  conv => whnf
  obtain ⟨x1, x2, x3, x4⟩ := fewK_small k
  generalize fewK k = X at x1 x2 x3 x4
  have hO := orderK_len X
  have hsm : (orderK X).small := ⟨by omega, by omega, fun e he => by
    obtain ⟨a, ha, rfl⟩ := List.mem_map.1 he
    have ha := (fSt_spec X.keys _ (Nat.le_refl _)).2.1 a ((isort_perm ltk _).mem_iff.1 ha)
    have := (x4 a ha).2.1
    by_cases h : a.subs = [TRUE]
    · rw [show noTrue a = ⟨a.key, []⟩ from if_pos h]; simp
    · rw [show noTrue a = a from if_neg h]; omega⟩
  have hidem := orderK_idem X
  have hat := orderK_attrs X
  have hks := orderK_keys X
  have hth := @orderK_there X
  have hnt : ∀ e ∈ (orderK X).keys, e.subs ≠ [TRUE] := fun e he => by
    obtain ⟨a, _, rfl⟩ := List.mem_map.1 he
    exact noTrue_ne a
  refine ⟨_, fun _ => call26 X (by omega) (by omega), ?_⟩
  conv => whnf
  refine ⟨rfl, ?_⟩
  conv => whnf
  have h26 := call26 (orderK X) (by omega) (by omega)
  rw [hidem] at h26
  refine ⟨_, fun _ => h26, ?_⟩
  conv => whnf
  have h20 := call20 (orderK X) (orderK X) hsm
  rw [decide_eq_true rfl] at h20
  refine ⟨_, fun _ => h20, ?_⟩
  conv => whnf
  generalize orderK X = O at hO hat hks hth hnt
  refine ⟨[], ?_⟩
  conv => whnf
  refine loop_at (σ := Nat) (fun i env => (env.setT 7 (.int .i64 (i : Int)))) (fun i => O.attrs.length - i) (fun i => i ≤ O.attrs.length) 0 (Nat.zero_le _) rfl ?_
  rintro i hi ih
  conv => whnf
  refine ifB_intro (fun h => ?_) (fun h => ?_)
  · have h : (i : Int) < ((O.attrs.map D.str).length : Int) := of_decide_eq_true h
    rw [List.length_map] at h
    have hlt : i < O.attrs.length := by omega
    have hw : IntKind.i64.wrap ((i : Int) + 1) = ((i + 1 : Nat) : Int) := by rw [IntKind.wrap_i64]; omega
    have hw1 : 0 < i → IntKind.i64.wrap ((i : Int) - 1) = ((i - 1 : Nat) : Int) := fun h => by rw [IntKind.wrap_i64]; omega
    obtain ⟨x, hx⟩ : ∃ x, O.attrs[i]? = some x := ⟨_, List.getElem?_eq_getElem hlt⟩
    obtain ⟨y, hy⟩ : ∃ y, O.attrs[i - 1]? = some y := ⟨_, List.getElem?_eq_getElem (by omega)⟩
    have hidx : (IntKind.i64.wrap ((i : Int) - 1)).toNat = i - 1 := by rw [IntKind.wrap_i64]; omega
    have hyx : 0 < i → lt8 y x = true := fun h0 => by
      have := List.pairwise_iff_getElem.1 hat.1 (i - 1) i (by omega) (by omega) (by omega)
      rw [List.getElem?_eq_getElem (by omega)] at hx hy
      cases hx; cases hy; exact this
    have hxm := hat.2 x (List.mem_of_getElem? hx)
    have ih' := ih (i + 1) hlt (by omega)
    conv => whnf
    refine ⟨rfl, ?_⟩
    conv => whnf
    refine sideB_intro (fun hg => ?_) ?_
    · have h0 : 0 < (i : Int) := of_decide_eq_true hg
      exact decide_eq_true (by rw [hw1 (by omega), List.length_map]; omega)
    rw [getD_enc (enc := D.str) (x := y) (show O.attrs[(IntKind.i64.wrap ((i : Int) - 1)).toNat]? = some y by rw [hidx]; exact hy)]
    conv => whnf
    refine sideB_intro (fun hg => decide_eq_true (by simp only [List.length_map]; omega)) ?_
    rw [getD_enc (enc := D.str) (x := x) (show O.attrs[(i : Int).toNat]? = some x from hx)]
    conv => whnf
    refine ifB_intro (fun hb => ?_) (fun hb => ?_)
    · exfalso
      have hb : (bif decide (0 < (i : Int)) then !(lt8 y x) else false) = true := hb
      by_cases h0 : 0 < (i : Int)
      · rw [decide_eq_true h0, hyx (by omega)] at hb; cases hb
      · rw [decide_eq_false h0] at hb; cases hb
    · conv => whnf
      refine ⟨[], ?_⟩
      conv => whnf
      refine loop_at (σ := Nat) (fun n env => (env.setT 9 (.int .i64 (n : Int))).setT 8 (.bool (thereN (fun j => X.attrs.getD j [] == x) n))) (fun n => X.attrs.length - n) (fun n => n ≤ X.attrs.length) 0 (Nat.zero_le _) rfl ?_
      rintro n hn ih2
      conv => whnf
      refine ifB_intro (fun h2 => ?_) (fun h2 => ?_)
      · have h2 : (n : Int) < ((X.attrs.map D.str).length : Int) := of_decide_eq_true h2
        rw [List.length_map] at h2
        have hltn : n < X.attrs.length := by omega
        have hwn : IntKind.i64.wrap ((n : Int) + 1) = ((n + 1 : Nat) : Int) := by rw [IntKind.wrap_i64]; omega
        obtain ⟨z, hz⟩ : ∃ z, X.attrs[n]? = some z := ⟨_, List.getElem?_eq_getElem hltn⟩
        have hzd : X.attrs.getD n [] = z := by rw [List.getD_eq_getElem?_getD, hz]; rfl
        have ih2' := ih2 (n + 1) hltn (by omega)
        rw [thereN, hzd] at ih2'
        conv => whnf
        refine ⟨rfl, ?_⟩
        conv => whnf
        refine sideB_intro (fun hg => decide_eq_true (by simp only [List.length_map]; omega)) ?_
        rw [getD_enc (enc := D.str) (x := z) (show X.attrs[(n : Int).toNat]? = some z from hz)]
        conv => whnf
        refine sideB_intro (fun hg => decide_eq_true (by simp only [List.length_map]; omega)) ?_
        rw [getD_enc (enc := D.str) (x := x) (show O.attrs[(i : Int).toNat]? = some x from hx)]
        conv => whnf
        rw [hwn]
        exact ih2'
      · have h2 : ¬ ((n : Int) < ((X.attrs.map D.str).length : Int)) := of_decide_eq_false h2
        rw [List.length_map] at h2
        have hth2 : thereN (fun j => X.attrs.getD j [] == x) n = true := by
          obtain ⟨j, hj, hje⟩ := List.getElem_of_mem hxm
          refine (thereN_iff _ _).2 ⟨j, by omega, ?_⟩
          simp only [List.getD_eq_getElem?_getD, List.getElem?_eq_getElem hj, Option.getD_some, hje, beq_self_eq_true]
        rw [hth2]
        conv => whnf
        rw [hw]
        exact ih'
  · conv => whnf
    refine ⟨[], ?_⟩
    conv => whnf
    refine loop_at (σ := Nat) (fun i env => (env.setT 10 (.int .i64 (i : Int)))) (fun i => O.keys.length - i) (fun i => i ≤ O.keys.length) 0 (Nat.zero_le _) rfl ?_
    clear h ih hi
    rintro i hi ih
    conv => whnf
    refine ifB_intro (fun h => ?_) (fun h => ?_)
    · have h : (i : Int) < ((O.keys.map Ext.d).length : Int) := of_decide_eq_true h
      rw [List.length_map] at h
      have hlt : i < O.keys.length := by omega
      have hw : IntKind.i64.wrap ((i : Int) + 1) = ((i + 1 : Nat) : Int) := by rw [IntKind.wrap_i64]; omega
      have hw1 : 0 < i → IntKind.i64.wrap ((i : Int) - 1) = ((i - 1 : Nat) : Int) := fun h => by rw [IntKind.wrap_i64]; omega
      obtain ⟨x, hx⟩ : ∃ x, O.keys[i]? = some x := ⟨_, List.getElem?_eq_getElem hlt⟩
      obtain ⟨y, hy⟩ : ∃ y, O.keys[i - 1]? = some y := ⟨_, List.getElem?_eq_getElem (by omega)⟩
      have hidx : (IntKind.i64.wrap ((i : Int) - 1)).toNat = i - 1 := by rw [IntKind.wrap_i64]; omega
      have hyx : 0 < i → lt8 y.key x.key = true := fun h0 => by
        have := List.pairwise_iff_getElem.1 hks (i - 1) i (by omega) (by omega) (by omega)
        rw [List.getElem?_eq_getElem (by omega)] at hx hy
        cases hx; cases hy; exact this
      have hxn := hnt x (List.mem_of_getElem? hx)
      have ih' := ih (i + 1) hlt (by omega)
      obtain ⟨kx, sx⟩ := x
      have hfst : (bif decide (0 < (i : Int)) then !(lt8 y.key kx) else false) = false := by
        by_cases h0 : 0 < (i : Int)
        · rw [decide_eq_true h0, show lt8 y.key kx = true from hyx (by omega)]; rfl
        · rw [decide_eq_false h0]; rfl
      conv => whnf
      refine ⟨rfl, ?_⟩
      conv => whnf
      refine sideB_intro (fun hg => ?_) ?_
      · have h0 : 0 < (i : Int) := of_decide_eq_true hg
        exact decide_eq_true (by rw [hw1 (by omega), List.length_map]; omega)
      rw [getD_enc (enc := Ext.d) (x := y) (show O.keys[(IntKind.i64.wrap ((i : Int) - 1)).toNat]? = some y by rw [hidx]; exact hy)]
      conv => whnf
      refine sideB_intro (fun hg => decide_eq_true (by simp only [List.length_map]; omega)) ?_
      rw [getD_enc (enc := Ext.d) (x := ⟨kx, sx⟩) (show O.keys[(i : Int).toNat]? = some ⟨kx, sx⟩ from hx)]
      conv => whnf
      refine sideB_intro (fun hg => decide_eq_true (by simp only [List.length_map]; omega)) ?_
      rw [getD_enc (enc := Ext.d) (x := ⟨kx, sx⟩) (show O.keys[(i : Int).toNat]? = some ⟨kx, sx⟩ from hx)]
      conv => whnf
      refine sideB_intro (fun hg => decide_eq_true (by simp only [List.length_map]; omega)) ?_
      rw [getD_enc (enc := Ext.d) (x := ⟨kx, sx⟩) (show O.keys[(i : Int).toNat]? = some ⟨kx, sx⟩ from hx)]
      conv => whnf
      cases sx with
      | nil =>
        have hg0 : (((([] : List S8).map D.str).length : Int) == 1) = true → False := by decide
        conv => whnf
        refine ⟨fun hg => hg0 hg.1, ?_⟩
        conv => whnf
        refine ⟨fun hg => hg0 hg.1, ?_⟩
        conv => whnf
        refine ifB_intro (fun hb => ?_) (fun hb => ?_)
        · exfalso
          have hb : (bif (bif decide (0 < (i : Int)) then !(lt8 y.key kx) else false) then true else false) = true := hb
          rw [hfst] at hb; cases hb
        · conv => whnf
          rw [hw]
          exact ih'
      | cons s r =>
        have hcond : (bif (((s :: r).map D.str).length : Int) == 1 then (s == TRUE) else false) = false := by
          cases hc : ((((s :: r).map D.str).length : Int) == 1) with
          | false => rfl
          | true =>
            rw [cond_true, beq_eq_false_iff_ne]
            intro e
            simp at hc
            have : r = [] := List.eq_nil_of_length_eq_zero (by omega)
            exact hxn (by rw [e, this])
        refine sideB_intro (fun hg => decide_eq_true (by simp)) ?_
        conv => whnf
        refine ifB_intro (fun hb => ?_) (fun hb => ?_)
        · exfalso
          have hb : (bif (bif decide (0 < (i : Int)) then !(lt8 y.key kx) else false) then true else (bif (((s :: r).map D.str).length : Int) == 1 then (s == TRUE) else false)) = true := hb
          rw [hfst, hcond] at hb; cases hb
        · conv => whnf
          rw [hw]
          exact ih'
    · conv => whnf
      refine ⟨[], ?_⟩
      conv => whnf
      refine loop_at (σ := Nat) (fun i env => (env.setT 11 (.int .i64 (i : Int)))) (fun i => X.keys.length - i) (fun i => i ≤ X.keys.length) 0 (Nat.zero_le _) rfl ?_
      clear h ih hi
      rintro i hi ih
      conv => whnf
      refine ifB_intro (fun h => ?_) (fun h => ?_)
      · have h : (i : Int) < ((X.keys.map Ext.d).length : Int) := of_decide_eq_true h
        rw [List.length_map] at h
        have hlt : i < X.keys.length := by omega
        have hw : IntKind.i64.wrap ((i : Int) + 1) = ((i + 1 : Nat) : Int) := by rw [IntKind.wrap_i64]; omega
        obtain ⟨x, hx⟩ : ∃ x, X.keys[i]? = some x := ⟨_, List.getElem?_eq_getElem hlt⟩
        have hxt := hth (List.mem_of_getElem? hx)
        have ih' := ih (i + 1) hlt (by omega)
        conv => whnf
        refine ⟨[], ?_⟩
        conv => whnf
        refine loop_at (σ := Nat) (fun n env => (env.setT 13 (.int .i64 (n : Int))).setT 12 (.bool (thereN (fun j => (O.keys.getD j ⟨[], []⟩).key == x.key) n))) (fun n => O.keys.length - n) (fun n => n ≤ O.keys.length) 0 (Nat.zero_le _) rfl ?_
        rintro n hn ih2
        conv => whnf
        refine ifB_intro (fun h2 => ?_) (fun h2 => ?_)
        · have h2 : (n : Int) < ((O.keys.map Ext.d).length : Int) := of_decide_eq_true h2
          rw [List.length_map] at h2
          have hltn : n < O.keys.length := by omega
          have hwn : IntKind.i64.wrap ((n : Int) + 1) = ((n + 1 : Nat) : Int) := by rw [IntKind.wrap_i64]; omega
          obtain ⟨z, hz⟩ : ∃ z, O.keys[n]? = some z := ⟨_, List.getElem?_eq_getElem hltn⟩
          have hzd : O.keys.getD n ⟨[], []⟩ = z := by rw [List.getD_eq_getElem?_getD, hz]; rfl
          have ih2' := ih2 (n + 1) hltn (by omega)
          rw [thereN, hzd] at ih2'
          conv => whnf
          refine ⟨rfl, ?_⟩
          conv => whnf
          refine sideB_intro (fun hg => decide_eq_true (by simp only [List.length_map]; omega)) ?_
          rw [getD_enc (enc := Ext.d) (x := z) (show O.keys[(n : Int).toNat]? = some z from hz)]
          conv => whnf
          refine sideB_intro (fun hg => decide_eq_true (by simp only [List.length_map]; omega)) ?_
          rw [getD_enc (enc := Ext.d) (x := x) (show X.keys[(i : Int).toNat]? = some x from hx)]
          conv => whnf
          rw [hwn]
          exact ih2'
        · have h2 : ¬ ((n : Int) < ((O.keys.map Ext.d).length : Int)) := of_decide_eq_false h2
          rw [List.length_map] at h2
          have hth2 : thereN (fun j => (O.keys.getD j ⟨[], []⟩).key == x.key) n = true := by
            obtain ⟨a, ha, hak⟩ := hxt
            obtain ⟨j, hj, hje⟩ := List.getElem_of_mem ha
            refine (thereN_iff _ _).2 ⟨j, by omega, ?_⟩
            simp only [List.getD_eq_getElem?_getD, List.getElem?_eq_getElem hj, Option.getD_some, hje, hak, beq_self_eq_true]
          rw [hth2]
          conv => whnf
          rw [hw]
          exact ih'
      · conv => whnf
        have e1 : decide (((O.keys.map Ext.d).length : Int) ≤ ((X.keys.map Ext.d).length : Int)) = true := decide_eq_true (by simp only [List.length_map]; omega)
        have e2 : decide (((O.attrs.map D.str).length : Int) ≤ ((X.attrs.map D.str).length : Int)) = true := decide_eq_true (by simp only [List.length_map]; omega)
        rw [e1, e2]
        exact ⟨rfl, rfl⟩
theorem call6 (k : Kws) (hk : k.ok) : CallsTo Try.prog 6 [k.d] (.bool true) := calls Try.func6 rfl (by decide) (run6 k hk)
end Go.Proofs.Ytbfgendaafediaa.Fw
