/- Appending, as the state sees it. -/
import Derived.Test.YtndijidmabfhcaaFwN
namespace Go.Proofs.Ytndijidmabfhcaa.Fw
open Go Go.RowKit

section
variable {P : Program} {T : Ty} {c : Ctx} {env : Env} {a : Act} {w : World}

theorem dd_stamp {s' u st : Nat} : (env.stamp s' u st).dd = if st = 1 then env.dd else st :: env.dd := by
  show (bif Nat.beq st 1 then env.dd else st :: env.dd) = _
  by_cases h : st = 1
  · rw [if_pos h, nbeq.2 h]; rfl
  · rw [if_neg h, nbeq_f.2 h]; rfl
theorem us_stamp {s' u st : Nat} : (env.stamp s' u st).us = (s', u) :: env.us := rfl

theorem live_stamp {s' u st st0 : Nat} (h : (env.stamp s' u st).live st0) : st0 = s' ∨ (env.live st0 ∧ (st ≠ 1 → st0 ≠ st)) := by
  obtain ⟨h1, h2⟩ := h
  simp only [us_stamp, look_cons] at h1
  by_cases e : s' = st0
  · exact .inl e.symm
  · rw [if_neg e] at h1
    refine .inr ⟨⟨h1, fun hd => h2 ?_⟩, fun hst e' => h2 ?_⟩
    · rw [dd_stamp]; split
      · exact hd
      · exact List.mem_cons_of_mem _ hd
    · subst e'; simp [dd_stamp, hst]

def Ctx.own (c : Ctx) (s' : Nat) (g' : Option Nat) (n' : Nat) : Ctx := { c with σ := fun s => if s = s' then g' else c.σ s, I := fun b o => c.I b o ∨ (g' = some b ∧ o < n') }

def OwnCase (c : Ctx) (w : World) (u size st : Nat) (xs : List D) (v : Value) (cells : List Value) : Prop :=
  (v = .slice none 0 0 ∧ xs = [] ∧ (st = 1 ∨ c.σ st = none)) ∨ ∃ g cap, v = .slice (some ⟨g, 0, none⟩) xs.length cap ∧ xs.length ≤ cap ∧ st ≠ 1 ∧ c.σ st = some g ∧ RepRow c.I w size xs ⟨g, 0, none⟩ 0 ∧ ∃ cur, w.heap[g]? = some (.cells cur u (0, 0)) ∧ cur.toList.take (xs.length * size) = cells ∧ cur.size = cap * size ∧ cap ≤ maxLen ∧ (∀ o, xs.length * size ≤ o → ¬ c.I g o)

theorem list_take_get {α : Type} {l l' : List α} {n m : Nat} {xs ys : List α} (h : l.take n = xs) (h' : l'.take m = xs ++ ys) (hn : xs.length = n) (o : Nat) (ho : o < n) : l'[o]? = l[o]? := by
  have hm : n ≤ m := by
    have h2 := congrArg List.length h'
    simp only [List.length_take, List.length_append] at h2; omega
  have e1 : l[o]? = xs[o]? := by rw [← h, List.getElem?_take, if_pos ho]
  have e2 : l'[o]? = (xs ++ ys)[o]? := by rw [← h', List.getElem?_take, if_pos (by omega)]
  rw [e1, e2, List.getElem?_append_left (by omega)]

theorem after_append (hT : TyOK P T) (h : St c env a w) {t u : Nat} {eu : TE} (ht : P.underlying t = some (.slice u)) (hu : T u = some eu) {st es es2 st2 s' : Nat} {xs ys : List D} {v v2 : Value}
    (hx : RepT c env w (.sl st es xs) v) (hy : RepT c env w (.sl st2 es2 ys) v2) (hst : st = 1 ∨ (2 ≤ st ∧ look st env.us = some u ∧ st ∉ env.dd)) (hes : es = eu.size ∨ st = 1) (hes2 : es2 = eu.size ∨ ys = [])
    (hs2 : 2 ≤ s') (hs' : look s' env.us = none) (hsd : s' ∉ env.dd) (hside : (xs.length + ys.length) * eu.bytes ≤ 140737488355328 ∧ xs.length + ys.length ≤ 9223372036854775807) (ty : TypeId) :
    After P c env (env.stamp s' u st) a w (.sl s' eu.size (xs ++ ys)) (Builtin.append_ #[t, t] ty #[v, v2]) := by
  obtain ⟨i, z, hi, hisz, hib, hz, hzc, _⟩ := (hT u eu hu).info
  obtain ⟨hx1, hx2⟩ := repT_sl hx
  obtain ⟨hy1, _⟩ := repT_sl hy
  -- what is owned
  have own : ∃ cells : List Value, w.ownsRow 0 u i.size v xs.length cells ∧ OwnCase c w u eu.size st xs v cells := by
    have nilcase : v = .slice none 0 0 → (st = 1 ∨ c.σ st = none) → ∃ cells : List Value, w.ownsRow 0 u i.size v xs.length cells ∧ OwnCase c w u eu.size st xs v cells := fun hv hs => by
      subst hv
      have : xs = [] := by
        rcases hx1 with ⟨_, h⟩ | ⟨b, cap, h, _⟩
        · exact h
        · cases h
      subst this
      exact ⟨[], World.ownsRow_nil _ _ _ _, .inl ⟨rfl, rfl, hs⟩⟩
    rcases hst with h1 | ⟨h2, h3, h4⟩
    · refine nilcase ?_ (.inl h1)
      rcases hx2 with h | ⟨_, h⟩ | ⟨h, _⟩
      · omega
      · exact h
      · omega
    · rcases hx2 with h | ⟨h, _⟩ | ⟨_, u', hu', h⟩
      · omega
      · omega
      · rw [h3] at hu'; cases hu'
        rcases h with h | h
        · exact absurd h h4
        · cases hg : c.σ st with
          | none => rw [hg] at h; exact nilcase h (.inr hg)
          | some g =>
            rw [hg] at h
            obtain ⟨cap, cur, rfl, hh, hcs, hcm, hnc, hI⟩ := h
            have hes : es = eu.size := by omega
            subst hes
            have hcs' := hcs
            rw [← hisz] at hcs'
            refine ⟨cur.toList.take (xs.length * eu.size), ⟨?_, .inr ⟨g, cap, cur, rfl, Nat.zero_le _, hh, hnc, hcm, hcs', by rw [hisz]⟩⟩, .inr ⟨g, cap, rfl, hnc, by omega, hg, ?_, cur, hh, rfl, hcs, hcm, hI⟩⟩
            · have hl : cur.toList.length = cap * eu.size := by simpa using hcs
              rw [List.length_take, hl, hisz]
              have := Nat.mul_le_mul_right eu.size hnc
              omega
            · rcases hx1 with ⟨h, _⟩ | ⟨b, cap', h, _, hrow⟩
              · cases h
              · cases h; exact hrow
  obtain ⟨cells, hown, hcase⟩ := own
  -- the new stamp's state, once there is a value
  have hstep : ∀ (g' : Option Nat) (n' : Nat) (w' : World), (∀ g, g' = some g → c.w0.off g ∧ g < w'.heap.size ∧ (g = w.heap.size ∨ (g < w.heap.size ∧ c.σ st = some g ∧ st ≠ 1))) → w.heap.size ≤ w'.heap.size →
      (∀ k, k < w.heap.size → g' ≠ some k → w'.heap[k]? = w.heap[k]?) → (∀ g, g' = some g → g < w.heap.size → ∀ o x, c.I g o → w.cell? ⟨g, o, none⟩ = some x → w'.cell? ⟨g, o, none⟩ = some x) → KeptF c.w0 w w' →
      (∀ g, g' = some g → g < w.heap.size → ∃ cs e fr, w.heap[g]? = some (.cells cs e fr)) →
      St (c.own s' g' n') (env.stamp s' u st) a w' ∧
      Step c env w (c.own s' g' n') (env.stamp s' u st) w' := by
    intro g' n' w' hg hsize hblk hcell hbel hkind
    have hne : ∀ st0, env.live st0 → st0 ≠ s' := fun st0 hl e => by have := hl.1; rw [e, hs'] at this; cases this
    have hg0 : ∀ s, env.blk s → g' ≠ some (c.ρ s) := fun s hs e => by
      obtain ⟨_, _, h3⟩ := hg _ e
      have hlt := h.lt s hs
      rcases h3 with h3 | ⟨h3, h4, h5⟩
      · omega
      · rcases hst with h6 | ⟨_, h7, h8⟩
        · exact h5 h6
        · exact (h.ownAbove st _ ⟨by rw [h7]; rfl, h8⟩ h4).2.2 s hs rfl
    have hstO : ∀ st0 g0, env.live st0 → (st ≠ 1 → st0 ≠ st) → c.σ st0 = some g0 → g' ≠ some g0 := fun st0 g0 hl hd hσ e => by
      obtain ⟨_, _, h3⟩ := hg _ e
      have hlt := (h.ownAbove st0 g0 hl hσ).2.1
      rcases h3 with h3 | ⟨h3, h4, h5⟩
      · omega
      · rcases hst with h6 | ⟨_, h7, h8⟩
        · exact h5 h6
        · exact hd h5 (h.ownInj st0 st g0 hl ⟨by rw [h7]; rfl, h8⟩ hσ h4)
    have hK : Keeps c.I (fun b o => c.I b o ∨ (g' = some b ∧ o < n')) w w' := by
      refine ⟨fun _ _ h => .inl h, fun ad x hi hx => ?_, fun r es k hi hr => ?_⟩
      · by_cases e : g' = some ad.block
        · have hlt := h.im _ _ hi
          have hsp : ad = ⟨ad.block, ad.off, none⟩ := by
            obtain ⟨b, o, sp⟩ := ad
            cases sp with
            | none => rfl
            | some k => simp only [World.cell?] at hx; split at hx <;> simp at hx
          rw [hsp] at hx ⊢
          exact hcell _ e hlt _ _ hi hx
        · exact (World.cell?_of_block (hblk _ (h.im _ _ hi) e)).trans hx
      · by_cases e : g' = some r
        · obtain ⟨cs, e1, fr, h1⟩ := hkind r e (h.im _ _ hi)
          rw [hr] at h1; cases h1
        · exact (hblk _ (h.im _ _ hi) e).trans hr
    have S : Step c env w (c.own s' g' n') (env.stamp s' u st) w' := by
      refine ⟨hK, fun _ h => ⟨h, rfl⟩, fun _ h => ⟨h, rfl⟩, fun s0 u0 hl => ?_, fun s0 hl => ?_, fun st0 hl hn => ⟨if_neg (hne st0 hl), fun g0 hσ => ?_⟩⟩
      · simp only [us_stamp, look_cons]; rw [if_neg]
        · exact hl
        · rintro rfl; rw [hs'] at hl; cases hl
      · rw [dd_stamp]; split
        · exact hl
        · exact List.mem_cons_of_mem _ hl
      · have hd : st ≠ 1 → st0 ≠ st := fun h1 e => hn (by subst e; simp [dd_stamp, h1])
        have := hstO st0 g0 hl hd hσ
        exact ⟨hblk _ (h.ownAbove st0 g0 hl hσ).2.1 this, fun o ho => ho.resolve_right fun e => this e.1⟩
    refine ⟨⟨h.nt, h.df, fun t d hd => S.repT (h.tm t d hd), fun t d hd => (h.wt t d hd).step S, fun s b hs => ?_, fun s m hs => ?_, h.inj, h.above, fun s hs => Nat.lt_of_lt_of_le (h.lt s hs) hsize, ?_, ?_, ?_, h.im0.trans S.keeps, ?_, h.base.trans hbel, h.gh⟩, S⟩
    · have hb : env.blk s := .inl (by rw [show look s env.bx = some b from hs]; rfl)
      exact (h.bx s b hs).step S rfl (hblk _ (h.lt s hb) (hg0 s hb)) (fun o ho => ho.resolve_right fun e => hg0 s hb e.1)
    · have hb : env.blk s := .inr (by rw [show look s env.mp = some m from hs]; rfl)
      exact (h.mp s m hs).step S rfl (hblk _ (h.lt s hb) (hg0 s hb)) (fun o ho => ho.resolve_right fun e => hg0 s hb e.1)
    · intro s1 s2 g hl1 hl2 h1 h2
      rcases live_stamp hl1 with e1 | ⟨kl1, hd1⟩ <;> rcases live_stamp hl2 with e2 | ⟨kl2, hd2⟩
      · exact e1.trans e2.symm
      · simp only [Ctx.own, if_pos e1, if_neg (hne s2 kl2)] at h1 h2
        exact absurd h1 (hstO s2 g kl2 hd2 h2)
      · simp only [Ctx.own, if_pos e2, if_neg (hne s1 kl1)] at h1 h2
        exact absurd h2 (hstO s1 g kl1 hd1 h1)
      · simp only [Ctx.own, if_neg (hne s1 kl1), if_neg (hne s2 kl2)] at h1 h2
        exact h.ownInj s1 s2 g kl1 kl2 h1 h2
    · intro s1 g hl1 h1
      rcases live_stamp hl1 with e1 | ⟨kl1, hd1⟩
      · simp only [Ctx.own, if_pos e1] at h1
        obtain ⟨k1, k2, _⟩ := hg g h1
        exact ⟨k1, k2, fun s hs e => hg0 s hs (h1.trans (congrArg some e.symm))⟩
      · simp only [Ctx.own, if_neg (hne s1 kl1)] at h1
        obtain ⟨k1, k2, k3⟩ := h.ownAbove s1 g kl1 h1
        exact ⟨k1, Nat.lt_of_lt_of_le k2 hsize, k3⟩
    · rintro b o (hi | ⟨e, _⟩)
      · exact Nat.lt_of_lt_of_le (h.im b o hi) hsize
      · exact (hg b e).2.1
    · rintro b o (hi | ⟨e, _⟩)
      · exact h.imNew b o hi
      · exact .inr (hg b e).1
  have hdead : s' ∉ (env.stamp s' u st).dd := by
    rw [dd_stamp]; split
    · exact hsd
    · intro e
      rcases List.mem_cons.1 e with e | e
      · subst e
        rcases hst with h | ⟨_, h, _⟩
        · omega
        · rw [hs'] at h; cases h
      · exact hsd e
  have hlook : look s' (env.stamp s' u st).us = some u := by simp [us_stamp, look_cons]
  -- nothing is appended
  by_cases hm : ys.length = 0
  · have hys : ys = [] := List.eq_nil_of_length_eq_zero hm
    subst hys
    rw [List.append_nil]
    have hy0 : v2 = .slice none 0 0 ∨ ∃ a k, v2 = .slice (some a) 0 k := hy1.imp (fun h => h.1) fun ⟨b, cap, h, _⟩ => ⟨b, cap, h⟩
    rcases hcase with ⟨rfl, rfl, hs1⟩ | ⟨g, cap, rfl, hcap, hs1, hσ, hrow, cur, hh, _, hcs, hcm, hI⟩
    · obtain ⟨h1, S⟩ := hstep none 0 w (fun _ e => by cases e) (Nat.le_refl _) (fun _ _ _ => rfl) (fun _ e => by cases e) ⟨rfl, rfl, rfl, Nat.le_refl _, fun _ _ => rfl⟩ (fun _ e => by cases e)
      refine ⟨_, _, c.own s' none 0, run_append_none ht hi (Nat.le_refl 0) hy0, ⟨rfl, rfl, rfl⟩, h1, ?_⟩
      simp only [RepT, RepV]
      simp only [RepC, Rep]
      refine ⟨by simp, .inr (.inr ⟨hs2, u, hlook, .inr ?_⟩)⟩
      simp [Ctx.own]
    · obtain ⟨h2, h3⟩ : (look st env.us).isSome = true ∧ st ∉ env.dd := by
        rcases hst with h | ⟨_, h, h'⟩
        · exact absurd h hs1
        · exact ⟨by rw [h]; rfl, h'⟩
      obtain ⟨k1, k2, k3⟩ := h.ownAbove st g ⟨h2, h3⟩ hσ
      obtain ⟨h1, S⟩ := hstep (some g) 0 w (fun g1 e => by cases e; exact ⟨k1, k2, .inr ⟨k2, hσ, hs1⟩⟩) (Nat.le_refl _) (fun _ _ _ => rfl) (fun _ _ _ _ _ _ h => h) ⟨rfl, rfl, rfl, Nat.le_refl _, fun _ _ => rfl⟩ (fun g1 e _ => by cases e; exact ⟨_, _, _, hh⟩)
      refine ⟨_, _, c.own s' (some g) 0, run_append_none ht hi hcap hy0, ⟨rfl, rfl, rfl⟩, h1, ?_⟩
      simp only [RepT, RepV]
      simp only [RepC, Rep]
      refine ⟨⟨trivial, .inr ⟨_, _, rfl, hcap, RepRow.keeps S.keeps _ _ _ _ hrow⟩⟩, .inr (.inr ⟨hs2, u, hlook, .inr ?_⟩)⟩
      simp only [Ctx.own, if_true]
      exact ⟨cap, cur, rfl, hh, hcs, hcm, hcap, fun o ho hi => hI o ho (hi.resolve_right fun e => absurd e.2 (by omega))⟩
  · obtain ⟨b2, cap2, rfl, _, hrow2⟩ : ∃ (b : Addr) (cap : Nat), v2 = .slice (some b) ys.length cap ∧ ys.length ≤ cap ∧ RepRow c.I w es2 ys b 0 := hy1.resolve_left fun h => hm (by rw [h.2]; rfl)
    have he2 : es2 = eu.size := hes2.resolve_right fun e => hm (by rw [e]; rfl)
    subst he2
    have hcellY := fun j hj => repRow_cell hrow2 j hj
    simp only [Nat.zero_mul, Nat.zero_add] at hcellY
    have hnl : ((List.range (ys.length * eu.size)).map fun j => (w.cell? (b2.add j)).getD undef).length = ys.length * i.size := by simp [hisz]
    have hnews : ∀ j x, ((List.range (ys.length * eu.size)).map fun j => (w.cell? (b2.add j)).getD undef)[j]? = some x → w.cell? (b2.add j) = some x := by
      intro j x hj
      rw [List.getElem?_map] at hj
      cases hr : (List.range (ys.length * eu.size))[j]? with
      | none => rw [hr] at hj; cases hj
      | some j' =>
        obtain ⟨hl, e⟩ := List.getElem?_eq_some_iff.1 hr
        rw [List.getElem_range] at e; subst e
        rw [hr] at hj
        simp only [List.length_range] at hl
        obtain ⟨x', h1, _⟩ := hcellY j hl
        simp only [Option.map_some, h1, Option.getD_some, Option.some.injEq] at hj
        rw [h1, hj]
    have hone : ∀ x ∈ ((List.range (ys.length * eu.size)).map fun j => (w.cell? (b2.add j)).getD undef), x.oneCell' = true := by
      intro x hx
      obtain ⟨j, hj, rfl⟩ := List.mem_map.1 hx
      obtain ⟨x', h1, h2, _⟩ := hcellY j (List.mem_range.1 hj)
      rw [h1]; exact h2
    obtain ⟨g, cap, cur, w', hrun, hg, hcap, hcm, hcs, htake, hbel, _, hgo, hblk⟩ := run_append_fw (ty := ty) ht hi hz (hzc.trans hisz.symm |> fun e => by rw [e]) hown (k := cap2) hnl hnews hone (by omega) (by simp only [maxLen]; omega) (by rw [hib]; exact hside.1) (Nat.zero_le _)
    have hgl := (Array.getElem?_eq_some_iff.1 hg).1
    have hsize : w.heap.size ≤ w'.heap.size := hbel.size
    have hoff : ∀ k, v.ownBlock = some k → c.w0.off k := by
      intro k hk
      rcases hcase with ⟨rfl, _⟩ | ⟨g1, cap1, rfl, hcap1, hs1, hσ, _⟩
      · cases hk
      · cases hk
        refine (h.ownAbove st _ ?_ hσ).1
        rcases hst with h6 | ⟨_, h7, h8⟩
        · exact absurd h6 hs1
        · exact ⟨by rw [h7]; rfl, h8⟩
    have hbase : c.w0.off g := hgo.elim (hoff g) fun e => by rw [e]; exact h.base.size
    have hkept : KeptF c.w0 w w' := ⟨hbel.os, hbel.tape, hbel.output, hbel.size, fun k hk => hblk k (h.base.below_of hk) (.inl fun e => hk (hoff k e))⟩
    have hold : ∀ o, o < xs.length * eu.size → ∀ x, (∃ g0, v.ownBlock = some g0 ∧ w.cell? ⟨g0, o, none⟩ = some x) → w'.cell? ⟨g, o, none⟩ = some x := by
      rintro o ho x ⟨g0, hv, hx⟩
      rcases hcase with ⟨rfl, rfl, _⟩ | ⟨g1, cap1, rfl, hcap1, hs1, hσ, hrow, cur1, hh, htk, _⟩
      · cases hv
      · cases hv
        rw [cell_of_row w g1 o cur1 u (0, 0) hh] at hx
        rw [cell_of_row w' g o cur u (0, 0) hg, ← hx]
        have := list_take_get htk htake (by rw [hown.1, hisz]) o ho
        simpa using this
    obtain ⟨h1, S⟩ := hstep (some g) ((xs.length + ys.length) * eu.size) w' (fun g1 e => by
        cases e
        refine ⟨hbase, hgl, ?_⟩
        rcases hgo with hv | hv
        · right
          rcases hcase with ⟨rfl, rfl, _⟩ | ⟨g1, cap1, rfl, hcap1, hs1, hσ, _, cur1, hh, _⟩
          · cases hv
          · cases hv; exact ⟨(Array.getElem?_eq_some_iff.1 hh).1, hσ, hs1⟩
        · exact .inl hv) hsize (fun k hk hne => hblk k hk (by
          by_cases e : v.ownBlock = some k
          · right; rcases hgo with hv | hv
            · rw [hv] at e; cases e; exact absurd rfl hne
            · exact hv
          · exact .inl e)) (fun g1 e hlt o x hi hx => by
          cases e
          have hv : v.ownBlock = some g := hgo.resolve_right (by omega)
          refine hold o ?_ x ⟨g, hv, hx⟩
          rcases hcase with ⟨rfl, rfl, _⟩ | ⟨g1, cap1, rfl, hcap1, hs1, hσ, _, cur1, hh, _, _, _, hI⟩
          · cases hv
          · cases hv
            exact Nat.lt_of_not_le fun hle => hI o hle hi) hkept (fun g1 e hlt => by
          cases e
          have hv : v.ownBlock = some g := hgo.resolve_right (by omega)
          rcases hcase with ⟨rfl, rfl, _⟩ | ⟨g1, cap1, rfl, hcap1, hs1, hσ, _, cur1, hh, _⟩
          · cases hv
          · cases hv; exact ⟨_, _, _, hh⟩)
    refine ⟨_, _, c.own s' (some g) ((xs.length + ys.length) * eu.size), hrun, ⟨rfl, rfl, rfl⟩, h1, ?_⟩
    simp only [RepT, RepV]
    simp only [RepC, Rep, List.length_append]
    have hmul : (xs.length + ys.length) * eu.size = xs.length * eu.size + ys.length * eu.size := Nat.add_mul _ _ _
    refine ⟨⟨trivial, .inr ⟨_, _, rfl, hcap, repRow_append ?_ ?_⟩⟩, .inr (.inr ⟨hs2, u, hlook, .inr ?_⟩)⟩
    · rcases hcase with ⟨rfl, rfl, _⟩ | ⟨g1, cap1, rfl, hcap1, hs1, hσ, hrow, cur1, hh, htk, _⟩
      · simp only [RepRow]
      · refine repRow_move S.keeps hrow fun j x hj hx => ?_
        simp only [Nat.zero_mul, Nat.zero_add, addr_add_mk] at hx ⊢
        exact ⟨hold j hj x ⟨g1, rfl, hx⟩, .inr ⟨rfl, by omega⟩⟩
    · refine repRow_move S.keeps hrow2 fun j x hj hx => ?_
      rw [Nat.zero_mul, Nat.zero_add] at hx
      simp only [Nat.zero_add, addr_add_mk]
      refine ⟨?_, .inr ⟨rfl, by omega⟩⟩
      rw [cell_of_row w' g _ cur u (0, 0) hg]
      have hlen : cells.length = xs.length * eu.size := by rw [hown.1, hisz]
      have e2 : cur.toList[xs.length * eu.size + j]? = (cells ++ ((List.range (ys.length * eu.size)).map fun j => (w.cell? (b2.add j)).getD undef))[xs.length * eu.size + j]? := by
        rw [← htake, List.getElem?_take, if_pos (by rw [hisz]; omega)]
      rw [← Array.getElem?_toList, e2, List.getElem?_append_right (by omega), hlen, Nat.add_sub_cancel_left, List.getElem?_map, List.getElem?_range (by omega)]
      simp [hx]
    · simp only [Ctx.own, if_true]
      refine ⟨cap, cur, rfl, hg, by rw [hcs, hisz], hcm, hcap, fun o ho hi => ?_⟩
      rcases hi with hi | ⟨_, hi⟩
      · rcases hgo with hv | hv
        · rcases hcase with ⟨rfl, rfl, _⟩ | ⟨g1, cap1, rfl, hcap1, hs1, hσ, _, cur1, hh, _, _, _, hI⟩
          · cases hv
          · cases hv
            exact hI o (by omega) hi
        · have := h.im _ _ hi; omega
      · omega
end

end Go.Proofs.Ytndijidmabfhcaa.Fw
