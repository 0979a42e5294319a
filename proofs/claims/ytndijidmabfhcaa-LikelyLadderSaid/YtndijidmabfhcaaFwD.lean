/- Steps of the machine that keep a function's state: a result laid into its slot; a new block. -/
import Derived.Test.YtndijidmabfhcaaFwC
namespace Go.Proofs.Ytndijidmabfhcaa.Fw
open Go Go.RowKit

theorem nbeq {a b : Nat} : (Nat.beq a b = true) ↔ a = b := ⟨Nat.eq_of_beq_eq_true, fun h => by subst h; exact Nat.beq_refl a⟩
theorem nbeq_f {a b : Nat} : (Nat.beq a b = false) ↔ a ≠ b := by
  rw [← Bool.not_eq_true, not_congr nbeq]
theorem look_cons {α : Type} (t s : Nat) (x : α) (l : List (Nat × α)) : look t ((s, x) :: l) = if s = t then some x else look t l := by
  show (bif Nat.beq s t then some x else look t l) = _
  by_cases h : s = t
  · rw [nbeq.2 h, if_pos h]; rfl
  · rw [nbeq_f.2 h, if_neg h]; rfl

theorem wtFree_spec {dst : Nat} : ∀ {l : List (Nat × D)}, wtFree dst l = true → ∀ t d, look t l = some d → t ≠ dst ∧ ∃ s b x, d = .wh s b x ∧ s ≠ dst
  | [], _, t, d, h => by simp [look] at h
  | (t', d') :: l, hf, t, d, h => by
    cases d' with
    | wh s b x =>
      simp only [wtFree, Bool.and_eq_true, Bool.not_eq_true', nbeq_f] at hf
      rw [look_cons] at h
      split at h
      · rename_i e; subst e
        simp only [Option.some.injEq] at h; subst h
        exact ⟨hf.1.1, s, b, x, rfl, hf.1.2⟩
      · exact wtFree_spec hf.2 t d h
    | _ => simp [wtFree] at hf

theorem getD_put {a : Act} {dst : Nat} {v : Value} (h : dst < a.tmps.size) (t : Nat) : (a.put (some dst) v).tmps.getD t undef = if t = dst then v else a.tmps.getD t undef := by
  simp only [Act.put, Array.getD_eq_getD_getElem?, Array.getElem?_setIfInBounds]
  by_cases e : dst = t
  · subst e; simp [h]
  · have e' : t ≠ dst := fun h => e h.symm
    simp [e, e']

section
variable {c : Ctx} {env : Env} {a : Act} {w : World}

/-- RepT asks of the state of boxes, maps and stamps alone. -/
theorem Step.sameEnv {env' : Env} (hb : env'.bx = env.bx) (hm : env'.mp = env.mp) (hu : env'.us = env.us) (hd : env'.dd = env.dd) : Step c env w c env' w :=
  ⟨Keeps.refl _ _, fun _ h => ⟨by rw [hb]; exact h, rfl⟩, fun _ h => ⟨by rw [hm]; exact h, rfl⟩, fun _ _ h => by rw [hu]; exact h, fun _ h => by rw [hd]; exact h, fun _ _ _ => ⟨rfl, fun _ _ => ⟨rfl, fun _ h => h⟩⟩⟩

theorem BoxOK.step {c' : Ctx} {env' : Env} {w' : World} {s : Nat} {b : BoxC} (S : Step c env w c' env' w') (h : BoxOK c env w s b) (hρ : c'.ρ s = c.ρ s) (hh : w'.heap[c.ρ s]? = w.heap[c.ρ s]?)
    (hI : ∀ o, c'.I (c.ρ s) o → c.I (c.ρ s) o) : BoxOK c' env' w' s b := by
  obtain ⟨vs, e, h1, h2, h3, h4⟩ := h
  exact ⟨vs, e, by rw [hρ, hh]; exact h1, h2.mono fun _ _ => S.repC, fun hf o ho => by rw [hρ]; exact S.keeps.im _ _ (h3 hf o ho), fun hf o ho => h4 hf o (hI o (by rw [hρ] at ho; exact ho))⟩

theorem MapOK.step {c' : Ctx} {env' : Env} {w' : World} {s : Nat} {m : MapC} (S : Step c env w c' env' w') (h : MapOK c w s m) (hρ : c'.ρ s = c.ρ s) (hh : w'.heap[c.ρ s]? = w.heap[c.ρ s]?)
    (hI : ∀ o, c'.I (c.ρ s) o → c.I (c.ρ s) o) : MapOK c' w' s m := by
  obtain ⟨es, k, h1, h2, h3, h0, h4, h5⟩ := h
  refine ⟨es, k, by rw [hρ, hh]; exact h1, RepL.keeps S.keeps _ _ h2, RepL.keeps S.keeps _ _ h3, h0, fun hf => by rw [hρ]; exact S.keeps.im _ _ (h4 hf), fun hf o ho => h5 hf o (hI o (by rw [hρ] at ho; exact ho))⟩

theorem RepW.step {c' : Ctx} {env' : Env} {w' : World} (S : Step c env w c' env' w') {tmps : Array Value} {d : D} {v : Value} (h : RepW c env w tmps d v) : RepW c' env' w' tmps d v := by
  cases d <;> first | exact h.elim | exact ⟨fun hs => S.repT (h.1 hs), h.2⟩

/-- The result of an operation in its slot. -/
theorem St.put {dst : Nat} {d : D} {v : Value} (h : St c env a w) (hd : RepT c env w d v) {env' : Env} (he : env.set dst none d = some env') : St c env' (a.put (some dst) v) w := by
  unfold Env.set at he
  cases hc : (Nat.blt dst env.nt && wtFree dst env.wt) with
  | false => rw [hc] at he; cases he
  | true =>
    rw [hc] at he
    simp only [cond_true, Option.some.injEq] at he
    subst he
    simp only [Bool.and_eq_true, Nat.blt_eq] at hc
    have hlt : dst < a.tmps.size := by rw [h.nt]; exact hc.1
    have S : Step c env w c { env with tm := (dst, d) :: env.tm } w := Step.sameEnv rfl rfl rfl rfl
    refine ⟨by simp [Act.put, h.nt], h.df, ?_, ?_, fun s b hs => (h.bx s b hs).step S rfl rfl (fun _ x => x), fun s m hs => (h.mp s m hs).step S rfl rfl (fun _ x => x), h.inj, h.above, h.lt, h.ownInj, h.ownAbove, h.im, h.im0, h.imNew, h.base, h.gh⟩
    · intro t x hx
      rw [look_cons] at hx
      rw [getD_put hlt]
      split at hx
      · rename_i e; subst e; cases hx; simp only [if_true]; exact S.repT hd
      · rename_i e; rw [if_neg (fun e' => e e'.symm)]; exact S.repT (h.tm t x hx)
    · intro t x hx
      obtain ⟨hne, s, b, y, rfl, hs⟩ := wtFree_spec hc.2 t x hx
      simp only [RepW, getD_put hlt, if_neg hs, if_neg hne]
      exact ⟨fun hg => S.repT ((h.wt t _ hx).1 hg), (h.wt t _ hx).2⟩

/-- Likewise of one under a guard, whether it has been done or not. -/
theorem St.putW {dst s : Nat} {b : Bool} {d : D} {v : Value} (h : St c env a w) (hd : a.tmps.getD s undef = .bool b → RepT c env w d v) (hu : a.tmps.getD s undef ≠ .bool b → v = undef) {env' : Env} (he : env.set dst (some (s, b)) d = some env') : St c env' (a.put (some dst) v) w := by
  unfold Env.set at he
  cases hc : (Nat.blt dst env.nt && wtFree dst env.wt) with
  | false => rw [hc] at he; cases he
  | true =>
    rw [hc] at he
    simp only [cond_true] at he
    cases hsd : Nat.beq s dst with
    | true => rw [hsd] at he; cases he
    | false =>
    rw [hsd] at he
    simp only [cond_false, Option.some.injEq] at he
    subst he
    have hsd := nbeq_f.1 hsd
    simp only [Bool.and_eq_true, Nat.blt_eq] at hc
    have hlt : dst < a.tmps.size := by rw [h.nt]; exact hc.1
    have S : Step c env w c { env with tm := (dst, .undef) :: env.tm, wt := (dst, .wh s b d) :: env.wt } w := Step.sameEnv rfl rfl rfl rfl
    refine ⟨by simp [Act.put, h.nt], h.df, ?_, ?_, fun s b hs => (h.bx s b hs).step S rfl rfl (fun _ x => x), fun s m hs => (h.mp s m hs).step S rfl rfl (fun _ x => x), h.inj, h.above, h.lt, h.ownInj, h.ownAbove, h.im, h.im0, h.imNew, h.base, h.gh⟩
    · intro t x hx
      rw [look_cons] at hx
      rw [getD_put hlt]
      split at hx
      · cases hx; trivial
      · rename_i e; rw [if_neg (fun e' => e e'.symm)]; exact S.repT (h.tm t x hx)
    · intro t x hx
      rw [look_cons] at hx
      split at hx
      · rename_i e; subst e; cases hx
        simp only [RepW, getD_put hlt, if_neg hsd, if_true]
        exact ⟨fun hg => S.repT (hd hg), hu⟩
      · rename_i e
        obtain ⟨hne, s', b', y, rfl, hs⟩ := wtFree_spec hc.2 t x hx
        simp only [RepW, getD_put hlt, if_neg hs, if_neg hne]
        exact ⟨fun hg => S.repT ((h.wt t _ hx).1 hg), (h.wt t _ hx).2⟩

/-- What is forgotten. -/
theorem St.endRegion (h : St c env a w) : St c { env with wt := [] } a w :=
  ⟨h.nt, h.df, fun t d hd => (Step.sameEnv (c := c) (env := env) (env' := { env with wt := [] }) (w := w) rfl rfl rfl rfl).repT (h.tm t d hd), fun t d hd => by simp [look] at hd,
    fun s b hs => (h.bx s b hs).step (Step.sameEnv rfl rfl rfl rfl) rfl rfl (fun _ x => x), fun s m hs => (h.mp s m hs).step (env := env) (env' := env) (Step.sameEnv rfl rfl rfl rfl) rfl rfl (fun _ x => x), h.inj, h.above, h.lt, h.ownInj, h.ownAbove, h.im, h.im0, h.imNew, h.base, h.gh⟩

/-- A new block that nothing names yet: whatever it is. -/
theorem Step.alloc (hlt : ∀ b o, c.I b o → b < w.heap.size) (hown : ∀ st g, env.live st → c.σ st = some g → g < w.heap.size) (o : Obj) : Step c env w c env (w.alloc o) := by
  have hh : ∀ k, k < w.heap.size → (w.alloc o).heap[k]? = w.heap[k]? := fun k hk => Below.heap_alloc w o k hk
  refine ⟨⟨fun _ _ h => h, fun x u hi hu => ?_, fun r es k hi hr => (hh r (hlt _ _ hi)).trans hr⟩, fun _ h => ⟨h, rfl⟩, fun _ h => ⟨h, rfl⟩, fun _ _ h => h, fun _ h => h, fun st hl _ => ⟨rfl, fun g hg => ⟨hh g (hown st g hl hg), fun _ h => h⟩⟩⟩
  exact (World.cell?_of_block (hh _ (hlt _ _ hi))).trans hu

theorem Step.allocSt (h : St c env a w) (o : Obj) : Step c env w c env (w.alloc o) := Step.alloc h.im (fun st g hl hg => (h.ownAbove st g hl hg).2.1) o

theorem St.alloc (h : St c env a w) (o : Obj) : St c env a (w.alloc o) := by
  have S := Step.allocSt h o
  have hh : ∀ k, k < w.heap.size → (w.alloc o).heap[k]? = w.heap[k]? := fun k hk => Below.heap_alloc w o k hk
  exact ⟨h.nt, h.df, fun t d hd => S.repT (h.tm t d hd), fun t d hd => (h.wt t d hd).step S,
    fun s b hs => (h.bx s b hs).step S rfl (hh _ (h.lt s (.inl (by rw [hs]; rfl)))) (fun _ x => x), fun s m hs => (h.mp s m hs).step S rfl (hh _ (h.lt s (.inr (by rw [hs]; rfl)))) (fun _ x => x),
    h.inj, h.above, fun s hs => Nat.lt_trans (h.lt s hs) (by simp), h.ownInj, fun st g hl hg => ⟨(h.ownAbove st g hl hg).1, Nat.lt_trans (h.ownAbove st g hl hg).2.1 (by simp), (h.ownAbove st g hl hg).2.2⟩,
    fun b o' hi => Nat.lt_trans (h.im b o' hi) (by simp), h.im0.trans S.keeps, h.imNew, h.base.alloc h.base.size o, h.gh⟩

/-- The world draws. -/
theorem St.drew (h : St c env a w) : St c env a w.drew := by
  have S : Step c env w c env w.drew := ⟨⟨fun _ _ h => h, fun _ _ _ h => h, fun _ _ _ _ h => h⟩, fun _ h => ⟨h, rfl⟩, fun _ h => ⟨h, rfl⟩, fun _ _ h => h, fun _ h => h, fun _ _ _ => ⟨rfl, fun _ _ => ⟨rfl, fun _ h => h⟩⟩⟩
  exact ⟨h.nt, h.df, fun t d hd => S.repT (h.tm t d hd), fun t d hd => (h.wt t d hd).step S, fun s b hs => (h.bx s b hs).step S rfl rfl (fun _ x => x), fun s m hs => (h.mp s m hs).step S rfl rfl (fun _ x => x),
    h.inj, h.above, h.lt, h.ownInj, h.ownAbove, h.im, h.im0.trans S.keeps, h.imNew, h.base.drew, h.gh⟩

/-- A new block becomes the local variable of a slot. -/
theorem St.newBox (h : St c env a w) {dst : Nat} {cells : List D} {vs : List Value} (isAgg : Bool) (e : TypeId) (hb : look dst env.bx = none) (hm : look dst env.mp = none) (hv : All2 (RepC c env w) cells vs) :
    St { c with ρ := fun s => if s = dst then w.heap.size else c.ρ s } { env with bx := (dst, ⟨cells, isAgg, false⟩) :: env.bx } a (w.alloc (.cells ⟨vs⟩ e)) ∧
    RepC { c with ρ := fun s => if s = dst then w.heap.size else c.ρ s } { env with bx := (dst, ⟨cells, isAgg, false⟩) :: env.bx } (w.alloc (.cells ⟨vs⟩ e)) (.loc dst 0) (.pointer (some ⟨w.heap.size, 0, none⟩)) := by
  have hh : ∀ k, k < w.heap.size → (w.alloc (.cells ⟨vs⟩ e)).heap[k]? = w.heap[k]? := fun k hk => Below.heap_alloc w _ k hk
  have hne : ∀ s, (look s env.bx).isSome = true ∨ (look s env.mp).isSome = true → s ≠ dst := by
    rintro s hs rfl; rcases hs with hs | hs
    · rw [hb] at hs; cases hs
    · rw [hm] at hs; cases hs
  have hblk : ∀ s, Env.blk { env with bx := (dst, ⟨cells, isAgg, false⟩) :: env.bx } s → s = dst ∨ env.blk s := by
    intro s hs
    unfold Env.blk at hs ⊢
    simp only [look_cons] at hs
    by_cases e : dst = s
    · exact .inl e.symm
    · rw [if_neg e] at hs; exact .inr hs
  have S : Step c env w { c with ρ := fun s => if s = dst then w.heap.size else c.ρ s } { env with bx := (dst, ⟨cells, isAgg, false⟩) :: env.bx } (w.alloc (.cells ⟨vs⟩ e)) := by
    have S1 := Step.allocSt h (.cells ⟨vs⟩ e)
    refine ⟨S1.keeps, fun s hs => ⟨?_, by simp [hne s (.inl hs)]⟩, fun s hs => ⟨hs, by simp [hne s (.inr hs)]⟩, S1.us, S1.dd, S1.own⟩
    simp only [look_cons]; split
    · rfl
    · exact hs
  refine ⟨⟨h.nt, h.df, fun t d hd => S.repT (h.tm t d hd), fun t d hd => (h.wt t d hd).step S, ?_, ?_, ?_, ?_, ?_, h.ownInj, ?_, ?_, h.im0.trans S.keeps, h.imNew, h.base.alloc h.base.size _, h.gh.1, S.fix h.gh.2⟩, by simp [look_cons], by simp⟩
  · intro s b hs
    simp only [look_cons] at hs
    split at hs
    · rename_i e'; subst e'; cases hs
      exact ⟨vs, e, by simp only [if_true]; exact heap_alloc_new w _, hv.mono fun _ _ => S.repC, (fun hf => by cases hf), (fun _ o ho => by have ho : c.I (if dst = dst then w.heap.size else c.ρ dst) o := ho; rw [if_pos rfl] at ho; exact Nat.lt_irrefl _ (h.im _ _ ho))⟩
    · have hlt := h.lt s (.inl (by rw [hs]; rfl))
      exact (h.bx s b hs).step S (by simp [hne s (.inl (by rw [hs]; rfl))]) (hh _ hlt) (fun _ x => x)
  · intro s m hs
    have hlt := h.lt s (.inr (by rw [hs]; rfl))
    exact (h.mp s m hs).step S (by simp [hne s (.inr (by rw [hs]; rfl))]) (hh _ hlt) (fun _ x => x)
  · intro s s' hs hs' e'
    rcases hblk s hs with rfl | h1 <;> rcases hblk s' hs' with rfl | h2
    · rfl
    · simp only [if_true, if_neg (hne s' h2)] at e'; have := h.lt s' h2; omega
    · simp only [if_true, if_neg (hne s h1)] at e'; have := h.lt s h1; omega
    · simp only [if_neg (hne s h1), if_neg (hne s' h2)] at e'; exact h.inj s s' h1 h2 e'
  · intro s hs
    rcases hblk s hs with rfl | h1
    · simp only [if_true]; exact h.base.size
    · simp only [if_neg (hne s h1)]; exact h.above s h1
  · intro s hs
    rcases hblk s hs with rfl | h1
    · simp
    · simp only [if_neg (hne s h1)]; exact Nat.lt_trans (h.lt s h1) (by simp)
  · intro st g hl hg
    obtain ⟨h1, h2, h3⟩ := h.ownAbove st g hl hg
    refine ⟨h1, Nat.lt_trans h2 (by simp), fun s hs => ?_⟩
    rcases hblk s hs with rfl | h1
    · simp only [if_true]; omega
    · simp only [if_neg (hne s h1)]; exact h3 s h1
  · intro b o hi; exact Nat.lt_trans (h.im b o hi) (by simp)
end

end Go.Proofs.Ytndijidmabfhcaa.Fw
