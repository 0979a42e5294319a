/- Rounds of a range over a function: what is held between them. -/
import Derived.Test.YtndijidmabfhcaaFwWB
import Derived.RangeFuncNested
namespace Go.Proofs.Ytndijidmabfhcaa.Fw
open Go Go.RowKit

theorem mem_dedup : ∀ {l acc : List Nat} {x : Nat}, x ∈ dedup l acc ↔ x ∈ l ∨ x ∈ acc
  | [], acc, x => by simp [dedup]
  | y :: l, acc, x => by
    unfold dedup
    cases h : acc.contains y with
    | true =>
      have hy : y ∈ acc := by simpa using h
      simp only [mem_dedup, List.mem_cons]
      constructor
      · rintro (h | h) <;> simp [h]
      · rintro ((rfl | h) | h) <;> simp [*]
    | false =>
      simp only [mem_dedup, List.mem_cons]
      constructor
      · rintro (h | rfl | h) <;> simp [*]
      · rintro ((rfl | h) | h) <;> simp [*]
theorem mem_keysOf {α : Type} : ∀ {l : List (Nat × α)} {s : Nat}, (look s l).isSome = true → s ∈ keysOf l := by
  intro l s h
  refine mem_dedup.2 (.inl ?_)
  induction l with
  | nil => simp [look] at h
  | cons p l ih =>
    obtain ⟨t, x⟩ := p
    rw [look_cons] at h
    split at h
    · rename_i e; simp [e]
    · exact List.mem_map.2 (by obtain ⟨q, h1, h2⟩ := List.mem_map.1 (ih h); exact ⟨q, List.mem_cons_of_mem _ h1, h2⟩)

section
variable {P : Program} {T : Ty} {c : Ctx} {env : Env} {a : Act} {w : World}

theorem St.covers (h : St c env a w) : Covers c.w0 (keysOf env.bx) (keysOf env.mp) := fun k s b hs => by
  obtain ⟨h1, _⟩ := h.gh.2 k s b hs
  cases k with
  | true => exact mem_keysOf h1
  | false => exact mem_keysOf h1

/-- Other temporaries. -/
theorem St.tmps (h : St c env a w) {tm' : List (Nat × D)} {ts : Array Value} (ht : ∀ t d, look t tm' = some d → RepT c env w d (ts.getD t undef)) : St c { env with nt := ts.size, tm := tm', wt := [] } { a with tmps := ts } w := by
  have S : Step c env w c { env with nt := ts.size, tm := tm', wt := [] } w := Step.sameEnv rfl rfl rfl rfl
  exact ⟨rfl, h.df, fun t d hd => S.repT (ht t d hd), fun t d hd => by simp [look] at hd, fun s b hs => (h.bx s b hs).step S rfl rfl (fun _ x => x), fun s m hs => (h.mp s m hs).step S rfl rfl (fun _ x => x), h.inj, h.above, h.lt, h.ownInj, h.ownAbove, h.im, h.im0, h.imNew, h.base, h.gh.1, S.fix h.gh.2⟩

theorem dstC_rep {d : D} {v : Value} (h : RepC c env w d v) : RepC c env w (dstC d) v := by
  cases d <;> first | exact h | skip
  rename_i st es xs
  refine ⟨h.1, ?_⟩
  cases hs : Nat.ble st 1 with
  | true => exact h.2
  | false => exact .inl rfl
theorem all2_map_left {α β γ : Type} {R : β → γ → Prop} (f : α → β) : ∀ {as : List α} {cs : List γ}, All2 (fun a c => R (f a) c) as cs ↔ All2 R (as.map f) cs
  | [], [] => Iff.rfl
  | _ :: _, _ :: _ => and_congr_right fun _ => all2_map_left f
  | [], _ :: _ => Iff.rfl
  | _ :: _, [] => Iff.rfl
theorem dstD_rep {d : D} {v : Value} (h : RepT c env w d v) : RepT c env w (dstD d) v := by
  cases d with
  | agg cs =>
    obtain ⟨vs, e, h⟩ := h
    exact ⟨vs, e, (all2_map_left dstC).1 (h.mono fun _ _ => dstC_rep)⟩
  | tup ds => trivial
  | sl st es xs => exact dstC_rep (d := .sl st es xs) h
  | _ => exact h

section
variable {c' : Ctx} {env' : Env} {w' : World} (K : Keeps c.I c'.I w w') (hb : ∀ s, (look s env.bx).isSome = true → (look s env'.bx).isSome = true ∧ c'.ρ s = c.ρ s) (hm : ∀ s, (look s env.mp).isSome = true → (look s env'.mp).isSome = true ∧ c'.ρ s = c.ρ s)
include K hb hm
theorem dstC_move {d : D} {v : Value} (h : RepC c env w (dstC d) v) : RepC c' env' w' (dstC d) v := by
  cases d with
  | loc s off => exact ⟨(hb s h.1).1, by rw [(hb s h.1).2]; exact h.2⟩
  | lsl s off n => exact ⟨(hb s h.1).1, by rw [(hb s h.1).2]; exact h.2⟩
  | mapr s => exact ⟨(hm s h.1).1, by rw [(hm s h.1).2]; exact h.2⟩
  | sl st es xs =>
    refine ⟨Rep.keeps K _ _ h.1, ?_⟩
    rcases h.2 with e | e | ⟨e, _⟩
    · exact .inl e
    · exact .inr (.inl e)
    · cases hs : Nat.ble st 1 with
      | true => rw [hs] at e; have := Nat.le_of_ble_eq_true hs; simp only [cond_true] at e; omega
      | false => rw [hs] at e; simp at e
  | agg cs => exact h.elim
  | tup cs => exact h.elim
  | _ => exact Rep.keeps K _ _ h
theorem dstD_move {d : D} {v : Value} (h : RepT c env w (dstD d) v) : RepT c' env' w' (dstD d) v := by
  cases d with
  | agg cs =>
    obtain ⟨vs, e, h⟩ := h
    exact ⟨vs, e, (all2_map_left dstC).1 (((all2_map_left dstC).2 h).mono fun _ _ => dstC_move K hb hm)⟩
  | tup ds => trivial
  | undef => trivial
  | wh s b d => exact (show False from h).elim
  | sl st es xs => exact dstC_move K hb hm (d := .sl st es xs) h
  | loc s off => exact dstC_move K hb hm (d := .loc s off) h
  | lsl s off n => exact dstC_move K hb hm (d := .lsl s off n) h
  | mapr s => exact dstC_move K hb hm (d := .mapr s) h
  | int k n => exact Rep.keeps K (.int k n) _ h
  | bool b => exact Rep.keeps K (.bool b) _ h
  | str l => exact Rep.keeps K (.str l) _ h
  | eptr d o => exact Rep.keeps K (.eptr d o) _ h
  | nilp => exact Rep.keeps K .nilp _ h
  | fn f cs => exact Rep.keeps K (.fn f cs) _ h
  | nilf => exact Rep.keeps K .nilf _ h
  | ifc t d => exact Rep.keeps K (.ifc t d) _ h
  | nili => exact Rep.keeps K .nili _ h
  | mapv ks vs => exact Rep.keeps K (.mapv ks vs) _ h
  | nilm => exact Rep.keeps K .nilm _ h
  | yld l => exact Rep.keeps K (.yld l) _ h
end
end

/-- A root that asks nothing. -/
def Root.free (w : World) : Root := ⟨w, fun _ => False, [], none, fun _ _ => none, fun _ _ _ _ => True⟩
theorem Root.free_base (w : World) : BaseF (Root.free w) w := ⟨rfl, rfl, rfl, Nat.le_refl _, fun _ h => h.elim, fun _ h => h.elim, fun _ h => (by cases h), List.nodup_nil, fun _ h => (by cases h), fun _ h => (by cases h)⟩
theorem Root.free_off (w : World) (k : Nat) : (Root.free w).off k := ⟨fun h => h, by simp [Root.free]⟩
theorem Root.free_fix (w : World) (ρ : Nat → Nat) (env : Env) : FixAll (Root.free w) ρ env := fun _ _ _ h => by cases h

/-- What is held between two rounds. -/
structure Held (c : Ctx) (r1 : Root) (ρ0 : Nat → Nat) (bs ms : List Nat) (tm0 : List (Nat × D)) (tmps : Array Value) (l : Nat) (rc : Loop) (O : Nat → Prop) (I : Im) (W : World) (c' : Ctx) (env' : Env) : Prop where
  st : St c' env' { tmps := tmps, defers := [] } W
  tm : ∀ t d, look t tm0 = some d → RepT c' env' W d (tmps.getD t undef)
  base : BaseF r1 W
  im0 : Keeps c.I0 c'.I c.w0.wd W
  new : ∀ b o, c'.I b o → c.I0 b o ∨ r1.off b
  off : ∀ k, ownB c' env' k → r1.off k ∧ k ≠ l
  bx : ∀ s, (look s env'.bx).isSome = true ↔ s ∈ bs
  mp : ∀ s, (look s env'.mp).isSome = true ↔ s ∈ ms
  rho : ∀ s, s ∈ bs ∨ s ∈ ms → c'.ρ s = ρ0 s
  rcd : W.heap[l]? = some (.loop rc)
  rl : r1.off l
  il : ∀ o, ¬ c'.I l o
  sub : ∀ b o, I b o → c'.I b o
  own : ∀ b o, c'.I b o → O b → I b o
  oo : ∀ k, O k → r1.off k ∧ k ≠ l ∧ ¬ ownB c' env' k ∧ k < W.heap.size

section
variable {P : Program} {T : Ty} {c : Ctx} {r1 : Root} {ρ0 : Nat → Nat} {bs ms : List Nat} {tm0 : List (Nat × D)} {tmps : Array Value} {l : Nat} {rc : Loop} {O : Nat → Prop} {I : Im} {W : World} {c' : Ctx} {env' : Env}

theorem ownB_env {c : Ctx} {env : Env} {I : Im} {r : Root} {I0 : Im} {df : List Deferred} {ys : Option (Nat × List (List D))} {k : Nat} : ownB { c with I := I, w0 := r, I0 := I0, df := df } { env with ys := ys } k ↔ ownB c env k := Iff.rfl

/-- The iterator goes on. -/
theorem Held.step (h : Held c r1 ρ0 bs ms tm0 tmps l rc O I W c' env') (htm : ∀ t d, look t tm0 = some d → ∃ d0, d = dstD d0) {O' : Nat → Prop} {I' : Im} {W' : World} (s : ItStep O I W O' I' W') :
    ∃ c2, Held c r1 ρ0 bs ms tm0 tmps l rc O' I' W' c2 env' := by
  have hlt := h.st.im
  have hsame : ∀ k, k < W.heap.size → ¬ O k → W'.heap[k]? = W.heap[k]? := s.same
  have hl : l < W.heap.size := (Array.getElem?_eq_some_iff.1 h.rcd).1
  have hOl : ¬ O l := fun x => (h.oo l x).2.1 rfl
  have hown : ∀ k, ownB c' env' k → W'.heap[k]? = W.heap[k]? := fun k hk => hsame k (ownB_lt h.st hk) fun x => (h.oo k x).2.2.1 hk
  have hK : Keeps c'.I (fun b o => c'.I b o ∨ I' b o) W W' := by
    refine ⟨fun _ _ x => .inl x, fun ad u hi hu => ?_, fun r es k hi hr => ?_⟩
    · by_cases ho : O ad.block
      · exact s.keeps.cell ad u (h.own _ _ hi ho) hu
      · exact (World.cell?_of_block (hsame _ (hlt _ _ hi) ho)).trans hu
    · by_cases ho : O r
      · exact s.keeps.map r es k (h.own _ _ hi ho) hr
      · exact (hsame _ (hlt _ _ hi) ho).trans hr
  have hI : ∀ b o, (c'.I b o ∨ I' b o) → c'.I b o ∨ ¬ ownB c' env' b := by
    rintro b o (x | x)
    · exact .inl x
    · rcases s.im b o x with x | x | x
      · exact .inl (h.sub b o x)
      · exact .inr (h.oo b x).2.2.1
      · exact .inr fun y => by have := ownB_lt h.st y; omega
  have hm := h.st.move (I' := fun b o => c'.I b o ∨ I' b o) (I0' := fun b o => c'.I b o ∨ I' b o) (w' := W') (r' := Root.free W') (ys' := env'.ys) (df' := []) s.size hown hK hI
    (fun b o x => x.elim (fun x => Nat.lt_of_lt_of_le (hlt b o x) s.size) (s.lt b o)) (fun k _ => Root.free_off _ k) (Root.free_base _) (Keeps.refl _ _) (fun _ _ x => .inl x) rfl ⟨trivial, Root.free_fix _ _ _⟩
  refine ⟨{ c' with I := fun b o => c'.I b o ∨ I' b o, w0 := Root.free W', I0 := fun b o => c'.I b o ∨ I' b o, df := [] }, { st := hm.1, tm := fun t d hd => ?_, base := h.base.trans ⟨s.os, s.tape, s.output, s.size, fun k hk => hsame k (h.base.below_of hk) fun x => hk (h.oo k x).1⟩, im0 := h.im0.trans hK, new := ?_, off := h.off, bx := h.bx, mp := h.mp, rho := h.rho, rcd := (hsame l hl hOl).trans h.rcd, rl := h.rl, il := ?_, sub := fun b o x => .inr x, own := ?_, oo := ?_ }⟩
  · obtain ⟨d0, rfl⟩ := htm t d hd
    exact dstD_move (c := c') (env := env') (w := W) (c' := { c' with I := fun b o => c'.I b o ∨ I' b o, w0 := Root.free W', I0 := fun b o => c'.I b o ∨ I' b o, df := [] }) (env' := env') (w' := W') hK (fun _ x => ⟨x, rfl⟩) (fun _ x => ⟨x, rfl⟩) (h.tm t _ hd)
  · rintro b o (x | x)
    · exact h.new b o x
    · rcases s.im b o x with x | x | x
      · exact h.new b o (h.sub b o x)
      · exact .inr (h.oo b x).1
      · exact .inr (h.base.new x)
  · rintro o (x | x)
    · exact h.il o x
    · rcases s.im l o x with x | x | x
      · exact h.il o (h.sub l o x)
      · exact hOl x
      · omega
  · rintro b o (x | x) y
    · rcases s.own b y with y | y
      · exact s.keeps.im b o (h.own b o x y)
      · have := hlt b o x; omega
    · exact x
  · intro k x
    refine ⟨?_, ?_, ?_, s.olt k x⟩
    · rcases s.own k x with y | y
      · exact (h.oo k y).1
      · exact h.base.new y
    · rcases s.own k x with y | y
      · exact (h.oo k y).2.1
      · omega
    · rcases s.own k x with y | y
      · exact (h.oo k y).2.2.1
      · intro z; have := ownB_lt h.st z; omega

/-- What lies between two states: elsewhere nothing has changed but block l. -/
structure Away (l : Nat) (c' : Ctx) (env' : Env) (W : World) (cA : Ctx) (envA : Env) (W1 : World) : Prop where
  os : W1.os = W.os
  tape : W1.tape = W.tape
  output : W1.output = W.output
  size : W.heap.size ≤ W1.heap.size
  same : ∀ k, k < W.heap.size → ¬ ownB c' env' k → k ≠ l → W1.heap[k]? = W.heap[k]?
  keeps : Keeps c'.I cA.I W W1
  new : ∀ b o, cA.I b o → c'.I b o ∨ ownB c' env' b ∨ W.heap.size ≤ b
  own : ∀ k, ownB cA envA k → ownB c' env' k ∨ W.heap.size ≤ k

theorem Away.trans {cA cB : Ctx} {envA envB : Env} {W1 W2 : World} (h : Away l c' env' W cA envA W1) (k : Away l cA envA W1 cB envB W2) : Away l c' env' W cB envB W2 := by
  refine ⟨k.os.trans h.os, k.tape.trans h.tape, k.output.trans h.output, Nat.le_trans h.size k.size, fun i hi ho hl => ?_, h.keeps.trans k.keeps, fun b o x => ?_, fun i x => ?_⟩
  · refine (k.same i (Nat.lt_of_lt_of_le hi h.size) (fun x => ?_) hl).trans (h.same i hi ho hl)
    rcases h.own i x with y | y
    · exact ho y
    · omega
  · rcases k.new b o x with y | y | y
    · exact h.new b o y
    · exact (h.own b y).elim (fun z => .inr (.inl z)) fun z => .inr (.inr z)
    · exact .inr (.inr (Nat.le_trans h.size y))
  · rcases k.own i x with y | y
    · exact h.own i y
    · exact .inr (Nat.le_trans h.size y)

def fixOf (bs ms : List Nat) (ρ0 : Nat → Nat) : Bool → Nat → Option Nat
  | true, s => if s ∈ bs then some (ρ0 s) else none
  | false, s => if s ∈ ms then some (ρ0 s) else none
theorem fixOf_ok {ρ : Nat → Nat} {env : Env} {wd : World} {far : Nat → Prop} {lp : Option Nat} {G : Option (Nat × List (List D)) → (Nat → Prop) → World → Im → Prop} :
    FixAll ⟨wd, far, [], lp, fixOf bs ms ρ0, G⟩ ρ env ↔ (∀ s, s ∈ bs → (look s env.bx).isSome = true ∧ ρ s = ρ0 s) ∧ (∀ s, s ∈ ms → (look s env.mp).isSome = true ∧ ρ s = ρ0 s) := by
  constructor
  · intro h
    exact ⟨fun s hs => h true s (ρ0 s) (if_pos hs), fun s hs => h false s (ρ0 s) (if_pos hs)⟩
  · rintro ⟨h1, h2⟩ k s b hs
    cases k with
    | true =>
      simp only [fixOf] at hs
      split at hs
      · rename_i hm; cases hs; exact h1 s hm
      · cases hs
    | false =>
      simp only [fixOf] at hs
      split at hs
      · rename_i hm; cases hs; exact h2 s hm
      · cases hs

/-- The root of a round. -/
def roundRoot (bs ms : List Nat) (ρ0 : Nat → Nat) (l : Nat) (I : Im) (own : Nat → Prop) (W : World) : Root :=
  ⟨W, fun k => k < W.heap.size ∧ ¬ own k, [], some l, fixOf bs ms ρ0, fun ys far wd I0 => ys = none ∧ far = (fun k => k < W.heap.size ∧ ¬ own k) ∧ wd = W ∧ I0 = I⟩
theorem round_yield (bs ms : List Nat) (ρ0 : Nat → Nat) (l : Nat) (I : Im) (own : Nat → Prop) (W : World) : GYield P (roundRoot bs ms ρ0 l I own W) :=
  ⟨.inr fun _ _ _ _ h => h.1, fun _ _ _ _ _ _ _ _ _ _ _ h => by cases h.1⟩

theorem away_of {cA : Ctx} {envA : Env} {aA : Act} {W1 : World} (hs : St cA envA aA W1) (hG : cA.w0.G = (roundRoot bs ms ρ0 l c'.I (ownB c' env') W).G) : Away l c' env' W cA envA W1 := by
  have hg := hs.gh.1
  rw [hG] at hg
  obtain ⟨_, h2, h3, h4⟩ := hg
  have hb := hs.base
  have hoff : ∀ k, cA.w0.off k → ownB c' env' k ∨ W.heap.size ≤ k := fun k hk => by
    have := hk.1
    rw [h2] at this
    by_cases e : k < W.heap.size
    · by_cases o : ownB c' env' k
      · exact .inl o
      · exact absurd ⟨e, o⟩ this
    · exact .inr (by omega)
  have e1 := hb.os; have e2 := hb.tape; have e3 := hb.output; have e4 := hb.grow; have e5 := hs.im0
  rw [h3] at e1 e2 e3 e4
  rw [h3, h4] at e5
  refine ⟨e1, e2, e3, e4, fun k hk ho _ => ?_, e5, fun b o x => ?_, fun k x => hoff k (ownB_off hs x)⟩
  · have := hb.block k (by rw [h2]; exact ⟨hk, ho⟩)
    rw [h3] at this; exact this
  · rcases hs.imNew b o x with y | y
    · rw [h4] at y; exact .inl y
    · exact .inr (hoff b y)

theorem away_put {cA : Ctx} {envA : Env} {W1 : World} (o : Obj) (hl : ∀ o, ¬ cA.I l o) : Away l cA envA W1 cA envA (W1.putObj l o) := by
  have hsame : ∀ k, k ≠ l → (W1.putObj l o).heap[k]? = W1.heap[k]? := fun k hk => World.putObj_heap_other hk
  refine ⟨rfl, rfl, rfl, by simp, fun k _ _ hk => hsame k hk, ⟨fun _ _ x => x, fun ad u hi hu => ?_, fun r es k hi hr => ?_⟩, fun _ _ x => .inl x, fun _ x => .inl x⟩
  · exact (World.cell?_of_block (hsame _ fun e => hl _ (e ▸ hi))).trans hu
  · exact (hsame _ fun e => hl _ (e ▸ hi)).trans hr

/-- The state in which a round begins. -/
theorem Held.enter (h : Held c r1 ρ0 bs ms tm0 tmps l rc O I W c' env') {ts : Array Value} {tm' : List (Nat × D)} (ht : ∀ t d, look t tm' = some d → RepT c' env' W d (ts.getD t undef)) :
    St { c' with w0 := roundRoot bs ms ρ0 l c'.I (ownB c' env') W, I0 := c'.I, df := [] } { env' with nt := ts.size, tm := tm', wt := [], ys := none } { tmps := ts, defers := [] } W := by
  have h1 := h.st.tmps ht
  have hl : l < W.heap.size := (Array.getElem?_eq_some_iff.1 h.rcd).1
  have hm := h1.move (I' := c'.I) (I0' := c'.I) (w' := W) (r' := roundRoot bs ms ρ0 l c'.I (ownB c' env') W) (ys' := none) (df' := []) (Nat.le_refl _) (fun _ _ => rfl) (Keeps.refl _ _) (fun _ _ x => .inl x) h.st.im (fun k hk => ⟨fun x => x.2 hk, by simp [roundRoot]⟩)
    ⟨rfl, rfl, rfl, Nat.le_refl _, fun _ x => x.1, fun _ _ => rfl, fun _ x => (by cases x), List.nodup_nil, fun _ x => (by cases x), fun l' hl' => by
      have : l = l' := by simpa [roundRoot] using hl'
      subst this
      exact ⟨⟨hl, fun x => (h.off l x).2 rfl⟩, _, h.rcd⟩⟩ (Keeps.refl _ _) (fun _ _ x => .inl x) rfl ⟨⟨rfl, rfl, rfl, rfl⟩, fixOf_ok.2 ⟨fun s hs => ⟨(h.bx s).2 hs, h.rho s (.inl hs)⟩, fun s hs => ⟨(h.mp s).2 hs, h.rho s (.inr hs)⟩⟩⟩
  exact hm.1

theorem Held.il_away (h : Held c r1 ρ0 bs ms tm0 tmps l rc O I W c' env') {cA : Ctx} {envA : Env} {W1 : World} (A : Away l c' env' W cA envA W1) : ∀ o, ¬ cA.I l o := fun o x => by
  have hl : l < W.heap.size := (Array.getElem?_eq_some_iff.1 h.rcd).1
  rcases A.new l o x with y | y | y
  · exact h.il o y
  · exact (h.off l y).2 rfl
  · omega
theorem Held.rec_away (h : Held c r1 ρ0 bs ms tm0 tmps l rc O I W c' env') {cA : Ctx} {envA : Env} {W1 : World} (A : Away l c' env' W cA envA W1) : ¬ ownB cA envA l := fun x => by
  have hl : l < W.heap.size := (Array.getElem?_eq_some_iff.1 h.rcd).1
  rcases A.own l x with y | y
  · exact (h.off l y).2 rfl
  · omega

/-- The record is turned, and the round goes on. -/
theorem Held.mid (h : Held c r1 ρ0 bs ms tm0 tmps l rc O I W c' env') {cA : Ctx} {envA : Env} {aA : Act} {W1 : World} (hs : St cA envA aA W1) (A : Away l c' env' W cA envA W1) (hdf : aA.defers = []) (hfix : FixAll (roundRoot bs ms ρ0 l c'.I (ownB c' env') W) cA.ρ envA) (hys : envA.ys = none) (rc' : Loop) (hlt : l < W1.heap.size) :
    St { cA with w0 := roundRoot bs ms ρ0 l cA.I (ownB cA envA) (W1.putObj l (.loop rc')), I0 := cA.I, df := [] } envA aA (W1.putObj l (.loop rc')) := by
  have hil := h.il_away A
  have hrl := h.rec_away A
  have hsame : ∀ k, k ≠ l → (W1.putObj l (.loop rc')).heap[k]? = W1.heap[k]? := fun k hk => World.putObj_heap_other hk
  have hp := away_put (envA := envA) (W1 := W1) (.loop rc') hil
  have hm := hs.move (I' := cA.I) (I0' := cA.I) (w' := W1.putObj l (.loop rc')) (r' := roundRoot bs ms ρ0 l cA.I (ownB cA envA) (W1.putObj l (.loop rc'))) (ys' := none) (df' := []) (by simp) (fun k hk => hsame k fun e => hrl (e ▸ hk)) hp.keeps (fun _ _ x => .inl x) (fun b o x => by simpa using hs.im b o x)
    (fun k hk => ⟨fun x => x.2 hk, by simp [roundRoot]⟩)
    ⟨rfl, rfl, rfl, Nat.le_refl _, fun _ x => x.1, fun _ _ => rfl, fun _ x => (by cases x), List.nodup_nil, fun _ x => (by cases x), fun l' hl' => by
      have : l = l' := by simpa [roundRoot] using hl'
      subst this
      exact ⟨⟨by simpa using hlt, hrl⟩, _, World.putObj_heap_same hlt⟩⟩ (Keeps.refl _ _) (fun _ _ x => .inl x) rfl ⟨⟨rfl, rfl, rfl, rfl⟩, fixOf_ok.2 (fixOf_ok.1 hfix)⟩
  have e1 : ({ aA with defers := [] } : Act) = aA := by rw [← hdf]
  have e2 : ({ envA with ys := none } : Env) = envA := by rw [← hys]
  have := hm.1
  rw [e1, e2] at this
  exact this

/-- The round is over. -/
theorem Held.back (h : Held c r1 ρ0 bs ms tm0 tmps l rc O I W c' env') (htm : ∀ t d, look t tm0 = some d → ∃ d0, d = dstD d0) {cB c2 : Ctx} {envB env2 : Env} {aB : Act} {W2 : World} (A : Away l c' env' W cB envB W2) (hs2 : St c2 env2 aB W2)
    (hfix : FixAll (roundRoot bs ms ρ0 l c'.I (ownB c' env') W) cB.ρ envB) (hρ : c2.ρ = cB.ρ) (hI : c2.I = cB.I) (hbx : ∀ s, (look s env2.bx).isSome = true ↔ s ∈ bs) (hmp : ∀ s, (look s env2.mp).isSome = true ↔ s ∈ ms) (hown : ∀ k, ownB c2 env2 k → ownB cB envB k) (rc' : Loop) :
    ItBack O I W (W2.putObj l (.loop rc')) ∧ ∃ c3, Held c r1 ρ0 bs ms tm0 tmps l rc' O I (W2.putObj l (.loop rc')) c3 { env2 with nt := tmps.size, tm := [], wt := [] } := by
  have hil := h.il_away A
  have hrl := h.rec_away A
  have B := A.trans (away_put (.loop rc') hil)
  have hl : l < W.heap.size := (Array.getElem?_eq_some_iff.1 h.rcd).1
  have hl2 : l < W2.heap.size := Nat.lt_of_lt_of_le hl A.size
  have hsame : ∀ k, k ≠ l → (W2.putObj l (.loop rc')).heap[k]? = W2.heap[k]? := fun k hk => World.putObj_heap_other hk
  refine ⟨⟨B.os, B.tape, B.output, B.size, fun k hk => B.same k (h.oo k hk).2.2.2 (h.oo k hk).2.2.1 (h.oo k hk).2.1, fun _ _ x => x, fun ad u hi hu => B.keeps.cell ad u (h.sub _ _ hi) hu, fun r es k hi hr => B.keeps.map r es k (h.sub _ _ hi) hr⟩, ?_⟩
  have h3 := hs2.tmps (tm' := []) (ts := tmps) (fun t d hd => by simp [look] at hd)
  have hm := h3.move (I' := c2.I) (I0' := c2.I) (w' := W2.putObj l (.loop rc')) (r' := Root.free (W2.putObj l (.loop rc'))) (ys' := env2.ys) (df' := []) (by simp) (fun k hk => hsame k fun e => hrl (hown l (e ▸ hk))) (by rw [hI]; exact (away_put (envA := envB) (.loop rc') hil).keeps) (fun _ _ x => .inl x) (fun b o x => by simpa using hs2.im b o x)
    (fun k _ => Root.free_off _ k) (Root.free_base _) (Keeps.refl _ _) (fun _ _ x => .inl x) rfl ⟨trivial, Root.free_fix _ _ _⟩
  obtain ⟨f1, f2⟩ := fixOf_ok.1 hfix
  have hrho : ∀ s, s ∈ bs ∨ s ∈ ms → c2.ρ s = ρ0 s := fun s hs => by rw [hρ]; exact hs.elim (fun x => (f1 s x).2) fun x => (f2 s x).2
  have hK : Keeps c'.I c2.I W (W2.putObj l (.loop rc')) := by rw [hI]; exact B.keeps
  refine ⟨{ c2 with I := c2.I, w0 := Root.free (W2.putObj l (.loop rc')), I0 := c2.I, df := [] }, { st := hm.1, tm := fun t d hd => ?_, base := h.base.trans ⟨B.os, B.tape, B.output, B.size, fun k hk => B.same k (h.base.below_of hk) (fun x => hk (h.off k x).1) (fun e => hk (e ▸ h.rl))⟩, im0 := h.im0.trans hK, new := ?_, off := ?_, bx := hbx, mp := hmp, rho := hrho, rcd := World.putObj_heap_same hl2, rl := h.rl, il := ?_, sub := ?_, own := ?_, oo := ?_ }⟩
  · obtain ⟨d0, rfl⟩ := htm t d hd
    refine dstD_move (c := c') (env := env') (w := W) (c' := { c2 with I := c2.I, w0 := Root.free (W2.putObj l (.loop rc')), I0 := c2.I, df := [] }) (env' := { env2 with nt := tmps.size, tm := [], wt := [] }) (w' := W2.putObj l (.loop rc')) hK (fun s x => ?_) (fun s x => ?_) (h.tm t _ hd)
    · have := (h.bx s).1 x
      exact ⟨(hbx s).2 this, (hrho s (.inl this)).trans (h.rho s (.inl this)).symm⟩
    · have := (h.mp s).1 x
      exact ⟨(hmp s).2 this, (hrho s (.inr this)).trans (h.rho s (.inr this)).symm⟩
  · intro b o x
    rcases A.new b o (by rw [← hI]; exact x) with y | y | y
    · exact h.new b o y
    · exact .inr (h.off b y).1
    · exact .inr (h.base.new y)
  · intro k x
    rcases A.own k (hown k x) with y | y
    · exact h.off k y
    · exact ⟨h.base.new y, by omega⟩
  · intro o x; exact hil o (by rw [← hI]; exact x)
  · intro b o x; show c2.I b o; rw [hI]; exact A.keeps.im b o (h.sub b o x)
  · intro b o x y
    rcases A.new b o (by rw [← hI]; exact x) with z | z | z
    · exact h.own b o z y
    · exact absurd z (h.oo b y).2.2.1
    · have := (h.oo b y).2.2.2; omega
  · intro k x
    refine ⟨(h.oo k x).1, (h.oo k x).2.1, fun y => ?_, Nat.lt_of_lt_of_le (h.oo k x).2.2.2 B.size⟩
    rcases A.own k (hown k y) with z | z
    · exact (h.oo k x).2.2.1 z
    · have := (h.oo k x).2.2.2; omega

theorem away_same {cA : Ctx} {envA : Env} {aA : Act} {W1 : World} (hs : St cA envA aA W1) (hG : cA.w0.G = (roundRoot bs ms ρ0 l c'.I (ownB c' env') W).G) {k : Nat} (hk : k < W.heap.size) (ho : ¬ ownB c' env' k) : W1.heap[k]? = W.heap[k]? := by
  have hg := hs.gh.1
  rw [hG] at hg
  obtain ⟨_, h2, h3, h4⟩ := hg
  have := hs.base.block k (by rw [h2]; exact ⟨hk, ho⟩)
  rw [h3] at this; exact this

/-- Behind the loop. -/
theorem Held.final (h : Held c r1 ρ0 bs ms tm0 tmps l rc O I W c' env') {ys : Option (Nat × List (List D))} {df : List Deferred} (o : Obj) (hdf : df = r1.mks.map markOf) (hG : r1.G ys r1.far r1.wd c.I0) (hwd : r1.wd = c.w0.wd) (hfix : FixAll r1 c'.ρ env') :
    St { c' with w0 := r1, I0 := c.I0, df := df } { env' with nt := tmps.size, tm := tm0, wt := [], ys := ys } { tmps := tmps, defers := df } (W.putObj l o) := by
  have h3 := h.st.tmps (tm' := tm0) (ts := tmps) h.tm
  have hsame : ∀ k, k ≠ l → (W.putObj l o).heap[k]? = W.heap[k]? := fun k hk => World.putObj_heap_other hk
  have hK : Keeps c'.I c'.I W (W.putObj l o) := (away_put (envA := env') o h.il).keeps
  exact (h3.move (I' := c'.I) (I0' := c.I0) (w' := W.putObj l o) (r' := r1) (ys' := ys) (df' := df) (by simp) (fun k hk => hsame k (h.off k hk).2) hK (fun _ _ x => .inl x) (fun b o x => by simpa using h.st.im b o x) (fun k hk => (h.off k hk).1)
    (h.base.trans ⟨rfl, rfl, rfl, by simp, fun k hk => hsame k fun e => hk (e ▸ h.rl)⟩) (by rw [hwd]; exact h.im0.trans hK) h.new hdf ⟨hG, hfix⟩).1

end
end Go.Proofs.Ytndijidmabfhcaa.Fw
