/- The state of a function that reads as given data: what is asked of it, and how steps of the machine keep it. -/
import Derived.Test.YtndijidmabfhcaaFwB
namespace Go.Proofs.Ytndijidmabfhcaa.Fw
open Go Go.RowKit

/-- Names of blocks: of local variables and maps; of rows that are appended to; what changes no more; where the function began. -/
structure Root where
  wd : World
  far : Nat → Prop
  mks : List Nat
  lp : Option Nat
  fix : Bool → Nat → Option Nat
  G : Option (Nat × List (List D)) → (Nat → Prop) → World → Im → Prop
/-- A block that the function may have for its own. -/
def Root.off (r : Root) (k : Nat) : Prop := ¬ r.far k ∧ k ∉ r.mks
def Root.plain (w : World) : Root := ⟨w, fun k => k < w.heap.size, [], none, fun _ _ => none, fun _ _ _ _ => True⟩
def markOf (k : Nat) : Deferred := { target := .collected k, args := #[] }

structure Ctx where
  ρ : Nat → Nat
  σ : Nat → Option Nat
  I : Im
  w0 : Root
  I0 : Im
  df : List Deferred

def All2 {α β : Type} (R : α → β → Prop) : List α → List β → Prop
  | [], [] => True
  | a :: as, b :: bs => R a b ∧ All2 R as bs
  | _, _ => False

theorem All2.length {α β : Type} {R : α → β → Prop} : ∀ {as : List α} {bs : List β}, All2 R as bs → as.length = bs.length
  | [], [], _ => rfl
  | _ :: _, _ :: _, h => by simp [All2.length h.2]
  | [], _ :: _, h => h.elim
  | _ :: _, [], h => h.elim
theorem All2.mono {α β : Type} {R S : α → β → Prop} (hrs : ∀ a b, R a b → S a b) : ∀ {as : List α} {bs : List β}, All2 R as bs → All2 S as bs
  | [], [], _ => trivial
  | _ :: _, _ :: _, h => ⟨hrs _ _ h.1, All2.mono hrs h.2⟩
  | [], _ :: _, h => h.elim
  | _ :: _, [], h => h.elim
theorem All2.get {α β : Type} {R : α → β → Prop} : ∀ {as : List α} {bs : List β}, All2 R as bs → ∀ (i : Nat) (a : α), as[i]? = some a → ∃ b, bs[i]? = some b ∧ R a b
  | [], [], _, i, a, h => by simp at h
  | a' :: _, b' :: _, h, 0, a, e => by simp at e; subst e; exact ⟨b', rfl, h.1⟩
  | _ :: _, _ :: _, h, i + 1, a, e => by simpa using All2.get h.2 i a (by simpa using e)
  | [], _ :: _, h, _, _, _ => h.elim
  | _ :: _, [], h, _, _, _ => h.elim
theorem All2.append {α β : Type} {R : α → β → Prop} : ∀ {as : List α} {bs : List β} {as' : List α} {bs' : List β}, All2 R as bs → All2 R as' bs' → All2 R (as ++ as') (bs ++ bs')
  | [], [], _, _, _, h' => h'
  | _ :: _, _ :: _, _, _, h, h' => ⟨h.1, All2.append h.2 h'⟩
  | [], _ :: _, _, _, h, _ => h.elim
  | _ :: _, [], _, _, h, _ => h.elim
theorem All2.take {α β : Type} {R : α → β → Prop} : ∀ (n : Nat) {as : List α} {bs : List β}, All2 R as bs → All2 R (as.take n) (bs.take n)
  | 0, _, _, _ => trivial
  | _ + 1, [], [], _ => trivial
  | n + 1, _ :: _, _ :: _, h => ⟨h.1, All2.take n h.2⟩
  | _ + 1, [], _ :: _, h => h.elim
  | _ + 1, _ :: _, [], h => h.elim
theorem All2.drop {α β : Type} {R : α → β → Prop} : ∀ (n : Nat) {as : List α} {bs : List β}, All2 R as bs → All2 R (as.drop n) (bs.drop n)
  | 0, _, _, h => h
  | _ + 1, [], [], _ => trivial
  | n + 1, _ :: _, _ :: _, h => All2.drop n h.2
  | _ + 1, [], _ :: _, h => h.elim
  | _ + 1, _ :: _, [], h => h.elim
theorem all2_repL {I : Im} {w : World} : ∀ {ds : List D} {vs : List Value}, RepL I w ds vs ↔ All2 (Rep I w) ds vs
  | [], [] => by simp [RepL, All2]
  | [], _ :: _ => by simp [RepL, All2]
  | _ :: _, [] => by simp [RepL, All2]
  | d :: ds, v :: vs => by
    simp only [RepL, All2, List.cons.injEq]
    constructor
    · rintro ⟨v', us, ⟨rfl, rfl⟩, h1, h2⟩; exact ⟨h1, all2_repL.1 h2⟩
    · rintro ⟨h1, h2⟩; exact ⟨v, vs, ⟨rfl, rfl⟩, h1, all2_repL.2 h2⟩

def Env.live (env : Env) (st : Nat) : Prop := (look st env.us).isSome = true ∧ st ∉ env.dd
def Env.blk (env : Env) (s : Nat) : Prop := (look s env.bx).isSome = true ∨ (look s env.mp).isSome = true

/-- The slice is one that may be appended to: nil, or a row whose cells behind it nobody has. -/
def OwnC (c : Ctx) (env : Env) (w : World) (st es n : Nat) (v : Value) : Prop :=
  st = 0 ∨ (st = 1 ∧ v = .slice none 0 0) ∨ (2 ≤ st ∧ ∃ u, look st env.us = some u ∧ (st ∈ env.dd ∨
    match c.σ st with
    | none => v = .slice none 0 0
    | some g => ∃ cap cur, v = .slice (some ⟨g, 0, none⟩) n cap ∧ w.heap[g]? = some (.cells cur u (0, 0)) ∧ cur.size = cap * es ∧ cap ≤ maxLen ∧ n ≤ cap ∧ ∀ o, n * es ≤ o → ¬ c.I g o))

/-- One cell's value. -/
def RepC (c : Ctx) (env : Env) (w : World) (d : D) (v : Value) : Prop :=
  match d with
  | .loc s off => (look s env.bx).isSome = true ∧ v = .pointer (some ⟨c.ρ s, off, none⟩)
  | .lsl s off n => (look s env.bx).isSome = true ∧ ∃ cap, v = .slice (some ⟨c.ρ s, off, none⟩) n cap ∧ n ≤ cap
  | .mapr s => (look s env.mp).isSome = true ∧ v = .map (some (c.ρ s))
  | .sl st es xs => Rep c.I w (.sl 0 es xs) v ∧ OwnC c env w st es xs.length v
  | .agg _ => False
  | .tup _ => False
  | d => Rep c.I w d v

def RepV (c : Ctx) (env : Env) (w : World) (d : D) (v : Value) : Prop :=
  match d with
  | .agg cs => ∃ vs : List Value, v = .agg ⟨vs⟩ ∧ All2 (RepC c env w) cs vs
  | d => RepC c env w d v

def RepT (c : Ctx) (env : Env) (w : World) (d : D) (v : Value) : Prop :=
  match d with
  | .tup ds => ∃ vs : List Value, v = .tuple ⟨vs⟩ ∧ All2 (RepV c env w) ds vs
  | .undef => True
  | d => RepV c env w d v

def RepW (c : Ctx) (env : Env) (w : World) (tmps : Array Value) (d : D) (v : Value) : Prop :=
  match d with
  | .wh s b d => (tmps.getD s undef = .bool b → RepT c env w d v) ∧ (tmps.getD s undef ≠ .bool b → v = undef)
  | _ => False

def BoxOK (c : Ctx) (env : Env) (w : World) (s : Nat) (b : BoxC) : Prop :=
  ∃ (vs : List Value) (e : TypeId), w.heap[c.ρ s]? = some (.cells ⟨vs⟩ e (0, 0)) ∧ All2 (RepC c env w) b.cells vs ∧
    (b.frozen = true → ∀ o, o < vs.length → c.I (c.ρ s) o) ∧ (b.frozen = false → ∀ o, ¬ c.I (c.ρ s) o)
def MapOK (c : Ctx) (w : World) (s : Nat) (m : MapC) : Prop :=
  ∃ (es : Array MapEntry) (clock : Nat), w.heap[c.ρ s]? = some (.map es clock) ∧ RepL c.I w m.ks (es.toList.map (·.key)) ∧ RepL c.I w m.vs (es.toList.map (·.val)) ∧ m.vs.all D.isVal = true ∧
    (m.frozen = true → c.I (c.ρ s) 0) ∧ (m.frozen = false → ∀ o, ¬ c.I (c.ρ s) o)

/-- What has not changed since the root's world. -/
structure BaseF (r : Root) (w : World) : Prop where
  os : w.os = r.wd.os
  tape : w.tape = r.wd.tape
  output : w.output = r.wd.output
  grow : r.wd.heap.size ≤ w.heap.size
  lt : ∀ k, r.far k → k < r.wd.heap.size
  block : ∀ k, r.far k → w.heap[k]? = r.wd.heap[k]?
  marks : ∀ k ∈ r.mks, w.heap[k]? = some (.deferred (some []))
  nodup : r.mks.Nodup
  disj : ∀ k ∈ r.mks, ¬ r.far k
  loop : ∀ l, r.lp = some l → r.far l ∧ ∃ x, w.heap[l]? = some (.loop x)
structure KeptF (r : Root) (w w' : World) : Prop where
  os : w'.os = w.os
  tape : w'.tape = w.tape
  output : w'.output = w.output
  size : w.heap.size ≤ w'.heap.size
  block : ∀ k, ¬ r.off k → w'.heap[k]? = w.heap[k]?

theorem off_of_far {r : Root} {k : Nat} (h : r.far k) : ¬ r.off k := fun x => x.1 h
theorem off_of_mk {r : Root} {k : Nat} (h : k ∈ r.mks) : ¬ r.off k := fun x => x.2 h
theorem BaseF.below_of {r : Root} {w : World} (h : BaseF r w) {k : Nat} (hk : ¬ r.off k) : k < w.heap.size := by
  by_cases hf : r.far k
  · exact Nat.lt_of_lt_of_le (h.lt k hf) h.grow
  · by_cases hm : k ∈ r.mks
    · exact (Array.getElem?_eq_some_iff.1 (h.marks k hm)).1
    · exact absurd ⟨hf, hm⟩ hk
theorem BaseF.new {r : Root} {w : World} (h : BaseF r w) {k : Nat} (hk : w.heap.size ≤ k) : r.off k :=
  ⟨fun hf => absurd (h.below_of (off_of_far hf)) (by omega), fun hm => absurd (h.below_of (off_of_mk hm)) (by omega)⟩
theorem BaseF.size {r : Root} {w : World} (h : BaseF r w) : r.off w.heap.size := h.new (Nat.le_refl _)
theorem BaseF.trans {r : Root} {w w' : World} (h : BaseF r w) (k : KeptF r w w') : BaseF r w' :=
  ⟨k.os.trans h.os, k.tape.trans h.tape, k.output.trans h.output, Nat.le_trans h.grow k.size, h.lt, fun i hi => (k.block i (off_of_far hi)).trans (h.block i hi), fun i hi => (k.block i (off_of_mk hi)).trans (h.marks i hi), h.nodup, h.disj,
    fun l hl => ⟨(h.loop l hl).1, by rw [k.block l (off_of_far (h.loop l hl).1)]; exact (h.loop l hl).2⟩⟩
theorem BaseF.below {r : Root} {w w' : World} (h : BaseF r w) (hb : Below w.heap.size w w') : BaseF r w' :=
  h.trans ⟨hb.os, hb.tape, hb.output, hb.size, fun k hk => hb.block k (h.below_of hk)⟩
theorem BaseF.alloc {r : Root} {w : World} (h : BaseF r w) (_ : r.off w.heap.size) (o : Obj) : BaseF r (w.alloc o) := h.below ((Below.refl _ w).alloc (Nat.le_refl _) o)
theorem BaseF.drew {r : Root} {w : World} (h : BaseF r w) : BaseF r w.drew := h.below (Below.refl _ w).drew

/-- Variables, and maps, that stay where they are. -/
def FixAll (r : Root) (ρ : Nat → Nat) (env : Env) : Prop :=
  ∀ k s b, r.fix k s = some b → (match k with | true => (look s env.bx).isSome = true | false => (look s env.mp).isSome = true) ∧ ρ s = b

structure St (c : Ctx) (env : Env) (a : Act) (w : World) : Prop where
  nt : a.tmps.size = env.nt
  df : a.defers = c.df ∧ c.df = c.w0.mks.map markOf
  tm : ∀ t d, look t env.tm = some d → RepT c env w d (a.tmps.getD t undef)
  wt : ∀ t d, look t env.wt = some d → RepW c env w a.tmps d (a.tmps.getD t undef)
  bx : ∀ s b, look s env.bx = some b → BoxOK c env w s b
  mp : ∀ s m, look s env.mp = some m → MapOK c w s m
  inj : ∀ s s', env.blk s → env.blk s' → c.ρ s = c.ρ s' → s = s'
  above : ∀ s, env.blk s → c.w0.off (c.ρ s)
  lt : ∀ s, env.blk s → c.ρ s < w.heap.size
  ownInj : ∀ st st' g, env.live st → env.live st' → c.σ st = some g → c.σ st' = some g → st = st'
  ownAbove : ∀ st g, env.live st → c.σ st = some g → c.w0.off g ∧ g < w.heap.size ∧ ∀ s, env.blk s → c.ρ s ≠ g
  im : ∀ b o, c.I b o → b < w.heap.size
  im0 : Keeps c.I0 c.I c.w0.wd w
  imNew : ∀ b o, c.I b o → c.I0 b o ∨ c.w0.off b
  base : BaseF c.w0 w
  gh : c.w0.G env.ys c.w0.far c.w0.wd c.I0 ∧ FixAll c.w0 c.ρ env

/-- A step that keeps what is known of cells' values. -/
structure Step (c : Ctx) (env : Env) (w : World) (c' : Ctx) (env' : Env) (w' : World) : Prop where
  keeps : Keeps c.I c'.I w w'
  bx : ∀ s, (look s env.bx).isSome = true → (look s env'.bx).isSome = true ∧ c'.ρ s = c.ρ s
  mp : ∀ s, (look s env.mp).isSome = true → (look s env'.mp).isSome = true ∧ c'.ρ s = c.ρ s
  us : ∀ st u, look st env.us = some u → look st env'.us = some u
  dd : ∀ st, st ∈ env.dd → st ∈ env'.dd
  own : ∀ st, env.live st → st ∉ env'.dd → c'.σ st = c.σ st ∧ ∀ g, c.σ st = some g → w'.heap[g]? = w.heap[g]? ∧ ∀ o, c'.I g o → c.I g o

section
variable {c c' : Ctx} {env env' : Env} {w w' : World} (S : Step c env w c' env' w')
include S
theorem Step.fix {r : Root} (h : FixAll r c.ρ env) : FixAll r c'.ρ env' := fun k s b hs => by
  obtain ⟨h1, h2⟩ := h k s b hs
  cases k with
  | true => exact ⟨(S.bx s h1).1, (S.bx s h1).2.trans h2⟩
  | false => exact ⟨(S.mp s h1).1, (S.mp s h1).2.trans h2⟩
theorem Step.ownC {st es n : Nat} {v : Value} (h : OwnC c env w st es n v) : OwnC c' env' w' st es n v := by
  rcases h with h | h | ⟨h2, u, hu, h⟩
  · exact .inl h
  · exact .inr (.inl h)
  · refine .inr (.inr ⟨h2, u, S.us st u hu, ?_⟩)
    by_cases hd' : st ∈ env'.dd
    · exact .inl hd'
    · rcases h with h | h
      · exact .inl (S.dd st h)
      · right
        by_cases hd : st ∈ env.dd
        · exact absurd (S.dd st hd) hd'
        obtain ⟨e, hg⟩ := S.own st ⟨by rw [hu]; rfl, hd⟩ hd'
        rw [e]
        cases hs : c.σ st with
        | none => rw [hs] at h; exact h
        | some g =>
          rw [hs] at h
          obtain ⟨cap, cur, hv, hh, hsz, hm, hn, hI⟩ := h
          obtain ⟨h1, h2⟩ := hg g hs
          exact ⟨cap, cur, hv, h1.trans hh, hsz, hm, hn, fun o ho hi => hI o ho (h2 o hi)⟩
theorem Step.repC {d : D} {v : Value} (h : RepC c env w d v) : RepC c' env' w' d v := by
  cases d with
  | loc s off => exact ⟨(S.bx s h.1).1, by rw [(S.bx s h.1).2]; exact h.2⟩
  | lsl s off n => exact ⟨(S.bx s h.1).1, by rw [(S.bx s h.1).2]; exact h.2⟩
  | mapr s => exact ⟨(S.mp s h.1).1, by rw [(S.mp s h.1).2]; exact h.2⟩
  | sl st es xs => exact ⟨Rep.keeps S.keeps _ _ h.1, S.ownC h.2⟩
  | agg cs => exact h.elim
  | tup cs => exact h.elim
  | _ => exact Rep.keeps S.keeps _ _ h
theorem Step.repV {d : D} {v : Value} (h : RepV c env w d v) : RepV c' env' w' d v := by
  cases d with
  | agg cs => obtain ⟨vs, e, h⟩ := h; exact ⟨vs, e, h.mono fun _ _ => S.repC⟩
  | _ => simp only [RepV] at h ⊢; exact S.repC h
theorem Step.repT {d : D} {v : Value} (h : RepT c env w d v) : RepT c' env' w' d v := by
  cases d with
  | tup ds => obtain ⟨vs, e, h⟩ := h; exact ⟨vs, e, h.mono fun _ _ => S.repV⟩
  | undef => trivial
  | _ => simp only [RepT] at h ⊢; exact S.repV h
end

theorem Step.trans {c c' c'' : Ctx} {env env' env'' : Env} {w w' w'' : World} (h : Step c env w c' env' w') (k : Step c' env' w' c'' env'' w'') : Step c env w c'' env'' w'' := by
  refine ⟨h.keeps.trans k.keeps, fun s hs => ?_, fun s hs => ?_, fun st u hs => k.us st u (h.us st u hs), fun st hs => k.dd st (h.dd st hs), fun st hl hn => ?_⟩
  · obtain ⟨h1, h2⟩ := h.bx s hs; obtain ⟨k1, k2⟩ := k.bx s h1; exact ⟨k1, k2.trans h2⟩
  · obtain ⟨h1, h2⟩ := h.mp s hs; obtain ⟨k1, k2⟩ := k.mp s h1; exact ⟨k1, k2.trans h2⟩
  · have hn' : st ∉ env'.dd := fun e => hn (k.dd st e)
    obtain ⟨h1, h2⟩ := h.own st hl hn'
    have hl' : env'.live st := ⟨by
      cases hu : look st env.us with
      | none => have := hl.1; rw [hu] at this; cases this
      | some u => rw [h.us st u hu]; rfl, hn'⟩
    obtain ⟨k1, k2⟩ := k.own st hl' hn
    refine ⟨k1.trans h1, fun g hg => ?_⟩
    obtain ⟨h3, h4⟩ := h2 g hg
    obtain ⟨k3, k4⟩ := k2 g (h1.trans hg)
    exact ⟨k3.trans h3, fun o ho => h4 o (k4 o ho)⟩

theorem Step.refl (c : Ctx) (env : Env) (w : World) : Step c env w c env w :=
  ⟨Keeps.refl _ _, fun _ h => ⟨h, rfl⟩, fun _ h => ⟨h, rfl⟩, fun _ _ h => h, fun _ h => h, fun _ _ _ => ⟨rfl, fun _ _ => ⟨rfl, fun _ h => h⟩⟩⟩

end Go.Proofs.Ytndijidmabfhcaa.Fw
