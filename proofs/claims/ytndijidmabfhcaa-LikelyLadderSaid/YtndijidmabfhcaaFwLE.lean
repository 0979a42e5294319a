/- LikelyLadder: its walk. -/
import Derived.Test.YtndijidmabfhcaaFwLD
namespace Go.Proofs.Ytndijidmabfhcaa.Fw
open Go Go.RowKit
set_option maxRecDepth 100000
set_option maxHeartbeats 4000000

theorem seqEv_at {B : Env → (Exit → Env → Prop) → Prop} {ps : List Nat} {nt0 : Nat} {tm0 : List (Nat × D)} {bs ms : List Nat} {ys : Option (Nat × List (List D))} {xs : List (List D)} {env : Env} {Q : Exit → Env → Prop} (k : Nat) (h : seqEv B ps nt0 tm0 bs ms ys xs { env with nt := k, tm := [], wt := [] } Q) : seqEv B ps nt0 tm0 bs ms ys xs env Q := by
  cases xs <;> exact h
theorem seq_rule {B : Env → (Exit → Env → Prop) → Prop} {ps : List Nat} {nt0 : Nat} {tm0 : List (Nat × D)} {bs ms : List Nat} {ys : Option (Nat × List (List D))} {Q : Exit → Env → Prop} {σ α : Type} (enc : α → List D) (E : σ → Env) (I : σ → List α → Prop)
    (nil : ∀ s, I s [] → seqEv B ps nt0 tm0 bs ms ys [] (E s) Q) (cons : ∀ s x xs, I s (x :: xs) → (∀ s', I s' xs → seqEv B ps nt0 tm0 bs ms ys (xs.map enc) (E s') Q) → seqEv B ps nt0 tm0 bs ms ys (enc x :: xs.map enc) (E s) Q) :
    ∀ xs s, I s xs → seqEv B ps nt0 tm0 bs ms ys (xs.map enc) (E s) Q
  | [], s, h => nil s h
  | x :: xs, s, h => cons s x xs h fun s' h' => seq_rule enc E I nil cons xs s' h'

def rowBad (t : Tg) (x : R3) : Bool := bif bif bif x.a != t.l then bif x.a != [117, 110, 100] then true else x.b == [] else false then true else bif x.b != [] then x.b != t.s else false then true else bif x.c != [] then x.c != t.r else false
theorem run5 (q : D) (many : Int) (t : Tg) (rows : List R3) (k : Nat) (hq : ∃ a b c, q = .agg [.int .i64 a, .int .i64 b, .int .i64 c]) (hok : ∀ x ∈ rows, rowBad t x = false) (hnd : rows.Nodup) (h5 : rows.length ≤ 5) (h0 : (rows.length = 0) ↔ t.l = []) (h22 : CallsTo Try.prog 22 [] (.bool true)) (h23 : CallsTo Try.prog 23 [q] t.d) (h52 : IterTo Try.prog 52 [.eptr t.d 0] (rows.map fun x => [x.d])) (h25 : CallsTo Try.prog 25 [.int .i64 many, .int .i64 6] (.int .i64 (k : Int))) :
    Runs Try.prog T 100 (Try.f5.body.getD .skip) Try.f5.results.toList [q, .int .i64 many] (.bool true) := by
  obtain ⟨a, b, c, rfl⟩ := hq
  have fin : ∀ g : Nat, (g = rows.length ∧ g ≤ k ∨ g = k ∧ g ≤ rows.length) → (bif bif bif true then ((g : Int) == if (rows.length : Int) < (k : Int) then (rows.length : Int) else (k : Int)) else false then (((rows.length : Int) == 0) == (t.l == [])) else false then decide ((rows.length : Int) ≤ 5) else false) = true := by
    intro g hg
    have e1 : ((g : Int) == if (rows.length : Int) < (k : Int) then (rows.length : Int) else (k : Int)) = true := by
      rw [beq_iff_eq]; split <;> omega
    have e2 : (((rows.length : Int) == 0) == (t.l == [])) = true := by
      by_cases e : t.l = []
      · have := h0.2 e
        simp [e, this]
      · have : rows.length ≠ 0 := fun x => e (h0.1 x)
        have h1 : ((rows.length : Int) == 0) = false := by simpa using fun x => this (by simp [x])
        have h2 : (t.l == []) = false := by simpa using e
        rw [h1, h2]; rfl
    have e3 : decide ((rows.length : Int) ≤ 5) = true := decide_eq_true (by omega)
    rw [e1, e2, e3]; rfl
  refine ⟨Nat.le_of_ble_eq_true rfl, ?_⟩
  conv => whnf
  refine ⟨_, fun _ => h22, ?_⟩
  conv => whnf
  refine ⟨_, fun _ => h23, ?_⟩
  conv => whnf
  refine ⟨_, fun _ => call24 t, ?_⟩
  conv => whnf
  refine ⟨_, h52, ?_⟩
  refine seqEv_at 0 ?_
  refine seq_rule (σ := List R3 × Nat) (α := R3) (fun x => [x.d]) (fun q => ⟨0, [], [], [(2, ⟨[.int .i64 a, .int .i64 b, .int .i64 c], true, false⟩), (4, ⟨[.bool false], false, false⟩), (6, ⟨[.str t.l, .sl 0 1 t.ex, .str t.s, .str t.r, .sl 0 1 t.va, .sl 0 2 t.xt, .sl 0 1 t.pv, .str t.g], true, false⟩), (8, ⟨[.mapr 20], false, false⟩), (9, ⟨[.int .i64 (q.2 : Int)], false, false⟩)], [(20, ⟨q.1.map R3.d, q.1.map fun _ => .bool true, false⟩)], [], [], none⟩) (fun q rest => q.2 + rest.length = rows.length ∧ (∀ x ∈ rest, q.1.contains x = false ∧ rowBad t x = false) ∧ rest.Nodup) ?_ ?_ rows ([], 0) ⟨by simp, fun x hx => ⟨rfl, hok x hx⟩, hnd⟩
  · rintro ⟨L, n⟩ ⟨hn, _, _⟩
    replace hn : n = rows.length := by simpa using hn
    subst hn
    conv => whnf
    refine ⟨_, fun _ => h25, ?_⟩
    conv => whnf
    refine ⟨_, h52, ?_⟩
    refine seqEv_at 0 ?_
    refine seq_rule (σ := Nat) (α := R3) (fun x => [x.d]) (fun g => ⟨0, [], [], [(9, ⟨[.int .i64 (rows.length : Int)], false, false⟩), (8, ⟨[.mapr 20], false, false⟩), (6, ⟨[.str t.l, .sl 0 1 t.ex, .str t.s, .str t.r, .sl 0 1 t.va, .sl 0 2 t.xt, .sl 0 1 t.pv, .str t.g], true, false⟩), (4, ⟨[.bool false], false, false⟩), (2, ⟨[.int .i64 a, .int .i64 b, .int .i64 c], true, false⟩), (11, ⟨[.int .i64 (k : Int)], false, false⟩), (12, ⟨[.int .i64 (g : Int)], false, false⟩)], [(20, ⟨L.map R3.d, L.map fun _ => .bool true, false⟩)], [], [], none⟩) (fun g rest => g + rest.length = rows.length ∧ g ≤ k) ?_ ?_ rows 0 ⟨by simp, Nat.zero_le _⟩
    · rintro g ⟨hg, hk⟩
      replace hg : g = rows.length := by simpa using hg
      conv => whnf
      exact ⟨rfl, congrArg D.bool (fin g (.inl ⟨hg, hk⟩))⟩
    · rintro g x xs ⟨hg, hk⟩ ih
      replace hg : g + (xs.length + 1) = rows.length := hg
      conv => whnf
      refine ifB_intro (fun hb => ?_) (fun hb => ?_)
      · have hgk : g = k := Int.ofNat.inj (show (g : Int) = (k : Int) by simpa using hb)
        conv => whnf
        exact ⟨rfl, congrArg D.bool (fin g (.inr ⟨hgk, by omega⟩))⟩
      · have hgk : g ≠ k := by intro e; subst e; simp at hb
        have ih' := ih (g + 1) ⟨by omega, by omega⟩
        conv => whnf
        have hw : IntKind.i64.wrap ((g : Int) + 1) = ((g + 1 : Nat) : Int) := by rw [IntKind.wrap_i64]; omega
        rw [hw]
        exact seqEv_tm 100 ih'
  · rintro ⟨L, n⟩ x xs ⟨hn, hx, hnd⟩ ih
    replace hn : n + (xs.length + 1) = rows.length := hn
    obtain ⟨hL, hok⟩ := hx x (by simp)
    replace hL : L.contains x = false := hL
    have fits : keysFit T 22 x.d (L.map R3.d) = true := keysFit_enc r3Enc x L
    have look : findD x.d (L.map R3.d) (L.map fun _ => .bool true) = none := by rw [findD_set r3Enc, hL]; rfl
    have ih' := ih (insS x L, n + 1) ⟨by show n + 1 + xs.length = rows.length; omega, fun y hy => ⟨?_, (hx y (by simp [hy])).2⟩, (List.nodup_cons.1 hnd).2⟩
    conv => whnf
    refine sideB_intro (fun _ => fits) ?_
    conv => whnf
    refine fO_of look ?_
    conv => whnf
    refine ifB_intro (fun hb => ?_) (fun hb => ?_)
    · exact Bool.noConfusion (Eq.trans hb.symm hok)
    · conv => whnf
      refine ⟨fits, ?_⟩
      conv => whnf
      have e : putD (.agg [.str x.a, .str x.b, .str x.c]) (.bool true) (L.map R3.d) (L.map fun _ => .bool true) = ((insS x L).map R3.d, (insS x L).map fun _ => .bool true) := putD_set r3Enc _ x L
      have hw : IntKind.i64.wrap ((n : Int) + 1) = ((n + 1 : Nat) : Int) := by rw [IntKind.wrap_i64]; omega
      rw [e, hw]
      exact seqEv_tm 100 ih'
    · have hm : y ∉ L := fun h => by
        have := (hx y (by simp [hy])).1
        replace this : L.contains y = false := this
        simp [h] at this
      have hne : y ≠ x := fun e => (List.nodup_cons.1 hnd).1 (e ▸ hy)
      show (insS x L).contains y = false
      cases hc : (insS x L).contains y with
      | false => rfl
      | true =>
        have := mem_insS.1 (by simpa using hc)
        exact absurd this (by simp [hne, hm])

theorem ladGo_sub {lang : S8} : ∀ {xs there : List R3} {x : R3}, x ∈ ladGo lang there xs → x ∈ xs ∧ there.contains x = false ∧ (x.a = lang ∨ x.b ≠ [])
  | [], there, x, h => by simp [ladGo] at h
  | y :: ys, there, x, h => by
    rw [ladGo] at h
    cases hc : (bif there.contains y then true else bif y.a != lang then y.b == [] else false) with
    | true =>
      rw [hc] at h
      obtain ⟨h1, h2, h3⟩ := ladGo_sub h
      exact ⟨List.mem_cons_of_mem _ h1, h2, h3⟩
    | false =>
      rw [hc, cond_false] at h
      have hy : there.contains y = false := by
        cases hy : there.contains y with
        | true => rw [hy] at hc; cases hc
        | false => rfl
      rcases List.mem_cons.1 h with rfl | h
      · refine ⟨by simp, hy, ?_⟩
        rw [hy] at hc
        by_cases e : x.a = lang
        · exact .inl e
        · right
          intro eb
          simp [e, eb] at hc
      · obtain ⟨h1, h2, h3⟩ := ladGo_sub h
        refine ⟨List.mem_cons_of_mem _ h1, ?_, h3⟩
        cases hx : there.contains x with
        | false => rfl
        | true =>
          have : x ∈ insS y there := mem_insS.2 (.inr (by simpa using hx))
          have h2' : (insS y there).contains x = true := by simpa using this
          rw [h2'] at h2; cases h2
theorem ladGo_nodup {lang : S8} : ∀ {xs there : List R3}, (ladGo lang there xs).Nodup
  | [], there => by simp [ladGo]
  | y :: ys, there => by
    rw [ladGo]
    cases (bif there.contains y then true else bif y.a != lang then y.b == [] else false) with
    | true => exact ladGo_nodup
    | false =>
      rw [cond_false]
      refine List.nodup_cons.2 ⟨fun h => ?_, ladGo_nodup⟩
      have := (ladGo_sub h).2.1
      have h2 : (insS y there).contains y = true := by simpa using mem_insS.2 (.inl rfl)
      rw [h2] at this; cases this
theorem ladGo_length {lang : S8} : ∀ {xs there : List R3}, (ladGo lang there xs).length ≤ xs.length
  | [], there => by simp [ladGo]
  | y :: ys, there => by
    rw [ladGo]
    cases (bif there.contains y then true else bif y.a != lang then y.b == [] else false) with
    | true => exact Nat.le_succ_of_le ladGo_length
    | false => simp only [cond_false, List.length_cons]; exact Nat.succ_le_succ ladGo_length
theorem ladL_ok (t : Tg) : ∀ x ∈ ladL t.l t.s t.r, rowBad t x = false := by
  intro x hx
  unfold ladL at hx
  cases hl : t.l == [] with
  | true => rw [hl] at hx; simp at hx
  | false =>
    rw [hl, cond_false] at hx
    obtain ⟨h1, _, h3⟩ := ladGo_sub hx
    have hb : x.b = [] ∨ x.b = t.s := by simp only [rows5, List.mem_cons, List.not_mem_nil, or_false] at h1; rcases h1 with rfl | rfl | rfl | rfl | rfl <;> simp
    have hc : x.c = [] ∨ x.c = t.r := by simp only [rows5, List.mem_cons, List.not_mem_nil, or_false] at h1; rcases h1 with rfl | rfl | rfl | rfl | rfl <;> simp
    have ha : x.a = t.l ∨ x.a = [117, 110, 100] := by simp only [rows5, List.mem_cons, List.not_mem_nil, or_false] at h1; rcases h1 with rfl | rfl | rfl | rfl | rfl <;> simp
    have e1 : (bif x.a != t.l then bif x.a != [117, 110, 100] then true else x.b == [] else false) = false := by
      by_cases e : x.a = t.l
      · simp [e]
      · have e2 := ha.resolve_left e
        have e3 := h3.resolve_left e
        have e4 : (x.b == []) = false := by simpa using e3
        rw [e4]; simp [e2]
    have e2 : (bif x.b != [] then x.b != t.s else false) = false := by rcases hb with h | h <;> simp [h]
    have e3 : (bif x.c != [] then x.c != t.r else false) = false := by rcases hc with h | h <;> simp [h]
    unfold rowBad
    rw [e1, e2, e3]; rfl
theorem ladL_nodup (l s r : S8) : (ladL l s r).Nodup := by
  unfold ladL
  cases l == [] with
  | true => simp
  | false => exact ladGo_nodup
theorem ladL_len (l s r : S8) : (ladL l s r).length ≤ 5 := by
  unfold ladL
  cases l == [] with
  | true => simp
  | false => exact ladGo_length
theorem ladL_zero (l s r : S8) : (ladL l s r).length = 0 ↔ l = [] := by
  unfold ladL
  by_cases e : l = []
  · simp [e]
  · have : (l == []) = false := by simpa using e
    rw [this, cond_false]
    simp only [e, iff_false]
    have h1 : ladGo l [] (rows5 l s r) = ⟨l, s, r⟩ :: ladGo l (insS ⟨l, s, r⟩ []) ((rows5 l s r).drop 1) := by
      show ladGo l [] (⟨l, s, r⟩ :: _) = _
      rw [ladGo]
      simp [rows5]
    rw [h1]; simp
theorem call5 (a b c many : Int) : CallsTo Try.prog 5 [.agg [.int .i64 a, .int .i64 b, .int .i64 c], .int .i64 many] (.bool true) := by
  obtain ⟨l, s, r, _, _, _, h23⟩ := call23 a b c
  obtain ⟨k, _, e⟩ := rest_nat' many 6 (by decide) (by decide)
  have h25 := call25 many 6 (by decide)
  have e' : (IntKind.i64.wrap (many.tmod 6 + 6)).tmod 6 = (k : Int) := e
  rw [e'] at h25
  exact calls Try.func5 rfl (by decide) (run5 _ many (tagT l s r []) (ladL l s r) k ⟨a, b, c, rfl⟩ (ladL_ok (tagT l s r [])) (ladL_nodup l s r) (ladL_len l s r) (ladL_zero l s r) call22 h23 (iter52 (tagT l s r [])) h25)
end Go.Proofs.Ytndijidmabfhcaa.Fw
