/- Final, and DataEnds. -/
import Derived.Test.YtndijidmabfhcaaFwDH
namespace Go.Proofs.Ytndijidmabfhcaa.Fw
open Go Go.RowKit
set_option maxRecDepth 100000
set_option maxHeartbeats 4000000
theorem fD_of {x y : D} {K : D → Prop} (h : x = y) (k : fD y K) : fD x K := h ▸ k
/-- Whether a text is called otherwise no more, by what aliases are of. -/
def finalB (L : List Src) (k : Int) (a b : S8) : Bool := !L.contains (if k = 7 then ⟨k, a, b⟩ else ⟨k, a, []⟩)
theorem run48 (L : List Src) (k : Int) (a b : S8) : Runs Try.prog T 19 (Try.f48.body.getD .skip) Try.f48.results.toList [setD Src.d L, .int .i64 k, .str a, .str b] (.bool (finalB L k a b)) := by
  have look : ∀ y : Src, (findD y.d (L.map Src.d) (L.map fun _ => .bool true)).getD (.bool false) = .bool (L.contains y) := fun y => by
    rw [findD_set srcEnc]; cases L.contains y <;> rfl
  have fits : ∀ y : Src, keysFit T 125 y.d (L.map Src.d) = true := fun y => keysFit_enc srcEnc y L
  refine ⟨Nat.le_of_ble_eq_true rfl, ?_⟩
  conv => whnf
  refine ifB_intro (fun h => ?_) (fun h => ?_)
  · have hk : k ≠ 7 := by simpa using h
    conv => whnf
    refine sideB_intro (fun _ => fits ⟨k, a, []⟩) ?_
    conv => whnf
    refine fD_of (look ⟨k, a, []⟩) ?_
    conv => whnf
    exact ⟨rfl, Eq.trans rfl (congrArg D.bool (show _ = finalB L k a b by simp [finalB, hk]))⟩
  · have hk : k = 7 := by simpa using h
    conv => whnf
    refine sideB_intro (fun _ => fits ⟨k, a, b⟩) ?_
    conv => whnf
    refine fD_of (look ⟨k, a, b⟩) ?_
    conv => whnf
    exact ⟨rfl, Eq.trans rfl (congrArg D.bool (show _ = finalB L k a b by simp [finalB, hk]))⟩
theorem call48 (L : List Src) (k : Int) (a b : S8) : CallsTo Try.prog 48 [setD Src.d L, .int .i64 k, .str a, .str b] (.bool (finalB L k a b)) := calls Try.func48 rfl (by decide) (run48 L k a b)
theorem run21 (xs : List Al) (ls : List Lk) (rs ms : List D) (th dm : Int) (k : Int) (a b : S8) (k1 k2 : List D) (r : Bool) (h49 : CallsTo Try.prog 49 [.agg [.sl 0 6 (xs.map Al.d), .sl 0 6 (ls.map Lk.d), .sl 0 9 rs, .sl 0 2 ms, .int .i64 th, .int .i64 dm]] (.mapv k1 k2)) (h48 : CallsTo Try.prog 48 [.mapv k1 k2, .int .i64 k, .str a, .str b] (.bool r)) :
    Runs Try.prog T 15 (Try.f21.body.getD .skip) Try.f21.results.toList [.agg [.sl 0 6 (xs.map Al.d), .sl 0 6 (ls.map Lk.d), .sl 0 9 rs, .sl 0 2 ms, .int .i64 th, .int .i64 dm], .int .i64 k, .str a, .str b] (.bool r) := by
  refine ⟨Nat.le_of_ble_eq_true rfl, ?_⟩
  conv => whnf
  refine ⟨_, fun _ => h49, ?_⟩
  conv => whnf
  refine ⟨_, fun _ => h48, ?_⟩
  conv => whnf
  exact ⟨rfl, rfl⟩
theorem call21 (xs : List Al) (ls : List Lk) (rs ms : List D) (th dm : Int) (hx : xs.length ≤ 1000000) (k : Int) (a b : S8) : CallsTo Try.prog 21 [.agg [.sl 0 6 (xs.map Al.d), .sl 0 6 (ls.map Lk.d), .sl 0 9 rs, .sl 0 2 ms, .int .i64 th, .int .i64 dm], .int .i64 k, .str a, .str b] (.bool (finalB (srcs xs) k a b)) :=
  calls Try.func21 rfl (by decide) (run21 xs ls rs ms th dm k a b _ _ _ (call49 xs ls rs ms th dm hx) (call48 _ k a b))

theorem run4 (xs : List Al) (ls : List Lk) (rs ms : List D) (n : Int) (i1 i2 : Nat) (al : Al) (lk own : Lk) (F : Int → S8 → S8 → Bool)
    (h20 : CallsTo Try.prog 20 [] (.agg [.sl 0 6 (xs.map Al.d), .sl 0 6 (ls.map Lk.d), .sl 0 9 rs, .sl 0 2 ms, .int .i64 40, .int .i64 5]))
    (h15 : CallsTo Try.prog 15 [.int .i64 n, .int .i64 (List.map Al.d xs).length] (.int .i64 (i1 : Int)))
    (h15' : CallsTo Try.prog 15 [.int .i64 n, .int .i64 (List.map Lk.d ls).length] (.int .i64 (i2 : Int)))
    (hi1 : i1 < xs.length) (hi2 : i2 < ls.length) (hal : xs[i1] = al) (hlk : ls[i2] = lk)
    (h17 : CallsTo Try.prog 17 [.str lk.tl, .str [], .str []] (.tup [own.d, .bool true])) (hown : own.tl = lk.tl)
    (hF : ∀ k a b, CallsTo Try.prog 21 [.agg [.sl 0 6 (xs.map Al.d), .sl 0 6 (ls.map Lk.d), .sl 0 9 rs, .sl 0 2 ms, .int .i64 40, .int .i64 5], .int .i64 k, .str a, .str b] (.bool (F k a b)))
    (hlen : al.l.length + al.s.length + al.r.length ≤ 1000)
    (g1 : al.k = 1 → F 3 al.l [] = true) (g2 : al.k = 2 ∨ al.k = 3 → F 3 al.a [] = false ∧ F 3 al.l [] = true) (g7 : al.k = 7 → F 7 al.a al.b = false ∧ F 7 al.a al.l = true)
    (g0 : al.k ≠ 1 → al.k ≠ 2 → al.k ≠ 3 → al.k ≠ 7 → F al.k al.a [] = false ∧ F al.k (al.l ++ al.s ++ al.r) [] = true) :
    Runs Try.prog T 130 (Try.f4.body.getD .skip) Try.f4.results.toList [.int .i64 n] (.bool true) := by
  refine ⟨Nat.le_of_ble_eq_true rfl, ?_⟩
  conv => whnf
  refine ⟨_, fun _ => call13, ?_⟩
  conv => whnf
  refine ⟨_, fun _ => h20, ?_⟩
  conv => whnf
  refine ifB_intro (fun hb => ?_) (fun hb => ?_)
  · have h1 : xs ≠ [] := List.ne_nil_of_length_pos (by omega)
    have h2 : ls ≠ [] := List.ne_nil_of_length_pos (by omega)
    exfalso; revert hb; simp [h1, h2]
  conv => whnf
  refine ⟨rfl, ?_⟩
  conv => whnf
  refine ⟨_, fun _ => h15, ?_⟩
  conv => whnf
  refine sideB_intro (fun _ => decide_eq_true (by simp; omega)) ?_
  rw [getD_map (enc := Al.d) hi1, hal]
  conv => whnf
  refine ⟨rfl, ?_⟩
  conv => whnf
  refine ⟨_, fun _ => h15', ?_⟩
  conv => whnf
  refine sideB_intro (fun _ => decide_eq_true (by simp; omega)) ?_
  rw [getD_map (enc := Lk.d) hi2, hlk]
  conv => whnf
  refine ⟨_, fun _ => h17, ?_⟩
  conv => whnf
  refine ifB_intro (fun hb => ?_) (fun hb => ?_)
  · exfalso; revert hb; simp [hown]
  clear hb
  obtain ⟨k, a, b, l, s, r⟩ := al
  dsimp only at hlen g1 g2 g7 g0
  by_cases e1 : k = 1
  · subst e1
    conv => whnf
    refine ⟨.bool true, fun _ => by have := hF 3 l []; rwa [g1 rfl] at this, ?_⟩
    conv => whnf
    exact ⟨rfl, rfl⟩
  by_cases e2 : k = 2
  · subst e2
    conv => whnf
    refine ⟨.bool false, fun _ => by have := hF 3 a []; rwa [(g2 (.inl rfl)).1] at this, ?_⟩
    conv => whnf
    refine ⟨.bool true, fun _ => by have := hF 3 l []; rwa [(g2 (.inl rfl)).2] at this, ?_⟩
    conv => whnf
    exact ⟨rfl, rfl⟩
  by_cases e3 : k = 3
  · subst e3
    conv => whnf
    refine ⟨.bool false, fun _ => by have := hF 3 a []; rwa [(g2 (.inr rfl)).1] at this, ?_⟩
    conv => whnf
    refine ⟨.bool true, fun _ => by have := hF 3 l []; rwa [(g2 (.inr rfl)).2] at this, ?_⟩
    conv => whnf
    exact ⟨rfl, rfl⟩
  by_cases e7 : k = 7
  · subst e7
    conv => whnf
    refine ⟨.bool false, fun _ => by have := hF 7 a b; rwa [(g7 rfl).1] at this, ?_⟩
    conv => whnf
    refine ⟨.bool true, fun _ => by have := hF 7 a l; rwa [(g7 rfl).2] at this, ?_⟩
    conv => whnf
    exact ⟨rfl, rfl⟩
  have c : ∀ m : Int, k ≠ m → (k == m) = false := fun m hm => by simpa using hm
  conv => whnf
  refine ifB_intro (fun h2 => absurd ((c 1 e1).symm.trans h2) (by decide)) (fun _ => ?_)
  conv => whnf
  refine ifB_intro (fun h2 => absurd ((c 2 e2).symm.trans h2) (by decide)) (fun _ => ?_)
  conv => whnf
  refine ifB_intro (fun h2 => absurd ((c 3 e3).symm.trans h2) (by decide)) (fun _ => ?_)
  conv => whnf
  refine ifB_intro (fun h2 => absurd ((c 7 e7).symm.trans h2) (by decide)) (fun _ => ?_)
  conv => whnf
  refine ⟨.bool false, fun _ => by have := hF k a []; rwa [(g0 e1 e2 e3 e7).1] at this, ?_⟩
  conv => whnf
  refine sideB_intro (fun _ => decide_eq_true (by dsimp only; omega)) ?_
  conv => whnf
  refine sideB_intro (fun _ => decide_eq_true (by simp only [List.length_append]; omega)) ?_
  conv => whnf
  refine ⟨.bool true, fun _ => by have := hF k (l ++ s ++ r) []; rwa [(g0 e1 e2 e3 e7).2] at this, ?_⟩
  conv => whnf
  exact ⟨rfl, rfl⟩

def endsB (L : List Src) (x : Al) : Bool :=
  if x.k = 1 then finalB L 3 x.l [] else if x.k = 2 ∨ x.k = 3 then !finalB L 3 x.a [] && finalB L 3 x.l []
  else if x.k = 7 then !finalB L 7 x.a x.b && finalB L 7 x.a x.l else !finalB L x.k x.a [] && finalB L x.k (x.l ++ x.s ++ x.r) []
theorem lenAll : (aliasesL.all fun x => decide (x.l.length + x.s.length + x.r.length ≤ 1000)) = true := by kernel_rfl
theorem endsAll : (aliasesL.all (endsB (srcs aliasesL))) = true := by kernel_rfl
def ownB (x : Lk) : Bool := likelyL.any (isLk x.tl [] []) && decide ((foundLk (isLk x.tl [] []) likelyL).tl = x.tl)
theorem ownAll : (likelyL.all ownB) = true := by kernel_rfl

theorem call4 (n : Int) : CallsTo Try.prog 4 [.int .i64 n] (.bool true) := by
  obtain ⟨i1, hi1, e1⟩ := rest_nat n (List.map Al.d aliasesL).length (by decide) (by decide)
  obtain ⟨i2, hi2, e2⟩ := rest_nat n (List.map Lk.d likelyL).length (by decide) (by decide)
  have hi1' : i1 < aliasesL.length := by simpa using hi1
  have hi2' : i2 < likelyL.length := by simpa using hi2
  have m1 : aliasesL[i1] ∈ aliasesL := List.getElem_mem hi1'
  have m2 : likelyL[i2] ∈ likelyL := List.getElem_mem hi2'
  have s1 := List.all_eq_true.1 endsAll _ m1
  have s2 := List.all_eq_true.1 ownAll _ m2
  have s3 := of_decide_eq_true (List.all_eq_true.1 lenAll _ m1)
  revert s1 s2 s3
  generalize ha : aliasesL[i1] = al
  generalize hl : likelyL[i2] = lk
  intro s1 s2 s3
  simp only [ownB, Bool.and_eq_true, decide_eq_true_eq] at s2
  have c17 := call17 lk.tl [] []
  rw [s2.1] at c17
  have c15 := call15 n (List.map Al.d aliasesL).length (by decide)
  have c15' := call15 n (List.map Lk.d likelyL).length (by decide)
  rw [e1] at c15
  rw [e2] at c15'
  refine calls Try.func4 rfl (by decide) (run4 aliasesL likelyL _ _ n i1 i2 al lk (foundLk (isLk lk.tl [] []) likelyL) (finalB (srcs aliasesL)) call20 c15 c15' hi1' hi2' ha hl c17 s2.2 (call21 aliasesL likelyL _ _ 40 5 (by decide)) s3 (fun h => ?_) (fun h => ?_) (fun h => ?_) (fun h1 h2 h3 h7 => ?_))
  · simpa [endsB, h] using s1
  · have : al.k ≠ 1 := by omega
    simpa [endsB, h, this] using s1
  · simpa [endsB, h] using s1
  · simpa [endsB, h1, h2, h3, h7] using s1
end Go.Proofs.Ytndijidmabfhcaa.Fw
