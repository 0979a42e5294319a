/- DataFinds holds: its walk, and what the rows of the image are. -/
import Derived.Test.YtndijidmabfhcaaFwDF
namespace Go.Proofs.Ytndijidmabfhcaa.Fw
open Go Go.RowKit
set_option maxRecDepth 100000
set_option maxHeartbeats 4000000
theorem run3 (xs : List Al) (ls : List Lk) (rs ms : List D) (kind n : Int) (q0 q1 q2 : S8) (i1 i2 : Nat) (al : Al) (lk : Lk)
    (h14 : CallsTo Try.prog 14 [] (.agg [.sl 0 6 (xs.map Al.d), .sl 0 6 (ls.map Lk.d), .sl 0 9 rs, .sl 0 2 ms, .int .i64 40, .int .i64 5]))
    (h15 : CallsTo Try.prog 15 [.int .i64 n, .int .i64 (List.map Al.d xs).length] (.int .i64 (i1 : Int)))
    (h15' : CallsTo Try.prog 15 [.int .i64 n, .int .i64 (List.map Lk.d ls).length] (.int .i64 (i2 : Int)))
    (hi1 : i1 < xs.length) (hi2 : i2 < ls.length) (hal : xs[i1] = al) (hlk : ls[i2] = lk)
    (h16 : CallsTo Try.prog 16 [.int .i64 al.k, .str al.a, .str al.b] (.tup [al.d, .bool true]))
    (h17 : CallsTo Try.prog 17 [.str lk.l, .str lk.s, .str lk.r] (.tup [lk.d, .bool true]))
    (h18 : ∀ kind a b c, CallsTo Try.prog 18 [.agg [.sl 0 6 (xs.map Al.d), .sl 0 6 (ls.map Lk.d), .sl 0 9 rs, .sl 0 2 ms, .int .i64 40, .int .i64 5], .int .i64 kind, .str a, .str b, .str c] (.bool true)) :
    Runs Try.prog T 119 (Try.f3.body.getD .skip) Try.f3.results.toList [.int .i64 kind, .agg [.str q0, .str q1, .str q2], .int .i64 n] (.bool true) := by
  refine ⟨Nat.le_of_ble_eq_true rfl, ?_⟩
  conv => whnf
  refine ⟨_, fun _ => call13, ?_⟩
  conv => whnf
  refine ⟨_, fun _ => h14, ?_⟩
  conv => whnf
  refine ⟨rfl, ?_⟩
  conv => whnf
  refine ⟨_, fun _ => h15, ?_⟩
  conv => whnf
  refine sideB_intro (fun _ => decide_eq_true (by simp; omega)) ?_
  rw [getD_map (enc := Al.d) hi1, hal]
  conv => whnf
  refine ⟨rfl, ?_⟩
  conv => whnf
  refine ⟨_, fun _ => h15', ?_⟩
  conv => whnf
  refine sideB_intro (fun _ => decide_eq_true (by simp; omega)) ?_
  rw [getD_map (enc := Lk.d) hi2, hlk]
  conv => whnf
  refine ⟨_, fun _ => h16, ?_⟩
  conv => whnf
  refine ⟨_, fun _ => h17, ?_⟩
  conv => whnf
  refine ifB_intro (fun hb => ?_) (fun hb => ?_)
  · exfalso; revert hb; simp
  conv => whnf
  refine ⟨rfl, ?_⟩
  conv => whnf
  refine ⟨_, fun _ => call19 q0, ?_⟩
  conv => whnf
  refine ⟨_, fun _ => call19 q1, ?_⟩
  conv => whnf
  refine ⟨_, fun _ => call19 q2, ?_⟩
  conv => whnf
  refine ⟨_, fun _ => h18 _ _ _ _, ?_⟩
  conv => whnf
  refine ⟨_, fun _ => h18 _ _ _ _, ?_⟩
  conv => whnf
  refine ⟨_, fun _ => h18 _ _ _ _, ?_⟩
  conv => whnf
  refine ⟨_, fun _ => h18 _ _ _ _, ?_⟩
  conv => whnf
  exact ⟨rfl, rfl⟩

theorem foundAl_none (p : Al → Bool) : ∀ xs, List.any xs p = false → foundAl p xs = ⟨0, [], [], [], [], []⟩
  | [], _ => rfl
  | x :: xs, h => by
    rw [List.any_cons, Bool.or_eq_false_iff] at h
    rw [foundAl, h.1]; exact foundAl_none p xs h.2
theorem foundLk_none (p : Lk → Bool) : ∀ xs, List.any xs p = false → foundLk p xs = ⟨[], [], [], [], [], []⟩
  | [], _ => rfl
  | x :: xs, h => by
    rw [List.any_cons, Bool.or_eq_false_iff] at h
    rw [foundLk, h.1]; exact foundLk_none p xs h.2
theorem foundAl_some (p : Al → Bool) : ∀ xs, List.any xs p = true → p (foundAl p xs) = true
  | [], h => absurd h (by simp)
  | x :: xs, h => by
    rw [foundAl]
    cases hp : p x with
    | true => simpa using hp
    | false =>
      rw [List.any_cons, hp] at h
      exact foundAl_some p xs (by simpa using h)
theorem foundLk_some (p : Lk → Bool) : ∀ xs, List.any xs p = true → p (foundLk p xs) = true
  | [], h => absurd h (by simp)
  | x :: xs, h => by
    rw [foundLk]
    cases hp : p x with
    | true => simpa using hp
    | false =>
      rw [List.any_cons, hp] at h
      exact foundLk_some p xs (by simpa using h)
theorem isAl_iff {kind : Int} {a b : S8} {x : Al} : isAl kind a b x = true ↔ x.k = kind ∧ x.a = a ∧ x.b = b := by
  unfold isAl
  cases hk : x.k == kind <;> cases ha : x.a == a <;> cases hb : x.b == b <;> simp_all
theorem isLk_iff {l s r : S8} {x : Lk} : isLk l s r x = true ↔ x.l = l ∧ x.s = s ∧ x.r = r := by
  unfold isLk
  cases hk : x.l == l <;> cases ha : x.s == s <;> cases hb : x.r == r <;> simp_all
theorem apartAl : (aliasesL.all fun x => decide (foundAl (isAl x.k x.a x.b) aliasesL = x)) = true := by kernel_rfl
theorem apartLk : (likelyL.all fun x => decide (foundLk (isLk x.l x.s x.r) likelyL = x)) = true := by kernel_rfl
theorem fndAl {kind : Int} {a b : S8} {x : Al} (hx : x ∈ aliasesL) (h : isAl kind a b x = true) : foundAl (isAl kind a b) aliasesL = x := by
  obtain ⟨rfl, rfl, rfl⟩ := isAl_iff.1 h
  exact of_decide_eq_true (List.all_eq_true.1 apartAl x hx)
theorem fndLk {l s r : S8} {x : Lk} (hx : x ∈ likelyL) (h : isLk l s r x = true) : foundLk (isLk l s r) likelyL = x := by
  obtain ⟨rfl, rfl, rfl⟩ := isLk_iff.1 h
  exact of_decide_eq_true (List.all_eq_true.1 apartLk x hx)

theorem call18 (kind : Int) (a b c : S8) : CallsTo Try.prog 18 [imageD aliasesL likelyL rulesL membersL 40 5, .int .i64 kind, .str a, .str b, .str c] (.bool true) := by
  refine calls Try.func18 rfl (by decide) (run18 aliasesL likelyL _ _ kind a b c (foundAl (isAl kind a b) aliasesL) (aliasesL.any (isAl kind a b)) (foundLk (isLk a b c) likelyL) (likelyL.any (isLk a b c)) (call16 kind a b) (call17 a b c) (fun x hx => ?_) (fun x hx => ?_) ?_ (by decide) (by decide))
  · cases h : isAl kind a b x with
    | false => rfl
    | true =>
      have := fndAl hx h
      have h2 : aliasesL.any (isAl kind a b) = true := List.any_eq_true.2 ⟨x, hx, h⟩
      rw [this, h2]; simp
  · cases h : isLk a b c x with
    | false => rfl
    | true =>
      have := fndLk hx h
      have h2 : likelyL.any (isLk a b c) = true := List.any_eq_true.2 ⟨x, hx, h⟩
      rw [this, h2]; simp
  · have e1 : (bif bif !(aliasesL.any (isAl kind a b)) then ((foundAl (isAl kind a b) aliasesL).k == 0 && ((foundAl (isAl kind a b) aliasesL).a == [] && ((foundAl (isAl kind a b) aliasesL).b == [] && ((foundAl (isAl kind a b) aliasesL).l == [] && ((foundAl (isAl kind a b) aliasesL).s == [] && ((foundAl (isAl kind a b) aliasesL).r == [] && true)))))) else false then true else bif bif bif aliasesL.any (isAl kind a b) then (foundAl (isAl kind a b) aliasesL).k == kind else false then (foundAl (isAl kind a b) aliasesL).a == a else false then (foundAl (isAl kind a b) aliasesL).b == b else false) = true := by
      cases h : aliasesL.any (isAl kind a b) with
      | false => rw [foundAl_none _ _ h]; rfl
      | true =>
        obtain ⟨h1, h2, h3⟩ := isAl_iff.1 (foundAl_some _ _ h)
        rw [h1, h2, h3]; simp
    rw [e1]
    cases h : likelyL.any (isLk a b c) with
    | false => rw [foundLk_none _ _ h]; rfl
    | true =>
      obtain ⟨h1, h2, h3⟩ := isLk_iff.1 (foundLk_some _ _ h)
      rw [h1, h2, h3]; simp

theorem rest_nat (x : Int) (n : Nat) (h : 0 < n) (hn : n ≤ 1000000) : ∃ i : Nat, i < n ∧ (IntKind.i64.wrap (x.tmod n + n)).tmod n = (i : Int) := by
  have h1 := Int.tmod_lt_of_pos x (show (0 : Int) < n by omega)
  have h2 : -(n : Int) < x.tmod n := by have := Int.lt_tmod_of_pos x (show (0 : Int) < n by omega); omega
  rw [show IntKind.i64.wrap (x.tmod n + n) = x.tmod n + n by rw [IntKind.wrap_i64]; omega]
  refine ⟨((x.tmod n + n).tmod n).toNat, ?_, ?_⟩
  · have h3 := Int.tmod_lt_of_pos (x.tmod n + n) (show (0 : Int) < n by omega)
    have h4 := Int.tmod_nonneg n (show 0 ≤ x.tmod n + n by omega)
    omega
  · have h4 := Int.tmod_nonneg n (show 0 ≤ x.tmod n + n by omega)
    omega

theorem call3 (kind n : Int) (q0 q1 q2 : S8) : CallsTo Try.prog 3 [.int .i64 kind, .agg [.str q0, .str q1, .str q2], .int .i64 n] (.bool true) := by
  obtain ⟨i1, hi1, e1⟩ := rest_nat n (List.map Al.d aliasesL).length (by decide) (by decide)
  obtain ⟨i2, hi2, e2⟩ := rest_nat n (List.map Lk.d likelyL).length (by decide) (by decide)
  have hi1' : i1 < aliasesL.length := by simpa using hi1
  have hi2' : i2 < likelyL.length := by simpa using hi2
  have m1 : aliasesL[i1] ∈ aliasesL := List.getElem_mem hi1'
  have m2 : likelyL[i2] ∈ likelyL := List.getElem_mem hi2'
  have s1 : isAl aliasesL[i1].k aliasesL[i1].a aliasesL[i1].b aliasesL[i1] = true := isAl_iff.2 ⟨rfl, rfl, rfl⟩
  have s2 : isLk likelyL[i2].l likelyL[i2].s likelyL[i2].r likelyL[i2] = true := isLk_iff.2 ⟨rfl, rfl, rfl⟩
  have c16 := call16 aliasesL[i1].k aliasesL[i1].a aliasesL[i1].b
  have c17 := call17 likelyL[i2].l likelyL[i2].s likelyL[i2].r
  rw [fndAl m1 s1, List.any_eq_true.2 ⟨_, m1, s1⟩] at c16
  rw [fndLk m2 s2, List.any_eq_true.2 ⟨_, m2, s2⟩] at c17
  have c15 := call15 n (List.map Al.d aliasesL).length (by decide)
  have c15' := call15 n (List.map Lk.d likelyL).length (by decide)
  rw [e1] at c15
  rw [e2] at c15'
  exact calls Try.func3 rfl (by decide) (run3 aliasesL likelyL _ _ kind n q0 q1 q2 i1 i2 _ _ call14 c15 c15' hi1' hi2' rfl rfl c16 c17 call18)
end Go.Proofs.Ytndijidmabfhcaa.Fw
