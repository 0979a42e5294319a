/- Texts ME, MF, IG, MG, IS, RE of the proof, in one. -/
import Derived.Test.YtnooelecdbbfkaaGreatDoorRows
import Derived.Test.YtnooelecdbbfkaaGreatDoorTie
import Derived.Test.YtnooelecdbbfkaaGreatDoorCards
import Derived.ChangeSame
import Derived.ChangeVars
import Derived.JoinedOf
import Derived.RowKit
import Derived.RowKitTokens
import Derived.LaidLaws
import Derived.LaidHandle
import Derived.Lay
import Derived.SevenTiedAt
import Derived.Test.YtnooelecdbbfkaaGreatDoorFwK1k6
set_option linter.unusedSimpArgs false
set_option linter.unusedVariables false
set_option linter.unusedSectionVars false
set_option linter.unnecessarySimpa false

/- Aliases of plain numbers: that there is one, of short texts. -/
namespace Go.Proofs.YtnooelecdbbfkaaGreatDoor.Fw
open Go Go.RowKit
set_option linter.unusedSectionVars false
variable [Inhabited GLT]
set_option maxRecDepth 100000
set_option maxHeartbeats 4000000
def toLangs12 : List S8 := [[104, 101], [114, 111], [110, 98], [115, 114], [102, 105, 108], [120, 120], [99, 109, 110], [101, 110]]
theorem run116  : Runs Tryz.prog T 2 (Tryz.f116.body.getD .skip) Tryz.f116.results.toList [] (.sl 0 1 (toLangs12.map .str)) := by
  refine ⟨Nat.le_of_ble_eq_true rfl, ?_⟩
  conv => whnf
  exact ⟨rfl, rfl⟩
theorem call116  : CallsTo Tryz.prog 116 [] (.sl 0 1 (toLangs12.map .str)) := calls Tryz.func116 rfl (by decide) (run116)
def langs12 : List S8 := [[105, 119], [109, 111], [110, 111], [115, 104], [116, 108], [115, 103, 110], [122, 104], [104, 97, 110, 116]]
theorem run117  : Runs Tryz.prog T 2 (Tryz.f117.body.getD .skip) Tryz.f117.results.toList [] (.sl 0 1 (langs12.map .str)) := by
  refine ⟨Nat.le_of_ble_eq_true rfl, ?_⟩
  conv => whnf
  exact ⟨rfl, rfl⟩
theorem call117  : CallsTo Tryz.prog 117 [] (.sl 0 1 (langs12.map .str)) := calls Tryz.func117 rfl (by decide) (run117)
def scripts12 : List S8 := [[113, 97, 97, 105], [104, 97, 110, 115], [97, 114, 97, 110]]
theorem run118  : Runs Tryz.prog T 2 (Tryz.f118.body.getD .skip) Tryz.f118.results.toList [] (.sl 0 1 (scripts12.map .str)) := by
  refine ⟨Nat.le_of_ble_eq_true rfl, ?_⟩
  conv => whnf
  exact ⟨rfl, rfl⟩
theorem call118  : CallsTo Tryz.prog 118 [] (.sl 0 1 (scripts12.map .str)) := calls Tryz.func118 rfl (by decide) (run118)
def toScripts12 : List S8 := [[122, 105, 110, 104], [108, 97, 116, 110], [97, 114, 97, 98]]
theorem run119  : Runs Tryz.prog T 2 (Tryz.f119.body.getD .skip) Tryz.f119.results.toList [] (.sl 0 1 (toScripts12.map .str)) := by
  refine ⟨Nat.le_of_ble_eq_true rfl, ?_⟩
  conv => whnf
  exact ⟨rfl, rfl⟩
theorem call119  : CallsTo Tryz.prog 119 [] (.sl 0 1 (toScripts12.map .str)) := calls Tryz.func119 rfl (by decide) (run119)
def regions12 : List S8 := [[100, 100], [115, 117], [98, 117], [56, 52, 48]]
theorem run120  : Runs Tryz.prog T 2 (Tryz.f120.body.getD .skip) Tryz.f120.results.toList [] (.sl 0 1 (regions12.map .str)) := by
  refine ⟨Nat.le_of_ble_eq_true rfl, ?_⟩
  conv => whnf
  exact ⟨rfl, rfl⟩
theorem call120  : CallsTo Tryz.prog 120 [] (.sl 0 1 (regions12.map .str)) := calls Tryz.func120 rfl (by decide) (run120)
def toRegions12 : List S8 := [[100, 101], [114, 117], [109, 109], [117, 115]]
theorem run121  : Runs Tryz.prog T 2 (Tryz.f121.body.getD .skip) Tryz.f121.results.toList [] (.sl 0 1 (toRegions12.map .str)) := by
  refine ⟨Nat.le_of_ble_eq_true rfl, ?_⟩
  conv => whnf
  exact ⟨rfl, rfl⟩
theorem call121  : CallsTo Tryz.prog 121 [] (.sl 0 1 (toRegions12.map .str)) := calls Tryz.func121 rfl (by decide) (run121)
def okA (n : Nat) (x : Al) : Prop := (0 ≤ x.k ∧ x.k ≤ 8) ∧ x.a.length ≤ n ∧ x.b.length ≤ n ∧ x.l.length ≤ n ∧ x.s.length ≤ n ∧ x.r.length ≤ n
theorem run122 (x : Al) (odd : Int) (h : okA 8 x) : RunsQ Tryz.prog T 38 (Tryz.f122.body.getD .skip) Tryz.f122.results.toList [x.d, .int .i64 odd] (fun d => ∃ y : Al, d = y.d ∧ okA 9 y) := by
  refine ⟨Nat.le_of_ble_eq_true rfl, ?_⟩
  conv => whnf
  obtain ⟨hk, ha, hb, hl, hs, hr⟩ := h
  refine ifB_intro (fun h1 => ?_) (fun h1 => ?_)
  · conv => whnf
    refine ⟨_, fun _ => call160 x.a (by omega), ?_⟩
    conv => whnf
    exact ⟨rfl, ⟨x.k, titleS x.a, x.b, x.l, x.s, x.r⟩, rfl, hk, by show (titleS x.a).length ≤ 9; rw [titleS_len]; omega, by show x.b.length ≤ 9; omega, by show x.l.length ≤ 9; omega, by show x.s.length ≤ 9; omega, by show x.r.length ≤ 9; omega⟩
  conv => whnf
  refine ifB_intro (fun h1 => ?_) (fun h1 => ?_)
  · conv => whnf
    refine sideB_intro (fun _ => decide_eq_true (by simp; omega)) ?_
    conv => whnf
    exact ⟨rfl, ⟨x.k, x.a, x.b ++ [120], x.l, x.s, x.r⟩, rfl, hk, by show x.a.length ≤ 9; omega, by show (x.b ++ [120]).length ≤ 9; rw [List.length_append]; show x.b.length + 1 ≤ 9; omega, by show x.l.length ≤ 9; omega, by show x.s.length ≤ 9; omega, by show x.r.length ≤ 9; omega⟩
  conv => whnf
  refine ifB_intro (fun h1 => ?_) (fun h1 => ?_)
  · conv => whnf
    exact ⟨rfl, ⟨x.k, x.a, x.b, [], [], []⟩, rfl, hk, by show x.a.length ≤ 9; omega, by show x.b.length ≤ 9; omega, Nat.zero_le _, Nat.zero_le _, Nat.zero_le _⟩
  conv => whnf
  refine ifB_intro (fun h1 => ?_) (fun h1 => ?_)
  · conv => whnf
    exact ⟨rfl, ⟨8, x.a, x.b, x.l, x.s, x.r⟩, rfl, ⟨by simp, by simp⟩, by show x.a.length ≤ 9; omega, by show x.b.length ≤ 9; omega, by show x.l.length ≤ 9; omega, by show x.s.length ≤ 9; omega, by show x.r.length ≤ 9; omega⟩
  conv => whnf
  refine ifB_intro (fun h1 => ?_) (fun h1 => ?_)
  · conv => whnf
    exact ⟨rfl, ⟨x.k, x.a, x.b, [97, 98, 99, 100, 101, 102, 103, 104, 105], x.s, x.r⟩, rfl, hk, by show x.a.length ≤ 9; omega, by show x.b.length ≤ 9; omega, Nat.le_refl 9, by show x.s.length ≤ 9; omega, by show x.r.length ≤ 9; omega⟩
  conv => whnf
  refine ifB_intro (fun h1 => ?_) (fun h1 => ?_)
  · conv => whnf
    refine ⟨rfl, ?_⟩
    conv => whnf
    refine ⟨_, fun _ => call117, ?_⟩
    conv => whnf
    obtain ⟨v, hv, hc⟩ := call57s langs12 (x.a.length : Int) (by decide) (by decide) 8 rfl
    refine ⟨_, fun _ => hc, ?_⟩
    conv => whnf
    exact ⟨rfl, ⟨x.k, x.a, x.b, v, x.s, x.r⟩, rfl, hk, by show x.a.length ≤ 9; omega, by show x.b.length ≤ 9; omega, by show v.length ≤ 9; omega, by show x.s.length ≤ 9; omega, by show x.r.length ≤ 9; omega⟩
  conv => whnf
  exact ⟨rfl, x, rfl, hk, by show x.a.length ≤ 9; omega, by show x.b.length ≤ 9; omega, by show x.l.length ≤ 9; omega, by show x.s.length ≤ 9; omega, by show x.r.length ≤ 9; omega⟩
theorem spoilt12 (x : Al) (odd : Int) (h : okA 8 x) : ∃ y : Al, okA 9 y ∧ CallsTo Tryz.prog 122 [x.d, .int .i64 odd] y.d := by
  obtain ⟨d, ⟨y, rfl, hy⟩, hc⟩ := callsQ Tryz.func122 rfl (by decide) (run122 x odd h)
  exact ⟨y, hy, hc⟩
structure Sd12 where
  k : Int
  a : Int
  b : Int
  l : Int
  s : Int
  r : Int
  o : Int
def Sd12.d (q : Sd12) : D := .agg [.int .i64 q.k, .int .i64 q.a, .int .i64 q.b, .int .i64 q.l, .int .i64 q.s, .int .i64 q.r, .int .i64 q.o]
theorem run53 (q : Sd12) : RunsQ Tryz.prog T 144 (Tryz.f53.body.getD .skip) Tryz.f53.results.toList [q.d] (fun d => ∃ y : Al, d = y.d ∧ okA 9 y) := by
  refine ⟨Nat.le_of_ble_eq_true rfl, ?_⟩
  conv => whnf
  obtain ⟨i, hi, e⟩ := rest_nat' q.k 7 (by decide) (by decide)
  replace e : (IntKind.i64.wrap (q.k.tmod 7 + 7)).tmod 7 = (i : Int) := e
  obtain ⟨j, hj, ej⟩ := rest_nat' q.a 26 (by decide) (by decide)
  replace ej : (IntKind.i64.wrap (q.a.tmod 26 + 26)).tmod 26 = (j : Int) := ej
  have hi2 : i = 0 ∨ i = 1 ∨ i = 2 ∨ i = 3 ∨ i = 4 ∨ i = 5 ∨ i = 6 := by omega
  rcases hi2 with rfl | rfl | rfl | rfl | rfl | rfl | rfl
  · have e0 := e
    rw [e]
    conv => whnf
    rw [ej]
    refine ⟨rfl, ?_⟩
    conv => whnf
    refine ⟨_, fun _ => call116, ?_⟩
    conv => whnf
    obtain ⟨l1, hl1, hcl⟩ := call57s toLangs12 q.l (by decide) (by decide) 8 rfl
    refine ⟨_, fun _ => hcl, ?_⟩
    conv => whnf
    obtain ⟨s1, hs1, hcs⟩ := call57s [[], [], [108, 97, 116, 110]] q.s (by decide) (by decide) 8 rfl
    refine ⟨_, fun _ => hcs, ?_⟩
    conv => whnf
    obtain ⟨r1, hr1, hcr⟩ := call57s [[], [], [117, 115]] q.r (by decide) (by decide) 8 rfl
    refine ⟨_, fun _ => hcr, ?_⟩
    conv => whnf
    obtain ⟨y, hy, hc⟩ := spoilt12 ⟨1, [UInt8.ofNat (IntKind.u8.wrap (IntKind.i64.wrap (48 + IntKind.i64.wrap ((j : Int).tdiv 10)))).toNat, UInt8.ofNat (IntKind.u8.wrap (IntKind.i64.wrap (48 + (j : Int).tmod 10))).toNat], [], l1, s1, r1⟩ ((IntKind.i64.wrap (q.o.tmod 9 + 9)).tmod 9) ⟨⟨by simp, by simp⟩, (by simp), Nat.zero_le _, hl1, hs1, hr1⟩
    refine ⟨_, fun _ => hc, ?_⟩
    conv => whnf
    exact ⟨rfl, y, rfl, hy⟩
  · have e1 := e
    rw [e]
    conv => whnf
    refine ⟨rfl, ?_⟩
    conv => whnf
    refine ⟨_, fun _ => call117, ?_⟩
    conv => whnf
    obtain ⟨a1, ha1, hca⟩ := call57s langs12 q.a (by decide) (by decide) 8 rfl
    refine ⟨_, fun _ => hca, ?_⟩
    conv => whnf
    obtain ⟨b1, hb1, hcb⟩ := call57s [[98, 114], [99, 110], [117, 115], [100, 100]] q.b (by decide) (by decide) 8 rfl
    refine ⟨_, fun _ => hcb, ?_⟩
    conv => whnf
    refine ⟨rfl, ?_⟩
    conv => whnf
    refine ⟨_, fun _ => call116, ?_⟩
    conv => whnf
    obtain ⟨l1, hl1, hcl⟩ := call57s toLangs12 q.l (by decide) (by decide) 8 rfl
    refine ⟨_, fun _ => hcl, ?_⟩
    conv => whnf
    obtain ⟨y, hy, hc⟩ := spoilt12 ⟨2, a1, b1, l1, [], []⟩ ((IntKind.i64.wrap (q.o.tmod 9 + 9)).tmod 9) ⟨⟨by simp, by simp⟩, ha1, hb1, hl1, Nat.zero_le _, Nat.zero_le _⟩
    refine ⟨_, fun _ => hc, ?_⟩
    conv => whnf
    exact ⟨rfl, y, rfl, hy⟩
  · have e2 := e
    rw [e]
    conv => whnf
    refine ⟨rfl, ?_⟩
    conv => whnf
    refine ⟨_, fun _ => call117, ?_⟩
    conv => whnf
    obtain ⟨a1, ha1, hca⟩ := call57s langs12 q.a (by decide) (by decide) 8 rfl
    refine ⟨_, fun _ => hca, ?_⟩
    conv => whnf
    refine ⟨rfl, ?_⟩
    conv => whnf
    refine ⟨_, fun _ => call116, ?_⟩
    conv => whnf
    obtain ⟨l1, hl1, hcl⟩ := call57s toLangs12 q.l (by decide) (by decide) 8 rfl
    refine ⟨_, fun _ => hcl, ?_⟩
    conv => whnf
    obtain ⟨s1, hs1, hcs⟩ := call57s [[], [108, 97, 116, 110]] q.s (by decide) (by decide) 8 rfl
    refine ⟨_, fun _ => hcs, ?_⟩
    conv => whnf
    obtain ⟨r1, hr1, hcr⟩ := call57s [[], [], [117, 115]] q.r (by decide) (by decide) 8 rfl
    refine ⟨_, fun _ => hcr, ?_⟩
    conv => whnf
    obtain ⟨y, hy, hc⟩ := spoilt12 ⟨3, a1, [], l1, s1, r1⟩ ((IntKind.i64.wrap (q.o.tmod 9 + 9)).tmod 9) ⟨⟨by simp, by simp⟩, ha1, Nat.zero_le _, hl1, hs1, hr1⟩
    refine ⟨_, fun _ => hc, ?_⟩
    conv => whnf
    exact ⟨rfl, y, rfl, hy⟩
  · have e3 := e
    rw [e]
    conv => whnf
    refine ⟨rfl, ?_⟩
    conv => whnf
    refine ⟨_, fun _ => call118, ?_⟩
    conv => whnf
    obtain ⟨a1, ha1, hca⟩ := call57s scripts12 q.a (by decide) (by decide) 8 rfl
    refine ⟨_, fun _ => hca, ?_⟩
    conv => whnf
    refine ⟨rfl, ?_⟩
    conv => whnf
    refine ⟨_, fun _ => call119, ?_⟩
    conv => whnf
    obtain ⟨s1, hs1, hcs⟩ := call57s toScripts12 q.s (by decide) (by decide) 8 rfl
    refine ⟨_, fun _ => hcs, ?_⟩
    conv => whnf
    obtain ⟨y, hy, hc⟩ := spoilt12 ⟨4, a1, [], [], s1, []⟩ ((IntKind.i64.wrap (q.o.tmod 9 + 9)).tmod 9) ⟨⟨by simp, by simp⟩, ha1, Nat.zero_le _, Nat.zero_le _, hs1, Nat.zero_le _⟩
    refine ⟨_, fun _ => hc, ?_⟩
    conv => whnf
    exact ⟨rfl, y, rfl, hy⟩
  · have e4 := e
    rw [e]
    conv => whnf
    refine ⟨rfl, ?_⟩
    conv => whnf
    refine ⟨_, fun _ => call120, ?_⟩
    conv => whnf
    obtain ⟨a1, ha1, hca⟩ := call57s regions12 q.a (by decide) (by decide) 8 rfl
    refine ⟨_, fun _ => hca, ?_⟩
    conv => whnf
    refine ⟨rfl, ?_⟩
    conv => whnf
    refine ⟨_, fun _ => call121, ?_⟩
    conv => whnf
    obtain ⟨r1, hr1, hcr⟩ := call57s toRegions12 q.r (by decide) (by decide) 8 rfl
    refine ⟨_, fun _ => hcr, ?_⟩
    conv => whnf
    obtain ⟨y, hy, hc⟩ := spoilt12 ⟨5, a1, [], [], [], r1⟩ ((IntKind.i64.wrap (q.o.tmod 9 + 9)).tmod 9) ⟨⟨by simp, by simp⟩, ha1, Nat.zero_le _, Nat.zero_le _, Nat.zero_le _, hr1⟩
    refine ⟨_, fun _ => hc, ?_⟩
    conv => whnf
    exact ⟨rfl, y, rfl, hy⟩
  · have e5 := e
    rw [e]
    conv => whnf
    obtain ⟨a1, ha1, hca⟩ := call57s [[104, 101, 112, 108, 111, 99], [97, 114, 101, 118, 101, 108, 97], [49, 97, 50, 98]] q.a (by decide) (by decide) 8 rfl
    refine ⟨_, fun _ => hca, ?_⟩
    conv => whnf
    obtain ⟨l1, hl1, hcl⟩ := call57s [[], [97, 108, 97, 108, 99, 57, 55], [49, 57, 57, 52]] q.l (by decide) (by decide) 8 rfl
    refine ⟨_, fun _ => hcl, ?_⟩
    conv => whnf
    obtain ⟨y, hy, hc⟩ := spoilt12 ⟨6, a1, [], l1, [], []⟩ ((IntKind.i64.wrap (q.o.tmod 9 + 9)).tmod 9) ⟨⟨by simp, by simp⟩, ha1, Nat.zero_le _, hl1, Nat.zero_le _, Nat.zero_le _⟩
    refine ⟨_, fun _ => hc, ?_⟩
    conv => whnf
    exact ⟨rfl, y, rfl, hy⟩
  · have e6 := e
    rw [e]
    conv => whnf
    obtain ⟨a1, ha1, hca⟩ := call57s [[99, 97], [99, 111]] q.a (by decide) (by decide) 8 rfl
    refine ⟨_, fun _ => hca, ?_⟩
    conv => whnf
    obtain ⟨b1, hb1, hcb⟩ := call57s [[105, 115, 108, 97, 109, 105, 99, 99], [97, 98, 49], [112, 104, 111, 110, 101, 98, 107]] q.b (by decide) (by decide) 8 rfl
    refine ⟨_, fun _ => hcb, ?_⟩
    conv => whnf
    obtain ⟨l1, hl1, hcl⟩ := call57s [[99, 105, 118, 105, 108], [116, 114, 117, 101], [115, 116, 97, 110, 100, 97, 114, 100]] q.l (by decide) (by decide) 8 rfl
    refine ⟨_, fun _ => hcl, ?_⟩
    conv => whnf
    obtain ⟨y, hy, hc⟩ := spoilt12 ⟨7, a1, b1, l1, [], []⟩ ((IntKind.i64.wrap (q.o.tmod 9 + 9)).tmod 9) ⟨⟨by simp, by simp⟩, ha1, hb1, hl1, Nat.zero_le _, Nat.zero_le _⟩
    refine ⟨_, fun _ => hc, ?_⟩
    conv => whnf
    exact ⟨rfl, y, rfl, hy⟩
theorem made12 (q : Sd12) : ∃ y : Al, okA 9 y ∧ CallsTo Tryz.prog 53 [q.d] y.d := by
  obtain ⟨d, ⟨y, rfl, hy⟩, hc⟩ := callsQ Tryz.func53 rfl (by decide) (run53 q)
  exact ⟨y, hy, hc⟩
end Go.Proofs.YtnooelecdbbfkaaGreatDoor.Fw

/- Images of plain numbers: rest, likely rows, rules, and what is spoilt. -/
namespace Go.Proofs.YtnooelecdbbfkaaGreatDoor.Fw
open Go Go.RowKit
set_option linter.unusedSectionVars false
variable [Inhabited GLT]
set_option maxRecDepth 100000
set_option maxHeartbeats 4000000
theorem run52 (x n : Int) (h : 0 < n) : Runs Tryz.prog T 12 (Tryz.f52.body.getD .skip) Tryz.f52.results.toList [.int .i64 x, .int .i64 n] (.int .i64 ((IntKind.i64.wrap (x.tmod n + n)).tmod n)) := by
  refine ⟨Nat.le_of_ble_eq_true rfl, ?_⟩
  conv => whnf
  refine sideB_intro (fun _ => decide_eq_true (by omega)) ?_
  conv => whnf
  refine sideB_intro (fun _ => decide_eq_true (by omega)) ?_
  conv => whnf
  exact ⟨rfl, rfl⟩
theorem call52 (x : Int) (n : Nat) (h : 0 < n) (h2 : n ≤ 1000000) : ∃ i : Nat, i < n ∧ CallsTo Tryz.prog 52 [.int .i64 x, .int .i64 (n : Int)] (.int .i64 (i : Int)) := by
  obtain ⟨i, hi, e⟩ := rest_nat' x n h h2
  have := calls Tryz.func52 rfl (by decide) (run52 x (n : Int) (by omega))
  rw [e] at this
  exact ⟨i, hi, this⟩
def okK (n : Nat) (x : Lk) : Prop := (1 ≤ x.l.length ∧ x.l.length ≤ n) ∧ x.s.length ≤ n ∧ x.r.length ≤ n ∧ x.tl.length ≤ n ∧ x.ts.length ≤ n ∧ x.tr.length ≤ n
theorem get_ok {l : List S8} {n : Nat} (hn : l.all (fun s => Nat.ble s.length n) = true) {i : Nat} (h : i < l.length) : (l[i]).length ≤ n := Nat.le_of_ble_eq_true (List.all_eq_true.1 hn _ (List.getElem_mem h))
def lk1 : List S8 := [[101, 110], [122, 104], [115, 114], [104, 101], [100, 101], [114, 117], [102, 105, 108], [114, 111]]
def lk2 : List S8 := [[108, 97, 116, 110], [104, 97, 110, 115], [99, 121, 114, 108], [104, 101, 98, 114], [108, 97, 116, 110], [99, 121, 114, 108], [108, 97, 116, 110], [108, 97, 116, 110]]
def lk3 : List S8 := [[117, 115], [99, 110], [114, 115], [105, 108], [100, 101], [114, 117], [112, 104], [114, 111]]
theorem run55 (n : Int) : RunsQ Tryz.prog T 98 (Tryz.f55.body.getD .skip) Tryz.f55.results.toList [.int .i64 n] (fun d => ∃ L : List Lk, d = .sl 0 6 (L.map Lk.d) ∧ L.length ≤ 2 ∧ ∀ x ∈ L, okK 4 x) := by
  refine ⟨Nat.le_of_ble_eq_true rfl, ?_⟩
  conv => whnf
  obtain ⟨i, hi, hc⟩ := call52 n 8 (by decide) (by decide)
  obtain ⟨k, hk, hc2⟩ := call52 (IntKind.i64.wrap (n.tdiv 8)) 6 (by decide) (by decide)
  have g1 : ∀ l : List S8, l.length = 8 → ∀ e : S8, (∃ h : i < l.length, l[i] = e) → (l.map D.str).getD (Int.toNat (i : Int)) .undef = .str e := fun l hl e ⟨h, he⟩ => by rw [getD_map h, he]
  refine ⟨_, fun _ => hc, ?_⟩
  conv => whnf
  have e1 : ([.str [101, 110], .str [122, 104], .str [115, 114], .str [104, 101], .str [100, 101], .str [114, 117], .str [102, 105, 108], .str [114, 111]] : List D).getD (Int.toNat (i : Int)) .undef = .str (lk1[i]'hi) := getD_map (enc := D.str) (xs := lk1) hi
  have e2 : ([.str [108, 97, 116, 110], .str [104, 97, 110, 115], .str [99, 121, 114, 108], .str [104, 101, 98, 114], .str [108, 97, 116, 110], .str [99, 121, 114, 108], .str [108, 97, 116, 110], .str [108, 97, 116, 110]] : List D).getD (Int.toNat (i : Int)) .undef = .str (lk2[i]'hi) := getD_map (enc := D.str) (xs := lk2) hi
  have e3 : ([.str [117, 115], .str [99, 110], .str [114, 115], .str [105, 108], .str [100, 101], .str [114, 117], .str [112, 104], .str [114, 111]] : List D).getD (Int.toNat (i : Int)) .undef = .str (lk3[i]'hi) := getD_map (enc := D.str) (xs := lk3) hi
  have h1 : 1 ≤ (lk1[i]'hi).length ∧ (lk1[i]'hi).length ≤ 4 := ⟨Nat.le_of_ble_eq_true (List.all_eq_true.1 (show (lk1.all fun s => Nat.ble 1 s.length) = true from rfl) _ (List.getElem_mem hi)), get_ok rfl hi⟩
  have h2 : (lk2[i]'hi).length ≤ 4 := get_ok rfl hi
  have h3 : (lk3[i]'hi).length ≤ 4 := get_ok rfl hi
  revert e1 e2 e3 h1 h2 h3
  generalize (lk1[i]'hi) = l
  generalize (lk2[i]'hi) = s
  generalize (lk3[i]'hi) = r
  intro e1 e2 e3 h1 h2 h3
  refine sideB_intro (fun _ => decide_eq_true ⟨by omega, by show (i : Int) < 8; omega⟩) ?_
  conv => whnf
  rw [e2]
  conv => whnf
  refine sideB_intro (fun _ => decide_eq_true ⟨by omega, by show (i : Int) < 8; omega⟩) ?_
  conv => whnf
  rw [e3]
  conv => whnf
  refine ⟨rfl, ?_⟩
  conv => whnf
  refine sideB_intro (fun _ => decide_eq_true ⟨by omega, by show (i : Int) < 8; omega⟩) ?_
  conv => whnf
  rw [e1]
  conv => whnf
  refine sideB_intro (fun _ => decide_eq_true ⟨by omega, by show (i : Int) < 8; omega⟩) ?_
  conv => whnf
  rw [e1]
  conv => whnf
  refine ⟨_, fun _ => hc2, ?_⟩
  conv => whnf
  clear hc hc2 g1
  have hk6 : k = 0 ∨ k = 1 ∨ k = 2 ∨ k = 3 ∨ k = 4 ∨ k = 5 := by omega
  rcases hk6 with rfl | rfl | rfl | rfl | rfl | rfl
  · conv => whnf
    exact ⟨rfl, [⟨l, [], [], l, s, r⟩], rfl, by simp, fun x hx => by simp at hx; subst hx; exact ⟨h1, Nat.zero_le _, Nat.zero_le _, h1.2, h2, h3⟩⟩
  · conv => whnf
    refine ⟨rfl, ?_⟩
    conv => whnf
    refine sideB_intro (fun _ => decide_eq_true ⟨by omega, by show (i : Int) < 8; omega⟩) ?_
    conv => whnf
    rw [e1]
    conv => whnf
    refine sideB_intro (fun _ => decide_eq_true ⟨by omega, by show (i : Int) < 8; omega⟩) ?_
    conv => whnf
    rw [e1]
    conv => whnf
    exact ⟨rfl, [⟨l, [], [], l, s, r⟩, ⟨l, [], [52, 49, 57], l, [108, 97, 116, 110], [52, 49, 57]⟩], rfl, by simp, fun x hx => by simp at hx; rcases hx with rfl | rfl; exact ⟨h1, Nat.zero_le _, Nat.zero_le _, h1.2, h2, h3⟩; exact ⟨h1, Nat.zero_le _, by simp, h1.2, by simp, by simp⟩⟩
  · conv => whnf
    refine ⟨rfl, ?_⟩
    conv => whnf
    refine sideB_intro (fun _ => decide_eq_true ⟨by omega, by show (i : Int) < 8; omega⟩) ?_
    conv => whnf
    rw [e1]
    conv => whnf
    exact ⟨rfl, [⟨l, [], [], l, s, r⟩, ⟨[117, 110, 100], s, [], l, s, r⟩], rfl, by simp, fun x hx => by simp at hx; rcases hx with rfl | rfl; exact ⟨h1, Nat.zero_le _, Nat.zero_le _, h1.2, h2, h3⟩; exact ⟨by simp, h2, Nat.zero_le _, h1.2, h2, h3⟩⟩
  · conv => whnf
    refine ⟨rfl, ?_⟩
    conv => whnf
    refine sideB_intro (fun _ => decide_eq_true ⟨by omega, by show (i : Int) < 8; omega⟩) ?_
    conv => whnf
    rw [e1]
    conv => whnf
    refine sideB_intro (fun _ => decide_eq_true ⟨by omega, by show (i : Int) < 8; omega⟩) ?_
    conv => whnf
    rw [e1]
    conv => whnf
    exact ⟨rfl, [⟨l, [], [], l, s, r⟩, ⟨l, [104, 97, 110, 116], [], l, [104, 97, 110, 116], [116, 119]⟩], rfl, by simp, fun x hx => by simp at hx; rcases hx with rfl | rfl; exact ⟨h1, Nat.zero_le _, Nat.zero_le _, h1.2, h2, h3⟩; exact ⟨h1, by simp, Nat.zero_le _, h1.2, by simp, by simp⟩⟩
  · conv => whnf
    refine ⟨rfl, ?_⟩
    conv => whnf
    refine sideB_intro (fun _ => decide_eq_true ⟨by omega, by show (i : Int) < 8; omega⟩) ?_
    conv => whnf
    rw [e1]
    conv => whnf
    exact ⟨rfl, [⟨l, [], [], l, s, r⟩, ⟨[117, 110, 100], [], r, l, s, r⟩], rfl, by simp, fun x hx => by simp at hx; rcases hx with rfl | rfl; exact ⟨h1, Nat.zero_le _, Nat.zero_le _, h1.2, h2, h3⟩; exact ⟨by simp, Nat.zero_le _, h3, h1.2, h2, h3⟩⟩
  · conv => whnf
    refine ⟨rfl, ?_⟩
    conv => whnf
    refine sideB_intro (fun _ => decide_eq_true ⟨by omega, by show (i : Int) < 8; omega⟩) ?_
    conv => whnf
    rw [e1]
    conv => whnf
    refine sideB_intro (fun _ => decide_eq_true ⟨by omega, by show (i : Int) < 8; omega⟩) ?_
    conv => whnf
    rw [e1]
    conv => whnf
    exact ⟨rfl, [⟨l, [], [], l, s, r⟩, ⟨l, [108, 97, 116, 110], [103, 98], l, [108, 97, 116, 110], [103, 98]⟩], rfl, by simp, fun x hx => by simp at hx; rcases hx with rfl | rfl; exact ⟨h1, Nat.zero_le _, Nat.zero_le _, h1.2, h2, h3⟩; exact ⟨h1, by simp, by simp, h1.2, by simp, by simp⟩⟩
theorem likely13 (n : Int) : ∃ L : List Lk, L.length ≤ 2 ∧ (∀ x ∈ L, okK 4 x) ∧ CallsTo Tryz.prog 55 [.int .i64 n] (.sl 0 6 (L.map Lk.d)) := by
  obtain ⟨d, ⟨L, rfl, h1, h2⟩, hc⟩ := callsQ Tryz.func55 rfl (by decide) (run55 n)
  exact ⟨L, h1, h2, hc⟩
def okU (n : Nat) (x : Ru) : Prop := (0 ≤ x.lv ∧ x.lv ≤ 4) ∧ (0 ≤ x.n ∧ x.n ≤ 100) ∧ x.d0.length ≤ n ∧ x.d1.length ≤ n ∧ x.d2.length ≤ n ∧ x.s0.length ≤ n ∧ x.s1.length ≤ n ∧ x.s2.length ≤ n
theorem run56 (n : Int) : RunsQ Tryz.prog T 70 (Tryz.f56.body.getD .skip) Tryz.f56.results.toList [.int .i64 n] (fun d => ∃ y : Ru, d = y.d ∧ okU 4 y) := by
  refine ⟨Nat.le_of_ble_eq_true rfl, ?_⟩
  conv => whnf
  obtain ⟨i, hi, hc⟩ := call52 n 9 (by decide) (by decide)
  obtain ⟨j, hj, hc2⟩ := call52 (IntKind.i64.wrap (n.tdiv 9)) 101 (by decide) (by decide)
  obtain ⟨k, hk, hc3⟩ := call52 (IntKind.i64.wrap (n.tdiv 3)) 2 (by decide) (by decide)
  refine ⟨_, fun _ => hc, ?_⟩
  conv => whnf
  refine ⟨_, fun _ => hc2, ?_⟩
  conv => whnf
  refine ⟨_, fun _ => hc3, ?_⟩
  conv => whnf
  clear hc hc2 hc3
  have hi9 : i = 0 ∨ i = 1 ∨ i = 2 ∨ i = 3 ∨ i = 4 ∨ i = 5 ∨ i = 6 ∨ i = 7 ∨ i = 8 := by omega
  have hj2 : (j : Int) ≤ 100 := by omega
  rcases hi9 with rfl | rfl | rfl | rfl | rfl | rfl | rfl | rfl | rfl
  · conv => whnf
    exact ⟨rfl, ⟨1, (j : Int), (k : Int) == 1, [110, 111], [], [], [100, 101], [], []⟩, rfl, by simp [okU, hj2]⟩
  · conv => whnf
    exact ⟨rfl, ⟨1, (j : Int), (k : Int) == 1, [101, 110], [], [], [42], [], []⟩, rfl, by simp [okU, hj2]⟩
  · conv => whnf
    exact ⟨rfl, ⟨1, (j : Int), (k : Int) == 1, [115, 114], [], [], [114, 117], [], []⟩, rfl, by simp [okU, hj2]⟩
  · conv => whnf
    exact ⟨rfl, ⟨2, (j : Int), (k : Int) == 1, [42], [104, 97, 110, 116], [], [122, 104], [104, 97, 110, 115], []⟩, rfl, by simp [okU, hj2]⟩
  · conv => whnf
    exact ⟨rfl, ⟨2, (j : Int), (k : Int) == 1, [42], [104, 97, 110, 116], [], [122, 104], [42], []⟩, rfl, by simp [okU, hj2]⟩
  · conv => whnf
    exact ⟨rfl, ⟨3, (j : Int), (k : Int) == 1, [42], [42], [36, 101, 117], [42], [108, 97, 116, 110], [33, 101, 117]⟩, rfl, by simp [okU, hj2]⟩
  · conv => whnf
    exact ⟨rfl, ⟨3, (j : Int), (k : Int) == 1, [42], [42], [117, 115], [42], [108, 97, 116, 110], [36, 101, 117]⟩, rfl, by simp [okU, hj2]⟩
  · conv => whnf
    exact ⟨rfl, ⟨3, (j : Int), (k : Int) == 1, [101, 110], [42], [103, 98], [101, 110], [42], [33, 101, 117]⟩, rfl, by simp [okU, hj2]⟩
  · conv => whnf
    exact ⟨rfl, ⟨3, (j : Int), (k : Int) == 1, [101, 110], [42], [103, 98], [101, 110], [42], [33, 101, 117]⟩, rfl, by simp [okU, hj2]⟩
theorem rule13 (n : Int) : ∃ y : Ru, okU 4 y ∧ CallsTo Tryz.prog 56 [.int .i64 n] y.d := by
  obtain ⟨d, ⟨y, rfl, hy⟩, hc⟩ := callsQ Tryz.func56 rfl (by decide) (run56 n)
  exact ⟨y, hy, hc⟩
/-- An image, and how long its rows and texts are. -/
structure Img where
  xs : List Al
  ls : List Lk
  rs : List Ru
  ms : List Me
  th : Int
  dm : Int
def Img.d (m : Img) : D := imgD m.xs m.ls (m.rs.map Ru.d) (m.ms.map Me.d) m.th m.dm
def okM (n : Nat) (x : Me) : Prop := x.set.length ≤ n ∧ x.m.length ≤ n
structure Img.ok (m : Img) (na nl nr nm : Nat) : Prop where
  xs : m.xs.length ≤ na ∧ ∀ x ∈ m.xs, okA 9 x
  ls : m.ls.length ≤ nl ∧ ∀ x ∈ m.ls, okK 4 x
  rs : m.rs.length ≤ nr ∧ ∀ x ∈ m.rs, okU 4 x
  ms : m.ms.length ≤ nm ∧ ∀ x ∈ m.ms, okM 3 x
  th : 0 ≤ m.th ∧ m.th ≤ 256
  dm : 0 ≤ m.dm ∧ m.dm ≤ 29
theorem all_app {α : Type} {p : α → Prop} {l m : List α} {n k : Nat} (h : l.length ≤ n ∧ ∀ x ∈ l, p x) (hm : ∀ x ∈ m, p x) (hk : n + m.length ≤ k) : (l ++ m).length ≤ k ∧ ∀ x ∈ l ++ m, p x := by
  refine ⟨by rw [List.length_append]; omega, fun x hx => ?_⟩
  rcases List.mem_append.1 hx with hx | hx
  · exact h.2 x hx
  · exact hm x hx
theorem all_le {α : Type} {p : α → Prop} {l : List α} {n k : Nat} (h : l.length ≤ n ∧ ∀ x ∈ l, p x) (hk : n ≤ k) : l.length ≤ k ∧ ∀ x ∈ l, p x := ⟨Nat.le_trans h.1 hk, h.2⟩
theorem run58 (xs : List Al) (ls : List Lk) (rs : List Ru) (ms : List Me) (th dm : Int) (odd : Int) (h : (⟨xs, ls, rs, ms, th, dm⟩ : Img).ok 8 16 11 7) (hr : 1 ≤ rs.length) : RunsM Tryz.prog T 71 (Tryz.f58.body.getD .skip) Tryz.f58.results.toList [] [(145, 55), (147, 23), (149, 26), (151, 35)] [.agg [.sl 145 6 (xs.map Al.d), .sl 147 6 (ls.map Lk.d), .sl 149 9 (rs.map Ru.d), .sl 151 2 (ms.map Me.d), .int .i64 th, .int .i64 dm], .int .i64 odd] (fun d bx' => bx' = [] ∧ ∃ m : Img, d = m.d ∧ m.ok 10 17 12 8) [] := by
  refine ⟨Nat.le_of_ble_eq_true rfl, rfl, ?_⟩
  conv => whnf
  obtain ⟨h1, h2, h3, h4, h5, h6⟩ := h
  simp only at h1 h2 h3 h4 h5 h6
  refine ifB_intro (fun c1 => ?_) (fun c1 => ?_)
  · conv => whnf
    refine sideB_intro (fun _ => decide_eq_true (by simp; omega)) ?_
    conv => whnf
    exact ⟨rfl, rfl, ⟨xs ++ [⟨4, [113, 113, 113, 113], [], [], [108, 97, 116, 110], []⟩, ⟨4, [113, 113, 113, 113], [], [], [97, 114, 97, 98], []⟩], ls, rs, ms, th, dm⟩, by simp only [Img.d, imgD, List.map_append]; rfl, all_app h1 (by intro x hx; simp at hx; rcases hx with rfl | rfl <;> simp [okA]) (by decide), all_le h2 (by decide), all_le h3 (by decide), all_le h4 (by decide), h5, h6⟩
  conv => whnf
  refine ifB_intro (fun c1 => ?_) (fun c1 => ?_)
  · conv => whnf
    refine sideB_intro (fun _ => decide_eq_true (by simp; omega)) ?_
    conv => whnf
    exact ⟨rfl, rfl, ⟨xs, ls ++ [⟨[106, 97], [], [], [106, 97], [], [106, 112]⟩], rs, ms, th, dm⟩, by simp only [Img.d, imgD, List.map_append]; rfl, all_le h1 (by decide), all_app h2 (by intro x hx; simp at hx; subst hx; simp [okK]) (by decide), all_le h3 (by decide), all_le h4 (by decide), h5, h6⟩
  conv => whnf
  refine ifB_intro (fun c1 => ?_) (fun c1 => ?_)
  · conv => whnf
    refine sideB_intro (fun _ => decide_eq_true (by simp; omega)) ?_
    conv => whnf
    exact ⟨rfl, rfl, ⟨xs, ls, rs ++ [⟨4, 0, false, [], [], [], [], [], []⟩], ms, th, dm⟩, by simp only [Img.d, imgD, List.map_append]; rfl, all_le h1 (by decide), all_le h2 (by decide), all_app h3 (by intro x hx; simp at hx; subst hx; simp [okU]) (by decide), all_le h4 (by decide), h5, h6⟩
  conv => whnf
  refine ifB_intro (fun c1 => ?_) (fun c1 => ?_)
  · conv => whnf
    refine sideB_intro (fun _ => decide_eq_true (by simp; omega)) ?_
    conv => whnf
    exact ⟨rfl, rfl, ⟨xs, ls, rs, ms ++ [⟨[101, 117], []⟩], th, dm⟩, by simp only [Img.d, imgD, List.map_append]; rfl, all_le h1 (by decide), all_le h2 (by decide), all_le h3 (by decide), all_app h4 (by intro x hx; simp at hx; subst hx; simp [okM]) (by decide), h5, h6⟩
  conv => whnf
  refine ifB_intro (fun c1 => ?_) (fun c1 => ?_)
  · conv => whnf
    exact ⟨rfl, rfl, ⟨xs, ls, rs, ms, 256, dm⟩, rfl, all_le h1 (by decide), all_le h2 (by decide), all_le h3 (by decide), all_le h4 (by decide), ⟨by simp, by simp⟩, h6⟩
  conv => whnf
  refine ifB_intro (fun c1 => ?_) (fun c1 => ?_)
  · conv => whnf
    refine sideB_intro (fun _ => decide_eq_true (by simp; omega)) ?_
    conv => whnf
    exact ⟨rfl, rfl, ⟨xs, ls ++ [⟨[106, 97], [], [], [106, 98], [106, 112, 97, 110], [106, 112]⟩], rs, ms, th, dm⟩, by simp only [Img.d, imgD, List.map_append]; rfl, all_le h1 (by decide), all_app h2 (by intro x hx; simp at hx; subst hx; simp [okK]) (by decide), all_le h3 (by decide), all_le h4 (by decide), h5, h6⟩
  conv => whnf
  refine ifB_intro (fun c1 => ?_) (fun c1 => ?_)
  · have hw : IntKind.i64.wrap (((rs.map Ru.d).length : Int) - 1) = ((rs.length - 1 : Nat) : Int) := by rw [IntKind.wrap_i64, List.length_map]; omega
    conv => whnf
    rw [hw]
    refine sideB_intro (fun _ => decide_eq_true (by rw [List.length_map]; omega)) ?_
    conv => whnf
    have ht : sliceD (rs.map Ru.d) 0 (rs.length - 1) = (rs.take (rs.length - 1)).map Ru.d := by simp [sliceD]
    refine ⟨rfl, rfl, ⟨xs, ls, rs.take (rs.length - 1), ms, th, dm⟩, ?_, all_le h1 (by decide), all_le h2 (by decide), ⟨by simp; omega, fun x hx => h3.2 x (List.mem_of_mem_take hx)⟩, all_le h4 (by decide), h5, h6⟩
    simp only [Img.d, imgD]
    rw [← ht]
    rfl
  conv => whnf
  refine ifB_intro (fun c1 => ?_) (fun c1 => ?_)
  · conv => whnf
    refine sideB_intro (fun _ => decide_eq_true (by simp; omega)) ?_
    conv => whnf
    exact ⟨rfl, rfl, ⟨xs, ls, ⟨3, 0, false, [42], [42], [36, 97, 115], [42], [42], [42]⟩ :: rs, ms, th, dm⟩, rfl, all_le h1 (by decide), all_le h2 (by decide), ⟨by simp; omega, fun x hx => by
      rcases List.mem_cons.1 hx with rfl | hx
      · simp [okU]
      · exact h3.2 x hx⟩, all_le h4 (by decide), h5, h6⟩
  conv => whnf
  exact ⟨rfl, rfl, ⟨xs, ls, rs, ms, th, dm⟩, rfl, all_le h1 (by decide), all_le h2 (by decide), all_le h3 (by decide), all_le h4 (by decide), h5, h6⟩
theorem run123 (a b : S8) : RunsQ Tryz.prog T 11 (Tryz.f123.body.getD .skip) Tryz.f123.results.toList [.str a, .str b] (fun d => ∃ n, d = .int .i64 n) := by
  refine ⟨Nat.le_of_ble_eq_true rfl, ?_⟩
  conv => whnf
  refine ifB_intro (fun h => ?_) (fun h => ?_)
  · conv => whnf
    exact ⟨rfl, _, rfl⟩
  conv => whnf
  refine ifB_intro (fun h => ?_) (fun h => ?_)
  · conv => whnf
    exact ⟨rfl, _, rfl⟩
  conv => whnf
  exact ⟨rfl, _, rfl⟩
theorem order12 : ∃ F : S8 → S8 → Int, ∀ a b, CallsTo Tryz.prog 123 [.str a, .str b] (.int .i64 (F a b)) := by
  have : ∀ a b : S8, ∃ n, CallsTo Tryz.prog 123 [.str a, .str b] (.int .i64 n) := fun a b => by
    obtain ⟨d, ⟨n, rfl⟩, hc⟩ := callsQ Tryz.func123 rfl (by decide) (run123 a b)
    exact ⟨n, hc⟩
  exact ⟨fun a b => Classical.choose (this a b), fun a b => Classical.choose_spec (this a b)⟩
theorem run54 (x y : Al) : RunsQ Tryz.prog T 29 (Tryz.f54.body.getD .skip) Tryz.f54.results.toList [x.d, y.d] (fun d => ∃ n, d = .int .i64 n) := by
  refine ⟨Nat.le_of_ble_eq_true rfl, ?_⟩
  conv => whnf
  obtain ⟨F, hF⟩ := order12
  refine ifB_intro (fun h => ?_) (fun h => ?_)
  · conv => whnf
    exact ⟨rfl, _, rfl⟩
  conv => whnf
  refine ifB_intro (fun h => ?_) (fun h => ?_)
  · conv => whnf
    exact ⟨rfl, _, rfl⟩
  conv => whnf
  refine ⟨_, fun _ => hF x.a y.a, ?_⟩
  conv => whnf
  refine ifB_intro (fun h => ?_) (fun h => ?_)
  · conv => whnf
    exact ⟨rfl, _, rfl⟩
  conv => whnf
  refine ⟨_, fun _ => hF x.b y.b, ?_⟩
  conv => whnf
  exact ⟨rfl, _, rfl⟩
theorem compare12 : ∃ F : Al → Al → Int, ∀ a b, CallsTo Tryz.prog 54 [a.d, b.d] (.int .i64 (F a b)) := by
  have : ∀ a b : Al, ∃ n, CallsTo Tryz.prog 54 [a.d, b.d] (.int .i64 n) := fun a b => by
    obtain ⟨d, ⟨n, rfl⟩, hc⟩ := callsQ Tryz.func54 rfl (by decide) (run54 a b)
    exact ⟨n, hc⟩
  exact ⟨fun a b => Classical.choose (this a b), fun a b => Classical.choose_spec (this a b)⟩
end Go.Proofs.YtnooelecdbbfkaaGreatDoor.Fw

/- The law of what may stand in an image. -/
namespace Go.Proofs.YtnooelecdbbfkaaGreatDoor.Fw
open Go Go.RowKit
set_option linter.unusedSectionVars false
variable [Inhabited GLT]
set_option maxRecDepth 100000
set_option maxHeartbeats 400000000
def cutT (s : S8) : S8 := s.take 10
theorem cutT_len (s : S8) : (cutT s).length ≤ 1000000 := by simp [cutT]; omega
theorem run12 (s : S8) : Runs Tryz.prog T 9 (Tryz.f12.body.getD .skip) Tryz.f12.results.toList [.str s] (.str (cutT s)) := by
  refine ⟨Nat.le_of_ble_eq_true rfl, ?_⟩
  conv => whnf
  refine ifB_intro (fun h => ?_) (fun h => ?_)
  · have h : (10 : Int) < (s.length : Int) := of_decide_eq_true h
    conv => whnf
    refine sideB_intro (fun _ => decide_eq_true (by omega)) ?_
    conv => whnf
    exact ⟨rfl, rfl⟩
  · have h : ¬ (10 : Int) < (s.length : Int) := of_decide_eq_false h
    conv => whnf
    exact ⟨rfl, congrArg D.str (List.take_of_length_le (by omega)).symm⟩
theorem call12 (s : S8) : CallsTo Tryz.prog 12 [.str s] (.str (cutT s)) := calls Tryz.func12 rfl (by decide) (run12 s)
theorem run13 (x n : Int) (h : 0 < n) : Runs Tryz.prog T 12 (Tryz.f13.body.getD .skip) Tryz.f13.results.toList [.int .i64 x, .int .i64 n] (.int .i64 ((IntKind.i64.wrap (x.tmod n + n)).tmod n)) := by
  refine ⟨Nat.le_of_ble_eq_true rfl, ?_⟩
  conv => whnf
  refine sideB_intro (fun _ => decide_eq_true (by omega)) ?_
  conv => whnf
  refine sideB_intro (fun _ => decide_eq_true (by omega)) ?_
  conv => whnf
  exact ⟨rfl, rfl⟩
theorem call13 (x n : Int) (h : 0 < n) : CallsTo Tryz.prog 13 [.int .i64 x, .int .i64 n] (.int .i64 ((IntKind.i64.wrap (x.tmod n + n)).tmod n)) := calls Tryz.func13 rfl (by decide) (run13 x n h)
theorem ne_self (x : Bool) : (x != x) = false := by cases x <;> rfl
theorem run3 (l s r tl ts tr d0 d1 d2 s0 s1 s2 : S8) (lv n : Int) (one : Bool) (al ql qr qm : List D) (th dm o : Int) (m : Img) (hm : m.ok 10 17 12 8)
    (hc : CallsTo Tryz.prog 20 [.agg [.sl 0 7 al, .sl 0 1 ql, .sl 0 1 qr, .sl 0 1 qm, .int .i64 th, .int .i64 dm, .int .i64 o]] m.d) :
    Runs Tryz.prog T 170 (Tryz.f3.body.getD .skip) Tryz.f3.results.toList [.agg [.str l, .str s, .str r, .str tl, .str ts, .str tr], .agg [.int .i64 lv, .int .i64 n, .bool one, .str d0, .str d1, .str d2, .str s0, .str s1, .str s2],
      .agg [.sl 0 7 al, .sl 0 1 ql, .sl 0 1 qr, .sl 0 1 qm, .int .i64 th, .int .i64 dm, .int .i64 o]] (.bool true) := by
  obtain ⟨xs, ls, rs, ms, mth, mdm⟩ := m
  have hc : CallsTo Tryz.prog 20 [.agg [.sl 0 7 al, .sl 0 1 ql, .sl 0 1 qr, .sl 0 1 qm, .int .i64 th, .int .i64 dm, .int .i64 o]] (.agg [.sl 0 6 (xs.map Al.d), .sl 0 6 (ls.map Lk.d), .sl 0 9 (rs.map Ru.d), .sl 0 2 (ms.map Me.d), .int .i64 mth, .int .i64 mdm]) := hc
  refine ⟨Nat.le_of_ble_eq_true rfl, ?_⟩
  conv => whnf
  refine ⟨_, fun _ => call11, ?_⟩
  conv => whnf
  refine ⟨rfl, ?_⟩
  conv => whnf
  refine ⟨_, fun _ => call12 l, ?_⟩
  conv => whnf
  refine ⟨_, fun _ => call12 s, ?_⟩
  conv => whnf
  refine ⟨_, fun _ => call12 r, ?_⟩
  conv => whnf
  refine ⟨_, fun _ => call12 tl, ?_⟩
  conv => whnf
  refine ⟨_, fun _ => call12 ts, ?_⟩
  conv => whnf
  refine ⟨_, fun _ => call12 tr, ?_⟩
  conv => whnf
  refine ⟨[], ?_⟩
  conv => whnf
  refine ⟨4, ?_⟩
  conv => whnf
  refine ⟨_, fun _ => call12 d0, ?_⟩
  conv => whnf
  refine ⟨_, fun _ => call12 s0, ?_⟩
  conv => whnf
  refine ⟨_, fun _ => call12 d1, ?_⟩
  conv => whnf
  refine ⟨_, fun _ => call12 s1, ?_⟩
  conv => whnf
  refine ⟨_, fun _ => call12 d2, ?_⟩
  conv => whnf
  refine ⟨_, fun _ => call12 s2, ?_⟩
  conv => whnf
  refine ⟨_, fun _ => call13 lv 5 (by decide), ?_⟩
  conv => whnf
  refine ⟨_, fun _ => call13 n 103 (by decide), ?_⟩
  conv => whnf
  refine ⟨rfl, ?_⟩
  conv => whnf
  refine ⟨_, fun _ => call12 l, ?_⟩
  conv => whnf
  refine ⟨_, fun _ => call12 r, ?_⟩
  conv => whnf
  refine ⟨rfl, ?_⟩
  conv => whnf
  refine ⟨_, fun _ => call14 _ _ _ _ _ _ (cutT_len _) (cutT_len _) (cutT_len _) (cutT_len _) (cutT_len _) (cutT_len _), ?_⟩
  conv => whnf
  refine ⟨_, fun _ => call15 _ _ _ _ _ _ (cutT_len _) (cutT_len _) (cutT_len _) (cutT_len _) (cutT_len _) (cutT_len _), ?_⟩
  conv => whnf
  refine ⟨_, fun _ => call16 _ _ _ _ _ _ _ _ _ (cutT_len _) (cutT_len _) (cutT_len _) (cutT_len _) (cutT_len _) (cutT_len _), ?_⟩
  conv => whnf
  refine ⟨_, fun _ => call17 _ _ _ _ _ _ _ _ _ (cutT_len _) (cutT_len _) (cutT_len _) (cutT_len _) (cutT_len _) (cutT_len _), ?_⟩
  conv => whnf
  refine ⟨_, fun _ => call16 _ _ _ _ _ _ _ _ _ (cutT_len _) (cutT_len _) (cutT_len _) (cutT_len _) (cutT_len _) (cutT_len _), ?_⟩
  conv => whnf
  refine ⟨_, fun _ => call17 _ _ _ _ _ _ _ _ _ (cutT_len _) (cutT_len _) (cutT_len _) (cutT_len _) (cutT_len _) (cutT_len _), ?_⟩
  conv => whnf
  refine ⟨_, fun _ => call18 _ _ (cutT_len _) (cutT_len _), ?_⟩
  conv => whnf
  refine ⟨_, fun _ => call19 _ _ (cutT_len _) (cutT_len _), ?_⟩
  conv => whnf
  refine ifB_intro (fun h => ?_) (fun h => ?_)
  · refine absurd (show (bif (bif (bif _ != _ then true else _ != _) then true else _ != _) then true else _ != _) = true from h) ?_
    rw [ne_self, ne_self, ne_self, ne_self]
    decide
  clear h
  conv => whnf
  refine ⟨_, fun _ => hc, ?_⟩
  conv => whnf
  have hbl : ls.length ≤ 17 := hm.ls.1
  have hbr : rs.length ≤ 12 := hm.rs.1
  have hbm : ms.length ≤ 8 := hm.ms.1
  refine ⟨[], ?_⟩
  conv => whnf
  refine loop_at (σ := Nat) (fun i env => env.setT 14 (.int .i64 (i : Int))) (fun i => ls.length - i) (fun i => i ≤ ls.length) 0 (Nat.zero_le _) rfl ?_
  rintro i hi ih
  conv => whnf
  refine ifB_intro (fun h => ?_) (fun h => ?_)
  · replace h : (i : Int) < ((ls.map Lk.d).length : Int) := of_decide_eq_true h
    rw [List.length_map] at h
    have hlt : i < ls.length := by omega
    have hw : IntKind.i64.wrap ((i : Int) + 1) = ((i + 1 : Nat) : Int) := by rw [IntKind.wrap_i64]; omega
    have ih' := ih (i + 1) hlt (by omega)
    clear ih
    obtain ⟨x, hx⟩ : ∃ x, ls[i]? = some x := ⟨_, List.getElem?_eq_getElem hlt⟩
    have hok := hm.ls.2 x (List.mem_of_getElem? hx)
    have hg : (ls.map Lk.d).getD (i : Int).toNat D.undef = Lk.d x := getD_enc (enc := Lk.d) (x := x) (show ls[(i : Int).toNat]? = some x from hx)
    conv => whnf
    refine ⟨rfl, ?_⟩
    conv => whnf
    refine sideB_intro (fun _ => decide_eq_true (by simp only [List.length_map]; omega)) ?_
    rw [hg]
    conv => whnf
    refine ⟨_, fun _ => call14 x.l x.s x.r x.tl x.ts x.tr (by have := hok.1.2; omega) (by have := hok.2.1; omega) (by have := hok.2.2.1; omega) (by have := hok.2.2.2.1; omega) (by have := hok.2.2.2.2.1; omega) (by have := hok.2.2.2.2.2; omega), ?_⟩
    conv => whnf
    refine sideB_intro (fun _ => decide_eq_true (by simp only [List.length_map]; omega)) ?_
    rw [hg]
    conv => whnf
    refine ⟨_, fun _ => call15 x.l x.s x.r x.tl x.ts x.tr (by have := hok.1.2; omega) (by have := hok.2.1; omega) (by have := hok.2.2.1; omega) (by have := hok.2.2.2.1; omega) (by have := hok.2.2.2.2.1; omega) (by have := hok.2.2.2.2.2; omega), ?_⟩
    conv => whnf
    refine ifB_intro (fun hne => ?_) (fun hne => ?_)
    · exact absurd (ne_self _) (by rw [show (_ != _) = true from hne]; decide)
    · conv => whnf
      rw [hw]
      exact ih'
  clear ih h
  conv => whnf
  refine ⟨[], ?_⟩
  conv => whnf
  refine loop_at (σ := Nat) (fun i env => env.setT 15 (.int .i64 (i : Int))) (fun i => rs.length - i) (fun i => i ≤ rs.length) 0 (Nat.zero_le _) rfl ?_
  rintro i hi ih
  conv => whnf
  refine ifB_intro (fun h => ?_) (fun h => ?_)
  · replace h : (i : Int) < ((rs.map Ru.d).length : Int) := of_decide_eq_true h
    rw [List.length_map] at h
    have hlt : i < rs.length := by omega
    have hw : IntKind.i64.wrap ((i : Int) + 1) = ((i + 1 : Nat) : Int) := by rw [IntKind.wrap_i64]; omega
    have ih' := ih (i + 1) hlt (by omega)
    clear ih
    obtain ⟨x, hx⟩ : ∃ x, rs[i]? = some x := ⟨_, List.getElem?_eq_getElem hlt⟩
    have hok := hm.rs.2 x (List.mem_of_getElem? hx)
    have hg : (rs.map Ru.d).getD (i : Int).toNat D.undef = Ru.d x := getD_enc (enc := Ru.d) (x := x) (show rs[(i : Int).toNat]? = some x from hx)
    conv => whnf
    refine ⟨rfl, ?_⟩
    conv => whnf
    refine sideB_intro (fun _ => decide_eq_true (by simp only [List.length_map]; omega)) ?_
    rw [hg]
    conv => whnf
    refine ⟨_, fun _ => call16 x.lv x.n x.one x.d0 x.d1 x.d2 x.s0 x.s1 x.s2 (by have := hok.2.2.1; omega) (by have := hok.2.2.2.1; omega) (by have := hok.2.2.2.2.1; omega) (by have := hok.2.2.2.2.2.1; omega) (by have := hok.2.2.2.2.2.2.1; omega) (by have := hok.2.2.2.2.2.2.2; omega), ?_⟩
    conv => whnf
    refine sideB_intro (fun _ => decide_eq_true (by simp only [List.length_map]; omega)) ?_
    rw [hg]
    conv => whnf
    refine ⟨_, fun _ => call17 x.lv x.n x.one x.d0 x.d1 x.d2 x.s0 x.s1 x.s2 (by have := hok.2.2.1; omega) (by have := hok.2.2.2.1; omega) (by have := hok.2.2.2.2.1; omega) (by have := hok.2.2.2.2.2.1; omega) (by have := hok.2.2.2.2.2.2.1; omega) (by have := hok.2.2.2.2.2.2.2; omega), ?_⟩
    conv => whnf
    refine ifB_intro (fun hne => ?_) (fun hne => ?_)
    · exact absurd (ne_self _) (by rw [show (_ != _) = true from hne]; decide)
    · conv => whnf
      rw [hw]
      exact ih'
  clear ih h
  conv => whnf
  refine ⟨[], ?_⟩
  conv => whnf
  refine loop_at (σ := Nat) (fun i env => env.setT 16 (.int .i64 (i : Int))) (fun i => ms.length - i) (fun i => i ≤ ms.length) 0 (Nat.zero_le _) rfl ?_
  rintro i hi ih
  conv => whnf
  refine ifB_intro (fun h => ?_) (fun h => ?_)
  · replace h : (i : Int) < ((ms.map Me.d).length : Int) := of_decide_eq_true h
    rw [List.length_map] at h
    have hlt : i < ms.length := by omega
    have hw : IntKind.i64.wrap ((i : Int) + 1) = ((i + 1 : Nat) : Int) := by rw [IntKind.wrap_i64]; omega
    have ih' := ih (i + 1) hlt (by omega)
    clear ih
    obtain ⟨x, hx⟩ : ∃ x, ms[i]? = some x := ⟨_, List.getElem?_eq_getElem hlt⟩
    have hok := hm.ms.2 x (List.mem_of_getElem? hx)
    have hg : (ms.map Me.d).getD (i : Int).toNat D.undef = Me.d x := getD_enc (enc := Me.d) (x := x) (show ms[(i : Int).toNat]? = some x from hx)
    conv => whnf
    refine ⟨rfl, ?_⟩
    conv => whnf
    refine sideB_intro (fun _ => decide_eq_true (by simp only [List.length_map]; omega)) ?_
    rw [hg]
    conv => whnf
    refine ⟨_, fun _ => call18 x.set x.m (by have := hok.1; omega) (by have := hok.2; omega), ?_⟩
    conv => whnf
    refine sideB_intro (fun _ => decide_eq_true (by simp only [List.length_map]; omega)) ?_
    rw [hg]
    conv => whnf
    refine ⟨_, fun _ => call19 x.set x.m (by have := hok.1; omega) (by have := hok.2; omega), ?_⟩
    conv => whnf
    refine ifB_intro (fun hne => ?_) (fun hne => ?_)
    · exact absurd (ne_self _) (by rw [show (_ != _) = true from hne]; decide)
    · conv => whnf
      rw [hw]
      exact ih'
  clear ih h
  conv => whnf
  exact ⟨rfl, rfl⟩
end Go.Proofs.YtnooelecdbbfkaaGreatDoor.Fw

/- Images of plain numbers: Made. -/
namespace Go.Proofs.YtnooelecdbbfkaaGreatDoor.Fw
open Go Go.RowKit
set_option linter.unusedSectionVars false
variable [Inhabited GLT]
set_option maxRecDepth 100000
set_option maxHeartbeats 100000000
structure Sd13 where
  al : List Sd12
  ls : List Int
  rs : List Int
  ms : List Int
  th : Int
  dm : Int
  o : Int
def Sd13.d (q : Sd13) : D := .agg [.sl 0 7 (q.al.map Sd12.d), .sl 0 1 (q.ls.map intD), .sl 0 1 (q.rs.map intD), .sl 0 1 (q.ms.map intD), .int .i64 q.th, .int .i64 q.dm, .int .i64 q.o]
theorem all_snoc {α : Type} {p : α → Prop} {l : List α} {x : α} {n : Nat} (h : l.length ≤ n ∧ ∀ y ∈ l, p y) (hx : p x) : (l ++ [x]).length ≤ n + 1 ∧ ∀ y ∈ l ++ [x], p y := all_app h (by intro y hy; rw [List.mem_singleton.1 hy]; exact hx) (Nat.le_refl _)
theorem all_succ {α : Type} {p : α → Prop} {l : List α} {n : Nat} (h : l.length ≤ n ∧ ∀ y ∈ l, p y) : l.length ≤ n + 1 ∧ ∀ y ∈ l, p y := all_le h (Nat.le_succ n)
theorem call58 (xs : List Al) (ls : List Lk) (rs : List Ru) (ms : List Me) (th dm : Int) (odd : Int) (h : (⟨xs, ls, rs, ms, th, dm⟩ : Img).ok 8 16 11 7) (hr : 1 ≤ rs.length) : ∃ m : Img, m.ok 10 17 12 8 ∧ CallsM Tryz.prog 58 [] [(145, 55), (147, 23), (149, 26), (151, 35)] [.agg [.sl 145 6 (xs.map Al.d), .sl 147 6 (ls.map Lk.d), .sl 149 9 (rs.map Ru.d), .sl 151 2 (ms.map Me.d), .int .i64 th, .int .i64 dm], .int .i64 odd] m.d [] [] := by
  obtain ⟨d, bx', ⟨rfl, m, rfl, hm⟩, hc⟩ := callsM Tryz.func58 rfl (by decide) (run58 xs ls rs ms th dm odd h hr)
  exact ⟨m, hm, hc⟩
abbrev T13 : Ty := Tm [58] []
theorem run20 (q : Sd13) : RunsQ Tryz.prog T13 238 (Tryz.f20.body.getD .skip) Tryz.f20.results.toList [q.d] (fun d => ∃ m : Img, d = m.d ∧ m.ok 10 17 12 8) := by
  refine ⟨Nat.le_of_ble_eq_true rfl, ?_⟩
  conv => whnf
  obtain ⟨cmp, hcmp⟩ := compare12
  obtain ⟨th, hth, hc1⟩ := call52 q.th 256 (by decide) (by decide)
  obtain ⟨dm, hdm, hc2⟩ := call52 q.dm 30 (by decide) (by decide)
  refine ⟨rfl, ?_⟩
  conv => whnf
  refine ⟨_, fun _ => hc1, ?_⟩
  conv => whnf
  refine ⟨_, fun _ => hc2, ?_⟩
  conv => whnf
  clear hc1 hc2
  refine ⟨[.keep 19, .nilB 3 0 55 6], ?_⟩
  conv => whnf
  refine loop_at (σ := Nat × List Al) (fun z env => Env.setC1 3 0 (.sl 2 6 (z.2.map Al.d)) (Env.setT 4 (.int .i64 (z.1 : Int)) env)) (fun z => 8 - z.1) (fun z => z.1 ≤ 8 ∧ z.2.length ≤ z.1 ∧ ∀ x ∈ z.2, okA 9 x) (0, []) ⟨by decide, by decide, by simp⟩ rfl ?_
  rintro ⟨i, xs⟩ ⟨hi, hxs⟩ ih
  replace hi : i ≤ 8 := hi
  replace hxs : xs.length ≤ i ∧ ∀ x ∈ xs, okA 9 x := hxs
  conv => whnf
  refine ifB_intro (fun h => ?_) (fun h => ?_)
  · obtain ⟨h1, h2⟩ := and_true' h
    replace h1 : (i : Int) < (q.al.map Sd12.d).length := of_decide_eq_true h1
    replace h2 : (i : Int) < 8 := of_decide_eq_true h2
    have hlt : i < q.al.length := by simpa using h1
    conv => whnf
    refine sideB_intro (fun _ => decide_eq_true (by simp only [List.length_map]; omega)) ?_
    rw [getD_map (enc := Sd12.d) hlt]
    conv => whnf
    obtain ⟨a, ha, hc⟩ := made12 q.al[i]
    refine ⟨_, fun _ => hc, ?_⟩
    conv => whnf
    refine ⟨[.keep 19], ?_⟩
    conv => whnf
    refine loop_at (σ := Nat × Bool) (fun z env => Env.setT 6 (.bool z.2) (Env.setT 7 (.int .i64 (z.1 : Int)) env)) (fun z => xs.length - z.1) (fun z => z.1 ≤ xs.length) (0, false) (Nat.zero_le _) rfl ?_
    rintro ⟨k, b⟩ hk ihk
    replace hk : k ≤ xs.length := hk
    conv => whnf
    refine ifB_intro (fun hkl => ?_) (fun hkl => ?_)
    · replace hkl : (k : Int) < (xs.map Al.d).length := of_decide_eq_true hkl
      have hk' : k < xs.length := by simpa using hkl
      conv => whnf
      refine ⟨rfl, ?_⟩
      conv => whnf
      refine sideB_intro (fun _ => decide_eq_true (by simp only [List.length_map]; omega)) ?_
      rw [getD_map (enc := Al.d) hk']
      conv => whnf
      have hc := hcmp xs[k] a
      refine ⟨_, fun _ => hc, ?_⟩
      clear hc
      conv => whnf
      rw [show IntKind.i64.wrap ((k : Int) + 1) = ((k + 1 : Nat) : Int) by rw [IntKind.wrap_i64]; omega]
      exact ihk (k + 1, _) hk' (by show xs.length - k = xs.length - (k + 1) + 1; omega)
    · conv => whnf
      refine ifB_intro (fun hb => ?_) (fun hb => ?_)
      · conv => whnf
        refine sideB_intro (fun _ => decide_eq_true (by simp; omega)) ?_
        conv => whnf
        rw [show IntKind.i64.wrap ((i : Int) + 1) = ((i + 1 : Nat) : Int) by rw [IntKind.wrap_i64]; omega]
        rw [show List.map Al.d xs ++ [D.agg [.int .i64 a.k, .str a.a, .str a.b, .str a.l, .str a.s, .str a.r]] = List.map Al.d (xs ++ [a]) by simp [Al.d]]
        exact ih (i + 1, xs ++ [a]) ⟨by show i + 1 ≤ 8; omega, all_snoc hxs ha⟩ (by show 8 - i = 8 - (i + 1) + 1; omega)
      · conv => whnf
        rw [show IntKind.i64.wrap ((i : Int) + 1) = ((i + 1 : Nat) : Int) by rw [IntKind.wrap_i64]; omega]
        exact ih (i + 1, xs) ⟨by show i + 1 ≤ 8; omega, all_succ hxs⟩ (by show 8 - i = 8 - (i + 1) + 1; omega)
  clear ih h
  have hxs8 := all_le hxs hi
  clear hxs hi
  conv => whnf
  refine ⟨[.keep 19, .nilB 3 1 23 6], ?_⟩
  conv => whnf
  refine loop_at (σ := Nat × List Lk) (fun z env => Env.setC1 3 1 (.sl 2 6 (z.2.map Lk.d)) (Env.setT 8 (.int .i64 (z.1 : Int)) env)) (fun z => 8 - z.1) (fun z => z.1 ≤ 8 ∧ z.2.length ≤ 2 * z.1 ∧ ∀ x ∈ z.2, okK 4 x) (0, []) ⟨by decide, by decide, by simp⟩ rfl ?_
  rintro ⟨j, ls⟩ ⟨hj, hls⟩ ih
  replace hj : j ≤ 8 := hj
  replace hls : ls.length ≤ 2 * j ∧ ∀ x ∈ ls, okK 4 x := hls
  conv => whnf
  refine ifB_intro (fun h => ?_) (fun h => ?_)
  · obtain ⟨h1, h2⟩ := and_true' h
    replace h1 : (j : Int) < (q.ls.map intD).length := of_decide_eq_true h1
    replace h2 : (j : Int) < 8 := of_decide_eq_true h2
    have hlt : j < q.ls.length := by simpa using h1
    conv => whnf
    refine sideB_intro (fun _ => decide_eq_true (by simp only [List.length_map]; omega)) ?_
    rw [getD_map (enc := intD) hlt]
    conv => whnf
    obtain ⟨L, hL, hLk, hc⟩ := likely13 q.ls[j]
    refine ⟨_, fun _ => hc, ?_⟩
    conv => whnf
    refine ⟨[.keep 19], ?_⟩
    conv => whnf
    refine loop_at (σ := Nat × List Lk) (fun z env => Env.setC1 3 1 (.sl 2 6 (z.2.map Lk.d)) (Env.setT 10 (.int .i64 (z.1 : Int)) env)) (fun z => L.length - z.1) (fun z => z.1 ≤ L.length ∧ z.2.length ≤ 2 * j + z.1 ∧ ∀ x ∈ z.2, okK 4 x) (0, ls) ⟨Nat.zero_le _, hls⟩ rfl ?_
    rintro ⟨n, ls⟩ ⟨hn, hls⟩ ihn
    replace hn : n ≤ L.length := hn
    replace hls : ls.length ≤ 2 * j + n ∧ ∀ x ∈ ls, okK 4 x := hls
    conv => whnf
    refine ifB_intro (fun hnl => ?_) (fun hnl => ?_)
    · replace hnl : (n : Int) < (L.map Lk.d).length := of_decide_eq_true hnl
      have hn' : n < L.length := by simpa using hnl
      conv => whnf
      refine ⟨[.keep 19], ?_⟩
      conv => whnf
      refine loop_at (σ := Nat × Bool) (fun z env => Env.setT 11 (.bool z.2) (Env.setT 12 (.int .i64 (z.1 : Int)) env)) (fun z => ls.length - z.1) (fun z => z.1 ≤ ls.length) (0, false) (Nat.zero_le _) rfl ?_
      rintro ⟨k, b⟩ hk ihk
      replace hk : k ≤ ls.length := hk
      conv => whnf
      refine ifB_intro (fun hkl => ?_) (fun hkl => ?_)
      · replace hkl : (k : Int) < (ls.map Lk.d).length := of_decide_eq_true hkl
        have hk' : k < ls.length := by simpa using hkl
        conv => whnf
        refine sideB_intro (fun _ => decide_eq_true (by simp only [List.length_map]; omega)) ?_
        rw [getD_map (enc := Lk.d) hk']
        conv => whnf
        refine ⟨rfl, ?_⟩
        conv => whnf
        refine sideB_intro (fun _ => decide_eq_true (by simp only [List.length_map]; omega)) ?_
        rw [getD_map (enc := Lk.d) hn']
        conv => whnf
        refine sideB_intro (fun _ => decide_eq_true (by simp only [List.length_map]; omega)) ?_
        rw [getD_map (enc := Lk.d) hn']
        conv => whnf
        refine sideB_intro (fun _ => decide_eq_true (by simp only [List.length_map]; omega)) ?_
        rw [getD_map (enc := Lk.d) hn']
        conv => whnf
        rw [show IntKind.i64.wrap ((k : Int) + 1) = ((k + 1 : Nat) : Int) by rw [IntKind.wrap_i64]; omega]
        exact ihk (k + 1, bif b then true else bif bif ls[k].l == L[n].l then ls[k].s == L[n].s else false then ls[k].r == L[n].r else false) hk' (by show ls.length - k = ls.length - (k + 1) + 1; omega)
      · conv => whnf
        refine ifB_intro (fun hb => ?_) (fun hb => ?_)
        · conv => whnf
          refine ⟨rfl, ?_⟩
          conv => whnf
          refine sideB_intro (fun _ => decide_eq_true (by simp only [List.length_map]; omega)) ?_
          rw [getD_map (enc := Lk.d) hn']
          conv => whnf
          refine sideB_intro (fun _ => decide_eq_true (by simp; omega)) ?_
          conv => whnf
          rw [show IntKind.i64.wrap ((n : Int) + 1) = ((n + 1 : Nat) : Int) by rw [IntKind.wrap_i64]; omega]
          have hx := hLk _ (List.getElem_mem hn')
          revert hx
          generalize L[n] = x
          intro hx
          rw [show List.map Lk.d ls ++ [D.agg [.str x.l, .str x.s, .str x.r, .str x.tl, .str x.ts, .str x.tr]] = List.map Lk.d (ls ++ [x]) by simp [Lk.d]]
          exact ihn (n + 1, ls ++ [x]) ⟨hn', all_snoc hls hx⟩ (by show L.length - n = L.length - (n + 1) + 1; omega)
        · conv => whnf
          rw [show IntKind.i64.wrap ((n : Int) + 1) = ((n + 1 : Nat) : Int) by rw [IntKind.wrap_i64]; omega]
          exact ihn (n + 1, ls) ⟨hn', all_succ hls⟩ (by show L.length - n = L.length - (n + 1) + 1; omega)
    · conv => whnf
      rw [show IntKind.i64.wrap ((j : Int) + 1) = ((j + 1 : Nat) : Int) by rw [IntKind.wrap_i64]; omega]
      exact ih (j + 1, ls) ⟨by show j + 1 ≤ 8; omega, all_le hls (by show 2 * j + n ≤ 2 * (j + 1); omega)⟩ (by show 8 - j = 8 - (j + 1) + 1; omega)
  clear ih h
  have hls16 : ls.length ≤ 16 ∧ ∀ x ∈ ls, okK 4 x := all_le hls (by omega)
  clear hls hj
  conv => whnf
  refine ⟨[.keep 19, .nilB 3 2 26 9], ?_⟩
  conv => whnf
  refine loop_at (σ := Nat × List Ru) (fun z env => Env.setC1 3 2 (.sl 2 9 (z.2.map Ru.d)) (Env.setT 14 (.int .i64 (z.1 : Int)) env)) (fun z => 8 - z.1) (fun z => z.1 ≤ 8 ∧ z.2.length ≤ z.1 ∧ ∀ x ∈ z.2, okU 4 x) (0, []) ⟨by decide, by decide, by simp⟩ rfl ?_
  rintro ⟨i2, rs⟩ ⟨hi2, hrs⟩ ih
  replace hi2 : i2 ≤ 8 := hi2
  replace hrs : rs.length ≤ i2 ∧ ∀ x ∈ rs, okU 4 x := hrs
  conv => whnf
  refine ifB_intro (fun h => ?_) (fun h => ?_)
  · obtain ⟨h1, h2⟩ := and_true' h
    replace h1 : (i2 : Int) < (q.rs.map intD).length := of_decide_eq_true h1
    replace h2 : (i2 : Int) < 8 := of_decide_eq_true h2
    have hlt : i2 < q.rs.length := by simpa using h1
    conv => whnf
    refine ⟨rfl, ?_⟩
    conv => whnf
    refine sideB_intro (fun _ => decide_eq_true (by simp only [List.length_map]; omega)) ?_
    rw [getD_map (enc := intD) hlt]
    conv => whnf
    obtain ⟨x, hx, hc⟩ := rule13 q.rs[i2]
    refine ⟨_, fun _ => hc, ?_⟩
    conv => whnf
    refine sideB_intro (fun _ => decide_eq_true (by simp; omega)) ?_
    conv => whnf
    rw [show IntKind.i64.wrap ((i2 : Int) + 1) = ((i2 + 1 : Nat) : Int) by rw [IntKind.wrap_i64]; omega]
    rw [show List.map Ru.d rs ++ [D.agg [.int .i64 x.lv, .int .i64 x.n, .bool x.one, .str x.d0, .str x.d1, .str x.d2, .str x.s0, .str x.s1, .str x.s2]] = List.map Ru.d (rs ++ [x]) by simp [Ru.d]]
    exact ih (i2 + 1, rs ++ [x]) ⟨by show i2 + 1 ≤ 8; omega, all_snoc hrs hx⟩ (by show 8 - i2 = 8 - (i2 + 1) + 1; omega)
  clear ih h
  have hrs8 := all_le hrs hi2
  clear hrs hi2
  conv => whnf
  refine sideB_intro (fun _ => decide_eq_true (by simp; omega)) ?_
  conv => whnf
  refine ⟨[.keep 19], ?_⟩
  conv => whnf
  refine loop_at (σ := Nat × List Me) (fun z env => Env.setC1 3 3 (.sl 2 2 (z.2.map Me.d)) (Env.setT 15 (.int .i64 (z.1 : Int)) env)) (fun z => 6 - z.1) (fun z => z.1 ≤ 6 ∧ z.2.length ≤ z.1 + 1 ∧ ∀ x ∈ z.2, okM 3 x) (0, [⟨[101, 117], [100, 101]⟩]) ⟨by decide, by decide, by intro x hx; simp at hx; subst hx; simp [okM]⟩ rfl ?_
  rintro ⟨i3, ms⟩ ⟨hi3, hms⟩ ih
  replace hi3 : i3 ≤ 6 := hi3
  replace hms : ms.length ≤ i3 + 1 ∧ ∀ x ∈ ms, okM 3 x := hms
  conv => whnf
  refine ifB_intro (fun h => ?_) (fun h => ?_)
  · obtain ⟨h1, h2⟩ := and_true' h
    replace h1 : (i3 : Int) < (q.ms.map intD).length := of_decide_eq_true h1
    replace h2 : (i3 : Int) < 6 := of_decide_eq_true h2
    have hlt : i3 < q.ms.length := by simpa using h1
    conv => whnf
    refine sideB_intro (fun _ => decide_eq_true (by simp only [List.length_map]; omega)) ?_
    rw [getD_map (enc := intD) hlt]
    conv => whnf
    obtain ⟨v, hv, hc⟩ := call57s [[102, 114], [103, 98], [117, 115], [52, 49, 57], [114, 111]] q.ms[i3] (by decide) (by decide) 3 rfl
    refine ⟨_, fun _ => hc, ?_⟩
    conv => whnf
    refine ⟨[.keep 19], ?_⟩
    conv => whnf
    refine loop_at (σ := Nat × Bool) (fun z env => Env.setT 17 (.bool z.2) (Env.setT 18 (.int .i64 (z.1 : Int)) env)) (fun z => ms.length - z.1) (fun z => z.1 ≤ ms.length) (0, false) (Nat.zero_le _) rfl ?_
    rintro ⟨k, b⟩ hk ihk
    replace hk : k ≤ ms.length := hk
    conv => whnf
    refine ifB_intro (fun hkl => ?_) (fun hkl => ?_)
    · replace hkl : (k : Int) < (ms.map Me.d).length := of_decide_eq_true hkl
      have hk' : k < ms.length := by simpa using hkl
      conv => whnf
      refine sideB_intro (fun _ => decide_eq_true (by simp only [List.length_map]; omega)) ?_
      rw [getD_map (enc := Me.d) hk']
      conv => whnf
      rw [show IntKind.i64.wrap ((k : Int) + 1) = ((k + 1 : Nat) : Int) by rw [IntKind.wrap_i64]; omega]
      exact ihk (k + 1, _) hk' (by show ms.length - k = ms.length - (k + 1) + 1; omega)
    · conv => whnf
      refine ifB_intro (fun hb => ?_) (fun hb => ?_)
      · conv => whnf
        refine sideB_intro (fun _ => decide_eq_true (by simp; omega)) ?_
        conv => whnf
        rw [show IntKind.i64.wrap ((i3 : Int) + 1) = ((i3 + 1 : Nat) : Int) by rw [IntKind.wrap_i64]; omega]
        rw [show List.map Me.d ms ++ [D.agg [.str [101, 117], .str v]] = List.map Me.d (ms ++ [⟨[101, 117], v⟩]) by simp [Me.d]]
        exact ih (i3 + 1, _) ⟨by show i3 + 1 ≤ 6; omega, all_snoc hms ⟨by simp, hv⟩⟩ (by show 6 - i3 = 6 - (i3 + 1) + 1; omega)
      · conv => whnf
        rw [show IntKind.i64.wrap ((i3 : Int) + 1) = ((i3 + 1 : Nat) : Int) by rw [IntKind.wrap_i64]; omega]
        exact ih (i3 + 1, ms) ⟨by show i3 + 1 ≤ 6; omega, all_succ hms⟩ (by show 6 - i3 = 6 - (i3 + 1) + 1; omega)
  clear ih h
  have hms7 : ms.length ≤ 7 ∧ ∀ x ∈ ms, okM 3 x := all_le hms (by omega)
  clear hms hi3
  obtain ⟨odd, _, hco⟩ := call52 q.o 12 (by decide) (by decide)
  obtain ⟨m, hm, hcm⟩ := call58 xs ls (rs ++ [⟨1, 80, false, [42], [], [], [42], [], []⟩, ⟨2, 50, false, [42], [42], [], [42], [42], []⟩, ⟨3, 4, false, [42], [42], [42], [42], [42], [42]⟩]) ms th dm (odd : Int) ⟨hxs8, hls16, all_app hrs8 (by intro x hx; simp at hx; rcases hx with rfl | rfl | rfl <;> simp [okU]) (by simp), hms7, ⟨by show (0 : Int) ≤ th; omega, by show (th : Int) ≤ 256; omega⟩, ⟨by show (0 : Int) ≤ dm; omega, by show (dm : Int) ≤ 29; omega⟩⟩ (by simp)
  rw [List.map_append] at hcm
  conv => whnf
  refine ⟨rfl, ?_⟩
  conv => whnf
  refine ⟨_, fun _ => hco, ?_⟩
  conv => whnf
  refine ⟨⟨[], [(145, 8), (147, 6), (149, 4), (151, 2)], m.d, [], [], []⟩, ?_⟩
  conv => whnf
  refine ⟨rfl, hcm, ?_⟩
  conv => whnf
  exact ⟨rfl, m, rfl, hm⟩
theorem made13 (q : Sd13) : ∃ m : Img, m.ok 10 17 12 8 ∧ CallsTo Tryz.prog 20 [q.d] m.d := by
  obtain ⟨d, ⟨m, rfl, hm⟩, hc⟩ := callsQ Tryz.func20 rfl (by decide) (run20 q)
  exact ⟨m, hm, hc⟩
end Go.Proofs.YtnooelecdbbfkaaGreatDoor.Fw

/- Reading arguments: likely rows, rules, seeds of images. -/
namespace Go.Proofs.YtnooelecdbbfkaaGreatDoor.Fw
open Go Go.RowKit Go.WideShapes Go.ChangeShapes
set_option linter.unusedSectionVars false
variable [Inhabited GLT]
theorem all2_cons {α β : Type} {R : α → β → Prop} {a : α} {l : List α} {ys : List β} (h : All2 R (a :: l) ys) : ∃ y ys', ys = y :: ys' ∧ R a y ∧ All2 R l ys' := by
  cases ys with
  | nil => exact h.elim
  | cons y ys => exact ⟨y, ys, rfl, h.1, h.2⟩
theorem all2_nil {α β : Type} {R : α → β → Prop} {ys : List β} (h : All2 R ([] : List α) ys) : ys = [] := by
  cases ys with
  | nil => rfl
  | cons y ys => exact h.elim
theorem shp_i {n : Nat} {ds : List D} (h : Shp T (n + 1) 3 ds) : ∃ m, ds = [.int .i64 m] := by
  obtain ⟨m, rfl, _⟩ := h
  exact ⟨m, rfl⟩
theorem shp_b {n : Nat} {ds : List D} (h : Shp T (n + 1) 4 ds) : ∃ m, ds = [.bool m] := h
theorem shp_s {n : Nat} {ds : List D} (h : Shp T (n + 1) 9 ds) : ∃ m, ds = [.str m] := by
  obtain ⟨m, rfl, _⟩ := h
  exact ⟨m, rfl⟩
theorem shp_s3 {n : Nat} {ds : List D} (h : Shp T (n + 2) 24 ds) : ∃ a b c, ds = [.str a, .str b, .str c] := by
  obtain ⟨dss, rfl, hl, hs⟩ := h
  have hs' : ∀ x ∈ dss, ∃ n, x = [.str n] := fun x hx => shp_s (hs x hx)
  match dss, hl, hs' with
  | [a, b, c], _, hs' =>
    obtain ⟨a, rfl⟩ := hs' a (by simp)
    obtain ⟨b, rfl⟩ := hs' b (by simp)
    obtain ⟨c, rfl⟩ := hs' c (by simp)
    exact ⟨a, b, c, rfl⟩
theorem shp_is {n : Nat} {ds : List D} (h : Shp T (n + 2) 28 ds) : ∃ l : List Int, ds = [.sl 0 1 (l.map intD)] := by
  obtain ⟨xs, rfl, _, hx⟩ := h
  have : ∀ xs : List (List D), (∀ x ∈ xs, Shp T (n + 1) 3 x) → ∃ l : List Int, xs.map (wholeT T 3) = l.map intD := by
    intro xs
    induction xs with
    | nil => exact fun _ => ⟨[], rfl⟩
    | cons x xs ih =>
      intro h
      obtain ⟨l, hl⟩ := ih fun y hy => h y (by simp [hy])
      obtain ⟨m, rfl⟩ := shp_i (h x (by simp))
      exact ⟨m :: l, by rw [List.map_cons, hl]; rfl⟩
  obtain ⟨l, hl⟩ := this xs hx
  exact ⟨l, by rw [hl]; rfl⟩
theorem shp_likely {d : D} (h : ShpV T 23 d) : ∃ l s r tl ts tr, d = .agg [.str l, .str s, .str r, .str tl, .str ts, .str tr] := by
  obtain ⟨cs, rfl, dss, rfl, h⟩ := h
  obtain ⟨_, _, rfl, h1, h⟩ := all2_cons h
  obtain ⟨_, _, rfl, h2, h⟩ := all2_cons h
  obtain ⟨_, _, rfl, h3, h⟩ := all2_cons h
  obtain ⟨_, _, rfl, h4, h⟩ := all2_cons h
  obtain ⟨_, _, rfl, h5, h⟩ := all2_cons h
  obtain ⟨_, _, rfl, h6, h⟩ := all2_cons h
  obtain rfl := all2_nil h
  obtain ⟨a, rfl⟩ := shp_s h1
  obtain ⟨b, rfl⟩ := shp_s h2
  obtain ⟨c, rfl⟩ := shp_s h3
  obtain ⟨e, rfl⟩ := shp_s h4
  obtain ⟨f, rfl⟩ := shp_s h5
  obtain ⟨g, rfl⟩ := shp_s h6
  exact ⟨a, b, c, e, f, g, rfl⟩
theorem shp_rule {d : D} (h : ShpV T 26 d) : ∃ lv n one d0 d1 d2 s0 s1 s2, d = .agg [.int .i64 lv, .int .i64 n, .bool one, .str d0, .str d1, .str d2, .str s0, .str s1, .str s2] := by
  obtain ⟨cs, rfl, dss, rfl, h⟩ := h
  obtain ⟨_, _, rfl, h1, h⟩ := all2_cons h
  obtain ⟨_, _, rfl, h2, h⟩ := all2_cons h
  obtain ⟨_, _, rfl, h3, h⟩ := all2_cons h
  obtain ⟨_, _, rfl, h4, h⟩ := all2_cons h
  obtain ⟨_, _, rfl, h5, h⟩ := all2_cons h
  obtain rfl := all2_nil h
  obtain ⟨a, rfl⟩ := shp_i h1
  obtain ⟨b, rfl⟩ := shp_i h2
  obtain ⟨c, rfl⟩ := shp_b h3
  obtain ⟨d0, d1, d2, rfl⟩ := shp_s3 h4
  obtain ⟨s0, s1, s2, rfl⟩ := shp_s3 h5
  exact ⟨a, b, c, d0, d1, d2, s0, s1, s2, rfl⟩
theorem shp_sd12 {n : Nat} {ds : List D} (h : Shp T (n + 2) 80 ds) : ∃ q : Sd12, ds = q.d.cells := by
  obtain ⟨dss, rfl, h⟩ := h
  obtain ⟨_, _, rfl, h1, h⟩ := all2_cons h
  obtain ⟨_, _, rfl, h2, h⟩ := all2_cons h
  obtain ⟨_, _, rfl, h3, h⟩ := all2_cons h
  obtain ⟨_, _, rfl, h4, h⟩ := all2_cons h
  obtain ⟨_, _, rfl, h5, h⟩ := all2_cons h
  obtain ⟨_, _, rfl, h6, h⟩ := all2_cons h
  obtain ⟨_, _, rfl, h7, h⟩ := all2_cons h
  obtain rfl := all2_nil h
  obtain ⟨a, rfl⟩ := shp_i h1
  obtain ⟨b, rfl⟩ := shp_i h2
  obtain ⟨c, rfl⟩ := shp_i h3
  obtain ⟨e, rfl⟩ := shp_i h4
  obtain ⟨f, rfl⟩ := shp_i h5
  obtain ⟨g, rfl⟩ := shp_i h6
  obtain ⟨i, rfl⟩ := shp_i h7
  exact ⟨⟨a, b, c, e, f, g, i⟩, rfl⟩
theorem shp_sd12s {n : Nat} {ds : List D} (h : Shp T (n + 3) 27 ds) : ∃ l : List Sd12, ds = [.sl 0 7 (l.map Sd12.d)] := by
  obtain ⟨xs, rfl, _, hx⟩ := h
  have : ∀ xs : List (List D), (∀ x ∈ xs, Shp T (n + 2) 80 x) → ∃ l : List Sd12, xs.map (wholeT T 80) = l.map Sd12.d := by
    intro xs
    induction xs with
    | nil => exact fun _ => ⟨[], rfl⟩
    | cons x xs ih =>
      intro h
      obtain ⟨l, hl⟩ := ih fun y hy => h y (by simp [hy])
      obtain ⟨m, rfl⟩ := shp_sd12 (h x (by simp))
      exact ⟨m :: l, by rw [List.map_cons, hl]; rfl⟩
  obtain ⟨l, hl⟩ := this xs hx
  exact ⟨l, by rw [hl]; rfl⟩
theorem shp_sd13 {d : D} (h : ShpV T 30 d) : ∃ q : Sd13, d = q.d := by
  obtain ⟨cs, rfl, dss, rfl, h⟩ := h
  obtain ⟨_, _, rfl, h1, h⟩ := all2_cons h
  obtain ⟨_, _, rfl, h2, h⟩ := all2_cons h
  obtain ⟨_, _, rfl, h3, h⟩ := all2_cons h
  obtain ⟨_, _, rfl, h4, h⟩ := all2_cons h
  obtain ⟨_, _, rfl, h5, h⟩ := all2_cons h
  obtain ⟨_, _, rfl, h6, h⟩ := all2_cons h
  obtain ⟨_, _, rfl, h7, h⟩ := all2_cons h
  obtain rfl := all2_nil h
  obtain ⟨a, rfl⟩ := shp_sd12s h1
  obtain ⟨b, rfl⟩ := shp_is h2
  obtain ⟨c, rfl⟩ := shp_is h3
  obtain ⟨e, rfl⟩ := shp_is h4
  obtain ⟨f, rfl⟩ := shp_i h5
  obtain ⟨g, rfl⟩ := shp_i h6
  obtain ⟨i, rfl⟩ := shp_i h7
  exact ⟨⟨a, b, c, e, f, g, i⟩, rfl⟩
end Go.Proofs.YtnooelecdbbfkaaGreatDoor.Fw

/- What the rows of this seat that read no error's type ask of the variable that is laid. -/
namespace Go.Proofs.YtnooelecdbbfkaaGreatDoor
open Go Go.RowKit Go.WideShapes Go.ChangeShapes
open Fw

abbrev laidE : List (String × DataW Unit) := [("isogloss/grand.names", Rows.laid_isogloss_grand_names)]
/-- A world in which it is so. -/
noncomputable def laidWorld (os : Os) : World := World.laidAll Tryz.prog os laidE
theorem laidWorld_met (os : Os) (args : Array Value) : laidMetH Tryz.prog laidE ((laidWorld os).forCall (fun _ _ => 0) ⟨#[], args, []⟩).memory :=
  laidMetH_of_parts (laidMet_laidAll (laid := laidE) args (by kernel_rfl) (by kernel_rfl)) (by kernel_rfl)
/-- Nothing is asked of it here. -/
instance glt0 : Inhabited GLT := ⟨⟨fun _ _ _ => False⟩⟩
theorem glob_of_laid {W : World} : GlobW Tryz.prog (old W) W := globW_none fun _ _ _ h => h
end Go.Proofs.YtnooelecdbbfkaaGreatDoor
