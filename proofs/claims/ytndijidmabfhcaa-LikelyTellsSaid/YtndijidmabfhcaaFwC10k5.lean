/- Texts LD, MA, MB, NB, NC, SH, NE, NF, NG, SI, ND, MC, OA, OC, OD, OE, OG, OH of the proof, in one. -/
import Derived.Test.YtndijidmabfhcaaFwC10k4
set_option linter.unusedSimpArgs false
set_option linter.unusedVariables false
set_option linter.unusedSectionVars false

/- The law's own helpers: awake, plain, Pick, rest. -/
namespace Go.Proofs.Ytndijidmabfhcaa.Fw
open Go Go.RowKit
set_option maxRecDepth 100000
set_option maxHeartbeats 4000000
theorem rest_nat' (x : Int) (n : Nat) (h : 0 < n) (hn : n ≤ 1000000) : ∃ i : Nat, i < n ∧ (IntKind.i64.wrap (x.tmod n + n)).tmod n = (i : Int) := by
  have h1 := Int.tmod_lt_of_pos x (show (0 : Int) < n by omega)
  have h2 : -(n : Int) < x.tmod n := by have := Int.lt_tmod_of_pos x (show (0 : Int) < n by omega); omega
  rw [show IntKind.i64.wrap (x.tmod n + n) = x.tmod n + n by rw [IntKind.wrap_i64]; omega]
  refine ⟨((x.tmod n + n).tmod n).toNat, ?_, ?_⟩
  · have h3 := Int.tmod_lt_of_pos (x.tmod n + n) (show (0 : Int) < n by omega)
    have h4 := Int.tmod_nonneg n (show 0 ≤ x.tmod n + n by omega)
    omega
  · have h4 := Int.tmod_nonneg n (show 0 ≤ x.tmod n + n by omega)
    omega
theorem run25 (x n : Int) (h : 0 < n) : Runs Try.prog T 12 (Try.f25.body.getD .skip) Try.f25.results.toList [.int .i64 x, .int .i64 n] (.int .i64 ((IntKind.i64.wrap (x.tmod n + n)).tmod n)) := by
  refine ⟨Nat.le_of_ble_eq_true rfl, ?_⟩
  conv => whnf
  refine sideB_intro (fun _ => decide_eq_true (by omega)) ?_
  conv => whnf
  refine sideB_intro (fun _ => decide_eq_true (by omega)) ?_
  conv => whnf
  exact ⟨rfl, rfl⟩
theorem call25 (x n : Int) (h : 0 < n) : CallsTo Try.prog 25 [.int .i64 x, .int .i64 n] (.int .i64 ((IntKind.i64.wrap (x.tmod n + n)).tmod n)) := calls Try.func25 rfl (by decide) (run25 x n h)
theorem run51 (l : List S8) (x : Int) (i : Nat) (hi : i < l.length) (h : 0 < (List.map D.str l).length) (e : (IntKind.i64.wrap (x.tmod (List.map D.str l).length + (List.map D.str l).length)).tmod (List.map D.str l).length = (i : Int)) : Runs Try.prog T 18 (Try.f51.body.getD .skip) Try.f51.results.toList [.sl 0 1 (l.map .str), .int .i64 x] (.str l[i]) := by
  refine ⟨Nat.le_of_ble_eq_true rfl, ?_⟩
  conv => whnf
  refine sideB_intro (fun _ => decide_eq_true (by clear e; omega)) ?_
  conv => whnf
  refine sideB_intro (fun _ => decide_eq_true (by clear e; omega)) ?_
  conv => whnf
  rw [e]
  refine sideB_intro (fun _ => decide_eq_true (by simp; omega)) ?_
  rw [getD_map (enc := D.str) hi]
  conv => whnf
  exact ⟨rfl, rfl⟩
theorem call51 (l : List S8) (x : Int) (h : 0 < l.length) (h2 : l.length ≤ 1000000) : ∃ i, ∃ hi : i < l.length, CallsTo Try.prog 51 [.sl 0 1 (l.map .str), .int .i64 x] (.str l[i]) := by
  obtain ⟨i, hi, e⟩ := rest_nat' x (List.map D.str l).length (by simpa using h) (by simpa using h2)
  have hi' : i < l.length := by simpa using hi
  exact ⟨i, hi', calls Try.func51 rfl (by decide) (run51 l x i hi' (by simpa using h) e)⟩
def langs9 : List S8 := [[101, 110], [122, 104], [115, 114], [117, 110, 100], [100, 101], [120, 120], [104, 101], [114, 117], []]
def scripts7 : List S8 := [[], [], [108, 97, 116, 110], [99, 121, 114, 108], [104, 97, 110, 116], [104, 97, 110, 115], [122, 122, 122, 122]]
def regions9 : List S8 := [[], [], [117, 115], [116, 119], [52, 49, 57], [109, 101], [103, 98], [99, 110], [122, 122]]
theorem run23 (a b c : Int) (l s r : S8) (h1 : CallsTo Try.prog 51 [.sl 0 1 (langs9.map .str), .int .i64 a] (.str l)) (h2 : CallsTo Try.prog 51 [.sl 0 1 (scripts7.map .str), .int .i64 b] (.str s)) (h3 : CallsTo Try.prog 51 [.sl 0 1 (regions9.map .str), .int .i64 c] (.str r)) :
    Runs Try.prog T 22 (Try.f23.body.getD .skip) Try.f23.results.toList [.agg [.int .i64 a, .int .i64 b, .int .i64 c]] (tagZ l s r []) := by
  refine ⟨Nat.le_of_ble_eq_true rfl, ?_⟩
  conv => whnf
  refine ⟨rfl, ?_⟩
  conv => whnf
  refine ⟨_, fun _ => h1, ?_⟩
  conv => whnf
  refine ⟨_, fun _ => h2, ?_⟩
  conv => whnf
  refine ⟨_, fun _ => h3, ?_⟩
  conv => whnf
  exact ⟨rfl, rfl⟩
theorem call23 (a b c : Int) : ∃ l s r, l ∈ langs9 ∧ s ∈ scripts7 ∧ r ∈ regions9 ∧ CallsTo Try.prog 23 [.agg [.int .i64 a, .int .i64 b, .int .i64 c]] (tagT l s r []).d := by
  obtain ⟨i, hi, h1⟩ := call51 langs9 a (by decide) (by decide)
  obtain ⟨j, hj, h2⟩ := call51 scripts7 b (by decide) (by decide)
  obtain ⟨k, hk, h3⟩ := call51 regions9 c (by decide) (by decide)
  exact ⟨_, _, _, List.getElem_mem hi, List.getElem_mem hj, List.getElem_mem hk, callsTo_res (calls Try.func23 rfl (by decide) (run23 a b c _ _ _ h1 h2 h3)) fun _ _ _ => tagZ_iff.1⟩
theorem run22 (xs : List Al) (ls : List Lk) (rs ms : List D) (ta tb tc : Tg) (ha : ta.s = [104, 97, 110, 116]) (hb : tb.l = [114, 117]) (hb2 : tb.r = [114, 117]) (hc : tc.r = [103, 98]) (h20 : CallsTo Try.prog 20 [] (imgD xs ls rs ms 40 5))
    (h1 : CallsTo Try.prog 50 [imgD xs ls rs ms 40 5, tagZ [122, 104] [] [116, 119] []] (.tup [ta.d, .bool true])) (h2 : CallsTo Try.prog 50 [imgD xs ls rs ms 40 5, tagZ [117, 110, 100] [99, 121, 114, 108] [] []] (.tup [tb.d, .bool true])) (h3 : CallsTo Try.prog 50 [imgD xs ls rs ms 40 5, tagZ [101, 110] [115, 104, 97, 119] [] []] (.tup [tc.d, .bool true])) :
    Runs Try.prog T 54 (Try.f22.body.getD .skip) Try.f22.results.toList [] (.bool true) := by
  refine ⟨Nat.le_of_ble_eq_true rfl, ?_⟩
  conv => whnf
  refine ⟨_, fun _ => h20, ?_⟩
  conv => whnf
  refine ⟨_, fun _ => h1, ?_⟩
  conv => whnf
  refine ⟨_, fun _ => h2, ?_⟩
  conv => whnf
  refine ⟨_, fun _ => h3, ?_⟩
  conv => whnf
  exact ⟨rfl, congrArg D.bool (show (bif bif bif bif bif bif true then ta.s == [104, 97, 110, 116] else false then true else false then tb.l == [114, 117] else false then tb.r == [114, 117] else false then true else false then tc.r == [103, 98] else false) = true from by rw [ha, hb, hb2, hc]; rfl)⟩
theorem max1 : maxi (rowsM likelyL) (tagT [122, 104] [] [116, 119] []) (ladL [122, 104] [] [116, 119]) = .tup [(tagT [122, 104] [104, 97, 110, 116] [116, 119] []).d, .bool true] := by kernel_rfl
theorem max2 : maxi (rowsM likelyL) (tagT [117, 110, 100] [99, 121, 114, 108] [] []) (ladL [117, 110, 100] [99, 121, 114, 108] []) = .tup [(tagT [114, 117] [99, 121, 114, 108] [114, 117] []).d, .bool true] := by kernel_rfl
theorem max3 : maxi (rowsM likelyL) (tagT [101, 110] [115, 104, 97, 119] [] []) (ladL [101, 110] [115, 104, 97, 119] []) = .tup [(tagT [101, 110] [115, 104, 97, 119] [103, 98] []).d, .bool true] := by kernel_rfl
theorem call22 : CallsTo Try.prog 22 [] (.bool true) := by
  have c := fun l s r => call50z aliasesL likelyL (rulesL.map Ru.d) (membersL.map Me.d) 40 5 (by decide) l s r []
  have c1 := c [122, 104] [] [116, 119]
  have c2 := c [117, 110, 100] [99, 121, 114, 108] []
  have c3 := c [101, 110] [115, 104, 97, 119] []
  rw [max1] at c1
  rw [max2] at c2
  rw [max3] at c3
  exact calls Try.func22 rfl (by decide) (run22 aliasesL likelyL _ _ _ _ _ rfl rfl rfl rfl call20 c1 c2 c3)
end Go.Proofs.Ytndijidmabfhcaa.Fw

/- Trials, Says, Minimize. -/
namespace Go.Proofs.Ytndijidmabfhcaa.Fw
open Go Go.RowKit
set_option maxRecDepth 100000
set_option maxHeartbeats 4000000

def maxiT (M : List (R3 × Lk)) (t : Tg) (rows : List R3) : Tg × Bool := match maxRow M rows with
  | some x => (fill t x, true)
  | none => (t, false)
theorem maxi_eq (M : List (R3 × Lk)) (t : Tg) (rows : List R3) : maxi M t rows = .tup [(maxiT M t rows).1.d, .bool (maxiT M t rows).2] := by
  unfold maxi maxiT
  cases maxRow M rows <;> rfl
def maxOf (ls : List Lk) (t : Tg) : Tg × Bool := maxiT (rowsM ls) t (ladL t.l t.s t.r)
theorem call50t (xs : List Al) (ls : List Lk) (rs ms : List D) (th dm : Int) (hx : ls.length ≤ 1000000) (t : Tg) : CallsTo Try.prog 50 [imgD xs ls rs ms th dm, t.d] (.tup [(maxOf ls t).1.d, .bool (maxOf ls t).2]) :=
  maxi_eq (rowsM ls) t (ladL t.l t.s t.r) ▸ call50 xs ls rs ms th dm hx t

theorem run36 (x n : Int) (h : 0 < n) : Runs Try.prog T 12 (Try.f36.body.getD .skip) Try.f36.results.toList [.int .i64 x, .int .i64 n] (.int .i64 ((IntKind.i64.wrap (x.tmod n + n)).tmod n)) := by
  refine ⟨Nat.le_of_ble_eq_true rfl, ?_⟩
  conv => whnf
  refine sideB_intro (fun _ => decide_eq_true (by omega)) ?_
  conv => whnf
  refine sideB_intro (fun _ => decide_eq_true (by omega)) ?_
  conv => whnf
  exact ⟨rfl, rfl⟩
theorem call36 (x n : Int) (h : 0 < n) : CallsTo Try.prog 36 [.int .i64 x, .int .i64 n] (.int .i64 ((IntKind.i64.wrap (x.tmod n + n)).tmod n)) := calls Try.func36 rfl (by decide) (run36 x n h)

def Tg.noS (t : Tg) : Tg := ⟨t.l, t.ex, [], t.r, t.va, t.xt, t.pv, t.g⟩
def Tg.noR (t : Tg) : Tg := ⟨t.l, t.ex, t.s, [], t.va, t.xt, t.pv, t.g⟩
theorem run75a (t : Tg) : Runs Try.prog T 16 (Try.f75.body.getD .skip) Try.f75.results.toList [t.d, .int .i64 3] t.noR.noS.d := by
  refine ⟨Nat.le_of_ble_eq_true rfl, ?_⟩
  conv => whnf
  exact ⟨rfl, rfl⟩
theorem run75b (t : Tg) : Runs Try.prog T 16 (Try.f75.body.getD .skip) Try.f75.results.toList [t.d, .int .i64 1] t.noS.d := by
  refine ⟨Nat.le_of_ble_eq_true rfl, ?_⟩
  conv => whnf
  exact ⟨rfl, rfl⟩
theorem run75c (t : Tg) : Runs Try.prog T 16 (Try.f75.body.getD .skip) Try.f75.results.toList [t.d, .int .i64 2] t.noR.d := by
  refine ⟨Nat.le_of_ble_eq_true rfl, ?_⟩
  conv => whnf
  exact ⟨rfl, rfl⟩
theorem run75d (t : Tg) : Runs Try.prog T 16 (Try.f75.body.getD .skip) Try.f75.results.toList [t.d, .int .i64 0] t.d := by
  refine ⟨Nat.le_of_ble_eq_true rfl, ?_⟩
  conv => whnf
  exact ⟨rfl, rfl⟩
theorem call75a (t : Tg) : CallsTo Try.prog 75 [t.d, .int .i64 3] t.noR.noS.d := calls Try.func75 rfl (by decide) (run75a t)
theorem call75b (t : Tg) : CallsTo Try.prog 75 [t.d, .int .i64 1] t.noS.d := calls Try.func75 rfl (by decide) (run75b t)
theorem call75c (t : Tg) : CallsTo Try.prog 75 [t.d, .int .i64 2] t.noR.d := calls Try.func75 rfl (by decide) (run75c t)
theorem call75d (t : Tg) : CallsTo Try.prog 75 [t.d, .int .i64 0] t.d := calls Try.func75 rfl (by decide) (run75d t)

def trialsL (t : Tg) (script : Bool) : List Tg := bif script then [t.noR.noS, t.noR, t.noS, t] else [t.noR.noS, t.noS, t.noR, t]
theorem yields74 (t : Tg) (script : Bool) : Yields Try.prog T 21 (Try.f74.body.getD .skip) [.eptr (.bool script) 0, .eptr t.d 0] ((trialsL t script).map fun x => [x.d]) := by
  refine ⟨Nat.le_of_ble_eq_true rfl, fun yl => ?_⟩
  cases script with
  | true =>
    conv => whnf
    refine ⟨[], ?_⟩
    conv => whnf
    refine ⟨5, ?_⟩
    conv => whnf
    refine ⟨_, fun _ => call75a t, ?_⟩
    conv => whnf
    refine ⟨⟨rfl, rfl⟩, ?_, ?_⟩
    case refine_2 => conv => whnf
                     trivial
    conv => whnf
    refine ⟨_, fun _ => call75c t, ?_⟩
    conv => whnf
    refine ⟨⟨rfl, rfl⟩, ?_, ?_⟩
    case refine_2 => conv => whnf
                     trivial
    conv => whnf
    refine ⟨_, fun _ => call75b t, ?_⟩
    conv => whnf
    refine ⟨⟨rfl, rfl⟩, ?_, ?_⟩
    case refine_2 => conv => whnf
                     trivial
    conv => whnf
    refine ⟨_, fun _ => call75d t, ?_⟩
    conv => whnf
    refine ⟨⟨rfl, rfl⟩, ?_, ?_⟩
    case refine_2 => conv => whnf
                     trivial
    conv => whnf
    trivial
  | false =>
    conv => whnf
    refine ⟨[], ?_⟩
    conv => whnf
    refine ⟨5, ?_⟩
    conv => whnf
    refine ⟨_, fun _ => call75a t, ?_⟩
    conv => whnf
    refine ⟨⟨rfl, rfl⟩, ?_, ?_⟩
    case refine_2 => conv => whnf
                     trivial
    conv => whnf
    refine ⟨_, fun _ => call75b t, ?_⟩
    conv => whnf
    refine ⟨⟨rfl, rfl⟩, ?_, ?_⟩
    case refine_2 => conv => whnf
                     trivial
    conv => whnf
    refine ⟨_, fun _ => call75c t, ?_⟩
    conv => whnf
    refine ⟨⟨rfl, rfl⟩, ?_, ?_⟩
    case refine_2 => conv => whnf
                     trivial
    conv => whnf
    refine ⟨_, fun _ => call75d t, ?_⟩
    conv => whnf
    refine ⟨⟨rfl, rfl⟩, ?_, ?_⟩
    case refine_2 => conv => whnf
                     trivial
    conv => whnf
    trivial
theorem iter74 (t : Tg) (script : Bool) : IterTo Try.prog 74 [.eptr (.bool script) 0, .eptr t.d 0] ((trialsL t script).map fun x => [x.d]) := iters Try.func74 rfl (by decide) rfl (yields74 t script)
theorem run35 (t : Tg) (script : Bool) : Runs Try.prog T 6 (Try.f35.body.getD .skip) Try.f35.results.toList [t.d, .bool script] (.fn 74 [.eptr (.bool script) 0, .eptr t.d 0]) := by
  refine ⟨Nat.le_of_ble_eq_true rfl, ?_⟩
  conv => whnf
  exact ⟨rfl, rfl⟩
theorem call35 (t : Tg) (script : Bool) : CallsTo Try.prog 35 [t.d, .bool script] (.fn 74 [.eptr (.bool script) 0, .eptr t.d 0]) := calls Try.func35 rfl (by decide) (run35 t script)

def saysB (u : Tg × Bool) (full : Tg) : Bool := bif bif bif u.2 then u.1.l == full.l else false then u.1.s == full.s else false then u.1.r == full.r else false
theorem run71 (xs : List Al) (ls : List Lk) (rs ms : List D) (th dm : Int) (less full u : Tg) (is : Bool) (h50 : CallsTo Try.prog 50 [imgD xs ls rs ms th dm, less.d] (.tup [u.d, .bool is])) :
    Runs Try.prog T 37 (Try.f71.body.getD .skip) Try.f71.results.toList [imgD xs ls rs ms th dm, less.d, full.d] (.bool (saysB (u, is) full)) := by
  refine ⟨Nat.le_of_ble_eq_true rfl, ?_⟩
  conv => whnf
  refine ⟨_, fun _ => h50, ?_⟩
  conv => whnf
  exact ⟨rfl, rfl⟩
theorem call71 (xs : List Al) (ls : List Lk) (rs ms : List D) (th dm : Int) (hx : ls.length ≤ 1000000) (less full : Tg) : CallsTo Try.prog 71 [imgD xs ls rs ms th dm, less.d, full.d] (.bool (saysB (maxOf ls less) full)) :=
  calls Try.func71 rfl (by decide) (run71 xs ls rs ms th dm less full _ _ (call50t xs ls rs ms th dm hx less))
theorem run87 (xs : List Al) (ls : List Lk) (rs ms : List D) (th dm : Int) (u full : Tg) (b : Bool) (h71 : CallsTo Try.prog 71 [imgD xs ls rs ms th dm, u.d, full.d] (.bool b)) :
    Runs Try.prog T 9 (Try.f87.body.getD .skip) Try.f87.results.toList [u.d, .eptr (imgD xs ls rs ms th dm) 0, .eptr full.d 0] (.bool b) := by
  refine ⟨Nat.le_of_ble_eq_true rfl, ?_⟩
  conv => whnf
  refine ⟨_, fun _ => h71, ?_⟩
  conv => whnf
  exact ⟨rfl, rfl⟩
theorem call87 (xs : List Al) (ls : List Lk) (rs ms : List D) (th dm : Int) (hx : ls.length ≤ 1000000) (u full : Tg) : CallsTo Try.prog 87 [u.d, .eptr (imgD xs ls rs ms th dm) 0, .eptr full.d 0] (.bool (saysB (maxOf ls u) full)) :=
  calls Try.func87 rfl (by decide) (run87 xs ls rs ms th dm u full _ (call71 xs ls rs ms th dm hx u full))

/-- The first trial that says all; else the whole. -/
def minG (says : Tg → Bool) (full : Tg) : List Tg → Tg
  | [] => full
  | u :: us => bif says u then u else minG says full us
theorem run69 (xs : List Al) (ls : List Lk) (rs ms : List D) (th dm : Int) (t full : Tg) (is script : Bool) (says : Tg → Bool) (us : List Tg) (h50 : CallsTo Try.prog 50 [imgD xs ls rs ms th dm, t.d] (.tup [full.d, .bool is]))
    (h74 : IterTo Try.prog 74 [.eptr (.bool script) 0, .eptr full.d 0] (us.map fun x => [x.d])) (h87 : ∀ u : Tg, CallsTo Try.prog 87 [u.d, .eptr (imgD xs ls rs ms th dm) 0, .eptr full.d 0] (.bool (says u))) :
    Runs Try.prog T 31 (Try.f69.body.getD .skip) Try.f69.results.toList [imgD xs ls rs ms th dm, t.d, .bool script] (bif is then .tup [(minG says full us).d, .bool true] else .tup [t.d, .bool false]) := by
  refine ⟨Nat.le_of_ble_eq_true rfl, ?_⟩
  conv => whnf
  refine ⟨_, fun _ => h50, ?_⟩
  cases is with
  | false =>
    conv => whnf
    exact ⟨rfl, rfl⟩
  | true =>
    conv => whnf
    refine ⟨_, fun _ => call35 full script, ?_⟩
    conv => whnf
    refine ⟨[], ?_⟩
    conv => whnf
    refine ⟨_, h74, ?_⟩
    clear h74
    generalize hr : (bif true then D.tup [(minG says full us).d, .bool true] else .tup [t.d, .bool false]) = res
    replace hr : D.tup [(minG says full us).d, .bool true] = res := hr
    induction us with
    | nil =>
      conv => whnf
      exact ⟨rfl, hr⟩
    | cons u us ih =>
      conv => whnf
      refine ⟨_, fun _ => h87 u, ?_⟩
      cases hs : says u with
      | true =>
        conv => whnf
        simp only [minG, hs, cond_true] at hr
        exact ⟨rfl, hr⟩
      | false =>
        conv => whnf
        simp only [minG, hs, cond_false] at hr
        exact seqEv_tm 31 (ih hr)
def minOf (ls : List Lk) (t : Tg) (script : Bool) : Tg × Bool := bif (maxOf ls t).2 then (minG (fun u => saysB (maxOf ls u) (maxOf ls t).1) (maxOf ls t).1 (trialsL (maxOf ls t).1 script), true) else (t, false)
theorem call69 (xs : List Al) (ls : List Lk) (rs ms : List D) (th dm : Int) (hx : ls.length ≤ 1000000) (t : Tg) (script : Bool) : CallsTo Try.prog 69 [imgD xs ls rs ms th dm, t.d, .bool script] (.tup [(minOf ls t script).1.d, .bool (minOf ls t script).2]) := by
  have h := calls Try.func69 rfl (by decide) (run69 xs ls rs ms th dm t (maxOf ls t).1 (maxOf ls t).2 script (fun u => saysB (maxOf ls u) (maxOf ls t).1) (trialsL (maxOf ls t).1 script) (call50t xs ls rs ms th dm hx t) (iter74 (maxOf ls t).1 script) (fun u => call87 xs ls rs ms th dm hx u (maxOf ls t).1))
  have e : (bif (maxOf ls t).2 then D.tup [(minG (fun u => saysB (maxOf ls u) (maxOf ls t).1) (maxOf ls t).1 (trialsL (maxOf ls t).1 script)).d, .bool true] else .tup [t.d, .bool false]) = .tup [(minOf ls t script).1.d, .bool (minOf ls t script).2] := by
    unfold minOf
    cases (maxOf ls t).2 <;> rfl
  rw [e] at h
  exact h
end Go.Proofs.Ytndijidmabfhcaa.Fw

/- A tag is the same as itself. -/
namespace Go.Proofs.Ytndijidmabfhcaa.Fw
open Go Go.RowKit
set_option maxRecDepth 100000
set_option maxHeartbeats 4000000
theorem run76 (l : List S8) (hl : l.length ≤ 1000000) : Runs Try.prog T 26 (Try.f76.body.getD .skip) Try.f76.results.toList [.sl 0 1 (l.map .str), .sl 0 1 (l.map .str)] (.bool true) := by
  refine ⟨Nat.le_of_ble_eq_true rfl, ?_⟩
  conv => whnf
  refine ifB_intro (fun hb => by simp at hb) (fun _ => ?_)
  conv => whnf
  refine ⟨[], ?_⟩
  conv => whnf
  refine ⟨_, loop_rule (σ := Nat) (fun i => ⟨26, [(1, .sl 0 1 (List.map .str l)), (0, .sl 0 1 (List.map .str l)), (4, .bool false), (6, .sl 0 1 (List.map .str l)), (7, .int .i64 (List.map D.str l).length), (8, .sl 0 1 (List.map .str l)), (9, .int .i64 (List.map D.str l).length), (10, .bool (((List.map D.str l).length : Int) != (List.map D.str l).length)), (5, .int .i64 (i : Int))], [], [], [], [], [], none⟩) (fun i => l.length - i) (fun i => i ≤ l.length) ?_ 0 (Nat.zero_le _)⟩
  rintro i hi ih
  conv => whnf
  refine ifB_intro (fun h => ?_) (fun h => ?_)
  · replace h : (i : Int) < (List.map D.str l).length := of_decide_eq_true h
    have hlt : i < l.length := by simpa using h
    have hw : IntKind.i64.wrap ((i : Int) + 1) = ((i + 1 : Nat) : Int) := by rw [IntKind.wrap_i64]; omega
    conv => whnf
    refine ⟨rfl, ?_⟩
    conv => whnf
    refine sideB_intro (fun _ => decide_eq_true (by simp; omega)) ?_
    rw [getD_map (enc := D.str) hlt]
    conv => whnf
    refine sideB_intro (fun _ => decide_eq_true (by simp; omega)) ?_
    rw [getD_map (enc := D.str) hlt]
    conv => whnf
    refine ifB_intro (fun hb => by simp at hb) (fun _ => ?_)
    conv => whnf
    rw [hw]
    exact ih (i + 1) hlt (by omega)
  · conv => whnf
    exact ⟨rfl, rfl⟩
theorem call76 (l : List S8) (hl : l.length ≤ 1000000) : CallsTo Try.prog 76 [.sl 0 1 (l.map .str), .sl 0 1 (l.map .str)] (.bool true) := calls Try.func76 rfl (by decide) (run76 l hl)

structure Ex where
  k : S8
  subs : List S8
def Ex.d (e : Ex) : D := .agg [.str e.k, .sl 0 1 (e.subs.map .str)]
/-- A tag whose lists are of texts, and of extensions. -/
structure STag where
  l : S8
  ex : List S8
  s : S8
  r : S8
  va : List S8
  xt : List Ex
  pv : List S8
  g : S8
def STag.t (t : STag) : Tg := ⟨t.l, t.ex.map .str, t.s, t.r, t.va.map .str, t.xt.map Ex.d, t.pv.map .str, t.g⟩
def STag.small (t : STag) : Prop := t.ex.length ≤ 1000000 ∧ t.va.length ≤ 1000000 ∧ t.xt.length ≤ 1000000 ∧ t.pv.length ≤ 1000000 ∧ ∀ e ∈ t.xt, e.subs.length ≤ 1000000
theorem run37 (l s r g : S8) (ex va pv : List S8) (xt : List Ex) (h1 : ex.length ≤ 1000000) (h2 : va.length ≤ 1000000) (h3 : xt.length ≤ 1000000) (h4 : pv.length ≤ 1000000) (h5 : ∀ e ∈ xt, e.subs.length ≤ 1000000) :
    Runs Try.prog T 109 (Try.f37.body.getD .skip) Try.f37.results.toList [(⟨l, ex.map .str, s, r, va.map .str, xt.map Ex.d, pv.map .str, g⟩ : Tg).d, (⟨l, ex.map .str, s, r, va.map .str, xt.map Ex.d, pv.map .str, g⟩ : Tg).d] (.bool true) := by
  refine ⟨Nat.le_of_ble_eq_true rfl, ?_⟩
  conv => whnf
  refine ⟨_, fun _ => call76 ex h1, ?_⟩
  conv => whnf
  refine ⟨_, fun _ => call76 va h2, ?_⟩
  conv => whnf
  refine ⟨_, fun _ => call76 pv h4, ?_⟩
  conv => whnf
  refine ifB_intro (fun hb => by revert hb; simp) (fun _ => ?_)
  conv => whnf
  refine ⟨[], ?_⟩
  conv => whnf
  refine loop_at (σ := Nat) (fun i => Env.setT 8 (.int .i64 (i : Int))) (fun i => xt.length - i) (fun i => i ≤ xt.length) 0 (Nat.zero_le _) rfl ?_
  rintro i hi ih
  conv => whnf
  refine ifB_intro (fun h' => ?_) (fun h' => ?_)
  · replace h' : (i : Int) < (List.map Ex.d xt).length := of_decide_eq_true h'
    have hlt : i < xt.length := by simpa using h'
    have hw : IntKind.i64.wrap ((i : Int) + 1) = ((i + 1 : Nat) : Int) := by rw [IntKind.wrap_i64]; omega
    conv => whnf
    refine ⟨rfl, ?_⟩
    conv => whnf
    refine sideB_intro (fun _ => decide_eq_true (by simp; omega)) ?_
    rw [getD_map (enc := Ex.d) hlt]
    conv => whnf
    refine sideB_intro (fun _ => decide_eq_true (by simp; omega)) ?_
    rw [getD_map (enc := Ex.d) hlt]
    conv => whnf
    refine ⟨_, fun _ => call76 _ (h5 _ (List.getElem_mem hlt)), ?_⟩
    conv => whnf
    refine ⟨rfl, ?_⟩
    conv => whnf
    refine sideB_intro (fun _ => decide_eq_true (by simp; omega)) ?_
    rw [getD_map (enc := Ex.d) hlt]
    conv => whnf
    refine sideB_intro (fun _ => decide_eq_true (by simp; omega)) ?_
    rw [getD_map (enc := Ex.d) hlt]
    conv => whnf
    refine ifB_intro (fun hb => by simp at hb) (fun _ => ?_)
    conv => whnf
    rw [hw]
    exact ih (i + 1) hlt (by omega)
  · conv => whnf
    exact ⟨rfl, rfl⟩
end Go.Proofs.Ytndijidmabfhcaa.Fw

/- Tags of plain numbers: that there is one, with short lists of short texts. -/
namespace Go.Proofs.Ytndijidmabfhcaa.Fw
open Go Go.RowKit
set_option maxRecDepth 100000
set_option maxHeartbeats 4000000
theorem call51m (l : List S8) (x : Int) (h : 0 < l.length) (h2 : l.length ≤ 1000000) : ∃ s, s ∈ l ∧ CallsTo Try.prog 51 [.sl 0 1 (l.map .str), .int .i64 x] (.str s) := by
  obtain ⟨i, hi, hc⟩ := call51 l x h h2
  exact ⟨_, List.getElem_mem hi, hc⟩
theorem call51s (l : List S8) (x : Int) (h : 0 < l.length) (h2 : l.length ≤ 1000000) (n : Nat) (hn : l.all (fun s => Nat.ble s.length n) = true) : ∃ s : S8, s.length ≤ n ∧ CallsTo Try.prog 51 [.sl 0 1 (l.map .str), .int .i64 x] (.str s) := by
  obtain ⟨s, hs, hc⟩ := call51m l x h h2
  exact ⟨s, Nat.le_of_ble_eq_true (List.all_eq_true.1 hn s hs), hc⟩
def langsL : List S8 := [[101, 110], [122, 104], [115, 114], [117, 110, 100], [105, 119], [110, 111], [115, 103, 110], [109, 111], [104, 97, 110, 116], [97, 98, 99, 100, 101, 102, 103, 104], [100, 101], [114, 111, 111, 116]]
def scriptsL : List S8 := [[], [], [108, 97, 116, 110], [99, 121, 114, 108], [104, 97, 110, 115], [113, 97, 97, 105], [104, 97, 110, 116]]
def regionsL : List S8 := [[], [], [117, 115], [103, 98], [52, 49, 57], [100, 100], [99, 110], [98, 114], [115, 117]]
def variantsL : List S8 := [[49, 57, 57, 52], [104, 101, 112, 108, 111, 99], [102, 111, 110, 105, 112, 97], [97, 114, 101, 118, 101, 108, 97], [49, 97, 50, 98], [115, 99, 111, 117, 115, 101]]
def wordsL : List S8 := [[99, 97], [98, 117, 100, 100, 104, 105, 115, 116], [99, 111], [116, 114, 117, 101], [107, 110], [112, 104, 111, 110, 101, 98, 107], [109, 48], [101, 110], [97, 98, 49], [105, 115, 108, 97, 109, 105, 99, 99], [104, 48]]
theorem run60  : Runs Try.prog T 2 (Try.f60.body.getD .skip) Try.f60.results.toList [] (.sl 0 1 (langsL.map .str)) := by
  refine ⟨Nat.le_of_ble_eq_true rfl, ?_⟩
  conv => whnf
  exact ⟨rfl, rfl⟩
theorem run61  : Runs Try.prog T 2 (Try.f61.body.getD .skip) Try.f61.results.toList [] (.sl 0 1 (scriptsL.map .str)) := by
  refine ⟨Nat.le_of_ble_eq_true rfl, ?_⟩
  conv => whnf
  exact ⟨rfl, rfl⟩
theorem run62  : Runs Try.prog T 2 (Try.f62.body.getD .skip) Try.f62.results.toList [] (.sl 0 1 (regionsL.map .str)) := by
  refine ⟨Nat.le_of_ble_eq_true rfl, ?_⟩
  conv => whnf
  exact ⟨rfl, rfl⟩
theorem run63  : Runs Try.prog T 2 (Try.f63.body.getD .skip) Try.f63.results.toList [] (.sl 0 1 (variantsL.map .str)) := by
  refine ⟨Nat.le_of_ble_eq_true rfl, ?_⟩
  conv => whnf
  exact ⟨rfl, rfl⟩
theorem run64  : Runs Try.prog T 2 (Try.f64.body.getD .skip) Try.f64.results.toList [] (.sl 0 1 (wordsL.map .str)) := by
  refine ⟨Nat.le_of_ble_eq_true rfl, ?_⟩
  conv => whnf
  exact ⟨rfl, rfl⟩
theorem call60  : CallsTo Try.prog 60 [] (.sl 0 1 (langsL.map .str)) := calls Try.func60 rfl (by decide) (run60)
theorem call61  : CallsTo Try.prog 61 [] (.sl 0 1 (scriptsL.map .str)) := calls Try.func61 rfl (by decide) (run61)
theorem call62  : CallsTo Try.prog 62 [] (.sl 0 1 (regionsL.map .str)) := calls Try.func62 rfl (by decide) (run62)
theorem call63  : CallsTo Try.prog 63 [] (.sl 0 1 (variantsL.map .str)) := calls Try.func63 rfl (by decide) (run63)
theorem call64  : CallsTo Try.prog 64 [] (.sl 0 1 (wordsL.map .str)) := calls Try.func64 rfl (by decide) (run64)
def okE (x : Ex) : Prop := x.k.length ≤ 16 ∧ x.subs.length ≤ 8 ∧ ∀ y ∈ x.subs, y.length ≤ 16
/-- A tag with short lists of short texts. -/
structure STag.okN (t : STag) (ne nv nx np : Nat) : Prop where
  l : t.l.length ≤ 16
  s : t.s.length ≤ 16
  r : t.r.length ≤ 16
  g : t.g.length ≤ 16
  ex : t.ex.length ≤ ne ∧ ∀ x ∈ t.ex, x.length ≤ 16
  va : t.va.length ≤ nv ∧ ∀ x ∈ t.va, x.length ≤ 16
  xt : t.xt.length ≤ nx ∧ ∀ x ∈ t.xt, okE x
  pv : t.pv.length ≤ np ∧ ∀ x ∈ t.pv, x.length ≤ 16
theorem titleS_len (l : List UInt8) : (titleS l).length = l.length := by cases l <;> simp [titleS]
theorem ok_app {l m : List S8} {n k : Nat} (h : l.length ≤ n ∧ ∀ x ∈ l, x.length ≤ 16) (hm : m.all (fun x => Nat.ble x.length 16) = true) (hk : n + m.length ≤ k) : (l ++ m).length ≤ k ∧ ∀ x ∈ l ++ m, x.length ≤ 16 := by
  refine ⟨by rw [List.length_append]; omega, fun x hx => ?_⟩
  rcases List.mem_append.1 hx with hx | hx
  · exact h.2 x hx
  · exact Nat.le_of_ble_eq_true (List.all_eq_true.1 hm x hx)
theorem ok_le {l : List S8} {n k : Nat} (h : l.length ≤ n ∧ ∀ x ∈ l, x.length ≤ 16) (hk : n ≤ k) : l.length ≤ k ∧ ∀ x ∈ l, x.length ≤ 16 := ⟨Nat.le_trans h.1 hk, h.2⟩
theorem okE_app {l m : List Ex} {n k : Nat} (h : l.length ≤ n ∧ ∀ x ∈ l, okE x) (hm : ∀ x ∈ m, okE x) (hk : n + m.length ≤ k) : (l ++ m).length ≤ k ∧ ∀ x ∈ l ++ m, okE x := by
  refine ⟨by rw [List.length_append]; omega, fun x hx => ?_⟩
  rcases List.mem_append.1 hx with hx | hx
  · exact h.2 x hx
  · exact hm x hx
theorem okE_le {l : List Ex} {n k : Nat} (h : l.length ≤ n ∧ ∀ x ∈ l, okE x) (hk : n ≤ k) : l.length ≤ k ∧ ∀ x ∈ l, okE x := ⟨Nat.le_trans h.1 hk, h.2⟩
def tagO (exD : D) (u : STag) : D := .agg [.str u.l, exD, .str u.s, .str u.r, .sl 0 1 (u.va.map .str), .sl 0 2 (u.xt.map Ex.d), .sl 0 1 (u.pv.map .str), .str u.g]
theorem run65 (l s r g : S8) (ex va pv : List S8) (xt : List Ex) (odd : Int) (h : (⟨l, ex, s, r, va, xt, pv, g⟩ : STag).okN 1 4 3 3) : RunsM Try.prog T 55 (Try.f65.body.getD .skip) Try.f65.results.toList [] [(113, 9), (115, 111), (117, 9)] [.agg [.str l, .sl 1 1 (ex.map .str), .str s, .str r, .sl 113 1 (va.map .str), .sl 115 2 (xt.map Ex.d), .sl 117 1 (pv.map .str), .str g], .int .i64 odd] (fun d bx' => bx' = [] ∧ ∃ (u : STag), d = tagO (.sl 1 1 (ex.map .str)) u ∧ u.ex = ex ∧ u.okN 1 6 5 4) [] := by
  refine ⟨Nat.le_of_ble_eq_true rfl, ?_⟩
  conv => whnf
  obtain ⟨hl, hs, hr, hg, he, hv, hx, hp⟩ := h
  simp only at hl hs hr hg he hv hx hp
  refine ifB_intro (fun h1 => ?_) (fun h1 => ?_)
  · conv => whnf
    refine sideB_intro (fun _ => decide_eq_true (by simp; omega)) ?_
    conv => whnf
    refine ⟨rfl, rfl, ⟨l, ex, s, r, va ++ [[102, 111, 110, 105, 112, 97], [102, 111, 110, 105, 112, 97]], xt, pv, g⟩, (by simp only [tagO, List.map_append]; rfl), rfl, ⟨hl, hs, hr, hg, he, ok_app hv rfl (by decide), okE_le hx (by decide), ok_le hp (by decide)⟩⟩
  conv => whnf
  refine ifB_intro (fun h1 => ?_) (fun h1 => ?_)
  · conv => whnf
    refine ⟨_, fun _ => call86 l (by omega), ?_⟩
    conv => whnf
    refine ⟨rfl, rfl, ⟨titleS l, ex, s, r, va, xt, pv, g⟩, rfl, rfl, ⟨by show (titleS l).length ≤ 16; rw [titleS_len]; exact hl, hs, hr, hg, he, ok_le hv (by decide), okE_le hx (by decide), ok_le hp (by decide)⟩⟩
  conv => whnf
  refine ifB_intro (fun h1 => ?_) (fun h1 => ?_)
  · conv => whnf
    refine sideB_intro (fun _ => decide_eq_true (by simp; omega)) ?_
    conv => whnf
    refine ⟨rfl, rfl, ⟨l, ex, s, r, va, xt ++ [⟨[98], []⟩], pv, g⟩, (by simp only [tagO, List.map_append]; rfl), rfl, ⟨hl, hs, hr, hg, he, ok_le hv (by decide), okE_app hx (by intro x hx; simp at hx; subst hx; exact ⟨by decide, by decide, by simp⟩) (by decide), ok_le hp (by decide)⟩⟩
  conv => whnf
  refine ifB_intro (fun h1 => ?_) (fun h1 => ?_)
  · conv => whnf
    refine ⟨rfl, rfl, ⟨l, ex, [108, 97, 116], r, va, xt, pv, g⟩, rfl, rfl, ⟨hl, Nat.le_of_ble_eq_true rfl, hr, hg, he, ok_le hv (by decide), okE_le hx (by decide), ok_le hp (by decide)⟩⟩
  conv => whnf
  refine ifB_intro (fun h1 => ?_) (fun h1 => ?_)
  · conv => whnf
    refine ⟨rfl, rfl, ⟨l, ex, s, r, va, xt, pv, [105, 45, 97, 109, 105]⟩, rfl, rfl, ⟨hl, hs, hr, Nat.le_of_ble_eq_true rfl, he, ok_le hv (by decide), okE_le hx (by decide), ok_le hp (by decide)⟩⟩
  conv => whnf
  refine ifB_intro (fun h1 => ?_) (fun h1 => ?_)
  · conv => whnf
    refine sideB_intro (fun _ => decide_eq_true (by simp; omega)) ?_
    conv => whnf
    refine ⟨rfl, rfl, ⟨l, ex, s, r, va, xt, pv ++ [[97, 98, 99, 100, 101, 102, 103, 104, 105]], g⟩, (by simp only [tagO, List.map_append]; rfl), rfl, ⟨hl, hs, hr, hg, he, ok_le hv (by decide), okE_le hx (by decide), ok_app hp rfl (by decide)⟩⟩
  conv => whnf
  refine ifB_intro (fun h1 => ?_) (fun h1 => ?_)
  · conv => whnf
    refine sideB_intro (fun _ => decide_eq_true (by simp; omega)) ?_
    conv => whnf
    refine ⟨rfl, rfl, ⟨l, ex, s, r, va, xt ++ [⟨[99], [[97, 98]]⟩, ⟨[99], [[99, 100]]⟩], pv, g⟩, (by simp only [tagO, List.map_append]; rfl), rfl, ⟨hl, hs, hr, hg, he, ok_le hv (by decide), okE_app hx (by intro x hx; simp at hx; rcases hx with rfl | rfl <;> exact ⟨by decide, by decide, by simp⟩) (by decide), ok_le hp (by decide)⟩⟩
  conv => whnf
  refine ifB_intro (fun h1 => ?_) (fun h1 => ?_)
  · conv => whnf
    refine ⟨rfl, rfl, ⟨[], ex, s, r, va, xt, pv, g⟩, rfl, rfl, ⟨Nat.le_of_ble_eq_true rfl, hs, hr, hg, he, ok_le hv (by decide), okE_le hx (by decide), ok_le hp (by decide)⟩⟩
  conv => whnf
  refine ⟨rfl, rfl, ⟨l, ex, s, r, va, xt, pv, g⟩, rfl, rfl, ⟨hl, hs, hr, hg, he, ok_le hv (by decide), okE_le hx (by decide), ok_le hp (by decide)⟩⟩
end Go.Proofs.Ytndijidmabfhcaa.Fw

/- Tags of plain numbers: Made. -/
namespace Go.Proofs.Ytndijidmabfhcaa.Fw
open Go Go.RowKit
set_option maxRecDepth 100000
set_option maxHeartbeats 4000000
def intD (n : Int) : D := .int .i64 n
structure Sd06 where
  l : Int
  e : Int
  s : Int
  r : Int
  vs : List Int
  ks : List Int
  ps : List Int
  o : Int
def Sd06.d (q : Sd06) : D := .agg [.int .i64 q.l, .int .i64 q.e, .int .i64 q.s, .int .i64 q.r, .sl 0 1 (q.vs.map intD), .sl 0 1 (q.ks.map intD), .sl 0 1 (q.ps.map intD), .int .i64 q.o]
theorem call65 (l s r g : S8) (ex va pv : List S8) (xt : List Ex) (odd : Int) (h : (⟨l, ex, s, r, va, xt, pv, g⟩ : STag).okN 1 4 3 3) : ∃ d bx', (fun d bx' => bx' = [] ∧ ∃ (u : STag), d = tagO (.sl 1 1 (ex.map .str)) u ∧ u.ex = ex ∧ u.okN 1 6 5 4) d bx' ∧ CallsM Try.prog 65 [] [(113, 9), (115, 111), (117, 9)] [.agg [.str l, .sl 1 1 (ex.map .str), .str s, .str r, .sl 113 1 (va.map .str), .sl 115 2 (xt.map Ex.d), .sl 117 1 (pv.map .str), .str g], .int .i64 odd] d bx' [] := callsM Try.func65 rfl (by decide) (run65 l s r g ex va pv xt odd h)
theorem and_true' {a b : Bool} (h : (bif a then b else false) = true) : a = true ∧ b = true := by cases a <;> simp_all
theorem snoc_len {l : List S8} {x : S8} {n : Nat} (h : l.length ≤ n ∧ ∀ y ∈ l, y.length ≤ 16) (hx : x.length ≤ 16) : (l ++ [x]).length ≤ n + 1 ∧ ∀ y ∈ l ++ [x], y.length ≤ 16 := by
  refine ⟨by simp; omega, fun y hy => ?_⟩
  rcases List.mem_append.1 hy with hy | hy
  · exact h.2 y hy
  · rw [List.mem_singleton.1 hy]; exact hx
theorem succ_len {l : List S8} {n : Nat} (h : l.length ≤ n ∧ ∀ y ∈ l, y.length ≤ 16) : l.length ≤ n + 1 ∧ ∀ y ∈ l, y.length ≤ 16 := ⟨by omega, h.2⟩
def exkL : List S8 := [[117], [116], [97], [57]]
theorem call51f (l : List S8) (h : 0 < l.length) (h2 : l.length ≤ 1000000) (n : Nat) (hn : l.all (fun s => Nat.ble s.length n) = true) : ∃ pk : Int → S8, (∀ x, (pk x).length ≤ n) ∧ ∀ x, CallsTo Try.prog 51 [.sl 0 1 (l.map .str), .int .i64 x] (.str (pk x)) := by
  have h0 : ∀ x : Int, ∃ s : S8, s.length ≤ n ∧ CallsTo Try.prog 51 [.sl 0 1 (l.map .str), .int .i64 x] (.str s) := fun x => call51s l x h h2 n hn
  refine ⟨fun x => Classical.choose (h0 x), fun x => (Classical.choose_spec (h0 x)).1, fun x => (Classical.choose_spec (h0 x)).2⟩
theorem run29 (q : Sd06) : RunsQ Try.prog T 166 (Try.f29.body.getD .skip) Try.f29.results.toList [q.d] (fun d => ∃ u : STag, d = u.t.d ∧ u.okN 1 6 5 4) := by
  refine ⟨Nat.le_of_ble_eq_true rfl, ?_⟩
  conv => whnf
  obtain ⟨pw, hpl, hpw⟩ := call51f wordsL (by decide) (by decide) 16 rfl
  refine ⟨rfl, ?_⟩
  conv => whnf
  refine ⟨_, fun _ => call60, ?_⟩
  conv => whnf
  obtain ⟨l, hl, hc⟩ := call51s langsL q.l (by decide) (by decide) 16 rfl
  refine ⟨_, fun _ => hc, ?_⟩
  conv => whnf
  refine ⟨_, fun _ => call61, ?_⟩
  conv => whnf
  obtain ⟨s, hs, hc⟩ := call51s scriptsL q.s (by decide) (by decide) 16 rfl
  refine ⟨_, fun _ => hc, ?_⟩
  conv => whnf
  refine ⟨_, fun _ => call62, ?_⟩
  conv => whnf
  obtain ⟨r, hr, hc⟩ := call51s regionsL q.r (by decide) (by decide) 16 rfl
  refine ⟨_, fun _ => hc, ?_⟩
  conv => whnf
  clear hc
  refine ifB_intro (fun hx => ?_) (fun hx => ?_)
  · obtain ⟨e, he, hc⟩ := call51s [[121, 117, 101], [99, 109, 110], [109, 105, 110]] (IntKind.i64.wrap (q.e.tdiv 4)) (by decide) (by decide) 16 rfl
    conv => whnf
    refine ⟨_, fun _ => hc, ?_⟩
    conv => whnf
    have hex : ([e] : List S8).length ≤ 1 ∧ ∀ x ∈ [e], x.length ≤ 16 := ⟨Nat.le_refl 1, fun x hx => by rw [List.mem_singleton.1 hx]; exact he⟩
    refine ⟨[.keep 13, .nilB 3 4 9 1], ?_⟩
    conv => whnf
    refine loop_at (σ := Nat × List S8) (fun z env => Env.setC1 3 4 (.sl 2 1 (z.2.map .str)) (Env.setT 4 (.int .i64 (z.1 : Int)) env)) (fun z => 4 - z.1) (fun z => z.1 ≤ 4 ∧ z.2.length ≤ z.1 ∧ ∀ x ∈ z.2, x.length ≤ 16) (0, []) ⟨by decide, by decide, by simp⟩ rfl ?_
    rintro ⟨i, va⟩ ⟨hi, hva⟩ ih
    replace hi : i ≤ 4 := hi
    replace hva : va.length ≤ i ∧ ∀ x ∈ va, x.length ≤ 16 := hva
    conv => whnf
    refine ifB_intro (fun h => ?_) (fun h => ?_)
    · obtain ⟨h1, h2⟩ := and_true' h
      replace h1 : (i : Int) < (q.vs.map intD).length := of_decide_eq_true h1
      replace h2 : (i : Int) < 4 := of_decide_eq_true h2
      have hlt : i < q.vs.length := by simpa using h1
      conv => whnf
      refine ⟨rfl, ?_⟩
      conv => whnf
      refine ⟨_, fun _ => call63, ?_⟩
      conv => whnf
      refine sideB_intro (fun _ => decide_eq_true (by simp; omega)) ?_
      conv => whnf
      rw [getD_map (enc := intD) hlt]
      obtain ⟨v, hv, hc⟩ := call51s variantsL q.vs[i] (by decide) (by decide) 16 rfl
      conv => whnf
      refine ⟨_, fun _ => hc, ?_⟩
      conv => whnf
      refine ⟨[.keep 13], ?_⟩
      conv => whnf
      refine loop_at (σ := Nat × Bool) (fun z env => Env.setT 6 (.bool z.2) (Env.setT 7 (.int .i64 (z.1 : Int)) env)) (fun z => va.length - z.1) (fun z => z.1 ≤ va.length) (0, false) (Nat.zero_le _) rfl ?_
      rintro ⟨k, b⟩ hk ihk
      replace hk : k ≤ va.length := hk
      conv => whnf
      refine ifB_intro (fun hkl => ?_) (fun hkl => ?_)
      · replace hkl : (k : Int) < (va.map D.str).length := of_decide_eq_true hkl
        have hk' : k < va.length := by simpa using hkl
        conv => whnf
        refine sideB_intro (fun _ => decide_eq_true (by simp; omega)) ?_
        conv => whnf
        rw [getD_map (enc := D.str) hk']
        conv => whnf
        rw [show IntKind.i64.wrap ((k : Int) + 1) = ((k + 1 : Nat) : Int) by rw [IntKind.wrap_i64]; omega]
        exact ihk (k + 1, _) hk' (by show va.length - k = va.length - (k + 1) + 1; omega)
      · conv => whnf
        refine ifB_intro (fun hb => ?_) (fun hb => ?_)
        · conv => whnf
          refine sideB_intro (fun _ => decide_eq_true (by simp; omega)) ?_
          conv => whnf
          rw [show IntKind.i64.wrap ((i : Int) + 1) = ((i + 1 : Nat) : Int) by rw [IntKind.wrap_i64]; omega]
          rw [show List.map D.str va ++ [D.str v] = List.map D.str (va ++ [v]) by simp]
          exact ih (i + 1, va ++ [v]) ⟨by show i + 1 ≤ 4; omega, snoc_len hva hv⟩ (by show 4 - i = 4 - (i + 1) + 1; omega)
        · conv => whnf
          rw [show IntKind.i64.wrap ((i : Int) + 1) = ((i + 1 : Nat) : Int) by rw [IntKind.wrap_i64]; omega]
          exact ih (i + 1, va) ⟨by show i + 1 ≤ 4; omega, succ_len hva⟩ (by show 4 - i = 4 - (i + 1) + 1; omega)
    clear ih h
    have hva4 : va.length ≤ 4 ∧ ∀ x ∈ va, x.length ≤ 16 := ⟨by omega, hva.2⟩
    clear hva hi
    conv => whnf
    refine ⟨[.keep 13, .nilB 3 5 111 2], ?_⟩
    conv => whnf
    refine loop_at (σ := Nat × List Ex) (fun z env => Env.setC1 3 5 (.sl 2 2 (z.2.map Ex.d)) (Env.setT 8 (.int .i64 (z.1 : Int)) env)) (fun z => 3 - z.1) (fun z => z.1 ≤ 3 ∧ z.2.length ≤ z.1 ∧ ∀ x ∈ z.2, okE x) (0, []) ⟨by decide, by decide, by simp⟩ rfl ?_
    rintro ⟨j, xt⟩ ⟨hj, hxt⟩ ih
    replace hj : j ≤ 3 := hj
    replace hxt : xt.length ≤ j ∧ ∀ x ∈ xt, okE x := hxt
    conv => whnf
    refine ifB_intro (fun h => ?_) (fun h => ?_)
    · obtain ⟨h1, h2⟩ := and_true' h
      replace h1 : (j : Int) < (q.ks.map intD).length := of_decide_eq_true h1
      replace h2 : (j : Int) < 3 := of_decide_eq_true h2
      have hlt : j < q.ks.length := by simpa using h1
      have hjk : j < exkL.length := by show j < 4; omega
      conv => whnf
      refine sideB_intro (fun _ => decide_eq_true (by simp; omega)) ?_
      conv => whnf
      rw [show ([.str [117], .str [116], .str [97], .str [57]] : List D).getD (Int.toNat (j : Int)) .undef = .str exkL[j] from getD_map (enc := D.str) hjk]
      have hkey : (exkL[j]).length ≤ 16 := Nat.le_of_ble_eq_true (List.all_eq_true.1 (show (exkL.all fun s => Nat.ble s.length 16) = true from rfl) _ (List.getElem_mem hjk))
      revert hkey
      generalize exkL[j] = key
      intro hkey
      conv => whnf
      refine sideB_intro (fun _ => decide_eq_true (by simp; omega)) ?_
      conv => whnf
      rw [getD_map (enc := intD) hlt]
      conv => whnf
      generalize hn : (IntKind.i64.wrap ((q.ks[j]).tmod 1000 + 1000)).tmod 1000 = n
      have hn4 : n.tmod 4 < 4 := Int.tmod_lt_of_pos n (by decide)
      refine ⟨[.keep 13, .nilB 9 1 9 1], ?_⟩
      conv => whnf
      refine loop_at (σ := Nat × List S8) (fun z env => Env.setC1 9 1 (.sl 2 1 (z.2.map .str)) (Env.setT 11 (.int .i64 (z.1 : Int)) env)) (fun z => 4 - z.1) (fun z => z.1 ≤ 4 ∧ z.2.length ≤ z.1 ∧ ∀ x ∈ z.2, x.length ≤ 16) (0, []) ⟨by decide, by decide, by simp⟩ rfl ?_
      rintro ⟨k, sb⟩ ⟨hk, hsb⟩ ihk
      replace hk : k ≤ 4 := hk
      replace hsb : sb.length ≤ k ∧ ∀ x ∈ sb, x.length ≤ 16 := hsb
      conv => whnf
      refine ifB_intro (fun hkl => ?_) (fun hkl => ?_)
      · replace hkl : (k : Int) ≤ n.tmod 4 := of_decide_eq_true hkl
        conv => whnf
        refine ⟨rfl, ?_⟩
        conv => whnf
        refine ⟨_, fun _ => call64, ?_⟩
        conv => whnf
        refine ⟨_, fun _ => hpw _, ?_⟩
        conv => whnf
        refine sideB_intro (fun _ => decide_eq_true (by simp; omega)) ?_
        conv => whnf
        rw [show IntKind.i64.wrap ((k : Int) + 1) = ((k + 1 : Nat) : Int) by rw [IntKind.wrap_i64]; omega]
        rw [map_snoc (f := D.str)]
        exact ihk (k + 1, _) ⟨by show k + 1 ≤ 4; omega, snoc_len hsb (hpl _)⟩ (by show 4 - k = 4 - (k + 1) + 1; omega)
      · conv => whnf
        refine sideB_intro (fun _ => decide_eq_true (by simp; omega)) ?_
        conv => whnf
        rw [show IntKind.i64.wrap ((j : Int) + 1) = ((j + 1 : Nat) : Int) by rw [IntKind.wrap_i64]; omega]
        rw [show List.map Ex.d xt ++ [D.agg [D.str key, D.sl 0 1 (List.map D.str sb)]] = List.map Ex.d (xt ++ [⟨key, sb⟩]) by simp [Ex.d]]
        exact ih (j + 1, xt ++ [⟨key, sb⟩]) ⟨by show j + 1 ≤ 3; omega, okE_app hxt (by intro x hx; simp at hx; subst hx; exact ⟨hkey, by show sb.length ≤ 8; omega, hsb.2⟩) (by simp)⟩ (by show 3 - j = 3 - (j + 1) + 1; omega)
    clear ih h
    have hxt3 : xt.length ≤ 3 ∧ ∀ x ∈ xt, okE x := ⟨by omega, hxt.2⟩
    clear hxt hj
    conv => whnf
    refine ⟨[.keep 13, .nilB 3 6 9 1], ?_⟩
    conv => whnf
    refine loop_at (σ := Nat × List S8) (fun z env => Env.setC1 3 6 (.sl 2 1 (z.2.map .str)) (Env.setT 12 (.int .i64 (z.1 : Int)) env)) (fun z => 3 - z.1) (fun z => z.1 ≤ 3 ∧ z.2.length ≤ z.1 ∧ ∀ x ∈ z.2, x.length ≤ 16) (0, []) ⟨by decide, by decide, by simp⟩ rfl ?_
    rintro ⟨k, pv⟩ ⟨hk, hpv⟩ ih
    replace hk : k ≤ 3 := hk
    replace hpv : pv.length ≤ k ∧ ∀ x ∈ pv, x.length ≤ 16 := hpv
    conv => whnf
    refine ifB_intro (fun h => ?_) (fun h => ?_)
    · obtain ⟨h1, h2⟩ := and_true' h
      replace h1 : (k : Int) < (q.ps.map intD).length := of_decide_eq_true h1
      replace h2 : (k : Int) < 3 := of_decide_eq_true h2
      have hlt : k < q.ps.length := by simpa using h1
      conv => whnf
      refine ⟨rfl, ?_⟩
      conv => whnf
      refine sideB_intro (fun _ => decide_eq_true (by simp; omega)) ?_
      conv => whnf
      rw [getD_map (enc := intD) hlt]
      obtain ⟨v, hv, hc⟩ := call51s [[97], [117, 115], [112, 114, 105, 118, 97, 116, 101, 49], [120]] q.ps[k] (by decide) (by decide) 16 rfl
      conv => whnf
      refine ⟨_, fun _ => hc, ?_⟩
      conv => whnf
      refine sideB_intro (fun _ => decide_eq_true (by simp; omega)) ?_
      conv => whnf
      rw [show IntKind.i64.wrap ((k : Int) + 1) = ((k + 1 : Nat) : Int) by rw [IntKind.wrap_i64]; omega]
      rw [map_snoc (f := D.str)]
      exact ih (k + 1, _) ⟨by show k + 1 ≤ 3; omega, snoc_len hpv hv⟩ (by show 3 - k = 3 - (k + 1) + 1; omega)
    clear ih h
    have hpv3 : pv.length ≤ 3 ∧ ∀ x ∈ pv, x.length ≤ 16 := ⟨by omega, hpv.2⟩
    obtain ⟨d, bx', ⟨rfl, u, rfl, hu1, hu2⟩, hcm⟩ := call65 l s r [] [e] va pv xt ((IntKind.i64.wrap (q.o.tmod 12 + 12)).tmod 12) ⟨hl, hs, hr, Nat.zero_le _, hex, hva4, hxt3, hpv3⟩
    conv => whnf
    refine ⟨⟨[], [(113, 6), (115, 4), (117, 2)], tagO (.sl 1 1 (List.map .str [e])) u, [], []⟩, ?_⟩
    conv => whnf
    refine ⟨rfl, hcm, ?_⟩
    conv => whnf
    exact ⟨rfl, u, by rw [← hu1]; rfl, hu2⟩
  · conv => whnf
    have hex : ([] : List S8).length ≤ 1 ∧ ∀ x ∈ ([] : List S8), x.length ≤ 16 := ⟨Nat.zero_le 1, fun x hx => by cases hx⟩
    refine ⟨[.keep 13, .nilB 3 4 9 1], ?_⟩
    conv => whnf
    refine loop_at (σ := Nat × List S8) (fun z env => Env.setC1 3 4 (.sl 2 1 (z.2.map .str)) (Env.setT 4 (.int .i64 (z.1 : Int)) env)) (fun z => 4 - z.1) (fun z => z.1 ≤ 4 ∧ z.2.length ≤ z.1 ∧ ∀ x ∈ z.2, x.length ≤ 16) (0, []) ⟨by decide, by decide, by simp⟩ rfl ?_
    rintro ⟨i, va⟩ ⟨hi, hva⟩ ih
    replace hi : i ≤ 4 := hi
    replace hva : va.length ≤ i ∧ ∀ x ∈ va, x.length ≤ 16 := hva
    conv => whnf
    refine ifB_intro (fun h => ?_) (fun h => ?_)
    · obtain ⟨h1, h2⟩ := and_true' h
      replace h1 : (i : Int) < (q.vs.map intD).length := of_decide_eq_true h1
      replace h2 : (i : Int) < 4 := of_decide_eq_true h2
      have hlt : i < q.vs.length := by simpa using h1
      conv => whnf
      refine ⟨rfl, ?_⟩
      conv => whnf
      refine ⟨_, fun _ => call63, ?_⟩
      conv => whnf
      refine sideB_intro (fun _ => decide_eq_true (by simp; omega)) ?_
      conv => whnf
      rw [getD_map (enc := intD) hlt]
      obtain ⟨v, hv, hc⟩ := call51s variantsL q.vs[i] (by decide) (by decide) 16 rfl
      conv => whnf
      refine ⟨_, fun _ => hc, ?_⟩
      conv => whnf
      refine ⟨[.keep 13], ?_⟩
      conv => whnf
      refine loop_at (σ := Nat × Bool) (fun z env => Env.setT 6 (.bool z.2) (Env.setT 7 (.int .i64 (z.1 : Int)) env)) (fun z => va.length - z.1) (fun z => z.1 ≤ va.length) (0, false) (Nat.zero_le _) rfl ?_
      rintro ⟨k, b⟩ hk ihk
      replace hk : k ≤ va.length := hk
      conv => whnf
      refine ifB_intro (fun hkl => ?_) (fun hkl => ?_)
      · replace hkl : (k : Int) < (va.map D.str).length := of_decide_eq_true hkl
        have hk' : k < va.length := by simpa using hkl
        conv => whnf
        refine sideB_intro (fun _ => decide_eq_true (by simp; omega)) ?_
        conv => whnf
        rw [getD_map (enc := D.str) hk']
        conv => whnf
        rw [show IntKind.i64.wrap ((k : Int) + 1) = ((k + 1 : Nat) : Int) by rw [IntKind.wrap_i64]; omega]
        exact ihk (k + 1, _) hk' (by show va.length - k = va.length - (k + 1) + 1; omega)
      · conv => whnf
        refine ifB_intro (fun hb => ?_) (fun hb => ?_)
        · conv => whnf
          refine sideB_intro (fun _ => decide_eq_true (by simp; omega)) ?_
          conv => whnf
          rw [show IntKind.i64.wrap ((i : Int) + 1) = ((i + 1 : Nat) : Int) by rw [IntKind.wrap_i64]; omega]
          rw [show List.map D.str va ++ [D.str v] = List.map D.str (va ++ [v]) by simp]
          exact ih (i + 1, va ++ [v]) ⟨by show i + 1 ≤ 4; omega, snoc_len hva hv⟩ (by show 4 - i = 4 - (i + 1) + 1; omega)
        · conv => whnf
          rw [show IntKind.i64.wrap ((i : Int) + 1) = ((i + 1 : Nat) : Int) by rw [IntKind.wrap_i64]; omega]
          exact ih (i + 1, va) ⟨by show i + 1 ≤ 4; omega, succ_len hva⟩ (by show 4 - i = 4 - (i + 1) + 1; omega)
    clear ih h
    have hva4 : va.length ≤ 4 ∧ ∀ x ∈ va, x.length ≤ 16 := ⟨by omega, hva.2⟩
    clear hva hi
    conv => whnf
    refine ⟨[.keep 13, .nilB 3 5 111 2], ?_⟩
    conv => whnf
    refine loop_at (σ := Nat × List Ex) (fun z env => Env.setC1 3 5 (.sl 2 2 (z.2.map Ex.d)) (Env.setT 8 (.int .i64 (z.1 : Int)) env)) (fun z => 3 - z.1) (fun z => z.1 ≤ 3 ∧ z.2.length ≤ z.1 ∧ ∀ x ∈ z.2, okE x) (0, []) ⟨by decide, by decide, by simp⟩ rfl ?_
    rintro ⟨j, xt⟩ ⟨hj, hxt⟩ ih
    replace hj : j ≤ 3 := hj
    replace hxt : xt.length ≤ j ∧ ∀ x ∈ xt, okE x := hxt
    conv => whnf
    refine ifB_intro (fun h => ?_) (fun h => ?_)
    · obtain ⟨h1, h2⟩ := and_true' h
      replace h1 : (j : Int) < (q.ks.map intD).length := of_decide_eq_true h1
      replace h2 : (j : Int) < 3 := of_decide_eq_true h2
      have hlt : j < q.ks.length := by simpa using h1
      have hjk : j < exkL.length := by show j < 4; omega
      conv => whnf
      refine sideB_intro (fun _ => decide_eq_true (by simp; omega)) ?_
      conv => whnf
      rw [show ([.str [117], .str [116], .str [97], .str [57]] : List D).getD (Int.toNat (j : Int)) .undef = .str exkL[j] from getD_map (enc := D.str) hjk]
      have hkey : (exkL[j]).length ≤ 16 := Nat.le_of_ble_eq_true (List.all_eq_true.1 (show (exkL.all fun s => Nat.ble s.length 16) = true from rfl) _ (List.getElem_mem hjk))
      revert hkey
      generalize exkL[j] = key
      intro hkey
      conv => whnf
      refine sideB_intro (fun _ => decide_eq_true (by simp; omega)) ?_
      conv => whnf
      rw [getD_map (enc := intD) hlt]
      conv => whnf
      generalize hn : (IntKind.i64.wrap ((q.ks[j]).tmod 1000 + 1000)).tmod 1000 = n
      have hn4 : n.tmod 4 < 4 := Int.tmod_lt_of_pos n (by decide)
      refine ⟨[.keep 13, .nilB 9 1 9 1], ?_⟩
      conv => whnf
      refine loop_at (σ := Nat × List S8) (fun z env => Env.setC1 9 1 (.sl 2 1 (z.2.map .str)) (Env.setT 11 (.int .i64 (z.1 : Int)) env)) (fun z => 4 - z.1) (fun z => z.1 ≤ 4 ∧ z.2.length ≤ z.1 ∧ ∀ x ∈ z.2, x.length ≤ 16) (0, []) ⟨by decide, by decide, by simp⟩ rfl ?_
      rintro ⟨k, sb⟩ ⟨hk, hsb⟩ ihk
      replace hk : k ≤ 4 := hk
      replace hsb : sb.length ≤ k ∧ ∀ x ∈ sb, x.length ≤ 16 := hsb
      conv => whnf
      refine ifB_intro (fun hkl => ?_) (fun hkl => ?_)
      · replace hkl : (k : Int) ≤ n.tmod 4 := of_decide_eq_true hkl
        conv => whnf
        refine ⟨rfl, ?_⟩
        conv => whnf
        refine ⟨_, fun _ => call64, ?_⟩
        conv => whnf
        refine ⟨_, fun _ => hpw _, ?_⟩
        conv => whnf
        refine sideB_intro (fun _ => decide_eq_true (by simp; omega)) ?_
        conv => whnf
        rw [show IntKind.i64.wrap ((k : Int) + 1) = ((k + 1 : Nat) : Int) by rw [IntKind.wrap_i64]; omega]
        rw [map_snoc (f := D.str)]
        exact ihk (k + 1, _) ⟨by show k + 1 ≤ 4; omega, snoc_len hsb (hpl _)⟩ (by show 4 - k = 4 - (k + 1) + 1; omega)
      · conv => whnf
        refine sideB_intro (fun _ => decide_eq_true (by simp; omega)) ?_
        conv => whnf
        rw [show IntKind.i64.wrap ((j : Int) + 1) = ((j + 1 : Nat) : Int) by rw [IntKind.wrap_i64]; omega]
        rw [show List.map Ex.d xt ++ [D.agg [D.str key, D.sl 0 1 (List.map D.str sb)]] = List.map Ex.d (xt ++ [⟨key, sb⟩]) by simp [Ex.d]]
        exact ih (j + 1, xt ++ [⟨key, sb⟩]) ⟨by show j + 1 ≤ 3; omega, okE_app hxt (by intro x hx; simp at hx; subst hx; exact ⟨hkey, by show sb.length ≤ 8; omega, hsb.2⟩) (by simp)⟩ (by show 3 - j = 3 - (j + 1) + 1; omega)
    clear ih h
    have hxt3 : xt.length ≤ 3 ∧ ∀ x ∈ xt, okE x := ⟨by omega, hxt.2⟩
    clear hxt hj
    conv => whnf
    refine ⟨[.keep 13, .nilB 3 6 9 1], ?_⟩
    conv => whnf
    refine loop_at (σ := Nat × List S8) (fun z env => Env.setC1 3 6 (.sl 2 1 (z.2.map .str)) (Env.setT 12 (.int .i64 (z.1 : Int)) env)) (fun z => 3 - z.1) (fun z => z.1 ≤ 3 ∧ z.2.length ≤ z.1 ∧ ∀ x ∈ z.2, x.length ≤ 16) (0, []) ⟨by decide, by decide, by simp⟩ rfl ?_
    rintro ⟨k, pv⟩ ⟨hk, hpv⟩ ih
    replace hk : k ≤ 3 := hk
    replace hpv : pv.length ≤ k ∧ ∀ x ∈ pv, x.length ≤ 16 := hpv
    conv => whnf
    refine ifB_intro (fun h => ?_) (fun h => ?_)
    · obtain ⟨h1, h2⟩ := and_true' h
      replace h1 : (k : Int) < (q.ps.map intD).length := of_decide_eq_true h1
      replace h2 : (k : Int) < 3 := of_decide_eq_true h2
      have hlt : k < q.ps.length := by simpa using h1
      conv => whnf
      refine ⟨rfl, ?_⟩
      conv => whnf
      refine sideB_intro (fun _ => decide_eq_true (by simp; omega)) ?_
      conv => whnf
      rw [getD_map (enc := intD) hlt]
      obtain ⟨v, hv, hc⟩ := call51s [[97], [117, 115], [112, 114, 105, 118, 97, 116, 101, 49], [120]] q.ps[k] (by decide) (by decide) 16 rfl
      conv => whnf
      refine ⟨_, fun _ => hc, ?_⟩
      conv => whnf
      refine sideB_intro (fun _ => decide_eq_true (by simp; omega)) ?_
      conv => whnf
      rw [show IntKind.i64.wrap ((k : Int) + 1) = ((k + 1 : Nat) : Int) by rw [IntKind.wrap_i64]; omega]
      rw [map_snoc (f := D.str)]
      exact ih (k + 1, _) ⟨by show k + 1 ≤ 3; omega, snoc_len hpv hv⟩ (by show 3 - k = 3 - (k + 1) + 1; omega)
    clear ih h
    have hpv3 : pv.length ≤ 3 ∧ ∀ x ∈ pv, x.length ≤ 16 := ⟨by omega, hpv.2⟩
    obtain ⟨d, bx', ⟨rfl, u, rfl, hu1, hu2⟩, hcm⟩ := call65 l s r [] ([]) va pv xt ((IntKind.i64.wrap (q.o.tmod 12 + 12)).tmod 12) ⟨hl, hs, hr, Nat.zero_le _, hex, hva4, hxt3, hpv3⟩
    conv => whnf
    refine ⟨⟨[], [(113, 6), (115, 4), (117, 2)], tagO (.sl 1 1 (List.map .str ([]))) u, [], []⟩, ?_⟩
    conv => whnf
    refine ⟨rfl, hcm, ?_⟩
    conv => whnf
    exact ⟨rfl, u, by rw [← hu1]; rfl, hu2⟩
end Go.Proofs.Ytndijidmabfhcaa.Fw

/- Reading arguments: seeds of tags and of images. -/
namespace Go.Proofs.Ytndijidmabfhcaa.Fw
open Go Go.RowKit Go.WideShapes Go.ChangeShapes
theorem all2_cons {α β : Type} {R : α → β → Prop} {a : α} {l : List α} {ys : List β} (h : All2 R (a :: l) ys) : ∃ y ys', ys = y :: ys' ∧ R a y ∧ All2 R l ys' := by
  cases ys with
  | nil => exact h.elim
  | cons y ys => exact ⟨y, ys, rfl, h.1, h.2⟩
theorem all2_nil {α β : Type} {R : α → β → Prop} {ys : List β} (h : All2 R ([] : List α) ys) : ys = [] := by
  cases ys with
  | nil => rfl
  | cons y ys => exact h.elim
theorem shp_bool {t : Nat} {d : D} (ht : (T t).map (fun e => e.kind) = some .bool) (h : ShpV T t d) : ∃ b, d = .bool b := by
  obtain ⟨cs, rfl, h⟩ := h
  cases he : T t with
  | none => rw [he] at ht; cases ht
  | some e =>
    rw [he] at ht
    simp only [Option.map_some, Option.some.injEq] at ht
    simp only [Shp, he, ht] at h
    obtain ⟨m, rfl⟩ := h
    exact ⟨m, by simp [wholeT, he, TE.isAgg, ht]⟩
theorem shp_i {n : Nat} {ds : List D} (h : Shp T (n + 1) 3 ds) : ∃ m, ds = [.int .i64 m] := by
  obtain ⟨m, rfl, _⟩ := h
  exact ⟨m, rfl⟩
theorem shp_is {n : Nat} {ds : List D} (h : Shp T (n + 2) 57 ds) : ∃ l : List Int, ds = [.sl 0 1 (l.map intD)] := by
  obtain ⟨xs, rfl, _, hx⟩ := h
  have : ∀ xs : List (List D), (∀ x ∈ xs, Shp T (n + 1) 3 x) → ∃ l : List Int, xs.map (wholeT T 3) = l.map intD := by
    intro xs
    induction xs with
    | nil => exact fun _ => ⟨[], rfl⟩
    | cons x xs ih =>
      intro h
      obtain ⟨l, hl⟩ := ih fun y hy => h y (by simp [hy])
      obtain ⟨m, rfl⟩ := shp_i (h x (by simp))
      exact ⟨m :: l, by rw [List.map_cons, hl]; rfl⟩
  obtain ⟨l, hl⟩ := this xs hx
  exact ⟨l, by rw [hl]; rfl⟩
theorem shp_sd06 {d : D} (h : ShpV T 66 d) : ∃ q : Sd06, d = q.d := by
  obtain ⟨cs, rfl, dss, rfl, h⟩ := h
  obtain ⟨_, _, rfl, h1, h⟩ := all2_cons h
  obtain ⟨_, _, rfl, h2, h⟩ := all2_cons h
  obtain ⟨_, _, rfl, h3, h⟩ := all2_cons h
  obtain ⟨_, _, rfl, h4, h⟩ := all2_cons h
  obtain ⟨_, _, rfl, h5, h⟩ := all2_cons h
  obtain ⟨_, _, rfl, h6, h⟩ := all2_cons h
  obtain ⟨_, _, rfl, h7, h⟩ := all2_cons h
  obtain ⟨_, _, rfl, h8, h⟩ := all2_cons h
  obtain rfl := all2_nil h
  obtain ⟨a, rfl⟩ := shp_i h1
  obtain ⟨b, rfl⟩ := shp_i h2
  obtain ⟨c, rfl⟩ := shp_i h3
  obtain ⟨e, rfl⟩ := shp_i h4
  obtain ⟨f, rfl⟩ := shp_is h5
  obtain ⟨g, rfl⟩ := shp_is h6
  obtain ⟨i, rfl⟩ := shp_is h7
  obtain ⟨j, rfl⟩ := shp_i h8
  exact ⟨⟨a, b, c, e, f, g, i, j⟩, rfl⟩
end Go.Proofs.Ytndijidmabfhcaa.Fw

/- Aliases of plain numbers: that there is one, of short texts. -/
namespace Go.Proofs.Ytndijidmabfhcaa.Fw
open Go Go.RowKit
set_option maxRecDepth 100000
set_option maxHeartbeats 4000000
def toLangs12 : List S8 := [[104, 101], [114, 111], [110, 98], [115, 114], [102, 105, 108], [120, 120], [99, 109, 110], [101, 110]]
theorem run78  : Runs Try.prog T 2 (Try.f78.body.getD .skip) Try.f78.results.toList [] (.sl 0 1 (toLangs12.map .str)) := by
  refine ⟨Nat.le_of_ble_eq_true rfl, ?_⟩
  conv => whnf
  exact ⟨rfl, rfl⟩
theorem call78  : CallsTo Try.prog 78 [] (.sl 0 1 (toLangs12.map .str)) := calls Try.func78 rfl (by decide) (run78)
def langs12 : List S8 := [[105, 119], [109, 111], [110, 111], [115, 104], [116, 108], [115, 103, 110], [122, 104], [104, 97, 110, 116]]
theorem run79  : Runs Try.prog T 2 (Try.f79.body.getD .skip) Try.f79.results.toList [] (.sl 0 1 (langs12.map .str)) := by
  refine ⟨Nat.le_of_ble_eq_true rfl, ?_⟩
  conv => whnf
  exact ⟨rfl, rfl⟩
theorem call79  : CallsTo Try.prog 79 [] (.sl 0 1 (langs12.map .str)) := calls Try.func79 rfl (by decide) (run79)
def scripts12 : List S8 := [[113, 97, 97, 105], [104, 97, 110, 115], [97, 114, 97, 110]]
theorem run80  : Runs Try.prog T 2 (Try.f80.body.getD .skip) Try.f80.results.toList [] (.sl 0 1 (scripts12.map .str)) := by
  refine ⟨Nat.le_of_ble_eq_true rfl, ?_⟩
  conv => whnf
  exact ⟨rfl, rfl⟩
theorem call80  : CallsTo Try.prog 80 [] (.sl 0 1 (scripts12.map .str)) := calls Try.func80 rfl (by decide) (run80)
def toScripts12 : List S8 := [[122, 105, 110, 104], [108, 97, 116, 110], [97, 114, 97, 98]]
theorem run81  : Runs Try.prog T 2 (Try.f81.body.getD .skip) Try.f81.results.toList [] (.sl 0 1 (toScripts12.map .str)) := by
  refine ⟨Nat.le_of_ble_eq_true rfl, ?_⟩
  conv => whnf
  exact ⟨rfl, rfl⟩
theorem call81  : CallsTo Try.prog 81 [] (.sl 0 1 (toScripts12.map .str)) := calls Try.func81 rfl (by decide) (run81)
def regions12 : List S8 := [[100, 100], [115, 117], [98, 117], [56, 52, 48]]
theorem run82  : Runs Try.prog T 2 (Try.f82.body.getD .skip) Try.f82.results.toList [] (.sl 0 1 (regions12.map .str)) := by
  refine ⟨Nat.le_of_ble_eq_true rfl, ?_⟩
  conv => whnf
  exact ⟨rfl, rfl⟩
theorem call82  : CallsTo Try.prog 82 [] (.sl 0 1 (regions12.map .str)) := calls Try.func82 rfl (by decide) (run82)
def toRegions12 : List S8 := [[100, 101], [114, 117], [109, 109], [117, 115]]
theorem run83  : Runs Try.prog T 2 (Try.f83.body.getD .skip) Try.f83.results.toList [] (.sl 0 1 (toRegions12.map .str)) := by
  refine ⟨Nat.le_of_ble_eq_true rfl, ?_⟩
  conv => whnf
  exact ⟨rfl, rfl⟩
theorem call83  : CallsTo Try.prog 83 [] (.sl 0 1 (toRegions12.map .str)) := calls Try.func83 rfl (by decide) (run83)
def okA (n : Nat) (x : Al) : Prop := (0 ≤ x.k ∧ x.k ≤ 8) ∧ x.a.length ≤ n ∧ x.b.length ≤ n ∧ x.l.length ≤ n ∧ x.s.length ≤ n ∧ x.r.length ≤ n
theorem run84 (x : Al) (odd : Int) (h : okA 8 x) : RunsQ Try.prog T 38 (Try.f84.body.getD .skip) Try.f84.results.toList [x.d, .int .i64 odd] (fun d => ∃ y : Al, d = y.d ∧ okA 9 y) := by
  refine ⟨Nat.le_of_ble_eq_true rfl, ?_⟩
  conv => whnf
  obtain ⟨hk, ha, hb, hl, hs, hr⟩ := h
  refine ifB_intro (fun h1 => ?_) (fun h1 => ?_)
  · conv => whnf
    refine ⟨_, fun _ => call86 x.a (by omega), ?_⟩
    conv => whnf
    exact ⟨rfl, ⟨x.k, titleS x.a, x.b, x.l, x.s, x.r⟩, rfl, hk, by show (titleS x.a).length ≤ 9; rw [titleS_len]; omega, by show x.b.length ≤ 9; omega, by show x.l.length ≤ 9; omega, by show x.s.length ≤ 9; omega, by show x.r.length ≤ 9; omega⟩
  conv => whnf
  refine ifB_intro (fun h1 => ?_) (fun h1 => ?_)
  · conv => whnf
    refine sideB_intro (fun _ => decide_eq_true (by simp; omega)) ?_
    conv => whnf
    exact ⟨rfl, ⟨x.k, x.a, x.b ++ [120], x.l, x.s, x.r⟩, rfl, hk, by show x.a.length ≤ 9; omega, by show (x.b ++ [120]).length ≤ 9; rw [List.length_append]; show x.b.length + 1 ≤ 9; omega, by show x.l.length ≤ 9; omega, by show x.s.length ≤ 9; omega, by show x.r.length ≤ 9; omega⟩
  conv => whnf
  refine ifB_intro (fun h1 => ?_) (fun h1 => ?_)
  · conv => whnf
    exact ⟨rfl, ⟨x.k, x.a, x.b, [], [], []⟩, rfl, hk, by show x.a.length ≤ 9; omega, by show x.b.length ≤ 9; omega, Nat.zero_le _, Nat.zero_le _, Nat.zero_le _⟩
  conv => whnf
  refine ifB_intro (fun h1 => ?_) (fun h1 => ?_)
  · conv => whnf
    exact ⟨rfl, ⟨8, x.a, x.b, x.l, x.s, x.r⟩, rfl, ⟨by simp, by simp⟩, by show x.a.length ≤ 9; omega, by show x.b.length ≤ 9; omega, by show x.l.length ≤ 9; omega, by show x.s.length ≤ 9; omega, by show x.r.length ≤ 9; omega⟩
  conv => whnf
  refine ifB_intro (fun h1 => ?_) (fun h1 => ?_)
  · conv => whnf
    exact ⟨rfl, ⟨x.k, x.a, x.b, [97, 98, 99, 100, 101, 102, 103, 104, 105], x.s, x.r⟩, rfl, hk, by show x.a.length ≤ 9; omega, by show x.b.length ≤ 9; omega, Nat.le_refl 9, by show x.s.length ≤ 9; omega, by show x.r.length ≤ 9; omega⟩
  conv => whnf
  refine ifB_intro (fun h1 => ?_) (fun h1 => ?_)
  · conv => whnf
    refine ⟨rfl, ?_⟩
    conv => whnf
    refine ⟨_, fun _ => call79, ?_⟩
    conv => whnf
    obtain ⟨v, hv, hc⟩ := call51s langs12 (x.a.length : Int) (by decide) (by decide) 8 rfl
    refine ⟨_, fun _ => hc, ?_⟩
    conv => whnf
    exact ⟨rfl, ⟨x.k, x.a, x.b, v, x.s, x.r⟩, rfl, hk, by show x.a.length ≤ 9; omega, by show x.b.length ≤ 9; omega, by show v.length ≤ 9; omega, by show x.s.length ≤ 9; omega, by show x.r.length ≤ 9; omega⟩
  conv => whnf
  exact ⟨rfl, x, rfl, hk, by show x.a.length ≤ 9; omega, by show x.b.length ≤ 9; omega, by show x.l.length ≤ 9; omega, by show x.s.length ≤ 9; omega, by show x.r.length ≤ 9; omega⟩
theorem spoilt12 (x : Al) (odd : Int) (h : okA 8 x) : ∃ y : Al, okA 9 y ∧ CallsTo Try.prog 84 [x.d, .int .i64 odd] y.d := by
  obtain ⟨d, ⟨y, rfl, hy⟩, hc⟩ := callsQ Try.func84 rfl (by decide) (run84 x odd h)
  exact ⟨y, hy, hc⟩
structure Sd12 where
  k : Int
  a : Int
  b : Int
  l : Int
  s : Int
  r : Int
  o : Int
def Sd12.d (q : Sd12) : D := .agg [.int .i64 q.k, .int .i64 q.a, .int .i64 q.b, .int .i64 q.l, .int .i64 q.s, .int .i64 q.r, .int .i64 q.o]
theorem run54 (q : Sd12) : RunsQ Try.prog T 144 (Try.f54.body.getD .skip) Try.f54.results.toList [q.d] (fun d => ∃ y : Al, d = y.d ∧ okA 9 y) := by
  refine ⟨Nat.le_of_ble_eq_true rfl, ?_⟩
  conv => whnf
  obtain ⟨i, hi, e⟩ := rest_nat' q.k 7 (by decide) (by decide)
  replace e : (IntKind.i64.wrap (q.k.tmod 7 + 7)).tmod 7 = (i : Int) := e
  obtain ⟨j, hj, ej⟩ := rest_nat' q.a 26 (by decide) (by decide)
  replace ej : (IntKind.i64.wrap (q.a.tmod 26 + 26)).tmod 26 = (j : Int) := ej
  have hi2 : i = 0 ∨ i = 1 ∨ i = 2 ∨ i = 3 ∨ i = 4 ∨ i = 5 ∨ i = 6 := by omega
  rcases hi2 with rfl | rfl | rfl | rfl | rfl | rfl | rfl
  · have e0 := e
    rw [e]
    conv => whnf
    rw [ej]
    refine ⟨rfl, ?_⟩
    conv => whnf
    refine ⟨_, fun _ => call78, ?_⟩
    conv => whnf
    obtain ⟨l1, hl1, hcl⟩ := call51s toLangs12 q.l (by decide) (by decide) 8 rfl
    refine ⟨_, fun _ => hcl, ?_⟩
    conv => whnf
    obtain ⟨s1, hs1, hcs⟩ := call51s [[], [], [108, 97, 116, 110]] q.s (by decide) (by decide) 8 rfl
    refine ⟨_, fun _ => hcs, ?_⟩
    conv => whnf
    obtain ⟨r1, hr1, hcr⟩ := call51s [[], [], [117, 115]] q.r (by decide) (by decide) 8 rfl
    refine ⟨_, fun _ => hcr, ?_⟩
    conv => whnf
    obtain ⟨y, hy, hc⟩ := spoilt12 ⟨1, [UInt8.ofNat (IntKind.u8.wrap (IntKind.i64.wrap (48 + IntKind.i64.wrap ((j : Int).tdiv 10)))).toNat, UInt8.ofNat (IntKind.u8.wrap (IntKind.i64.wrap (48 + (j : Int).tmod 10))).toNat], [], l1, s1, r1⟩ ((IntKind.i64.wrap (q.o.tmod 9 + 9)).tmod 9) ⟨⟨by simp, by simp⟩, (by simp), Nat.zero_le _, hl1, hs1, hr1⟩
    refine ⟨_, fun _ => hc, ?_⟩
    conv => whnf
    exact ⟨rfl, y, rfl, hy⟩
  · have e1 := e
    rw [e]
    conv => whnf
    refine ⟨rfl, ?_⟩
    conv => whnf
    refine ⟨_, fun _ => call79, ?_⟩
    conv => whnf
    obtain ⟨a1, ha1, hca⟩ := call51s langs12 q.a (by decide) (by decide) 8 rfl
    refine ⟨_, fun _ => hca, ?_⟩
    conv => whnf
    obtain ⟨b1, hb1, hcb⟩ := call51s [[98, 114], [99, 110], [117, 115], [100, 100]] q.b (by decide) (by decide) 8 rfl
    refine ⟨_, fun _ => hcb, ?_⟩
    conv => whnf
    refine ⟨rfl, ?_⟩
    conv => whnf
    refine ⟨_, fun _ => call78, ?_⟩
    conv => whnf
    obtain ⟨l1, hl1, hcl⟩ := call51s toLangs12 q.l (by decide) (by decide) 8 rfl
    refine ⟨_, fun _ => hcl, ?_⟩
    conv => whnf
    obtain ⟨y, hy, hc⟩ := spoilt12 ⟨2, a1, b1, l1, [], []⟩ ((IntKind.i64.wrap (q.o.tmod 9 + 9)).tmod 9) ⟨⟨by simp, by simp⟩, ha1, hb1, hl1, Nat.zero_le _, Nat.zero_le _⟩
    refine ⟨_, fun _ => hc, ?_⟩
    conv => whnf
    exact ⟨rfl, y, rfl, hy⟩
  · have e2 := e
    rw [e]
    conv => whnf
    refine ⟨rfl, ?_⟩
    conv => whnf
    refine ⟨_, fun _ => call79, ?_⟩
    conv => whnf
    obtain ⟨a1, ha1, hca⟩ := call51s langs12 q.a (by decide) (by decide) 8 rfl
    refine ⟨_, fun _ => hca, ?_⟩
    conv => whnf
    refine ⟨rfl, ?_⟩
    conv => whnf
    refine ⟨_, fun _ => call78, ?_⟩
    conv => whnf
    obtain ⟨l1, hl1, hcl⟩ := call51s toLangs12 q.l (by decide) (by decide) 8 rfl
    refine ⟨_, fun _ => hcl, ?_⟩
    conv => whnf
    obtain ⟨s1, hs1, hcs⟩ := call51s [[], [108, 97, 116, 110]] q.s (by decide) (by decide) 8 rfl
    refine ⟨_, fun _ => hcs, ?_⟩
    conv => whnf
    obtain ⟨r1, hr1, hcr⟩ := call51s [[], [], [117, 115]] q.r (by decide) (by decide) 8 rfl
    refine ⟨_, fun _ => hcr, ?_⟩
    conv => whnf
    obtain ⟨y, hy, hc⟩ := spoilt12 ⟨3, a1, [], l1, s1, r1⟩ ((IntKind.i64.wrap (q.o.tmod 9 + 9)).tmod 9) ⟨⟨by simp, by simp⟩, ha1, Nat.zero_le _, hl1, hs1, hr1⟩
    refine ⟨_, fun _ => hc, ?_⟩
    conv => whnf
    exact ⟨rfl, y, rfl, hy⟩
  · have e3 := e
    rw [e]
    conv => whnf
    refine ⟨rfl, ?_⟩
    conv => whnf
    refine ⟨_, fun _ => call80, ?_⟩
    conv => whnf
    obtain ⟨a1, ha1, hca⟩ := call51s scripts12 q.a (by decide) (by decide) 8 rfl
    refine ⟨_, fun _ => hca, ?_⟩
    conv => whnf
    refine ⟨rfl, ?_⟩
    conv => whnf
    refine ⟨_, fun _ => call81, ?_⟩
    conv => whnf
    obtain ⟨s1, hs1, hcs⟩ := call51s toScripts12 q.s (by decide) (by decide) 8 rfl
    refine ⟨_, fun _ => hcs, ?_⟩
    conv => whnf
    obtain ⟨y, hy, hc⟩ := spoilt12 ⟨4, a1, [], [], s1, []⟩ ((IntKind.i64.wrap (q.o.tmod 9 + 9)).tmod 9) ⟨⟨by simp, by simp⟩, ha1, Nat.zero_le _, Nat.zero_le _, hs1, Nat.zero_le _⟩
    refine ⟨_, fun _ => hc, ?_⟩
    conv => whnf
    exact ⟨rfl, y, rfl, hy⟩
  · have e4 := e
    rw [e]
    conv => whnf
    refine ⟨rfl, ?_⟩
    conv => whnf
    refine ⟨_, fun _ => call82, ?_⟩
    conv => whnf
    obtain ⟨a1, ha1, hca⟩ := call51s regions12 q.a (by decide) (by decide) 8 rfl
    refine ⟨_, fun _ => hca, ?_⟩
    conv => whnf
    refine ⟨rfl, ?_⟩
    conv => whnf
    refine ⟨_, fun _ => call83, ?_⟩
    conv => whnf
    obtain ⟨r1, hr1, hcr⟩ := call51s toRegions12 q.r (by decide) (by decide) 8 rfl
    refine ⟨_, fun _ => hcr, ?_⟩
    conv => whnf
    obtain ⟨y, hy, hc⟩ := spoilt12 ⟨5, a1, [], [], [], r1⟩ ((IntKind.i64.wrap (q.o.tmod 9 + 9)).tmod 9) ⟨⟨by simp, by simp⟩, ha1, Nat.zero_le _, Nat.zero_le _, Nat.zero_le _, hr1⟩
    refine ⟨_, fun _ => hc, ?_⟩
    conv => whnf
    exact ⟨rfl, y, rfl, hy⟩
  · have e5 := e
    rw [e]
    conv => whnf
    obtain ⟨a1, ha1, hca⟩ := call51s [[104, 101, 112, 108, 111, 99], [97, 114, 101, 118, 101, 108, 97], [49, 97, 50, 98]] q.a (by decide) (by decide) 8 rfl
    refine ⟨_, fun _ => hca, ?_⟩
    conv => whnf
    obtain ⟨l1, hl1, hcl⟩ := call51s [[], [97, 108, 97, 108, 99, 57, 55], [49, 57, 57, 52]] q.l (by decide) (by decide) 8 rfl
    refine ⟨_, fun _ => hcl, ?_⟩
    conv => whnf
    obtain ⟨y, hy, hc⟩ := spoilt12 ⟨6, a1, [], l1, [], []⟩ ((IntKind.i64.wrap (q.o.tmod 9 + 9)).tmod 9) ⟨⟨by simp, by simp⟩, ha1, Nat.zero_le _, hl1, Nat.zero_le _, Nat.zero_le _⟩
    refine ⟨_, fun _ => hc, ?_⟩
    conv => whnf
    exact ⟨rfl, y, rfl, hy⟩
  · have e6 := e
    rw [e]
    conv => whnf
    obtain ⟨a1, ha1, hca⟩ := call51s [[99, 97], [99, 111]] q.a (by decide) (by decide) 8 rfl
    refine ⟨_, fun _ => hca, ?_⟩
    conv => whnf
    obtain ⟨b1, hb1, hcb⟩ := call51s [[105, 115, 108, 97, 109, 105, 99, 99], [97, 98, 49], [112, 104, 111, 110, 101, 98, 107]] q.b (by decide) (by decide) 8 rfl
    refine ⟨_, fun _ => hcb, ?_⟩
    conv => whnf
    obtain ⟨l1, hl1, hcl⟩ := call51s [[99, 105, 118, 105, 108], [116, 114, 117, 101], [115, 116, 97, 110, 100, 97, 114, 100]] q.l (by decide) (by decide) 8 rfl
    refine ⟨_, fun _ => hcl, ?_⟩
    conv => whnf
    obtain ⟨y, hy, hc⟩ := spoilt12 ⟨7, a1, b1, l1, [], []⟩ ((IntKind.i64.wrap (q.o.tmod 9 + 9)).tmod 9) ⟨⟨by simp, by simp⟩, ha1, hb1, hl1, Nat.zero_le _, Nat.zero_le _⟩
    refine ⟨_, fun _ => hc, ?_⟩
    conv => whnf
    exact ⟨rfl, y, rfl, hy⟩
theorem made12 (q : Sd12) : ∃ y : Al, okA 9 y ∧ CallsTo Try.prog 54 [q.d] y.d := by
  obtain ⟨d, ⟨y, rfl, hy⟩, hc⟩ := callsQ Try.func54 rfl (by decide) (run54 q)
  exact ⟨y, hy, hc⟩
end Go.Proofs.Ytndijidmabfhcaa.Fw

/- Images of plain numbers: rest, likely rows, rules, and what is spoilt. -/
namespace Go.Proofs.Ytndijidmabfhcaa.Fw
open Go Go.RowKit
set_option maxRecDepth 100000
set_option maxHeartbeats 4000000
theorem run53 (x n : Int) (h : 0 < n) : Runs Try.prog T 12 (Try.f53.body.getD .skip) Try.f53.results.toList [.int .i64 x, .int .i64 n] (.int .i64 ((IntKind.i64.wrap (x.tmod n + n)).tmod n)) := by
  refine ⟨Nat.le_of_ble_eq_true rfl, ?_⟩
  conv => whnf
  refine sideB_intro (fun _ => decide_eq_true (by omega)) ?_
  conv => whnf
  refine sideB_intro (fun _ => decide_eq_true (by omega)) ?_
  conv => whnf
  exact ⟨rfl, rfl⟩
theorem call53 (x : Int) (n : Nat) (h : 0 < n) (h2 : n ≤ 1000000) : ∃ i : Nat, i < n ∧ CallsTo Try.prog 53 [.int .i64 x, .int .i64 (n : Int)] (.int .i64 (i : Int)) := by
  obtain ⟨i, hi, e⟩ := rest_nat' x n h h2
  have := calls Try.func53 rfl (by decide) (run53 x (n : Int) (by omega))
  rw [e] at this
  exact ⟨i, hi, this⟩
def okK (n : Nat) (x : Lk) : Prop := (1 ≤ x.l.length ∧ x.l.length ≤ n) ∧ x.s.length ≤ n ∧ x.r.length ≤ n ∧ x.tl.length ≤ n ∧ x.ts.length ≤ n ∧ x.tr.length ≤ n
theorem get_ok {l : List S8} {n : Nat} (hn : l.all (fun s => Nat.ble s.length n) = true) {i : Nat} (h : i < l.length) : (l[i]).length ≤ n := Nat.le_of_ble_eq_true (List.all_eq_true.1 hn _ (List.getElem_mem h))
def lk1 : List S8 := [[101, 110], [122, 104], [115, 114], [104, 101], [100, 101], [114, 117], [102, 105, 108], [114, 111]]
def lk2 : List S8 := [[108, 97, 116, 110], [104, 97, 110, 115], [99, 121, 114, 108], [104, 101, 98, 114], [108, 97, 116, 110], [99, 121, 114, 108], [108, 97, 116, 110], [108, 97, 116, 110]]
def lk3 : List S8 := [[117, 115], [99, 110], [114, 115], [105, 108], [100, 101], [114, 117], [112, 104], [114, 111]]
theorem run56 (n : Int) : RunsQ Try.prog T 98 (Try.f56.body.getD .skip) Try.f56.results.toList [.int .i64 n] (fun d => ∃ L : List Lk, d = .sl 0 6 (L.map Lk.d) ∧ L.length ≤ 2 ∧ ∀ x ∈ L, okK 4 x) := by
  refine ⟨Nat.le_of_ble_eq_true rfl, ?_⟩
  conv => whnf
  obtain ⟨i, hi, hc⟩ := call53 n 8 (by decide) (by decide)
  obtain ⟨k, hk, hc2⟩ := call53 (IntKind.i64.wrap (n.tdiv 8)) 6 (by decide) (by decide)
  have g1 : ∀ l : List S8, l.length = 8 → ∀ e : S8, (∃ h : i < l.length, l[i] = e) → (l.map D.str).getD (Int.toNat (i : Int)) .undef = .str e := fun l hl e ⟨h, he⟩ => by rw [getD_map h, he]
  refine ⟨_, fun _ => hc, ?_⟩
  conv => whnf
  have e1 : ([.str [101, 110], .str [122, 104], .str [115, 114], .str [104, 101], .str [100, 101], .str [114, 117], .str [102, 105, 108], .str [114, 111]] : List D).getD (Int.toNat (i : Int)) .undef = .str (lk1[i]'hi) := getD_map (enc := D.str) (xs := lk1) hi
  have e2 : ([.str [108, 97, 116, 110], .str [104, 97, 110, 115], .str [99, 121, 114, 108], .str [104, 101, 98, 114], .str [108, 97, 116, 110], .str [99, 121, 114, 108], .str [108, 97, 116, 110], .str [108, 97, 116, 110]] : List D).getD (Int.toNat (i : Int)) .undef = .str (lk2[i]'hi) := getD_map (enc := D.str) (xs := lk2) hi
  have e3 : ([.str [117, 115], .str [99, 110], .str [114, 115], .str [105, 108], .str [100, 101], .str [114, 117], .str [112, 104], .str [114, 111]] : List D).getD (Int.toNat (i : Int)) .undef = .str (lk3[i]'hi) := getD_map (enc := D.str) (xs := lk3) hi
  have h1 : 1 ≤ (lk1[i]'hi).length ∧ (lk1[i]'hi).length ≤ 4 := ⟨Nat.le_of_ble_eq_true (List.all_eq_true.1 (show (lk1.all fun s => Nat.ble 1 s.length) = true from rfl) _ (List.getElem_mem hi)), get_ok rfl hi⟩
  have h2 : (lk2[i]'hi).length ≤ 4 := get_ok rfl hi
  have h3 : (lk3[i]'hi).length ≤ 4 := get_ok rfl hi
  revert e1 e2 e3 h1 h2 h3
  generalize (lk1[i]'hi) = l
  generalize (lk2[i]'hi) = s
  generalize (lk3[i]'hi) = r
  intro e1 e2 e3 h1 h2 h3
  refine sideB_intro (fun _ => decide_eq_true ⟨by omega, by show (i : Int) < 8; omega⟩) ?_
  conv => whnf
  rw [e2]
  conv => whnf
  refine sideB_intro (fun _ => decide_eq_true ⟨by omega, by show (i : Int) < 8; omega⟩) ?_
  conv => whnf
  rw [e3]
  conv => whnf
  refine ⟨rfl, ?_⟩
  conv => whnf
  refine sideB_intro (fun _ => decide_eq_true ⟨by omega, by show (i : Int) < 8; omega⟩) ?_
  conv => whnf
  rw [e1]
  conv => whnf
  refine sideB_intro (fun _ => decide_eq_true ⟨by omega, by show (i : Int) < 8; omega⟩) ?_
  conv => whnf
  rw [e1]
  conv => whnf
  refine ⟨_, fun _ => hc2, ?_⟩
  conv => whnf
  clear hc hc2 g1
  have hk6 : k = 0 ∨ k = 1 ∨ k = 2 ∨ k = 3 ∨ k = 4 ∨ k = 5 := by omega
  rcases hk6 with rfl | rfl | rfl | rfl | rfl | rfl
  · conv => whnf
    exact ⟨rfl, [⟨l, [], [], l, s, r⟩], rfl, by simp, fun x hx => by simp at hx; subst hx; exact ⟨h1, Nat.zero_le _, Nat.zero_le _, h1.2, h2, h3⟩⟩
  · conv => whnf
    refine ⟨rfl, ?_⟩
    conv => whnf
    refine sideB_intro (fun _ => decide_eq_true ⟨by omega, by show (i : Int) < 8; omega⟩) ?_
    conv => whnf
    rw [e1]
    conv => whnf
    refine sideB_intro (fun _ => decide_eq_true ⟨by omega, by show (i : Int) < 8; omega⟩) ?_
    conv => whnf
    rw [e1]
    conv => whnf
    exact ⟨rfl, [⟨l, [], [], l, s, r⟩, ⟨l, [], [52, 49, 57], l, [108, 97, 116, 110], [52, 49, 57]⟩], rfl, by simp, fun x hx => by simp at hx; rcases hx with rfl | rfl; exact ⟨h1, Nat.zero_le _, Nat.zero_le _, h1.2, h2, h3⟩; exact ⟨h1, Nat.zero_le _, by simp, h1.2, by simp, by simp⟩⟩
  · conv => whnf
    refine ⟨rfl, ?_⟩
    conv => whnf
    refine sideB_intro (fun _ => decide_eq_true ⟨by omega, by show (i : Int) < 8; omega⟩) ?_
    conv => whnf
    rw [e1]
    conv => whnf
    exact ⟨rfl, [⟨l, [], [], l, s, r⟩, ⟨[117, 110, 100], s, [], l, s, r⟩], rfl, by simp, fun x hx => by simp at hx; rcases hx with rfl | rfl; exact ⟨h1, Nat.zero_le _, Nat.zero_le _, h1.2, h2, h3⟩; exact ⟨by simp, h2, Nat.zero_le _, h1.2, h2, h3⟩⟩
  · conv => whnf
    refine ⟨rfl, ?_⟩
    conv => whnf
    refine sideB_intro (fun _ => decide_eq_true ⟨by omega, by show (i : Int) < 8; omega⟩) ?_
    conv => whnf
    rw [e1]
    conv => whnf
    refine sideB_intro (fun _ => decide_eq_true ⟨by omega, by show (i : Int) < 8; omega⟩) ?_
    conv => whnf
    rw [e1]
    conv => whnf
    exact ⟨rfl, [⟨l, [], [], l, s, r⟩, ⟨l, [104, 97, 110, 116], [], l, [104, 97, 110, 116], [116, 119]⟩], rfl, by simp, fun x hx => by simp at hx; rcases hx with rfl | rfl; exact ⟨h1, Nat.zero_le _, Nat.zero_le _, h1.2, h2, h3⟩; exact ⟨h1, by simp, Nat.zero_le _, h1.2, by simp, by simp⟩⟩
  · conv => whnf
    refine ⟨rfl, ?_⟩
    conv => whnf
    refine sideB_intro (fun _ => decide_eq_true ⟨by omega, by show (i : Int) < 8; omega⟩) ?_
    conv => whnf
    rw [e1]
    conv => whnf
    exact ⟨rfl, [⟨l, [], [], l, s, r⟩, ⟨[117, 110, 100], [], r, l, s, r⟩], rfl, by simp, fun x hx => by simp at hx; rcases hx with rfl | rfl; exact ⟨h1, Nat.zero_le _, Nat.zero_le _, h1.2, h2, h3⟩; exact ⟨by simp, Nat.zero_le _, h3, h1.2, h2, h3⟩⟩
  · conv => whnf
    refine ⟨rfl, ?_⟩
    conv => whnf
    refine sideB_intro (fun _ => decide_eq_true ⟨by omega, by show (i : Int) < 8; omega⟩) ?_
    conv => whnf
    rw [e1]
    conv => whnf
    refine sideB_intro (fun _ => decide_eq_true ⟨by omega, by show (i : Int) < 8; omega⟩) ?_
    conv => whnf
    rw [e1]
    conv => whnf
    exact ⟨rfl, [⟨l, [], [], l, s, r⟩, ⟨l, [108, 97, 116, 110], [103, 98], l, [108, 97, 116, 110], [103, 98]⟩], rfl, by simp, fun x hx => by simp at hx; rcases hx with rfl | rfl; exact ⟨h1, Nat.zero_le _, Nat.zero_le _, h1.2, h2, h3⟩; exact ⟨h1, by simp, by simp, h1.2, by simp, by simp⟩⟩
theorem likely13 (n : Int) : ∃ L : List Lk, L.length ≤ 2 ∧ (∀ x ∈ L, okK 4 x) ∧ CallsTo Try.prog 56 [.int .i64 n] (.sl 0 6 (L.map Lk.d)) := by
  obtain ⟨d, ⟨L, rfl, h1, h2⟩, hc⟩ := callsQ Try.func56 rfl (by decide) (run56 n)
  exact ⟨L, h1, h2, hc⟩
def okU (n : Nat) (x : Ru) : Prop := (0 ≤ x.lv ∧ x.lv ≤ 4) ∧ (0 ≤ x.n ∧ x.n ≤ 100) ∧ x.d0.length ≤ n ∧ x.d1.length ≤ n ∧ x.d2.length ≤ n ∧ x.s0.length ≤ n ∧ x.s1.length ≤ n ∧ x.s2.length ≤ n
theorem run57 (n : Int) : RunsQ Try.prog T 70 (Try.f57.body.getD .skip) Try.f57.results.toList [.int .i64 n] (fun d => ∃ y : Ru, d = y.d ∧ okU 4 y) := by
  refine ⟨Nat.le_of_ble_eq_true rfl, ?_⟩
  conv => whnf
  obtain ⟨i, hi, hc⟩ := call53 n 9 (by decide) (by decide)
  obtain ⟨j, hj, hc2⟩ := call53 (IntKind.i64.wrap (n.tdiv 9)) 101 (by decide) (by decide)
  obtain ⟨k, hk, hc3⟩ := call53 (IntKind.i64.wrap (n.tdiv 3)) 2 (by decide) (by decide)
  refine ⟨_, fun _ => hc, ?_⟩
  conv => whnf
  refine ⟨_, fun _ => hc2, ?_⟩
  conv => whnf
  refine ⟨_, fun _ => hc3, ?_⟩
  conv => whnf
  clear hc hc2 hc3
  have hi9 : i = 0 ∨ i = 1 ∨ i = 2 ∨ i = 3 ∨ i = 4 ∨ i = 5 ∨ i = 6 ∨ i = 7 ∨ i = 8 := by omega
  have hj2 : (j : Int) ≤ 100 := by omega
  rcases hi9 with rfl | rfl | rfl | rfl | rfl | rfl | rfl | rfl | rfl
  · conv => whnf
    exact ⟨rfl, ⟨1, (j : Int), (k : Int) == 1, [110, 111], [], [], [100, 101], [], []⟩, rfl, by simp [okU, hj2]⟩
  · conv => whnf
    exact ⟨rfl, ⟨1, (j : Int), (k : Int) == 1, [101, 110], [], [], [42], [], []⟩, rfl, by simp [okU, hj2]⟩
  · conv => whnf
    exact ⟨rfl, ⟨1, (j : Int), (k : Int) == 1, [115, 114], [], [], [114, 117], [], []⟩, rfl, by simp [okU, hj2]⟩
  · conv => whnf
    exact ⟨rfl, ⟨2, (j : Int), (k : Int) == 1, [42], [104, 97, 110, 116], [], [122, 104], [104, 97, 110, 115], []⟩, rfl, by simp [okU, hj2]⟩
  · conv => whnf
    exact ⟨rfl, ⟨2, (j : Int), (k : Int) == 1, [42], [104, 97, 110, 116], [], [122, 104], [42], []⟩, rfl, by simp [okU, hj2]⟩
  · conv => whnf
    exact ⟨rfl, ⟨3, (j : Int), (k : Int) == 1, [42], [42], [36, 101, 117], [42], [108, 97, 116, 110], [33, 101, 117]⟩, rfl, by simp [okU, hj2]⟩
  · conv => whnf
    exact ⟨rfl, ⟨3, (j : Int), (k : Int) == 1, [42], [42], [117, 115], [42], [108, 97, 116, 110], [36, 101, 117]⟩, rfl, by simp [okU, hj2]⟩
  · conv => whnf
    exact ⟨rfl, ⟨3, (j : Int), (k : Int) == 1, [101, 110], [42], [103, 98], [101, 110], [42], [33, 101, 117]⟩, rfl, by simp [okU, hj2]⟩
  · conv => whnf
    exact ⟨rfl, ⟨3, (j : Int), (k : Int) == 1, [101, 110], [42], [103, 98], [101, 110], [42], [33, 101, 117]⟩, rfl, by simp [okU, hj2]⟩
theorem rule13 (n : Int) : ∃ y : Ru, okU 4 y ∧ CallsTo Try.prog 57 [.int .i64 n] y.d := by
  obtain ⟨d, ⟨y, rfl, hy⟩, hc⟩ := callsQ Try.func57 rfl (by decide) (run57 n)
  exact ⟨y, hy, hc⟩
/-- An image, and how long its rows and texts are. -/
structure Img where
  xs : List Al
  ls : List Lk
  rs : List Ru
  ms : List Me
  th : Int
  dm : Int
def Img.d (m : Img) : D := imgD m.xs m.ls (m.rs.map Ru.d) (m.ms.map Me.d) m.th m.dm
def okM (n : Nat) (x : Me) : Prop := x.set.length ≤ n ∧ x.m.length ≤ n
structure Img.ok (m : Img) (na nl nr nm : Nat) : Prop where
  xs : m.xs.length ≤ na ∧ ∀ x ∈ m.xs, okA 9 x
  ls : m.ls.length ≤ nl ∧ ∀ x ∈ m.ls, okK 4 x
  rs : m.rs.length ≤ nr ∧ ∀ x ∈ m.rs, okU 4 x
  ms : m.ms.length ≤ nm ∧ ∀ x ∈ m.ms, okM 3 x
  th : 0 ≤ m.th ∧ m.th ≤ 256
  dm : 0 ≤ m.dm ∧ m.dm ≤ 29
theorem all_app {α : Type} {p : α → Prop} {l m : List α} {n k : Nat} (h : l.length ≤ n ∧ ∀ x ∈ l, p x) (hm : ∀ x ∈ m, p x) (hk : n + m.length ≤ k) : (l ++ m).length ≤ k ∧ ∀ x ∈ l ++ m, p x := by
  refine ⟨by rw [List.length_append]; omega, fun x hx => ?_⟩
  rcases List.mem_append.1 hx with hx | hx
  · exact h.2 x hx
  · exact hm x hx
theorem all_le {α : Type} {p : α → Prop} {l : List α} {n k : Nat} (h : l.length ≤ n ∧ ∀ x ∈ l, p x) (hk : n ≤ k) : l.length ≤ k ∧ ∀ x ∈ l, p x := ⟨Nat.le_trans h.1 hk, h.2⟩
theorem run58 (xs : List Al) (ls : List Lk) (rs : List Ru) (ms : List Me) (th dm : Int) (odd : Int) (h : (⟨xs, ls, rs, ms, th, dm⟩ : Img).ok 8 16 11 7) (hr : 1 ≤ rs.length) : RunsM Try.prog T 71 (Try.f58.body.getD .skip) Try.f58.results.toList [] [(145, 32), (147, 35), (149, 82), (151, 84)] [.agg [.sl 145 6 (xs.map Al.d), .sl 147 6 (ls.map Lk.d), .sl 149 9 (rs.map Ru.d), .sl 151 2 (ms.map Me.d), .int .i64 th, .int .i64 dm], .int .i64 odd] (fun d bx' => bx' = [] ∧ ∃ m : Img, d = m.d ∧ m.ok 10 17 12 8) [] := by
  refine ⟨Nat.le_of_ble_eq_true rfl, ?_⟩
  conv => whnf
  obtain ⟨h1, h2, h3, h4, h5, h6⟩ := h
  simp only at h1 h2 h3 h4 h5 h6
  refine ifB_intro (fun c1 => ?_) (fun c1 => ?_)
  · conv => whnf
    refine sideB_intro (fun _ => decide_eq_true (by simp; omega)) ?_
    conv => whnf
    exact ⟨rfl, rfl, ⟨xs ++ [⟨4, [113, 113, 113, 113], [], [], [108, 97, 116, 110], []⟩, ⟨4, [113, 113, 113, 113], [], [], [97, 114, 97, 98], []⟩], ls, rs, ms, th, dm⟩, by simp only [Img.d, imgD, List.map_append]; rfl, all_app h1 (by intro x hx; simp at hx; rcases hx with rfl | rfl <;> simp [okA]) (by decide), all_le h2 (by decide), all_le h3 (by decide), all_le h4 (by decide), h5, h6⟩
  conv => whnf
  refine ifB_intro (fun c1 => ?_) (fun c1 => ?_)
  · conv => whnf
    refine sideB_intro (fun _ => decide_eq_true (by simp; omega)) ?_
    conv => whnf
    exact ⟨rfl, rfl, ⟨xs, ls ++ [⟨[106, 97], [], [], [106, 97], [], [106, 112]⟩], rs, ms, th, dm⟩, by simp only [Img.d, imgD, List.map_append]; rfl, all_le h1 (by decide), all_app h2 (by intro x hx; simp at hx; subst hx; simp [okK]) (by decide), all_le h3 (by decide), all_le h4 (by decide), h5, h6⟩
  conv => whnf
  refine ifB_intro (fun c1 => ?_) (fun c1 => ?_)
  · conv => whnf
    refine sideB_intro (fun _ => decide_eq_true (by simp; omega)) ?_
    conv => whnf
    exact ⟨rfl, rfl, ⟨xs, ls, rs ++ [⟨4, 0, false, [], [], [], [], [], []⟩], ms, th, dm⟩, by simp only [Img.d, imgD, List.map_append]; rfl, all_le h1 (by decide), all_le h2 (by decide), all_app h3 (by intro x hx; simp at hx; subst hx; simp [okU]) (by decide), all_le h4 (by decide), h5, h6⟩
  conv => whnf
  refine ifB_intro (fun c1 => ?_) (fun c1 => ?_)
  · conv => whnf
    refine sideB_intro (fun _ => decide_eq_true (by simp; omega)) ?_
    conv => whnf
    exact ⟨rfl, rfl, ⟨xs, ls, rs, ms ++ [⟨[101, 117], []⟩], th, dm⟩, by simp only [Img.d, imgD, List.map_append]; rfl, all_le h1 (by decide), all_le h2 (by decide), all_le h3 (by decide), all_app h4 (by intro x hx; simp at hx; subst hx; simp [okM]) (by decide), h5, h6⟩
  conv => whnf
  refine ifB_intro (fun c1 => ?_) (fun c1 => ?_)
  · conv => whnf
    exact ⟨rfl, rfl, ⟨xs, ls, rs, ms, 256, dm⟩, rfl, all_le h1 (by decide), all_le h2 (by decide), all_le h3 (by decide), all_le h4 (by decide), ⟨by simp, by simp⟩, h6⟩
  conv => whnf
  refine ifB_intro (fun c1 => ?_) (fun c1 => ?_)
  · conv => whnf
    refine sideB_intro (fun _ => decide_eq_true (by simp; omega)) ?_
    conv => whnf
    exact ⟨rfl, rfl, ⟨xs, ls ++ [⟨[106, 97], [], [], [106, 98], [106, 112, 97, 110], [106, 112]⟩], rs, ms, th, dm⟩, by simp only [Img.d, imgD, List.map_append]; rfl, all_le h1 (by decide), all_app h2 (by intro x hx; simp at hx; subst hx; simp [okK]) (by decide), all_le h3 (by decide), all_le h4 (by decide), h5, h6⟩
  conv => whnf
  refine ifB_intro (fun c1 => ?_) (fun c1 => ?_)
  · have hw : IntKind.i64.wrap (((rs.map Ru.d).length : Int) - 1) = ((rs.length - 1 : Nat) : Int) := by rw [IntKind.wrap_i64, List.length_map]; omega
    conv => whnf
    rw [hw]
    refine sideB_intro (fun _ => decide_eq_true (by rw [List.length_map]; omega)) ?_
    conv => whnf
    have ht : sliceD (rs.map Ru.d) 0 (rs.length - 1) = (rs.take (rs.length - 1)).map Ru.d := by simp [sliceD]
    refine ⟨rfl, rfl, ⟨xs, ls, rs.take (rs.length - 1), ms, th, dm⟩, ?_, all_le h1 (by decide), all_le h2 (by decide), ⟨by simp; omega, fun x hx => h3.2 x (List.mem_of_mem_take hx)⟩, all_le h4 (by decide), h5, h6⟩
    simp only [Img.d, imgD]
    rw [← ht]
    rfl
  conv => whnf
  refine ifB_intro (fun c1 => ?_) (fun c1 => ?_)
  · conv => whnf
    refine sideB_intro (fun _ => decide_eq_true (by simp; omega)) ?_
    conv => whnf
    exact ⟨rfl, rfl, ⟨xs, ls, ⟨3, 0, false, [42], [42], [36, 97, 115], [42], [42], [42]⟩ :: rs, ms, th, dm⟩, rfl, all_le h1 (by decide), all_le h2 (by decide), ⟨by simp; omega, fun x hx => by
      rcases List.mem_cons.1 hx with rfl | hx
      · simp [okU]
      · exact h3.2 x hx⟩, all_le h4 (by decide), h5, h6⟩
  conv => whnf
  exact ⟨rfl, rfl, ⟨xs, ls, rs, ms, th, dm⟩, rfl, all_le h1 (by decide), all_le h2 (by decide), all_le h3 (by decide), all_le h4 (by decide), h5, h6⟩
theorem run85 (a b : S8) : RunsQ Try.prog T 11 (Try.f85.body.getD .skip) Try.f85.results.toList [.str a, .str b] (fun d => ∃ n, d = .int .i64 n) := by
  refine ⟨Nat.le_of_ble_eq_true rfl, ?_⟩
  conv => whnf
  refine ifB_intro (fun h => ?_) (fun h => ?_)
  · conv => whnf
    exact ⟨rfl, _, rfl⟩
  conv => whnf
  refine ifB_intro (fun h => ?_) (fun h => ?_)
  · conv => whnf
    exact ⟨rfl, _, rfl⟩
  conv => whnf
  exact ⟨rfl, _, rfl⟩
theorem order12 : ∃ F : S8 → S8 → Int, ∀ a b, CallsTo Try.prog 85 [.str a, .str b] (.int .i64 (F a b)) := by
  have : ∀ a b : S8, ∃ n, CallsTo Try.prog 85 [.str a, .str b] (.int .i64 n) := fun a b => by
    obtain ⟨d, ⟨n, rfl⟩, hc⟩ := callsQ Try.func85 rfl (by decide) (run85 a b)
    exact ⟨n, hc⟩
  exact ⟨fun a b => Classical.choose (this a b), fun a b => Classical.choose_spec (this a b)⟩
theorem run55 (x y : Al) : RunsQ Try.prog T 29 (Try.f55.body.getD .skip) Try.f55.results.toList [x.d, y.d] (fun d => ∃ n, d = .int .i64 n) := by
  refine ⟨Nat.le_of_ble_eq_true rfl, ?_⟩
  conv => whnf
  obtain ⟨F, hF⟩ := order12
  refine ifB_intro (fun h => ?_) (fun h => ?_)
  · conv => whnf
    exact ⟨rfl, _, rfl⟩
  conv => whnf
  refine ifB_intro (fun h => ?_) (fun h => ?_)
  · conv => whnf
    exact ⟨rfl, _, rfl⟩
  conv => whnf
  refine ⟨_, fun _ => hF x.a y.a, ?_⟩
  conv => whnf
  refine ifB_intro (fun h => ?_) (fun h => ?_)
  · conv => whnf
    exact ⟨rfl, _, rfl⟩
  conv => whnf
  refine ⟨_, fun _ => hF x.b y.b, ?_⟩
  conv => whnf
  exact ⟨rfl, _, rfl⟩
theorem compare12 : ∃ F : Al → Al → Int, ∀ a b, CallsTo Try.prog 55 [a.d, b.d] (.int .i64 (F a b)) := by
  have : ∀ a b : Al, ∃ n, CallsTo Try.prog 55 [a.d, b.d] (.int .i64 n) := fun a b => by
    obtain ⟨d, ⟨n, rfl⟩, hc⟩ := callsQ Try.func55 rfl (by decide) (run55 a b)
    exact ⟨n, hc⟩
  exact ⟨fun a b => Classical.choose (this a b), fun a b => Classical.choose_spec (this a b)⟩
end Go.Proofs.Ytndijidmabfhcaa.Fw

/- Images of plain numbers: Made. -/
namespace Go.Proofs.Ytndijidmabfhcaa.Fw
open Go Go.RowKit
set_option maxRecDepth 100000
set_option maxHeartbeats 100000000
structure Sd13 where
  al : List Sd12
  ls : List Int
  rs : List Int
  ms : List Int
  th : Int
  dm : Int
  o : Int
def Sd13.d (q : Sd13) : D := .agg [.sl 0 7 (q.al.map Sd12.d), .sl 0 1 (q.ls.map intD), .sl 0 1 (q.rs.map intD), .sl 0 1 (q.ms.map intD), .int .i64 q.th, .int .i64 q.dm, .int .i64 q.o]
theorem all_snoc {α : Type} {p : α → Prop} {l : List α} {x : α} {n : Nat} (h : l.length ≤ n ∧ ∀ y ∈ l, p y) (hx : p x) : (l ++ [x]).length ≤ n + 1 ∧ ∀ y ∈ l ++ [x], p y := all_app h (by intro y hy; rw [List.mem_singleton.1 hy]; exact hx) (Nat.le_refl _)
theorem all_succ {α : Type} {p : α → Prop} {l : List α} {n : Nat} (h : l.length ≤ n ∧ ∀ y ∈ l, p y) : l.length ≤ n + 1 ∧ ∀ y ∈ l, p y := all_le h (Nat.le_succ n)
theorem call58 (xs : List Al) (ls : List Lk) (rs : List Ru) (ms : List Me) (th dm : Int) (odd : Int) (h : (⟨xs, ls, rs, ms, th, dm⟩ : Img).ok 8 16 11 7) (hr : 1 ≤ rs.length) : ∃ m : Img, m.ok 10 17 12 8 ∧ CallsM Try.prog 58 [] [(145, 32), (147, 35), (149, 82), (151, 84)] [.agg [.sl 145 6 (xs.map Al.d), .sl 147 6 (ls.map Lk.d), .sl 149 9 (rs.map Ru.d), .sl 151 2 (ms.map Me.d), .int .i64 th, .int .i64 dm], .int .i64 odd] m.d [] [] := by
  obtain ⟨d, bx', ⟨rfl, m, rfl, hm⟩, hc⟩ := callsM Try.func58 rfl (by decide) (run58 xs ls rs ms th dm odd h hr)
  exact ⟨m, hm, hc⟩
theorem run26 (q : Sd13) : RunsQ Try.prog T 238 (Try.f26.body.getD .skip) Try.f26.results.toList [q.d] (fun d => ∃ m : Img, d = m.d ∧ m.ok 10 17 12 8) := by
  refine ⟨Nat.le_of_ble_eq_true rfl, ?_⟩
  conv => whnf
  obtain ⟨cmp, hcmp⟩ := compare12
  obtain ⟨th, hth, hc1⟩ := call53 q.th 256 (by decide) (by decide)
  obtain ⟨dm, hdm, hc2⟩ := call53 q.dm 30 (by decide) (by decide)
  refine ⟨rfl, ?_⟩
  conv => whnf
  refine ⟨_, fun _ => hc1, ?_⟩
  conv => whnf
  refine ⟨_, fun _ => hc2, ?_⟩
  conv => whnf
  clear hc1 hc2
  refine ⟨[.keep 19, .nilB 3 0 32 6], ?_⟩
  conv => whnf
  refine loop_at (σ := Nat × List Al) (fun z env => Env.setC1 3 0 (.sl 2 6 (z.2.map Al.d)) (Env.setT 4 (.int .i64 (z.1 : Int)) env)) (fun z => 8 - z.1) (fun z => z.1 ≤ 8 ∧ z.2.length ≤ z.1 ∧ ∀ x ∈ z.2, okA 9 x) (0, []) ⟨by decide, by decide, by simp⟩ rfl ?_
  rintro ⟨i, xs⟩ ⟨hi, hxs⟩ ih
  replace hi : i ≤ 8 := hi
  replace hxs : xs.length ≤ i ∧ ∀ x ∈ xs, okA 9 x := hxs
  conv => whnf
  refine ifB_intro (fun h => ?_) (fun h => ?_)
  · obtain ⟨h1, h2⟩ := and_true' h
    replace h1 : (i : Int) < (q.al.map Sd12.d).length := of_decide_eq_true h1
    replace h2 : (i : Int) < 8 := of_decide_eq_true h2
    have hlt : i < q.al.length := by simpa using h1
    conv => whnf
    refine sideB_intro (fun _ => decide_eq_true (by simp only [List.length_map]; omega)) ?_
    rw [getD_map (enc := Sd12.d) hlt]
    conv => whnf
    obtain ⟨a, ha, hc⟩ := made12 q.al[i]
    refine ⟨_, fun _ => hc, ?_⟩
    conv => whnf
    refine ⟨[.keep 19], ?_⟩
    conv => whnf
    refine loop_at (σ := Nat × Bool) (fun z env => Env.setT 6 (.bool z.2) (Env.setT 7 (.int .i64 (z.1 : Int)) env)) (fun z => xs.length - z.1) (fun z => z.1 ≤ xs.length) (0, false) (Nat.zero_le _) rfl ?_
    rintro ⟨k, b⟩ hk ihk
    replace hk : k ≤ xs.length := hk
    conv => whnf
    refine ifB_intro (fun hkl => ?_) (fun hkl => ?_)
    · replace hkl : (k : Int) < (xs.map Al.d).length := of_decide_eq_true hkl
      have hk' : k < xs.length := by simpa using hkl
      conv => whnf
      refine ⟨rfl, ?_⟩
      conv => whnf
      refine sideB_intro (fun _ => decide_eq_true (by simp only [List.length_map]; omega)) ?_
      rw [getD_map (enc := Al.d) hk']
      conv => whnf
      have hc := hcmp xs[k] a
      refine ⟨_, fun _ => hc, ?_⟩
      clear hc
      conv => whnf
      rw [show IntKind.i64.wrap ((k : Int) + 1) = ((k + 1 : Nat) : Int) by rw [IntKind.wrap_i64]; omega]
      exact ihk (k + 1, _) hk' (by show xs.length - k = xs.length - (k + 1) + 1; omega)
    · conv => whnf
      refine ifB_intro (fun hb => ?_) (fun hb => ?_)
      · conv => whnf
        refine sideB_intro (fun _ => decide_eq_true (by simp; omega)) ?_
        conv => whnf
        rw [show IntKind.i64.wrap ((i : Int) + 1) = ((i + 1 : Nat) : Int) by rw [IntKind.wrap_i64]; omega]
        rw [show List.map Al.d xs ++ [D.agg [.int .i64 a.k, .str a.a, .str a.b, .str a.l, .str a.s, .str a.r]] = List.map Al.d (xs ++ [a]) by simp [Al.d]]
        exact ih (i + 1, xs ++ [a]) ⟨by show i + 1 ≤ 8; omega, all_snoc hxs ha⟩ (by show 8 - i = 8 - (i + 1) + 1; omega)
      · conv => whnf
        rw [show IntKind.i64.wrap ((i : Int) + 1) = ((i + 1 : Nat) : Int) by rw [IntKind.wrap_i64]; omega]
        exact ih (i + 1, xs) ⟨by show i + 1 ≤ 8; omega, all_succ hxs⟩ (by show 8 - i = 8 - (i + 1) + 1; omega)
  clear ih h
  have hxs8 := all_le hxs hi
  clear hxs hi
  conv => whnf
  refine ⟨[.keep 19, .nilB 3 1 35 6], ?_⟩
  conv => whnf
  refine loop_at (σ := Nat × List Lk) (fun z env => Env.setC1 3 1 (.sl 2 6 (z.2.map Lk.d)) (Env.setT 8 (.int .i64 (z.1 : Int)) env)) (fun z => 8 - z.1) (fun z => z.1 ≤ 8 ∧ z.2.length ≤ 2 * z.1 ∧ ∀ x ∈ z.2, okK 4 x) (0, []) ⟨by decide, by decide, by simp⟩ rfl ?_
  rintro ⟨j, ls⟩ ⟨hj, hls⟩ ih
  replace hj : j ≤ 8 := hj
  replace hls : ls.length ≤ 2 * j ∧ ∀ x ∈ ls, okK 4 x := hls
  conv => whnf
  refine ifB_intro (fun h => ?_) (fun h => ?_)
  · obtain ⟨h1, h2⟩ := and_true' h
    replace h1 : (j : Int) < (q.ls.map intD).length := of_decide_eq_true h1
    replace h2 : (j : Int) < 8 := of_decide_eq_true h2
    have hlt : j < q.ls.length := by simpa using h1
    conv => whnf
    refine sideB_intro (fun _ => decide_eq_true (by simp only [List.length_map]; omega)) ?_
    rw [getD_map (enc := intD) hlt]
    conv => whnf
    obtain ⟨L, hL, hLk, hc⟩ := likely13 q.ls[j]
    refine ⟨_, fun _ => hc, ?_⟩
    conv => whnf
    refine ⟨[.keep 19], ?_⟩
    conv => whnf
    refine loop_at (σ := Nat × List Lk) (fun z env => Env.setC1 3 1 (.sl 2 6 (z.2.map Lk.d)) (Env.setT 10 (.int .i64 (z.1 : Int)) env)) (fun z => L.length - z.1) (fun z => z.1 ≤ L.length ∧ z.2.length ≤ 2 * j + z.1 ∧ ∀ x ∈ z.2, okK 4 x) (0, ls) ⟨Nat.zero_le _, hls⟩ rfl ?_
    rintro ⟨n, ls⟩ ⟨hn, hls⟩ ihn
    replace hn : n ≤ L.length := hn
    replace hls : ls.length ≤ 2 * j + n ∧ ∀ x ∈ ls, okK 4 x := hls
    conv => whnf
    refine ifB_intro (fun hnl => ?_) (fun hnl => ?_)
    · replace hnl : (n : Int) < (L.map Lk.d).length := of_decide_eq_true hnl
      have hn' : n < L.length := by simpa using hnl
      conv => whnf
      refine ⟨[.keep 19], ?_⟩
      conv => whnf
      refine loop_at (σ := Nat × Bool) (fun z env => Env.setT 11 (.bool z.2) (Env.setT 12 (.int .i64 (z.1 : Int)) env)) (fun z => ls.length - z.1) (fun z => z.1 ≤ ls.length) (0, false) (Nat.zero_le _) rfl ?_
      rintro ⟨k, b⟩ hk ihk
      replace hk : k ≤ ls.length := hk
      conv => whnf
      refine ifB_intro (fun hkl => ?_) (fun hkl => ?_)
      · replace hkl : (k : Int) < (ls.map Lk.d).length := of_decide_eq_true hkl
        have hk' : k < ls.length := by simpa using hkl
        conv => whnf
        refine sideB_intro (fun _ => decide_eq_true (by simp only [List.length_map]; omega)) ?_
        rw [getD_map (enc := Lk.d) hk']
        conv => whnf
        refine ⟨rfl, ?_⟩
        conv => whnf
        refine sideB_intro (fun _ => decide_eq_true (by simp only [List.length_map]; omega)) ?_
        rw [getD_map (enc := Lk.d) hn']
        conv => whnf
        refine sideB_intro (fun _ => decide_eq_true (by simp only [List.length_map]; omega)) ?_
        rw [getD_map (enc := Lk.d) hn']
        conv => whnf
        refine sideB_intro (fun _ => decide_eq_true (by simp only [List.length_map]; omega)) ?_
        rw [getD_map (enc := Lk.d) hn']
        conv => whnf
        rw [show IntKind.i64.wrap ((k : Int) + 1) = ((k + 1 : Nat) : Int) by rw [IntKind.wrap_i64]; omega]
        exact ihk (k + 1, bif b then true else bif bif ls[k].l == L[n].l then ls[k].s == L[n].s else false then ls[k].r == L[n].r else false) hk' (by show ls.length - k = ls.length - (k + 1) + 1; omega)
      · conv => whnf
        refine ifB_intro (fun hb => ?_) (fun hb => ?_)
        · conv => whnf
          refine ⟨rfl, ?_⟩
          conv => whnf
          refine sideB_intro (fun _ => decide_eq_true (by simp only [List.length_map]; omega)) ?_
          rw [getD_map (enc := Lk.d) hn']
          conv => whnf
          refine sideB_intro (fun _ => decide_eq_true (by simp; omega)) ?_
          conv => whnf
          rw [show IntKind.i64.wrap ((n : Int) + 1) = ((n + 1 : Nat) : Int) by rw [IntKind.wrap_i64]; omega]
          have hx := hLk _ (List.getElem_mem hn')
          revert hx
          generalize L[n] = x
          intro hx
          rw [show List.map Lk.d ls ++ [D.agg [.str x.l, .str x.s, .str x.r, .str x.tl, .str x.ts, .str x.tr]] = List.map Lk.d (ls ++ [x]) by simp [Lk.d]]
          exact ihn (n + 1, ls ++ [x]) ⟨hn', all_snoc hls hx⟩ (by show L.length - n = L.length - (n + 1) + 1; omega)
        · conv => whnf
          rw [show IntKind.i64.wrap ((n : Int) + 1) = ((n + 1 : Nat) : Int) by rw [IntKind.wrap_i64]; omega]
          exact ihn (n + 1, ls) ⟨hn', all_succ hls⟩ (by show L.length - n = L.length - (n + 1) + 1; omega)
    · conv => whnf
      rw [show IntKind.i64.wrap ((j : Int) + 1) = ((j + 1 : Nat) : Int) by rw [IntKind.wrap_i64]; omega]
      exact ih (j + 1, ls) ⟨by show j + 1 ≤ 8; omega, all_le hls (by show 2 * j + n ≤ 2 * (j + 1); omega)⟩ (by show 8 - j = 8 - (j + 1) + 1; omega)
  clear ih h
  have hls16 : ls.length ≤ 16 ∧ ∀ x ∈ ls, okK 4 x := all_le hls (by omega)
  clear hls hj
  conv => whnf
  refine ⟨[.keep 19, .nilB 3 2 82 9], ?_⟩
  conv => whnf
  refine loop_at (σ := Nat × List Ru) (fun z env => Env.setC1 3 2 (.sl 2 9 (z.2.map Ru.d)) (Env.setT 14 (.int .i64 (z.1 : Int)) env)) (fun z => 8 - z.1) (fun z => z.1 ≤ 8 ∧ z.2.length ≤ z.1 ∧ ∀ x ∈ z.2, okU 4 x) (0, []) ⟨by decide, by decide, by simp⟩ rfl ?_
  rintro ⟨i2, rs⟩ ⟨hi2, hrs⟩ ih
  replace hi2 : i2 ≤ 8 := hi2
  replace hrs : rs.length ≤ i2 ∧ ∀ x ∈ rs, okU 4 x := hrs
  conv => whnf
  refine ifB_intro (fun h => ?_) (fun h => ?_)
  · obtain ⟨h1, h2⟩ := and_true' h
    replace h1 : (i2 : Int) < (q.rs.map intD).length := of_decide_eq_true h1
    replace h2 : (i2 : Int) < 8 := of_decide_eq_true h2
    have hlt : i2 < q.rs.length := by simpa using h1
    conv => whnf
    refine ⟨rfl, ?_⟩
    conv => whnf
    refine sideB_intro (fun _ => decide_eq_true (by simp only [List.length_map]; omega)) ?_
    rw [getD_map (enc := intD) hlt]
    conv => whnf
    obtain ⟨x, hx, hc⟩ := rule13 q.rs[i2]
    refine ⟨_, fun _ => hc, ?_⟩
    conv => whnf
    refine sideB_intro (fun _ => decide_eq_true (by simp; omega)) ?_
    conv => whnf
    rw [show IntKind.i64.wrap ((i2 : Int) + 1) = ((i2 + 1 : Nat) : Int) by rw [IntKind.wrap_i64]; omega]
    rw [show List.map Ru.d rs ++ [D.agg [.int .i64 x.lv, .int .i64 x.n, .bool x.one, .str x.d0, .str x.d1, .str x.d2, .str x.s0, .str x.s1, .str x.s2]] = List.map Ru.d (rs ++ [x]) by simp [Ru.d]]
    exact ih (i2 + 1, rs ++ [x]) ⟨by show i2 + 1 ≤ 8; omega, all_snoc hrs hx⟩ (by show 8 - i2 = 8 - (i2 + 1) + 1; omega)
  clear ih h
  have hrs8 := all_le hrs hi2
  clear hrs hi2
  conv => whnf
  refine sideB_intro (fun _ => decide_eq_true (by simp; omega)) ?_
  conv => whnf
  refine ⟨[.keep 19], ?_⟩
  conv => whnf
  refine loop_at (σ := Nat × List Me) (fun z env => Env.setC1 3 3 (.sl 2 2 (z.2.map Me.d)) (Env.setT 15 (.int .i64 (z.1 : Int)) env)) (fun z => 6 - z.1) (fun z => z.1 ≤ 6 ∧ z.2.length ≤ z.1 + 1 ∧ ∀ x ∈ z.2, okM 3 x) (0, [⟨[101, 117], [100, 101]⟩]) ⟨by decide, by decide, by intro x hx; simp at hx; subst hx; simp [okM]⟩ rfl ?_
  rintro ⟨i3, ms⟩ ⟨hi3, hms⟩ ih
  replace hi3 : i3 ≤ 6 := hi3
  replace hms : ms.length ≤ i3 + 1 ∧ ∀ x ∈ ms, okM 3 x := hms
  conv => whnf
  refine ifB_intro (fun h => ?_) (fun h => ?_)
  · obtain ⟨h1, h2⟩ := and_true' h
    replace h1 : (i3 : Int) < (q.ms.map intD).length := of_decide_eq_true h1
    replace h2 : (i3 : Int) < 6 := of_decide_eq_true h2
    have hlt : i3 < q.ms.length := by simpa using h1
    conv => whnf
    refine sideB_intro (fun _ => decide_eq_true (by simp only [List.length_map]; omega)) ?_
    rw [getD_map (enc := intD) hlt]
    conv => whnf
    obtain ⟨v, hv, hc⟩ := call51s [[102, 114], [103, 98], [117, 115], [52, 49, 57], [114, 111]] q.ms[i3] (by decide) (by decide) 3 rfl
    refine ⟨_, fun _ => hc, ?_⟩
    conv => whnf
    refine ⟨[.keep 19], ?_⟩
    conv => whnf
    refine loop_at (σ := Nat × Bool) (fun z env => Env.setT 17 (.bool z.2) (Env.setT 18 (.int .i64 (z.1 : Int)) env)) (fun z => ms.length - z.1) (fun z => z.1 ≤ ms.length) (0, false) (Nat.zero_le _) rfl ?_
    rintro ⟨k, b⟩ hk ihk
    replace hk : k ≤ ms.length := hk
    conv => whnf
    refine ifB_intro (fun hkl => ?_) (fun hkl => ?_)
    · replace hkl : (k : Int) < (ms.map Me.d).length := of_decide_eq_true hkl
      have hk' : k < ms.length := by simpa using hkl
      conv => whnf
      refine sideB_intro (fun _ => decide_eq_true (by simp only [List.length_map]; omega)) ?_
      rw [getD_map (enc := Me.d) hk']
      conv => whnf
      rw [show IntKind.i64.wrap ((k : Int) + 1) = ((k + 1 : Nat) : Int) by rw [IntKind.wrap_i64]; omega]
      exact ihk (k + 1, _) hk' (by show ms.length - k = ms.length - (k + 1) + 1; omega)
    · conv => whnf
      refine ifB_intro (fun hb => ?_) (fun hb => ?_)
      · conv => whnf
        refine sideB_intro (fun _ => decide_eq_true (by simp; omega)) ?_
        conv => whnf
        rw [show IntKind.i64.wrap ((i3 : Int) + 1) = ((i3 + 1 : Nat) : Int) by rw [IntKind.wrap_i64]; omega]
        rw [show List.map Me.d ms ++ [D.agg [.str [101, 117], .str v]] = List.map Me.d (ms ++ [⟨[101, 117], v⟩]) by simp [Me.d]]
        exact ih (i3 + 1, _) ⟨by show i3 + 1 ≤ 6; omega, all_snoc hms ⟨by simp, hv⟩⟩ (by show 6 - i3 = 6 - (i3 + 1) + 1; omega)
      · conv => whnf
        rw [show IntKind.i64.wrap ((i3 : Int) + 1) = ((i3 + 1 : Nat) : Int) by rw [IntKind.wrap_i64]; omega]
        exact ih (i3 + 1, ms) ⟨by show i3 + 1 ≤ 6; omega, all_succ hms⟩ (by show 6 - i3 = 6 - (i3 + 1) + 1; omega)
  clear ih h
  have hms7 : ms.length ≤ 7 ∧ ∀ x ∈ ms, okM 3 x := all_le hms (by omega)
  clear hms hi3
  obtain ⟨odd, _, hco⟩ := call53 q.o 12 (by decide) (by decide)
  obtain ⟨m, hm, hcm⟩ := call58 xs ls (rs ++ [⟨1, 80, false, [42], [], [], [42], [], []⟩, ⟨2, 50, false, [42], [42], [], [42], [42], []⟩, ⟨3, 4, false, [42], [42], [42], [42], [42], [42]⟩]) ms th dm (odd : Int) ⟨hxs8, hls16, all_app hrs8 (by intro x hx; simp at hx; rcases hx with rfl | rfl | rfl <;> simp [okU]) (by simp), hms7, ⟨by show (0 : Int) ≤ th; omega, by show (th : Int) ≤ 256; omega⟩, ⟨by show (0 : Int) ≤ dm; omega, by show (dm : Int) ≤ 29; omega⟩⟩ (by simp)
  rw [List.map_append] at hcm
  conv => whnf
  refine ⟨rfl, ?_⟩
  conv => whnf
  refine ⟨_, fun _ => hco, ?_⟩
  conv => whnf
  refine ⟨⟨[], [(145, 8), (147, 6), (149, 4), (151, 2)], m.d, [], []⟩, ?_⟩
  conv => whnf
  refine ⟨rfl, hcm, ?_⟩
  conv => whnf
  exact ⟨rfl, m, rfl, hm⟩
theorem made13 (q : Sd13) : ∃ m : Img, m.ok 10 17 12 8 ∧ CallsTo Try.prog 26 [q.d] m.d := by
  obtain ⟨d, ⟨m, rfl, hm⟩, hc⟩ := callsQ Try.func26 rfl (by decide) (run26 q)
  exact ⟨m, hm, hc⟩
end Go.Proofs.Ytndijidmabfhcaa.Fw

/- Reading arguments: seeds of images. -/
namespace Go.Proofs.Ytndijidmabfhcaa.Fw
open Go Go.RowKit Go.WideShapes Go.ChangeShapes
theorem shp_sd12 {n : Nat} {ds : List D} (h : Shp T (n + 2) 103 ds) : ∃ q : Sd12, ds = q.d.cells := by
  obtain ⟨dss, rfl, h⟩ := h
  obtain ⟨_, _, rfl, h1, h⟩ := all2_cons h
  obtain ⟨_, _, rfl, h2, h⟩ := all2_cons h
  obtain ⟨_, _, rfl, h3, h⟩ := all2_cons h
  obtain ⟨_, _, rfl, h4, h⟩ := all2_cons h
  obtain ⟨_, _, rfl, h5, h⟩ := all2_cons h
  obtain ⟨_, _, rfl, h6, h⟩ := all2_cons h
  obtain ⟨_, _, rfl, h7, h⟩ := all2_cons h
  obtain rfl := all2_nil h
  obtain ⟨a, rfl⟩ := shp_i h1
  obtain ⟨b, rfl⟩ := shp_i h2
  obtain ⟨c, rfl⟩ := shp_i h3
  obtain ⟨e, rfl⟩ := shp_i h4
  obtain ⟨f, rfl⟩ := shp_i h5
  obtain ⟨g, rfl⟩ := shp_i h6
  obtain ⟨i, rfl⟩ := shp_i h7
  exact ⟨⟨a, b, c, e, f, g, i⟩, rfl⟩
theorem shp_sd12s {n : Nat} {ds : List D} (h : Shp T (n + 3) 56 ds) : ∃ l : List Sd12, ds = [.sl 0 7 (l.map Sd12.d)] := by
  obtain ⟨xs, rfl, _, hx⟩ := h
  have : ∀ xs : List (List D), (∀ x ∈ xs, Shp T (n + 2) 103 x) → ∃ l : List Sd12, xs.map (wholeT T 103) = l.map Sd12.d := by
    intro xs
    induction xs with
    | nil => exact fun _ => ⟨[], rfl⟩
    | cons x xs ih =>
      intro h
      obtain ⟨l, hl⟩ := ih fun y hy => h y (by simp [hy])
      obtain ⟨m, rfl⟩ := shp_sd12 (h x (by simp))
      exact ⟨m :: l, by rw [List.map_cons, hl]; rfl⟩
  obtain ⟨l, hl⟩ := this xs hx
  exact ⟨l, by rw [hl]; rfl⟩
theorem shp_sd13 {d : D} (h : ShpV T 59 d) : ∃ q : Sd13, d = q.d := by
  obtain ⟨cs, rfl, dss, rfl, h⟩ := h
  obtain ⟨_, _, rfl, h1, h⟩ := all2_cons h
  obtain ⟨_, _, rfl, h2, h⟩ := all2_cons h
  obtain ⟨_, _, rfl, h3, h⟩ := all2_cons h
  obtain ⟨_, _, rfl, h4, h⟩ := all2_cons h
  obtain ⟨_, _, rfl, h5, h⟩ := all2_cons h
  obtain ⟨_, _, rfl, h6, h⟩ := all2_cons h
  obtain ⟨_, _, rfl, h7, h⟩ := all2_cons h
  obtain rfl := all2_nil h
  obtain ⟨a, rfl⟩ := shp_sd12s h1
  obtain ⟨b, rfl⟩ := shp_is h2
  obtain ⟨c, rfl⟩ := shp_is h3
  obtain ⟨e, rfl⟩ := shp_is h4
  obtain ⟨f, rfl⟩ := shp_i h5
  obtain ⟨g, rfl⟩ := shp_i h6
  obtain ⟨i, rfl⟩ := shp_i h7
  exact ⟨⟨a, b, c, e, f, g, i⟩, rfl⟩
end Go.Proofs.Ytndijidmabfhcaa.Fw

/- The reference's layer 18, and likely's Find and Full. -/
namespace Go.Proofs.Ytndijidmabfhcaa.Fw
open Go Go.RowKit
set_option maxRecDepth 100000
set_option maxHeartbeats 4000000
theorem rep_nil {I : Im} {w : World} {es es' : Nat} {v : Value} (h : Rep I w (.sl 0 es []) v) : Rep I w (.sl 0 es' []) v := by
  obtain ⟨h1, h2⟩ := h
  refine ⟨rfl, h2.imp id ?_⟩
  rintro ⟨a, cap, e1, e2, _⟩
  exact ⟨a, cap, e1, e2, by simp only [RepRow]⟩
theorem isE {l : S8} (h : l ≠ []) : List.isEmpty l = false := by cases l with | nil => exact absurd rfl h | cons _ _ => rfl
theorem lad_nil (s r : S8) : ladL [] s r = [] := rfl
section
variable {l s r : S8} (hl : l ≠ [])
include hl
theorem lad00 : ladL l [] [] = [⟨l, [], []⟩] := by
  by_cases hu : l = [117, 110, 100]
  · subst hu; decide
  · have hu' : ¬ [117, 110, 100] = l := fun e => hu e.symm
    have hb : ([117, 110, 100] != l) = true := bne_iff_ne.2 hu'
    have hb' : (l != [117, 110, 100]) = true := bne_iff_ne.2 hu
    have he : List.isEmpty l = false := by cases l with | nil => exact absurd rfl hl | cons _ _ => rfl
    simp [ladL, ladGo, rows5, insS, hl, he, hb, hb', hu, hu']
theorem lad0r (hr : r ≠ []) : ladL l [] r = [⟨l, [], r⟩, ⟨l, [], []⟩] := by
  have hr' : ¬ [] = r := fun e => hr e.symm
  by_cases hu : l = [117, 110, 100]
  · subst hu; simp [ladL, ladGo, rows5, insS, hr, hr']
  · have hu' : ¬ [117, 110, 100] = l := fun e => hu e.symm
    have hb : ([117, 110, 100] != l) = true := bne_iff_ne.2 hu'
    have hb' : (l != [117, 110, 100]) = true := bne_iff_ne.2 hu
    have he : List.isEmpty l = false := by cases l with | nil => exact absurd rfl hl | cons _ _ => rfl
    simp [ladL, ladGo, rows5, insS, hl, he, hb, hb', hu, hu', hr, hr']
theorem lads0 (hs : s ≠ []) : ladL l s [] = [⟨l, s, []⟩, ⟨l, [], []⟩] ++ (bif l != [117, 110, 100] then [⟨[117, 110, 100], s, []⟩] else []) := by
  have hs' : ¬ [] = s := fun e => hs e.symm
  by_cases hu : l = [117, 110, 100]
  · subst hu; simp [ladL, ladGo, rows5, insS, hs, hs']
  · have hu' : ¬ [117, 110, 100] = l := fun e => hu e.symm
    have hb : ([117, 110, 100] != l) = true := bne_iff_ne.2 hu'
    have hb' : (l != [117, 110, 100]) = true := bne_iff_ne.2 hu
    have he : List.isEmpty l = false := by cases l with | nil => exact absurd rfl hl | cons _ _ => rfl
    simp [ladL, ladGo, rows5, insS, hl, he, hb, hb', hu, hu', isE hs, hs, hs']
theorem ladsr (hs : s ≠ []) (hr : r ≠ []) : ladL l s r = [⟨l, s, r⟩, ⟨l, [], r⟩, ⟨l, s, []⟩, ⟨l, [], []⟩] ++ (bif l != [117, 110, 100] then [⟨[117, 110, 100], s, []⟩] else []) := by
  have hs' : ¬ [] = s := fun e => hs e.symm
  have hr' : ¬ [] = r := fun e => hr e.symm
  by_cases hu : l = [117, 110, 100]
  · subst hu; simp [ladL, ladGo, rows5, insS, hs, hs', hr, hr']
  · have hu' : ¬ [117, 110, 100] = l := fun e => hu e.symm
    have hb : ([117, 110, 100] != l) = true := bne_iff_ne.2 hu'
    have hb' : (l != [117, 110, 100]) = true := bne_iff_ne.2 hu
    have he : List.isEmpty l = false := by cases l with | nil => exact absurd rfl hl | cons _ _ => rfl
    simp [ladL, ladGo, rows5, insS, hl, he, hb, hb', hu, hu', isE hs, hs, hs', hr, hr']
end
theorem run66z (t : Tg) (h : t.l = []) : Runs Try.prog T 68 (Try.f66.body.getD .skip) Try.f66.results.toList [t.d] (.sl 0 0 []) := by
  refine ⟨Nat.le_of_ble_eq_true rfl, ?_⟩
  conv => whnf
  refine ifB_intro (fun hb => ?_) (fun hb => ?_)
  · conv => whnf
    exact ⟨rfl, rfl⟩
  · rw [h] at hb; cases hb
theorem run66n (t : Tg) (h : t.l ≠ []) : Runs Try.prog T 68 (Try.f66.body.getD .skip) Try.f66.results.toList [t.d] (.sl 0 3 ((ladL t.l t.s t.r).map R3.d)) := by
  refine ⟨Nat.le_of_ble_eq_true rfl, ?_⟩
  conv => whnf
  have hl : ∀ x : Bool, (t.l == []) = x → x = false := fun x hx => by rw [← hx]; simpa using h
  refine ifB_intro (fun hb => ?_) (fun hb => ?_)
  · exact absurd (hl _ hb) (by decide)
  obtain ⟨l, ex, s, r, va, xt, pv, g⟩ := t
  simp only at h hl hb
  conv => whnf
  have fin : ∀ (x : D) (L M : List R3) (b : Bool), ladL l s r = L ++ (bif b then M else []) → (∀ c, b = c → x = .sl 0 3 ((L ++ (bif c then M else [])).map R3.d)) → x = .sl 0 3 ((ladL l s r).map R3.d) := fun x L M b e1 e2 => by rw [e1]; exact e2 b rfl
  cases s with
  | nil =>
    cases r with
    | nil => 
      conv => whnf
      refine ⟨rfl, Eq.trans rfl (congrArg (fun L : List R3 => D.sl 0 3 (L.map R3.d)) (lad00 h).symm)⟩
    | cons r0 r =>
      conv => whnf
      refine ⟨rfl, Eq.trans rfl (congrArg (fun L : List R3 => D.sl 0 3 (L.map R3.d)) (lad0r h (by simp)).symm)⟩
  | cons s0 s =>
    cases r with
    | nil =>
      have e := lads0 (s := s0 :: s) h (by simp)
      conv => whnf
      refine ifB_intro (fun hu => ?_) (fun hu => ?_)
      · replace hu : (l != [117, 110, 100]) = true := hu
        rw [hu] at e
        conv => whnf
        refine ⟨rfl, Eq.trans rfl (congrArg (fun L : List R3 => D.sl 0 3 (L.map R3.d)) e.symm)⟩
      · replace hu : (l != [117, 110, 100]) = false := hu
        rw [hu] at e
        conv => whnf
        refine ⟨rfl, Eq.trans rfl (congrArg (fun L : List R3 => D.sl 0 3 (L.map R3.d)) e.symm)⟩
    | cons r0 r =>
      have e := ladsr (s := s0 :: s) (r := r0 :: r) h (by simp) (by simp)
      conv => whnf
      refine ifB_intro (fun hu => ?_) (fun hu => ?_)
      · replace hu : (l != [117, 110, 100]) = true := hu
        rw [hu] at e
        conv => whnf
        refine ⟨rfl, Eq.trans rfl (congrArg (fun L : List R3 => D.sl 0 3 (L.map R3.d)) e.symm)⟩
      · replace hu : (l != [117, 110, 100]) = false := hu
        rw [hu] at e
        conv => whnf
        refine ⟨rfl, Eq.trans rfl (congrArg (fun L : List R3 => D.sl 0 3 (L.map R3.d)) e.symm)⟩
theorem call66 (t : Tg) : CallsTo Try.prog 66 [t.d] (.sl 0 3 ((ladL t.l t.s t.r).map R3.d)) := by
  by_cases h : t.l = []
  · have := calls Try.func66 rfl (by decide) (run66z t h)
    rw [h, lad_nil]
    exact callsTo_res this fun _ _ _ => rep_nil
  · exact calls Try.func66 rfl (by decide) (run66n t h)
/-- The place of the first row of a key. -/
def idxL (k : R3) : List Lk → Nat → Int
  | [], _ => -1
  | x :: xs, i => bif isLk k.a k.b k.c x then (i : Int) else idxL k xs (i + 1)
def findL (k : R3) (ls : List Lk) : Option Lk := ls.find? (isLk k.a k.b k.c)
theorem idx_spec (k : R3) : ∀ (ls : List Lk) (i : Nat), (findL k ls = none ∧ idxL k ls i = -1) ∨ ∃ j, ∃ h : j < ls.length, idxL k ls i = ((i + j : Nat) : Int) ∧ findL k ls = some ls[j]
  | [], i => .inl ⟨rfl, rfl⟩
  | x :: xs, i => by
    simp only [idxL, findL, List.find?_cons]
    cases hx : isLk k.a k.b k.c x with
    | true => exact .inr ⟨0, by simp, rfl, rfl⟩
    | false =>
      rcases idx_spec k xs (i + 1) with ⟨h1, h2⟩ | ⟨j, h, h1, h2⟩
      · exact .inl ⟨h1, h2⟩
      · exact .inr ⟨j + 1, by simpa using h, by rw [cond_false, h1]; congr 1; omega, h2⟩
theorem run67 (xs : List Al) (ls : List Lk) (rs ms : List D) (th dm : Int) (hx : ls.length ≤ 1000000) (k : R3) : Runs Try.prog T 40 (Try.f67.body.getD .skip) Try.f67.results.toList [imgD xs ls rs ms th dm, .str k.a, .str k.b, .str k.c] (.int .i64 (idxL k ls 0)) := by
  refine ⟨Nat.le_of_ble_eq_true rfl, ?_⟩
  conv => whnf
  refine ⟨[.keep 11], ?_⟩
  conv => whnf
  refine loop_at (σ := Nat) (fun i => Env.setT 9 (.int .i64 (i : Int))) (fun i => ls.length - i) (fun i => i ≤ ls.length ∧ idxL k ls 0 = idxL k (ls.drop i) i) 0 ⟨Nat.zero_le _, rfl⟩ rfl ?_
  rintro i ⟨hi, hd⟩ ih
  conv => whnf
  refine ifB_intro (fun h => ?_) (fun h => ?_)
  · replace h : (i : Int) < (ls.map Lk.d).length := of_decide_eq_true h
    have hlt : i < ls.length := by simpa using h
    have hdrop : ls.drop i = ls[i] :: ls.drop (i + 1) := List.drop_eq_getElem_cons hlt
    rw [hdrop] at hd
    have ih' := ih (i + 1)
    conv => whnf
    refine sideB_intro (fun _ => decide_eq_true (by simp; omega)) ?_
    conv => whnf
    rw [getD_map (enc := Lk.d) hlt]
    conv => whnf
    refine ifB_intro (fun hb => ?_) (fun hb => ?_)
    · replace hb : isLk k.a k.b k.c ls[i] = true := hb
      conv => whnf
      refine ⟨rfl, ?_⟩
      rw [hd, idxL, hb]; rfl
    · replace hb : isLk k.a k.b k.c ls[i] = false := hb
      conv => whnf
      rw [show IntKind.i64.wrap ((i : Int) + 1) = ((i + 1 : Nat) : Int) by rw [IntKind.wrap_i64]; omega]
      exact ih' ⟨hlt, by rw [hd, idxL, hb]; rfl⟩ (by omega)
  · replace h : decide ((i : Int) < (ls.map Lk.d).length) = false := h
    have he : i = ls.length := by simp at h; omega
    conv => whnf
    refine ⟨rfl, ?_⟩
    rw [hd, he, List.drop_length]; rfl
theorem call67 (xs : List Al) (ls : List Lk) (rs ms : List D) (th dm : Int) (hx : ls.length ≤ 1000000) (k : R3) : CallsTo Try.prog 67 [imgD xs ls rs ms th dm, .str k.a, .str k.b, .str k.c] (.int .i64 (idxL k ls 0)) := calls Try.func67 rfl (by decide) (run67 xs ls rs ms th dm hx k)
/-- The first row that there is. -/
def rowL (ls : List Lk) : List R3 → Option Lk
  | [] => none
  | k :: ks => match findL k ls with
    | some y => some y
    | none => rowL ls ks
theorem isLk_key {k : R3} {x : Lk} : isLk k.a k.b k.c x = decide (k = x.key) := by
  obtain ⟨a, b, c⟩ := k
  obtain ⟨l, s, r, tl, ts, tr⟩ := x
  simp only [isLk, Lk.key, R3.mk.injEq]
  rw [beq_dec l a, beq_dec s b, beq_dec r c]
  by_cases h1 : l = a
  · by_cases h2 : s = b
    · by_cases h3 : r = c
      · simp [h1, h2, h3]
      · have : ¬ c = r := fun e => h3 e.symm
        simp [h1, h2, h3, this]
    · have : ¬ b = s := fun e => h2 e.symm
      simp [h1, h2, this]
  · have : ¬ a = l := fun e => h1 e.symm
    simp [h1, this]
theorem assoc_rows {k : R3} : ∀ (ls : List Lk) (L : List (R3 × Lk)), assoc k (ls.foldl rowOf L) = match assoc k L with
    | some x => some x
    | none => findL k ls
  | [], L => by
    simp only [List.foldl_nil, findL, List.find?_nil]
    cases assoc k L <;> rfl
  | x :: ls, L => by
    rw [List.foldl_cons, assoc_rows ls (rowOf L x)]
    simp only [rowOf, findL, List.find?_cons, isLk_key]
    cases hx : assoc x.key L with
    | some y =>
      simp only [Option.isSome_some, cond_true]
      cases hk : assoc k L with
      | some z => rfl
      | none =>
        have : ¬ k = x.key := fun e => by subst e; rw [hx] at hk; cases hk
        simp [this]
    | none =>
      simp only [Option.isSome_none, cond_false, assoc_putA]
      by_cases e : k = x.key
      · subst e; rw [hx]; simp
      · simp only [if_neg e, decide_eq_false e]
theorem maxRow_eq (ls : List Lk) : ∀ rows, maxRow (rowsM ls) rows = rowL ls rows
  | [] => rfl
  | k :: ks => by
    have h : assoc k (rowsM ls) = findL k ls := assoc_rows ls []
    simp only [maxRow, rowL, h, maxRow_eq ls ks]
    cases findL k ls <;> rfl
def gotD (u : Tg) (ok : Bool) : D := .agg [.str u.l, .sl 0 1 u.ex, .str u.s, .str u.r, .sl 0 1 u.va, .sl 0 2 u.xt, .sl 0 1 u.pv, .str u.g, .bool ok]
theorem ladGo_len {lang : S8} : ∀ {xs there : List R3}, (ladGo lang there xs).length ≤ xs.length
  | [], there => by simp [ladGo]
  | y :: ys, there => by
    rw [ladGo]
    cases (bif there.contains y then true else bif y.a != lang then y.b == [] else false) with
    | true => exact Nat.le_succ_of_le ladGo_len
    | false => simp only [cond_false, List.length_cons]; exact Nat.succ_le_succ ladGo_len
theorem maxOf_eq (ls : List Lk) (t : Tg) : maxOf ls t = match rowL ls (ladL t.l t.s t.r) with
    | some x => (fill t x, true)
    | none => (t, false) := by
  unfold maxOf maxiT
  rw [maxRow_eq]
  all_goals (cases rowL ls (ladL t.l t.s t.r) <;> rfl)
theorem run38 (xs : List Al) (ls : List Lk) (rs ms : List D) (th dm : Int) (hx : ls.length ≤ 1000000) (t : Tg) : Runs Try.prog T 63 (Try.f38.body.getD .skip) Try.f38.results.toList [imgD xs ls rs ms th dm, t.d] (gotD (maxOf ls t).1 (maxOf ls t).2) := by
  refine ⟨Nat.le_of_ble_eq_true rfl, ?_⟩
  conv => whnf
  rw [maxOf_eq]
  refine ⟨_, fun _ => call66 t, ?_⟩
  conv => whnf
  have hlen : (ladL t.l t.s t.r).length ≤ 5 := by
    unfold ladL
    cases t.l == [] with
    | true => exact Nat.zero_le _
    | false => exact Nat.le_trans ladGo_len (Nat.le_refl _)
  generalize hrows : ladL t.l t.s t.r = rows at hlen
  refine ⟨[.keep 9], ?_⟩
  conv => whnf
  refine loop_at (σ := Nat) (fun i => Env.setT 6 (.int .i64 (i : Int))) (fun i => rows.length - i) (fun i => i ≤ rows.length ∧ rowL ls rows = rowL ls (rows.drop i)) 0 ⟨Nat.zero_le _, rfl⟩ rfl ?_
  rintro i ⟨hi, hd⟩ ih
  conv => whnf
  refine ifB_intro (fun h => ?_) (fun h => ?_)
  · replace h : (i : Int) < (rows.map R3.d).length := of_decide_eq_true h
    have hlt : i < rows.length := by simpa using h
    have hdrop : rows.drop i = rows[i] :: rows.drop (i + 1) := List.drop_eq_getElem_cons hlt
    rw [hdrop] at hd
    have ih' := ih (i + 1)
    revert hd
    have hget : (List.map R3.d rows).getD (Int.toNat (i : Int)) .undef = R3.d rows[i] := getD_map (enc := R3.d) hlt
    revert hget
    generalize rows[i] = k
    intro hget hd
    conv => whnf
    refine ⟨rfl, ?_⟩
    conv => whnf
    refine sideB_intro (fun _ => decide_eq_true (by simp; omega)) ?_
    conv => whnf
    rw [hget]
    conv => whnf
    refine sideB_intro (fun _ => decide_eq_true (by simp; omega)) ?_
    conv => whnf
    rw [hget]
    conv => whnf
    refine sideB_intro (fun _ => decide_eq_true (by simp; omega)) ?_
    conv => whnf
    rw [hget]
    conv => whnf
    refine ⟨_, fun _ => call67 xs ls rs ms th dm hx k, ?_⟩
    conv => whnf
    rcases idx_spec k ls 0 with ⟨h1, h2⟩ | ⟨j, hj, h1, h2⟩
    · rw [h2]
      conv => whnf
      rw [show IntKind.i64.wrap ((i : Int) + 1) = ((i + 1 : Nat) : Int) by rw [IntKind.wrap_i64]; omega]
      exact ih' ⟨hlt, by rw [hd, rowL, h1]⟩ (by omega)
    · rw [h1, Nat.zero_add]
      have hr : rowL ls rows = some ls[j] := by rw [hd, rowL, h2]
      rw [hr]
      conv => whnf
      refine sideB_intro (fun _ => decide_eq_true (by simp; omega)) ?_
      conv => whnf
      rw [getD_map (enc := Lk.d) hj]
      clear hr h1 h2 hd ih' ih hget
      generalize ls[j] = x
      have fin : ∀ a b c : Bool, (t.l == [117, 110, 100]) = a → (t.s == []) = b → (t.r == []) = c → gotD (fill t x) true = gotD ⟨bif a then x.tl else t.l, t.ex, bif b then x.ts else t.s, bif c then x.tr else t.r, t.va, t.xt, t.pv, t.g⟩ true := by
        intro a b c ha hb hc; rw [← ha, ← hb, ← hc]; rfl
      conv => whnf
      refine ifB_intro (fun ha => ?_) (fun ha => ?_)
      all_goals
        conv => whnf
        refine ifB_intro (fun hb => ?_) (fun hb => ?_)
        all_goals
          conv => whnf
          refine ifB_intro (fun hc => ?_) (fun hc => ?_)
          all_goals
            conv => whnf
            refine ⟨rfl, Eq.trans rfl (fin _ _ _ ha hb hc).symm⟩
  · replace h : decide ((i : Int) < (rows.map R3.d).length) = false := h
    have he : i = rows.length := by simp at h; omega
    have hr : rowL ls rows = none := by rw [hd, he, List.drop_length]; rfl
    rw [hr]
    conv => whnf
    exact ⟨rfl, rfl⟩
theorem call38 (xs : List Al) (ls : List Lk) (rs ms : List D) (th dm : Int) (hx : ls.length ≤ 1000000) (t : Tg) : CallsTo Try.prog 38 [imgD xs ls rs ms th dm, t.d] (gotD (maxOf ls t).1 (maxOf ls t).2) := calls Try.func38 rfl (by decide) (run38 xs ls rs ms th dm hx t)
def fullB (t : Tg) : Bool := bif bif bif t.l != [] then t.l != [117, 110, 100] else false then t.s != [] else false then t.r != [] else false
theorem run68 (t : Tg) : Runs Try.prog T 21 (Try.f68.body.getD .skip) Try.f68.results.toList [t.d] (.bool (fullB t)) := by
  refine ⟨Nat.le_of_ble_eq_true rfl, ?_⟩
  conv => whnf
  exact ⟨rfl, rfl⟩
theorem call68 (t : Tg) : CallsTo Try.prog 68 [t.d] (.bool (fullB t)) := calls Try.func68 rfl (by decide) (run68 t)
def fndD (o : Option Lk) : D := .tup [((o.map Lk.d).getD (Lk.d ⟨[], [], [], [], [], []⟩)), .bool o.isSome]
theorem run59 (xs : List Al) (ls : List Lk) (rs ms : List D) (th dm : Int) (hx : ls.length ≤ 1000000) (k : R3) : Runs Try.prog T 24 (Try.f59.body.getD .skip) Try.f59.results.toList [imgD xs ls rs ms th dm, .str k.a, .str k.b, .str k.c] (fndD (findL k ls)) := by
  refine ⟨Nat.le_of_ble_eq_true rfl, ?_⟩
  conv => whnf
  have fits : keysFit T 22 k.d ((rowsM ls).map fun p => p.1.d) = true := by
    have := keysFit_enc r3Enc k ((rowsM ls).map (·.1))
    rwa [List.map_map] at this
  have look : findD k.d ((rowsM ls).map fun p => p.1.d) ((rowsM ls).map fun p => p.2.d) = (findL k ls).map Lk.d := by
    rw [findD_map r3Enc Lk.d k, show assoc k (rowsM ls) = findL k ls from assoc_rows ls []]
  refine ⟨_, fun _ => call77 xs ls rs ms th dm hx, ?_⟩
  conv => whnf
  refine sideB_intro (fun _ => fits) ?_
  conv => whnf
  cases hf : findL k ls with
  | none =>
    rw [hf] at look
    refine fO_of look ?_
    conv => whnf
    exact ⟨rfl, rfl⟩
  | some x =>
    rw [hf] at look
    refine fO_of look ?_
    conv => whnf
    exact ⟨rfl, rfl⟩
theorem call59 (xs : List Al) (ls : List Lk) (rs ms : List D) (th dm : Int) (hx : ls.length ≤ 1000000) (k : R3) : CallsTo Try.prog 59 [imgD xs ls rs ms th dm, .str k.a, .str k.b, .str k.c] (fndD (findL k ls)) := calls Try.func59 rfl (by decide) (run59 xs ls rs ms th dm hx k)
end Go.Proofs.Ytndijidmabfhcaa.Fw

/- MinimalStops: its walk. -/
namespace Go.Proofs.Ytndijidmabfhcaa.Fw
open Go Go.RowKit
set_option maxRecDepth 100000
set_option maxHeartbeats 4000000
theorem run31 (xs : List Al) (ls : List Lk) (rs ms : List D) (ta tb : Tg) (ha : ta.s = [] ∧ ta.r = [116, 119]) (hb : tb.s = [104, 97, 110, 116] ∧ tb.r = []) (h20 : CallsTo Try.prog 20 [] (imgD xs ls rs ms 40 5)) (h1 : CallsTo Try.prog 69 [imgD xs ls rs ms 40 5, (tagT [122, 104] [104, 97, 110, 116] [116, 119] []).d, .bool false] (.tup [ta.d, .bool true])) (h2 : CallsTo Try.prog 69 [imgD xs ls rs ms 40 5, (tagT [122, 104] [104, 97, 110, 116] [116, 119] []).d, .bool true] (.tup [tb.d, .bool true])) : Runs Try.prog T 45 (Try.f31.body.getD .skip) Try.f31.results.toList [] (.bool true) := by
  refine ⟨Nat.le_of_ble_eq_true rfl, ?_⟩
  conv => whnf
  refine ⟨_, fun _ => h20, ?_⟩
  conv => whnf
  refine ⟨_, fun _ => h1, ?_⟩
  conv => whnf
  refine ⟨_, fun _ => h2, ?_⟩
  conv => whnf
  refine ⟨rfl, Eq.trans rfl (congrArg D.bool (show (bif bif bif bif bif true then ta.s == [] else false then ta.r == [116, 119] else false then true else false then tb.s == [104, 97, 110, 116] else false then tb.r == [] else false) = true from by rw [ha.1, ha.2, hb.1, hb.2]; rfl))⟩
theorem min1 : minOf likelyL (tagT [122, 104] [104, 97, 110, 116] [116, 119] []) false = (tagT [122, 104] [] [116, 119] [], true) := by kernel_rfl
theorem min2 : minOf likelyL (tagT [122, 104] [104, 97, 110, 116] [116, 119] []) true = (tagT [122, 104] [104, 97, 110, 116] [] [], true) := by kernel_rfl
theorem call31 : CallsTo Try.prog 31 [] (.bool true) := by
  have c := fun b => call69 aliasesL likelyL (rulesL.map Ru.d) (membersL.map Me.d) 40 5 (by decide) (tagT [122, 104] [104, 97, 110, 116] [116, 119] []) b
  have c1 := c false
  have c2 := c true
  rw [min1] at c1
  rw [min2] at c2
  exact calls Try.func31 rfl (by decide) (run31 aliasesL likelyL _ _ _ _ ⟨rfl, rfl⟩ ⟨rfl, rfl⟩ call20 c1 c2)
def imgZ : D := imgD [] [] [] [] 0 0
theorem max_none (t : Tg) : maxOf [] t = (t, false) := by
  rw [maxOf_eq]
  have : ∀ rows, rowL [] rows = none := fun rows => by
    induction rows with
    | nil => rfl
    | cons k ks ih => simp [rowL, findL, ih]
  rw [this]
theorem call37 (u : STag) (h : u.small) : CallsTo Try.prog 37 [u.t.d, u.t.d] (.bool true) := calls Try.func37 rfl (by decide) (run37 u.l u.s u.r u.g u.ex u.va u.pv u.xt h.1 h.2.1 h.2.2.1 h.2.2.2.1 h.2.2.2.2)
theorem trials4 (t : Tg) (script : Bool) : ∃ a b c, trialsL t script = [a, b, c, t] := by cases script <;> exact ⟨_, _, _, rfl⟩
theorem run11 (q : Sd06) (script : Bool) (many : Int) (u : STag) (hu : u.small) (k : Nat) (hk : k < 6) (h29 : CallsTo Try.prog 29 [q.d] u.t.d) (h36 : CallsTo Try.prog 36 [.int .i64 many, .int .i64 6] (.int .i64 (k : Int))) : Runs Try.prog T 63 (Try.f11.body.getD .skip) Try.f11.results.toList [q.d, .bool script, .int .i64 many] (.bool true) := by
  refine ⟨Nat.le_of_ble_eq_true rfl, ?_⟩
  conv => whnf
  obtain ⟨a, b, c, habc⟩ := trials4 u.t script
  have hit := iter74 u.t script
  rw [habc] at hit
  have c37 := call37 u hu
  have cmax := call38 [] [] [] [] 0 0 (Nat.zero_le _) u.t
  rw [max_none] at cmax
  refine ⟨_, fun _ => call31, ?_⟩
  conv => whnf
  refine ⟨_, fun _ => h29, ?_⟩
  conv => whnf
  refine ⟨_, fun _ => call35 u.t script, ?_⟩
  conv => whnf
  refine ⟨[], ?_⟩
  conv => whnf
  refine ⟨_, hit, ?_⟩
  have hk' : k = 0 ∨ k = 1 ∨ k = 2 ∨ k = 3 ∨ k = 4 ∨ k = 5 := by omega
  rcases hk' with rfl | rfl | rfl | rfl | rfl | rfl
  · conv => whnf
    refine ⟨_, fun _ => h36, ?_⟩
    conv => whnf
    refine ⟨[], ?_⟩
    conv => whnf
    refine ⟨_, hit, ?_⟩
    conv => whnf
    refine ⟨_, fun _ => c37, ?_⟩
    conv => whnf
    refine ⟨_, fun _ => cmax, ?_⟩
    conv => whnf
    exact ⟨rfl, rfl⟩
  · conv => whnf
    refine ⟨_, fun _ => h36, ?_⟩
    conv => whnf
    refine ⟨[], ?_⟩
    conv => whnf
    refine ⟨_, hit, ?_⟩
    conv => whnf
    refine ⟨_, fun _ => c37, ?_⟩
    conv => whnf
    refine ⟨_, fun _ => cmax, ?_⟩
    conv => whnf
    exact ⟨rfl, rfl⟩
  · conv => whnf
    refine ⟨_, fun _ => h36, ?_⟩
    conv => whnf
    refine ⟨[], ?_⟩
    conv => whnf
    refine ⟨_, hit, ?_⟩
    conv => whnf
    refine ⟨_, fun _ => c37, ?_⟩
    conv => whnf
    refine ⟨_, fun _ => cmax, ?_⟩
    conv => whnf
    exact ⟨rfl, rfl⟩
  · conv => whnf
    refine ⟨_, fun _ => h36, ?_⟩
    conv => whnf
    refine ⟨[], ?_⟩
    conv => whnf
    refine ⟨_, hit, ?_⟩
    conv => whnf
    refine ⟨_, fun _ => c37, ?_⟩
    conv => whnf
    refine ⟨_, fun _ => cmax, ?_⟩
    conv => whnf
    exact ⟨rfl, rfl⟩
  · conv => whnf
    refine ⟨_, fun _ => h36, ?_⟩
    conv => whnf
    refine ⟨[], ?_⟩
    conv => whnf
    refine ⟨_, hit, ?_⟩
    conv => whnf
    refine ⟨_, fun _ => c37, ?_⟩
    conv => whnf
    refine ⟨_, fun _ => cmax, ?_⟩
    conv => whnf
    exact ⟨rfl, rfl⟩
  · conv => whnf
    refine ⟨_, fun _ => h36, ?_⟩
    conv => whnf
    refine ⟨[], ?_⟩
    conv => whnf
    refine ⟨_, hit, ?_⟩
    conv => whnf
    refine ⟨_, fun _ => c37, ?_⟩
    conv => whnf
    refine ⟨_, fun _ => cmax, ?_⟩
    conv => whnf
    exact ⟨rfl, rfl⟩
theorem call11 (q : Sd06) (script : Bool) (many : Int) (u : STag) (hu : u.small) (k : Nat) (hk : k < 6) (h29 : CallsTo Try.prog 29 [q.d] u.t.d) (h36 : CallsTo Try.prog 36 [.int .i64 many, .int .i64 6] (.int .i64 (k : Int))) : CallsTo Try.prog 11 [q.d, .bool script, .int .i64 many] (.bool true) := calls Try.func11 rfl (by decide) (run11 q script many u hu k hk h29 h36)
theorem call29 (q : Sd06) : ∃ d, (fun d => ∃ u : STag, d = u.t.d ∧ u.okN 1 6 5 4) d ∧ CallsTo Try.prog 29 [q.d] d := by
  obtain ⟨d, h, k⟩ := runsQ_one (run29 q)
  exact ⟨d, h, calls Try.func29 rfl (by decide) k⟩
theorem made06 (q : Sd06) : ∃ u : STag, u.okN 1 6 5 4 ∧ CallsTo Try.prog 29 [q.d] u.t.d := by
  obtain ⟨d, ⟨u, rfl, h⟩, hc⟩ := call29 q
  exact ⟨u, h, hc⟩
theorem STag.okN.small {u : STag} {a b c d : Nat} (h : u.okN a b c d) (ha : a ≤ 1000000) (hb : b ≤ 1000000) (hc : c ≤ 1000000) (hd : d ≤ 1000000) : u.small :=
  ⟨Nat.le_trans h.ex.1 ha, Nat.le_trans h.va.1 hb, Nat.le_trans h.xt.1 hc, Nat.le_trans h.pv.1 hd, fun e he => Nat.le_trans (h.xt.2 e he).2.1 (by decide)⟩
theorem stops (q : Sd06) (script : Bool) (many : Int) : CallsTo Try.prog 11 [q.d, .bool script, .int .i64 many] (.bool true) := by
  obtain ⟨u, hu, h29⟩ := made06 q
  obtain ⟨k, hk, e⟩ := rest_nat' many 6 (by decide) (by decide)
  have h36 := call36 many 6 (by decide)
  have e' : (IntKind.i64.wrap (many.tmod 6 + 6)).tmod 6 = (k : Int) := e
  rw [e'] at h36
  exact call11 q script many u (hu.small (by decide) (by decide) (by decide) (by decide)) k hk h29 h36
end Go.Proofs.Ytndijidmabfhcaa.Fw

/- Helpers of the laws of the chapters 18 and 19. -/
namespace Go.Proofs.Ytndijidmabfhcaa.Fw
open Go Go.RowKit
set_option maxRecDepth 100000
set_option maxHeartbeats 100000000
theorem find_own {ls : List Lk} {x : Lk} (h : x ∈ ls) : ∃ y, y ∈ ls ∧ findL x.key ls = some y := by
  cases hf : findL x.key ls with
  | some y => exact ⟨y, List.mem_of_find?_eq_some hf, rfl⟩
  | none =>
    have := List.find?_eq_none.1 hf x h
    rw [isLk_key] at this
    simp at this
theorem lad_first {l s r : S8} (hl : l ≠ []) : ∃ rest, ladL l s r = ⟨l, s, r⟩ :: rest := by
  refine ⟨ladGo l (insS ⟨l, s, r⟩ []) [⟨l, [], r⟩, ⟨l, s, []⟩, ⟨l, [], []⟩, ⟨[117, 110, 100], s, []⟩], ?_⟩
  have h1 : (l == []) = false := by simpa using hl
  simp only [ladL, h1, cond_false, rows5, ladGo]
  simp
theorem own_max {ls : List Lk} {x y : Lk} (hl : x.l ≠ []) (hy : findL x.key ls = some y) : maxOf ls (tagT x.l x.s x.r []) = (fill (tagT x.l x.s x.r []) y, true) := by
  rw [maxOf_eq]
  obtain ⟨rest, e⟩ := lad_first (s := x.s) (r := x.r) hl
  simp only [tagT, e, rowL]
  rw [show (⟨x.l, x.s, x.r⟩ : R3) = x.key from rfl, hy]
def ownE (t : Tg) (x y : Lk) (l : S8) : Bool := bif (bif t.l == l then (bif (bif x.s != [] then t.s == x.s else false) then true else (bif x.s == [] then t.s == y.ts else false)) else false) then (bif (bif x.r != [] then t.r == x.r else false) then true else (bif x.r == [] then t.r == y.tr else false)) else false
theorem ownE_ok (x y : Lk) (l : S8) (hl : (bif x.l == [117, 110, 100] then y.tl else x.l) = l) : ownE (fill (tagT x.l x.s x.r []) y) x y l = true := by
  simp only [ownE, fill, tagT, hl, bne]
  cases x.s == [] <;> cases x.r == [] <;> simp
theorem rest_call (f : Nat) (hf : ∀ x n : Int, 0 < n → CallsTo Try.prog f [.int .i64 x, .int .i64 n] (.int .i64 ((IntKind.i64.wrap (x.tmod n + n)).tmod n))) (x : Int) (n : Nat) (h : 0 < n) (h2 : n ≤ 1000000) : ∃ i : Nat, i < n ∧ CallsTo Try.prog f [.int .i64 x, .int .i64 (n : Int)] (.int .i64 (i : Int)) := by
  obtain ⟨i, hi, e⟩ := rest_nat' x n h h2
  have := hf x n (by omega)
  rw [e] at this
  exact ⟨i, hi, this⟩
theorem run28 (xs : List Al) (ls : List Lk) (rs ms : List D) (th dm : Int) (hx : ls.length ≤ 1000000) (hne : ∀ x ∈ ls, x.l ≠ []) (n : Int) : Runs Try.prog T 112 (Try.f28.body.getD .skip) Try.f28.results.toList [imgD xs ls rs ms th dm, .int .i64 n] (.bool true) := by
  refine ⟨Nat.le_of_ble_eq_true rfl, ?_⟩
  conv => whnf
  refine ifB_intro (fun h0 => ?_) (fun h0 => ?_)
  · conv => whnf
    exact ⟨rfl, rfl⟩
  · replace h0 : (((ls.map Lk.d).length : Int) == 0) = false := h0
    have hpos : 0 < ls.length := by
      cases ls with
      | nil => cases h0
      | cons _ _ => simp
    obtain ⟨i, hi, hc⟩ := rest_call 25 call25 n (ls.map Lk.d).length (by simpa using hpos) (by simpa using hx)
    have hi' : i < ls.length := by simpa using hi
    conv => whnf
    refine ⟨rfl, ?_⟩
    conv => whnf
    refine ⟨_, fun _ => hc, ?_⟩
    conv => whnf
    refine sideB_intro (fun _ => decide_eq_true (by simp only [List.length_map]; omega)) ?_
    rw [getD_map (enc := Lk.d) hi']
    conv => whnf
    clear hc
    have hmem : ls[i] ∈ ls := List.getElem_mem hi'
    revert hmem
    generalize ls[i] = x
    intro hmem
    obtain ⟨y, _, hy⟩ := find_own hmem
    have hM := call50t xs ls rs ms th dm hx (tagT x.l x.s x.r [])
    rw [own_max (hne x hmem) hy] at hM
    have hF := call59 xs ls rs ms th dm hx x.key
    rw [hy] at hF
    refine ⟨_, fun _ => hM, ?_⟩
    conv => whnf
    refine ⟨_, fun _ => hF, ?_⟩
    conv => whnf
    refine ifB_intro (fun hu => ?_) (fun hu => ?_)
    · replace hu : (x.l != [117, 110, 100]) = true := hu
      have hu' : (x.l == [117, 110, 100]) = false := by simpa using hu
      conv => whnf
      exact ⟨rfl, Eq.trans (b := D.bool (ownE (fill (tagT x.l x.s x.r []) y) x y x.l)) rfl (congrArg D.bool (ownE_ok x y x.l (by rw [hu']; rfl)))⟩
    · replace hu : (x.l != [117, 110, 100]) = false := hu
      have hu' : (x.l == [117, 110, 100]) = true := by simpa using hu
      conv => whnf
      exact ⟨rfl, Eq.trans (b := D.bool (ownE (fill (tagT x.l x.s x.r []) y) x y y.tl)) rfl (congrArg D.bool (ownE_ok x y y.tl (by rw [hu']; rfl)))⟩
theorem call28 (xs : List Al) (ls : List Lk) (rs ms : List D) (th dm : Int) (hx : ls.length ≤ 1000000) (hne : ∀ x ∈ ls, x.l ≠ []) (n : Int) : CallsTo Try.prog 28 [imgD xs ls rs ms th dm, .int .i64 n] (.bool true) := calls Try.func28 rfl (by decide) (run28 xs ls rs ms th dm hx hne n)
/-! more -/
theorem findL_app {k : R3} : ∀ {l m : List Lk}, findL k (l ++ m) = match findL k l with | some x => some x | none => findL k m
  | [], m => rfl
  | x :: l, m => by
    simp only [List.cons_append, findL, List.find?_cons]
    cases isLk k.a k.b k.c x with
    | true => rfl
    | false => exact findL_app
theorem row_more {ls : List Lk} {q : Lk} {b : List Lk} (hb : ∀ y ∈ b, ∃ x ∈ ls, x.key = y.key) : ∀ rows : List R3, (∀ k ∈ rows, k.a ≠ q.l) → rowL (q :: (ls ++ b)) rows = rowL ls rows
  | [], _ => rfl
  | k :: ks, h => by
    have h1 : findL k (q :: (ls ++ b)) = findL k ls := by
      have hk : isLk k.a k.b k.c q = false := by
        rw [isLk_key]
        have : ¬ k = q.key := fun e => h k (by simp) (by rw [e]; rfl)
        simp [this]
      show ((q :: (ls ++ b)).find? (isLk k.a k.b k.c)) = _
      rw [List.find?_cons, hk]
      show findL k (ls ++ b) = _
      rw [findL_app]
      cases hf : findL k ls with
      | some x => rfl
      | none =>
        simp only
        cases hg : findL k b with
        | none => rfl
        | some y =>
          have hy : y ∈ b := List.mem_of_find?_eq_some hg
          have hyk : isLk k.a k.b k.c y = true := List.find?_some hg
          rw [isLk_key] at hyk
          obtain ⟨x, hx, e⟩ := hb y hy
          have hn := List.find?_eq_none.1 hf x hx
          rw [isLk_key] at hn
          have : k = y.key := by simpa using hyk
          rw [← e] at this
          simp [this] at hn
    simp only [rowL, h1, row_more hb ks (fun k hk => h k (by simp [hk]))]
theorem lad_a {l s r : S8} {k : R3} (h : k ∈ ladL l s r) : k.a = l ∨ k.a = [117, 110, 100] := by
  unfold ladL at h
  cases hl : l == [] with
  | true => rw [hl] at h; cases h
  | false =>
    rw [hl, cond_false] at h
    have : ∀ (xs there : List R3), (∀ x ∈ xs, x.a = l ∨ x.a = [117, 110, 100]) → ∀ x ∈ ladGo l there xs, x.a = l ∨ x.a = [117, 110, 100] := by
      intro xs
      induction xs with
      | nil => intro _ _ x hx; simp [ladGo] at hx
      | cons y ys ih =>
        intro there hp x hx
        rw [ladGo] at hx
        cases hc : (bif there.contains y then true else bif y.a != l then y.b == [] else false) with
        | true => rw [hc] at hx; exact ih there (fun z hz => hp z (by simp [hz])) x hx
        | false =>
          rw [hc, cond_false] at hx
          rcases List.mem_cons.1 hx with rfl | hx
          · exact hp _ (by simp)
          · exact ih _ (fun z hz => hp z (by simp [hz])) x hx
    refine this _ _ ?_ k h
    intro x hx
    simp only [rows5, List.mem_cons, List.not_mem_nil, or_false] at hx
    rcases hx with rfl | rfl | rfl | rfl | rfl <;> simp
theorem max_more {ls : List Lk} {q : Lk} {b : List Lk} (hb : ∀ y ∈ b, ∃ x ∈ ls, x.key = y.key) (t : Tg) (h1 : t.l ≠ q.l) (h2 : [117, 110, 100] ≠ q.l) : maxOf (q :: (ls ++ b)) t = maxOf ls t := by
  rw [maxOf_eq, maxOf_eq, row_more hb]
  intro k hk
  rcases lad_a hk with e | e <;> rw [e]
  · exact h1
  · exact h2
theorem call37z (l s r g : S8) : CallsTo Try.prog 37 [(tagT l s r g).d, (tagT l s r g).d] (.bool true) := call37 ⟨l, [], s, r, [], [], [], g⟩ ⟨Nat.zero_le _, Nat.zero_le _, Nat.zero_le _, Nat.zero_le _, fun e he => by cases he⟩
theorem max_tagT (ls : List Lk) (l s r g : S8) : ∃ l' s' r', (maxOf ls (tagT l s r g)).1 = tagT l' s' r' g := by
  rw [maxOf_eq]
  cases rowL ls (ladL (tagT l s r g).l (tagT l s r g).s (tagT l s r g).r) with
  | none => exact ⟨l, s, r, rfl⟩
  | some x => exact ⟨_, _, _, rfl⟩
def qqq : Lk := ⟨[113, 113, 113], [], [], [113, 113, 113], [113, 113, 113, 113], [113, 113]⟩
theorem run27 (xs : List Al) (ls : List Lk) (rs ms : List D) (th dm : Int) (hx : ls.length ≤ 100000) (l s r : S8) (hl : l ≠ [113, 113, 113]) (n : Int) : Runs Try.prog T 62 (Try.f27.body.getD .skip) Try.f27.results.toList [imgD xs ls rs ms th dm, (tagT l s r []).d, .int .i64 n] (.bool true) := by
  refine ⟨Nat.le_of_ble_eq_true rfl, ?_⟩
  conv => whnf
  obtain ⟨l', s', r', hm⟩ := max_tagT ls l s r []
  have hM := call50t xs ls rs ms th dm (by omega) (tagT l s r [])
  refine ⟨_, fun _ => hM, ?_⟩
  conv => whnf
  refine sideB_intro (fun _ => decide_eq_true (by simp; omega)) ?_
  conv => whnf
  refine ifB_intro (fun h0 => ?_) (fun h0 => ?_)
  · replace h0 : (0 : Int) < (ls.map Lk.d).length := of_decide_eq_true h0
    have hpos : 0 < ls.length := by simpa using h0
    obtain ⟨i, hi, hc⟩ := rest_call 25 call25 n (ls.map Lk.d).length (by simpa using hpos) (by simp; omega)
    have hi' : i < ls.length := by simpa using hi
    conv => whnf
    refine ⟨rfl, ?_⟩
    conv => whnf
    refine ⟨_, fun _ => hc, ?_⟩
    conv => whnf
    refine sideB_intro (fun _ => decide_eq_true (by simp only [List.length_map]; omega)) ?_
    rw [getD_map (enc := Lk.d) hi']
    conv => whnf
    clear hc
    have hmem : ls[i] ∈ ls := List.getElem_mem hi'
    revert hmem
    generalize ls[i] = x
    intro hmem
    have hM2 := call50t xs (qqq :: (ls ++ [⟨x.l, x.s, x.r, x.tl, [113, 113, 113, 113], x.tr⟩])) rs ms th dm (by simp; omega) (tagT l s r [])
    rw [max_more (b := [⟨x.l, x.s, x.r, x.tl, [113, 113, 113, 113], x.tr⟩]) (by intro y hy; rw [List.mem_singleton.1 hy]; exact ⟨x, hmem, rfl⟩) _ hl (by decide)] at hM2
    simp only [imgD, List.map_cons, List.map_append, List.map_nil] at hM2
    refine sideB_intro (fun _ => decide_eq_true (by simp; omega)) ?_
    conv => whnf
    refine ⟨_, fun _ => hM2, ?_⟩
    conv => whnf
    rw [hm]
    refine ⟨_, fun _ => call37z l' s' r' [], ?_⟩
    conv => whnf
    have hb : ∀ b : Bool, D.bool (bif true then b == b else false) = .bool true := fun b => by cases b <;> rfl
    exact ⟨rfl, Eq.trans rfl (hb (maxOf ls (tagT l s r [])).2)⟩
  · have hM2 := call50t xs (qqq :: (ls ++ [])) rs ms th dm (by simp; omega) (tagT l s r [])
    rw [max_more (b := []) (by intro y hy; cases hy) _ hl (by decide), List.append_nil] at hM2
    conv => whnf
    refine ⟨_, fun _ => hM2, ?_⟩
    conv => whnf
    rw [hm]
    refine ⟨_, fun _ => call37z l' s' r' [], ?_⟩
    conv => whnf
    have hb : ∀ b : Bool, D.bool (bif true then b == b else false) = .bool true := fun b => by cases b <;> rfl
    exact ⟨rfl, Eq.trans rfl (hb (maxOf ls (tagT l s r [])).2)⟩
theorem call27 (xs : List Al) (ls : List Lk) (rs ms : List D) (th dm : Int) (hx : ls.length ≤ 100000) (l s r : S8) (hl : l ≠ [113, 113, 113]) (n : Int) : CallsTo Try.prog 27 [imgD xs ls rs ms th dm, (tagT l s r []).d, .int .i64 n] (.bool true) := calls Try.func27 rfl (by decide) (run27 xs ls rs ms th dm hx l s r hl n)
end Go.Proofs.Ytndijidmabfhcaa.Fw

/- The reference's layer 19, and helpers of its law. -/
namespace Go.Proofs.Ytndijidmabfhcaa.Fw
open Go Go.RowKit
set_option maxRecDepth 100000
set_option maxHeartbeats 100000000
theorem run33 (a b c : Int) (l s r : S8) (h1 : CallsTo Try.prog 51 [.sl 0 1 (langs9.map .str), .int .i64 a] (.str l)) (h2 : CallsTo Try.prog 51 [.sl 0 1 (scripts7.map .str), .int .i64 b] (.str s)) (h3 : CallsTo Try.prog 51 [.sl 0 1 (regions9.map .str), .int .i64 c] (.str r)) : Runs Try.prog T 22 (Try.f33.body.getD .skip) Try.f33.results.toList [.agg [.int .i64 a, .int .i64 b, .int .i64 c]] ((tagT l s r []).d) := by
  refine ⟨Nat.le_of_ble_eq_true rfl, ?_⟩
  conv => whnf
  refine ⟨rfl, ?_⟩
  conv => whnf
  refine ⟨_, fun _ => h1, ?_⟩
  conv => whnf
  refine ⟨_, fun _ => h2, ?_⟩
  conv => whnf
  refine ⟨_, fun _ => h3, ?_⟩
  conv => whnf
  exact ⟨rfl, rfl⟩
theorem call33 (a b c : Int) : ∃ l s r, l ∈ langs9 ∧ s ∈ scripts7 ∧ r ∈ regions9 ∧ CallsTo Try.prog 33 [.agg [.int .i64 a, .int .i64 b, .int .i64 c]] (tagT l s r []).d := by
  obtain ⟨i, hi, h1⟩ := call51 langs9 a (by decide) (by decide)
  obtain ⟨j, hj, h2⟩ := call51 scripts7 b (by decide) (by decide)
  obtain ⟨k, hk, h3⟩ := call51 regions9 c (by decide) (by decide)
  exact ⟨_, _, _, List.getElem_mem hi, List.getElem_mem hj, List.getElem_mem hk, calls Try.func33 rfl (by decide) (run33 a b c _ _ _ h1 h2 h3)⟩
def Tg.w (t : Tg) (l s r : S8) : Tg := ⟨l, t.ex, s, r, t.va, t.xt, t.pv, t.g⟩
theorem run88 (t : Tg) (s r : S8) : Runs Try.prog T 12 (Try.f88.body.getD .skip) Try.f88.results.toList [t.d, .str s, .str r] ((t.w t.l s r).d) := by
  refine ⟨Nat.le_of_ble_eq_true rfl, ?_⟩
  conv => whnf
  exact ⟨rfl, rfl⟩
theorem call88 (t : Tg) (s r : S8) : CallsTo Try.prog 88 [t.d, .str s, .str r] ((t.w t.l s r).d) := calls Try.func88 rfl (by decide) (run88 t s r)
theorem run70 (t : Tg) (script : Bool) : Runs Try.prog T 29 (Try.f70.body.getD .skip) Try.f70.results.toList [t.d, .bool script] (.sl 0 8 ((trialsL t script).map Tg.d)) := by
  refine ⟨Nat.le_of_ble_eq_true rfl, ?_⟩
  conv => whnf
  refine ⟨_, fun _ => call88 t [] [], ?_⟩
  conv => whnf
  refine ⟨_, fun _ => call88 t [] t.r, ?_⟩
  conv => whnf
  refine ⟨_, fun _ => call88 t t.s [], ?_⟩
  conv => whnf
  cases script with
  | true =>
    conv => whnf
    exact ⟨rfl, rfl⟩
  | false =>
    conv => whnf
    exact ⟨rfl, rfl⟩
theorem call70 (t : Tg) (script : Bool) : CallsTo Try.prog 70 [t.d, .bool script] (.sl 0 8 ((trialsL t script).map Tg.d)) := calls Try.func70 rfl (by decide) (run70 t script)
theorem run72 (xs : List Al) (ls : List Lk) (rs ms : List D) (th dm : Int) (hx : ls.length ≤ 1000000) (less full : Tg) : Runs Try.prog T 37 (Try.f72.body.getD .skip) Try.f72.results.toList [imgD xs ls rs ms th dm, less.d, full.d] (.bool (saysB (maxOf ls less) full)) := by
  refine ⟨Nat.le_of_ble_eq_true rfl, ?_⟩
  conv => whnf
  refine ⟨_, fun _ => call38 xs ls rs ms th dm hx less, ?_⟩
  conv => whnf
  exact ⟨rfl, rfl⟩
theorem call72 (xs : List Al) (ls : List Lk) (rs ms : List D) (th dm : Int) (hx : ls.length ≤ 1000000) (less full : Tg) : CallsTo Try.prog 72 [imgD xs ls rs ms th dm, less.d, full.d] (.bool (saysB (maxOf ls less) full)) := calls Try.func72 rfl (by decide) (run72 xs ls rs ms th dm hx less full)
theorem max_no {ls : List Lk} {t : Tg} (h : (maxOf ls t).2 = false) : (maxOf ls t).1 = t := by
  rw [maxOf_eq] at h ⊢
  cases hr : rowL ls (ladL t.l t.s t.r) with
  | none => rfl
  | some x => rw [hr] at h; cases h
theorem run73 (xs : List Al) (ls : List Lk) (rs ms : List D) (th dm : Int) (hx : ls.length ≤ 1000000) (t : Tg) (script : Bool) : Runs Try.prog T 43 (Try.f73.body.getD .skip) Try.f73.results.toList [imgD xs ls rs ms th dm, t.d, .bool script] (gotD (minOf ls t script).1 (minOf ls t script).2) := by
  refine ⟨Nat.le_of_ble_eq_true rfl, ?_⟩
  conv => whnf
  have hm : ∀ b, (maxOf ls t).2 = b → (bif b then (minG (fun u => saysB (maxOf ls u) (maxOf ls t).1) (maxOf ls t).1 (trialsL (maxOf ls t).1 script), true) else ((maxOf ls t).1, false)) = minOf ls t script := by
    intro b hb
    unfold minOf
    rw [hb]
    cases b with
    | true => rfl
    | false => rw [max_no hb]
  have h38 := call38 xs ls rs ms th dm hx t
  revert hm h38
  generalize (maxOf ls t).1 = full
  generalize (maxOf ls t).2 = okv
  intro hm h38
  have hm := hm okv rfl
  rw [← hm]
  clear hm
  refine ⟨_, fun _ => h38, ?_⟩
  conv => whnf
  cases okv with
  | false =>
    conv => whnf
    exact ⟨rfl, rfl⟩
  | true =>
    obtain ⟨a, b, c, habc⟩ := trials4 full script
    have h70 := call70 full script
    rw [habc] at h70
    conv => whnf
    refine ⟨_, fun _ => h70, ?_⟩
    conv => whnf
    simp only [cond_true]
    rw [habc]
    refine ⟨[.keep 11], ?_⟩
    conv => whnf
    refine ⟨6, ?_⟩
    conv => whnf
    refine ⟨rfl, ?_⟩
    conv => whnf
    refine ⟨_, fun _ => call72 xs ls rs ms th dm hx a full, ?_⟩
    conv => whnf
    cases ha : saysB (maxOf ls a) full with
    | true =>
      conv => whnf
      exact ⟨rfl, by simp only [minG, ha]; rfl⟩
    | false =>
      conv => whnf
      refine ⟨rfl, ?_⟩
      conv => whnf
      refine ⟨_, fun _ => call72 xs ls rs ms th dm hx b full, ?_⟩
      conv => whnf
      cases hb : saysB (maxOf ls b) full with
      | true =>
        conv => whnf
        exact ⟨rfl, by simp only [minG, ha, hb]; rfl⟩
      | false =>
        conv => whnf
        refine ⟨rfl, ?_⟩
        conv => whnf
        refine ⟨_, fun _ => call72 xs ls rs ms th dm hx c full, ?_⟩
        conv => whnf
        cases hc : saysB (maxOf ls c) full with
        | true =>
          conv => whnf
          exact ⟨rfl, by simp only [minG, ha, hb, hc]; rfl⟩
        | false =>
          conv => whnf
          refine ⟨rfl, ?_⟩
          conv => whnf
          refine ⟨_, fun _ => call72 xs ls rs ms th dm hx full full, ?_⟩
          conv => whnf
          cases hd : saysB (maxOf ls full) full with
          | true =>
            conv => whnf
            exact ⟨rfl, by simp only [minG, ha, hb, hc, hd]; rfl⟩
          | false =>
            conv => whnf
            exact ⟨rfl, by simp only [minG, ha, hb, hc, hd]; rfl⟩
theorem call73 (xs : List Al) (ls : List Lk) (rs ms : List D) (th dm : Int) (hx : ls.length ≤ 1000000) (t : Tg) (script : Bool) : CallsTo Try.prog 73 [imgD xs ls rs ms th dm, t.d, .bool script] (gotD (minOf ls t script).1 (minOf ls t script).2) := calls Try.func73 rfl (by decide) (run73 xs ls rs ms th dm hx t script)
/-! Same, of what has been changed in its language, script and region. -/
def STag.w (u : STag) (l s r : S8) : STag := ⟨l, u.ex, s, r, u.va, u.xt, u.pv, u.g⟩
theorem STag.w_t (u : STag) (l s r : S8) : (u.w l s r).t = u.t.w l s r := rfl
theorem same_w (u : STag) (hu : u.small) (l s r : S8) : CallsTo Try.prog 37 [(u.t.w l s r).d, (u.t.w l s r).d] (.bool true) := call37 (u.w l s r) hu
theorem max_w (ls : List Lk) (t : Tg) : ∃ l s r, (maxOf ls t).1 = t.w l s r := by
  rw [maxOf_eq]
  cases rowL ls (ladL t.l t.s t.r) with
  | none => exact ⟨t.l, t.s, t.r, rfl⟩
  | some x => exact ⟨_, _, _, rfl⟩
theorem trials_w {t u : Tg} {script : Bool} (h : u ∈ trialsL t script) : ∃ l s r, u = t.w l s r := by
  cases script <;> simp only [trialsL, cond_true, cond_false, List.mem_cons, List.not_mem_nil, or_false] at h <;> rcases h with rfl | rfl | rfl | rfl <;> exact ⟨_, _, _, rfl⟩
theorem minG_mem {says : Tg → Bool} {full : Tg} : ∀ {us : List Tg}, minG says full us = full ∨ minG says full us ∈ us
  | [] => .inl rfl
  | u :: us => by
    rw [minG]
    cases says u with
    | true => exact .inr (by simp)
    | false => exact minG_mem.imp id fun h => List.mem_cons_of_mem _ h
theorem min_w (ls : List Lk) (t : Tg) (script : Bool) : ∃ l s r, (minOf ls t script).1 = t.w l s r := by
  unfold minOf
  cases hm : (maxOf ls t).2 with
  | false => exact ⟨t.l, t.s, t.r, rfl⟩
  | true =>
    obtain ⟨l, s, r, e⟩ := max_w ls t
    simp only [cond_true]
    rcases minG_mem (says := fun u => saysB (maxOf ls u) (maxOf ls t).1) (full := (maxOf ls t).1) (us := trialsL (maxOf ls t).1 script) with h | h
    · rw [h, e]; exact ⟨l, s, r, rfl⟩
    · obtain ⟨l', s', r', e'⟩ := trials_w h
      rw [e', e]; exact ⟨l', s', r', rfl⟩
end Go.Proofs.Ytndijidmabfhcaa.Fw

/- least, keeps and tells of chapter 19. -/
namespace Go.Proofs.Ytndijidmabfhcaa.Fw
open Go Go.RowKit
set_option maxRecDepth 100000
set_option maxHeartbeats 100000000
def leastE (says : Tg → Bool) (m : Tg) : Bool := bif (bif m.s == [] then true else !(says m.noS)) then (bif m.r == [] then true else !(says m.noR)) else false
theorem least_ok (says : Tg → Bool) (full : Tg) (script : Bool) : leastE says (minG says full (trialsL full script)) = true := by
  have e1 : full.noS.noR = full.noR.noS := rfl
  cases script with
  | true =>
    simp only [trialsL, cond_true, minG]
    cases h1 : says full.noR.noS with
    | true => rfl
    | false =>
      simp only [cond_false]
      cases h2 : says full.noR with
      | true => simp only [cond_true, leastE, h1]; simp [Tg.noR]
      | false =>
        simp only [cond_false]
        cases h3 : says full.noS with
        | true => simp only [cond_true, leastE, e1, h1]; simp [Tg.noS]
        | false =>
          simp only [cond_false]
          cases says full <;> simp only [cond_true, cond_false, leastE, h2, h3] <;> simp
  | false =>
    simp only [trialsL, cond_false, minG]
    cases h1 : says full.noR.noS with
    | true => rfl
    | false =>
      simp only [cond_false]
      cases h3 : says full.noS with
      | true => simp only [cond_true, leastE, e1, h1]; simp [Tg.noS]
      | false =>
        simp only [cond_false]
        cases h2 : says full.noR with
        | true => simp only [cond_true, leastE, h1]; simp [Tg.noR]
        | false =>
          simp only [cond_false]
          cases says full <;> simp only [cond_true, cond_false, leastE, h2, h3] <;> simp
theorem run34 (xs : List Al) (ls : List Lk) (rs ms : List D) (th dm : Int) (hx : ls.length ≤ 1000000) (t : Tg) (script : Bool) : Runs Try.prog T 61 (Try.f34.body.getD .skip) Try.f34.results.toList [imgD xs ls rs ms th dm, t.d, .bool script] (.bool true) := by
  refine ⟨Nat.le_of_ble_eq_true rfl, ?_⟩
  conv => whnf
  have hM := call50t xs ls rs ms th dm hx t
  have hN := call69 xs ls rs ms th dm hx t script
  unfold minOf at hN
  cases hok : (maxOf ls t).2 with
  | false =>
    rw [hok] at hM hN
    refine ⟨_, fun _ => hM, ?_⟩
    conv => whnf
    refine ⟨_, fun _ => hN, ?_⟩
    conv => whnf
    exact ⟨rfl, rfl⟩
  | true =>
    rw [hok] at hM hN
    simp only [cond_true] at hN
    have hS := fun u => call71 xs ls rs ms th dm hx u (maxOf ls t).1
    have hL := least_ok (fun u => saysB (maxOf ls u) (maxOf ls t).1) (maxOf ls t).1 script
    revert hM hN hS hL
    generalize (maxOf ls t).1 = full
    generalize minG (fun u => saysB (maxOf ls u) full) full (trialsL full script) = m
    intro hM hN hS hL
    refine ⟨_, fun _ => hM, ?_⟩
    conv => whnf
    refine ⟨_, fun _ => hN, ?_⟩
    conv => whnf
    refine ⟨_, fun _ => hS m.noS, ?_⟩
    conv => whnf
    refine ⟨_, fun _ => hS m.noR, ?_⟩
    conv => whnf
    exact ⟨rfl, Eq.trans (b := D.bool (leastE (fun u => saysB (maxOf ls u) full) m)) rfl (congrArg D.bool hL)⟩
theorem call34 (xs : List Al) (ls : List Lk) (rs ms : List D) (th dm : Int) (hx : ls.length ≤ 1000000) (t : Tg) (script : Bool) : CallsTo Try.prog 34 [imgD xs ls rs ms th dm, t.d, .bool script] (.bool true) := calls Try.func34 rfl (by decide) (run34 xs ls rs ms th dm hx t script)
/-! keeps -/
theorem max_keep (ls : List Lk) (t : Tg) (l s r : S8) : (maxOf ls (t.w l s r)).1 = t.w (maxOf ls (tagT l s r [])).1.l (maxOf ls (tagT l s r [])).1.s (maxOf ls (tagT l s r [])).1.r ∧ (maxOf ls (t.w l s r)).2 = (maxOf ls (tagT l s r [])).2 := by
  rw [maxOf_eq, maxOf_eq]
  simp only [tagT, Tg.w]
  cases rowL ls (ladL l s r) with
  | none => exact ⟨rfl, rfl⟩
  | some x => exact ⟨rfl, rfl⟩
theorem says_keep (ls : List Lk) (t u f g : Tg) (h1 : f.l = g.l ∧ f.s = g.s ∧ f.r = g.r) : saysB (maxOf ls (t.w u.l u.s u.r)) f = saysB (maxOf ls (tagT u.l u.s u.r [])) g := by
  obtain ⟨e1, e2⟩ := max_keep ls t u.l u.s u.r
  unfold saysB
  rw [e1, e2, h1.1, h1.2.1, h1.2.2]
  rfl
theorem minG_keep (t : Tg) (P Q : Tg → Bool) (f : Tg) : ∀ us : List Tg, (∀ u ∈ us, P (t.w u.l u.s u.r) = Q u) → minG P (t.w f.l f.s f.r) (us.map fun u => t.w u.l u.s u.r) = t.w (minG Q f us).l (minG Q f us).s (minG Q f us).r
  | [], _ => rfl
  | u :: us, h => by
    simp only [List.map_cons, minG]
    rw [h u (by simp)]
    cases Q u with
    | true => rfl
    | false => exact minG_keep t P Q f us fun v hv => h v (by simp [hv])
theorem tagT_eta {l s r : S8} {x : Tg} (h : ∃ a b c, x = (tagT l s r []).w a b c) : x = tagT x.l x.s x.r [] := by
  obtain ⟨a, b, c, rfl⟩ := h
  rfl
theorem min_keep (ls : List Lk) (t : Tg) (l s r : S8) (script : Bool) : (minOf ls (t.w l s r) script).1 = t.w (minOf ls (tagT l s r []) script).1.l (minOf ls (tagT l s r []) script).1.s (minOf ls (tagT l s r []) script).1.r ∧ (minOf ls (t.w l s r) script).2 = (minOf ls (tagT l s r []) script).2 := by
  obtain ⟨e1, e2⟩ := max_keep ls t l s r
  unfold minOf
  rw [e2]
  cases (maxOf ls (tagT l s r [])).2 with
  | false => exact ⟨rfl, rfl⟩
  | true =>
    simp only [cond_true]
    refine ⟨?_, trivial⟩
    rw [e1]
    obtain ⟨l', s', r', hf⟩ := max_w ls (tagT l s r [])
    rw [hf]
    have ht : trialsL (t.w l' s' r') script = (trialsL ((tagT l s r []).w l' s' r') script).map fun u => t.w u.l u.s u.r := by cases script <;> rfl
    show minG _ (t.w l' s' r') (trialsL (t.w l' s' r') script) = _
    rw [ht]
    refine minG_keep t _ _ ((tagT l s r []).w l' s' r') _ fun u hu => ?_
    have hu' := tagT_eta (l := l) (s := s) (r := r) (x := u) (by
      obtain ⟨a, b, c, e⟩ := trials_w hu
      exact ⟨a, b, c, by rw [e]; rfl⟩)
    have := says_keep ls t u (t.w l' s' r') ((tagT l s r []).w l' s' r') ⟨rfl, rfl, rfl⟩
    rw [← hu'] at this
    exact this
theorem run39 (xs : List Al) (ls : List Lk) (rs ms : List D) (th dm : Int) (hx : ls.length ≤ 1000000) (q : Sd06) (a b c : Int) (script : Bool) (l s r : S8) (u : STag) (hu : u.small) (h33 : CallsTo Try.prog 33 [.agg [.int .i64 a, .int .i64 b, .int .i64 c]] (tagT l s r []).d) (h29 : CallsTo Try.prog 29 [q.d] u.t.d) : Runs Try.prog T 63 (Try.f39.body.getD .skip) Try.f39.results.toList [imgD xs ls rs ms th dm, q.d, .agg [.int .i64 a, .int .i64 b, .int .i64 c], .bool script] (.bool true) := by
  refine ⟨Nat.le_of_ble_eq_true rfl, ?_⟩
  conv => whnf
  have h1 := call69 xs ls rs ms th dm hx (tagT l s r []) script
  have h2 := call69 xs ls rs ms th dm hx (u.t.w l s r) script
  obtain ⟨k1, k2⟩ := min_keep ls u.t l s r script
  rw [k1, k2] at h2
  revert h1 h2
  generalize (minOf ls (tagT l s r []) script).1 = m
  generalize (minOf ls (tagT l s r []) script).2 = ok1
  intro h1 h2
  refine ⟨_, fun _ => h33, ?_⟩
  conv => whnf
  refine ⟨_, fun _ => h29, ?_⟩
  conv => whnf
  refine ⟨_, fun _ => h1, ?_⟩
  conv => whnf
  refine ⟨_, fun _ => h2, ?_⟩
  conv => whnf
  refine ⟨_, fun _ => same_w u hu m.l m.s m.r, ?_⟩
  conv => whnf
  have hb : ∀ b : Bool, D.bool (bif true then b == b else false) = .bool true := fun b => by cases b <;> rfl
  exact ⟨rfl, Eq.trans rfl (hb ok1)⟩
theorem call39 (xs : List Al) (ls : List Lk) (rs ms : List D) (th dm : Int) (hx : ls.length ≤ 1000000) (q : Sd06) (a b c : Int) (script : Bool) (l s r : S8) (u : STag) (hu : u.small) (h33 : CallsTo Try.prog 33 [.agg [.int .i64 a, .int .i64 b, .int .i64 c]] (tagT l s r []).d) (h29 : CallsTo Try.prog 29 [q.d] u.t.d) : CallsTo Try.prog 39 [imgD xs ls rs ms th dm, q.d, .agg [.int .i64 a, .int .i64 b, .int .i64 c], .bool script] (.bool true) := calls Try.func39 rfl (by decide) (run39 xs ls rs ms th dm hx q a b c script l s r u hu h33 h29)
end Go.Proofs.Ytndijidmabfhcaa.Fw

/- tells of the chapters 18 and 19. -/
namespace Go.Proofs.Ytndijidmabfhcaa.Fw
open Go Go.RowKit
set_option maxRecDepth 100000
set_option maxHeartbeats 100000000
theorem same_in (u : STag) (hu : u.small) {x : Tg} (h : ∃ l s r, x = u.t.w l s r) : CallsTo Try.prog 37 [x.d, x.d] (.bool true) := by
  obtain ⟨l, s, r, rfl⟩ := h
  exact same_w u hu l s r
theorem trials_in (t : Tg) (script : Bool) : ∃ a b c, trialsL t script = [a, b, c, t] ∧ (∃ l s r, a = t.w l s r) ∧ (∃ l s r, b = t.w l s r) ∧ (∃ l s r, c = t.w l s r) := by
  cases script <;> exact ⟨_, _, _, rfl, ⟨_, _, _, rfl⟩, ⟨_, _, _, rfl⟩, ⟨_, _, _, rfl⟩⟩
theorem beq_or (b : Bool) : (b != b) = false := by cases b <;> rfl
theorem run32 (xs : List Al) (ls : List Lk) (rs ms : List D) (th dm : Int) (hx : ls.length ≤ 1000000) (u : STag) (hu : u.small) (script : Bool) : Runs Try.prog T 82 (Try.f32.body.getD .skip) Try.f32.results.toList [imgD xs ls rs ms th dm, u.t.d, .bool script] (.bool true) := by
  refine ⟨Nat.le_of_ble_eq_true rfl, ?_⟩
  conv => whnf
  obtain ⟨a, b, c, habc, ha, hb, hc⟩ := trials_in u.t script
  have hit := iter74 u.t script
  rw [habc] at hit
  have h70 := call70 u.t script
  rw [habc] at h70
  have sa := same_in u hu ha
  have sb := same_in u hu hb
  have sc := same_in u hu hc
  have su := call37 u hu
  have hbb := beq_or
  have h69 := call69 xs ls rs ms th dm hx u.t script
  have h73 := call73 xs ls rs ms th dm hx u.t script
  have sm := same_in u hu (min_w ls u.t script)
  revert h69 h73 sm
  generalize (minOf ls u.t script).1 = m
  generalize (minOf ls u.t script).2 = okv
  intro h69 h73 sm
  refine ⟨_, fun _ => h70, ?_⟩
  conv => whnf
  refine ⟨_, fun _ => call35 u.t script, ?_⟩
  conv => whnf
  refine ⟨[], ?_⟩
  conv => whnf
  refine ⟨_, hit, ?_⟩
  conv => whnf
  refine ⟨rfl, ?_⟩
  conv => whnf
  refine ⟨_, fun _ => call71 xs ls rs ms th dm hx a u.t, ?_⟩
  conv => whnf
  refine ⟨_, fun _ => call72 xs ls rs ms th dm hx a u.t, ?_⟩
  conv => whnf
  refine ifB_intro (fun hne => ?_) (fun hne => ?_)
  · exact absurd ((hbb _).symm.trans hne) (by decide)
  conv => whnf
  refine ⟨rfl, ?_⟩
  conv => whnf
  refine ⟨_, fun _ => sa, ?_⟩
  conv => whnf
  refine ⟨rfl, ?_⟩
  conv => whnf
  refine ⟨_, fun _ => call71 xs ls rs ms th dm hx b u.t, ?_⟩
  conv => whnf
  refine ⟨_, fun _ => call72 xs ls rs ms th dm hx b u.t, ?_⟩
  conv => whnf
  refine ifB_intro (fun hne => ?_) (fun hne => ?_)
  · exact absurd ((hbb _).symm.trans hne) (by decide)
  conv => whnf
  refine ⟨rfl, ?_⟩
  conv => whnf
  refine ⟨_, fun _ => sb, ?_⟩
  conv => whnf
  refine ⟨rfl, ?_⟩
  conv => whnf
  refine ⟨_, fun _ => call71 xs ls rs ms th dm hx c u.t, ?_⟩
  conv => whnf
  refine ⟨_, fun _ => call72 xs ls rs ms th dm hx c u.t, ?_⟩
  conv => whnf
  refine ifB_intro (fun hne => ?_) (fun hne => ?_)
  · exact absurd ((hbb _).symm.trans hne) (by decide)
  conv => whnf
  refine ⟨rfl, ?_⟩
  conv => whnf
  refine ⟨_, fun _ => sc, ?_⟩
  conv => whnf
  refine ⟨rfl, ?_⟩
  conv => whnf
  refine ⟨_, fun _ => call71 xs ls rs ms th dm hx u.t u.t, ?_⟩
  conv => whnf
  refine ⟨_, fun _ => call72 xs ls rs ms th dm hx u.t u.t, ?_⟩
  conv => whnf
  refine ifB_intro (fun hne => ?_) (fun hne => ?_)
  · exact absurd ((hbb _).symm.trans hne) (by decide)
  conv => whnf
  refine ⟨rfl, ?_⟩
  conv => whnf
  refine ⟨_, fun _ => su, ?_⟩
  conv => whnf
  refine ⟨_, fun _ => h69, ?_⟩
  conv => whnf
  refine ⟨_, fun _ => h73, ?_⟩
  conv => whnf
  refine ⟨_, fun _ => sm, ?_⟩
  conv => whnf
  have hfin : ∀ b : Bool, D.bool (bif bif true then true else false then b == b else false) = .bool true := fun b => by cases b <;> rfl
  exact ⟨rfl, Eq.trans rfl (hfin okv)⟩
theorem call32 (xs : List Al) (ls : List Lk) (rs ms : List D) (th dm : Int) (hx : ls.length ≤ 1000000) (u : STag) (hu : u.small) (script : Bool) : CallsTo Try.prog 32 [imgD xs ls rs ms th dm, u.t.d, .bool script] (.bool true) := calls Try.func32 rfl (by decide) (run32 xs ls rs ms th dm hx u hu script)
end Go.Proofs.Ytndijidmabfhcaa.Fw

/- tells of chapter 18, and LikelyTells. -/
namespace Go.Proofs.Ytndijidmabfhcaa.Fw
open Go Go.RowKit
set_option maxRecDepth 100000
set_option maxHeartbeats 100000000
theorem run30 (xs : List Al) (ls : List Lk) (rs ms : List D) (th dm : Int) (hx : ls.length ≤ 1000000) (u : STag) (hu : u.small) : Runs Try.prog T 133 (Try.f30.body.getD .skip) Try.f30.results.toList [imgD xs ls rs ms th dm, u.t.d] (.bool true) := by
  refine ⟨Nat.le_of_ble_eq_true rfl, ?_⟩
  conv => whnf
  have h50 := call50t xs ls rs ms th dm hx u.t
  have h38 := call38 xs ls rs ms th dm hx u.t
  have sm := same_in u hu (max_w ls u.t)
  revert h50 h38 sm
  generalize (maxOf ls u.t).1 = m
  generalize (maxOf ls u.t).2 = okv
  intro h50 h38 sm
  have h66 := call66 u.t
  have h24 := call24 u.t
  have h52 := iter52 u.t
  have h5 : (ladL u.t.l u.t.s u.t.r).length ≤ 5 := by
    unfold ladL
    cases u.t.l == [] with
    | true => exact Nat.zero_le _
    | false => exact Nat.le_trans ladGo_len (Nat.le_refl _)
  revert h66 h52 h5
  generalize ladL u.t.l u.t.s u.t.r = rows
  intro h66 h52 h5
  refine ⟨_, fun _ => h66, ?_⟩
  conv => whnf
  refine ⟨_, fun _ => h24, ?_⟩
  conv => whnf
  refine ⟨[], ?_⟩
  conv => whnf
  refine ⟨_, h52, ?_⟩
  refine seq_at (σ := Nat) (α := R3) (fun x => [x.d]) (fun i env => Env.setC1 7 0 (.int .i64 (i : Int)) env) (fun i rest => i ≤ rows.length ∧ rest = rows.drop i) 0 ⟨Nat.zero_le _, rfl⟩ ?_ ?_ rfl
  · rintro i ⟨hi, hr⟩
    have he : i = rows.length := by
      have := congrArg List.length hr
      simp at this
      omega
    subst he
    have hlen : ((rows.length : Int) == ((rows.map R3.d).length : Int)) = true := by simp
    conv => whnf
    refine ⟨_, fun _ => h50, ?_⟩
    conv => whnf
    refine ⟨_, fun _ => h38, ?_⟩
    conv => whnf
    refine ⟨_, fun _ => sm, ?_⟩
    conv => whnf
    refine ⟨_, fun _ => call68 u.t, ?_⟩
    conv => whnf
    have hfin : ∀ a b c : Bool, a = true → D.bool (bif bif bif a then true else false then b == b else false then c == c else false) = .bool true := fun a b c h => by subst h; cases b <;> cases c <;> rfl
    exact ⟨rfl, Eq.trans rfl (hfin _ okv (fullB u.t) hlen)⟩
  · rintro i x rest ⟨hi, hr⟩ ih
    have hlt : i < rows.length := by
      have := congrArg List.length hr
      simp at this
      omega
    have hx0 : rows[i] = x ∧ rest = rows.drop (i + 1) := by
      have hd : rows.drop i = rows[i] :: rows.drop (i + 1) := List.drop_eq_getElem_cons hlt
      rw [hd] at hr
      simp only [List.cons.injEq] at hr
      exact ⟨hr.1.symm, hr.2⟩
    have hget : (rows.map R3.d).getD (Int.toNat (i : Int)) .undef = R3.d x := by rw [getD_map (enc := R3.d) hlt, hx0.1]
    have ih' := ih (i + 1) ⟨hlt, hx0.2⟩
    have hge : decide (((rows.map R3.d).length : Int) ≤ (i : Int)) = false := by simp; omega
    conv => whnf
    refine ⟨rfl, ?_⟩
    conv => whnf
    refine sideB_intro (fun _ => decide_eq_true (by simp; omega)) ?_
    conv => whnf
    rw [hget]
    conv => whnf
    refine ifB_intro (fun hne => ?_) (fun hne => ?_)
    · replace hne : (bif decide (((rows.map R3.d).length : Int) ≤ (i : Int)) then true else !(x.a == x.a && (x.b == x.b && (x.c == x.c && true)))) = true := hne
      rw [hge] at hne
      simp at hne
    clear hne
    have hF := call59 xs ls rs ms th dm hx x
    have hG := call67 xs ls rs ms th dm hx x
    rcases idx_spec x ls 0 with ⟨h1, h2⟩ | ⟨j, hj, h1, h2⟩
    · rw [h1] at hF
      rw [h2] at hG
      conv => whnf
      refine ⟨_, fun _ => hF, ?_⟩
      conv => whnf
      refine ⟨_, fun _ => hG, ?_⟩
      conv => whnf
      refine ⟨rfl, ?_⟩
      conv => whnf
      refine ⟨fun hg => ?_, ?_⟩
      · conv at hg => whnf
        exact Bool.noConfusion hg.1
      conv => whnf
      cases hls : ls with
      | nil =>
        conv => whnf
        refine ⟨fun hg => ?_, ?_⟩
        · conv at hg => whnf
          exact Bool.noConfusion hg.1
        conv => whnf
        refine ⟨fun hg => ?_, ?_⟩
        · conv at hg => whnf
          exact Bool.noConfusion hg.1
        conv => whnf
        rw [show IntKind.i64.wrap ((i : Int) + 1) = ((i + 1 : Nat) : Int) by rw [IntKind.wrap_i64]; omega]
        rw [hls] at ih'
        exact seqEv_tm 133 ih'
      | cons y ys =>
        conv => whnf
        rw [show IntKind.i64.wrap ((i : Int) + 1) = ((i + 1 : Nat) : Int) by rw [IntKind.wrap_i64]; omega]
        rw [hls] at ih'
        exact seqEv_tm 133 ih'
    · rw [h2] at hF
      rw [h1, Nat.zero_add] at hG
      conv => whnf
      refine ⟨_, fun _ => hF, ?_⟩
      conv => whnf
      refine ⟨_, fun _ => hG, ?_⟩
      conv => whnf
      refine ⟨rfl, ?_⟩
      conv => whnf
      refine sideB_intro (fun _ => decide_eq_true (by simp; omega)) ?_
      conv => whnf
      rw [getD_map (enc := Lk.d) hj]
      generalize ls[j] = y
      conv => whnf
      refine ifB_intro (fun hne => ?_) (fun hne => ?_)
      · replace hne : (bif !((true : Bool) == decide ((0 : Int) ≤ (j : Int))) then true else bif bif false then false else false then true else bif true then !(y.l == y.l && (y.s == y.s && (y.r == y.r && (y.tl == y.tl && (y.ts == y.ts && (y.tr == y.tr && true)))))) else false) = true := hne
        simp at hne
      conv => whnf
      rw [show IntKind.i64.wrap ((i : Int) + 1) = ((i + 1 : Nat) : Int) by rw [IntKind.wrap_i64]; omega]
      exact seqEv_tm 133 ih'
theorem call30 (xs : List Al) (ls : List Lk) (rs ms : List D) (th dm : Int) (hx : ls.length ≤ 1000000) (u : STag) (hu : u.small) : CallsTo Try.prog 30 [imgD xs ls rs ms th dm, u.t.d] (.bool true) := calls Try.func30 rfl (by decide) (run30 xs ls rs ms th dm hx u hu)
end Go.Proofs.Ytndijidmabfhcaa.Fw

/- LikelyTells: its walk. -/
namespace Go.Proofs.Ytndijidmabfhcaa.Fw
open Go Go.RowKit
set_option maxRecDepth 100000
set_option maxHeartbeats 100000000
theorem small_T8 (l s r g : S8) : (⟨l, [], s, r, [], [], [], g⟩ : STag).small := ⟨Nat.zero_le _, Nat.zero_le _, Nat.zero_le _, Nat.zero_le _, fun e he => by cases he⟩
theorem run8 (q : Sd13) (d : Sd06) (a b c : Int) (m : Img) (hm : m.ok 10 17 12 8) (h26 : CallsTo Try.prog 26 [q.d] m.d) : Runs Try.prog T 43 (Try.f8.body.getD .skip) Try.f8.results.toList [q.d, d.d, .agg [.int .i64 a, .int .i64 b, .int .i64 c]] (.bool true) := by
  refine ⟨Nat.le_of_ble_eq_true rfl, ?_⟩
  conv => whnf
  have hl := hm.ls.1
  obtain ⟨l, s, r, h1, h2, h3, hp⟩ := call23 a b c
  obtain ⟨u, hu, h29⟩ := made06 d
  have hu := hu.small (by decide) (by decide) (by decide) (by decide)
  have k1 := fun u hu => call30 m.xs m.ls (m.rs.map Ru.d) (m.ms.map Me.d) m.th m.dm (by omega) u hu
  have k2 := fun u hu => call30 aliasesL likelyL (rulesL.map Ru.d) (membersL.map Me.d) 40 5 (by decide) u hu
  refine ⟨_, fun _ => call22, ?_⟩
  conv => whnf
  refine ⟨_, fun _ => h26, ?_⟩
  conv => whnf
  refine ⟨_, fun _ => h29, ?_⟩
  conv => whnf
  refine ⟨rfl, ?_⟩
  conv => whnf
  refine ⟨_, fun _ => k1 u hu, ?_⟩
  conv => whnf
  refine ⟨_, fun _ => call20, ?_⟩
  conv => whnf
  refine ⟨_, fun _ => k2 u hu, ?_⟩
  conv => whnf
  refine ⟨_, fun _ => hp, ?_⟩
  conv => whnf
  refine ⟨_, fun _ => k1 ⟨l, [], s, r, [], [], [], []⟩ (small_T8 l s r []), ?_⟩
  conv => whnf
  refine ⟨_, fun _ => call20, ?_⟩
  conv => whnf
  refine ⟨_, fun _ => hp, ?_⟩
  conv => whnf
  refine ⟨_, fun _ => k2 ⟨l, [], s, r, [], [], [], []⟩ (small_T8 l s r []), ?_⟩
  conv => whnf
  refine ⟨_, fun _ => k1 ⟨[], [], [], [], [], [], [], [105, 45, 97, 109, 105]⟩ (small_T8 [] [] [] [105, 45, 97, 109, 105]), ?_⟩
  conv => whnf
  exact ⟨rfl, rfl⟩
theorem tells8 (q : Sd13) (d : Sd06) (a b c : Int) : CallsTo Try.prog 8 [q.d, d.d, .agg [.int .i64 a, .int .i64 b, .int .i64 c]] (.bool true) := by
  obtain ⟨m, hm, hc⟩ := made13 q
  exact calls Try.func8 rfl (by decide) (run8 q d a b c m hm hc)
end Go.Proofs.Ytndijidmabfhcaa.Fw
