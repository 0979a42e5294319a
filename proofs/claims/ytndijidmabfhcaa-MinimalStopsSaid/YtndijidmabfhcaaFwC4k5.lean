/- Texts LD, MA, MB, NB, NC, SH, ND, MC of the proof, in one. -/
import Derived.Test.YtndijidmabfhcaaFwC4k4

/- The law's own helpers: awake, plain, Pick, rest. -/
namespace Go.Proofs.Ytndijidmabfhcaa.Fw
open Go Go.RowKit
set_option maxRecDepth 100000
set_option maxHeartbeats 4000000
theorem rest_nat' (x : Int) (n : Nat) (h : 0 < n) (hn : n ≤ 1000000) : ∃ i : Nat, i < n ∧ (IntKind.i64.wrap (x.tmod n + n)).tmod n = (i : Int) := by
  have h1 := Int.tmod_lt_of_pos x (show (0 : Int) < n by omega)
  have h2 : -(n : Int) < x.tmod n := by have := Int.lt_tmod_of_pos x (show (0 : Int) < n by omega); omega
  rw [show IntKind.i64.wrap (x.tmod n + n) = x.tmod n + n by rw [IntKind.wrap_i64]; omega]
  refine ⟨((x.tmod n + n).tmod n).toNat, ?_, ?_⟩
  · have h3 := Int.tmod_lt_of_pos (x.tmod n + n) (show (0 : Int) < n by omega)
    have h4 := Int.tmod_nonneg n (show 0 ≤ x.tmod n + n by omega)
    omega
  · have h4 := Int.tmod_nonneg n (show 0 ≤ x.tmod n + n by omega)
    omega
theorem run25 (x n : Int) (h : 0 < n) : Runs Try.prog T 12 (Try.f25.body.getD .skip) Try.f25.results.toList [.int .i64 x, .int .i64 n] (.int .i64 ((IntKind.i64.wrap (x.tmod n + n)).tmod n)) := by
  refine ⟨Nat.le_of_ble_eq_true rfl, ?_⟩
  conv => whnf
  refine sideB_intro (fun _ => decide_eq_true (by omega)) ?_
  conv => whnf
  refine sideB_intro (fun _ => decide_eq_true (by omega)) ?_
  conv => whnf
  exact ⟨rfl, rfl⟩
theorem call25 (x n : Int) (h : 0 < n) : CallsTo Try.prog 25 [.int .i64 x, .int .i64 n] (.int .i64 ((IntKind.i64.wrap (x.tmod n + n)).tmod n)) := calls Try.func25 rfl (by decide) (run25 x n h)
theorem run51 (l : List S8) (x : Int) (i : Nat) (hi : i < l.length) (h : 0 < (List.map D.str l).length) (e : (IntKind.i64.wrap (x.tmod (List.map D.str l).length + (List.map D.str l).length)).tmod (List.map D.str l).length = (i : Int)) : Runs Try.prog T 18 (Try.f51.body.getD .skip) Try.f51.results.toList [.sl 0 1 (l.map .str), .int .i64 x] (.str l[i]) := by
  refine ⟨Nat.le_of_ble_eq_true rfl, ?_⟩
  conv => whnf
  refine sideB_intro (fun _ => decide_eq_true (by clear e; omega)) ?_
  conv => whnf
  refine sideB_intro (fun _ => decide_eq_true (by clear e; omega)) ?_
  conv => whnf
  rw [e]
  refine sideB_intro (fun _ => decide_eq_true (by simp; omega)) ?_
  rw [getD_map (enc := D.str) hi]
  conv => whnf
  exact ⟨rfl, rfl⟩
theorem call51 (l : List S8) (x : Int) (h : 0 < l.length) (h2 : l.length ≤ 1000000) : ∃ i, ∃ hi : i < l.length, CallsTo Try.prog 51 [.sl 0 1 (l.map .str), .int .i64 x] (.str l[i]) := by
  obtain ⟨i, hi, e⟩ := rest_nat' x (List.map D.str l).length (by simpa using h) (by simpa using h2)
  have hi' : i < l.length := by simpa using hi
  exact ⟨i, hi', calls Try.func51 rfl (by decide) (run51 l x i hi' (by simpa using h) e)⟩
def langs9 : List S8 := [[101, 110], [122, 104], [115, 114], [117, 110, 100], [100, 101], [120, 120], [104, 101], [114, 117], []]
def scripts7 : List S8 := [[], [], [108, 97, 116, 110], [99, 121, 114, 108], [104, 97, 110, 116], [104, 97, 110, 115], [122, 122, 122, 122]]
def regions9 : List S8 := [[], [], [117, 115], [116, 119], [52, 49, 57], [109, 101], [103, 98], [99, 110], [122, 122]]
theorem run23 (a b c : Int) (l s r : S8) (h1 : CallsTo Try.prog 51 [.sl 0 1 (langs9.map .str), .int .i64 a] (.str l)) (h2 : CallsTo Try.prog 51 [.sl 0 1 (scripts7.map .str), .int .i64 b] (.str s)) (h3 : CallsTo Try.prog 51 [.sl 0 1 (regions9.map .str), .int .i64 c] (.str r)) :
    Runs Try.prog T 22 (Try.f23.body.getD .skip) Try.f23.results.toList [.agg [.int .i64 a, .int .i64 b, .int .i64 c]] (tagZ l s r []) := by
  refine ⟨Nat.le_of_ble_eq_true rfl, ?_⟩
  conv => whnf
  refine ⟨rfl, ?_⟩
  conv => whnf
  refine ⟨_, fun _ => h1, ?_⟩
  conv => whnf
  refine ⟨_, fun _ => h2, ?_⟩
  conv => whnf
  refine ⟨_, fun _ => h3, ?_⟩
  conv => whnf
  exact ⟨rfl, rfl⟩
theorem call23 (a b c : Int) : ∃ l s r, l ∈ langs9 ∧ s ∈ scripts7 ∧ r ∈ regions9 ∧ CallsTo Try.prog 23 [.agg [.int .i64 a, .int .i64 b, .int .i64 c]] (tagT l s r []).d := by
  obtain ⟨i, hi, h1⟩ := call51 langs9 a (by decide) (by decide)
  obtain ⟨j, hj, h2⟩ := call51 scripts7 b (by decide) (by decide)
  obtain ⟨k, hk, h3⟩ := call51 regions9 c (by decide) (by decide)
  exact ⟨_, _, _, List.getElem_mem hi, List.getElem_mem hj, List.getElem_mem hk, callsTo_res (calls Try.func23 rfl (by decide) (run23 a b c _ _ _ h1 h2 h3)) fun _ _ _ => tagZ_iff.1⟩
theorem run22 (xs : List Al) (ls : List Lk) (rs ms : List D) (ta tb tc : Tg) (ha : ta.s = [104, 97, 110, 116]) (hb : tb.l = [114, 117]) (hb2 : tb.r = [114, 117]) (hc : tc.r = [103, 98]) (h20 : CallsTo Try.prog 20 [] (imgD xs ls rs ms 40 5))
    (h1 : CallsTo Try.prog 50 [imgD xs ls rs ms 40 5, tagZ [122, 104] [] [116, 119] []] (.tup [ta.d, .bool true])) (h2 : CallsTo Try.prog 50 [imgD xs ls rs ms 40 5, tagZ [117, 110, 100] [99, 121, 114, 108] [] []] (.tup [tb.d, .bool true])) (h3 : CallsTo Try.prog 50 [imgD xs ls rs ms 40 5, tagZ [101, 110] [115, 104, 97, 119] [] []] (.tup [tc.d, .bool true])) :
    Runs Try.prog T 54 (Try.f22.body.getD .skip) Try.f22.results.toList [] (.bool true) := by
  refine ⟨Nat.le_of_ble_eq_true rfl, ?_⟩
  conv => whnf
  refine ⟨_, fun _ => h20, ?_⟩
  conv => whnf
  refine ⟨_, fun _ => h1, ?_⟩
  conv => whnf
  refine ⟨_, fun _ => h2, ?_⟩
  conv => whnf
  refine ⟨_, fun _ => h3, ?_⟩
  conv => whnf
  exact ⟨rfl, congrArg D.bool (show (bif bif bif bif bif bif true then ta.s == [104, 97, 110, 116] else false then true else false then tb.l == [114, 117] else false then tb.r == [114, 117] else false then true else false then tc.r == [103, 98] else false) = true from by rw [ha, hb, hb2, hc]; rfl)⟩
theorem max1 : maxi (rowsM likelyL) (tagT [122, 104] [] [116, 119] []) (ladL [122, 104] [] [116, 119]) = .tup [(tagT [122, 104] [104, 97, 110, 116] [116, 119] []).d, .bool true] := by kernel_rfl
theorem max2 : maxi (rowsM likelyL) (tagT [117, 110, 100] [99, 121, 114, 108] [] []) (ladL [117, 110, 100] [99, 121, 114, 108] []) = .tup [(tagT [114, 117] [99, 121, 114, 108] [114, 117] []).d, .bool true] := by kernel_rfl
theorem max3 : maxi (rowsM likelyL) (tagT [101, 110] [115, 104, 97, 119] [] []) (ladL [101, 110] [115, 104, 97, 119] []) = .tup [(tagT [101, 110] [115, 104, 97, 119] [103, 98] []).d, .bool true] := by kernel_rfl
theorem call22 : CallsTo Try.prog 22 [] (.bool true) := by
  have c := fun l s r => call50z aliasesL likelyL (rulesL.map Ru.d) (membersL.map Me.d) 40 5 (by decide) l s r []
  have c1 := c [122, 104] [] [116, 119]
  have c2 := c [117, 110, 100] [99, 121, 114, 108] []
  have c3 := c [101, 110] [115, 104, 97, 119] []
  rw [max1] at c1
  rw [max2] at c2
  rw [max3] at c3
  exact calls Try.func22 rfl (by decide) (run22 aliasesL likelyL _ _ _ _ _ rfl rfl rfl rfl call20 c1 c2 c3)
end Go.Proofs.Ytndijidmabfhcaa.Fw

/- Trials, Says, Minimize. -/
namespace Go.Proofs.Ytndijidmabfhcaa.Fw
open Go Go.RowKit
set_option maxRecDepth 100000
set_option maxHeartbeats 4000000

def maxiT (M : List (R3 × Lk)) (t : Tg) (rows : List R3) : Tg × Bool := match maxRow M rows with
  | some x => (fill t x, true)
  | none => (t, false)
theorem maxi_eq (M : List (R3 × Lk)) (t : Tg) (rows : List R3) : maxi M t rows = .tup [(maxiT M t rows).1.d, .bool (maxiT M t rows).2] := by
  unfold maxi maxiT
  cases maxRow M rows <;> rfl
def maxOf (ls : List Lk) (t : Tg) : Tg × Bool := maxiT (rowsM ls) t (ladL t.l t.s t.r)
theorem call50t (xs : List Al) (ls : List Lk) (rs ms : List D) (th dm : Int) (hx : ls.length ≤ 1000000) (t : Tg) : CallsTo Try.prog 50 [imgD xs ls rs ms th dm, t.d] (.tup [(maxOf ls t).1.d, .bool (maxOf ls t).2]) :=
  maxi_eq (rowsM ls) t (ladL t.l t.s t.r) ▸ call50 xs ls rs ms th dm hx t

theorem run36 (x n : Int) (h : 0 < n) : Runs Try.prog T 12 (Try.f36.body.getD .skip) Try.f36.results.toList [.int .i64 x, .int .i64 n] (.int .i64 ((IntKind.i64.wrap (x.tmod n + n)).tmod n)) := by
  refine ⟨Nat.le_of_ble_eq_true rfl, ?_⟩
  conv => whnf
  refine sideB_intro (fun _ => decide_eq_true (by omega)) ?_
  conv => whnf
  refine sideB_intro (fun _ => decide_eq_true (by omega)) ?_
  conv => whnf
  exact ⟨rfl, rfl⟩
theorem call36 (x n : Int) (h : 0 < n) : CallsTo Try.prog 36 [.int .i64 x, .int .i64 n] (.int .i64 ((IntKind.i64.wrap (x.tmod n + n)).tmod n)) := calls Try.func36 rfl (by decide) (run36 x n h)

def Tg.noS (t : Tg) : Tg := ⟨t.l, t.ex, [], t.r, t.va, t.xt, t.pv, t.g⟩
def Tg.noR (t : Tg) : Tg := ⟨t.l, t.ex, t.s, [], t.va, t.xt, t.pv, t.g⟩
theorem run75a (t : Tg) : Runs Try.prog T 16 (Try.f75.body.getD .skip) Try.f75.results.toList [t.d, .int .i64 3] t.noR.noS.d := by
  refine ⟨Nat.le_of_ble_eq_true rfl, ?_⟩
  conv => whnf
  exact ⟨rfl, rfl⟩
theorem run75b (t : Tg) : Runs Try.prog T 16 (Try.f75.body.getD .skip) Try.f75.results.toList [t.d, .int .i64 1] t.noS.d := by
  refine ⟨Nat.le_of_ble_eq_true rfl, ?_⟩
  conv => whnf
  exact ⟨rfl, rfl⟩
theorem run75c (t : Tg) : Runs Try.prog T 16 (Try.f75.body.getD .skip) Try.f75.results.toList [t.d, .int .i64 2] t.noR.d := by
  refine ⟨Nat.le_of_ble_eq_true rfl, ?_⟩
  conv => whnf
  exact ⟨rfl, rfl⟩
theorem run75d (t : Tg) : Runs Try.prog T 16 (Try.f75.body.getD .skip) Try.f75.results.toList [t.d, .int .i64 0] t.d := by
  refine ⟨Nat.le_of_ble_eq_true rfl, ?_⟩
  conv => whnf
  exact ⟨rfl, rfl⟩
theorem call75a (t : Tg) : CallsTo Try.prog 75 [t.d, .int .i64 3] t.noR.noS.d := calls Try.func75 rfl (by decide) (run75a t)
theorem call75b (t : Tg) : CallsTo Try.prog 75 [t.d, .int .i64 1] t.noS.d := calls Try.func75 rfl (by decide) (run75b t)
theorem call75c (t : Tg) : CallsTo Try.prog 75 [t.d, .int .i64 2] t.noR.d := calls Try.func75 rfl (by decide) (run75c t)
theorem call75d (t : Tg) : CallsTo Try.prog 75 [t.d, .int .i64 0] t.d := calls Try.func75 rfl (by decide) (run75d t)

def trialsL (t : Tg) (script : Bool) : List Tg := bif script then [t.noR.noS, t.noR, t.noS, t] else [t.noR.noS, t.noS, t.noR, t]
theorem yields74 (t : Tg) (script : Bool) : Yields Try.prog T 21 (Try.f74.body.getD .skip) [.eptr (.bool script) 0, .eptr t.d 0] ((trialsL t script).map fun x => [x.d]) := by
  refine ⟨Nat.le_of_ble_eq_true rfl, fun yl => ?_⟩
  cases script with
  | true =>
    conv => whnf
    refine ⟨[], ?_⟩
    conv => whnf
    refine ⟨5, ?_⟩
    conv => whnf
    refine ⟨_, fun _ => call75a t, ?_⟩
    conv => whnf
    refine ⟨⟨rfl, rfl⟩, ?_, ?_⟩
    case refine_2 => conv => whnf
                     trivial
    conv => whnf
    refine ⟨_, fun _ => call75c t, ?_⟩
    conv => whnf
    refine ⟨⟨rfl, rfl⟩, ?_, ?_⟩
    case refine_2 => conv => whnf
                     trivial
    conv => whnf
    refine ⟨_, fun _ => call75b t, ?_⟩
    conv => whnf
    refine ⟨⟨rfl, rfl⟩, ?_, ?_⟩
    case refine_2 => conv => whnf
                     trivial
    conv => whnf
    refine ⟨_, fun _ => call75d t, ?_⟩
    conv => whnf
    refine ⟨⟨rfl, rfl⟩, ?_, ?_⟩
    case refine_2 => conv => whnf
                     trivial
    conv => whnf
    trivial
  | false =>
    conv => whnf
    refine ⟨[], ?_⟩
    conv => whnf
    refine ⟨5, ?_⟩
    conv => whnf
    refine ⟨_, fun _ => call75a t, ?_⟩
    conv => whnf
    refine ⟨⟨rfl, rfl⟩, ?_, ?_⟩
    case refine_2 => conv => whnf
                     trivial
    conv => whnf
    refine ⟨_, fun _ => call75b t, ?_⟩
    conv => whnf
    refine ⟨⟨rfl, rfl⟩, ?_, ?_⟩
    case refine_2 => conv => whnf
                     trivial
    conv => whnf
    refine ⟨_, fun _ => call75c t, ?_⟩
    conv => whnf
    refine ⟨⟨rfl, rfl⟩, ?_, ?_⟩
    case refine_2 => conv => whnf
                     trivial
    conv => whnf
    refine ⟨_, fun _ => call75d t, ?_⟩
    conv => whnf
    refine ⟨⟨rfl, rfl⟩, ?_, ?_⟩
    case refine_2 => conv => whnf
                     trivial
    conv => whnf
    trivial
theorem iter74 (t : Tg) (script : Bool) : IterTo Try.prog 74 [.eptr (.bool script) 0, .eptr t.d 0] ((trialsL t script).map fun x => [x.d]) := iters Try.func74 rfl (by decide) rfl (yields74 t script)
theorem run35 (t : Tg) (script : Bool) : Runs Try.prog T 6 (Try.f35.body.getD .skip) Try.f35.results.toList [t.d, .bool script] (.fn 74 [.eptr (.bool script) 0, .eptr t.d 0]) := by
  refine ⟨Nat.le_of_ble_eq_true rfl, ?_⟩
  conv => whnf
  exact ⟨rfl, rfl⟩
theorem call35 (t : Tg) (script : Bool) : CallsTo Try.prog 35 [t.d, .bool script] (.fn 74 [.eptr (.bool script) 0, .eptr t.d 0]) := calls Try.func35 rfl (by decide) (run35 t script)

def saysB (u : Tg × Bool) (full : Tg) : Bool := bif bif bif u.2 then u.1.l == full.l else false then u.1.s == full.s else false then u.1.r == full.r else false
theorem run71 (xs : List Al) (ls : List Lk) (rs ms : List D) (th dm : Int) (less full u : Tg) (is : Bool) (h50 : CallsTo Try.prog 50 [imgD xs ls rs ms th dm, less.d] (.tup [u.d, .bool is])) :
    Runs Try.prog T 37 (Try.f71.body.getD .skip) Try.f71.results.toList [imgD xs ls rs ms th dm, less.d, full.d] (.bool (saysB (u, is) full)) := by
  refine ⟨Nat.le_of_ble_eq_true rfl, ?_⟩
  conv => whnf
  refine ⟨_, fun _ => h50, ?_⟩
  conv => whnf
  exact ⟨rfl, rfl⟩
theorem call71 (xs : List Al) (ls : List Lk) (rs ms : List D) (th dm : Int) (hx : ls.length ≤ 1000000) (less full : Tg) : CallsTo Try.prog 71 [imgD xs ls rs ms th dm, less.d, full.d] (.bool (saysB (maxOf ls less) full)) :=
  calls Try.func71 rfl (by decide) (run71 xs ls rs ms th dm less full _ _ (call50t xs ls rs ms th dm hx less))
theorem run87 (xs : List Al) (ls : List Lk) (rs ms : List D) (th dm : Int) (u full : Tg) (b : Bool) (h71 : CallsTo Try.prog 71 [imgD xs ls rs ms th dm, u.d, full.d] (.bool b)) :
    Runs Try.prog T 9 (Try.f87.body.getD .skip) Try.f87.results.toList [u.d, .eptr (imgD xs ls rs ms th dm) 0, .eptr full.d 0] (.bool b) := by
  refine ⟨Nat.le_of_ble_eq_true rfl, ?_⟩
  conv => whnf
  refine ⟨_, fun _ => h71, ?_⟩
  conv => whnf
  exact ⟨rfl, rfl⟩
theorem call87 (xs : List Al) (ls : List Lk) (rs ms : List D) (th dm : Int) (hx : ls.length ≤ 1000000) (u full : Tg) : CallsTo Try.prog 87 [u.d, .eptr (imgD xs ls rs ms th dm) 0, .eptr full.d 0] (.bool (saysB (maxOf ls u) full)) :=
  calls Try.func87 rfl (by decide) (run87 xs ls rs ms th dm u full _ (call71 xs ls rs ms th dm hx u full))

/-- The first trial that says all; else the whole. -/
def minG (says : Tg → Bool) (full : Tg) : List Tg → Tg
  | [] => full
  | u :: us => bif says u then u else minG says full us
theorem run69 (xs : List Al) (ls : List Lk) (rs ms : List D) (th dm : Int) (t full : Tg) (is script : Bool) (says : Tg → Bool) (us : List Tg) (h50 : CallsTo Try.prog 50 [imgD xs ls rs ms th dm, t.d] (.tup [full.d, .bool is]))
    (h74 : IterTo Try.prog 74 [.eptr (.bool script) 0, .eptr full.d 0] (us.map fun x => [x.d])) (h87 : ∀ u : Tg, CallsTo Try.prog 87 [u.d, .eptr (imgD xs ls rs ms th dm) 0, .eptr full.d 0] (.bool (says u))) :
    Runs Try.prog T 31 (Try.f69.body.getD .skip) Try.f69.results.toList [imgD xs ls rs ms th dm, t.d, .bool script] (bif is then .tup [(minG says full us).d, .bool true] else .tup [t.d, .bool false]) := by
  refine ⟨Nat.le_of_ble_eq_true rfl, ?_⟩
  conv => whnf
  refine ⟨_, fun _ => h50, ?_⟩
  cases is with
  | false =>
    conv => whnf
    exact ⟨rfl, rfl⟩
  | true =>
    conv => whnf
    refine ⟨_, fun _ => call35 full script, ?_⟩
    conv => whnf
    refine ⟨[], ?_⟩
    conv => whnf
    refine ⟨_, h74, ?_⟩
    clear h74
    generalize hr : (bif true then D.tup [(minG says full us).d, .bool true] else .tup [t.d, .bool false]) = res
    replace hr : D.tup [(minG says full us).d, .bool true] = res := hr
    induction us with
    | nil =>
      conv => whnf
      exact ⟨rfl, hr⟩
    | cons u us ih =>
      conv => whnf
      refine ⟨_, fun _ => h87 u, ?_⟩
      cases hs : says u with
      | true =>
        conv => whnf
        simp only [minG, hs, cond_true] at hr
        exact ⟨rfl, hr⟩
      | false =>
        conv => whnf
        simp only [minG, hs, cond_false] at hr
        exact seqEv_tm 31 (ih hr)
def minOf (ls : List Lk) (t : Tg) (script : Bool) : Tg × Bool := bif (maxOf ls t).2 then (minG (fun u => saysB (maxOf ls u) (maxOf ls t).1) (maxOf ls t).1 (trialsL (maxOf ls t).1 script), true) else (t, false)
theorem call69 (xs : List Al) (ls : List Lk) (rs ms : List D) (th dm : Int) (hx : ls.length ≤ 1000000) (t : Tg) (script : Bool) : CallsTo Try.prog 69 [imgD xs ls rs ms th dm, t.d, .bool script] (.tup [(minOf ls t script).1.d, .bool (minOf ls t script).2]) := by
  have h := calls Try.func69 rfl (by decide) (run69 xs ls rs ms th dm t (maxOf ls t).1 (maxOf ls t).2 script (fun u => saysB (maxOf ls u) (maxOf ls t).1) (trialsL (maxOf ls t).1 script) (call50t xs ls rs ms th dm hx t) (iter74 (maxOf ls t).1 script) (fun u => call87 xs ls rs ms th dm hx u (maxOf ls t).1))
  have e : (bif (maxOf ls t).2 then D.tup [(minG (fun u => saysB (maxOf ls u) (maxOf ls t).1) (maxOf ls t).1 (trialsL (maxOf ls t).1 script)).d, .bool true] else .tup [t.d, .bool false]) = .tup [(minOf ls t script).1.d, .bool (minOf ls t script).2] := by
    unfold minOf
    cases (maxOf ls t).2 <;> rfl
  rw [e] at h
  exact h
end Go.Proofs.Ytndijidmabfhcaa.Fw

/- A tag is the same as itself. -/
namespace Go.Proofs.Ytndijidmabfhcaa.Fw
open Go Go.RowKit
set_option maxRecDepth 100000
set_option maxHeartbeats 4000000
theorem run76 (l : List S8) (hl : l.length ≤ 1000000) : Runs Try.prog T 26 (Try.f76.body.getD .skip) Try.f76.results.toList [.sl 0 1 (l.map .str), .sl 0 1 (l.map .str)] (.bool true) := by
  refine ⟨Nat.le_of_ble_eq_true rfl, ?_⟩
  conv => whnf
  refine ifB_intro (fun hb => by simp at hb) (fun _ => ?_)
  conv => whnf
  refine ⟨[], ?_⟩
  conv => whnf
  refine ⟨_, loop_rule (σ := Nat) (fun i => ⟨26, [(1, .sl 0 1 (List.map .str l)), (0, .sl 0 1 (List.map .str l)), (4, .bool false), (6, .sl 0 1 (List.map .str l)), (7, .int .i64 (List.map D.str l).length), (8, .sl 0 1 (List.map .str l)), (9, .int .i64 (List.map D.str l).length), (10, .bool (((List.map D.str l).length : Int) != (List.map D.str l).length)), (5, .int .i64 (i : Int))], [], [], [], [], [], none⟩) (fun i => l.length - i) (fun i => i ≤ l.length) ?_ 0 (Nat.zero_le _)⟩
  rintro i hi ih
  conv => whnf
  refine ifB_intro (fun h => ?_) (fun h => ?_)
  · replace h : (i : Int) < (List.map D.str l).length := of_decide_eq_true h
    have hlt : i < l.length := by simpa using h
    have hw : IntKind.i64.wrap ((i : Int) + 1) = ((i + 1 : Nat) : Int) := by rw [IntKind.wrap_i64]; omega
    conv => whnf
    refine ⟨rfl, ?_⟩
    conv => whnf
    refine sideB_intro (fun _ => decide_eq_true (by simp; omega)) ?_
    rw [getD_map (enc := D.str) hlt]
    conv => whnf
    refine sideB_intro (fun _ => decide_eq_true (by simp; omega)) ?_
    rw [getD_map (enc := D.str) hlt]
    conv => whnf
    refine ifB_intro (fun hb => by simp at hb) (fun _ => ?_)
    conv => whnf
    rw [hw]
    exact ih (i + 1) hlt (by omega)
  · conv => whnf
    exact ⟨rfl, rfl⟩
theorem call76 (l : List S8) (hl : l.length ≤ 1000000) : CallsTo Try.prog 76 [.sl 0 1 (l.map .str), .sl 0 1 (l.map .str)] (.bool true) := calls Try.func76 rfl (by decide) (run76 l hl)

structure Ex where
  k : S8
  subs : List S8
def Ex.d (e : Ex) : D := .agg [.str e.k, .sl 0 1 (e.subs.map .str)]
/-- A tag whose lists are of texts, and of extensions. -/
structure STag where
  l : S8
  ex : List S8
  s : S8
  r : S8
  va : List S8
  xt : List Ex
  pv : List S8
  g : S8
def STag.t (t : STag) : Tg := ⟨t.l, t.ex.map .str, t.s, t.r, t.va.map .str, t.xt.map Ex.d, t.pv.map .str, t.g⟩
def STag.small (t : STag) : Prop := t.ex.length ≤ 1000000 ∧ t.va.length ≤ 1000000 ∧ t.xt.length ≤ 1000000 ∧ t.pv.length ≤ 1000000 ∧ ∀ e ∈ t.xt, e.subs.length ≤ 1000000
theorem run37 (l s r g : S8) (ex va pv : List S8) (xt : List Ex) (h1 : ex.length ≤ 1000000) (h2 : va.length ≤ 1000000) (h3 : xt.length ≤ 1000000) (h4 : pv.length ≤ 1000000) (h5 : ∀ e ∈ xt, e.subs.length ≤ 1000000) :
    Runs Try.prog T 109 (Try.f37.body.getD .skip) Try.f37.results.toList [(⟨l, ex.map .str, s, r, va.map .str, xt.map Ex.d, pv.map .str, g⟩ : Tg).d, (⟨l, ex.map .str, s, r, va.map .str, xt.map Ex.d, pv.map .str, g⟩ : Tg).d] (.bool true) := by
  refine ⟨Nat.le_of_ble_eq_true rfl, ?_⟩
  conv => whnf
  refine ⟨_, fun _ => call76 ex h1, ?_⟩
  conv => whnf
  refine ⟨_, fun _ => call76 va h2, ?_⟩
  conv => whnf
  refine ⟨_, fun _ => call76 pv h4, ?_⟩
  conv => whnf
  refine ifB_intro (fun hb => by revert hb; simp) (fun _ => ?_)
  conv => whnf
  refine ⟨[], ?_⟩
  conv => whnf
  refine loop_at (σ := Nat) (fun i => Env.setT 8 (.int .i64 (i : Int))) (fun i => xt.length - i) (fun i => i ≤ xt.length) 0 (Nat.zero_le _) rfl ?_
  rintro i hi ih
  conv => whnf
  refine ifB_intro (fun h' => ?_) (fun h' => ?_)
  · replace h' : (i : Int) < (List.map Ex.d xt).length := of_decide_eq_true h'
    have hlt : i < xt.length := by simpa using h'
    have hw : IntKind.i64.wrap ((i : Int) + 1) = ((i + 1 : Nat) : Int) := by rw [IntKind.wrap_i64]; omega
    conv => whnf
    refine ⟨rfl, ?_⟩
    conv => whnf
    refine sideB_intro (fun _ => decide_eq_true (by simp; omega)) ?_
    rw [getD_map (enc := Ex.d) hlt]
    conv => whnf
    refine sideB_intro (fun _ => decide_eq_true (by simp; omega)) ?_
    rw [getD_map (enc := Ex.d) hlt]
    conv => whnf
    refine ⟨_, fun _ => call76 _ (h5 _ (List.getElem_mem hlt)), ?_⟩
    conv => whnf
    refine ⟨rfl, ?_⟩
    conv => whnf
    refine sideB_intro (fun _ => decide_eq_true (by simp; omega)) ?_
    rw [getD_map (enc := Ex.d) hlt]
    conv => whnf
    refine sideB_intro (fun _ => decide_eq_true (by simp; omega)) ?_
    rw [getD_map (enc := Ex.d) hlt]
    conv => whnf
    refine ifB_intro (fun hb => by simp at hb) (fun _ => ?_)
    conv => whnf
    rw [hw]
    exact ih (i + 1) hlt (by omega)
  · conv => whnf
    exact ⟨rfl, rfl⟩
end Go.Proofs.Ytndijidmabfhcaa.Fw

/- Tags of plain numbers: that there is one, with short lists of short texts. -/
namespace Go.Proofs.Ytndijidmabfhcaa.Fw
open Go Go.RowKit
set_option maxRecDepth 100000
set_option maxHeartbeats 4000000
theorem call51m (l : List S8) (x : Int) (h : 0 < l.length) (h2 : l.length ≤ 1000000) : ∃ s, s ∈ l ∧ CallsTo Try.prog 51 [.sl 0 1 (l.map .str), .int .i64 x] (.str s) := by
  obtain ⟨i, hi, hc⟩ := call51 l x h h2
  exact ⟨_, List.getElem_mem hi, hc⟩
theorem call51s (l : List S8) (x : Int) (h : 0 < l.length) (h2 : l.length ≤ 1000000) (n : Nat) (hn : l.all (fun s => Nat.ble s.length n) = true) : ∃ s : S8, s.length ≤ n ∧ CallsTo Try.prog 51 [.sl 0 1 (l.map .str), .int .i64 x] (.str s) := by
  obtain ⟨s, hs, hc⟩ := call51m l x h h2
  exact ⟨s, Nat.le_of_ble_eq_true (List.all_eq_true.1 hn s hs), hc⟩
def langsL : List S8 := [[101, 110], [122, 104], [115, 114], [117, 110, 100], [105, 119], [110, 111], [115, 103, 110], [109, 111], [104, 97, 110, 116], [97, 98, 99, 100, 101, 102, 103, 104], [100, 101], [114, 111, 111, 116]]
def scriptsL : List S8 := [[], [], [108, 97, 116, 110], [99, 121, 114, 108], [104, 97, 110, 115], [113, 97, 97, 105], [104, 97, 110, 116]]
def regionsL : List S8 := [[], [], [117, 115], [103, 98], [52, 49, 57], [100, 100], [99, 110], [98, 114], [115, 117]]
def variantsL : List S8 := [[49, 57, 57, 52], [104, 101, 112, 108, 111, 99], [102, 111, 110, 105, 112, 97], [97, 114, 101, 118, 101, 108, 97], [49, 97, 50, 98], [115, 99, 111, 117, 115, 101]]
def wordsL : List S8 := [[99, 97], [98, 117, 100, 100, 104, 105, 115, 116], [99, 111], [116, 114, 117, 101], [107, 110], [112, 104, 111, 110, 101, 98, 107], [109, 48], [101, 110], [97, 98, 49], [105, 115, 108, 97, 109, 105, 99, 99], [104, 48]]
theorem run60  : Runs Try.prog T 2 (Try.f60.body.getD .skip) Try.f60.results.toList [] (.sl 0 1 (langsL.map .str)) := by
  refine ⟨Nat.le_of_ble_eq_true rfl, ?_⟩
  conv => whnf
  exact ⟨rfl, rfl⟩
theorem run61  : Runs Try.prog T 2 (Try.f61.body.getD .skip) Try.f61.results.toList [] (.sl 0 1 (scriptsL.map .str)) := by
  refine ⟨Nat.le_of_ble_eq_true rfl, ?_⟩
  conv => whnf
  exact ⟨rfl, rfl⟩
theorem run62  : Runs Try.prog T 2 (Try.f62.body.getD .skip) Try.f62.results.toList [] (.sl 0 1 (regionsL.map .str)) := by
  refine ⟨Nat.le_of_ble_eq_true rfl, ?_⟩
  conv => whnf
  exact ⟨rfl, rfl⟩
theorem run63  : Runs Try.prog T 2 (Try.f63.body.getD .skip) Try.f63.results.toList [] (.sl 0 1 (variantsL.map .str)) := by
  refine ⟨Nat.le_of_ble_eq_true rfl, ?_⟩
  conv => whnf
  exact ⟨rfl, rfl⟩
theorem run64  : Runs Try.prog T 2 (Try.f64.body.getD .skip) Try.f64.results.toList [] (.sl 0 1 (wordsL.map .str)) := by
  refine ⟨Nat.le_of_ble_eq_true rfl, ?_⟩
  conv => whnf
  exact ⟨rfl, rfl⟩
theorem call60  : CallsTo Try.prog 60 [] (.sl 0 1 (langsL.map .str)) := calls Try.func60 rfl (by decide) (run60)
theorem call61  : CallsTo Try.prog 61 [] (.sl 0 1 (scriptsL.map .str)) := calls Try.func61 rfl (by decide) (run61)
theorem call62  : CallsTo Try.prog 62 [] (.sl 0 1 (regionsL.map .str)) := calls Try.func62 rfl (by decide) (run62)
theorem call63  : CallsTo Try.prog 63 [] (.sl 0 1 (variantsL.map .str)) := calls Try.func63 rfl (by decide) (run63)
theorem call64  : CallsTo Try.prog 64 [] (.sl 0 1 (wordsL.map .str)) := calls Try.func64 rfl (by decide) (run64)
def okE (x : Ex) : Prop := x.k.length ≤ 16 ∧ x.subs.length ≤ 8 ∧ ∀ y ∈ x.subs, y.length ≤ 16
/-- A tag with short lists of short texts. -/
structure STag.okN (t : STag) (ne nv nx np : Nat) : Prop where
  l : t.l.length ≤ 16
  s : t.s.length ≤ 16
  r : t.r.length ≤ 16
  g : t.g.length ≤ 16
  ex : t.ex.length ≤ ne ∧ ∀ x ∈ t.ex, x.length ≤ 16
  va : t.va.length ≤ nv ∧ ∀ x ∈ t.va, x.length ≤ 16
  xt : t.xt.length ≤ nx ∧ ∀ x ∈ t.xt, okE x
  pv : t.pv.length ≤ np ∧ ∀ x ∈ t.pv, x.length ≤ 16
theorem titleS_len (l : List UInt8) : (titleS l).length = l.length := by cases l <;> simp [titleS]
theorem ok_app {l m : List S8} {n k : Nat} (h : l.length ≤ n ∧ ∀ x ∈ l, x.length ≤ 16) (hm : m.all (fun x => Nat.ble x.length 16) = true) (hk : n + m.length ≤ k) : (l ++ m).length ≤ k ∧ ∀ x ∈ l ++ m, x.length ≤ 16 := by
  refine ⟨by rw [List.length_append]; omega, fun x hx => ?_⟩
  rcases List.mem_append.1 hx with hx | hx
  · exact h.2 x hx
  · exact Nat.le_of_ble_eq_true (List.all_eq_true.1 hm x hx)
theorem ok_le {l : List S8} {n k : Nat} (h : l.length ≤ n ∧ ∀ x ∈ l, x.length ≤ 16) (hk : n ≤ k) : l.length ≤ k ∧ ∀ x ∈ l, x.length ≤ 16 := ⟨Nat.le_trans h.1 hk, h.2⟩
theorem okE_app {l m : List Ex} {n k : Nat} (h : l.length ≤ n ∧ ∀ x ∈ l, okE x) (hm : ∀ x ∈ m, okE x) (hk : n + m.length ≤ k) : (l ++ m).length ≤ k ∧ ∀ x ∈ l ++ m, okE x := by
  refine ⟨by rw [List.length_append]; omega, fun x hx => ?_⟩
  rcases List.mem_append.1 hx with hx | hx
  · exact h.2 x hx
  · exact hm x hx
theorem okE_le {l : List Ex} {n k : Nat} (h : l.length ≤ n ∧ ∀ x ∈ l, okE x) (hk : n ≤ k) : l.length ≤ k ∧ ∀ x ∈ l, okE x := ⟨Nat.le_trans h.1 hk, h.2⟩
def tagO (exD : D) (u : STag) : D := .agg [.str u.l, exD, .str u.s, .str u.r, .sl 0 1 (u.va.map .str), .sl 0 2 (u.xt.map Ex.d), .sl 0 1 (u.pv.map .str), .str u.g]
theorem run65 (l s r g : S8) (ex va pv : List S8) (xt : List Ex) (odd : Int) (h : (⟨l, ex, s, r, va, xt, pv, g⟩ : STag).okN 1 4 3 3) : RunsM Try.prog T 55 (Try.f65.body.getD .skip) Try.f65.results.toList [] [(113, 9), (115, 111), (117, 9)] [.agg [.str l, .sl 1 1 (ex.map .str), .str s, .str r, .sl 113 1 (va.map .str), .sl 115 2 (xt.map Ex.d), .sl 117 1 (pv.map .str), .str g], .int .i64 odd] (fun d bx' => bx' = [] ∧ ∃ (u : STag), d = tagO (.sl 1 1 (ex.map .str)) u ∧ u.ex = ex ∧ u.okN 1 6 5 4) [] := by
  refine ⟨Nat.le_of_ble_eq_true rfl, ?_⟩
  conv => whnf
  obtain ⟨hl, hs, hr, hg, he, hv, hx, hp⟩ := h
  simp only at hl hs hr hg he hv hx hp
  refine ifB_intro (fun h1 => ?_) (fun h1 => ?_)
  · conv => whnf
    refine sideB_intro (fun _ => decide_eq_true (by simp; omega)) ?_
    conv => whnf
    refine ⟨rfl, rfl, ⟨l, ex, s, r, va ++ [[102, 111, 110, 105, 112, 97], [102, 111, 110, 105, 112, 97]], xt, pv, g⟩, (by simp only [tagO, List.map_append]; rfl), rfl, ⟨hl, hs, hr, hg, he, ok_app hv rfl (by decide), okE_le hx (by decide), ok_le hp (by decide)⟩⟩
  conv => whnf
  refine ifB_intro (fun h1 => ?_) (fun h1 => ?_)
  · conv => whnf
    refine ⟨_, fun _ => call86 l (by omega), ?_⟩
    conv => whnf
    refine ⟨rfl, rfl, ⟨titleS l, ex, s, r, va, xt, pv, g⟩, rfl, rfl, ⟨by show (titleS l).length ≤ 16; rw [titleS_len]; exact hl, hs, hr, hg, he, ok_le hv (by decide), okE_le hx (by decide), ok_le hp (by decide)⟩⟩
  conv => whnf
  refine ifB_intro (fun h1 => ?_) (fun h1 => ?_)
  · conv => whnf
    refine sideB_intro (fun _ => decide_eq_true (by simp; omega)) ?_
    conv => whnf
    refine ⟨rfl, rfl, ⟨l, ex, s, r, va, xt ++ [⟨[98], []⟩], pv, g⟩, (by simp only [tagO, List.map_append]; rfl), rfl, ⟨hl, hs, hr, hg, he, ok_le hv (by decide), okE_app hx (by intro x hx; simp at hx; subst hx; exact ⟨by decide, by decide, by simp⟩) (by decide), ok_le hp (by decide)⟩⟩
  conv => whnf
  refine ifB_intro (fun h1 => ?_) (fun h1 => ?_)
  · conv => whnf
    refine ⟨rfl, rfl, ⟨l, ex, [108, 97, 116], r, va, xt, pv, g⟩, rfl, rfl, ⟨hl, Nat.le_of_ble_eq_true rfl, hr, hg, he, ok_le hv (by decide), okE_le hx (by decide), ok_le hp (by decide)⟩⟩
  conv => whnf
  refine ifB_intro (fun h1 => ?_) (fun h1 => ?_)
  · conv => whnf
    refine ⟨rfl, rfl, ⟨l, ex, s, r, va, xt, pv, [105, 45, 97, 109, 105]⟩, rfl, rfl, ⟨hl, hs, hr, Nat.le_of_ble_eq_true rfl, he, ok_le hv (by decide), okE_le hx (by decide), ok_le hp (by decide)⟩⟩
  conv => whnf
  refine ifB_intro (fun h1 => ?_) (fun h1 => ?_)
  · conv => whnf
    refine sideB_intro (fun _ => decide_eq_true (by simp; omega)) ?_
    conv => whnf
    refine ⟨rfl, rfl, ⟨l, ex, s, r, va, xt, pv ++ [[97, 98, 99, 100, 101, 102, 103, 104, 105]], g⟩, (by simp only [tagO, List.map_append]; rfl), rfl, ⟨hl, hs, hr, hg, he, ok_le hv (by decide), okE_le hx (by decide), ok_app hp rfl (by decide)⟩⟩
  conv => whnf
  refine ifB_intro (fun h1 => ?_) (fun h1 => ?_)
  · conv => whnf
    refine sideB_intro (fun _ => decide_eq_true (by simp; omega)) ?_
    conv => whnf
    refine ⟨rfl, rfl, ⟨l, ex, s, r, va, xt ++ [⟨[99], [[97, 98]]⟩, ⟨[99], [[99, 100]]⟩], pv, g⟩, (by simp only [tagO, List.map_append]; rfl), rfl, ⟨hl, hs, hr, hg, he, ok_le hv (by decide), okE_app hx (by intro x hx; simp at hx; rcases hx with rfl | rfl <;> exact ⟨by decide, by decide, by simp⟩) (by decide), ok_le hp (by decide)⟩⟩
  conv => whnf
  refine ifB_intro (fun h1 => ?_) (fun h1 => ?_)
  · conv => whnf
    refine ⟨rfl, rfl, ⟨[], ex, s, r, va, xt, pv, g⟩, rfl, rfl, ⟨Nat.le_of_ble_eq_true rfl, hs, hr, hg, he, ok_le hv (by decide), okE_le hx (by decide), ok_le hp (by decide)⟩⟩
  conv => whnf
  refine ⟨rfl, rfl, ⟨l, ex, s, r, va, xt, pv, g⟩, rfl, rfl, ⟨hl, hs, hr, hg, he, ok_le hv (by decide), okE_le hx (by decide), ok_le hp (by decide)⟩⟩
end Go.Proofs.Ytndijidmabfhcaa.Fw

/- Tags of plain numbers: Made. -/
namespace Go.Proofs.Ytndijidmabfhcaa.Fw
open Go Go.RowKit
set_option maxRecDepth 100000
set_option maxHeartbeats 4000000
def intD (n : Int) : D := .int .i64 n
structure Sd06 where
  l : Int
  e : Int
  s : Int
  r : Int
  vs : List Int
  ks : List Int
  ps : List Int
  o : Int
def Sd06.d (q : Sd06) : D := .agg [.int .i64 q.l, .int .i64 q.e, .int .i64 q.s, .int .i64 q.r, .sl 0 1 (q.vs.map intD), .sl 0 1 (q.ks.map intD), .sl 0 1 (q.ps.map intD), .int .i64 q.o]
theorem call65 (l s r g : S8) (ex va pv : List S8) (xt : List Ex) (odd : Int) (h : (⟨l, ex, s, r, va, xt, pv, g⟩ : STag).okN 1 4 3 3) : ∃ d bx', (fun d bx' => bx' = [] ∧ ∃ (u : STag), d = tagO (.sl 1 1 (ex.map .str)) u ∧ u.ex = ex ∧ u.okN 1 6 5 4) d bx' ∧ CallsM Try.prog 65 [] [(113, 9), (115, 111), (117, 9)] [.agg [.str l, .sl 1 1 (ex.map .str), .str s, .str r, .sl 113 1 (va.map .str), .sl 115 2 (xt.map Ex.d), .sl 117 1 (pv.map .str), .str g], .int .i64 odd] d bx' [] := callsM Try.func65 rfl (by decide) (run65 l s r g ex va pv xt odd h)
theorem and_true' {a b : Bool} (h : (bif a then b else false) = true) : a = true ∧ b = true := by cases a <;> simp_all
theorem snoc_len {l : List S8} {x : S8} {n : Nat} (h : l.length ≤ n ∧ ∀ y ∈ l, y.length ≤ 16) (hx : x.length ≤ 16) : (l ++ [x]).length ≤ n + 1 ∧ ∀ y ∈ l ++ [x], y.length ≤ 16 := by
  refine ⟨by simp; omega, fun y hy => ?_⟩
  rcases List.mem_append.1 hy with hy | hy
  · exact h.2 y hy
  · rw [List.mem_singleton.1 hy]; exact hx
theorem succ_len {l : List S8} {n : Nat} (h : l.length ≤ n ∧ ∀ y ∈ l, y.length ≤ 16) : l.length ≤ n + 1 ∧ ∀ y ∈ l, y.length ≤ 16 := ⟨by omega, h.2⟩
def exkL : List S8 := [[117], [116], [97], [57]]
theorem call51f (l : List S8) (h : 0 < l.length) (h2 : l.length ≤ 1000000) (n : Nat) (hn : l.all (fun s => Nat.ble s.length n) = true) : ∃ pk : Int → S8, (∀ x, (pk x).length ≤ n) ∧ ∀ x, CallsTo Try.prog 51 [.sl 0 1 (l.map .str), .int .i64 x] (.str (pk x)) := by
  have h0 : ∀ x : Int, ∃ s : S8, s.length ≤ n ∧ CallsTo Try.prog 51 [.sl 0 1 (l.map .str), .int .i64 x] (.str s) := fun x => call51s l x h h2 n hn
  refine ⟨fun x => Classical.choose (h0 x), fun x => (Classical.choose_spec (h0 x)).1, fun x => (Classical.choose_spec (h0 x)).2⟩
theorem run29 (q : Sd06) : RunsQ Try.prog T 166 (Try.f29.body.getD .skip) Try.f29.results.toList [q.d] (fun d => ∃ u : STag, d = u.t.d ∧ u.okN 1 6 5 4) := by
  refine ⟨Nat.le_of_ble_eq_true rfl, ?_⟩
  conv => whnf
  obtain ⟨pw, hpl, hpw⟩ := call51f wordsL (by decide) (by decide) 16 rfl
  refine ⟨rfl, ?_⟩
  conv => whnf
  refine ⟨_, fun _ => call60, ?_⟩
  conv => whnf
  obtain ⟨l, hl, hc⟩ := call51s langsL q.l (by decide) (by decide) 16 rfl
  refine ⟨_, fun _ => hc, ?_⟩
  conv => whnf
  refine ⟨_, fun _ => call61, ?_⟩
  conv => whnf
  obtain ⟨s, hs, hc⟩ := call51s scriptsL q.s (by decide) (by decide) 16 rfl
  refine ⟨_, fun _ => hc, ?_⟩
  conv => whnf
  refine ⟨_, fun _ => call62, ?_⟩
  conv => whnf
  obtain ⟨r, hr, hc⟩ := call51s regionsL q.r (by decide) (by decide) 16 rfl
  refine ⟨_, fun _ => hc, ?_⟩
  conv => whnf
  clear hc
  refine ifB_intro (fun hx => ?_) (fun hx => ?_)
  · obtain ⟨e, he, hc⟩ := call51s [[121, 117, 101], [99, 109, 110], [109, 105, 110]] (IntKind.i64.wrap (q.e.tdiv 4)) (by decide) (by decide) 16 rfl
    conv => whnf
    refine ⟨_, fun _ => hc, ?_⟩
    conv => whnf
    have hex : ([e] : List S8).length ≤ 1 ∧ ∀ x ∈ [e], x.length ≤ 16 := ⟨Nat.le_refl 1, fun x hx => by rw [List.mem_singleton.1 hx]; exact he⟩
    refine ⟨[.keep 13, .nilB 3 4 9 1], ?_⟩
    conv => whnf
    refine loop_at (σ := Nat × List S8) (fun z env => Env.setC1 3 4 (.sl 2 1 (z.2.map .str)) (Env.setT 4 (.int .i64 (z.1 : Int)) env)) (fun z => 4 - z.1) (fun z => z.1 ≤ 4 ∧ z.2.length ≤ z.1 ∧ ∀ x ∈ z.2, x.length ≤ 16) (0, []) ⟨by decide, by decide, by simp⟩ rfl ?_
    rintro ⟨i, va⟩ ⟨hi, hva⟩ ih
    replace hi : i ≤ 4 := hi
    replace hva : va.length ≤ i ∧ ∀ x ∈ va, x.length ≤ 16 := hva
    conv => whnf
    refine ifB_intro (fun h => ?_) (fun h => ?_)
    · obtain ⟨h1, h2⟩ := and_true' h
      replace h1 : (i : Int) < (q.vs.map intD).length := of_decide_eq_true h1
      replace h2 : (i : Int) < 4 := of_decide_eq_true h2
      have hlt : i < q.vs.length := by simpa using h1
      conv => whnf
      refine ⟨rfl, ?_⟩
      conv => whnf
      refine ⟨_, fun _ => call63, ?_⟩
      conv => whnf
      refine sideB_intro (fun _ => decide_eq_true (by simp; omega)) ?_
      conv => whnf
      rw [getD_map (enc := intD) hlt]
      obtain ⟨v, hv, hc⟩ := call51s variantsL q.vs[i] (by decide) (by decide) 16 rfl
      conv => whnf
      refine ⟨_, fun _ => hc, ?_⟩
      conv => whnf
      refine ⟨[.keep 13], ?_⟩
      conv => whnf
      refine loop_at (σ := Nat × Bool) (fun z env => Env.setT 6 (.bool z.2) (Env.setT 7 (.int .i64 (z.1 : Int)) env)) (fun z => va.length - z.1) (fun z => z.1 ≤ va.length) (0, false) (Nat.zero_le _) rfl ?_
      rintro ⟨k, b⟩ hk ihk
      replace hk : k ≤ va.length := hk
      conv => whnf
      refine ifB_intro (fun hkl => ?_) (fun hkl => ?_)
      · replace hkl : (k : Int) < (va.map D.str).length := of_decide_eq_true hkl
        have hk' : k < va.length := by simpa using hkl
        conv => whnf
        refine sideB_intro (fun _ => decide_eq_true (by simp; omega)) ?_
        conv => whnf
        rw [getD_map (enc := D.str) hk']
        conv => whnf
        rw [show IntKind.i64.wrap ((k : Int) + 1) = ((k + 1 : Nat) : Int) by rw [IntKind.wrap_i64]; omega]
        exact ihk (k + 1, _) hk' (by show va.length - k = va.length - (k + 1) + 1; omega)
      · conv => whnf
        refine ifB_intro (fun hb => ?_) (fun hb => ?_)
        · conv => whnf
          refine sideB_intro (fun _ => decide_eq_true (by simp; omega)) ?_
          conv => whnf
          rw [show IntKind.i64.wrap ((i : Int) + 1) = ((i + 1 : Nat) : Int) by rw [IntKind.wrap_i64]; omega]
          rw [show List.map D.str va ++ [D.str v] = List.map D.str (va ++ [v]) by simp]
          exact ih (i + 1, va ++ [v]) ⟨by show i + 1 ≤ 4; omega, snoc_len hva hv⟩ (by show 4 - i = 4 - (i + 1) + 1; omega)
        · conv => whnf
          rw [show IntKind.i64.wrap ((i : Int) + 1) = ((i + 1 : Nat) : Int) by rw [IntKind.wrap_i64]; omega]
          exact ih (i + 1, va) ⟨by show i + 1 ≤ 4; omega, succ_len hva⟩ (by show 4 - i = 4 - (i + 1) + 1; omega)
    clear ih h
    have hva4 : va.length ≤ 4 ∧ ∀ x ∈ va, x.length ≤ 16 := ⟨by omega, hva.2⟩
    clear hva hi
    conv => whnf
    refine ⟨[.keep 13, .nilB 3 5 111 2], ?_⟩
    conv => whnf
    refine loop_at (σ := Nat × List Ex) (fun z env => Env.setC1 3 5 (.sl 2 2 (z.2.map Ex.d)) (Env.setT 8 (.int .i64 (z.1 : Int)) env)) (fun z => 3 - z.1) (fun z => z.1 ≤ 3 ∧ z.2.length ≤ z.1 ∧ ∀ x ∈ z.2, okE x) (0, []) ⟨by decide, by decide, by simp⟩ rfl ?_
    rintro ⟨j, xt⟩ ⟨hj, hxt⟩ ih
    replace hj : j ≤ 3 := hj
    replace hxt : xt.length ≤ j ∧ ∀ x ∈ xt, okE x := hxt
    conv => whnf
    refine ifB_intro (fun h => ?_) (fun h => ?_)
    · obtain ⟨h1, h2⟩ := and_true' h
      replace h1 : (j : Int) < (q.ks.map intD).length := of_decide_eq_true h1
      replace h2 : (j : Int) < 3 := of_decide_eq_true h2
      have hlt : j < q.ks.length := by simpa using h1
      have hjk : j < exkL.length := by show j < 4; omega
      conv => whnf
      refine sideB_intro (fun _ => decide_eq_true (by simp; omega)) ?_
      conv => whnf
      rw [show ([.str [117], .str [116], .str [97], .str [57]] : List D).getD (Int.toNat (j : Int)) .undef = .str exkL[j] from getD_map (enc := D.str) hjk]
      have hkey : (exkL[j]).length ≤ 16 := Nat.le_of_ble_eq_true (List.all_eq_true.1 (show (exkL.all fun s => Nat.ble s.length 16) = true from rfl) _ (List.getElem_mem hjk))
      revert hkey
      generalize exkL[j] = key
      intro hkey
      conv => whnf
      refine sideB_intro (fun _ => decide_eq_true (by simp; omega)) ?_
      conv => whnf
      rw [getD_map (enc := intD) hlt]
      conv => whnf
      generalize hn : (IntKind.i64.wrap ((q.ks[j]).tmod 1000 + 1000)).tmod 1000 = n
      have hn4 : n.tmod 4 < 4 := Int.tmod_lt_of_pos n (by decide)
      refine ⟨[.keep 13, .nilB 9 1 9 1], ?_⟩
      conv => whnf
      refine loop_at (σ := Nat × List S8) (fun z env => Env.setC1 9 1 (.sl 2 1 (z.2.map .str)) (Env.setT 11 (.int .i64 (z.1 : Int)) env)) (fun z => 4 - z.1) (fun z => z.1 ≤ 4 ∧ z.2.length ≤ z.1 ∧ ∀ x ∈ z.2, x.length ≤ 16) (0, []) ⟨by decide, by decide, by simp⟩ rfl ?_
      rintro ⟨k, sb⟩ ⟨hk, hsb⟩ ihk
      replace hk : k ≤ 4 := hk
      replace hsb : sb.length ≤ k ∧ ∀ x ∈ sb, x.length ≤ 16 := hsb
      conv => whnf
      refine ifB_intro (fun hkl => ?_) (fun hkl => ?_)
      · replace hkl : (k : Int) ≤ n.tmod 4 := of_decide_eq_true hkl
        conv => whnf
        refine ⟨rfl, ?_⟩
        conv => whnf
        refine ⟨_, fun _ => call64, ?_⟩
        conv => whnf
        refine ⟨_, fun _ => hpw _, ?_⟩
        conv => whnf
        refine sideB_intro (fun _ => decide_eq_true (by simp; omega)) ?_
        conv => whnf
        rw [show IntKind.i64.wrap ((k : Int) + 1) = ((k + 1 : Nat) : Int) by rw [IntKind.wrap_i64]; omega]
        rw [map_snoc (f := D.str)]
        exact ihk (k + 1, _) ⟨by show k + 1 ≤ 4; omega, snoc_len hsb (hpl _)⟩ (by show 4 - k = 4 - (k + 1) + 1; omega)
      · conv => whnf
        refine sideB_intro (fun _ => decide_eq_true (by simp; omega)) ?_
        conv => whnf
        rw [show IntKind.i64.wrap ((j : Int) + 1) = ((j + 1 : Nat) : Int) by rw [IntKind.wrap_i64]; omega]
        rw [show List.map Ex.d xt ++ [D.agg [D.str key, D.sl 0 1 (List.map D.str sb)]] = List.map Ex.d (xt ++ [⟨key, sb⟩]) by simp [Ex.d]]
        exact ih (j + 1, xt ++ [⟨key, sb⟩]) ⟨by show j + 1 ≤ 3; omega, okE_app hxt (by intro x hx; simp at hx; subst hx; exact ⟨hkey, by show sb.length ≤ 8; omega, hsb.2⟩) (by simp)⟩ (by show 3 - j = 3 - (j + 1) + 1; omega)
    clear ih h
    have hxt3 : xt.length ≤ 3 ∧ ∀ x ∈ xt, okE x := ⟨by omega, hxt.2⟩
    clear hxt hj
    conv => whnf
    refine ⟨[.keep 13, .nilB 3 6 9 1], ?_⟩
    conv => whnf
    refine loop_at (σ := Nat × List S8) (fun z env => Env.setC1 3 6 (.sl 2 1 (z.2.map .str)) (Env.setT 12 (.int .i64 (z.1 : Int)) env)) (fun z => 3 - z.1) (fun z => z.1 ≤ 3 ∧ z.2.length ≤ z.1 ∧ ∀ x ∈ z.2, x.length ≤ 16) (0, []) ⟨by decide, by decide, by simp⟩ rfl ?_
    rintro ⟨k, pv⟩ ⟨hk, hpv⟩ ih
    replace hk : k ≤ 3 := hk
    replace hpv : pv.length ≤ k ∧ ∀ x ∈ pv, x.length ≤ 16 := hpv
    conv => whnf
    refine ifB_intro (fun h => ?_) (fun h => ?_)
    · obtain ⟨h1, h2⟩ := and_true' h
      replace h1 : (k : Int) < (q.ps.map intD).length := of_decide_eq_true h1
      replace h2 : (k : Int) < 3 := of_decide_eq_true h2
      have hlt : k < q.ps.length := by simpa using h1
      conv => whnf
      refine ⟨rfl, ?_⟩
      conv => whnf
      refine sideB_intro (fun _ => decide_eq_true (by simp; omega)) ?_
      conv => whnf
      rw [getD_map (enc := intD) hlt]
      obtain ⟨v, hv, hc⟩ := call51s [[97], [117, 115], [112, 114, 105, 118, 97, 116, 101, 49], [120]] q.ps[k] (by decide) (by decide) 16 rfl
      conv => whnf
      refine ⟨_, fun _ => hc, ?_⟩
      conv => whnf
      refine sideB_intro (fun _ => decide_eq_true (by simp; omega)) ?_
      conv => whnf
      rw [show IntKind.i64.wrap ((k : Int) + 1) = ((k + 1 : Nat) : Int) by rw [IntKind.wrap_i64]; omega]
      rw [map_snoc (f := D.str)]
      exact ih (k + 1, _) ⟨by show k + 1 ≤ 3; omega, snoc_len hpv hv⟩ (by show 3 - k = 3 - (k + 1) + 1; omega)
    clear ih h
    have hpv3 : pv.length ≤ 3 ∧ ∀ x ∈ pv, x.length ≤ 16 := ⟨by omega, hpv.2⟩
    obtain ⟨d, bx', ⟨rfl, u, rfl, hu1, hu2⟩, hcm⟩ := call65 l s r [] [e] va pv xt ((IntKind.i64.wrap (q.o.tmod 12 + 12)).tmod 12) ⟨hl, hs, hr, Nat.zero_le _, hex, hva4, hxt3, hpv3⟩
    conv => whnf
    refine ⟨⟨[], [(113, 6), (115, 4), (117, 2)], tagO (.sl 1 1 (List.map .str [e])) u, [], []⟩, ?_⟩
    conv => whnf
    refine ⟨rfl, hcm, ?_⟩
    conv => whnf
    exact ⟨rfl, u, by rw [← hu1]; rfl, hu2⟩
  · conv => whnf
    have hex : ([] : List S8).length ≤ 1 ∧ ∀ x ∈ ([] : List S8), x.length ≤ 16 := ⟨Nat.zero_le 1, fun x hx => by cases hx⟩
    refine ⟨[.keep 13, .nilB 3 4 9 1], ?_⟩
    conv => whnf
    refine loop_at (σ := Nat × List S8) (fun z env => Env.setC1 3 4 (.sl 2 1 (z.2.map .str)) (Env.setT 4 (.int .i64 (z.1 : Int)) env)) (fun z => 4 - z.1) (fun z => z.1 ≤ 4 ∧ z.2.length ≤ z.1 ∧ ∀ x ∈ z.2, x.length ≤ 16) (0, []) ⟨by decide, by decide, by simp⟩ rfl ?_
    rintro ⟨i, va⟩ ⟨hi, hva⟩ ih
    replace hi : i ≤ 4 := hi
    replace hva : va.length ≤ i ∧ ∀ x ∈ va, x.length ≤ 16 := hva
    conv => whnf
    refine ifB_intro (fun h => ?_) (fun h => ?_)
    · obtain ⟨h1, h2⟩ := and_true' h
      replace h1 : (i : Int) < (q.vs.map intD).length := of_decide_eq_true h1
      replace h2 : (i : Int) < 4 := of_decide_eq_true h2
      have hlt : i < q.vs.length := by simpa using h1
      conv => whnf
      refine ⟨rfl, ?_⟩
      conv => whnf
      refine ⟨_, fun _ => call63, ?_⟩
      conv => whnf
      refine sideB_intro (fun _ => decide_eq_true (by simp; omega)) ?_
      conv => whnf
      rw [getD_map (enc := intD) hlt]
      obtain ⟨v, hv, hc⟩ := call51s variantsL q.vs[i] (by decide) (by decide) 16 rfl
      conv => whnf
      refine ⟨_, fun _ => hc, ?_⟩
      conv => whnf
      refine ⟨[.keep 13], ?_⟩
      conv => whnf
      refine loop_at (σ := Nat × Bool) (fun z env => Env.setT 6 (.bool z.2) (Env.setT 7 (.int .i64 (z.1 : Int)) env)) (fun z => va.length - z.1) (fun z => z.1 ≤ va.length) (0, false) (Nat.zero_le _) rfl ?_
      rintro ⟨k, b⟩ hk ihk
      replace hk : k ≤ va.length := hk
      conv => whnf
      refine ifB_intro (fun hkl => ?_) (fun hkl => ?_)
      · replace hkl : (k : Int) < (va.map D.str).length := of_decide_eq_true hkl
        have hk' : k < va.length := by simpa using hkl
        conv => whnf
        refine sideB_intro (fun _ => decide_eq_true (by simp; omega)) ?_
        conv => whnf
        rw [getD_map (enc := D.str) hk']
        conv => whnf
        rw [show IntKind.i64.wrap ((k : Int) + 1) = ((k + 1 : Nat) : Int) by rw [IntKind.wrap_i64]; omega]
        exact ihk (k + 1, _) hk' (by show va.length - k = va.length - (k + 1) + 1; omega)
      · conv => whnf
        refine ifB_intro (fun hb => ?_) (fun hb => ?_)
        · conv => whnf
          refine sideB_intro (fun _ => decide_eq_true (by simp; omega)) ?_
          conv => whnf
          rw [show IntKind.i64.wrap ((i : Int) + 1) = ((i + 1 : Nat) : Int) by rw [IntKind.wrap_i64]; omega]
          rw [show List.map D.str va ++ [D.str v] = List.map D.str (va ++ [v]) by simp]
          exact ih (i + 1, va ++ [v]) ⟨by show i + 1 ≤ 4; omega, snoc_len hva hv⟩ (by show 4 - i = 4 - (i + 1) + 1; omega)
        · conv => whnf
          rw [show IntKind.i64.wrap ((i : Int) + 1) = ((i + 1 : Nat) : Int) by rw [IntKind.wrap_i64]; omega]
          exact ih (i + 1, va) ⟨by show i + 1 ≤ 4; omega, succ_len hva⟩ (by show 4 - i = 4 - (i + 1) + 1; omega)
    clear ih h
    have hva4 : va.length ≤ 4 ∧ ∀ x ∈ va, x.length ≤ 16 := ⟨by omega, hva.2⟩
    clear hva hi
    conv => whnf
    refine ⟨[.keep 13, .nilB 3 5 111 2], ?_⟩
    conv => whnf
    refine loop_at (σ := Nat × List Ex) (fun z env => Env.setC1 3 5 (.sl 2 2 (z.2.map Ex.d)) (Env.setT 8 (.int .i64 (z.1 : Int)) env)) (fun z => 3 - z.1) (fun z => z.1 ≤ 3 ∧ z.2.length ≤ z.1 ∧ ∀ x ∈ z.2, okE x) (0, []) ⟨by decide, by decide, by simp⟩ rfl ?_
    rintro ⟨j, xt⟩ ⟨hj, hxt⟩ ih
    replace hj : j ≤ 3 := hj
    replace hxt : xt.length ≤ j ∧ ∀ x ∈ xt, okE x := hxt
    conv => whnf
    refine ifB_intro (fun h => ?_) (fun h => ?_)
    · obtain ⟨h1, h2⟩ := and_true' h
      replace h1 : (j : Int) < (q.ks.map intD).length := of_decide_eq_true h1
      replace h2 : (j : Int) < 3 := of_decide_eq_true h2
      have hlt : j < q.ks.length := by simpa using h1
      have hjk : j < exkL.length := by show j < 4; omega
      conv => whnf
      refine sideB_intro (fun _ => decide_eq_true (by simp; omega)) ?_
      conv => whnf
      rw [show ([.str [117], .str [116], .str [97], .str [57]] : List D).getD (Int.toNat (j : Int)) .undef = .str exkL[j] from getD_map (enc := D.str) hjk]
      have hkey : (exkL[j]).length ≤ 16 := Nat.le_of_ble_eq_true (List.all_eq_true.1 (show (exkL.all fun s => Nat.ble s.length 16) = true from rfl) _ (List.getElem_mem hjk))
      revert hkey
      generalize exkL[j] = key
      intro hkey
      conv => whnf
      refine sideB_intro (fun _ => decide_eq_true (by simp; omega)) ?_
      conv => whnf
      rw [getD_map (enc := intD) hlt]
      conv => whnf
      generalize hn : (IntKind.i64.wrap ((q.ks[j]).tmod 1000 + 1000)).tmod 1000 = n
      have hn4 : n.tmod 4 < 4 := Int.tmod_lt_of_pos n (by decide)
      refine ⟨[.keep 13, .nilB 9 1 9 1], ?_⟩
      conv => whnf
      refine loop_at (σ := Nat × List S8) (fun z env => Env.setC1 9 1 (.sl 2 1 (z.2.map .str)) (Env.setT 11 (.int .i64 (z.1 : Int)) env)) (fun z => 4 - z.1) (fun z => z.1 ≤ 4 ∧ z.2.length ≤ z.1 ∧ ∀ x ∈ z.2, x.length ≤ 16) (0, []) ⟨by decide, by decide, by simp⟩ rfl ?_
      rintro ⟨k, sb⟩ ⟨hk, hsb⟩ ihk
      replace hk : k ≤ 4 := hk
      replace hsb : sb.length ≤ k ∧ ∀ x ∈ sb, x.length ≤ 16 := hsb
      conv => whnf
      refine ifB_intro (fun hkl => ?_) (fun hkl => ?_)
      · replace hkl : (k : Int) ≤ n.tmod 4 := of_decide_eq_true hkl
        conv => whnf
        refine ⟨rfl, ?_⟩
        conv => whnf
        refine ⟨_, fun _ => call64, ?_⟩
        conv => whnf
        refine ⟨_, fun _ => hpw _, ?_⟩
        conv => whnf
        refine sideB_intro (fun _ => decide_eq_true (by simp; omega)) ?_
        conv => whnf
        rw [show IntKind.i64.wrap ((k : Int) + 1) = ((k + 1 : Nat) : Int) by rw [IntKind.wrap_i64]; omega]
        rw [map_snoc (f := D.str)]
        exact ihk (k + 1, _) ⟨by show k + 1 ≤ 4; omega, snoc_len hsb (hpl _)⟩ (by show 4 - k = 4 - (k + 1) + 1; omega)
      · conv => whnf
        refine sideB_intro (fun _ => decide_eq_true (by simp; omega)) ?_
        conv => whnf
        rw [show IntKind.i64.wrap ((j : Int) + 1) = ((j + 1 : Nat) : Int) by rw [IntKind.wrap_i64]; omega]
        rw [show List.map Ex.d xt ++ [D.agg [D.str key, D.sl 0 1 (List.map D.str sb)]] = List.map Ex.d (xt ++ [⟨key, sb⟩]) by simp [Ex.d]]
        exact ih (j + 1, xt ++ [⟨key, sb⟩]) ⟨by show j + 1 ≤ 3; omega, okE_app hxt (by intro x hx; simp at hx; subst hx; exact ⟨hkey, by show sb.length ≤ 8; omega, hsb.2⟩) (by simp)⟩ (by show 3 - j = 3 - (j + 1) + 1; omega)
    clear ih h
    have hxt3 : xt.length ≤ 3 ∧ ∀ x ∈ xt, okE x := ⟨by omega, hxt.2⟩
    clear hxt hj
    conv => whnf
    refine ⟨[.keep 13, .nilB 3 6 9 1], ?_⟩
    conv => whnf
    refine loop_at (σ := Nat × List S8) (fun z env => Env.setC1 3 6 (.sl 2 1 (z.2.map .str)) (Env.setT 12 (.int .i64 (z.1 : Int)) env)) (fun z => 3 - z.1) (fun z => z.1 ≤ 3 ∧ z.2.length ≤ z.1 ∧ ∀ x ∈ z.2, x.length ≤ 16) (0, []) ⟨by decide, by decide, by simp⟩ rfl ?_
    rintro ⟨k, pv⟩ ⟨hk, hpv⟩ ih
    replace hk : k ≤ 3 := hk
    replace hpv : pv.length ≤ k ∧ ∀ x ∈ pv, x.length ≤ 16 := hpv
    conv => whnf
    refine ifB_intro (fun h => ?_) (fun h => ?_)
    · obtain ⟨h1, h2⟩ := and_true' h
      replace h1 : (k : Int) < (q.ps.map intD).length := of_decide_eq_true h1
      replace h2 : (k : Int) < 3 := of_decide_eq_true h2
      have hlt : k < q.ps.length := by simpa using h1
      conv => whnf
      refine ⟨rfl, ?_⟩
      conv => whnf
      refine sideB_intro (fun _ => decide_eq_true (by simp; omega)) ?_
      conv => whnf
      rw [getD_map (enc := intD) hlt]
      obtain ⟨v, hv, hc⟩ := call51s [[97], [117, 115], [112, 114, 105, 118, 97, 116, 101, 49], [120]] q.ps[k] (by decide) (by decide) 16 rfl
      conv => whnf
      refine ⟨_, fun _ => hc, ?_⟩
      conv => whnf
      refine sideB_intro (fun _ => decide_eq_true (by simp; omega)) ?_
      conv => whnf
      rw [show IntKind.i64.wrap ((k : Int) + 1) = ((k + 1 : Nat) : Int) by rw [IntKind.wrap_i64]; omega]
      rw [map_snoc (f := D.str)]
      exact ih (k + 1, _) ⟨by show k + 1 ≤ 3; omega, snoc_len hpv hv⟩ (by show 3 - k = 3 - (k + 1) + 1; omega)
    clear ih h
    have hpv3 : pv.length ≤ 3 ∧ ∀ x ∈ pv, x.length ≤ 16 := ⟨by omega, hpv.2⟩
    obtain ⟨d, bx', ⟨rfl, u, rfl, hu1, hu2⟩, hcm⟩ := call65 l s r [] ([]) va pv xt ((IntKind.i64.wrap (q.o.tmod 12 + 12)).tmod 12) ⟨hl, hs, hr, Nat.zero_le _, hex, hva4, hxt3, hpv3⟩
    conv => whnf
    refine ⟨⟨[], [(113, 6), (115, 4), (117, 2)], tagO (.sl 1 1 (List.map .str ([]))) u, [], []⟩, ?_⟩
    conv => whnf
    refine ⟨rfl, hcm, ?_⟩
    conv => whnf
    exact ⟨rfl, u, by rw [← hu1]; rfl, hu2⟩
end Go.Proofs.Ytndijidmabfhcaa.Fw

/- Reading arguments: seeds of tags and of images. -/
namespace Go.Proofs.Ytndijidmabfhcaa.Fw
open Go Go.RowKit Go.WideShapes Go.ChangeShapes
theorem all2_cons {α β : Type} {R : α → β → Prop} {a : α} {l : List α} {ys : List β} (h : All2 R (a :: l) ys) : ∃ y ys', ys = y :: ys' ∧ R a y ∧ All2 R l ys' := by
  cases ys with
  | nil => exact h.elim
  | cons y ys => exact ⟨y, ys, rfl, h.1, h.2⟩
theorem all2_nil {α β : Type} {R : α → β → Prop} {ys : List β} (h : All2 R ([] : List α) ys) : ys = [] := by
  cases ys with
  | nil => rfl
  | cons y ys => exact h.elim
theorem shp_bool {t : Nat} {d : D} (ht : (T t).map (fun e => e.kind) = some .bool) (h : ShpV T t d) : ∃ b, d = .bool b := by
  obtain ⟨cs, rfl, h⟩ := h
  cases he : T t with
  | none => rw [he] at ht; cases ht
  | some e =>
    rw [he] at ht
    simp only [Option.map_some, Option.some.injEq] at ht
    simp only [Shp, he, ht] at h
    obtain ⟨m, rfl⟩ := h
    exact ⟨m, by simp [wholeT, he, TE.isAgg, ht]⟩
theorem shp_i {n : Nat} {ds : List D} (h : Shp T (n + 1) 3 ds) : ∃ m, ds = [.int .i64 m] := by
  obtain ⟨m, rfl, _⟩ := h
  exact ⟨m, rfl⟩
theorem shp_is {n : Nat} {ds : List D} (h : Shp T (n + 2) 57 ds) : ∃ l : List Int, ds = [.sl 0 1 (l.map intD)] := by
  obtain ⟨xs, rfl, _, hx⟩ := h
  have : ∀ xs : List (List D), (∀ x ∈ xs, Shp T (n + 1) 3 x) → ∃ l : List Int, xs.map (wholeT T 3) = l.map intD := by
    intro xs
    induction xs with
    | nil => exact fun _ => ⟨[], rfl⟩
    | cons x xs ih =>
      intro h
      obtain ⟨l, hl⟩ := ih fun y hy => h y (by simp [hy])
      obtain ⟨m, rfl⟩ := shp_i (h x (by simp))
      exact ⟨m :: l, by rw [List.map_cons, hl]; rfl⟩
  obtain ⟨l, hl⟩ := this xs hx
  exact ⟨l, by rw [hl]; rfl⟩
theorem shp_sd06 {d : D} (h : ShpV T 66 d) : ∃ q : Sd06, d = q.d := by
  obtain ⟨cs, rfl, dss, rfl, h⟩ := h
  obtain ⟨_, _, rfl, h1, h⟩ := all2_cons h
  obtain ⟨_, _, rfl, h2, h⟩ := all2_cons h
  obtain ⟨_, _, rfl, h3, h⟩ := all2_cons h
  obtain ⟨_, _, rfl, h4, h⟩ := all2_cons h
  obtain ⟨_, _, rfl, h5, h⟩ := all2_cons h
  obtain ⟨_, _, rfl, h6, h⟩ := all2_cons h
  obtain ⟨_, _, rfl, h7, h⟩ := all2_cons h
  obtain ⟨_, _, rfl, h8, h⟩ := all2_cons h
  obtain rfl := all2_nil h
  obtain ⟨a, rfl⟩ := shp_i h1
  obtain ⟨b, rfl⟩ := shp_i h2
  obtain ⟨c, rfl⟩ := shp_i h3
  obtain ⟨e, rfl⟩ := shp_i h4
  obtain ⟨f, rfl⟩ := shp_is h5
  obtain ⟨g, rfl⟩ := shp_is h6
  obtain ⟨i, rfl⟩ := shp_is h7
  obtain ⟨j, rfl⟩ := shp_i h8
  exact ⟨⟨a, b, c, e, f, g, i, j⟩, rfl⟩
end Go.Proofs.Ytndijidmabfhcaa.Fw

/- The reference's layer 18, and likely's Find and Full. -/
namespace Go.Proofs.Ytndijidmabfhcaa.Fw
open Go Go.RowKit
set_option maxRecDepth 100000
set_option maxHeartbeats 4000000
theorem rep_nil {I : Im} {w : World} {es es' : Nat} {v : Value} (h : Rep I w (.sl 0 es []) v) : Rep I w (.sl 0 es' []) v := by
  obtain ⟨h1, h2⟩ := h
  refine ⟨rfl, h2.imp id ?_⟩
  rintro ⟨a, cap, e1, e2, _⟩
  exact ⟨a, cap, e1, e2, by simp only [RepRow]⟩
theorem isE {l : S8} (h : l ≠ []) : List.isEmpty l = false := by cases l with | nil => exact absurd rfl h | cons _ _ => rfl
theorem lad_nil (s r : S8) : ladL [] s r = [] := rfl
section
variable {l s r : S8} (hl : l ≠ [])
include hl
theorem lad00 : ladL l [] [] = [⟨l, [], []⟩] := by
  by_cases hu : l = [117, 110, 100]
  · subst hu; decide
  · have hu' : ¬ [117, 110, 100] = l := fun e => hu e.symm
    have hb : ([117, 110, 100] != l) = true := bne_iff_ne.2 hu'
    have hb' : (l != [117, 110, 100]) = true := bne_iff_ne.2 hu
    have he : List.isEmpty l = false := by cases l with | nil => exact absurd rfl hl | cons _ _ => rfl
    simp [ladL, ladGo, rows5, insS, hl, he, hb, hb', hu, hu']
theorem lad0r (hr : r ≠ []) : ladL l [] r = [⟨l, [], r⟩, ⟨l, [], []⟩] := by
  have hr' : ¬ [] = r := fun e => hr e.symm
  by_cases hu : l = [117, 110, 100]
  · subst hu; simp [ladL, ladGo, rows5, insS, hr, hr']
  · have hu' : ¬ [117, 110, 100] = l := fun e => hu e.symm
    have hb : ([117, 110, 100] != l) = true := bne_iff_ne.2 hu'
    have hb' : (l != [117, 110, 100]) = true := bne_iff_ne.2 hu
    have he : List.isEmpty l = false := by cases l with | nil => exact absurd rfl hl | cons _ _ => rfl
    simp [ladL, ladGo, rows5, insS, hl, he, hb, hb', hu, hu', hr, hr']
theorem lads0 (hs : s ≠ []) : ladL l s [] = [⟨l, s, []⟩, ⟨l, [], []⟩] ++ (bif l != [117, 110, 100] then [⟨[117, 110, 100], s, []⟩] else []) := by
  have hs' : ¬ [] = s := fun e => hs e.symm
  by_cases hu : l = [117, 110, 100]
  · subst hu; simp [ladL, ladGo, rows5, insS, hs, hs']
  · have hu' : ¬ [117, 110, 100] = l := fun e => hu e.symm
    have hb : ([117, 110, 100] != l) = true := bne_iff_ne.2 hu'
    have hb' : (l != [117, 110, 100]) = true := bne_iff_ne.2 hu
    have he : List.isEmpty l = false := by cases l with | nil => exact absurd rfl hl | cons _ _ => rfl
    simp [ladL, ladGo, rows5, insS, hl, he, hb, hb', hu, hu', isE hs, hs, hs']
theorem ladsr (hs : s ≠ []) (hr : r ≠ []) : ladL l s r = [⟨l, s, r⟩, ⟨l, [], r⟩, ⟨l, s, []⟩, ⟨l, [], []⟩] ++ (bif l != [117, 110, 100] then [⟨[117, 110, 100], s, []⟩] else []) := by
  have hs' : ¬ [] = s := fun e => hs e.symm
  have hr' : ¬ [] = r := fun e => hr e.symm
  by_cases hu : l = [117, 110, 100]
  · subst hu; simp [ladL, ladGo, rows5, insS, hs, hs', hr, hr']
  · have hu' : ¬ [117, 110, 100] = l := fun e => hu e.symm
    have hb : ([117, 110, 100] != l) = true := bne_iff_ne.2 hu'
    have hb' : (l != [117, 110, 100]) = true := bne_iff_ne.2 hu
    have he : List.isEmpty l = false := by cases l with | nil => exact absurd rfl hl | cons _ _ => rfl
    simp [ladL, ladGo, rows5, insS, hl, he, hb, hb', hu, hu', isE hs, hs, hs', hr, hr']
end
theorem run66z (t : Tg) (h : t.l = []) : Runs Try.prog T 68 (Try.f66.body.getD .skip) Try.f66.results.toList [t.d] (.sl 0 0 []) := by
  refine ⟨Nat.le_of_ble_eq_true rfl, ?_⟩
  conv => whnf
  refine ifB_intro (fun hb => ?_) (fun hb => ?_)
  · conv => whnf
    exact ⟨rfl, rfl⟩
  · rw [h] at hb; cases hb
theorem run66n (t : Tg) (h : t.l ≠ []) : Runs Try.prog T 68 (Try.f66.body.getD .skip) Try.f66.results.toList [t.d] (.sl 0 3 ((ladL t.l t.s t.r).map R3.d)) := by
  refine ⟨Nat.le_of_ble_eq_true rfl, ?_⟩
  conv => whnf
  have hl : ∀ x : Bool, (t.l == []) = x → x = false := fun x hx => by rw [← hx]; simpa using h
  refine ifB_intro (fun hb => ?_) (fun hb => ?_)
  · exact absurd (hl _ hb) (by decide)
  obtain ⟨l, ex, s, r, va, xt, pv, g⟩ := t
  simp only at h hl hb
  conv => whnf
  have fin : ∀ (x : D) (L M : List R3) (b : Bool), ladL l s r = L ++ (bif b then M else []) → (∀ c, b = c → x = .sl 0 3 ((L ++ (bif c then M else [])).map R3.d)) → x = .sl 0 3 ((ladL l s r).map R3.d) := fun x L M b e1 e2 => by rw [e1]; exact e2 b rfl
  cases s with
  | nil =>
    cases r with
    | nil => 
      conv => whnf
      refine ⟨rfl, Eq.trans rfl (congrArg (fun L : List R3 => D.sl 0 3 (L.map R3.d)) (lad00 h).symm)⟩
    | cons r0 r =>
      conv => whnf
      refine ⟨rfl, Eq.trans rfl (congrArg (fun L : List R3 => D.sl 0 3 (L.map R3.d)) (lad0r h (by simp)).symm)⟩
  | cons s0 s =>
    cases r with
    | nil =>
      have e := lads0 (s := s0 :: s) h (by simp)
      conv => whnf
      refine ifB_intro (fun hu => ?_) (fun hu => ?_)
      · replace hu : (l != [117, 110, 100]) = true := hu
        rw [hu] at e
        conv => whnf
        refine ⟨rfl, Eq.trans rfl (congrArg (fun L : List R3 => D.sl 0 3 (L.map R3.d)) e.symm)⟩
      · replace hu : (l != [117, 110, 100]) = false := hu
        rw [hu] at e
        conv => whnf
        refine ⟨rfl, Eq.trans rfl (congrArg (fun L : List R3 => D.sl 0 3 (L.map R3.d)) e.symm)⟩
    | cons r0 r =>
      have e := ladsr (s := s0 :: s) (r := r0 :: r) h (by simp) (by simp)
      conv => whnf
      refine ifB_intro (fun hu => ?_) (fun hu => ?_)
      · replace hu : (l != [117, 110, 100]) = true := hu
        rw [hu] at e
        conv => whnf
        refine ⟨rfl, Eq.trans rfl (congrArg (fun L : List R3 => D.sl 0 3 (L.map R3.d)) e.symm)⟩
      · replace hu : (l != [117, 110, 100]) = false := hu
        rw [hu] at e
        conv => whnf
        refine ⟨rfl, Eq.trans rfl (congrArg (fun L : List R3 => D.sl 0 3 (L.map R3.d)) e.symm)⟩
theorem call66 (t : Tg) : CallsTo Try.prog 66 [t.d] (.sl 0 3 ((ladL t.l t.s t.r).map R3.d)) := by
  by_cases h : t.l = []
  · have := calls Try.func66 rfl (by decide) (run66z t h)
    rw [h, lad_nil]
    exact callsTo_res this fun _ _ _ => rep_nil
  · exact calls Try.func66 rfl (by decide) (run66n t h)
/-- The place of the first row of a key. -/
def idxL (k : R3) : List Lk → Nat → Int
  | [], _ => -1
  | x :: xs, i => bif isLk k.a k.b k.c x then (i : Int) else idxL k xs (i + 1)
def findL (k : R3) (ls : List Lk) : Option Lk := ls.find? (isLk k.a k.b k.c)
theorem idx_spec (k : R3) : ∀ (ls : List Lk) (i : Nat), (findL k ls = none ∧ idxL k ls i = -1) ∨ ∃ j, ∃ h : j < ls.length, idxL k ls i = ((i + j : Nat) : Int) ∧ findL k ls = some ls[j]
  | [], i => .inl ⟨rfl, rfl⟩
  | x :: xs, i => by
    simp only [idxL, findL, List.find?_cons]
    cases hx : isLk k.a k.b k.c x with
    | true => exact .inr ⟨0, by simp, rfl, rfl⟩
    | false =>
      rcases idx_spec k xs (i + 1) with ⟨h1, h2⟩ | ⟨j, h, h1, h2⟩
      · exact .inl ⟨h1, h2⟩
      · exact .inr ⟨j + 1, by simpa using h, by rw [cond_false, h1]; congr 1; omega, h2⟩
theorem run67 (xs : List Al) (ls : List Lk) (rs ms : List D) (th dm : Int) (hx : ls.length ≤ 1000000) (k : R3) : Runs Try.prog T 40 (Try.f67.body.getD .skip) Try.f67.results.toList [imgD xs ls rs ms th dm, .str k.a, .str k.b, .str k.c] (.int .i64 (idxL k ls 0)) := by
  refine ⟨Nat.le_of_ble_eq_true rfl, ?_⟩
  conv => whnf
  refine ⟨[.keep 11], ?_⟩
  conv => whnf
  refine loop_at (σ := Nat) (fun i => Env.setT 9 (.int .i64 (i : Int))) (fun i => ls.length - i) (fun i => i ≤ ls.length ∧ idxL k ls 0 = idxL k (ls.drop i) i) 0 ⟨Nat.zero_le _, rfl⟩ rfl ?_
  rintro i ⟨hi, hd⟩ ih
  conv => whnf
  refine ifB_intro (fun h => ?_) (fun h => ?_)
  · replace h : (i : Int) < (ls.map Lk.d).length := of_decide_eq_true h
    have hlt : i < ls.length := by simpa using h
    have hdrop : ls.drop i = ls[i] :: ls.drop (i + 1) := List.drop_eq_getElem_cons hlt
    rw [hdrop] at hd
    have ih' := ih (i + 1)
    conv => whnf
    refine sideB_intro (fun _ => decide_eq_true (by simp; omega)) ?_
    conv => whnf
    rw [getD_map (enc := Lk.d) hlt]
    conv => whnf
    refine ifB_intro (fun hb => ?_) (fun hb => ?_)
    · replace hb : isLk k.a k.b k.c ls[i] = true := hb
      conv => whnf
      refine ⟨rfl, ?_⟩
      rw [hd, idxL, hb]; rfl
    · replace hb : isLk k.a k.b k.c ls[i] = false := hb
      conv => whnf
      rw [show IntKind.i64.wrap ((i : Int) + 1) = ((i + 1 : Nat) : Int) by rw [IntKind.wrap_i64]; omega]
      exact ih' ⟨hlt, by rw [hd, idxL, hb]; rfl⟩ (by omega)
  · replace h : decide ((i : Int) < (ls.map Lk.d).length) = false := h
    have he : i = ls.length := by simp at h; omega
    conv => whnf
    refine ⟨rfl, ?_⟩
    rw [hd, he, List.drop_length]; rfl
theorem call67 (xs : List Al) (ls : List Lk) (rs ms : List D) (th dm : Int) (hx : ls.length ≤ 1000000) (k : R3) : CallsTo Try.prog 67 [imgD xs ls rs ms th dm, .str k.a, .str k.b, .str k.c] (.int .i64 (idxL k ls 0)) := calls Try.func67 rfl (by decide) (run67 xs ls rs ms th dm hx k)
/-- The first row that there is. -/
def rowL (ls : List Lk) : List R3 → Option Lk
  | [] => none
  | k :: ks => match findL k ls with
    | some y => some y
    | none => rowL ls ks
theorem isLk_key {k : R3} {x : Lk} : isLk k.a k.b k.c x = decide (k = x.key) := by
  obtain ⟨a, b, c⟩ := k
  obtain ⟨l, s, r, tl, ts, tr⟩ := x
  simp only [isLk, Lk.key, R3.mk.injEq]
  rw [beq_dec l a, beq_dec s b, beq_dec r c]
  by_cases h1 : l = a
  · by_cases h2 : s = b
    · by_cases h3 : r = c
      · simp [h1, h2, h3]
      · have : ¬ c = r := fun e => h3 e.symm
        simp [h1, h2, h3, this]
    · have : ¬ b = s := fun e => h2 e.symm
      simp [h1, h2, this]
  · have : ¬ a = l := fun e => h1 e.symm
    simp [h1, this]
theorem assoc_rows {k : R3} : ∀ (ls : List Lk) (L : List (R3 × Lk)), assoc k (ls.foldl rowOf L) = match assoc k L with
    | some x => some x
    | none => findL k ls
  | [], L => by
    simp only [List.foldl_nil, findL, List.find?_nil]
    cases assoc k L <;> rfl
  | x :: ls, L => by
    rw [List.foldl_cons, assoc_rows ls (rowOf L x)]
    simp only [rowOf, findL, List.find?_cons, isLk_key]
    cases hx : assoc x.key L with
    | some y =>
      simp only [Option.isSome_some, cond_true]
      cases hk : assoc k L with
      | some z => rfl
      | none =>
        have : ¬ k = x.key := fun e => by subst e; rw [hx] at hk; cases hk
        simp [this]
    | none =>
      simp only [Option.isSome_none, cond_false, assoc_putA]
      by_cases e : k = x.key
      · subst e; rw [hx]; simp
      · simp only [if_neg e, decide_eq_false e]
theorem maxRow_eq (ls : List Lk) : ∀ rows, maxRow (rowsM ls) rows = rowL ls rows
  | [] => rfl
  | k :: ks => by
    have h : assoc k (rowsM ls) = findL k ls := assoc_rows ls []
    simp only [maxRow, rowL, h, maxRow_eq ls ks]
    cases findL k ls <;> rfl
def gotD (u : Tg) (ok : Bool) : D := .agg [.str u.l, .sl 0 1 u.ex, .str u.s, .str u.r, .sl 0 1 u.va, .sl 0 2 u.xt, .sl 0 1 u.pv, .str u.g, .bool ok]
theorem ladGo_len {lang : S8} : ∀ {xs there : List R3}, (ladGo lang there xs).length ≤ xs.length
  | [], there => by simp [ladGo]
  | y :: ys, there => by
    rw [ladGo]
    cases (bif there.contains y then true else bif y.a != lang then y.b == [] else false) with
    | true => exact Nat.le_succ_of_le ladGo_len
    | false => simp only [cond_false, List.length_cons]; exact Nat.succ_le_succ ladGo_len
theorem maxOf_eq (ls : List Lk) (t : Tg) : maxOf ls t = match rowL ls (ladL t.l t.s t.r) with
    | some x => (fill t x, true)
    | none => (t, false) := by
  unfold maxOf maxiT
  rw [maxRow_eq]
  all_goals (cases rowL ls (ladL t.l t.s t.r) <;> rfl)
theorem run38 (xs : List Al) (ls : List Lk) (rs ms : List D) (th dm : Int) (hx : ls.length ≤ 1000000) (t : Tg) : Runs Try.prog T 63 (Try.f38.body.getD .skip) Try.f38.results.toList [imgD xs ls rs ms th dm, t.d] (gotD (maxOf ls t).1 (maxOf ls t).2) := by
  refine ⟨Nat.le_of_ble_eq_true rfl, ?_⟩
  conv => whnf
  rw [maxOf_eq]
  refine ⟨_, fun _ => call66 t, ?_⟩
  conv => whnf
  have hlen : (ladL t.l t.s t.r).length ≤ 5 := by
    unfold ladL
    cases t.l == [] with
    | true => exact Nat.zero_le _
    | false => exact Nat.le_trans ladGo_len (Nat.le_refl _)
  generalize hrows : ladL t.l t.s t.r = rows at hlen
  refine ⟨[.keep 9], ?_⟩
  conv => whnf
  refine loop_at (σ := Nat) (fun i => Env.setT 6 (.int .i64 (i : Int))) (fun i => rows.length - i) (fun i => i ≤ rows.length ∧ rowL ls rows = rowL ls (rows.drop i)) 0 ⟨Nat.zero_le _, rfl⟩ rfl ?_
  rintro i ⟨hi, hd⟩ ih
  conv => whnf
  refine ifB_intro (fun h => ?_) (fun h => ?_)
  · replace h : (i : Int) < (rows.map R3.d).length := of_decide_eq_true h
    have hlt : i < rows.length := by simpa using h
    have hdrop : rows.drop i = rows[i] :: rows.drop (i + 1) := List.drop_eq_getElem_cons hlt
    rw [hdrop] at hd
    have ih' := ih (i + 1)
    revert hd
    have hget : (List.map R3.d rows).getD (Int.toNat (i : Int)) .undef = R3.d rows[i] := getD_map (enc := R3.d) hlt
    revert hget
    generalize rows[i] = k
    intro hget hd
    conv => whnf
    refine ⟨rfl, ?_⟩
    conv => whnf
    refine sideB_intro (fun _ => decide_eq_true (by simp; omega)) ?_
    conv => whnf
    rw [hget]
    conv => whnf
    refine sideB_intro (fun _ => decide_eq_true (by simp; omega)) ?_
    conv => whnf
    rw [hget]
    conv => whnf
    refine sideB_intro (fun _ => decide_eq_true (by simp; omega)) ?_
    conv => whnf
    rw [hget]
    conv => whnf
    refine ⟨_, fun _ => call67 xs ls rs ms th dm hx k, ?_⟩
    conv => whnf
    rcases idx_spec k ls 0 with ⟨h1, h2⟩ | ⟨j, hj, h1, h2⟩
    · rw [h2]
      conv => whnf
      rw [show IntKind.i64.wrap ((i : Int) + 1) = ((i + 1 : Nat) : Int) by rw [IntKind.wrap_i64]; omega]
      exact ih' ⟨hlt, by rw [hd, rowL, h1]⟩ (by omega)
    · rw [h1, Nat.zero_add]
      have hr : rowL ls rows = some ls[j] := by rw [hd, rowL, h2]
      rw [hr]
      conv => whnf
      refine sideB_intro (fun _ => decide_eq_true (by simp; omega)) ?_
      conv => whnf
      rw [getD_map (enc := Lk.d) hj]
      clear hr h1 h2 hd ih' ih hget
      generalize ls[j] = x
      have fin : ∀ a b c : Bool, (t.l == [117, 110, 100]) = a → (t.s == []) = b → (t.r == []) = c → gotD (fill t x) true = gotD ⟨bif a then x.tl else t.l, t.ex, bif b then x.ts else t.s, bif c then x.tr else t.r, t.va, t.xt, t.pv, t.g⟩ true := by
        intro a b c ha hb hc; rw [← ha, ← hb, ← hc]; rfl
      conv => whnf
      refine ifB_intro (fun ha => ?_) (fun ha => ?_)
      all_goals
        conv => whnf
        refine ifB_intro (fun hb => ?_) (fun hb => ?_)
        all_goals
          conv => whnf
          refine ifB_intro (fun hc => ?_) (fun hc => ?_)
          all_goals
            conv => whnf
            refine ⟨rfl, Eq.trans rfl (fin _ _ _ ha hb hc).symm⟩
  · replace h : decide ((i : Int) < (rows.map R3.d).length) = false := h
    have he : i = rows.length := by simp at h; omega
    have hr : rowL ls rows = none := by rw [hd, he, List.drop_length]; rfl
    rw [hr]
    conv => whnf
    exact ⟨rfl, rfl⟩
theorem call38 (xs : List Al) (ls : List Lk) (rs ms : List D) (th dm : Int) (hx : ls.length ≤ 1000000) (t : Tg) : CallsTo Try.prog 38 [imgD xs ls rs ms th dm, t.d] (gotD (maxOf ls t).1 (maxOf ls t).2) := calls Try.func38 rfl (by decide) (run38 xs ls rs ms th dm hx t)
def fullB (t : Tg) : Bool := bif bif bif t.l != [] then t.l != [117, 110, 100] else false then t.s != [] else false then t.r != [] else false
theorem run68 (t : Tg) : Runs Try.prog T 21 (Try.f68.body.getD .skip) Try.f68.results.toList [t.d] (.bool (fullB t)) := by
  refine ⟨Nat.le_of_ble_eq_true rfl, ?_⟩
  conv => whnf
  exact ⟨rfl, rfl⟩
theorem call68 (t : Tg) : CallsTo Try.prog 68 [t.d] (.bool (fullB t)) := calls Try.func68 rfl (by decide) (run68 t)
def fndD (o : Option Lk) : D := .tup [((o.map Lk.d).getD (Lk.d ⟨[], [], [], [], [], []⟩)), .bool o.isSome]
theorem run59 (xs : List Al) (ls : List Lk) (rs ms : List D) (th dm : Int) (hx : ls.length ≤ 1000000) (k : R3) : Runs Try.prog T 24 (Try.f59.body.getD .skip) Try.f59.results.toList [imgD xs ls rs ms th dm, .str k.a, .str k.b, .str k.c] (fndD (findL k ls)) := by
  refine ⟨Nat.le_of_ble_eq_true rfl, ?_⟩
  conv => whnf
  have fits : keysFit T 22 k.d ((rowsM ls).map fun p => p.1.d) = true := by
    have := keysFit_enc r3Enc k ((rowsM ls).map (·.1))
    rwa [List.map_map] at this
  have look : findD k.d ((rowsM ls).map fun p => p.1.d) ((rowsM ls).map fun p => p.2.d) = (findL k ls).map Lk.d := by
    rw [findD_map r3Enc Lk.d k, show assoc k (rowsM ls) = findL k ls from assoc_rows ls []]
  refine ⟨_, fun _ => call77 xs ls rs ms th dm hx, ?_⟩
  conv => whnf
  refine sideB_intro (fun _ => fits) ?_
  conv => whnf
  cases hf : findL k ls with
  | none =>
    rw [hf] at look
    refine fO_of look ?_
    conv => whnf
    exact ⟨rfl, rfl⟩
  | some x =>
    rw [hf] at look
    refine fO_of look ?_
    conv => whnf
    exact ⟨rfl, rfl⟩
theorem call59 (xs : List Al) (ls : List Lk) (rs ms : List D) (th dm : Int) (hx : ls.length ≤ 1000000) (k : R3) : CallsTo Try.prog 59 [imgD xs ls rs ms th dm, .str k.a, .str k.b, .str k.c] (fndD (findL k ls)) := calls Try.func59 rfl (by decide) (run59 xs ls rs ms th dm hx k)
end Go.Proofs.Ytndijidmabfhcaa.Fw

/- MinimalStops: its walk. -/
namespace Go.Proofs.Ytndijidmabfhcaa.Fw
open Go Go.RowKit
set_option maxRecDepth 100000
set_option maxHeartbeats 4000000
theorem run31 (xs : List Al) (ls : List Lk) (rs ms : List D) (ta tb : Tg) (ha : ta.s = [] ∧ ta.r = [116, 119]) (hb : tb.s = [104, 97, 110, 116] ∧ tb.r = []) (h20 : CallsTo Try.prog 20 [] (imgD xs ls rs ms 40 5)) (h1 : CallsTo Try.prog 69 [imgD xs ls rs ms 40 5, (tagT [122, 104] [104, 97, 110, 116] [116, 119] []).d, .bool false] (.tup [ta.d, .bool true])) (h2 : CallsTo Try.prog 69 [imgD xs ls rs ms 40 5, (tagT [122, 104] [104, 97, 110, 116] [116, 119] []).d, .bool true] (.tup [tb.d, .bool true])) : Runs Try.prog T 45 (Try.f31.body.getD .skip) Try.f31.results.toList [] (.bool true) := by
  refine ⟨Nat.le_of_ble_eq_true rfl, ?_⟩
  conv => whnf
  refine ⟨_, fun _ => h20, ?_⟩
  conv => whnf
  refine ⟨_, fun _ => h1, ?_⟩
  conv => whnf
  refine ⟨_, fun _ => h2, ?_⟩
  conv => whnf
  refine ⟨rfl, Eq.trans rfl (congrArg D.bool (show (bif bif bif bif bif true then ta.s == [] else false then ta.r == [116, 119] else false then true else false then tb.s == [104, 97, 110, 116] else false then tb.r == [] else false) = true from by rw [ha.1, ha.2, hb.1, hb.2]; rfl))⟩
theorem min1 : minOf likelyL (tagT [122, 104] [104, 97, 110, 116] [116, 119] []) false = (tagT [122, 104] [] [116, 119] [], true) := by kernel_rfl
theorem min2 : minOf likelyL (tagT [122, 104] [104, 97, 110, 116] [116, 119] []) true = (tagT [122, 104] [104, 97, 110, 116] [] [], true) := by kernel_rfl
theorem call31 : CallsTo Try.prog 31 [] (.bool true) := by
  have c := fun b => call69 aliasesL likelyL (rulesL.map Ru.d) (membersL.map Me.d) 40 5 (by decide) (tagT [122, 104] [104, 97, 110, 116] [116, 119] []) b
  have c1 := c false
  have c2 := c true
  rw [min1] at c1
  rw [min2] at c2
  exact calls Try.func31 rfl (by decide) (run31 aliasesL likelyL _ _ _ _ ⟨rfl, rfl⟩ ⟨rfl, rfl⟩ call20 c1 c2)
def imgZ : D := imgD [] [] [] [] 0 0
theorem max_none (t : Tg) : maxOf [] t = (t, false) := by
  rw [maxOf_eq]
  have : ∀ rows, rowL [] rows = none := fun rows => by
    induction rows with
    | nil => rfl
    | cons k ks ih => simp [rowL, findL, ih]
  rw [this]
theorem call37 (u : STag) (h : u.small) : CallsTo Try.prog 37 [u.t.d, u.t.d] (.bool true) := calls Try.func37 rfl (by decide) (run37 u.l u.s u.r u.g u.ex u.va u.pv u.xt h.1 h.2.1 h.2.2.1 h.2.2.2.1 h.2.2.2.2)
theorem trials4 (t : Tg) (script : Bool) : ∃ a b c, trialsL t script = [a, b, c, t] := by cases script <;> exact ⟨_, _, _, rfl⟩
theorem run11 (q : Sd06) (script : Bool) (many : Int) (u : STag) (hu : u.small) (k : Nat) (hk : k < 6) (h29 : CallsTo Try.prog 29 [q.d] u.t.d) (h36 : CallsTo Try.prog 36 [.int .i64 many, .int .i64 6] (.int .i64 (k : Int))) : Runs Try.prog T 63 (Try.f11.body.getD .skip) Try.f11.results.toList [q.d, .bool script, .int .i64 many] (.bool true) := by
  refine ⟨Nat.le_of_ble_eq_true rfl, ?_⟩
  conv => whnf
  obtain ⟨a, b, c, habc⟩ := trials4 u.t script
  have hit := iter74 u.t script
  rw [habc] at hit
  have c37 := call37 u hu
  have cmax := call38 [] [] [] [] 0 0 (Nat.zero_le _) u.t
  rw [max_none] at cmax
  refine ⟨_, fun _ => call31, ?_⟩
  conv => whnf
  refine ⟨_, fun _ => h29, ?_⟩
  conv => whnf
  refine ⟨_, fun _ => call35 u.t script, ?_⟩
  conv => whnf
  refine ⟨[], ?_⟩
  conv => whnf
  refine ⟨_, hit, ?_⟩
  have hk' : k = 0 ∨ k = 1 ∨ k = 2 ∨ k = 3 ∨ k = 4 ∨ k = 5 := by omega
  rcases hk' with rfl | rfl | rfl | rfl | rfl | rfl
  · conv => whnf
    refine ⟨_, fun _ => h36, ?_⟩
    conv => whnf
    refine ⟨[], ?_⟩
    conv => whnf
    refine ⟨_, hit, ?_⟩
    conv => whnf
    refine ⟨_, fun _ => c37, ?_⟩
    conv => whnf
    refine ⟨_, fun _ => cmax, ?_⟩
    conv => whnf
    exact ⟨rfl, rfl⟩
  · conv => whnf
    refine ⟨_, fun _ => h36, ?_⟩
    conv => whnf
    refine ⟨[], ?_⟩
    conv => whnf
    refine ⟨_, hit, ?_⟩
    conv => whnf
    refine ⟨_, fun _ => c37, ?_⟩
    conv => whnf
    refine ⟨_, fun _ => cmax, ?_⟩
    conv => whnf
    exact ⟨rfl, rfl⟩
  · conv => whnf
    refine ⟨_, fun _ => h36, ?_⟩
    conv => whnf
    refine ⟨[], ?_⟩
    conv => whnf
    refine ⟨_, hit, ?_⟩
    conv => whnf
    refine ⟨_, fun _ => c37, ?_⟩
    conv => whnf
    refine ⟨_, fun _ => cmax, ?_⟩
    conv => whnf
    exact ⟨rfl, rfl⟩
  · conv => whnf
    refine ⟨_, fun _ => h36, ?_⟩
    conv => whnf
    refine ⟨[], ?_⟩
    conv => whnf
    refine ⟨_, hit, ?_⟩
    conv => whnf
    refine ⟨_, fun _ => c37, ?_⟩
    conv => whnf
    refine ⟨_, fun _ => cmax, ?_⟩
    conv => whnf
    exact ⟨rfl, rfl⟩
  · conv => whnf
    refine ⟨_, fun _ => h36, ?_⟩
    conv => whnf
    refine ⟨[], ?_⟩
    conv => whnf
    refine ⟨_, hit, ?_⟩
    conv => whnf
    refine ⟨_, fun _ => c37, ?_⟩
    conv => whnf
    refine ⟨_, fun _ => cmax, ?_⟩
    conv => whnf
    exact ⟨rfl, rfl⟩
  · conv => whnf
    refine ⟨_, fun _ => h36, ?_⟩
    conv => whnf
    refine ⟨[], ?_⟩
    conv => whnf
    refine ⟨_, hit, ?_⟩
    conv => whnf
    refine ⟨_, fun _ => c37, ?_⟩
    conv => whnf
    refine ⟨_, fun _ => cmax, ?_⟩
    conv => whnf
    exact ⟨rfl, rfl⟩
theorem call11 (q : Sd06) (script : Bool) (many : Int) (u : STag) (hu : u.small) (k : Nat) (hk : k < 6) (h29 : CallsTo Try.prog 29 [q.d] u.t.d) (h36 : CallsTo Try.prog 36 [.int .i64 many, .int .i64 6] (.int .i64 (k : Int))) : CallsTo Try.prog 11 [q.d, .bool script, .int .i64 many] (.bool true) := calls Try.func11 rfl (by decide) (run11 q script many u hu k hk h29 h36)
theorem call29 (q : Sd06) : ∃ d, (fun d => ∃ u : STag, d = u.t.d ∧ u.okN 1 6 5 4) d ∧ CallsTo Try.prog 29 [q.d] d := by
  obtain ⟨d, h, k⟩ := runsQ_one (run29 q)
  exact ⟨d, h, calls Try.func29 rfl (by decide) k⟩
theorem made06 (q : Sd06) : ∃ u : STag, u.okN 1 6 5 4 ∧ CallsTo Try.prog 29 [q.d] u.t.d := by
  obtain ⟨d, ⟨u, rfl, h⟩, hc⟩ := call29 q
  exact ⟨u, h, hc⟩
theorem STag.okN.small {u : STag} {a b c d : Nat} (h : u.okN a b c d) (ha : a ≤ 1000000) (hb : b ≤ 1000000) (hc : c ≤ 1000000) (hd : d ≤ 1000000) : u.small :=
  ⟨Nat.le_trans h.ex.1 ha, Nat.le_trans h.va.1 hb, Nat.le_trans h.xt.1 hc, Nat.le_trans h.pv.1 hd, fun e he => Nat.le_trans (h.xt.2 e he).2.1 (by decide)⟩
theorem stops (q : Sd06) (script : Bool) (many : Int) : CallsTo Try.prog 11 [q.d, .bool script, .int .i64 many] (.bool true) := by
  obtain ⟨u, hu, h29⟩ := made06 q
  obtain ⟨k, hk, e⟩ := rest_nat' many 6 (by decide) (by decide)
  have h36 := call36 many 6 (by decide)
  have e' : (IntKind.i64.wrap (many.tmod 6 + 6)).tmod 6 = (k : Int) := e
  rw [e'] at h36
  exact call11 q script many u (hu.small (by decide) (by decide) (by decide) (by decide)) k hk h29 h36
end Go.Proofs.Ytndijidmabfhcaa.Fw
