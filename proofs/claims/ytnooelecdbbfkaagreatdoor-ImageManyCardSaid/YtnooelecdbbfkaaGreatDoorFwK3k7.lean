/- Texts IO, FA, FB, FC, MN, RF of the proof, in one. -/
import Derived.LaidEql
import Derived.Stop.Asserts
import Derived.RowKitTokens
import Derived.Test.YtnooelecdbbfkaaGreatDoorRows
import Derived.Test.YtnooelecdbbfkaaGreatDoorTie
import Derived.Test.YtnooelecdbbfkaaGreatDoorCards
import Derived.ChangeSame
import Derived.ChangeVars
import Derived.JoinedOf
import Derived.RowKit
import Derived.LaidLaws
import Derived.LaidHandle
import Derived.Lay
import Derived.Stop.Joined
import Derived.SevenTiedAt
import Derived.Test.YtnooelecdbbfkaaGreatDoorFwK3k6
set_option linter.unusedSimpArgs false
set_option linter.unusedVariables false
set_option linter.unusedSectionVars false
set_option linter.unnecessarySimpa false

/- The bytes of an image that has rules alone, not too many. -/
namespace Go.Proofs.YtnooelecdbbfkaaGreatDoor.Fw
open Go Go.RowKit
set_option linter.unusedSectionVars false
variable [Inhabited GLT]
set_option maxRecDepth 100000
set_option maxHeartbeats 40000000
theorem run21g (L RD : List D) (S : S8) (n : Nat) (hL : L.length = n) (hn : n ≤ 4000) (hS : S.length ≤ 1000000) (hrow : CallsTo Tryz.prog 69 [.sl 0 9 L, .str [114, 117, 108, 101], .fn 16 [], .fn 70 []] (.tup [.sl 0 1 RD, .nili]))
    (hj : CallsTo Tryz.prog 75 [.sl 0 1 RD, .str []] (.str S)) : Runs Tryz.prog T 153 (Tryz.f21.body.getD .skip) Tryz.f21.results.toList [.agg [.sl 0 6 [], .sl 0 6 [], .sl 0 9 L, .sl 0 2 [], .int .i64 0, .int .i64 0]] (.tup [.str (headN (n : Int) ++ S), .nili]) := by
  have hw : IntKind.u64.wrap (n : Int) = (n : Int) := by
    rw [show IntKind.u64.wrap (n : Int) = (n : Int) % 18446744073709551616 from by simp [IntKind.wrap, IntKind.bits, IntKind.signed]]
    omega
  have hp := call74b (IntKind.u64.wrap (n : Int))
  have h60 := call60r n
  refine ⟨Nat.le_of_ble_eq_true rfl, ?_⟩
  conv => whnf
  rw [hL]
  refine ⟨_, fun _ => h60, ?_⟩
  conv => whnf
  rw [show decide ((4000 : Int) < (n : Int)) = false from decide_eq_false (by omega)]
  conv => whnf
  refine ⟨_, fun _ => call59 0, ?_⟩
  conv => whnf
  refine ⟨_, fun _ => call59 0, ?_⟩
  conv => whnf
  refine ⟨_, fun _ => call62n _, ?_⟩
  conv => whnf
  refine ⟨_, fun _ => call66n _, ?_⟩
  conv => whnf
  refine ⟨_, fun _ => hrow, ?_⟩
  conv => whnf
  refine ⟨_, fun _ => call71n _, ?_⟩
  conv => whnf
  refine ⟨[], ?_⟩
  conv => whnf
  refine ⟨5, ?_⟩
  conv => whnf
  refine ⟨_, fun _ => call73n 41 17 (by decide) _, ?_⟩
  conv => whnf
  refine ⟨_, fun _ => call73n 48 24 (by decide) _, ?_⟩
  conv => whnf
  refine ⟨_, fun _ => call73n 16 16 (by decide) _, ?_⟩
  conv => whnf
  refine ⟨[], ?_⟩
  conv => whnf
  refine ⟨4, ?_⟩
  conv => whnf
  refine ⟨[], ?_⟩
  conv => whnf
  refine ⟨5, ?_⟩
  conv => whnf
  refine ⟨_, fun _ => call74b 0, ?_⟩
  conv => whnf
  refine ⟨_, fun _ => call74b 0, ?_⟩
  conv => whnf
  refine ⟨_, fun _ => hp, ?_⟩
  conv => whnf
  refine ⟨_, fun _ => call74b 0, ?_⟩
  conv => whnf
  refine ⟨rfl, ?_⟩
  conv => whnf
  refine ⟨_, fun _ => hj, ?_⟩
  conv => whnf
  refine sideB_intro (fun _ => decide_eq_true (by show (14 : Nat) + List.length S ≤ 9223372036854775807; omega)) ?_
  conv => whnf
  refine sideB_intro (fun _ => decide_eq_true (by
    show List.length (_ ++ S) + 0 ≤ 9223372036854775807
    rw [List.length_append]
    show (14 : Nat) + List.length S + 0 ≤ 9223372036854775807
    omega)) ?_
  conv => whnf
  have e : (([105, 115, 111, 103] ++ put2 0 ++ put2 0 ++ put2 (IntKind.u64.wrap (n : Int)) ++ put2 0 ++ [0, 0] ++ [] ++ [] ++ S) ++ [] : S8) = headN (n : Int) ++ S := by
    rw [hw]; simp only [List.append_nil]; rfl
  exact ⟨rfl, congrArg (fun s => D.tup [D.str s, D.nili]) e⟩
theorem call21r (rs : List Ru) (hn : rs.length ≤ 4000) (hr : ∀ x ∈ rs, okR x ∧ ruleOK x.lv x.n (x.d0, x.d1, x.d2) (x.s0, x.s1, x.s2) = true) :
    CallsTo Tryz.prog 21 [.agg [.sl 0 6 [], .sl 0 6 [], .sl 0 9 (rs.map Ru.d), .sl 0 2 [], .int .i64 0, .int .i64 0]] (.tup [.str (headN (rs.length : Int) ++ (rs.map ruleRow).flatten), .nili]) := by
  have hfl := rows_len rs
  exact calls Tryz.func21 rfl (by decide) (run21g (rs.map Ru.d) ((rs.map ruleRow).map D.str) _ rs.length (by rw [List.length_map]) hn (by rw [hfl]; omega) (call69 rs (by omega) hr _) (call75f (rs.map ruleRow) (by rw [List.length_map]; omega) (by rw [hfl]; omega)))
end Go.Proofs.YtnooelecdbbfkaaGreatDoor.Fw

/- errors.As at a variable of a number's type: an error that has it within. -/
namespace Go.Proofs.YtnooelecdbbfkaaGreatDoor.Fw
open Go Go.RowKit Go.Extern.Stop Go.Stop Go.Extern
set_option linter.unusedSectionVars false
variable [Inhabited GLT]
set_option maxRecDepth 100000

theorem as_vo66 (t : Addr) (w : World) : (ReflectliteValue.unpack (.iface 115 (.pointer (some t)))).run Tryz.prog w
    = .ok (.agg #[.pointer (some ⟨3, 115, none⟩), .pointer (some ⟨w.heap.size, 0, none⟩), .int .u64 150]) (w.alloc (.cells #[.pointer (some t)] 115)) := by kernel_rfl
theorem as_ty66 (a : Addr) (w : World) : (ReflectliteValue.methodAny (ReflectliteValue.valueError "reflectlite.Value.Type" 0) (fun t _ _ _ => ReflectliteType.toType t) #[.agg #[.pointer (some ⟨3, 115, none⟩), .pointer (some a), .int .u64 150]]).run Tryz.prog w
    = .ok (.iface 209 (.agg #[.pointer (some ⟨3, 115, none⟩)])) w := by kernel_rfl
theorem as_k66 (w : World) : ((ReflectliteType.abiMethod fun t => (fun a : Nat => Value.int IntKind.u8 (a : Int)) <$> Rtype.kind t) #[.pointer (some ⟨3, 115, none⟩)]).run Tryz.prog w = .ok (.int .u8 22) w := by kernel_rfl
theorem as_k26 (w : World) : ((ReflectliteType.abiMethod fun t => (fun a : Nat => Value.int IntKind.u8 (a : Int)) <$> Rtype.kind t) #[.pointer (some ⟨3, 57, none⟩)]).run Tryz.prog w = .ok (.int .u8 2) w := by kernel_rfl
theorem as_u66 : Tryz.prog.underlying 115 = some (.pointer 57) := by kernel_rfl
theorem as_u26 : Tryz.prog.underlying 57 = some (.int .i64) := by kernel_rfl
theorem rlm (z : Sem Value) (f : TypeId → Addr → Nat → Nat → Sem Value) (v : Value) :
    ReflectliteValue.method z f #[v] = (do match ← ReflectliteValue.parts v with | none => z | some (t, a, fl) => f t a fl (fl % 32)) := rfl
theorem as_p66 (a : Addr) (w : World) : (ReflectliteValue.parts (.agg #[.pointer (some ⟨3, 115, none⟩), .pointer (some a), .int .u64 150])).run Tryz.prog w = .ok (some (115, a, 150)) w := by kernel_rfl
theorem as_nil66 (a p : Addr) (W : World) (ha : W.cell? a = some (.pointer (some p))) :
    (ReflectliteValue.method (ReflectliteValue.valueError "reflectlite.Value.IsNil" 0) ReflectliteValue.isNil #[.agg #[.pointer (some ⟨3, 115, none⟩), .pointer (some a), .int .u64 150]]).run Tryz.prog W = .ok (.bool false) W := by
  rw [rlm]
  simp only [Sem.run_bind, as_p66, Result.andThen]
  simp [ReflectliteValue.isNil, loadVar, isAgg, underlying, as_u66, ha, Result.andThen]
theorem as_el66 (w : World) : (ReflectliteType.method ReflectliteType.elem #[.agg #[.pointer (some ⟨3, 115, none⟩)]]).run Tryz.prog w = .ok (.iface 209 (.agg #[.pointer (some ⟨3, 57, none⟩)])) w := by kernel_rfl
theorem as_im26 (w : World) : (ReflectliteType.relation "Implements" ReflectliteType.implements_ #[.agg #[.pointer (some ⟨3, 57, none⟩)], .iface 209 (.agg #[.pointer (some ⟨3, 48, none⟩)])]).run Tryz.prog w = .ok (.bool true) w := by kernel_rfl
theorem as_to26 (v : Value) (w : World) : (ReflectliteType.typeOf #[.iface 57 v]).run Tryz.prog w = .ok (.iface 209 (.agg #[.pointer (some ⟨3, 57, none⟩)])) w := by kernel_rfl
theorem as_to101 (v : Value) (w : World) : (ReflectliteType.typeOf #[.iface 119 v]).run Tryz.prog w = .ok (.iface 209 (.agg #[.pointer (some ⟨3, 119, none⟩)])) w := by kernel_rfl
theorem as_as26 (w : World) : (ReflectliteType.relation "AssignableTo" ReflectliteType.assignableTo #[.agg #[.pointer (some ⟨3, 57, none⟩)], .iface 209 (.agg #[.pointer (some ⟨3, 57, none⟩)])]).run Tryz.prog w = .ok (.bool true) w := by kernel_rfl
theorem as_as101 (w : World) : (ReflectliteType.relation "AssignableTo" ReflectliteType.assignableTo #[.agg #[.pointer (some ⟨3, 119, none⟩)], .iface 209 (.agg #[.pointer (some ⟨3, 57, none⟩)])]).run Tryz.prog w = .ok (.bool false) w := by kernel_rfl
theorem as_vo26 (n : Int) (w : World) : (ReflectliteValue.unpack (.iface 57 (.int .i64 n))).run Tryz.prog w
    = .ok (.agg #[.pointer (some ⟨3, 57, none⟩), .pointer (some ⟨w.heap.size, 0, none⟩), .int .u64 130]) (w.alloc (.cells #[.int .i64 n] 57)) := by kernel_rfl
theorem as_eo66 (w : World) : (Rtype.elem? 115).run Tryz.prog w = .ok (some 57) w := by kernel_rfl
theorem as_mk26 (p : Addr) (w : World) : (ReflectliteValue.mk 57 p ReflectliteValue.flagAddr).run Tryz.prog w = .ok (.agg #[.pointer (some ⟨3, 57, none⟩), .pointer (some p), .int .u64 386]) w := by kernel_rfl
theorem as_elv66 (a p : Addr) (W : World) (ha : W.cell? a = some (.pointer (some p))) :
    (ReflectliteValue.method (ReflectliteValue.valueError "reflectlite.Value.Elem" 0) ReflectliteValue.elem #[.agg #[.pointer (some ⟨3, 115, none⟩), .pointer (some a), .int .u64 150]]).run Tryz.prog W
      = .ok (.agg #[.pointer (some ⟨3, 57, none⟩), .pointer (some p), .int .u64 386]) W := by
  rw [rlm]
  simp only [Sem.run_bind, as_p66, Result.andThen]
  simp [ReflectliteValue.elem, loadVar, isAgg, underlying, as_u66, ha, Result.andThen, as_eo66, as_mk26]
theorem rls (v x : Value) : ReflectliteValue.set #[v, x] = (do
    let (some (dst, a, fl), some (src, b, _)) := (← ReflectliteValue.parts v, ← ReflectliteValue.parts x)
      | unsupported (.noEntry "extern/(internal/reflectlite.Value).Set.zeroValue")
    if fl / ReflectliteValue.flagAddr % 2 == 0 then unsupported (.noEntry "extern/(internal/reflectlite.Value).Set.unaddressable")
    let val ← loadVar src b
    if ← Rtype.directlyAssignable dst src then storeVar dst a val
    else if ← Rtype.implements dst src then
      if (← Rtype.kind src) == 20 then
        match val with
        | .nilIface => unsupported (.noEntry "extern/reflectlite: a nil value of one interface type handed on as a value of another")
        | _ => storeVar dst a val
      else storeVar dst a (.iface src val)
    else panicString ("reflectlite.Set: value of type " ++ (← Rtype.spelt src) ++ " is not assignable to type " ++ (← Rtype.spelt dst))
    pure (.tuple #[])) := rfl
theorem as_p26a (a : Addr) (w : World) : (ReflectliteValue.parts (.agg #[.pointer (some ⟨3, 57, none⟩), .pointer (some a), .int .u64 386])).run Tryz.prog w = .ok (some (57, a, 386)) w := by kernel_rfl
theorem as_p26 (a : Addr) (w : World) : (ReflectliteValue.parts (.agg #[.pointer (some ⟨3, 57, none⟩), .pointer (some a), .int .u64 130])).run Tryz.prog w = .ok (some (57, a, 130)) w := by kernel_rfl
theorem as_di26 (w : World) : (Rtype.directlyAssignable 57 57).run Tryz.prog w = .ok true w := by kernel_rfl
theorem as_set26 (ta b : Addr) (n : Int) (old : Value) (W : World) (hb : W.cell? b = some (.int .i64 n)) (ht : W.cell? ta = some old) (hf : W.frozen? ta = false) :
    (ReflectliteValue.set #[.agg #[.pointer (some ⟨3, 57, none⟩), .pointer (some ta), .int .u64 386], .agg #[.pointer (some ⟨3, 57, none⟩), .pointer (some b), .int .u64 130]]).run Tryz.prog W
      = .ok (.tuple #[]) (W.setCell ta (.int .i64 n)) := by
  rw [rls]
  simp only [Sem.run_bind, as_p26a, as_p26, Result.andThen]
  simp [ReflectliteValue.flagAddr, loadVar, isAgg, underlying, as_u26, hb, Result.andThen, as_di26, storeVar, Value.cells, storeCells, Addr.add]
  rw [run_store Tryz.prog W ta _ _ (by rfl)]
  simp [ht, hf]
set_option maxHeartbeats 4000000 in
theorem un_call (e : Addr) (k : Int) (w : World) (h : w.cell? { block := e.block, off := e.off + 2 } = some (.iface 57 (.int .i64 k))) : Calls Tryz.prog 253 #[.pointer (some e)] w fun ev w' => ev = .returned (.iface 57 (.int .i64 k)) ∧ w' = w := by
  go_enter Tryz.func253, Tryz.ntmps253
  go_wp2
  go_ret
  exact ⟨rfl, rfl⟩
theorem as_lk101 (v : Value) (w : World) : (Go.Instr.typeAssert (.iface 119 v) 48 214 true).run Tryz.prog w = .ok (.tuple #[.nilIface, .bool false]) w :=
  run_typeAssert_lacksB (want := #[("As", 216)]) (by kernel_rfl) (by kernel_rfl) (by kernel_rfl) v 48 w
theorem as_has101 (v : Value) (w : World) : (Go.Instr.typeAssert (.iface 119 v) 48 181 true).run Tryz.prog w = .ok (.tuple #[.iface 119 v, .bool true]) w :=
  run_typeAssert_hasB (want := #[("Unwrap", 184)]) (by kernel_rfl) (by kernel_rfl) v 48 w
theorem as_mAss (h : Value) (w : World) : (Go.method 385 209 (.agg #[h]) "AssignableTo").run Tryz.prog w = .ok (259, .agg #[h]) w := by kernel_rfl
theorem as_mUn (e : Addr) (w : World) : (Go.method 385 119 (.pointer (some e)) "Unwrap").run Tryz.prog w = .ok (253, .pointer (some e)) w := by kernel_rfl
theorem as_mK (h : Value) (w : World) : (Go.method 385 209 (.agg #[h]) "Kind").run Tryz.prog w = .ok (248, h) w := by kernel_rfl
theorem as_mE (h : Value) (w : World) : (Go.method 385 209 (.agg #[h]) "Elem").run Tryz.prog w = .ok (261, .agg #[h]) w := by kernel_rfl
theorem as_mI (h : Value) (w : World) : (Go.method 385 209 (.agg #[h]) "Implements").run Tryz.prog w = .ok (262, .agg #[h]) w := by kernel_rfl
set_option maxHeartbeats 4000000 in
theorem as2 (e t h : Addr) (k : Int) (old : Value) (w : World) (he : w.cell? { block := e.block, off := e.off + 2 } = some (.iface 57 (.int .i64 k))) (hh : w.cell? h = some (.pointer (some t))) (ht : w.cell? t = some old) (hf : w.frozen? t = false) :
    Calls Tryz.prog 142 #[.iface 119 (.pointer (some e)), .iface 115 (.pointer (some t)), .agg #[.pointer (some ⟨3, 115, none⟩), .pointer (some h), .int .u64 150], .iface 209 (.agg #[.pointer (some ⟨3, 57, none⟩)])] w fun ev w' => ev = .returned (.bool true) ∧ w' = ((w.alloc (.cells #[.pointer (some ⟨3, 115, none⟩), .pointer (some h), .int .u64 150] 170)).alloc (.cells #[.int .i64 k] 57)).setCell t (.int .i64 k) := by
  have h48 := @run_callFunc_extern Tryz.prog 139 _ (fun args => ReflectliteValue.unpack (args.getD 0 (.tuple #[]))) Tryz.func139 (by kernel_rfl) (by kernel_rfl) (by kernel_rfl) (by kernel_rfl)
  have h69 := @run_callFunc_extern Tryz.prog 189 _ ReflectliteType.typeOf Tryz.func189 (by kernel_rfl) (by kernel_rfl) (by kernel_rfl) (by kernel_rfl)
  have h107 := @run_callFunc_extern Tryz.prog 259 _ (ReflectliteType.relation "AssignableTo" ReflectliteType.assignableTo) Tryz.func259 (by kernel_rfl) (by kernel_rfl) (by kernel_rfl) (by kernel_rfl)
  have h70 := @run_callFunc_extern Tryz.prog 190 _ (ReflectliteValue.method (ReflectliteValue.valueError "reflectlite.Value.Elem" 0) ReflectliteValue.elem) Tryz.func190 (by kernel_rfl) (by kernel_rfl) (by kernel_rfl) (by kernel_rfl)
  have h71 := @run_callFunc_extern Tryz.prog 191 _ ReflectliteValue.set Tryz.func191 (by kernel_rfl) (by kernel_rfl) (by kernel_rfl) (by kernel_rfl)
  have t1 := as_to101
  have t2 := as_to26
  have t3 := as_as101
  have t4 := as_as26
  have t5 := as_lk101
  have t6 := as_has101
  have t7 := as_mAss
  have t8 := as_mUn
  have t9 := as_vo26
  have lt : ∀ {a : Addr} {v : Value}, w.cell? a = some v → a.block < w.heap.size := fun {a v} h => by
    rcases Nat.lt_or_ge a.block w.heap.size with h1 | h1
    · exact h1
    · simp [World.cell?, Array.getElem?_eq_none h1] at h
  have hel : e.block < w.heap.size := lt (a := { block := e.block, off := e.off + 2 }) he
  have htl := lt ht
  have hhl := lt hh
  have he' : (w.alloc (.cells #[.pointer (some ⟨3, 115, none⟩), .pointer (some h), .int .u64 150] 170)).cell? { block := e.block, off := e.off + 2 } = some (.iface 57 (.int .i64 k)) := by
    rw [World.cell?_alloc_lt _ _ ⟨e.block, e.off + 2, none⟩ hel]; exact he
  have el := as_elv66 h t (w.alloc (.cells #[.pointer (some ⟨3, 115, none⟩), .pointer (some h), .int .u64 150] 170)) (by rw [World.cell?_alloc_lt _ _ _ hhl]; exact hh)
  have st := as_set26 t ⟨w.heap.size + 1, 0, none⟩ k old ((w.alloc (.cells #[.pointer (some ⟨3, 115, none⟩), .pointer (some h), .int .u64 150] 170)).alloc (.cells #[.int .i64 k] 57))
    (by rw [World.cell?_alloc_at _ _ _ _ (by simp)]; rfl)
    (by rw [World.cell?_alloc_lt _ _ t (by simp; omega), World.cell?_alloc_lt _ _ t htl]; exact ht)
    (by rw [World.frozen?_alloc_old _ _ t (by simp; omega), World.frozen?_alloc_old _ _ t (Nat.ne_of_lt htl)]; exact hf)
  go_enter Tryz.func142, Tryz.ntmps142
  go_wp2
  refine wp_loop_rounds 2 ?_
  rw [rounds_succ]
  go_wp2
  rw [rounds_succ]
  go_wp2
  go_ret
  exact ⟨rfl, rfl⟩
set_option maxHeartbeats 4000000 in
theorem as1 (e t : Addr) (k : Int) (old : Value) (w : World) (hg : w.cell? ⟨0, 0, none⟩ = some (.iface 209 (.agg #[.pointer (some ⟨3, 48, none⟩)]))) (he : w.cell? { block := e.block, off := e.off + 2 } = some (.iface 57 (.int .i64 k))) (ht : w.cell? t = some old) (hf : w.frozen? t = false) :
    Calls Tryz.prog 89 #[.iface 119 (.pointer (some e)), .iface 115 (.pointer (some t))] w fun ev w' => ev = .returned (.bool true) ∧ w' = ((((w.alloc (.cells #[.pointer (some t)] 115)).alloc (.cells #[.pointer (some ⟨3, 115, none⟩), .pointer (some ⟨w.heap.size, 0, none⟩), .int .u64 150] 170)).alloc (.cells #[.pointer (some ⟨3, 115, none⟩), .pointer (some ⟨w.heap.size, 0, none⟩), .int .u64 150] 170)).alloc (.cells #[.int .i64 k] 57)).setCell t (.int .i64 k) := by
  have h48 := @run_callFunc_extern Tryz.prog 139 _ (fun args => ReflectliteValue.unpack (args.getD 0 (.tuple #[]))) Tryz.func139 (by kernel_rfl) (by kernel_rfl) (by kernel_rfl) (by kernel_rfl)
  have h49 := @run_callFunc_extern Tryz.prog 140 _ (ReflectliteValue.methodAny (ReflectliteValue.valueError "reflectlite.Value.Type" 0) (fun t _ _ _ => ReflectliteType.toType t)) Tryz.func140 (by kernel_rfl) (by kernel_rfl) (by kernel_rfl) (by kernel_rfl)
  have h50 := @run_callFunc_extern Tryz.prog 141 _ (ReflectliteValue.method (ReflectliteValue.valueError "reflectlite.Value.IsNil" 0) ReflectliteValue.isNil) Tryz.func141 (by kernel_rfl) (by kernel_rfl) (by kernel_rfl) (by kernel_rfl)
  have h96 := @run_callFunc_extern Tryz.prog 248 _ (ReflectliteType.abiMethod fun t => do pure (.int .u8 (← Rtype.kind t))) Tryz.func248 (by kernel_rfl) (by kernel_rfl) (by kernel_rfl) (by kernel_rfl)
  have h109 := @run_callFunc_extern Tryz.prog 261 _ (ReflectliteType.method ReflectliteType.elem) Tryz.func261 (by kernel_rfl) (by kernel_rfl) (by kernel_rfl) (by kernel_rfl)
  have h110 := @run_callFunc_extern Tryz.prog 262 _ (ReflectliteType.relation "Implements" ReflectliteType.implements_) Tryz.func262 (by kernel_rfl) (by kernel_rfl) (by kernel_rfl) (by kernel_rfl)
  have lt : ∀ {a : Addr} {v : Value}, w.cell? a = some v → a.block < w.heap.size := fun {a v} h => by
    rcases Nat.lt_or_ge a.block w.heap.size with h1 | h1
    · exact h1
    · simp [World.cell?, Array.getElem?_eq_none h1] at h
  have hel : e.block < w.heap.size := lt (a := { block := e.block, off := e.off + 2 }) he
  have htl := lt ht
  have hgl : 0 < w.heap.size := lt (a := ⟨0, 0, none⟩) hg
  have f6 := as_vo66
  have f7 := as_ty66
  have mK := as_mK
  have mE := as_mE
  have mI := as_mI
  have k66 := as_k66
  have k26 := as_k26
  have e66 := as_el66
  have i26 := as_im26
  have n8 := as_nil66 ⟨w.heap.size, 0, none⟩ t ((w.alloc (.cells #[.pointer (some t)] 115)).alloc (.cells #[.pointer (some ⟨3, 115, none⟩), .pointer (some ⟨w.heap.size, 0, none⟩), .int .u64 150] 170)) (by simp)
  have hg2 : ((w.alloc (.cells #[.pointer (some t)] 115)).alloc (.cells #[.pointer (some ⟨3, 115, none⟩), .pointer (some ⟨w.heap.size, 0, none⟩), .int .u64 150] 170)).cell? ⟨0, 0, none⟩ = some (.iface 209 (.agg #[.pointer (some ⟨3, 48, none⟩)])) := by
    rw [World.cell?_alloc_lt _ _ ⟨0, 0, none⟩ (by simp), World.cell?_alloc_lt _ _ ⟨0, 0, none⟩ hgl]; exact hg
  have hc := as2 e t ⟨w.heap.size, 0, none⟩ k old ((w.alloc (.cells #[.pointer (some t)] 115)).alloc (.cells #[.pointer (some ⟨3, 115, none⟩), .pointer (some ⟨w.heap.size, 0, none⟩), .int .u64 150] 170))
    (by rw [World.cell?_alloc_lt _ _ ⟨e.block, e.off + 2, none⟩ (by simp; omega), World.cell?_alloc_lt _ _ ⟨e.block, e.off + 2, none⟩ hel]; exact he)
    (by rw [World.cell?_alloc_lt _ _ ⟨w.heap.size, 0, none⟩ (by simp)]; simp)
    (by rw [World.cell?_alloc_lt _ _ t (by simp; omega), World.cell?_alloc_lt _ _ t htl]; exact ht)
    (by rw [World.frozen?_alloc_old _ _ t (by simp; omega), World.frozen?_alloc_old _ _ t (Nat.ne_of_lt htl)]; exact hf)
  go_enter Tryz.func89, Tryz.ntmps89
  go_wp2_with (go_at_call 142; refine hc.mono ?_; rintro ev w' ⟨rfl, rfl⟩)
  go_ret
  exact ⟨rfl, rfl⟩
end Go.Proofs.YtnooelecdbbfkaaGreatDoor.Fw

/- fault.Kind: an error's kind. -/
namespace Go.Proofs.YtnooelecdbbfkaaGreatDoor.Fw
open Go Go.RowKit Go.Extern.Stop Go.Stop Go.Extern
set_option linter.unusedSectionVars false
variable [Inhabited GLT]
set_option maxRecDepth 100000
set_option maxHeartbeats 4000000 in
theorem kindW (e : Addr) (k : Int) (w : World) (hg : w.cell? ⟨0, 0, none⟩ = some (.iface 209 (.agg #[.pointer (some ⟨3, 48, none⟩)]))) (he : w.cell? { block := e.block, off := e.off + 2 } = some (.iface 57 (.int .i64 k))) :
    Calls Tryz.prog 29 #[.iface 119 (.pointer (some e))] w fun ev w' => ev = .returned (.int .i64 k) ∧ Below w.heap.size w w' := by
  have lt : ∀ {a : Addr} {v : Value}, w.cell? a = some v → a.block < w.heap.size := fun {a v} h => by
    rcases Nat.lt_or_ge a.block w.heap.size with h1 | h1
    · exact h1
    · simp [World.cell?, Array.getElem?_eq_none h1] at h
  have hel : e.block < w.heap.size := lt (a := { block := e.block, off := e.off + 2 }) he
  have hgl : 0 < w.heap.size := lt (a := ⟨0, 0, none⟩) hg
  have hc := as1 e ⟨w.heap.size, 0, none⟩ k (.int .i64 0) (w.alloc (.cells #[.int .i64 0] 57)) (by rw [World.cell?_alloc_lt _ _ ⟨0, 0, none⟩ hgl]; exact hg)
    (by rw [World.cell?_alloc_lt _ _ ⟨e.block, e.off + 2, none⟩ hel]; exact he) (by simp) (by simp)
  go_enter Tryz.func29, Tryz.ntmps29
  go_wp2_with (go_at_call 89; refine hc.mono ?_; rintro ev w' ⟨rfl, rfl⟩)
  go_ret
  refine ⟨rfl, ?_⟩
  exact (((((Below.refl _ w).alloc (Nat.le_refl _) _).alloc (by simp) _).alloc (by simp; omega) _).alloc (by simp; omega) _).alloc (by simp; omega) _
/-- What is laid for a call of errors.As. -/
def ErrH : Prop := (default : GLT).gl 0 0 (.iface 209 (.agg #[.pointer (some ⟨3, 48, none⟩)]))
theorem call29 (hgl : ErrH) (k at_ : Int) (what : S8) : CallsTo Tryz.prog 29 [fltD k at_ what] (.int .i64 k) := by
  refine ⟨⟨_, Tryz.func29, by decide, by decide⟩, fun I w vs him hrep => ?_⟩
  obtain ⟨v, us, rfl, hv, rfl⟩ := hrep
  obtain ⟨u, rfl, hu⟩ := hv
  obtain ⟨a, rfl, h1, h2, h3, _⟩ := hu
  obtain ⟨_, hi, z, hz, hz2⟩ := h3
  obtain ⟨y, rfl, rfl⟩ := hz2
  have hg := (him.2 _ _ _ hgl).2
  refine (kindW a k w hg ?_).mono ?_
  · have e : a.add (0 + 1 + 1) = { block := a.block, off := a.off + 2 } := rfl
    rw [← e]; exact hz
  · rintro ev w' ⟨rfl, hb⟩
    exact ⟨_, I, rfl, fun _ _ h => h, fun _ _ h => .inl h, fun b o h => Nat.lt_of_lt_of_le (him.1 b o h) hb.size, rfl, hb⟩
set_option maxHeartbeats 4000000
theorem run29n  : Runs Tryz.prog T 11 (Tryz.f29.body.getD .skip) Tryz.f29.results.toList [.nili] (.int .i64 0) := by
  refine ⟨Nat.le_of_ble_eq_true rfl, ?_⟩
  conv => whnf
  exact ⟨rfl, rfl⟩
theorem call29n  : CallsTo Tryz.prog 29 [.nili] (.int .i64 0) := calls Tryz.func29 rfl (by decide) (run29n)
end Go.Proofs.YtnooelecdbbfkaaGreatDoor.Fw

/- The faults of an error that has one, and its kind: what, and where. -/
namespace Go.Proofs.YtnooelecdbbfkaaGreatDoor.Fw
open Go Go.RowKit Go.Stop
set_option linter.unusedSectionVars false
variable [Inhabited GLT]
set_option maxRecDepth 100000
set_option maxHeartbeats 4000000
abbrev fltA (kind at_ : Int) (what : S8) : D := .eptr (.agg [.int .i64 at_, .str what, .ifc 57 (.int .i64 kind)]) 0
theorem fu101 : ∃ e, Tryz.prog.underlying 119 = some (.pointer e) := ⟨121, by kernel_rfl⟩
theorem fu144 : Tryz.prog.underlying 182 = some (.interface #[("Unwrap", 184)]) := by kernel_rfl
theorem fz101 (w : World) : (zeroValue 119).run Tryz.prog w = .ok (.pointer none) w := by kernel_rfl
theorem fta1 (c : Ctx) (env : Env) (w : World) (t : Nat) (x : D) (v : Value) (h : RepT c env w (.ifc t x) v) : ∃ u, v = .iface t u ∧ Rep c.I w x u := by simpa [RepT, RepV, RepC, Rep] using h
theorem ta_is (kind at_ : Int) (what : S8) : TaTo Tryz.prog 48 119 true (fltD kind at_ what) (.tup [fltA kind at_ what, .bool true]) := fun c env w v h => by
  obtain ⟨u, rfl, hu⟩ := fta1 c env w _ _ v h
  obtain ⟨e, he⟩ := fu101
  refine ⟨.tuple #[u, .bool true], ?_, [u, .bool true], rfl, ?_, ?_, trivial⟩
  · simp [Instr.typeAssert, run_underlying he]
  · exact hu
  · exact rfl
theorem ta_not (kind : Int) : TaTo Tryz.prog 48 119 true (.ifc 57 (.int .i64 kind)) (.tup [.nilp, .bool false]) := fun c env w v h => by
  obtain ⟨u, rfl, hu⟩ := fta1 c env w _ _ v h
  obtain ⟨e, he⟩ := fu101
  refine ⟨.tuple #[.pointer none, .bool false], ?_, [.pointer none, .bool false], rfl, ?_, ?_, trivial⟩
  · simp [Instr.typeAssert, run_underlying he, fz101]
  · exact rfl
  · exact rfl
theorem ta_in (kind at_ : Int) (what : S8) : TaTo Tryz.prog 48 182 true (fltD kind at_ what) (.tup [fltD kind at_ what, .bool true]) := fun c env w v h => by
  obtain ⟨u, rfl, hu⟩ := fta1 c env w _ _ v h
  exact ⟨_, run_typeAssert_hasB fu144 (by kernel_rfl) u 48 w, [.iface 119 u, .bool true], rfl, h, rfl, trivial⟩
theorem ta_out (kind : Int) : TaTo Tryz.prog 48 182 true (.ifc 57 (.int .i64 kind)) (.tup [.nili, .bool false]) := fun c env w v h => by
  obtain ⟨u, rfl, hu⟩ := fta1 c env w _ _ v h
  exact ⟨_, run_typeAssert_lacksB fu144 (by kernel_rfl) (by kernel_rfl) u 48 w, [.nilIface, .bool false], rfl, rfl, rfl, trivial⟩
theorem run253 (kind at_ : Int) (what : S8) : Runs Tryz.prog T 9 (Tryz.f253.body.getD .skip) Tryz.f253.results.toList [fltA kind at_ what] (.ifc 57 (.int .i64 kind)) := by
  refine ⟨Nat.le_of_ble_eq_true rfl, ?_⟩
  conv => whnf
  exact ⟨rfl, rfl⟩
theorem call253 (kind at_ : Int) (what : S8) : CallsTo Tryz.prog 253 [fltA kind at_ what] (.ifc 57 (.int .i64 kind)) := calls Tryz.func253 rfl (by decide) (run253 kind at_ what)
theorem meth253 (kind at_ : Int) (what : S8) : MethTo Tryz.prog (fltD kind at_ what) "Unwrap" (.ifc 57 (.int .i64 kind)) := by
  refine ⟨119, fltA kind at_ what, 253, rfl, call253 kind at_ what, fun I w v h => ?_⟩
  obtain ⟨a, rfl, _⟩ := h
  have hm := as_mUn (a.add 0) w
  have e : Tryz.prog.types.size + Made.depth = 385 := by kernel_rfl
  have hf := Tryz.func253
  have hb : Tryz.f253.body ≠ none := by decide
  simp only [callMethod, Sem.run_bind, run_program, Result.andThen_ok, e, hm]
  simp [callFunc, hf]
  rw [if_neg (by decide), if_neg hb]
theorem run90 (kind at_ : Int) (what : S8) : Runs Tryz.prog T 4 (Tryz.f90.body.getD .skip) Tryz.f90.results.toList [fltD kind at_ what] (.fn 143 [.eptr (fltD kind at_ what) 0]) := by
  refine ⟨Nat.le_of_ble_eq_true rfl, ?_⟩
  conv => whnf
  exact ⟨rfl, rfl⟩
theorem call90 (kind at_ : Int) (what : S8) : CallsTo Tryz.prog 90 [fltD kind at_ what] (.fn 143 [.eptr (fltD kind at_ what) 0]) := calls Tryz.func90 rfl (by decide) (run90 kind at_ what)
theorem yields143 (kind at_ : Int) (what : S8) : Yields Tryz.prog T 36 (Tryz.f143.body.getD .skip) [.eptr (fltD kind at_ what) 0] [[fltA kind at_ what]] := by
  refine ⟨Nat.le_of_ble_eq_true rfl, fun yl => ?_⟩
  conv => whnf
  refine ⟨[], ?_⟩
  conv => whnf
  refine ⟨2, ?_⟩
  conv => whnf
  refine ⟨_, fun _ => ta_is kind at_ what, ?_⟩
  conv => whnf
  refine .inl ⟨rfl, ?_⟩
  conv => whnf
  refine ⟨⟨rfl, rfl⟩, ?_, ?_⟩
  · conv => whnf
    refine ⟨_, fun _ => ta_in kind at_ what, ?_⟩
    conv => whnf
    refine ⟨_, fun _ => meth253 kind at_ what, ?_⟩
    conv => whnf
    refine ⟨_, fun _ => ta_not kind, ?_⟩
    conv => whnf
    refine .inr ⟨by decide, ?_⟩
    conv => whnf
    refine ⟨fun hg => (by cases hg), ?_⟩
    conv => whnf
    refine ⟨_, fun _ => ta_out kind, ?_⟩
    conv => whnf
    trivial
  · conv => whnf
    trivial
theorem iter143 (kind at_ : Int) (what : S8) : IterTo Tryz.prog 143 [.eptr (fltD kind at_ what) 0] [[fltA kind at_ what]] := iters Tryz.func143 rfl (by decide) rfl (yields143 kind at_ what)
theorem run30 (kind at_ : Int) (what : S8) : Runs Tryz.prog T 11 (Tryz.f30.body.getD .skip) Tryz.f30.results.toList [fltD kind at_ what] (.int .i64 at_) := by
  refine ⟨Nat.le_of_ble_eq_true rfl, ?_⟩
  conv => whnf
  refine ⟨_, fun _ => call90 kind at_ what, ?_⟩
  conv => whnf
  refine ⟨[], ?_⟩
  conv => whnf
  refine ⟨_, iter143 kind at_ what, ?_⟩
  conv => whnf
  exact ⟨rfl, rfl⟩
theorem call30 (kind at_ : Int) (what : S8) : CallsTo Tryz.prog 30 [fltD kind at_ what] (.int .i64 at_) := calls Tryz.func30 rfl (by decide) (run30 kind at_ what)
end Go.Proofs.YtnooelecdbbfkaaGreatDoor.Fw

/- The law of many things. -/
namespace Go.Proofs.YtnooelecdbbfkaaGreatDoor.Fw
open Go Go.RowKit
set_option linter.unusedSectionVars false
variable [Inhabited GLT]
set_option maxRecDepth 100000
set_option maxHeartbeats 40000000
theorem run13 (x n : Int) (h : 0 < n) : Runs Tryz.prog T 12 (Tryz.f13.body.getD .skip) Tryz.f13.results.toList [.int .i64 x, .int .i64 n] (.int .i64 ((IntKind.i64.wrap (x.tmod n + n)).tmod n)) := by
  refine ⟨Nat.le_of_ble_eq_true rfl, ?_⟩
  conv => whnf
  refine sideB_intro (fun _ => decide_eq_true (by omega)) ?_
  conv => whnf
  refine sideB_intro (fun _ => decide_eq_true (by omega)) ?_
  conv => whnf
  exact ⟨rfl, rfl⟩
theorem call13 (x n : Int) (h : 0 < n) : CallsTo Tryz.prog 13 [.int .i64 x, .int .i64 n] (.int .i64 ((IntKind.i64.wrap (x.tmod n + n)).tmod n)) := calls Tryz.func13 rfl (by decide) (run13 x n h)
/-- The rules that the law makes. -/
def rulM (k : Nat) : Ru := ⟨1, (k : Int).tmod 100, false, [42], [], [], [101, 110], [], []⟩
def rulsM (n : Nat) : List Ru := (List.range n).map rulM
theorem rulsM_len (n : Nat) : (rulsM n).length = n := by simp [rulsM]
theorem rulsM_succ (n : Nat) : rulsM (n + 1) = rulsM n ++ [rulM n] := by simp [rulsM, List.range_succ]
theorem rulM_ok (k : Nat) : okR (rulM k) ∧ ruleOK (rulM k).lv (rulM k).n ((rulM k).d0, (rulM k).d1, (rulM k).d2) ((rulM k).s0, (rulM k).s1, (rulM k).s2) = true := by
  have h1 : 0 ≤ (k : Int).tmod 100 := Int.tmod_nonneg _ (by omega)
  have h2 : (k : Int).tmod 100 < 100 := Int.tmod_lt_of_pos _ (by decide)
  refine ⟨⟨by simp [rulM], by simp [rulM], by simp [rulM], by simp [rulM], by simp [rulM], by simp [rulM]⟩, ?_⟩
  show (decide ((1 : Int) ≤ 1) && decide ((1 : Int) ≤ 3) && decide (0 ≤ (k : Int).tmod 100) && decide ((k : Int).tmod 100 ≤ 100) && (placesOK 1 ([42], [], []) && placesOK 1 ([101, 110], [], []))) = true
  rw [decide_eq_true h1, decide_eq_true (show (k : Int).tmod 100 ≤ 100 by omega)]
  decide
theorem rulsM_ok (n : Nat) : ∀ x ∈ rulsM n, okR x ∧ ruleOK x.lv x.n (x.d0, x.d1, x.d2) (x.s0, x.s1, x.s2) = true := by
  intro x hx
  obtain ⟨k, _, rfl⟩ := List.mem_map.1 hx
  exact rulM_ok k
theorem run7 (hg : ErrH) (many : Int) : Runs Tryz.prog T 64 (Tryz.f7.body.getD .skip) Tryz.f7.results.toList [.int .i64 many] (.bool true) := by
  obtain ⟨r, hr, er⟩ := rest_nat' many 8 (by decide) (by decide)
  have hc := call13 many 8 (by decide)
  rw [show (IntKind.i64.wrap (many.tmod 8 + 8)).tmod 8 = (r : Int) from er] at hc
  have hw0 : IntKind.i64.wrap (3997 + (r : Int)) = ((3997 + r : Nat) : Int) := by rw [IntKind.wrap_i64]; omega
  refine ⟨Nat.le_of_ble_eq_true rfl, ?_⟩
  conv => whnf
  refine ⟨_, fun _ => call11, ?_⟩
  conv => whnf
  refine ⟨_, fun _ => hc, ?_⟩
  conv => whnf
  rw [hw0]
  generalize hn : 3997 + r = n
  have hn1 : 3997 ≤ n ∧ n ≤ 4004 := by omega
  clear hc hw0 er
  refine ⟨[.nilB 5 2 26 9], ?_⟩
  conv => whnf
  refine loop_at (σ := Nat) (fun i env => Env.setC1 5 2 (.sl 2 9 ((rulsM i).map Ru.d)) (Env.setT 6 (.int .i64 (i : Int)) env)) (fun i => n - i) (fun i => i ≤ n) 0 (Nat.zero_le _) rfl ?_
  rintro i hi ih
  replace hi : i ≤ n := hi
  conv => whnf
  refine ifB_intro (fun h => ?_) (fun h => ?_)
  · replace h : (i : Int) < (n : Int) := of_decide_eq_true h
    have hw : IntKind.i64.wrap ((i : Int) + 1) = ((i + 1 : Nat) : Int) := by rw [IntKind.wrap_i64]; omega
    have ih' := ih (i + 1) (show i + 1 ≤ n by omega) (by omega)
    rw [rulsM_succ, List.map_append] at ih'
    conv => whnf
    refine sideB_intro (fun _ => decide_eq_true (by simp only [List.length_map, rulsM_len, List.length_cons, List.length_nil]; omega)) ?_
    conv => whnf
    rw [hw]
    exact ih'
  · replace h : ¬ ((i : Int) < (n : Int)) := of_decide_eq_false h
    obtain rfl : i = n := by omega
    clear ih
    by_cases h4 : i ≤ 4000
    · have hc := call21r (rulsM i) (by rw [rulsM_len]; exact h4) (rulsM_ok i)
      rw [rulsM_len] at hc
      have hl := headN_len (rulsM i)
      rw [rulsM_len] at hl
      revert hc hl
      generalize headN (i : Int) ++ ((rulsM i).map ruleRow).flatten = S
      intro hc hl
      conv => whnf
      refine ⟨_, fun _ => hc, ?_⟩
      conv => whnf
      rw [show decide ((4000 : Int) < (i : Int)) = false from decide_eq_false (by omega)]
      conv => whnf
      refine ⟨rfl, congrArg D.bool ?_⟩
      show (bif (bif true then true else false) then ((S.length : Int) == IntKind.i64.wrap (14 + IntKind.i64.wrap (51 * (i : Int)))) else false) = true
      rw [show IntKind.i64.wrap (14 + IntKind.i64.wrap (51 * (i : Int))) = ((14 + 51 * i : Nat) : Int) by rw [IntKind.wrap_i64, IntKind.wrap_i64]; omega, hl]
      simp
    · have hc := call21m (rulsM i) (by rw [rulsM_len]; omega)
      conv => whnf
      refine ⟨_, fun _ => hc, ?_⟩
      conv => whnf
      rw [show decide ((4000 : Int) < (i : Int)) = true from decide_eq_true (by omega)]
      conv => whnf
      refine ⟨_, fun _ => call29 hg 16 0 IMAGE, ?_⟩
      conv => whnf
      refine ⟨_, fun _ => call30 16 0 IMAGE, ?_⟩
      conv => whnf
      exact ⟨rfl, rfl⟩
end Go.Proofs.YtnooelecdbbfkaaGreatDoor.Fw

/- What the rows of this seat that read an error's type ask of the variables that are laid. -/
namespace Go.Proofs.YtnooelecdbbfkaaGreatDoor
open Go Go.RowKit Go.WideShapes Go.ChangeShapes
open Fw

abbrev laidN : List (String × DataW Unit) := [("isogloss/grand.names", Rows.laid_isogloss_grand_names)]
abbrev laidE : List (String × DataW Unit) := [("errors.errorType", Rows.laid_errors_errorType), ("isogloss/grand.names", Rows.laid_isogloss_grand_names)]
theorem erT : Tryz.prog.globalNamed "errors.errorType" = some 0 := by kernel_rfl
theorem erR : (Tryz.prog.cutTypes.find? (·.1 == "internal/reflectlite.rtype")).map (·.2) = some 209 := by kernel_rfl
theorem erO : ((List.range 285).filter fun t => Tryz.prog.rowNamed t [101, 114, 114, 111, 114]) = [48] := by kernel_rfl
theorem erS : Tryz.prog.types.size = 285 := by kernel_rfl
theorem handle_of_laid {W : World} (h : laidMetH Tryz.prog laidE W) : W.cell? ⟨0, 0, none⟩ = some (.iface 209 (.agg #[.pointer (some ⟨3, 48, none⟩)])) := by
  have h' : laidMet Tryz.prog laidN W ∧ handlesMet Tryz.prog [("errors.errorType", Rows.laid_errors_errorType)] W := h
  obtain ⟨name, u, ty, e1, e2, e3, e4, e5⟩ := h'.2 _ (List.mem_singleton.2 rfl)
  have en : name = [101, 114, 114, 111, 114] := (Option.some.inj e1).symm
  subst en
  obtain rfl := Option.some.inj (erR.symm.trans e2)
  have hm : ty ∈ (List.range 285).filter fun t => Tryz.prog.rowNamed t [101, 114, 114, 111, 114] := List.mem_filter.2 ⟨List.mem_range.2 (by rw [← erS]; exact e3), e4⟩
  rw [erO] at hm
  obtain rfl := List.mem_singleton.1 hm
  have hh : typeHandle Tryz.prog 48 = .pointer (some ⟨3, 48, none⟩) := by kernel_rfl
  rw [hh] at e5
  simpa using World.var?_cell erT e5 0
/-- A world in which it is so. -/
noncomputable def world0 (os : Os) : World :=
  let w0 := World.holding Tryz.prog os ⟨#[], #[], []⟩
  { w0 with heap := w0.heap.modify 0 fun
      | .cells _ t frozen => .cells #[.iface 209 (.agg #[.pointer (some ⟨3, 48, none⟩)])] t frozen
      | o => o }
noncomputable def laidWorld (os : Os) : World := (world0 os).layVars Tryz.prog laidN
theorem laidWorld_met (os : Os) (args : Array Value) : laidMetH Tryz.prog laidE ((laidWorld os).forCall (fun _ _ => 0) ⟨#[], args, []⟩).memory := by
  have h : laidMet Tryz.prog laidN (laidWorld os) := laidMet_layVars (w0 := world0 os) ["isogloss/grand.names"] [] rfl (by kernel_rfl) (by kernel_rfl) LaidIn.none
  have h2 : laidMet Tryz.prog laidN ((laidWorld os).forCall (fun _ _ => 0) ⟨#[], args, []⟩).memory := h.of_heap (by simp [World.memory, World.forCall, Input.heap])
  exact laidMetH_of_parts h2 (by kernel_rfl)
instance glt0 : Inhabited GLT := ⟨⟨fun g o v => g = 0 ∧ o = 0 ∧ v = .iface 209 (.agg #[.pointer (some ⟨3, 48, none⟩)])⟩⟩
theorem errH : ErrH := ⟨rfl, rfl, rfl⟩
theorem glob_of_laid {W : World} (h : laidMetH Tryz.prog laidE W) : GlobW Tryz.prog (old W) W := fun g o v e => by
  obtain ⟨rfl, rfl, rfl⟩ := e
  have hc := handle_of_laid h
  refine ⟨?_, hc⟩
  rcases Nat.lt_or_ge 0 W.heap.size with h1 | h1
  · exact h1
  · simp [World.cell?, Array.getElem?_eq_none h1] at hc
end Go.Proofs.YtnooelecdbbfkaaGreatDoor
