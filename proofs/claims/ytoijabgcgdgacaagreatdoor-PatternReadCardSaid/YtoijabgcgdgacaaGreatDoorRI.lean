/-
  WALKS, rz: errors.As and errors.Is at the errors that the readers give (after the kit's worked examples Sentry and Toyas).
  WALKS, rza: plain.Code: the number of an error, and the place that it tells.
  WALKS, rzb: told; the law PatternRead.
-/
import Derived.Test.YtoijabgcgdgacaaGreatDoorGE
import Derived.LaidEql
import Derived.Stop.Asserts
import Derived.RowKitTokens
import Derived.Test.YtoijabgcgdgacaaGreatDoorRA
import Derived.OwnWalk
import Derived.Test.YtoijabgcgdgacaaGreatDoorRH
import Derived.Test.YtoijabgcgdgacaaGreatDoorGL
namespace Go.Proofs.YtoijabgcgdgacaaGreatDoor
open Go.RowKit Go.Extern.Stop Go.Stop Go.Extern Go.Proofs.Gram

/-! ### errors.Is -/
theorem isTypeOf (v : Value) (w : World) : (Extern.ReflectliteType.typeOf #[.iface 406 v]).run Tryz.prog w = .ok (.iface 300 (.agg #[.pointer (some ⟨16, 406, none⟩)])) w := by kernel_rfl
/-- The model's entry for (rtype).Comparable. -/
def compExt : Array Value → Sem Value := Extern.ReflectliteType.method fun t => do Extern.Rtype.noPackHeld "Comparable" t; pure (.bool (← typeInfo t).comparable)
theorem isComparable (w : World) : (compExt #[.agg #[.pointer (some ⟨16, 406, none⟩)]]).run Tryz.prog w = .ok (.bool true) w := by kernel_rfl
theorem isMethodComparable (v : Value) (w : World) : (Go.method 535 300 v "Comparable").run Tryz.prog w = .ok (363, v) w := by kernel_rfl
theorem isComp : (Tryz.prog.info? 406).map (·.comparable) = some true := by kernel_rfl
theorem isSize : (Tryz.prog.info? 408).map (·.size) = some 1 := by kernel_rfl

theorem noIsE (v : Value) (xT : TypeId) (w : World) : (Instr.typeAssert (.iface 406 v) xT 311 true).run Tryz.prog w = .ok (.tuple #[.nilIface, .bool false]) w := run_typeAssert_lacksB Tryz.underlying311 (by kernel_rfl) (by kernel_rfl) v xT w
theorem noAsE (v : Value) (xT : TypeId) (w : World) : (Instr.typeAssert (.iface 406 v) xT 304 true).run Tryz.prog w = .ok (.tuple #[.nilIface, .bool false]) w := run_typeAssert_lacksB Tryz.underlying304 (by kernel_rfl) (by kernel_rfl) v xT w
theorem noUnwrapE (v : Value) (xT : TypeId) (w : World) : (Instr.typeAssert (.iface 406 v) xT 307 true).run Tryz.prog w = .ok (.tuple #[.nilIface, .bool false]) w := run_typeAssert_lacksB Tryz.underlying307 (by kernel_rfl) (by kernel_rfl) v xT w
theorem noUnwrapsE (v : Value) (xT : TypeId) (w : World) : (Instr.typeAssert (.iface 406 v) xT 309 true).run Tryz.prog w = .ok (.tuple #[.nilIface, .bool false]) w := run_typeAssert_lacksB Tryz.underlying309 (by kernel_rfl) (by kernel_rfl) v xT w
theorem noIsF (v : Value) (xT : TypeId) (w : World) : (Instr.typeAssert (.iface 90 v) xT 311 true).run Tryz.prog w = .ok (.tuple #[.nilIface, .bool false]) w := run_typeAssert_lacksB Tryz.underlying311 (by kernel_rfl) (by kernel_rfl) v xT w
theorem hasUnwrapF (v : Value) (xT : TypeId) (w : World) : (Instr.typeAssert (.iface 90 v) xT 307 true).run Tryz.prog w = .ok (.tuple #[.iface 90 v, .bool true]) w := run_typeAssert_hasB Tryz.underlying307 (by kernel_rfl) v xT w
theorem methodUnwrap (v : Value) (w : World) : (Go.method 535 90 v "Unwrap").run Tryz.prog w = .ok (356, v) w := by kernel_rfl

set_option maxRecDepth 100000 in
/-- errors.Is(x, x). -/
theorem is_same (a : Addr) (w : World) :
    Calls Tryz.prog 120 #[.iface 406 (.pointer (some a)), .iface 406 (.pointer (some a))] w fun e w' => e = .returned (.bool true) ∧ w' = w := by
  obtain ⟨i, hi, hcmp⟩ := Option.map_eq_some_iff.1 isComp
  obtain ⟨j, hj, hjs⟩ := Option.map_eq_some_iff.1 isSize
  have h8 := @run_callFunc_extern Tryz.prog 178 _ Extern.ReflectliteType.typeOf Tryz.func178 (by kernel_rfl) (by kernel_rfl) (by kernel_rfl) (by kernel_rfl)
  have h32 := @run_callFunc_extern Tryz.prog 363 _ compExt Tryz.func363 (by kernel_rfl) (by kernel_rfl) (by kernel_rfl) (by kernel_rfl)
  have tT := isTypeOf
  have cT := isComparable
  have mR := isMethodComparable
  have heq := run_eql_iface_ptr_same (P := Tryz.prog) w a Tryz.underlying26 Tryz.underlying406 hi hcmp hj
  go_enter Tryz.func120, Tryz.ntmps120
  go_wp2
  refine wp_loop_rounds 1 ?_
  rw [rounds_succ]
  go_wp2
  go_ret
  exact ⟨rfl, rfl⟩

set_option maxRecDepth 100000 in
/-- errors.Is(x, y), two sentinels. -/
theorem is_other (a b : Addr) (ca cb : Array Value) (ta tb : TypeId) (w : World) (hne : a ≠ b) (ha : w.heap[a.block]? = some (.cells ca ta (0, 0))) (hb : w.heap[b.block]? = some (.cells cb tb (0, 0))) :
    Calls Tryz.prog 120 #[.iface 406 (.pointer (some a)), .iface 406 (.pointer (some b))] w fun e w' => e = .returned (.bool false) ∧ w' = w := by
  obtain ⟨i, hi, hcmp⟩ := Option.map_eq_some_iff.1 isComp
  obtain ⟨j, hj, hjs⟩ := Option.map_eq_some_iff.1 isSize
  have h8 := @run_callFunc_extern Tryz.prog 178 _ Extern.ReflectliteType.typeOf Tryz.func178 (by kernel_rfl) (by kernel_rfl) (by kernel_rfl) (by kernel_rfl)
  have h32 := @run_callFunc_extern Tryz.prog 363 _ compExt Tryz.func363 (by kernel_rfl) (by kernel_rfl) (by kernel_rfl) (by kernel_rfl)
  have tT := isTypeOf
  have cT := isComparable
  have mR := isMethodComparable
  have nE := noIsE
  have uE := noUnwrapE
  have vE := noUnwrapsE
  have heq := run_eql_iface_ptr_other (P := Tryz.prog) w Tryz.underlying26 Tryz.underlying406 hi hcmp hj (by rw [hjs]; decide) hne ha hb
  go_enter Tryz.func120, Tryz.ntmps120
  go_wp2
  refine wp_loop_rounds 1 ?_
  rw [rounds_succ]
  go_wp2
  go_ret
  exact ⟨rfl, rfl⟩

set_option maxRecDepth 100000 in
/-- errors.Is(e, x), e a *api.Fault over x itself. -/
theorem is_fault_same (pb : Nat) (b : Addr) (w : World) (h1 : w.cell? ⟨pb, 0, none⟩ = some (.iface 406 (.pointer (some b)))) :
    Calls Tryz.prog 120 #[.iface 90 (.pointer (some ⟨pb, 0, none⟩)), .iface 406 (.pointer (some b))] w fun e w' => e = .returned (.bool true) ∧ w' = w := by
  obtain ⟨i, hi, hcmp⟩ := Option.map_eq_some_iff.1 isComp
  obtain ⟨j, hj, hjs⟩ := Option.map_eq_some_iff.1 isSize
  have h8 := @run_callFunc_extern Tryz.prog 178 _ Extern.ReflectliteType.typeOf Tryz.func178 (by kernel_rfl) (by kernel_rfl) (by kernel_rfl) (by kernel_rfl)
  have h32 := @run_callFunc_extern Tryz.prog 363 _ compExt Tryz.func363 (by kernel_rfl) (by kernel_rfl) (by kernel_rfl) (by kernel_rfl)
  have tT := isTypeOf
  have cT := isComparable
  have mR := isMethodComparable
  have nE := noIsE
  have uE := noUnwrapE
  have vE := noUnwrapsE
  have nW := noIsF
  have uW := hasUnwrapF
  have mU := methodUnwrap
  have heq := run_eql_iface_ptr_same (P := Tryz.prog) w b Tryz.underlying26 Tryz.underlying406 hi hcmp hj
  have hty := run_eql_iface_types (P := Tryz.prog) 90 406 (.pointer (some ⟨pb, 0, none⟩)) (.pointer (some b)) Tryz.underlying26 (by decide) w
  go_enter Tryz.func120, Tryz.ntmps120
  go_wp2
  refine wp_loop_rounds 2 ?_
  rw [rounds_succ]
  go_wp2
  rw [rounds_succ]
  go_wp2
  go_ret
  exact ⟨rfl, rfl⟩

set_option maxRecDepth 100000 in
/-- errors.Is(e, x), e a *api.Fault over another sentinel. -/
theorem is_fault_other (pb : Nat) (b a : Addr) (ca cb : Array Value) (ta tb : TypeId) (w : World) (h1 : w.cell? ⟨pb, 0, none⟩ = some (.iface 406 (.pointer (some a)))) (hne : a ≠ b) (ha : w.heap[a.block]? = some (.cells ca ta (0, 0))) (hb : w.heap[b.block]? = some (.cells cb tb (0, 0))) :
    Calls Tryz.prog 120 #[.iface 90 (.pointer (some ⟨pb, 0, none⟩)), .iface 406 (.pointer (some b))] w fun e w' => e = .returned (.bool false) ∧ w' = w := by
  obtain ⟨i, hi, hcmp⟩ := Option.map_eq_some_iff.1 isComp
  obtain ⟨j, hj, hjs⟩ := Option.map_eq_some_iff.1 isSize
  have h8 := @run_callFunc_extern Tryz.prog 178 _ Extern.ReflectliteType.typeOf Tryz.func178 (by kernel_rfl) (by kernel_rfl) (by kernel_rfl) (by kernel_rfl)
  have h32 := @run_callFunc_extern Tryz.prog 363 _ compExt Tryz.func363 (by kernel_rfl) (by kernel_rfl) (by kernel_rfl) (by kernel_rfl)
  have tT := isTypeOf
  have cT := isComparable
  have mR := isMethodComparable
  have nE := noIsE
  have uE := noUnwrapE
  have vE := noUnwrapsE
  have nW := noIsF
  have uW := hasUnwrapF
  have mU := methodUnwrap
  have heq := run_eql_iface_ptr_other (P := Tryz.prog) w Tryz.underlying26 Tryz.underlying406 hi hcmp hj (by rw [hjs]; decide) hne ha hb
  have hty := run_eql_iface_types (P := Tryz.prog) 90 406 (.pointer (some ⟨pb, 0, none⟩)) (.pointer (some b)) Tryz.underlying26 (by decide) w
  go_enter Tryz.func120, Tryz.ntmps120
  go_wp2
  refine wp_loop_rounds 2 ?_
  rw [rounds_succ]
  go_wp2
  rw [rounds_succ]
  go_wp2
  go_ret
  exact ⟨rfl, rfl⟩

/-! ### errors.As with a **api.Fault -/
theorem valueOf195 (t : Addr) (w : World) : (ReflectliteValue.unpack (.iface 195 (.pointer (some t)))).run Tryz.prog w
    = .ok (.agg #[.pointer (some ⟨16, 195, none⟩), .pointer (some ⟨w.heap.size, 0, none⟩), .int .u64 150]) (w.alloc (.cells #[.pointer (some t)] 195)) := by kernel_rfl
theorem type195 (a : Addr) (w : World) : (ReflectliteValue.methodAny (ReflectliteValue.valueError "reflectlite.Value.Type" 0) (fun t _ _ _ => ReflectliteType.toType t) #[.agg #[.pointer (some ⟨16, 195, none⟩), .pointer (some a), .int .u64 150]]).run Tryz.prog w
    = .ok (.iface 300 (.agg #[.pointer (some ⟨16, 195, none⟩)])) w := by kernel_rfl
theorem methodKind (h : Value) (w : World) : (Go.method 535 300 (.agg #[h]) "Kind").run Tryz.prog w = .ok (352, h) w := by kernel_rfl
theorem kind195 (w : World) : ((ReflectliteType.abiMethod fun t => (fun a : Nat => Value.int IntKind.u8 (a : Int)) <$> Rtype.kind t) #[.pointer (some ⟨16, 195, none⟩)]).run Tryz.prog w = .ok (.int .u8 22) w := by kernel_rfl
theorem kind90 (w : World) : ((ReflectliteType.abiMethod fun t => (fun a : Nat => Value.int IntKind.u8 (a : Int)) <$> Rtype.kind t) #[.pointer (some ⟨16, 90, none⟩)]).run Tryz.prog w = .ok (.int .u8 22) w := by kernel_rfl

theorem rlm (z : Sem Value) (f : TypeId → Addr → Nat → Nat → Sem Value) (v : Value) :
    ReflectliteValue.method z f #[v] = (do match ← ReflectliteValue.parts v with | none => z | some (t, a, fl) => f t a fl (fl % 32)) := rfl
theorem parts195 (a : Addr) (w : World) : (ReflectliteValue.parts (.agg #[.pointer (some ⟨16, 195, none⟩), .pointer (some a), .int .u64 150])).run Tryz.prog w = .ok (some (195, a, 150)) w := by kernel_rfl
theorem isNil195 (a p : Addr) (W : World) (ha : W.cell? a = some (.pointer (some p))) :
    (ReflectliteValue.method (ReflectliteValue.valueError "reflectlite.Value.IsNil" 0) ReflectliteValue.isNil #[.agg #[.pointer (some ⟨16, 195, none⟩), .pointer (some a), .int .u64 150]]).run Tryz.prog W = .ok (.bool false) W := by
  rw [rlm]
  simp only [Sem.run_bind, parts195, Result.andThen]
  simp [ReflectliteValue.isNil, loadVar, isAgg, underlying, Tryz.underlying195, ha, Result.andThen]

theorem methodElem (h : Value) (w : World) : (Go.method 535 300 (.agg #[h]) "Elem").run Tryz.prog w = .ok (364, .agg #[h]) w := by kernel_rfl
theorem methodImplements (h : Value) (w : World) : (Go.method 535 300 (.agg #[h]) "Implements").run Tryz.prog w = .ok (365, .agg #[h]) w := by kernel_rfl
theorem methodAssignableTo (h : Value) (w : World) : (Go.method 535 300 (.agg #[h]) "AssignableTo").run Tryz.prog w = .ok (362, .agg #[h]) w := by kernel_rfl
theorem elem195 (w : World) : (ReflectliteType.method ReflectliteType.elem #[.agg #[.pointer (some ⟨16, 195, none⟩)]]).run Tryz.prog w = .ok (.iface 300 (.agg #[.pointer (some ⟨16, 90, none⟩)])) w := by kernel_rfl
theorem implements90 (w : World) : (ReflectliteType.relation "Implements" ReflectliteType.implements_ #[.agg #[.pointer (some ⟨16, 90, none⟩)], .iface 300 (.agg #[.pointer (some ⟨16, 26, none⟩)])]).run Tryz.prog w = .ok (.bool true) w := by kernel_rfl
theorem typeOf90 (v : Value) (w : World) : (ReflectliteType.typeOf #[.iface 90 v]).run Tryz.prog w = .ok (.iface 300 (.agg #[.pointer (some ⟨16, 90, none⟩)])) w := by kernel_rfl
theorem assignable90 (w : World) : (ReflectliteType.relation "AssignableTo" ReflectliteType.assignableTo #[.agg #[.pointer (some ⟨16, 90, none⟩)], .iface 300 (.agg #[.pointer (some ⟨16, 90, none⟩)])]).run Tryz.prog w = .ok (.bool true) w := by kernel_rfl
theorem assignable406 (w : World) : (ReflectliteType.relation "AssignableTo" ReflectliteType.assignableTo #[.agg #[.pointer (some ⟨16, 406, none⟩)], .iface 300 (.agg #[.pointer (some ⟨16, 90, none⟩)])]).run Tryz.prog w = .ok (.bool false) w := by kernel_rfl
theorem valueOf90 (e : Addr) (w : World) : (ReflectliteValue.unpack (.iface 90 (.pointer (some e)))).run Tryz.prog w
    = .ok (.agg #[.pointer (some ⟨16, 90, none⟩), .pointer (some ⟨w.heap.size, 0, none⟩), .int .u64 150]) (w.alloc (.cells #[.pointer (some e)] 90)) := by kernel_rfl

theorem elemOf195 (w : World) : (Rtype.elem? 195).run Tryz.prog w = .ok (some 90) w := by kernel_rfl
theorem mk90 (p : Addr) (w : World) : (ReflectliteValue.mk 90 p ReflectliteValue.flagAddr).run Tryz.prog w = .ok (.agg #[.pointer (some ⟨16, 90, none⟩), .pointer (some p), .int .u64 406]) w := by kernel_rfl
theorem elemV195 (a p : Addr) (W : World) (ha : W.cell? a = some (.pointer (some p))) :
    (ReflectliteValue.method (ReflectliteValue.valueError "reflectlite.Value.Elem" 0) ReflectliteValue.elem #[.agg #[.pointer (some ⟨16, 195, none⟩), .pointer (some a), .int .u64 150]]).run Tryz.prog W
      = .ok (.agg #[.pointer (some ⟨16, 90, none⟩), .pointer (some p), .int .u64 406]) W := by
  rw [rlm]
  simp only [Sem.run_bind, parts195, Result.andThen]
  simp [ReflectliteValue.elem, loadVar, isAgg, underlying, Tryz.underlying195, ha, Result.andThen, elemOf195, mk90]
theorem rls (v x : Value) : ReflectliteValue.set #[v, x] = (do
    let (some (dst, a, fl), some (src, b, _)) := (← ReflectliteValue.parts v, ← ReflectliteValue.parts x)
      | unsupported (.noEntry "extern/(internal/reflectlite.Value).Set.zeroValue")
    if fl / ReflectliteValue.flagAddr % 2 == 0 then unsupported (.noEntry "extern/(internal/reflectlite.Value).Set.unaddressable")
    let val ← loadVar src b
    if ← Rtype.directlyAssignable dst src then storeVar dst a val
    else if ← Rtype.implements dst src then
      if (← Rtype.kind src) == 20 then
        match val with
        | .nilIface => unsupported (.noEntry "extern/reflectlite: a nil value of one interface type handed on as a value of another")
        | _ => storeVar dst a val
      else storeVar dst a (.iface src val)
    else panicString ("reflectlite.Set: value of type " ++ (← Rtype.spelt src) ++ " is not assignable to type " ++ (← Rtype.spelt dst))
    pure (.tuple #[])) := rfl
theorem parts90a (a : Addr) (w : World) : (ReflectliteValue.parts (.agg #[.pointer (some ⟨16, 90, none⟩), .pointer (some a), .int .u64 406])).run Tryz.prog w = .ok (some (90, a, 406)) w := by kernel_rfl
theorem parts90 (a : Addr) (w : World) : (ReflectliteValue.parts (.agg #[.pointer (some ⟨16, 90, none⟩), .pointer (some a), .int .u64 150])).run Tryz.prog w = .ok (some (90, a, 150)) w := by kernel_rfl
theorem direct90 (w : World) : (Rtype.directlyAssignable 90 90).run Tryz.prog w = .ok true w := by kernel_rfl
theorem set90 (ta b e : Addr) (old : Value) (W : World) (hb : W.cell? b = some (.pointer (some e))) (ht : W.cell? ta = some old) (hf : W.frozen? ta = false) :
    (ReflectliteValue.set #[.agg #[.pointer (some ⟨16, 90, none⟩), .pointer (some ta), .int .u64 406], .agg #[.pointer (some ⟨16, 90, none⟩), .pointer (some b), .int .u64 150]]).run Tryz.prog W
      = .ok (.tuple #[]) (W.setCell ta (.pointer (some e))) := by
  rw [rls]
  simp only [Sem.run_bind, parts90a, parts90, Result.andThen]
  simp [ReflectliteValue.flagAddr, loadVar, isAgg, underlying, Tryz.underlying90, hb, Result.andThen, direct90, storeVar, Value.cells, storeCells, Addr.add]
  rw [run_store Tryz.prog W ta _ _ (by rfl)]
  simp [ht, hf]

/-- The blocks that errors.As makes. -/
def asW (t : Addr) (w : World) : World := ((w.alloc (.cells #[.pointer (some t)] 195)).alloc (.cells #[.pointer (some ⟨16, 195, none⟩), .pointer (some ⟨w.heap.size, 0, none⟩), .int .u64 150] 263)).alloc (.cells #[.pointer (some ⟨16, 195, none⟩), .pointer (some ⟨w.heap.size, 0, none⟩), .int .u64 150] 263)
theorem asW_kp (t : Addr) (w : World) : Kp noB w (asW t w) := (((Kp.refl _ _).alloc _).alloc _).alloc _

set_option maxRecDepth 100000 in
set_option maxHeartbeats 4000000 in
/-- errors.As of a *api.Fault. -/
theorem as_hit (e t : Addr) (old : Value) (w : World) (hg : w.cell? ⟨7, 0, none⟩ = some (.iface 300 (.agg #[.pointer (some ⟨16, 26, none⟩)]))) (ht0 : w.cell? t = some old) (hf0 : w.frozen? t = false) :
    Calls Tryz.prog 119 #[.iface 90 (.pointer (some e)), .iface 195 (.pointer (some t))] w fun ev w' => ev = .returned (.bool true) ∧ w' = ((asW t w).alloc (.cells #[.pointer (some e)] 90)).setCell t (.pointer (some e)) := by
  unfold asW
  have h6 := @run_callFunc_extern Tryz.prog 174 _ (fun args => ReflectliteValue.unpack (args.getD 0 (.tuple #[]))) Tryz.func174 (by kernel_rfl) (by kernel_rfl) (by kernel_rfl) (by kernel_rfl)
  have h7 := @run_callFunc_extern Tryz.prog 175 _ (ReflectliteValue.methodAny (ReflectliteValue.valueError "reflectlite.Value.Type" 0) (fun t _ _ _ => ReflectliteType.toType t)) Tryz.func175 (by kernel_rfl) (by kernel_rfl) (by kernel_rfl) (by kernel_rfl)
  have h8 := @run_callFunc_extern Tryz.prog 176 _ (ReflectliteValue.method (ReflectliteValue.valueError "reflectlite.Value.IsNil" 0) ReflectliteValue.isNil) Tryz.func176 (by kernel_rfl) (by kernel_rfl) (by kernel_rfl) (by kernel_rfl)
  have h27 := @run_callFunc_extern Tryz.prog 352 _ (ReflectliteType.abiMethod fun t => do pure (.int .u8 (← Rtype.kind t))) Tryz.func352 (by kernel_rfl) (by kernel_rfl) (by kernel_rfl) (by kernel_rfl)
  have h37 := @run_callFunc_extern Tryz.prog 364 _ (ReflectliteType.method ReflectliteType.elem) Tryz.func364 (by kernel_rfl) (by kernel_rfl) (by kernel_rfl) (by kernel_rfl)
  have h38 := @run_callFunc_extern Tryz.prog 365 _ (ReflectliteType.relation "Implements" ReflectliteType.implements_) Tryz.func365 (by kernel_rfl) (by kernel_rfl) (by kernel_rfl) (by kernel_rfl)
  have h10 := @run_callFunc_extern Tryz.prog 178 _ ReflectliteType.typeOf Tryz.func178 (by kernel_rfl) (by kernel_rfl) (by kernel_rfl) (by kernel_rfl)
  have h35 := @run_callFunc_extern Tryz.prog 362 _ (ReflectliteType.relation "AssignableTo" ReflectliteType.assignableTo) Tryz.func362 (by kernel_rfl) (by kernel_rfl) (by kernel_rfl) (by kernel_rfl)
  have h11 := @run_callFunc_extern Tryz.prog 212 _ (ReflectliteValue.method (ReflectliteValue.valueError "reflectlite.Value.Elem" 0) ReflectliteValue.elem) Tryz.func212 (by kernel_rfl) (by kernel_rfl) (by kernel_rfl) (by kernel_rfl)
  have h12 := @run_callFunc_extern Tryz.prog 213 _ ReflectliteValue.set Tryz.func213 (by kernel_rfl) (by kernel_rfl) (by kernel_rfl) (by kernel_rfl)
  have tO := typeOf90
  have mA := methodAssignableTo
  have a25 := assignable90
  have v25 := valueOf90
  have f6 := valueOf195
  have f7 := type195
  have mK := methodKind
  have mE := methodElem
  have mI := methodImplements
  have k27 := kind195
  have k25 := kind90
  have e27 := elem195
  have i25 := implements90
  have n8 := isNil195 ⟨w.heap.size, 0, none⟩ t ((w.alloc (.cells #[.pointer (some t)] 195)).alloc (.cells #[.pointer (some ⟨16, 195, none⟩), .pointer (some ⟨w.heap.size, 0, none⟩), .int .u64 150] 263)) (by simp)
  have hlt : 7 < w.heap.size := World.block_lt_of_cell? w _ hg
  have hg2 : ((w.alloc (.cells #[.pointer (some t)] 195)).alloc (.cells #[.pointer (some ⟨16, 195, none⟩), .pointer (some ⟨w.heap.size, 0, none⟩), .int .u64 150] 263)).cell? ⟨7, 0, none⟩ = some (.iface 300 (.agg #[.pointer (some ⟨16, 26, none⟩)])) := by
    rw [World.cell?_alloc_lt _ _ ⟨7, 0, none⟩ (by simp; omega), World.cell?_alloc_lt _ _ ⟨7, 0, none⟩ hlt]; exact hg
  have htl : t.block < w.heap.size := World.block_lt_of_cell? w _ ht0
  have el := elemV195 ⟨w.heap.size, 0, none⟩ t (((w.alloc (.cells #[.pointer (some t)] 195)).alloc (.cells #[.pointer (some ⟨16, 195, none⟩), .pointer (some ⟨w.heap.size, 0, none⟩), .int .u64 150] 263)).alloc (.cells #[.pointer (some ⟨16, 195, none⟩), .pointer (some ⟨w.heap.size, 0, none⟩), .int .u64 150] 263)) (by rw [World.cell?_alloc_lt _ _ ⟨w.heap.size, 0, none⟩ (by simp; omega)]; simp)
  have st := set90 t ⟨w.heap.size + 1 + 1 + 1, 0, none⟩ e old ((((w.alloc (.cells #[.pointer (some t)] 195)).alloc (.cells #[.pointer (some ⟨16, 195, none⟩), .pointer (some ⟨w.heap.size, 0, none⟩), .int .u64 150] 263)).alloc (.cells #[.pointer (some ⟨16, 195, none⟩), .pointer (some ⟨w.heap.size, 0, none⟩), .int .u64 150] 263)).alloc (.cells #[.pointer (some e)] 90))
    (by rw [World.cell?_alloc_at _ _ _ _ (by simp)]; rfl)
    (by rw [World.cell?_alloc_lt _ _ t (by simp; omega), World.cell?_alloc_lt _ _ t (by simp; omega), World.cell?_alloc_lt _ _ t (by simp; omega), World.cell?_alloc_lt _ _ t htl]; exact ht0)
    (by rw [World.frozen?_alloc_old _ _ t (by simp; omega), World.frozen?_alloc_old _ _ t (by simp; omega), World.frozen?_alloc_old _ _ t (by simp; omega), World.frozen?_alloc_old _ _ t (Nat.ne_of_lt htl)]; exact hf0)
  go_enter Tryz.func119, Tryz.ntmps119
  go_wp2
  refine wp_loop_rounds 1 ?_
  rw [rounds_succ]
  go_wp2
  go_ret
  exact ⟨rfl, rfl⟩

set_option maxRecDepth 100000 in
set_option maxHeartbeats 4000000 in
/-- errors.As of a sentinel. -/
theorem as_miss (e t : Addr) (w : World) (hg : w.cell? ⟨7, 0, none⟩ = some (.iface 300 (.agg #[.pointer (some ⟨16, 26, none⟩)]))) :
    Calls Tryz.prog 119 #[.iface 406 (.pointer (some e)), .iface 195 (.pointer (some t))] w fun ev w' => ev = .returned (.bool false) ∧ w' = asW t w := by
  unfold asW
  have h6 := @run_callFunc_extern Tryz.prog 174 _ (fun args => ReflectliteValue.unpack (args.getD 0 (.tuple #[]))) Tryz.func174 (by kernel_rfl) (by kernel_rfl) (by kernel_rfl) (by kernel_rfl)
  have h7 := @run_callFunc_extern Tryz.prog 175 _ (ReflectliteValue.methodAny (ReflectliteValue.valueError "reflectlite.Value.Type" 0) (fun t _ _ _ => ReflectliteType.toType t)) Tryz.func175 (by kernel_rfl) (by kernel_rfl) (by kernel_rfl) (by kernel_rfl)
  have h8 := @run_callFunc_extern Tryz.prog 176 _ (ReflectliteValue.method (ReflectliteValue.valueError "reflectlite.Value.IsNil" 0) ReflectliteValue.isNil) Tryz.func176 (by kernel_rfl) (by kernel_rfl) (by kernel_rfl) (by kernel_rfl)
  have h27 := @run_callFunc_extern Tryz.prog 352 _ (ReflectliteType.abiMethod fun t => do pure (.int .u8 (← Rtype.kind t))) Tryz.func352 (by kernel_rfl) (by kernel_rfl) (by kernel_rfl) (by kernel_rfl)
  have h37 := @run_callFunc_extern Tryz.prog 364 _ (ReflectliteType.method ReflectliteType.elem) Tryz.func364 (by kernel_rfl) (by kernel_rfl) (by kernel_rfl) (by kernel_rfl)
  have h38 := @run_callFunc_extern Tryz.prog 365 _ (ReflectliteType.relation "Implements" ReflectliteType.implements_) Tryz.func365 (by kernel_rfl) (by kernel_rfl) (by kernel_rfl) (by kernel_rfl)
  have h10 := @run_callFunc_extern Tryz.prog 178 _ ReflectliteType.typeOf Tryz.func178 (by kernel_rfl) (by kernel_rfl) (by kernel_rfl) (by kernel_rfl)
  have h35 := @run_callFunc_extern Tryz.prog 362 _ (ReflectliteType.relation "AssignableTo" ReflectliteType.assignableTo) Tryz.func362 (by kernel_rfl) (by kernel_rfl) (by kernel_rfl) (by kernel_rfl)
  have tO := isTypeOf
  have mA := methodAssignableTo
  have a25 := assignable406
  have f6 := valueOf195
  have f7 := type195
  have mK := methodKind
  have mE := methodElem
  have mI := methodImplements
  have k27 := kind195
  have k25 := kind90
  have e27 := elem195
  have i25 := implements90
  have nE := noAsE
  have uE := noUnwrapE
  have vE := noUnwrapsE
  have n8 := isNil195 ⟨w.heap.size, 0, none⟩ t ((w.alloc (.cells #[.pointer (some t)] 195)).alloc (.cells #[.pointer (some ⟨16, 195, none⟩), .pointer (some ⟨w.heap.size, 0, none⟩), .int .u64 150] 263)) (by simp)
  have hlt : 7 < w.heap.size := World.block_lt_of_cell? w _ hg
  have hg2 : ((w.alloc (.cells #[.pointer (some t)] 195)).alloc (.cells #[.pointer (some ⟨16, 195, none⟩), .pointer (some ⟨w.heap.size, 0, none⟩), .int .u64 150] 263)).cell? ⟨7, 0, none⟩ = some (.iface 300 (.agg #[.pointer (some ⟨16, 26, none⟩)])) := by
    rw [World.cell?_alloc_lt _ _ ⟨7, 0, none⟩ (by simp; omega), World.cell?_alloc_lt _ _ ⟨7, 0, none⟩ hlt]; exact hg
  go_enter Tryz.func119, Tryz.ntmps119
  go_wp2
  refine wp_loop_rounds 1 ?_
  rw [rounds_succ]
  go_wp2
  go_ret
  exact ⟨rfl, rfl⟩
end Go.Proofs.YtoijabgcgdgacaaGreatDoor

namespace Go.Proofs.YtoijabgcgdgacaaGreatDoor
open Go.RowKit Go.Proofs.Gram Go.Lib

/-- The variables of which plain.Code takes hold. -/
structure EnvX (eb es : Addr) (w : World) : Prop where
  ty : w.cell? ⟨7, 0, none⟩ = some (.iface 300 (.agg #[.pointer (some ⟨16, 26, none⟩)]))
  v2 : ∃ a, w.cell? ⟨2, 0, none⟩ = some (.iface 406 (.pointer (some a)))
  v3 : ∃ a, w.cell? ⟨3, 0, none⟩ = some (.iface 406 (.pointer (some a)))
  v4 : ∃ a, w.cell? ⟨4, 0, none⟩ = some (.iface 406 (.pointer (some a)))
  v5 : ∃ a, w.cell? ⟨5, 0, none⟩ = some (.iface 406 (.pointer (some a)))
  v6 : ∃ a, w.cell? ⟨6, 0, none⟩ = some (.iface 406 (.pointer (some a)))
  ne : eb ≠ es
  hb : ∃ c t, w.heap[eb.block]? = some (.cells c t (0, 0))
  hs : ∃ c t, w.heap[es.block]? = some (.cells c t (0, 0))

theorem EnvX.kp {eb es : Addr} {w w' : World} (h : EnvX eb es w) (hk : Kp noB w w') : EnvX eb es w' := by
  obtain ⟨h1, ⟨v2, h2⟩, ⟨v3, h3⟩, ⟨v4, h4⟩, ⟨v5, h5⟩, ⟨v6, h6⟩, h7, ⟨c8, t8, h8⟩, ⟨c9, t9, h9⟩⟩ := h
  exact ⟨hk.cell h1 (noB_not _), ⟨v2, hk.cell h2 (noB_not _)⟩, ⟨v3, hk.cell h3 (noB_not _)⟩, ⟨v4, hk.cell h4 (noB_not _)⟩, ⟨v5, hk.cell h5 (noB_not _)⟩, ⟨v6, hk.cell h6 (noB_not _)⟩, h7, ⟨c8, t8, hk.heap h8 (noB_not _)⟩, ⟨c9, t9, hk.heap h9 (noB_not _)⟩⟩

/-- The number of an error. -/
def cod (c : Nat) : Int := if c = 2 then 2 else 1

/-- errors.Is at both sentinels, of an error by its number. -/
def IsE (ev : Value) (es eb : Addr) (c : Nat) (W : World) : Prop :=
  Calls Tryz.prog 120 #[ev, .iface 406 (.pointer (some es))] W (fun e w' => e = .returned (.bool (decide (c ≠ 2))) ∧ w' = W) ∧
  (c = 2 → Calls Tryz.prog 120 #[ev, .iface 406 (.pointer (some eb))] W (fun e w' => e = .returned (.bool true) ∧ w' = W))

theorem isE_bare {eb es : Addr} (c : Nat) {W : World} (hX : EnvX eb es W) : IsE (.iface 406 (.pointer (some (erA eb es c)))) es eb c W := by
  obtain ⟨cb, tb, hb⟩ := hX.hb
  obtain ⟨cs, ts, hs⟩ := hX.hs
  by_cases h : c = 2
  · have e1 : erA eb es c = eb := if_pos h
    rw [e1]
    refine ⟨?_, fun _ => is_same eb W⟩
    rw [decide_eq_false (fun k => k h)]
    exact is_other eb es cb cs tb ts W hX.ne hb hs
  · have e1 : erA eb es c = es := if_neg h
    rw [e1]
    refine ⟨?_, fun k => absurd k h⟩
    rw [decide_eq_true h]
    exact is_same es W

theorem isE_fault {eb es : Addr} (g c : Nat) {W : World} (hX : EnvX eb es W) (hg : W.cell? ⟨g, 0, none⟩ = some (.iface 406 (.pointer (some (erA eb es c))))) : IsE (.iface 90 (.pointer (some ⟨g, 0, none⟩))) es eb c W := by
  obtain ⟨cb, tb, hb⟩ := hX.hb
  obtain ⟨cs, ts, hs⟩ := hX.hs
  by_cases h : c = 2
  · have e1 : erA eb es c = eb := if_pos h
    rw [e1] at hg
    refine ⟨?_, fun _ => is_fault_same g eb W hg⟩
    rw [decide_eq_false (fun k => k h)]
    exact is_fault_other g es eb cb cs tb ts W hg hX.ne hb hs
  · have e1 : erA eb es c = es := if_neg h
    rw [e1] at hg
    refine ⟨?_, fun k => absurd k h⟩
    rw [decide_eq_true h]
    exact is_fault_same g es W hg

theorem flt_eq (v : Value) (W : World) : (binOp BinOp.eql 26 (.iface 90 v) .nilIface).run Tryz.prog W = .ok (.bool false) W := by kernel_rfl
theorem flt_ne (v : Value) (W : World) : (binOp BinOp.neq 26 (.iface 90 v) .nilIface).run Tryz.prog W = .ok (.bool true) W := by kernel_rfl

section
variable {eb es : Addr} {w : World}

set_option maxRecDepth 100000 in
theorem code_nil (w : World) : Calls Tryz.prog 60 #[.nilIface] w fun e w' => e = .returned (.tuple #[.int .i64 0, .int .i64 (-1)]) ∧ Kp noB w w' := by
  have hn := nil_eq
  go_enter Tryz.func60, Tryz.ntmps60
  go_wp2_with fail
  go_ret2
  exact ⟨rfl, Kp.refl _ _⟩

set_option maxRecDepth 100000 in
set_option maxHeartbeats 1000000 in
theorem code_bare (hE : Env 406 eb es w) (hX : EnvX eb es w) (c : Nat) :
    Calls Tryz.prog 60 #[.iface 406 (.pointer (some (erA eb es c)))] w fun e w' => e = .returned (.tuple #[.int .i64 (cod c), .int .i64 (-1)]) ∧ Kp noB w w' := by
  have hn := err_eq
  have hk1 : Kp noB w (w.alloc (.cells #[.pointer none] 90)) := (Kp.refl _ _).alloc _
  have HA := Lib.hid (as_miss (erA eb es c) ⟨w.heap.size, 0, none⟩ (w.alloc (.cells #[.pointer none] 90)) (hX.kp hk1).ty)
  obtain ⟨W, hW⟩ : ∃ W, W = asW ⟨w.heap.size, 0, none⟩ (w.alloc (.cells #[.pointer none] 90)) := ⟨_, rfl⟩
  have hk2 : Kp noB w W := by rw [hW]; exact hk1.trans (asW_kp _ _)
  rw [← hW] at HA
  have HI : Hid (∀ W', Kp noB W W' → IsE (.iface 406 (.pointer (some (erA eb es c)))) es eb c W') := Lib.hid fun W' h => isE_bare c ((hX.kp hk2).kp h)
  have g0 := (hE.kp hk2 (fun k _ => noB_not _)).bound
  have g1 := (hE.kp hk2 (fun k _ => noB_not _)).syn
  obtain ⟨v2, g2⟩ := (hX.kp hk2).v2
  obtain ⟨v3, g3⟩ := (hX.kp hk2).v3
  obtain ⟨v4, g4⟩ := (hX.kp hk2).v4
  obtain ⟨v5, g5⟩ := (hX.kp hk2).v5
  obtain ⟨v6, g6⟩ := (hX.kp hk2).v6
  have HK := Lib.hid hk2
  clear hE hX hk1 hk2 hW
  generalize erA eb es c = ea at *
  go_enter Tryz.func60, Tryz.ntmps60
  go_wp2_with fail
  refine HA.out.mono ?_
  rintro e w1 ⟨rfl, rfl⟩
  go_wp2_with fail
  by_cases hc : c = 2
  · have hI := HI.out _ ((Kp.refl noB w1).alloc (.cells #[.iface 406 (.pointer (some es)), .iface 406 (.pointer (some eb)), .iface 406 (.pointer (some v2)), .iface 406 (.pointer (some v3)), .iface 406 (.pointer (some v4)), .iface 406 (.pointer (some v5)), .iface 406 (.pointer (some v6))] 26))
    have H2 := Lib.hid (hI.2 hc)
    have H1 := hI.1
    rw [decide_eq_false (fun k => k hc)] at H1
    have H1 := Lib.hid H1
    have R : Hid (cod c = 2) := Lib.hid (if_pos hc)
    clear hI hc HI
    refine wp_loop_rounds 2 ?_
    rw [rounds_succ]
    go_wp2_with fail
    refine H1.out.mono ?_
    rintro e w2 ⟨rfl, rfl⟩
    go_wp2_with fail
    rw [rounds_succ]
    go_wp2_with fail
    refine H2.out.mono ?_
    rintro e w3 ⟨rfl, rfl⟩
    go_wp2_with fail
    go_ret2
    exact ⟨by rw [R.out]; rfl, HK.out.alloc _⟩
  · have hI := HI.out _ ((Kp.refl noB w1).alloc (.cells #[.iface 406 (.pointer (some es)), .iface 406 (.pointer (some eb)), .iface 406 (.pointer (some v2)), .iface 406 (.pointer (some v3)), .iface 406 (.pointer (some v4)), .iface 406 (.pointer (some v5)), .iface 406 (.pointer (some v6))] 26))
    have H1 := hI.1
    rw [decide_eq_true hc] at H1
    have H1 := Lib.hid H1
    have R : Hid (cod c = 1) := Lib.hid (if_neg hc)
    clear hI hc HI
    refine wp_loop_rounds 1 ?_
    rw [rounds_succ]
    go_wp2_with fail
    refine H1.out.mono ?_
    rintro e w2 ⟨rfl, rfl⟩
    go_wp2_with fail
    go_ret2
    exact ⟨by rw [R.out]; rfl, HK.out.alloc _⟩

set_option maxRecDepth 100000 in
set_option maxHeartbeats 1000000 in
theorem code_fault (hE : Env 406 eb es w) (hX : EnvX eb es w) (c p g : Nat) (hg : w.heap[g]? = some (.cells #[.iface 406 (.pointer (some (erA eb es c))), .int .i64 p] 92 (0, 0))) :
    Calls Tryz.prog 60 #[.iface 90 (.pointer (some ⟨g, 0, none⟩))] w fun e w' => e = .returned (.tuple #[.int .i64 (cod c), .int .i64 p]) ∧ Kp noB w w' := by
  have hn := flt_eq
  have hk1 : Kp noB w (w.alloc (.cells #[.pointer none] 90)) := (Kp.refl _ _).alloc _
  have ht : (w.alloc (.cells #[.pointer none] 90)).heap[w.heap.size]? = some (.cells #[.pointer none] 90 (0, 0)) := heap_alloc_new w _
  have HA := Lib.hid (as_hit ⟨g, 0, none⟩ ⟨w.heap.size, 0, none⟩ (.pointer none) (w.alloc (.cells #[.pointer none] 90)) (hX.kp hk1).ty (by unfold World.cell?; rw [ht]; rfl) (by unfold World.frozen?; rw [ht]; rfl))
  obtain ⟨W, hW⟩ : ∃ W, W = ((asW ⟨w.heap.size, 0, none⟩ (w.alloc (.cells #[.pointer none] 90))).alloc (.cells #[.pointer (some ⟨g, 0, none⟩)] 90)).setCell ⟨w.heap.size, 0, none⟩ (.pointer (some ⟨g, 0, none⟩)) := ⟨_, rfl⟩
  have hkA : Kp noB (w.alloc (.cells #[.pointer none] 90)) ((asW ⟨w.heap.size, 0, none⟩ (w.alloc (.cells #[.pointer none] 90))).alloc (.cells #[.pointer (some ⟨g, 0, none⟩)] 90)) := (asW_kp _ _).alloc _
  have hk2 : Kp noB w W := by rw [hW]; exact (hk1.trans hkA).setCell (.inr (Nat.le_refl _)) _
  have ct : W.cell? ⟨w.heap.size, 0, none⟩ = some (.pointer (some ⟨g, 0, none⟩)) := by
    rw [hW]
    exact World.cell?_setCell_same _ _ _ (hkA.cell (v := .pointer none) (by unfold World.cell?; rw [ht]; rfl) (noB_not _))
  rw [← hW] at HA
  have hg2 := hk2.heap hg (noB_not _)
  have cg0 : W.cell? ⟨g, 0, none⟩ = some (.iface 406 (.pointer (some (erA eb es c)))) := by simp [World.cell?, hg2]
  have cg1 : W.cell? ⟨g, 1, none⟩ = some (.int .i64 p) := by simp [World.cell?, hg2]
  have HI : Hid (∀ W', Kp noB W W' → IsE (.iface 90 (.pointer (some ⟨g, 0, none⟩))) es eb c W') := Lib.hid fun W' h => isE_fault g c ((hX.kp hk2).kp h) (h.cell cg0 (noB_not _))
  have g0 := (hE.kp hk2 (fun k _ => noB_not _)).bound
  have g1 := (hE.kp hk2 (fun k _ => noB_not _)).syn
  obtain ⟨v2, g2⟩ := (hX.kp hk2).v2
  obtain ⟨v3, g3⟩ := (hX.kp hk2).v3
  obtain ⟨v4, g4⟩ := (hX.kp hk2).v4
  obtain ⟨v5, g5⟩ := (hX.kp hk2).v5
  obtain ⟨v6, g6⟩ := (hX.kp hk2).v6
  have HK := Lib.hid hk2
  clear hE hX hk1 hk2 hW ht hkA hg hg2 cg0
  generalize erA eb es c = ea at *
  go_enter Tryz.func60, Tryz.ntmps60
  go_wp2_with fail
  refine HA.out.mono ?_
  rintro e w1 ⟨rfl, rfl⟩
  go_wp2_with fail
  by_cases hc : c = 2
  · have hI := HI.out _ ((Kp.refl noB w1).alloc (.cells #[.iface 406 (.pointer (some es)), .iface 406 (.pointer (some eb)), .iface 406 (.pointer (some v2)), .iface 406 (.pointer (some v3)), .iface 406 (.pointer (some v4)), .iface 406 (.pointer (some v5)), .iface 406 (.pointer (some v6))] 26))
    have H2 := Lib.hid (hI.2 hc)
    have H1 := hI.1
    rw [decide_eq_false (fun k => k hc)] at H1
    have H1 := Lib.hid H1
    have R : Hid (cod c = 2) := Lib.hid (if_pos hc)
    clear hI hc HI
    refine wp_loop_rounds 2 ?_
    rw [rounds_succ]
    go_wp2_with fail
    refine H1.out.mono ?_
    rintro e w2 ⟨rfl, rfl⟩
    go_wp2_with fail
    rw [rounds_succ]
    go_wp2_with fail
    refine H2.out.mono ?_
    rintro e w3 ⟨rfl, rfl⟩
    go_wp2_with fail
    go_ret2
    exact ⟨by rw [R.out]; rfl, HK.out.alloc _⟩
  · have hI := HI.out _ ((Kp.refl noB w1).alloc (.cells #[.iface 406 (.pointer (some es)), .iface 406 (.pointer (some eb)), .iface 406 (.pointer (some v2)), .iface 406 (.pointer (some v3)), .iface 406 (.pointer (some v4)), .iface 406 (.pointer (some v5)), .iface 406 (.pointer (some v6))] 26))
    have H1 := hI.1
    rw [decide_eq_true hc] at H1
    have H1 := Lib.hid H1
    have R : Hid (cod c = 1) := Lib.hid (if_neg hc)
    clear hI hc HI
    refine wp_loop_rounds 1 ?_
    rw [rounds_succ]
    go_wp2_with fail
    refine H1.out.mono ?_
    rintro e w2 ⟨rfl, rfl⟩
    go_wp2_with fail
    go_ret2
    exact ⟨by rw [R.out]; rfl, HK.out.alloc _⟩
end
end Go.Proofs.YtoijabgcgdgacaaGreatDoor

namespace Go.Proofs.YtoijabgcgdgacaaGreatDoor
open Go.RowKit Go.Proofs.Gram Go.Lib

section
variable {eb es : Addr} {s : ByteArray} {w : World}

set_option maxRecDepth 100000 in
theorem told_nil (w : World) : Calls Tryz.prog 21 #[.nilIface, .nilIface, .int .i64 0] w fun e w' => e = .returned (.bool true) ∧ Kp noB w w' := by
  have HC := Lib.hid code_nil
  go_enter Tryz.func21, Tryz.ntmps21
  go_wp2_with fail
  refine (HC.out _).mono ?_
  rintro e w1 ⟨rfl, hk1⟩
  go_wp2_with fail
  refine (HC.out _).mono ?_
  rintro e w2 ⟨rfl, hk2⟩
  go_wp2_with fail
  go_ret
  exact ⟨rfl, hk1.trans hk2⟩

set_option maxRecDepth 100000 in
theorem told_er (hE : Env 406 eb es w) (hX : EnvX eb es w) (c p g : Nat) (hg : w.heap[g]? = some (.cells #[.iface 406 (.pointer (some (erA eb es c))), .int .i64 p] 92 (0, 0))) :
    Calls Tryz.prog 21 #[.iface 90 (.pointer (some ⟨g, 0, none⟩)), .iface 406 (.pointer (some (erA eb es c))), .int .i64 p] w fun e w' => e = .returned (.bool true) ∧ Kp noB w w' := by
  have H1 := Lib.hid (code_fault hE hX c p g hg)
  have H2 : Hid (∀ w1, Kp noB w w1 → Calls Tryz.prog 60 #[.iface 406 (.pointer (some (erA eb es c)))] w1 fun e w' => e = .returned (.tuple #[.int .i64 (cod c), .int .i64 (-1)]) ∧ Kp noB w1 w') := Lib.hid fun w1 hk => code_bare (hE.kp hk (fun k _ => noB_not _)) (hX.kp hk) c
  have HN : Hid (cod c = 1 ∨ cod c = 2) := Lib.hid (by unfold cod; split <;> simp)
  generalize erA eb es c = ea at *
  generalize cod c = n at *
  clear hE hX hg
  rcases HN.out with rfl | rfl
  all_goals
    have b1 : ((p : Int) == (p : Int)) = true := beq_iff_eq.2 rfl
    go_enter Tryz.func21, Tryz.ntmps21
    go_wp2_with fail
    refine H1.out.mono ?_
    rintro e w1 ⟨rfl, hk1⟩
    have H3 := Lib.hid (H2.out w1 hk1)
    go_wp2_with fail
    refine H3.out.mono ?_
    rintro e w2 ⟨rfl, hk2⟩
    go_wp2_with fail
    go_ret
    exact ⟨rfl, hk1.trans hk2⟩

set_option maxRecDepth 100000 in
set_option maxHeartbeats 1000000 in
theorem patRead_any (hE : Env 406 eb es w) (hX : EnvX eb es w) (hmax : s.size ≤ 9223372036854775807) :
    Calls Tryz.prog 5 #[.string s] w fun e w' => e = .returned (.bool true) ∧ Kp noB w w' := by
  by_cases hs : 2000 < s.size
  · have b1 : decide ((s.size : Int) > 2000) = true := decide_eq_true (by omega)
    have b2 : decide ((2000 : Int) < s.size) = true := decide_eq_true (by omega)
    have b3 : (2000 : Int) < s.size := by omega
    clear hE hX hs
    go_enter Tryz.func5, Tryz.ntmps5
    go_wp2_with fail
    go_ret
    exact ⟨rfl, Kp.refl _ _⟩
  · have b1 : decide ((s.size : Int) > 2000) = false := decide_eq_false (by omega)
    have b2 : decide ((2000 : Int) < s.size) = false := decide_eq_false (by omega)
    have b3 : ¬ (2000 : Int) < s.size := by omega
    have HR := Lib.hid (read_any (s := s) hE)
    have HE := Lib.hid hE
    have HX := Lib.hid hX
    have n1 := nil_ne
    have n2 := err_ne
    clear hE hX hs
    go_enter Tryz.func5, Tryz.ntmps5
    go_wp2_with fail
    refine HR.out.mono ?_
    rintro e w1 ⟨r, hr, hk1, hm⟩
    have HRR := Lib.hid hr
    have HK1 := Lib.hid hk1
    have H20 := Lib.hid (rread_any (s := s) (HE.out.kp hk1 (fun k _ => noB_not _)))
    clear hr HR hk1
    cases r with
    | er c p =>
      obtain ⟨g, rfl, hg⟩ := hm
      have HG := Lib.hid hg
      clear hg
      go_wp2_with fail
      refine H20.out.mono ?_
      rintro e w2 ⟨r2, hr2, hk2, hm2⟩
      have e2 := rdd_unique hr2 HRR.out
      subst e2
      obtain rfl : e = .returned (.tuple #[.pointer none, .iface 406 (.pointer (some (erA eb es c))), .int .i64 p]) := hm2
      have hkw := HK1.out.trans hk2
      have HT := Lib.hid (told_er (HE.out.kp hkw (fun k _ => noB_not _)) (HX.out.kp hkw) c p g (hk2.heap HG.out (noB_not _)))
      have HKW := Lib.hid hkw
      clear hr2 hk2 hkw
      generalize erA eb es c = ea at *
      go_wp2_with fail
      refine HT.out.mono ?_
      rintro e w3 ⟨rfl, hk3⟩
      go_wp2_with fail
      go_ret
      exact ⟨rfl, HKW.out.trans hk3⟩
    | ok t p =>
      obtain ⟨v, rfl, hre, hsm⟩ := hm
      have HRE := Lib.hid hre
      have HSM := Lib.hid hsm
      clear hre hsm
      go_wp2_with fail
      refine H20.out.mono ?_
      rintro e w2 ⟨r2, hr2, hk2, hm2⟩
      have e2 := rdd_unique hr2 HRR.out
      subst e2
      obtain ⟨v2, rfl, hre2, hsm2⟩ := hm2
      have HT := Lib.hid (told_nil w2)
      have HK2 := Lib.hid hk2
      have HRE2 := Lib.hid hre2
      clear hr2 hk2 hre2 hsm2
      go_wp2_with fail
      refine HT.out.mono ?_
      rintro e w3 ⟨rfl, hk3⟩
      have HSA := Lib.hid (same_any _ t (Nat.le_refl _) t v v2 _ _ w3 true ((HRE.out.kp HK2.out (fun _ _ _ => noB_not _)).kp hk3 (fun _ _ _ => noB_not _)) (HRE2.out.kp hk3 (fun _ _ _ => noB_not _)) HSM.out HSM.out ⟨fun _ => rfl, fun _ => rfl⟩)
      have HK3 := Lib.hid hk3
      clear hk3
      go_wp2_with fail
      refine HSA.out.mono ?_
      rintro e w4 ⟨rfl, q, rfl⟩
      go_wp2_with fail
      go_ret
      exact ⟨rfl, ((HK1.out.trans HK2.out).trans HK3.out).drewN _⟩
end
end Go.Proofs.YtoijabgcgdgacaaGreatDoor
