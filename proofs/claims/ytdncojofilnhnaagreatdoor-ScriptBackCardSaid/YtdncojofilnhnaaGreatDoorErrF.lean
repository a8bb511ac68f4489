/- errors.As and errors.Is, over chains of errors: what wraps (Wrong, Fault), and what ends a chain (a number, a text). -/
import Derived.Test.YtdncojofilnhnaaGreatDoorBase
import Derived.Test.YtdncojofilnhnaaGreatDoorChecked
import Derived.LaidEql
import Derived.Stop.Asserts
import Derived.RowKitTokens
namespace Go.Proofs.YtdncojofilnhnaaGreatDoor
open Go.RowKit Go.Extern.Stop Go.Stop Go.Extern

/-! ## closed facts on the model's entries for reflectlite -/

theorem typeOf33 (v : Value) (w : World) : (ReflectliteType.typeOf #[.iface 33 v]).run Tryz.prog w = .ok (.iface 144 (.agg #[.pointer (some ⟨10, 33, none⟩)])) w := by kernel_rfl
theorem typeOf42 (v : Value) (w : World) : (ReflectliteType.typeOf #[.iface 42 v]).run Tryz.prog w = .ok (.iface 144 (.agg #[.pointer (some ⟨10, 42, none⟩)])) w := by kernel_rfl
theorem typeOf76 (v : Value) (w : World) : (ReflectliteType.typeOf #[.iface 76 v]).run Tryz.prog w = .ok (.iface 144 (.agg #[.pointer (some ⟨10, 76, none⟩)])) w := by kernel_rfl
theorem typeOf112 (v : Value) (w : World) : (ReflectliteType.typeOf #[.iface 112 v]).run Tryz.prog w = .ok (.iface 144 (.agg #[.pointer (some ⟨10, 112, none⟩)])) w := by kernel_rfl
theorem methodKind (h : Value) (w : World) : (Go.method 348 144 (.agg #[h]) "Kind").run Tryz.prog w = .ok (152, h) w := by kernel_rfl
theorem methodElem (h : Value) (w : World) : (Go.method 348 144 (.agg #[h]) "Elem").run Tryz.prog w = .ok (163, .agg #[h]) w := by kernel_rfl
theorem methodImplements (h : Value) (w : World) : (Go.method 348 144 (.agg #[h]) "Implements").run Tryz.prog w = .ok (164, .agg #[h]) w := by kernel_rfl
theorem methodAssignableTo (h : Value) (w : World) : (Go.method 348 144 (.agg #[h]) "AssignableTo").run Tryz.prog w = .ok (161, .agg #[h]) w := by kernel_rfl
theorem methodComparable (h : Value) (w : World) : (Go.method 348 144 (.agg #[h]) "Comparable").run Tryz.prog w = .ok (162, .agg #[h]) w := by kernel_rfl

theorem rlm (z : Sem Value) (f : TypeId → Addr → Nat → Nat → Sem Value) (v : Value) :
    ReflectliteValue.method z f #[v] = (do match ← ReflectliteValue.parts v with | none => z | some (t, a, fl) => f t a fl (fl % 32)) := rfl
theorem rls (v x : Value) : ReflectliteValue.set #[v, x] = (do
    let (some (dst, a, fl), some (src, b, _)) := (← ReflectliteValue.parts v, ← ReflectliteValue.parts x)
      | unsupported (.noEntry "extern/(internal/reflectlite.Value).Set.zeroValue")
    if fl / ReflectliteValue.flagAddr % 2 == 0 then unsupported (.noEntry "extern/(internal/reflectlite.Value).Set.unaddressable")
    let val ← loadVar src b
    if ← Rtype.directlyAssignable dst src then storeVar dst a val
    else if ← Rtype.implements dst src then
      if (← Rtype.kind src) == 20 then
        match val with
        | .nilIface => unsupported (.noEntry "extern/reflectlite: a nil value of one interface type handed on as a value of another")
        | _ => storeVar dst a val
      else storeVar dst a (.iface src val)
    else panicString ("reflectlite.Set: value of type " ++ (← Rtype.spelt src) ++ " is not assignable to type " ++ (← Rtype.spelt dst))
    pure (.tuple #[])) := rfl


/-! ### the target 91, of 33 -/
theorem valueOf91 (t : Addr) (w : World) : (ReflectliteValue.unpack (.iface 91 (.pointer (some t)))).run Tryz.prog w
    = .ok (.agg #[.pointer (some ⟨10, 91, none⟩), .pointer (some ⟨w.heap.size, 0, none⟩), .int .u64 150]) (w.alloc (.cells #[.pointer (some t)] 91)) := by kernel_rfl
theorem type91 (a : Addr) (w : World) : (ReflectliteValue.methodAny (ReflectliteValue.valueError "reflectlite.Value.Type" 0) (fun t _ _ _ => ReflectliteType.toType t) #[.agg #[.pointer (some ⟨10, 91, none⟩), .pointer (some a), .int .u64 150]]).run Tryz.prog w
    = .ok (.iface 144 (.agg #[.pointer (some ⟨10, 91, none⟩)])) w := by kernel_rfl
theorem kind91 (w : World) : ((ReflectliteType.abiMethod fun t => (fun a : Nat => Value.int IntKind.u8 (a : Int)) <$> Rtype.kind t) #[.pointer (some ⟨10, 91, none⟩)]).run Tryz.prog w = .ok (.int .u8 22) w := by kernel_rfl
theorem kind33 (w : World) : ((ReflectliteType.abiMethod fun t => (fun a : Nat => Value.int IntKind.u8 (a : Int)) <$> Rtype.kind t) #[.pointer (some ⟨10, 33, none⟩)]).run Tryz.prog w = .ok (.int .u8 2) w := by kernel_rfl
theorem parts91 (a : Addr) (w : World) : (ReflectliteValue.parts (.agg #[.pointer (some ⟨10, 91, none⟩), .pointer (some a), .int .u64 150])).run Tryz.prog w = .ok (some (91, a, 150)) w := by kernel_rfl
theorem isNil91 (a q : Addr) (W : World) (ha : W.cell? a = some (.pointer (some q))) :
    (ReflectliteValue.method (ReflectliteValue.valueError "reflectlite.Value.IsNil" 0) ReflectliteValue.isNil #[.agg #[.pointer (some ⟨10, 91, none⟩), .pointer (some a), .int .u64 150]]).run Tryz.prog W = .ok (.bool false) W := by
  rw [rlm]
  simp only [Sem.run_bind, parts91, Result.andThen]
  simp [ReflectliteValue.isNil, loadVar, isAgg, underlying, Tryz.underlying91, ha, Result.andThen]
theorem elem91 (w : World) : (ReflectliteType.method ReflectliteType.elem #[.agg #[.pointer (some ⟨10, 91, none⟩)]]).run Tryz.prog w = .ok (.iface 144 (.agg #[.pointer (some ⟨10, 33, none⟩)])) w := by kernel_rfl
theorem implements33 (w : World) : (ReflectliteType.relation "Implements" ReflectliteType.implements_ #[.agg #[.pointer (some ⟨10, 33, none⟩)], .iface 144 (.agg #[.pointer (some ⟨10, 29, none⟩)])]).run Tryz.prog w = .ok (.bool true) w := by kernel_rfl
theorem elemOf91 (w : World) : (Rtype.elem? 91).run Tryz.prog w = .ok (some 33) w := by kernel_rfl
theorem mk33 (p : Addr) (w : World) : (ReflectliteValue.mk 33 p ReflectliteValue.flagAddr).run Tryz.prog w = .ok (.agg #[.pointer (some ⟨10, 33, none⟩), .pointer (some p), .int .u64 386]) w := by kernel_rfl
theorem elemV91 (a p : Addr) (W : World) (ha : W.cell? a = some (.pointer (some p))) :
    (ReflectliteValue.method (ReflectliteValue.valueError "reflectlite.Value.Elem" 0) ReflectliteValue.elem #[.agg #[.pointer (some ⟨10, 91, none⟩), .pointer (some a), .int .u64 150]]).run Tryz.prog W
      = .ok (.agg #[.pointer (some ⟨10, 33, none⟩), .pointer (some p), .int .u64 386]) W := by
  rw [rlm]
  simp only [Sem.run_bind, parts91, Result.andThen]
  simp [ReflectliteValue.elem, loadVar, isAgg, underlying, Tryz.underlying91, ha, Result.andThen, elemOf91, mk33]
theorem valueOf33 (x : Int) (w : World) : (ReflectliteValue.unpack (.iface 33 (.int .i64 x))).run Tryz.prog w
    = .ok (.agg #[.pointer (some ⟨10, 33, none⟩), .pointer (some ⟨w.heap.size, 0, none⟩), .int .u64 130]) (w.alloc (.cells #[.int .i64 x] 33)) := by kernel_rfl
theorem parts33a (a : Addr) (w : World) : (ReflectliteValue.parts (.agg #[.pointer (some ⟨10, 33, none⟩), .pointer (some a), .int .u64 386])).run Tryz.prog w = .ok (some (33, a, 386)) w := by kernel_rfl
theorem parts33 (a : Addr) (w : World) : (ReflectliteValue.parts (.agg #[.pointer (some ⟨10, 33, none⟩), .pointer (some a), .int .u64 130])).run Tryz.prog w = .ok (some (33, a, 130)) w := by kernel_rfl
theorem direct33 (w : World) : (Rtype.directlyAssignable 33 33).run Tryz.prog w = .ok true w := by kernel_rfl
theorem set33 (ta b : Addr) (x : Int) (old : Value) (W : World) (hb : W.cell? b = some (.int .i64 x)) (ht : W.cell? ta = some old) (hf : W.frozen? ta = false) :
    (ReflectliteValue.set #[.agg #[.pointer (some ⟨10, 33, none⟩), .pointer (some ta), .int .u64 386], .agg #[.pointer (some ⟨10, 33, none⟩), .pointer (some b), .int .u64 130]]).run Tryz.prog W
      = .ok (.tuple #[]) (W.setCell ta (.int .i64 x)) := by
  rw [rls]
  simp only [Sem.run_bind, parts33a, parts33, Result.andThen]
  simp [ReflectliteValue.flagAddr, loadVar, isAgg, underlying, Tryz.underlying33, hb, Result.andThen, direct33, storeVar, Value.cells, storeCells, Addr.add]
  rw [run_store Tryz.prog W ta _ _ (by rfl)]
  simp [ht, hf]
theorem assign33to33 (w : World) : (ReflectliteType.relation "AssignableTo" ReflectliteType.assignableTo #[.agg #[.pointer (some ⟨10, 33, none⟩)], .iface 144 (.agg #[.pointer (some ⟨10, 33, none⟩)])]).run Tryz.prog w = .ok (.bool true) w := by kernel_rfl
theorem assign42to33 (w : World) : (ReflectliteType.relation "AssignableTo" ReflectliteType.assignableTo #[.agg #[.pointer (some ⟨10, 42, none⟩)], .iface 144 (.agg #[.pointer (some ⟨10, 33, none⟩)])]).run Tryz.prog w = .ok (.bool false) w := by kernel_rfl
theorem assign76to33 (w : World) : (ReflectliteType.relation "AssignableTo" ReflectliteType.assignableTo #[.agg #[.pointer (some ⟨10, 76, none⟩)], .iface 144 (.agg #[.pointer (some ⟨10, 33, none⟩)])]).run Tryz.prog w = .ok (.bool false) w := by kernel_rfl
theorem assign112to33 (w : World) : (ReflectliteType.relation "AssignableTo" ReflectliteType.assignableTo #[.agg #[.pointer (some ⟨10, 112, none⟩)], .iface 144 (.agg #[.pointer (some ⟨10, 33, none⟩)])]).run Tryz.prog w = .ok (.bool false) w := by kernel_rfl

/-! ### the target 46, of 42 -/
theorem valueOf46 (t : Addr) (w : World) : (ReflectliteValue.unpack (.iface 46 (.pointer (some t)))).run Tryz.prog w
    = .ok (.agg #[.pointer (some ⟨10, 46, none⟩), .pointer (some ⟨w.heap.size, 0, none⟩), .int .u64 150]) (w.alloc (.cells #[.pointer (some t)] 46)) := by kernel_rfl
theorem type46 (a : Addr) (w : World) : (ReflectliteValue.methodAny (ReflectliteValue.valueError "reflectlite.Value.Type" 0) (fun t _ _ _ => ReflectliteType.toType t) #[.agg #[.pointer (some ⟨10, 46, none⟩), .pointer (some a), .int .u64 150]]).run Tryz.prog w
    = .ok (.iface 144 (.agg #[.pointer (some ⟨10, 46, none⟩)])) w := by kernel_rfl
theorem kind46 (w : World) : ((ReflectliteType.abiMethod fun t => (fun a : Nat => Value.int IntKind.u8 (a : Int)) <$> Rtype.kind t) #[.pointer (some ⟨10, 46, none⟩)]).run Tryz.prog w = .ok (.int .u8 22) w := by kernel_rfl
theorem kind42 (w : World) : ((ReflectliteType.abiMethod fun t => (fun a : Nat => Value.int IntKind.u8 (a : Int)) <$> Rtype.kind t) #[.pointer (some ⟨10, 42, none⟩)]).run Tryz.prog w = .ok (.int .u8 22) w := by kernel_rfl
theorem parts46 (a : Addr) (w : World) : (ReflectliteValue.parts (.agg #[.pointer (some ⟨10, 46, none⟩), .pointer (some a), .int .u64 150])).run Tryz.prog w = .ok (some (46, a, 150)) w := by kernel_rfl
theorem isNil46 (a q : Addr) (W : World) (ha : W.cell? a = some (.pointer (some q))) :
    (ReflectliteValue.method (ReflectliteValue.valueError "reflectlite.Value.IsNil" 0) ReflectliteValue.isNil #[.agg #[.pointer (some ⟨10, 46, none⟩), .pointer (some a), .int .u64 150]]).run Tryz.prog W = .ok (.bool false) W := by
  rw [rlm]
  simp only [Sem.run_bind, parts46, Result.andThen]
  simp [ReflectliteValue.isNil, loadVar, isAgg, underlying, Tryz.underlying46, ha, Result.andThen]
theorem elem46 (w : World) : (ReflectliteType.method ReflectliteType.elem #[.agg #[.pointer (some ⟨10, 46, none⟩)]]).run Tryz.prog w = .ok (.iface 144 (.agg #[.pointer (some ⟨10, 42, none⟩)])) w := by kernel_rfl
theorem implements42 (w : World) : (ReflectliteType.relation "Implements" ReflectliteType.implements_ #[.agg #[.pointer (some ⟨10, 42, none⟩)], .iface 144 (.agg #[.pointer (some ⟨10, 29, none⟩)])]).run Tryz.prog w = .ok (.bool true) w := by kernel_rfl
theorem elemOf46 (w : World) : (Rtype.elem? 46).run Tryz.prog w = .ok (some 42) w := by kernel_rfl
theorem mk42 (p : Addr) (w : World) : (ReflectliteValue.mk 42 p ReflectliteValue.flagAddr).run Tryz.prog w = .ok (.agg #[.pointer (some ⟨10, 42, none⟩), .pointer (some p), .int .u64 406]) w := by kernel_rfl
theorem elemV46 (a p : Addr) (W : World) (ha : W.cell? a = some (.pointer (some p))) :
    (ReflectliteValue.method (ReflectliteValue.valueError "reflectlite.Value.Elem" 0) ReflectliteValue.elem #[.agg #[.pointer (some ⟨10, 46, none⟩), .pointer (some a), .int .u64 150]]).run Tryz.prog W
      = .ok (.agg #[.pointer (some ⟨10, 42, none⟩), .pointer (some p), .int .u64 406]) W := by
  rw [rlm]
  simp only [Sem.run_bind, parts46, Result.andThen]
  simp [ReflectliteValue.elem, loadVar, isAgg, underlying, Tryz.underlying46, ha, Result.andThen, elemOf46, mk42]
theorem valueOf42 (x : Addr) (w : World) : (ReflectliteValue.unpack (.iface 42 (.pointer (some x)))).run Tryz.prog w
    = .ok (.agg #[.pointer (some ⟨10, 42, none⟩), .pointer (some ⟨w.heap.size, 0, none⟩), .int .u64 150]) (w.alloc (.cells #[.pointer (some x)] 42)) := by kernel_rfl
theorem parts42a (a : Addr) (w : World) : (ReflectliteValue.parts (.agg #[.pointer (some ⟨10, 42, none⟩), .pointer (some a), .int .u64 406])).run Tryz.prog w = .ok (some (42, a, 406)) w := by kernel_rfl
theorem parts42 (a : Addr) (w : World) : (ReflectliteValue.parts (.agg #[.pointer (some ⟨10, 42, none⟩), .pointer (some a), .int .u64 150])).run Tryz.prog w = .ok (some (42, a, 150)) w := by kernel_rfl
theorem direct42 (w : World) : (Rtype.directlyAssignable 42 42).run Tryz.prog w = .ok true w := by kernel_rfl
theorem set42 (ta b : Addr) (x : Addr) (old : Value) (W : World) (hb : W.cell? b = some (.pointer (some x))) (ht : W.cell? ta = some old) (hf : W.frozen? ta = false) :
    (ReflectliteValue.set #[.agg #[.pointer (some ⟨10, 42, none⟩), .pointer (some ta), .int .u64 406], .agg #[.pointer (some ⟨10, 42, none⟩), .pointer (some b), .int .u64 150]]).run Tryz.prog W
      = .ok (.tuple #[]) (W.setCell ta (.pointer (some x))) := by
  rw [rls]
  simp only [Sem.run_bind, parts42a, parts42, Result.andThen]
  simp [ReflectliteValue.flagAddr, loadVar, isAgg, underlying, Tryz.underlying42, hb, Result.andThen, direct42, storeVar, Value.cells, storeCells, Addr.add]
  rw [run_store Tryz.prog W ta _ _ (by rfl)]
  simp [ht, hf]
theorem assign33to42 (w : World) : (ReflectliteType.relation "AssignableTo" ReflectliteType.assignableTo #[.agg #[.pointer (some ⟨10, 33, none⟩)], .iface 144 (.agg #[.pointer (some ⟨10, 42, none⟩)])]).run Tryz.prog w = .ok (.bool false) w := by kernel_rfl
theorem assign42to42 (w : World) : (ReflectliteType.relation "AssignableTo" ReflectliteType.assignableTo #[.agg #[.pointer (some ⟨10, 42, none⟩)], .iface 144 (.agg #[.pointer (some ⟨10, 42, none⟩)])]).run Tryz.prog w = .ok (.bool true) w := by kernel_rfl
theorem assign76to42 (w : World) : (ReflectliteType.relation "AssignableTo" ReflectliteType.assignableTo #[.agg #[.pointer (some ⟨10, 76, none⟩)], .iface 144 (.agg #[.pointer (some ⟨10, 42, none⟩)])]).run Tryz.prog w = .ok (.bool false) w := by kernel_rfl
theorem assign112to42 (w : World) : (ReflectliteType.relation "AssignableTo" ReflectliteType.assignableTo #[.agg #[.pointer (some ⟨10, 112, none⟩)], .iface 144 (.agg #[.pointer (some ⟨10, 42, none⟩)])]).run Tryz.prog w = .ok (.bool false) w := by kernel_rfl

/-! ### the target 77, of 76 -/
theorem valueOf77 (t : Addr) (w : World) : (ReflectliteValue.unpack (.iface 77 (.pointer (some t)))).run Tryz.prog w
    = .ok (.agg #[.pointer (some ⟨10, 77, none⟩), .pointer (some ⟨w.heap.size, 0, none⟩), .int .u64 150]) (w.alloc (.cells #[.pointer (some t)] 77)) := by kernel_rfl
theorem type77 (a : Addr) (w : World) : (ReflectliteValue.methodAny (ReflectliteValue.valueError "reflectlite.Value.Type" 0) (fun t _ _ _ => ReflectliteType.toType t) #[.agg #[.pointer (some ⟨10, 77, none⟩), .pointer (some a), .int .u64 150]]).run Tryz.prog w
    = .ok (.iface 144 (.agg #[.pointer (some ⟨10, 77, none⟩)])) w := by kernel_rfl
theorem kind77 (w : World) : ((ReflectliteType.abiMethod fun t => (fun a : Nat => Value.int IntKind.u8 (a : Int)) <$> Rtype.kind t) #[.pointer (some ⟨10, 77, none⟩)]).run Tryz.prog w = .ok (.int .u8 22) w := by kernel_rfl
theorem kind76 (w : World) : ((ReflectliteType.abiMethod fun t => (fun a : Nat => Value.int IntKind.u8 (a : Int)) <$> Rtype.kind t) #[.pointer (some ⟨10, 76, none⟩)]).run Tryz.prog w = .ok (.int .u8 22) w := by kernel_rfl
theorem parts77 (a : Addr) (w : World) : (ReflectliteValue.parts (.agg #[.pointer (some ⟨10, 77, none⟩), .pointer (some a), .int .u64 150])).run Tryz.prog w = .ok (some (77, a, 150)) w := by kernel_rfl
theorem isNil77 (a q : Addr) (W : World) (ha : W.cell? a = some (.pointer (some q))) :
    (ReflectliteValue.method (ReflectliteValue.valueError "reflectlite.Value.IsNil" 0) ReflectliteValue.isNil #[.agg #[.pointer (some ⟨10, 77, none⟩), .pointer (some a), .int .u64 150]]).run Tryz.prog W = .ok (.bool false) W := by
  rw [rlm]
  simp only [Sem.run_bind, parts77, Result.andThen]
  simp [ReflectliteValue.isNil, loadVar, isAgg, underlying, Tryz.underlying77, ha, Result.andThen]
theorem elem77 (w : World) : (ReflectliteType.method ReflectliteType.elem #[.agg #[.pointer (some ⟨10, 77, none⟩)]]).run Tryz.prog w = .ok (.iface 144 (.agg #[.pointer (some ⟨10, 76, none⟩)])) w := by kernel_rfl
theorem implements76 (w : World) : (ReflectliteType.relation "Implements" ReflectliteType.implements_ #[.agg #[.pointer (some ⟨10, 76, none⟩)], .iface 144 (.agg #[.pointer (some ⟨10, 29, none⟩)])]).run Tryz.prog w = .ok (.bool true) w := by kernel_rfl
theorem elemOf77 (w : World) : (Rtype.elem? 77).run Tryz.prog w = .ok (some 76) w := by kernel_rfl
theorem mk76 (p : Addr) (w : World) : (ReflectliteValue.mk 76 p ReflectliteValue.flagAddr).run Tryz.prog w = .ok (.agg #[.pointer (some ⟨10, 76, none⟩), .pointer (some p), .int .u64 406]) w := by kernel_rfl
theorem elemV77 (a p : Addr) (W : World) (ha : W.cell? a = some (.pointer (some p))) :
    (ReflectliteValue.method (ReflectliteValue.valueError "reflectlite.Value.Elem" 0) ReflectliteValue.elem #[.agg #[.pointer (some ⟨10, 77, none⟩), .pointer (some a), .int .u64 150]]).run Tryz.prog W
      = .ok (.agg #[.pointer (some ⟨10, 76, none⟩), .pointer (some p), .int .u64 406]) W := by
  rw [rlm]
  simp only [Sem.run_bind, parts77, Result.andThen]
  simp [ReflectliteValue.elem, loadVar, isAgg, underlying, Tryz.underlying77, ha, Result.andThen, elemOf77, mk76]
theorem valueOf76 (x : Addr) (w : World) : (ReflectliteValue.unpack (.iface 76 (.pointer (some x)))).run Tryz.prog w
    = .ok (.agg #[.pointer (some ⟨10, 76, none⟩), .pointer (some ⟨w.heap.size, 0, none⟩), .int .u64 150]) (w.alloc (.cells #[.pointer (some x)] 76)) := by kernel_rfl
theorem parts76a (a : Addr) (w : World) : (ReflectliteValue.parts (.agg #[.pointer (some ⟨10, 76, none⟩), .pointer (some a), .int .u64 406])).run Tryz.prog w = .ok (some (76, a, 406)) w := by kernel_rfl
theorem parts76 (a : Addr) (w : World) : (ReflectliteValue.parts (.agg #[.pointer (some ⟨10, 76, none⟩), .pointer (some a), .int .u64 150])).run Tryz.prog w = .ok (some (76, a, 150)) w := by kernel_rfl
theorem direct76 (w : World) : (Rtype.directlyAssignable 76 76).run Tryz.prog w = .ok true w := by kernel_rfl
theorem set76 (ta b : Addr) (x : Addr) (old : Value) (W : World) (hb : W.cell? b = some (.pointer (some x))) (ht : W.cell? ta = some old) (hf : W.frozen? ta = false) :
    (ReflectliteValue.set #[.agg #[.pointer (some ⟨10, 76, none⟩), .pointer (some ta), .int .u64 406], .agg #[.pointer (some ⟨10, 76, none⟩), .pointer (some b), .int .u64 150]]).run Tryz.prog W
      = .ok (.tuple #[]) (W.setCell ta (.pointer (some x))) := by
  rw [rls]
  simp only [Sem.run_bind, parts76a, parts76, Result.andThen]
  simp [ReflectliteValue.flagAddr, loadVar, isAgg, underlying, Tryz.underlying76, hb, Result.andThen, direct76, storeVar, Value.cells, storeCells, Addr.add]
  rw [run_store Tryz.prog W ta _ _ (by rfl)]
  simp [ht, hf]
theorem assign33to76 (w : World) : (ReflectliteType.relation "AssignableTo" ReflectliteType.assignableTo #[.agg #[.pointer (some ⟨10, 33, none⟩)], .iface 144 (.agg #[.pointer (some ⟨10, 76, none⟩)])]).run Tryz.prog w = .ok (.bool false) w := by kernel_rfl
theorem assign42to76 (w : World) : (ReflectliteType.relation "AssignableTo" ReflectliteType.assignableTo #[.agg #[.pointer (some ⟨10, 42, none⟩)], .iface 144 (.agg #[.pointer (some ⟨10, 76, none⟩)])]).run Tryz.prog w = .ok (.bool false) w := by kernel_rfl
theorem assign76to76 (w : World) : (ReflectliteType.relation "AssignableTo" ReflectliteType.assignableTo #[.agg #[.pointer (some ⟨10, 76, none⟩)], .iface 144 (.agg #[.pointer (some ⟨10, 76, none⟩)])]).run Tryz.prog w = .ok (.bool true) w := by kernel_rfl
theorem assign112to76 (w : World) : (ReflectliteType.relation "AssignableTo" ReflectliteType.assignableTo #[.agg #[.pointer (some ⟨10, 112, none⟩)], .iface 144 (.agg #[.pointer (some ⟨10, 76, none⟩)])]).run Tryz.prog w = .ok (.bool false) w := by kernel_rfl

/-! ## the assertions of errors.as and errors.is -/
theorem noAs33 (v : Value) (xT : TypeId) (w : World) : (Instr.typeAssert (.iface 33 v) xT 156 true).run Tryz.prog w = .ok (.tuple #[.nilIface, .bool false]) w := run_typeAssert_lacksB Tryz.underlying156 (by kernel_rfl) (by kernel_rfl) v xT w
theorem noIs33 (v : Value) (xT : TypeId) (w : World) : (Instr.typeAssert (.iface 33 v) xT 146 true).run Tryz.prog w = .ok (.tuple #[.nilIface, .bool false]) w := run_typeAssert_lacksB Tryz.underlying146 (by kernel_rfl) (by kernel_rfl) v xT w
theorem noUnwrap33 (v : Value) (xT : TypeId) (w : World) : (Instr.typeAssert (.iface 33 v) xT 149 true).run Tryz.prog w = .ok (.tuple #[.nilIface, .bool false]) w := run_typeAssert_lacksB Tryz.underlying149 (by kernel_rfl) (by kernel_rfl) v xT w
theorem noUnwraps33 (v : Value) (xT : TypeId) (w : World) : (Instr.typeAssert (.iface 33 v) xT 150 true).run Tryz.prog w = .ok (.tuple #[.nilIface, .bool false]) w := run_typeAssert_lacksB Tryz.underlying150 (by kernel_rfl) (by kernel_rfl) v xT w
theorem noAs42 (v : Value) (xT : TypeId) (w : World) : (Instr.typeAssert (.iface 42 v) xT 156 true).run Tryz.prog w = .ok (.tuple #[.nilIface, .bool false]) w := run_typeAssert_lacksB Tryz.underlying156 (by kernel_rfl) (by kernel_rfl) v xT w
theorem noIs42 (v : Value) (xT : TypeId) (w : World) : (Instr.typeAssert (.iface 42 v) xT 146 true).run Tryz.prog w = .ok (.tuple #[.nilIface, .bool false]) w := run_typeAssert_lacksB Tryz.underlying146 (by kernel_rfl) (by kernel_rfl) v xT w
theorem hasUnwrap42 (v : Value) (xT : TypeId) (w : World) : (Instr.typeAssert (.iface 42 v) xT 149 true).run Tryz.prog w = .ok (.tuple #[.iface 42 v, .bool true]) w := run_typeAssert_hasB Tryz.underlying149 (by kernel_rfl) v xT w
theorem noUnwraps42 (v : Value) (xT : TypeId) (w : World) : (Instr.typeAssert (.iface 42 v) xT 150 true).run Tryz.prog w = .ok (.tuple #[.nilIface, .bool false]) w := run_typeAssert_lacksB Tryz.underlying150 (by kernel_rfl) (by kernel_rfl) v xT w
theorem noAs76 (v : Value) (xT : TypeId) (w : World) : (Instr.typeAssert (.iface 76 v) xT 156 true).run Tryz.prog w = .ok (.tuple #[.nilIface, .bool false]) w := run_typeAssert_lacksB Tryz.underlying156 (by kernel_rfl) (by kernel_rfl) v xT w
theorem noIs76 (v : Value) (xT : TypeId) (w : World) : (Instr.typeAssert (.iface 76 v) xT 146 true).run Tryz.prog w = .ok (.tuple #[.nilIface, .bool false]) w := run_typeAssert_lacksB Tryz.underlying146 (by kernel_rfl) (by kernel_rfl) v xT w
theorem hasUnwrap76 (v : Value) (xT : TypeId) (w : World) : (Instr.typeAssert (.iface 76 v) xT 149 true).run Tryz.prog w = .ok (.tuple #[.iface 76 v, .bool true]) w := run_typeAssert_hasB Tryz.underlying149 (by kernel_rfl) v xT w
theorem noUnwraps76 (v : Value) (xT : TypeId) (w : World) : (Instr.typeAssert (.iface 76 v) xT 150 true).run Tryz.prog w = .ok (.tuple #[.nilIface, .bool false]) w := run_typeAssert_lacksB Tryz.underlying150 (by kernel_rfl) (by kernel_rfl) v xT w
theorem noAs112 (v : Value) (xT : TypeId) (w : World) : (Instr.typeAssert (.iface 112 v) xT 156 true).run Tryz.prog w = .ok (.tuple #[.nilIface, .bool false]) w := run_typeAssert_lacksB Tryz.underlying156 (by kernel_rfl) (by kernel_rfl) v xT w
theorem noIs112 (v : Value) (xT : TypeId) (w : World) : (Instr.typeAssert (.iface 112 v) xT 146 true).run Tryz.prog w = .ok (.tuple #[.nilIface, .bool false]) w := run_typeAssert_lacksB Tryz.underlying146 (by kernel_rfl) (by kernel_rfl) v xT w
theorem noUnwrap112 (v : Value) (xT : TypeId) (w : World) : (Instr.typeAssert (.iface 112 v) xT 149 true).run Tryz.prog w = .ok (.tuple #[.nilIface, .bool false]) w := run_typeAssert_lacksB Tryz.underlying149 (by kernel_rfl) (by kernel_rfl) v xT w
theorem noUnwraps112 (v : Value) (xT : TypeId) (w : World) : (Instr.typeAssert (.iface 112 v) xT 150 true).run Tryz.prog w = .ok (.tuple #[.nilIface, .bool false]) w := run_typeAssert_lacksB Tryz.underlying150 (by kernel_rfl) (by kernel_rfl) v xT w
theorem methodUnwrap42 (v : Value) (w : World) : (Go.method 348 42 v "Unwrap").run Tryz.prog w = .ok (22, v) w := by kernel_rfl
theorem methodUnwrap76 (v : Value) (w : World) : (Go.method 348 76 v "Unwrap").run Tryz.prog w = .ok (33, v) w := by kernel_rfl

end Go.Proofs.YtdncojofilnhnaaGreatDoor