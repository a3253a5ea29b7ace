import Derived.Test.YtcgjdljhpcjmeaaDoorRows
import Derived.WalkKit
import Derived.WalkSpells
import Derived.WalkLawsBesides
import Derived.LaidEql
import Derived.Stop.Asserts
import Derived.RowKitTokens
namespace Go.Proofs.YtcgjdljhpcjmeaaDoor
open Go.RowKit Go.Extern.Stop Go.Stop Go.Extern
theorem T.valueOf82 (t : Addr) (w : World) : (ReflectliteValue.unpack (.iface 82 (.pointer (some t)))).run Tryd.prog w
    = .ok (.agg #[.pointer (some ⟨4, 82, none⟩), .pointer (some ⟨w.heap.size, 0, none⟩), .int .u64 150]) (w.alloc (.cells #[.pointer (some t)] 82)) := by kernel_rfl
theorem T.type82 (a : Addr) (w : World) : (ReflectliteValue.methodAny (ReflectliteValue.valueError "reflectlite.Value.Type" 0) (fun t _ _ _ => ReflectliteType.toType t) #[.agg #[.pointer (some ⟨4, 82, none⟩), .pointer (some a), .int .u64 150]]).run Tryd.prog w
    = .ok (.iface 141 (.agg #[.pointer (some ⟨4, 82, none⟩)])) w := by kernel_rfl
theorem T.typeOf38 (v : Value) (w : World) : (ReflectliteType.typeOf #[.iface 38 v]).run Tryd.prog w = .ok (.iface 141 (.agg #[.pointer (some ⟨4, 38, none⟩)])) w := by kernel_rfl
theorem T.typeOf108 (v : Value) (w : World) : (ReflectliteType.typeOf #[.iface 108 v]).run Tryd.prog w = .ok (.iface 141 (.agg #[.pointer (some ⟨4, 108, none⟩)])) w := by kernel_rfl
theorem T.assignable38 (w : World) : (ReflectliteType.relation "AssignableTo" ReflectliteType.assignableTo #[.agg #[.pointer (some ⟨4, 38, none⟩)], .iface 141 (.agg #[.pointer (some ⟨4, 38, none⟩)])]).run Tryd.prog w = .ok (.bool true) w := by kernel_rfl
theorem T.assignable108 (w : World) : (ReflectliteType.relation "AssignableTo" ReflectliteType.assignableTo #[.agg #[.pointer (some ⟨4, 108, none⟩)], .iface 141 (.agg #[.pointer (some ⟨4, 38, none⟩)])]).run Tryd.prog w = .ok (.bool false) w := by kernel_rfl
theorem T.valueOf38 (k : Int) (w : World) : (ReflectliteValue.unpack (.iface 38 (.int .i64 k))).run Tryd.prog w
    = .ok (.agg #[.pointer (some ⟨4, 38, none⟩), .pointer (some ⟨w.heap.size, 0, none⟩), .int .u64 130]) (w.alloc (.cells #[.int .i64 k] 38)) := by kernel_rfl
theorem T.methodAs (v : Value) (w : World) : (Instr.typeAssert (.iface 108 v) 28 145 true).run Tryd.prog w = .ok (.tuple #[.nilIface, .bool false]) w :=
  run_typeAssert_lacksB Tryd.underlying145 (by kernel_rfl) (by kernel_rfl) v 28 w
theorem T.assertUnwrap (v : Value) (w : World) : (Instr.typeAssert (.iface 108 v) 28 148 true).run Tryd.prog w = .ok (.tuple #[.iface 108 v, .bool true]) w :=
  run_typeAssert_hasB Tryd.underlying148 (by kernel_rfl) v 28 w
theorem T.asWrapped (v : Value) (w : World) : (Instr.typeAssert (.iface 108 v) 28 108 true).run Tryd.prog w = .ok (.tuple #[v, .bool true]) w := by kernel_rfl
theorem T.asErrno (v : Value) (w : World) : (Instr.typeAssert (.iface 38 v) 28 108 true).run Tryd.prog w = .ok (.tuple #[.pointer none, .bool false]) w := by kernel_rfl
theorem T.elem82 (w : World) : (ReflectliteType.method ReflectliteType.elem #[.agg #[.pointer (some ⟨4, 82, none⟩)]]).run Tryd.prog w = .ok (.iface 141 (.agg #[.pointer (some ⟨4, 38, none⟩)])) w := by kernel_rfl
theorem T.implements38 (w : World) : (ReflectliteType.relation "Implements" ReflectliteType.implements_ #[.agg #[.pointer (some ⟨4, 38, none⟩)], .iface 141 (.agg #[.pointer (some ⟨4, 28, none⟩)])]).run Tryd.prog w = .ok (.bool true) w := by kernel_rfl
theorem T.kind82 (w : World) : ((ReflectliteType.abiMethod fun t => (fun a : Nat => Value.int IntKind.u8 (a : Int)) <$> Rtype.kind t) #[.pointer (some ⟨4, 82, none⟩)]).run Tryd.prog w = .ok (.int .u8 22) w := by kernel_rfl
theorem T.kind38 (w : World) : ((ReflectliteType.abiMethod fun t => (fun a : Nat => Value.int IntKind.u8 (a : Int)) <$> Rtype.kind t) #[.pointer (some ⟨4, 38, none⟩)]).run Tryd.prog w = .ok (.int .u8 2) w := by kernel_rfl
theorem T.methodKind (h : Value) (w : World) : (Go.method 317 141 (.agg #[h]) "Kind").run Tryd.prog w = .ok (125, h) w := by kernel_rfl
theorem T.methodElem (h : Value) (w : World) : (Go.method 317 141 (.agg #[h]) "Elem").run Tryd.prog w = .ok (136, .agg #[h]) w := by kernel_rfl
theorem T.methodImplements (h : Value) (w : World) : (Go.method 317 141 (.agg #[h]) "Implements").run Tryd.prog w = .ok (137, .agg #[h]) w := by kernel_rfl
theorem T.methodAssignableTo (h : Value) (w : World) : (Go.method 317 141 (.agg #[h]) "AssignableTo").run Tryd.prog w = .ok (134, .agg #[h]) w := by kernel_rfl
theorem T.methodUnwrap (h : Addr) (w : World) : (Go.method 317 108 (.pointer (some h)) "Unwrap").run Tryd.prog w = .ok (129, .pointer (some h)) w := by kernel_rfl
theorem T.parts82 (a : Addr) (w : World) : (ReflectliteValue.parts (.agg #[.pointer (some ⟨4, 82, none⟩), .pointer (some a), .int .u64 150])).run Tryd.prog w = .ok (some (82, a, 150)) w := by kernel_rfl
theorem T.elemOf82 (w : World) : (Rtype.elem? 82).run Tryd.prog w = .ok (some 38) w := by kernel_rfl
theorem T.mk38 (p : Addr) (w : World) : (ReflectliteValue.mk 38 p ReflectliteValue.flagAddr).run Tryd.prog w = .ok (.agg #[.pointer (some ⟨4, 38, none⟩), .pointer (some p), .int .u64 386]) w := by kernel_rfl
theorem T.parts38a (a : Addr) (w : World) : (ReflectliteValue.parts (.agg #[.pointer (some ⟨4, 38, none⟩), .pointer (some a), .int .u64 386])).run Tryd.prog w = .ok (some (38, a, 386)) w := by kernel_rfl
theorem T.parts38 (a : Addr) (w : World) : (ReflectliteValue.parts (.agg #[.pointer (some ⟨4, 38, none⟩), .pointer (some a), .int .u64 130])).run Tryd.prog w = .ok (some (38, a, 130)) w := by kernel_rfl
theorem T.direct38 (w : World) : (Rtype.directlyAssignable 38 38).run Tryd.prog w = .ok true w := by kernel_rfl
theorem T.size38 (w : World) : (sizeOf 38).run Tryd.prog w = .ok 1 w := by kernel_rfl
theorem rlm (z : Sem Value) (f : TypeId → Addr → Nat → Nat → Sem Value) (v : Value) :
    ReflectliteValue.method z f #[v] = (do match ← ReflectliteValue.parts v with | none => z | some (t, a, fl) => f t a fl (fl % 32)) := rfl
theorem T.isNil82 (a p : Addr) (W : World) (ha : W.cell? a = some (.pointer (some p))) :
    (ReflectliteValue.method (ReflectliteValue.valueError "reflectlite.Value.IsNil" 0) ReflectliteValue.isNil #[.agg #[.pointer (some ⟨4, 82, none⟩), .pointer (some a), .int .u64 150]]).run Tryd.prog W = .ok (.bool false) W := by
  rw [rlm]
  simp only [Sem.run_bind, T.parts82, Result.andThen]
  simp [ReflectliteValue.isNil, loadVar, isAgg, underlying, Tryd.underlying82, ha, Result.andThen]
theorem T.elemV82 (a p : Addr) (W : World) (ha : W.cell? a = some (.pointer (some p))) :
    (ReflectliteValue.method (ReflectliteValue.valueError "reflectlite.Value.Elem" 0) ReflectliteValue.elem #[.agg #[.pointer (some ⟨4, 82, none⟩), .pointer (some a), .int .u64 150]]).run Tryd.prog W
      = .ok (.agg #[.pointer (some ⟨4, 38, none⟩), .pointer (some p), .int .u64 386]) W := by
  rw [rlm]
  simp only [Sem.run_bind, T.parts82, Result.andThen]
  simp [ReflectliteValue.elem, loadVar, isAgg, underlying, Tryd.underlying82, ha, Result.andThen, T.elemOf82, T.mk38]
theorem rls (v x : Value) : ReflectliteValue.set #[v, x] = (do
    let (some (dst, a, fl), some (src, b, _)) := (← ReflectliteValue.parts v, ← ReflectliteValue.parts x)
      | unsupported (.noEntry "extern/(internal/reflectlite.Value).Set.zeroValue")
    if fl / ReflectliteValue.flagAddr % 2 == 0 then unsupported (.noEntry "extern/(internal/reflectlite.Value).Set.unaddressable")
    let val ← loadVar src b
    if ← Rtype.directlyAssignable dst src then storeVar dst a val
    else if ← Rtype.implements dst src then
      if (← Rtype.kind src) == 20 then
        match val with
        | .nilIface => unsupported (.noEntry "extern/reflectlite: a nil value of one interface type handed on as a value of another")
        | _ => storeVar dst a val
      else storeVar dst a (.iface src val)
    else panicString ("reflectlite.Set: value of type " ++ (← Rtype.spelt src) ++ " is not assignable to type " ++ (← Rtype.spelt dst))
    pure (.tuple #[])) := rfl
theorem T.set38 (ta b : Addr) (k : Int) (old : Value) (W : World) (hb : W.cell? b = some (.int .i64 k)) (ht : W.cell? ta = some old) (hf : W.frozen? ta = false) :
    (ReflectliteValue.set #[.agg #[.pointer (some ⟨4, 38, none⟩), .pointer (some ta), .int .u64 386], .agg #[.pointer (some ⟨4, 38, none⟩), .pointer (some b), .int .u64 130]]).run Tryd.prog W
      = .ok (.tuple #[]) (W.setCell ta (.int .i64 k)) := by
  rw [rls]
  simp only [Sem.run_bind, T.parts38a, T.parts38, Result.andThen]
  simp [ReflectliteValue.flagAddr, loadVar, isAgg, underlying, Tryd.underlying38, hb, Result.andThen, T.direct38, storeVar, Value.cells, storeCells, Addr.add]
  rw [run_store Tryd.prog W ta _ _ (by rfl)]
  simp [ht, hf]
end Go.Proofs.YtcgjdljhpcjmeaaDoor
