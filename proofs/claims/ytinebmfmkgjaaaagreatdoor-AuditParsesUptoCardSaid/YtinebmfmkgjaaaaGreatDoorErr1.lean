/- errors.As and errors.Is at a diagnosis. -/
import Derived.Test.YtinebmfmkgjaaaaGreatDoorLex6
import Derived.LaidEql
import Derived.Stop.Asserts
import Derived.RowKitTokens
set_option linter.unusedVariables false
set_option linter.unusedSimpArgs false
namespace Go.Proofs.YtinebmfmkgjaaaaGreatDoor
open Go.RowKit Go.Extern.Stop Go.Stop Go.Extern

theorem rf_valueOf (t : Addr) (w : World) : (ReflectliteValue.unpack (.iface 78 (.pointer (some t)))).run Tryz.prog w
    = .ok (.agg #[.pointer (some ⟨9, 78, none⟩), .pointer (some ⟨w.heap.size, 0, none⟩), .int .u64 150]) (w.alloc (.cells #[.pointer (some t)] 78)) := by kernel_rfl
theorem rf_type (a : Addr) (w : World) : (ReflectliteValue.methodAny (ReflectliteValue.valueError "reflectlite.Value.Type" 0) (fun t _ _ _ => ReflectliteType.toType t) #[.agg #[.pointer (some ⟨9, 78, none⟩), .pointer (some a), .int .u64 150]]).run Tryz.prog w
    = .ok (.iface 128 (.agg #[.pointer (some ⟨9, 78, none⟩)])) w := by kernel_rfl
theorem rf_methodKind (h : Value) (w : World) : (Go.method 338 128 (.agg #[h]) "Kind").run Tryz.prog w = .ok (136, h) w := by kernel_rfl
theorem rf_kindP (w : World) : ((ReflectliteType.abiMethod fun t => (fun a : Nat => Value.int IntKind.u8 (a : Int)) <$> Rtype.kind t) #[.pointer (some ⟨9, 78, none⟩)]).run Tryz.prog w = .ok (.int .u8 22) w := by kernel_rfl
theorem rf_kindD (w : World) : ((ReflectliteType.abiMethod fun t => (fun a : Nat => Value.int IntKind.u8 (a : Int)) <$> Rtype.kind t) #[.pointer (some ⟨9, 33, none⟩)]).run Tryz.prog w = .ok (.int .u8 25) w := by kernel_rfl
theorem rf_rlm (z : Sem Value) (f : TypeId → Addr → Nat → Nat → Sem Value) (v : Value) :
    ReflectliteValue.method z f #[v] = (do match ← ReflectliteValue.parts v with | none => z | some (t, a, fl) => f t a fl (fl % 32)) := rfl
theorem rf_partsP (a : Addr) (w : World) : (ReflectliteValue.parts (.agg #[.pointer (some ⟨9, 78, none⟩), .pointer (some a), .int .u64 150])).run Tryz.prog w = .ok (some (78, a, 150)) w := by kernel_rfl
theorem rf_isNil (a p : Addr) (W : World) (ha : W.cell? a = some (.pointer (some p))) :
    (ReflectliteValue.method (ReflectliteValue.valueError "reflectlite.Value.IsNil" 0) ReflectliteValue.isNil #[.agg #[.pointer (some ⟨9, 78, none⟩), .pointer (some a), .int .u64 150]]).run Tryz.prog W = .ok (.bool false) W := by
  rw [rf_rlm]
  simp only [Sem.run_bind, rf_partsP, Result.andThen]
  simp [ReflectliteValue.isNil, loadVar, isAgg, underlying, Tryz.underlying78, ha, Result.andThen]
theorem rf_methodElem (h : Value) (w : World) : (Go.method 338 128 (.agg #[h]) "Elem").run Tryz.prog w = .ok (150, .agg #[h]) w := by kernel_rfl
theorem rf_methodImplements (h : Value) (w : World) : (Go.method 338 128 (.agg #[h]) "Implements").run Tryz.prog w = .ok (151, .agg #[h]) w := by kernel_rfl
theorem rf_methodAssignable (h : Value) (w : World) : (Go.method 338 128 (.agg #[h]) "AssignableTo").run Tryz.prog w = .ok (148, .agg #[h]) w := by kernel_rfl
theorem rf_elem (w : World) : (ReflectliteType.method ReflectliteType.elem #[.agg #[.pointer (some ⟨9, 78, none⟩)]]).run Tryz.prog w = .ok (.iface 128 (.agg #[.pointer (some ⟨9, 33, none⟩)])) w := by kernel_rfl
theorem rf_implements (w : World) : (ReflectliteType.relation "Implements" ReflectliteType.implements_ #[.agg #[.pointer (some ⟨9, 33, none⟩)], .iface 128 (.agg #[.pointer (some ⟨9, 25, none⟩)])]).run Tryz.prog w = .ok (.bool true) w := by kernel_rfl
theorem rf_typeOf (v : Value) (w : World) : (ReflectliteType.typeOf #[.iface 33 v]).run Tryz.prog w = .ok (.iface 128 (.agg #[.pointer (some ⟨9, 33, none⟩)])) w := by kernel_rfl
theorem rf_assignable (w : World) : (ReflectliteType.relation "AssignableTo" ReflectliteType.assignableTo #[.agg #[.pointer (some ⟨9, 33, none⟩)], .iface 128 (.agg #[.pointer (some ⟨9, 33, none⟩)])]).run Tryz.prog w = .ok (.bool true) w := by kernel_rfl
theorem rf_valueOfD (c l k : Int) (n : ByteArray) (w : World) : (ReflectliteValue.unpack (.iface 33 (.agg #[.int .i64 c, .int .i64 l, .int .i64 k, .string n]))).run Tryz.prog w
    = .ok (.agg #[.pointer (some ⟨9, 33, none⟩), .pointer (some ⟨w.heap.size, 0, none⟩), .int .u64 153]) (w.alloc (.cells #[.int .i64 c, .int .i64 l, .int .i64 k, .string n] 33)) := by kernel_rfl
theorem rf_elemOf (w : World) : (Rtype.elem? 78).run Tryz.prog w = .ok (some 33) w := by kernel_rfl
theorem rf_mk (p : Addr) (w : World) : (ReflectliteValue.mk 33 p ReflectliteValue.flagAddr).run Tryz.prog w = .ok (.agg #[.pointer (some ⟨9, 33, none⟩), .pointer (some p), .int .u64 409]) w := by kernel_rfl
theorem rf_elemV (a p : Addr) (W : World) (ha : W.cell? a = some (.pointer (some p))) :
    (ReflectliteValue.method (ReflectliteValue.valueError "reflectlite.Value.Elem" 0) ReflectliteValue.elem #[.agg #[.pointer (some ⟨9, 78, none⟩), .pointer (some a), .int .u64 150]]).run Tryz.prog W
      = .ok (.agg #[.pointer (some ⟨9, 33, none⟩), .pointer (some p), .int .u64 409]) W := by
  rw [rf_rlm]
  simp only [Sem.run_bind, rf_partsP, Result.andThen]
  simp [ReflectliteValue.elem, loadVar, isAgg, underlying, Tryz.underlying78, ha, Result.andThen, rf_elemOf, rf_mk]
theorem rf_rls (v x : Value) : ReflectliteValue.set #[v, x] = (do
    let (some (dst, a, fl), some (src, b, _)) := (← ReflectliteValue.parts v, ← ReflectliteValue.parts x)
      | unsupported (.noEntry "extern/(internal/reflectlite.Value).Set.zeroValue")
    if fl / ReflectliteValue.flagAddr % 2 == 0 then unsupported (.noEntry "extern/(internal/reflectlite.Value).Set.unaddressable")
    let val ← loadVar src b
    if ← Rtype.directlyAssignable dst src then storeVar dst a val
    else if ← Rtype.implements dst src then
      if (← Rtype.kind src) == 20 then
        match val with
        | .nilIface => unsupported (.noEntry "extern/reflectlite: a nil value of one interface type handed on as a value of another")
        | _ => storeVar dst a val
      else storeVar dst a (.iface src val)
    else panicString ("reflectlite.Set: value of type " ++ (← Rtype.spelt src) ++ " is not assignable to type " ++ (← Rtype.spelt dst))
    pure (.tuple #[])) := rfl
theorem rf_partsA (a : Addr) (w : World) : (ReflectliteValue.parts (.agg #[.pointer (some ⟨9, 33, none⟩), .pointer (some a), .int .u64 409])).run Tryz.prog w = .ok (some (33, a, 409)) w := by kernel_rfl
theorem rf_partsD (a : Addr) (w : World) : (ReflectliteValue.parts (.agg #[.pointer (some ⟨9, 33, none⟩), .pointer (some a), .int .u64 153])).run Tryz.prog w = .ok (some (33, a, 153)) w := by kernel_rfl
theorem rf_direct (w : World) : (Rtype.directlyAssignable 33 33).run Tryz.prog w = .ok true w := by kernel_rfl
theorem rf_size (w : World) : (sizeOf 33).run Tryz.prog w = .ok 4 w := by kernel_rfl
theorem rf_isAgg (w : World) : (isAgg 33).run Tryz.prog w = .ok true w := by kernel_rfl
theorem rf_load (b : Nat) (c l k : Int) (n : ByteArray) (W : World) (hb : W.heap[b]? = some (.cells #[.int .i64 c, .int .i64 l, .int .i64 k, .string n] 33)) :
    (loadVar 33 ⟨b, 0, none⟩).run Tryz.prog W = .ok (.agg #[.int .i64 c, .int .i64 l, .int .i64 k, .string n]) W := by
  have h := run_loadCells_list (P := Tryz.prog) (w := W) ⟨b, 0, none⟩ [.int .i64 c, .int .i64 l, .int .i64 k, .string n] (World.news_of_block hb)
  have h' : (loadCells ⟨b, 0, none⟩ 4).run Tryz.prog W = .ok #[.int .i64 c, .int .i64 l, .int .i64 k, .string n] W := by simpa using h
  simp only [loadVar, Sem.run_bind, rf_isAgg, Result.andThen, rf_size]
  simp [Result.andThen, h']
theorem store_one {W : World} {b : Nat} {cs : Array Value} {t : TypeId} (hb : W.heap[b]? = some (.cells cs t)) (i : Nat) (h : i < cs.size) (v : Value) (hv : v.oneCell' = true) : (store ⟨b, i, none⟩ v).run Tryz.prog W = .ok () (W.setCell ⟨b, i, none⟩ v) := by
  rw [run_store Tryz.prog W _ _ _ hv]
  have hc : W.cell? ⟨b, i, none⟩ = some cs[i] := by simp [World.cell?, hb, h]
  simp [hc, frozenOf hb]
theorem rf_store (b : Nat) (c l k : Int) (n : ByteArray) (o0 o1 o2 o3 : Value) (W : World) (hb : W.heap[b]? = some (.cells #[o0, o1, o2, o3] 33)) :
    (storeVar 33 ⟨b, 0, none⟩ (.agg #[.int .i64 c, .int .i64 l, .int .i64 k, .string n])).run Tryz.prog W = .ok () ((((W.setCell ⟨b, 0, none⟩ (.int .i64 c)).setCell ⟨b, 1, none⟩ (.int .i64 l)).setCell ⟨b, 2, none⟩ (.int .i64 k)).setCell ⟨b, 3, none⟩ (.string n)) := by
  have s0 := store_one hb 0 (by simp) (.int .i64 c) rfl
  have s1 := store_one (setc hb 0 (.int .i64 c)) 1 (by simp) (.int .i64 l) rfl
  have s2 := store_one (setc (setc hb 0 (.int .i64 c)) 1 (.int .i64 l)) 2 (by simp) (.int .i64 k) rfl
  have s3 := store_one (setc (setc (setc hb 0 (.int .i64 c)) 1 (.int .i64 l)) 2 (.int .i64 k)) 3 (by simp) (.string n) rfl
  simp only [storeVar, Sem.run_bind, rf_size, Result.andThen]
  simp [Value.cells, storeCells, Addr.add, s0, s1, s2, s3, Result.andThen]
theorem rf_set (ta b : Nat) (c l k : Int) (n : ByteArray) (o0 o1 o2 o3 : Value) (W : World) (hb : W.heap[b]? = some (.cells #[.int .i64 c, .int .i64 l, .int .i64 k, .string n] 33)) (ht : W.heap[ta]? = some (.cells #[o0, o1, o2, o3] 33)) :
    (ReflectliteValue.set #[.agg #[.pointer (some ⟨9, 33, none⟩), .pointer (some ⟨ta, 0, none⟩), .int .u64 409], .agg #[.pointer (some ⟨9, 33, none⟩), .pointer (some ⟨b, 0, none⟩), .int .u64 153]]).run Tryz.prog W
      = .ok (.tuple #[]) ((((W.setCell ⟨ta, 0, none⟩ (.int .i64 c)).setCell ⟨ta, 1, none⟩ (.int .i64 l)).setCell ⟨ta, 2, none⟩ (.int .i64 k)).setCell ⟨ta, 3, none⟩ (.string n)) := by
  rw [rf_rls]
  simp only [Sem.run_bind, rf_partsA, rf_partsD, Result.andThen]
  simp [ReflectliteValue.flagAddr, rf_load b c l k n W hb, Result.andThen, rf_direct, rf_store ta c l k n o0 o1 o2 o3 W ht]
end Go.Proofs.YtinebmfmkgjaaaaGreatDoor
