/- errors.As and errors.Is at a diagnosis: the calls. -/
import Derived.Test.YtmeacgmjpjjphaaGreatDoorMLex
import Derived.LaidEql
import Derived.Stop.Asserts
import Derived.RowKitTokens
set_option linter.unusedVariables false
set_option linter.unusedSimpArgs false
namespace Go.Proofs.YtmeacgmjpjjphaaGreatDoor
open Go.RowKit Go.Extern.Stop Go.Stop Go.Extern

theorem rf_valueOf (t : Addr) (w : World) : (ReflectliteValue.unpack (.iface 74 (.pointer (some t)))).run Tryz.prog w
    = .ok (.agg #[.pointer (some ⟨9, 74, none⟩), .pointer (some ⟨w.heap.size, 0, none⟩), .int .u64 150]) (w.alloc (.cells #[.pointer (some t)] 74)) := by kernel_rfl
theorem rf_type (a : Addr) (w : World) : (ReflectliteValue.methodAny (ReflectliteValue.valueError "reflectlite.Value.Type" 0) (fun t _ _ _ => ReflectliteType.toType t) #[.agg #[.pointer (some ⟨9, 74, none⟩), .pointer (some a), .int .u64 150]]).run Tryz.prog w
    = .ok (.iface 149 (.agg #[.pointer (some ⟨9, 74, none⟩)])) w := by kernel_rfl
theorem rf_methodKind (h : Value) (w : World) : (Go.method 370 149 (.agg #[h]) "Kind").run Tryz.prog w = .ok (194, h) w := by kernel_rfl
theorem rf_kindP (w : World) : ((ReflectliteType.abiMethod fun t => (fun a : Nat => Value.int IntKind.u8 (a : Int)) <$> Rtype.kind t) #[.pointer (some ⟨9, 74, none⟩)]).run Tryz.prog w = .ok (.int .u8 22) w := by kernel_rfl
theorem rf_kindD (w : World) : ((ReflectliteType.abiMethod fun t => (fun a : Nat => Value.int IntKind.u8 (a : Int)) <$> Rtype.kind t) #[.pointer (some ⟨9, 41, none⟩)]).run Tryz.prog w = .ok (.int .u8 25) w := by kernel_rfl
theorem rf_rlm (z : Sem Value) (f : TypeId → Addr → Nat → Nat → Sem Value) (v : Value) :
    ReflectliteValue.method z f #[v] = (do match ← ReflectliteValue.parts v with | none => z | some (t, a, fl) => f t a fl (fl % 32)) := rfl
theorem rf_partsP (a : Addr) (w : World) : (ReflectliteValue.parts (.agg #[.pointer (some ⟨9, 74, none⟩), .pointer (some a), .int .u64 150])).run Tryz.prog w = .ok (some (74, a, 150)) w := by kernel_rfl
theorem rf_isNil (a p : Addr) (W : World) (ha : W.cell? a = some (.pointer (some p))) :
    (ReflectliteValue.method (ReflectliteValue.valueError "reflectlite.Value.IsNil" 0) ReflectliteValue.isNil #[.agg #[.pointer (some ⟨9, 74, none⟩), .pointer (some a), .int .u64 150]]).run Tryz.prog W = .ok (.bool false) W := by
  rw [rf_rlm]
  simp only [Sem.run_bind, rf_partsP, Result.andThen]
  simp [ReflectliteValue.isNil, loadVar, isAgg, underlying, Tryz.underlying74, ha, Result.andThen]
theorem rf_methodElem (h : Value) (w : World) : (Go.method 370 149 (.agg #[h]) "Elem").run Tryz.prog w = .ok (206, .agg #[h]) w := by kernel_rfl
theorem rf_methodImplements (h : Value) (w : World) : (Go.method 370 149 (.agg #[h]) "Implements").run Tryz.prog w = .ok (207, .agg #[h]) w := by kernel_rfl
theorem rf_methodAssignable (h : Value) (w : World) : (Go.method 370 149 (.agg #[h]) "AssignableTo").run Tryz.prog w = .ok (204, .agg #[h]) w := by kernel_rfl
theorem rf_elem (w : World) : (ReflectliteType.method ReflectliteType.elem #[.agg #[.pointer (some ⟨9, 74, none⟩)]]).run Tryz.prog w = .ok (.iface 149 (.agg #[.pointer (some ⟨9, 41, none⟩)])) w := by kernel_rfl
theorem rf_implements (w : World) : (ReflectliteType.relation "Implements" ReflectliteType.implements_ #[.agg #[.pointer (some ⟨9, 41, none⟩)], .iface 149 (.agg #[.pointer (some ⟨9, 25, none⟩)])]).run Tryz.prog w = .ok (.bool true) w := by kernel_rfl
theorem rf_typeOf (v : Value) (w : World) : (ReflectliteType.typeOf #[.iface 41 v]).run Tryz.prog w = .ok (.iface 149 (.agg #[.pointer (some ⟨9, 41, none⟩)])) w := by kernel_rfl
theorem rf_assignable (w : World) : (ReflectliteType.relation "AssignableTo" ReflectliteType.assignableTo #[.agg #[.pointer (some ⟨9, 41, none⟩)], .iface 149 (.agg #[.pointer (some ⟨9, 41, none⟩)])]).run Tryz.prog w = .ok (.bool true) w := by kernel_rfl
theorem rf_valueOfD (c l k : Int) (n : ByteArray) (w : World) : (ReflectliteValue.unpack (.iface 41 (.agg #[.int .i64 c, .int .i64 l, .int .i64 k, .string n]))).run Tryz.prog w
    = .ok (.agg #[.pointer (some ⟨9, 41, none⟩), .pointer (some ⟨w.heap.size, 0, none⟩), .int .u64 153]) (w.alloc (.cells #[.int .i64 c, .int .i64 l, .int .i64 k, .string n] 41)) := by kernel_rfl
theorem rf_elemOf (w : World) : (Rtype.elem? 74).run Tryz.prog w = .ok (some 41) w := by kernel_rfl
theorem rf_mk (p : Addr) (w : World) : (ReflectliteValue.mk 41 p ReflectliteValue.flagAddr).run Tryz.prog w = .ok (.agg #[.pointer (some ⟨9, 41, none⟩), .pointer (some p), .int .u64 409]) w := by kernel_rfl
theorem rf_elemV (a p : Addr) (W : World) (ha : W.cell? a = some (.pointer (some p))) :
    (ReflectliteValue.method (ReflectliteValue.valueError "reflectlite.Value.Elem" 0) ReflectliteValue.elem #[.agg #[.pointer (some ⟨9, 74, none⟩), .pointer (some a), .int .u64 150]]).run Tryz.prog W
      = .ok (.agg #[.pointer (some ⟨9, 41, none⟩), .pointer (some p), .int .u64 409]) W := by
  rw [rf_rlm]
  simp only [Sem.run_bind, rf_partsP, Result.andThen]
  simp [ReflectliteValue.elem, loadVar, isAgg, underlying, Tryz.underlying74, ha, Result.andThen, rf_elemOf, rf_mk]
theorem rf_rls (v x : Value) : ReflectliteValue.set #[v, x] = (do
    let (some (dst, a, fl), some (src, b, _)) := (← ReflectliteValue.parts v, ← ReflectliteValue.parts x)
      | unsupported (.noEntry "extern/(internal/reflectlite.Value).Set.zeroValue")
    if fl / ReflectliteValue.flagAddr % 2 == 0 then unsupported (.noEntry "extern/(internal/reflectlite.Value).Set.unaddressable")
    let val ← loadVar src b
    if ← Rtype.directlyAssignable dst src then storeVar dst a val
    else if ← Rtype.implements dst src then
      if (← Rtype.kind src) == 20 then
        match val with
        | .nilIface => unsupported (.noEntry "extern/reflectlite: a nil value of one interface type handed on as a value of another")
        | _ => storeVar dst a val
      else storeVar dst a (.iface src val)
    else panicString ("reflectlite.Set: value of type " ++ (← Rtype.spelt src) ++ " is not assignable to type " ++ (← Rtype.spelt dst))
    pure (.tuple #[])) := rfl
theorem rf_partsA (a : Addr) (w : World) : (ReflectliteValue.parts (.agg #[.pointer (some ⟨9, 41, none⟩), .pointer (some a), .int .u64 409])).run Tryz.prog w = .ok (some (41, a, 409)) w := by kernel_rfl
theorem rf_partsD (a : Addr) (w : World) : (ReflectliteValue.parts (.agg #[.pointer (some ⟨9, 41, none⟩), .pointer (some a), .int .u64 153])).run Tryz.prog w = .ok (some (41, a, 153)) w := by kernel_rfl
theorem rf_direct (w : World) : (Rtype.directlyAssignable 41 41).run Tryz.prog w = .ok true w := by kernel_rfl
theorem rf_size (w : World) : (sizeOf 41).run Tryz.prog w = .ok 4 w := by kernel_rfl
theorem rf_isAgg (w : World) : (isAgg 41).run Tryz.prog w = .ok true w := by kernel_rfl
theorem rf_load (b : Nat) (c l k : Int) (n : ByteArray) (W : World) (hb : W.heap[b]? = some (.cells #[.int .i64 c, .int .i64 l, .int .i64 k, .string n] 41)) :
    (loadVar 41 ⟨b, 0, none⟩).run Tryz.prog W = .ok (.agg #[.int .i64 c, .int .i64 l, .int .i64 k, .string n]) W := by
  have h := run_loadCells_list (P := Tryz.prog) (w := W) ⟨b, 0, none⟩ [.int .i64 c, .int .i64 l, .int .i64 k, .string n] (World.news_of_block hb)
  have h' : (loadCells ⟨b, 0, none⟩ 4).run Tryz.prog W = .ok #[.int .i64 c, .int .i64 l, .int .i64 k, .string n] W := by simpa using h
  simp only [loadVar, Sem.run_bind, rf_isAgg, Result.andThen, rf_size]
  simp [Result.andThen, h']
theorem store_one {W : World} {b : Nat} {cs : Array Value} {t : TypeId} (hb : W.heap[b]? = some (.cells cs t)) (i : Nat) (h : i < cs.size) (v : Value) (hv : v.oneCell' = true) : (store ⟨b, i, none⟩ v).run Tryz.prog W = .ok () (W.setCell ⟨b, i, none⟩ v) := by
  rw [run_store Tryz.prog W _ _ _ hv]
  have hc : W.cell? ⟨b, i, none⟩ = some cs[i] := by simp [World.cell?, hb, h]
  simp [hc, frozenOf hb]
theorem rf_store (b : Nat) (c l k : Int) (n : ByteArray) (o0 o1 o2 o3 : Value) (W : World) (hb : W.heap[b]? = some (.cells #[o0, o1, o2, o3] 41)) :
    (storeVar 41 ⟨b, 0, none⟩ (.agg #[.int .i64 c, .int .i64 l, .int .i64 k, .string n])).run Tryz.prog W = .ok () ((((W.setCell ⟨b, 0, none⟩ (.int .i64 c)).setCell ⟨b, 1, none⟩ (.int .i64 l)).setCell ⟨b, 2, none⟩ (.int .i64 k)).setCell ⟨b, 3, none⟩ (.string n)) := by
  have s0 := store_one hb 0 (by simp) (.int .i64 c) rfl
  have s1 := store_one (setc hb 0 (.int .i64 c)) 1 (by simp) (.int .i64 l) rfl
  have s2 := store_one (setc (setc hb 0 (.int .i64 c)) 1 (.int .i64 l)) 2 (by simp) (.int .i64 k) rfl
  have s3 := store_one (setc (setc (setc hb 0 (.int .i64 c)) 1 (.int .i64 l)) 2 (.int .i64 k)) 3 (by simp) (.string n) rfl
  simp only [storeVar, Sem.run_bind, rf_size, Result.andThen]
  simp [Value.cells, storeCells, Addr.add, s0, s1, s2, s3, Result.andThen]
theorem rf_set (ta b : Nat) (c l k : Int) (n : ByteArray) (o0 o1 o2 o3 : Value) (W : World) (hb : W.heap[b]? = some (.cells #[.int .i64 c, .int .i64 l, .int .i64 k, .string n] 41)) (ht : W.heap[ta]? = some (.cells #[o0, o1, o2, o3] 41)) :
    (ReflectliteValue.set #[.agg #[.pointer (some ⟨9, 41, none⟩), .pointer (some ⟨ta, 0, none⟩), .int .u64 409], .agg #[.pointer (some ⟨9, 41, none⟩), .pointer (some ⟨b, 0, none⟩), .int .u64 153]]).run Tryz.prog W
      = .ok (.tuple #[]) ((((W.setCell ⟨ta, 0, none⟩ (.int .i64 c)).setCell ⟨ta, 1, none⟩ (.int .i64 l)).setCell ⟨ta, 2, none⟩ (.int .i64 k)).setCell ⟨ta, 3, none⟩ (.string n)) := by
  rw [rf_rls]
  simp only [Sem.run_bind, rf_partsA, rf_partsD, Result.andThen]
  simp [ReflectliteValue.flagAddr, rf_load b c l k n W hb, Result.andThen, rf_direct, rf_store ta c l k n o0 o1 o2 o3 W ht]
end Go.Proofs.YtmeacgmjpjjphaaGreatDoor
namespace Go.Proofs.YtmeacgmjpjjphaaGreatDoor
open Go.RowKit Go.Extern.Stop Go.Stop Go.Extern

set_option maxRecDepth 100000 in
set_option maxHeartbeats 8000000 in
theorem as_hit (c l k : Int) (n : ByteArray) (o0 o1 o2 o3 : Value) (b : Nat) (w : World) (hg : w.cell? ⟨0, 0, none⟩ = some (.iface 149 (.agg #[.pointer (some ⟨9, 25, none⟩)]))) (ht : w.heap[b]? = some (.cells #[o0, o1, o2, o3] 41)) :
    Calls Tryz.prog 28 #[.iface 41 (.agg #[.int .i64 c, .int .i64 l, .int .i64 k, .string n]), .iface 74 (.pointer (some ⟨b, 0, none⟩))] w fun ev w' => ev = .returned (.bool true) ∧ w'.heap[b]? = some (.cells #[.int .i64 c, .int .i64 l, .int .i64 k, .string n] 41) ∧ Turn b w w' := by
  have h6 := @run_callFunc_extern Tryz.prog 51 _ (fun args => ReflectliteValue.unpack (args.getD 0 (.tuple #[]))) Tryz.func51 (by kernel_rfl) (by kernel_rfl) (by kernel_rfl) (by kernel_rfl)
  have h7 := @run_callFunc_extern Tryz.prog 52 _ (ReflectliteValue.methodAny (ReflectliteValue.valueError "reflectlite.Value.Type" 0) (fun t _ _ _ => ReflectliteType.toType t)) Tryz.func52 (by kernel_rfl) (by kernel_rfl) (by kernel_rfl) (by kernel_rfl)
  have h8 := @run_callFunc_extern Tryz.prog 53 _ (ReflectliteValue.method (ReflectliteValue.valueError "reflectlite.Value.IsNil" 0) ReflectliteValue.isNil) Tryz.func53 (by kernel_rfl) (by kernel_rfl) (by kernel_rfl) (by kernel_rfl)
  have h27 := @run_callFunc_extern Tryz.prog 194 _ (ReflectliteType.abiMethod fun t => do pure (.int .u8 (← Rtype.kind t))) Tryz.func194 (by kernel_rfl) (by kernel_rfl) (by kernel_rfl) (by kernel_rfl)
  have h37 := @run_callFunc_extern Tryz.prog 206 _ (ReflectliteType.method ReflectliteType.elem) Tryz.func206 (by kernel_rfl) (by kernel_rfl) (by kernel_rfl) (by kernel_rfl)
  have h38 := @run_callFunc_extern Tryz.prog 207 _ (ReflectliteType.relation "Implements" ReflectliteType.implements_) Tryz.func207 (by kernel_rfl) (by kernel_rfl) (by kernel_rfl) (by kernel_rfl)
  have h10 := @run_callFunc_extern Tryz.prog 55 _ ReflectliteType.typeOf Tryz.func55 (by kernel_rfl) (by kernel_rfl) (by kernel_rfl) (by kernel_rfl)
  have h35 := @run_callFunc_extern Tryz.prog 204 _ (ReflectliteType.relation "AssignableTo" ReflectliteType.assignableTo) Tryz.func204 (by kernel_rfl) (by kernel_rfl) (by kernel_rfl) (by kernel_rfl)
  have h11 := @run_callFunc_extern Tryz.prog 80 _ (ReflectliteValue.method (ReflectliteValue.valueError "reflectlite.Value.Elem" 0) ReflectliteValue.elem) Tryz.func80 (by kernel_rfl) (by kernel_rfl) (by kernel_rfl) (by kernel_rfl)
  have h12 := @run_callFunc_extern Tryz.prog 81 _ ReflectliteValue.set Tryz.func81 (by kernel_rfl) (by kernel_rfl) (by kernel_rfl) (by kernel_rfl)
  have tO := rf_typeOf
  have mA := rf_methodAssignable
  have a25 := rf_assignable
  have v25 := rf_valueOfD
  have f6 := rf_valueOf
  have f7 := rf_type
  have mK := rf_methodKind
  have mE := rf_methodElem
  have mI := rf_methodImplements
  have k27 := rf_kindP
  have k25 := rf_kindD
  have e27 := rf_elem
  have i25 := rf_implements
  have hbl := heap_lt ht
  have h0lt : 0 < w.heap.size := cell_lt hg
  have n8 := rf_isNil ⟨w.heap.size, 0, none⟩ ⟨b, 0, none⟩ ((w.alloc (.cells #[.pointer (some ⟨b, 0, none⟩)] 74)).alloc (.cells #[.pointer (some ⟨9, 74, none⟩), .pointer (some ⟨w.heap.size, 0, none⟩), .int .u64 150] 113)) (by simp)
  have hg2 : ((w.alloc (.cells #[.pointer (some ⟨b, 0, none⟩)] 74)).alloc (.cells #[.pointer (some ⟨9, 74, none⟩), .pointer (some ⟨w.heap.size, 0, none⟩), .int .u64 150] 113)).cell? ⟨0, 0, none⟩ = some (.iface 149 (.agg #[.pointer (some ⟨9, 25, none⟩)])) := by
    rw [World.cell?_alloc_lt _ _ ⟨0, 0, none⟩ (by simp), World.cell?_alloc_lt _ _ ⟨0, 0, none⟩ h0lt]; exact hg
  have el := rf_elemV ⟨w.heap.size, 0, none⟩ ⟨b, 0, none⟩ (((w.alloc (.cells #[.pointer (some ⟨b, 0, none⟩)] 74)).alloc (.cells #[.pointer (some ⟨9, 74, none⟩), .pointer (some ⟨w.heap.size, 0, none⟩), .int .u64 150] 113)).alloc (.cells #[.pointer (some ⟨9, 74, none⟩), .pointer (some ⟨w.heap.size, 0, none⟩), .int .u64 150] 113)) (by rw [World.cell?_alloc_lt _ _ ⟨w.heap.size, 0, none⟩ (by simp; omega)]; simp)
  have H4 := Lib.hid (show ((((w.alloc (.cells #[.pointer (some ⟨b, 0, none⟩)] 74)).alloc (.cells #[.pointer (some ⟨9, 74, none⟩), .pointer (some ⟨w.heap.size, 0, none⟩), .int .u64 150] 113)).alloc (.cells #[.pointer (some ⟨9, 74, none⟩), .pointer (some ⟨w.heap.size, 0, none⟩), .int .u64 150] 113)).alloc (.cells #[.int .i64 c, .int .i64 l, .int .i64 k, .string n] 41)).heap[b]? = some (.cells #[o0, o1, o2, o3] 41) by
    rw [Below.heap_alloc _ _ _ (by simp; omega), Below.heap_alloc _ _ _ (by simp; omega), Below.heap_alloc _ _ _ (by simp; omega), Below.heap_alloc _ _ _ hbl]; exact ht)
  have st := rf_set b (w.heap.size + 1 + 1 + 1) c l k n o0 o1 o2 o3 ((((w.alloc (.cells #[.pointer (some ⟨b, 0, none⟩)] 74)).alloc (.cells #[.pointer (some ⟨9, 74, none⟩), .pointer (some ⟨w.heap.size, 0, none⟩), .int .u64 150] 113)).alloc (.cells #[.pointer (some ⟨9, 74, none⟩), .pointer (some ⟨w.heap.size, 0, none⟩), .int .u64 150] 113)).alloc (.cells #[.int .i64 c, .int .i64 l, .int .i64 k, .string n] 41)) (lastk _ _ (by simp)) H4.out
  have HTN := Lib.hid (show Turn b w ((((w.alloc (.cells #[.pointer (some ⟨b, 0, none⟩)] 74)).alloc (.cells #[.pointer (some ⟨9, 74, none⟩), .pointer (some ⟨w.heap.size, 0, none⟩), .int .u64 150] 113)).alloc (.cells #[.pointer (some ⟨9, 74, none⟩), .pointer (some ⟨w.heap.size, 0, none⟩), .int .u64 150] 113)).alloc (.cells #[.int .i64 c, .int .i64 l, .int .i64 k, .string n] 41)) from ((((Turn.refl b w).alloc _).alloc _).alloc _).alloc _)
  clear ht hg
  go_enter Tryz.func28, Tryz.ntmps28
  go_wp2
  refine wp_loop_rounds 1 ?_
  rw [rounds_succ]
  go_wp2
  go_ret
  refine ⟨rfl, ?_, ?_⟩
  · exact setc (setc (setc (setc H4.out 0 _) 1 _) 2 _) 3 _
  · exact (((HTN.out.setCell 0 _).setCell 1 _).setCell 2 _).setCell 3 _
end Go.Proofs.YtmeacgmjpjjphaaGreatDoor
