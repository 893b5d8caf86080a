/- errors.As and errors.Is at a diagnosis: the calls. -/
import Derived.Test.YtinebmfmkgjaaaaGreatDoorErr1
set_option linter.unusedVariables false
set_option linter.unusedSimpArgs false
namespace Go.Proofs.YtinebmfmkgjaaaaGreatDoor
open Go.RowKit Go.Extern.Stop Go.Stop Go.Extern

set_option maxRecDepth 100000 in
set_option maxHeartbeats 8000000 in
theorem as_hit (c l k : Int) (n : ByteArray) (o0 o1 o2 o3 : Value) (b : Nat) (w : World) (hg : w.cell? ⟨0, 0, none⟩ = some (.iface 128 (.agg #[.pointer (some ⟨9, 25, none⟩)]))) (ht : w.heap[b]? = some (.cells #[o0, o1, o2, o3] 33)) :
    Calls Tryz.prog 26 #[.iface 33 (.agg #[.int .i64 c, .int .i64 l, .int .i64 k, .string n]), .iface 78 (.pointer (some ⟨b, 0, none⟩))] w fun ev w' => ev = .returned (.bool true) ∧ w'.heap[b]? = some (.cells #[.int .i64 c, .int .i64 l, .int .i64 k, .string n] 33) ∧ Turn b w w' := by
  have h6 := @run_callFunc_extern Tryz.prog 55 _ (fun args => ReflectliteValue.unpack (args.getD 0 (.tuple #[]))) Tryz.func55 (by kernel_rfl) (by kernel_rfl) (by kernel_rfl) (by kernel_rfl)
  have h7 := @run_callFunc_extern Tryz.prog 56 _ (ReflectliteValue.methodAny (ReflectliteValue.valueError "reflectlite.Value.Type" 0) (fun t _ _ _ => ReflectliteType.toType t)) Tryz.func56 (by kernel_rfl) (by kernel_rfl) (by kernel_rfl) (by kernel_rfl)
  have h8 := @run_callFunc_extern Tryz.prog 57 _ (ReflectliteValue.method (ReflectliteValue.valueError "reflectlite.Value.IsNil" 0) ReflectliteValue.isNil) Tryz.func57 (by kernel_rfl) (by kernel_rfl) (by kernel_rfl) (by kernel_rfl)
  have h27 := @run_callFunc_extern Tryz.prog 136 _ (ReflectliteType.abiMethod fun t => do pure (.int .u8 (← Rtype.kind t))) Tryz.func136 (by kernel_rfl) (by kernel_rfl) (by kernel_rfl) (by kernel_rfl)
  have h37 := @run_callFunc_extern Tryz.prog 150 _ (ReflectliteType.method ReflectliteType.elem) Tryz.func150 (by kernel_rfl) (by kernel_rfl) (by kernel_rfl) (by kernel_rfl)
  have h38 := @run_callFunc_extern Tryz.prog 151 _ (ReflectliteType.relation "Implements" ReflectliteType.implements_) Tryz.func151 (by kernel_rfl) (by kernel_rfl) (by kernel_rfl) (by kernel_rfl)
  have h10 := @run_callFunc_extern Tryz.prog 59 _ ReflectliteType.typeOf Tryz.func59 (by kernel_rfl) (by kernel_rfl) (by kernel_rfl) (by kernel_rfl)
  have h35 := @run_callFunc_extern Tryz.prog 148 _ (ReflectliteType.relation "AssignableTo" ReflectliteType.assignableTo) Tryz.func148 (by kernel_rfl) (by kernel_rfl) (by kernel_rfl) (by kernel_rfl)
  have h11 := @run_callFunc_extern Tryz.prog 80 _ (ReflectliteValue.method (ReflectliteValue.valueError "reflectlite.Value.Elem" 0) ReflectliteValue.elem) Tryz.func80 (by kernel_rfl) (by kernel_rfl) (by kernel_rfl) (by kernel_rfl)
  have h12 := @run_callFunc_extern Tryz.prog 81 _ ReflectliteValue.set Tryz.func81 (by kernel_rfl) (by kernel_rfl) (by kernel_rfl) (by kernel_rfl)
  have tO := rf_typeOf
  have mA := rf_methodAssignable
  have a25 := rf_assignable
  have v25 := rf_valueOfD
  have f6 := rf_valueOf
  have f7 := rf_type
  have mK := rf_methodKind
  have mE := rf_methodElem
  have mI := rf_methodImplements
  have k27 := rf_kindP
  have k25 := rf_kindD
  have e27 := rf_elem
  have i25 := rf_implements
  have hbl := heap_lt ht
  have h0lt : 0 < w.heap.size := cell_lt hg
  have n8 := rf_isNil ⟨w.heap.size, 0, none⟩ ⟨b, 0, none⟩ ((w.alloc (.cells #[.pointer (some ⟨b, 0, none⟩)] 78)).alloc (.cells #[.pointer (some ⟨9, 78, none⟩), .pointer (some ⟨w.heap.size, 0, none⟩), .int .u64 150] 107)) (by simp)
  have hg2 : ((w.alloc (.cells #[.pointer (some ⟨b, 0, none⟩)] 78)).alloc (.cells #[.pointer (some ⟨9, 78, none⟩), .pointer (some ⟨w.heap.size, 0, none⟩), .int .u64 150] 107)).cell? ⟨0, 0, none⟩ = some (.iface 128 (.agg #[.pointer (some ⟨9, 25, none⟩)])) := by
    rw [World.cell?_alloc_lt _ _ ⟨0, 0, none⟩ (by simp), World.cell?_alloc_lt _ _ ⟨0, 0, none⟩ h0lt]; exact hg
  have el := rf_elemV ⟨w.heap.size, 0, none⟩ ⟨b, 0, none⟩ (((w.alloc (.cells #[.pointer (some ⟨b, 0, none⟩)] 78)).alloc (.cells #[.pointer (some ⟨9, 78, none⟩), .pointer (some ⟨w.heap.size, 0, none⟩), .int .u64 150] 107)).alloc (.cells #[.pointer (some ⟨9, 78, none⟩), .pointer (some ⟨w.heap.size, 0, none⟩), .int .u64 150] 107)) (by rw [World.cell?_alloc_lt _ _ ⟨w.heap.size, 0, none⟩ (by simp; omega)]; simp)
  have H4 := Lib.hid (show ((((w.alloc (.cells #[.pointer (some ⟨b, 0, none⟩)] 78)).alloc (.cells #[.pointer (some ⟨9, 78, none⟩), .pointer (some ⟨w.heap.size, 0, none⟩), .int .u64 150] 107)).alloc (.cells #[.pointer (some ⟨9, 78, none⟩), .pointer (some ⟨w.heap.size, 0, none⟩), .int .u64 150] 107)).alloc (.cells #[.int .i64 c, .int .i64 l, .int .i64 k, .string n] 33)).heap[b]? = some (.cells #[o0, o1, o2, o3] 33) by
    rw [Below.heap_alloc _ _ _ (by simp; omega), Below.heap_alloc _ _ _ (by simp; omega), Below.heap_alloc _ _ _ (by simp; omega), Below.heap_alloc _ _ _ hbl]; exact ht)
  have st := rf_set b (w.heap.size + 1 + 1 + 1) c l k n o0 o1 o2 o3 ((((w.alloc (.cells #[.pointer (some ⟨b, 0, none⟩)] 78)).alloc (.cells #[.pointer (some ⟨9, 78, none⟩), .pointer (some ⟨w.heap.size, 0, none⟩), .int .u64 150] 107)).alloc (.cells #[.pointer (some ⟨9, 78, none⟩), .pointer (some ⟨w.heap.size, 0, none⟩), .int .u64 150] 107)).alloc (.cells #[.int .i64 c, .int .i64 l, .int .i64 k, .string n] 33)) (lastk _ _ (by simp)) H4.out
  have HTN := Lib.hid (show Turn b w ((((w.alloc (.cells #[.pointer (some ⟨b, 0, none⟩)] 78)).alloc (.cells #[.pointer (some ⟨9, 78, none⟩), .pointer (some ⟨w.heap.size, 0, none⟩), .int .u64 150] 107)).alloc (.cells #[.pointer (some ⟨9, 78, none⟩), .pointer (some ⟨w.heap.size, 0, none⟩), .int .u64 150] 107)).alloc (.cells #[.int .i64 c, .int .i64 l, .int .i64 k, .string n] 33)) from ((((Turn.refl b w).alloc _).alloc _).alloc _).alloc _)
  clear ht hg
  go_enter Tryz.func26, Tryz.ntmps26
  go_wp2
  refine wp_loop_rounds 1 ?_
  rw [rounds_succ]
  go_wp2
  go_ret
  refine ⟨rfl, ?_, ?_⟩
  · exact setc (setc (setc (setc H4.out 0 _) 1 _) 2 _) 3 _
  · exact (((HTN.out.setCell 0 _).setCell 1 _).setCell 2 _).setCell 3 _
end Go.Proofs.YtinebmfmkgjaaaaGreatDoor
