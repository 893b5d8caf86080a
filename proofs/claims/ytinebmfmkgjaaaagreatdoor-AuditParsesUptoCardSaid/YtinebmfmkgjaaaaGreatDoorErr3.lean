/- errors.Is at a diagnosis and its code; Wrong. -/
import Derived.Test.YtinebmfmkgjaaaaGreatDoorErr2
import Derived.Lib.IfaceEq
set_option linter.unusedVariables false
set_option linter.unusedSimpArgs false
namespace Go.Proofs.YtinebmfmkgjaaaaGreatDoor
open Go.RowKit Go.Extern.Stop Go.Stop Go.Extern

theorem is_typeOf (v : Value) (w : World) : (Extern.ReflectliteType.typeOf #[.iface 29 v]).run Tryz.prog w = .ok (.iface 128 (.agg #[.pointer (some ⟨9, 29, none⟩)])) w := by kernel_rfl
def cmpFn : Array Value → Sem Value := Extern.ReflectliteType.method fun t => do
  Extern.Rtype.noPackHeld "Comparable" t
  pure (.bool (← typeInfo t).comparable)
theorem is_comparable (w : World) : (cmpFn #[.agg #[.pointer (some ⟨9, 29, none⟩)]]).run Tryz.prog w = .ok (.bool true) w := by kernel_rfl
theorem is_methodComparable (v : Value) (w : World) : (Go.method 338 128 v "Comparable").run Tryz.prog w = .ok (149, v) w := by kernel_rfl
theorem is_noIs (v : Value) (xT : TypeId) (w : World) : (Instr.typeAssert (.iface 33 v) xT 140 true).run Tryz.prog w = .ok (.tuple #[.nilIface, .bool false]) w := run_typeAssert_lacksB Tryz.underlying140 (by kernel_rfl) (by kernel_rfl) v xT w
theorem is_hasUnwrap (v : Value) (xT : TypeId) (w : World) : (Instr.typeAssert (.iface 33 v) xT 135 true).run Tryz.prog w = .ok (.tuple #[.iface 33 v, .bool true]) w := run_typeAssert_hasB Tryz.underlying135 (by kernel_rfl) v xT w
theorem is_methodUnwrap (v : Value) (w : World) : (Go.method 338 33 v "Unwrap").run Tryz.prog w = .ok (141, v) w := by kernel_rfl
theorem unwrap_in (c l k : Int) (n : ByteArray) (w : World) : Calls Tryz.prog 141 #[.agg #[.int .i64 c, .int .i64 l, .int .i64 k, .string n]] w fun ev w' => ev = .returned (.iface 29 (.int .i64 c)) ∧ Below w.heap.size w w' := by
  go_enter Tryz.func141, Tryz.ntmps141
  go_wp2
  go_ret
  exact ⟨rfl, (Below.refl _ _).alloc (Nat.le_refl _) _⟩
set_option maxRecDepth 100000 in
set_option maxHeartbeats 8000000 in
theorem is_hit (c l k : Int) (n : ByteArray) (w : World) :
    Calls Tryz.prog 27 #[.iface 33 (.agg #[.int .i64 c, .int .i64 l, .int .i64 k, .string n]), .iface 29 (.int .i64 c)] w fun ev w' => ev = .returned (.bool true) ∧ Below w.heap.size w w' := by
  have h8 := @run_callFunc_extern Tryz.prog 59 _ Extern.ReflectliteType.typeOf Tryz.func59 (by kernel_rfl) (by kernel_rfl) (by kernel_rfl) (by kernel_rfl)
  have h32 := @run_callFunc_extern Tryz.prog 149 _ cmpFn Tryz.func149 (by kernel_rfl) (by kernel_rfl) (by kernel_rfl) (by kernel_rfl)
  have tT := is_typeOf
  have cT := is_comparable
  have mR := is_methodComparable
  have nI := is_noIs
  have hU := is_hasUnwrap
  have mU := is_methodUnwrap
  have q1 := fun v u w => run_eql_iface_types (P := Tryz.prog) 33 29 v u Tryz.underlying25 (by decide) w
  have q2 := fun a b w => Lib.run_eql_iface_int (P := Tryz.prog) (k := .i64) w a b Tryz.underlying25 (tx := 29) (by kernel_rfl) Tryz.underlying29
  go_enter Tryz.func27, Tryz.ntmps27
  go_wp2
  refine wp_loop_rounds 2 ?_
  rw [rounds_succ]
  go_wp2
  rw [rounds_succ]
  go_wp2
  go_ret
  exact ⟨rfl, (Below.refl _ _).alloc (Nat.le_refl _) _⟩
end Go.Proofs.YtinebmfmkgjaaaaGreatDoor
