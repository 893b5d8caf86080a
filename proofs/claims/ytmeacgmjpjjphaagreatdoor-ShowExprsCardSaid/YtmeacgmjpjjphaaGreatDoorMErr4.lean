/- The law's own Wrong and same. -/
import Derived.Test.YtmeacgmjpjjphaaGreatDoorMErr2
import Derived.Lib.IfaceEq
import Derived.Test.YtmeacgmjpjjphaaGreatDoorMExF
set_option linter.unusedVariables false
set_option linter.unusedSimpArgs false
namespace Go.Proofs.YtmeacgmjpjjphaaGreatDoor
open Go.RowKit Go.Extern.Stop Go.Stop Go.Extern

theorem is_typeOf (v : Value) (w : World) : (Extern.ReflectliteType.typeOf #[.iface 39 v]).run Tryz.prog w = .ok (.iface 149 (.agg #[.pointer (some ⟨9, 39, none⟩)])) w := by kernel_rfl
def cmpFn : Array Value → Sem Value := Extern.ReflectliteType.method fun t => do
  Extern.Rtype.noPackHeld "Comparable" t
  pure (.bool (← typeInfo t).comparable)
theorem is_comparable (w : World) : (cmpFn #[.agg #[.pointer (some ⟨9, 39, none⟩)]]).run Tryz.prog w = .ok (.bool true) w := by kernel_rfl
theorem is_methodComparable (v : Value) (w : World) : (Go.method 370 149 v "Comparable").run Tryz.prog w = .ok (205, v) w := by kernel_rfl
theorem is_noIs (v : Value) (xT : TypeId) (w : World) : (Instr.typeAssert (.iface 41 v) xT 161 true).run Tryz.prog w = .ok (.tuple #[.nilIface, .bool false]) w := run_typeAssert_lacksB Tryz.underlying161 (by kernel_rfl) (by kernel_rfl) v xT w
theorem is_hasUnwrap (v : Value) (xT : TypeId) (w : World) : (Instr.typeAssert (.iface 41 v) xT 156 true).run Tryz.prog w = .ok (.tuple #[.iface 41 v, .bool true]) w := run_typeAssert_hasB Tryz.underlying156 (by kernel_rfl) v xT w
theorem is_methodUnwrap (v : Value) (w : World) : (Go.method 370 41 v "Unwrap").run Tryz.prog w = .ok (199, v) w := by kernel_rfl
theorem unwrap_in (c l k : Int) (n : ByteArray) (w : World) : Calls Tryz.prog 199 #[.agg #[.int .i64 c, .int .i64 l, .int .i64 k, .string n]] w fun ev w' => ev = .returned (.iface 39 (.int .i64 c)) ∧ Below w.heap.size w w' := by
  go_enter Tryz.func199, Tryz.ntmps199
  go_wp2
  go_ret
  exact ⟨rfl, (Below.refl _ _).alloc (Nat.le_refl _) _⟩
set_option maxRecDepth 100000 in
set_option maxHeartbeats 8000000 in
theorem is_hit (c l k : Int) (n : ByteArray) (w : World) :
    Calls Tryz.prog 29 #[.iface 41 (.agg #[.int .i64 c, .int .i64 l, .int .i64 k, .string n]), .iface 39 (.int .i64 c)] w fun ev w' => ev = .returned (.bool true) ∧ Below w.heap.size w w' := by
  have h8 := @run_callFunc_extern Tryz.prog 55 _ Extern.ReflectliteType.typeOf Tryz.func55 (by kernel_rfl) (by kernel_rfl) (by kernel_rfl) (by kernel_rfl)
  have h32 := @run_callFunc_extern Tryz.prog 205 _ cmpFn Tryz.func205 (by kernel_rfl) (by kernel_rfl) (by kernel_rfl) (by kernel_rfl)
  have tT := is_typeOf
  have cT := is_comparable
  have mR := is_methodComparable
  have nI := is_noIs
  have hU := is_hasUnwrap
  have mU := is_methodUnwrap
  have q1 := fun v u w => run_eql_iface_types (P := Tryz.prog) 41 39 v u Tryz.underlying25 (by decide) w
  have q2 := fun a b w => Lib.run_eql_iface_int (P := Tryz.prog) (k := .i64) w a b Tryz.underlying25 (tx := 39) (by kernel_rfl) Tryz.underlying39
  go_enter Tryz.func29, Tryz.ntmps29
  go_wp2
  refine wp_loop_rounds 2 ?_
  rw [rounds_succ]
  go_wp2
  rw [rounds_succ]
  go_wp2
  go_ret
  exact ⟨rfl, (Below.refl _ _).alloc (Nat.le_refl _) _⟩
end Go.Proofs.YtmeacgmjpjjphaaGreatDoor
namespace Go.Proofs.YtmeacgmjpjjphaaGreatDoor
open Go.RowKit

/-- The variable errors.errorType. -/
def ErrTy (w : World) : Prop := w.cell? ⟨0, 0, none⟩ = some (.iface 149 (.agg #[.pointer (some ⟨9, 25, none⟩)]))
theorem ErrTy.below {w w' : World} (h : ErrTy w) (hb : Below w.heap.size w w') : ErrTy w' := (hb.cell (p := ⟨0, 0, none⟩) (cell_lt h)).trans h
set_option maxRecDepth 100000 in
set_option maxHeartbeats 8000000 in
theorem Wrong_in (c l k : Int) (w : World) (hg : ErrTy w) :
    Calls Tryz.prog 10 #[diagV c l k, .agg #[.int .i64 c, .int .i64 l, .int .i64 k, .string ⟨#[]⟩]] w fun ev w' => ev = .returned (.bool true) ∧ Below w.heap.size w w' := by
  unfold diagV
  have hb1 := ((Below.refl w.heap.size w).alloc (Nat.le_refl _) (.cells #[.int .i64 c, .int .i64 l, .int .i64 k, .string ⟨#[]⟩] 41)).alloc (by simp) (.cells #[.int .i64 0, .int .i64 0, .int .i64 0, .string ⟨#[]⟩] 41)
  have hg1 := hg.below hb1
  have hx1 := last (w.alloc (.cells #[.int .i64 c, .int .i64 l, .int .i64 k, .string ⟨#[]⟩] 41)) (.cells #[.int .i64 0, .int .i64 0, .int .i64 0, .string ⟨#[]⟩] 41)
  have hx0 := (Below.heap_alloc (w.alloc (.cells #[.int .i64 c, .int .i64 l, .int .i64 k, .string ⟨#[]⟩] 41)) (.cells #[.int .i64 0, .int .i64 0, .int .i64 0, .string ⟨#[]⟩] 41) w.heap.size (by simp)).trans (last w (.cells #[.int .i64 c, .int .i64 l, .int .i64 k, .string ⟨#[]⟩] 41))
  have hsz : (w.alloc (.cells #[.int .i64 c, .int .i64 l, .int .i64 k, .string ⟨#[]⟩] 41)).heap.size = w.heap.size + 1 := by simp
  rw [hsz] at hx1
  have HB1 := Lib.hid hb1
  have HG1 := Lib.hid hg1
  have HX := Lib.hid (And.intro hx0 hx1)
  clear hb1 hg1 hg hx0 hx1 hsz
  go_enter Tryz.func10, Tryz.ntmps10
  go_upto_region 2 with fail
  generalize (w.alloc (.cells #[.int .i64 c, .int .i64 l, .int .i64 k, .string ⟨#[]⟩] 41)).alloc (.cells #[.int .i64 0, .int .i64 0, .int .i64 0, .string ⟨#[]⟩] 41) = w1 at *
  have hc := as_hit c l k ⟨#[]⟩ _ _ _ _ (w.heap.size + 1) w1 HG1.out HX.out.2
  go_wp2_with fail
  refine hc.mono ?_
  clear hc
  rintro e w2 ⟨rfl, hd, ht⟩
  have HW := Lib.hid ((ht.block w.heap.size (heap_lt HX.out.1) (by omega)).trans HX.out.1)
  have HB2 := Lib.hid (HB1.out.trans (ht.below (by omega) HB1.out.size))
  have HD := Lib.hid hd
  clear hd ht
  obtain ⟨d0, d1, d2, d3⟩ := cells4 HD.out
  obtain ⟨e0, e1, e2, e3⟩ := cells4 HW.out
  have hc := is_hit c l k ⟨#[]⟩ w2
  go_wp2_with fail
  refine hc.mono ?_
  clear hc
  rintro e w3 ⟨rfl, hb3⟩
  have HB3 := Lib.hid (HB2.out.trans (hb3.mono HB2.out.size))
  clear hb3
  go_wp2_with fail
  go_ret
  exact ⟨rfl, HB3.out⟩
end Go.Proofs.YtmeacgmjpjjphaaGreatDoor
