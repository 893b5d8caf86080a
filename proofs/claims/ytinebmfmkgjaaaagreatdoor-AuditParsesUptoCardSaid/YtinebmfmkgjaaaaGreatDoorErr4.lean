/- The law's own Wrong and same. -/
import Derived.Test.YtinebmfmkgjaaaaGreatDoorErr3
import Derived.Test.YtinebmfmkgjaaaaGreatDoorRef5
set_option linter.unusedVariables false
set_option linter.unusedSimpArgs false
namespace Go.Proofs.YtinebmfmkgjaaaaGreatDoor
open Go.RowKit

/-- The variable errors.errorType. -/
def ErrTy (w : World) : Prop := w.cell? ⟨0, 0, none⟩ = some (.iface 128 (.agg #[.pointer (some ⟨9, 25, none⟩)]))
theorem ErrTy.below {w w' : World} (h : ErrTy w) (hb : Below w.heap.size w w') : ErrTy w' := (hb.cell (p := ⟨0, 0, none⟩) (cell_lt h)).trans h
set_option maxRecDepth 100000 in
set_option maxHeartbeats 8000000 in
theorem Wrong_in (c l k : Int) (w : World) (hg : ErrTy w) :
    Calls Tryz.prog 9 #[diagV c l k, .agg #[.int .i64 c, .int .i64 l, .int .i64 k, .string ⟨#[]⟩]] w fun ev w' => ev = .returned (.bool true) ∧ Below w.heap.size w w' := by
  unfold diagV
  have hb1 := ((Below.refl w.heap.size w).alloc (Nat.le_refl _) (.cells #[.int .i64 c, .int .i64 l, .int .i64 k, .string ⟨#[]⟩] 33)).alloc (by simp) (.cells #[.int .i64 0, .int .i64 0, .int .i64 0, .string ⟨#[]⟩] 33)
  have hg1 := hg.below hb1
  have hx1 := last (w.alloc (.cells #[.int .i64 c, .int .i64 l, .int .i64 k, .string ⟨#[]⟩] 33)) (.cells #[.int .i64 0, .int .i64 0, .int .i64 0, .string ⟨#[]⟩] 33)
  have hx0 := (Below.heap_alloc (w.alloc (.cells #[.int .i64 c, .int .i64 l, .int .i64 k, .string ⟨#[]⟩] 33)) (.cells #[.int .i64 0, .int .i64 0, .int .i64 0, .string ⟨#[]⟩] 33) w.heap.size (by simp)).trans (last w (.cells #[.int .i64 c, .int .i64 l, .int .i64 k, .string ⟨#[]⟩] 33))
  have hsz : (w.alloc (.cells #[.int .i64 c, .int .i64 l, .int .i64 k, .string ⟨#[]⟩] 33)).heap.size = w.heap.size + 1 := by simp
  rw [hsz] at hx1
  have HB1 := Lib.hid hb1
  have HG1 := Lib.hid hg1
  have HX := Lib.hid (And.intro hx0 hx1)
  clear hb1 hg1 hg hx0 hx1 hsz
  go_enter Tryz.func9, Tryz.ntmps9
  go_upto_region 2 with fail
  generalize (w.alloc (.cells #[.int .i64 c, .int .i64 l, .int .i64 k, .string ⟨#[]⟩] 33)).alloc (.cells #[.int .i64 0, .int .i64 0, .int .i64 0, .string ⟨#[]⟩] 33) = w1 at *
  have hc := as_hit c l k ⟨#[]⟩ _ _ _ _ (w.heap.size + 1) w1 HG1.out HX.out.2
  go_wp2_with fail
  refine hc.mono ?_
  clear hc
  rintro e w2 ⟨rfl, hd, ht⟩
  have HW := Lib.hid ((ht.block w.heap.size (heap_lt HX.out.1) (by omega)).trans HX.out.1)
  have HB2 := Lib.hid (HB1.out.trans (ht.below (by omega) HB1.out.size))
  have HD := Lib.hid hd
  clear hd ht
  obtain ⟨d0, d1, d2, d3⟩ := cellsOf4 HD.out
  obtain ⟨e0, e1, e2, e3⟩ := cellsOf4 HW.out
  have hc := is_hit c l k ⟨#[]⟩ w2
  go_wp2_with fail
  refine hc.mono ?_
  clear hc
  rintro e w3 ⟨rfl, hb3⟩
  have HB3 := Lib.hid (HB2.out.trans (hb3.mono HB2.out.size))
  clear hb3
  go_wp2_with fail
  go_ret
  exact ⟨rfl, HB3.out⟩
end Go.Proofs.YtinebmfmkgjaaaaGreatDoor
