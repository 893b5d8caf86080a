/- Bottom, Top, Join of labels. -/
import Derived.Test.YtkcbcdfcpchgcaaDoorLab2
set_option linter.unusedVariables false
set_option linter.unusedSimpArgs false
namespace Go.Proofs.YtkcbcdfcpchgcaaDoor
open Go.RowKit
open OrdP (inB Rel allB allB_iff)

theorem four {W w : World} {x1 y1 x2 y2 : Value} {t1 t2 : TypeId}
    (hb : Below ((W.alloc (.cells #[x1, y1] t1)).alloc (.cells #[x2, y2] t2)).heap.size ((W.alloc (.cells #[x1, y1] t1)).alloc (.cells #[x2, y2] t2)) w) :
    (w.cell? ⟨W.heap.size, 0, none⟩ = some x1 ∧ w.cell? ⟨W.heap.size, 1, none⟩ = some y1) ∧ w.heap[W.heap.size + 1]? = some (.cells #[x2, y2] t2) ∧ (w.cell? ⟨W.heap.size + 1, 0, none⟩ = some x2 ∧ w.cell? ⟨W.heap.size + 1, 1, none⟩ = some y2) ∧ ∀ i, w.frozen? ⟨W.heap.size + 1, i, none⟩ = false := by
  have h0 : ((W.alloc (.cells #[x1, y1] t1)).alloc (.cells #[x2, y2] t2)).heap[W.heap.size]? = some (.cells #[x1, y1] t1) := by
    rw [Below.heap_alloc _ _ _ (by simp)]; simp only [World.alloc, Array.getElem?_push]; simp
  have h1 : ((W.alloc (.cells #[x1, y1] t1)).alloc (.cells #[x2, y2] t2)).heap[W.heap.size + 1]? = some (.cells #[x2, y2] t2) := by
    simp only [World.alloc, Array.getElem?_push]; simp
  have k0 := (hb.block _ (by simp; omega)).trans h0
  have k1 := (hb.block _ (by simp)).trans h1
  simp [World.cell?, World.frozen?, k0, k1]

theorem fourR {W w : World} {x1 y1 z1 u1 x2 y2 : Value} {t1 t2 : TypeId}
    (hb : Below ((W.alloc (.cells #[x1, y1, z1, u1] t1)).alloc (.cells #[x2, y2] t2)).heap.size ((W.alloc (.cells #[x1, y1, z1, u1] t1)).alloc (.cells #[x2, y2] t2)) w) :
    (w.cell? ⟨W.heap.size, 0, none⟩ = some x1 ∧ w.cell? ⟨W.heap.size, 1, none⟩ = some y1 ∧ w.cell? ⟨W.heap.size, 2, none⟩ = some z1 ∧ w.cell? ⟨W.heap.size, 3, none⟩ = some u1) ∧ w.heap[W.heap.size + 1]? = some (.cells #[x2, y2] t2) ∧ (w.cell? ⟨W.heap.size + 1, 0, none⟩ = some x2 ∧ w.cell? ⟨W.heap.size + 1, 1, none⟩ = some y2) ∧ ∀ i, w.frozen? ⟨W.heap.size + 1, i, none⟩ = false := by
  have h0 : ((W.alloc (.cells #[x1, y1, z1, u1] t1)).alloc (.cells #[x2, y2] t2)).heap[W.heap.size]? = some (.cells #[x1, y1, z1, u1] t1) := by
    rw [Below.heap_alloc _ _ _ (by simp)]; simp only [World.alloc, Array.getElem?_push]; simp
  have h1 : ((W.alloc (.cells #[x1, y1, z1, u1] t1)).alloc (.cells #[x2, y2] t2)).heap[W.heap.size + 1]? = some (.cells #[x2, y2] t2) := by
    simp only [World.alloc, Array.getElem?_push]; simp
  have k0 := (hb.block _ (by simp; omega)).trans h0
  have k1 := (hb.block _ (by simp)).trans h1
  simp [World.cell?, World.frozen?, k0, k1]

section
variable {W : World} {B b1 b2 n1 n2 g1 g2 : Nat} {R1 R2 : Rel} (c1 c2 : Nat) (h1 : 1 ≤ n1 ∧ n1 ≤ 32) (h2 : 1 ≤ n2 ∧ n2 ≤ 32) (hL : LatO W B b1 b2 n1 n2 R1 R2)
include h1 h2 hL

theorem lBottom_in {v1 v2 : Int} (hv1 : OrdP.bottom n1 R1 = v1) (hv2 : OrdP.bottom n2 R2 = v2) : Calls Tryd.prog 26 #[latV b1 b2] W fun e w' => e = .returned (labV (v1, v2)) ∧ Below W.heap.size W w' := by
  have hb := ((Below.refl W.heap.size W).alloc (Nat.le_refl _) (.cells #[.pointer (some ⟨b1, 0, none⟩), .pointer (some ⟨b2, 0, none⟩)] 47)).alloc (by simp) (.cells #[.int .i64 0, .int .i64 0] 53)
  have HQ := Lib.hid (And.intro hv1 hv2); clear hv1 hv2
  have HL := Lib.hid (hL.below hb)
  have HB := Lib.hid hb
  have he : ∀ w, Below _ _ w → _ := fun w hb => four (W := W) (w := w) (x1 := .pointer (some ⟨b1, 0, none⟩)) (y1 := .pointer (some ⟨b2, 0, none⟩)) (t1 := 47) (x2 := .int .i64 0) (y2 := .int .i64 0) (t2 := 53) hb
  have hsz : W.heap.size + 2 ≤ ((W.alloc (.cells #[.pointer (some ⟨b1, 0, none⟩), .pointer (some ⟨b2, 0, none⟩)] 47)).alloc (.cells #[.int .i64 0, .int .i64 0] 53)).heap.size := by simp
  clear hL hb
  unfold latV labV
  go_enter Tryd.func26, Tryd.ntmps26
  go_wp2_with fail
  generalize (W.alloc (.cells #[.pointer (some ⟨b1, 0, none⟩), .pointer (some ⟨b2, 0, none⟩)] 47)).alloc (.cells #[.int .i64 0, .int .i64 0] 53) = W1 at *
  obtain ⟨⟨e0, e1⟩, hz, ⟨z0, z1⟩, zf⟩ := he W1 (Below.refl _ _)
  have HE := Lib.hid he; clear he
  have hbr := (Below.refl W1.heap.size W1).drew
  go_region_held3 (fun w' => w'.cell? ⟨W.heap.size, 0, none⟩ = some (.pointer (some ⟨b1, 0, none⟩)) ∧ w'.cell? ⟨W.heap.size, 1, none⟩ = some (.pointer (some ⟨b2, 0, none⟩))) (first | exact ⟨by assumption, by assumption⟩ | exact ⟨by (rw [cell_set_ne (by simp), cell_set_ne (by simp)]; assumption), by (rw [cell_set_ne (by simp), cell_set_ne (by simp)]; assumption)⟩)
    (first
      | (go_at_call_of 14 (Value.pointer (some ⟨b1, 0, none⟩)); refine (Bottom_B h1.2 h1.1 HL.out.i1 (by assumption) HQ.out.1).mono ?_; rintro e w' ⟨rfl, hbx⟩; obtain ⟨⟨e0, e1⟩, hz, ⟨z0, z1⟩, zf⟩ := HE.out w' hbx)
      | (go_at_call_of 14 (Value.pointer (some ⟨b2, 0, none⟩)); refine (Bottom_B h2.2 h2.1 HL.out.i2 (by assumption) HQ.out.2).mono ?_; rintro e w' ⟨rfl, hbx⟩; obtain ⟨⟨e0, e1⟩, hz, ⟨z0, z1⟩, zf⟩ := HE.out w' hbx))
  all_goals
    obtain ⟨r0, r1⟩ := set_zero z0 z1 (.int .i64 v1) (.int .i64 v2)
    have HF := Lib.hid (((HB.out.trans (hbx.mono (by omega))).setCell (p := ⟨W.heap.size + 1, 0, none⟩) (by simp; try omega) (.int .i64 v1)).setCell (p := ⟨W.heap.size + 1, 1, none⟩) (by simp; try omega) (.int .i64 v2))
    go_wp2_with fail
    exact bodyPost_ret (v := .agg #[.int .i64 v1, .int .i64 v2]) (by simp [results, Tryd.results26, go_sem, r0, r1]) rfl ⟨rfl, HF.out⟩

theorem lTop_in {v1 v2 : Int} (hv1 : OrdP.top n1 R1 = v1) (hv2 : OrdP.top n2 R2 = v2) : Calls Tryd.prog 27 #[latV b1 b2] W fun e w' => e = .returned (labV (v1, v2)) ∧ Below W.heap.size W w' := by
  have hb := ((Below.refl W.heap.size W).alloc (Nat.le_refl _) (.cells #[.pointer (some ⟨b1, 0, none⟩), .pointer (some ⟨b2, 0, none⟩)] 47)).alloc (by simp) (.cells #[.int .i64 0, .int .i64 0] 53)
  have HQ := Lib.hid (And.intro hv1 hv2); clear hv1 hv2
  have HL := Lib.hid (hL.below hb)
  have HB := Lib.hid hb
  have he : ∀ w, Below _ _ w → _ := fun w hb => four (W := W) (w := w) (x1 := .pointer (some ⟨b1, 0, none⟩)) (y1 := .pointer (some ⟨b2, 0, none⟩)) (t1 := 47) (x2 := .int .i64 0) (y2 := .int .i64 0) (t2 := 53) hb
  have hsz : W.heap.size + 2 ≤ ((W.alloc (.cells #[.pointer (some ⟨b1, 0, none⟩), .pointer (some ⟨b2, 0, none⟩)] 47)).alloc (.cells #[.int .i64 0, .int .i64 0] 53)).heap.size := by simp
  clear hL hb
  unfold latV labV
  go_enter Tryd.func27, Tryd.ntmps27
  go_wp2_with fail
  generalize (W.alloc (.cells #[.pointer (some ⟨b1, 0, none⟩), .pointer (some ⟨b2, 0, none⟩)] 47)).alloc (.cells #[.int .i64 0, .int .i64 0] 53) = W1 at *
  obtain ⟨⟨e0, e1⟩, hz, ⟨z0, z1⟩, zf⟩ := he W1 (Below.refl _ _)
  have HE := Lib.hid he; clear he
  have hbr := (Below.refl W1.heap.size W1).drew
  go_region_held3 (fun w' => w'.cell? ⟨W.heap.size, 0, none⟩ = some (.pointer (some ⟨b1, 0, none⟩)) ∧ w'.cell? ⟨W.heap.size, 1, none⟩ = some (.pointer (some ⟨b2, 0, none⟩))) (first | exact ⟨by assumption, by assumption⟩ | exact ⟨by (rw [cell_set_ne (by simp), cell_set_ne (by simp)]; assumption), by (rw [cell_set_ne (by simp), cell_set_ne (by simp)]; assumption)⟩)
    (first
      | (go_at_call_of 16 (Value.pointer (some ⟨b1, 0, none⟩)); refine (Top_B h1.2 h1.1 HL.out.i1 (by assumption) HQ.out.1).mono ?_; rintro e w' ⟨rfl, hbx⟩; obtain ⟨⟨e0, e1⟩, hz, ⟨z0, z1⟩, zf⟩ := HE.out w' hbx)
      | (go_at_call_of 16 (Value.pointer (some ⟨b2, 0, none⟩)); refine (Top_B h2.2 h2.1 HL.out.i2 (by assumption) HQ.out.2).mono ?_; rintro e w' ⟨rfl, hbx⟩; obtain ⟨⟨e0, e1⟩, hz, ⟨z0, z1⟩, zf⟩ := HE.out w' hbx))
  all_goals
    obtain ⟨r0, r1⟩ := set_zero z0 z1 (.int .i64 v1) (.int .i64 v2)
    have HF := Lib.hid (((HB.out.trans (hbx.mono (by omega))).setCell (p := ⟨W.heap.size + 1, 0, none⟩) (by simp; try omega) (.int .i64 v1)).setCell (p := ⟨W.heap.size + 1, 1, none⟩) (by simp; try omega) (.int .i64 v2))
    go_wp2_with fail
    exact bodyPost_ret (v := .agg #[.int .i64 v1, .int .i64 v2]) (by simp [results, Tryd.results27, go_sem, r0, r1]) rfl ⟨rfl, HF.out⟩

omit hL in
theorem rBottom_in {S1 S2 : Rel} (hS1 : RefAt W g1 n1 S1) (hS2 : RefAt W g2 n2 S2) {v1 v2 : Int} (hv1 : OrdP.bottom n1 S1 = v1) (hv2 : OrdP.bottom n2 S2 = v2) : Calls Tryd.prog 36 #[refV n1 g1 c1 n2 g2 c2] W fun e w' => e = .returned (labV (v1, v2)) ∧ Below W.heap.size W w' := by
  have hb := ((Below.refl W.heap.size W).alloc (Nat.le_refl _) (.cells #[.int .i64 n1, .slice (some ⟨g1, 0, none⟩) n1 c1, .int .i64 n2, .slice (some ⟨g2, 0, none⟩) n2 c2] 49)).alloc (by simp) (.cells #[.int .i64 0, .int .i64 0] 53)
  have HQ := Lib.hid (And.intro hv1 hv2); clear hv1 hv2
  have HL := Lib.hid (And.intro (hS1.below hb) (hS2.below hb))
  have HB := Lib.hid hb
  have he : ∀ w, Below _ _ w → _ := fun w hb => fourR (W := W) (w := w) (x1 := .int .i64 n1) (y1 := .slice (some ⟨g1, 0, none⟩) n1 c1) (z1 := .int .i64 n2) (u1 := .slice (some ⟨g2, 0, none⟩) n2 c2) (t1 := 49) (x2 := .int .i64 0) (y2 := .int .i64 0) (t2 := 53) hb
  have hsz : W.heap.size + 2 ≤ ((W.alloc (.cells #[.int .i64 n1, .slice (some ⟨g1, 0, none⟩) n1 c1, .int .i64 n2, .slice (some ⟨g2, 0, none⟩) n2 c2] 49)).alloc (.cells #[.int .i64 0, .int .i64 0] 53)).heap.size := by simp
  clear hS1 hS2 hb
  unfold refV labV
  go_enter Tryd.func36, Tryd.ntmps36
  go_wp2_with fail
  generalize (W.alloc (.cells #[.int .i64 n1, .slice (some ⟨g1, 0, none⟩) n1 c1, .int .i64 n2, .slice (some ⟨g2, 0, none⟩) n2 c2] 49)).alloc (.cells #[.int .i64 0, .int .i64 0] 53) = W1 at *
  obtain ⟨⟨e0, e1, e2, e3⟩, hz, ⟨z0, z1⟩, zf⟩ := he W1 (Below.refl _ _)
  have HE := Lib.hid he; clear he
  have hbr := (Below.refl W1.heap.size W1).drew
  go_region_held3 (fun w' => w'.cell? ⟨W.heap.size, 0, none⟩ = some (.int .i64 n1) ∧ w'.cell? ⟨W.heap.size, 1, none⟩ = some (.slice (some ⟨g1, 0, none⟩) n1 c1) ∧ w'.cell? ⟨W.heap.size, 2, none⟩ = some (.int .i64 n2) ∧ w'.cell? ⟨W.heap.size, 3, none⟩ = some (.slice (some ⟨g2, 0, none⟩) n2 c2)) (first | exact ⟨by assumption, by assumption, by assumption, by assumption⟩ | exact ⟨by (rw [cell_set_ne (by simp), cell_set_ne (by simp)]; assumption), by (rw [cell_set_ne (by simp), cell_set_ne (by simp)]; assumption), by (rw [cell_set_ne (by simp), cell_set_ne (by simp)]; assumption), by (rw [cell_set_ne (by simp), cell_set_ne (by simp)]; assumption)⟩)
    (first
      | (go_at_call_of 15 (Value.agg #[.int .i64 n1, .slice (some ⟨g1, 0, none⟩) n1 c1]); refine (refBottom_B h1.1 h1.2 HL.out.1 (by assumption) HQ.out.1).mono ?_; rintro e w' ⟨rfl, hbx⟩; obtain ⟨⟨e0, e1, e2, e3⟩, hz, ⟨z0, z1⟩, zf⟩ := HE.out w' hbx)
      | (go_at_call_of 15 (Value.agg #[.int .i64 n2, .slice (some ⟨g2, 0, none⟩) n2 c2]); refine (refBottom_B h2.1 h2.2 HL.out.2 (by assumption) HQ.out.2).mono ?_; rintro e w' ⟨rfl, hbx⟩; obtain ⟨⟨e0, e1, e2, e3⟩, hz, ⟨z0, z1⟩, zf⟩ := HE.out w' hbx))
  all_goals
    obtain ⟨r0, r1⟩ := set_zero z0 z1 (.int .i64 v1) (.int .i64 v2)
    have HF := Lib.hid (((HB.out.trans (hbx.mono (by omega))).setCell (p := ⟨W.heap.size + 1, 0, none⟩) (by simp; try omega) (.int .i64 v1)).setCell (p := ⟨W.heap.size + 1, 1, none⟩) (by simp; try omega) (.int .i64 v2))
    go_wp2_with fail
    exact bodyPost_ret (v := .agg #[.int .i64 v1, .int .i64 v2]) (by simp [results, Tryd.results36, go_sem, r0, r1]) rfl ⟨rfl, HF.out⟩
end
end Go.Proofs.YtkcbcdfcpchgcaaDoor
