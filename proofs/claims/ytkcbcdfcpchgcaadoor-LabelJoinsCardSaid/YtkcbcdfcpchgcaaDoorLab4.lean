/- Two, Join of labels. -/
import Derived.Test.YtkcbcdfcpchgcaaDoorLab3
set_option linter.unusedVariables false
set_option linter.unusedSimpArgs false
namespace Go.Proofs.YtkcbcdfcpchgcaaDoor
open Go.RowKit
open OrdP (inB Rel allB allB_iff)

theorem cellsOf2 {w : World} {b : Nat} {x y : Value} {t : TypeId} (h : w.heap[b]? = some (.cells #[x, y] t)) : w.cell? ⟨b, 0, none⟩ = some x ∧ w.cell? ⟨b, 1, none⟩ = some y := by
  constructor <;> simp only [World.cell?, h] <;> rfl
theorem cellsOf4 {w : World} {b : Nat} {x y z u : Value} {t : TypeId} (h : w.heap[b]? = some (.cells #[x, y, z, u] t)) : w.cell? ⟨b, 0, none⟩ = some x ∧ w.cell? ⟨b, 1, none⟩ = some y ∧ w.cell? ⟨b, 2, none⟩ = some z ∧ w.cell? ⟨b, 3, none⟩ = some u := by
  refine ⟨?_, ?_, ?_, ?_⟩ <;> simp only [World.cell?, h] <;> rfl
theorem frozenOf {w : World} {b : Nat} {cs : Array Value} {t : TypeId} (h : w.heap[b]? = some (.cells cs t)) (i : Nat) : w.frozen? ⟨b, i, none⟩ = false := by simp [World.frozen?, h]
theorem last (W : World) (o : Obj) : (W.alloc o).heap[W.heap.size]? = some o := by simp only [World.alloc, Array.getElem?_push]; simp
theorem four' (W : World) (a b c d : Obj) : ((((W.alloc a).alloc b).alloc c).alloc d).heap[W.heap.size]? = some a ∧ ((((W.alloc a).alloc b).alloc c).alloc d).heap[W.heap.size + 1]? = some b ∧ ((((W.alloc a).alloc b).alloc c).alloc d).heap[W.heap.size + 1 + 1]? = some c ∧ ((((W.alloc a).alloc b).alloc c).alloc d).heap[W.heap.size + 1 + 1 + 1]? = some d ∧ ((((W.alloc a).alloc b).alloc c).alloc d).heap.size = W.heap.size + 1 + 1 + 1 + 1 := by
  obtain ⟨h0, h1, h2, hs⟩ := three W a b c
  refine ⟨?_, ?_, ?_, ?_, ?_⟩
  · rw [Below.heap_alloc _ _ _ (by omega)]; exact h0
  · rw [Below.heap_alloc _ _ _ (by omega)]; exact h1
  · rw [Below.heap_alloc _ _ _ (by omega)]; exact h2
  · have := last (((W.alloc a).alloc b).alloc c) d
    rw [hs] at this; exact this
  · simp

section
variable {W : World} {n1 n2 g1 g2 : Nat} {S1 S2 : Rel} (c1 c2 : Nat)
set_option maxRecDepth 100000 in
set_option maxHeartbeats 2000000 in
theorem rTwo_in (h1 : n1 ≤ 32) (h2 : n2 ≤ 32) (hS1 : RefAt W g1 n1 S1) (hS2 : RefAt W g2 n2 S2) {a b c d : Nat} (ha : a < n1) (hb : b < n2) (hc : c < n1) (hd : d < n2) {v1 v2 : Int} (hv1 : OrdP.join n1 S1 a c = v1) (hv2 : OrdP.join n2 S2 b d = v2) :
    Calls Tryd.prog 37 #[refV n1 g1 c1 n2 g2 c2, labV (a, b), labV (c, d)] W fun e w' => e = .returned (labV (v1, v2)) ∧ Below W.heap.size W w' := by
  have hb' := ((((Below.refl W.heap.size W).alloc (Nat.le_refl _) (.cells #[.int .i64 n1, .slice (some ⟨g1, 0, none⟩) n1 c1, .int .i64 n2, .slice (some ⟨g2, 0, none⟩) n2 c2] 49)).alloc (by simp) (.cells #[.int .i64 a, .int .i64 b] 53)).alloc (by simp; omega) (.cells #[.int .i64 c, .int .i64 d] 53)).alloc (by simp; omega) (.cells #[.int .i64 0, .int .i64 0] 53)
  have HQ := Lib.hid (And.intro hv1 hv2); clear hv1 hv2
  have HL := Lib.hid (And.intro (hS1.below hb') (hS2.below hb'))
  have HN := Lib.hid (And.intro (And.intro h1 (And.intro ha hc)) (And.intro h2 (And.intro hb hd)))
  have HB := Lib.hid hb'
  obtain ⟨f0, f1, f2, f3, fs⟩ := four' W (.cells #[.int .i64 n1, .slice (some ⟨g1, 0, none⟩) n1 c1, .int .i64 n2, .slice (some ⟨g2, 0, none⟩) n2 c2] 49) (.cells #[.int .i64 a, .int .i64 b] 53) (.cells #[.int .i64 c, .int .i64 d] 53) (.cells #[.int .i64 0, .int .i64 0] 53)
  clear hS1 hS2 hb' h1 h2 ha hb hc hd
  unfold refV labV
  go_enter Tryd.func37, Tryd.ntmps37
  go_wp2_with fail
  generalize (((W.alloc (.cells #[.int .i64 n1, .slice (some ⟨g1, 0, none⟩) n1 c1, .int .i64 n2, .slice (some ⟨g2, 0, none⟩) n2 c2] 49)).alloc (.cells #[.int .i64 a, .int .i64 b] 53)).alloc (.cells #[.int .i64 c, .int .i64 d] 53)).alloc (.cells #[.int .i64 0, .int .i64 0] 53) = W1 at *
  have he : ∀ w', Below W1.heap.size W1 w' → (w'.cell? ⟨W.heap.size, 0, none⟩ = some (.int .i64 n1) ∧ w'.cell? ⟨W.heap.size, 1, none⟩ = some (.slice (some ⟨g1, 0, none⟩) n1 c1) ∧ w'.cell? ⟨W.heap.size, 2, none⟩ = some (.int .i64 n2) ∧ w'.cell? ⟨W.heap.size, 3, none⟩ = some (.slice (some ⟨g2, 0, none⟩) n2 c2) ∧ w'.cell? ⟨W.heap.size + 1, 0, none⟩ = some (.int .i64 a) ∧ w'.cell? ⟨W.heap.size + 1, 1, none⟩ = some (.int .i64 b) ∧ w'.cell? ⟨W.heap.size + 1 + 1, 0, none⟩ = some (.int .i64 c) ∧ w'.cell? ⟨W.heap.size + 1 + 1, 1, none⟩ = some (.int .i64 d)) ∧ (w'.cell? ⟨W.heap.size + 1 + 1 + 1, 0, none⟩ = some (.int .i64 0) ∧ w'.cell? ⟨W.heap.size + 1 + 1 + 1, 1, none⟩ = some (.int .i64 0)) ∧ ∀ i, w'.frozen? ⟨W.heap.size + 1 + 1 + 1, i, none⟩ = false := by
    intro w' hbx
    obtain ⟨x0, x1, x2, x3⟩ := cellsOf4 ((hbx.block _ (by omega)).trans f0)
    obtain ⟨y0, y1⟩ := cellsOf2 ((hbx.block _ (by omega)).trans f1)
    obtain ⟨u0, u1⟩ := cellsOf2 ((hbx.block _ (by omega)).trans f2)
    have hz := (hbx.block _ (by omega)).trans f3
    exact ⟨⟨x0, x1, x2, x3, y0, y1, u0, u1⟩, cellsOf2 hz, frozenOf hz⟩
  obtain ⟨⟨e0, e1, e2, e3, e4, e5, e6, e7⟩, ⟨z0, z1⟩, zf⟩ := he W1 (Below.refl _ _)
  have HE := Lib.hid he; clear he f0 f1 f2 f3
  have hbr := (Below.refl W1.heap.size W1).drew
  go_region_held3 (fun w' => w'.cell? ⟨W.heap.size, 0, none⟩ = some (.int .i64 n1) ∧ w'.cell? ⟨W.heap.size, 1, none⟩ = some (.slice (some ⟨g1, 0, none⟩) n1 c1) ∧ w'.cell? ⟨W.heap.size, 2, none⟩ = some (.int .i64 n2) ∧ w'.cell? ⟨W.heap.size, 3, none⟩ = some (.slice (some ⟨g2, 0, none⟩) n2 c2) ∧ w'.cell? ⟨W.heap.size + 1, 0, none⟩ = some (.int .i64 a) ∧ w'.cell? ⟨W.heap.size + 1, 1, none⟩ = some (.int .i64 b) ∧ w'.cell? ⟨W.heap.size + 1 + 1, 0, none⟩ = some (.int .i64 c) ∧ w'.cell? ⟨W.heap.size + 1 + 1, 1, none⟩ = some (.int .i64 d)) (first | exact ⟨by assumption, by assumption, by assumption, by assumption, by assumption, by assumption, by assumption, by assumption⟩ | exact ⟨by (rw [cell_set_ne (by simp; try omega), cell_set_ne (by simp; try omega)]; assumption), by (rw [cell_set_ne (by simp; try omega), cell_set_ne (by simp; try omega)]; assumption), by (rw [cell_set_ne (by simp; try omega), cell_set_ne (by simp; try omega)]; assumption), by (rw [cell_set_ne (by simp; try omega), cell_set_ne (by simp; try omega)]; assumption), by (rw [cell_set_ne (by simp; try omega), cell_set_ne (by simp; try omega)]; assumption), by (rw [cell_set_ne (by simp; try omega), cell_set_ne (by simp; try omega)]; assumption), by (rw [cell_set_ne (by simp; try omega), cell_set_ne (by simp; try omega)]; assumption), by (rw [cell_set_ne (by simp; try omega), cell_set_ne (by simp; try omega)]; assumption)⟩)
    (first
      | (go_at_call_of 12 (Value.agg #[.int .i64 n1, .slice (some ⟨g1, 0, none⟩) n1 c1]); refine (refJoin_B HN.out.1.1 HN.out.1.2.1 HN.out.1.2.2 HL.out.1 (by assumption) HQ.out.1).mono ?_; rintro e w' ⟨rfl, hbx⟩; obtain ⟨⟨e0, e1, e2, e3, e4, e5, e6, e7⟩, ⟨z0, z1⟩, zf⟩ := HE.out w' hbx)
      | (go_at_call_of 12 (Value.agg #[.int .i64 n2, .slice (some ⟨g2, 0, none⟩) n2 c2]); refine (refJoin_B HN.out.2.1 HN.out.2.2.1 HN.out.2.2.2 HL.out.2 (by assumption) HQ.out.2).mono ?_; rintro e w' ⟨rfl, hbx⟩; obtain ⟨⟨e0, e1, e2, e3, e4, e5, e6, e7⟩, ⟨z0, z1⟩, zf⟩ := HE.out w' hbx))
  all_goals
    obtain ⟨r0, r1⟩ := set_zero z0 z1 (.int .i64 v1) (.int .i64 v2)
    have HF := Lib.hid (((HB.out.trans (hbx.mono (by omega))).setCell (p := ⟨W.heap.size + 1 + 1 + 1, 0, none⟩) (by simp; try omega) (.int .i64 v1)).setCell (p := ⟨W.heap.size + 1 + 1 + 1, 1, none⟩) (by simp; try omega) (.int .i64 v2))
    go_wp2_with fail
    exact bodyPost_ret (v := .agg #[.int .i64 v1, .int .i64 v2]) (by simp [results, Tryd.results37, go_sem, r0, r1]) rfl ⟨rfl, HF.out⟩
end
end Go.Proofs.YtkcbcdfcpchgcaaDoor
