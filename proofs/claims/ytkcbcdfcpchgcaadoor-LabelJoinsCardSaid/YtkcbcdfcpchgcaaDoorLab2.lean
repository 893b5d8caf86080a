/- Contracts of the document's labels, and of Bottom, Top, Join. -/
import Derived.Test.YtkcbcdfcpchgcaaDoorLab1
set_option linter.unusedVariables false
set_option linter.unusedSimpArgs false
namespace Go.Proofs.YtkcbcdfcpchgcaaDoor
open Go.RowKit
open OrdP (inB Rel allB allB_iff)

def labRight (n1 n2 : Nat) (x : Int × Int) : Bool := OrdP.inB n1 x.1 && OrdP.inB n2 x.2
theorem box4 (W : World) (x y z u : Value) (t : TypeId) : (W.alloc (.cells #[x, y, z, u] t)).cell? ⟨W.heap.size, 0, none⟩ = some x ∧ (W.alloc (.cells #[x, y, z, u] t)).cell? ⟨W.heap.size, 1, none⟩ = some y ∧ (W.alloc (.cells #[x, y, z, u] t)).cell? ⟨W.heap.size, 2, none⟩ = some z ∧ (W.alloc (.cells #[x, y, z, u] t)).cell? ⟨W.heap.size, 3, none⟩ = some u := by
  have h : (W.alloc (.cells #[x, y, z, u] t)).heap[W.heap.size]? = some (.cells #[x, y, z, u] t) := by simp only [World.alloc, Array.getElem?_push]; simp
  refine ⟨?_, ?_, ?_, ?_⟩ <;> simp only [World.cell?, h] <;> rfl

theorem rRight_in (W : World) (n1 g1 c1 n2 g2 c2 : Nat) (x : Int × Int) : Calls Tryd.prog 22 #[refV n1 g1 c1 n2 g2 c2, labV x] W fun e w' => e = .returned (.bool (labRight n1 n2 x)) ∧ Below W.heap.size W w' := by
  obtain ⟨a, b⟩ := x
  unfold labRight OrdP.inB refV labV
  have hb := (((Below.refl W.heap.size W).alloc (Nat.le_refl _) (.cells #[.int .i64 n1, .slice (some ⟨g1, 0, none⟩) n1 c1, .int .i64 n2, .slice (some ⟨g2, 0, none⟩) n2 c2] 49)).alloc (by simp) (.cells #[.int .i64 a, .int .i64 b] 53))
  have HB := Lib.hid hb
  clear hb
  have hcase : a < 0 ∨ (0 ≤ a ∧ (n1 : Int) ≤ a) ∨ (0 ≤ a ∧ a < n1 ∧ b < 0) ∨ (0 ≤ a ∧ a < n1 ∧ 0 ≤ b ∧ (n2 : Int) ≤ b) ∨ (0 ≤ a ∧ a < n1 ∧ 0 ≤ b ∧ b < n2) := by omega
  rcases hcase with k1 | ⟨k1, k2⟩ | ⟨k1, k2, k3⟩ | ⟨k1, k2, k3, k4⟩ | ⟨k1, k2, k3, k4⟩
  all_goals
    first
      | (rw [show (decide ((0 : Int) ≤ a) && decide (a < (n1 : Int)) && (decide ((0 : Int) ≤ b) && decide (b < (n2 : Int)))) = false by (simp; omega)])
      | (rw [show (decide ((0 : Int) ≤ a) && decide (a < (n1 : Int)) && (decide ((0 : Int) ≤ b) && decide (b < (n2 : Int)))) = true by (simp; omega)])
    go_enter Tryd.func22, Tryd.ntmps22
    go_wp2_with fail
    go_ret
    exact ⟨by first | rfl | (show Ending.returned (.bool (decide (b < (n2 : Int)))) = _; rw [decide_eq_false (by omega)]) | (show Ending.returned (.bool (decide (b < (n2 : Int)))) = _; rw [decide_eq_true (by omega)]), HB.out⟩

theorem rRight_B {W0 W : World} (hb : Below W0.heap.size W0 W) (n1 g1 c1 n2 g2 c2 : Nat) (x : Int × Int) {v : Bool} (hv : labRight n1 n2 x = v) : Calls Tryd.prog 22 #[refV n1 g1 c1 n2 g2 c2, labV x] W (AnsB W0 (.bool v)) := by
  subst hv
  exact (rRight_in W n1 g1 c1 n2 g2 c2 x).mono fun e w h => ⟨h.1, hb.trans (h.2.mono hb.size)⟩

theorem eight {W w : World} {x1 y1 z1 u1 x2 y2 x3 y3 : Value} {t1 t2 t3 : TypeId}
    (hb : Below (((W.alloc (.cells #[x1, y1, z1, u1] t1)).alloc (.cells #[x2, y2] t2)).alloc (.cells #[x3, y3] t3)).heap.size (((W.alloc (.cells #[x1, y1, z1, u1] t1)).alloc (.cells #[x2, y2] t2)).alloc (.cells #[x3, y3] t3)) w) :
    (w.cell? ⟨W.heap.size, 0, none⟩ = some x1 ∧ w.cell? ⟨W.heap.size, 1, none⟩ = some y1 ∧ w.cell? ⟨W.heap.size, 2, none⟩ = some z1 ∧ w.cell? ⟨W.heap.size, 3, none⟩ = some u1) ∧
    (w.cell? ⟨W.heap.size + 1, 0, none⟩ = some x2 ∧ w.cell? ⟨W.heap.size + 1, 1, none⟩ = some y2) ∧
    (w.cell? ⟨W.heap.size + 1 + 1, 0, none⟩ = some x3 ∧ w.cell? ⟨W.heap.size + 1 + 1, 1, none⟩ = some y3) := by
  obtain ⟨h0, h1, h2, hs⟩ := three W (.cells #[x1, y1, z1, u1] t1) (.cells #[x2, y2] t2) (.cells #[x3, y3] t3)
  have k0 := (hb.block _ (by omega)).trans h0
  have k1 := (hb.block _ (by omega)).trans h1
  have k2 := (hb.block _ (by omega)).trans h2
  simp [World.cell?, k0, k1, k2]

section
variable {W : World} {B b1 b2 n1 n2 g1 g2 : Nat} {R1 R2 : Rel} (c1 c2 : Nat) (hL : LatAt W B b1 b2 n1 n2 g1 g2 R1 R2)
include hL
set_option maxRecDepth 100000 in
theorem rBelow_in (x y : Int × Int) : Calls Tryd.prog 24 #[refV n1 g1 c1 n2 g2 c2, labV x, labV y] W fun e w' => e = .returned (.bool (labBelow n1 n2 R1 R2 x y)) ∧ Below W.heap.size W w' := by
  obtain ⟨a, b⟩ := x
  obtain ⟨c, d⟩ := y
  have hb := (((Below.refl W.heap.size W).alloc (Nat.le_refl _) (.cells #[.int .i64 n1, .slice (some ⟨g1, 0, none⟩) n1 c1, .int .i64 n2, .slice (some ⟨g2, 0, none⟩) n2 c2] 49)).alloc (by simp) (.cells #[.int .i64 a, .int .i64 b] 53)).alloc (by simp; omega) (.cells #[.int .i64 c, .int .i64 d] 53)
  obtain ⟨p, hp⟩ : ∃ v, labRight n1 n2 (a, b) = v := ⟨_, rfl⟩
  obtain ⟨q, hq⟩ : ∃ v, labRight n1 n2 (c, d) = v := ⟨_, rfl⟩
  have HP := Lib.hid hp; clear hp
  have HQ := Lib.hid hq; clear hq
  have HL := Lib.hid (hL.below hb)
  have HB := Lib.hid hb
  clear hL hb
  obtain ⟨v, hv⟩ : ∃ v, labBelow n1 n2 R1 R2 (a, b) (c, d) = v := ⟨_, rfl⟩
  rw [hv]
  have HV := Lib.hid hv; clear hv
  have he : ∀ w, Below _ _ w → _ := fun w hb => eight (W := W) (w := w) (x1 := .int .i64 n1) (y1 := .slice (some ⟨g1, 0, none⟩) n1 c1) (z1 := .int .i64 n2) (u1 := .slice (some ⟨g2, 0, none⟩) n2 c2) (t1 := 49) (x2 := .int .i64 a) (y2 := .int .i64 b) (t2 := 53) (x3 := .int .i64 c) (y3 := .int .i64 d) (t3 := 53) hb
  have hsz : W.heap.size ≤ (((W.alloc (.cells #[.int .i64 n1, .slice (some ⟨g1, 0, none⟩) n1 c1, .int .i64 n2, .slice (some ⟨g2, 0, none⟩) n2 c2] 49)).alloc (.cells #[.int .i64 a, .int .i64 b] 53)).alloc (.cells #[.int .i64 c, .int .i64 d] 53)).heap.size := by simp; omega
  unfold refV labV
  go_enter Tryd.func24, Tryd.ntmps24
  go_wp2_with fail
  generalize ((W.alloc (.cells #[.int .i64 n1, .slice (some ⟨g1, 0, none⟩) n1 c1, .int .i64 n2, .slice (some ⟨g2, 0, none⟩) n2 c2] 49)).alloc (.cells #[.int .i64 a, .int .i64 b] 53)).alloc (.cells #[.int .i64 c, .int .i64 d] 53) = W1 at *
  refine (rRight_B (Below.refl W1.heap.size W1) n1 g1 c1 n2 g2 c2 (a, b) HP.out).mono ?_
  rintro e w2 ⟨rfl, hb2⟩
  obtain ⟨⟨k1, k2, k3, k4⟩, ⟨k5, k6⟩, k7, k8⟩ := he w2 hb2
  go_wp2_with fail
  refine (rRight_B hb2 n1 g1 c1 n2 g2 c2 (c, d) HQ.out).mono ?_
  rintro e w3 ⟨rfl, hb3⟩
  clear k1 k2 k3 k4 k5 k6 k7 k8
  obtain ⟨⟨k1, k2, k3, k4⟩, ⟨k5, k6⟩, k7, k8⟩ := he w3 hb3
  have HE := Lib.hid he; clear he
  have hHV := HV.out
  cases p
  · obtain rfl : v = false := by rw [← hHV]; have := HP.out; simp only [labRight, labBelow, OrdP.belowI] at *; revert this; cases OrdP.inB n1 a <;> cases OrdP.inB n2 b <;> simp
    clear hHV
    go_wp2_with fail
    go_quiet (fail)
    go_wp2_with fail
    go_ret
    exact ⟨rfl, HB.out.trans ((below_drewN hb3 _).mono hsz)⟩
  · cases q
    · obtain rfl : v = false := by rw [← hHV]; have := HQ.out; simp only [labRight, labBelow, OrdP.belowI] at *; revert this; cases OrdP.inB n1 c <;> cases OrdP.inB n2 d <;> simp
      clear hHV
      go_wp2_with fail
      go_quiet (fail)
      go_wp2_with fail
      go_ret
      exact ⟨rfl, HB.out.trans ((below_drewN hb3 _).mono hsz)⟩
    · have hP := HP.out
      have hQ := HQ.out
      simp only [labRight, OrdP.inB, Bool.and_eq_true, decide_eq_true_eq] at hP hQ
      obtain ⟨⟨a0, a1⟩, b0, b1'⟩ := hP
      obtain ⟨⟨c0, c1'⟩, d0, d1⟩ := hQ
      obtain ⟨a, rfl⟩ := Int.eq_ofNat_of_zero_le a0
      obtain ⟨b, rfl⟩ := Int.eq_ofNat_of_zero_le b0
      obtain ⟨c, rfl⟩ := Int.eq_ofNat_of_zero_le c0
      obtain ⟨d, rfl⟩ := Int.eq_ofNat_of_zero_le d0
      have a2 : a < n1 := by omega
      have b2 : b < n2 := by omega
      have c2' : c < n1 := by omega
      have d2 : d < n2 := by omega
      have hv3 : (R1 a c && R2 b d) = v := by rw [← hHV]; simp [labBelow, OrdP.belowI_nat a2 c2', OrdP.belowI_nat b2 d2]
      obtain ⟨S1, ⟨row1, r1, r2⟩, rS1⟩ := (HL.out.below hb3).r1
      obtain ⟨S2, ⟨row2, q1, q2⟩, qS2⟩ := (HL.out.below hb3).r2
      have m1 := r1 a a2
      have m2 := r2 a c a2 c2'
      have m3 := q1 b b2
      have m4 := q2 b d b2 d2
      rw [rS1 a c a2 c2'] at m2
      rw [qS2 b d b2 d2] at m4
      clear r1 r2 q1 q2 rS1 qS2 hHV
      obtain ⟨z1, hz1⟩ : ∃ z, R1 a c = z := ⟨_, rfl⟩
      obtain ⟨z2, hz2⟩ : ∃ z, R2 b d = z := ⟨_, rfl⟩
      rw [hz1] at m2 hv3
      rw [hz2] at m4 hv3
      clear hz1 hz2
      subst hv3
      cases z1 <;> cases z2
      all_goals
        go_wp2_with fail
        go_quiet (fail)
        go_wp2_with fail
        go_ret
        exact ⟨rfl, HB.out.trans ((below_drewN hb3 _).mono hsz)⟩
end
end Go.Proofs.YtkcbcdfcpchgcaaDoor
