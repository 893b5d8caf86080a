/- Contracts of label.Lattice's methods and of the reference's, that answer a truth. -/
import Derived.Test.YtkcbcdfcpchgcaaDoorOrdN
set_option linter.unusedVariables false
set_option linter.unusedSimpArgs false
namespace Go.Proofs.YtkcbcdfcpchgcaaDoor
open Go.RowKit
open OrdP (inB Rel allB allB_iff)

/-- Two orders, in memory, with those by the document. -/
structure LatAt (W : World) (B : Nat) (b1 b2 n1 n2 g1 g2 : Nat) (R1 R2 : Rel) : Prop where
  i1 : IsOrd W B b1 n1 R1
  i2 : IsOrd W B b2 n2 R2
  r1 : ∃ S, RefAt W g1 n1 S ∧ ∀ i j, i < n1 → j < n1 → S i j = R1 i j
  r2 : ∃ S, RefAt W g2 n2 S ∧ ∀ i j, i < n2 → j < n2 → S i j = R2 i j
theorem LatAt.below {W W' : World} {B b1 b2 n1 n2 g1 g2 : Nat} {R1 R2 : Rel} (h : LatAt W B b1 b2 n1 n2 g1 g2 R1 R2) (hb : Below W.heap.size W W') : LatAt W' B b1 b2 n1 n2 g1 g2 R1 R2 := by
  obtain ⟨i1, i2, ⟨S1, a1, a2⟩, ⟨S2, c1, c2⟩⟩ := h
  exact ⟨i1.below (Nat.le_refl _) hb, i2.below (Nat.le_refl _) hb, ⟨S1, a1.below hb, a2⟩, ⟨S2, c1.below hb, c2⟩⟩
/-- The two orders alone. -/
structure LatO (W : World) (B : Nat) (b1 b2 n1 n2 : Nat) (R1 R2 : Rel) : Prop where
  i1 : IsOrd W B b1 n1 R1
  i2 : IsOrd W B b2 n2 R2
theorem LatO.below {W W' : World} {B b1 b2 n1 n2 : Nat} {R1 R2 : Rel} (h : LatO W B b1 b2 n1 n2 R1 R2) (hb : Below W.heap.size W W') : LatO W' B b1 b2 n1 n2 R1 R2 := ⟨h.i1.below (Nat.le_refl _) hb, h.i2.below (Nat.le_refl _) hb⟩
theorem LatAt.o {W : World} {B b1 b2 n1 n2 g1 g2 : Nat} {R1 R2 : Rel} (h : LatAt W B b1 b2 n1 n2 g1 g2 R1 R2) : LatO W B b1 b2 n1 n2 R1 R2 := ⟨h.i1, h.i2⟩
def latV (b1 b2 : Nat) : Value := .agg #[.pointer (some ⟨b1, 0, none⟩), .pointer (some ⟨b2, 0, none⟩)]
def refV (n1 g1 c1 n2 g2 c2 : Nat) : Value := .agg #[.int .i64 n1, .slice (some ⟨g1, 0, none⟩) n1 c1, .int .i64 n2, .slice (some ⟨g2, 0, none⟩) n2 c2]
def labV (x : Int × Int) : Value := .agg #[.int .i64 x.1, .int .i64 x.2]
def labBelow (n1 n2 : Nat) (R1 R2 : Rel) (x y : Int × Int) : Bool := OrdP.belowI n1 R1 x.1 y.1 && OrdP.belowI n2 R2 x.2 y.2


/-- What three boxes of two cells hold, in a later world. -/
theorem six {W w3 : World} {x1 y1 x2 y2 x3 y3 : Value} {t1 t2 t3 : TypeId}
    (hb : Below (((W.alloc (.cells #[x1, y1] t1)).alloc (.cells #[x2, y2] t2)).alloc (.cells #[x3, y3] t3)).heap.size (((W.alloc (.cells #[x1, y1] t1)).alloc (.cells #[x2, y2] t2)).alloc (.cells #[x3, y3] t3)) w3) :
    (w3.cell? ⟨W.heap.size, 0, none⟩ = some x1 ∧ w3.cell? ⟨W.heap.size, 1, none⟩ = some y1) ∧
    (w3.cell? ⟨W.heap.size + 1, 0, none⟩ = some x2 ∧ w3.cell? ⟨W.heap.size + 1, 1, none⟩ = some y2) ∧
    (w3.cell? ⟨W.heap.size + 1 + 1, 0, none⟩ = some x3 ∧ w3.cell? ⟨W.heap.size + 1 + 1, 1, none⟩ = some y3) := by
  obtain ⟨h0, h1, h2, hs⟩ := three W (.cells #[x1, y1] t1) (.cells #[x2, y2] t2) (.cells #[x3, y3] t3)
  have k0 := (hb.block _ (by omega)).trans h0
  have k1 := (hb.block _ (by omega)).trans h1
  have k2 := (hb.block _ (by omega)).trans h2
  simp [World.cell?, k0, k1, k2]

section
variable {W : World} {B b1 b2 n1 n2 : Nat} {R1 R2 : Rel} (h1 : 1 ≤ n1 ∧ n1 ≤ 32) (h2 : 1 ≤ n2 ∧ n2 ≤ 32) (hL : LatO W B b1 b2 n1 n2 R1 R2)
include h1 h2 hL

set_option maxRecDepth 100000 in
set_option maxHeartbeats 1000000 in
theorem lBelow_in (x y : Int × Int) : Calls Tryd.prog 23 #[latV b1 b2, labV x, labV y] W fun e w' => e = .returned (.bool (labBelow n1 n2 R1 R2 x y)) ∧ Below W.heap.size W w' := by
  obtain ⟨a, b⟩ := x
  obtain ⟨c, d⟩ := y
  unfold latV labV labBelow
  obtain ⟨v, hv⟩ : ∃ v, OrdP.belowI n1 R1 a c = v := ⟨_, rfl⟩
  obtain ⟨v2, hv2⟩ : ∃ v, OrdP.belowI n2 R2 b d = v := ⟨_, rfl⟩
  rw [hv, hv2]
  have HV := Lib.hid hv; clear hv
  have HV2 := Lib.hid hv2; clear hv2
  have hb := (((Below.refl W.heap.size W).alloc (Nat.le_refl _) (.cells #[.pointer (some ⟨b1, 0, none⟩), .pointer (some ⟨b2, 0, none⟩)] 47)).alloc (by simp) (.cells #[.int .i64 a, .int .i64 b] 53)).alloc (by simp; omega) (.cells #[.int .i64 c, .int .i64 d] 53)
  have HB := Lib.hid hb; clear hb
  have HL := Lib.hid hL; clear hL
  cases v
  · go_enter Tryd.func23, Tryd.ntmps23
    go_wp2_with fail
    refine (Below_B h1.2 HL.out.i1 HB.out HV.out).mono ?_
    rintro e w3 ⟨rfl, hb3⟩
    go_wp2_with fail
    go_ret
    exact ⟨rfl, hb3⟩
  · go_enter Tryd.func23, Tryd.ntmps23
    go_wp2_with fail
    refine (Below_B (W0 := ((W.alloc (.cells #[.pointer (some ⟨b1, 0, none⟩), .pointer (some ⟨b2, 0, none⟩)] 47)).alloc (.cells #[.int .i64 a, .int .i64 b] 53)).alloc (.cells #[.int .i64 c, .int .i64 d] 53)) h1.2 (HL.out.below HB.out).i1 (Below.refl _ _) HV.out).mono ?_
    rintro e w3 ⟨rfl, hb3⟩
    obtain ⟨⟨k1, k2⟩, ⟨k3, k4⟩, ⟨k5, k6⟩⟩ := six hb3
    go_wp2_with fail
    refine (Below_B (W0 := ((W.alloc (.cells #[.pointer (some ⟨b1, 0, none⟩), .pointer (some ⟨b2, 0, none⟩)] 47)).alloc (.cells #[.int .i64 a, .int .i64 b] 53)).alloc (.cells #[.int .i64 c, .int .i64 d] 53)) h2.2 (HL.out.below HB.out).i2 hb3 HV2.out).mono ?_
    rintro e w4 ⟨rfl, hb4⟩
    go_wp2_with fail
    go_ret
    exact ⟨rfl, HB.out.trans (hb4.mono (by simp; omega))⟩

theorem lRight_in (x : Int × Int) : Calls Tryd.prog 21 #[latV b1 b2, labV x] W fun e w' => e = .returned (.bool (labBelow n1 n2 R1 R2 x x)) ∧ Below W.heap.size W w' := by
  obtain ⟨a, b⟩ := x
  have hb := (((Below.refl W.heap.size W).alloc (Nat.le_refl _) (.cells #[.pointer (some ⟨b1, 0, none⟩), .pointer (some ⟨b2, 0, none⟩)] 47)).alloc (by simp) (.cells #[.int .i64 a, .int .i64 b] 53))
  have HL := Lib.hid (hL.below hb)
  have HB := Lib.hid hb
  clear hL hb
  unfold latV labV
  go_enter Tryd.func21, Tryd.ntmps21
  go_wp2_with fail
  refine (lBelow_in h1 h2 HL.out (a, b) (a, b)).mono ?_
  rintro e w3 ⟨rfl, hb3⟩
  go_wp2_with fail
  go_ret
  exact ⟨rfl, HB.out.trans (hb3.mono (by simp; omega))⟩

omit h1 in
theorem lTrusted_in (x : Int × Int) (t : Int) : Calls Tryd.prog 25 #[latV b1 b2, labV x, .int .i64 t] W fun e w' => e = .returned (.bool (!OrdP.belowI n2 R2 t x.2)) ∧ Below W.heap.size W w' := by
  obtain ⟨a, b⟩ := x
  obtain ⟨v, hv⟩ : ∃ v, OrdP.belowI n2 R2 t b = v := ⟨_, rfl⟩
  show Calls _ _ _ _ fun e w' => e = .returned (.bool (!OrdP.belowI n2 R2 t b)) ∧ _
  rw [hv]
  have hb := (((Below.refl W.heap.size W).alloc (Nat.le_refl _) (.cells #[.pointer (some ⟨b1, 0, none⟩), .pointer (some ⟨b2, 0, none⟩)] 47)).alloc (by simp) (.cells #[.int .i64 a, .int .i64 b] 53))
  have HL := Lib.hid hL
  have HB := Lib.hid hb
  have HV := Lib.hid hv
  clear hL hb hv
  unfold latV labV
  go_enter Tryd.func25, Tryd.ntmps25
  go_wp2_with fail
  refine (Below_B h2.2 HL.out.i2 HB.out HV.out).mono ?_
  rintro e w3 ⟨rfl, hb3⟩
  cases v
  all_goals
    go_wp2_with fail
    go_ret
    exact ⟨rfl, hb3⟩
end

end Go.Proofs.YtkcbcdfcpchgcaaDoor
