/- LabelJoins' walk. PRINTED by genlab9.py of this folder. -/
import Derived.Test.YtkcbcdfcpchgcaaDoorLab8
set_option linter.unusedVariables false
set_option linter.unusedSimpArgs false
namespace Go.Proofs.YtkcbcdfcpchgcaaDoor
open Go.RowKit
open OrdP (inB Rel allB allB_iff)

section
variable {W0 W : World} {B b1 b2 n1 n2 g1 g2 : Nat} {R1 R2 : Rel} (h1 : 1 ≤ n1 ∧ n1 ≤ 32) (h2 : 1 ≤ n2 ∧ n2 ≤ 32) (hL : LatAt W0 B b1 b2 n1 n2 g1 g2 R1 R2) (hb : Below W0.heap.size W0 W)
include h1 h2 hL hb
theorem lRight_B (x : Int × Int) {v : Bool} (hv : labBelow n1 n2 R1 R2 x x = v) : Calls Tryd.prog 21 #[latV b1 b2, labV x] W (AnsB W0 (.bool v)) := by
  subst hv
  exact (lRight_in h1 h2 (hL.o.below hb) x).mono fun e w h => ⟨h.1, hb.trans (h.2.mono hb.size)⟩
theorem lBelow_B (x y : Int × Int) {v : Bool} (hv : labBelow n1 n2 R1 R2 x y = v) : Calls Tryd.prog 23 #[latV b1 b2, labV x, labV y] W (AnsB W0 (.bool v)) := by
  subst hv
  exact (lBelow_in h1 h2 (hL.o.below hb) x y).mono fun e w h => ⟨h.1, hb.trans (h.2.mono hb.size)⟩
omit h1 h2 in
theorem rBelow_B (c1 c2 : Nat) (x y : Int × Int) {v : Bool} (hv : labBelow n1 n2 R1 R2 x y = v) : Calls Tryd.prog 24 #[refV n1 g1 c1 n2 g2 c2, labV x, labV y] W (AnsB W0 (.bool v)) := by
  subst hv
  exact (rBelow_in c1 c2 (hL.below hb) x y).mono fun e w h => ⟨h.1, hb.trans (h.2.mono hb.size)⟩
omit h1 in
theorem lTrusted_B (x : Int × Int) (t : Int) {v : Bool} (hv : OrdP.belowI n2 R2 t x.2 = v) : Calls Tryd.prog 25 #[latV b1 b2, labV x, .int .i64 t] W (AnsB W0 (.bool (!v))) := by
  subst hv
  exact (lTrusted_in h2 (hL.o.below hb) x t).mono fun e w h => ⟨h.1, hb.trans (h.2.mono hb.size)⟩
theorem lBottom_B {v1 v2 : Int} (hv1 : OrdP.bottom n1 R1 = v1) (hv2 : OrdP.bottom n2 R2 = v2) : Calls Tryd.prog 26 #[latV b1 b2] W (AnsB W0 (labV (v1, v2))) :=
  (lBottom_in h1 h2 (hL.o.below hb) hv1 hv2).mono fun e w h => ⟨h.1, hb.trans (h.2.mono hb.size)⟩
theorem lTop_B {v1 v2 : Int} (hv1 : OrdP.top n1 R1 = v1) (hv2 : OrdP.top n2 R2 = v2) : Calls Tryd.prog 27 #[latV b1 b2] W (AnsB W0 (labV (v1, v2))) :=
  (lTop_in h1 h2 (hL.o.below hb) hv1 hv2).mono fun e w h => ⟨h.1, hb.trans (h.2.mono hb.size)⟩
theorem lJoin_B {A : Option Addr} {len cap : Nat} {l : List (Int × Int)} (hlen : l.length = len) (hl : len ≤ 1000) (hp : PairsAt W0 A l) {x : Int × Int} (hx : labFold n1 n2 R1 R2 l = x) : Calls Tryd.prog 28 #[latV b1 b2, .slice A len cap] W (AnsB W0 (labV x)) := by
  subst hx
  exact (lJoin_in h1 h2 (hL.o.below hb) hlen hl (hp.below hb)).mono fun e w h => ⟨h.1, hb.trans (h.2.mono hb.size)⟩
theorem rJoin_B (c1 c2 : Nat) (hl1 : OrdP.Lat n1 R1) (hl2 : OrdP.Lat n2 R2) {A : Option Addr} {len cap : Nat} {l : List (Int × Int)} (hlen : l.length = len) (hl : len ≤ 1000) (hp : PairsAt W0 A l) (hr : ∀ x ∈ l, labRight n1 n2 x = true) {x : Int × Int} (hx : labFold n1 n2 R1 R2 l = x) : Calls Tryd.prog 29 #[refV n1 g1 c1 n2 g2 c2, .slice A len cap] W (AnsB W0 (labV x)) := by
  subst hx
  obtain ⟨_, _, ⟨S1, s1, e1⟩, ⟨S2, s2, e2⟩⟩ := hL
  exact (rJoin_in c1 c2 h1 h2 (s1.below hb) (s2.below hb) e1 e2 hl1 hl2 hlen hl (hp.below hb) hr).mono fun e w h => ⟨h.1, hb.trans (h.2.mono hb.size)⟩
theorem rBot_B {v1 v2 : Int} (hv1 : OrdP.bottom n1 R1 = v1) (hv2 : OrdP.bottom n2 R2 = v2) (c1 c2 : Nat) :
    Calls Tryd.prog 15 #[.agg #[.int .i64 n1, .slice (some ⟨g1, 0, none⟩) n1 c1]] W (AnsB W0 (.int .i64 v1)) ∧ Calls Tryd.prog 15 #[.agg #[.int .i64 n2, .slice (some ⟨g2, 0, none⟩) n2 c2]] W (AnsB W0 (.int .i64 v2)) := by
  obtain ⟨_, _, ⟨S1, s1, e1⟩, ⟨S2, s2, e2⟩⟩ := hL
  exact ⟨refBottom_B h1.1 h1.2 s1 hb ((OrdP.bottom_congr e1).trans hv1), refBottom_B h2.1 h2.2 s2 hb ((OrdP.bottom_congr e2).trans hv2)⟩
theorem rTop_B {v1 v2 : Int} (hv1 : OrdP.top n1 R1 = v1) (hv2 : OrdP.top n2 R2 = v2) (c1 c2 : Nat) :
    Calls Tryd.prog 17 #[.agg #[.int .i64 n1, .slice (some ⟨g1, 0, none⟩) n1 c1]] W (AnsB W0 (.int .i64 v1)) ∧ Calls Tryd.prog 17 #[.agg #[.int .i64 n2, .slice (some ⟨g2, 0, none⟩) n2 c2]] W (AnsB W0 (.int .i64 v2)) := by
  obtain ⟨_, _, ⟨S1, s1, e1⟩, ⟨S2, s2, e2⟩⟩ := hL
  exact ⟨refTop_B h1.1 h1.2 s1 hb ((OrdP.top_congr e1).trans hv1), refTop_B h2.1 h2.2 s2 hb ((OrdP.top_congr e2).trans hv2)⟩
end

theorem labBelow_self {n1 n2 : Nat} {R1 R2 : Rel} (h1 : OrdP.Lat n1 R1) (h2 : OrdP.Lat n2 R2) (x : Int × Int) : labBelow n1 n2 R1 R2 x x = labRight n1 n2 x := by
  obtain ⟨a, b⟩ := x
  simp only [labBelow, labRight, OrdP.belowI, Bool.and_self]
  cases ha : OrdP.inB n1 a <;> cases hb : OrdP.inB n2 b <;> simp
  simp only [OrdP.inB, Bool.and_eq_true, decide_eq_true_eq] at ha hb
  exact ⟨h1.refl _ (by omega), h2.refl _ (by omega)⟩
end Go.Proofs.YtkcbcdfcpchgcaaDoor
