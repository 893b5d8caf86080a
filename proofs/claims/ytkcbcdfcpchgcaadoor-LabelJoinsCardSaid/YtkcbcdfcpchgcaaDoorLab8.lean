/- The chapter's example of layer 2. -/
import Derived.Test.YtkcbcdfcpchgcaaDoorLab7
set_option linter.unusedVariables false
set_option linter.unusedSimpArgs false
namespace Go.Proofs.YtkcbcdfcpchgcaaDoor
open Go.RowKit
open OrdP (inB Rel allB allB_iff)

def exP : List (Int × Int) := [(0, 1)]
theorem exP_good : good 2 exP = true := by decide
theorem exP_lat : OrdP.lattice 2 (newR 2 exP) = true := by decide +kernel
theorem exP_fold : labFold 2 2 (newR 2 exP) (newR 2 exP) [(1, 0), (0, 1)] = (1, 1) := by decide +kernel
theorem exP_right : labBelow 2 2 (newR 2 exP) (newR 2 exP) (1, 0) (1, 0) = true := by decide +kernel

theorem pairs_one (w : World) : PairsAt (w.alloc (.cells #[.int .i64 0, .int .i64 1] 63)) (some ⟨w.heap.size, 0, none⟩) exP := by
  refine .inr ⟨_, _, rfl, fun i hi => ?_⟩
  have h := cellsOf2 (last w (.cells #[.int .i64 0, .int .i64 1] 63))
  have hi' : i < 1 := hi
  obtain rfl : i = 0 := by omega
  exact h
theorem pairs_two (w : World) : PairsAt (w.alloc (.cells #[.int .i64 1, .int .i64 0, .int .i64 0, .int .i64 1] 53)) (some ⟨w.heap.size, 0, none⟩) [(1, 0), (0, 1)] := by
  refine .inr ⟨_, _, rfl, fun i hi => ?_⟩
  have h := cellsOf4 (last w (.cells #[.int .i64 1, .int .i64 0, .int .i64 0, .int .i64 1] 53))
  have hi' : i < 2 := hi
  rcases i with _ | _ | i
  · exact ⟨h.1, h.2.1⟩
  · exact ⟨h.2.2.1, h.2.2.2⟩
  · omega

/-- New of the example. -/
theorem New_two (w : World) (ht : TabAt w) (hB0 : 0 < w.heap.size) (A : Addr) (hp : PairsAt w (some A) exP) :
    Calls Tryd.prog 18 #[.int .i64 2, .slice (some A) 1 1] w fun e w' => Below w.heap.size w w' ∧ ∃ b, e = .returned (.tuple #[.pointer (some ⟨b, 0, none⟩), .int .i64 0]) ∧ IsOrd w' w.heap.size b 2 (newR 2 exP) := by
  refine (New_in w ht hB0 2 (some A) 1 exP (by decide) hp).mono ?_
  rintro e w1 ⟨hb1, h⟩
  rcases h with ⟨h, _⟩ | ⟨_, h, _⟩ | ⟨_, _, b, rfl, hI⟩
  · rw [exP_good] at h; cases h
  · have h' : OrdP.lattice 2 (newR 2 exP) = false := h
    rw [exP_lat] at h'; cases h'
  · exact ⟨hb1, b, rfl, hI⟩

set_option maxRecDepth 100000 in
theorem lives2_in (w : World) (ht : TabAt w) (hB0 : 0 < w.heap.size) :
    Calls Tryd.prog 19 #[] w fun e w' => e = .returned (.bool true) ∧ Below w.heap.size w w' := by
  have HT := Lib.hid ht; clear ht
  go_enter Tryd.func19, Tryd.ntmps19
  go_wp2_with fail
  have hp := pairs_one w
  have hb0 : Below w.heap.size w (w.alloc (.cells #[.int .i64 0, .int .i64 1] 63)) := (Below.refl _ _).alloc (Nat.le_refl _) _
  generalize w.alloc (.cells #[.int .i64 0, .int .i64 1] 63) = w0 at *
  have hs0 := hb0.size
  refine (New_two w0 (HT.out.below hB0 hb0) (by omega) ⟨w.heap.size, 0, none⟩ hp).mono ?_
  rintro e w1 ⟨hb1, b1, rfl, hI1⟩
  have hb01 := hb0.trans (hb1.mono hs0)
  have hs1 := hb1.size
  have H1 := Lib.hid hI1
  clear hI1 hp hb1 hb0
  go_wp2_with fail
  have hp := pairs_one w1
  have hb2 : Below w1.heap.size w1 (w1.alloc (.cells #[.int .i64 0, .int .i64 1] 63)) := (Below.refl _ _).alloc (Nat.le_refl _) _
  generalize w1.alloc (.cells #[.int .i64 0, .int .i64 1] 63) = w2 at *
  have hs2 := hb2.size
  have hb02 := hb01.trans (hb2.mono (by omega))
  have H12 := Lib.hid (H1.out.below (Nat.le_refl _) hb2)
  refine (New_two w2 (HT.out.below hB0 hb02) (by omega) ⟨w1.heap.size, 0, none⟩ hp).mono ?_
  rintro e w3 ⟨hb3, b2, rfl, hI2⟩
  have hs3 := hb3.size
  have hb03 := hb02.trans (hb3.mono (by omega))
  have HLO := Lib.hid (show LatO w3 w.heap.size b1 b2 2 2 (newR 2 exP) (newR 2 exP) from ⟨(H12.out.below (Nat.le_refl _) hb3).low hs0, hI2.low (by omega)⟩)
  clear hI2 hp hb3 hb2 H12 H1 hb01 hb02
  have hbA := ((Below.refl w3.heap.size w3).alloc (Nat.le_refl _) (.cells #[.pointer (some ⟨b1, 0, none⟩), .pointer (some ⟨b2, 0, none⟩)] 47)).alloc (by simp) (.cells #[.int .i64 1, .int .i64 0, .int .i64 0, .int .i64 1] 53)
  have hp := pairs_two (w3.alloc (.cells #[.pointer (some ⟨b1, 0, none⟩), .pointer (some ⟨b2, 0, none⟩)] 47))
  rw [show (w3.alloc (.cells #[.pointer (some ⟨b1, 0, none⟩), .pointer (some ⟨b2, 0, none⟩)] 47)).heap.size = w3.heap.size + 1 by simp] at hp
  have q0 : ((w3.alloc (.cells #[.pointer (some ⟨b1, 0, none⟩), .pointer (some ⟨b2, 0, none⟩)] 47)).alloc (.cells #[.int .i64 1, .int .i64 0, .int .i64 0, .int .i64 1] 53)).heap[w3.heap.size]? = some (.cells #[.pointer (some ⟨b1, 0, none⟩), .pointer (some ⟨b2, 0, none⟩)] 47) := by
    rw [Below.heap_alloc _ _ _ (by simp)]; exact last _ _
  have hs4 : ((w3.alloc (.cells #[.pointer (some ⟨b1, 0, none⟩), .pointer (some ⟨b2, 0, none⟩)] 47)).alloc (.cells #[.int .i64 1, .int .i64 0, .int .i64 0, .int .i64 1] 53)).heap.size = w3.heap.size + 2 := by simp
  have hb04 := hb03.trans (hbA.mono (by omega))
  have hc : Calls Tryd.prog 28 #[latV b1 b2, .slice (some ⟨w3.heap.size + 1, 0, none⟩) 2 2] ((w3.alloc (.cells #[.pointer (some ⟨b1, 0, none⟩), .pointer (some ⟨b2, 0, none⟩)] 47)).alloc (.cells #[.int .i64 1, .int .i64 0, .int .i64 0, .int .i64 1] 53)) fun e w' => e = .returned (labV (1, 1)) ∧ Below (w3.heap.size + 2) ((w3.alloc (.cells #[.pointer (some ⟨b1, 0, none⟩), .pointer (some ⟨b2, 0, none⟩)] 47)).alloc (.cells #[.int .i64 1, .int .i64 0, .int .i64 0, .int .i64 1] 53)) w' := by
    have h := lJoin_in (by omega) (by omega) (HLO.out.below hbA) (cap := 2) (len := 2) (l := [(1, 0), (0, 1)]) rfl (by omega) hp
    rw [exP_fold, hs4] at h
    exact h
  have HL4 := Lib.hid (HLO.out.below hbA)
  have HC := Lib.hid hc
  clear hbA hp hc
  go_wp2_with fail
  generalize (w3.alloc (.cells #[.pointer (some ⟨b1, 0, none⟩), .pointer (some ⟨b2, 0, none⟩)] 47)).alloc (.cells #[.int .i64 1, .int .i64 0, .int .i64 0, .int .i64 1] 53) = w4 at *
  unfold latV at HC
  refine HC.out.mono ?_
  rintro e w5 ⟨rfl, hb5⟩
  rw [← hs4] at hb5
  obtain ⟨d0, d1⟩ := cellsOf2 ((hb5.block _ (by omega)).trans q0)
  have hs5 := hb5.size
  have hb05 := hb04.trans (hb5.mono (by omega))
  have hr := lRight_in (by omega) (by omega) (HL4.out.below hb5) (1, 0)
  rw [exP_right] at hr
  unfold latV labV at hr
  have HR := Lib.hid hr
  clear hr HC hb5 q0 hb04
  unfold labV
  go_wp2_with fail
  refine HR.out.mono ?_
  rintro e w6 ⟨rfl, hb6⟩
  go_wp2_with fail
  go_ret
  exact ⟨rfl, hb05.trans (hb6.mono (by omega))⟩
end Go.Proofs.YtkcbcdfcpchgcaaDoor
