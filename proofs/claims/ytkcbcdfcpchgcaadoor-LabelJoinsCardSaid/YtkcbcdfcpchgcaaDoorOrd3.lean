/- math/bits.TrailingZeros32 at every number but 0. -/
import Derived.Test.YtkcbcdfcpchgcaaDoorOrd2
import Derived.Test.YtkcbcdfcpchgcaaDoorOrdB
set_option linter.unusedVariables false
set_option linter.unusedSimpArgs false
namespace Go.Proofs.YtkcbcdfcpchgcaaDoor
open Go.RowKit

def TabAt (w : World) : Prop := ∀ i, i < 32 → w.cell? ⟨0, i, none⟩ = some (.int .u8 (OrdB.tab i : Nat))

set_option maxHeartbeats 1000000 in
theorem ctz_in (w : World) (ht : TabAt w) (s c : Nat) (h0 : s ≠ 0) (hs : s < 4294967296) (hl : OrdB.Low s c) :
    Calls Tryd.prog 38 #[.int .u32 s] w fun e w' => e = .returned (.int .i64 c) ∧ w = w' := by
  have hz : ((s : Int) == 0) = false := by simp; omega
  have hb : bits .and .u32 (s : Int) (-(s : Int) % 4294967296) = ((2 ^ c : Nat) : Int) := by
    rw [show -(s : Int) % 4294967296 = ((4294967296 - s : Nat) : Int) by omega, u32_and_nat _ _ hs (by omega), hl.only]
  obtain ⟨p, hp⟩ : ∃ p : Nat, p = 2 ^ c := ⟨_, rfl⟩
  rw [← hp] at hb
  have hi := OrdB.idx_lt c
  have hv := OrdB.tab_of c hl.lt
  rw [← hp] at hi hv
  obtain ⟨k, hk⟩ : ∃ k : Nat, k = p * 125613361 % 4294967296 / 134217728 := ⟨_, rfl⟩
  have hk' : (p : Int) * 125613361 % 4294967296 / 134217728 = (k : Int) := by rw [hk]; simp
  rw [← hk] at hi hv
  have hc := ht k hi
  rw [hv] at hc
  have hc32 := hl.lt
  clear hk hp hv
  go_enter Tryd.func38, Tryd.ntmps38
  go_wp2_with fail
  go_ret
  exact ⟨rfl, rfl⟩

end Go.Proofs.YtkcbcdfcpchgcaaDoor
