/- Plain facts on the lowest set bit of a number. -/
import Derived.Lib.TrailingZeros
set_option linter.unusedVariables false
set_option linter.unusedSimpArgs false
namespace Go.Proofs.YtkcbcdfcpchgcaaDoor.OrdB

theorem odd_bit (m j : Nat) : (2 * m + 1).testBit j = if j = 0 then true else m.testBit (j - 1) := by
  cases j with
  | zero => simp [Nat.testBit_zero]
  | succ j => simp [Nat.testBit_succ]; congr 1; omega
theorem even_bit (m j : Nat) : (2 * m).testBit j = if j = 0 then false else m.testBit (j - 1) := by
  cases j with
  | zero => simp [Nat.testBit_zero]
  | succ j => simp [Nat.testBit_succ]

theorem bit_of (c m j : Nat) : (2 ^ c * (2 * m + 1)).testBit j = if j < c then false else if j = c then true else m.testBit (j - c - 1) := by
  rw [Nat.testBit_two_pow_mul, odd_bit]
  by_cases h : j < c
  · have : ¬ c ≤ j := by omega
    simp [h, this]
  · by_cases e : j = c
    · subst e; simp
    · have h1 : c ≤ j := by omega
      have h2 : j - c ≠ 0 := by omega
      simp [h, e, h1, h2]
theorem bit_pred (c m j : Nat) : (2 ^ c * (2 * m + 1) - 1).testBit j = if j < c then true else if j = c then false else m.testBit (j - c - 1) := by
  have hp : 0 < 2 ^ c := Nat.two_pow_pos c
  have e : 2 ^ c * (2 * m + 1) - 1 = 2 ^ c * (2 * m) + (2 ^ c - 1) := by
    rw [Nat.mul_add, Nat.mul_one]; omega
  rw [e, Nat.testBit_two_pow_mul_add _ (by omega), even_bit]
  by_cases h : j < c
  · simp [h, Nat.testBit_two_pow_sub_one]
  · by_cases e : j = c
    · subst e; simp
    · have h2 : j - c ≠ 0 := by omega
      simp [h, e, h2]

/-- the lowest set bit -/
structure Low (s c : Nat) : Prop where
  lt : c < 32
  bit : s.testBit c = true
  clear : ∀ j, (s &&& (s - 1)).testBit j = (s.testBit j && !decide (j = c))
  less : s &&& (s - 1) < s
  only : s &&& (4294967296 - s) = 2 ^ c

theorem low (s : Nat) (h0 : s ≠ 0) (hs : s < 4294967296) : ∃ c, Low s c := by
  obtain ⟨m, hm, hc⟩ := Lib.ctzFrom_spec 32 s (by omega) hs
  refine ⟨Lib.ctzFrom 32 s, ?_⟩
  generalize Lib.ctzFrom 32 s = c at *
  have hbit : ∀ j, s.testBit j = if j < c then false else if j = c then true else m.testBit (j - c - 1) := fun j => by rw [hm, bit_of]
  have hpred : ∀ j, (s - 1).testBit j = if j < c then true else if j = c then false else m.testBit (j - c - 1) := fun j => by rw [hm, bit_pred]
  refine ⟨hc, by rw [hbit]; simp, fun j => ?_, ?_, ?_⟩
  · rw [Nat.testBit_and, hbit, hpred]
    by_cases h : j < c
    · simp [h]
    · by_cases e : j = c
      · subst e; simp
      · simp [h, e]
  · have : s &&& (s - 1) ≤ s - 1 := Nat.and_le_right
    omega
  · apply Nat.eq_of_testBit_eq
    intro j
    have e : 4294967296 - s = 2 ^ 32 - ((s - 1) + 1) := by omega
    rw [Nat.testBit_and, e, Nat.testBit_two_pow_sub_succ (by omega), hbit, hpred, Nat.testBit_two_pow]
    by_cases h : j < c
    · have : c ≠ j := by omega
      simp [h, this]
    · by_cases e : j = c
      · subst e; simp [hc]
      · have : ¬ c = j := by omega
        simp [h, e, this]
        exact fun a _ => a

def tab (i : Nat) : Nat := [0, 1, 28, 2, 29, 14, 24, 3, 30, 22, 20, 15, 25, 17, 4, 8, 31, 27, 13, 23, 21, 19, 16, 7, 26, 12, 18, 6, 11, 5, 10, 9].getD i 0
theorem tab_of : ∀ c, c < 32 → tab (2 ^ c * 125613361 % 4294967296 / 134217728) = c := by decide
theorem idx_lt (c : Nat) : 2 ^ c * 125613361 % 4294967296 / 134217728 < 32 := by omega

end Go.Proofs.YtkcbcdfcpchgcaaDoor.OrdB
