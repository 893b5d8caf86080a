/- The reference's tokens, plain: code points, places, the scan; they are the tree's. -/
import Derived.Test.YtinebmfmkgjaaaaGreatDoorLex6
import Derived.Lib.DecodeN
import Derived.Lib.RuneCountTail
set_option linter.unusedVariables false
set_option linter.unusedSimpArgs false
namespace Go.Proofs.YtinebmfmkgjaaaaGreatDoor

theorem get_eq {s : ByteArray} {k : Nat} (h : k < s.size) : s.get! k = s[k]'h := by
  have h' : k < s.data.size := h
  show s.data[k]! = s.data[k]'h'
  rw [getElem!_pos s.data k h']
theorem hd_get {s : ByteArray} (h : 0 < s.size) : hd s = s.get! 0 := (hd_eq h).symm.trans (get_eq h).symm
def moB (s : ByteArray) (i lo hi : Nat) : Bool := decide (i < s.size) && (decide (lo ≤ (s.get! i).toNat) && decide ((s.get! i).toNat ≤ hi))
def scB (s : ByteArray) (n : Nat) : Nat → Nat → Nat → Nat → Nat
  | 0, _, _, _ => n
  | N + 1, i, lo, hi => if i < n then (if moB s i lo hi then scB s n N (i + 1) 128 191 else 0) else n
def loB (c : Nat) : Nat := if c = 224 then 160 else if c = 240 then 144 else 128
def hiB (c : Nat) : Nat := if c = 237 then 159 else if c = 244 then 143 else 191
def lnB (c : Nat) : Nat := if 194 ≤ c ∧ c ≤ 223 then 2 else if 224 ≤ c ∧ c ≤ 239 then 3 else if 240 ≤ c ∧ c ≤ 244 then 4 else 0
/-- How many bytes the code point has that comes; 0: none does. -/
def ptB (s : ByteArray) : Nat := if (s.get! 0).toNat < 128 then 1 else scB s (lnB (s.get! 0).toNat) 4 1 (loB (s.get! 0).toNat) (hiB (s.get! 0).toNat)
def ptN (n b0 b1 b2 b3 : Nat) : Nat :=
  if b0 < 128 then 1 else if lnB b0 = 2 then (if 1 < n ∧ loB b0 ≤ b1 ∧ b1 ≤ hiB b0 then 2 else 0)
  else if lnB b0 = 3 then (if (1 < n ∧ loB b0 ≤ b1 ∧ b1 ≤ hiB b0) ∧ (2 < n ∧ 128 ≤ b2 ∧ b2 ≤ 191) then 3 else 0)
  else if lnB b0 = 4 then (if (1 < n ∧ loB b0 ≤ b1 ∧ b1 ≤ hiB b0) ∧ (2 < n ∧ 128 ≤ b2 ∧ b2 ≤ 191) ∧ (3 < n ∧ 128 ≤ b3 ∧ b3 ≤ 191) then 4 else 0)
  else 0
theorem ptB_eq (s : ByteArray) : ptB s = ptN s.size (s.get! 0).toNat (s.get! 1).toNat (s.get! 2).toNat (s.get! 3).toNat := by
  have hl : lnB (s.get! 0).toNat = 0 ∨ lnB (s.get! 0).toNat = 2 ∨ lnB (s.get! 0).toNat = 3 ∨ lnB (s.get! 0).toNat = 4 := by
    unfold lnB
    split
    · simp
    · split
      · simp
      · split <;> simp
  unfold ptB ptN
  split
  · rfl
  · rcases hl with h | h | h | h <;> rw [h] <;> simp [scB, moB, and_assoc] <;> (repeat' split) <;> simp_all
theorem dec_pt (n b0 b1 b2 b3 : Nat) (h1 : 1 ≤ n) (k0 : b0 < 256) (k1 : b1 < 256) (k2 : b2 < 256) (k3 : b3 < 256) :
    (ptN n b0 b1 b2 b3 = 0 ↔ (Lib.decodeN n b0 b1 b2 b3).1 = 65533 ∧ (Lib.decodeN n b0 b1 b2 b3).2 = 1) ∧
    (ptN n b0 b1 b2 b3 ≠ 0 → (Lib.decodeN n b0 b1 b2 b3).2 = ptN n b0 b1 b2 b3 ∧ ((Lib.decodeN n b0 b1 b2 b3).1 = 10 ↔ b0 = 10)) := by
  unfold ptN Lib.decodeN
  by_cases c0 : b0 < 128
  · rw [if_pos c0, if_pos c0]
    simp
    omega
  rw [if_neg c0, if_neg c0]
  by_cases c2 : 194 ≤ b0 ∧ b0 ≤ 223
  · have hl : lnB b0 = 2 := by unfold lnB; rw [if_pos c2]
    have ho : loB b0 = 128 := by unfold loB; rw [if_neg (by omega), if_neg (by omega)]
    have hh : hiB b0 = 191 := by unfold hiB; rw [if_neg (by omega), if_neg (by omega)]
    rw [hl, ho, hh]
    by_cases d : 1 < n ∧ 128 ≤ b1 ∧ b1 ≤ 191
    · rw [if_pos rfl, if_pos d, if_pos (by omega), if_pos (by omega)]
      simp
      omega
    · rw [if_pos rfl, if_neg d, if_neg (by omega), if_neg (by omega), if_neg (by omega)]
      simp
  by_cases c3 : 224 ≤ b0 ∧ b0 ≤ 239
  · have hl : lnB b0 = 3 := by unfold lnB; rw [if_neg c2, if_pos c3]
    rw [hl, if_neg (by decide), if_pos rfl, if_neg (show ¬ (b0 / 32 = 6 ∧ _) by omega)]
    by_cases d : (1 < n ∧ b1 / 64 = 2) ∧ (2 < n ∧ b2 / 64 = 2)
    · rw [if_pos (show b0 / 16 = 14 ∧ _ from ⟨by omega, d⟩)]
      have ho : (b0 = 224 ∧ loB b0 = 160) ∨ (b0 ≠ 224 ∧ loB b0 = 128) := by
        unfold loB
        split
        · omega
        · split <;> omega
      have hh : (b0 = 237 ∧ hiB b0 = 159) ∨ (b0 ≠ 237 ∧ hiB b0 = 191) := by
        unfold hiB
        split
        · omega
        · split <;> omega
      generalize loB b0 = lo at *
      generalize hiB b0 = hi at *
      by_cases e : (1 < n ∧ lo ≤ b1 ∧ b1 ≤ hi) ∧ (2 < n ∧ 128 ≤ b2 ∧ b2 ≤ 191)
      · rw [if_pos e, if_pos (by omega)]
        simp
        omega
      · rw [if_neg e, if_neg (by omega)]
        simp
    · rw [if_neg (show ¬ (b0 / 16 = 14 ∧ _) from fun h => d h.2), if_neg (show ¬ (b0 / 8 = 30 ∧ _) by omega)]
      have hb : 128 ≤ loB b0 ∧ hiB b0 ≤ 191 := by
        unfold loB hiB
        constructor
        · split
          · decide
          · split <;> decide
        · split
          · decide
          · split <;> decide
      rw [if_neg (by omega)]
      simp
  by_cases c4 : 240 ≤ b0 ∧ b0 ≤ 244
  · have hl : lnB b0 = 4 := by unfold lnB; rw [if_neg c2, if_neg c3, if_pos c4]
    rw [hl, if_neg (by decide), if_neg (by decide), if_pos rfl, if_neg (show ¬ (b0 / 32 = 6 ∧ _) by omega), if_neg (show ¬ (b0 / 16 = 14 ∧ _) by omega)]
    by_cases d : (1 < n ∧ b1 / 64 = 2) ∧ (2 < n ∧ b2 / 64 = 2) ∧ (3 < n ∧ b3 / 64 = 2)
    · rw [if_pos (show b0 / 8 = 30 ∧ _ from ⟨by omega, d⟩)]
      have ho : (b0 = 240 ∧ loB b0 = 144) ∨ (b0 ≠ 240 ∧ loB b0 = 128) := by
        unfold loB
        split
        · omega
        · split <;> omega
      have hh : (b0 = 244 ∧ hiB b0 = 143) ∨ (b0 ≠ 244 ∧ hiB b0 = 191) := by
        unfold hiB
        split
        · omega
        · split <;> omega
      generalize loB b0 = lo at *
      generalize hiB b0 = hi at *
      by_cases e : (1 < n ∧ lo ≤ b1 ∧ b1 ≤ hi) ∧ (2 < n ∧ 128 ≤ b2 ∧ b2 ≤ 191) ∧ (3 < n ∧ 128 ≤ b3 ∧ b3 ≤ 191)
      · rw [if_pos e, if_pos (by omega)]
        simp
        omega
      · rw [if_neg e, if_neg (by omega)]
        simp
    · rw [if_neg (show ¬ (b0 / 8 = 30 ∧ _) from fun h => d h.2)]
      have hb : 128 ≤ loB b0 ∧ hiB b0 ≤ 191 := by
        unfold loB hiB
        constructor
        · split
          · decide
          · split <;> decide
        · split
          · decide
          · split <;> decide
      rw [if_neg (by omega)]
      simp
  · have hl : lnB b0 = 0 := by unfold lnB; rw [if_neg c2, if_neg c3, if_neg c4]
    rw [hl, if_neg (by decide), if_neg (by decide), if_neg (by decide)]
    have hx : ((if b0 / 32 = 6 ∧ (1 < n ∧ b1 / 64 = 2) then (if b0 % 32 * 64 + b1 % 64 ≥ 128 then (b0 % 32 * 64 + b1 % 64, 2) else (65533, 1)) else (65533, 1)) : Nat × Nat) = (65533, 1) := by
      split
      · rw [if_neg (by omega)]
      · rfl
    by_cases d : b0 / 32 = 6 ∧ (1 < n ∧ b1 / 64 = 2)
    · rw [if_pos d] at hx
      rw [if_pos d, hx]
      simp
    · rw [if_neg d, if_neg (show ¬ (b0 / 16 = 14 ∧ _) by omega)]
      by_cases e : b0 / 8 = 30 ∧ (1 < n ∧ b1 / 64 = 2) ∧ (2 < n ∧ b2 / 64 = 2) ∧ (3 < n ∧ b3 / 64 = 2)
      · rw [if_pos e, if_neg (by omega)]
        simp
      · rw [if_neg e]
        simp
end Go.Proofs.YtinebmfmkgjaaaaGreatDoor
