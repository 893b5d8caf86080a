/- Contracts of the order's methods that only read: right, least. -/
import Derived.Test.YtkcbcdfcpchgcaaDoorProg
import Derived.Test.YtkcbcdfcpchgcaaDoorOrdP
import Derived.WalkKit
import Derived.WalkLawsBesides
import Derived.WalkSpells
import Derived.Deep.QuietTactic
import Derived.BigQuiet
import Derived.Lib.Hide
set_option linter.unusedVariables false
set_option linter.unusedSimpArgs false
namespace Go.Proofs.YtkcbcdfcpchgcaaDoor
open Go.RowKit

theorem ret_int {k : IntKind} {a b : Int} (h : a = b) : Ending.returned (.int k a) = .returned (.int k b) := by rw [h]
/-- What lies at an order's place, for whoever reads. -/
structure OrdAt (w : World) (b bu bd n : Nat) (u d : Nat → Nat) : Prop where
  up : w.cell? ⟨b, 0, none⟩ = some (.slice (some ⟨bu, 0, none⟩) n n)
  down : w.cell? ⟨b, 1, none⟩ = some (.slice (some ⟨bd, 0, none⟩) n n)
  us : ∀ i, i < n → w.cell? ⟨bu, i, none⟩ = some (.int .u32 (u i : Nat))
  ds : ∀ i, i < n → w.cell? ⟨bd, i, none⟩ = some (.int .u32 (d i : Nat))

open OrdP (inB)

theorem bit_and1 (s k : Nat) (hs : s < 4294967296) : bits .and .u32 ((s : Int) / 2 ^ k) 1 = if s.testBit k then 1 else 0 := by
  have h1 : s / 2 ^ k < 4294967296 := Nat.lt_of_le_of_lt (Nat.div_le_self _ _) hs
  have h2 : ((s : Int) / 2 ^ k) = ((s / 2 ^ k : Nat) : Int) := by push_cast; rfl
  rw [h2]
  have := u32_and_nat (s / 2 ^ k) 1 h1 (by omega)
  rw [show (1 : Int) = ((1 : Nat) : Int) from rfl, this, nat_mask1]
  simp only [Nat.testBit, Nat.shiftRight_eq_div_pow]
  have e : (s / 2 ^ k) % 2 = 0 ∨ (s / 2 ^ k) % 2 = 1 := by omega
  rcases e with e | e
  · simp [e, Nat.and_comm 1, nat_mask1]
  · simp [e, Nat.and_comm 1, nat_mask1]

/-- none of s is out of t -/
def subM (s t : Nat) : Bool := decide (s &&& (4294967295 - t) = 0)
theorem bit_andNot (s t : Nat) (hs : s < 4294967296) (ht : t < 4294967296) : (bits .andNot .u32 (s : Int) (t : Int) == 0) = subM s t := by
  rw [u32_andNot_nat s t hs ht]
  unfold subM
  rw [Bool.eq_iff_iff]
  simp
def leastM (n : Nat) (u : Nat → Nat) (s : Nat) : Int := OrdP.first n fun c => s.testBit c && subM s (u c)

set_option maxHeartbeats 400000 in
theorem right_in (w : World) (b n : Nat) (s : Option Addr) (hn : n ≤ 32) (hc : w.cell? ⟨b, 0, none⟩ = some (.slice s n n)) (a : Int) :
    Calls Tryd.prog 32 #[.pointer (some ⟨b, 0, none⟩), .int .i64 a] w fun e w' => e = .returned (.bool (inB n a)) ∧ w = w' := by
  by_cases h0 : 0 ≤ a
  · by_cases h1 : a < n
    all_goals
      go_enter Tryd.func32, Tryd.ntmps32
      go_wp2
      go_ret
      exact ⟨by simp [inB, h0, h1], rfl⟩
  · go_enter Tryd.func32, Tryd.ntmps32
    go_wp2
    go_ret
    exact ⟨by simp [inB]; omega, rfl⟩

set_option maxHeartbeats 1000000 in
theorem least_in (w : World) (bu n : Nat) (u : Nat → Nat) (s : Nat) (hn : n ≤ 32) (hs : s < 4294967296) (hu : ∀ i, i < n → u i < 4294967296)
    (hc : ∀ i, i < n → w.cell? ⟨bu, i, none⟩ = some (.int .u32 (u i : Nat))) :
    Calls Tryd.prog 33 #[.int .u32 s, .slice (some ⟨bu, 0, none⟩) n n] w fun e w' => e = .returned (.int .i64 (leastM n u s)) ∧ w = w' := by
  go_enter Tryd.func33, Tryd.ntmps33
  go_wp2
  go_loop [4, 5, 8] (fun r o i => ∃ k : Nat, k ≤ n ∧ i = .int .i64 k ∧ OrdP.firstFrom (fun c => s.testBit c && subM s (u c)) (n - k) k = leastM n u s) (fun _ _ i => n - (intOf i).toNat)
  case atStart => exact ⟨0, Nat.zero_le _, rfl, rfl⟩
  case round =>
    obtain ⟨k, hk, rfl, he⟩ := hrel
    by_cases hlt : k < n
    · have c := hc k hlt
      have b1 := bit_and1 s k hs
      have b2 := bit_andNot s (u k) hs (hu k hlt)
      rw [show n - k = (n - (k + 1)) + 1 by omega] at he
      simp only [OrdP.firstFrom] at he
      have HE := Lib.hid he; clear he
      cases t1 : s.testBit k with
      | false =>
        rw [t1] at b1
        simp only [Bool.false_eq_true, if_false] at b1
        clear b2
        go_wp2
        go_round
        case rel => exact ⟨k + 1, by omega, by go_num, by have h := HE.out; simpa [t1] using h⟩
        case measure => simp [intOf]; omega
      | true =>
        rw [t1] at b1
        simp only [if_true] at b1
        cases t2 : subM s (u k) with
        | false =>
          rw [t2] at b2
          go_wp2
          go_round
          case rel => exact ⟨k + 1, by omega, by go_num, by have h := HE.out; simpa [t1, t2] using h⟩
          case measure => simp [intOf]; omega
        | true =>
          rw [t2] at b2
          go_wp2
          go_ret
          exact ⟨ret_int (by have h := HE.out; simpa [t1, t2] using h), rfl⟩
    · obtain rfl : k = n := by omega
      have HE := Lib.hid he; clear he
      go_wp2
      go_ret
      exact ⟨ret_int (by have h := HE.out; simpa [OrdP.firstFrom] using h), rfl⟩

end Go.Proofs.YtkcbcdfcpchgcaaDoor
