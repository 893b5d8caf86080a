/- A number in figures: the reference's, and the library's. -/
import Derived.Test.YtofijodndilmbaaDoorVal3
import Derived.Test.YtofijodndilmbaaDoorShelf
set_option linter.unusedVariables false
set_option linter.unusedSimpArgs false
namespace Go.Proofs.YtofijodndilmbaaDoor
open Go.RowKit

/-- A number that is not below 0, in figures. -/
def dec (u : Nat) : ByteArray := ⟨(Lib.decDigits u).toArray⟩
theorem dec_size (u : Nat) : (dec u).size ≤ u / 10 + 2 := by
  show (Lib.decDigits u).toArray.size ≤ _
  rw [List.size_toArray]
  induction u using Nat.strongRecOn with
  | ind u ih =>
    rw [Lib.decDigits]
    split
    · simp
    · rename_i h
      have := ih (u / 10) (by omega)
      rw [List.length_append]
      simp
      omega
theorem dec_one {u : Nat} (h : u < 10) : dec u = ⟨#[UInt8.ofNat (48 + u)]⟩ := by
  unfold dec
  rw [Lib.decDigits_one h]
theorem dec_step {u : Nat} (h : ¬ u < 10) : dec u = dec (u / 10) ++ dec (u % 10) := by
  rw [dec_one (show u % 10 < 10 by omega)]
  unfold dec
  rw [Lib.decDigits, dif_neg h]
  apply ByteArray.ext
  simp
theorem itoa_pos (u : Nat) : (⟨(Lib.itoa (u : Int)).toArray⟩ : ByteArray) = dec u := by
  rw [Lib.itoa_nonneg]
  rfl
theorem itoa_neg' {u : Nat} (h : 1 ≤ u) : (⟨(Lib.itoa (-(u : Int))).toArray⟩ : ByteArray) = ⟨#[45]⟩ ++ dec u := by
  rw [Lib.itoa_neg u h]
  unfold dec
  apply ByteArray.ext
  simp

set_option maxRecDepth 100000 in
set_option maxHeartbeats 8000000 in
theorem DigitsP_in : ∀ (u : Nat) (w : World), u ≤ 9223372036854775807 →
    Calls Tryd.prog 14 #[.int .i64 u] w fun e w' => e = .returned (.string (dec u)) ∧ w = w' := by
  intro u
  induction u using Nat.strongRecOn with
  | ind u ih =>
    intro w hu
    by_cases h : u < 10
    · clear ih
      go_enter Tryd.func14, Tryd.ntmps14
      have h' : decide (10 ≤ (u : Int)) = false := decide_eq_false (by omega)
      go_wp2_with fail
      go_ret
      refine ⟨congrArg (fun s => Ending.returned (Value.string s)) ?_, rfl⟩
      rw [dec_one h, Nat.mod_eq_of_lt h]
      refine (show ∀ j, j < 10 → ByteArray.extract _ j (j + 1) = ⟨#[UInt8.ofNat (48 + j)]⟩ from ?_) u h
      decide +kernel
    · have hc := ih (u / 10) (by omega) w (by omega)
      rw [show ((u / 10 : Nat) : Int) = (u : Int) / 10 by omega] at hc
      have hsz := dec_size (u / 10)
      have hsz' : ¬ 9223372036854775807 < (dec (u / 10)).size + (min (u % 10 + 1) 10 - u % 10) := by omega
      clear ih
      go_enter Tryd.func14, Tryd.ntmps14
      have h10 : (10 : Int) ≤ u := by omega
      go_wp2_with fail
      refine hc.mono ?_
      rintro e w' ⟨rfl, rfl⟩
      clear hc
      go_wp2_with fail
      go_ret
      refine ⟨congrArg (fun s => Ending.returned (Value.string s)) ?_, rfl⟩
      rw [dec_step h]
      congr 1
      rw [dec_one (show u % 10 < 10 by omega)]
      refine (show ∀ j, j < 10 → ByteArray.extract _ j (j + 1) = ⟨#[UInt8.ofNat (48 + j)]⟩ from ?_) (u % 10) (by omega)
      decide +kernel
set_option maxRecDepth 100000 in
set_option maxHeartbeats 400000 in
theorem DigitsN_in : ∀ (u : Nat) (w : World), 1 ≤ u → u ≤ 9223372036854775808 →
    Calls Tryd.prog 14 #[.int .i64 (-(u : Int))] w fun e w' => e = .returned (.string (⟨#[45]⟩ ++ dec u)) ∧ w = w' := by
  intro u
  induction u using Nat.strongRecOn with
  | ind u ih =>
    intro w h1 hu
    by_cases h : u < 10
    · have hc := DigitsP_in u w (by omega)
      have hsz := dec_size u
      clear ih
      have hn0 : -(u : Int) < 0 := by omega
      have hn1 : -10 < -(u : Int) := by omega
      have hneg : ∃ z, z = -(u : Int) ∧ IntKind.i64.wrap (-z) = (u : Int) := ⟨_, rfl, by rw [IntWalk.i64_in _ (by omega)]; omega⟩
      obtain ⟨z, hz, hw⟩ := hneg
      rw [← hz] at hn0 hn1 ⊢
      clear hz
      go_enter Tryd.func14, Tryd.ntmps14
      go_wp2_with fail
      refine hc.mono ?_
      rintro e w' ⟨rfl, rfl⟩
      clear hc
      go_wp2_with fail
      go_ret
      exact ⟨rfl, rfl⟩
    · have hc := ih (u / 10) (by omega) w (by omega) (by omega)
      have hc2 := DigitsP_in (u % 10) w (by omega)
      have hsz := dec_size (u / 10)
      have hsz2 := dec_size (u % 10)
      clear ih
      have hn0 : -(u : Int) < 0 := by omega
      have hn1 : ¬ -10 < -(u : Int) := by omega
      have e1 : (-(u : Int)).tdiv 10 = -((u / 10 : Nat) : Int) := by
        rw [Int.neg_tdiv]
        rfl
      have e2 : (-(u : Int)).tmod 10 = -((u % 10 : Nat) : Int) := by
        rw [Int.neg_tmod]
        rfl
      rw [← e1] at hc
      have e3 : ((u % 10 : Nat) : Int) = wrap64 (-((-(u : Int)).tmod 10)) := by
        rw [e2]
        rw [IntWalk.wrap64_in _ (by omega)]
        omega
      rw [e3] at hc2
      clear e3
      have hw : IntKind.i64.wrap ((-(u : Int)).tdiv 10) = (-(u : Int)).tdiv 10 := by rw [e1, IntWalk.i64_in _ (by omega)]
      have hw2 : IntKind.i64.wrap ((-(u : Int)).tmod 10) = (-(u : Int)).tmod 10 := by rw [e2, IntWalk.i64_in _ (by omega)]
      clear e1 e2
      generalize hz : -(u : Int) = z at hc hc2 hw hw2 hn0 hn1 ⊢
      clear hz
      have hsz' : ¬ 9223372036854775807 < ((⟨#[45]⟩ : ByteArray) ++ dec (u / 10)).size + (dec (u % 10)).size := by
        rw [ByteArray.size_append, show (⟨#[45]⟩ : ByteArray).size = 1 from rfl]
        omega
      rw [dec_step h, ← ByteArray.append_assoc]
      generalize (⟨#[45]⟩ : ByteArray) ++ dec (u / 10) = P at hc hsz' ⊢
      generalize dec (u % 10) = Q at hc2 hsz' ⊢
      clear hsz hsz2 h h1 hu
      go_enter Tryd.func14, Tryd.ntmps14
      go_wp2_with fail
      refine hc.mono ?_
      rintro e w' ⟨rfl, rfl⟩
      clear hc
      go_wp2_with fail
      refine hc2.mono ?_
      rintro e w' ⟨rfl, rfl⟩
      clear hc2
      go_wp2_with fail
      go_ret
      exact ⟨rfl, rfl⟩
end Go.Proofs.YtofijodndilmbaaDoor
