/- Numbers below a hundred, as texts. -/
import Derived.Test.YtpbiiigacfhbhaaDoorTyp5
set_option linter.unusedVariables false
set_option linter.unusedSimpArgs false
namespace Go.Proofs.YtpbiiigacfhbhaaDoor
open Go.RowKit

def dig (i : Nat) : ByteArray := (ByteArray.mk #[48, 49, 50, 51, 52, 53, 54, 55, 56, 57]).extract i (i + 1)
/-- A number below a hundred, in figures. -/
def num (i : Nat) : ByteArray := if i < 10 then dig i else dig (i / 10) ++ dig (i % 10)
theorem num_size : ∀ i, i < 100 → (num i).size ≤ 2 := by decide +kernel
theorem num_lt {i : Nat} (h : i < 10) : num i = dig i := if_pos h

set_option maxRecDepth 100000 in
set_option maxHeartbeats 8000000 in
theorem small_in {w : World} {i : Nat} (hi : i < 100) :
    Calls Tryd.prog 36 #[.int .i64 i] w fun e w' => e = .returned (.string (num i)) ∧ w = w' := by
  go_enter Tryd.func36, Tryd.ntmps36
  by_cases h : i < 10
  · go_wp2_with fail
    go_ret
    refine ⟨congrArg (fun s => Ending.returned (Value.string s)) ?_, rfl⟩
    refine (show ∀ j, j < 10 → ByteArray.extract _ j (j + 1) = num j from ?_) i h
    decide +kernel
  · have h' : decide ((i : Int) < 10) = false := decide_eq_false (by omega)
    go_wp2_with fail
    go_ret
    refine ⟨congrArg (fun s => Ending.returned (Value.string s)) ?_, rfl⟩
    refine (show ∀ j, j < 100 → ¬ j < 10 → ByteArray.extract _ (j * 2) (j * 2 + 2) = num j from ?_) i hi h
    decide +kernel
set_option maxRecDepth 100000 in
set_option maxHeartbeats 8000000 in
theorem FormatInt_in {w : World} {i : Nat} (hi : i < 100) :
    Calls Tryd.prog 35 #[.int .i64 i, .int .i64 10] w fun e w' => e = .returned (.string (num i)) ∧ w = w' := by
  have hc := small_in (w := w) hi
  go_enter Tryd.func35, Tryd.ntmps35
  go_wp2_with fail
  refine hc.mono ?_
  rintro e w' ⟨rfl, rfl⟩
  clear hc
  go_wp2_with fail
  go_ret
  exact ⟨rfl, rfl⟩
set_option maxRecDepth 100000 in
set_option maxHeartbeats 8000000 in
theorem Itoa1_in {w : World} {i : Nat} (hi : i < 100) :
    Calls Tryd.prog 34 #[.int .i64 i] w fun e w' => e = .returned (.string (num i)) ∧ w = w' := by
  have hc := FormatInt_in (w := w) hi
  go_enter Tryd.func34, Tryd.ntmps34
  go_wp2_with fail
  refine hc.mono ?_
  rintro e w' ⟨rfl, rfl⟩
  clear hc
  go_wp2_with fail
  go_ret
  exact ⟨rfl, rfl⟩
set_option maxRecDepth 100000 in
set_option maxHeartbeats 8000000 in
theorem Itoa_in {w : World} {i : Nat} (hi : i < 100) :
    Calls Tryd.prog 32 #[.int .i64 i] w fun e w' => e = .returned (.string (num i)) ∧ w = w' := by
  have hc := Itoa1_in (w := w) hi
  go_enter Tryd.func32, Tryd.ntmps32
  go_wp2_with fail
  refine hc.mono ?_
  rintro e w' ⟨rfl, rfl⟩
  clear hc
  go_wp2_with fail
  go_ret
  exact ⟨rfl, rfl⟩
set_option maxRecDepth 100000 in
set_option maxHeartbeats 8000000 in
theorem digits1_in {w : World} {i : Nat} (hi : i < 10) :
    Calls Tryd.prog 33 #[.int .i64 i] w fun e w' => e = .returned (.string (num i)) ∧ w = w' := by
  go_enter Tryd.func33, Tryd.ntmps33
  have h' : decide (10 ≤ (i : Int)) = false := decide_eq_false (by omega)
  go_wp2_with fail
  go_ret
  refine ⟨congrArg (fun s => Ending.returned (Value.string s)) ?_, rfl⟩
  rw [num_lt hi, Nat.mod_eq_of_lt hi]
  rfl
set_option maxRecDepth 100000 in
set_option maxHeartbeats 8000000 in
theorem digits_in {w : World} {i : Nat} (hi : i < 100) :
    Calls Tryd.prog 33 #[.int .i64 i] w fun e w' => e = .returned (.string (num i)) ∧ w = w' := by
  by_cases h : i < 10
  · exact digits1_in h
  · have hc := digits1_in (w := w) (i := i / 10) (by omega)
    rw [show ((i / 10 : Nat) : Int) = (i : Int) / 10 by omega] at hc
    go_enter Tryd.func33, Tryd.ntmps33
    have h10 : (10 : Int) ≤ i := by omega
    have hsz := num_size (i / 10) (by omega)
    have hsz' : ¬ 9223372036854775807 < (num (i / 10)).size + (min (i % 10 + 1) 10 - i % 10) := by omega
    go_wp2_with fail
    refine hc.mono ?_
    rintro e w' ⟨rfl, rfl⟩
    clear hc
    go_wp2_with fail
    go_ret
    refine ⟨congrArg (fun s => Ending.returned (Value.string s)) ?_, rfl⟩
    rw [num_lt (show i / 10 < 10 by omega)]
    unfold num
    rw [if_neg h]
    rfl
end Go.Proofs.YtpbiiigacfhbhaaDoor
