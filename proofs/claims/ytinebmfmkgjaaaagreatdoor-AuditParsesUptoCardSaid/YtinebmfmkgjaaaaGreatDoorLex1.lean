/- The reader's small functions: letter, digit, count, mark, Own. -/
import Derived.Test.YtinebmfmkgjaaaaGreatDoorLex0
import Derived.Test.YtinebmfmkgjaaaaGreatDoorShelf
set_option linter.unusedVariables false
set_option linter.unusedSimpArgs false
namespace Go.Proofs.YtinebmfmkgjaaaaGreatDoor
open Go.RowKit

set_option maxHeartbeats 4000000 in
theorem letter_in (c : UInt8) (w : World) : Calls Tryz.prog 42 #[.int .u8 (c.toNat : Int)] w fun e w' => e = .returned (.bool (letB c)) ∧ w = w' := by
  unfold letB
  generalize c.toNat = n
  by_cases h1 : 97 ≤ n
  · by_cases h2 : n ≤ 122
    · have k1 : decide ((97 : Int) ≤ (n : Int)) = true := decide_eq_true (by omega)
      have k2 : decide ((n : Int) ≤ 122) = true := decide_eq_true (by omega)
      go_enter Tryz.func42, Tryz.ntmps42
      go_wp2_with fail
      go_ret
      exact ⟨by simp [h1, h2], rfl⟩
    · have k1 : decide ((97 : Int) ≤ (n : Int)) = true := decide_eq_true (by omega)
      have k2 : decide ((n : Int) ≤ 122) = false := decide_eq_false (by omega)
      have k3 : decide ((65 : Int) ≤ (n : Int)) = true := decide_eq_true (by omega)
      have k4 : decide ((n : Int) ≤ 90) = false := decide_eq_false (by omega)
      have k5 : ((n : Int) == 95) = false := by simp; omega
      go_enter Tryz.func42, Tryz.ntmps42
      go_wp2_with fail
      go_ret
      exact ⟨by simp [h1, h2]; omega, rfl⟩
  · have k1 : decide ((97 : Int) ≤ (n : Int)) = false := decide_eq_false (by omega)
    by_cases h3 : 65 ≤ n
    · have k3 : decide ((65 : Int) ≤ (n : Int)) = true := decide_eq_true (by omega)
      by_cases h4 : n ≤ 90
      · have k4 : decide ((n : Int) ≤ 90) = true := decide_eq_true (by omega)
        go_enter Tryz.func42, Tryz.ntmps42
        go_wp2_with fail
        go_ret
        exact ⟨by simp [h1, h3, h4], rfl⟩
      · have k4 : decide ((n : Int) ≤ 90) = false := decide_eq_false (by omega)
        by_cases h5 : n = 95
        · subst h5
          go_enter Tryz.func42, Tryz.ntmps42
          go_wp2_with fail
          go_ret
          exact ⟨by simp, rfl⟩
        · have k5 : ((n : Int) == 95) = false := by simp; omega
          go_enter Tryz.func42, Tryz.ntmps42
          go_wp2_with fail
          go_ret
          exact ⟨by simp [h1, h3, h4, h5], rfl⟩
    · have k3 : decide ((65 : Int) ≤ (n : Int)) = false := decide_eq_false (by omega)
      have k5 : ((n : Int) == 95) = false := by simp; omega
      go_enter Tryz.func42, Tryz.ntmps42
      go_wp2_with fail
      go_ret
      exact ⟨by simp [h1, h3]; omega, rfl⟩
set_option maxHeartbeats 4000000 in
theorem digit_in (c : UInt8) (w : World) : Calls Tryz.prog 45 #[.int .u8 (c.toNat : Int)] w fun e w' => e = .returned (.bool (digB c)) ∧ w = w' := by
  unfold digB
  generalize c.toNat = n
  by_cases h1 : 48 ≤ n
  · have k1 : decide ((48 : Int) ≤ (n : Int)) = true := decide_eq_true (by omega)
    by_cases h2 : n ≤ 57
    · have k2 : decide ((n : Int) ≤ 57) = true := decide_eq_true (by omega)
      go_enter Tryz.func45, Tryz.ntmps45
      go_wp2_with fail
      go_ret
      exact ⟨by simp [h1, h2], rfl⟩
    · have k2 : decide ((n : Int) ≤ 57) = false := decide_eq_false (by omega)
      go_enter Tryz.func45, Tryz.ntmps45
      go_wp2_with fail
      go_ret
      exact ⟨by simp [h1, h2], rfl⟩
  · have k1 : decide ((48 : Int) ≤ (n : Int)) = false := decide_eq_false (by omega)
    go_enter Tryz.func45, Tryz.ntmps45
    go_wp2_with fail
    go_ret
    exact ⟨by simp [h1], rfl⟩
set_option maxHeartbeats 4000000 in
/-- The closure: of a name? -/
theorem nameB_in (c : UInt8) (w : World) : Calls Tryz.prog 44 #[.int .u8 (c.toNat : Int)] w fun e w' => e = .returned (.bool (nameB c)) ∧ w = w' := by
  unfold nameB
  have h1 := letter_in c w
  have h2 := digit_in c w
  generalize c.toNat = n at *
  go_enter Tryz.func44, Tryz.ntmps44
  cases hl : letB c with
  | true =>
    rw [hl] at h1
    clear h2
    go_wp2_with fail
    refine h1.mono ?_
    rintro e w' ⟨rfl, rfl⟩
    go_wp2_with fail
    go_ret
    exact ⟨by simp, rfl⟩
  | false =>
    rw [hl] at h1
    go_wp2_with fail
    refine h1.mono ?_
    rintro e w' ⟨rfl, rfl⟩
    clear h1
    go_wp2_with fail
    refine h2.mono ?_
    rintro e w' ⟨rfl, rfl⟩
    clear h2
    go_wp2_with fail
    go_ret
    exact ⟨by simp, rfl⟩

theorem takeWhile_le (p : UInt8 → Bool) (l : List UInt8) {k : Nat} (hk : k < l.length) (h : ∀ j (hj : j < k), p (l.getD j 0) = true) : (l.takeWhile p).length = k ↔ p (l.getD k 0) = false := by
  induction l generalizing k with
  | nil => simp at hk
  | cons a l ih =>
    cases k with
    | zero =>
      simp only [List.getD_cons_zero]
      rw [List.takeWhile_cons]
      cases p a <;> simp
    | succ k =>
      have h0 := h 0 (by omega)
      simp only [List.getD_cons_zero] at h0
      rw [List.takeWhile_cons, h0]
      simp only [List.getD_cons_succ, if_true, List.length_cons]
      have := ih (k := k) (by simpa using hk) (fun j hj => by simpa using h (j + 1) (by omega))
      rw [← this]
      omega
theorem takeWhile_all (p : UInt8 → Bool) (l : List UInt8) (h : ∀ j, j < l.length → p (l.getD j 0) = true) : (l.takeWhile p).length = l.length := by
  induction l with
  | nil => rfl
  | cons a l ih =>
    have h0 := h 0 (by simp)
    simp only [List.getD_cons_zero] at h0
    rw [List.takeWhile_cons, h0]
    simp only [if_true, List.length_cons]
    rw [ih fun j hj => by simpa using h (j + 1) (by simpa using hj)]
theorem byte_eq {s : ByteArray} {k : Nat} (h : k < s.size) : s[k]'h = s.data.toList.getD k 0 := by
  have h' : k < s.data.toList.length := by simpa using h
  rw [List.getD, List.getElem?_eq_getElem h']
  rfl
set_option maxHeartbeats 4000000 in
/-- count, at whatever function that answers p and leaves the world alone. -/
theorem count_in {g : Nat} (p : UInt8 → Bool) (hg : ∀ (c : UInt8) (w : World), Calls Tryz.prog g #[.int .u8 (c.toNat : Int)] w fun e w' => e = .returned (.bool (p c)) ∧ w = w')
    (eg : ∀ args w, (callFunc g args).run Tryz.prog w = .ok (.enter g args) w) (s : ByteArray) (w : World) (hs : s.size ≤ 1048576) :
    Calls Tryz.prog 43 #[.string s, .func (.func g) #[] #[]] w fun e w' => e = .returned (.int .i64 (cntB p s)) ∧ w = w' := by
  have HG := Lib.hid hg
  clear hg
  go_enter Tryz.func43, Tryz.ntmps43
  go_wp2_with fail
  go_loop [5] (fun i => ∃ k : Nat, k ≤ s.size ∧ i = .int .i64 k ∧ ∀ j, j < k → p (s.data.toList.getD j 0) = true) (fun i => s.size - (intOf i).toNat)
  case atStart => exact ⟨0, Nat.zero_le _, rfl, fun j hj => by omega⟩
  case round =>
    obtain ⟨k, hk, rfl, hall⟩ := hrel
    have HALL := Lib.hid hall
    clear hall
    by_cases hlt : k < s.size
    · have hc := HG.out s[k] w
      have hb := byte_eq hlt
      have HB := Lib.hid hb
      clear hb
      cases hp : p s[k] with
      | true =>
        rw [hp] at hc
        have HP := Lib.hid hp
        clear hp
        have hlt' : (k : Int) < (s.size : Int) := by omega
        go_wp2_with (go_at_fn g; refine hc.mono ?_; rintro e w' ⟨rfl, rfl⟩)
        go_round
        case rel => exact ⟨k + 1, by omega, by go_num, fun j hj => by
          by_cases e : j = k
          · subst e
            rw [← HB.out]
            exact HP.out
          · exact HALL.out j (by omega)⟩
        case measure => simp [intOf]; omega
      | false =>
        rw [hp] at hc
        have HP := Lib.hid hp
        clear hp
        have hlt' : (k : Int) < (s.size : Int) := by omega
        go_wp2_with (go_at_fn g; refine hc.mono ?_; rintro e w' ⟨rfl, rfl⟩)
        go_ret
        refine ⟨?_, rfl⟩
        have : cntB p s = k := (takeWhile_le p s.data.toList (by simpa using hlt) HALL.out).2 (by rw [← HB.out]; exact HP.out)
        rw [this]
        rfl
    · have hge : ¬ (k : Int) < (s.size : Int) := by omega
      have hke : k = s.size := by omega
      subst hke
      go_wp2_with fail
      go_ret
      refine ⟨?_, rfl⟩
      have : cntB p s = s.size := (takeWhile_all p s.data.toList fun j hj => HALL.out j (by simpa using hj)).trans (by simp)
      rw [this]
      rfl
end Go.Proofs.YtinebmfmkgjaaaaGreatDoor
