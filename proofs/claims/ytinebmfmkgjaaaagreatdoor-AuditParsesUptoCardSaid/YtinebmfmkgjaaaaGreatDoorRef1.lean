/- The reference's small functions: letter, digit, more, long, point. -/
import Derived.Test.YtinebmfmkgjaaaaGreatDoorRefR
set_option linter.unusedVariables false
set_option linter.unusedSimpArgs false
namespace Go.Proofs.YtinebmfmkgjaaaaGreatDoor
open Go.RowKit

set_option maxHeartbeats 4000000 in
theorem rletter_in (c : UInt8) (w : World) : Calls Tryz.prog 50 #[.int .u8 (c.toNat : Int)] w fun e w' => e = .returned (.bool (letB c)) ∧ w = w' := by
  unfold letB
  generalize c.toNat = n
  by_cases h1 : 97 ≤ n
  · by_cases h2 : n ≤ 122
    · have k1 : decide ((97 : Int) ≤ (n : Int)) = true := decide_eq_true (by omega)
      have k2 : decide ((n : Int) ≤ 122) = true := decide_eq_true (by omega)
      go_enter Tryz.func50, Tryz.ntmps50
      go_wp2_with fail
      go_ret
      exact ⟨by simp [h1, h2], rfl⟩
    · have k1 : decide ((97 : Int) ≤ (n : Int)) = true := decide_eq_true (by omega)
      have k2 : decide ((n : Int) ≤ 122) = false := decide_eq_false (by omega)
      have k3 : decide ((65 : Int) ≤ (n : Int)) = true := decide_eq_true (by omega)
      have k4 : decide ((n : Int) ≤ 90) = false := decide_eq_false (by omega)
      have k5 : ((n : Int) == 95) = false := by simp; omega
      go_enter Tryz.func50, Tryz.ntmps50
      go_wp2_with fail
      go_ret
      exact ⟨by simp [h1, h2]; omega, rfl⟩
  · have k1 : decide ((97 : Int) ≤ (n : Int)) = false := decide_eq_false (by omega)
    by_cases h3 : 65 ≤ n
    · have k3 : decide ((65 : Int) ≤ (n : Int)) = true := decide_eq_true (by omega)
      by_cases h4 : n ≤ 90
      · have k4 : decide ((n : Int) ≤ 90) = true := decide_eq_true (by omega)
        go_enter Tryz.func50, Tryz.ntmps50
        go_wp2_with fail
        go_ret
        exact ⟨by simp [h1, h3, h4], rfl⟩
      · have k4 : decide ((n : Int) ≤ 90) = false := decide_eq_false (by omega)
        by_cases h5 : n = 95
        · subst h5
          go_enter Tryz.func50, Tryz.ntmps50
          go_wp2_with fail
          go_ret
          exact ⟨by simp, rfl⟩
        · have k5 : ((n : Int) == 95) = false := by simp; omega
          go_enter Tryz.func50, Tryz.ntmps50
          go_wp2_with fail
          go_ret
          exact ⟨by simp [h1, h3, h4, h5], rfl⟩
    · have k3 : decide ((65 : Int) ≤ (n : Int)) = false := decide_eq_false (by omega)
      have k5 : ((n : Int) == 95) = false := by simp; omega
      go_enter Tryz.func50, Tryz.ntmps50
      go_wp2_with fail
      go_ret
      exact ⟨by simp [h1, h3]; omega, rfl⟩
set_option maxHeartbeats 4000000 in
theorem rdigit_in (c : UInt8) (w : World) : Calls Tryz.prog 51 #[.int .u8 (c.toNat : Int)] w fun e w' => e = .returned (.bool (digB c)) ∧ w = w' := by
  unfold digB
  generalize c.toNat = n
  by_cases h1 : 48 ≤ n
  · have k1 : decide ((48 : Int) ≤ (n : Int)) = true := decide_eq_true (by omega)
    by_cases h2 : n ≤ 57
    · have k2 : decide ((n : Int) ≤ 57) = true := decide_eq_true (by omega)
      go_enter Tryz.func51, Tryz.ntmps51
      go_wp2_with fail
      go_ret
      exact ⟨by simp [h1, h2], rfl⟩
    · have k2 : decide ((n : Int) ≤ 57) = false := decide_eq_false (by omega)
      go_enter Tryz.func51, Tryz.ntmps51
      go_wp2_with fail
      go_ret
      exact ⟨by simp [h1, h2], rfl⟩
  · have k1 : decide ((48 : Int) ≤ (n : Int)) = false := decide_eq_false (by omega)
    go_enter Tryz.func51, Tryz.ntmps51
    go_wp2_with fail
    go_ret
    exact ⟨by simp [h1], rfl⟩

set_option maxHeartbeats 4000000 in
theorem more_in (s : ByteArray) (i lo hi : Nat) (w : World) : Calls Tryz.prog 79 #[.string s, .int .i64 (i : Int), .int .u8 (lo : Int), .int .u8 (hi : Int)] w fun e w' => e = .returned (.bool (moB s i lo hi)) ∧ w = w' := by
  unfold moB
  by_cases h1 : i < s.size
  · rw [get_eq h1]
    have k1 : decide ((i : Int) < (s.size : Int)) = true := decide_eq_true (by omega)
    by_cases h2 : lo ≤ (s[i]'h1).toNat
    · have k2 : decide ((lo : Int) ≤ ((s[i]'h1).toNat : Int)) = true := decide_eq_true (by omega)
      by_cases h3 : (s[i]'h1).toNat ≤ hi
      · have k3 : decide (((s[i]'h1).toNat : Int) ≤ (hi : Int)) = true := decide_eq_true (by omega)
        have e1 : (decide (i < s.size) && (decide (lo ≤ (s[i]'h1).toNat) && decide ((s[i]'h1).toNat ≤ hi))) = true := by simp [h1, h2, h3]
        rw [e1]
        clear e1
        go_enter Tryz.func79, Tryz.ntmps79
        go_wp2_with fail
        go_ret
        exact ⟨by simp [h3], rfl⟩
      · have k3 : decide (((s[i]'h1).toNat : Int) ≤ (hi : Int)) = false := decide_eq_false (by omega)
        have e1 : (decide (i < s.size) && (decide (lo ≤ (s[i]'h1).toNat) && decide ((s[i]'h1).toNat ≤ hi))) = false := by simp [h1, h2, h3]
        rw [e1]
        clear e1
        go_enter Tryz.func79, Tryz.ntmps79
        go_wp2_with fail
        go_ret
        exact ⟨rfl, rfl⟩
    · have k2 : decide ((lo : Int) ≤ ((s[i]'h1).toNat : Int)) = false := decide_eq_false (by omega)
      have e1 : (decide (i < s.size) && (decide (lo ≤ (s[i]'h1).toNat) && decide ((s[i]'h1).toNat ≤ hi))) = false := by simp [h1, h2]
      rw [e1]
      clear e1
      go_enter Tryz.func79, Tryz.ntmps79
      go_wp2_with fail
      go_ret
      exact ⟨rfl, rfl⟩
  · have k1 : decide ((i : Int) < (s.size : Int)) = false := decide_eq_false (by omega)
    have e1 : (decide (i < s.size) && (decide (lo ≤ (s.get! i).toNat) && decide ((s.get! i).toNat ≤ hi))) = false := by simp [h1]
    rw [e1]
    clear e1
    go_enter Tryz.func79, Tryz.ntmps79
    go_wp2_with fail
    go_ret
    exact ⟨rfl, rfl⟩

def kindB (nm : Bool) (c : UInt8) : Bool := digB c || (nm && letB c)
theorem kindB_name : kindB true = nameB := by
  funext c
  unfold kindB nameB
  cases letB c <;> cases digB c <;> rfl
theorem kindB_digit : kindB false = digB := by
  funext c
  unfold kindB
  cases letB c <;> cases digB c <;> rfl
set_option maxHeartbeats 4000000 in
theorem long_in (s : ByteArray) (nm : Bool) (w : World) (hs : s.size ≤ 1048576) :
    Calls Tryz.prog 52 #[.string s, .bool nm] w fun e w' => e = .returned (.int .i64 (cntB (kindB nm) s)) ∧ w = w' := by
  go_enter Tryz.func52, Tryz.ntmps52
  go_wp2_with fail
  go_loop [5] (fun i => ∃ k : Nat, k ≤ s.size ∧ i = .int .i64 k ∧ ∀ j, j < k → kindB nm (s.data.toList.getD j 0) = true) (fun i => s.size - (intOf i).toNat)
  case atStart => exact ⟨0, Nat.zero_le _, rfl, fun j hj => by omega⟩
  case round =>
    obtain ⟨k, hk, rfl, hall⟩ := hrel
    have HALL := Lib.hid hall
    clear hall
    by_cases hlt : k < s.size
    · have c1 := rletter_in s[k] w
      have c2 := rdigit_in s[k] w
      have hb := byte_eq hlt
      have HB := Lib.hid hb
      clear hb
      have hlt' : (k : Int) < (s.size : Int) := by omega
      have HK := Lib.hid (show kindB nm s[k] = (digB s[k] || (nm && letB s[k])) from rfl)
      generalize letB s[k] = la at *
      generalize digB s[k] = da at *
      have step : kindB nm s[k] = true → ∃ k' : Nat, k' ≤ s.size ∧ (Value.int .i64 ((k : Int) + 1)) = .int .i64 (k' : Int) ∧ ∀ j, j < k' → kindB nm (s.data.toList.getD j 0) = true := fun hp => ⟨k + 1, by omega, by simp, fun j hj => by
        by_cases e : j = k
        · subst e
          rw [← HB.out]
          exact hp
        · exact HALL.out j (by omega)⟩
      have HSTEP := Lib.hid step
      clear step
      have HEND := Lib.hid (show kindB nm s[k] = false → cntB (kindB nm) s = k from fun hp => (takeWhile_le (kindB nm) s.data.toList (by simpa using hlt) HALL.out).2 (by rw [← HB.out]; exact hp))
      cases da with
      | true =>
        have HP := Lib.hid (show kindB nm s[k] = true by rw [HK.out]; rfl)
        clear HK
        go_wp2_with fail
        refine c1.mono ?_
        clear c1
        rintro e w' ⟨rfl, rfl⟩
        go_wp2_with fail
        refine c2.mono ?_
        clear c2
        rintro e w' ⟨rfl, rfl⟩
        go_wp2_with fail
        go_round
        case rel =>
          obtain ⟨k', h1, h2, h3⟩ := HSTEP.out HP.out
          exact ⟨k', h1, by rw [← h2], h3⟩
        case measure => simp [intOf]; omega
      | false =>
        cases nm with
        | true =>
          cases la with
          | true =>
            have HP := Lib.hid (show kindB true s[k] = true by rw [HK.out]; rfl)
            clear HK
            go_wp2_with fail
            refine c1.mono ?_
            clear c1
            rintro e w' ⟨rfl, rfl⟩
            go_wp2_with fail
            refine c2.mono ?_
            clear c2
            rintro e w' ⟨rfl, rfl⟩
            go_wp2_with fail
            go_round
            case rel =>
              obtain ⟨k', h1, h2, h3⟩ := HSTEP.out HP.out
              exact ⟨k', h1, by rw [← h2], h3⟩
            case measure => simp [intOf]; omega
          | false =>
            have HP := Lib.hid (show kindB true s[k] = false by rw [HK.out]; rfl)
            clear HK
            go_wp2_with fail
            refine c1.mono ?_
            clear c1
            rintro e w' ⟨rfl, rfl⟩
            go_wp2_with fail
            refine c2.mono ?_
            clear c2
            rintro e w' ⟨rfl, rfl⟩
            go_wp2_with fail
            go_ret
            exact ⟨by rw [HEND.out HP.out]; rfl, rfl⟩
        | false =>
          have HP := Lib.hid (show kindB false s[k] = false by rw [HK.out]; cases la <;> rfl)
          clear HK
          go_wp2_with fail
          refine c1.mono ?_
          clear c1
          rintro e w' ⟨rfl, rfl⟩
          go_wp2_with fail
          refine c2.mono ?_
          clear c2
          rintro e w' ⟨rfl, rfl⟩
          go_wp2_with fail
          go_ret
          exact ⟨by rw [HEND.out HP.out]; rfl, rfl⟩
    · have hge : ¬ (k : Int) < (s.size : Int) := by omega
      have hke : k = s.size := by omega
      subst hke
      go_wp2_with fail
      go_ret
      refine ⟨?_, rfl⟩
      have : cntB (kindB nm) s = s.size := (takeWhile_all (kindB nm) s.data.toList fun j hj => HALL.out j (by simpa using hj)).trans (by simp)
      rw [this]
      rfl

set_option maxHeartbeats 4000000 in
/-- The bytes that go on. -/
theorem point_in (s : ByteArray) (w : World) (h0 : 0 < s.size) : Calls Tryz.prog 49 #[.string s] w fun e w' => e = .returned (.int .i64 (ptB s : Int)) ∧ w = w' := by
  have HG := Lib.hid (get_eq h0)
  obtain ⟨R, hR⟩ : ∃ z, ptB s = z := ⟨_, rfl⟩
  rw [hR]
  have HR := Lib.hid hR
  clear hR
  obtain ⟨c, hc⟩ : ∃ z, (s[0]'h0).toNat = z := ⟨_, rfl⟩
  have HC := Lib.hid (show (s.get! 0).toNat = c by rw [HG.out]; exact hc)
  have hc' : ((s[0]'h0).toNat : Int) = (c : Int) := by omega
  have h0' : (0 : Int) < (s.size : Int) := by omega
  by_cases h128 : c < 128
  · have k1 : decide ((c : Int) < 128) = true := decide_eq_true (by omega)
    have HRR := Lib.hid (show R = 1 by rw [← HR.out]; exact pt_one (by rw [HC.out]; exact h128))
    go_enter Tryz.func49, Tryz.ntmps49
    go_wp2_with fail
    go_ret
    exact ⟨by rw [HRR.out]; rfl, rfl⟩
  · have k1 : decide ((c : Int) < 128) = false := decide_eq_false (by omega)
    have HS := Lib.hid (show scB s (lnB c) 4 1 (loB c) (hiB c) = R by
      rw [← HR.out]
      unfold ptB
      rw [HC.out, if_neg h128])
    rcases (show (c < 194) ∨ (194 ≤ c ∧ c ≤ 223) ∨ (c = 224) ∨ (225 ≤ c ∧ c ≤ 239 ∧ c ≠ 237) ∨ (c = 237) ∨ (c = 240) ∨ (241 ≤ c ∧ c ≤ 243) ∨ (c = 244) ∨ (245 ≤ c) by omega) with k | k | k | k | k | k | k | k | k
    · have q224 : ((c : Int) == 224) = false := by simp; omega
      have q237 : ((c : Int) == 237) = false := by simp; omega
      have q240 : ((c : Int) == 240) = false := by simp; omega
      have q244 : ((c : Int) == 244) = false := by simp; omega
      have g194 : decide ((194 : Int) ≤ (c : Int)) = false := decide_eq_false (by omega)
      have g224 : decide ((224 : Int) ≤ (c : Int)) = false := decide_eq_false (by omega)
      have g240 : decide ((240 : Int) ≤ (c : Int)) = false := decide_eq_false (by omega)
      have HS2 := Lib.hid (show scB s 0 4 1 128 191 = R by
        rw [← HS.out, show lnB c = 0 by unfold lnB; (repeat' split) <;> omega, show loB c = 128 by unfold loB; (repeat' split) <;> omega, show hiB c = 191 by unfold hiB; (repeat' split) <;> omega])
      clear HS
      go_enter Tryz.func49, Tryz.ntmps49
      go_wp2_with fail
      go_loopg [4, 5, 7] 4 (fun gk lv hv iv wr => wr = w ∧ ∃ i lo hi : Nat, lv = .int .u8 (lo : Int) ∧ hv = .int .u8 (hi : Int) ∧ iv = .int .i64 (i : Int) ∧ scB s 0 gk i lo hi = R ∧ 1 ≤ i ∧ i ≤ 4 ∧ 0 < gk + i)
      case atStart => exact ⟨rfl, 1, 128, 191, rfl, rfl, rfl, HS2.out, by omega, by omega, by omega⟩
      case round =>
        obtain ⟨rfl, i, lo, hi, rfl, rfl, rfl, hsc, hi1, hi4, hig⟩ := hrel
        by_cases hlt : i < 0
        · have hlt' : (i : Int) < 0 := by omega
          obtain ⟨g, rfl⟩ : ∃ g, gk = g + 1 := ⟨gk - 1, by omega⟩
          rw [scB, if_pos hlt] at hsc
          have hm := more_in s i lo hi wr
          cases hmo : moB s i lo hi with
          | true =>
            rw [hmo] at hm hsc
            rw [if_pos rfl] at hsc
            have HSC := Lib.hid hsc
            clear hsc hmo
            go_wp2_with fail
            refine hm.mono ?_
            clear hm
            rintro e w' ⟨rfl, rfl⟩
            go_wp2_with fail
            go_roundg g
            case measure => omega
            case rel => exact ⟨rfl, i + 1, 128, 191, rfl, rfl, by first | rfl | go_num, HSC.out, by omega, by omega, by omega⟩
          | false =>
            rw [hmo] at hm hsc
            rw [if_neg (by decide)] at hsc
            have HSC := Lib.hid hsc
            clear hsc hmo
            go_wp2_with fail
            refine hm.mono ?_
            clear hm
            rintro e w' ⟨rfl, rfl⟩
            go_wp2_with fail
            go_ret
            exact ⟨by rw [← HSC.out]; rfl, rfl⟩
        · have hlt' : ¬ (i : Int) < 0 := by omega
          have HSC := Lib.hid (show R = 0 by
            rw [← hsc]
            cases gk with
            | zero => rfl
            | succ g => rw [scB, if_neg hlt])
          clear hsc
          go_wp2_with fail
          go_ret
          exact ⟨by rw [HSC.out]; rfl, rfl⟩
    · have q224 : ((c : Int) == 224) = false := by simp; omega
      have q237 : ((c : Int) == 237) = false := by simp; omega
      have q240 : ((c : Int) == 240) = false := by simp; omega
      have q244 : ((c : Int) == 244) = false := by simp; omega
      have g194 : decide ((194 : Int) ≤ (c : Int)) = true := decide_eq_true (by omega)
      have l223 : decide ((c : Int) ≤ 223) = true := decide_eq_true (by omega)
      have g224 : decide ((224 : Int) ≤ (c : Int)) = false := decide_eq_false (by omega)
      have g240 : decide ((240 : Int) ≤ (c : Int)) = false := decide_eq_false (by omega)
      have HS2 := Lib.hid (show scB s 2 4 1 128 191 = R by
        rw [← HS.out, show lnB c = 2 by unfold lnB; (repeat' split) <;> omega, show loB c = 128 by unfold loB; (repeat' split) <;> omega, show hiB c = 191 by unfold hiB; (repeat' split) <;> omega])
      clear HS
      go_enter Tryz.func49, Tryz.ntmps49
      go_wp2_with fail
      go_loopg [4, 5, 7] 4 (fun gk lv hv iv wr => wr = w ∧ ∃ i lo hi : Nat, lv = .int .u8 (lo : Int) ∧ hv = .int .u8 (hi : Int) ∧ iv = .int .i64 (i : Int) ∧ scB s 2 gk i lo hi = R ∧ 1 ≤ i ∧ i ≤ 4 ∧ 2 < gk + i)
      case atStart => exact ⟨rfl, 1, 128, 191, rfl, rfl, rfl, HS2.out, by omega, by omega, by omega⟩
      case round =>
        obtain ⟨rfl, i, lo, hi, rfl, rfl, rfl, hsc, hi1, hi4, hig⟩ := hrel
        by_cases hlt : i < 2
        · have hlt' : (i : Int) < 2 := by omega
          obtain ⟨g, rfl⟩ : ∃ g, gk = g + 1 := ⟨gk - 1, by omega⟩
          rw [scB, if_pos hlt] at hsc
          have hm := more_in s i lo hi wr
          cases hmo : moB s i lo hi with
          | true =>
            rw [hmo] at hm hsc
            rw [if_pos rfl] at hsc
            have HSC := Lib.hid hsc
            clear hsc hmo
            go_wp2_with fail
            refine hm.mono ?_
            clear hm
            rintro e w' ⟨rfl, rfl⟩
            go_wp2_with fail
            go_roundg g
            case measure => omega
            case rel => exact ⟨rfl, i + 1, 128, 191, rfl, rfl, by first | rfl | go_num, HSC.out, by omega, by omega, by omega⟩
          | false =>
            rw [hmo] at hm hsc
            rw [if_neg (by decide)] at hsc
            have HSC := Lib.hid hsc
            clear hsc hmo
            go_wp2_with fail
            refine hm.mono ?_
            clear hm
            rintro e w' ⟨rfl, rfl⟩
            go_wp2_with fail
            go_ret
            exact ⟨by rw [← HSC.out]; rfl, rfl⟩
        · have hlt' : ¬ (i : Int) < 2 := by omega
          have HSC := Lib.hid (show R = 2 by
            rw [← hsc]
            cases gk with
            | zero => rfl
            | succ g => rw [scB, if_neg hlt])
          clear hsc
          go_wp2_with fail
          go_ret
          exact ⟨by rw [HSC.out]; rfl, rfl⟩
    · have q224 : ((c : Int) == 224) = true := by simp; omega
      have g194 : decide ((194 : Int) ≤ (c : Int)) = true := decide_eq_true (by omega)
      have l223 : decide ((c : Int) ≤ 223) = false := decide_eq_false (by omega)
      have g224 : decide ((224 : Int) ≤ (c : Int)) = true := decide_eq_true (by omega)
      have l239 : decide ((c : Int) ≤ 239) = true := decide_eq_true (by omega)
      have g240 : decide ((240 : Int) ≤ (c : Int)) = false := decide_eq_false (by omega)
      have HS2 := Lib.hid (show scB s 3 4 1 160 191 = R by
        rw [← HS.out, show lnB c = 3 by unfold lnB; (repeat' split) <;> omega, show loB c = 160 by unfold loB; (repeat' split) <;> omega, show hiB c = 191 by unfold hiB; (repeat' split) <;> omega])
      clear HS
      go_enter Tryz.func49, Tryz.ntmps49
      go_wp2_with fail
      go_loopg [4, 5, 7] 4 (fun gk lv hv iv wr => wr = w ∧ ∃ i lo hi : Nat, lv = .int .u8 (lo : Int) ∧ hv = .int .u8 (hi : Int) ∧ iv = .int .i64 (i : Int) ∧ scB s 3 gk i lo hi = R ∧ 1 ≤ i ∧ i ≤ 4 ∧ 3 < gk + i)
      case atStart => exact ⟨rfl, 1, 160, 191, rfl, rfl, rfl, HS2.out, by omega, by omega, by omega⟩
      case round =>
        obtain ⟨rfl, i, lo, hi, rfl, rfl, rfl, hsc, hi1, hi4, hig⟩ := hrel
        by_cases hlt : i < 3
        · have hlt' : (i : Int) < 3 := by omega
          obtain ⟨g, rfl⟩ : ∃ g, gk = g + 1 := ⟨gk - 1, by omega⟩
          rw [scB, if_pos hlt] at hsc
          have hm := more_in s i lo hi wr
          cases hmo : moB s i lo hi with
          | true =>
            rw [hmo] at hm hsc
            rw [if_pos rfl] at hsc
            have HSC := Lib.hid hsc
            clear hsc hmo
            go_wp2_with fail
            refine hm.mono ?_
            clear hm
            rintro e w' ⟨rfl, rfl⟩
            go_wp2_with fail
            go_roundg g
            case measure => omega
            case rel => exact ⟨rfl, i + 1, 128, 191, rfl, rfl, by first | rfl | go_num, HSC.out, by omega, by omega, by omega⟩
          | false =>
            rw [hmo] at hm hsc
            rw [if_neg (by decide)] at hsc
            have HSC := Lib.hid hsc
            clear hsc hmo
            go_wp2_with fail
            refine hm.mono ?_
            clear hm
            rintro e w' ⟨rfl, rfl⟩
            go_wp2_with fail
            go_ret
            exact ⟨by rw [← HSC.out]; rfl, rfl⟩
        · have hlt' : ¬ (i : Int) < 3 := by omega
          have HSC := Lib.hid (show R = 3 by
            rw [← hsc]
            cases gk with
            | zero => rfl
            | succ g => rw [scB, if_neg hlt])
          clear hsc
          go_wp2_with fail
          go_ret
          exact ⟨by rw [HSC.out]; rfl, rfl⟩
    · have q224 : ((c : Int) == 224) = false := by simp; omega
      have q237 : ((c : Int) == 237) = false := by simp; omega
      have q240 : ((c : Int) == 240) = false := by simp; omega
      have q244 : ((c : Int) == 244) = false := by simp; omega
      have g194 : decide ((194 : Int) ≤ (c : Int)) = true := decide_eq_true (by omega)
      have l223 : decide ((c : Int) ≤ 223) = false := decide_eq_false (by omega)
      have g224 : decide ((224 : Int) ≤ (c : Int)) = true := decide_eq_true (by omega)
      have l239 : decide ((c : Int) ≤ 239) = true := decide_eq_true (by omega)
      have g240 : decide ((240 : Int) ≤ (c : Int)) = false := decide_eq_false (by omega)
      have HS2 := Lib.hid (show scB s 3 4 1 128 191 = R by
        rw [← HS.out, show lnB c = 3 by unfold lnB; (repeat' split) <;> omega, show loB c = 128 by unfold loB; (repeat' split) <;> omega, show hiB c = 191 by unfold hiB; (repeat' split) <;> omega])
      clear HS
      go_enter Tryz.func49, Tryz.ntmps49
      go_wp2_with fail
      go_loopg [4, 5, 7] 4 (fun gk lv hv iv wr => wr = w ∧ ∃ i lo hi : Nat, lv = .int .u8 (lo : Int) ∧ hv = .int .u8 (hi : Int) ∧ iv = .int .i64 (i : Int) ∧ scB s 3 gk i lo hi = R ∧ 1 ≤ i ∧ i ≤ 4 ∧ 3 < gk + i)
      case atStart => exact ⟨rfl, 1, 128, 191, rfl, rfl, rfl, HS2.out, by omega, by omega, by omega⟩
      case round =>
        obtain ⟨rfl, i, lo, hi, rfl, rfl, rfl, hsc, hi1, hi4, hig⟩ := hrel
        by_cases hlt : i < 3
        · have hlt' : (i : Int) < 3 := by omega
          obtain ⟨g, rfl⟩ : ∃ g, gk = g + 1 := ⟨gk - 1, by omega⟩
          rw [scB, if_pos hlt] at hsc
          have hm := more_in s i lo hi wr
          cases hmo : moB s i lo hi with
          | true =>
            rw [hmo] at hm hsc
            rw [if_pos rfl] at hsc
            have HSC := Lib.hid hsc
            clear hsc hmo
            go_wp2_with fail
            refine hm.mono ?_
            clear hm
            rintro e w' ⟨rfl, rfl⟩
            go_wp2_with fail
            go_roundg g
            case measure => omega
            case rel => exact ⟨rfl, i + 1, 128, 191, rfl, rfl, by first | rfl | go_num, HSC.out, by omega, by omega, by omega⟩
          | false =>
            rw [hmo] at hm hsc
            rw [if_neg (by decide)] at hsc
            have HSC := Lib.hid hsc
            clear hsc hmo
            go_wp2_with fail
            refine hm.mono ?_
            clear hm
            rintro e w' ⟨rfl, rfl⟩
            go_wp2_with fail
            go_ret
            exact ⟨by rw [← HSC.out]; rfl, rfl⟩
        · have hlt' : ¬ (i : Int) < 3 := by omega
          have HSC := Lib.hid (show R = 3 by
            rw [← hsc]
            cases gk with
            | zero => rfl
            | succ g => rw [scB, if_neg hlt])
          clear hsc
          go_wp2_with fail
          go_ret
          exact ⟨by rw [HSC.out]; rfl, rfl⟩
    · have q224 : ((c : Int) == 224) = false := by simp; omega
      have q237 : ((c : Int) == 237) = true := by simp; omega
      have g194 : decide ((194 : Int) ≤ (c : Int)) = true := decide_eq_true (by omega)
      have l223 : decide ((c : Int) ≤ 223) = false := decide_eq_false (by omega)
      have g224 : decide ((224 : Int) ≤ (c : Int)) = true := decide_eq_true (by omega)
      have l239 : decide ((c : Int) ≤ 239) = true := decide_eq_true (by omega)
      have g240 : decide ((240 : Int) ≤ (c : Int)) = false := decide_eq_false (by omega)
      have HS2 := Lib.hid (show scB s 3 4 1 128 159 = R by
        rw [← HS.out, show lnB c = 3 by unfold lnB; (repeat' split) <;> omega, show loB c = 128 by unfold loB; (repeat' split) <;> omega, show hiB c = 159 by unfold hiB; (repeat' split) <;> omega])
      clear HS
      go_enter Tryz.func49, Tryz.ntmps49
      go_wp2_with fail
      go_loopg [4, 5, 7] 4 (fun gk lv hv iv wr => wr = w ∧ ∃ i lo hi : Nat, lv = .int .u8 (lo : Int) ∧ hv = .int .u8 (hi : Int) ∧ iv = .int .i64 (i : Int) ∧ scB s 3 gk i lo hi = R ∧ 1 ≤ i ∧ i ≤ 4 ∧ 3 < gk + i)
      case atStart => exact ⟨rfl, 1, 128, 159, rfl, rfl, rfl, HS2.out, by omega, by omega, by omega⟩
      case round =>
        obtain ⟨rfl, i, lo, hi, rfl, rfl, rfl, hsc, hi1, hi4, hig⟩ := hrel
        by_cases hlt : i < 3
        · have hlt' : (i : Int) < 3 := by omega
          obtain ⟨g, rfl⟩ : ∃ g, gk = g + 1 := ⟨gk - 1, by omega⟩
          rw [scB, if_pos hlt] at hsc
          have hm := more_in s i lo hi wr
          cases hmo : moB s i lo hi with
          | true =>
            rw [hmo] at hm hsc
            rw [if_pos rfl] at hsc
            have HSC := Lib.hid hsc
            clear hsc hmo
            go_wp2_with fail
            refine hm.mono ?_
            clear hm
            rintro e w' ⟨rfl, rfl⟩
            go_wp2_with fail
            go_roundg g
            case measure => omega
            case rel => exact ⟨rfl, i + 1, 128, 191, rfl, rfl, by first | rfl | go_num, HSC.out, by omega, by omega, by omega⟩
          | false =>
            rw [hmo] at hm hsc
            rw [if_neg (by decide)] at hsc
            have HSC := Lib.hid hsc
            clear hsc hmo
            go_wp2_with fail
            refine hm.mono ?_
            clear hm
            rintro e w' ⟨rfl, rfl⟩
            go_wp2_with fail
            go_ret
            exact ⟨by rw [← HSC.out]; rfl, rfl⟩
        · have hlt' : ¬ (i : Int) < 3 := by omega
          have HSC := Lib.hid (show R = 3 by
            rw [← hsc]
            cases gk with
            | zero => rfl
            | succ g => rw [scB, if_neg hlt])
          clear hsc
          go_wp2_with fail
          go_ret
          exact ⟨by rw [HSC.out]; rfl, rfl⟩
    · have q224 : ((c : Int) == 224) = false := by simp; omega
      have q237 : ((c : Int) == 237) = false := by simp; omega
      have q240 : ((c : Int) == 240) = true := by simp; omega
      have g194 : decide ((194 : Int) ≤ (c : Int)) = true := decide_eq_true (by omega)
      have l223 : decide ((c : Int) ≤ 223) = false := decide_eq_false (by omega)
      have g224 : decide ((224 : Int) ≤ (c : Int)) = true := decide_eq_true (by omega)
      have l239 : decide ((c : Int) ≤ 239) = false := decide_eq_false (by omega)
      have g240 : decide ((240 : Int) ≤ (c : Int)) = true := decide_eq_true (by omega)
      have l244 : decide ((c : Int) ≤ 244) = true := decide_eq_true (by omega)
      have HS2 := Lib.hid (show scB s 4 4 1 144 191 = R by
        rw [← HS.out, show lnB c = 4 by unfold lnB; (repeat' split) <;> omega, show loB c = 144 by unfold loB; (repeat' split) <;> omega, show hiB c = 191 by unfold hiB; (repeat' split) <;> omega])
      clear HS
      go_enter Tryz.func49, Tryz.ntmps49
      go_wp2_with fail
      go_loopg [4, 5, 7] 4 (fun gk lv hv iv wr => wr = w ∧ ∃ i lo hi : Nat, lv = .int .u8 (lo : Int) ∧ hv = .int .u8 (hi : Int) ∧ iv = .int .i64 (i : Int) ∧ scB s 4 gk i lo hi = R ∧ 1 ≤ i ∧ i ≤ 4 ∧ 4 < gk + i)
      case atStart => exact ⟨rfl, 1, 144, 191, rfl, rfl, rfl, HS2.out, by omega, by omega, by omega⟩
      case round =>
        obtain ⟨rfl, i, lo, hi, rfl, rfl, rfl, hsc, hi1, hi4, hig⟩ := hrel
        by_cases hlt : i < 4
        · have hlt' : (i : Int) < 4 := by omega
          obtain ⟨g, rfl⟩ : ∃ g, gk = g + 1 := ⟨gk - 1, by omega⟩
          rw [scB, if_pos hlt] at hsc
          have hm := more_in s i lo hi wr
          cases hmo : moB s i lo hi with
          | true =>
            rw [hmo] at hm hsc
            rw [if_pos rfl] at hsc
            have HSC := Lib.hid hsc
            clear hsc hmo
            go_wp2_with fail
            refine hm.mono ?_
            clear hm
            rintro e w' ⟨rfl, rfl⟩
            go_wp2_with fail
            go_roundg g
            case measure => omega
            case rel => exact ⟨rfl, i + 1, 128, 191, rfl, rfl, by first | rfl | go_num, HSC.out, by omega, by omega, by omega⟩
          | false =>
            rw [hmo] at hm hsc
            rw [if_neg (by decide)] at hsc
            have HSC := Lib.hid hsc
            clear hsc hmo
            go_wp2_with fail
            refine hm.mono ?_
            clear hm
            rintro e w' ⟨rfl, rfl⟩
            go_wp2_with fail
            go_ret
            exact ⟨by rw [← HSC.out]; rfl, rfl⟩
        · have hlt' : ¬ (i : Int) < 4 := by omega
          have HSC := Lib.hid (show R = 4 by
            rw [← hsc]
            cases gk with
            | zero => rfl
            | succ g => rw [scB, if_neg hlt])
          clear hsc
          go_wp2_with fail
          go_ret
          exact ⟨by rw [HSC.out]; rfl, rfl⟩
    · have q224 : ((c : Int) == 224) = false := by simp; omega
      have q237 : ((c : Int) == 237) = false := by simp; omega
      have q240 : ((c : Int) == 240) = false := by simp; omega
      have q244 : ((c : Int) == 244) = false := by simp; omega
      have g194 : decide ((194 : Int) ≤ (c : Int)) = true := decide_eq_true (by omega)
      have l223 : decide ((c : Int) ≤ 223) = false := decide_eq_false (by omega)
      have g224 : decide ((224 : Int) ≤ (c : Int)) = true := decide_eq_true (by omega)
      have l239 : decide ((c : Int) ≤ 239) = false := decide_eq_false (by omega)
      have g240 : decide ((240 : Int) ≤ (c : Int)) = true := decide_eq_true (by omega)
      have l244 : decide ((c : Int) ≤ 244) = true := decide_eq_true (by omega)
      have HS2 := Lib.hid (show scB s 4 4 1 128 191 = R by
        rw [← HS.out, show lnB c = 4 by unfold lnB; (repeat' split) <;> omega, show loB c = 128 by unfold loB; (repeat' split) <;> omega, show hiB c = 191 by unfold hiB; (repeat' split) <;> omega])
      clear HS
      go_enter Tryz.func49, Tryz.ntmps49
      go_wp2_with fail
      go_loopg [4, 5, 7] 4 (fun gk lv hv iv wr => wr = w ∧ ∃ i lo hi : Nat, lv = .int .u8 (lo : Int) ∧ hv = .int .u8 (hi : Int) ∧ iv = .int .i64 (i : Int) ∧ scB s 4 gk i lo hi = R ∧ 1 ≤ i ∧ i ≤ 4 ∧ 4 < gk + i)
      case atStart => exact ⟨rfl, 1, 128, 191, rfl, rfl, rfl, HS2.out, by omega, by omega, by omega⟩
      case round =>
        obtain ⟨rfl, i, lo, hi, rfl, rfl, rfl, hsc, hi1, hi4, hig⟩ := hrel
        by_cases hlt : i < 4
        · have hlt' : (i : Int) < 4 := by omega
          obtain ⟨g, rfl⟩ : ∃ g, gk = g + 1 := ⟨gk - 1, by omega⟩
          rw [scB, if_pos hlt] at hsc
          have hm := more_in s i lo hi wr
          cases hmo : moB s i lo hi with
          | true =>
            rw [hmo] at hm hsc
            rw [if_pos rfl] at hsc
            have HSC := Lib.hid hsc
            clear hsc hmo
            go_wp2_with fail
            refine hm.mono ?_
            clear hm
            rintro e w' ⟨rfl, rfl⟩
            go_wp2_with fail
            go_roundg g
            case measure => omega
            case rel => exact ⟨rfl, i + 1, 128, 191, rfl, rfl, by first | rfl | go_num, HSC.out, by omega, by omega, by omega⟩
          | false =>
            rw [hmo] at hm hsc
            rw [if_neg (by decide)] at hsc
            have HSC := Lib.hid hsc
            clear hsc hmo
            go_wp2_with fail
            refine hm.mono ?_
            clear hm
            rintro e w' ⟨rfl, rfl⟩
            go_wp2_with fail
            go_ret
            exact ⟨by rw [← HSC.out]; rfl, rfl⟩
        · have hlt' : ¬ (i : Int) < 4 := by omega
          have HSC := Lib.hid (show R = 4 by
            rw [← hsc]
            cases gk with
            | zero => rfl
            | succ g => rw [scB, if_neg hlt])
          clear hsc
          go_wp2_with fail
          go_ret
          exact ⟨by rw [HSC.out]; rfl, rfl⟩
    · have q224 : ((c : Int) == 224) = false := by simp; omega
      have q237 : ((c : Int) == 237) = false := by simp; omega
      have q240 : ((c : Int) == 240) = false := by simp; omega
      have q244 : ((c : Int) == 244) = true := by simp; omega
      have g194 : decide ((194 : Int) ≤ (c : Int)) = true := decide_eq_true (by omega)
      have l223 : decide ((c : Int) ≤ 223) = false := decide_eq_false (by omega)
      have g224 : decide ((224 : Int) ≤ (c : Int)) = true := decide_eq_true (by omega)
      have l239 : decide ((c : Int) ≤ 239) = false := decide_eq_false (by omega)
      have g240 : decide ((240 : Int) ≤ (c : Int)) = true := decide_eq_true (by omega)
      have l244 : decide ((c : Int) ≤ 244) = true := decide_eq_true (by omega)
      have HS2 := Lib.hid (show scB s 4 4 1 128 143 = R by
        rw [← HS.out, show lnB c = 4 by unfold lnB; (repeat' split) <;> omega, show loB c = 128 by unfold loB; (repeat' split) <;> omega, show hiB c = 143 by unfold hiB; (repeat' split) <;> omega])
      clear HS
      go_enter Tryz.func49, Tryz.ntmps49
      go_wp2_with fail
      go_loopg [4, 5, 7] 4 (fun gk lv hv iv wr => wr = w ∧ ∃ i lo hi : Nat, lv = .int .u8 (lo : Int) ∧ hv = .int .u8 (hi : Int) ∧ iv = .int .i64 (i : Int) ∧ scB s 4 gk i lo hi = R ∧ 1 ≤ i ∧ i ≤ 4 ∧ 4 < gk + i)
      case atStart => exact ⟨rfl, 1, 128, 143, rfl, rfl, rfl, HS2.out, by omega, by omega, by omega⟩
      case round =>
        obtain ⟨rfl, i, lo, hi, rfl, rfl, rfl, hsc, hi1, hi4, hig⟩ := hrel
        by_cases hlt : i < 4
        · have hlt' : (i : Int) < 4 := by omega
          obtain ⟨g, rfl⟩ : ∃ g, gk = g + 1 := ⟨gk - 1, by omega⟩
          rw [scB, if_pos hlt] at hsc
          have hm := more_in s i lo hi wr
          cases hmo : moB s i lo hi with
          | true =>
            rw [hmo] at hm hsc
            rw [if_pos rfl] at hsc
            have HSC := Lib.hid hsc
            clear hsc hmo
            go_wp2_with fail
            refine hm.mono ?_
            clear hm
            rintro e w' ⟨rfl, rfl⟩
            go_wp2_with fail
            go_roundg g
            case measure => omega
            case rel => exact ⟨rfl, i + 1, 128, 191, rfl, rfl, by first | rfl | go_num, HSC.out, by omega, by omega, by omega⟩
          | false =>
            rw [hmo] at hm hsc
            rw [if_neg (by decide)] at hsc
            have HSC := Lib.hid hsc
            clear hsc hmo
            go_wp2_with fail
            refine hm.mono ?_
            clear hm
            rintro e w' ⟨rfl, rfl⟩
            go_wp2_with fail
            go_ret
            exact ⟨by rw [← HSC.out]; rfl, rfl⟩
        · have hlt' : ¬ (i : Int) < 4 := by omega
          have HSC := Lib.hid (show R = 4 by
            rw [← hsc]
            cases gk with
            | zero => rfl
            | succ g => rw [scB, if_neg hlt])
          clear hsc
          go_wp2_with fail
          go_ret
          exact ⟨by rw [HSC.out]; rfl, rfl⟩
    · have q224 : ((c : Int) == 224) = false := by simp; omega
      have q237 : ((c : Int) == 237) = false := by simp; omega
      have q240 : ((c : Int) == 240) = false := by simp; omega
      have q244 : ((c : Int) == 244) = false := by simp; omega
      have g194 : decide ((194 : Int) ≤ (c : Int)) = true := decide_eq_true (by omega)
      have l223 : decide ((c : Int) ≤ 223) = false := decide_eq_false (by omega)
      have g224 : decide ((224 : Int) ≤ (c : Int)) = true := decide_eq_true (by omega)
      have l239 : decide ((c : Int) ≤ 239) = false := decide_eq_false (by omega)
      have g240 : decide ((240 : Int) ≤ (c : Int)) = true := decide_eq_true (by omega)
      have l244 : decide ((c : Int) ≤ 244) = false := decide_eq_false (by omega)
      have HS2 := Lib.hid (show scB s 0 4 1 128 191 = R by
        rw [← HS.out, show lnB c = 0 by unfold lnB; (repeat' split) <;> omega, show loB c = 128 by unfold loB; (repeat' split) <;> omega, show hiB c = 191 by unfold hiB; (repeat' split) <;> omega])
      clear HS
      go_enter Tryz.func49, Tryz.ntmps49
      go_wp2_with fail
      go_loopg [4, 5, 7] 4 (fun gk lv hv iv wr => wr = w ∧ ∃ i lo hi : Nat, lv = .int .u8 (lo : Int) ∧ hv = .int .u8 (hi : Int) ∧ iv = .int .i64 (i : Int) ∧ scB s 0 gk i lo hi = R ∧ 1 ≤ i ∧ i ≤ 4 ∧ 0 < gk + i)
      case atStart => exact ⟨rfl, 1, 128, 191, rfl, rfl, rfl, HS2.out, by omega, by omega, by omega⟩
      case round =>
        obtain ⟨rfl, i, lo, hi, rfl, rfl, rfl, hsc, hi1, hi4, hig⟩ := hrel
        by_cases hlt : i < 0
        · have hlt' : (i : Int) < 0 := by omega
          obtain ⟨g, rfl⟩ : ∃ g, gk = g + 1 := ⟨gk - 1, by omega⟩
          rw [scB, if_pos hlt] at hsc
          have hm := more_in s i lo hi wr
          cases hmo : moB s i lo hi with
          | true =>
            rw [hmo] at hm hsc
            rw [if_pos rfl] at hsc
            have HSC := Lib.hid hsc
            clear hsc hmo
            go_wp2_with fail
            refine hm.mono ?_
            clear hm
            rintro e w' ⟨rfl, rfl⟩
            go_wp2_with fail
            go_roundg g
            case measure => omega
            case rel => exact ⟨rfl, i + 1, 128, 191, rfl, rfl, by first | rfl | go_num, HSC.out, by omega, by omega, by omega⟩
          | false =>
            rw [hmo] at hm hsc
            rw [if_neg (by decide)] at hsc
            have HSC := Lib.hid hsc
            clear hsc hmo
            go_wp2_with fail
            refine hm.mono ?_
            clear hm
            rintro e w' ⟨rfl, rfl⟩
            go_wp2_with fail
            go_ret
            exact ⟨by rw [← HSC.out]; rfl, rfl⟩
        · have hlt' : ¬ (i : Int) < 0 := by omega
          have HSC := Lib.hid (show R = 0 by
            rw [← hsc]
            cases gk with
            | zero => rfl
            | succ g => rw [scB, if_neg hlt])
          clear hsc
          go_wp2_with fail
          go_ret
          exact ⟨by rw [HSC.out]; rfl, rfl⟩
end Go.Proofs.YtinebmfmkgjaaaaGreatDoor
