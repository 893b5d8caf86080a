/- The reference's mark. -/
import Derived.Test.YtinebmfmkgjaaaaGreatDoorRef1
set_option linter.unusedVariables false
set_option linter.unusedSimpArgs false
namespace Go.Proofs.YtinebmfmkgjaaaaGreatDoor
open Go.RowKit

def ones : List Nat := [40, 41, 123, 125, 44, 59, 58, 33, 43, 45, 42, 61, 60]
def two (s : ByteArray) : Bool := decide (1 < s.size) && ((s.extract 0 2).toList == [58, 61] || (s.extract 0 2).toList == [45, 62])
def rmB (s : ByteArray) : Nat := if two s then 2 else if (s.get! 0).toNat ∈ ones then 1 else 0
theorem beq_u8 (a b : UInt8) : (a == b) = decide (a.toNat = b.toNat) := by
  by_cases h : a = b
  · subst h; simp
  · have : ¬ a.toNat = b.toNat := fun e => h (UInt8.toNat_inj.1 e)
    simp [h, this]
theorem take2 (s : ByteArray) : (s.extract 0 2).toList = s.data.toList.take 2 := by
  rw [ByteArray.toList_eq]
  simp
theorem mark_none (a : UInt8) (r : List UInt8) (h : ¬ a.toNat ∈ ones) : marks.find? (fun m => Lib.hasPrefix (a :: r) m.data.toList) = none := by
  rw [List.find?_eq_none]
  intro m hm hp
  have hm1 : m.data.toList.head? = some a := by
    have hp' := List.isPrefixOf_iff_prefix.1 hp
    obtain ⟨t, ht⟩ := hp'
    cases hd : m.data.toList with
    | nil =>
      exfalso
      have : ∀ m ∈ marks, m.data.toList ≠ [] := by decide
      exact this m hm hd
    | cons x y =>
      rw [hd] at ht
      cases ht
      rfl
  have hall : ∀ m ∈ marks, ∀ x, m.data.toList.head? = some x → x.toNat ∈ ones := by
    intro m hm x hx
    have : ∀ m ∈ marks, (m.data.toList.head?.map UInt8.toNat).all (fun n => ones.contains n) = true := by decide
    have := this m hm
    rw [hx] at this
    simpa using this
  exact h (hall m hm a hm1)
theorem rm_mark (s : ByteArray) (h : 0 < s.size) : rmB s = markB s := by
  have hg := get_list (s := s) (k := 0) (by simpa using h)
  unfold rmB two markB
  rw [take2]
  have hl : s.size = s.data.toList.length := by simp
  rw [hl]
  rw [hl] at h
  cases hs : s.data.toList with
  | nil =>
    rw [hs] at h
    exact absurd h (by decide)
  | cons a r =>
    have ha : s.get! 0 = a := by
      rw [hg]
      simp [hs]
    rw [ha]
    clear hg hl hs h ha
    by_cases ho : a.toNat ∈ ones
    · have hv : a = 40 ∨ a = 41 ∨ a = 123 ∨ a = 125 ∨ a = 44 ∨ a = 59 ∨ a = 58 ∨ a = 33 ∨ a = 43 ∨ a = 45 ∨ a = 42 ∨ a = 61 ∨ a = 60 := by
        simp only [ones, List.mem_cons, List.not_mem_nil, or_false] at ho
        simp only [← UInt8.toNat_inj]
        exact ho
      rw [if_pos ho]
      clear ho
      cases r with
      | nil => rcases hv with rfl | rfl | rfl | rfl | rfl | rfl | rfl | rfl | rfl | rfl | rfl | rfl | rfl <;> rfl
      | cons b r =>
        have hlen : decide (1 < (a :: b :: r).length) = true := by simp
        have htk : (a :: b :: r).take 2 = [a, b] := rfl
        rw [hlen, htk, Bool.true_and]
        by_cases h61 : b = 61
        · subst h61
          rcases hv with rfl | rfl | rfl | rfl | rfl | rfl | rfl | rfl | rfl | rfl | rfl | rfl | rfl <;> rfl
        · by_cases h62 : b = 62
          · subst h62
            rcases hv with rfl | rfl | rfl | rfl | rfl | rfl | rfl | rfl | rfl | rfl | rfl | rfl | rfl <;> rfl
          · have e61 : ((61 : UInt8) == b) = false := by simp; exact Ne.symm h61
            have e62 : ((62 : UInt8) == b) = false := by simp; exact Ne.symm h62
            rcases hv with rfl | rfl | rfl | rfl | rfl | rfl | rfl | rfl | rfl | rfl | rfl | rfl | rfl <;> simp [marks, bs, Lib.hasPrefix, List.find?, List.isPrefixOf, h61, h62, e61, e62] <;> rfl
    · rw [if_neg ho, mark_none a r ho]
      have h58 : a ≠ 58 := by
        rintro rfl
        exact ho (by decide)
      have h45 : a ≠ 45 := by
        rintro rfl
        exact ho (by decide)
      cases r with
      | nil => rfl
      | cons b r =>
        have htk : (a :: b :: r).take 2 = [a, b] := rfl
        rw [htk]
        simp [h58, h45]

set_option maxHeartbeats 16000000 in
theorem rmark_in (s : ByteArray) (w : World) (h0 : 0 < s.size) : Calls Tryz.prog 54 #[.string s] w fun e w' => e = .returned (.int .i64 (markB s : Int)) ∧ w = w' := by
  rw [← rm_mark s h0]
  have HG := Lib.hid (get_eq h0)
  obtain ⟨R, hR⟩ : ∃ z, rmB s = z := ⟨_, rfl⟩
  rw [hR]
  have HR := Lib.hid hR
  clear hR
  obtain ⟨c, hc⟩ : ∃ z, (s[0]'h0).toNat = z := ⟨_, rfl⟩
  have HC := Lib.hid (show (s.get! 0).toNat = c by rw [HG.out]; exact hc)
  have hc' : ((s[0]'h0).toNat : Int) = (c : Int) := by omega
  have h0' : (0 : Int) < (s.size : Int) := by omega
  clear hc HG
  have HT := Lib.hid (show two s = (decide (1 < s.size) && ((s.extract 0 2).toList == [58, 61] || (s.extract 0 2).toList == [45, 62])) from rfl)
  have HRR := Lib.hid (show R = if two s then 2 else if c ∈ ones then 1 else 0 by rw [← HR.out]; unfold rmB; rw [HC.out])
  have hsw : two s = true ∨ two s = false := by cases two s <;> simp
  rcases hsw with ht | ht
  · have HW := Lib.hid (show R = 2 by rw [HRR.out, ht]; rfl)
    rw [HT.out] at ht
    simp only [Bool.and_eq_true, Bool.or_eq_true, decide_eq_true_eq] at ht
    obtain ⟨h1, h2⟩ := ht
    have k1 : (1 : Int) < (s.size : Int) := by omega
    have k2 : (2 : Int) ≤ (s.size : Int) := by omega
    cases h3 : (s.extract 0 2).toList == [58, 61] with
    | true =>
      clear h2
      go_enter Tryz.func54, Tryz.ntmps54
      go_wp2_with fail
      go_ret
      exact ⟨by rw [HW.out]; rfl, rfl⟩
    | false =>
      replace h2 : ((s.extract 0 2).toList == [45, 62]) = true := by
        rcases h2 with h2 | h2
        · rw [h3] at h2
          cases h2
        · exact h2
      go_enter Tryz.func54, Tryz.ntmps54
      go_wp2_with fail
      go_ret
      exact ⟨by rw [HW.out]; rfl, rfl⟩
  · have HW := Lib.hid (show R = if c ∈ ones then 1 else 0 by rw [HRR.out, ht]; rfl)
    rw [HT.out] at ht
    clear HT HRR HR
    have hst : (¬ (1 : Int) < (s.size : Int)) ∨ ((1 : Int) < (s.size : Int) ∧ (2 : Int) ≤ (s.size : Int) ∧ ((s.extract 0 2).toList == [58, 61]) = false ∧ ((s.extract 0 2).toList == [45, 62]) = false) := by
      by_cases h1 : 1 < s.size
      · right
        rw [decide_eq_true h1, Bool.true_and] at ht
        simp only [Bool.or_eq_false_iff] at ht
        exact ⟨by omega, by omega, ht.1, ht.2⟩
      · left
        omega
    clear ht
    have hv : c = 40 ∨ c = 41 ∨ c = 123 ∨ c = 125 ∨ c = 44 ∨ c = 59 ∨ c = 58 ∨ c = 33 ∨ c = 43 ∨ c = 45 ∨ c = 42 ∨ c = 61 ∨ c = 60 ∨ (c ≠ 40 ∧ c ≠ 41 ∧ c ≠ 123 ∧ c ≠ 125 ∧ c ≠ 44 ∧ c ≠ 59 ∧ c ≠ 58 ∧ c ≠ 33 ∧ c ≠ 43 ∧ c ≠ 45 ∧ c ≠ 42 ∧ c ≠ 61 ∧ c ≠ 60) := by omega
    rcases hv with hv | hv | hv | hv | hv | hv | hv | hv | hv | hv | hv | hv | hv | hv
    · have q0 : ((c : Int) == 40) = true := by simp; omega
      have HV := Lib.hid (show R = 1 by
        rw [HW.out]
        rw [hv]
        rfl)
      clear HW hv
      rcases hst with h1 | ⟨h1, h2, h3, h4⟩
      · go_enter Tryz.func54, Tryz.ntmps54
        go_wp2_with fail
        go_ret
        exact ⟨by rw [HV.out]; rfl, rfl⟩
      · go_enter Tryz.func54, Tryz.ntmps54
        go_wp2_with fail
        go_ret
        exact ⟨by rw [HV.out]; rfl, rfl⟩
    · have q0 : ((c : Int) == 40) = false := by simp; omega
      have q1 : ((c : Int) == 41) = true := by simp; omega
      have HV := Lib.hid (show R = 1 by
        rw [HW.out]
        rw [hv]
        rfl)
      clear HW hv
      rcases hst with h1 | ⟨h1, h2, h3, h4⟩
      · go_enter Tryz.func54, Tryz.ntmps54
        go_wp2_with fail
        go_ret
        exact ⟨by rw [HV.out]; rfl, rfl⟩
      · go_enter Tryz.func54, Tryz.ntmps54
        go_wp2_with fail
        go_ret
        exact ⟨by rw [HV.out]; rfl, rfl⟩
    · have q0 : ((c : Int) == 40) = false := by simp; omega
      have q1 : ((c : Int) == 41) = false := by simp; omega
      have q2 : ((c : Int) == 123) = true := by simp; omega
      have HV := Lib.hid (show R = 1 by
        rw [HW.out]
        rw [hv]
        rfl)
      clear HW hv
      rcases hst with h1 | ⟨h1, h2, h3, h4⟩
      · go_enter Tryz.func54, Tryz.ntmps54
        go_wp2_with fail
        go_ret
        exact ⟨by rw [HV.out]; rfl, rfl⟩
      · go_enter Tryz.func54, Tryz.ntmps54
        go_wp2_with fail
        go_ret
        exact ⟨by rw [HV.out]; rfl, rfl⟩
    · have q0 : ((c : Int) == 40) = false := by simp; omega
      have q1 : ((c : Int) == 41) = false := by simp; omega
      have q2 : ((c : Int) == 123) = false := by simp; omega
      have q3 : ((c : Int) == 125) = true := by simp; omega
      have HV := Lib.hid (show R = 1 by
        rw [HW.out]
        rw [hv]
        rfl)
      clear HW hv
      rcases hst with h1 | ⟨h1, h2, h3, h4⟩
      · go_enter Tryz.func54, Tryz.ntmps54
        go_wp2_with fail
        go_ret
        exact ⟨by rw [HV.out]; rfl, rfl⟩
      · go_enter Tryz.func54, Tryz.ntmps54
        go_wp2_with fail
        go_ret
        exact ⟨by rw [HV.out]; rfl, rfl⟩
    · have q0 : ((c : Int) == 40) = false := by simp; omega
      have q1 : ((c : Int) == 41) = false := by simp; omega
      have q2 : ((c : Int) == 123) = false := by simp; omega
      have q3 : ((c : Int) == 125) = false := by simp; omega
      have q4 : ((c : Int) == 44) = true := by simp; omega
      have HV := Lib.hid (show R = 1 by
        rw [HW.out]
        rw [hv]
        rfl)
      clear HW hv
      rcases hst with h1 | ⟨h1, h2, h3, h4⟩
      · go_enter Tryz.func54, Tryz.ntmps54
        go_wp2_with fail
        go_ret
        exact ⟨by rw [HV.out]; rfl, rfl⟩
      · go_enter Tryz.func54, Tryz.ntmps54
        go_wp2_with fail
        go_ret
        exact ⟨by rw [HV.out]; rfl, rfl⟩
    · have q0 : ((c : Int) == 40) = false := by simp; omega
      have q1 : ((c : Int) == 41) = false := by simp; omega
      have q2 : ((c : Int) == 123) = false := by simp; omega
      have q3 : ((c : Int) == 125) = false := by simp; omega
      have q4 : ((c : Int) == 44) = false := by simp; omega
      have q5 : ((c : Int) == 59) = true := by simp; omega
      have HV := Lib.hid (show R = 1 by
        rw [HW.out]
        rw [hv]
        rfl)
      clear HW hv
      rcases hst with h1 | ⟨h1, h2, h3, h4⟩
      · go_enter Tryz.func54, Tryz.ntmps54
        go_wp2_with fail
        go_ret
        exact ⟨by rw [HV.out]; rfl, rfl⟩
      · go_enter Tryz.func54, Tryz.ntmps54
        go_wp2_with fail
        go_ret
        exact ⟨by rw [HV.out]; rfl, rfl⟩
    · have q0 : ((c : Int) == 40) = false := by simp; omega
      have q1 : ((c : Int) == 41) = false := by simp; omega
      have q2 : ((c : Int) == 123) = false := by simp; omega
      have q3 : ((c : Int) == 125) = false := by simp; omega
      have q4 : ((c : Int) == 44) = false := by simp; omega
      have q5 : ((c : Int) == 59) = false := by simp; omega
      have q6 : ((c : Int) == 58) = true := by simp; omega
      have HV := Lib.hid (show R = 1 by
        rw [HW.out]
        rw [hv]
        rfl)
      clear HW hv
      rcases hst with h1 | ⟨h1, h2, h3, h4⟩
      · go_enter Tryz.func54, Tryz.ntmps54
        go_wp2_with fail
        go_ret
        exact ⟨by rw [HV.out]; rfl, rfl⟩
      · go_enter Tryz.func54, Tryz.ntmps54
        go_wp2_with fail
        go_ret
        exact ⟨by rw [HV.out]; rfl, rfl⟩
    · have q0 : ((c : Int) == 40) = false := by simp; omega
      have q1 : ((c : Int) == 41) = false := by simp; omega
      have q2 : ((c : Int) == 123) = false := by simp; omega
      have q3 : ((c : Int) == 125) = false := by simp; omega
      have q4 : ((c : Int) == 44) = false := by simp; omega
      have q5 : ((c : Int) == 59) = false := by simp; omega
      have q6 : ((c : Int) == 58) = false := by simp; omega
      have q7 : ((c : Int) == 33) = true := by simp; omega
      have HV := Lib.hid (show R = 1 by
        rw [HW.out]
        rw [hv]
        rfl)
      clear HW hv
      rcases hst with h1 | ⟨h1, h2, h3, h4⟩
      · go_enter Tryz.func54, Tryz.ntmps54
        go_wp2_with fail
        go_ret
        exact ⟨by rw [HV.out]; rfl, rfl⟩
      · go_enter Tryz.func54, Tryz.ntmps54
        go_wp2_with fail
        go_ret
        exact ⟨by rw [HV.out]; rfl, rfl⟩
    · have q0 : ((c : Int) == 40) = false := by simp; omega
      have q1 : ((c : Int) == 41) = false := by simp; omega
      have q2 : ((c : Int) == 123) = false := by simp; omega
      have q3 : ((c : Int) == 125) = false := by simp; omega
      have q4 : ((c : Int) == 44) = false := by simp; omega
      have q5 : ((c : Int) == 59) = false := by simp; omega
      have q6 : ((c : Int) == 58) = false := by simp; omega
      have q7 : ((c : Int) == 33) = false := by simp; omega
      have q8 : ((c : Int) == 43) = true := by simp; omega
      have HV := Lib.hid (show R = 1 by
        rw [HW.out]
        rw [hv]
        rfl)
      clear HW hv
      rcases hst with h1 | ⟨h1, h2, h3, h4⟩
      · go_enter Tryz.func54, Tryz.ntmps54
        go_wp2_with fail
        go_ret
        exact ⟨by rw [HV.out]; rfl, rfl⟩
      · go_enter Tryz.func54, Tryz.ntmps54
        go_wp2_with fail
        go_ret
        exact ⟨by rw [HV.out]; rfl, rfl⟩
    · have q0 : ((c : Int) == 40) = false := by simp; omega
      have q1 : ((c : Int) == 41) = false := by simp; omega
      have q2 : ((c : Int) == 123) = false := by simp; omega
      have q3 : ((c : Int) == 125) = false := by simp; omega
      have q4 : ((c : Int) == 44) = false := by simp; omega
      have q5 : ((c : Int) == 59) = false := by simp; omega
      have q6 : ((c : Int) == 58) = false := by simp; omega
      have q7 : ((c : Int) == 33) = false := by simp; omega
      have q8 : ((c : Int) == 43) = false := by simp; omega
      have q9 : ((c : Int) == 45) = true := by simp; omega
      have HV := Lib.hid (show R = 1 by
        rw [HW.out]
        rw [hv]
        rfl)
      clear HW hv
      rcases hst with h1 | ⟨h1, h2, h3, h4⟩
      · go_enter Tryz.func54, Tryz.ntmps54
        go_wp2_with fail
        go_ret
        exact ⟨by rw [HV.out]; rfl, rfl⟩
      · go_enter Tryz.func54, Tryz.ntmps54
        go_wp2_with fail
        go_ret
        exact ⟨by rw [HV.out]; rfl, rfl⟩
    · have q0 : ((c : Int) == 40) = false := by simp; omega
      have q1 : ((c : Int) == 41) = false := by simp; omega
      have q2 : ((c : Int) == 123) = false := by simp; omega
      have q3 : ((c : Int) == 125) = false := by simp; omega
      have q4 : ((c : Int) == 44) = false := by simp; omega
      have q5 : ((c : Int) == 59) = false := by simp; omega
      have q6 : ((c : Int) == 58) = false := by simp; omega
      have q7 : ((c : Int) == 33) = false := by simp; omega
      have q8 : ((c : Int) == 43) = false := by simp; omega
      have q9 : ((c : Int) == 45) = false := by simp; omega
      have q10 : ((c : Int) == 42) = true := by simp; omega
      have HV := Lib.hid (show R = 1 by
        rw [HW.out]
        rw [hv]
        rfl)
      clear HW hv
      rcases hst with h1 | ⟨h1, h2, h3, h4⟩
      · go_enter Tryz.func54, Tryz.ntmps54
        go_wp2_with fail
        go_ret
        exact ⟨by rw [HV.out]; rfl, rfl⟩
      · go_enter Tryz.func54, Tryz.ntmps54
        go_wp2_with fail
        go_ret
        exact ⟨by rw [HV.out]; rfl, rfl⟩
    · have q0 : ((c : Int) == 40) = false := by simp; omega
      have q1 : ((c : Int) == 41) = false := by simp; omega
      have q2 : ((c : Int) == 123) = false := by simp; omega
      have q3 : ((c : Int) == 125) = false := by simp; omega
      have q4 : ((c : Int) == 44) = false := by simp; omega
      have q5 : ((c : Int) == 59) = false := by simp; omega
      have q6 : ((c : Int) == 58) = false := by simp; omega
      have q7 : ((c : Int) == 33) = false := by simp; omega
      have q8 : ((c : Int) == 43) = false := by simp; omega
      have q9 : ((c : Int) == 45) = false := by simp; omega
      have q10 : ((c : Int) == 42) = false := by simp; omega
      have q11 : ((c : Int) == 61) = true := by simp; omega
      have HV := Lib.hid (show R = 1 by
        rw [HW.out]
        rw [hv]
        rfl)
      clear HW hv
      rcases hst with h1 | ⟨h1, h2, h3, h4⟩
      · go_enter Tryz.func54, Tryz.ntmps54
        go_wp2_with fail
        go_ret
        exact ⟨by rw [HV.out]; rfl, rfl⟩
      · go_enter Tryz.func54, Tryz.ntmps54
        go_wp2_with fail
        go_ret
        exact ⟨by rw [HV.out]; rfl, rfl⟩
    · have q0 : ((c : Int) == 40) = false := by simp; omega
      have q1 : ((c : Int) == 41) = false := by simp; omega
      have q2 : ((c : Int) == 123) = false := by simp; omega
      have q3 : ((c : Int) == 125) = false := by simp; omega
      have q4 : ((c : Int) == 44) = false := by simp; omega
      have q5 : ((c : Int) == 59) = false := by simp; omega
      have q6 : ((c : Int) == 58) = false := by simp; omega
      have q7 : ((c : Int) == 33) = false := by simp; omega
      have q8 : ((c : Int) == 43) = false := by simp; omega
      have q9 : ((c : Int) == 45) = false := by simp; omega
      have q10 : ((c : Int) == 42) = false := by simp; omega
      have q11 : ((c : Int) == 61) = false := by simp; omega
      have q12 : ((c : Int) == 60) = true := by simp; omega
      have HV := Lib.hid (show R = 1 by
        rw [HW.out]
        rw [hv]
        rfl)
      clear HW hv
      rcases hst with h1 | ⟨h1, h2, h3, h4⟩
      · go_enter Tryz.func54, Tryz.ntmps54
        go_wp2_with fail
        go_ret
        exact ⟨by rw [HV.out]; rfl, rfl⟩
      · go_enter Tryz.func54, Tryz.ntmps54
        go_wp2_with fail
        go_ret
        exact ⟨by rw [HV.out]; rfl, rfl⟩
    · have q0 : ((c : Int) == 40) = false := by simp; omega
      have q1 : ((c : Int) == 41) = false := by simp; omega
      have q2 : ((c : Int) == 123) = false := by simp; omega
      have q3 : ((c : Int) == 125) = false := by simp; omega
      have q4 : ((c : Int) == 44) = false := by simp; omega
      have q5 : ((c : Int) == 59) = false := by simp; omega
      have q6 : ((c : Int) == 58) = false := by simp; omega
      have q7 : ((c : Int) == 33) = false := by simp; omega
      have q8 : ((c : Int) == 43) = false := by simp; omega
      have q9 : ((c : Int) == 45) = false := by simp; omega
      have q10 : ((c : Int) == 42) = false := by simp; omega
      have q11 : ((c : Int) == 61) = false := by simp; omega
      have q12 : ((c : Int) == 60) = false := by simp; omega
      have HV := Lib.hid (show R = 0 by
        rw [HW.out]
        rw [if_neg (by simp only [ones, List.mem_cons, List.not_mem_nil, or_false]; omega)])
      clear HW hv
      rcases hst with h1 | ⟨h1, h2, h3, h4⟩
      · go_enter Tryz.func54, Tryz.ntmps54
        go_wp2_with fail
        go_ret
        exact ⟨by rw [HV.out]; rfl, rfl⟩
      · go_enter Tryz.func54, Tryz.ntmps54
        go_wp2_with fail
        go_ret
        exact ⟨by rw [HV.out]; rfl, rfl⟩
end Go.Proofs.YtinebmfmkgjaaaaGreatDoor
