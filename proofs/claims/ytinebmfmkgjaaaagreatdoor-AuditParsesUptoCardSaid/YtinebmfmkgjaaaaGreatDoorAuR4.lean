/- The reference's figures. -/
import Derived.Test.YtinebmfmkgjaaaaGreatDoorAuL2
set_option linter.unusedVariables false
set_option linter.unusedSimpArgs false
namespace Go.Proofs.YtinebmfmkgjaaaaGreatDoor
open Go.RowKit

theorem fig_no_digit {s : ByteArray} {i : Nat} (h : i < s.size) (hd : digB (s[i]'h) = false) : figB s = -1 := by
  unfold figB
  rw [if_neg]
  rintro ⟨_, h2, _⟩
  have hl : i < s.data.toList.length := by simpa using h
  have hm : s[i]'h ∈ s.data.toList := by
    have : s.data.toList[i]'hl = s[i]'h := rfl
    rw [← this]
    exact List.getElem_mem _
  rw [h2 _ hm] at hd
  cases hd
theorem fig_long {s : ByteArray} (h : 10 < s.size) : figB s = -1 := by
  unfold figB
  rw [if_neg]
  rintro ⟨h1, _⟩
  omega
set_option maxRecDepth 100000 in
set_option maxHeartbeats 8000000 in
theorem figures_in (s : ByteArray) (w : World) (hs : s.size ≤ 8388608) : Calls Tryz.prog 71 #[.string s] w fun e w' => e = .returned (.int .i64 (figB s)) ∧ Below w.heap.size w w' := by
  go_enter Tryz.func71, Tryz.ntmps71
  go_wp2_with fail
  go_loopg [3, 4] s.size (fun gk nv iv wr => wr = w ∧ ∃ i : Nat, iv = .int .i64 (i : Int) ∧ nv = .int .i64 (numV (s.data.toList.take i) : Int) ∧ i + gk = s.size ∧ (0 < i → s.size ≤ 10) ∧ ∀ j (h : j < s.size), j < i → digB (s[j]'h) = true)
  case atStart => exact ⟨rfl, 0, rfl, rfl, by omega, by omega, fun j h hj => by omega⟩
  case round =>
    obtain ⟨rfl, i, rfl, rfl, hig, h10, hall⟩ := hrel
    have HALL := Lib.hid hall
    clear hall
    have hll : s.data.toList.length = s.size := by simp
    by_cases hlt : i < s.size
    · obtain ⟨g, rfl⟩ : ∃ g, gk = g + 1 := ⟨gk - 1, by omega⟩
      have hlt' : (i : Int) < (s.size : Int) := by omega
      cases hd : digB (s[i]'hlt) with
      | false =>
        have HF := Lib.hid (fig_no_digit hlt hd)
        unfold digB at hd
        have hd := of_decide_eq_false hd
        by_cases h48 : (s[i]'hlt).toNat < 48
        · have k1 : decide ((((s[i]'hlt).toNat : Nat) : Int) < 48) = true := decide_eq_true (by omega)
          go_wp2_with fail
          go_ret
          exact ⟨by rw [HF.out]; rfl, Below.refl _ _⟩
        · have k1 : decide ((((s[i]'hlt).toNat : Nat) : Int) < 48) = false := decide_eq_false (by omega)
          have k2 : decide ((57 : Int) < (((s[i]'hlt).toNat : Nat) : Int)) = true := decide_eq_true (by omega)
          go_wp2_with fail
          go_ret
          exact ⟨by rw [HF.out]; rfl, Below.refl _ _⟩
      | true =>
        have HD := Lib.hid hd
        unfold digB at hd
        have hd := of_decide_eq_true hd
        have k1 : decide ((((s[i]'hlt).toNat : Nat) : Int) < 48) = false := decide_eq_false (by omega)
        have k2 : decide ((57 : Int) < (((s[i]'hlt).toNat : Nat) : Int)) = false := decide_eq_false (by omega)
        by_cases hl : 10 < s.size
        · have HF := Lib.hid (fig_long hl)
          have k3 : (10 : Int) < (s.size : Int) := by omega
          go_wp2_with fail
          go_ret
          exact ⟨by rw [HF.out]; rfl, Below.refl _ _⟩
        · have k3 : ¬ (10 : Int) < (s.size : Int) := by omega
          have HNX := Lib.hid (show (numV (s.data.toList.take (i + 1)) : Int) = 10 * (numV (s.data.toList.take i) : Int) + (((s[i]'hlt).toNat : Int) - 48) by
            rw [numV_snoc s.data.toList i (by omega)]
            have : (s.data.toList[i]'(by omega)) = s[i]'hlt := rfl
            rw [this]
            omega)
          have hnv : numV (s.data.toList.take i) < 10 ^ 10 := by
            have h := numV_lt (s.data.toList.take i) (fun c hc => by
              rw [List.mem_take_iff_getElem] at hc
              obtain ⟨j, hj, rfl⟩ := hc
              exact HALL.out j (by omega) (by omega)) i (by simp; omega)
            rw [List.take_take, Nat.min_self] at h
            exact Nat.lt_of_lt_of_le h (Nat.pow_le_pow_right (by decide) (by omega))
          have HST := Lib.hid (show ∀ j (h : j < s.size), j < i + 1 → digB (s[j]'h) = true from fun j h hj => by
            by_cases e : j = i
            · subst e
              exact HD.out
            · exact HALL.out j h (by omega))
          generalize numV (s.data.toList.take i) = nv at *
          go_wp2_with fail
          go_roundg g
          case measure => omega
          case rel => exact ⟨rfl, i + 1, by first | rfl | go_num, by rw [HNX.out], by omega, by omega, HST.out⟩
    · have hlt' : ¬ (i : Int) < (s.size : Int) := by omega
      obtain rfl : i = s.size := by omega
      have hall' : ∀ c ∈ s.data.toList, digB c = true := fun c hc => by
        obtain ⟨j, hj, rfl⟩ := List.mem_iff_getElem.1 hc
        exact HALL.out j (by omega) (by omega)
      have h10' : s.size ≤ 10 := by
        by_cases e : 0 < s.size
        · exact h10 e
        · omega
      have ht : s.data.toList.take s.size = s.data.toList := List.take_of_length_le (by omega)
      have hnv : numV s.data.toList < 10 ^ 10 := by
        have h := numV_lt s.data.toList hall' s.size (by omega)
        rw [ht] at h
        exact Nat.lt_of_lt_of_le h (Nat.pow_le_pow_right (by decide) h10')
      have HFB := Lib.hid (show figB s = if figs (numV s.data.toList : Int) = s then (numV s.data.toList : Int) else -1 by
        unfold figB
        by_cases e : figs (numV s.data.toList : Int) = s
        · rw [if_pos ⟨h10', hall', e⟩, if_pos e]
        · rw [if_neg (fun h => e h.2.2), if_neg e])
      rw [ht]
      generalize numV s.data.toList = nv at *
      have hc := Digits_in (nv : Int) wr (by omega) (by omega)
      obtain ⟨F, hF⟩ : ∃ z, figs (nv : Int) = z := ⟨_, rfl⟩
      rw [hF] at hc HFB
      clear hF hall' ht HALL
      cases hq : F.toList == s.toList with
      | true =>
        have HX := Lib.hid (show figB s = (nv : Int) by rw [HFB.out, if_pos ((Lib.bytes_beq_iff _ _).1 hq)])
        go_wp2_with fail
        refine hc.mono ?_
        clear hc
        rintro e w1 ⟨rfl, rfl⟩
        go_wp2_with fail
        go_ret
        exact ⟨by rw [HX.out]; rfl, Below.refl _ _⟩
      | false =>
        have HX := Lib.hid (show figB s = -1 by rw [HFB.out, if_neg (fun e => by rw [(Lib.bytes_beq_iff _ _).2 e] at hq; cases hq)])
        go_wp2_with fail
        refine hc.mono ?_
        clear hc
        rintro e w1 ⟨rfl, rfl⟩
        go_wp2_with fail
        go_ret
        exact ⟨by rw [HX.out]; rfl, Below.refl _ _⟩
end Go.Proofs.YtinebmfmkgjaaaaGreatDoor
