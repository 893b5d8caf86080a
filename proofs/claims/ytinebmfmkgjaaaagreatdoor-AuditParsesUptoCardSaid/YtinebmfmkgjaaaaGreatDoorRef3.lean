/- The reference's one: the token that comes. -/
import Derived.Test.YtinebmfmkgjaaaaGreatDoorRef2
import Derived.Test.YtinebmfmkgjaaaaGreatDoorLex7
set_option linter.unusedVariables false
set_option linter.unusedSimpArgs false
namespace Go.Proofs.YtinebmfmkgjaaaaGreatDoor
open Go.RowKit

def OneEnd (w : World) (s : ByteArray) (R : Read) (e : Ending) (w' : World) : Prop :=
  match R with
  | .bad x => e = .returned (.tuple #[.agg #[.int .i64 0, .string ⟨#[]⟩, .int .i64 0, .int .i64 0, .int .i64 0], .int .i64 0, .int .i64 x]) ∧ Below w.heap.size w w'
  | .tok k n v => e = .returned (.tuple #[.agg #[.int .i64 k, .string (fore s n), .int .i64 v, .int .i64 0, .int .i64 0], .int .i64 n, .int .i64 0]) ∧ Below w.heap.size w w'
theorem numV_snoc (l : List UInt8) (i : Nat) (h : i < l.length) : numV (l.take (i + 1)) = numV (l.take i) * 10 + (l[i].toNat - 48) := by
  unfold numV
  rw [List.take_succ_eq_append_getElem h, List.foldl_append]
  rfl
theorem numV_lt (l : List UInt8) (hd : ∀ c ∈ l, digB c = true) : ∀ i, i ≤ l.length → numV (l.take i) < 10 ^ i := by
  intro i
  induction i with
  | zero => intro _; simp [numV]
  | succ i ih =>
    intro h
    have h1 := ih (by omega)
    have hc := hd (l[i]'(by omega)) (List.getElem_mem _)
    unfold digB at hc
    have hc := of_decide_eq_true hc
    rw [numV_snoc l i (by omega), Nat.pow_succ]
    omega
set_option maxRecDepth 100000 in
set_option maxHeartbeats 16000000 in
theorem one_in (s : ByteArray) (w : World) (h0 : 0 < s.size) (hs : s.size ≤ 1048576) : Calls Tryz.prog 25 #[.string s] w fun e w' => OneEnd w s (readB s) e w' := by
  have HH := Lib.hid (hd_eq h0)
  obtain ⟨R, hR⟩ : ∃ z, readB s = z := ⟨_, rfl⟩
  rw [hR]
  have HR := Lib.hid hR
  clear hR
  have h0' : (0 : Int) < (s.size : Int) := by omega
  have c1 := fun w' => rletter_in s[0] w'
  have c2 := fun w' => rdigit_in s[0] w'
  have HB := Lib.hid fun o => (Below.refl w.heap.size w |>.alloc (Nat.le_refl _) o)
  cases hl : letB s[0] with
  | true =>
    simp only [hl] at c1
    have HL := Lib.hid (show letB (hd s) = true by rw [← HH.out]; exact hl)
    clear hl
    obtain ⟨n, hn⟩ : ∃ z, cntB nameB s = z := ⟨_, rfl⟩
    have hns : n ≤ s.size := by rw [← hn]; exact cntB_le _ _
    have hns' : (n : Int) ≤ (s.size : Int) := by omega
    have c3 := fun w' => long_in s true w' hs
    simp only [kindB_name, hn] at c3
    generalize digB s[0] = dg at *
    by_cases h40 : 40 < n
    · have h40' : (40 : Int) < (n : Int) := by omega
      have HF := Lib.hid (show R = .bad 6 by
        rw [← HR.out]
        unfold readB
        rw [if_pos HL.out, hn, if_pos h40])
      have HN := Lib.hid hn
      clear hn
      go_enter Tryz.func25, Tryz.ntmps25
      go_wp2_with fail
      refine (c1 _).mono ?_
      rintro e w1 ⟨rfl, rfl⟩
      go_wp2_with fail
      refine (c2 _).mono ?_
      rintro e w1 ⟨rfl, rfl⟩
      go_wp2_with fail
      refine (c3 _).mono ?_
      rintro e w1 ⟨rfl, rfl⟩
      go_wp2_with fail
      rw [HF.out]
      exact bodyPost_ret (v := .tuple #[.agg #[.int .i64 0, .string ⟨#[]⟩, .int .i64 0, .int .i64 0, .int .i64 0], .int .i64 0, .int .i64 6]) (by simp [results, Tryz.results25, go_sem]) rfl ⟨rfl, HB.out _⟩
    · have h40' : ¬ (40 : Int) < (n : Int) := by omega
      have c4 := fun w' => refOwn_in (s.extract 0 n) w'
      cases ho : ownB (s.extract 0 n) with
      | true =>
        simp only [ho] at c4
        have HF := Lib.hid (show R = .tok 2 n 0 by
          rw [← HR.out]
          unfold readB
          rw [if_pos HL.out, hn, if_neg h40]
          have ho' : ownB (fore s n) = true := ho
          rw [ho']
          rfl)
        have HN := Lib.hid hn
        clear hn ho
        go_enter Tryz.func25, Tryz.ntmps25
        go_wp2_with fail
        refine (c1 _).mono ?_
        rintro e w1 ⟨rfl, rfl⟩
        go_wp2_with fail
        refine (c2 _).mono ?_
        rintro e w1 ⟨rfl, rfl⟩
        go_wp2_with fail
        refine (c3 _).mono ?_
        rintro e w1 ⟨rfl, rfl⟩
        go_wp2_with fail
        refine (c4 _).mono ?_
        rintro e w1 ⟨rfl, rfl⟩
        go_wp2_with fail
        rw [HF.out]
        exact bodyPost_ret (v := .tuple #[.agg #[.int .i64 2, .string (s.extract 0 n), .int .i64 0, .int .i64 0, .int .i64 0], .int .i64 n, .int .i64 0]) (by simp [results, Tryz.results25, go_sem]) rfl ⟨rfl, HB.out _⟩
      | false =>
        simp only [ho] at c4
        have HF := Lib.hid (show R = .tok 1 n 0 by
          rw [← HR.out]
          unfold readB
          rw [if_pos HL.out, hn, if_neg h40]
          have ho' : ownB (fore s n) = false := ho
          rw [ho']
          rfl)
        have HN := Lib.hid hn
        clear hn ho
        go_enter Tryz.func25, Tryz.ntmps25
        go_wp2_with fail
        refine (c1 _).mono ?_
        rintro e w1 ⟨rfl, rfl⟩
        go_wp2_with fail
        refine (c2 _).mono ?_
        rintro e w1 ⟨rfl, rfl⟩
        go_wp2_with fail
        refine (c3 _).mono ?_
        rintro e w1 ⟨rfl, rfl⟩
        go_wp2_with fail
        refine (c4 _).mono ?_
        rintro e w1 ⟨rfl, rfl⟩
        go_wp2_with fail
        rw [HF.out]
        exact bodyPost_ret (v := .tuple #[.agg #[.int .i64 1, .string (s.extract 0 n), .int .i64 0, .int .i64 0, .int .i64 0], .int .i64 n, .int .i64 0]) (by simp [results, Tryz.results25, go_sem]) rfl ⟨rfl, HB.out _⟩
  | false =>
    simp only [hl] at c1
    have HL := Lib.hid (show ¬ letB (hd s) = true by rw [← HH.out, hl]; decide)
    clear hl
    cases hd' : digB s[0] with
    | false =>
      simp only [hd'] at c2
      have HD := Lib.hid (show ¬ digB (hd s) = true by rw [← HH.out, hd']; decide)
      clear hd'
      have c3 := fun w' => rmark_in s w' h0
      obtain ⟨n, hn⟩ : ∃ z, markB s = z := ⟨_, rfl⟩
      have hns : n ≤ s.size := by rw [← hn]; exact markB_le _
      have hns' : (n : Int) ≤ (s.size : Int) := by omega
      simp only [hn] at c3
      by_cases hz : n = 0
      · subst hz
        have HF := Lib.hid (show R = .bad 4 by
          rw [← HR.out]
          unfold readB
          rw [if_neg HL.out, if_neg HD.out, if_pos hn])
        clear hn
        go_enter Tryz.func25, Tryz.ntmps25
        go_wp2_with fail
        refine (c1 _).mono ?_
        rintro e w1 ⟨rfl, rfl⟩
        go_wp2_with fail
        refine (c2 _).mono ?_
        rintro e w1 ⟨rfl, rfl⟩
        go_wp2_with fail
        refine (c3 _).mono ?_
        rintro e w1 ⟨rfl, rfl⟩
        go_wp2_with fail
        rw [HF.out]
        exact bodyPost_ret (v := .tuple #[.agg #[.int .i64 0, .string ⟨#[]⟩, .int .i64 0, .int .i64 0, .int .i64 0], .int .i64 0, .int .i64 4]) (by simp [results, Tryz.results25, go_sem]) rfl ⟨rfl, HB.out _⟩
      · have hz' : ((n : Int) == 0) = false := by simp; omega
        have HF := Lib.hid (show R = .tok 4 n 0 by
          rw [← HR.out]
          unfold readB
          rw [if_neg HL.out, if_neg HD.out, if_neg (by omega), hn])
        clear hn
        go_enter Tryz.func25, Tryz.ntmps25
        go_wp2_with fail
        refine (c1 _).mono ?_
        rintro e w1 ⟨rfl, rfl⟩
        go_wp2_with fail
        refine (c2 _).mono ?_
        rintro e w1 ⟨rfl, rfl⟩
        go_wp2_with fail
        refine (c3 _).mono ?_
        rintro e w1 ⟨rfl, rfl⟩
        go_wp2_with fail
        rw [HF.out]
        exact bodyPost_ret (v := .tuple #[.agg #[.int .i64 4, .string (s.extract 0 n), .int .i64 0, .int .i64 0, .int .i64 0], .int .i64 n, .int .i64 0]) (by simp [results, Tryz.results25, go_sem]) rfl ⟨rfl, HB.out _⟩
    | true =>
      simp only [hd'] at c2
      have HD := Lib.hid (show digB (hd s) = true by rw [← HH.out]; exact hd')
      clear hd'
      obtain ⟨n, hn⟩ : ∃ z, cntB digB s = z := ⟨_, rfl⟩
      have hns : n ≤ s.size := by rw [← hn]; exact cntB_le _ _
      have hns' : (n : Int) ≤ (s.size : Int) := by omega
      have c3 := fun w' => long_in s false w' hs
      simp only [kindB_digit, hn] at c3
      by_cases h18 : 18 < n
      · have h18' : (18 : Int) < (n : Int) := by omega
        have HF := Lib.hid (show R = .bad 6 by
          rw [← HR.out]
          unfold readB
          rw [if_neg HL.out, if_pos HD.out, hn, if_pos h18])
        clear hn
        go_enter Tryz.func25, Tryz.ntmps25
        go_wp2_with fail
        refine (c1 _).mono ?_
        rintro e w1 ⟨rfl, rfl⟩
        go_wp2_with fail
        refine (c2 _).mono ?_
        rintro e w1 ⟨rfl, rfl⟩
        go_wp2_with fail
        refine (c3 _).mono ?_
        rintro e w1 ⟨rfl, rfl⟩
        go_wp2_with fail
        rw [HF.out]
        exact bodyPost_ret (v := .tuple #[.agg #[.int .i64 0, .string ⟨#[]⟩, .int .i64 0, .int .i64 0, .int .i64 0], .int .i64 0, .int .i64 6]) (by simp [results, Tryz.results25, go_sem]) rfl ⟨rfl, HB.out _⟩
      · have h18' : ¬ (18 : Int) < (n : Int) := by omega
        have HF := Lib.hid (show R = .tok 3 n (numV (s.data.toList.take n)) by
          rw [← HR.out]
          unfold readB
          rw [if_neg HL.out, if_pos HD.out, hn, if_neg h18, fore_list])
        have HDG := Lib.hid (show ∀ j (h : j < s.size), j < n → 48 ≤ (s[j]'h).toNat ∧ (s[j]'h).toNat ≤ 57 from fun j h hj => by
          have hm : s[j] ∈ s.data.toList.take (cntB digB s) := by
            rw [hn, List.mem_take_iff_getElem]
            exact ⟨j, by rw [show s.data.toList.length = s.size by simp]; omega, rfl⟩
          have := takeWhile_mem hm
          unfold digB at this
          exact of_decide_eq_true this)
        have HLT := Lib.hid (show ∀ i, i ≤ n → numV (s.data.toList.take i) < 10 ^ i from fun i hi => by
          have h := numV_lt (s.data.toList.take n) (fun c hc => by rw [← hn] at hc; exact takeWhile_mem hc) i (by simp; omega)
          rw [List.take_take, Nat.min_eq_left hi] at h
          exact h)
        clear hn
        go_enter Tryz.func25, Tryz.ntmps25
        go_wp2_with fail
        refine (c1 _).mono ?_
        rintro e w1 ⟨rfl, rfl⟩
        go_wp2_with fail
        refine (c2 _).mono ?_
        rintro e w1 ⟨rfl, rfl⟩
        go_wp2_with fail
        refine (c3 _).mono ?_
        rintro e w1 ⟨rfl, rfl⟩
        go_wp2_with fail
        have HB2 := Lib.hid ((HB.out (.cells #[.int .i64 0, .string ⟨#[]⟩, .int .i64 0, .int .i64 0, .int .i64 0] 74)).alloc (by simp) (.cells #[.int .i64 3, .string (s.extract 0 n), .int .i64 0, .int .i64 0, .int .i64 0] 74))
        have HR1 := Lib.hid (show ((w.alloc (.cells #[.int .i64 0, .string ⟨#[]⟩, .int .i64 0, .int .i64 0, .int .i64 0] 74)).alloc (.cells #[.int .i64 3, .string (s.extract 0 n), .int .i64 0, .int .i64 0, .int .i64 0] 74)).heap[w.heap.size]? = some (.cells #[.int .i64 0, .string ⟨#[]⟩, .int .i64 0, .int .i64 0, .int .i64 0] 74) from by rw [Below.heap_alloc _ _ _ (by simp)]; exact last _ _)
        have HR2 := Lib.hid (show ((w.alloc (.cells #[.int .i64 0, .string ⟨#[]⟩, .int .i64 0, .int .i64 0, .int .i64 0] 74)).alloc (.cells #[.int .i64 3, .string (s.extract 0 n), .int .i64 0, .int .i64 0, .int .i64 0] 74)).heap[w.heap.size + 1]? = some (.cells #[.int .i64 3, .string (s.extract 0 n), .int .i64 0, .int .i64 0, .int .i64 0] 74) from lastk _ _ (by simp))
        generalize (w.alloc (.cells #[.int .i64 0, .string ⟨#[]⟩, .int .i64 0, .int .i64 0, .int .i64 0] 74)).alloc (.cells #[.int .i64 3, .string (s.extract 0 n), .int .i64 0, .int .i64 0, .int .i64 0] 74) = wz at *
        go_loopg [11] n (fun gk iv wr => ∃ i : Nat, iv = .int .i64 (i : Int) ∧ i + gk = n ∧ Below w.heap.size w wr ∧ wr.heap[w.heap.size]? = some (.cells #[.int .i64 0, .string ⟨#[]⟩, .int .i64 0, .int .i64 0, .int .i64 0] 74) ∧ wr.heap[w.heap.size + 1]? = some (.cells #[.int .i64 3, .string (s.extract 0 n), .int .i64 (numV (s.data.toList.take i) : Int), .int .i64 0, .int .i64 0] 74))
        case atStart => exact ⟨0, rfl, by omega, HB2.out, HR1.out, HR2.out⟩
        case round =>
          obtain ⟨i, rfl, hig, hb, hr1, hr2⟩ := hrel
          have HS := Lib.hid (And.intro hb (And.intro hr1 hr2))
          have hf2 := frozenOf hr2
          obtain ⟨t0, t1, t2, t3, t4⟩ := cellsOf5 hr2
          have hf1 := frozenOf hr1
          obtain ⟨r0, r1, r2, r3, r4⟩ := cellsOf5 hr1
          clear hb hr1 hr2
          by_cases hlt : i < n
          · have hlt' : (i : Int) < (n : Int) := by omega
            have hls : (i : Int) < (s.size : Int) := by omega
            have hls' : i < s.size := by omega
            obtain ⟨g, rfl⟩ : ∃ g, gk = g + 1 := ⟨gk - 1, by omega⟩
            have hdg := HDG.out i hls' hlt
            have hv := HLT.out i (by omega)
            have hv2 : numV (s.data.toList.take i) < 10 ^ 17 := Nat.lt_of_lt_of_le hv (Nat.pow_le_pow_right (by decide) (by omega))
            have HNX := Lib.hid (show (numV (s.data.toList.take (i + 1)) : Int) = 10 * (numV (s.data.toList.take i) : Int) + (((s[i]'hls').toNat : Int) - 48) by
              rw [numV_snoc s.data.toList i (by simpa using hls')]
              have : (s.data.toList[i]'(by simpa using hls')) = s[i]'hls' := rfl
              rw [this]
              omega)
            generalize (numV (s.data.toList.take i)) = nv at *
            clear hv
            go_wp2_with fail
            go_region
            go_wp2_with fail
            have e1 := HNX.out.symm
            rw [e1]
            go_roundg g
            case measure => omega
            case rel =>
              refine ⟨i + 1, by go_num, by omega, (HS.out.1.setCell (by simp) _).drew, (Below.heap_setCell _ _ _ _ (by simp)).trans HS.out.2.1, ?_⟩
              exact setc HS.out.2.2 2 _
          · have hlt' : ¬ (i : Int) < (n : Int) := by omega
            obtain rfl : i = n := by omega
            go_wp2_with fail
            have HQ := Lib.hid (setc (setc (setc (setc (setc HS.out.2.1 0 (.int .i64 3)) 1 (.string (s.extract 0 i))) 2 (.int .i64 (numV (s.data.toList.take i) : Int))) 3 (.int .i64 0)) 4 (.int .i64 0))
            obtain ⟨q0, q1, q2, q3, q4⟩ := cellsOf5 HQ.out
            rw [HF.out]
            exact bodyPost_ret (v := .tuple #[.agg #[.int .i64 3, .string (s.extract 0 i), .int .i64 (numV (s.data.toList.take i) : Int), .int .i64 0, .int .i64 0], .int .i64 i, .int .i64 0]) (by simp [results, Tryz.results25, go_sem, q0, q1, q2, q3, q4]) rfl ⟨rfl, ((((HS.out.1.setCell (Nat.le_refl _) _).setCell (Nat.le_refl _) _).setCell (Nat.le_refl _) _).setCell (Nat.le_refl _) _).setCell (Nat.le_refl _) _⟩
end Go.Proofs.YtinebmfmkgjaaaaGreatDoor
