/- (*order.Order).lattice; what the methods answer, as of the relation that an order is. -/
import Derived.Test.YtkcbcdfcpchgcaaDoorOrd4
set_option linter.unusedVariables false
set_option linter.unusedSimpArgs false
namespace Go.Proofs.YtkcbcdfcpchgcaaDoor
open Go.RowKit
open OrdP (inB Rel allB allB_iff)

theorem subM_all {n s t : Nat} (hn : n ≤ 32) (hs : s < 2 ^ n) (ht : t < 2 ^ n) : subM s t = allB n fun d => !s.testBit d || t.testBit d := by
  have h2 : 2 ^ n ≤ 2 ^ 32 := Nat.pow_le_pow_right (by omega) hn
  rw [Bool.eq_iff_iff, allB_iff]
  unfold subM
  rw [decide_eq_true_iff]
  have hbit : ∀ j, (4294967295 - t).testBit j = (decide (j < 32) && !t.testBit j) := fun j => by
    rw [show 4294967295 - t = 2 ^ 32 - (t + 1) by omega, Nat.testBit_two_pow_sub_succ (by omega)]
  constructor
  · intro h d hd
    have := congrArg (Nat.testBit · d) h
    simp only [Nat.testBit_and, hbit, Nat.zero_testBit] at this
    have h32 : d < 32 := by omega
    cases h1 : s.testBit d <;> cases h3 : t.testBit d <;> simp [h1, h3, h32] at this ⊢
  · intro h
    apply Nat.eq_of_testBit_eq
    intro j
    rw [Nat.testBit_and, hbit, Nat.zero_testBit]
    by_cases hj : j < n
    · have := h j hj
      cases h1 : s.testBit j <;> cases h3 : t.testBit j <;> simp [h1, h3] at this ⊢
    · rw [Nat.testBit_lt_two_pow (Nat.lt_of_lt_of_le hs (Nat.pow_le_pow_right (by omega) (by omega)))]
      simp

theorem leastM_is {n s : Nat} {u : Nat → Nat} {R : Rel} (hn : n ≤ 32) (hR : Rows' n u R) (hs : s < 2 ^ n) : leastM n u s = OrdP.least n R fun c => s.testBit c := by
  unfold leastM OrdP.least
  refine OrdP.first_congr fun c hc => ?_
  rw [subM_all hn hs (hR.1 c hc), OrdP.allB_congr fun d hd => by rw [hR.2 c hc d]]
theorem and_lt2 {n a b : Nat} (ha : a < 2 ^ n) : a &&& b < 2 ^ n := Nat.lt_of_le_of_lt Nat.and_le_left ha
theorem leastI_is {n : Nat} {u : Nat → Nat} {R : Rel} (hn : n ≤ 32) (hR : Rows' n u R) (x y : Int) : leastI n u x y = OrdP.joinI n R x y := by
  unfold leastI OrdP.joinI
  cases hx : inB n x <;> cases hy : inB n y <;> simp
  obtain ⟨x0, x1⟩ := inB_iff.1 hx
  obtain ⟨y0, y1⟩ := inB_iff.1 hy
  rw [leastM_is hn hR (and_lt2 (hR.1 _ (by omega)))]
  unfold OrdP.join
  refine OrdP.least_congr (fun _ _ _ _ => rfl) fun c hc => ?_
  rw [Nat.testBit_and, hR.2 _ (by omega), hR.2 _ (by omega)]
theorem rel_flip {n : Nat} {R : Rel} : ∀ i j, i < n → j < n → (decide (j < n) && R j i) = OrdP.flip R i j := fun i j _ hj => by simp [OrdP.flip, hj]
theorem leastI_flip {n : Nat} {d : Nat → Nat} {R : Rel} (hn : n ≤ 32) (hR : Rows' n d fun j m => decide (m < n) && R m j) (x y : Int) : leastI n d x y = OrdP.meetI n R x y := by
  rw [leastI_is hn hR]
  unfold OrdP.joinI OrdP.meetI OrdP.meet
  cases hx : inB n x <;> cases hy : inB n y <;> simp
  obtain ⟨x0, x1⟩ := inB_iff.1 hx
  obtain ⟨y0, y1⟩ := inB_iff.1 hy
  exact OrdP.join_congr rel_flip (by omega) (by omega)
theorem belowM_is {n : Nat} {u : Nat → Nat} {R : Rel} (hR : Rows' n u R) (x y : Int) : belowM n u x y = OrdP.belowI n R x y := by
  unfold belowM OrdP.belowI
  cases hx : inB n x <;> cases hy : inB n y <;> simp
  obtain ⟨x0, x1⟩ := inB_iff.1 hx
  exact hR.2 _ (by omega) _
theorem bottom_is {n : Nat} {u : Nat → Nat} {R : Rel} (hn : n ≤ 32) (hR : Rows' n u R) : leastM n u (2 ^ n - 1) = OrdP.bottom n R := by
  rw [leastM_is hn hR (by have := Nat.two_pow_pos n; omega)]
  exact OrdP.least_congr (fun _ _ _ _ => rfl) fun c hc => by rw [Nat.testBit_two_pow_sub_one]; simp [hc]
theorem top_is {n : Nat} {d : Nat → Nat} {R : Rel} (hn : n ≤ 32) (hR : Rows' n d fun j m => decide (m < n) && R m j) : leastM n d (2 ^ n - 1) = OrdP.top n R := by
  rw [bottom_is hn hR]
  exact OrdP.bottom_congr rel_flip

/-- The points below one another. -/
def antiB (n : Nat) (R : Rel) (a : Nat) : Bool := allB n fun b => !(decide (a ≠ b) && R a b && R b a)
theorem anti_is {n a : Nat} {u d : Nat → Nat} {R : Rel} (hn : n ≤ 32) (hu : Rows' n u R) (hd : Rows' n d fun j m => decide (m < n) && R m j) (ha : a < n) (hr : R a a = true) :
    decide (u a &&& d a = 2 ^ a) = antiB n R a := by
  rw [Bool.eq_iff_iff, decide_eq_true_iff, antiB, allB_iff]
  constructor
  · intro h b hb
    have := congrArg (Nat.testBit · b) h
    simp only [Nat.testBit_and, hu.2 a ha, hd.2 a ha, Nat.testBit_two_pow, hb, decide_true, Bool.true_and] at this
    by_cases e : a = b
    · simp [e]
    · simp only [e, decide_false] at this
      simp only [ne_eq, e, not_false_eq_true, decide_true, Bool.true_and, this, Bool.not_false]
  · intro h
    apply Nat.eq_of_testBit_eq
    intro b
    rw [Nat.testBit_and, hu.2 a ha, hd.2 a ha, Nat.testBit_two_pow]
    by_cases hb : b < n
    · have := h b hb
      by_cases e : a = b
      · subst e; simp [hr, ha]
      · simp only [e, decide_false]
        simp only [ne_eq, e, not_false_eq_true, decide_true, Bool.true_and, Bool.not_eq_true'] at this
        simp [hb, this]
    · have : ¬ a = b := by omega
      simp [hb, this]

def joinsB (n : Nat) (R : Rel) (a b : Nat) : Bool := decide (0 ≤ OrdP.join n R a b) && decide (0 ≤ OrdP.meet n R a b)
theorem drn (w : World) (a b : Nat) : (w.drewN a).drewN b = w.drewN (a + b) := World.drewN_drewN w a b
theorem ret_bool {a b : Bool} (h : a = b) : Ending.returned (.bool a) = .returned (.bool b) := by rw [h]
theorem lattice_def (n : Nat) (R : Rel) : OrdP.lattice n R = allB n fun a => antiB n R a && allB a (joinsB n R a) := rfl
theorem allB_false {n i : Nat} {p : Nat → Bool} (hi : i < n) (h : p i = false) : allB n p = false := by
  cases h2 : allB n p with
  | false => rfl
  | true => rw [allB_iff.1 h2 i hi] at h; cases h

set_option maxHeartbeats 4000000 in
theorem lattice_in (w : World) (b bu bd n : Nat) (u d : Nat → Nat) (R : Rel) (hn : n ≤ 32) (ho : OrdAt w b bu bd n u d) (hu : Rows' n u R) (hd : Rows' n d fun j m => decide (m < n) && R m j) (hr : ∀ i, i < n → R i i = true) :
    Calls Tryd.prog 35 #[.pointer (some ⟨b, 0, none⟩)] w fun e w' => e = .returned (.bool (OrdP.lattice n R)) ∧ ∃ q, w' = w.drewN q := by
  have cu := ho.up
  have cd := ho.down
  have HU := Lib.hid hu; clear hu
  have HD := Lib.hid hd; clear hd
  have HO := Lib.hid ho; clear ho
  have h32 : ∀ i, i < n → u i < 4294967296 := fun i hi => lt32 hn (HU.out.1 i hi)
  have h33 : ∀ i, i < n → d i < 4294967296 := fun i hi => lt32 hn (HD.out.1 i hi)
  go_enter Tryd.func35, Tryd.ntmps35
  go_wp2_with fail
  go_loopw [2, 3, 10] (fun r o i wr => ∃ (k q : Nat), k ≤ n ∧ i = .int .i64 k ∧ (∀ a, a < k → (antiB n R a && allB a (joinsB n R a)) = true) ∧ wr = w.drewN q) (fun _ _ i _ => n - (intOf i).toNat)
  case atStart => exact ⟨0, 0, Nat.zero_le _, rfl, fun a ha => by omega, rfl⟩
  case round =>
    obtain ⟨k, q, hk, rfl, hall, rfl⟩ := hrel
    have HA := Lib.hid hall; clear hall
    by_cases hlt : k < n
    · have ck := HO.out.us k hlt
      have dk := HO.out.ds k hlt
      have hlt' : (k : Int) < n := by omega
      have b1 := u32_and_nat (u k) (d k) (h32 k hlt) (h33 k hlt)
      have b2 := pow_int hlt hn
      obtain ⟨p, hp⟩ : ∃ p : Nat, p = 2 ^ k := ⟨_, rfl⟩
      have b3 := anti_is hn HU.out HD.out hlt (hr k hlt)
      rw [← hp] at b2 b3
      clear hp
      cases hanti : antiB n R k with
      | false =>
        rw [hanti] at b3
        have b4 : (((u k &&& d k : Nat) : Int) != (p : Int)) = true := by
          have := of_decide_eq_false b3
          simp; omega
        have HAN := Lib.hid hanti; clear hanti b3
        go_wp2_with fail
        go_quiet (fail)
        go_wp2_with fail
        go_ret
        exact ⟨ret_bool (by rw [lattice_def, allB_false hlt (by rw [HAN.out]; rfl)]), _, drn _ _ _⟩
      | true =>
        rw [hanti] at b3
        have b4 : (((u k &&& d k : Nat) : Int) != (p : Int)) = false := by
          have := of_decide_eq_true b3
          simp; omega
        have HAN := Lib.hid hanti; clear hanti b3
        go_wp2_with fail
        go_quiet (fail)
        clear b1 b2 b4
        go_wp2_with fail
        go_loopw [2, 4, 32] (fun r o i wr => ∃ (m q : Nat), m ≤ k ∧ i = .int .i64 m ∧ (∀ a, a < m → joinsB n R k a = true) ∧ wr = w.drewN q) (fun _ _ i _ => k - (intOf i).toNat)
        case atStart => exact ⟨0, _, Nat.zero_le _, rfl, fun a ha => by omega, drn _ _ _⟩
        case round =>
          obtain ⟨m, q2, hm, rfl, hall2, rfl⟩ := hrel
          have HM := Lib.hid hall2; clear hall2
          by_cases hmt : m < k
          · have hmn : m < n := by omega
            have e1 : leastI n u k m = OrdP.join n R k m := by rw [leastI_is hn HU.out]; exact OrdP.joinI_nat hlt hmn
            have e2 : leastI n d k m = OrdP.meet n R k m := by rw [leastI_flip hn HD.out]; exact OrdP.meetI_nat hlt hmn
            have HE1 := Lib.hid e1; clear e1
            have HE2 := Lib.hid e2; clear e2
            by_cases hj : OrdP.join n R k m < 0
            · have HJ := Lib.hid hj
              go_wp2_with fail
              refine (Join_in _ b bu bd n u d hn h32 (by exact HO.out.drewN _) k m).mono ?_
              rw [HE1.out]
              rintro e w' ⟨rfl, q3, rfl⟩
              go_wp2_with fail
              go_ret
              exact ⟨ret_bool (by rw [lattice_def, allB_false hlt (by rw [allB_false hmt (by unfold joinsB; rw [decide_eq_false (by have := HJ.out; omega)]; rfl)]; simp)]), _, rfl⟩
            · have HJ := Lib.hid hj
              by_cases hj2 : OrdP.meet n R k m < 0
              · have HJ2 := Lib.hid hj2
                go_wp2_with fail
                refine (Join_in _ b bu bd n u d hn h32 (by exact HO.out.drewN _) k m).mono ?_
                rw [HE1.out]
                rintro e w' ⟨rfl, q3, rfl⟩
                go_wp2_with fail
                refine (Meet_in _ b bu bd n u d hn h33 (by exact HO.out.drewN _) k m).mono ?_
                rw [HE2.out]
                rintro e w' ⟨rfl, q4, rfl⟩
                go_wp2_with fail
                go_ret
                exact ⟨ret_bool (by rw [lattice_def, allB_false hlt (by rw [allB_false hmt (by unfold joinsB; rw [decide_eq_false (p := 0 ≤ OrdP.meet n R k m) (by have := HJ2.out; omega)]; simp)]; simp)]), _, rfl⟩
              · have HJ2 := Lib.hid hj2
                go_wp2_with fail
                refine (Join_in _ b bu bd n u d hn h32 (by exact HO.out.drewN _) k m).mono ?_
                rw [HE1.out]
                rintro e w' ⟨rfl, q3, rfl⟩
                go_wp2_with fail
                refine (Meet_in _ b bu bd n u d hn h33 (by exact HO.out.drewN _) k m).mono ?_
                rw [HE2.out]
                rintro e w' ⟨rfl, q4, rfl⟩
                go_wp2_with fail
                go_roundw
                case rel =>
                  refine ⟨m + 1, _, by omega, by go_num, fun a ha => ?_, rfl⟩
                  by_cases ea : a = m
                  · subst ea
                    unfold joinsB
                    rw [decide_eq_true (by have := HJ.out; omega), decide_eq_true (by have := HJ2.out; omega)]; rfl
                  · exact HM.out a (by omega)
                case measure => simp [intOf]; omega
          · obtain rfl : m = k := by omega
            go_wp2_with fail
            go_roundw
            case rel =>
              refine ⟨m + 1, _, by omega, by go_num, fun a ha => ?_, rfl⟩
              by_cases ea : a = m
              · subst ea
                rw [HAN.out, allB_iff.2 HM.out]; rfl
              · exact HA.out a (by omega)
            case measure => simp [intOf]; omega
    · obtain rfl : k = n := by omega
      go_wp2_with fail
      go_ret
      exact ⟨ret_bool (by rw [lattice_def, allB_iff.2 HA.out]), _, rfl⟩

end Go.Proofs.YtkcbcdfcpchgcaaDoor
