/- Contracts of the reference's Meet, Bottom, Top. PRINTED by genref.py of this folder. -/
import Derived.Test.YtkcbcdfcpchgcaaDoorRef1
set_option linter.unusedVariables false
set_option linter.unusedSimpArgs false
namespace Go.Proofs.YtkcbcdfcpchgcaaDoor
open Go.RowKit
open OrdP (inB Rel allB allB_iff)


def meetP (n : Nat) (R : Rel) (a b c : Nat) : Bool := R c a && R c b && allB n fun d => !(R d a && R d b) || R d c
theorem meetP_first (n : Nat) (R : Rel) (a b : Nat) : OrdP.first n (meetP n R a b) = OrdP.meet n R a b := by
  unfold OrdP.meet OrdP.join OrdP.least
  refine OrdP.first_congr fun c hc => ?_
  simp [meetP, OrdP.flip, Bool.not_and]
set_option maxRecDepth 100000 in
set_option maxHeartbeats 4000000 in
theorem refMeet_in (w : World) (bB n cap a b : Nat) (R : Rel) (hn : n ≤ 32) (ha : a < n) (hb : b < n) (hr : RefAt w bB n R) :
    Calls Tryd.prog 13 #[.agg #[.int .i64 n, .slice (some ⟨bB, 0, none⟩) n cap], .int .i64 a, .int .i64 b] w fun e w' => e = .returned (.int .i64 (OrdP.meet n R a b)) ∧ Below w.heap.size w w' := by
  have hbel : Below w.heap.size w (w.alloc (refBox n bB cap)) := (Below.refl _ _).alloc (Nat.le_refl _) _
  have hr1 := hr.below hbel
  obtain ⟨c0, c1⟩ := refBox_cells w n bB cap
  obtain ⟨row, h1, h2⟩ := hr1
  have H1 := Lib.hid h1; clear h1
  have H2 := Lib.hid h2; clear h2 hr
  have HB := Lib.hid hbel; clear hbel
  have ha' : (a : Int) < n := by omega
  have hb' : (b : Int) < n := by omega
  go_enter Tryd.func13, Tryd.ntmps13
  go_wp2_with fail
  rw [show Obj.cells #[Value.int .i64 (n : Int), Value.slice (some ⟨bB, 0, none⟩) n cap] 28 = refBox n bB cap from rfl]
  generalize hW1 : w.alloc (refBox n bB cap) = W1 at *
  clear hW1
  have ra := H1.out a ha
  have rb := H1.out b hb
  go_loop [6, 7, 8, 9] (fun r ci is di => ∃ c : Nat, c ≤ n ∧ ci = .int .i64 c ∧ OrdP.firstFrom (meetP n R a b) (n - c) c = OrdP.meet n R a b) (fun _ ci _ _ => n - (intOf ci).toNat)
  case atStart => exact ⟨0, Nat.zero_le _, rfl, meetP_first n R a b⟩
  case round =>
    obtain ⟨c, hc, rfl, he⟩ := hrel
    by_cases hlt : c < n
    · have HE := Lib.hid (first_step hlt he); clear he
      have hlt' : (c : Int) < n := by omega
      have rc := H1.out c hlt
      have qa := H2.out c a (by omega) (by omega)
      have qb := H2.out c b (by omega) (by omega)
      obtain ⟨x, hx⟩ : ∃ x, x = (R c a && R c b) := ⟨_, rfl⟩
      cases va : R c a
      all_goals
        cases vb : R c b
        all_goals
          rw [va] at qa
          rw [vb] at qb
          have hx' : x = _ := hx.trans (by rw [va, vb])
          simp only [Bool.and_false, Bool.false_and, Bool.and_self] at hx'
          subst hx'
          have HX := Lib.hid hx; clear hx
          have HV := Lib.hid (And.intro va vb); clear va vb
          go_wp2_with fail
          go_loop [8, 9] (fun is di => ∃ d : Nat, d ≤ n ∧ di = .int .i64 d ∧ is = .bool ((R c a && R c b) && allB d fun d => !(R d a && R d b) || R d c)) (fun _ di => n - (intOf di).toNat)
          case atStart => exact ⟨0, Nat.zero_le _, rfl, by rw [← HX.out]; rfl⟩
          case round =>
            obtain ⟨d, hd, rfl, rfl⟩ := hrel
            by_cases hdt : d < n
            · have hdt' : (d : Int) < n := by omega
              have ta := H2.out d a (by omega) (by omega)
              have tb := H2.out d b (by omega) (by omega)
              have tc := H2.out d c (by omega) (by omega)
              have rd := H1.out d hdt
              have HS := Lib.hid (allB_succ d fun d => !(R d a && R d b) || R d c)
              cases ua : R d a
              · rw [ua] at ta
                have HU := Lib.hid ua; clear ua
                clear tb tc
                go_wp2_with fail
                go_round
                case rel => exact ⟨d + 1, by omega, by go_num, by rw [HS.out, HU.out]; simp⟩
                case measure => simp [intOf]; omega
              · rw [ua] at ta
                have HU := Lib.hid ua; clear ua
                cases ub : R d b
                · rw [ub] at tb
                  have HU2 := Lib.hid ub; clear ub
                  clear tc
                  go_wp2_with fail
                  go_round
                  case rel => exact ⟨d + 1, by omega, by go_num, by rw [HS.out, HU2.out]; simp⟩
                  case measure => simp [intOf]; omega
                · rw [ub] at tb
                  have HU2 := Lib.hid ub; clear ub
                  cases uc : R d c
                  · rw [uc] at tc
                    have HU3 := Lib.hid uc; clear uc
                    go_wp2_with fail
                    go_round
                    case rel => exact ⟨d + 1, by omega, by go_num, by rw [HS.out, HU.out, HU2.out, HU3.out]; simp⟩
                    case measure => simp [intOf]; omega
                  · rw [uc] at tc
                    have HU3 := Lib.hid uc; clear uc
                    go_wp2_with fail
                    go_round
                    case rel => exact ⟨d + 1, by omega, by go_num, by rw [HS.out, HU.out, HU2.out, HU3.out]; simp⟩
                    case measure => simp [intOf]; omega
            · obtain rfl : d = n := by omega
              have hp : ((R c a && R c b) && allB d fun d => !(R d a && R d b) || R d c) = meetP d R a b c := rfl
              rw [hp]
              cases ht : meetP d R a b c
              · have HT := Lib.hid ht; clear ht
                go_wp2_with fail
                go_round
                case rel => exact ⟨c + 1, by omega, by go_num, by have := HE.out; rw [HT.out] at this; simpa using this⟩
                case measure => simp [intOf]; omega
              · have HT := Lib.hid ht; clear ht
                go_wp2_with fail
                go_ret
                exact ⟨ret_int (by have := HE.out; rw [HT.out] at this; simpa using this), HB.out⟩
    · obtain rfl : c = n := by omega
      have HE := Lib.hid he; clear he
      go_wp2_with fail
      go_ret
      exact ⟨ret_int (by have := HE.out; simpa [OrdP.firstFrom] using this), HB.out⟩

end Go.Proofs.YtkcbcdfcpchgcaaDoor
