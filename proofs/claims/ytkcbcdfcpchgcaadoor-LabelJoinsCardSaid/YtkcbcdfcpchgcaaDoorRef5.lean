/- The reference's Lattice; and what the law makes of any points and pairs. -/
import Derived.Test.YtkcbcdfcpchgcaaDoorRef2
import Derived.Test.YtkcbcdfcpchgcaaDoorRef3
import Derived.Test.YtkcbcdfcpchgcaaDoorRef4
import Derived.Test.YtkcbcdfcpchgcaaDoorOrd7
set_option linter.unusedVariables false
set_option linter.unusedSimpArgs false
namespace Go.Proofs.YtkcbcdfcpchgcaaDoor
open Go.RowKit
open OrdP (inB Rel allB allB_iff)

def pairB (n : Nat) (R : Rel) (a b : Nat) : Bool := !((decide (a ≠ b) && R a b && R b a) || decide (OrdP.join n R a b < 0) || decide (OrdP.meet n R a b < 0))
theorem latticeRef_def (n : Nat) (R : Rel) : OrdP.latticeRef n R = allB n fun a => allB n (pairB n R a) := rfl

set_option maxRecDepth 100000 in
set_option maxHeartbeats 4000000 in
theorem refLattice_in (w : World) (bB n cap : Nat) (R : Rel) (hn : n ≤ 32) (hr : RefAt w bB n R) :
    Calls Tryd.prog 31 #[.agg #[.int .i64 n, .slice (some ⟨bB, 0, none⟩) n cap]] w fun e w' => e = .returned (.bool (OrdP.latticeRef n R)) ∧ Below w.heap.size w w' := by
  have hbel : Below w.heap.size w (w.alloc (refBox n bB cap)) := (Below.refl _ _).alloc (Nat.le_refl _) _
  have hr1 := hr.below hbel
  obtain ⟨c0, c1⟩ := refBox_cells w n bB cap
  have HR := Lib.hid hr1; clear hr1 hr
  have HB := Lib.hid hbel; clear hbel
  have hsz : (w.alloc (refBox n bB cap)).heap.size = w.heap.size + 1 := by simp
  go_enter Tryd.func31, Tryd.ntmps31
  go_wp2_with fail
  rw [show Obj.cells #[Value.int .i64 (n : Int), Value.slice (some ⟨bB, 0, none⟩) n cap] 28 = refBox n bB cap from rfl]
  generalize hW1 : w.alloc (refBox n bB cap) = W1 at *
  clear hW1
  go_loopw [2, 3, 4] (fun r ai bi wr => ∃ a : Nat, a ≤ n ∧ ai = .int .i64 a ∧ (∀ i, i < a → allB n (pairB n R i) = true) ∧ Below W1.heap.size W1 wr) (fun _ ai _ _ => n - (intOf ai).toNat)
  case atStart => exact ⟨0, Nat.zero_le _, rfl, fun i hi => by omega, Below.refl _ _⟩
  case round =>
    obtain ⟨a, ha, rfl, hall, hbw⟩ := hrel
    have d0 := (hbw.cell (p := ⟨w.heap.size, 0, none⟩) (by show w.heap.size < _; omega)).trans c0
    have HA := Lib.hid hall; clear hall
    by_cases hat : a < n
    · go_wp2_with fail
      go_loopw [2, 4] (fun r bi wr => ∃ b : Nat, b ≤ n ∧ bi = .int .i64 b ∧ (∀ i, i < b → pairB n R a i = true) ∧ Below W1.heap.size W1 wr) (fun _ bi _ => n - (intOf bi).toNat)
      case atStart => exact ⟨0, Nat.zero_le _, rfl, fun i hi => by omega, hbw⟩
      case round =>
        obtain ⟨b, hb, rfl, hall, hbw⟩ := hrel
        have HA2 := Lib.hid hall; clear hall
        by_cases hbt : b < n
        · have d0 := (hbw.cell (p := ⟨w.heap.size, 0, none⟩) (by show w.heap.size < _; omega)).trans c0
          have d1 := (hbw.cell (p := ⟨w.heap.size, 1, none⟩) (by show w.heap.size < _; omega)).trans c1
          have hrw := HR.out.below hbw
          have HRW := Lib.hid hrw
          obtain ⟨row, h1, h2⟩ := hrw
          have ra := h1 a hat
          have rb := h1 b hbt
          have qa := h2 a b hat hbt
          have qb := h2 b a hbt hat
          clear h1 h2
          have ha' : (a : Int) < n := by omega
          have hb' : (b : Int) < n := by omega
          have hs1 := hbw.size
          have hfalse : pairB n R a b = false → OrdP.latticeRef n R = false := fun h => by
            rw [latticeRef_def]
            exact allB_false hat (allB_false hbt h)
          have HF := Lib.hid hfalse; clear hfalse
          by_cases ht : a ≠ b ∧ R a b = true ∧ R b a = true
          · obtain ⟨t1, t2, t3⟩ := ht
            rw [t2] at qa
            rw [t3] at qb
            have hne : ((a : Int) != (b : Int)) = true := by simp; omega
            have HT := Lib.hid (And.intro t1 (And.intro t2 t3)); clear t1 t2 t3
            go_wp2_with fail
            go_ret
            exact ⟨ret_bool (HF.out (by unfold pairB; rw [decide_eq_true HT.out.1, HT.out.2.1, HT.out.2.2]; rfl)).symm, HB.out.trans (hbw.mono (by omega))⟩
          · have ht0 : (decide (a ≠ b) && R a b && R b a) = false := by
              cases h1 : decide (a ≠ b) <;> cases h2 : R a b <;> cases h3 : R b a <;> simp_all
            have HT0 := Lib.hid ht0; clear ht0
            have hsplit : ((a : Int) != (b : Int)) = false ∨ ((a : Int) != (b : Int)) = true ∧ (R a b = false ∨ R a b = true ∧ R b a = false) := by
              by_cases e : a = b
              · left; simp [e]
              · right
                refine ⟨by simp; omega, ?_⟩
                cases h2 : R a b
                · exact .inl rfl
                · cases h3 : R b a
                  · exact .inr ⟨rfl, rfl⟩
                  · exact absurd ⟨e, h2, h3⟩ ht
            clear ht
            have hj : OrdP.join n R a b < 0 ∨ ¬ OrdP.join n R a b < 0 := by omega
            have hm : OrdP.meet n R a b < 0 ∨ ¬ OrdP.meet n R a b < 0 := by omega
            rcases hsplit with hne | ⟨hne, hv | ⟨hv, hv2⟩⟩
            all_goals
              first
              | (rw [hv] at qa; rw [hv2] at qb; clear hv hv2)
              | (rw [hv] at qa; clear hv)
              | skip
              rcases hj with hj | hj
              · have HJ := Lib.hid hj
                go_wp2_with fail
                refine (refJoin_in _ bB n cap a b R hn hat hbt HRW.out).mono ?_
                rintro e w2 ⟨rfl, hb2⟩
                go_wp2_with fail
                go_ret
                exact ⟨ret_bool (HF.out (by unfold pairB; rw [decide_eq_true (p := OrdP.join n R a b < 0) HJ.out]; simp)).symm, HB.out.trans ((hbw.trans (hb2.mono hs1)).mono (by omega))⟩
              · have HJ := Lib.hid hj
                rcases hm with hm | hm
                · have HM := Lib.hid hm
                  go_wp2_with fail
                  refine (refJoin_in _ bB n cap a b R hn hat hbt HRW.out).mono ?_
                  rintro e w2 ⟨rfl, hb2⟩
                  have hb12 := hbw.trans (hb2.mono hs1)
                  have d02 := (hb12.cell (p := ⟨w.heap.size, 0, none⟩) (by show w.heap.size < _; omega)).trans c0
                  have d12 := (hb12.cell (p := ⟨w.heap.size, 1, none⟩) (by show w.heap.size < _; omega)).trans c1
                  go_wp2_with fail
                  refine (refMeet_in _ bB n cap a b R hn hat hbt (HRW.out.below hb2)).mono ?_
                  rintro e w3 ⟨rfl, hb3⟩
                  go_wp2_with fail
                  go_ret
                  exact ⟨ret_bool (HF.out (by unfold pairB; rw [decide_eq_true (p := OrdP.meet n R a b < 0) HM.out]; simp)).symm, HB.out.trans ((hb12.trans (hb3.mono hb12.size)).mono (by omega))⟩
                · have HM := Lib.hid hm
                  go_wp2_with fail
                  refine (refJoin_in _ bB n cap a b R hn hat hbt HRW.out).mono ?_
                  rintro e w2 ⟨rfl, hb2⟩
                  have hb12 := hbw.trans (hb2.mono hs1)
                  have d02 := (hb12.cell (p := ⟨w.heap.size, 0, none⟩) (by show w.heap.size < _; omega)).trans c0
                  have d12 := (hb12.cell (p := ⟨w.heap.size, 1, none⟩) (by show w.heap.size < _; omega)).trans c1
                  go_wp2_with fail
                  refine (refMeet_in _ bB n cap a b R hn hat hbt (HRW.out.below hb2)).mono ?_
                  rintro e w3 ⟨rfl, hb3⟩
                  have HB13 := Lib.hid (hb12.trans (hb3.mono hb12.size))
                  go_wp2_with fail
                  go_roundw
                  case rel =>
                    refine ⟨b + 1, by omega, by go_num, fun i hi => ?_, HB13.out⟩
                    by_cases e : i = b
                    · subst e
                      unfold pairB
                      rw [HT0.out, decide_eq_false (p := OrdP.join n R a i < 0) (by have := HJ.out; omega), decide_eq_false (p := OrdP.meet n R a i < 0) (by have := HM.out; omega)]; rfl
                    · exact HA2.out i (by omega)
                  case measure => simp [intOf]; omega
        · obtain rfl : b = n := by omega
          have d0 := (hbw.cell (p := ⟨w.heap.size, 0, none⟩) (by show w.heap.size < _; omega)).trans c0
          go_wp2_with fail
          go_roundw
          case rel =>
            refine ⟨a + 1, by omega, by go_num, fun i hi => ?_, hbw⟩
            by_cases e : i = a
            · subst e; exact allB_iff.2 HA2.out
            · exact HA.out i (by omega)
          case measure => simp [intOf]; omega
    · obtain rfl : a = n := by omega
      go_wp2_with fail
      go_ret
      exact ⟨ret_bool (by rw [latticeRef_def, allB_iff.2 HA.out]), HB.out.trans (hbw.mono (by omega))⟩

end Go.Proofs.YtkcbcdfcpchgcaaDoor
