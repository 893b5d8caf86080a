/- Does an expression end with one that goes on as far as it can? PRINTED by genshd.py. -/
import Derived.Test.YtmeacgmjpjjphaaGreatDoorMShP
import Derived.Test.YtmeacgmjpjjphaaGreatDoorMTre6
import Derived.Test.YtmeacgmjpjjphaaGreatDoorMLex
import Derived.Test.YtmeacgmjpjjphaaGreatDoorMShelf2
import Derived.Lib.AppendIntMem
set_option linter.unusedVariables false
set_option linter.unusedSimpArgs false
namespace Go.Proofs.YtmeacgmjpjjphaaGreatDoor
open Go.RowKit Go.Shelf
open Tr (Nd TreeAt Own Ints Fine ndV)
open Tr.TreP (WF fits places nd inT)

theorem op_yes {op : ByteArray} {l : List UInt8} (h : (op.toList == l) = true) : op = bs l := by
  rw [ByteArray.toList_eq] at h
  have h := eq_of_beq h
  apply ByteArray.ext
  apply Array.ext'
  rw [h]
  rfl
theorem op_no {op : ByteArray} {l : List UInt8} (h : (op.toList == l) = false) : op ≠ bs l := by
  rintro rfl
  rw [ByteArray.toList_eq] at h
  simp [bs] at h
set_option maxRecDepth 100000 in
set_option maxHeartbeats 4000000 in
theorem slevel_in (op : ByteArray) (w : World) : Calls Tryz.prog 62 #[.string op] w fun e w' => e = .returned (.int .i64 (lvlB op)) ∧ w = w' := by
  go_enter Tryz.func62, Tryz.ntmps62
  cases h0 : (op.toList == [115, 101, 113]) with
  | true =>
    have e : op = nSeq := op_yes h0
    have HE := Lib.hid e
    clear e
    go_wp2_with fail
    go_ret
    exact ⟨by rw [HE.out]; rfl, rfl⟩
  | false =>
    have n0 : op ≠ nSeq := op_no h0
    cases h1 : (op.toList == [108, 101, 116]) with
    | true =>
      have e : op = kLet := op_yes h1
      have HE := Lib.hid e
      clear e
      go_wp2_with fail
      go_ret
      exact ⟨by rw [HE.out]; rfl, rfl⟩
    | false =>
      have n1 : op ≠ kLet := op_no h1
      cases h2 : (op.toList == [105, 102]) with
      | true =>
        have e : op = kIf := op_yes h2
        have HE := Lib.hid e
        clear e
        go_wp2_with fail
        go_ret
        exact ⟨by rw [HE.out]; rfl, rfl⟩
      | false =>
        have n2 : op ≠ kIf := op_no h2
        cases h3 : (op.toList == [116, 114, 121]) with
        | true =>
          have e : op = kTry := op_yes h3
          have HE := Lib.hid e
          clear e
          go_wp2_with fail
          go_ret
          exact ⟨by rw [HE.out]; rfl, rfl⟩
        | false =>
          have n3 : op ≠ kTry := op_no h3
          cases h4 : (op.toList == [114, 97, 105, 115, 101]) with
          | true =>
            have e : op = kRaise := op_yes h4
            have HE := Lib.hid e
            clear e
            go_wp2_with fail
            go_ret
            exact ⟨by rw [HE.out]; rfl, rfl⟩
          | false =>
            have n4 : op ≠ kRaise := op_no h4
            cases h5 : (op.toList == [111, 117, 116]) with
            | true =>
              have e : op = kOut := op_yes h5
              have HE := Lib.hid e
              clear e
              go_wp2_with fail
              go_ret
              exact ⟨by rw [HE.out]; rfl, rfl⟩
            | false =>
              have n5 : op ≠ kOut := op_no h5
              cases h6 : (op.toList == [115, 101, 116]) with
              | true =>
                have e : op = nSet := op_yes h6
                have HE := Lib.hid e
                clear e
                go_wp2_with fail
                go_ret
                exact ⟨by rw [HE.out]; rfl, rfl⟩
              | false =>
                have n6 : op ≠ nSet := op_no h6
                cases h7 : (op.toList == [111, 114]) with
                | true =>
                  have e : op = kOr := op_yes h7
                  have HE := Lib.hid e
                  clear e
                  go_wp2_with fail
                  go_ret
                  exact ⟨by rw [HE.out]; rfl, rfl⟩
                | false =>
                  have n7 : op ≠ kOr := op_no h7
                  cases h8 : (op.toList == [97, 110, 100]) with
                  | true =>
                    have e : op = kAnd := op_yes h8
                    have HE := Lib.hid e
                    clear e
                    go_wp2_with fail
                    go_ret
                    exact ⟨by rw [HE.out]; rfl, rfl⟩
                  | false =>
                    have n8 : op ≠ kAnd := op_no h8
                    cases h9 : (op.toList == [61]) with
                    | true =>
                      have e : op = kEq := op_yes h9
                      have HE := Lib.hid e
                      clear e
                      go_wp2_with fail
                      go_ret
                      exact ⟨by rw [HE.out]; rfl, rfl⟩
                    | false =>
                      have n9 : op ≠ kEq := op_no h9
                      cases h10 : (op.toList == [60]) with
                      | true =>
                        have e : op = kLt := op_yes h10
                        have HE := Lib.hid e
                        clear e
                        go_wp2_with fail
                        go_ret
                        exact ⟨by rw [HE.out]; rfl, rfl⟩
                      | false =>
                        have n10 : op ≠ kLt := op_no h10
                        cases h11 : (op.toList == [43]) with
                        | true =>
                          have e : op = kPlus := op_yes h11
                          have HE := Lib.hid e
                          clear e
                          go_wp2_with fail
                          go_ret
                          exact ⟨by rw [HE.out]; rfl, rfl⟩
                        | false =>
                          have n11 : op ≠ kPlus := op_no h11
                          cases h12 : (op.toList == [45]) with
                          | true =>
                            have e : op = kMinus := op_yes h12
                            have HE := Lib.hid e
                            clear e
                            go_wp2_with fail
                            go_ret
                            exact ⟨by rw [HE.out]; rfl, rfl⟩
                          | false =>
                            have n12 : op ≠ kMinus := op_no h12
                            cases h13 : (op.toList == [42]) with
                            | true =>
                              have e : op = kStar := op_yes h13
                              have HE := Lib.hid e
                              clear e
                              go_wp2_with fail
                              go_ret
                              exact ⟨by rw [HE.out]; rfl, rfl⟩
                            | false =>
                              have n13 : op ≠ kStar := op_no h13
                              have HV := Lib.hid (show lvlB op = 7 by simp [lvlB, n0, n1, n2, n3, n4, n5, n6, n7, n8, n9, n10, n11, n12, n13])
                              clear n0
                              clear n1
                              clear n2
                              clear n3
                              clear n4
                              clear n5
                              clear n6
                              clear n7
                              clear n8
                              clear n9
                              clear n10
                              clear n11
                              clear n12
                              clear n13
                              go_wp2_with fail
                              go_ret
                              exact ⟨by rw [HV.out]; first | rfl | (simp [hc]; done) | (simp; omega), rfl⟩
set_option maxRecDepth 100000 in
set_option maxHeartbeats 8000000 in
theorem right_in (op name : ByteArray) (line col num : Int) (A : Option Addr) (n cap : Nat) (w : World) (hn : n ≤ 1000000) : Calls Tryz.prog 32 #[.agg #[.string op, .int .i64 line, .int .i64 col, .string name, .int .i64 num, .slice A n cap]] w fun e w' => e = .returned (.bool (rightB op n)) ∧ Below w.heap.size w w' := by
  go_enter Tryz.func32, Tryz.ntmps32
  cases h0 : (op.toList == [105, 102]) with
  | true =>
    have e : op = kIf := op_yes h0
    have HE := Lib.hid e
    clear e
    by_cases hc : (n : Int) = 3
    · go_wp2_with fail
      go_ret
      exact ⟨by rw [HE.out, show rightB kIf n = decide (n = 3) from rfl, decide_eq_true (by omega)]; first | rfl | (simp [hc]; done) | (simp; omega), (Below.refl _ _).alloc (Nat.le_refl _) _⟩
    · go_wp2_with fail
      go_ret
      exact ⟨by rw [HE.out, show rightB kIf n = decide (n = 3) from rfl, decide_eq_false (by omega)]; first | rfl | (simp [hc]; done) | (simp; omega), (Below.refl _ _).alloc (Nat.le_refl _) _⟩
  | false =>
    have n0 : op ≠ kIf := op_no h0
    cases h1 : (op.toList == [115, 101, 113]) with
    | true =>
      have e : op = nSeq := op_yes h1
      have HE := Lib.hid e
      clear e
      by_cases hc : (n : Int) = 2
      · go_wp2_with fail
        go_ret
        exact ⟨by rw [HE.out, show rightB nSeq n = decide (n = 2) from rfl, decide_eq_true (by omega)]; first | rfl | (simp [hc]; done) | (simp; omega), (Below.refl _ _).alloc (Nat.le_refl _) _⟩
      · go_wp2_with fail
        go_ret
        exact ⟨by rw [HE.out, show rightB nSeq n = decide (n = 2) from rfl, decide_eq_false (by omega)]; first | rfl | (simp [hc]; done) | (simp; omega), (Below.refl _ _).alloc (Nat.le_refl _) _⟩
    | false =>
      have n1 : op ≠ nSeq := op_no h1
      cases h2 : (op.toList == [108, 101, 116]) with
      | true =>
        have e : op = kLet := op_yes h2
        have HE := Lib.hid e
        clear e
        by_cases hc : (n : Int) = 2
        · go_wp2_with fail
          go_ret
          exact ⟨by rw [HE.out, show rightB kLet n = decide (n = 2) from rfl, decide_eq_true (by omega)]; first | rfl | (simp [hc]; done) | (simp; omega), (Below.refl _ _).alloc (Nat.le_refl _) _⟩
        · go_wp2_with fail
          go_ret
          exact ⟨by rw [HE.out, show rightB kLet n = decide (n = 2) from rfl, decide_eq_false (by omega)]; first | rfl | (simp [hc]; done) | (simp; omega), (Below.refl _ _).alloc (Nat.le_refl _) _⟩
      | false =>
        have n2 : op ≠ kLet := op_no h2
        cases h3 : (op.toList == [116, 114, 121]) with
        | true =>
          have e : op = kTry := op_yes h3
          have HE := Lib.hid e
          clear e
          by_cases hc : (n : Int) = 2
          · go_wp2_with fail
            go_ret
            exact ⟨by rw [HE.out, show rightB kTry n = decide (n = 2) from rfl, decide_eq_true (by omega)]; first | rfl | (simp [hc]; done) | (simp; omega), (Below.refl _ _).alloc (Nat.le_refl _) _⟩
          · go_wp2_with fail
            go_ret
            exact ⟨by rw [HE.out, show rightB kTry n = decide (n = 2) from rfl, decide_eq_false (by omega)]; first | rfl | (simp [hc]; done) | (simp; omega), (Below.refl _ _).alloc (Nat.le_refl _) _⟩
        | false =>
          have n3 : op ≠ kTry := op_no h3
          cases h4 : (op.toList == [111, 114]) with
          | true =>
            have e : op = kOr := op_yes h4
            have HE := Lib.hid e
            clear e
            by_cases hc : (n : Int) = 2
            · go_wp2_with fail
              go_ret
              exact ⟨by rw [HE.out, show rightB kOr n = decide (n = 2) from rfl, decide_eq_true (by omega)]; first | rfl | (simp [hc]; done) | (simp; omega), (Below.refl _ _).alloc (Nat.le_refl _) _⟩
            · go_wp2_with fail
              go_ret
              exact ⟨by rw [HE.out, show rightB kOr n = decide (n = 2) from rfl, decide_eq_false (by omega)]; first | rfl | (simp [hc]; done) | (simp; omega), (Below.refl _ _).alloc (Nat.le_refl _) _⟩
          | false =>
            have n4 : op ≠ kOr := op_no h4
            cases h5 : (op.toList == [97, 110, 100]) with
            | true =>
              have e : op = kAnd := op_yes h5
              have HE := Lib.hid e
              clear e
              by_cases hc : (n : Int) = 2
              · go_wp2_with fail
                go_ret
                exact ⟨by rw [HE.out, show rightB kAnd n = decide (n = 2) from rfl, decide_eq_true (by omega)]; first | rfl | (simp [hc]; done) | (simp; omega), (Below.refl _ _).alloc (Nat.le_refl _) _⟩
              · go_wp2_with fail
                go_ret
                exact ⟨by rw [HE.out, show rightB kAnd n = decide (n = 2) from rfl, decide_eq_false (by omega)]; first | rfl | (simp [hc]; done) | (simp; omega), (Below.refl _ _).alloc (Nat.le_refl _) _⟩
            | false =>
              have n5 : op ≠ kAnd := op_no h5
              cases h6 : (op.toList == [61]) with
              | true =>
                have e : op = kEq := op_yes h6
                have HE := Lib.hid e
                clear e
                by_cases hc : (n : Int) = 2
                · go_wp2_with fail
                  go_ret
                  exact ⟨by rw [HE.out, show rightB kEq n = decide (n = 2) from rfl, decide_eq_true (by omega)]; first | rfl | (simp [hc]; done) | (simp; omega), (Below.refl _ _).alloc (Nat.le_refl _) _⟩
                · go_wp2_with fail
                  go_ret
                  exact ⟨by rw [HE.out, show rightB kEq n = decide (n = 2) from rfl, decide_eq_false (by omega)]; first | rfl | (simp [hc]; done) | (simp; omega), (Below.refl _ _).alloc (Nat.le_refl _) _⟩
              | false =>
                have n6 : op ≠ kEq := op_no h6
                cases h7 : (op.toList == [60]) with
                | true =>
                  have e : op = kLt := op_yes h7
                  have HE := Lib.hid e
                  clear e
                  by_cases hc : (n : Int) = 2
                  · go_wp2_with fail
                    go_ret
                    exact ⟨by rw [HE.out, show rightB kLt n = decide (n = 2) from rfl, decide_eq_true (by omega)]; first | rfl | (simp [hc]; done) | (simp; omega), (Below.refl _ _).alloc (Nat.le_refl _) _⟩
                  · go_wp2_with fail
                    go_ret
                    exact ⟨by rw [HE.out, show rightB kLt n = decide (n = 2) from rfl, decide_eq_false (by omega)]; first | rfl | (simp [hc]; done) | (simp; omega), (Below.refl _ _).alloc (Nat.le_refl _) _⟩
                | false =>
                  have n7 : op ≠ kLt := op_no h7
                  cases h8 : (op.toList == [43]) with
                  | true =>
                    have e : op = kPlus := op_yes h8
                    have HE := Lib.hid e
                    clear e
                    by_cases hc : (n : Int) = 2
                    · go_wp2_with fail
                      go_ret
                      exact ⟨by rw [HE.out, show rightB kPlus n = decide (n = 2) from rfl, decide_eq_true (by omega)]; first | rfl | (simp [hc]; done) | (simp; omega), (Below.refl _ _).alloc (Nat.le_refl _) _⟩
                    · go_wp2_with fail
                      go_ret
                      exact ⟨by rw [HE.out, show rightB kPlus n = decide (n = 2) from rfl, decide_eq_false (by omega)]; first | rfl | (simp [hc]; done) | (simp; omega), (Below.refl _ _).alloc (Nat.le_refl _) _⟩
                  | false =>
                    have n8 : op ≠ kPlus := op_no h8
                    cases h9 : (op.toList == [45]) with
                    | true =>
                      have e : op = kMinus := op_yes h9
                      have HE := Lib.hid e
                      clear e
                      by_cases hc : (n : Int) = 2
                      · go_wp2_with fail
                        go_ret
                        exact ⟨by rw [HE.out, show rightB kMinus n = decide (n = 2) from rfl, decide_eq_true (by omega)]; first | rfl | (simp [hc]; done) | (simp; omega), (Below.refl _ _).alloc (Nat.le_refl _) _⟩
                      · go_wp2_with fail
                        go_ret
                        exact ⟨by rw [HE.out, show rightB kMinus n = decide (n = 2) from rfl, decide_eq_false (by omega)]; first | rfl | (simp [hc]; done) | (simp; omega), (Below.refl _ _).alloc (Nat.le_refl _) _⟩
                    | false =>
                      have n9 : op ≠ kMinus := op_no h9
                      cases h10 : (op.toList == [42]) with
                      | true =>
                        have e : op = kStar := op_yes h10
                        have HE := Lib.hid e
                        clear e
                        by_cases hc : (n : Int) = 2
                        · go_wp2_with fail
                          go_ret
                          exact ⟨by rw [HE.out, show rightB kStar n = decide (n = 2) from rfl, decide_eq_true (by omega)]; first | rfl | (simp [hc]; done) | (simp; omega), (Below.refl _ _).alloc (Nat.le_refl _) _⟩
                        · go_wp2_with fail
                          go_ret
                          exact ⟨by rw [HE.out, show rightB kStar n = decide (n = 2) from rfl, decide_eq_false (by omega)]; first | rfl | (simp [hc]; done) | (simp; omega), (Below.refl _ _).alloc (Nat.le_refl _) _⟩
                      | false =>
                        have n10 : op ≠ kStar := op_no h10
                        cases h11 : (op.toList == [112, 97, 105, 114]) with
                        | true =>
                          have e : op = nPair := op_yes h11
                          have HE := Lib.hid e
                          clear e
                          by_cases hc : (n : Int) = 2
                          · go_wp2_with fail
                            go_ret
                            exact ⟨by rw [HE.out, show rightB nPair n = decide (n = 2) from rfl, decide_eq_true (by omega)]; first | rfl | (simp [hc]; done) | (simp; omega), (Below.refl _ _).alloc (Nat.le_refl _) _⟩
                          · go_wp2_with fail
                            go_ret
                            exact ⟨by rw [HE.out, show rightB nPair n = decide (n = 2) from rfl, decide_eq_false (by omega)]; first | rfl | (simp [hc]; done) | (simp; omega), (Below.refl _ _).alloc (Nat.le_refl _) _⟩
                        | false =>
                          have n11 : op ≠ nPair := op_no h11
                          cases h12 : (op.toList == [111, 117, 116]) with
                          | true =>
                            have e : op = kOut := op_yes h12
                            have HE := Lib.hid e
                            clear e
                            by_cases hc : (n : Int) = 1
                            · go_wp2_with fail
                              go_ret
                              exact ⟨by rw [HE.out, show rightB kOut n = decide (n = 1) from rfl, decide_eq_true (by omega)]; first | rfl | (simp [hc]; done) | (simp; omega), (Below.refl _ _).alloc (Nat.le_refl _) _⟩
                            · go_wp2_with fail
                              go_ret
                              exact ⟨by rw [HE.out, show rightB kOut n = decide (n = 1) from rfl, decide_eq_false (by omega)]; first | rfl | (simp [hc]; done) | (simp; omega), (Below.refl _ _).alloc (Nat.le_refl _) _⟩
                          | false =>
                            have n12 : op ≠ kOut := op_no h12
                            cases h13 : (op.toList == [115, 101, 116]) with
                            | true =>
                              have e : op = nSet := op_yes h13
                              have HE := Lib.hid e
                              clear e
                              by_cases hc : (n : Int) = 1
                              · go_wp2_with fail
                                go_ret
                                exact ⟨by rw [HE.out, show rightB nSet n = decide (n = 1) from rfl, decide_eq_true (by omega)]; first | rfl | (simp [hc]; done) | (simp; omega), (Below.refl _ _).alloc (Nat.le_refl _) _⟩
                              · go_wp2_with fail
                                go_ret
                                exact ⟨by rw [HE.out, show rightB nSet n = decide (n = 1) from rfl, decide_eq_false (by omega)]; first | rfl | (simp [hc]; done) | (simp; omega), (Below.refl _ _).alloc (Nat.le_refl _) _⟩
                            | false =>
                              have n13 : op ≠ nSet := op_no h13
                              cases h14 : (op.toList == [110, 101, 103]) with
                              | true =>
                                have e : op = nNeg := op_yes h14
                                have HE := Lib.hid e
                                clear e
                                by_cases hc : (n : Int) = 1
                                · go_wp2_with fail
                                  go_ret
                                  exact ⟨by rw [HE.out, show rightB nNeg n = decide (n = 1) from rfl, decide_eq_true (by omega)]; first | rfl | (simp [hc]; done) | (simp; omega), (Below.refl _ _).alloc (Nat.le_refl _) _⟩
                                · go_wp2_with fail
                                  go_ret
                                  exact ⟨by rw [HE.out, show rightB nNeg n = decide (n = 1) from rfl, decide_eq_false (by omega)]; first | rfl | (simp [hc]; done) | (simp; omega), (Below.refl _ _).alloc (Nat.le_refl _) _⟩
                              | false =>
                                have n14 : op ≠ nNeg := op_no h14
                                cases h15 : (op.toList == [110, 111, 116]) with
                                | true =>
                                  have e : op = kNot := op_yes h15
                                  have HE := Lib.hid e
                                  clear e
                                  by_cases hc : (n : Int) = 1
                                  · go_wp2_with fail
                                    go_ret
                                    exact ⟨by rw [HE.out, show rightB kNot n = decide (n = 1) from rfl, decide_eq_true (by omega)]; first | rfl | (simp [hc]; done) | (simp; omega), (Below.refl _ _).alloc (Nat.le_refl _) _⟩
                                  · go_wp2_with fail
                                    go_ret
                                    exact ⟨by rw [HE.out, show rightB kNot n = decide (n = 1) from rfl, decide_eq_false (by omega)]; first | rfl | (simp [hc]; done) | (simp; omega), (Below.refl _ _).alloc (Nat.le_refl _) _⟩
                                | false =>
                                  have n15 : op ≠ kNot := op_no h15
                                  cases h16 : (op.toList == [102, 115, 116]) with
                                  | true =>
                                    have e : op = kFst := op_yes h16
                                    have HE := Lib.hid e
                                    clear e
                                    by_cases hc : (n : Int) = 1
                                    · go_wp2_with fail
                                      go_ret
                                      exact ⟨by rw [HE.out, show rightB kFst n = decide (n = 1) from rfl, decide_eq_true (by omega)]; first | rfl | (simp [hc]; done) | (simp; omega), (Below.refl _ _).alloc (Nat.le_refl _) _⟩
                                    · go_wp2_with fail
                                      go_ret
                                      exact ⟨by rw [HE.out, show rightB kFst n = decide (n = 1) from rfl, decide_eq_false (by omega)]; first | rfl | (simp [hc]; done) | (simp; omega), (Below.refl _ _).alloc (Nat.le_refl _) _⟩
                                  | false =>
                                    have n16 : op ≠ kFst := op_no h16
                                    cases h17 : (op.toList == [115, 110, 100]) with
                                    | true =>
                                      have e : op = kSnd := op_yes h17
                                      have HE := Lib.hid e
                                      clear e
                                      by_cases hc : (n : Int) = 1
                                      · go_wp2_with fail
                                        go_ret
                                        exact ⟨by rw [HE.out, show rightB kSnd n = decide (n = 1) from rfl, decide_eq_true (by omega)]; first | rfl | (simp [hc]; done) | (simp; omega), (Below.refl _ _).alloc (Nat.le_refl _) _⟩
                                      · go_wp2_with fail
                                        go_ret
                                        exact ⟨by rw [HE.out, show rightB kSnd n = decide (n = 1) from rfl, decide_eq_false (by omega)]; first | rfl | (simp [hc]; done) | (simp; omega), (Below.refl _ _).alloc (Nat.le_refl _) _⟩
                                    | false =>
                                      have n17 : op ≠ kSnd := op_no h17
                                      cases h18 : (op.toList == [114, 101, 108, 101, 97, 115, 101]) with
                                      | true =>
                                        have e : op = kRelease := op_yes h18
                                        have HE := Lib.hid e
                                        clear e
                                        by_cases hc : (n : Int) = 1
                                        · go_wp2_with fail
                                          go_ret
                                          exact ⟨by rw [HE.out, show rightB kRelease n = decide (n = 1) from rfl, decide_eq_true (by omega)]; first | rfl | (simp [hc]; done) | (simp; omega), (Below.refl _ _).alloc (Nat.le_refl _) _⟩
                                        · go_wp2_with fail
                                          go_ret
                                          exact ⟨by rw [HE.out, show rightB kRelease n = decide (n = 1) from rfl, decide_eq_false (by omega)]; first | rfl | (simp [hc]; done) | (simp; omega), (Below.refl _ _).alloc (Nat.le_refl _) _⟩
                                      | false =>
                                        have n18 : op ≠ kRelease := op_no h18
                                        cases h19 : (op.toList == [99, 97, 108, 108]) with
                                        | true =>
                                          have e : op = nCall := op_yes h19
                                          have HE := Lib.hid e
                                          clear e
                                          go_wp2_with fail
                                          go_ret
                                          exact ⟨by rw [HE.out]; rfl, (Below.refl _ _).alloc (Nat.le_refl _) _⟩
                                        | false =>
                                          have n19 : op ≠ nCall := op_no h19
                                          cases h20 : (op.toList == [114, 97, 105, 115, 101]) with
                                          | true =>
                                            have e : op = kRaise := op_yes h20
                                            have HE := Lib.hid e
                                            clear e
                                            by_cases hc : (n : Int) = 0
                                            · go_wp2_with fail
                                              go_ret
                                              exact ⟨by rw [HE.out, show rightB kRaise n = decide (n = 0) from rfl, decide_eq_true (by omega)]; first | rfl | (simp [hc]; done) | (simp; omega), (Below.refl _ _).alloc (Nat.le_refl _) _⟩
                                            · go_wp2_with fail
                                              go_ret
                                              exact ⟨by rw [HE.out, show rightB kRaise n = decide (n = 0) from rfl, decide_eq_false (by omega)]; first | rfl | (simp [hc]; done) | (simp; omega), (Below.refl _ _).alloc (Nat.le_refl _) _⟩
                                          | false =>
                                            have n20 : op ≠ kRaise := op_no h20
                                            cases h21 : (op.toList == [104, 111, 108, 101]) with
                                            | true =>
                                              have e : op = kHole := op_yes h21
                                              have HE := Lib.hid e
                                              clear e
                                              by_cases hc : (n : Int) = 0
                                              · go_wp2_with fail
                                                go_ret
                                                exact ⟨by rw [HE.out, show rightB kHole n = decide (n = 0) from rfl, decide_eq_true (by omega)]; first | rfl | (simp [hc]; done) | (simp; omega), (Below.refl _ _).alloc (Nat.le_refl _) _⟩
                                              · go_wp2_with fail
                                                go_ret
                                                exact ⟨by rw [HE.out, show rightB kHole n = decide (n = 0) from rfl, decide_eq_false (by omega)]; first | rfl | (simp [hc]; done) | (simp; omega), (Below.refl _ _).alloc (Nat.le_refl _) _⟩
                                            | false =>
                                              have n21 : op ≠ kHole := op_no h21
                                              cases h22 : (op.toList == [103, 101, 116]) with
                                              | true =>
                                                have e : op = nGet := op_yes h22
                                                have HE := Lib.hid e
                                                clear e
                                                by_cases hc : (n : Int) = 0
                                                · go_wp2_with fail
                                                  go_ret
                                                  exact ⟨by rw [HE.out, show rightB nGet n = decide (n = 0) from rfl, decide_eq_true (by omega)]; first | rfl | (simp [hc]; done) | (simp; omega), (Below.refl _ _).alloc (Nat.le_refl _) _⟩
                                                · go_wp2_with fail
                                                  go_ret
                                                  exact ⟨by rw [HE.out, show rightB nGet n = decide (n = 0) from rfl, decide_eq_false (by omega)]; first | rfl | (simp [hc]; done) | (simp; omega), (Below.refl _ _).alloc (Nat.le_refl _) _⟩
                                              | false =>
                                                have n22 : op ≠ nGet := op_no h22
                                                cases h23 : (op.toList == [117, 110, 105, 116]) with
                                                | true =>
                                                  have e : op = nUnit := op_yes h23
                                                  have HE := Lib.hid e
                                                  clear e
                                                  by_cases hc : (n : Int) = 0
                                                  · go_wp2_with fail
                                                    go_ret
                                                    exact ⟨by rw [HE.out, show rightB nUnit n = decide (n = 0) from rfl, decide_eq_true (by omega)]; first | rfl | (simp [hc]; done) | (simp; omega), (Below.refl _ _).alloc (Nat.le_refl _) _⟩
                                                  · go_wp2_with fail
                                                    go_ret
                                                    exact ⟨by rw [HE.out, show rightB nUnit n = decide (n = 0) from rfl, decide_eq_false (by omega)]; first | rfl | (simp [hc]; done) | (simp; omega), (Below.refl _ _).alloc (Nat.le_refl _) _⟩
                                                | false =>
                                                  have n23 : op ≠ nUnit := op_no h23
                                                  cases h24 : (op.toList == [105, 110, 116]) with
                                                  | true =>
                                                    have e : op = nInt := op_yes h24
                                                    have HE := Lib.hid e
                                                    clear e
                                                    by_cases hc : (n : Int) = 0
                                                    · go_wp2_with fail
                                                      go_ret
                                                      exact ⟨by rw [HE.out, show rightB nInt n = decide (n = 0) from rfl, decide_eq_true (by omega)]; first | rfl | (simp [hc]; done) | (simp; omega), (Below.refl _ _).alloc (Nat.le_refl _) _⟩
                                                    · go_wp2_with fail
                                                      go_ret
                                                      exact ⟨by rw [HE.out, show rightB nInt n = decide (n = 0) from rfl, decide_eq_false (by omega)]; first | rfl | (simp [hc]; done) | (simp; omega), (Below.refl _ _).alloc (Nat.le_refl _) _⟩
                                                  | false =>
                                                    have n24 : op ≠ nInt := op_no h24
                                                    cases h25 : (op.toList == [118, 97, 114]) with
                                                    | true =>
                                                      have e : op = nVar := op_yes h25
                                                      have HE := Lib.hid e
                                                      clear e
                                                      by_cases hc : (n : Int) = 0
                                                      · go_wp2_with fail
                                                        go_ret
                                                        exact ⟨by rw [HE.out, show rightB nVar n = decide (n = 0) from rfl, decide_eq_true (by omega)]; first | rfl | (simp [hc]; done) | (simp; omega), (Below.refl _ _).alloc (Nat.le_refl _) _⟩
                                                      · go_wp2_with fail
                                                        go_ret
                                                        exact ⟨by rw [HE.out, show rightB nVar n = decide (n = 0) from rfl, decide_eq_false (by omega)]; first | rfl | (simp [hc]; done) | (simp; omega), (Below.refl _ _).alloc (Nat.le_refl _) _⟩
                                                    | false =>
                                                      have n25 : op ≠ nVar := op_no h25
                                                      cases h26 : (op.toList == [116, 114, 117, 101]) with
                                                      | true =>
                                                        have e : op = kTrue := op_yes h26
                                                        have HE := Lib.hid e
                                                        clear e
                                                        by_cases hc : (n : Int) = 0
                                                        · go_wp2_with fail
                                                          go_ret
                                                          exact ⟨by rw [HE.out, show rightB kTrue n = decide (n = 0) from rfl, decide_eq_true (by omega)]; first | rfl | (simp [hc]; done) | (simp; omega), (Below.refl _ _).alloc (Nat.le_refl _) _⟩
                                                        · go_wp2_with fail
                                                          go_ret
                                                          exact ⟨by rw [HE.out, show rightB kTrue n = decide (n = 0) from rfl, decide_eq_false (by omega)]; first | rfl | (simp [hc]; done) | (simp; omega), (Below.refl _ _).alloc (Nat.le_refl _) _⟩
                                                      | false =>
                                                        have n26 : op ≠ kTrue := op_no h26
                                                        cases h27 : (op.toList == [102, 97, 108, 115, 101]) with
                                                        | true =>
                                                          have e : op = kFalse := op_yes h27
                                                          have HE := Lib.hid e
                                                          clear e
                                                          by_cases hc : (n : Int) = 0
                                                          · go_wp2_with fail
                                                            go_ret
                                                            exact ⟨by rw [HE.out, show rightB kFalse n = decide (n = 0) from rfl, decide_eq_true (by omega)]; first | rfl | (simp [hc]; done) | (simp; omega), (Below.refl _ _).alloc (Nat.le_refl _) _⟩
                                                          · go_wp2_with fail
                                                            go_ret
                                                            exact ⟨by rw [HE.out, show rightB kFalse n = decide (n = 0) from rfl, decide_eq_false (by omega)]; first | rfl | (simp [hc]; done) | (simp; omega), (Below.refl _ _).alloc (Nat.le_refl _) _⟩
                                                        | false =>
                                                          have n27 : op ≠ kFalse := op_no h27
                                                          have HV := Lib.hid (show rightB op n = false by simp [rightB, n0, n1, n2, n3, n4, n5, n6, n7, n8, n9, n10, n11, n12, n13, n14, n15, n16, n17, n18, n19, n20, n21, n22, n23, n24, n25, n26, n27])
                                                          clear n0
                                                          clear n1
                                                          clear n2
                                                          clear n3
                                                          clear n4
                                                          clear n5
                                                          clear n6
                                                          clear n7
                                                          clear n8
                                                          clear n9
                                                          clear n10
                                                          clear n11
                                                          clear n12
                                                          clear n13
                                                          clear n14
                                                          clear n15
                                                          clear n16
                                                          clear n17
                                                          clear n18
                                                          clear n19
                                                          clear n20
                                                          clear n21
                                                          clear n22
                                                          clear n23
                                                          clear n24
                                                          clear n25
                                                          clear n26
                                                          clear n27
                                                          have hc : ¬ (n : Int) = -1 := by omega
                                                          go_wp2_with fail
                                                          go_ret
                                                          exact ⟨by rw [HV.out]; first | rfl | (simp [hc]; done) | (simp; omega), (Below.refl _ _).alloc (Nat.le_refl _) _⟩
end Go.Proofs.YtmeacgmjpjjphaaGreatDoor
namespace Go.Proofs.YtmeacgmjpjjphaaGreatDoor
open Go.RowKit Go.Shelf
open Tr (Nd TreeAt Own Ints Fine ndV)
open Tr.TreP (WF fits places nd inT)

/-- The table of powers that strconv reads. -/
def TabOk (w : World) : Prop := Lib.TabIs Tryz.prog w "internal/strconv.uint64pow10" .u64 Lib.pow10Tab
theorem TabOk.under {w w' : World} (h : TabOk w) (hb : Below w.heap.size w w') : TabOk w' := Lib.tabBelow_of_tabIs h w' hb
theorem figsB_size {n : Int} (h0 : -9223372036854775808 ≤ n) (h1 : n ≤ 9223372036854775807) : (figsB n).size ≤ 21 := by
  show (Lib.itoa n).toArray.size ≤ 21
  rw [List.size_toArray]
  exact Lib.itoa_length_le n h0 h1
theorem Format_in (n : Int) (w : World) (h0 : -9223372036854775808 ≤ n) (h1 : n ≤ 9223372036854775807) (ht : TabOk w) : Calls Tryz.prog 110 #[.int .i64 n, .int .i64 10] w fun e w' => e = .returned (.string (figsB n)) ∧ Below w.heap.size w w' := by
  refine (Tryz.strconv_FormatInt_10 n h0 h1 w ht).mono ?_
  rintro e w' ⟨rfl, k, os, rfl⟩
  exact ⟨rfl, Lib.below_grow _ w (Nat.le_refl _) k os⟩
set_option maxRecDepth 100000 in
set_option maxHeartbeats 4000000 in
theorem leaf_in (op name : ByteArray) (line col num : Int) (A : Option Addr) (n cap : Nat) (ks : List Tm) (w : World) (ho : op.size ≤ 2097152) (hn : name.size ≤ 2097152) (h0 : -9223372036854775808 ≤ num) (h1 : num ≤ 9223372036854775807) (ht : TabOk w) :
    Calls Tryz.prog 86 #[.agg #[.string op, .int .i64 line, .int .i64 col, .string name, .int .i64 num, .slice A n cap]] w fun e w' => e = .returned (.string (leafB (.mk op name num ks))) ∧ Below w.heap.size w w' := by
  have hb := (Below.refl w.heap.size w).alloc (Nat.le_refl _) (.cells #[.string op, .int .i64 line, .int .i64 col, .string name, .int .i64 num, .slice A n cap] 53)
  have HC := Lib.hid (Format_in num _ h0 h1 (ht.under hb))
  have HB := Lib.hid hb
  clear hb ht
  have z1 : (⟨#[32]⟩ : ByteArray).size = 1 := rfl
  have z2 : (⟨#[33]⟩ : ByteArray).size = 1 := rfl
  go_enter Tryz.func86, Tryz.ntmps86
  cases h0 : (op.toList == [114, 97, 105, 115, 101]) with
  | true =>
    have e : op = kRaise := op_yes h0
    have HE := Lib.hid e
    clear e
    go_wp2_with fail
    go_ret
    exact ⟨by rw [HE.out]; rfl, HB.out⟩
  | false =>
    have n0 : op ≠ kRaise := op_no h0
    cases h1 : (op.toList == [104, 111, 108, 101]) with
    | true =>
      have e : op = kHole := op_yes h1
      have HE := Lib.hid e
      clear e
      go_wp2_with fail
      go_ret
      exact ⟨by rw [HE.out]; rfl, HB.out⟩
    | false =>
      have n1 : op ≠ kHole := op_no h1
      cases h2 : (op.toList == [103, 101, 116]) with
      | true =>
        have e : op = nGet := op_yes h2
        have HE := Lib.hid e
        clear e
        go_wp2_with fail
        go_ret
        exact ⟨by rw [HE.out]; rfl, HB.out⟩
      | false =>
        have n2 : op ≠ nGet := op_no h2
        cases h3 : (op.toList == [117, 110, 105, 116]) with
        | true =>
          have e : op = nUnit := op_yes h3
          have HE := Lib.hid e
          clear e
          go_wp2_with fail
          go_ret
          exact ⟨by rw [HE.out]; rfl, HB.out⟩
        | false =>
          have n3 : op ≠ nUnit := op_no h3
          cases h4 : (op.toList == [105, 110, 116]) with
          | true =>
            have e : op = nInt := op_yes h4
            have HE := Lib.hid e
            clear e
            go_wp2_with fail
            refine HC.out.mono ?_
            rintro e w1 ⟨rfl, hb1⟩
            have HB1 := Lib.hid (HB.out.trans (hb1.mono HB.out.size))
            clear hb1
            go_wp2_with fail
            go_ret
            exact ⟨by rw [HE.out]; rfl, HB1.out⟩
          | false =>
            have n4 : op ≠ nInt := op_no h4
            cases h5 : (op.toList == [118, 97, 114]) with
            | true =>
              have e : op = nVar := op_yes h5
              have HE := Lib.hid e
              clear e
              go_wp2_with fail
              go_ret
              exact ⟨by rw [HE.out]; rfl, HB.out⟩
            | false =>
              have n5 : op ≠ nVar := op_no h5
              have HV := Lib.hid (show leafB (.mk op name num ks) = op by simp [leafB, Tm.op, Tm.name, Tm.num, n0, n1, n2, n3, n4, n5])
              clear n0
              clear n1
              clear n2
              clear n3
              clear n4
              clear n5
              go_wp2_with fail
              go_ret
              exact ⟨by rw [HV.out]; rfl, HB.out⟩
end Go.Proofs.YtmeacgmjpjjphaaGreatDoor
namespace Go.Proofs.YtmeacgmjpjjphaaGreatDoor
open Go.RowKit Go.Shelf
open Tr (Nd TreeAt Own Ints Fine ndV)
open Tr.TreP (WF fits places nd inT)

/-- A tree whose texts can be told. -/
structure Shown (ms : List (Nd × Value)) : Prop where
  fine : Fine ms
  op : ∀ p ∈ ms, p.1.op.size ≤ 2097152
  name : ∀ p ∈ ms, p.1.name.size ≤ 2097152
  lo : ∀ p ∈ ms, -9223372036854775808 ≤ p.1.num
  hi : ∀ p ∈ ms, p.1.num ≤ 9223372036854775807
theorem tm_at {ms : List (Nd × Value)} (h : Fine ms) {k : Nat} (hk : k < ms.length) : tm (ms.map (·.1)) k = .mk ms[k].1.op ms[k].1.name ms[k].1.num (ms[k].1.kids.map (tm (ms.map (·.1)))) := by
  rw [tm_eq h.wf (by rw [Tr.TreP.inT_iff]; simp; omega), Tr.nd_map hk]
theorem rightL_all : ∀ (l : List Tm), rightL l = l.all rightT
  | [] => by simp [rightL]
  | x :: r => by simp [rightL, rightL_all r]
theorem openL_last : ∀ (l : List Tm), openL l = match l.getLast? with
    | none => false
    | some x => openT x
  | [] => by simp [openL]
  | [x] => by simp [openL]
  | x :: y :: r => by
    have := openL_last (y :: r)
    simp only [openL] at this ⊢
    rw [this]
    simp
/-- A part of a node. -/
theorem kid_of {ms : List (Nd × Value)} (h : Fine ms) {k j : Nat} (hk : k < ms.length) (hj : j < ms[k].1.kids.length) : ∃ (q : Nat) (hq : q < ms.length), q < k ∧ ms[k].1.kids.getD j 0 = q ∧ (ms[k].1.kids.map (tm (ms.map (·.1)))).getD j Tm.none = tm (ms.map (·.1)) q := by
  have h1 := h.kid_lt hk hj
  refine ⟨(ms[k].1.kids.getD j 0).toNat, by omega, by omega, by omega, ?_⟩
  have e : ((ms[k].1.kids.getD j 0).toNat : Int) = ms[k].1.kids.getD j 0 := by omega
  rw [e]
  simp [List.getD, hj]
theorem right_kid {ms : List (Nd × Value)} (h : Fine ms) {k j : Nat} (hk : k < ms.length) (hr : rightT (tm (ms.map (·.1)) k) = true) (hj : j < ms[k].1.kids.length) : rightT (tm (ms.map (·.1)) (ms[k].1.kids.getD j 0)) = true := by
  rw [tm_at h hk] at hr
  simp only [rightT, Bool.and_eq_true, rightL_all] at hr
  refine List.all_eq_true.1 hr.2 _ (List.mem_map.2 ⟨ms[k].1.kids.getD j 0, ?_, rfl⟩)
  simp [List.getD, hj]
theorem right_at {ms : List (Nd × Value)} (h : Fine ms) {k : Nat} (hk : k < ms.length) (hr : rightT (tm (ms.map (·.1)) k) = true) : rightB ms[k].1.op ms[k].1.kids.length = true := by
  rw [tm_at h hk] at hr
  simp only [rightT, Bool.and_eq_true, List.length_map] at hr
  exact hr.1
end Go.Proofs.YtmeacgmjpjjphaaGreatDoor
namespace Go.Proofs.YtmeacgmjpjjphaaGreatDoor
open Go.RowKit Go.Shelf
open Tr (Nd TreeAt Own Ints Fine ndV)
open Tr.TreP (WF fits places nd inT)

theorem cell1 {w : World} {b : Nat} {x : Value} {t : TypeId} (h : w.heap[b]? = some (.cells #[x] t)) : w.cell? ⟨b, 0, none⟩ = some x := Tr.cellOf1 h
/-- A row of parts that lies somewhere, not empty. -/
theorem ints_at {w : World} {s : Value} {l : List Int} (h : Ints w s l) (hl : 0 < l.length) : ∃ (b off c : Nat), s = .slice (some ⟨b, off, none⟩) l.length c ∧ ∀ i, i < l.length → w.cell? ⟨b, off + i, none⟩ = some (.int .i64 (l.getD i 0)) := by
  rcases h with ⟨_, h0⟩ | ⟨b, off, c, h1, h2⟩
  · rw [h0] at hl
    simp at hl
  · exact ⟨b, off, c, h1, h2⟩
set_option maxRecDepth 100000 in
set_option maxHeartbeats 8000000 in
theorem open_in {B t : Nat} {v : Value} {ms : List (Nd × Value)} (hS : Shown ms) : ∀ (f k : Nat) (hk : k < ms.length), k < f → rightT (tm (ms.map (·.1)) k) = true → ∀ W, TreeAt W B t v ms →
    Calls Tryz.prog 108 #[.agg #[.pointer (some ⟨t, 0, none⟩)], .int .i64 k] W fun e W' => e = .returned (.bool (openT (tm (ms.map (·.1)) k))) ∧ Below W.heap.size W W' := by
  intro f
  induction f with
  | zero => intro k hk hf; omega
  | succ f ih =>
  intro k hk hf hr W hT
  have hT1 := hT.below ((Below.refl W.heap.size W).alloc (Nat.le_refl _) (.cells #[.agg #[.pointer (some ⟨t, 0, none⟩)]] 83))
  have HK := Lib.hid (Tr.last W (.cells #[.pointer (some ⟨t, 0, none⟩)] 83))
  have HT1 := Lib.hid (hT.below ((Below.refl W.heap.size W).alloc (Nat.le_refl _) (.cells #[.pointer (some ⟨t, 0, none⟩)] 83)))
  have HB1 := Lib.hid ((Below.refl W.heap.size W).alloc (Nat.le_refl _) (.cells #[.pointer (some ⟨t, 0, none⟩)] 83))
  have HG := Lib.hid (Tr.Get_hit HT1.out hk (by have := hS.fine.kid _ (List.getElem_mem hk); omega) (by have := hS.fine.len; omega))
  have hO : ∀ j, j < ms[k].1.kids.length → ∀ W, TreeAt W B t v ms → Calls Tryz.prog 108 #[.agg #[.pointer (some ⟨t, 0, none⟩)], .int .i64 (ms[k].1.kids.getD j 0)] W fun e W' => e = .returned (.bool (openT ((ms[k].1.kids.map (tm (ms.map (·.1)))).getD j Tm.none))) ∧ Below W.heap.size W W' := by
    intro j hj W hW
    obtain ⟨q, hq, hlt, e1, e2⟩ := kid_of hS.fine hk hj
    have hrk := right_kid hS.fine hk hr hj
    rw [e2]
    rw [e1] at hrk ⊢
    exact ih q hq (by omega) hrk W hW
  have HO := Lib.hid hO
  have HR := Lib.hid (right_at hS.fine hk hr)
  have hkl := hS.fine.kid _ (List.getElem_mem hk)
  rw [tm_at hS.fine hk]
  clear hO ih hr hT hT1 hS hf
  generalize ms[k].1 = x at *
  obtain ⟨op, line, col, name, num, kids⟩ := x
  unfold ndV at HG
  simp only at HG HO HR hkl ⊢
  generalize hTS : kids.map (tm (ms.map (·.1))) = ts at *
  have HL := Lib.hid (show ts.length = kids.length by rw [← hTS]; simp)
  clear hTS
  go_enter Tryz.func108, Tryz.ntmps108
  go_wp2_with fail
  refine HG.out.mono ?_
  rintro e w2 ⟨s, rfl, hs, hb2⟩
  have HI := Lib.hid hs.ints
  obtain ⟨As, cs, rfl⟩ := hs.form
  have hkb := (hb2.block _ (Tr.heap_lt HK.out)).trans HK.out
  have HT2 := Lib.hid ((HT1.out.below hb2).below ((Below.refl w2.heap.size w2).alloc (Nat.le_refl _) (.cells #[.string op, .int .i64 line, .int .i64 col, .string name, .int .i64 num, .slice As kids.length cs] 53)))
  have HI2 := Lib.hid (HI.out.below ((Below.refl w2.heap.size w2).alloc (Nat.le_refl _) (.cells #[.string op, .int .i64 line, .int .i64 col, .string name, .int .i64 num, .slice As kids.length cs] 53)))
  have hb3 := (HB1.out.trans (hb2.mono HB1.out.size)).alloc (by have := HB1.out.size; have := hb2.size; omega) (.cells #[.string op, .int .i64 line, .int .i64 col, .string name, .int .i64 num, .slice As kids.length cs] 53)
  have hkb3 : (w2.alloc (.cells #[.string op, .int .i64 line, .int .i64 col, .string name, .int .i64 num, .slice As kids.length cs] 53)).heap[W.heap.size]? = some (.cells #[.pointer (some ⟨t, 0, none⟩)] 83) := (Below.heap_alloc _ _ _ (Tr.heap_lt hkb)).trans hkb
  have hnd := Tr.last w2 (.cells #[.string op, .int .i64 line, .int .i64 col, .string name, .int .i64 num, .slice As kids.length cs] 53)
  have HKB := Lib.hid hkb3
  have HND := Lib.hid hnd
  have HB3 := Lib.hid hb3
  clear hs hb2 hkb hb3 hkb3 hnd
  go_upto_region 2 with fail
  generalize w2.alloc (.cells #[.string op, .int .i64 line, .int .i64 col, .string name, .int .i64 num, .slice As kids.length cs] 53) = w3 at *
  generalize w2.heap.size = nb at *
  obtain ⟨c0, c1, c2, c3, c4, c5⟩ := Tr.cellsOf6 HND.out
  have c6 := cell1 HKB.out
  cases h0 : (op.toList == [108, 101, 116]) with
  | true =>
    have HE := Lib.hid (show op = kLet from op_yes h0)
    go_wp2_with fail
    go_ret
    exact ⟨by rw [HE.out]; simp [openT], HB3.out⟩
  | false =>
    have n0 : op ≠ kLet := op_no h0
    have N0 := Lib.hid n0
    clear n0
    cases h1 : (op.toList == [105, 102]) with
    | true =>
      have e : op = kIf := op_yes h1
      have hn : kids.length = 3 := by
        have := HR.out
        rw [e] at this
        simpa using (of_decide_eq_true this)
      obtain ⟨b, off, c, hsl, hcs⟩ := ints_at HI2.out (by omega)
      cases hsl
      have hk2 := hcs 2 (by omega)
      rw [hn] at c5 hkl
      have hO := HO.out 2 (by omega)
      have HE := Lib.hid e
      clear e hcs
      generalize kids.getD 2 0 = kd at *
      have HOP := Lib.hid (show openT (.mk op name num ts) = openT (ts.getD 2 Tm.none) by
        rw [HE.out]
        have hts : ts.length = 3 := by rw [HL.out, hn]
        match ts, hts with
        | [a, b, c], _ => simp [openT, openL, show ¬ (kIf = kLet) by decide])
      have HOO := Lib.hid hO
      clear hO
      have HCL := Lib.hid (show ∀ W', Below w3.heap.size w3 W' → W'.cell? ⟨W.heap.size, 0, none⟩ = some (.pointer (some ⟨t, 0, none⟩)) ∧ W'.cell? ⟨nb, 5, none⟩ = some (.slice (some ⟨b, off, none⟩) 3 cs) ∧ W'.cell? ⟨b, off + 2, none⟩ = some (.int .i64 kd) from fun W' hb => ⟨(hb.cell (p := ⟨W.heap.size, 0, none⟩) (Tr.cell_lt c6)).trans c6, (hb.cell (p := ⟨nb, 5, none⟩) (Tr.cell_lt c5)).trans c5, (hb.cell (p := ⟨b, off + 2, none⟩) (Tr.cell_lt hk2)).trans hk2⟩)
      generalize openT (ts.getD 2 Tm.none) = ob at *
      go_wp2_with fail
      have hbw3 : Below w3.heap.size w3 w3.drew := (Below.refl _ w3).drew
      clear c0 c1 c2 c3 c4 c5 c6 hk2
      obtain ⟨c6, c5, hk2⟩ := HCL.out _ hbw3
      have hw1 : IntKind.i64.wrap ((3 : Int) - 1) = 2 := by decide
      have hw2 : IntKind.i64.wrap (((3 : Nat) : Int) - 1) = 2 := by decide
      have hw3 : IntKind.i64.wrap 2 = 2 := by decide
      have hw6 : (2 : Int) < ((3 : Nat) : Int) := by decide
      have hw7 : (2 : Int) < (3 : Int) := by decide
      have hw8 : (0 : Int) ≤ 2 := by decide
      go_region_held3 (fun W' => W'.cell? ⟨W.heap.size, 0, none⟩ = some (.pointer (some ⟨t, 0, none⟩)) ∧ W'.cell? ⟨nb, 5, none⟩ = some (.slice (some ⟨b, off, none⟩) 3 cs) ∧ W'.cell? ⟨b, off + 2, none⟩ = some (.int .i64 kd)) (first | exact HCL.out _ (by with_reducible assumption))
        (first | (go_at_call 108; refine (HOO.out _ (HT2.out.below hbw3)).mono ?_; rintro e w4 ⟨rfl, hbn⟩; have hb4 := chain (by with_reducible assumption) hbn; clear hbn; obtain ⟨c6, c5, hk2⟩ := HCL.out _ hb4))
      all_goals
        have hfin := HB3.out.trans (hb4.mono HB3.out.size)
        go_wp2_with fail
        go_ret
        exact ⟨by rw [HOP.out]; rfl, hfin⟩
    | false =>
      have N1 := Lib.hid (show op ≠ kIf from op_no h1)
      cases h2 : (op.toList == [116, 114, 121]) with
      | true =>
        have e : op = kTry := op_yes h2
        have hn : kids.length = 2 := by
          have := HR.out
          rw [e] at this
          simpa using (of_decide_eq_true this)
        obtain ⟨b, off, c, hsl, hcs⟩ := ints_at HI2.out (by omega)
        cases hsl
        have hk2 := hcs 1 (by omega)
        rw [hn] at c5 hkl
        have hO := HO.out 1 (by omega)
        have HE := Lib.hid e
        clear e hcs
        generalize kids.getD 1 0 = kd at *
        have HOP := Lib.hid (show openT (.mk op name num ts) = openT (ts.getD 1 Tm.none) by
          rw [HE.out]
          have hts : ts.length = 2 := by rw [HL.out, hn]
          match ts, hts with
          | [a, b], _ => simp [openT, openL, show ¬ (kTry = kLet) by decide, show ¬ (kTry = kIf) by decide])
        have HOO := Lib.hid hO
        clear hO
        have HCL := Lib.hid (show ∀ W', Below w3.heap.size w3 W' → W'.cell? ⟨W.heap.size, 0, none⟩ = some (.pointer (some ⟨t, 0, none⟩)) ∧ W'.cell? ⟨nb, 5, none⟩ = some (.slice (some ⟨b, off, none⟩) 2 cs) ∧ W'.cell? ⟨b, off + 1, none⟩ = some (.int .i64 kd) from fun W' hb => ⟨(hb.cell (p := ⟨W.heap.size, 0, none⟩) (Tr.cell_lt c6)).trans c6, (hb.cell (p := ⟨nb, 5, none⟩) (Tr.cell_lt c5)).trans c5, (hb.cell (p := ⟨b, off + 1, none⟩) (Tr.cell_lt hk2)).trans hk2⟩)
        generalize openT (ts.getD 1 Tm.none) = ob at *
        go_wp2_with fail
        have hbw3 : Below w3.heap.size w3 w3.drew := (Below.refl _ w3).drew
        clear c0 c1 c2 c3 c4 c5 c6 hk2
        obtain ⟨c6, c5, hk2⟩ := HCL.out _ hbw3
        have hw1 : IntKind.i64.wrap ((2 : Int) - 1) = 1 := by decide
        have hw2 : IntKind.i64.wrap (((2 : Nat) : Int) - 1) = 1 := by decide
        have hw3 : IntKind.i64.wrap 1 = 1 := by decide
        have hw6 : (1 : Int) < ((2 : Nat) : Int) := by decide
        have hw7 : (1 : Int) < (2 : Int) := by decide
        have hw8 : (0 : Int) ≤ 1 := by decide
        go_region_held3 (fun W' => W'.cell? ⟨W.heap.size, 0, none⟩ = some (.pointer (some ⟨t, 0, none⟩)) ∧ W'.cell? ⟨nb, 5, none⟩ = some (.slice (some ⟨b, off, none⟩) 2 cs) ∧ W'.cell? ⟨b, off + 1, none⟩ = some (.int .i64 kd)) (first | exact HCL.out _ (by with_reducible assumption))
          (first | (go_at_call 108; refine (HOO.out _ (HT2.out.below hbw3)).mono ?_; rintro e w4 ⟨rfl, hbn⟩; have hb4 := chain (by with_reducible assumption) hbn; clear hbn; obtain ⟨c6, c5, hk2⟩ := HCL.out _ hb4))
        all_goals
          have hfin := HB3.out.trans (hb4.mono HB3.out.size)
          go_wp2_with fail
          go_ret
          exact ⟨by rw [HOP.out]; rfl, hfin⟩
      | false =>
        have N2 := Lib.hid (show op ≠ kTry from op_no h2)
        go_wp2_with fail
        go_ret
        exact ⟨by simp [openT, N0.out, N1.out, N2.out], HB3.out⟩
end Go.Proofs.YtmeacgmjpjjphaaGreatDoor
