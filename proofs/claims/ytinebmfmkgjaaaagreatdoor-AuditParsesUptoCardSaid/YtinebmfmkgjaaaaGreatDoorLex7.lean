/- The reference's Own. -/
import Derived.Test.YtinebmfmkgjaaaaGreatDoorLex6
set_option linter.unusedVariables false
set_option linter.unusedSimpArgs false
namespace Go.Proofs.YtinebmfmkgjaaaaGreatDoor
open Go.RowKit

theorem bs_toList (l : List UInt8) : (bs l).toList = l := by rw [ByteArray.toList_eq]; rfl
theorem bs_no {l : List UInt8} (h : ((bs l).toList == l) = false) : False := by
  rw [bs_toList] at h
  simp at h
theorem own_yes {s : ByteArray} {l : List UInt8} (h : (s.toList == l) = true) (hm : bs l ∈ owns) : ownB s = true := by
  unfold ownB
  rw [Lib.containsS_iff]
  rw [show s = bs l from Lib.bytes_beq_iff _ _ |>.1 (by rw [bs_toList]; exact h)]
  exact hm
theorem own_no {s : ByteArray} (h0 : (s.toList == [108, 101, 116]) = false) (h1 : (s.toList == [105, 110]) = false) (h2 : (s.toList == [105, 102]) = false) (h3 : (s.toList == [116, 104, 101, 110]) = false) (h4 : (s.toList == [101, 108, 115, 101]) = false) (h5 : (s.toList == [116, 114, 121]) = false) (h6 : (s.toList == [119, 105, 116, 104]) = false) (h7 : (s.toList == [111, 117, 116]) = false) (h8 : (s.toList == [114, 97, 105, 115, 101]) = false) (h9 : (s.toList == [116, 114, 117, 101]) = false) (h10 : (s.toList == [102, 97, 108, 115, 101]) = false) (h11 : (s.toList == [110, 111, 116]) = false) (h12 : (s.toList == [97, 110, 100]) = false) (h13 : (s.toList == [111, 114]) = false) (h14 : (s.toList == [102, 115, 116]) = false) (h15 : (s.toList == [115, 110, 100]) = false) (h16 : (s.toList == [114, 101, 108, 101, 97, 115, 101]) = false) (h17 : (s.toList == [104, 111, 108, 101]) = false) (h18 : (s.toList == [105, 110, 112, 117, 116]) = false) (h19 : (s.toList == [103, 108, 111, 98, 97, 108]) = false) (h20 : (s.toList == [99, 104, 97, 110, 110, 101, 108]) = false) (h21 : (s.toList == [101, 120, 99, 101, 112, 116, 105, 111, 110]) = false) (h22 : (s.toList == [102, 117, 110]) = false) (h23 : (s.toList == [109, 97, 105, 110]) = false) (h24 : (s.toList == [99, 111, 110, 102]) = false) (h25 : (s.toList == [105, 110, 116, 101, 103]) = false) (h26 : (s.toList == [111, 114, 100, 101, 114]) = false) (h27 : (s.toList == [97, 116, 116, 97, 99, 107, 101, 114]) = false) (h28 : (s.toList == [104, 97, 116, 99, 104]) = false) (h29 : (s.toList == [116, 111]) = false) : ownB s = false := by
  cases hb : ownB s with
  | false => rfl
  | true =>
    unfold ownB at hb
    rw [Lib.containsS_iff] at hb
    simp only [owns, List.mem_cons, List.not_mem_nil, or_false] at hb
    exfalso
    rcases hb with rfl | rfl | rfl | rfl | rfl | rfl | rfl | rfl | rfl | rfl | rfl | rfl | rfl | rfl | rfl | rfl | rfl | rfl | rfl | rfl | rfl | rfl | rfl | rfl | rfl | rfl | rfl | rfl | rfl | rfl
    · exact bs_no h0
    · exact bs_no h1
    · exact bs_no h2
    · exact bs_no h3
    · exact bs_no h4
    · exact bs_no h5
    · exact bs_no h6
    · exact bs_no h7
    · exact bs_no h8
    · exact bs_no h9
    · exact bs_no h10
    · exact bs_no h11
    · exact bs_no h12
    · exact bs_no h13
    · exact bs_no h14
    · exact bs_no h15
    · exact bs_no h16
    · exact bs_no h17
    · exact bs_no h18
    · exact bs_no h19
    · exact bs_no h20
    · exact bs_no h21
    · exact bs_no h22
    · exact bs_no h23
    · exact bs_no h24
    · exact bs_no h25
    · exact bs_no h26
    · exact bs_no h27
    · exact bs_no h28
    · exact bs_no h29
set_option maxRecDepth 100000 in
set_option maxHeartbeats 4000000 in
theorem refOwn_in (s : ByteArray) (w : World) : Calls Tryz.prog 53 #[.string s] w fun e w' => e = .returned (.bool (ownB s)) ∧ w = w' := by
  go_enter Tryz.func53, Tryz.ntmps53
  cases h0 : (s.toList == [108, 101, 116]) with
  | true =>
    rw [own_yes h0 (by simp [owns])]
    go_wp2_with fail
    go_ret
    exact ⟨rfl, rfl⟩
  | false =>
    cases h1 : (s.toList == [105, 110]) with
    | true =>
      rw [own_yes h1 (by simp [owns])]
      go_wp2_with fail
      go_ret
      exact ⟨rfl, rfl⟩
    | false =>
      cases h2 : (s.toList == [105, 102]) with
      | true =>
        rw [own_yes h2 (by simp [owns])]
        go_wp2_with fail
        go_ret
        exact ⟨rfl, rfl⟩
      | false =>
        cases h3 : (s.toList == [116, 104, 101, 110]) with
        | true =>
          rw [own_yes h3 (by simp [owns])]
          go_wp2_with fail
          go_ret
          exact ⟨rfl, rfl⟩
        | false =>
          cases h4 : (s.toList == [101, 108, 115, 101]) with
          | true =>
            rw [own_yes h4 (by simp [owns])]
            go_wp2_with fail
            go_ret
            exact ⟨rfl, rfl⟩
          | false =>
            cases h5 : (s.toList == [116, 114, 121]) with
            | true =>
              rw [own_yes h5 (by simp [owns])]
              go_wp2_with fail
              go_ret
              exact ⟨rfl, rfl⟩
            | false =>
              cases h6 : (s.toList == [119, 105, 116, 104]) with
              | true =>
                rw [own_yes h6 (by simp [owns])]
                go_wp2_with fail
                go_ret
                exact ⟨rfl, rfl⟩
              | false =>
                cases h7 : (s.toList == [111, 117, 116]) with
                | true =>
                  rw [own_yes h7 (by simp [owns])]
                  go_wp2_with fail
                  go_ret
                  exact ⟨rfl, rfl⟩
                | false =>
                  cases h8 : (s.toList == [114, 97, 105, 115, 101]) with
                  | true =>
                    rw [own_yes h8 (by simp [owns])]
                    go_wp2_with fail
                    go_ret
                    exact ⟨rfl, rfl⟩
                  | false =>
                    cases h9 : (s.toList == [116, 114, 117, 101]) with
                    | true =>
                      rw [own_yes h9 (by simp [owns])]
                      go_wp2_with fail
                      go_ret
                      exact ⟨rfl, rfl⟩
                    | false =>
                      cases h10 : (s.toList == [102, 97, 108, 115, 101]) with
                      | true =>
                        rw [own_yes h10 (by simp [owns])]
                        go_wp2_with fail
                        go_ret
                        exact ⟨rfl, rfl⟩
                      | false =>
                        cases h11 : (s.toList == [110, 111, 116]) with
                        | true =>
                          rw [own_yes h11 (by simp [owns])]
                          go_wp2_with fail
                          go_ret
                          exact ⟨rfl, rfl⟩
                        | false =>
                          cases h12 : (s.toList == [97, 110, 100]) with
                          | true =>
                            rw [own_yes h12 (by simp [owns])]
                            go_wp2_with fail
                            go_ret
                            exact ⟨rfl, rfl⟩
                          | false =>
                            cases h13 : (s.toList == [111, 114]) with
                            | true =>
                              rw [own_yes h13 (by simp [owns])]
                              go_wp2_with fail
                              go_ret
                              exact ⟨rfl, rfl⟩
                            | false =>
                              cases h14 : (s.toList == [102, 115, 116]) with
                              | true =>
                                rw [own_yes h14 (by simp [owns])]
                                go_wp2_with fail
                                go_ret
                                exact ⟨rfl, rfl⟩
                              | false =>
                                cases h15 : (s.toList == [115, 110, 100]) with
                                | true =>
                                  rw [own_yes h15 (by simp [owns])]
                                  go_wp2_with fail
                                  go_ret
                                  exact ⟨rfl, rfl⟩
                                | false =>
                                  cases h16 : (s.toList == [114, 101, 108, 101, 97, 115, 101]) with
                                  | true =>
                                    rw [own_yes h16 (by simp [owns])]
                                    go_wp2_with fail
                                    go_ret
                                    exact ⟨rfl, rfl⟩
                                  | false =>
                                    cases h17 : (s.toList == [104, 111, 108, 101]) with
                                    | true =>
                                      rw [own_yes h17 (by simp [owns])]
                                      go_wp2_with fail
                                      go_ret
                                      exact ⟨rfl, rfl⟩
                                    | false =>
                                      cases h18 : (s.toList == [105, 110, 112, 117, 116]) with
                                      | true =>
                                        rw [own_yes h18 (by simp [owns])]
                                        go_wp2_with fail
                                        go_ret
                                        exact ⟨rfl, rfl⟩
                                      | false =>
                                        cases h19 : (s.toList == [103, 108, 111, 98, 97, 108]) with
                                        | true =>
                                          rw [own_yes h19 (by simp [owns])]
                                          go_wp2_with fail
                                          go_ret
                                          exact ⟨rfl, rfl⟩
                                        | false =>
                                          cases h20 : (s.toList == [99, 104, 97, 110, 110, 101, 108]) with
                                          | true =>
                                            rw [own_yes h20 (by simp [owns])]
                                            go_wp2_with fail
                                            go_ret
                                            exact ⟨rfl, rfl⟩
                                          | false =>
                                            cases h21 : (s.toList == [101, 120, 99, 101, 112, 116, 105, 111, 110]) with
                                            | true =>
                                              rw [own_yes h21 (by simp [owns])]
                                              go_wp2_with fail
                                              go_ret
                                              exact ⟨rfl, rfl⟩
                                            | false =>
                                              cases h22 : (s.toList == [102, 117, 110]) with
                                              | true =>
                                                rw [own_yes h22 (by simp [owns])]
                                                go_wp2_with fail
                                                go_ret
                                                exact ⟨rfl, rfl⟩
                                              | false =>
                                                cases h23 : (s.toList == [109, 97, 105, 110]) with
                                                | true =>
                                                  rw [own_yes h23 (by simp [owns])]
                                                  go_wp2_with fail
                                                  go_ret
                                                  exact ⟨rfl, rfl⟩
                                                | false =>
                                                  cases h24 : (s.toList == [99, 111, 110, 102]) with
                                                  | true =>
                                                    rw [own_yes h24 (by simp [owns])]
                                                    go_wp2_with fail
                                                    go_ret
                                                    exact ⟨rfl, rfl⟩
                                                  | false =>
                                                    cases h25 : (s.toList == [105, 110, 116, 101, 103]) with
                                                    | true =>
                                                      rw [own_yes h25 (by simp [owns])]
                                                      go_wp2_with fail
                                                      go_ret
                                                      exact ⟨rfl, rfl⟩
                                                    | false =>
                                                      cases h26 : (s.toList == [111, 114, 100, 101, 114]) with
                                                      | true =>
                                                        rw [own_yes h26 (by simp [owns])]
                                                        go_wp2_with fail
                                                        go_ret
                                                        exact ⟨rfl, rfl⟩
                                                      | false =>
                                                        cases h27 : (s.toList == [97, 116, 116, 97, 99, 107, 101, 114]) with
                                                        | true =>
                                                          rw [own_yes h27 (by simp [owns])]
                                                          go_wp2_with fail
                                                          go_ret
                                                          exact ⟨rfl, rfl⟩
                                                        | false =>
                                                          cases h28 : (s.toList == [104, 97, 116, 99, 104]) with
                                                          | true =>
                                                            rw [own_yes h28 (by simp [owns])]
                                                            go_wp2_with fail
                                                            go_ret
                                                            exact ⟨rfl, rfl⟩
                                                          | false =>
                                                            cases h29 : (s.toList == [116, 111]) with
                                                            | true =>
                                                              rw [own_yes h29 (by simp [owns])]
                                                              go_wp2_with fail
                                                              go_ret
                                                              exact ⟨rfl, rfl⟩
                                                            | false =>
                                                              rw [own_no h0 h1 h2 h3 h4 h5 h6 h7 h8 h9 h10 h11 h12 h13 h14 h15 h16 h17 h18 h19 h20 h21 h22 h23 h24 h25 h26 h27 h28 h29]
                                                              go_wp2_with fail
                                                              go_ret
                                                              exact ⟨rfl, rfl⟩
end Go.Proofs.YtinebmfmkgjaaaaGreatDoor
