/- lives, and the law LexNames. -/
import Derived.Test.YtinebmfmkgjaaaaDoorLex8
set_option linter.unusedVariables false
set_option linter.unusedSimpArgs false
namespace Go.Proofs.YtinebmfmkgjaaaaDoor
open Go.RowKit

/-- Tokens where it goes well, with what lies in its memory. -/
theorem Tokens_good {s : ByteArray} {l : List Tok} (h : tokensB s = .good l) (hp : 0 < l.length) {w : World} (henv : Env w) (hmax : s.size ≤ 140737488355328) :
    Calls Tryd.prog 7 #[.string s] w fun e w' => ∃ g cap, e = .returned (.tuple #[.slice (some ⟨g, 0, none⟩) l.length cap, .nilIface]) ∧ (∀ j, j < l.length * 5 → w'.cell? ⟨g, j, none⟩ = (rowsT l)[j]?) ∧ Below w.heap.size w w' := by
  refine (Tokens_in s w henv hmax).mono ?_
  rw [h]
  rintro e w' ⟨⟨rv, rfl, hown⟩, hb⟩
  obtain ⟨g, cap, rfl, _⟩ := hown.form hp
  exact ⟨g, cap, rfl, fun j hj => hown.cellAt j hj, hb⟩

set_option maxRecDepth 100000 in
set_option maxHeartbeats 4000000 in
theorem lives3_in {w : World} (henv : Env w) : Calls Tryd.prog 5 #[] w fun e w' => e = .returned (.bool true) ∧ Below w.heap.size w w' := by
  have hc := Tokens_good tok_line (by decide) henv (by decide)
  clear henv
  go_enter Tryd.func5, Tryd.ntmps5
  unfold bs at hc
  go_wp2_with fail
  refine hc.mono ?_
  clear hc
  rintro e w' ⟨g, cap, rfl, hj, hb⟩
  have HB := Lib.hid hb
  clear hb
  have a0 := hj 0 (by decide)
  have a1 := hj 11 (by decide)
  have a2 := hj 17 (by decide)
  have a3 := hj 23 (by decide)
  have a4 := hj 24 (by decide)
  clear hj
  replace a0 : w'.cell? ⟨g, 0, none⟩ = some (.int .i64 2) := a0
  replace a1 : w'.cell? ⟨g, 11, none⟩ = some (.string ⟨#[58, 61]⟩) := a1
  replace a2 : w'.cell? ⟨g, 17, none⟩ = some (.int .i64 1) := a2
  replace a3 : w'.cell? ⟨g, 23, none⟩ = some (.int .i64 1) := a3
  replace a4 : w'.cell? ⟨g, 24, none⟩ = some (.int .i64 15) := a4
  go_wp2_with fail
  go_ret
  exact ⟨rfl, HB.out⟩

set_option maxRecDepth 100000 in
set_option maxHeartbeats 4000000 in
theorem LexNames_in (s : ByteArray) {w : World} (henv : Env w) : Calls Tryd.prog 3 #[.string s] w fun e w' => e = .returned (.bool true) ∧ Below w.heap.size w w' := by
  have HE := Lib.hid henv
  clear henv
  have hc := lives3_in HE.out
  go_enter Tryd.func3, Tryd.ntmps3
  go_wp2_with fail
  refine hc.mono ?_
  clear hc
  rintro e w1 ⟨rfl, hb1⟩
  have HE1 := Lib.hid (HE.out.below hb1)
  have HB1 := Lib.hid hb1
  clear hb1
  by_cases h100 : (100 : Int) < (s.size : Int)
  · have hc := lives3_in HE1.out
    go_wp2_with fail
    refine hc.mono ?_
    clear hc
    rintro e w2 ⟨rfl, hb2⟩
    have HB2 := Lib.hid (HB1.out.trans (hb2.mono HB1.out.size))
    clear hb2
    go_wp2_with fail
    go_ret
    exact ⟨rfl, HB2.out⟩
  · have hc := Own_in s w1
    go_wp2_with fail
    refine hc.mono ?_
    clear hc
    rintro e w2 ⟨rfl, hb2⟩
    have HE2 := Lib.hid (HE1.out.below hb2)
    have HB2 := Lib.hid (HB1.out.trans (hb2.mono HB1.out.size))
    clear hb2
    cases ho : ownB s with
    | true =>
      have hm : s ∈ owns := (Lib.containsS_iff _ _).1 ho
      obtain ⟨x, hx⟩ := tok_own hm
      have hc := Tokens_good hx (by simp) HE2.out (by omega)
      have HO := Lib.hid ho
      clear ho hm hx
      go_wp2_with fail
      refine hc.mono ?_
      clear hc
      rintro e w3 ⟨g, cap, rfl, hj, hb3⟩
      have HB3 := Lib.hid (HB2.out.trans (hb3.mono HB2.out.size))
      clear hb3
      have a0 := hj 0 (by simp)
      have a1 := hj 1 (by simp)
      clear hj
      replace a0 : w3.cell? ⟨g, 0, none⟩ = some (.int .i64 2) := a0
      replace a1 : w3.cell? ⟨g, 1, none⟩ = some (.string s) := a1
      have hc := refOwn_in s w3
      rw [HO.out] at hc
      go_wp2_with fail
      refine hc.mono ?_
      clear hc
      rintro e w4 ⟨rfl, rfl⟩
      go_wp2_with fail
      go_ret
      exact ⟨rfl, HB3.out⟩
    | false =>
      have hc := Tokens_in s w2 HE2.out (by omega)
      have HO := Lib.hid ho
      clear ho
      have HQ := Lib.hid (show ∀ e w3, ToksEnd w2 (tokensB s) e w3 → ∃ v x, e = .returned (.tuple #[v, x]) ∧ Below w2.heap.size w2 w3 from fun e w3 h => by
        unfold ToksEnd at h
        split at h
        · exact ⟨_, _, h.1, h.2⟩
        · obtain ⟨⟨rv, h1, _⟩, h2⟩ := h
          exact ⟨_, _, h1, h2⟩)
      go_wp2_with fail
      refine hc.mono ?_
      clear hc
      intro e w3 h3
      obtain ⟨v, x, rfl, hb3⟩ := HQ.out e w3 h3
      clear h3
      have HB3 := Lib.hid (HB2.out.trans (hb3.mono HB2.out.size))
      clear hb3
      have hc := refOwn_in s w3
      rw [HO.out] at hc
      go_wp2_with fail
      refine hc.mono ?_
      clear hc
      rintro e w4 ⟨rfl, rfl⟩
      go_wp2_with fail
      go_ret
      exact ⟨rfl, HB3.out⟩
end Go.Proofs.YtinebmfmkgjaaaaDoor
