/- lives. -/
import Derived.Test.YtinebmfmkgjaaaaGreatDoorLex8
set_option linter.unusedVariables false
set_option linter.unusedSimpArgs false
namespace Go.Proofs.YtinebmfmkgjaaaaGreatDoor
open Go.RowKit

/-- Tokens where it goes well, with what lies in its memory. -/
theorem Tokens_good {s : ByteArray} {l : List Tok} (h : tokensB s = .good l) (hp : 0 < l.length) {w : World} (henv : Env w) (hmax : s.size ≤ 140737488355328) :
    Calls Tryz.prog 7 #[.string s] w fun e w' => ∃ g cap, e = .returned (.tuple #[.slice (some ⟨g, 0, none⟩) l.length cap, .nilIface]) ∧ (∀ j, j < l.length * 5 → w'.cell? ⟨g, j, none⟩ = (rowsT l)[j]?) ∧ Below w.heap.size w w' := by
  refine (Tokens_in s w henv hmax).mono ?_
  rw [h]
  rintro e w' ⟨⟨rv, rfl, hown⟩, hb⟩
  obtain ⟨g, cap, rfl, _⟩ := hown.form hp
  exact ⟨g, cap, rfl, fun j hj => hown.cellAt j hj, hb⟩

set_option maxRecDepth 100000 in
set_option maxHeartbeats 4000000 in
theorem lives3_in {w : World} (henv : Env w) : Calls Tryz.prog 6 #[] w fun e w' => e = .returned (.bool true) ∧ Below w.heap.size w w' := by
  have hc := Tokens_good tok_line (by decide) henv (by decide)
  clear henv
  go_enter Tryz.func6, Tryz.ntmps6
  unfold bs at hc
  go_wp2_with fail
  refine hc.mono ?_
  clear hc
  rintro e w' ⟨g, cap, rfl, hj, hb⟩
  have HB := Lib.hid hb
  clear hb
  have a0 := hj 0 (by decide)
  have a1 := hj 11 (by decide)
  have a2 := hj 17 (by decide)
  have a3 := hj 23 (by decide)
  have a4 := hj 24 (by decide)
  clear hj
  replace a0 : w'.cell? ⟨g, 0, none⟩ = some (.int .i64 2) := a0
  replace a1 : w'.cell? ⟨g, 11, none⟩ = some (.string ⟨#[58, 61]⟩) := a1
  replace a2 : w'.cell? ⟨g, 17, none⟩ = some (.int .i64 1) := a2
  replace a3 : w'.cell? ⟨g, 23, none⟩ = some (.int .i64 1) := a3
  replace a4 : w'.cell? ⟨g, 24, none⟩ = some (.int .i64 15) := a4
  go_wp2_with fail
  go_ret
  exact ⟨rfl, HB.out⟩
end Go.Proofs.YtinebmfmkgjaaaaGreatDoor
