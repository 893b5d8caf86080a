/- The law LexTokens. -/
import Derived.Test.YtinebmfmkgjaaaaGreatDoorErr4
import Derived.Test.YtinebmfmkgjaaaaGreatDoorLex9z
set_option linter.unusedVariables false
set_option linter.unusedSimpArgs false
namespace Go.Proofs.YtinebmfmkgjaaaaGreatDoor
open Go.RowKit

theorem rowsT_get : ∀ (l : List Tok) (i j : Nat), i < l.length → j < 5 → (rowsT l)[i * 5 + j]? = (tokCells (l.getD i zeroTok))[j]?
  | [], i, j, h, _ => absurd h (by simp)
  | p :: l, 0, j, h, hj => by
    have e : rowsT (p :: l) = tokCells p ++ rowsT l := rfl
    rw [e, List.getElem?_append_left (by simp [tokCells]; omega)]
    simp
  | p :: l, i + 1, j, h, hj => by
    have ih := rowsT_get l i j (by simpa using h) hj
    have e : rowsT (p :: l) = tokCells p ++ rowsT l := rfl
    rw [e, show (i + 1) * 5 + j = 5 + (i * 5 + j) by omega, List.getElem?_append_right (by simp [tokCells])]
    simpa [tokCells] using ih
set_option maxRecDepth 100000 in
set_option maxHeartbeats 8000000 in
theorem same_in (r : List Tok) (g1 g2 c1 c2 : Nat) (w : World) (h1 : ∀ j, j < r.length * 5 → w.cell? ⟨g1, j, none⟩ = (rowsT r)[j]?) (h2 : ∀ j, j < r.length * 5 → w.cell? ⟨g2, j, none⟩ = (rowsT r)[j]?) (hl : r.length ≤ 1048576) :
    Calls Tryz.prog 10 #[.slice (some ⟨g1, 0, none⟩) r.length c1, .slice (some ⟨g2, 0, none⟩) r.length c2] w fun e w' => e = .returned (.bool true) ∧ Below w.heap.size w w' := by
  have HC := Lib.hid (show ∀ W i, Below w.heap.size w W → i < r.length → (W.cell? ⟨g1, i * 5, none⟩ = some (.int .i64 (r.getD i zeroTok).kind) ∧ W.cell? ⟨g1, i * 5 + 1, none⟩ = some (.string (r.getD i zeroTok).text) ∧ W.cell? ⟨g1, i * 5 + 2, none⟩ = some (.int .i64 (r.getD i zeroTok).num) ∧ W.cell? ⟨g1, i * 5 + 3, none⟩ = some (.int .i64 (r.getD i zeroTok).line) ∧ W.cell? ⟨g1, i * 5 + 4, none⟩ = some (.int .i64 (r.getD i zeroTok).col)) ∧
      (W.cell? ⟨g2, i * 5, none⟩ = some (.int .i64 (r.getD i zeroTok).kind) ∧ W.cell? ⟨g2, i * 5 + 1, none⟩ = some (.string (r.getD i zeroTok).text) ∧ W.cell? ⟨g2, i * 5 + 2, none⟩ = some (.int .i64 (r.getD i zeroTok).num) ∧ W.cell? ⟨g2, i * 5 + 3, none⟩ = some (.int .i64 (r.getD i zeroTok).line) ∧ W.cell? ⟨g2, i * 5 + 4, none⟩ = some (.int .i64 (r.getD i zeroTok).col)) from fun W i hb hi => by
    have k : ∀ g, (∀ j, j < r.length * 5 → w.cell? ⟨g, j, none⟩ = (rowsT r)[j]?) → ∀ j, j < 5 → W.cell? ⟨g, i * 5 + j, none⟩ = (tokCells (r.getD i zeroTok))[j]? := fun g hg j hj => by
      have e := (hg (i * 5 + j) (by omega)).trans (rowsT_get r i j hi hj)
      have hs : ∃ v, w.cell? ⟨g, i * 5 + j, none⟩ = some v := ⟨(tokCells (r.getD i zeroTok))[j]'(by simp [tokCells]; omega), e.trans (List.getElem?_eq_getElem _)⟩
      obtain ⟨v, hv⟩ := hs
      exact (hb.cell (p := ⟨g, i * 5 + j, none⟩) (cell_lt hv)).trans e
    exact ⟨⟨k g1 h1 0 (by decide), k g1 h1 1 (by decide), k g1 h1 2 (by decide), k g1 h1 3 (by decide), k g1 h1 4 (by decide)⟩, k g2 h2 0 (by decide), k g2 h2 1 (by decide), k g2 h2 2 (by decide), k g2 h2 3 (by decide), k g2 h2 4 (by decide)⟩)
  clear h1 h2
  generalize r.length = m at *
  go_enter Tryz.func10, Tryz.ntmps10
  go_wp2_with fail
  go_loopg [14] m (fun gk iv wr => ∃ i : Nat, iv = .int .i64 (i : Int) ∧ i + gk = m ∧ Below w.heap.size w wr)
  case atStart => exact ⟨0, rfl, by omega, Below.refl _ _⟩
  case round =>
    obtain ⟨i, rfl, hig, hb⟩ := hrel
    have HB := Lib.hid hb
    have hsz := hb.size
    clear hb
    by_cases hlt : i < m
    · obtain ⟨g, rfl⟩ : ∃ g, gk = g + 1 := ⟨gk - 1, by omega⟩
      have hlt' : (i : Int) < (m : Int) := by omega
      obtain ⟨⟨a0, a1, a2, a3, a4⟩, _⟩ := HC.out wr i HB.out hlt
      obtain ⟨t, ht⟩ : ∃ z, r.getD i zeroTok = z := ⟨_, rfl⟩
      rw [ht] at a0 a1 a2 a3 a4
      go_upto_region 6 with fail
      have HB2 := Lib.hid (HB.out.alloc hsz (.cells #[.int .i64 t.kind, .string t.text, .int .i64 t.num, .int .i64 t.line, .int .i64 t.col] 63))
      have HT := Lib.hid (last wr (.cells #[.int .i64 t.kind, .string t.text, .int .i64 t.num, .int .i64 t.line, .int .i64 t.col] 63))
      clear a0 a1 a2 a3 a4
      generalize wr.heap.size = n1 at *
      generalize wr.alloc (.cells #[.int .i64 t.kind, .string t.text, .int .i64 t.num, .int .i64 t.line, .int .i64 t.col] 63) = w2 at *
      obtain ⟨_, b0, b1, b2, b3, b4⟩ := HC.out w2 i HB2.out hlt
      rw [ht] at b0 b1 b2 b3 b4
      clear ht
      obtain ⟨a0, a1, a2, a3, a4⟩ := cellsOf5 HT.out
      go_region
      go_wp2_with fail
      go_roundg g
      case measure => omega
      case rel => exact ⟨i + 1, by first | rfl | go_num, by omega, HB2.out.drew⟩
    · have hlt' : ¬ (i : Int) < (m : Int) := by omega
      go_wp2_with fail
      go_ret
      exact ⟨rfl, HB.out⟩
end Go.Proofs.YtinebmfmkgjaaaaGreatDoor
