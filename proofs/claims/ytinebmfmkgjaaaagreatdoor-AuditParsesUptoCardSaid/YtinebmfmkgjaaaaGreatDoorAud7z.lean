/- lives of the audit's statements. -/
import Derived.Test.YtinebmfmkgjaaaaGreatDoorAud6z
set_option linter.unusedVariables false
set_option linter.unusedSimpArgs false
namespace Go.Proofs.YtinebmfmkgjaaaaGreatDoor
open Go.RowKit

theorem drewN_below {B : Nat} {a w : World} (h : Below B a w) (n : Nat) : Below B a (w.drewN n) := h.trans ⟨rfl, rfl, rfl, Nat.le_refl _, fun _ _ => rfl⟩
def row1 : Rw := ⟨2, 8, ⟨#[104]⟩, ⟨#[104, 105, 103, 104]⟩, ⟨#[108, 111, 119]⟩, ⟨#[109, 97, 105, 110]⟩⟩
theorem row1_right : row1.right = true := by kernel_rfl
theorem row1_text : rowB row1 = ⟨#[50, 58, 56, 32, 114, 101, 108, 101, 97, 115, 101, 32, 104, 32, 102, 114, 111, 109, 32, 104, 105, 103, 104, 32, 116, 111, 32, 108, 111, 119, 32, 105, 110, 32, 109, 97, 105, 110]⟩ := by kernel_rfl
theorem row1_ok : row1.ok := by
  refine ⟨⟨?_, ?_⟩, ⟨?_, ?_⟩, ?_, ?_, ?_, ?_⟩ <;> decide
set_option maxRecDepth 100000 in
set_option maxHeartbeats 2000000 in
theorem lives20_in {w : World} (henv : Env w) (ht : TabOk w) : Calls Tryz.prog 11 #[] w fun e w' => e = .returned (.bool true) ∧ Below w.heap.size w w' := by
  go_enter Tryz.func11, Tryz.ntmps11
  have hb0 := (Below.refl w.heap.size w).alloc (Nat.le_refl _) (.cells #[.int .i64 2, .int .i64 8, .string ⟨#[104]⟩, .string ⟨#[104, 105, 103, 104]⟩, .string ⟨#[108, 111, 119]⟩, .string ⟨#[109, 97, 105, 110]⟩] 55)
  have hat := last w (.cells #[.int .i64 2, .int .i64 8, .string ⟨#[104]⟩, .string ⟨#[104, 105, 103, 104]⟩, .string ⟨#[108, 111, 119]⟩, .string ⟨#[109, 97, 105, 110]⟩] 55)
  have hc := LinesU_in (some ⟨w.heap.size, 0, none⟩) none 1 0 [row1] [] _ (by simp) (by simp) (fun i hi => by
    obtain rfl : i = 0 := by simp at hi; omega
    exact row1_ok) (fun i hi => by simp at hi) (.inr ⟨_, _, rfl, fun i hi => by
      obtain rfl : i = 0 := by simp at hi; omega
      exact cellsOf6 hat⟩) (.inl rfl) (henv.below hb0) (ht.under hb0)
  have hl : linesR [row1] [] = some [⟨#[50, 58, 56, 32, 114, 101, 108, 101, 97, 115, 101, 32, 104, 32, 102, 114, 111, 109, 32, 104, 105, 103, 104, 32, 116, 111, 32, 108, 111, 119, 32, 105, 110, 32, 109, 97, 105, 110]⟩] := by
    unfold linesR
    rw [if_pos ⟨(fun i hi => by
      obtain rfl : i = 0 := by simp at hi; omega
      exact row1_right), (fun i hi => by simp at hi)⟩]
    show some [rowB row1] = _
    rw [row1_text]
  rw [hl] at hc
  have HB0 := Lib.hid hb0
  clear hb0 hat hl henv ht
  simp only [List.length_cons, List.length_nil] at hc
  go_wp2_with fail
  generalize w.alloc (.cells #[.int .i64 2, .int .i64 8, .string ⟨#[104]⟩, .string ⟨#[104, 105, 103, 104]⟩, .string ⟨#[108, 111, 119]⟩, .string ⟨#[109, 97, 105, 110]⟩] 55) = w1 at *
  refine hc.mono ?_
  clear hc
  rintro e w2 ⟨⟨v, rfl, hown⟩, hb2⟩
  have HB2 := Lib.hid (chain HB0.out hb2)
  obtain ⟨g, cap, rfl, hg1, hg2⟩ := hown.form (by simp)
  have hcell := hown.cells (g := g) rfl
  clear hb2
  have hb3 := (Below.refl w2.heap.size w2).alloc (Nat.le_refl _) (.cells #[.string ⟨#[50, 58, 56, 32, 114, 101, 108, 101, 97, 115, 101, 32, 104, 32, 102, 114, 111, 109, 32, 104, 105, 103, 104, 32, 116, 111, 32, 108, 111, 119, 32, 105, 110, 32, 109, 97, 105, 110]⟩] 9)
  have HB3 := Lib.hid (chain HB2.out hb3)
  have hlast := last w2 (.cells #[.string ⟨#[50, 58, 56, 32, 114, 101, 108, 101, 97, 115, 101, 32, 104, 32, 102, 114, 111, 109, 32, 104, 105, 103, 104, 32, 116, 111, 32, 108, 111, 119, 32, 105, 110, 32, 109, 97, 105, 110]⟩] 9)
  have hcg : w2.cell? ⟨g, 0, none⟩ = some (.string ⟨#[50, 58, 56, 32, 114, 101, 108, 101, 97, 115, 101, 32, 104, 32, 102, 114, 111, 109, 32, 104, 105, 103, 104, 32, 116, 111, 32, 108, 111, 119, 32, 105, 110, 32, 109, 97, 105, 110]⟩) := by
    have := hcell 0 (.string ⟨#[50, 58, 56, 32, 114, 101, 108, 101, 97, 115, 101, 32, 104, 32, 102, 114, 111, 109, 32, 104, 105, 103, 104, 32, 116, 111, 32, 108, 111, 119, 32, 105, 110, 32, 109, 97, 105, 110]⟩) rfl
    rwa [add_at] at this
  have hcg3 := (World.cell?_of_block (hb3.block _ (cell_lt hcg))).trans hcg
  have hcl3 : (w2.alloc (.cells #[.string ⟨#[50, 58, 56, 32, 114, 101, 108, 101, 97, 115, 101, 32, 104, 32, 102, 114, 111, 109, 32, 104, 105, 103, 104, 32, 116, 111, 32, 108, 111, 119, 32, 105, 110, 32, 109, 97, 105, 110]⟩] 9)).cell? ⟨w2.heap.size, 0, none⟩ = some (.string ⟨#[50, 58, 56, 32, 114, 101, 108, 101, 97, 115, 101, 32, 104, 32, 102, 114, 111, 109, 32, 104, 105, 103, 104, 32, 116, 111, 32, 108, 111, 119, 32, 105, 110, 32, 109, 97, 105, 110]⟩) := by
    simp only [World.cell?, hlast]
    rfl
  have hc := Tryz.slices_Equal_string g 0 1 cap w2.heap.size 0 1 1 [⟨#[50, 58, 56, 32, 114, 101, 108, 101, 97, 115, 101, 32, 104, 32, 102, 114, 111, 109, 32, 104, 105, 103, 104, 32, 116, 111, 32, 108, 111, 119, 32, 105, 110, 32, 109, 97, 105, 110]⟩] [⟨#[50, 58, 56, 32, 114, 101, 108, 101, 97, 115, 101, 32, 104, 32, 102, 114, 111, 109, 32, 104, 105, 103, 104, 32, 116, 111, 32, 108, 111, 119, 32, 105, 110, 32, 109, 97, 105, 110]⟩] _ (by simp) (by simp) (by omega) (by omega) (fun j hj => by
    obtain rfl : j = 0 := by simp at hj; omega
    exact hcg3) (fun j hj => by
    obtain rfl : j = 0 := by simp at hj; omega
    exact hcl3)
  rw [decide_eq_true rfl] at hc
  clear hcell hcg hcg3 hcl3 hlast hb3 hown hg1 hg2
  simp only [List.length_cons, List.length_nil]
  go_wp2_with fail
  refine hc.mono ?_
  clear hc
  rintro e w3 ⟨rfl, q, rfl⟩
  have HB4 := Lib.hid (drewN_below HB3.out q)
  go_wp2_with fail
  go_ret
  exact ⟨rfl, HB4.out⟩
end Go.Proofs.YtinebmfmkgjaaaaGreatDoor
