/- Items. PRINTED by genexx.py of this folder. -/
import Derived.Test.YtmeacgmjpjjphaaGreatDoorMExW1
import Derived.Test.YtmeacgmjpjjphaaGreatDoorMExG
set_option linter.unusedVariables false
set_option linter.unusedSimpArgs false
namespace Go.Proofs.YtmeacgmjpjjphaaGreatDoor
open Go.RowKit Go.Shelf
open Tr (Nd TreeAt Own Ints)

theorem ints_three (w : World) (a b c : Int) : Tr.Ints (w.alloc (.cells #[.int .i64 a, .int .i64 b, .int .i64 c] 3)) (.slice (some ⟨w.heap.size, 0, none⟩) 3 3) [a, b, c] := by
  refine .inr ⟨w.heap.size, 0, 3, rfl, fun i hi => ?_⟩
  have h := last w (.cells #[.int .i64 a, .int .i64 b, .int .i64 c] 3)
  rcases (by simp at hi; omega : i = 0 ∨ i = 1 ∨ i = 2) with rfl | rfl | rfl <;> simp only [World.cell?, h] <;> rfl
theorem levs_in {d : Int} {un : Ps Int} (hg : GoodP un) (hu : FnC 105 d un) : ∀ j, j ≤ 5 → LevC (5 - j) d (levP un j)
  | 0, _ => lev5_in hu
  | j + 1, h => by
    have ih := levs_in hg hu j (by omega)
    have e1 : 5 - j = (4 - j) + 1 := by omega
    have e2 : 5 - (j + 1) = 4 - j := by omega
    rw [e1] at ih
    rw [e2]
    exact level_in (lev_ok hg j) (by omega) ih
/-- What level 0 does. -/
def Lv0 (d : Int) (p : Ps Int) : Prop := ∀ (B b t : Nat) (tv : Value) (ts l : List Tok) (v : Value) (ms : List (Nd × Value)) (w : World), RdrAt B b t tv ts l d v ms w →
  Calls Tryz.prog 77 #[.pointer (some ⟨b, 0, none⟩), .int .i64 0] w fun e w' => PostG intV B b t tv ts d v ms w (p l (ms.map (·.1))) e w'
theorem lev0_in {d : Int} {un : Ps Int} (hg : GoodP un) (hu : FnC 105 d un) : Lv0 d (levP un 5) := levs_in hg hu 5 (Nat.le_refl _)
end Go.Proofs.YtmeacgmjpjjphaaGreatDoor
