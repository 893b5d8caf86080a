/- Has a row a line? -/
import Derived.Test.YtinebmfmkgjaaaaGreatDoorAud3
set_option linter.unusedVariables false
set_option linter.unusedSimpArgs false
namespace Go.Proofs.YtinebmfmkgjaaaaGreatDoor
open Go.RowKit

def placeB (l c : Int) : Bool := decide (1 ≤ l) && decide (l ≤ 1073741824) && decide (1 ≤ c) && decide (c ≤ 1073741824)
set_option maxHeartbeats 4000000 in
theorem place_in (l c : Int) (w : World) : Calls Tryz.prog 61 #[.agg #[.int .i64 l, .int .i64 c]] w fun e w' => e = .returned (.bool (placeB l c)) ∧ Below w.heap.size w w' := by
  go_enter Tryz.func61, Tryz.ntmps61
  have HB := Lib.hid ((Below.refl w.heap.size w).alloc (Nat.le_refl _) (.cells #[.int .i64 l, .int .i64 c] 31))
  have HP := Lib.hid (show placeB l c = (decide (1 ≤ l) && decide (l ≤ 1073741824) && decide (1 ≤ c) && decide (c ≤ 1073741824)) from rfl)
  by_cases h1 : 1 ≤ l
  · by_cases h2 : l ≤ 1073741824
    · by_cases h3 : 1 ≤ c
      · by_cases h4 : c ≤ 1073741824
        · have HR := Lib.hid (show placeB l c = true by rw [HP.out]; simp [h1, h2, h3, h4])
          go_wp2_with fail
          go_ret
          exact ⟨by rw [HR.out]; rfl, HB.out⟩
        · have HR := Lib.hid (show placeB l c = false by rw [HP.out]; simp [h1, h2, h3, h4])
          go_wp2_with fail
          go_ret
          exact ⟨by rw [HR.out]; rfl, HB.out⟩
      · have HR := Lib.hid (show placeB l c = false by rw [HP.out]; simp [h1, h2, h3])
        go_wp2_with fail
        go_ret
        exact ⟨by rw [HR.out]; rfl, HB.out⟩
    · have HR := Lib.hid (show placeB l c = false by rw [HP.out]; simp [h1, h2])
      go_wp2_with fail
      go_ret
      exact ⟨by rw [HR.out]; rfl, HB.out⟩
  · have HR := Lib.hid (show placeB l c = false by rw [HP.out]; simp [h1])
    go_wp2_with fail
    go_ret
    exact ⟨by rw [HR.out]; rfl, HB.out⟩

theorem cellsOf6 {w : World} {b : Nat} {x0 x1 x2 x3 x4 x5 : Value} {t : TypeId} (h : w.heap[b]? = some (.cells #[x0, x1, x2, x3, x4, x5] t)) : w.cell? ⟨b, 0, none⟩ = some x0 ∧ w.cell? ⟨b, 1, none⟩ = some x1 ∧ w.cell? ⟨b, 2, none⟩ = some x2 ∧ w.cell? ⟨b, 3, none⟩ = some x3 ∧ w.cell? ⟨b, 4, none⟩ = some x4 ∧ w.cell? ⟨b, 5, none⟩ = some x5 := by
  refine ⟨?_, ?_, ?_, ?_, ?_, ?_⟩ <;> simp only [World.cell?, h] <;> rfl
def rightB (l c : Int) (h f t u : ByteArray) : Bool := placeB l c && !([h, f, t].any badB) && nameOk u
set_option maxRecDepth 100000 in
set_option maxHeartbeats 4000000 in
theorem right_in (l c : Int) (h f t u : ByteArray) (w : World) (henv : Env w) (hh : h.size ≤ 140737488355328) (hf : f.size ≤ 140737488355328) (ht : t.size ≤ 140737488355328) (hu : u.size ≤ 140737488355328) :
    Calls Tryz.prog 28 #[.agg #[.int .i64 l, .int .i64 c, .string h, .string f, .string t, .string u]] w fun e w' => e = .returned (.bool (rightB l c h f t u)) ∧ Below w.heap.size w w' := by
  have HE := Lib.hid henv
  have HSZ := Lib.hid (And.intro hh (And.intro hf (And.intro ht hu)))
  clear henv hh hf ht hu
  go_enter Tryz.func28, Tryz.ntmps28
  have hb0 := (Below.refl w.heap.size w).alloc (Nat.le_refl _) (.cells #[.int .i64 l, .int .i64 c, .string h, .string f, .string t, .string u] 55)
  have hat := last w (.cells #[.int .i64 l, .int .i64 c, .string h, .string f, .string t, .string u] 55)
  have HRR := Lib.hid (show rightB l c h f t u = (placeB l c && !([h, f, t].any badB) && nameOk u) from rfl)
  obtain ⟨a0, a1, a2, a3, a4, a5⟩ := cellsOf6 hat
  have hc := place_in l c (w.alloc (.cells #[.int .i64 l, .int .i64 c, .string h, .string f, .string t, .string u] 55))
  have HAT := Lib.hid hat
  have HB0 := Lib.hid hb0
  clear hat hb0
  go_wp2_with fail
  generalize w.alloc (.cells #[.int .i64 l, .int .i64 c, .string h, .string f, .string t, .string u] 55) = w1 at *
  refine hc.mono ?_
  clear hc a0 a1 a2 a3 a4 a5
  rintro e w2 ⟨rfl, hb2⟩
  obtain ⟨a0, a1, a2, a3, a4, a5⟩ := cellsOf6 ((hb2.block _ (heap_lt HAT.out)).trans HAT.out)
  have HB2 := Lib.hid (chain HB0.out hb2)
  clear hb2
  cases hp : placeB l c with
  | false =>
    have HR := Lib.hid (show rightB l c h f t u = false by rw [HRR.out, hp]; rfl)
    go_wp2_with fail
    go_ret
    exact ⟨by rw [HR.out]; rfl, HB2.out⟩
  | true =>
    have HP := Lib.hid hp
    clear hp
    have hb3 := (Below.refl w2.heap.size w2).alloc (Nat.le_refl _) (.cells #[.string h, .string f, .string t] 9)
    have hat3 := last w2 (.cells #[.string h, .string f, .string t] 9)
    have hc := names_in (cap := 3) (zs := [h, f, t]) (b := w2.heap.size) (off := 0) ((HE.out.below HB2.out).below hb3) (fun j hj => by
      obtain ⟨x0, x1, x2⟩ := cellsOf3 hat3
      match j, hj with
      | 0, _ => exact x0
      | 1, _ => exact x1
      | 2, _ => exact x2) (by simp) (fun j hj => by
      match j, hj with
      | 0, _ => exact HSZ.out.1
      | 1, _ => exact HSZ.out.2.1
      | 2, _ => exact HSZ.out.2.2.1)
    have HB3 := Lib.hid (chain HB2.out hb3)
    have ha5 := (World.cell?_of_block (hb3.block _ (cell_lt a5))).trans a5
    clear hat3
    simp only [List.length_cons, List.length_nil] at hc
    go_wp2_with fail
    refine hc.mono ?_
    clear hc
    rintro e w4 ⟨rfl, hb4⟩
    have HB4 := Lib.hid (chain HB3.out hb4)
    have ha6 := (World.cell?_of_block (hb4.block _ (cell_lt ha5))).trans ha5
    clear hb4 hb3 ha5 a0 a1 a2 a3 a4 a5
    cases hq : [h, f, t].any badB with
    | true =>
      have HR := Lib.hid (show rightB l c h f t u = false by rw [HRR.out, HP.out, hq]; rfl)
      go_wp2_with fail
      go_ret
      exact ⟨by rw [HR.out]; rfl, HB4.out⟩
    | false =>
      have hc := name_in u w4 (HE.out.below HB4.out) HSZ.out.2.2.2
      have HR := Lib.hid (show rightB l c h f t u = nameOk u by rw [HRR.out, HP.out, hq]; simp)
      have HQ := Lib.hid (show nameOk u = nameOk u from rfl)
      generalize nameOk u = q at hc HR
      go_wp2_with fail
      refine hc.mono ?_
      clear hc
      rintro e w5 ⟨rfl, hb5⟩
      have HB5 := Lib.hid (chain HB4.out hb5)
      clear hb5
      go_wp2_with fail
      go_ret
      exact ⟨by rw [HR.out]; rfl, HB5.out⟩
end Go.Proofs.YtinebmfmkgjaaaaGreatDoor
