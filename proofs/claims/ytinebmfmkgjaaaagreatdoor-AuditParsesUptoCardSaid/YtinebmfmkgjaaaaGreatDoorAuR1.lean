/- The reference's name, number, Right, Line. -/
import Derived.Test.YtinebmfmkgjaaaaGreatDoorAuW3
import Derived.Test.YtinebmfmkgjaaaaGreatDoorToks
set_option linter.unusedVariables false
set_option linter.unusedSimpArgs false
namespace Go.Proofs.YtinebmfmkgjaaaaGreatDoor
open Go.RowKit

theorem main_one : oneB ⟨#[109, 97, 105, 110]⟩ = false := by kernel_rfl
theorem main_is {s : ByteArray} (h : mainB s = true) : s = ⟨#[109, 97, 105, 110]⟩ := by
  unfold mainB at h
  have e := eq_of_beq h
  rw [Lib.toList_data] at e
  exact data_inj e
theorem bad_one (z : ByteArray) : badB z = !oneB z := by
  unfold badB nameOk
  cases h : mainB z with
  | true =>
    rw [main_is h, main_one]
    rfl
  | false => cases oneB z <;> rfl
set_option maxRecDepth 100000 in
set_option maxHeartbeats 8000000 in
theorem refname_in (s : ByteArray) (w : World) : Calls Tryz.prog 33 #[.string s] w fun e w' => e = .returned (.bool (oneB s)) ∧ Below w.heap.size w w' := by
  have hc := RefTokens_in s w
  have hsp := tokens_spec s
  have HO := Lib.hid (show oneB s = (match tokensB s with
    | .good [a, _] => decide (a.kind = 1) && (a.text.toList == s.toList)
    | _ => false) from rfl)
  generalize tokensB s = R at *
  go_enter Tryz.func33, Tryz.ntmps33
  cases R with
  | bad x l c =>
    have hx := hsp.1 x l c rfl
    have hx' : ((x : Int) == 0) = false := by simpa using hx
    clear hsp hx
    go_wp2_with fail
    refine hc.mono ?_
    clear hc
    rintro e w2 ⟨rfl, hb2⟩
    have HB2 := Lib.hid (hb2.alloc hb2.size (.cells #[.int .i64 x, .int .i64 l, .int .i64 c, .string ⟨#[]⟩] 33))
    clear hb2
    go_wp2_with fail
    go_ret
    exact ⟨by first | (rw [HO.out]; done) | (rw [HO.out]; rfl), HB2.out⟩
  | good r =>
    have hrl := hsp.2 r rfl
    clear hsp
    go_wp2_with fail
    refine hc.mono ?_
    clear hc
    rintro e w2 ⟨⟨rv, rfl, hown⟩, hb2⟩
    obtain ⟨g, cap, rfl, hg⟩ := hown.form (by omega)
    have HB2 := Lib.hid (hb2.alloc hb2.size (.cells #[.int .i64 0, .int .i64 0, .int .i64 0, .string ⟨#[]⟩] 33))
    have HC := Lib.hid (show ∀ j, j < r.length * 5 → (w2.alloc (.cells #[.int .i64 0, .int .i64 0, .int .i64 0, .string ⟨#[]⟩] 33)).cell? ⟨g, j, none⟩ = (rowsT r)[j]? from fun j hj =>
      (World.cell?_of_block (Below.heap_alloc w2 (.cells #[.int .i64 0, .int .i64 0, .int .i64 0, .string ⟨#[]⟩] 33) g (row_lt hown (k := g) rfl).2) (a := ⟨g, j, none⟩)).trans (hown.cellAt j hj))
    clear hb2 hown hg
    by_cases hl : r.length = 2
    · obtain ⟨a, b, rfl⟩ : ∃ a b, r = [a, b] := by
        match r, hl with
        | [a, b], _ => exact ⟨a, b, rfl⟩
      have c0 := HC.out 0 (by simp)
      have c1 := HC.out 1 (by simp)
      replace c0 : (w2.alloc (.cells #[.int .i64 0, .int .i64 0, .int .i64 0, .string ⟨#[]⟩] 33)).cell? ⟨g, 0, none⟩ = some (.int .i64 a.kind) := c0
      replace c1 : (w2.alloc (.cells #[.int .i64 0, .int .i64 0, .int .i64 0, .string ⟨#[]⟩] 33)).cell? ⟨g, 1, none⟩ = some (.string a.text) := c1
      go_upto_region 2 with fail
      obtain ⟨d0, d1, d2, d3⟩ := cellsOf4 (last w2 (.cells #[.int .i64 0, .int .i64 0, .int .i64 0, .string ⟨#[]⟩] 33))
      generalize w2.heap.size = n2 at *
      generalize w2.alloc (.cells #[.int .i64 0, .int .i64 0, .int .i64 0, .string ⟨#[]⟩] 33) = w3 at *
      by_cases hk : a.kind = 1
      · have hk' : ((a.kind : Int) == 1) = true := by simpa using hk
        have HO2 := Lib.hid (show oneB s = (a.text.toList == s.toList) by rw [HO.out]; simp [hk])
        clear hk
        cases hq : a.text.toList == s.toList with
        | true =>
          go_wp2_with fail
          go_ret
          exact ⟨by first | (rw [HO2.out, hq]; done) | (rw [HO2.out, hq]; rfl), HB2.out⟩
        | false =>
          go_wp2_with fail
          go_ret
          exact ⟨by first | (rw [HO2.out, hq]; done) | (rw [HO2.out, hq]; rfl), HB2.out⟩
      · have hk' : ((a.kind : Int) == 1) = false := by simpa using hk
        have HO2 := Lib.hid (show oneB s = false by rw [HO.out]; simp [hk])
        clear hk
        go_wp2_with fail
        go_ret
        exact ⟨by first | (rw [HO2.out]; done) | (rw [HO2.out]; rfl), HB2.out⟩
    · have hl' : ((r.length : Int) == 2) = false := by simp; omega
      have HO2 := Lib.hid (show oneB s = false by
        rw [HO.out]
        match r, hl with
        | [], _ => rfl
        | [_], _ => rfl
        | [a, b], h => exact absurd rfl h
        | _ :: _ :: _ :: _, _ => rfl)
      go_wp2_with fail
      go_ret
      exact ⟨by first | (rw [HO2.out]; done) | (rw [HO2.out]; rfl), HB2.out⟩
def numOk (n : Int) : Bool := decide (1 ≤ n) && decide (n ≤ 1073741824)
theorem refnum_in (n : Int) (w : World) : Calls Tryz.prog 66 #[.int .i64 n] w fun e w' => e = .returned (.bool (numOk n)) ∧ w = w' := by
  by_cases h1 : 1 ≤ n
  · have k1 : decide ((1 : Int) ≤ n) = true := decide_eq_true h1
    by_cases h2 : n ≤ 1073741824
    · have k2 : decide (n ≤ (1073741824 : Int)) = true := decide_eq_true h2
      have hr : numOk n = true := by unfold numOk; rw [k1, k2]; rfl
      go_enter Tryz.func66, Tryz.ntmps66
      go_wp2_with fail
      go_ret
      first | exact ⟨rfl, rfl⟩ | exact ⟨by rw [hr]; rfl, rfl⟩
    · have k2 : decide (n ≤ (1073741824 : Int)) = false := decide_eq_false h2
      have hr : numOk n = false := by unfold numOk; rw [k1, k2]; rfl
      go_enter Tryz.func66, Tryz.ntmps66
      go_wp2_with fail
      go_ret
      first | exact ⟨rfl, rfl⟩ | exact ⟨by rw [hr]; rfl, rfl⟩
  · have k1 : decide ((1 : Int) ≤ n) = false := decide_eq_false h1
    have hr : numOk n = false := by unfold numOk; rw [k1]; rfl
    go_enter Tryz.func66, Tryz.ntmps66
    go_wp2_with fail
    go_ret
    first | exact ⟨rfl, rfl⟩ | exact ⟨by rw [hr]; rfl, rfl⟩
theorem right_ref (r : Rw) : r.right = (numOk r.l && (numOk r.c && (oneB r.h && (oneB r.f && (oneB r.t && (oneB r.u || mainB r.u)))))) := by
  unfold Rw.right rightB placeB numOk nameOk
  simp only [List.any_cons, List.any_nil, Bool.or_false, bad_one]
  cases oneB r.h <;> cases oneB r.f <;> cases oneB r.t <;> cases oneB r.u <;> cases mainB r.u <;> cases decide (1 ≤ r.l) <;> cases decide (r.l ≤ 1073741824) <;> cases decide (1 ≤ r.c) <;> cases decide (r.c ≤ 1073741824) <;> rfl
end Go.Proofs.YtinebmfmkgjaaaaGreatDoor
