/- The law LexTokens, walked. -/
import Derived.Test.YtinebmfmkgjaaaaGreatDoorErr5
set_option linter.unusedVariables false
set_option linter.unusedSimpArgs false
namespace Go.Proofs.YtinebmfmkgjaaaaGreatDoor
open Go.RowKit

theorem refB_spec : ∀ (N : Nat) (t : ByteArray) (ps : List (Int × Int)) (b : Bool), t.size < N → (∀ x l c, refB N t ps b = .bad x l c → x = 6 ∨ x = 4) ∧ (∀ r, refB N t ps b = .good r → 1 ≤ r.length ∧ r.length ≤ t.size + 1)
  | 0, t, ps, b, h => absurd h (by omega)
  | N + 1, t, ps, b, h => by
    unfold refB
    split
    · refine ⟨fun x l c e => (by cases e), fun r e => ?_⟩
      cases e
      simp
    · rename_i h0
      split
      · have ih := refB_spec N (aft t 1) (ps.drop 1) (noteB b (t.get! 0).toNat) (by rw [aft_size]; omega)
        exact ⟨ih.1, fun r e => by have := ih.2 r e; rw [aft_size] at this; omega⟩
      · cases hr : readB t with
        | bad e =>
          refine ⟨fun x l c he => ?_, fun r he => (by cases he)⟩
          cases he
          exact read_code hr
        | tok k n v =>
          have hn := readB_n (by omega) hr
          have ih := refB_spec N (aft t n) (ps.drop n) false (by rw [aft_size]; omega)
          simp only
          cases hq : refB N (aft t n) (ps.drop n) false with
          | bad x l c =>
            rw [hq] at ih
            refine ⟨fun x' l' c' he => ?_, fun r he => (by cases he)⟩
            cases he
            exact ih.1 _ _ _ rfl
          | good r =>
            rw [hq] at ih
            refine ⟨fun x' l' c' he => (by cases he), fun r' he => ?_⟩
            cases he
            have := ih.2 r rfl
            rw [aft_size] at this
            simp
            omega
theorem tokens_spec (s : ByteArray) : (∀ x l c, tokensB s = .bad x l c → x ≠ 0) ∧ (∀ r, tokensB s = .good r → 1 ≤ r.length ∧ r.length ≤ 1048576) := by
  rw [← ref_tokens]
  unfold refTokens
  split
  · exact ⟨fun x l c e => by cases e; decide, fun r e => by cases e⟩
  · rename_i h
    cases hv : va s 1 1 with
    | some p => exact ⟨fun x l c e => by cases e; decide, fun r e => by cases e⟩
    | none =>
      have k := refB_spec (s.size + 1) s (pl s 1 1) false (Nat.lt_succ_self _)
      exact ⟨fun x l c e => by rcases k.1 x l c e with h | h <;> omega, fun r e => by have := k.2 r e; omega⟩
set_option maxRecDepth 100000 in
set_option maxHeartbeats 8000000 in
theorem LexTokens_in (s : ByteArray) {w : World} (henv : Env w) (hg : ErrTy w) : Calls Tryz.prog 3 #[.string s] w fun e w' => e = .returned (.bool true) ∧ Below w.heap.size w w' := by
  have HE := Lib.hid henv
  have HG := Lib.hid hg
  clear henv hg
  have hc := lives3_in HE.out
  go_enter Tryz.func3, Tryz.ntmps3
  go_wp2_with fail
  refine hc.mono ?_
  clear hc
  rintro e w1 ⟨rfl, hb1⟩
  have HE1 := Lib.hid (HE.out.below hb1)
  have HG1 := Lib.hid (HG.out.below hb1)
  have HB1 := Lib.hid hb1
  clear hb1
  by_cases h7 : (70000 : Int) < (s.size : Int)
  · have hc := lives3_in HE1.out
    go_wp2_with fail
    refine hc.mono ?_
    clear hc
    rintro e w2 ⟨rfl, hb2⟩
    have HB2 := Lib.hid (HB1.out.trans (hb2.mono HB1.out.size))
    clear hb2
    go_wp2_with fail
    go_ret
    exact ⟨rfl, HB2.out⟩
  · have hc := Tokens_in s w1 HE1.out (by omega)
    have hsp := tokens_spec s
    have hr := Lib.hid (fun W => RefTokens_in s W)
    generalize tokensB s = R at *
    cases R with
    | bad x l c =>
      have hx := hsp.1 x l c rfl
      have hx' : ((x : Int) == 0) = false := by simpa using hx
      clear hsp
      go_wp2_with fail
      refine hc.mono ?_
      clear hc
      rintro e w2 ⟨rfl, hb2⟩
      have HB2 := Lib.hid (HB1.out.trans (hb2.mono HB1.out.size))
      have HG2 := Lib.hid (HG1.out.below hb2)
      clear hb2
      unfold diagV
      go_wp2_with fail
      refine (hr.out w2).mono ?_
      rintro e w3 ⟨rfl, hb3⟩
      have HB3 := Lib.hid (HB2.out.trans (hb3.mono HB2.out.size))
      have HG3 := Lib.hid (HG2.out.below hb3)
      clear hb3
      go_upto_region 5 with fail
      have hs3 := HB3.out.size
      have HB4 := Lib.hid (HB3.out.alloc hs3 (.cells #[.int .i64 x, .int .i64 l, .int .i64 c, .string ⟨#[]⟩] 33))
      have HG4 := Lib.hid (HG3.out.below ((Below.refl w3.heap.size w3).alloc (Nat.le_refl _) (.cells #[.int .i64 x, .int .i64 l, .int .i64 c, .string ⟨#[]⟩] 33)))
      obtain ⟨d0, d1, d2, d3⟩ := cellsOf4 (last w3 (.cells #[.int .i64 x, .int .i64 l, .int .i64 c, .string ⟨#[]⟩] 33))
      generalize w3.heap.size = n3 at *
      generalize w3.alloc (.cells #[.int .i64 x, .int .i64 l, .int .i64 c, .string ⟨#[]⟩] 33) = w4 at *
      have hc := Wrong_in x l c w4 HG4.out
      unfold diagV at hc
      go_wp2_with fail
      refine hc.mono ?_
      clear hc
      rintro e w5 ⟨rfl, hb5⟩
      have HB5 := Lib.hid (HB4.out.trans (hb5.mono HB4.out.size))
      clear hb5
      go_wp2_with fail
      go_ret
      exact ⟨rfl, HB5.out⟩
    | good r =>
      have hrl := hsp.2 r rfl
      clear hsp
      go_wp2_with fail
      refine hc.mono ?_
      clear hc
      rintro e w2 ⟨⟨rv, rfl, hown⟩, hb2⟩
      obtain ⟨g1, c1, rfl, hg1⟩ := hown.form (by omega)
      have HB2 := Lib.hid (HB1.out.trans (hb2.mono HB1.out.size))
      have HO := Lib.hid hown
      clear hb2 hown hg1
      go_wp2_with fail
      refine (hr.out w2).mono ?_
      rintro e w3 ⟨⟨rv, rfl, hown⟩, hb3⟩
      obtain ⟨g2, c2, rfl, hg2⟩ := hown.form (by omega)
      have HB3 := Lib.hid (HB2.out.trans (hb3.mono HB2.out.size))
      have H1 := Lib.hid (show ∀ j, j < r.length * 5 → w3.cell? ⟨g1, j, none⟩ = (rowsT r)[j]? from fun j hj => (hb3.cell (p := ⟨g1, j, none⟩) (row_lt HO.out (k := g1) rfl).2).trans (HO.out.cellAt j hj))
      have H2 := Lib.hid (show ∀ j, j < r.length * 5 → w3.cell? ⟨g2, j, none⟩ = (rowsT r)[j]? from fun j hj => hown.cellAt j hj)
      have hs3 := HB3.out.size
      clear hb3 hown hg2
      go_upto_region 5 with fail
      have HB4 := Lib.hid (HB3.out.alloc hs3 (.cells #[.int .i64 0, .int .i64 0, .int .i64 0, .string ⟨#[]⟩] 33))
      have hb34 := (Below.refl w3.heap.size w3).alloc (Nat.le_refl _) (.cells #[.int .i64 0, .int .i64 0, .int .i64 0, .string ⟨#[]⟩] 33)
      have hlt : ∀ g, (∀ j, j < r.length * 5 → w3.cell? ⟨g, j, none⟩ = (rowsT r)[j]?) → g < w3.heap.size := fun g h => by
        have e := h 0 (by omega)
        rw [List.getElem?_eq_getElem (by rw [rowsT_length]; omega)] at e
        exact cell_lt e
      have hc := same_in r g1 g2 c1 c2 _ (fun j hj => (hb34.cell (p := ⟨g1, j, none⟩) (hlt g1 H1.out)).trans (H1.out j hj)) (fun j hj => (hb34.cell (p := ⟨g2, j, none⟩) (hlt g2 H2.out)).trans (H2.out j hj)) hrl.2
      obtain ⟨d0, d1, d2, d3⟩ := cellsOf4 (last w3 (.cells #[.int .i64 0, .int .i64 0, .int .i64 0, .string ⟨#[]⟩] 33))
      clear hb34 hlt
      generalize w3.heap.size = n3 at *
      generalize w3.alloc (.cells #[.int .i64 0, .int .i64 0, .int .i64 0, .string ⟨#[]⟩] 33) = w4 at *
      go_wp2_with fail
      refine hc.mono ?_
      clear hc
      rintro e w5 ⟨rfl, hb5⟩
      have HB5 := Lib.hid (HB4.out.trans (hb5.mono HB4.out.size))
      clear hb5
      go_wp2_with fail
      go_ret
      exact ⟨rfl, HB5.out⟩
end Go.Proofs.YtinebmfmkgjaaaaGreatDoor
