/- The reference's Tokens. -/
import Derived.Test.YtinebmfmkgjaaaaGreatDoorRef4
set_option linter.unusedVariables false
set_option linter.unusedSimpArgs false
namespace Go.Proofs.YtinebmfmkgjaaaaGreatDoor
open Go.RowKit

theorem pl_length : ∀ (N : Nat) (s : ByteArray) (l c : Int), s.size ≤ N → Va s → (pl s l c).length = s.size + 1
  | 0, s, l, c, h, _ => by
    rw [pl_nil (by omega), List.length_singleton]
    omega
  | N + 1, s, l, c, h, hv => by
    by_cases h0 : s.size = 0
    · rw [pl_nil h0, List.length_singleton]
      omega
    · have hp := hv.pt h0
      have hb := (pt_bytes s (by omega)).1
      rw [pl_cons h0 hp, List.length_append, List.length_replicate, pl_length N _ _ _ (by rw [aft_size]; omega) (hv.next h0), aft_size]
      omega
theorem rowsP_get : ∀ (l : List (Int × Int)) (i : Nat), i < l.length → (rowsP l)[i * 2]? = some (.int .i64 (l.getD i (0, 0)).1) ∧ (rowsP l)[i * 2 + 1]? = some (.int .i64 (l.getD i (0, 0)).2)
  | [], i, h => absurd h (by simp)
  | p :: l, 0, h => ⟨rfl, rfl⟩
  | p :: l, i + 1, h => by
    have ih := rowsP_get l i (by simpa using h)
    have e : rowsP (p :: l) = posCells p ++ rowsP l := rfl
    rw [e, show (i + 1) * 2 = 2 + i * 2 by omega, show 2 + i * 2 + 1 = 2 + (i * 2 + 1) by omega]
    rw [List.getElem?_append_right (by simp [posCells]), List.getElem?_append_right (by simp [posCells])]
    simpa [posCells] using ih
theorem rowsP_length (l : List (Int × Int)) : (rowsP l).length = l.length * 2 := by
  induction l with
  | nil => rfl
  | cons a l ih =>
    simp only [rowsP, List.flatMap_cons, List.length_append, List.length_cons] at *
    rw [ih]
    simp [posCells]
    omega
theorem p0_drop (l : List (Int × Int)) (i : Nat) : p0 (l.drop i) = l.getD i (0, 0) := by
  unfold p0
  rw [List.getD, List.getD, List.getElem?_drop, Nat.add_zero]
theorem read_code {s : ByteArray} {e : Int} (h : readB s = .bad e) : e = 6 ∨ e = 4 := by
  unfold readB at h
  split at h
  · split at h
    · cases h; exact .inl rfl
    · cases h
  · split at h
    · split at h
      · cases h; exact .inl rfl
      · cases h
    · split at h
      · cases h; exact .inr rfl
      · cases h
theorem owns_set {w : World} {B e s n b : Nat} {v : Value} {xs : List Value} (h : w.ownsRow B e s v n xs) (hb : b < B) (i : Nat) (x : Value) : (w.setCell ⟨b, i, none⟩ x).ownsRow B e s v n xs :=
  owns_block h fun g hg => Below.heap_setCell _ _ _ _ (by have := (row_lt h hg).1; show g ≠ b; omega)
theorem info_rtok : (Tryz.prog.info? 74).map (fun i => (i.zero, i.size, i.bytes)) = some (some (.agg #[.int .i64 0, .string ⟨#[]⟩, .int .i64 0, .int .i64 0, .int .i64 0]), 5, 48) := by kernel_rfl
theorem cellsOf4 {w : World} {b : Nat} {x0 x1 x2 x3 : Value} {t : TypeId} (h : w.heap[b]? = some (.cells #[x0, x1, x2, x3] t)) : w.cell? ⟨b, 0, none⟩ = some x0 ∧ w.cell? ⟨b, 1, none⟩ = some x1 ∧ w.cell? ⟨b, 2, none⟩ = some x2 ∧ w.cell? ⟨b, 3, none⟩ = some x3 := by
  refine ⟨?_, ?_, ?_, ?_⟩ <;> simp only [World.cell?, h] <;> rfl
/-- How the reference's Tokens ends. -/
def RefEnd (w : World) (R : Lexed) (e : Ending) (w' : World) : Prop :=
  match R with
  | .bad x l c => e = .returned (.tuple #[.slice none 0 0, .agg #[.int .i64 x, .int .i64 l, .int .i64 c, .string ⟨#[]⟩]]) ∧ Below w.heap.size w w'
  | .good r => (∃ rv, e = .returned (.tuple #[rv, .agg #[.int .i64 0, .int .i64 0, .int .i64 0, .string ⟨#[]⟩]]) ∧ w'.ownsRow w.heap.size 74 5 rv r.length (rowsT r)) ∧ Below w.heap.size w w'
/-- The result's block, set. -/
theorem res4 {w wr : World} (hb : Below w.heap.size w wr) (h : wr.heap[w.heap.size]? = some (.cells #[.int .i64 0, .int .i64 0, .int .i64 0, .string ⟨#[]⟩] 33)) (a b c d : Value) :
    ((((wr.setCell ⟨w.heap.size, 0, none⟩ a).setCell ⟨w.heap.size, 1, none⟩ b).setCell ⟨w.heap.size, 2, none⟩ c).setCell ⟨w.heap.size, 3, none⟩ d).heap[w.heap.size]? = some (.cells #[a, b, c, d] 33) ∧
    Below w.heap.size w ((((wr.setCell ⟨w.heap.size, 0, none⟩ a).setCell ⟨w.heap.size, 1, none⟩ b).setCell ⟨w.heap.size, 2, none⟩ c).setCell ⟨w.heap.size, 3, none⟩ d) :=
  ⟨setc (setc (setc (setc h 0 a) 1 b) 2 c) 3 d, (((hb.setCell (Nat.le_refl _) _).setCell (Nat.le_refl _) _).setCell (Nat.le_refl _) _).setCell (Nat.le_refl _) _⟩

theorem scan_skip {s : ByteArray} {i : Nat} (h : i < s.size) {PL : List (Int × Int)} {d : List Tok} {R : Lexed} {note note' : Bool} (hc : skipB note (s[i]'h).toNat = true) (hn : noteB note (s[i]'h).toNat = note')
    (hr : addL d (ref (s.extract i s.size) (PL.drop i) note) = R) : addL d (ref (s.extract (i + 1) s.size) (PL.drop (i + 1)) note') = R := by
  have h0x : ((s.extract i s.size).get! 0) = s[i]'h := (aft_get s i 0).trans (get_eq h)
  have h0 : (s.extract i s.size).size ≠ 0 := by simp; omega
  rw [ref_skip h0 _ _ (by rw [h0x]; exact hc), h0x, hn, List.drop_drop] at hr
  have e : aft (s.extract i s.size) 1 = s.extract (i + 1) s.size := aft_aft s i 1
  rw [e] at hr
  exact hr
theorem scan_tok {s : ByteArray} {i : Nat} (h : i < s.size) {PL : List (Int × Int)} {d : List Tok} {R : Lexed} {note : Bool} (hc : skipB note (s[i]'h).toNat = false) {k : Int} {n : Nat} {v : Int} (ht : readB (s.extract i s.size) = .tok k n v)
    (hr : addL d (ref (s.extract i s.size) (PL.drop i) note) = R) : addL (d ++ [⟨k, fore (s.extract i s.size) n, v, (PL.getD i (0, 0)).1, (PL.getD i (0, 0)).2⟩]) (ref (s.extract (i + n) s.size) (PL.drop (i + n)) false) = R := by
  have h0x : ((s.extract i s.size).get! 0) = s[i]'h := (aft_get s i 0).trans (get_eq h)
  have h0 : (s.extract i s.size).size ≠ 0 := by simp; omega
  rw [ref_tok h0 _ _ (by rw [h0x]; exact hc) ht, List.drop_drop, p0_drop] at hr
  have e : aft (s.extract i s.size) n = s.extract (i + n) s.size := aft_aft s i n
  rw [e] at hr
  rw [← hr]
  cases ref (s.extract (i + n) s.size) (PL.drop (i + n)) false with
  | bad a b c => rfl
  | good r => simp [addL]
theorem scan_bad {s : ByteArray} {i : Nat} (h : i < s.size) {PL : List (Int × Int)} {d : List Tok} {R : Lexed} {note : Bool} (hc : skipB note (s[i]'h).toNat = false) {x : Int} (ht : readB (s.extract i s.size) = .bad x)
    (hr : addL d (ref (s.extract i s.size) (PL.drop i) note) = R) : R = .bad x (PL.getD i (0, 0)).1 (PL.getD i (0, 0)).2 := by
  have h0x : ((s.extract i s.size).get! 0) = s[i]'h := (aft_get s i 0).trans (get_eq h)
  have h0 : (s.extract i s.size).size ≠ 0 := by simp; omega
  rw [ref_bad h0 _ _ (by rw [h0x]; exact hc) ht, p0_drop] at hr
  rw [← hr]
  rfl
theorem scan_end {s : ByteArray} {PL : List (Int × Int)} {d : List Tok} {R : Lexed} {note : Bool} (hr : addL d (ref (s.extract s.size s.size) (PL.drop s.size) note) = R) : R = .good (d ++ [⟨0, ⟨#[]⟩, 0, (PL.getD s.size (0, 0)).1, (PL.getD s.size (0, 0)).2⟩]) := by
  rw [ref_nil (by simp), p0_drop] at hr
  rw [← hr]
  rfl

set_option maxRecDepth 100000 in
set_option maxHeartbeats 16000000 in
theorem RefTokens_in (s : ByteArray) (w : World) : Calls Tryz.prog 8 #[.string s] w fun e w' => RefEnd w (tokensB s) e w' := by
  obtain ⟨i0, hi0, hz0, hz1, hz2⟩ := info_parts info_rtok
  rw [← ref_tokens]
  obtain ⟨R, hR⟩ : ∃ z, refTokens s = z := ⟨_, rfl⟩
  rw [hR]
  have HR := Lib.hid hR
  clear hR
  by_cases h65 : (65536 : Int) < (s.size : Int)
  · have HRR := Lib.hid (show R = .bad 6 1 1 by
      rw [← HR.out]
      unfold refTokens
      rw [if_pos (by omega)])
    go_enter Tryz.func8, Tryz.ntmps8
    go_wp2_with fail
    rw [HRR.out]
    exact bodyPost_ret (v := .tuple #[.slice none 0 0, .agg #[.int .i64 6, .int .i64 1, .int .i64 1, .string ⟨#[]⟩]]) (by simp [results, Tryz.results8, go_sem]) rfl ⟨rfl, (Below.refl _ _).alloc (Nat.le_refl _) _⟩
  · have hs : s.size ≤ 65536 := by omega
    have HP := Lib.hid fun W => Places_in s W (by omega)
    cases hv : va s 1 1 with
    | some p =>
      obtain ⟨l, c⟩ := p
      rw [hv] at HP
      have HRR := Lib.hid (show R = .bad 3 l c by
        rw [← HR.out]
        unfold refTokens
        rw [if_neg (by omega), hv])
      clear hv
      go_enter Tryz.func8, Tryz.ntmps8
      go_wp2_with fail
      refine (HP.out _).mono ?_
      rintro e w2 ⟨rfl, hb2⟩
      have HRS := Lib.hid ((hb2.block w.heap.size (by simp)).trans (last w (.cells #[.int .i64 0, .int .i64 0, .int .i64 0, .string ⟨#[]⟩] 33)))
      have HBW := Lib.hid (show Below w.heap.size w w2 from ((Below.refl w.heap.size w).alloc (Nat.le_refl _) _).trans (hb2.mono (by simp)))
      clear hb2
      go_upto_region 4 with fail
      have hlt := heap_lt HRS.out
      have HB3 := Lib.hid (HBW.out.alloc (by omega) (.cells #[.int .i64 l, .int .i64 c] 31))
      have HR3 := Lib.hid ((Below.heap_alloc w2 (.cells #[.int .i64 l, .int .i64 c] 31) _ hlt).trans HRS.out)
      have HA3 := Lib.hid (last w2 (.cells #[.int .i64 l, .int .i64 c] 31))
      clear HRS HBW hlt
      generalize w2.heap.size = n2 at *
      generalize w2.alloc (.cells #[.int .i64 l, .int .i64 c] 31) = w3 at *
      obtain ⟨r0, r1, r2, r3⟩ := cellsOf4 HR3.out
      have rf := frozenOf HR3.out
      obtain ⟨a0, a1⟩ := cellsOf2p HA3.out
      go_wp2_with fail
      go_region
      go_wp2_with fail
      have HQ := Lib.hid (res4 HB3.out HR3.out (.int .i64 3) (.int .i64 l) (.int .i64 c) (.string ⟨#[]⟩))
      obtain ⟨q0, q1, q2, q3⟩ := cellsOf4 HQ.out.1
      rw [HRR.out]
      exact bodyPost_ret (v := .tuple #[.slice none 0 0, .agg #[.int .i64 3, .int .i64 l, .int .i64 c, .string ⟨#[]⟩]]) (by simp [results, Tryz.results8, go_sem, q0, q1, q2, q3]) rfl ⟨rfl, HQ.out.2.drew⟩
    | none =>
      rw [hv] at HP
      have HRR := Lib.hid (show ref s (pl s 1 1) false = R by
        rw [← HR.out]
        unfold refTokens
        rw [if_neg (by omega), hv])
      have HLEN := Lib.hid (pl_length s.size s 1 1 (Nat.le_refl _) (Va.of hv))
      clear hv
      generalize pl s 1 1 = PL at *
      go_enter Tryz.func8, Tryz.ntmps8
      go_wp2_with fail
      refine (HP.out _).mono ?_
      rintro e w2 ⟨⟨rv, l1, c1, rfl, hown⟩, hb2⟩
      have HRS := Lib.hid ((hb2.block w.heap.size (by simp)).trans (last w (.cells #[.int .i64 0, .int .i64 0, .int .i64 0, .string ⟨#[]⟩] 33)))
      have HBW := Lib.hid (show Below w.heap.size w w2 from ((Below.refl w.heap.size w).alloc (Nat.le_refl _) _).trans (hb2.mono (by simp)))
      have hm : PL.length = s.size + 1 := HLEN.out
      rw [hm] at hown
      obtain ⟨g, cap, rfl, hgl⟩ := hown.form (by omega)
      have HC := Lib.hid (show ∀ j, j < (s.size + 1) * 2 → w2.cell? ⟨g, j, none⟩ = (rowsP PL)[j]? from fun j hj => hown.cellAt j hj)
      have hgw : g < w2.heap.size := (row_lt hown (k := g) rfl).2
      have HM := Lib.hid hm
      clear hb2 hown hm hgl
      go_upto_region 8 with fail
      have hlt := heap_lt HRS.out
      have HB3 := Lib.hid (HBW.out.alloc (by omega) (.cells #[.int .i64 l1, .int .i64 c1] 31))
      have HR3 := Lib.hid ((Below.heap_alloc w2 (.cells #[.int .i64 l1, .int .i64 c1] 31) _ hlt).trans HRS.out)
      have HC3 := Lib.hid (show ∀ i, i < s.size + 1 → (w2.alloc (.cells #[.int .i64 l1, .int .i64 c1] 31)).cell? ⟨g, i * 2, none⟩ = some (.int .i64 (PL.getD i (0, 0)).1) ∧ (w2.alloc (.cells #[.int .i64 l1, .int .i64 c1] 31)).cell? ⟨g, i * 2 + 1, none⟩ = some (.int .i64 (PL.getD i (0, 0)).2) from fun i hi => by
        have k := rowsP_get PL i (by rw [HM.out]; exact hi)
        rw [World.cell?_of_block (Below.heap_alloc w2 (.cells #[.int .i64 l1, .int .i64 c1] 31) g hgw) (a := ⟨g, i * 2, none⟩), World.cell?_of_block (Below.heap_alloc w2 (.cells #[.int .i64 l1, .int .i64 c1] 31) g hgw) (a := ⟨g, i * 2 + 1, none⟩)]
        exact ⟨(HC.out _ (by omega)).trans k.1, (HC.out _ (by omega)).trans k.2⟩)
      have hgl3 : g < (w2.alloc (.cells #[.int .i64 l1, .int .i64 c1] 31)).heap.size := by simp; omega
      clear HRS HBW hlt HC hgw
      generalize w2.alloc (.cells #[.int .i64 l1, .int .i64 c1] 31) = w3 at *
      have HAT := Lib.hid (show ∀ W i, Below w3.heap.size w3 W → i < s.size + 1 → W.cell? ⟨g, i * 2, none⟩ = some (.int .i64 (PL.getD i (0, 0)).1) ∧ W.cell? ⟨g, i * 2 + 1, none⟩ = some (.int .i64 (PL.getD i (0, 0)).2) from fun W i hb hi =>
        ⟨(hb.cell hgl3).trans (HC3.out i hi).1, (hb.cell hgl3).trans (HC3.out i hi).2⟩)
      have HRES := Lib.hid (show ∀ W, Below w3.heap.size w3 W → W.heap[w.heap.size]? = some (.cells #[.int .i64 0, .int .i64 0, .int .i64 0, .string ⟨#[]⟩] 33) from fun W hb => (hb.block _ (heap_lt HR3.out)).trans HR3.out)
      have HW3 := Lib.hid (heap_lt HR3.out)
      have HSTART := Lib.hid (show addL [] (ref (s.extract 0 s.size) (PL.drop 0) false) = R by
        have e0 : s.extract 0 s.size = s := by simp
        rw [e0, ← HRR.out, List.drop_zero]
        cases ref s PL false <;> rfl)
      go_wp2_with fail
      go_loopg [7, 8, 9] s.size (fun gk ov iv nv wr => ∃ (i : Nat) (note : Bool) (d : List Tok), iv = .int .i64 (i : Int) ∧ nv = .bool note ∧ s.size ≤ gk + i ∧ i ≤ s.size ∧ d.length ≤ i ∧ addL d (ref (s.extract i s.size) (PL.drop i) note) = R ∧ Below w3.heap.size w3 wr ∧ wr.ownsRow w3.heap.size 74 5 ov d.length (rowsT d))
      case atStart => exact ⟨0, false, [], rfl, rfl, by omega, by omega, by simp, HSTART.out, Below.refl _ _, World.ownsRow_nil _ _ _ _⟩
      case round =>
        obtain ⟨i, note, d, rfl, rfl, hgk, his, hdl, hrf, hb, hrow⟩ := hrel
        obtain ⟨A2, k2, rfl⟩ := row_form hrow
        have HRW := Lib.hid hrow
        have HB := Lib.hid hb
        have HRF := Lib.hid hrf
        clear hb hrow hrf
        have hsz : (s.extract i s.size).size = s.size - i := by simp
        by_cases hlt : i < s.size
        · obtain ⟨gq, rfl⟩ : ∃ g, gk = g + 1 := ⟨gk - 1, by omega⟩
          have hlt' : (i : Int) < (s.size : Int) := by omega
          have hle' : (i : Int) ≤ (s.size : Int) := by omega
          have hlm : (i : Int) < (s.size : Int) + 1 := by omega
          by_cases h10 : (s[i]'hlt).toNat = 10
          · have e35 : (((s[i]'hlt).toNat : Int) == 35) = false := by simp; omega
            have e10 : (((s[i]'hlt).toNat : Int) == 10) = true := by simp; omega
            have e32 : (((s[i]'hlt).toNat : Int) == 32) = false := by simp; omega
            have e9 : (((s[i]'hlt).toNat : Int) == 9) = false := by simp; omega
            have e13 : (((s[i]'hlt).toNat : Int) == 13) = false := by simp; omega
            have HN2 := Lib.hid (scan_skip (note' := false) hlt (by unfold skipB noteB; simp [h10]) (by unfold noteB; simp [h10]) HRF.out)
            go_wp2_with fail
            go_roundg gq
            case measure => omega
            case rel => exact ⟨i + 1, false, d, by first | rfl | go_num, rfl, by omega, by omega, by omega, HN2.out, HB.out, HRW.out⟩
          · have e10 : (((s[i]'hlt).toNat : Int) == 10) = false := by simp; omega
            by_cases h35 : (s[i]'hlt).toNat = 35
            · have e35 : (((s[i]'hlt).toNat : Int) == 35) = true := by simp; omega
              have HN2 := Lib.hid (scan_skip (note' := true) hlt (by unfold skipB noteB; simp [h35]) (by unfold noteB; simp [h35]) HRF.out)
              go_wp2_with fail
              go_roundg gq
              case measure => omega
              case rel => exact ⟨i + 1, true, d, by first | rfl | go_num, rfl, by omega, by omega, by omega, HN2.out, HB.out, HRW.out⟩
            · have e35 : (((s[i]'hlt).toNat : Int) == 35) = false := by simp; omega
              cases note with
              | true =>
                have HN2 := Lib.hid (scan_skip (note' := true) hlt (by unfold skipB noteB; simp [h10, h35]) (by unfold noteB; simp [h10, h35]) HRF.out)
                go_wp2_with fail
                go_roundg gq
                case measure => omega
                case rel => exact ⟨i + 1, true, d, by first | rfl | go_num, rfl, by omega, by omega, by omega, HN2.out, HB.out, HRW.out⟩
              | false =>
                by_cases h32 : (s[i]'hlt).toNat = 32
                · have e32 : (((s[i]'hlt).toNat : Int) == 32) = true := by simp; omega
                  have HN2 := Lib.hid (scan_skip (note' := false) hlt (by unfold skipB noteB; simp [h32]) (by unfold noteB; simp [h32]) HRF.out)
                  go_wp2_with fail
                  go_roundg gq
                  case measure => omega
                  case rel => exact ⟨i + 1, false, d, by first | rfl | go_num, rfl, by omega, by omega, by omega, HN2.out, HB.out, HRW.out⟩
                · have e32 : (((s[i]'hlt).toNat : Int) == 32) = false := by simp; omega
                  by_cases h9 : (s[i]'hlt).toNat = 9
                  · have e9 : (((s[i]'hlt).toNat : Int) == 9) = true := by simp; omega
                    have HN2 := Lib.hid (scan_skip (note' := false) hlt (by unfold skipB noteB; simp [h9]) (by unfold noteB; simp [h9]) HRF.out)
                    go_wp2_with fail
                    go_roundg gq
                    case measure => omega
                    case rel => exact ⟨i + 1, false, d, by first | rfl | go_num, rfl, by omega, by omega, by omega, HN2.out, HB.out, HRW.out⟩
                  · have e9 : (((s[i]'hlt).toNat : Int) == 9) = false := by simp; omega
                    by_cases h13 : (s[i]'hlt).toNat = 13
                    · have e13 : (((s[i]'hlt).toNat : Int) == 13) = true := by simp; omega
                      have HN2 := Lib.hid (scan_skip (note' := false) hlt (by unfold skipB noteB; simp [h13]) (by unfold noteB; simp [h13]) HRF.out)
                      go_wp2_with fail
                      go_roundg gq
                      case measure => omega
                      case rel => exact ⟨i + 1, false, d, by first | rfl | go_num, rfl, by omega, by omega, by omega, HN2.out, HB.out, HRW.out⟩
                    · have e13 : (((s[i]'hlt).toNat : Int) == 13) = false := by simp; omega
                      have HSK := Lib.hid (show skipB false (s[i]'hlt).toNat = false by unfold skipB noteB; simp [h10, h35, h32, h9, h13])
                      have ho := one_in (s.extract i s.size) wr (by omega) (by omega)
                      have HP0 := Lib.hid (show 0 < (s.extract i s.size).size by omega)
                      cases hr : readB (s.extract i s.size) with
                      | bad x =>
                        rw [hr] at ho
                        have hx : ((x : Int) == 0) = false := by
                          rcases read_code hr with rfl | rfl <;> rfl
                        have HRX := Lib.hid (scan_bad hlt HSK.out hr HRF.out)
                        clear hr
                        go_wp2_with fail
                        refine ho.mono ?_
                        clear ho
                        rintro e w5 ⟨rfl, hb5⟩
                        have HB5 := Lib.hid (HB.out.trans (hb5.mono HB.out.size))
                        have hs5 := HB5.out.size
                        clear hb5
                        go_upto_region 18 with fail
                        have HB6 := Lib.hid (HB5.out.alloc hs5 (.cells #[.int .i64 0, .string ⟨#[]⟩, .int .i64 0, .int .i64 0, .int .i64 0] 74))
                        generalize w5.alloc (.cells #[.int .i64 0, .string ⟨#[]⟩, .int .i64 0, .int .i64 0, .int .i64 0] 74) = w6 at *
                        obtain ⟨a0, a1⟩ := HAT.out w6 i HB6.out (by omega)
                        obtain ⟨L, C, hLC⟩ : ∃ L C, PL.getD i (0, 0) = (L, C) := ⟨_, _, rfl⟩
                        rw [hLC] at a0 a1 HRX
                        clear hLC
                        obtain ⟨r0, r1, r2, r3⟩ := cellsOf4 (HRES.out w6 HB6.out)
                        have rf := frozenOf (HRES.out w6 HB6.out)
                        go_region
                        go_wp2_with fail
                        have HQ := Lib.hid (res4 (HB3.out.trans (HB6.out.mono (Nat.le_of_lt HW3.out))) (HRES.out w6 HB6.out) (.int .i64 x) (.int .i64 L) (.int .i64 C) (.string ⟨#[]⟩))
                        obtain ⟨q0, q1, q2, q3⟩ := cellsOf4 HQ.out.1
                        rw [HRX.out]
                        exact bodyPost_ret (v := .tuple #[.slice none 0 0, .agg #[.int .i64 x, .int .i64 L, .int .i64 C, .string ⟨#[]⟩]]) (by simp [results, Tryz.results8, go_sem, q0, q1, q2, q3]) rfl ⟨rfl, HQ.out.2.drew⟩
                      | tok k n v =>
                        rw [hr] at ho
                        have hnn := readB_n HP0.out hr
                        have HNX := Lib.hid (scan_tok hlt HSK.out hr HRF.out)
                        clear hr
                        go_wp2_with fail
                        refine ho.mono ?_
                        clear ho
                        rintro e w5 ⟨rfl, hb5⟩
                        have HBW := Lib.hid hb5
                        have hs5 := hb5.size
                        clear hb5
                        obtain ⟨T, hT⟩ : ∃ z, fore (s.extract i s.size) n = z := ⟨_, rfl⟩
                        rw [hT] at HNX
                        rw [hT]
                        clear hT
                        go_upto_region 19 with fail
                        have HB6 := Lib.hid (HBW.out.alloc hs5 (.cells #[.int .i64 k, .string T, .int .i64 v, .int .i64 0, .int .i64 0] 74))
                        have HT6 := Lib.hid (last w5 (.cells #[.int .i64 k, .string T, .int .i64 v, .int .i64 0, .int .i64 0] 74))
                        generalize w5.heap.size = n5 at *
                        generalize w5.alloc (.cells #[.int .i64 k, .string T, .int .i64 v, .int .i64 0, .int .i64 0] 74) = w6 at *
                        have HB36 := Lib.hid (HB.out.trans (HB6.out.mono HB.out.size))
                        obtain ⟨a0, a1⟩ := HAT.out w6 i HB36.out (by omega)
                        obtain ⟨L, C, hLC⟩ : ∃ L C, PL.getD i (0, 0) = (L, C) := ⟨_, _, rfl⟩
                        rw [hLC] at a0 a1 HNX
                        clear hLC
                        obtain ⟨t0, t1, t2, t3, t4⟩ := cellsOf5 HT6.out
                        have tf := frozenOf HT6.out
                        go_upto_region 20 with fail
                        have HB7 := Lib.hid ((HB6.out.setCell (show wr.heap.size ≤ (⟨n5, 3, none⟩ : Addr).block from hs5) (.int .i64 L)).setCell (show wr.heap.size ≤ (⟨n5, 4, none⟩ : Addr).block from hs5) (.int .i64 C))
                        have HT7 := Lib.hid (setc (setc HT6.out 3 (.int .i64 L)) 4 (.int .i64 C))
                        generalize (w6.setCell ⟨n5, 3, none⟩ (.int .i64 L)).setCell ⟨n5, 4, none⟩ (.int .i64 C) = w7 at *
                        clear a0 a1 t0 t1 t2 t3 t4 tf
                        have HR7 := Lib.hid (owns_block HRW.out fun g hg => HB7.out.block g (row_lt HRW.out hg).2)
                        have HT8 := Lib.hid (show w7.heap[n5]? = some (.cells #[.int .i64 k, .string T, .int .i64 v, .int .i64 L, .int .i64 C] 74) from HT7.out)
                        obtain ⟨t0, t1, t2, t3, t4⟩ := cellsOf5 HT8.out
                        have HS7 := Lib.hid (show w3.heap.size ≤ w7.heap.size from Nat.le_trans HB.out.size HB7.out.size)
                        have HDL := Lib.hid hdl
                        go_wp2_with (at_builtin; refine wpList_append_own _ rfl _ _ 28 rfl w3.heap.size 74 i0 (.agg #[.int .i64 0, .string ⟨#[]⟩, .int .i64 0, .int .i64 0, .int .i64 0]) 5 48 Tryz.underlying28 hi0 hz0 hz1 hz2 rfl (by decide) (.slice A2 d.length k2) d.length (rowsT d) rfl (HR7.out.alloc _) ⟨w7.heap.size, 0, none⟩ 1 1 (tokCells ⟨k, T, v, L, C⟩) rfl rfl ?c2 ?c3 ?c4 ?c5 ?c6 ?_)
                        case c2 => exact fun j u h => h
                        case c3 => simp [tokCells, Value.oneCell']
                        case c4 => unfold maxLen; omega
                        case c5 => omega
                        case c6 => have := HS7.out; simp; omega
                        intro v' w8 hown hgrow hnil
                        have HB8 := Lib.hid (((HB.out.trans (HB7.out.mono HB.out.size)).alloc HS7.out _).grown hgrow (by have := HS7.out; simp; omega) fun k hk => (row_lt HR7.out hk).1)
                        have HR8 := Lib.hid (show w8.ownsRow w3.heap.size 74 5 v' (d ++ [Tok.mk k T v L C]).length (rowsT (d ++ [Tok.mk k T v L C])) by
                          rw [rowsT_append, List.length_append]
                          simpa [rowsT] using hown)
                        clear hown hgrow hnil t0 t1 t2 t3 t4
                        have hin : (i : Int) + (n : Int) ≤ (s.size : Int) := by omega
                        go_wp2_with fail
                        go_roundg gq
                        case measure => omega
                        case rel =>
                          refine ⟨i + n, false, d ++ [⟨k, T, v, L, C⟩], by first | rfl | go_num, rfl, by omega, by omega, ?_, HNX.out, HB8.out, HR8.out⟩
                          rw [List.length_append]
                          simp only [List.length_cons, List.length_nil]
                          omega
        · have hlt' : ¬ (i : Int) < (s.size : Int) := by omega
          obtain rfl : i = s.size := by omega
          have HRX := Lib.hid (scan_end HRF.out)
          obtain ⟨a0, a1⟩ := HAT.out wr s.size HB.out (by omega)
          obtain ⟨L, C, hLC⟩ : ∃ L C, PL.getD s.size (0, 0) = (L, C) := ⟨_, _, rfl⟩
          rw [hLC] at a0 a1 HRX
          clear hLC
          have hlm : (s.size : Int) < (s.size : Int) + 1 := by omega
          have hsb := HB.out.size
          have HDL := Lib.hid hdl
          go_wp2_with (at_builtin; refine wpList_append_own _ rfl _ _ 28 rfl w3.heap.size 74 i0 (.agg #[.int .i64 0, .string ⟨#[]⟩, .int .i64 0, .int .i64 0, .int .i64 0]) 5 48 Tryz.underlying28 hi0 hz0 hz1 hz2 rfl (by decide) (.slice A2 d.length k2) d.length (rowsT d) rfl (HRW.out.alloc _) ⟨wr.heap.size, 0, none⟩ 1 1 (tokCells ⟨0, ⟨#[]⟩, 0, L, C⟩) rfl rfl ?c2 ?c3 ?c4 ?c5 ?c6 ?_)
          case c2 => exact fun j u h => h
          case c3 => simp [tokCells, Value.oneCell']
          case c4 => unfold maxLen; omega
          case c5 => omega
          case c6 => first | omega | (simp; omega)
          intro v' w8 hown hgrow hnil
          have HB8 := Lib.hid ((HB.out.alloc hsb _).grown hgrow (by simp; omega) fun k hk => (row_lt HRW.out hk).1)
          have HR8 := Lib.hid (show w8.ownsRow w3.heap.size 74 5 v' (d ++ [Tok.mk 0 ⟨#[]⟩ 0 L C]).length (rowsT (d ++ [Tok.mk 0 ⟨#[]⟩ 0 L C])) by
            rw [rowsT_append, List.length_append]
            simpa [rowsT] using hown)
          clear hown hgrow hnil a0 a1
          obtain ⟨r0, r1, r2, r3⟩ := cellsOf4 (HRES.out w8 HB8.out)
          have rf := frozenOf (HRES.out w8 HB8.out)
          go_wp2_with fail
          have HQ := Lib.hid (res4 (HB3.out.trans (HB8.out.mono (Nat.le_of_lt HW3.out))) (HRES.out w8 HB8.out) (.int .i64 0) (.int .i64 0) (.int .i64 0) (.string ⟨#[]⟩))
          have HQR := Lib.hid (row_base (owns_set (owns_set (owns_set (owns_set HR8.out HW3.out 0 (.int .i64 0)) HW3.out 1 (.int .i64 0)) HW3.out 2 (.int .i64 0)) HW3.out 3 (.string ⟨#[]⟩)) (Nat.le_of_lt HW3.out))
          obtain ⟨q0, q1, q2, q3⟩ := cellsOf4 HQ.out.1
          rw [HRX.out]
          exact bodyPost_ret (v := .tuple #[v', .agg #[.int .i64 0, .int .i64 0, .int .i64 0, .string ⟨#[]⟩]]) (by simp [results, Tryz.results8, go_sem, q0, q1, q2, q3]) rfl ⟨⟨v', rfl, HQR.out⟩, HQ.out.2⟩
end Go.Proofs.YtinebmfmkgjaaaaGreatDoor
