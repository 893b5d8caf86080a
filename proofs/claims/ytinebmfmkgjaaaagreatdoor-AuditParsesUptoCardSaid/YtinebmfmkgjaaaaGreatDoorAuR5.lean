/- The reference's words. -/
import Derived.Test.YtinebmfmkgjaaaaGreatDoorAuR4
set_option linter.unusedVariables false
set_option linter.unusedSimpArgs false
namespace Go.Proofs.YtinebmfmkgjaaaaGreatDoor
open Go.RowKit

theorem row_set {W : World} {B e s g cap n m j : Nat} {x : Value} {xs : List Value} (h : W.ownsRow B e s (.slice (some ⟨g, 0, none⟩) n cap) m xs) :
    (W.setCell ⟨g, j, none⟩ x).ownsRow B e s (.slice (some ⟨g, 0, none⟩) n cap) m (xs.set j x) := by
  refine ⟨by rw [List.length_set]; exact h.1, ?_⟩
  rcases h.2 with ⟨e, _⟩ | ⟨g', cap', cur, e, hb, hg, hn, hm, hs, ht⟩
  · cases e
  · cases e
    refine .inr ⟨g, cap, cur.setIfInBounds j x, rfl, hb, setc hg j x, hn, hm, by simpa using hs, ?_⟩
    rw [Array.toList_setIfInBounds, List.take_set, ht]
/-- One byte more. -/
def addW (ws : List (List UInt8)) (c : UInt8) : List (List UInt8) := if c = 32 then ws ++ [[]] else ws.dropLast ++ [ws.getLastD [] ++ [c]]
theorem words_snoc : ∀ (l : List UInt8) (c : UInt8), wordsL (l ++ [c]) = addW (wordsL l) c
  | [], c => by
    unfold addW
    by_cases h : c = 32
    · subst h
      rfl
    · rw [if_neg h]
      simp [wordsL, h]
  | a :: l, c => by
    have ih := words_snoc l c
    have hn := wordsL_ne l
    rw [List.cons_append, wordsL, ih]
    conv => rhs; rw [wordsL]
    cases hw : wordsL l with
    | nil => exact absurd hw hn
    | cons w ws =>
      unfold addW
      by_cases ha : a = 32
      · rw [if_pos ha, if_pos ha]
        by_cases h : c = 32
        · rw [if_pos h, if_pos h]
          rfl
        · rw [if_neg h, if_neg h]
          simp
      · rw [if_neg ha, if_neg ha]
        by_cases h : c = 32
        · rw [if_pos h, if_pos h]
          rfl
        · rw [if_neg h, if_neg h]
          cases ws with
          | nil => rfl
          | cons v ws => simp
theorem wordsB_snoc (l : List UInt8) (c : UInt8) : (wordsL (l ++ [c])).map bs = if c = 32 then (wordsL l).map bs ++ [bs []] else ((wordsL l).map bs).set ((wordsL l).length - 1) (((wordsL l).map bs).getD ((wordsL l).length - 1) ByteArray.empty ++ bs [c]) := by
  rw [words_snoc]
  unfold addW
  have hn := wordsL_ne l
  obtain ⟨init, last, he⟩ : ∃ init last, wordsL l = init ++ [last] := ⟨(wordsL l).dropLast, (wordsL l).getLast hn, (List.dropLast_concat_getLast hn).symm⟩
  rw [he]
  split
  · simp
  · have e : bs (last ++ [c]) = bs last ++ bs [c] := by
      apply data_inj
      rw [app_list]
      simp [bs]
    simp [e]
theorem wrap_pred (n : Nat) (h1 : 1 ≤ n) (h2 : n ≤ 8388609) : wrap64 ((n : Int) - 1) = ((n - 1 : Nat) : Int) := by
  obtain ⟨m, rfl⟩ : ∃ m, n = m + 1 := ⟨n - 1, by omega⟩
  have e : (((m + 1 : Nat) : Int) - 1) = (m : Int) := by omega
  rw [e, Nat.add_sub_cancel]
  exact wrap_in ⟨by omega, by omega⟩
theorem list1 (l : List UInt8) (h : l.length = 1) : l = [l[0]'(by omega)] := by
  match l, h with
  | [a], _ => rfl
theorem one_cut (s : ByteArray) (i : Nat) (h : i < s.size) : s.extract i (i + 1) = bs [s[i]'h] := by
  have hs : (s.extract i (i + 1)).size = 1 := by
    rw [ByteArray.size_extract]
    omega
  have hl : (s.extract i (i + 1)).data.toList.length = 1 := by
    rw [Array.length_toList]
    exact hs
  have e : (s.extract i (i + 1)).data.toList[0]'(by omega) = s[i]'h := by
    show (s.extract i (i + 1))[0]'(by omega) = s[i]'h
    rw [ByteArray.getElem_extract]
    rfl
  apply data_inj
  have hb : (bs [s[i]'h]).data.toList = [s[i]'h] := rfl
  rw [hb, ← e]
  exact list1 _ hl
end Go.Proofs.YtinebmfmkgjaaaaGreatDoor
namespace Go.Proofs.YtinebmfmkgjaaaaGreatDoor
open Go.RowKit

set_option maxRecDepth 100000 in
set_option maxHeartbeats 8000000 in
theorem words_in (s : ByteArray) (w : World) (hs : s.size ≤ 8388608) : Calls Tryz.prog 36 #[.string s] w fun e w' => (∃ v, e = .returned v ∧ w'.ownsRow w.heap.size 9 1 v (splitW s).length (strs (splitW s))) ∧ Below w.heap.size w w' := by
  obtain ⟨i0, hi0, hz0, hz1, hz2⟩ := info_parts info_str
  go_enter Tryz.func36, Tryz.ntmps36
  have HR0 := Lib.hid (show (w.alloc (.cells #[.string ⟨#[]⟩] 9)).ownsRow w.heap.size 9 1 (.slice (some ⟨w.heap.size, 0, none⟩) 1 1) 1 (strs ((wordsL (s.data.toList.take 0)).map bs)) from
    ⟨rfl, .inr ⟨w.heap.size, 1, #[.string ⟨#[]⟩], rfl, Nat.le_refl _, last w _, Nat.le_refl _, by unfold maxLen; omega, rfl, rfl⟩⟩)
  have HB0 := Lib.hid ((Below.refl w.heap.size w).alloc (Nat.le_refl _) (.cells #[.string ⟨#[]⟩] 9))
  go_wp2_with fail
  go_loopg [3, 4] s.size (fun gk ov iv wr => ∃ (i n cap g : Nat) (W : List ByteArray), iv = .int .i64 (i : Int) ∧ ov = .slice (some ⟨g, 0, none⟩) n cap ∧ i + gk = s.size ∧ Below w.heap.size w wr ∧ wr.ownsRow w.heap.size 9 1 (.slice (some ⟨g, 0, none⟩) n cap) n (strs W) ∧ W = (wordsL (s.data.toList.take i)).map bs ∧ 1 ≤ n ∧ n ≤ i + 1 ∧ W.length = n ∧ ∀ j, j < n → (W.getD j ByteArray.empty).size ≤ i)
  case atStart => exact ⟨0, 1, 1, w.heap.size, _, rfl, rfl, by omega, HB0.out, HR0.out, rfl, by omega, by omega, rfl, fun j hj => by
    have hj0 : j = 0 := (by omega)
    subst hj0
    exact Nat.le_refl _⟩
  case round =>
    obtain ⟨i, n, cap, g, W, rfl, rfl, hig, hb, hrow, hW, hn1, hn2, hWn, hsz⟩ := hrel
    have HB := Lib.hid (And.intro hb hrow)
    have hgl : w.heap.size ≤ g ∧ g < wr.heap.size := row_lt hrow rfl
    clear hb hrow
    have hll : s.data.toList.length = s.size := by simp
    by_cases hlt : i < s.size
    · obtain ⟨gq, rfl⟩ : ∃ g, gk = g + 1 := ⟨gk - 1, by omega⟩
      have hlt' : (i : Int) < (s.size : Int) := by omega
      have HSN := Lib.hid (show (wordsL (s.data.toList.take (i + 1))).map bs = if s[i]'hlt = 32 then W ++ [bs []] else W.set (n - 1) (W.getD (n - 1) ByteArray.empty ++ bs [s[i]'hlt]) by
        have e : s.data.toList.take (i + 1) = s.data.toList.take i ++ [s[i]'hlt] := by
          rw [List.take_succ_eq_append_getElem (by omega)]
          rfl
        have hl : (wordsL (s.data.toList.take i)).length = n := by
          rw [hW, List.length_map] at hWn
          exact hWn
        rw [e, wordsB_snoc, hl, hW])
      have HWF := Lib.hid (And.intro hWn hsz)
      clear hW hWn hsz
      by_cases h32 : (s[i]'hlt).toNat = 32
      · have h32' : (((s[i]'hlt).toNat : Int) == 32) = true := by simp; omega
        have hc32 : s[i]'hlt = 32 := UInt8.toNat_inj.1 h32
        rw [if_pos hc32] at HSN
        clear hc32
        go_wp2_with (at_builtin; refine wpList_append_lies _ rfl _ _ 40 rfl w.heap.size 9 i0 (.string ⟨#[]⟩) 1 16 Tryz.underlying40 hi0 hz0 hz1 hz2 rfl (by decide) (.slice (some ⟨g, 0, none⟩) n cap) n (strs W) rfl (HB.out.2.alloc _) ⟨wr.heap.size, 0, none⟩ 1 1 [.string ⟨#[]⟩] rfl rfl ?c2 ?c3 (by decide) ?c4 ?c5 ?c6 (wr.alloc (.cells #[.string ⟨#[]⟩] 9)).heap.size ?c7 ?_)
        case c2 => first | exact fun j u h => h | exact news1 _ _ _
        case c3 => simp [Value.oneCell']
        case c4 => unfold maxLen; omega
        case c5 => omega
        case c6 => first | omega | (simp; omega)
        case c7 => first | rfl | simp
        intro g' cap' wa hown hgrow hat hlt1
        have HB4 := Lib.hid (grow_below HB.out.1 (by omega) HB.out.2 hgrow)
        have HR4 := Lib.hid (show wa.ownsRow w.heap.size 9 1 (.slice (some ⟨g', 0, none⟩) (n + 1) cap') (n + 1) (strs (W ++ [bs []])) by
          rw [strs_snoc]
          exact hown)
        clear hown hgrow hat hlt1
        go_wp2_with fail
        go_roundg gq
        case measure => omega
        case rel =>
          refine ⟨i + 1, n + 1, cap', g', W ++ [bs []], by first | rfl | go_num, rfl, by omega, HB4.out, HR4.out, HSN.out.symm, by omega, by omega, by rw [List.length_append, HWF.out.1]; rfl, fun j hj => ?_⟩
          by_cases e : j < n
          · have h := HWF.out.2 j e
            have e2 : (W ++ [bs []]).getD j ByteArray.empty = W.getD j ByteArray.empty := by
              rw [List.getD, List.getD, List.getElem?_append_left (by rw [HWF.out.1]; exact e)]
            rw [e2]
            omega
          · have hjn : j = W.length := (by have := HWF.out.1; omega)
            have e2 : (W ++ [bs []]).getD j ByteArray.empty = bs [] := by
              rw [hjn, List.getD, List.getElem?_append_right (Nat.le_refl _), Nat.sub_self]
              rfl
            rw [e2]
            exact Nat.zero_le _
      · have h32' : (((s[i]'hlt).toNat : Int) == 32) = false := by simp; omega
        have hc32 : ¬ s[i]'hlt = 32 := fun e => h32 (by rw [e]; rfl)
        rw [if_neg hc32] at HSN
        clear hc32
        have hcell : wr.cell? ⟨g, n - 1, none⟩ = some (.string (W.getD (n - 1) ByteArray.empty)) := by
          refine (HB.out.2.cellAt (n - 1) (by omega)).trans ?_
          unfold strs
          have hl : n - 1 < W.length := by rw [HWF.out.1]; omega
          rw [List.getElem?_map, List.getElem?_eq_getElem hl, List.getD, List.getElem?_eq_getElem hl]
          rfl
        have hfr : wr.frozen? ⟨g, n - 1, none⟩ = false := by
          obtain ⟨cur, hcur⟩ : ∃ cur, wr.heap[g]? = some (.cells cur 9 (0, 0)) := by
            rcases HB.out.2.2 with ⟨e, _⟩ | ⟨g1, c1, cur, e, h1, h2, _⟩
            · cases e
            · cases e
              exact ⟨cur, h2⟩
          exact frozenOf hcur _
        have hn3 : n ≤ 8388609 := by omega
        have hb1 : ((n - 1 : Nat) : Int) < (n : Int) := by omega
        have hnn : (0 : Int) ≤ ((n - 1 : Nat) : Int) := by omega
        have hi2 : (i : Int) + 1 ≤ (s.size : Int) := by omega
        have HX := Lib.hid (one_cut s i hlt)
        have hlast := HWF.out.2 (n - 1) (by omega)
        have HGX := Lib.hid (show ∀ j, j < n → j ≠ n - 1 → ∀ Y : ByteArray, (W.set (n - 1) Y).getD j ByteArray.empty = W.getD j ByteArray.empty from fun j hj hne Y => by
          rw [List.getD, List.getD, List.getElem?_set_ne (fun e => hne e.symm)])
        have HGY := Lib.hid (show ∀ Y : ByteArray, (W.set (n - 1) Y).getD (n - 1) ByteArray.empty = Y from fun Y => by
          have hl : n - 1 < W.length := by rw [HWF.out.1]; omega
          rw [List.getD, List.getElem?_set_self hl]
          rfl)
        generalize W.getD (n - 1) ByteArray.empty = X at *
        have z1 : ¬ 9223372036854775807 < X.size + 1 := by omega
        have HLX := Lib.hid hlast
        clear hlast
        have HIG := Lib.hid hig
        have HGL := Lib.hid hgl
        have HXY := Lib.hid (show X.size + 1 ≤ i + 1 by have := HLX.out; omega)
        have htn : ((n : Int) - 1).toNat = n - 1 := by omega
        have hb2 : (n : Int) - 1 < (n : Int) := by omega
        have hnn2 : (0 : Int) ≤ (n : Int) - 1 := by omega
        have hi3 : ((i : Int) + 1).toNat = i + 1 := by omega
        clear hb1 hnn hgl hig hn3
        go_upto_region 7 with fail
        go_region
        have HR4 := Lib.hid (show ((wr.setCell ⟨g, n - 1, none⟩ (.string (X ++ s.extract i (i + 1)))).drew).ownsRow w.heap.size 9 1 (.slice (some ⟨g, 0, none⟩) n cap) n (strs (W.set (n - 1) (X ++ s.extract i (i + 1)))) by
          have h := row_set (j := n - 1) (x := .string (X ++ s.extract i (i + 1))) HB.out.2
          have e : strs (W.set (n - 1) (X ++ s.extract i (i + 1))) = (strs W).set (n - 1) (.string (X ++ s.extract i (i + 1))) := List.map_set
          rw [e]
          exact h)
        have HB4 := Lib.hid (show Below w.heap.size w ((wr.setCell ⟨g, n - 1, none⟩ (.string (X ++ s.extract i (i + 1)))).drew) from (HB.out.1.setCell (show w.heap.size ≤ (⟨g, n - 1, none⟩ : Addr).block from HGL.out.1) _).drew)
        have HZ := Lib.hid (show (X ++ s.extract i (i + 1)).size = X.size + 1 by
          rw [ByteArray.size_append, HX.out]
          rfl)
        have HSE := Lib.hid (show W.set (n - 1) (X ++ s.extract i (i + 1)) = (wordsL (s.data.toList.take (i + 1))).map bs by rw [HSN.out, HX.out])
        generalize X ++ s.extract i (i + 1) = Y at *
        clear hcell hfr htn hb2 hnn2
        go_wp2_with fail
        have hig := HIG.out
        go_roundg gq
        case measure => omega
        case rel =>
          refine ⟨i + 1, n, cap, g, W.set (n - 1) Y, by first | rfl | go_num, rfl, by omega, HB4.out, HR4.out, HSE.out, hn1, by omega, by rw [List.length_set]; exact HWF.out.1, fun j hj => ?_⟩
          by_cases e : j = n - 1
          · rw [e, HGY.out, HZ.out]
            exact HXY.out
          · rw [HGX.out j hj e]
            have := HWF.out.2 j hj
            omega
    · have hlt' : ¬ (i : Int) < (s.size : Int) := by omega
      obtain rfl : i = s.size := by omega
      have HFIN := Lib.hid (show wr.ownsRow w.heap.size 9 1 (.slice (some ⟨g, 0, none⟩) n cap) (splitW s).length (strs (splitW s)) by
        have ht : s.data.toList.take s.size = s.data.toList := List.take_of_length_le (by omega)
        have e : W = splitW s := by
          rw [hW, ht]
          rfl
        have h := HB.out.2
        rw [← e, hWn]
        exact h)
      go_wp2_with fail
      exact bodyPost_ret (v := .slice (some ⟨g, 0, none⟩) n cap) (by simp [results, Tryz.results36, go_sem]) rfl ⟨⟨_, rfl, HFIN.out⟩, HB.out.1⟩
end Go.Proofs.YtinebmfmkgjaaaaGreatDoor
