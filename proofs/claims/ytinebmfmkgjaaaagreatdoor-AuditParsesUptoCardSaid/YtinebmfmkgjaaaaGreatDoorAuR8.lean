/- The reference's Parse, walked. -/
import Derived.Test.YtinebmfmkgjaaaaGreatDoorAuR6
import Derived.Test.YtinebmfmkgjaaaaGreatDoorAuL3
set_option linter.unusedVariables false
set_option linter.unusedSimpArgs false
namespace Go.Proofs.YtinebmfmkgjaaaaGreatDoor
open Go.RowKit

theorem figB_ok (s : ByteArray) : okI (figB s) := by
  unfold figB
  split
  · rename_i h
    have h1 := numV_lt s.data.toList h.2.1 s.data.toList.length (Nat.le_refl _)
    rw [List.take_length] at h1
    have h2 : s.data.toList.length = s.size := by simp
    have h3 : (10 : Nat) ^ s.data.toList.length ≤ 10 ^ 10 := Nat.pow_le_pow_right (by decide) (by rw [h2]; exact h.1)
    have h4 := Nat.lt_of_lt_of_le h1 h3
    exact ⟨by omega, by omega⟩
  · exact ⟨by decide, by decide⟩
/-- Where the reference's Parse stands. -/
structure RpAt (w : World) (rs : List Rw) (us : List ByteArray) (rv uv : Value) (wr : World) : Prop where
  below : Below w.heap.size w wr
  rows : wr.ownsRow w.heap.size 59 6 rv rs.length (rowsR rs)
  uns : wr.ownsRow w.heap.size 9 1 uv us.length (strs us)
  apart : ∀ g, rv.ownBlock = some g → uv.ownBlock ≠ some g
section
variable {w : World} {rs : List Rw} {us : List ByteArray} {rv uv : Value} {wr : World}
theorem RpAt.under (h : RpAt w rs us rv uv wr) {w' : World} (hb : Below wr.heap.size wr w') : RpAt w rs us rv uv w' :=
  ⟨chain h.below hb, owns_block h.rows fun g hg => hb.block g (row_lt h.rows hg).2, owns_block h.uns fun g hg => hb.block g (row_lt h.uns hg).2, h.apart⟩
theorem RpAt.pushU (h : RpAt w rs us rv uv wr) {wa : World} {o : Obj} {x : ByteArray} {g cap n : Nat} (hown : wa.ownsRow w.heap.size 9 1 (.slice (some ⟨g, 0, none⟩) n cap) (us.length + 1) (strs us ++ [.string x]))
    (hg : (wr.alloc o).grownBy wa uv.ownBlock) (hat : uv.ownBlock = some g ∨ g = wr.heap.size + 1) : RpAt w rs (us ++ [x]) rv (.slice (some ⟨g, 0, none⟩) n cap) wa := by
  have hs := h.below.size
  have hk : ∀ k, k < wr.heap.size → uv.ownBlock ≠ some k → wa.heap[k]? = wr.heap[k]? := fun k hk hn => (hg.block k (by simp; omega) (fun e => hn e.symm)).trans (Below.heap_alloc _ _ _ hk)
  refine ⟨(h.below.alloc hs o).grown hg (by simp; omega) fun k hk => (row_lt h.uns hk).1, ?_, ?_, ?_⟩
  · exact owns_block h.rows fun g' hg' => hk _ (row_lt h.rows hg').2 (h.apart g' hg')
  · rw [List.length_append, strs_snoc]
    exact hown
  · intro g' hg' e
    have hgg : g = g' := by simpa [Value.ownBlock] using e
    subst hgg
    rcases hat with h1 | h1
    · exact h.apart g hg' h1
    · have := (row_lt h.rows hg').2
      omega
theorem RpAt.pushR (h : RpAt w rs us rv uv wr) {wa : World} {o : Obj} {x : Rw} {g cap n : Nat} (hown : wa.ownsRow w.heap.size 59 6 (.slice (some ⟨g, 0, none⟩) n cap) (rs.length + 1) (rowsR rs ++ rwCells x))
    (hg : (wr.alloc o).grownBy wa rv.ownBlock) (hat : rv.ownBlock = some g ∨ g = wr.heap.size + 1) : RpAt w (rs ++ [x]) us (.slice (some ⟨g, 0, none⟩) n cap) uv wa := by
  have hs := h.below.size
  have hk : ∀ k, k < wr.heap.size → rv.ownBlock ≠ some k → wa.heap[k]? = wr.heap[k]? := fun k hk hn => (hg.block k (by simp; omega) (fun e => hn e.symm)).trans (Below.heap_alloc _ _ _ hk)
  refine ⟨(h.below.alloc hs o).grown hg (by simp; omega) fun k hk => (row_lt h.rows hk).1, ?_, ?_, ?_⟩
  · rw [List.length_append, rowsR_append]
    simpa [rowsR] using hown
  · exact owns_block h.uns fun g' hg' => hk _ (row_lt h.uns hg').2 (fun e => h.apart g' e hg')
  · intro g' hg' e
    have hgg : g = g' := by simpa [Value.ownBlock] using hg'
    subst hgg
    rcases hat with h1 | h1
    · exact h.apart g h1 e
    · have := (row_lt h.uns e).2
      omega
end
end Go.Proofs.YtinebmfmkgjaaaaGreatDoor
namespace Go.Proofs.YtinebmfmkgjaaaaGreatDoor
open Go.RowKit

theorem drop_consR {l : List ByteArray} {i : Nat} (h : i < l.length) : l.drop i = l.getD i ByteArray.empty :: l.drop (i + 1) := by
  rw [List.drop_eq_getElem_cons h, List.getD, List.getElem?_eq_getElem h]
  rfl
def RefParseEnd (w : World) (R : Option (List Rw × List ByteArray)) (e : Ending) (w' : World) : Prop := match R with
  | some (rs, us) => (∃ rv uv, e = .returned (.tuple #[rv, uv, .bool (linesR rs us).isSome]) ∧ w'.ownsRow w.heap.size 59 6 rv rs.length (rowsR rs) ∧ w'.ownsRow w.heap.size 9 1 uv us.length (strs us)) ∧ Below w.heap.size w w'
  | none => e = .returned (.tuple #[.slice none 0 0, .slice none 0 0, .bool false]) ∧ Below w.heap.size w w'
theorem getD_snoc_ok {rs : List Rw} {x : Rw} (h : ∀ i, i < rs.length → (rs.getD i default).ok) (hx : x.ok) : ∀ i, i < (rs ++ [x]).length → ((rs ++ [x]).getD i default).ok := fun i hi => by
  by_cases e : i < rs.length
  · have e2 : (rs ++ [x]).getD i default = rs.getD i default := by rw [List.getD, List.getD, List.getElem?_append_left e]
    rw [e2]
    exact h i e
  · have hi2 : i = rs.length := by
      rw [List.length_append] at hi
      simp only [List.length_cons, List.length_nil] at hi
      omega
    have e2 : (rs ++ [x]).getD i default = x := by
      rw [hi2, List.getD, List.getElem?_append_right (Nat.le_refl _), Nat.sub_self]
      rfl
    rw [e2]
    exact hx
theorem getD_snoc_size {us : List ByteArray} {x : ByteArray} (h : ∀ i, i < us.length → (us.getD i ByteArray.empty).size ≤ 1048576) (hx : x.size ≤ 1048576) : ∀ i, i < (us ++ [x]).length → ((us ++ [x]).getD i ByteArray.empty).size ≤ 1048576 := fun i hi => by
  by_cases e : i < us.length
  · have e2 : (us ++ [x]).getD i ByteArray.empty = us.getD i ByteArray.empty := by rw [List.getD, List.getD, List.getElem?_append_left e]
    rw [e2]
    exact h i e
  · have hi2 : i = us.length := by
      rw [List.length_append] at hi
      simp only [List.length_cons, List.length_nil] at hi
      omega
    have e2 : (us ++ [x]).getD i ByteArray.empty = x := by
      rw [hi2, List.getD, List.getElem?_append_right (Nat.le_refl _), Nat.sub_self]
      rfl
    rw [e2]
    exact hx
set_option maxRecDepth 100000 in
set_option maxHeartbeats 16000000 in
theorem refParse_in (A : Option Addr) (cap : Nat) (l : List ByteArray) (w : World) (hl : l.length ≤ 1048576) (hs : ∀ i, i < l.length → (l.getD i ByteArray.empty).size ≤ 1048576) (hat : LinesAt w A l) :
    Calls Tryz.prog 19 #[.slice A l.length cap] w fun e w' => RefParseEnd w (parseR l [] []) e w' := by
  obtain ⟨i0, hi0, hz0, hz1, hz2⟩ := info_parts info_str
  obtain ⟨j0, hj0, hy0, hy1, hy2⟩ := info_parts info_rrow
  obtain ⟨R, hR⟩ : ∃ z, parseR l [] [] = z := ⟨_, rfl⟩
  rw [hR]
  have HR := Lib.hid hR
  have HA := Lib.hid (fun W (hb : Below w.heap.size w W) i (hi : i < l.length) => (hat.under hb).get hi)
  have HS := Lib.hid hs
  have HPS := Lib.hid (show ∀ rs us, R = some (rs, us) → linesOf rs us = l from fun rs us h => by
    have := parseR_some l [] [] rs us (by rw [hR, h])
    simpa [linesOf] using this)
  clear hR hat hs
  go_enter Tryz.func19, Tryz.ntmps19
  go_wp2_with fail
  have H0 := Lib.hid (show RpAt w [] [] (.slice none 0 0) (.slice none 0 0) w from ⟨Below.refl _ _, World.ownsRow_nil _ _ _ _, World.ownsRow_nil _ _ _ _, fun g hg => by cases hg⟩)
  go_loopg [5, 6, 7] l.length (fun gk rv uv iv wr => ∃ (i : Nat) (rs : List Rw) (us : List ByteArray), iv = .int .i64 (i : Int) ∧ i + gk = l.length ∧ RpAt w rs us rv uv wr ∧ parseR (l.drop i) rs us = R ∧ rs.length ≤ i ∧ us.length ≤ i ∧ (∀ j, j < rs.length → (rs.getD j default).ok) ∧ ∀ j, j < us.length → (us.getD j ByteArray.empty).size ≤ 1048576)
  case atStart => exact ⟨0, [], [], rfl, by omega, H0.out, HR.out, by simp, by simp, fun j hj => by simp at hj, fun j hj => by simp at hj⟩
  case round =>
    obtain ⟨i, rs, us, rfl, hig, hps, hpr, hrl, hul, hok, hsz⟩ := hrel
    obtain ⟨A1, k1, rfl⟩ := row_form hps.rows
    obtain ⟨A2, k2, rfl⟩ := row_form hps.uns
    have HP := Lib.hid hps
    have HPR := Lib.hid hpr
    have HOK := Lib.hid (And.intro hok hsz)
    clear hps hpr hok hsz
    by_cases hlt : i < l.length
    · obtain ⟨gq, rfl⟩ : ∃ g, gk = g + 1 := ⟨gk - 1, by omega⟩
      have hlt' : (i : Int) < (l.length : Int) := by omega
      have HCE := Lib.hid (fun W hb => HA.out W hb i hlt)
      obtain ⟨b, off, rfl, hcell⟩ := HA.out wr HP.out.below i hlt
      have hss := HS.out i hlt
      have HPX := Lib.hid (show parseR (l.getD i ByteArray.empty :: l.drop (i + 1)) rs us = R by rw [← drop_consR hlt]; exact HPR.out)
      generalize l.getD i ByteArray.empty = s at *
      have hw := words_in s wr (by omega)
      obtain ⟨WS, hWS⟩ : ∃ z, splitW s = z := ⟨_, rfl⟩
      rw [hWS] at hw
      have HWL := Lib.hid (fun j => word_le s WS hWS j)
      have HWS := Lib.hid hWS
      clear hWS
      go_wp2_with fail
      refine hw.mono ?_
      clear hw
      rintro e w2 ⟨⟨v, rfl, hown⟩, hb⟩
      obtain ⟨A8, c8, rfl, hat8⟩ := strs_at hown
      have HP2 := Lib.hid (HP.out.under hb)
      have HC8 := Lib.hid (fun j (hj : j < WS.length) => hat8.get hj)
      have HC9 := Lib.hid (fun W (hb : Below w2.heap.size w2 W) j (hj : j < WS.length) => (hat8.under hb).get hj)
      clear hown hb hcell
      by_cases h2 : WS.length = 2 ∧ WS.getD 0 ByteArray.empty = wUn
      · obtain ⟨hl2, h0⟩ := h2
        obtain ⟨b8, o8, rfl, c0⟩ := HC8.out 0 (by omega)
        obtain ⟨b9, o9, e9, c1⟩ := HC8.out 1 (by omega)
        cases e9
        rw [h0] at c0
        have HNX := Lib.hid (show parseR (l.drop (i + 1)) rs (us ++ [WS.getD 1 ByteArray.empty]) = R by
          have h := HPX.out
          unfold parseR at h
          rw [HWS.out, if_pos ⟨hl2, h0⟩] at h
          exact h)
        have HSX := Lib.hid (Nat.le_trans (HWL.out 1) hss)
        generalize WS.getD 1 ByteArray.empty = x at *
        clear h0
        replace c0 : w2.cell? ⟨b8, o8, none⟩ = some (.string ⟨#[117, 110, 117, 115, 101, 100]⟩) := c0
        have htop := HP2.out.below.size
        rw [hl2]
        go_wp2_with (at_builtin; refine wpList_append_lies _ rfl _ _ 40 rfl w.heap.size 9 i0 (.string ⟨#[]⟩) 1 16 Tryz.underlying40 hi0 hz0 hz1 hz2 rfl (by decide) (.slice A2 us.length k2) us.length (strs us) rfl (HP2.out.uns.alloc _) ⟨w2.heap.size, 0, none⟩ 1 1 [.string x] rfl rfl ?c2 ?c3 (by decide) ?c4 ?c5 ?c6 (w2.alloc (.cells #[.string x] 9)).heap.size ?c7 ?_)
        case c2 => first | exact fun j u h => h | exact news1 _ _ _
        case c3 => simp [Value.oneCell']
        case c4 => unfold maxLen; omega
        case c5 => omega
        case c6 => first | omega | (simp; omega)
        case c7 => first | rfl | simp
        intro g cap' wa hown hgrow hat hlt1
        have HP3 := Lib.hid (HP2.out.pushU hown hgrow hat)
        clear hown hgrow hat hlt1 c0 c1
        go_wp2_with fail
        go_roundg gq
        case measure => omega
        case rel => exact ⟨i + 1, rs, us ++ [x], by first | rfl | go_num, by omega, by simpa using HP3.out, HNX.out, by omega, by simp; omega, HOK.out.1, getD_snoc_size HOK.out.2 HSX.out⟩
      · by_cases hl2 : WS.length = 2
        · obtain ⟨b8, o8, rfl, c0⟩ := HC8.out 0 (by omega)
          have hw0 : ¬ WS.getD 0 ByteArray.empty = wUn := fun e => h2 ⟨hl2, e⟩
          have HX := Lib.hid (show R = none by
            rw [← HPX.out]
            unfold parseR
            rw [HWS.out, if_neg h2, if_pos (.inl (by omega))])
          have k0 := word_eq (t := WS.getD 0 ByteArray.empty) (w := wUn) (l := [117, 110, 117, 115, 101, 100]) rfl
          rw [decide_eq_false hw0] at k0
          clear hw0 h2
          replace c0 : w2.cell? ⟨b8, o8, none⟩ = some (.string (WS.getD 0 ByteArray.empty)) := c0
          generalize WS.getD 0 ByteArray.empty = x at *
          rw [hl2]
          go_wp2_with fail
          rw [HX.out]
          exact bodyPost_ret (v := .tuple #[.slice none 0 0, .slice none 0 0, .bool false]) (by simp [results, Tryz.results19, go_sem]) rfl ⟨rfl, HP2.out.below⟩
        · have hl2' : (((WS.length : Nat) : Int) == 2) = false := by simp; omega
          by_cases hl9 : WS.length = 9
          · by_cases hus : us.length = 0
            · obtain rfl : us = [] := List.length_eq_zero_iff.1 hus
              have hgt : ¬ (0 : Int) < 0 := by omega
              obtain ⟨b8, o8, rfl, c0⟩ := HC8.out 0 (by omega)
              have hs0 := Nat.le_trans (HWL.out 0) hss
              have hp0 := place_in' (WS.getD 0 ByteArray.empty) w2 (by omega)
              have h0s : (0 : Int) < (((9 : Nat) : Int)) := by omega
              clear h2 hl2' hl2
              replace c0 : w2.cell? ⟨b8, o8, none⟩ = some (.string (WS.getD 0 ByteArray.empty)) := c0
              obtain ⟨t0, ht0⟩ : ∃ z, WS.getD 0 ByteArray.empty = z := ⟨_, rfl⟩
              rw [ht0] at c0 hp0 hs0
              have HT0 := Lib.hid ht0
              have HPW := Lib.hid (show (if placeOk t0 = true ∧ rowB (rowRX s) = s then parseR (l.drop (i + 1)) (rs ++ [rowRX s]) [] else none) = R by
                have h := HPX.out
                unfold parseR at h
                rw [HWS.out, if_neg (fun h => by omega), if_neg (fun h => h.elim (fun h => h hl9) (fun h => h rfl)), ht0] at h
                exact h)
              clear ht0
              rw [hl9]
              go_wp2_with fail
              refine hp0.mono ?_
              clear hp0
              rintro e w3 ⟨⟨pl, pc, rfl, hpv⟩, hb⟩
              have HP3 := Lib.hid (HP2.out.under hb)
              go_wp2_with fail
              obtain ⟨t2, ht2⟩ : ∃ z, WS.getD 2 ByteArray.empty = z := ⟨_, rfl⟩
              obtain ⟨t4, ht4⟩ : ∃ z, WS.getD 4 ByteArray.empty = z := ⟨_, rfl⟩
              obtain ⟨t6, ht6⟩ : ∃ z, WS.getD 6 ByteArray.empty = z := ⟨_, rfl⟩
              obtain ⟨t8, ht8⟩ : ∃ z, WS.getD 8 ByteArray.empty = z := ⟨_, rfl⟩
              have HSZ := Lib.hid (show t2.size ≤ 1048576 ∧ t4.size ≤ 1048576 ∧ t6.size ≤ 1048576 ∧ t8.size ≤ 1048576 from ⟨by rw [← ht2]; exact Nat.le_trans (HWL.out 2) hss, by rw [← ht4]; exact Nat.le_trans (HWL.out 4) hss, by rw [← ht6]; exact Nat.le_trans (HWL.out 6) hss, by rw [← ht8]; exact Nat.le_trans (HWL.out 8) hss⟩)
              have HTS := Lib.hid (And.intro ht2 (And.intro ht4 (And.intro ht6 ht8)))
              clear ht2 ht4 ht6 ht8
              have HB4 := Lib.hid (hb.alloc hb.size (.cells #[.int .i64 pl, .int .i64 pc] 31))
              have HL4 := Lib.hid (last w3 (.cells #[.int .i64 pl, .int .i64 pc] 31))
              have HP4 := Lib.hid (HP3.out.under ((Below.refl _ w3).alloc (Nat.le_refl _) (.cells #[.int .i64 pl, .int .i64 pc] 31)))
              clear c0 hb HP2 HP3
              generalize w3.alloc (.cells #[.int .i64 pl, .int .i64 pc] 31) = w4 at *
              have HCL := Lib.hid (show ∀ W, Below w4.heap.size w4 W → (W.cell? ⟨b8, o8 + 2, none⟩ = some (.string t2) ∧ W.cell? ⟨b8, o8 + 4, none⟩ = some (.string t4) ∧ W.cell? ⟨b8, o8 + 6, none⟩ = some (.string t6) ∧ W.cell? ⟨b8, o8 + 8, none⟩ = some (.string t8)) ∧ W.cell? ⟨w3.heap.size, 0, none⟩ = some (.int .i64 pl) ∧ W.cell? ⟨w3.heap.size, 1, none⟩ = some (.int .i64 pc) from fun W h => by
                have hb := chain HB4.out h
                obtain ⟨x, y, e, k2⟩ := HC9.out W hb 2 (by omega)
                cases e
                obtain ⟨x, y, e, k4⟩ := HC9.out W hb 4 (by omega)
                cases e
                obtain ⟨x, y, e, k6⟩ := HC9.out W hb 6 (by omega)
                cases e
                obtain ⟨x, y, e, k8⟩ := HC9.out W hb 8 (by omega)
                cases e
                obtain ⟨p0, p1⟩ := cellsOf2p ((h.block _ (heap_lt HL4.out)).trans HL4.out)
                rw [HTS.out.1] at k2
                rw [HTS.out.2.1] at k4
                rw [HTS.out.2.2.1] at k6
                rw [HTS.out.2.2.2] at k8
                exact ⟨⟨k2, k4, k6, k8⟩, p0, p1⟩)
              clear HC8
              generalize w3.heap.size = n3 at *
              have hbw4 : Below w4.heap.size w4 w4.drew := (Below.refl _ w4).drew
              have hba4 := fun o => ((Below.refl w4.heap.size w4).alloc (Nat.le_refl _) o).drew
              obtain ⟨⟨k2, k4, k6, k8⟩, p0, p1⟩ := HCL.out w4 (Below.refl _ _)
              go_region_held3 (fun W => (W.cell? ⟨b8, o8 + 2, none⟩ = some (.string t2) ∧ W.cell? ⟨b8, o8 + 4, none⟩ = some (.string t4) ∧ W.cell? ⟨b8, o8 + 6, none⟩ = some (.string t6) ∧ W.cell? ⟨b8, o8 + 8, none⟩ = some (.string t8)) ∧ W.cell? ⟨n3, 0, none⟩ = some (.int .i64 pl) ∧ W.cell? ⟨n3, 1, none⟩ = some (.int .i64 pc))
                (first | exact HCL.out _ (by with_reducible assumption) | exact HCL.out _ (by with_reducible exact hba4 _))
                (first | fail)
              have HP5 := Lib.hid (HP4.out.under (hba4 (.cells #[.int .i64 pl, .int .i64 pc, .string t2, .string t4, .string t6, .string t8] 59)))
              have HL5 := Lib.hid (show (w4.alloc (.cells #[.int .i64 pl, .int .i64 pc, .string t2, .string t4, .string t6, .string t8] 59)).drew.heap[w4.heap.size]? = some (.cells #[.int .i64 pl, .int .i64 pc, .string t2, .string t4, .string t6, .string t8] 59) from last w4 _)
              clear k2 k4 k6 k8 p0 p1 hbw4 hba4 HCL
              generalize (w4.alloc (.cells #[.int .i64 pl, .int .i64 pc, .string t2, .string t4, .string t6, .string t8] 59)).drew = w5 at *
              generalize w4.heap.size = n5 at *
              have HXS := Lib.hid (show ∀ V, Below w5.heap.size w5 V → V.heap[n5]? = some (.cells #[.int .i64 pl, .int .i64 pc, .string t2, .string t4, .string t6, .string t8] 59) from fun V hb => (hb.block _ (heap_lt HL5.out)).trans HL5.out)
              have hb5 := (Below.refl w5.heap.size w5).drew
              obtain ⟨x0, x1, x2, x3, x4, x5⟩ := cellsOf6 (HXS.out _ (Below.refl _ _))
              have htop := HP5.out.below.size
              cases hok : placeOk t0 with
              | false =>
                have HX := Lib.hid (show R = none by
                  rw [← HPW.out, hok]
                  rfl)
                clear hok hpv
                go_wp2_with fail
                go_region
                go_wp2_with fail
                rw [HX.out]
                exact bodyPost_ret (v := .tuple #[.slice none 0 0, .slice none 0 0, .bool false]) (by simp [results, Tryz.results19, go_sem]) rfl ⟨rfl, HP5.out.below.drew⟩
              | true =>
                obtain ⟨hl0, hc0⟩ := hpv hok
                have HRX := Lib.hid (show rowRX s = ⟨pl, pc, t2, t4, t6, t8⟩ by
                  unfold rowRX
                  rw [HWS.out, HT0.out, HTS.out.1, HTS.out.2.1, HTS.out.2.2.1, HTS.out.2.2.2, hl0, hc0])
                have HRK := Lib.hid (show Rw.ok ⟨pl, pc, t2, t4, t6, t8⟩ from ⟨by rw [hl0]; exact figB_ok _, by rw [hc0]; exact figB_ok _, HSZ.out.1, HSZ.out.2.1, HSZ.out.2.2.1, HSZ.out.2.2.2⟩)
                clear hpv hl0 hc0
                obtain ⟨z, hz⟩ : ∃ z, rowB ⟨pl, pc, t2, t4, t6, t8⟩ = z := ⟨_, rfl⟩
                have HRL := Lib.hid (show ∀ V, Calls Tryz.prog 32 #[.agg #[.int .i64 pl, .int .i64 pc, .string t2, .string t4, .string t6, .string t8]] V fun e w' => e = .returned (.string z) ∧ Below V.heap.size V w' from fun V => by
                  have h := refLine_in ⟨pl, pc, t2, t4, t6, t8⟩ V HRK.out
                  rw [hz] at h
                  exact h)
                have HCS := Lib.hid (show ∀ V, Below w5.heap.size w5 V → V.cell? ⟨b, off + i, none⟩ = some (.string s) from fun V hb => by
                  obtain ⟨x, y, e, k⟩ := HCE.out V (chain HP5.out.below hb)
                  cases e
                  exact k)
                have c5 := HCS.out w5 (Below.refl _ _)
                by_cases hq : z = s
                · subst hq
                  have HNX := Lib.hid (show parseR (l.drop (i + 1)) (rs ++ [⟨pl, pc, t2, t4, t6, t8⟩]) [] = R by
                    rw [← HPW.out, HRX.out, if_pos ⟨hok, hz⟩])
                  clear hok hz
                  have hqe : (z.toList == z.toList) = true := by simp
                  go_wp2_with fail
                  go_region_with (first | (go_at_call 32; refine (HRL.out _).mono ?_; rintro e w6 ⟨rfl, hbn⟩; have hb6 := chain hb5 hbn; clear hbn; obtain ⟨x0, x1, x2, x3, x4, x5⟩ := cellsOf6 (HXS.out _ hb6); have c6 := HCS.out _ hb6))
                  all_goals
                    have HP6 := Lib.hid (HP5.out.under hb6)
                    have htop6 := HP6.out.below.size
                    go_wp2_with (at_builtin; refine wpList_append_lies _ rfl _ _ 48 rfl w.heap.size 59 j0 (.agg #[.int .i64 0, .int .i64 0, .string ⟨#[]⟩, .string ⟨#[]⟩, .string ⟨#[]⟩, .string ⟨#[]⟩]) 6 80 Tryz.underlying48 hj0 hy0 hy1 hy2 rfl (by decide) (.slice A1 rs.length k1) rs.length (rowsR rs) rfl (HP6.out.rows.alloc _) ⟨w6.heap.size, 0, none⟩ 1 1 (rwCells ⟨pl, pc, t2, t4, t6, t8⟩) rfl rfl ?c2 ?c3 (by decide) ?c4 ?c5 ?c6 (w6.alloc (.cells #[.int .i64 pl, .int .i64 pc, .string t2, .string t4, .string t6, .string t8] 59)).heap.size ?c7 ?_)
                    case c2 => first | exact fun j u h => h | exact World.news_of_block (last _ _)
                    case c3 => simp [rwCells, Value.oneCell']
                    case c4 => unfold maxLen; omega
                    case c5 => omega
                    case c6 => first | omega | (simp; omega)
                    case c7 => first | rfl | simp
                    intro g cap' wa hown hgrow hat hlt1
                    have HP7 := Lib.hid (HP6.out.pushR (x := ⟨pl, pc, t2, t4, t6, t8⟩) hown hgrow hat)
                    clear hown hgrow hat hlt1 x0 x1 x2 x3 x4 x5 c5 c6
                    go_wp2_with fail
                    go_roundg gq
                    case measure => omega
                    case rel => exact ⟨i + 1, rs ++ [⟨pl, pc, t2, t4, t6, t8⟩], [], by first | rfl | go_num, by omega, by simpa using HP7.out, HNX.out, by simp; omega, by omega, getD_snoc_ok HOK.out.1 HRK.out, HOK.out.2⟩
                · have HX := Lib.hid (show R = none by
                    rw [← HPW.out, if_neg (fun h => hq (by rw [← hz, ← HRX.out]; exact h.2))])
                  clear hok hz
                  have hqe : (z.toList == s.toList) = false := (word_eq (by rw [Lib.toList_data])).trans (decide_eq_false hq)
                  go_wp2_with fail
                  go_region_with (first | (go_at_call 32; refine (HRL.out _).mono ?_; rintro e w6 ⟨rfl, hbn⟩; have hb6 := chain hb5 hbn; clear hbn; obtain ⟨x0, x1, x2, x3, x4, x5⟩ := cellsOf6 (HXS.out _ hb6); have c6 := HCS.out _ hb6))
                  all_goals
                    have HP6 := Lib.hid (HP5.out.under hb6)
                    go_wp2_with fail
                    rw [HX.out]
                    exact bodyPost_ret (v := .tuple #[.slice none 0 0, .slice none 0 0, .bool false]) (by simp [results, Tryz.results19, go_sem]) rfl ⟨rfl, HP6.out.below⟩
            · have hgt : (0 : Int) < (us.length : Int) := by omega
              have HX := Lib.hid (show R = none by
                rw [← HPX.out]
                unfold parseR
                rw [HWS.out, if_neg h2, if_pos (.inr (fun e => hus (by rw [e]; rfl)))])
              clear h2 hl2' hl2
              rw [hl9]
              go_wp2_with fail
              rw [HX.out]
              exact bodyPost_ret (v := .tuple #[.slice none 0 0, .slice none 0 0, .bool false]) (by simp [results, Tryz.results19, go_sem]) rfl ⟨rfl, HP2.out.below⟩
          · have hl9' : (((WS.length : Nat) : Int) == 9) = false := by simp; omega
            have HX := Lib.hid (show R = none by
              rw [← HPX.out]
              unfold parseR
              rw [HWS.out, if_neg h2, if_pos (.inl hl9)])
            clear h2
            go_wp2_with fail
            rw [HX.out]
            exact bodyPost_ret (v := .tuple #[.slice none 0 0, .slice none 0 0, .bool false]) (by simp [results, Tryz.results19, go_sem]) rfl ⟨rfl, HP2.out.below⟩
    · have hlt' : ¬ (i : Int) < (l.length : Int) := by omega
      obtain rfl : i = l.length := by omega
      have HX := Lib.hid (show R = some (rs, us) by
        have h := HPR.out
        rw [List.drop_length] at h
        rw [← h]
        rfl)
      have HLL := Lib.hid (HPS.out rs us HX.out)
      obtain ⟨B1, d1, e1, hatr⟩ := rows_at HP.out.rows
      cases e1
      obtain ⟨B2, d2, e2, hatu⟩ := strs_at HP.out.uns
      cases e2
      have hc := refLines_in A1 A2 k1 k2 rs us wr (by omega) (by omega) HOK.out.1 HOK.out.2 hatr hatu
      clear hatr hatu
      cases hq : linesR rs us with
      | none =>
        rw [hq] at hc
        have HQ := Lib.hid hq
        clear hq
        go_wp2_with fail
        refine hc.mono ?_
        clear hc
        rintro e w2 ⟨rfl, hb⟩
        have HP2 := Lib.hid (HP.out.under hb)
        clear hb
        go_wp2_with fail
        rw [HX.out]
        exact bodyPost_ret (v := .tuple #[.slice A1 rs.length k1, .slice A2 us.length k2, .bool false]) (by simp [results, Tryz.results19, go_sem]) rfl ⟨⟨_, _, by rw [HQ.out]; rfl, HP2.out.rows, HP2.out.uns⟩, HP2.out.below⟩
      | some q =>
        have hql := (linesR_good hq).2
        have hqn : q.length = l.length := by rw [hql, HLL.out]
        rw [hq] at hc
        have HQ := Lib.hid hq
        clear hq hql
        go_wp2_with fail
        refine hc.mono ?_
        clear hc
        rintro e w2 ⟨⟨v, rfl, hown⟩, hb⟩
        obtain ⟨A9, c9, rfl⟩ := row_form hown
        have HP2 := Lib.hid (HP.out.under hb)
        clear hb hown
        rw [hqn]
        go_wp2_with fail
        rw [HX.out]
        exact bodyPost_ret (v := .tuple #[.slice A1 rs.length k1, .slice A2 us.length k2, .bool true]) (by simp [results, Tryz.results19, go_sem]) rfl ⟨⟨_, _, by rw [HQ.out]; rfl, HP2.out.rows, HP2.out.uns⟩, HP2.out.below⟩
end Go.Proofs.YtinebmfmkgjaaaaGreatDoor
