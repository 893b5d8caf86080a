/- The reference's Lines. -/
import Derived.Test.YtinebmfmkgjaaaaGreatDoorAuR2
set_option linter.unusedVariables false
set_option linter.unusedSimpArgs false
namespace Go.Proofs.YtinebmfmkgjaaaaGreatDoor
open Go.RowKit

def linesR (rs : List Rw) (us : List ByteArray) : Option (List ByteArray) := if (∀ i, i < rs.length → (rs.getD i default).right = true) ∧ (∀ i, i < us.length → badB (us.getD i ByteArray.empty) = false) then some (linesOf rs us) else none
theorem linesR_no_row {rs : List Rw} {us : List ByteArray} {i : Nat} (h : i < rs.length) (hr : (rs.getD i default).right = false) : linesR rs us = none := by
  unfold linesR
  rw [if_neg]
  rintro ⟨a, _⟩
  rw [a i h] at hr
  cases hr
theorem linesR_no_un {rs : List Rw} {us : List ByteArray} {i : Nat} (h : i < us.length) (hr : badB (us.getD i ByteArray.empty) = true) : linesR rs us = none := by
  unfold linesR
  rw [if_neg]
  rintro ⟨_, a⟩
  rw [a i h] at hr
  cases hr
def RefLinesEnd (w : World) (R : Option (List ByteArray)) (e : Ending) (w' : World) : Prop := match R with
  | some l => (∃ v, e = .returned (.tuple #[v, .bool true]) ∧ w'.ownsRow w.heap.size 9 1 v l.length (strs l)) ∧ Below w.heap.size w w'
  | none => e = .returned (.tuple #[.slice none 0 0, .bool false]) ∧ Below w.heap.size w w'
theorem take_strs (rs : List Rw) (k : Nat) (h : k < rs.length) : strs ((rs.take (k + 1)).map rowB) = strs ((rs.take k).map rowB) ++ [.string (rowB (rs.getD k default))] := by
  rw [← strs_snoc, List.take_succ_eq_append_getElem h, List.map_append, List.getD, List.getElem?_eq_getElem h]
  rfl
theorem take_uns (rs : List Rw) (us : List ByteArray) (k : Nat) (h : k < us.length) : strs (rs.map rowB ++ (us.take (k + 1)).map unB) = strs (rs.map rowB ++ (us.take k).map unB) ++ [.string (unB (us.getD k ByteArray.empty))] := by
  rw [← strs_snoc, List.take_succ_eq_append_getElem h, List.map_append, List.getD, List.getElem?_eq_getElem h, List.append_assoc]
  rfl
set_option maxRecDepth 100000 in
set_option maxHeartbeats 16000000 in
theorem refLines_in (A B : Option Addr) (cap cap2 : Nat) (rs : List Rw) (us : List ByteArray) (w : World) (hn : rs.length ≤ 1048576) (hm : us.length ≤ 1048576) (hd : ∀ i, i < rs.length → (rs.getD i default).ok) (hus : ∀ i, i < us.length → (us.getD i ByteArray.empty).size ≤ 1048576) (hat : RowsAt w A rs) (hut : LinesAt w B us) :
    Calls Tryz.prog 14 #[.slice A rs.length cap, .slice B us.length cap2] w fun e w' => RefLinesEnd w (linesR rs us) e w' := by
  obtain ⟨i0, hi0, hz0, hz1, hz2⟩ := info_parts info_str
  have HA := Lib.hid (show ∀ W i, Below w.heap.size w W → i < rs.length → ∃ b off, A = some ⟨b, off, none⟩ ∧ (W.cell? ⟨b, off + i * 6, none⟩ = some (.int .i64 (rs.getD i default).l) ∧ W.cell? ⟨b, off + i * 6 + 1, none⟩ = some (.int .i64 (rs.getD i default).c) ∧ W.cell? ⟨b, off + i * 6 + 2, none⟩ = some (.string (rs.getD i default).h) ∧ W.cell? ⟨b, off + i * 6 + 3, none⟩ = some (.string (rs.getD i default).f) ∧ W.cell? ⟨b, off + i * 6 + 4, none⟩ = some (.string (rs.getD i default).t) ∧ W.cell? ⟨b, off + i * 6 + 5, none⟩ = some (.string (rs.getD i default).u)) from fun W i hb hi => by
    rcases hat.under hb with h | ⟨b, off, e, h⟩
    · omega
    · exact ⟨b, off, e, h i hi⟩)
  have HU := Lib.hid (show ∀ W i, Below w.heap.size w W → i < us.length → ∃ b off, B = some ⟨b, off, none⟩ ∧ W.cell? ⟨b, off + i, none⟩ = some (.string (us.getD i ByteArray.empty)) from fun W i hb hi => by
    rcases hut.under hb with h | ⟨b, off, e, h⟩
    · omega
    · exact ⟨b, off, e, h i hi⟩)
  have HD := Lib.hid (And.intro hd hus)
  obtain ⟨R, hR⟩ : ∃ z, linesR rs us = z := ⟨_, rfl⟩
  rw [hR]
  have HR := Lib.hid hR
  clear hat hut hd hus hR
  go_enter Tryz.func14, Tryz.ntmps14
  go_wp2_with fail
  go_loopg [6, 7] rs.length (fun gk ov iv wr => ∃ k : Nat, iv = .int .i64 (k : Int) ∧ k + gk = rs.length ∧ Below w.heap.size w wr ∧ wr.ownsRow w.heap.size 9 1 ov k (strs ((rs.take k).map rowB)) ∧ ∀ j, j < k → (rs.getD j default).right = true)
  case atStart => exact ⟨0, rfl, by omega, Below.refl _ _, World.ownsRow_nil _ _ _ _, fun j hj => by omega⟩
  case round =>
    obtain ⟨k, rfl, hkg, hb, hrow, hall⟩ := hrel
    obtain ⟨A2, k2, rfl⟩ := row_form hrow
    have HB := Lib.hid (And.intro hb hrow)
    have HALL := Lib.hid hall
    have hsb := hb.size
    clear hb hrow hall
    by_cases hlt : k < rs.length
    · obtain ⟨gq, rfl⟩ : ∃ g, gk = g + 1 := ⟨gk - 1, by omega⟩
      have hlt' : (k : Int) < (rs.length : Int) := by omega
      obtain ⟨b, off, rfl, a0, a1, a2, a3, a4, a5⟩ := HA.out wr k HB.out.1 hlt
      have HTK := Lib.hid (take_strs rs k hlt)
      have HNR := Lib.hid (show (rs.getD k default).right = false → R = none from fun h => by rw [← HR.out]; exact linesR_no_row hlt h)
      have HYR := Lib.hid (show (rs.getD k default).right = true → ∀ j, j < k + 1 → (rs.getD j default).right = true from fun h j hj => by
        by_cases e : j = k
        · subst e
          exact h
        · exact HALL.out j (by omega))
      have hok := HD.out.1 k hlt
      have HAT := Lib.hid fun W hb => HA.out W k hb hlt
      generalize hr : rs.getD k default = r at *
      have HRI := Lib.hid fun W => refRight_in r W
      have HLI := Lib.hid fun W => refLine_in r W hok
      have hsz := row_sizes hok
      clear hok
      have HRK := Lib.hid hr
      clear hr
      obtain ⟨l, c, h, f, t, u⟩ := r
      unfold rowV at HRI HLI
      simp only at *
      cases hq : Rw.right ⟨l, c, h, f, t, u⟩ with
      | false =>
        rw [hq] at HRI
        have HX := Lib.hid (HNR.out hq)
        clear hq
        go_wp2_with fail
        refine (HRI.out wr).mono ?_
        rintro e w2 ⟨rfl, hb2⟩
        have HB2 := Lib.hid (chain HB.out.1 hb2)
        clear hb2
        go_wp2_with fail
        rw [HX.out]
        exact bodyPost_ret (v := .tuple #[.slice none 0 0, .bool false]) (by simp [results, Tryz.results14, go_sem]) rfl ⟨rfl, HB2.out⟩
      | true =>
        rw [hq] at HRI
        have HX := Lib.hid (HYR.out hq)
        clear hq
        go_wp2_with fail
        refine (HRI.out wr).mono ?_
        rintro e w2 ⟨rfl, hb2⟩
        have HB2 := Lib.hid (chain HB.out.1 hb2)
        have HR2 := Lib.hid (owns_block HB.out.2 fun g hg => hb2.block g (row_lt HB.out.2 hg).2)
        clear hb2 a0 a1 a2 a3 a4 a5
        obtain ⟨b', off', e', a0, a1, a2, a3, a4, a5⟩ := HAT.out w2 HB2.out
        cases e'
        go_wp2_with fail
        refine (HLI.out w2).mono ?_
        rintro e w3 ⟨rfl, hb3⟩
        have HB3 := Lib.hid (chain HB2.out hb3)
        have HR3 := Lib.hid (owns_block HR2.out fun g hg => hb3.block g (row_lt HR2.out hg).2)
        have hs3 := HB3.out.size
        clear hb3 a0 a1 a2 a3 a4 a5
        generalize hRB : rowB ⟨l, c, h, f, t, u⟩ = RB at *
        have HRB := Lib.hid hRB
        clear hRB
        go_wp2_with (at_builtin; refine wpList_append_own _ rfl _ _ 40 rfl w.heap.size 9 i0 (.string ⟨#[]⟩) 1 16 Tryz.underlying40 hi0 hz0 hz1 hz2 rfl (by decide) (.slice A2 k k2) k (strs ((rs.take k).map rowB)) rfl (HR3.out.alloc _) ⟨w3.heap.size, 0, none⟩ 1 1 [.string RB] rfl rfl ?c2 ?c3 ?c4 ?c5 ?c6 ?_)
        case c2 => first | exact fun j u h => h | exact news1 _ _ _
        case c3 => simp [Value.oneCell']
        case c4 => unfold maxLen; omega
        case c5 => omega
        case c6 => first | omega | (simp; omega)
        intro v' wa hown hgrow hnil
        have HB4 := Lib.hid (grow_below HB3.out hs3 HR3.out hgrow)
        have HR4 := Lib.hid (show wa.ownsRow w.heap.size 9 1 v' (k + 1) (strs ((rs.take (k + 1)).map rowB)) by
          rw [HTK.out, List.map_take]
          exact hown)
        clear hown hgrow hnil
        go_wp2_with fail
        go_roundg gq
        case measure => omega
        case rel => exact ⟨k + 1, by first | rfl | go_num, by omega, HB4.out, HR4.out, HX.out⟩
    · have hlt' : ¬ (k : Int) < (rs.length : Int) := by omega
      obtain rfl : k = rs.length := by omega
      have HR0 := Lib.hid (show wr.ownsRow w.heap.size 9 1 (.slice A2 (rs.length + 0) k2) (rs.length + 0) (strs (rs.map rowB ++ (us.take 0).map unB)) by
        have h := HB.out.2
        rw [List.take_length] at h
        simpa using h)
      have HB0 := Lib.hid HB.out.1
      go_wp2_with fail
      go_loopg [6, 9] us.length (fun gk ov iv wr => ∃ k : Nat, iv = .int .i64 (k : Int) ∧ k + gk = us.length ∧ Below w.heap.size w wr ∧ wr.ownsRow w.heap.size 9 1 ov (rs.length + k) (strs (rs.map rowB ++ (us.take k).map unB)) ∧ ∀ j, j < k → badB (us.getD j ByteArray.empty) = false)
      case atStart => exact ⟨0, rfl, by omega, HB0.out, HR0.out, fun j hj => by omega⟩
      case round =>
        obtain ⟨k, rfl, hkg, hb, hrow, hall⟩ := hrel
        obtain ⟨A3, k3, rfl⟩ := row_form hrow
        have HC := Lib.hid (And.intro hb hrow)
        have HBAD := Lib.hid hall
        have hsb := hb.size
        clear hb hrow hall
        by_cases hlt : k < us.length
        · obtain ⟨gq, rfl⟩ : ∃ g, gk = g + 1 := ⟨gk - 1, by omega⟩
          have hlt' : (k : Int) < (us.length : Int) := by omega
          obtain ⟨b, off, rfl, a0⟩ := HU.out wr k HC.out.1 hlt
          have HTK := Lib.hid (take_uns rs us k hlt)
          have HNR := Lib.hid (show badB (us.getD k ByteArray.empty) = true → R = none from fun h => by rw [← HR.out]; exact linesR_no_un hlt h)
          have HYR := Lib.hid (show badB (us.getD k ByteArray.empty) = false → ∀ j, j < k + 1 → badB (us.getD j ByteArray.empty) = false from fun h j hj => by
            by_cases e : j = k
            · subst e
              exact h
            · exact HBAD.out j (by omega))
          have HAT := Lib.hid fun W hb => HU.out W k hb hlt
          have hsz := HD.out.2 k hlt
          generalize us.getD k ByteArray.empty = x at *
          have hn2 := refname_in x wr
          have HBO := Lib.hid (bad_one x)
          cases hq : oneB x with
          | false =>
            rw [hq] at hn2
            have HX := Lib.hid (HNR.out (by rw [HBO.out, hq]; rfl))
            clear hq
            go_wp2_with fail
            refine hn2.mono ?_
            clear hn2
            rintro e w2 ⟨rfl, hb2⟩
            have HB2 := Lib.hid (chain HC.out.1 hb2)
            clear hb2
            go_wp2_with fail
            rw [HX.out]
            exact bodyPost_ret (v := .tuple #[.slice none 0 0, .bool false]) (by simp [results, Tryz.results14, go_sem]) rfl ⟨rfl, HB2.out⟩
          | true =>
            rw [hq] at hn2
            have HX := Lib.hid (HYR.out (by rw [HBO.out, hq]; rfl))
            clear hq
            go_wp2_with fail
            refine hn2.mono ?_
            clear hn2
            rintro e w2 ⟨rfl, hb2⟩
            have HB2 := Lib.hid (chain HC.out.1 hb2)
            have HR2 := Lib.hid (owns_block HC.out.2 fun g hg => hb2.block g (row_lt HC.out.2 hg).2)
            have hs2 := HB2.out.size
            clear hb2 a0
            obtain ⟨b', off', e', a0⟩ := HAT.out w2 HB2.out
            cases e'
            have z1 : ¬ 9223372036854775807 < 7 + x.size := by omega
            go_wp2_with (at_builtin; refine wpList_append_own _ rfl _ _ 40 rfl w.heap.size 9 i0 (.string ⟨#[]⟩) 1 16 Tryz.underlying40 hi0 hz0 hz1 hz2 rfl (by decide) (.slice A3 (rs.length + k) k3) (rs.length + k) (strs (rs.map rowB ++ (us.take k).map unB)) rfl (HR2.out.alloc _) ⟨w2.heap.size, 0, none⟩ 1 1 [.string (unB x)] rfl rfl ?c2 ?c3 ?c4 ?c5 ?c6 ?_)
            case c2 => first | exact fun j u h => h | exact news1 _ _ _
            case c3 => simp [Value.oneCell']
            case c4 => unfold maxLen; omega
            case c5 => omega
            case c6 => first | omega | (simp; omega)
            intro v' wa hown hgrow hnil
            have HB4 := Lib.hid (grow_below HB2.out hs2 HR2.out hgrow)
            have HR4 := Lib.hid (show wa.ownsRow w.heap.size 9 1 v' (rs.length + (k + 1)) (strs (rs.map rowB ++ (us.take (k + 1)).map unB)) by
              rw [HTK.out, List.map_take]
              exact hown)
            clear hown hgrow hnil a0
            go_wp2_with fail
            go_roundg gq
            case measure => omega
            case rel => exact ⟨k + 1, by first | rfl | go_num, by omega, HB4.out, HR4.out, HX.out⟩
        · have hlt' : ¬ (k : Int) < (us.length : Int) := by omega
          obtain rfl : k = us.length := by omega
          have HX := Lib.hid (show R = some (linesOf rs us) by
            rw [← HR.out]
            unfold linesR
            rw [if_pos ⟨fun i hi => HALL.out i hi, fun i hi => HBAD.out i hi⟩])
          have HFR := Lib.hid (show wr.ownsRow w.heap.size 9 1 (.slice A3 (rs.length + us.length) k3) (linesOf rs us).length (strs (linesOf rs us)) by
            have h := HC.out.2
            rw [List.take_length] at h
            have e : (linesOf rs us).length = rs.length + us.length := by simp [linesOf]
            rw [e]
            exact h)
          go_wp2_with fail
          rw [HX.out]
          exact bodyPost_ret (v := .tuple #[.slice A3 (rs.length + us.length) k3, .bool true]) (by simp [results, Tryz.results14, go_sem]) rfl ⟨⟨_, rfl, HFR.out⟩, HC.out.1⟩
end Go.Proofs.YtinebmfmkgjaaaaGreatDoor
