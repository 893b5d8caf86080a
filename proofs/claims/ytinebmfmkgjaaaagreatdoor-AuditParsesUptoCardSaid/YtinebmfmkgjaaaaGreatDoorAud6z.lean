/- Any report's lines: the tree's Lines. -/
import Derived.Test.YtinebmfmkgjaaaaGreatDoorAuR3
set_option linter.unusedVariables false
set_option linter.unusedSimpArgs false
namespace Go.Proofs.YtinebmfmkgjaaaaGreatDoor
open Go.RowKit

set_option maxRecDepth 100000 in
set_option maxHeartbeats 16000000 in
/-- Any report's lines, by the tree. -/
theorem LinesU_in (A B : Option Addr) (cap cap2 : Nat) (rs : List Rw) (us : List ByteArray) (w : World) (hn : rs.length ≤ 1048576) (hm : us.length ≤ 1048576) (hd : ∀ i, i < rs.length → (rs.getD i default).ok) (hus : ∀ i, i < us.length → (us.getD i ByteArray.empty).size ≤ 1048576) (hat : RowsAt w A rs) (hut : LinesAt w B us) (henv : Env w) (ht : TabOk w) :
    Calls Tryz.prog 13 #[.agg #[.slice A rs.length cap, .slice B us.length cap2]] w fun e w' => LinesEnd w.heap.size (linesR rs us) e w' ∧ Below w.heap.size w w' := by
  obtain ⟨i0, hi0, hz0, hz1, hz2⟩ := info_parts info_str
  go_enter Tryz.func13, Tryz.ntmps13
  have hb0 := (Below.refl w.heap.size w).alloc (Nat.le_refl _) (.cells #[.slice A rs.length cap, .slice B us.length cap2] 42)
  have hat0 := last w (.cells #[.slice A rs.length cap, .slice B us.length cap2] 42)
  have hsz0 : (w.alloc (.cells #[.slice A rs.length cap, .slice B us.length cap2] 42)).heap.size = w.heap.size + 1 := by simp
  obtain ⟨a0, a1⟩ := cellsOf2 hat0
  replace hat := hat.under hb0
  replace hut := hut.under hb0
  replace henv := henv.below hb0
  replace ht := ht.under hb0
  go_wp2_with fail
  generalize w.alloc (.cells #[.slice A rs.length cap, .slice B us.length cap2] 42) = wb at *
  have HB0 := Lib.hid (And.intro hb0 hsz0)
  have HRP := Lib.hid (show ∀ W, Below wb.heap.size wb W → W.cell? ⟨w.heap.size, 1, none⟩ = some (.slice B us.length cap2) from fun W hb => (World.cell?_of_block (hb.block _ (by simp only; omega))).trans a1)
  have HD := Lib.hid (show ∀ W i, Below wb.heap.size wb W → i < rs.length → ∃ b off, A = some ⟨b, off, none⟩ ∧ (rs.getD i default).ok ∧ W.cell? ⟨b, off + i * 6, none⟩ = some (.int .i64 (rs.getD i default).l) ∧ W.cell? ⟨b, off + i * 6 + 1, none⟩ = some (.int .i64 (rs.getD i default).c) ∧
      W.cell? ⟨b, off + i * 6 + 2, none⟩ = some (.string (rs.getD i default).h) ∧ W.cell? ⟨b, off + i * 6 + 3, none⟩ = some (.string (rs.getD i default).f) ∧ W.cell? ⟨b, off + i * 6 + 4, none⟩ = some (.string (rs.getD i default).t) ∧ W.cell? ⟨b, off + i * 6 + 5, none⟩ = some (.string (rs.getD i default).u) from fun W i hb hi => by
    rcases hat.under hb with h | ⟨b, off, h1, h2⟩
    · omega
    · exact ⟨b, off, h1, hd i hi, h2 i hi⟩)
  have HT := Lib.hid (fun W (hb : Below wb.heap.size wb W) => ht.under hb)
  have HE := Lib.hid (fun W (hb : Below wb.heap.size wb W) => henv.below hb)
  have HU := Lib.hid (show ∀ W i, Below wb.heap.size wb W → i < us.length → ∃ b off, B = some ⟨b, off, none⟩ ∧ W.cell? ⟨b, off + i, none⟩ = some (.string (us.getD i ByteArray.empty)) from fun W i hb hi => by
    rcases hut.under hb with h | ⟨b, off, e, h⟩
    · omega
    · exact ⟨b, off, e, h i hi⟩)
  have HUS := Lib.hid hus
  clear hd hat ht henv hb0 hat0 hsz0 a0 a1 hut hus
  go_loopw [4, 12] (fun v i wr => ∃ k : Nat, i = .int .i64 k ∧ k ≤ rs.length ∧ Below wb.heap.size wb wr ∧ wr.ownsRow wb.heap.size 9 1 v k (strs ((rs.take k).map rowB)) ∧ ∀ j, j < k → (rs.getD j default).right = true) (fun _ i _ => ((rs.length : Int) - intOf i).toNat)
  case atStart => exact ⟨0, rfl, by omega, Below.refl _ _, World.ownsRow_nil _ _ _ _, fun j hj => by omega⟩
  case round =>
    obtain ⟨k, rfl, hk, hb, hrow, hall⟩ := hrel
    have HALL := Lib.hid hall
    clear hall
    by_cases hkl : k < rs.length
    · have hki : (k : Int) < rs.length := by omega
      obtain ⟨b, off, rfl, hok, c0, c1, c2, c3, c4, c5⟩ := HD.out wr k hb hkl
      have HB := Lib.hid (And.intro hb hrow)
      clear hb hrow
      obtain ⟨A2, k2, rfl⟩ := row_form HB.out.2
      have HXK := Lib.hid (show (rs.take (k + 1)).map rowB = (rs.take k).map rowB ++ [rowB (rs.getD k default)] by
        rw [List.take_add_one, List.getElem?_eq_getElem hkl, List.map_append]
        simp [List.getD, hkl])
      have HXR := Lib.hid (show (rs.getD k default).right = false → linesR rs us = none from fun h => linesR_no_row hkl h)
      have HXA := Lib.hid (show (rs.getD k default).right = true → ∀ j, j < k + 1 → (rs.getD j default).right = true from fun h j hj => by
        by_cases hjk : j < k
        · exact HALL.out j hjk
        · obtain rfl : j = k := by omega
          exact h)
      generalize hy : rs.getD k default = r at *
      clear hy
      have hsz := row_sizes hok
      obtain ⟨hs0, hs1, hs2, hs3, hs4⟩ := hsz
      have HOK := Lib.hid hok
      clear hok
      have hbd : Below wr.heap.size wr (wr.alloc (.cells #[.int .i64 r.l, .int .i64 r.c, .string r.h, .string r.f, .string r.t, .string r.u] 55)) := (Below.refl _ _).alloc (Nat.le_refl _) _
      have HCL := Lib.hid (show ∀ w', Below (wr.alloc (.cells #[.int .i64 r.l, .int .i64 r.c, .string r.h, .string r.f, .string r.t, .string r.u] 55)).heap.size (wr.alloc (.cells #[.int .i64 r.l, .int .i64 r.c, .string r.h, .string r.f, .string r.t, .string r.u] 55)) w' → w'.cell? ⟨wr.heap.size, 0, none⟩ = some (.int .i64 r.l) ∧ w'.cell? ⟨wr.heap.size, 1, none⟩ = some (.int .i64 r.c) ∧ w'.cell? ⟨wr.heap.size, 2, none⟩ = some (.string r.h) ∧ w'.cell? ⟨wr.heap.size, 3, none⟩ = some (.string r.f) ∧ w'.cell? ⟨wr.heap.size, 4, none⟩ = some (.string r.t) ∧ w'.cell? ⟨wr.heap.size, 5, none⟩ = some (.string r.u) from fun w' hb =>
        cellsOf6 ((hb.block _ (by simp)).trans (last wr (.cells #[.int .i64 r.l, .int .i64 r.c, .string r.h, .string r.f, .string r.t, .string r.u] 55))))
      have HF := Lib.hid (show ∀ w', Below (wr.alloc (.cells #[.int .i64 r.l, .int .i64 r.c, .string r.h, .string r.f, .string r.t, .string r.u] 55)).heap.size (wr.alloc (.cells #[.int .i64 r.l, .int .i64 r.c, .string r.h, .string r.f, .string r.t, .string r.u] 55)) w' → Below wb.heap.size wb w' ∧ w'.ownsRow wb.heap.size 9 1 (.slice A2 k k2) k (strs ((rs.take k).map rowB)) ∧ wb.heap.size ≤ w'.heap.size from fun w' hb =>
        ⟨chain (chain HB.out.1 hbd) hb, owns_block HB.out.2 fun g hg => (chain hbd hb).block _ (row_lt HB.out.2 hg).2, (chain (chain HB.out.1 hbd) hb).size⟩)
      have HR := Lib.hid (show ∀ w', Below wb.heap.size wb w' → Calls Tryz.prog 28 #[.agg #[.int .i64 r.l, .int .i64 r.c, .string r.h, .string r.f, .string r.t, .string r.u]] w' fun e w'' => e = .returned (.bool r.right) ∧ Below w'.heap.size w' w'' from fun w' hb => right_in _ _ _ _ _ _ w' (HE.out w' hb) (by omega) (by omega) (by omega) (by omega))
      have HA := Lib.hid (show ∀ w', Below wb.heap.size wb w' → Calls Tryz.prog 29 #[.agg #[.int .i64 r.l, .int .i64 r.c]] w' fun e w'' => e = .returned (.string (atB r.l r.c)) ∧ Below w'.heap.size w' w'' from fun w' hb => at_in _ _ w' HOK.out.1 HOK.out.2.1 (HT.out w' hb))
      have HRB := Lib.hid (show rowB r = atB r.l r.c ++ ⟨#[32, 114, 101, 108, 101, 97, 115, 101, 32]⟩ ++ r.h ++ ⟨#[32, 102, 114, 111, 109, 32]⟩ ++ r.f ++ ⟨#[32, 116, 111, 32]⟩ ++ r.t ++ ⟨#[32, 105, 110, 32]⟩ ++ r.u from rfl)
      generalize r.right = q at *
      clear hbd
      go_upto_block 99 with fail
      generalize wr.alloc (.cells #[.int .i64 r.l, .int .i64 r.c, .string r.h, .string r.f, .string r.t, .string r.u] 55) = wd at *
      refine (HR.out wd (HF.out wd (Below.refl _ _)).1).mono ?_
      clear c0 c1 c2 c3 c4 c5
      rintro e w2 ⟨rfl, hb2⟩
      cases q with
      | false =>
        have HX := Lib.hid (HXR.out rfl)
        have HFF := Lib.hid (HF.out _ hb2).1
        clear hb2
        go_wp2_with fail
        refine bodyPost_ret (v := .tuple #[.slice none 0 0, .int .i64 1]) (by simp [results, Tryz.results13, go_sem]) rfl ⟨by rw [HX.out]; rfl, chain HB0.out.1 HFF.out⟩
      | true =>
        have HALL2 := Lib.hid (HXA.out rfl)
        clear HXR HXA
        generalize hP : atB r.l r.c = P at *
        clear hP
        have z1 : ¬ 9223372036854775807 < P.size + 9 := by omega
        have z2 : ¬ 9223372036854775807 < P.size + 9 + r.h.size := by omega
        have z3 : ¬ 9223372036854775807 < P.size + 9 + r.h.size + 6 := by omega
        have z4 : ¬ 9223372036854775807 < P.size + 9 + r.h.size + 6 + r.f.size := by omega
        have z5 : ¬ 9223372036854775807 < P.size + 9 + r.h.size + 6 + r.f.size + 4 := by omega
        have z6 : ¬ 9223372036854775807 < P.size + 9 + r.h.size + 6 + r.f.size + 4 + r.t.size := by omega
        have z7 : ¬ 9223372036854775807 < P.size + 9 + r.h.size + 6 + r.f.size + 4 + r.t.size + 4 := by omega
        have z8 : ¬ 9223372036854775807 < P.size + 9 + r.h.size + 6 + r.f.size + 4 + r.t.size + 4 + r.u.size := by omega
        obtain ⟨c0, c1, c2, c3, c4, c5⟩ := HCL.out _ hb2.drew
        have hbw2 := hb2.drew
        clear hb2
        have HNE := Lib.hid (show some wr.heap.size ≠ (Value.slice A2 k k2).ownBlock from fun e => by
          have := (row_lt HB.out.2 e.symm).2
          omega)
        go_upto_region 7 with fail
        go_region_held3 (fun w' => w'.cell? ⟨wr.heap.size, 0, none⟩ = some (.int .i64 r.l) ∧ w'.cell? ⟨wr.heap.size, 1, none⟩ = some (.int .i64 r.c) ∧ w'.cell? ⟨wr.heap.size, 2, none⟩ = some (.string r.h) ∧ w'.cell? ⟨wr.heap.size, 3, none⟩ = some (.string r.f) ∧ w'.cell? ⟨wr.heap.size, 4, none⟩ = some (.string r.t) ∧ w'.cell? ⟨wr.heap.size, 5, none⟩ = some (.string r.u))
          (first | exact HCL.out _ (by with_reducible assumption) | exact HCL.out _ (hbw3.alloc (by with_reducible exact hbw3.size) _) | exact ⟨d0, d1, d2, d3, d4, d5⟩)
          (first
            | (go_at_call 29; refine (HA.out _ (HF.out _ (by with_reducible assumption)).1).mono ?_; rintro e w3 ⟨rfl, hbn⟩; have hbw3 := chain (by with_reducible assumption) hbn; clear hbn; obtain ⟨c0, c1, c2, c3, c4, c5⟩ := HCL.out _ hbw3)
            | (refine step_append_lies _ rfl (.tmp 19) (.tmp 39) 40 rfl wb.heap.size 9 i0 (.string ⟨#[]⟩) 1 16 Tryz.underlying40 hi0 hz0 hz1 hz2 rfl (by decide) (.slice A2 k k2) k _ rfl (World.ownsRow.alloc (HF.out w3 hbw3).2.1 _) _ 1 1 _ rfl rfl (news1 _ _ _) (one1 _) (by decide) (by unfold maxLen; omega) (by omega) (Nat.le_trans (HF.out w3 hbw3).2.2 (by simp)) _ rfl ?_; intro g' cap' wa hown hgrow hat hlt1; have d0 := far_cell hgrow c0 HNE.out; have d1 := far_cell hgrow c1 HNE.out; have d2 := far_cell hgrow c2 HNE.out; have d3 := far_cell hgrow c3 HNE.out; have d4 := far_cell hgrow c4 HNE.out; have d5 := far_cell hgrow c5 HNE.out))
        all_goals
          have HBB := Lib.hid (grow_below (HF.out w3 hbw3).1 (HF.out w3 hbw3).2.2 (HF.out w3 hbw3).2.1 hgrow)
          have HOO := Lib.hid (show wa.ownsRow wb.heap.size 9 1 (.slice (some ⟨g', 0, none⟩) (k + 1) cap') (k + 1) (strs ((rs.take (k + 1)).map rowB)) by
            rw [HXK.out, HRB.out, strs_snoc]
            exact hown)
          clear hown hgrow d0 d1 d2 d3 d4 d5 c0 c1 c2 c3 c4 c5 hat hlt1
          go_wp2_with fail
          exact ⟨⟨k + 1, by simp, by omega, HBB.out, HOO.out, HALL2.out⟩, by simp [intOf]; omega⟩
    · have hki : ¬ (k : Int) < rs.length := by omega
      have hke : k = rs.length := by omega
      have HB := Lib.hid (And.intro hb hrow)
      have hrp := HRP.out wr hb
      have KE := Lib.hid hke
      clear hb hrow
      obtain ⟨A2, k2, rfl⟩ := row_form HB.out.2
      have HR0 := Lib.hid (show wr.ownsRow wb.heap.size 9 1 (.slice A2 (rs.length + 0) k2) (rs.length + 0) (strs (rs.map rowB ++ (us.take 0).map unB)) by
        have h := HB.out.2
        rw [hke, List.take_length] at h
        rw [← hke]
        simpa [hke] using h)
      have HBZ := Lib.hid HB.out.1
      clear HB
      rw [hke] at *
      go_wp2_with fail
      go_loopg [4, 45] us.length (fun gk ov iv wr => ∃ k : Nat, iv = .int .i64 (k : Int) ∧ k + gk = us.length ∧ Below wb.heap.size wb wr ∧ wr.ownsRow wb.heap.size 9 1 ov (rs.length + k) (strs (rs.map rowB ++ (us.take k).map unB)) ∧ ∀ j, j < k → badB (us.getD j ByteArray.empty) = false)
      case atStart => exact ⟨0, rfl, by omega, HBZ.out, HR0.out, fun j hj => by omega⟩
      case round =>
        obtain ⟨k, rfl, hkg, hb, hrow, hall⟩ := hrel
        obtain ⟨A3, k3, rfl⟩ := row_form hrow
        have HC := Lib.hid (And.intro hb hrow)
        have HBAD := Lib.hid hall
        have hsb := hb.size
        clear hb hrow hall
        by_cases hlt : k < us.length
        · obtain ⟨gq, rfl⟩ : ∃ g, gk = g + 1 := ⟨gk - 1, by omega⟩
          have hlt' : (k : Int) < (us.length : Int) := by omega
          obtain ⟨b, off, rfl, a0⟩ := HU.out wr k HC.out.1 hlt
          have HTK := Lib.hid (take_uns rs us k hlt)
          have HNR := Lib.hid (show badB (us.getD k ByteArray.empty) = true → linesR rs us = none from fun h => linesR_no_un hlt h)
          have HYR := Lib.hid (show badB (us.getD k ByteArray.empty) = false → ∀ j, j < k + 1 → badB (us.getD j ByteArray.empty) = false from fun h j hj => by
            by_cases e : j = k
            · subst e
              exact h
            · exact HBAD.out j (by omega))
          have hsz := HUS.out k hlt
          generalize us.getD k ByteArray.empty = x at *
          have hb1 := (Below.refl wr.heap.size wr).alloc (Nat.le_refl _) (.cells #[.string x] 9)
          have hn2 := names_in (cap := 1) (zs := [x]) (b := wr.heap.size) (off := 0) (HE.out _ (chain HC.out.1 hb1)) (fun j hj => by
            have hj0 : j = 0 := (by simpa using hj)
            subst hj0
            have h := last wr (.cells #[.string x] 9)
            simp only [World.cell?, h]
            rfl) (by simp) (fun j hj => by
            have hj0 : j = 0 := (by simpa using hj)
            subst hj0
            simp
            omega)
          have HB1 := Lib.hid hb1
          clear hb1
          simp only [List.length_cons, List.length_nil, List.any_cons, List.any_nil, Bool.or_false] at hn2
          cases hq : badB x with
          | true =>
            rw [hq] at hn2
            have HX := Lib.hid (HNR.out hq)
            clear hq
            go_wp2_with fail
            refine hn2.mono ?_
            clear hn2
            rintro e w2 ⟨rfl, hb2⟩
            have HB2 := Lib.hid (chain HC.out.1 (chain HB1.out hb2))
            clear hb2
            go_wp2_with fail
            exact bodyPost_ret (v := .tuple #[.slice none 0 0, .int .i64 1]) (by simp [results, Tryz.results13, go_sem]) rfl ⟨by rw [HX.out]; rfl, chain HB0.out.1 HB2.out⟩
          | false =>
            rw [hq] at hn2
            have HX := Lib.hid (HYR.out hq)
            clear hq
            go_wp2_with fail
            refine hn2.mono ?_
            clear hn2
            rintro e w2 ⟨rfl, hb2⟩
            have HB2 := Lib.hid (chain HC.out.1 (chain HB1.out hb2))
            have HR2 := Lib.hid (owns_block HC.out.2 fun g hg => (chain HB1.out hb2).block g (row_lt HC.out.2 hg).2)
            have hs2 := HB2.out.size
            clear hb2 a0
            have z1 : ¬ 9223372036854775807 < 7 + x.size := by omega
            go_wp2_with (at_builtin; refine wpList_append_own _ rfl _ _ 40 rfl wb.heap.size 9 i0 (.string ⟨#[]⟩) 1 16 Tryz.underlying40 hi0 hz0 hz1 hz2 rfl (by decide) (.slice A3 (rs.length + k) k3) (rs.length + k) (strs (rs.map rowB ++ (us.take k).map unB)) rfl (HR2.out.alloc _) ⟨w2.heap.size, 0, none⟩ 1 1 [.string (unB x)] rfl rfl ?c2 ?c3 ?c4 ?c5 ?c6 ?_)
            case c2 => first | exact fun j u h => h | exact news1 _ _ _
            case c3 => simp [Value.oneCell']
            case c4 => unfold maxLen; omega
            case c5 => omega
            case c6 => first | omega | (simp; omega)
            intro v' wa hown hgrow hnil
            have HB4 := Lib.hid (grow_below HB2.out hs2 HR2.out hgrow)
            have HR4 := Lib.hid (show wa.ownsRow wb.heap.size 9 1 v' (rs.length + (k + 1)) (strs (rs.map rowB ++ (us.take (k + 1)).map unB)) by
              rw [HTK.out, List.map_take]
              exact hown)
            clear hown hgrow hnil
            go_wp2_with fail
            go_roundg gq
            case measure => omega
            case rel => exact ⟨k + 1, by first | rfl | go_num, by omega, HB4.out, HR4.out, HX.out⟩
        · have hlt' : ¬ (k : Int) < (us.length : Int) := by omega
          obtain rfl : k = us.length := by omega
          have HX := Lib.hid (show linesR rs us = some (linesOf rs us) by
            unfold linesR
            rw [if_pos ⟨fun i hi => HALL.out i (by omega), fun i hi => HBAD.out i hi⟩])
          have HFR := Lib.hid (show wr.ownsRow w.heap.size 9 1 (.slice A3 (rs.length + us.length) k3) (linesOf rs us).length (strs (linesOf rs us)) by
            have h := HC.out.2
            rw [List.take_length] at h
            have e : (linesOf rs us).length = rs.length + us.length := by simp [linesOf]
            rw [e]
            exact row_base h (by have := HB0.out.2; omega))
          go_wp2_with fail
          exact bodyPost_ret (v := .tuple #[.slice A3 (rs.length + us.length) k3, .int .i64 0]) (by simp [results, Tryz.results13, go_sem]) rfl ⟨by rw [HX.out]; exact ⟨_, rfl, HFR.out⟩, chain HB0.out.1 HC.out.1⟩
end Go.Proofs.YtinebmfmkgjaaaaGreatDoor
