/- The law AuditLines, walked. -/
import Derived.Test.YtinebmfmkgjaaaaGreatDoorAuL2
import Derived.Test.YtinebmfmkgjaaaaGreatDoorAud7z
set_option linter.unusedVariables false
set_option linter.unusedSimpArgs false
namespace Go.Proofs.YtinebmfmkgjaaaaGreatDoor
open Go.RowKit

theorem linesR_good {rs : List Rw} {us : List ByteArray} {l : List ByteArray} (h : linesR rs us = some l) : GoodRep rs us ∧ l = linesOf rs us := by
  unfold linesR at h
  split at h
  · rename_i hh
    cases h
    refine ⟨⟨fun r hr => ?_, fun x hx => ?_⟩, rfl⟩
    · obtain ⟨i, hi, rfl⟩ := List.mem_iff_getElem.1 hr
      have := hh.1 i hi
      rwa [List.getD, List.getElem?_eq_getElem hi] at this
    · obtain ⟨i, hi, rfl⟩ := List.mem_iff_getElem.1 hx
      have := hh.2 i hi
      rwa [List.getD, List.getElem?_eq_getElem hi] at this
  · cases h
theorem rowB_size {r : Rw} (h : r.ok) : (rowB r).size ≤ 8388608 := by
  obtain ⟨a, b, c, d, e⟩ := row_sizes h
  unfold rowB
  simp only [ByteArray.size_append]
  have k1 : (⟨#[32, 114, 101, 108, 101, 97, 115, 101, 32]⟩ : ByteArray).size = 9 := rfl
  have k2 : (⟨#[32, 102, 114, 111, 109, 32]⟩ : ByteArray).size = 6 := rfl
  have k3 : (⟨#[32, 116, 111, 32]⟩ : ByteArray).size = 4 := rfl
  have k4 : (⟨#[32, 105, 110, 32]⟩ : ByteArray).size = 4 := rfl
  rw [k1, k2, k3, k4]
  omega
theorem lines_sizes {rs : List Rw} {us : List ByteArray} (hd : ∀ i, i < rs.length → (rs.getD i default).ok) (hus : ∀ i, i < us.length → (us.getD i ByteArray.empty).size ≤ 1048576) : ∀ i, i < (linesOf rs us).length → ((linesOf rs us).getD i ByteArray.empty).size ≤ 8388608 := by
  intro i hi
  have hm : (linesOf rs us).getD i ByteArray.empty ∈ linesOf rs us := by
    rw [List.getD, List.getElem?_eq_getElem hi]
    exact List.getElem_mem _
  unfold linesOf at hm
  rcases List.mem_append.1 hm with h | h
  · obtain ⟨r, hr, e⟩ := List.mem_map.1 h
    have e' : (linesOf rs us).getD i ByteArray.empty = rowB r := e.symm
    rw [e']
    obtain ⟨j, hj, rfl⟩ := List.mem_iff_getElem.1 hr
    have := hd j hj
    rw [List.getD, List.getElem?_eq_getElem hj] at this
    exact rowB_size this
  · obtain ⟨r, hr, e⟩ := List.mem_map.1 h
    have e' : (linesOf rs us).getD i ByteArray.empty = unB r := e.symm
    rw [e']
    obtain ⟨j, hj, rfl⟩ := List.mem_iff_getElem.1 hr
    have := hus j hj
    rw [List.getD, List.getElem?_eq_getElem hj] at this
    unfold unB
    rw [ByteArray.size_append]
    have k1 : (⟨#[117, 110, 117, 115, 101, 100, 32]⟩ : ByteArray).size = 7 := rfl
    rw [k1]
    have h2 : (some us[j]).getD ByteArray.empty = us[j] := rfl
    rw [h2] at this
    omega
set_option maxRecDepth 100000 in
set_option maxHeartbeats 16000000 in
theorem AuditLines_in (A B : Option Addr) (cap cap2 : Nat) (rs : List Rw) (us : List ByteArray) (w : World) (hn : rs.length ≤ 1048576) (hm : us.length ≤ 1048576) (hd : ∀ i, i < rs.length → (rs.getD i default).ok) (hus : ∀ i, i < us.length → (us.getD i ByteArray.empty).size ≤ 1048576) (hat : RowsAt w A rs) (hut : LinesAt w B us) (henv : Env w) (ht : TabOk w) (hv : ErrVs w) :
    Calls Tryz.prog 4 #[.agg #[.slice A rs.length cap, .slice B us.length cap2]] w fun e w' => e = .returned (.bool true) ∧ Below w.heap.size w w' := by
  have HW := Lib.hid (And.intro henv (And.intro ht (And.intro hv (And.intro hat hut))))
  have HD := Lib.hid (And.intro hd hus)
  clear henv ht hv hat hut hd hus
  go_enter Tryz.func4, Tryz.ntmps4
  have hb0 := (Below.refl w.heap.size w).alloc (Nat.le_refl _) (.cells #[.slice A rs.length cap, .slice B us.length cap2] 42)
  have HCL := Lib.hid (show ∀ W, Below (w.alloc (.cells #[.slice A rs.length cap, .slice B us.length cap2] 42)).heap.size (w.alloc (.cells #[.slice A rs.length cap, .slice B us.length cap2] 42)) W → W.cell? ⟨w.heap.size, 0, none⟩ = some (.slice A rs.length cap) ∧ W.cell? ⟨w.heap.size, 1, none⟩ = some (.slice B us.length cap2) from fun W hb => cellsOf2p ((hb.block _ (by simp)).trans (last w _)))
  have HB0 := Lib.hid hb0
  clear hb0
  obtain ⟨p0, p1⟩ := HCL.out _ (Below.refl _ _)
  have hlv := fun W hb => lives20_in (w := W) (HW.out.1.below (w' := W) hb) (HW.out.2.1.under hb)
  have HLV := Lib.hid hlv
  clear hlv
  go_wp2_with fail
  generalize w.alloc (.cells #[.slice A rs.length cap, .slice B us.length cap2] 42) = w1 at *
  have HF := Lib.hid (fun W (hb : Below w1.heap.size w1 W) => chain HB0.out hb)
  have HB1 := Lib.hid (Below.refl w1.heap.size w1)
  refine (HLV.out w1 (HF.out w1 HB1.out)).mono ?_
  rintro e w2 ⟨rfl, hb⟩
  have HB2 := Lib.hid hb
  clear hb p0 p1
  obtain ⟨p0, p1⟩ := HCL.out _ HB2.out
  have hsm := small_in A B cap cap2 rs us w2 hn hm (HW.out.2.2.2.1.under (HF.out _ HB2.out)) (HW.out.2.2.2.2.under (HF.out _ HB2.out))
  go_wp2_with fail
  refine hsm.mono ?_
  clear hsm
  rintro e w3 ⟨⟨b, rfl⟩, hb⟩
  have HB3 := Lib.hid (chain HB2.out hb)
  clear hb p0 p1
  obtain ⟨p0, p1⟩ := HCL.out _ HB3.out
  cases b with
  | false =>
    go_wp2_with fail
    refine (HLV.out w3 (HF.out w3 HB3.out)).mono ?_
    rintro e w4 ⟨rfl, hb⟩
    have HB4 := Lib.hid (HF.out _ (chain HB3.out hb))
    clear hb
    go_wp2_with fail
    go_ret
    exact ⟨rfl, HB4.out⟩
  | true =>
    have hli := LinesU_in A B cap cap2 rs us w3 hn hm HD.out.1 HD.out.2 (HW.out.2.2.2.1.under (HF.out _ HB3.out)) (HW.out.2.2.2.2.under (HF.out _ HB3.out)) (HW.out.1.below (HF.out _ HB3.out)) (HW.out.2.1.under (HF.out _ HB3.out))
    have HRF := Lib.hid (fun W (hb : Below w1.heap.size w1 W) A' cap' (h : RowsAt W A' rs) => refLines_in A' B cap' cap2 rs us W hn hm HD.out.1 HD.out.2 h (HW.out.2.2.2.2.under (HF.out W hb)))
    have HRW := Lib.hid (fun W (hb : Below w1.heap.size w1 W) => rows_in A cap rs W hn (HW.out.2.2.2.1.under (HF.out W hb)))
    have HG := Lib.hid (fun l (h : linesR rs us = some l) => linesR_good h)
    go_wp2_with fail
    refine hli.mono ?_
    clear hli
    rintro e w4 ⟨hend, hb⟩
    have HB4 := Lib.hid (chain HB3.out hb)
    have HBX := Lib.hid hb
    clear hb p0 p1
    cases hl : linesR rs us with
    | none =>
      rw [hl] at hend HRF
      replace hend : e = .returned (.tuple #[.slice none 0 0, .int .i64 1]) := hend
      subst hend
      clear hl
      obtain ⟨p0, p1⟩ := HCL.out _ HB4.out
      have hbw4 := HB4.out.drew
      go_wp2_with fail
      go_region_held3 (fun W => W.cell? ⟨w.heap.size, 0, none⟩ = some (.slice A rs.length cap) ∧ W.cell? ⟨w.heap.size, 1, none⟩ = some (.slice B us.length cap2))
        (first | exact HCL.out _ (by with_reducible assumption))
        (first
          | (go_at_call 15; refine (HRW.out _ (by with_reducible assumption)).mono ?_; rintro e w5 ⟨⟨v5, rfl, hown⟩, hbn⟩; have hb5 := chain (by with_reducible assumption) hbn; obtain ⟨A5, c5, rfl, hat5⟩ := rows_at hown; clear hbn hown; obtain ⟨p0, p1⟩ := HCL.out _ hb5)
          | (go_at_call 14; refine (HRF.out _ hb5 _ _ hat5).mono ?_; rintro e w6 ⟨rfl, hbn⟩; have hb6 := chain hb5 hbn; clear hbn; obtain ⟨p0, p1⟩ := HCL.out _ hb6))
      all_goals
        have HB6 := Lib.hid (HF.out _ hb6)
        go_wp2_with fail
        go_ret
        exact ⟨rfl, HB6.out⟩
    | some l =>
      rw [hl] at hend HRF
      obtain ⟨v4, rfl, hown4⟩ := hend
      obtain ⟨hgood, hll⟩ := HG.out l hl
      obtain ⟨A4, c4, rfl, hat4⟩ := strs_at hown4
      have HL4 := Lib.hid hat4
      have HGD := Lib.hid (And.intro hgood hll)
      clear hl hown4 hat4 hgood hll
      obtain ⟨p0, p1⟩ := HCL.out _ HB4.out
      have hbw4 := HB4.out.drew
      go_wp2_with fail
      go_region_held3 (fun W => W.cell? ⟨w.heap.size, 0, none⟩ = some (.slice A rs.length cap) ∧ W.cell? ⟨w.heap.size, 1, none⟩ = some (.slice B us.length cap2))
        (first | exact HCL.out _ (by with_reducible assumption))
        (first
          | (go_at_call 15; refine (HRW.out _ (by with_reducible assumption)).mono ?_; rintro e w5 ⟨⟨v5, rfl, hown⟩, hbn⟩; have hbn5 := hbn; have hb5 := chain (by with_reducible assumption) hbn; obtain ⟨A5, c5, rfl, hat5⟩ := rows_at hown; clear hbn hown; obtain ⟨p0, p1⟩ := HCL.out _ hb5)
          | (go_at_call 14; refine (HRF.out _ hb5 _ _ hat5).mono ?_; rintro e w6 ⟨⟨v6, rfl, hown⟩, hbn⟩; have hbn6 := hbn; obtain ⟨A6, c6, rfl, hat6⟩ := strs_at hown; clear hown; have hb6 := chain hb5 hbn; clear hbn; obtain ⟨p0, p1⟩ := HCL.out _ hb6))
      all_goals
        have HB6 := Lib.hid hb6
        have HL6 := Lib.hid hat6
        have hb46 : Below w4.heap.size w4 w6 := chain (chain (Below.refl w4.heap.size w4).drew hbn5) hbn6
        have HL46 := Lib.hid (HL4.out.under hb46)
        have HPA := Lib.hid (Parse_in A4 c4 l w6 (by rw [HGD.out.2]; simp [linesOf]; omega) (by rw [HGD.out.2]; exact lines_sizes HD.out.1 HD.out.2) HL46.out (HW.out.1.below (HF.out _ hb6)) (HW.out.2.1.under (HF.out _ hb6)) (HW.out.2.2.1.below (HF.out _ hb6)))
        have hpl : parseB l [] [] = some (rs, us) := by rw [HGD.out.2]; exact parse_lines HGD.out.1
        rw [hpl] at HPA
        have HLN := Lib.hid (show l.length ≤ 8388608 by rw [HGD.out.2]; simp [linesOf]; omega)
        clear hpl hb46 hat6 hb6 hbn5 hbn6 hat5 hb5
        go_wp2_with fail
        refine HPA.out.mono ?_
        rintro e w7 ⟨⟨rv, uv, rfl, hrw, huw⟩, hb⟩
        obtain ⟨A7, c7, rfl, hat7⟩ := rows_at hrw
        obtain ⟨A8, c8, rfl, hat8⟩ := strs_at huw
        have hb8 := (Below.refl w7.heap.size w7).alloc (Nat.le_refl _) (.cells #[.slice A7 rs.length c7, .slice A8 us.length c8] 42)
        have HB8 := Lib.hid (chain (chain HB6.out hb) hb8)
        have HLA := Lib.hid ((HL46.out.under hb).under hb8)
        have HLB := Lib.hid ((HL6.out.under hb).under hb8)
        have HR7 := Lib.hid (hat7.under hb8)
        have HU8 := Lib.hid (hat8.under hb8)
        have HZ := Lib.hid (last w7 (.cells #[.slice A7 rs.length c7, .slice A8 us.length c8] 42))
        clear hrw huw hat7 hat8 hb hb8 p0 p1
        go_upto_region 8 with fail
        generalize w7.heap.size = n7 at *
        generalize w7.alloc (.cells #[.slice A7 rs.length c7, .slice A8 us.length c8] 42) = w8 at *
        obtain ⟨p0, p1⟩ := HCL.out _ HB8.out
        obtain ⟨z0, z1⟩ := cellsOf2p HZ.out
        have hq1 := eqStr_in A4 A6 c4 c6 l w8 (by have := HLN.out; omega) HLA.out HLB.out
        go_wp2_with fail
        refine hq1.mono ?_
        clear hq1
        rintro e w9 ⟨rfl, hb⟩
        have HB9 := Lib.hid (chain HB8.out hb)
        have HZ9 := Lib.hid ((hb.block _ (heap_lt HZ.out)).trans HZ.out)
        have HR9 := Lib.hid (HR7.out.under hb)
        have HU9 := Lib.hid (HU8.out.under hb)
        clear hb p0 p1 z0 z1
        obtain ⟨p0, p1⟩ := HCL.out _ HB9.out
        obtain ⟨z0, z1⟩ := cellsOf2p HZ9.out
        have hq2 := eqRow_in A7 A c7 cap rs w9 (by omega) HR9.out (HW.out.2.2.2.1.under (HF.out _ HB9.out))
        go_wp2_with fail
        refine hq2.mono ?_
        clear hq2
        rintro e w10 ⟨rfl, hb⟩
        have HB10 := Lib.hid (chain HB9.out hb)
        have HZ10 := Lib.hid ((hb.block _ (heap_lt HZ9.out)).trans HZ9.out)
        have HU10 := Lib.hid (HU9.out.under hb)
        clear hb p0 p1 z0 z1
        obtain ⟨p0, p1⟩ := HCL.out _ HB10.out
        obtain ⟨z0, z1⟩ := cellsOf2p HZ10.out
        have hq3 := eqStr_in A8 B c8 cap2 us w10 (by omega) HU10.out (HW.out.2.2.2.2.under (HF.out _ HB10.out))
        go_wp2_with fail
        refine hq3.mono ?_
        clear hq3
        rintro e w11 ⟨rfl, hb⟩
        have HB11 := Lib.hid (HF.out _ (chain HB10.out hb))
        clear hb
        go_wp2_with fail
        go_ret
        exact ⟨rfl, HB11.out⟩
end Go.Proofs.YtinebmfmkgjaaaaGreatDoor
