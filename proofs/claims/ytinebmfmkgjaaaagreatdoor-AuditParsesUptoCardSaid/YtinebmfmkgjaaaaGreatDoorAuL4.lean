/- The law AuditParses, walked. -/
import Derived.Test.YtinebmfmkgjaaaaGreatDoorAuR8
set_option linter.unusedVariables false
set_option linter.unusedSimpArgs false
namespace Go.Proofs.YtinebmfmkgjaaaaGreatDoor
open Go.RowKit

theorem linesR_of {rs : List Rw} {us : List ByteArray} (h : GoodRep rs us) : linesR rs us = some (linesOf rs us) := by
  unfold linesR
  rw [if_pos]
  refine ⟨fun i hi => ?_, fun i hi => ?_⟩
  · rw [List.getD, List.getElem?_eq_getElem hi]
    exact h.rows _ (List.getElem_mem _)
  · rw [List.getD, List.getElem?_eq_getElem hi]
    exact h.uns _ (List.getElem_mem _)
theorem mem_size {l : List ByteArray} (hs : ∀ i, i < l.length → (l.getD i ByteArray.empty).size ≤ 1048576) {x : ByteArray} (h : x ∈ l) : x.size ≤ 1048576 := by
  obtain ⟨i, hi, rfl⟩ := List.mem_iff_getElem.1 h
  have := hs i hi
  rwa [List.getD, List.getElem?_eq_getElem hi] at this
theorem row_ok_of {r : Rw} (h : r.right = true) (hs : (rowB r).size ≤ 1048576) : r.ok := by
  have hr := (right_iff r).1 h
  unfold rowB at hs
  simp only [ByteArray.size_append] at hs
  have h1 := hr.l1
  have h2 := hr.l2
  have h3 := hr.c1
  have h4 := hr.c2
  exact ⟨⟨by omega, by omega⟩, ⟨by omega, by omega⟩, by omega, by omega, by omega, by omega⟩
theorem parsed_ok {l : List ByteArray} {rs : List Rw} {us : List ByteArray} (hg : GoodRep rs us) (hl : linesOf rs us = l) (hs : ∀ i, i < l.length → (l.getD i ByteArray.empty).size ≤ 1048576) :
    (∀ i, i < rs.length → (rs.getD i default).ok) ∧ (∀ i, i < us.length → (us.getD i ByteArray.empty).size ≤ 1048576) ∧ rs.length + us.length = l.length := by
  subst hl
  refine ⟨fun i hi => ?_, fun i hi => ?_, by simp [linesOf]⟩
  · rw [List.getD, List.getElem?_eq_getElem hi]
    have hm : rs[i] ∈ rs := List.getElem_mem _
    exact row_ok_of (hg.rows _ hm) (mem_size hs (List.mem_append_left _ (List.mem_map.2 ⟨_, hm, rfl⟩)))
  · rw [List.getD, List.getElem?_eq_getElem hi]
    have hm : us[i] ∈ us := List.getElem_mem _
    have h := mem_size hs (List.mem_append_right _ (List.mem_map.2 ⟨_, hm, rfl⟩) : unB us[i] ∈ linesOf rs us)
    unfold unB at h
    rw [ByteArray.size_append] at h
    have h2 : (some us[i]).getD ByteArray.empty = us[i] := rfl
    rw [h2]
    omega
theorem ref_none {w : World} {l : List ByteArray} (hp : parseB l [] [] = none) {e : Ending} {w' : World} (h : RefParseEnd w (parseR l [] []) e w') : ∃ rv uv, e = .returned (.tuple #[rv, uv, .bool false]) ∧ Below w.heap.size w w' := by
  cases hr : parseR l [] [] with
  | none =>
    rw [hr] at h
    exact ⟨_, _, h.1, h.2⟩
  | some p =>
    obtain ⟨rs, us⟩ := p
    rw [hr] at h
    obtain ⟨⟨rv, uv, he, _, _⟩, hb⟩ := h
    have hn := (parse_same l).2 hp rs us hr
    cases hl : linesR rs us with
    | none =>
      rw [hl] at he
      exact ⟨rv, uv, he, hb⟩
    | some q => exact absurd (linesR_good hl).1 hn
set_option maxRecDepth 100000 in
set_option maxHeartbeats 16000000 in
theorem AuditParses_in (A : Option Addr) (cap : Nat) (l : List ByteArray) (w : World) (hn : l.length ≤ 1048576) (hs : ∀ i, i < l.length → (l.getD i ByteArray.empty).size ≤ 1048576) (hat : LinesAt w A l) (henv : Env w) (ht : TabOk w) (hv : ErrVs w) :
    Calls Tryz.prog 5 #[.slice A l.length cap] w fun e w' => e = .returned (.bool true) ∧ Below w.heap.size w w' := by
  have HW := Lib.hid (And.intro henv (And.intro ht (And.intro hv hat)))
  have HS := Lib.hid hs
  have hlv := fun W hb => lives20_in (w := W) (HW.out.1.below (w' := W) hb) (HW.out.2.1.under hb)
  have HLV := Lib.hid hlv
  clear henv ht hv hat hs hlv
  go_enter Tryz.func5, Tryz.ntmps5
  go_wp2_with fail
  go_loopg [3, 15] l.length (fun gk nv iv wr => ∃ (k : Nat) (z : Int), nv = .int .i64 z ∧ iv = .int .i64 (k : Int) ∧ k + gk = l.length ∧ Below w.heap.size w wr)
  case atStart => exact ⟨0, _, rfl, rfl, by omega, Below.refl _ _⟩
  case round =>
    obtain ⟨k, z, rfl, rfl, hkg, hb⟩ := hrel
    have HB := Lib.hid hb
    clear hb
    by_cases hlt : k < l.length
    · obtain ⟨gq, rfl⟩ : ∃ g, gk = g + 1 := ⟨gk - 1, by omega⟩
      have hlt' : (k : Int) < (l.length : Int) := by omega
      obtain ⟨b, off, rfl, a0⟩ := (HW.out.2.2.2.under HB.out).get hlt
      generalize l.getD k ByteArray.empty = x at *
      go_wp2_with fail
      go_roundg gq
      case measure => omega
      case rel => exact ⟨k + 1, _, rfl, by first | rfl | go_num, by omega, HB.out⟩
    · have hlt' : ¬ (k : Int) < (l.length : Int) := by omega
      clear hkg
      go_wp2_with fail
      refine (HLV.out wr HB.out).mono ?_
      rintro e w2 ⟨rfl, hb⟩
      have HB2 := Lib.hid (chain HB.out hb)
      clear hb
      by_cases hz : 4000 < z
      · go_wp2_with fail
        refine (HLV.out w2 HB2.out).mono ?_
        rintro e w4 ⟨rfl, hb⟩
        have HB4 := Lib.hid (chain HB2.out hb)
        clear hb
        go_wp2_with fail
        go_ret
        exact ⟨rfl, HB4.out⟩
      · have hpa := Parse_in A cap l w2 (by omega) (fun i hi => Nat.le_trans (HS.out i hi) (by decide)) (HW.out.2.2.2.under HB2.out) (HW.out.1.below HB2.out) (HW.out.2.1.under HB2.out) (HW.out.2.2.1.below HB2.out)
        have HRP := Lib.hid (fun W (hb : Below w.heap.size w W) => refParse_in A cap l W hn HS.out (HW.out.2.2.2.under hb))
        go_wp2_with fail
        cases hp : parseB l [] [] with
        | none =>
          rw [hp] at hpa
          refine hpa.mono ?_
          clear hpa
          rintro e w3 ⟨rfl, hb⟩
          have HB3 := Lib.hid (chain HB2.out hb)
          have hb4 := (chain HB2.out hb).alloc (chain HB2.out hb).size (.cells #[.slice none 0 0, .slice none 0 0] 42)
          have HB4 := Lib.hid hb4
          have HL4 := Lib.hid (last w3 (.cells #[.slice none 0 0, .slice none 0 0] 42))
          have HPN := Lib.hid hp
          clear hb hb4 hp
          go_upto_region 10 with fail
          generalize w3.alloc (.cells #[.slice none 0 0, .slice none 0 0] 42) = w4 at *
          generalize w3.heap.size = n4 at *
          go_wp2_with fail
          refine (HRP.out w4 HB4.out).mono ?_
          intro e w5 he
          obtain ⟨rv, uv, rfl, hb⟩ := ref_none HPN.out he
          have HB5 := Lib.hid (chain HB4.out hb)
          obtain ⟨z0, z1⟩ := cellsOf2p ((hb.block _ (heap_lt HL4.out)).trans HL4.out)
          clear hb he
          go_wp2_with fail
          go_ret
          exact ⟨rfl, HB5.out⟩
        | some p =>
          obtain ⟨rs, us⟩ := p
          rw [hp] at hpa
          obtain ⟨hpr, hgood, hlo⟩ := (parse_same l).1 rs us hp
          obtain ⟨hok, hus, hlen⟩ := parsed_ok hgood hlo HS.out
          have hlr := linesR_of hgood
          have HG := Lib.hid (And.intro hpr (And.intro hlo (And.intro hok (And.intro hus hlr))))
          clear hp hpr hgood hlo hok hus hlr
          refine hpa.mono ?_
          clear hpa
          rintro e w3 ⟨⟨rv, uv, rfl, hrw, huw⟩, hb⟩
          obtain ⟨A7, c7, rfl, hat7⟩ := rows_at hrw
          obtain ⟨A8, c8, rfl, hat8⟩ := strs_at huw
          have hb8 := (Below.refl w3.heap.size w3).alloc (Nat.le_refl _) (.cells #[.slice A7 rs.length c7, .slice A8 us.length c8] 42)
          have HB4 := Lib.hid (chain (chain HB2.out hb) hb8)
          have HR4 := Lib.hid (hat7.under hb8)
          have HU4 := Lib.hid (hat8.under hb8)
          have HL4 := Lib.hid (last w3 (.cells #[.slice A7 rs.length c7, .slice A8 us.length c8] 42))
          clear hrw huw hat7 hat8 hb hb8
          go_upto_region 10 with fail
          generalize w3.heap.size = n4 at *
          generalize w3.alloc (.cells #[.slice A7 rs.length c7, .slice A8 us.length c8] 42) = w4 at *
          have hrp := HRP.out w4 HB4.out
          rw [HG.out.1] at hrp
          go_wp2_with fail
          refine hrp.mono ?_
          clear hrp
          rintro e w5 ⟨⟨rv, uv, rfl, hrw, huw⟩, hb⟩
          rw [HG.out.2.2.2.2]
          obtain ⟨A5, c5, rfl, hat5⟩ := rows_at hrw
          obtain ⟨A6, c6, rfl, hat6⟩ := strs_at huw
          have HB5 := Lib.hid (chain HB4.out hb)
          have HX5 := Lib.hid hat5
          have HU5 := Lib.hid hat6
          have HR5 := Lib.hid (HR4.out.under hb)
          have HV5 := Lib.hid (HU4.out.under hb)
          have HL5 := Lib.hid ((hb.block _ (heap_lt HL4.out)).trans HL4.out)
          clear hrw huw hat5 hat6 hb
          have hli := LinesU_in A7 A8 c7 c8 rs us w5 (by omega) (by omega) HG.out.2.2.1 HG.out.2.2.2.1 HR5.out HV5.out (HW.out.1.below HB5.out) (HW.out.2.1.under HB5.out)
          rw [HG.out.2.2.2.2, HG.out.2.1] at hli
          obtain ⟨z0, z1⟩ := cellsOf2p HL5.out
          go_wp2_with fail
          refine hli.mono ?_
          clear hli
          rintro e w6 ⟨⟨v6, rfl, hown⟩, hb⟩
          obtain ⟨A9, c9, rfl, hat9⟩ := strs_at hown
          have HB6 := Lib.hid (chain HB5.out hb)
          have HX6 := Lib.hid (HX5.out.under hb)
          have HU6 := Lib.hid (HU5.out.under hb)
          have HR6 := Lib.hid (HR5.out.under hb)
          have HV6 := Lib.hid (HV5.out.under hb)
          have HY6 := Lib.hid hat9
          have HL6 := Lib.hid ((hb.block _ (heap_lt HL5.out)).trans HL5.out)
          clear hown hat9 hb z0 z1
          obtain ⟨z0, z1⟩ := cellsOf2p HL6.out
          have hrw := rows_in A7 c7 rs w6 (by omega) HR6.out
          go_wp2_with fail
          refine hrw.mono ?_
          clear hrw
          rintro e w7 ⟨⟨v7, rfl, hown⟩, hb⟩
          obtain ⟨A3, c3, rfl, hat3⟩ := rows_at hown
          have HB7 := Lib.hid (chain HB6.out hb)
          have HX7 := Lib.hid (HX6.out.under hb)
          have HU7 := Lib.hid (HU6.out.under hb)
          have HV7 := Lib.hid (HV6.out.under hb)
          have HY7 := Lib.hid (HY6.out.under hb)
          have HL7 := Lib.hid ((hb.block _ (heap_lt HL6.out)).trans HL6.out)
          have hq := eqRef_in A3 A5 c3 c5 rs w7 (by omega) hat3 HX7.out
          clear hown hat3 hb z0 z1
          obtain ⟨z0, z1⟩ := cellsOf2p HL7.out
          go_wp2_with fail
          refine hq.mono ?_
          clear hq
          rintro e w8 ⟨rfl, hb⟩
          have HB8 := Lib.hid (chain HB7.out hb)
          have HU8 := Lib.hid (HU7.out.under hb)
          have HV8 := Lib.hid (HV7.out.under hb)
          have HY8 := Lib.hid (HY7.out.under hb)
          have HL8 := Lib.hid ((hb.block _ (heap_lt HL7.out)).trans HL7.out)
          have hq := eqStr_in A8 A6 c8 c6 us w8 (by omega) HV8.out HU8.out
          clear hb z0 z1
          obtain ⟨z0, z1⟩ := cellsOf2p HL8.out
          go_wp2_with fail
          refine hq.mono ?_
          clear hq
          rintro e w9 ⟨rfl, hb⟩
          have HB9 := Lib.hid (chain HB8.out hb)
          have hq := eqStr_in A9 A c9 cap l w9 (by omega) (HY8.out.under hb) (HW.out.2.2.2.under HB9.out)
          clear hb z0 z1
          go_wp2_with fail
          refine hq.mono ?_
          clear hq
          rintro e w10 ⟨rfl, hb⟩
          have HB10 := Lib.hid (chain HB9.out hb)
          clear hb
          go_wp2_with fail
          go_ret
          exact ⟨rfl, HB10.out⟩
end Go.Proofs.YtinebmfmkgjaaaaGreatDoor
