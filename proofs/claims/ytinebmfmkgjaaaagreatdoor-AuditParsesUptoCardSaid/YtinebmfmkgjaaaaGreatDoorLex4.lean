/- Where a text has bytes that are none. -/
import Derived.Test.YtinebmfmkgjaaaaGreatDoorLex3
import Derived.Shelf.Unicode.DecodeLastEight
set_option linter.unusedVariables false
set_option linter.unusedSimpArgs false
namespace Go.Proofs.YtinebmfmkgjaaaaGreatDoor
open Go.RowKit

/-- The library's tables and MaxLen lie as they were laid. -/
structure Env (w : World) : Prop where
  max : MaxAt w
  tabs : Lib.Utf8Tabs 1 2 w
theorem Env.below {w w' : World} (h : Env w) (hb : Below w.heap.size w w') : Env w' := by
  refine ⟨h.max.same (hb.block _ h.max.lt), fun c hc => ?_, fun i hi => ?_⟩
  · have := h.tabs.1 c hc
    exact (World.cell?_of_block (hb.block _ (cell_lt this))).trans this
  · obtain ⟨h1, h2⟩ := h.tabs.2 i hi
    exact ⟨(World.cell?_of_block (hb.block _ (cell_lt h1))).trans h1, (World.cell?_of_block (hb.block _ (cell_lt h2))).trans h2⟩
/-- A diagnosis, as an error. -/
def diagV (code l c : Int) : Value := .iface 33 (.agg #[.int .i64 code, .int .i64 l, .int .i64 c, .string ⟨#[]⟩])
def errV : Option (Int × Int) → Value
  | none => .nilIface
  | some (l, c) => diagV 3 l c
set_option maxRecDepth 100000 in
set_option maxHeartbeats 8000000 in
theorem valid_in {w : World} (s : ByteArray) (henv : Env w) (hs : s.size ≤ 131000) :
    Calls Tryz.prog 21 #[.string s] w fun e w' => e = .returned (errV (validB s.size s 1 1)) ∧ Below w.heap.size w w' := by
  have HE := Lib.hid henv
  obtain ⟨R, hR⟩ : ∃ z, validB s.size s 1 1 = z := ⟨_, rfl⟩
  rw [hR]
  have HR := Lib.hid hR
  clear hR
  have HB0 := Lib.hid ((Below.refl w.heap.size w).alloc (Nat.le_refl _) (.cells #[.string s, .int .i64 1, .int .i64 1] 67))
  have HL0 := Lib.hid (last w (.cells #[.string s, .int .i64 1, .int .i64 1] 67))
  have hgl := henv.max.lt
  have HNE := Lib.hid (show w.heap.size ≠ 3 by omega)
  clear henv hgl
  go_enter Tryz.func21, Tryz.ntmps21
  go_wp2_with fail
  generalize hW0 : w.alloc (.cells #[.string s, .int .i64 1, .int .i64 1] 67) = W0 at *
  clear hW0
  go_loopg [4] s.size (fun gk _ wr => ∃ (t : ByteArray) (l' c' : Int), Rd wr w.heap.size t l' c' ∧ Below w.heap.size w wr ∧ validB gk t l' c' = R ∧ t.size ≤ gk)
  case atStart => exact ⟨s, 1, 1, ⟨HL0.out, (HE.out.below HB0.out).max, HNE.out, by omega, by omega⟩, HB0.out, HR.out, Nat.le_refl _⟩
  case round =>
    obtain ⟨t, l', c', hrd, hbe, hva, hgk⟩ := hrel
    have H1 := Lib.hid (And.intro hrd (And.intro hbe hva))
    have hfz := frozenOf hrd.at'
    obtain ⟨a0, a1, a2⟩ := hrd.at'.cells
    have hsm := hrd.small
    have hln := hrd.line
    clear hrd hbe hva
    by_cases h0 : t.size = 0
    · have he := empty_of h0
      go_wp2_with fail
      go_ret
      have hr : R = none := by
        rw [← H1.out.2.2]
        cases gk with
        | zero => rfl
        | succ N => simp [validB, h0]
      rw [hr]
      exact ⟨rfl, H1.out.2.1⟩
    · have he := full_of h0
      obtain ⟨N, rfl⟩ : ∃ N, gk = N + 1 := ⟨gk - 1, by omega⟩
      have hpos : 0 < t.size := by omega
      have hc := Tryz.utf8_DecodeRuneInString t wr (HE.out.below H1.out.2.1).tabs
      have hd1 : 1 ≤ (Lib.decodeGo t).2 := by
        unfold Lib.decodeGo
        rw [if_neg h0]
        exact Lib.decode_width_pos t 0 hpos
      have hd2 := Lib.decodeGo_le_size t
      have hd3 : (Lib.decodeGo t).1 ≤ 2147483647 := by
        unfold Lib.decodeGo
        rw [if_neg h0]
        exact decode_le t 0
      have HV := Lib.hid (show validB (N + 1) t l' c' = if (Lib.decodeGo t).1 = 65533 ∧ (Lib.decodeGo t).2 = 1 then some (l', c') else if (Lib.decodeGo t).1 = 10 then validB N (aft t 1) (l' + 1) 1 else validB N (aft t (Lib.decodeGo t).2) l' (c' + Lib.runeCount (fore t (Lib.decodeGo t).2)) by
        simp only [validB]
        rw [if_neg h0])
      generalize (Lib.decodeGo t).1 = r at *
      generalize (Lib.decodeGo t).2 = n at *
      go_wp2_with fail
      refine hc.mono ?_
      clear hc
      rintro e w2 ⟨rfl, hb2⟩
      have hr2 := H1.out.1.under hb2
      have HB2 := Lib.hid (And.intro hr2 (chain H1.out.2.1 hb2))
      have hfz2 := frozenOf hr2.at'
      obtain ⟨c0, c1, c2⟩ := hr2.at'.cells
      clear a0 a1 a2 hfz hb2 hr2
      by_cases h65 : r = 65533 ∧ n = 1
      · obtain ⟨rfl, rfl⟩ := h65
        have hc := wrong_in HB2.out.1.at' 3
        go_wp2_with fail
        refine hc.mono ?_
        clear hc
        rintro e w3 ⟨rfl, hb3⟩
        have HF := Lib.hid (chain HB2.out.2 hb3)
        clear hb3
        go_wp2_with fail
        go_ret
        have hr : R = some (l', c') := by rw [← H1.out.2.2, HV.out]; simp
        rw [hr]
        exact ⟨rfl, HF.out⟩
      · have HN65 := Lib.hid h65
        have k65 : ((r : Int) == 65533) = true → ((n : Int) == 1) = false := fun h => by
          rw [beq_eq_false_iff_ne]
          intro h1
          apply h65
          have := eq_of_beq h
          omega
        by_cases h10 : r = 10
        · subst h10
          have hwr : IntKind.i64.wrap (l' + 1) = l' + 1 := IntWalk.i64_in _ (by omega)
          have h1' : (1 : Int) ≤ (t.size : Int) := by omega
          clear k65
          go_wp2_with fail
          go_region
          all_goals
            have H3 := Lib.hid (show Rd (((w2.setCell ⟨w.heap.size, 0, none⟩ (.string (t.extract 1 t.size))).setCell ⟨w.heap.size, 1, none⟩ (.int .i64 (l' + 1))).setCell ⟨w.heap.size, 2, none⟩ (.int .i64 1)).drew w.heap.size (aft t 1) (l' + 1) 1 ∧ Below w.heap.size w (((w2.setCell ⟨w.heap.size, 0, none⟩ (.string (t.extract 1 t.size))).setCell ⟨w.heap.size, 1, none⟩ (.int .i64 (l' + 1))).setCell ⟨w.heap.size, 2, none⟩ (.int .i64 1)).drew from
              ⟨HB2.out.1.nl hpos (show RdAt _ w.heap.size _ _ _ from setc (setc (setc HB2.out.1.at' 0 _) 1 _) 2 _) (((((Turn.refl w.heap.size w2).setCell 0 _).setCell 1 _).setCell 2 _).drew), (((HB2.out.2.setCell (Nat.le_refl _) _).setCell (Nat.le_refl _) _).setCell (Nat.le_refl _) _).drew⟩)
            clear c0 c1 c2 hfz2 hwr
            go_wp2_with fail
            go_roundg N
            case measure => omega
            case rel =>
              refine ⟨aft t 1, l' + 1, 1, H3.out.1, H3.out.2, ?_, ?_⟩
              · rw [← H1.out.2.2, HV.out]
                simp
              · rw [aft_size]
                omega
        · have k10 : ((r : Int) == 10) = false := by
            rw [beq_eq_false_iff_ne]
            omega
          have hc := HB2.out.1.skip (n := n) hd2
          by_cases hr65 : r = 65533
          · have k1 : ((r : Int) == 65533) = true := by simp [hr65]
            have k2 := k65 k1
            clear k65
            go_wp2_with fail
            refine hc.mono ?_
            clear hc
            rintro e w3 ⟨rfl, hr3, ht3⟩
            have H3 := Lib.hid (And.intro hr3 (HB2.out.2.trans (ht3.below (Nat.le_refl _) HB2.out.2.size)))
            clear hr3 ht3 c0 c1 c2 hfz2
            go_wp2_with fail
            go_roundg N
            case measure => omega
            case rel =>
              refine ⟨aft t n, l', c' + Lib.runeCount (fore t n), H3.out.1, H3.out.2, ?_, ?_⟩
              · rw [← H1.out.2.2, HV.out, if_neg HN65.out, if_neg h10]
              · rw [aft_size]
                omega
          · have k1 : ((r : Int) == 65533) = false := by
              rw [beq_eq_false_iff_ne]
              omega
            clear k65
            go_wp2_with fail
            refine hc.mono ?_
            clear hc
            rintro e w3 ⟨rfl, hr3, ht3⟩
            have H3 := Lib.hid (And.intro hr3 (HB2.out.2.trans (ht3.below (Nat.le_refl _) HB2.out.2.size)))
            clear hr3 ht3 c0 c1 c2 hfz2
            go_wp2_with fail
            go_roundg N
            case measure => omega
            case rel =>
              refine ⟨aft t n, l', c' + Lib.runeCount (fore t n), H3.out.1, H3.out.2, ?_, ?_⟩
              · rw [← H1.out.2.2, HV.out, if_neg HN65.out, if_neg h10]
              · rw [aft_size]
                omega
end Go.Proofs.YtinebmfmkgjaaaaGreatDoor
