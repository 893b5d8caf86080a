/- The reader goes to the next token. -/
import Derived.Test.YtinebmfmkgjaaaaGreatDoorLex2
set_option linter.unusedVariables false
set_option linter.unusedSimpArgs false
namespace Go.Proofs.YtinebmfmkgjaaaaGreatDoor
open Go.RowKit

theorem empty_of {t : ByteArray} (h : t.size = 0) : t.toList.isEmpty = true := by
  rw [Lib.toList_data, List.isEmpty_iff]
  exact List.eq_nil_of_length_eq_zero (by simpa using h)
theorem full_of {t : ByteArray} (h : t.size ≠ 0) : t.toList.isEmpty = false := by
  rw [Lib.toList_data, Bool.eq_false_iff]
  intro e
  have := List.isEmpty_iff.1 e
  apply h
  have h2 : t.data.toList.length = 0 := by rw [this]; rfl
  simpa using h2
theorem cut_le (l m : List UInt8) : (Lib.cut l m).1.length ≤ l.length := by
  unfold Lib.cut
  split
  · simp only [List.length_take]
    omega
  · exact Nat.le_refl _
theorem cut_pos {t : ByteArray} (h : 0 < t.size) (h10 : (t.data.toList.getD 0 0).toNat ≠ 10) : 1 ≤ (Lib.cut t.data.toList [10]).1.length := by
  have hl : 0 < t.data.toList.length := by simpa using h
  unfold Lib.cut
  rcases Lib.index_spec t.data.toList [10] with ⟨h1, _⟩ | ⟨i, h1, h2, h3, _⟩
  · rw [if_neg (by omega)]
    exact hl
  · rw [if_pos (by omega)]
    have hi : i ≠ 0 := by
      rintro rfl
      have h4 := Lib.occAt_head rfl h3
      apply h10
      rw [List.getD, h4]
      rfl
    simp only [List.length_take, h1, Int.toNat_natCast]
    omega
/-- The library's variable MaxLen is some number. -/
def MaxAt (w : World) : Prop := ∃ m : Int, w.cell? ⟨3, 0, none⟩ = some (.int .i64 m)
theorem MaxAt.same {w w' : World} (h : MaxAt w) (hb : w'.heap[3]? = w.heap[3]?) : MaxAt w' := by
  obtain ⟨m, hm⟩ := h
  exact ⟨m, (World.cell?_of_block hb).trans hm⟩
theorem MaxAt.lt {w : World} (h : MaxAt w) : 3 < w.heap.size := by
  obtain ⟨m, hm⟩ := h
  exact cell_lt hm
/-- Where the reader stands, and how much it may still count. -/
structure Rd (w : World) (b : Nat) (s : ByteArray) (l c : Int) : Prop where
  at' : RdAt w b s l c
  max : MaxAt w
  ne : b ≠ 3
  line : 1 ≤ l ∧ l + s.size ≤ 131073
  col : 1 ≤ c ∧ c + s.size ≤ 131073
theorem Rd.small {w : World} {b : Nat} {s : ByteArray} {l c : Int} (h : Rd w b s l c) : s.size ≤ 131072 := by
  have := h.line
  omega
theorem Rd.skip {w : World} {b : Nat} {s : ByteArray} {l c : Int} (h : Rd w b s l c) {n : Nat} (hn : n ≤ s.size) :
    Calls Tryz.prog 40 #[.pointer (some ⟨b, 0, none⟩), .int .i64 n] w fun e w' => e = .returned (.tuple #[]) ∧ Rd w' b (aft s n) l (c + Lib.runeCount (fore s n)) ∧ Turn b w w' := by
  have hs := h.small
  have h1 := h.line
  have h2 := h.col
  refine (skip_in h.at' n hn (by omega) ⟨by omega, by omega⟩).mono fun e w' ⟨he, hr, ht⟩ => ⟨he, ⟨hr, ?_, h.ne, ?_, ?_⟩, ht⟩
  · exact h.max.same (ht.block _ h.max.lt (fun e => h.ne e.symm))
  · rw [aft_size]
    omega
  · have := Lib.runeCount_le (fore s n)
    rw [fore_size hn] at this
    rw [aft_size]
    omega
theorem Rd.under {w w' : World} {b : Nat} {s : ByteArray} {l c : Int} (h : Rd w b s l c) (hb : Below w.heap.size w w') : Rd w' b s l c := ⟨h.at'.under hb, h.max.same (hb.block _ h.max.lt), h.ne, h.line, h.col⟩
theorem Rd.nl {w w' : World} {b : Nat} {s : ByteArray} {l c : Int} (h : Rd w b s l c) (hs : 0 < s.size) (hr : RdAt w' b (aft s 1) (l + 1) 1) (ht : Turn b w w') : Rd w' b (aft s 1) (l + 1) 1 := by
  have h1 := h.line
  have h2 := h.col
  have h3 := h.small
  refine ⟨hr, h.max.same (ht.block _ h.max.lt (fun e => h.ne e.symm)), h.ne, ?_, ?_⟩
  · rw [aft_size]
    omega
  · rw [aft_size]
    omega
set_option maxRecDepth 100000 in
set_option maxHeartbeats 8000000 in
theorem blanks_in {w : World} {b : Nat} {s : ByteArray} {l c : Int} (h : Rd w b s l c) :
    Calls Tryz.prog 22 #[.pointer (some ⟨b, 0, none⟩)] w fun e w' => e = .returned (.tuple #[]) ∧ Rd w' b (blanksB s.size s l c).1 (blanksB s.size s l c).2.1 (blanksB s.size s l c).2.2 ∧ Turn b w w' := by
  have H := Lib.hid h
  clear h
  obtain ⟨R, hR⟩ : ∃ z, blanksB s.size s l c = z := ⟨_, rfl⟩
  rw [hR]
  have HR := Lib.hid hR
  clear hR
  go_enter Tryz.func22, Tryz.ntmps22
  go_wp2_with fail
  go_loopg [2] s.size (fun gk _ wr => ∃ (t : ByteArray) (l' c' : Int), Rd wr b t l' c' ∧ Turn b w wr ∧ blanksB gk t l' c' = R ∧ t.size ≤ gk)
  case atStart => exact ⟨s, l, c, H.out, Turn.refl _ _, HR.out, Nat.le_refl _⟩
  case round =>
    obtain ⟨t, l', c', hrd, htn, hbl, hgk⟩ := hrel
    have H1 := Lib.hid (And.intro hrd (And.intro htn hbl))
    have hfz := frozenOf hrd.at'
    obtain ⟨a0, a1, a2⟩ := hrd.at'.cells
    have hsm := hrd.small
    have hln := hrd.line
    clear hrd htn hbl
    by_cases h0 : t.size = 0
    · have he := empty_of h0
      go_wp2_with fail
      go_end0
      have hr : R = (t, l', c') := by
        rw [← H1.out.2.2]
        cases gk with
        | zero => rfl
        | succ N => simp [blanksB, h0]
      rw [hr]
      exact ⟨rfl, H1.out.1, H1.out.2.1⟩
    · have he := full_of h0
      obtain ⟨N, rfl⟩ : ∃ N, gk = N + 1 := ⟨gk - 1, by omega⟩
      have hpos : 0 < t.size := by omega
      have hb0 := hd_eq hpos
      have HB0 := Lib.hid hb0
      clear hb0
      by_cases h10 : (t[0]'hpos).toNat = 10
      · have k10 : (((t[0]'hpos).toNat : Int) == 10) = true := by simp [h10]
        have hwr : IntKind.i64.wrap (l' + 1) = l' + 1 := IntWalk.i64_in _ (by omega)
        have h1' : (1 : Int) ≤ (t.size : Int) := by omega
        go_wp2_with fail
        go_region
        all_goals
          have H3 := Lib.hid (show Rd (((wr.setCell ⟨b, 0, none⟩ (.string (t.extract 1 t.size))).setCell ⟨b, 1, none⟩ (.int .i64 (l' + 1))).setCell ⟨b, 2, none⟩ (.int .i64 1)).drew b (aft t 1) (l' + 1) 1 ∧ Turn b w (((wr.setCell ⟨b, 0, none⟩ (.string (t.extract 1 t.size))).setCell ⟨b, 1, none⟩ (.int .i64 (l' + 1))).setCell ⟨b, 2, none⟩ (.int .i64 1)).drew from
            ⟨H1.out.1.nl hpos (show RdAt _ b _ _ _ from setc (setc (setc H1.out.1.at' 0 _) 1 _) 2 _) (((((Turn.refl b wr).setCell 0 _).setCell 1 _).setCell 2 _).drew), H1.out.2.1.trans ((((Turn.refl b wr).setCell 0 _).setCell 1 _).setCell 2 _).drew⟩)
          clear a0 a1 a2 hfz hwr
          go_wp2_with fail
          go_roundg N
          case measure => omega
          case rel =>
            refine ⟨aft t 1, l' + 1, 1, H3.out.1, H3.out.2, ?_, ?_⟩
            · rw [← H1.out.2.2]
              simp only [blanksB]
              rw [if_neg h0, if_pos (by rw [← HB0.out]; exact h10)]
            · rw [aft_size]
              omega
      · have k10 : (((t[0]'hpos).toNat : Int) == 10) = false := by
          rw [beq_eq_false_iff_ne]
          omega
        by_cases h35 : (t[0]'hpos).toNat = 35
        · have k35 : (((t[0]'hpos).toNat : Int) == 35) = true := by simp [h35]
          obtain ⟨m, hm⟩ := H1.out.1.max
          obtain ⟨L, hL⟩ : ∃ z : ByteArray, (⟨(Lib.cut t.data.toList [10]).1.toArray⟩ : ByteArray) = z := ⟨_, rfl⟩
          have hLs : L.size = (Lib.cut t.data.toList [10]).1.length := by
            rw [← hL]
            simp [ByteArray.size]
          have hLle : L.size ≤ t.size := by
            rw [hLs]
            have := cut_le t.data.toList [10]
            rw [Array.length_toList] at this
            exact this
          have hc := Tryz.strings_Cut t ⟨#[10]⟩ m wr (by omega) hm
          rw [show (⟨#[10]⟩ : ByteArray).data.toList = [10] from rfl, hL] at hc
          have HL := Lib.hid (And.intro hLs hLle)
          clear hm hL hLs hLle
          go_wp2_with fail
          refine hc.mono ?_
          clear hc
          rintro e w2 ⟨rfl, nd, rfl⟩
          have hbd : Below wr.heap.size wr (wr.drewN nd) := below_drewN (Below.refl _ _) nd
          have hc := (H1.out.1.under hbd).skip HL.out.2
          have HBD := Lib.hid hbd
          clear hbd
          go_wp2_with fail
          refine hc.mono ?_
          clear hc
          rintro e w3 ⟨rfl, hr3, ht3⟩
          have H3 := Lib.hid (And.intro hr3 (H1.out.2.1.trans ((Turn.of b HBD.out).trans ht3)))
          clear hr3 ht3 a0 a1 a2 hfz
          go_wp2_with fail
          go_roundg N
          case measure => omega
          case rel =>
            refine ⟨aft t L.size, l', c' + Lib.runeCount (fore t L.size), H3.out.1, H3.out.2, ?_, ?_⟩
            · rw [← H1.out.2.2, HL.out.1]
              simp only [blanksB]
              rw [if_neg h0, if_neg (by rw [← HB0.out]; exact h10), if_pos (by rw [← HB0.out]; exact h35)]
            · have h1 : 1 ≤ L.size := by
                rw [HL.out.1]
                exact cut_pos hpos (by rw [← byte_eq hpos]; exact h10)
              rw [aft_size]
              omega
        · have k35 : (((t[0]'hpos).toNat : Int) == 35) = false := by
            rw [beq_eq_false_iff_ne]
            omega
          by_cases hsp : (t[0]'hpos).toNat = 32 ∨ (t[0]'hpos).toNat = 9 ∨ (t[0]'hpos).toNat = 13
          · have hc := H1.out.1.skip (n := 1) hpos
            have HSP := Lib.hid hsp
            have h22 : (((t[0]'hpos).toNat : Int) == 32) = decide ((t[0]'hpos).toNat = 32) := by
              rw [Bool.eq_iff_iff]
              simp
              omega
            have h23 : (((t[0]'hpos).toNat : Int) == 9) = decide ((t[0]'hpos).toNat = 9) := by
              rw [Bool.eq_iff_iff]
              simp
              omega
            have h24 : (((t[0]'hpos).toNat : Int) == 13) = decide ((t[0]'hpos).toNat = 13) := by
              rw [Bool.eq_iff_iff]
              simp
              omega
            rcases hsp with hsp | hsp | hsp
            all_goals
              simp only [hsp] at h22 h23 h24
              go_wp2_with fail
              refine hc.mono ?_
              clear hc
              rintro e w3 ⟨rfl, hr3, ht3⟩
              have H3 := Lib.hid (And.intro hr3 (H1.out.2.1.trans ht3))
              clear hr3 ht3 a0 a1 a2 hfz
              go_wp2_with fail
              go_roundg N
              case measure => omega
              case rel =>
                refine ⟨aft t 1, l', c' + Lib.runeCount (fore t 1), H3.out.1, H3.out.2, ?_, ?_⟩
                · rw [← H1.out.2.2]
                  simp only [blanksB]
                  rw [if_neg h0, if_neg (by rw [← HB0.out]; exact h10), if_neg (by rw [← HB0.out]; exact h35), if_pos (by rw [← HB0.out]; exact HSP.out)]
                · rw [aft_size]
                  omega
          · have h22 : (((t[0]'hpos).toNat : Int) == 32) = false := by
              rw [beq_eq_false_iff_ne]
              omega
            have h23 : (((t[0]'hpos).toNat : Int) == 9) = false := by
              rw [beq_eq_false_iff_ne]
              omega
            have h24 : (((t[0]'hpos).toNat : Int) == 13) = false := by
              rw [beq_eq_false_iff_ne]
              omega
            have HSP := Lib.hid hsp
            clear hsp
            go_wp2_with fail
            refine bodyPost_ret (v := .tuple #[]) (by simp [results, Tryz.results22, go_sem]) rfl ?_
            have hr : R = (t, l', c') := by
              rw [← H1.out.2.2]
              simp only [blanksB]
              rw [if_neg h0, if_neg (by rw [← HB0.out]; exact h10), if_neg (by rw [← HB0.out]; exact h35), if_neg (by rw [← HB0.out]; exact HSP.out)]
            rw [hr]
            exact ⟨rfl, H1.out.1, H1.out.2.1⟩
end Go.Proofs.YtinebmfmkgjaaaaGreatDoor
