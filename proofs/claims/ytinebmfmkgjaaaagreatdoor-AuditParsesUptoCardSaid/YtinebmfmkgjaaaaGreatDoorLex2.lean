/- The reader's mark, Own, wrong, skip. -/
import Derived.Test.YtinebmfmkgjaaaaGreatDoorLex1
set_option linter.unusedVariables false
set_option linter.unusedSimpArgs false
namespace Go.Proofs.YtinebmfmkgjaaaaGreatDoor
open Go.RowKit

theorem find_at {p : ByteArray → Bool} : ∀ {l : List ByteArray} {k : Nat}, k < l.length → p (l.getD k ByteArray.empty) = true → (∀ j, j < k → p (l.getD j ByteArray.empty) = false) → l.find? p = some (l.getD k ByteArray.empty)
  | [], k, hk, _, _ => by simp at hk
  | a :: l, 0, _, hp, _ => by
    simp only [List.getD_cons_zero] at hp
    rw [List.find?_cons, hp]
    rfl
  | a :: l, k + 1, hk, hp, hn => by
    have h0 := hn 0 (by omega)
    simp only [List.getD_cons_zero] at h0
    rw [List.find?_cons, h0]
    exact find_at (l := l) (by simpa using hk) (by simpa using hp) fun j hj => by simpa using hn (j + 1) (by omega)
theorem find_no {p : ByteArray → Bool} : ∀ {l : List ByteArray}, (∀ j, j < l.length → p (l.getD j ByteArray.empty) = false) → l.find? p = none
  | [], _ => rfl
  | a :: l, hn => by
    have h0 := hn 0 (by simp)
    simp only [List.getD_cons_zero] at h0
    rw [List.find?_cons, h0]
    exact find_no (l := l) fun j hj => by simpa using hn (j + 1) (by simpa using hj)
/-- A constant row of texts. -/
theorem texts_cell {w : World} {b : Nat} {l : List ByteArray} {t : TypeId} (h : w.heap[b]? = some (.cells (l.map Value.string).toArray t)) {j : Nat} (hj : j < l.length) : w.cell? ⟨b, j, none⟩ = some (.string (l.getD j ByteArray.empty)) := by
  simp only [World.cell?, h]
  simp [List.getD, hj]
set_option maxRecDepth 100000 in
set_option maxHeartbeats 4000000 in
theorem mark_in (s : ByteArray) (w : World) : Calls Tryz.prog 48 #[.string s] w fun e w' => e = .returned (.int .i64 (markB s)) ∧ Below w.heap.size w w' := by
  have hl : (w.alloc (.cells (marks.map Value.string).toArray 9)).heap[w.heap.size]? = some (.cells (marks.map Value.string).toArray 9) := last _ _
  have hcell := fun j (hj : j < 15) => texts_cell hl (j := j) hj
  have HCELL := Lib.hid hcell
  have HB := Lib.hid ((Below.refl w.heap.size w).alloc (Nat.le_refl _) (.cells (marks.map Value.string).toArray 9))
  have HP := Lib.hid (fun m W => Tryz.strings_HasPrefix s m W)
  clear hl hcell
  go_enter Tryz.func48, Tryz.ntmps48
  go_wp2_with fail
  change Code.wp _ _ _ _ (w.alloc (.cells (marks.map Value.string).toArray 9))
  generalize w.alloc (.cells (marks.map Value.string).toArray 9) = W at *
  go_loopg [7] 15 (fun gk iv wr => ∃ k : Nat, iv = .int .i64 k ∧ k + gk = 15 ∧ wr = W ∧ ∀ j, j < k → Lib.hasPrefix s.data.toList (marks.getD j ByteArray.empty).data.toList = false)
  case atStart => exact ⟨0, rfl, rfl, rfl, fun j hj => by omega⟩
  case round =>
    obtain ⟨k, rfl, hk, rfl, hall⟩ := hrel
    have HALL := Lib.hid hall
    clear hall
    by_cases e : k = 15
    · subst e
      go_wp2_with fail
      go_ret
      refine ⟨?_, HB.out⟩
      have : markB s = 0 := by
        unfold markB
        rw [find_no (l := marks) fun j hj => HALL.out j hj]
      rw [this]
      rfl
    · have hlt : k < 15 := by omega
      have a0 := HCELL.out k hlt
      have hc := HP.out (marks.getD k ByteArray.empty) wr
      have hi0 : (0 : Int) ≤ (k : Int) := by omega
      have hi1 : (k : Int) < 15 := by omega
      cases hp : Lib.hasPrefix s.data.toList (marks.getD k ByteArray.empty).data.toList with
      | false =>
        rw [hp] at hc
        have HF := Lib.hid hp
        clear hp
        generalize hm : marks.getD k ByteArray.empty = m at *
        have HM := Lib.hid hm
        clear hm
        go_wp2_with fail
        refine hc.mono ?_
        clear hc
        rintro e w' ⟨rfl, rfl⟩
        go_wp2_with fail
        go_roundg (gk - 1)
        case measure => omega
        case rel => exact ⟨k + 1, by simp, by omega, rfl, fun j hj => by
          by_cases ej : j = k
          · subst ej
            rw [HM.out]
            exact HF.out
          · exact HALL.out j (by omega)⟩
      | true =>
        rw [hp] at hc
        have HF := Lib.hid (find_at (l := marks) (p := fun m => Lib.hasPrefix s.data.toList m.data.toList) (k := k) hlt hp HALL.out)
        clear hp
        generalize marks.getD k ByteArray.empty = m at *
        go_wp2_with fail
        refine hc.mono ?_
        clear hc
        rintro e w' ⟨rfl, rfl⟩
        go_wp2_with fail
        go_ret
        refine ⟨?_, HB.out⟩
        have : markB s = m.size := by
          unfold markB
          rw [HF.out]
        rw [this]
        rfl
set_option maxRecDepth 100000 in
set_option maxHeartbeats 4000000 in
theorem Own_in (s : ByteArray) (w : World) : Calls Tryz.prog 46 #[.string s] w fun e w' => e = .returned (.bool (ownB s)) ∧ Below w.heap.size w w' := by
  go_enter Tryz.func46, Tryz.ntmps46
  have hl : (w.alloc (.cells (owns.map Value.string).toArray 9)).heap[w.heap.size]? = some (.cells (owns.map Value.string).toArray 9) := last _ _
  have hc := Tryz.slices_Contains_string w.heap.size 0 30 30 owns s _ (by decide) (by omega) (fun j hj => by rw [Nat.zero_add]; exact texts_cell hl hj)
  rw [List.take_of_length_le (by decide)] at hc
  clear hl
  have HB := Lib.hid ((Below.refl w.heap.size w).alloc (Nat.le_refl _) (.cells (owns.map Value.string).toArray 9))
  go_wp2_with fail
  refine (show Calls Tryz.prog _ _ (w.alloc (.cells (owns.map Value.string).toArray 9)) _ from hc).mono ?_
  clear hc
  rintro e w' ⟨rfl, rfl⟩
  go_wp2_with fail
  go_ret
  exact ⟨rfl, HB.out⟩
set_option maxHeartbeats 4000000 in
theorem wrong_in {w : World} {b : Nat} {s : ByteArray} {l c : Int} (h : RdAt w b s l c) (code : Int) : Calls Tryz.prog 39 #[.pointer (some ⟨b, 0, none⟩), .int .i64 code] w fun e w' => e = .returned (.iface 33 (.agg #[.int .i64 code, .int .i64 l, .int .i64 c, .string ⟨#[]⟩])) ∧ Below w.heap.size w w' := by
  obtain ⟨a0, a1, a2⟩ := h.cells
  clear h
  go_enter Tryz.func39, Tryz.ntmps39
  go_wp2_with fail
  go_ret
  exact ⟨rfl, Below.refl _ _⟩
set_option maxHeartbeats 4000000 in
theorem skip_in {w : World} {b : Nat} {s : ByteArray} {l c : Int} (h : RdAt w b s l c) (n : Nat) (hn : n ≤ s.size) (hs : s.size ≤ 1048576) (hc : 0 ≤ c ∧ c ≤ 1048576) : Calls Tryz.prog 40 #[.pointer (some ⟨b, 0, none⟩), .int .i64 n] w fun e w' => e = .returned (.tuple #[]) ∧ RdAt w' b (aft s n) l (c + Lib.runeCount (fore s n)) ∧ Turn b w w' := by
  have hfz := frozenOf h
  obtain ⟨a0, a1, a2⟩ := h.cells
  have H := Lib.hid h
  clear h
  go_enter Tryz.func40, Tryz.ntmps40
  have hz : (fore s n).size = n := fore_size hn
  have hrc := Lib.runeCount_le (fore s n)
  have hq : ∃ q : Nat, Lib.runeCount (fore s n) = q := ⟨_, rfl⟩
  obtain ⟨q, hq⟩ := hq
  rw [hq, hz] at hrc
  have HC := Lib.hid (show ∀ W, Calls Tryz.prog 73 #[.string (s.extract 0 n)] W fun e w' => e = .returned (.int .i64 q) ∧ Below W.heap.size W w' from fun W => by
    have := Tryz.utf8_RuneCountInString (fore s n) W (by omega)
    rw [hq] at this
    refine this.mono fun e w' ⟨he, pos, hw⟩ => ⟨he, ?_⟩
    rw [hw]
    exact (Below.refl W.heap.size W).alloc (Nat.le_refl _) _)
  go_wp2_with fail
  have hq2 : (q : Int) ≤ 1048576 := by omega
  have hc0 := hc.1
  have hc1 := hc.2
  have hwr : IntKind.i64.wrap (c + (q : Int)) = c + q := IntWalk.i64_in _ (by omega)
  go_region_law ((go_simp; go_at_call 73; refine (HC.out _).mono ?_; rintro e w5 ⟨rfl, hb5⟩; have h5 : RdAt w5 b s l c := (hb5.block _ (heap_lt H.out)).trans H.out; have z5 := frozenOf h5; obtain ⟨c0, c1, c2⟩ := h5.cells))
  all_goals
    have h6 : RdAt (w5.setCell ⟨b, 2, none⟩ (.int .i64 (c + q))) b s l (c + q) := setc h5 2 _
    have ht6 : Turn b w (w5.setCell ⟨b, 2, none⟩ (.int .i64 (c + q))) := (Turn.of b (show Below w.heap.size w w5 from ((Below.refl w.heap.size w).drew).trans hb5)).setCell 2 _
    have H6 := Lib.hid (And.intro h6 ht6)
    have z6 := frozenOf h6
    obtain ⟨d0, d1, d2⟩ := h6.cells
    clear hb5 h5 z5 c0 c1 c2 h6 ht6 a0 a1 a2 hfz hwr
    generalize w5.setCell ⟨b, 2, none⟩ (.int .i64 (c + q)) = w6 at *
    have h7 : RdAt (w6.setCell ⟨b, 0, none⟩ (.string (s.extract n s.size))) b (s.extract n s.size) l (c + q) := setc H6.out.1 0 _
    have H7 := Lib.hid (And.intro h7 (H6.out.2.setCell 0 (.string (s.extract n s.size))))
    clear h7
    go_wp2_with fail
    go_end0
    refine ⟨rfl, ?_, H7.out.2⟩
    rw [hq]
    exact H7.out.1
end Go.Proofs.YtinebmfmkgjaaaaGreatDoor
