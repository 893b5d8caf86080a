/- row. -/
import Derived.Test.YtinebmfmkgjaaaaGreatDoorAuW1
set_option linter.unusedVariables false
set_option linter.unusedSimpArgs false
namespace Go.Proofs.YtinebmfmkgjaaaaGreatDoor
open Go.RowKit

def rowV (r : Rw) : Value := .agg #[.int .i64 r.l, .int .i64 r.c, .string r.h, .string r.f, .string r.t, .string r.u]
def zeroRw : Rw := ⟨0, 0, ⟨#[]⟩, ⟨#[]⟩, ⟨#[]⟩, ⟨#[]⟩⟩
/-- How row ends. -/
def RowEnd (s : ByteArray) (e : Ending) : Prop := ∃ x, e = .returned (.tuple #[rowV x, .bool (rowOk s)]) ∧ (rowOk s = true → x = rowX s)
theorem splitCells {w : World} {l : List ByteArray} {j : Nat} (hj : j < l.length) : (w.alloc (.cells (l.map Value.string).toArray 9)).cell? ⟨w.heap.size, j, none⟩ = some (.string (l.getD j ByteArray.empty)) := by
  have h := last w (.cells (l.map Value.string).toArray 9)
  simp only [World.cell?, h]
  simp [hj]
theorem word_eq {t : ByteArray} {l : List UInt8} {w : ByteArray} (hw : w.data.toList = l) : (t.toList == l) = decide (t = w) := by
  subst hw
  rw [Lib.toList_data]
  by_cases e : t = w
  · subst e
    simp
  · have : ¬ t.data.toList = w.data.toList := fun h => e (data_inj h)
    rw [decide_eq_false e]
    exact beq_eq_false_iff_ne.2 this
theorem mem_join : ∀ (ws : List (List UInt8)) (w : List UInt8), w ∈ ws → w.length ≤ (joinL ws).length
  | [], w, h => by cases h
  | [v], w, h => by
    simp only [List.mem_singleton] at h
    subst h
    exact Nat.le_refl _
  | v :: u :: ws, w, h => by
    show w.length ≤ (v ++ 32 :: joinL (u :: ws)).length
    rw [List.length_append, List.length_cons]
    rcases List.mem_cons.1 h with h | h
    · subst h
      omega
    · have := mem_join (u :: ws) w h
      omega
theorem word_le (s : ByteArray) (WS : List ByteArray) (h : splitW s = WS) (j : Nat) : (WS.getD j ByteArray.empty).size ≤ s.size := by
  by_cases hj : j < WS.length
  · have hm : WS.getD j ByteArray.empty ∈ WS := by
      rw [List.getD, List.getElem?_eq_getElem hj]
      exact List.getElem_mem _
    have := mem_join (WS.map fun x => x.data.toList) (WS.getD j ByteArray.empty).data.toList (List.mem_map.2 ⟨_, hm, rfl⟩)
    rw [← h, splitW_join] at this
    rw [← h]
    simpa using this
  · rw [List.getD, List.getElem?_eq_none (by omega)]
    simp
theorem bs_size (l : List UInt8) : (⟨l.toArray⟩ : ByteArray).size = l.length := by simp [ByteArray.size]
theorem cut_sizes (l : List UInt8) : (Lib.cut l [58]).1.length ≤ l.length ∧ (Lib.cut l [58]).2.1.length ≤ l.length := by
  unfold Lib.cut
  split
  · simp only [List.length_take, List.length_drop]
    omega
  · simp
theorem res6 {w wr : World} {x0 x1 x2 x3 x4 x5 : Value} (hb : Below w.heap.size w wr) (h : wr.heap[w.heap.size]? = some (.cells #[x0, x1, x2, x3, x4, x5] 55)) (a b c d e f : Value) :
    ((((((wr.setCell ⟨w.heap.size, 0, none⟩ a).setCell ⟨w.heap.size, 1, none⟩ b).setCell ⟨w.heap.size, 2, none⟩ c).setCell ⟨w.heap.size, 3, none⟩ d).setCell ⟨w.heap.size, 4, none⟩ e).setCell ⟨w.heap.size, 5, none⟩ f).heap[w.heap.size]? = some (.cells #[a, b, c, d, e, f] 55) ∧
    Below w.heap.size w ((((((wr.setCell ⟨w.heap.size, 0, none⟩ a).setCell ⟨w.heap.size, 1, none⟩ b).setCell ⟨w.heap.size, 2, none⟩ c).setCell ⟨w.heap.size, 3, none⟩ d).setCell ⟨w.heap.size, 4, none⟩ e).setCell ⟨w.heap.size, 5, none⟩ f) :=
  ⟨setc (setc (setc (setc (setc (setc h 0 a) 1 b) 2 c) 3 d) 4 e) 5 f, (((((hb.setCell (Nat.le_refl _) _).setCell (Nat.le_refl _) _).setCell (Nat.le_refl _) _).setCell (Nat.le_refl _) _).setCell (Nat.le_refl _) _).setCell (Nat.le_refl _) _⟩
theorem blk {w wn : World} {o : Obj} (h : Below ((w.alloc o).drew).heap.size ((w.alloc o).drew) wn) : wn.heap[w.heap.size]? = some o := (h.block w.heap.size (by show w.heap.size < (w.alloc o).heap.size; simp)).trans (last w o)
theorem blk2 {w wn : World} {o : Obj} (h : Below (w.alloc o).heap.size (w.alloc o) wn) : wn.heap[w.heap.size]? = some o := (h.block w.heap.size (by simp)).trans (last w o)
theorem bel6 {B n : Nat} {w wr : World} (hb : Below B w wr) (h : B ≤ n) (a b c d e f : Value) :
    Below B w ((((((wr.setCell ⟨n, 0, none⟩ a).setCell ⟨n, 1, none⟩ b).setCell ⟨n, 2, none⟩ c).setCell ⟨n, 3, none⟩ d).setCell ⟨n, 4, none⟩ e).setCell ⟨n, 5, none⟩ f) :=
  (((((hb.setCell h _).setCell h _).setCell h _).setCell h _).setCell h _).setCell h _
theorem drewNb {B : Nat} {a w : World} (h : Below B a w) (n : Nat) : Below B a (w.drewN n) := h.trans ⟨rfl, rfl, rfl, Nat.le_refl _, fun _ _ => rfl⟩
set_option maxRecDepth 100000 in
set_option maxHeartbeats 8000000 in
theorem row_in (s : ByteArray) (w : World) (hs : s.size ≤ 8388608) (henv : Env w) (ht : TabOk w) (hv : ErrVs w) : Calls Tryz.prog 35 #[.string s] w fun e w' => RowEnd s e ∧ Below w.heap.size w w' := by
  have HE := Lib.hid henv
  have HT := Lib.hid ht
  have HV := Lib.hid hv
  obtain ⟨m, hm⟩ := henv.max
  clear henv ht hv
  have hb1 := (Below.refl w.heap.size w).alloc (Nat.le_refl _) (.cells #[.int .i64 0, .int .i64 0, .string ⟨#[]⟩, .string ⟨#[]⟩, .string ⟨#[]⟩, .string ⟨#[]⟩] 55)
  have hr1 := last w (.cells #[.int .i64 0, .int .i64 0, .string ⟨#[]⟩, .string ⟨#[]⟩, .string ⟨#[]⟩, .string ⟨#[]⟩] 55)
  have hc := Tryz.strings_Split s ⟨#[32]⟩ m (w.alloc (.cells #[.int .i64 0, .int .i64 0, .string ⟨#[]⟩, .string ⟨#[]⟩, .string ⟨#[]⟩, .string ⟨#[]⟩] 55)) (by omega) ((World.cell?_of_block (hb1.block _ (cell_lt hm))).trans hm) (by decide)
  rw [split_is, ← splitW_length] at hc
  obtain ⟨WS, hWS⟩ : ∃ z, splitW s = z := ⟨_, rfl⟩
  rw [hWS] at hc
  have HMX := Lib.hid (show ∀ W, Below w.heap.size w W → W.cell? ⟨3, 0, none⟩ = some (.int .i64 m) from fun W hb => (hb.cell (p := ⟨3, 0, none⟩) (cell_lt hm)).trans hm)
  have HB1 := Lib.hid hb1
  have HR1 := Lib.hid hr1
  clear hb1 hr1 hm
  go_enter Tryz.func35, Tryz.ntmps35
  go_wp2_with fail
  generalize w.alloc (.cells #[.int .i64 0, .int .i64 0, .string ⟨#[]⟩, .string ⟨#[]⟩, .string ⟨#[]⟩, .string ⟨#[]⟩] 55) = w1 at *
  refine hc.mono ?_
  clear hc
  rintro e w2 ⟨rfl, rfl⟩
  have hsz1 := HB1.out.size
  have HB2 := Lib.hid (HB1.out.alloc hsz1 (.cells (WS.map Value.string).toArray 9))
  have HR2 := Lib.hid ((Below.heap_alloc w1 (.cells (WS.map Value.string).toArray 9) _ (heap_lt HR1.out)).trans HR1.out)
  have HC2 := Lib.hid fun j (hj : j < WS.length) => splitCells (w := w1) hj
  generalize w1.heap.size = n1 at *
  generalize w1.alloc (.cells (WS.map Value.string).toArray 9) = w2 at *
  obtain ⟨r0, r1, r2, r3, r4, r5⟩ := cellsOf6 HR2.out
  have rf := frozenOf HR2.out
  have HKEY := Lib.hid (show keyB s = (decide (WS.length = 9) && (decide (WS.getD 1 ByteArray.empty = wRel) && (decide (WS.getD 3 ByteArray.empty = wFrom) && (decide (WS.getD 5 ByteArray.empty = wTo) && decide (WS.getD 7 ByteArray.empty = wIn))))) by unfold keyB; rw [hWS])
  have HWS := Lib.hid hWS
  clear hWS
  by_cases hl : WS.length = 9
  · have c0 := HC2.out 0 (by omega)
    have c1 := HC2.out 1 (by omega)
    have c2 := HC2.out 2 (by omega)
    have c3 := HC2.out 3 (by omega)
    have c4 := HC2.out 4 (by omega)
    have c5 := HC2.out 5 (by omega)
    have c6 := HC2.out 6 (by omega)
    have c7 := HC2.out 7 (by omega)
    have c8 := HC2.out 8 (by omega)
    obtain ⟨t0, ht0⟩ : ∃ z, WS.getD 0 ByteArray.empty = z := ⟨_, rfl⟩
    obtain ⟨t1, ht1⟩ : ∃ z, WS.getD 1 ByteArray.empty = z := ⟨_, rfl⟩
    obtain ⟨t2, ht2⟩ : ∃ z, WS.getD 2 ByteArray.empty = z := ⟨_, rfl⟩
    obtain ⟨t3, ht3⟩ : ∃ z, WS.getD 3 ByteArray.empty = z := ⟨_, rfl⟩
    obtain ⟨t4, ht4⟩ : ∃ z, WS.getD 4 ByteArray.empty = z := ⟨_, rfl⟩
    obtain ⟨t5, ht5⟩ : ∃ z, WS.getD 5 ByteArray.empty = z := ⟨_, rfl⟩
    obtain ⟨t6, ht6⟩ : ∃ z, WS.getD 6 ByteArray.empty = z := ⟨_, rfl⟩
    obtain ⟨t7, ht7⟩ : ∃ z, WS.getD 7 ByteArray.empty = z := ⟨_, rfl⟩
    obtain ⟨t8, ht8⟩ : ∃ z, WS.getD 8 ByteArray.empty = z := ⟨_, rfl⟩
    rw [ht0] at c0
    rw [ht1] at c1 HKEY
    rw [ht2] at c2
    rw [ht3] at c3 HKEY
    rw [ht4] at c4
    rw [ht5] at c5 HKEY
    rw [ht6] at c6
    rw [ht7] at c7 HKEY
    rw [ht8] at c8
    have HTS := Lib.hid (show t0.size ≤ s.size from ht0 ▸ word_le s WS HWS.out 0)
    have HTX := Lib.hid (And.intro ht0 (And.intro ht2 (And.intro ht4 (And.intro ht6 ht8))))
    clear ht0 ht1 ht2 ht3 ht4 ht5 ht6 ht7 ht8
    have k1 := word_eq (t := t1) (w := wRel) (l := [114, 101, 108, 101, 97, 115, 101]) rfl
    have k3 := word_eq (t := t3) (w := wFrom) (l := [102, 114, 111, 109]) rfl
    have k5 := word_eq (t := t5) (w := wTo) (l := [116, 111]) rfl
    have k7 := word_eq (t := t7) (w := wIn) (l := [105, 110]) rfl
    by_cases hk : keyB s = true
    · have HK := Lib.hid hk
      rw [HKEY.out] at hk
      simp only [Bool.and_eq_true, decide_eq_true_eq] at hk
      obtain ⟨_, x1, x3, x5, x7⟩ := hk
      rw [decide_eq_true x1] at k1
      rw [decide_eq_true x3] at k3
      rw [decide_eq_true x5] at k5
      rw [decide_eq_true x7] at k7
      clear x1 x3 x5 x7
      have hc := Tryz.strings_Cut t0 ⟨#[58]⟩ m w2 (by have := HTS.out; omega) (HMX.out w2 HB2.out)
      obtain ⟨A, hA⟩ : ∃ z, (⟨(Lib.cut t0.data.toList [58]).1.toArray⟩ : ByteArray) = z := ⟨_, rfl⟩
      obtain ⟨B, hB⟩ : ∃ z, (⟨(Lib.cut t0.data.toList [58]).2.1.toArray⟩ : ByteArray) = z := ⟨_, rfl⟩
      have HAB := Lib.hid (And.intro hA hB)
      replace hc : Calls Tryz.prog 41 #[.string t0, .string ⟨#[58]⟩] w2 fun e w' => e = .returned (.tuple #[.string A, .string B, .bool (Lib.cut t0.data.toList [58]).2.2]) ∧ ∃ n, w' = w2.drewN n := by
        rw [← hA, ← hB]
        exact hc
      clear hA hB
      generalize (Lib.cut t0.data.toList [58]).2.2 = fd at *
      go_wp2_with fail
      refine hc.mono ?_
      clear hc
      rintro e w3 ⟨rfl, n3, rfl⟩
      have HB3 := Lib.hid (drewNb (Below.refl w2.heap.size w2) n3)
      generalize w2.drewN n3 = w3 at *
      clear c0 c1 c2 c3 c4 c5 c6 c7 c8 r0 r1 r2 r3 r4 r5 rf
      have HCL := Lib.hid (show ∀ W, Below w3.heap.size w3 W → W.cell? ⟨n1, 2, none⟩ = some (.string t2) ∧ W.cell? ⟨n1, 4, none⟩ = some (.string t4) ∧ W.cell? ⟨n1, 6, none⟩ = some (.string t6) ∧ W.cell? ⟨n1, 8, none⟩ = some (.string t8) from fun W hb => by
        have hb' := HB3.out.trans (hb.mono HB3.out.size)
        have k : ∀ j, j < WS.length → W.cell? ⟨n1, j, none⟩ = some (.string (WS.getD j ByteArray.empty)) := fun j hj => (hb'.cell (p := ⟨n1, j, none⟩) (cell_lt (HC2.out j hj))).trans (HC2.out j hj)
        exact ⟨(k 2 (by omega)).trans (by rw [HTX.out.2.1]), (k 4 (by omega)).trans (by rw [HTX.out.2.2.1]), (k 6 (by omega)).trans (by rw [HTX.out.2.2.2.1]), (k 8 (by omega)).trans (by rw [HTX.out.2.2.2.2])⟩)
      have HF := Lib.hid (show ∀ W, Below w3.heap.size w3 W → Below w.heap.size w W from fun W hb => HB2.out.trans ((HB3.out.trans (hb.mono HB3.out.size)).mono HB2.out.size))
      have HNU := Lib.hid (show ∀ X W, Below w3.heap.size w3 W → X.size ≤ 8388608 → Calls Tryz.prog 70 #[.string X] W fun e w' => e = .returned (.int .i64 (numB X)) ∧ Below W.heap.size W w' from fun X W hb hx => number_in X W hx (HT.out.under (HF.out W hb)) (HV.out.below (HF.out W hb)))
      have HSZ := Lib.hid (show A.size ≤ 8388608 ∧ B.size ≤ 8388608 by
        rw [← HAB.out.1, ← HAB.out.2]
        have h0 := HTS.out
        have h1 := cut_sizes t0.data.toList
        have h2 : t0.data.toList.length = t0.size := by simp
        exact ⟨Nat.le_trans (Nat.le_trans (Nat.le_of_eq (bs_size _)) h1.1) (by omega), Nat.le_trans (Nat.le_trans (Nat.le_of_eq (bs_size _)) h1.2) (by omega)⟩)
      go_upto_region 5 with fail
      have hbw3 : Below w3.heap.size w3 w3.drew := (Below.refl _ w3).drew
      have hba3 := fun o => ((Below.refl w3.heap.size w3).alloc (Nat.le_refl _) o).drew
      obtain ⟨c2, c4, c6, c8⟩ := HCL.out _ hbw3
      generalize hNA : numB A = na at *
      generalize hNB : numB B = nb at *
      have HNN := Lib.hid (And.intro hNA hNB)
      clear hNA hNB
      refine' (fun (key : Hid _) => ?main) (Lib.hid ?kp)
      case main =>
        go_region_held3 (fun W => W.cell? ⟨n1, 2, none⟩ = some (.string t2) ∧ W.cell? ⟨n1, 4, none⟩ = some (.string t4) ∧ W.cell? ⟨n1, 6, none⟩ = some (.string t6) ∧ W.cell? ⟨n1, 8, none⟩ = some (.string t8))
          (first | exact HCL.out _ (by with_reducible assumption) | exact HCL.out _ (by with_reducible exact hba3 _) | exact HCL.out _ (by with_reducible exact hb4.alloc hb4.size _) | exact HCL.out _ (by with_reducible exact hb5.alloc hb5.size _) | exact HCL.out _ (by with_reducible exact bel6 hb5 (Nat.le_refl _) _ _ _ _ _ _) | exact HCL.out _ (by with_reducible exact bel6 hb5 hb4.size _ _ _ _ _ _))
          (first
            | (go_at_call_of 70 (Value.string A); refine (HNU.out A _ (by first | with_reducible assumption | with_reducible exact hba3 _) HSZ.out.1).mono ?_; rintro e w4 ⟨rfl, hbn⟩; have hb4 := chain (by first | with_reducible assumption | with_reducible exact hba3 _) hbn; first | (have z4 := blk hbn; clear hbn; obtain ⟨c2, c4, c6, c8⟩ := HCL.out _ hb4; rw [HNN.out.1]) | (clear hbn; obtain ⟨c2, c4, c6, c8⟩ := HCL.out _ hb4; rw [HNN.out.1]))
            | (go_at_call_of 70 (Value.string B); refine (HNU.out B _ (by first | with_reducible assumption | with_reducible exact hb4.alloc hb4.size _) HSZ.out.2).mono ?_; rintro e w5 ⟨rfl, hbn⟩; have hb5 := chain (by first | with_reducible assumption | with_reducible exact hb4.alloc hb4.size _) hbn; first | (have z5 := blk2 hbn; obtain ⟨y0, y1, y2, y3, y4, y5⟩ := cellsOf6 z5; have yf := frozenOf z5; clear hbn; obtain ⟨c2, c4, c6, c8⟩ := HCL.out _ hb5; rw [HNN.out.2]) | (have z5 := (hbn.block _ (heap_lt z4)).trans z4; obtain ⟨y0, y1, y2, y3, y4, y5⟩ := cellsOf6 z5; have yf := frozenOf z5; clear hbn; obtain ⟨c2, c4, c6, c8⟩ := HCL.out _ hb5; rw [HNN.out.2]) | (clear hbn; obtain ⟨c2, c4, c6, c8⟩ := HCL.out _ hb5; rw [HNN.out.2])))
        · have HT1 := Lib.hid (show Below w3.heap.size w3 (w5.alloc (.cells #[.int .i64 na, .int .i64 nb, .string t2, .string t4, .string t6, .string t8] 55)) ∧ (w5.alloc (.cells #[.int .i64 na, .int .i64 nb, .string t2, .string t4, .string t6, .string t8] 55)).heap[w5.heap.size]? = some (.cells #[.int .i64 na, .int .i64 nb, .string t2, .string t4, .string t6, .string t8] 55) from ⟨hb5.alloc hb5.size _, last w5 _⟩)
          generalize (World.alloc w5 _) = W at HT1 ⊢
          generalize w5.heap.size = nx at HT1 ⊢
          revert W nx
          exact key.out
        · have HT1 := Lib.hid (And.intro (bel6 hb5 hb4.size (.int .i64 na) (.int .i64 nb) (.string t2) (.string t4) (.string t6) (.string t8)) (setc (setc (setc (setc (setc (setc z5 0 (.int .i64 na)) 1 (.int .i64 nb)) 2 (.string t2)) 3 (.string t4)) 4 (.string t6)) 5 (.string t8)))
          generalize (World.setCell (World.setCell (World.setCell (World.setCell (World.setCell (World.setCell w5 _ _) _ _) _ _) _ _) _ _) _ _) = W at HT1 ⊢
          generalize w4.heap.size = nx at HT1 ⊢
          exact key.out W nx HT1
        · have HT1 := Lib.hid (And.intro (bel6 hb5 (Nat.le_refl _) (.int .i64 na) (.int .i64 nb) (.string t2) (.string t4) (.string t6) (.string t8)) (setc (setc (setc (setc (setc (setc z5 0 (.int .i64 na)) 1 (.int .i64 nb)) 2 (.string t2)) 3 (.string t4)) 4 (.string t6)) 5 (.string t8)))
          generalize (World.setCell (World.setCell (World.setCell (World.setCell (World.setCell (World.setCell w5 _ _) _ _) _ _) _ _) _ _) _ _) = W at HT1 ⊢
          generalize hnx : w3.heap.size = nx at HT1 ⊢
          exact key.out W nx (by rw [hnx]; exact HT1)
      intro W nx HT1
      clear c2 c4 c6 c8 hbw3 hba3
      have HBW := Lib.hid (HF.out W HT1.out.1)
      have HRS := Lib.hid (show ∀ V, Below W.heap.size W V → V.heap[w.heap.size]? = some (.cells #[.int .i64 0, .int .i64 0, .string ⟨#[]⟩, .string ⟨#[]⟩, .string ⟨#[]⟩, .string ⟨#[]⟩] 55) from fun V hb => by
        have h2 := (HB3.out.trans (HT1.out.1.mono HB3.out.size))
        have h3 := h2.trans (hb.mono h2.size)
        exact (h3.block _ (heap_lt HR2.out)).trans HR2.out)
      have HXS := Lib.hid (show ∀ V, Below W.heap.size W V → V.heap[nx]? = some (.cells #[.int .i64 na, .int .i64 nb, .string t2, .string t4, .string t6, .string t8] 55) from fun V hb => (hb.block _ (heap_lt HT1.out.2)).trans HT1.out.2)
      have HX := Lib.hid (show rowX s = ⟨na, nb, t2, t4, t6, t8⟩ by
        unfold rowX
        rw [HWS.out, HTX.out.1, HTX.out.2.1, HTX.out.2.2.1, HTX.out.2.2.2.1, HTX.out.2.2.2.2, ← HNN.out.1, ← HNN.out.2, ← HAB.out.1, ← HAB.out.2]
        rfl)
      have HOK := Lib.hid (show rowOk s = rightB na nb t2 t4 t6 t8 by
        unfold rowOk
        rw [HK.out, HX.out]
        rfl)
      have HRI := Lib.hid (show ∀ V, Below W.heap.size W V → Calls Tryz.prog 28 #[.agg #[.int .i64 na, .int .i64 nb, .string t2, .string t4, .string t6, .string t8]] V fun e w' => e = .returned (.bool (rightB na nb t2 t4 t6 t8)) ∧ Below V.heap.size V w' from fun V hb => by
        have h2 : t2.size ≤ s.size := by rw [← HTX.out.2.1]; exact word_le s WS HWS.out 2
        have h4 : t4.size ≤ s.size := by rw [← HTX.out.2.2.1]; exact word_le s WS HWS.out 4
        have h6 : t6.size ≤ s.size := by rw [← HTX.out.2.2.2.1]; exact word_le s WS HWS.out 6
        have h8 : t8.size ≤ s.size := by rw [← HTX.out.2.2.2.2]; exact word_le s WS HWS.out 8
        exact right_in na nb t2 t4 t6 t8 V (HE.out.below (chain HBW.out hb)) (by omega) (by omega) (by omega) (by omega))
      generalize rightB na nb t2 t4 t6 t8 = rb at *
      have hbW := (Below.refl W.heap.size W).drew
      obtain ⟨x0, x1, x2, x3, x4, x5⟩ := cellsOf6 (HXS.out W (Below.refl _ _))
      clear k1 k3 k5 k7
      go_wp2_with fail
      go_region_with (first | (go_at_call 28; refine (HRI.out _ hbW).mono ?_; rintro e w7 ⟨rfl, hbn⟩; have hb7 := chain hbW hbn; clear hbn; obtain ⟨x0, x1, x2, x3, x4, x5⟩ := cellsOf6 (HXS.out _ hb7); obtain ⟨r0, r1, r2, r3, r4, r5⟩ := cellsOf6 (HRS.out _ hb7); have rf := frozenOf (HRS.out _ hb7)))
      all_goals
        have HB7 := Lib.hid (chain HBW.out hb7)
        have HQ := Lib.hid (res6 HB7.out (HRS.out _ hb7) (.int .i64 na) (.int .i64 nb) (.string t2) (.string t4) (.string t6) (.string t8))
        clear x0 x1 x2 x3 x4 x5 r0 r1 r2 r3 r4 r5 rf
        go_wp2_with fail
        obtain ⟨q0, q1, q2, q3, q4, q5⟩ := cellsOf6 HQ.out.1
        exact bodyPost_ret (v := .tuple #[rowV ⟨na, nb, t2, t4, t6, t8⟩, .bool rb]) (by simp [results, Tryz.results35, go_sem, q0, q1, q2, q3, q4, q5, rowV]) rfl ⟨⟨⟨na, nb, t2, t4, t6, t8⟩, by rw [HOK.out], fun _ => HX.out.symm⟩, HQ.out.2⟩
    · have HNO := Lib.hid (show rowOk s = false by
        unfold rowOk
        cases hx : keyB s with
        | true => exact absurd hx hk
        | false => rfl)
      rw [HKEY.out, decide_eq_true hl, Bool.true_and] at hk
      by_cases x1 : t1 = wRel
      · rw [decide_eq_true x1] at k1 hk; clear x1
        by_cases x3 : t3 = wFrom
        · rw [decide_eq_true x3] at k3 hk; clear x3
          by_cases x5 : t5 = wTo
          · rw [decide_eq_true x5] at k5 hk; clear x5
            by_cases x7 : t7 = wIn
            · rw [decide_eq_true x7] at hk
              exact absurd rfl hk
            · rw [decide_eq_false x7] at k7; clear x7
              go_wp2_with fail
              have HQ := Lib.hid (res6 HB2.out HR2.out (.int .i64 0) (.int .i64 0) (.string ⟨#[]⟩) (.string ⟨#[]⟩) (.string ⟨#[]⟩) (.string ⟨#[]⟩))
              obtain ⟨q0, q1, q2, q3, q4, q5⟩ := cellsOf6 HQ.out.1
              exact bodyPost_ret (v := .tuple #[rowV zeroRw, .bool false]) (by simp [results, Tryz.results35, go_sem, q0, q1, q2, q3, q4, q5, rowV, zeroRw]) rfl ⟨⟨zeroRw, by rw [HNO.out], fun h => by rw [HNO.out] at h; cases h⟩, HQ.out.2⟩
          · rw [decide_eq_false x5] at k5; clear x5
            go_wp2_with fail
            have HQ := Lib.hid (res6 HB2.out HR2.out (.int .i64 0) (.int .i64 0) (.string ⟨#[]⟩) (.string ⟨#[]⟩) (.string ⟨#[]⟩) (.string ⟨#[]⟩))
            obtain ⟨q0, q1, q2, q3, q4, q5⟩ := cellsOf6 HQ.out.1
            exact bodyPost_ret (v := .tuple #[rowV zeroRw, .bool false]) (by simp [results, Tryz.results35, go_sem, q0, q1, q2, q3, q4, q5, rowV, zeroRw]) rfl ⟨⟨zeroRw, by rw [HNO.out], fun h => by rw [HNO.out] at h; cases h⟩, HQ.out.2⟩
        · rw [decide_eq_false x3] at k3; clear x3
          go_wp2_with fail
          have HQ := Lib.hid (res6 HB2.out HR2.out (.int .i64 0) (.int .i64 0) (.string ⟨#[]⟩) (.string ⟨#[]⟩) (.string ⟨#[]⟩) (.string ⟨#[]⟩))
          obtain ⟨q0, q1, q2, q3, q4, q5⟩ := cellsOf6 HQ.out.1
          exact bodyPost_ret (v := .tuple #[rowV zeroRw, .bool false]) (by simp [results, Tryz.results35, go_sem, q0, q1, q2, q3, q4, q5, rowV, zeroRw]) rfl ⟨⟨zeroRw, by rw [HNO.out], fun h => by rw [HNO.out] at h; cases h⟩, HQ.out.2⟩
      · rw [decide_eq_false x1] at k1; clear x1
        go_wp2_with fail
        have HQ := Lib.hid (res6 HB2.out HR2.out (.int .i64 0) (.int .i64 0) (.string ⟨#[]⟩) (.string ⟨#[]⟩) (.string ⟨#[]⟩) (.string ⟨#[]⟩))
        obtain ⟨q0, q1, q2, q3, q4, q5⟩ := cellsOf6 HQ.out.1
        exact bodyPost_ret (v := .tuple #[rowV zeroRw, .bool false]) (by simp [results, Tryz.results35, go_sem, q0, q1, q2, q3, q4, q5, rowV, zeroRw]) rfl ⟨⟨zeroRw, by rw [HNO.out], fun h => by rw [HNO.out] at h; cases h⟩, HQ.out.2⟩
  · have HNO := Lib.hid (show rowOk s = false by
      unfold rowOk
      rw [HKEY.out, decide_eq_false hl]
      rfl)
    have hl' : (((WS.length : Nat) : Int) == 9) = false := by simp; omega
    go_wp2_with fail
    have HQ := Lib.hid (res6 HB2.out HR2.out (.int .i64 0) (.int .i64 0) (.string ⟨#[]⟩) (.string ⟨#[]⟩) (.string ⟨#[]⟩) (.string ⟨#[]⟩))
    obtain ⟨q0, q1, q2, q3, q4, q5⟩ := cellsOf6 HQ.out.1
    exact bodyPost_ret (v := .tuple #[rowV zeroRw, .bool false]) (by simp [results, Tryz.results35, go_sem, q0, q1, q2, q3, q4, q5, rowV, zeroRw]) rfl ⟨⟨zeroRw, by rw [HNO.out], fun h => by rw [HNO.out] at h; cases h⟩, HQ.out.2⟩
end Go.Proofs.YtinebmfmkgjaaaaGreatDoor
