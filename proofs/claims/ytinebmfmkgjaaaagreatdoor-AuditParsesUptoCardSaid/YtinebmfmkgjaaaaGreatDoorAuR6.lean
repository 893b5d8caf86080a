/- The reference's place. -/
import Derived.Test.YtinebmfmkgjaaaaGreatDoorAuR5
set_option linter.unusedVariables false
set_option linter.unusedSimpArgs false
namespace Go.Proofs.YtinebmfmkgjaaaaGreatDoor
open Go.RowKit

def PlaceEnd (s : ByteArray) (e : Ending) : Prop := ∃ l c, e = .returned (.tuple #[.agg #[.int .i64 l, .int .i64 c], .bool (placeOk s)]) ∧ (placeOk s = true → l = figB (bs (Lib.cut s.data.toList [58]).1) ∧ c = figB (bs (Lib.cut s.data.toList [58]).2.1))
theorem res2 {w wr : World} {x0 x1 : Value} (hb : Below w.heap.size w wr) (h : wr.heap[w.heap.size]? = some (.cells #[x0, x1] 31)) (a b : Value) :
    ((wr.setCell ⟨w.heap.size, 0, none⟩ a).setCell ⟨w.heap.size, 1, none⟩ b).heap[w.heap.size]? = some (.cells #[a, b] 31) ∧ Below w.heap.size w ((wr.setCell ⟨w.heap.size, 0, none⟩ a).setCell ⟨w.heap.size, 1, none⟩ b) :=
  ⟨setc (setc h 0 a) 1 b, (hb.setCell (Nat.le_refl _) _).setCell (Nat.le_refl _) _⟩
theorem bel2 {B n : Nat} {w wr : World} (hb : Below B w wr) (h : B ≤ n) (a b : Value) : Below B w ((wr.setCell ⟨n, 0, none⟩ a).setCell ⟨n, 1, none⟩ b) := (hb.setCell h _).setCell h _
theorem cut_at {s : ByteArray} {i : Nat} (h : i < s.size) (h58 : s[i]'h = 58) (hno : ∀ j (hj : j < s.size), j < i → s[j]'hj ≠ 58) : Lib.cut s.data.toList [58] = ((s.extract 0 i).data.toList, (s.extract (i + 1) s.size).data.toList, true) := by
  have hll : s.data.toList.length = s.size := by simp
  have h1 : (s.extract 0 i).data.toList = s.data.toList.take i := fore_list s i
  have h2 : (s.extract (i + 1) s.size).data.toList = s.data.toList.drop (i + 1) := by
    simp [ByteArray.data_extract]
    exact List.take_of_length_le (by simp)
  have h3 : s.data.toList = s.data.toList.take i ++ 58 :: s.data.toList.drop (i + 1) := by
    conv => lhs; rw [← List.take_append_drop i s.data.toList, List.drop_eq_getElem_cons (by omega)]
    have : s.data.toList[i]'(by omega) = s[i]'h := rfl
    rw [this, h58]
  rw [h1, h2]
  conv => lhs; rw [h3]
  refine cut58 _ _ fun hm => ?_
  rw [List.mem_take_iff_getElem] at hm
  obtain ⟨j, hj, he⟩ := hm
  exact hno j (by omega) (by omega) he
theorem cut_nope {s : ByteArray} (hno : ∀ j (hj : j < s.size), s[j]'hj ≠ 58) : placeOk s = false := by
  have hll : s.data.toList.length = s.size := by simp
  have h : (Lib.cut s.data.toList [58]).2.2 = false := by
    cases hf : (Lib.cut s.data.toList [58]).2.2 with
    | false => rfl
    | true =>
      exfalso
      have hj := cut_join _ hf
      have hm : (58 : UInt8) ∈ s.data.toList := by
        rw [hj]
        simp
      obtain ⟨j, hjl, he⟩ := List.mem_iff_getElem.1 hm
      exact hno j (by omega) he
  unfold placeOk
  rw [h]
  rfl
set_option maxRecDepth 100000 in
set_option maxHeartbeats 8000000 in
theorem place_in' (s : ByteArray) (w : World) (hs : s.size ≤ 8388608) : Calls Tryz.prog 37 #[.string s] w fun e w' => PlaceEnd s e ∧ Below w.heap.size w w' := by
  go_enter Tryz.func37, Tryz.ntmps37
  have HB0 := Lib.hid ((Below.refl w.heap.size w).alloc (Nat.le_refl _) (.cells #[.int .i64 0, .int .i64 0] 31))
  have HR0 := Lib.hid (last w (.cells #[.int .i64 0, .int .i64 0] 31))
  go_wp2_with fail
  generalize w.alloc (.cells #[.int .i64 0, .int .i64 0] 31) = w1 at *
  go_loopg [4] s.size (fun gk iv wr => wr = w1 ∧ ∃ i : Nat, iv = .int .i64 (i : Int) ∧ i + gk = s.size ∧ ∀ j (hj : j < s.size), j < i → s[j]'hj ≠ 58)
  case atStart => exact ⟨rfl, 0, rfl, by omega, fun j hj h => by omega⟩
  case round =>
    obtain ⟨rfl, i, rfl, hig, hno⟩ := hrel
    have HNO := Lib.hid hno
    clear hno
    by_cases hlt : i < s.size
    · obtain ⟨gq, rfl⟩ : ∃ g, gk = g + 1 := ⟨gk - 1, by omega⟩
      have hlt' : (i : Int) < (s.size : Int) := by omega
      have hle' : (i : Int) ≤ (s.size : Int) := by omega
      have hle2 : (i : Int) + 1 ≤ (s.size : Int) := by omega
      by_cases h58 : (s[i]'hlt).toNat = 58
      · have h58' : (((s[i]'hlt).toNat : Int) == 58) = true := by simp; omega
        have HCU := Lib.hid (cut_at hlt (UInt8.toNat_inj.1 h58) (fun j hj h => HNO.out j hj h))
        have hA : (s.extract 0 i).size ≤ 8388608 := by rw [ByteArray.size_extract]; omega
        have hB : (s.extract (i + 1) s.size).size ≤ 8388608 := by rw [ByteArray.size_extract]; omega
        have HFA := Lib.hid fun W => figures_in (s.extract 0 i) W hA
        have HFB := Lib.hid fun W => figures_in (s.extract (i + 1) s.size) W hB
        have HPK := Lib.hid (show placeOk s = (decide (0 ≤ figB (s.extract 0 i)) && decide (0 ≤ figB (s.extract (i + 1) s.size))) by
          unfold placeOk
          rw [HCU.out]
          simp only
          rw [bs_data, bs_data]
          rfl)
        have HPV := Lib.hid (show figB (bs (Lib.cut s.data.toList [58]).1) = figB (s.extract 0 i) ∧ figB (bs (Lib.cut s.data.toList [58]).2.1) = figB (s.extract (i + 1) s.size) by
          rw [HCU.out]
          simp only
          rw [bs_data, bs_data]
          exact ⟨rfl, rfl⟩)
        clear hA hB
        generalize hna : figB (s.extract 0 i) = na at *
        generalize hnb : figB (s.extract (i + 1) s.size) = nb at *
        clear hna hnb
        have hi3 : ((i : Int) + 1).toNat = i + 1 := by omega
        have hi4 : (0 : Int) ≤ (i : Int) + 1 := by omega
        have hi5 : IntKind.i64.wrap ((i : Int) + 1) = (i : Int) + 1 := IntWalk.i64_in _ ⟨by omega, by omega⟩
        go_upto_region 5 with fail
        have hbw3 : Below wr.heap.size wr wr.drew := (Below.refl _ wr).drew
        have hba3 := fun o => ((Below.refl wr.heap.size wr).alloc (Nat.le_refl _) o).drew
        refine' (fun (key : Hid _) => ?main) (Lib.hid ?kp)
        case main =>
          go_region_held3 (fun _ => True) (exact trivial)
            (first
              | (go_at_call_of 71 (Value.string (s.extract 0 i)); refine (HFA.out _).mono ?_; rintro e w4 ⟨rfl, hbn⟩; have hb4 := chain (by first | with_reducible assumption | with_reducible exact hba3 _) hbn; first | (have z4 := blk hbn; clear hbn) | (clear hbn))
              | (go_at_call 71; refine (HFB.out _).mono ?_; rintro e w5 ⟨rfl, hbn⟩; have hb5 := chain (by first | with_reducible assumption | with_reducible exact hb4.alloc hb4.size _) hbn; first | (have z5 := blk2 hbn; obtain ⟨y0, y1⟩ := cellsOf2p z5; have yf := frozenOf z5; clear hbn) | (have z5 := (hbn.block _ (heap_lt z4)).trans z4; obtain ⟨y0, y1⟩ := cellsOf2p z5; have yf := frozenOf z5; clear hbn) | (clear hbn)))
          · have HT1 := Lib.hid (show Below wr.heap.size wr (w5.alloc (.cells #[.int .i64 na, .int .i64 nb] 31)) ∧ (w5.alloc (.cells #[.int .i64 na, .int .i64 nb] 31)).heap[w5.heap.size]? = some (.cells #[.int .i64 na, .int .i64 nb] 31) ∧ wr.heap.size ≤ w5.heap.size from ⟨hb5.alloc hb5.size _, last w5 _, hb5.size⟩)
            generalize (World.alloc w5 _) = W at HT1 ⊢
            generalize w5.heap.size = nx at HT1 ⊢
            revert W nx
            exact key.out
          · have HT1 := Lib.hid (And.intro (bel2 hb5 hb4.size (.int .i64 na) (.int .i64 nb)) (And.intro (setc (setc z5 0 (.int .i64 na)) 1 (.int .i64 nb)) hb4.size))
            generalize (World.setCell (World.setCell w5 _ _) _ _) = W at HT1 ⊢
            generalize w4.heap.size = nx at HT1 ⊢
            exact key.out W nx HT1
          · have HT1 := Lib.hid (And.intro (bel2 hb5 (Nat.le_refl _) (.int .i64 na) (.int .i64 nb)) (And.intro (setc (setc z5 0 (.int .i64 na)) 1 (.int .i64 nb)) (Nat.le_refl wr.heap.size)))
            generalize (World.setCell (World.setCell w5 _ _) _ _) = W at HT1 ⊢
            have HT2 := HT1
            clear HT1
            obtain ⟨nx, hnx⟩ : ∃ nx, wr.heap.size = nx := ⟨_, rfl⟩
            rw [show (wr.heap.size) = wr.heap.size from rfl]
            exact key.out W wr.heap.size HT2
        intro W nx HT1
        clear hbw3 hba3 hi5
        have HBW := Lib.hid (chain HB0.out HT1.out.1)
        have HRS := Lib.hid ((HT1.out.1.block _ (heap_lt HR0.out)).trans HR0.out)
        obtain ⟨x0, x1⟩ := cellsOf2p HT1.out.2.1
        have hlw := heap_lt HR0.out
        have hnx := HT1.out.2.2
        have hne : nx ≠ w.heap.size := by omega
        have y0 := fun a b => (World.cell?_of_block (w := W) (a := ⟨nx, 0, none⟩) ((Below.heap_setCell (W.setCell ⟨w.heap.size, 0, none⟩ a) ⟨w.heap.size, 1, none⟩ b nx hne).trans (Below.heap_setCell W ⟨w.heap.size, 0, none⟩ a nx hne))).trans x0
        have y1 := fun a b => (World.cell?_of_block (w := W) (a := ⟨nx, 1, none⟩) ((Below.heap_setCell (W.setCell ⟨w.heap.size, 0, none⟩ a) ⟨w.heap.size, 1, none⟩ b nx hne).trans (Below.heap_setCell W ⟨w.heap.size, 0, none⟩ a nx hne))).trans x1
        clear hlw hnx
        obtain ⟨r0, r1⟩ := cellsOf2p HRS.out
        have rf := frozenOf HRS.out
        by_cases ha : 0 ≤ na
        · by_cases hb : 0 ≤ nb
          · have k1 : decide ((0 : Int) ≤ na) = true := decide_eq_true ha
            have k2 : decide ((0 : Int) ≤ nb) = true := decide_eq_true hb
            have HOK := Lib.hid (show placeOk s = true by rw [HPK.out, k1, k2]; rfl)
            clear ha hb
            go_wp2_with fail
            go_region
            go_wp2_with fail
            have HQ := Lib.hid (res2 HBW.out HRS.out (.int .i64 na) (.int .i64 nb))
            obtain ⟨q0, q1⟩ := cellsOf2p HQ.out.1
            exact bodyPost_ret (v := .tuple #[.agg #[.int .i64 na, .int .i64 nb], .bool true]) (by simp [results, Tryz.results37, go_sem, q0, q1]) rfl ⟨⟨na, nb, by rw [HOK.out], fun _ => ⟨HPV.out.1.symm, HPV.out.2.symm⟩⟩, HQ.out.2.drew⟩
          · have k1 : decide ((0 : Int) ≤ na) = true := decide_eq_true ha
            have k2 : decide ((0 : Int) ≤ nb) = false := decide_eq_false hb
            have HOK := Lib.hid (show placeOk s = false by rw [HPK.out, k1, k2]; rfl)
            clear ha hb
            go_wp2_with fail
            go_region
            go_wp2_with fail
            have HQ := Lib.hid (res2 HBW.out HRS.out (.int .i64 na) (.int .i64 nb))
            obtain ⟨q0, q1⟩ := cellsOf2p HQ.out.1
            exact bodyPost_ret (v := .tuple #[.agg #[.int .i64 na, .int .i64 nb], .bool false]) (by simp [results, Tryz.results37, go_sem, q0, q1]) rfl ⟨⟨na, nb, by rw [HOK.out], fun _ => ⟨HPV.out.1.symm, HPV.out.2.symm⟩⟩, HQ.out.2.drew⟩
        · have k1 : decide ((0 : Int) ≤ na) = false := decide_eq_false ha
          have HOK := Lib.hid (show placeOk s = false by rw [HPK.out, k1]; rfl)
          clear ha
          go_wp2_with fail
          go_region
          go_wp2_with fail
          have HQ := Lib.hid (res2 HBW.out HRS.out (.int .i64 na) (.int .i64 nb))
          obtain ⟨q0, q1⟩ := cellsOf2p HQ.out.1
          exact bodyPost_ret (v := .tuple #[.agg #[.int .i64 na, .int .i64 nb], .bool false]) (by simp [results, Tryz.results37, go_sem, q0, q1]) rfl ⟨⟨na, nb, by rw [HOK.out], fun _ => ⟨HPV.out.1.symm, HPV.out.2.symm⟩⟩, HQ.out.2.drew⟩
      · have h58' : (((s[i]'hlt).toNat : Int) == 58) = false := by simp; omega
        have HST := Lib.hid (show ∀ j (hj : j < s.size), j < i + 1 → s[j]'hj ≠ 58 from fun j hj h => by
          by_cases e : j = i
          · subst e
            exact fun he => h58 (by rw [he]; rfl)
          · exact HNO.out j hj (by omega))
        go_wp2_with fail
        go_roundg gq
        case measure => omega
        case rel => exact ⟨rfl, i + 1, by first | rfl | go_num, by omega, HST.out⟩
    · have hlt' : ¬ (i : Int) < (s.size : Int) := by omega
      obtain rfl : i = s.size := by omega
      have HOK := Lib.hid (cut_nope (s := s) fun j hj => HNO.out j hj hj)
      obtain ⟨r0, r1⟩ := cellsOf2p HR0.out
      have rf := frozenOf HR0.out
      go_wp2_with fail
      have HQ := Lib.hid (res2 HB0.out HR0.out (.int .i64 0) (.int .i64 0))
      obtain ⟨q0, q1⟩ := cellsOf2p HQ.out.1
      exact bodyPost_ret (v := .tuple #[.agg #[.int .i64 0, .int .i64 0], .bool false]) (by simp [results, Tryz.results37, go_sem, q0, q1]) rfl ⟨⟨0, 0, by rw [HOK.out], fun h => by rw [HOK.out] at h; cases h⟩, HQ.out.2⟩
end Go.Proofs.YtinebmfmkgjaaaaGreatDoor
