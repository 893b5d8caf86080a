/- The document's join of labels. PRINTED by genlab6.py of this folder. -/
import Derived.Test.YtkcbcdfcpchgcaaDoorLab5
set_option linter.unusedVariables false
set_option linter.unusedSimpArgs false
namespace Go.Proofs.YtkcbcdfcpchgcaaDoor
open Go.RowKit
open OrdP (inB Rel allB allB_iff)

theorem fold_in {n1 n2 : Nat} {R1 R2 : Rel} (h1 : 1 ≤ n1) (h2 : 1 ≤ n2) (hl1 : OrdP.Lat n1 R1) (hl2 : OrdP.Lat n2 R2) {l : List (Int × Int)} (hr : ∀ x ∈ l, labRight n1 n2 x = true) : ∀ k, k ≤ l.length → ∃ a b : Nat, labFold n1 n2 R1 R2 (l.take k) = ((a : Int), (b : Int)) ∧ a < n1 ∧ b < n2
  | 0, _ => by
    obtain ⟨a, ha, ha', _⟩ := hl1.bottom_is h1
    obtain ⟨b, hb, hb', _⟩ := hl2.bottom_is h2
    exact ⟨a, b, by simp [labFold, ha', hb'], ha, hb⟩
  | k + 1, hk => by
    obtain ⟨a, b, h, ha, hb⟩ := fold_in h1 h2 hl1 hl2 hr k (by omega)
    have hm : l.getD k (0, 0) ∈ l := by
      rw [List.getD_eq_getElem?_getD, List.getElem?_eq_getElem (by omega)]; exact List.getElem_mem _
    have hx := hr _ hm
    rw [labFold_succ (by omega), h]
    revert hx
    generalize l.getD k (0, 0) = x
    obtain ⟨x, y⟩ := x
    intro hx
    simp only [labRight, OrdP.inB, Bool.and_eq_true, decide_eq_true_eq] at hx
    obtain ⟨⟨x0, x1⟩, y0, y1⟩ := hx
    obtain ⟨c, rfl⟩ := Int.eq_ofNat_of_zero_le x0
    obtain ⟨d, rfl⟩ := Int.eq_ofNat_of_zero_le y0
    have hc : c < n1 := by omega
    have hd : d < n2 := by omega
    obtain ⟨p, hp, hp', _⟩ := hl1.join_is ha hc
    obtain ⟨q, hq, hq', _⟩ := hl2.join_is hb hd
    exact ⟨p, q, by simp [labJoin, OrdP.joinI_nat ha hc, OrdP.joinI_nat hb hd, hp', hq'], hp, hq⟩

section
variable {W : World} {n1 n2 g1 g2 : Nat} {R1 R2 S1 S2 : Rel} (c1 c2 : Nat)
set_option maxRecDepth 100000 in
set_option maxHeartbeats 2000000 in
theorem rJoin_in (h1 : 1 ≤ n1 ∧ n1 ≤ 32) (h2 : 1 ≤ n2 ∧ n2 ≤ 32) (hS1 : RefAt W g1 n1 S1) (hS2 : RefAt W g2 n2 S2) (hR1 : ∀ i j, i < n1 → j < n1 → S1 i j = R1 i j) (hR2 : ∀ i j, i < n2 → j < n2 → S2 i j = R2 i j) (hl1 : OrdP.Lat n1 R1) (hl2 : OrdP.Lat n2 R2)
    {A : Option Addr} {len cap : Nat} {l : List (Int × Int)} (hlen : l.length = len) (hl : len ≤ 1000) (hp : PairsAt W A l) (hr : ∀ x ∈ l, labRight n1 n2 x = true) :
    Calls Tryd.prog 29 #[refV n1 g1 c1 n2 g2 c2, .slice A len cap] W fun e w' => e = .returned (labV (labFold n1 n2 R1 R2 l)) ∧ Below W.heap.size W w' := by
  have hb0 := ((Below.refl W.heap.size W).alloc (Nat.le_refl _) (.cells #[.int .i64 n1, .slice (some ⟨g1, 0, none⟩) n1 c1, .int .i64 n2, .slice (some ⟨g2, 0, none⟩) n2 c2] 49)).alloc (by simp) (.cells #[.int .i64 0, .int .i64 0] 53)
  have f0 : ((W.alloc (.cells #[.int .i64 n1, .slice (some ⟨g1, 0, none⟩) n1 c1, .int .i64 n2, .slice (some ⟨g2, 0, none⟩) n2 c2] 49)).alloc (.cells #[.int .i64 0, .int .i64 0] 53)).heap[W.heap.size]? = some (.cells #[.int .i64 n1, .slice (some ⟨g1, 0, none⟩) n1 c1, .int .i64 n2, .slice (some ⟨g2, 0, none⟩) n2 c2] 49) := by
    rw [Below.heap_alloc _ _ _ (by simp)]; exact last _ _
  have f1 : ((W.alloc (.cells #[.int .i64 n1, .slice (some ⟨g1, 0, none⟩) n1 c1, .int .i64 n2, .slice (some ⟨g2, 0, none⟩) n2 c2] 49)).alloc (.cells #[.int .i64 0, .int .i64 0] 53)).heap[W.heap.size + 1]? = some (.cells #[.int .i64 0, .int .i64 0] 53) := by
    have := last (W.alloc (.cells #[.int .i64 n1, .slice (some ⟨g1, 0, none⟩) n1 c1, .int .i64 n2, .slice (some ⟨g2, 0, none⟩) n2 c2] 49)) (.cells #[.int .i64 0, .int .i64 0] 53)
    simpa using this
  have hs0 : ((W.alloc (.cells #[.int .i64 n1, .slice (some ⟨g1, 0, none⟩) n1 c1, .int .i64 n2, .slice (some ⟨g2, 0, none⟩) n2 c2] 49)).alloc (.cells #[.int .i64 0, .int .i64 0] 53)).heap.size = W.heap.size + 2 := by simp
  have HL0 := Lib.hid (And.intro (hS1.below hb0) (hS2.below hb0))
  have HL := Lib.hid (And.intro hS1 hS2)
  have HR := Lib.hid (And.intro hR1 hR2)
  have HX := Lib.hid (And.intro (fold_in h1.1 h2.1 hl1 hl2 hr) hr)
  have HP := Lib.hid hp
  clear hS1 hS2 hR1 hR2 hp hl1 hl2 hr
  obtain ⟨e0, e1, e2, e3⟩ := cellsOf4 f0
  unfold refV labV
  go_enter Tryd.func29, Tryd.ntmps29
  go_wp2_with fail
  generalize (W.alloc (.cells #[.int .i64 n1, .slice (some ⟨g1, 0, none⟩) n1 c1, .int .i64 n2, .slice (some ⟨g2, 0, none⟩) n2 c2] 49)).alloc (.cells #[.int .i64 0, .int .i64 0] 53) = W1 at *
  obtain ⟨v1, v2, hF0, hv1, hv2⟩ := HX.out.1 0 (by omega)
  have hbt : OrdP.bottom n1 R1 = v1 ∧ OrdP.bottom n2 R2 = v2 := by simpa [labFold] using hF0
  have HQ := Lib.hid (And.intro ((OrdP.bottom_congr HR.out.1).trans hbt.1) ((OrdP.bottom_congr HR.out.2).trans hbt.2))
  have HF0 := Lib.hid hF0; clear hF0 hbt
  refine (rBottom_in c1 c2 h1 h2 HL0.out.1 HL0.out.2 HQ.out.1 HQ.out.2).mono ?_
  rintro e w2 ⟨rfl, hb2⟩
  have k0 := (hb2.block _ (by omega)).trans f0
  have k1 := (hb2.block _ (by omega)).trans f1
  have hs2 := hb2.size
  have hb02 := hb0.trans (hb2.mono (by omega))
  clear hb0 hb2 f0 f1 e0 e1 e2 e3 HL0
  have k3 := last w2 (.cells #[.int .i64 v1, .int .i64 v2] 53)
  have hbX := hb02.alloc (by omega) (.cells #[.int .i64 v1, .int .i64 v2] 53)
  have k4 := (Below.heap_alloc w2 (.cells #[.int .i64 v1, .int .i64 v2] 53) W.heap.size (by omega)).trans k0
  have k5 := (Below.heap_alloc w2 (.cells #[.int .i64 v1, .int .i64 v2] 53) (W.heap.size + 1) (by omega)).trans k1
  have hsX : (w2.alloc (.cells #[.int .i64 v1, .int .i64 v2] 53)).heap.size = w2.heap.size + 1 := by simp
  unfold labV
  go_wp2_with fail
  generalize w2.alloc (.cells #[.int .i64 v1, .int .i64 v2] 53) = W3 at *
  clear k0 k1 hb02
  generalize w2.heap.size = X at *
  go_loopw [6] (fun i wr => ∃ k : Nat, i = .int .i64 k ∧ k ≤ len ∧ Below W.heap.size W wr ∧ X < wr.heap.size ∧ wr.heap[W.heap.size]? = some (.cells #[.int .i64 n1, .slice (some ⟨g1, 0, none⟩) n1 c1, .int .i64 n2, .slice (some ⟨g2, 0, none⟩) n2 c2] 49) ∧ wr.heap[W.heap.size + 1]? = some (.cells #[.int .i64 0, .int .i64 0] 53) ∧ ∃ a b : Nat, wr.heap[X]? = some (.cells #[.int .i64 a, .int .i64 b] 53) ∧ Hid (labFold n1 n2 R1 R2 (l.take k) = ((a : Int), (b : Int)) ∧ a < n1 ∧ b < n2)) (fun i _ => ((len : Int) - intOf i).toNat)
  case atStart => exact ⟨0, rfl, by omega, hbX, by omega, k4, k5, v1, v2, k3, Lib.hid ⟨HF0.out, hv1, hv2⟩⟩
  case round =>
    obtain ⟨k, rfl, hk, hbr, hXr, q0, q1, a, b, q2, HF⟩ := hrel
    by_cases hkl : k < len
    · rcases HP.out.below hbr with h0 | ⟨pb, off, hA, hc⟩
      · rw [h0] at hlen; simp at hlen; omega
      obtain ⟨x, y, hcd⟩ : ∃ c d, l.getD k (0, 0) = (c, d) := ⟨_, _, rfl⟩
      obtain ⟨p0, p1⟩ := hc k (by omega)
      have hm : l.getD k (0, 0) ∈ l := by
        rw [List.getD_eq_getElem?_getD, List.getElem?_eq_getElem (by omega)]; exact List.getElem_mem _
      have hx := HX.out.2 _ hm
      rw [hcd] at p0 p1 hx
      simp only [labRight, OrdP.inB, Bool.and_eq_true, decide_eq_true_eq] at hx
      obtain ⟨⟨x0, x1⟩, y0, y1⟩ := hx
      obtain ⟨c, rfl⟩ := Int.eq_ofNat_of_zero_le x0
      obtain ⟨d, rfl⟩ := Int.eq_ofNat_of_zero_le y0
      subst hA
      clear hc hm
      have hcn : c < n1 := by omega
      have hdn : d < n2 := by omega
      obtain ⟨va, vb, hnext, hva, hvb⟩ := HX.out.1 (k + 1) (by omega)
      have hj := hnext
      rw [labFold_succ (by omega), HF.out.1, hcd] at hj
      simp only [labJoin, OrdP.joinI_nat HF.out.2.1 hcn, OrdP.joinI_nat HF.out.2.2 hdn, Prod.mk.injEq] at hj
      have HV := Lib.hid (And.intro ((OrdP.join_congr HR.out.1 HF.out.2.1 hcn).trans hj.1) (And.intro ((OrdP.join_congr HR.out.2 HF.out.2.2 hdn).trans hj.2) (And.intro hcn (And.intro hdn (And.intro hnext (And.intro hva hvb))))))
      clear hj hnext hva hvb hcd hcn hdn x0 x1 y0 y1
      have hki : (k : Int) < len := by omega
      have hki0 : (0 : Int) ≤ k := by omega
      go_wp2_with fail
      obtain ⟨e0, e1, e2, e3⟩ := cellsOf4 q0
      obtain ⟨e4, e5⟩ := cellsOf2 q2
      refine Last.start_ (S := fun w' => w'.cell? ⟨W.heap.size, 0, none⟩ = some (.int .i64 n1) ∧ w'.cell? ⟨W.heap.size, 1, none⟩ = some (.slice (some ⟨g1, 0, none⟩) n1 c1) ∧ w'.cell? ⟨W.heap.size, 2, none⟩ = some (.int .i64 n2) ∧ w'.cell? ⟨W.heap.size, 3, none⟩ = some (.slice (some ⟨g2, 0, none⟩) n2 c2) ∧ w'.cell? ⟨X, 0, none⟩ = some (.int .i64 (a : Nat)) ∧ w'.cell? ⟨X, 1, none⟩ = some (.int .i64 (b : Nat)) ∧ w'.cell? ⟨pb, off + k * 2, none⟩ = some (.int .i64 (c : Nat)) ∧ w'.cell? ⟨pb, off + k * 2 + 1, none⟩ = some (.int .i64 (d : Nat))) (ds := [7]) #[false, false, false, false, false, false, false, false] (by kernel_rfl) rfl rfl ⟨by assumption, by assumption, by assumption, by assumption, by assumption, by assumption, by assumption, by assumption⟩ (fun hS => ?_)
      refine Last.pure_ (i := 2) (N := some 17) #[false, false, true, false, false, false, false, false] rfl rfl (by kernel_rfl) (by exact fun _ _ _ h => h) (Or.inl ⟨by rfl, by (intro w; go_simp; try with_reducible rfl)⟩) rfl ?_
      simp only [Act.put, List.setIfInBounds_toArray, List.set_cons_zero, List.set_cons_succ]
      refine Last.pure_ (i := 3) (N := some 18) #[false, false, true, true, false, false, false, false] rfl rfl (by kernel_rfl) (by exact fun _ _ _ h => h) (Or.inl ⟨by rfl, by (intro w; go_simp; try with_reducible rfl)⟩) rfl ?_
      simp only [Act.put, List.setIfInBounds_toArray, List.set_cons_zero, List.set_cons_succ]
      refine Last.pure_ (i := 4) (N := some 19) #[false, false, true, true, true, false, false, false] rfl rfl (by kernel_rfl) (by exact fun _ _ _ h => h) (Or.inl ⟨by rfl, by (intro w; go_simp; try with_reducible rfl)⟩) rfl ?_
      simp only [Act.put, List.setIfInBounds_toArray, List.set_cons_zero, List.set_cons_succ]
      refine Last.take_ (i := 0) (N := some 15) #[true, false, true, true, true, false, false, false] rfl rfl (by kernel_rfl) (by exact fun _ _ _ h => h) (Or.inl ⟨by rfl, by (intro w hSw; obtain ⟨s0, s1, s2, s3, s4, s5, s6, s7⟩ := hSw; go_simp; try with_reducible rfl)⟩) hS rfl ?_
      simp only [Act.put, List.setIfInBounds_toArray, List.set_cons_zero, List.set_cons_succ]
      refine Last.take_ (i := 1) (N := some 16) #[true, true, true, true, true, false, false, false] rfl rfl (by kernel_rfl) (by exact fun _ _ _ h => h) (Or.inl ⟨by rfl, by (intro w hSw; obtain ⟨s0, s1, s2, s3, s4, s5, s6, s7⟩ := hSw; go_simp; try with_reducible rfl)⟩) hS rfl ?_
      simp only [Act.put, List.setIfInBounds_toArray, List.set_cons_zero, List.set_cons_succ]
      refine Last.take_ (i := 5) (N := some 20) #[true, true, true, true, true, true, false, false] rfl rfl (by kernel_rfl) (by exact fun _ _ _ h => h) (Or.inl ⟨by rfl, by (intro w hSw; obtain ⟨s0, s1, s2, s3, s4, s5, s6, s7⟩ := hSw; go_simp; try with_reducible rfl)⟩) hS rfl ?_
      simp only [Act.put, List.setIfInBounds_toArray, List.set_cons_zero, List.set_cons_succ]
      refine Last.one_ (i := 6) (N := some 21) #[true, true, true, true, true, true, true, false] rfl rfl (by kernel_rfl) (by decide) (fun K hK => ?_)
      refine Last.goes_ («as» := #[.tmp 15, .tmp 16, .tmp 20]) (ts := #[49, 53, 53]) Tryd.func37 (by kernel_rfl) rfl #[refV n1 g1 c1 n2 g2 c2, labV (a, b), labV (c, d)] (by rfl) rfl rfl (by simp [Act.eval, refV, labV]) ?_
      have hbrd := hbr.drew
      refine (rTwo_in c1 c2 h1.2 h2.2 (HL.out.1.below hbrd) (HL.out.2.below hbrd) HF.out.2.1 HF.out.2.2 HV.out.2.2.1 HV.out.2.2.2.1 HV.out.1 HV.out.2.1).mono ?_
      rintro e w' ⟨rfl, hbx⟩
      have hsx : wr.heap.size ≤ w'.heap.size := hbx.size
      have u0 := (show w'.heap[W.heap.size]? = wr.heap[W.heap.size]? from hbx.block _ (show _ < wr.heap.size by omega)).trans q0
      have u1 := (show w'.heap[W.heap.size + 1]? = wr.heap[W.heap.size + 1]? from hbx.block _ (show _ < wr.heap.size by omega)).trans q1
      have u2 := (show w'.heap[X]? = wr.heap[X]? from hbx.block _ (show _ < wr.heap.size by omega)).trans q2
      have u3 := (show w'.cell? ⟨pb, off + k * 2, none⟩ = wr.cell? ⟨pb, off + k * 2, none⟩ from hbx.cell (p := ⟨pb, off + k * 2, none⟩) (cell_lt p0)).trans p0
      have u4 := (show w'.cell? ⟨pb, off + k * 2 + 1, none⟩ = wr.cell? ⟨pb, off + k * 2 + 1, none⟩ from hbx.cell (p := ⟨pb, off + k * 2 + 1, none⟩) (cell_lt p1)).trans p1
      have hbY := hbrd.trans (hbx.mono (show W.heap.size ≤ wr.heap.size by omega))
      obtain ⟨e0, e1, e2, e3⟩ := cellsOf4 u0
      obtain ⟨e4, e5⟩ := cellsOf2 u2
      have zf := frozenOf u2
      refine ⟨_, rfl, hK.out _ _ ⟨e0, e1, e2, e3, e4, e5, u3, u4⟩ (fun hS => ?_)⟩
      unfold labV
      simp only [Act.put, List.setIfInBounds_toArray, List.set_cons_zero, List.set_cons_succ]
      refine Last.last_ (i := 7) (N := none) #[true, true, true, true, true, true, true, true] rfl rfl (by kernel_rfl) (by decide) (fun K hK => Last.skip_ (w1 := (w'.setCell ⟨X, 0, none⟩ (.int .i64 va)).setCell ⟨X, 1, none⟩ (.int .i64 vb)) (by rfl) rfl (by go_simp) (hK.out _ _ (Last.done_ (by kernel_rfl) ?_)))
      have t0 := (set2_other (w := w') (b := X) (c := W.heap.size) (by omega) (.int .i64 va) (.int .i64 vb)).trans u0
      have t1 := (set2_other (w := w') (b := X) (c := W.heap.size + 1) (by omega) (.int .i64 va) (.int .i64 vb)).trans u1
      have t2 := set2_heap u2 (.int .i64 va) (.int .i64 vb)
      have t3 := Below.set2 hbY (b := X) (by omega) (.int .i64 va) (.int .i64 vb)
      have t4 := set2_size (w := w') (b := X) (.int .i64 va) (.int .i64 vb)
      clear e0 e1 e2 e3 e4 e5 zf hbx hS u0 u1 u2 u3 u4 hbY hbrd
      generalize (w'.setCell ⟨X, 0, none⟩ (.int .i64 va)).setCell ⟨X, 1, none⟩ (.int .i64 vb) = W6 at *
      go_wp2_with fail
      go_roundw
      case rel => exact ⟨k + 1, by simp, by omega, t3, by omega, t0, t1, va, vb, t2, Lib.hid HV.out.2.2.2.2⟩
      case measure => simp [intOf]; omega
    · obtain rfl : k = len := by omega
      have hfin : labFold n1 n2 R1 R2 l = ((a : Int), (b : Int)) := by rw [← HF.out.1, ← hlen, List.take_length]
      have HFin := Lib.hid hfin
      obtain ⟨e0, e1⟩ := cellsOf2 q2
      obtain ⟨r0, r1⟩ := cellsOf2 q1
      have rf := frozenOf q1
      obtain ⟨z0, z1⟩ := set_zero r0 r1 (.int .i64 a) (.int .i64 b)
      have HB := Lib.hid (Below.set2 hbr (b := W.heap.size + 1) (by omega) (.int .i64 a) (.int .i64 b))
      clear HF hfin hbX k4 k5 k3
      go_wp2_with fail
      exact bodyPost_ret (v := .agg #[.int .i64 a, .int .i64 b]) (by simp [results, Tryd.results29, go_sem, z0, z1]) rfl ⟨by rw [HFin.out], HB.out⟩
end
end Go.Proofs.YtkcbcdfcpchgcaaDoor
