/- LabelJoins' walk. PRINTED by genlab10.py of this folder. -/
import Derived.Test.YtkcbcdfcpchgcaaDoorLab9
set_option linter.unusedVariables false
set_option linter.unusedSimpArgs false
namespace Go.Proofs.YtkcbcdfcpchgcaaDoor
open Go.RowKit
open OrdP (inB Rel allB allB_iff)

set_option maxRecDepth 100000 in
set_option maxHeartbeats 8000000 in
theorem LabelJoins_in (w : World) (ht : TabAt w) (hB0 : 0 < w.heap.size) (n m : Int) (n1 : -128 ≤ n) (n2 : n ≤ 127) (m1 : -128 ≤ m) (m2 : m ≤ 127) (A B : Option Addr) (ca cb la lb : Nat) (l k : List (Int × Int)) (hla : l.length = la) (hlb : k.length = lb) (hA : la ≤ 100 → PairsAt w A l) (hB : lb ≤ 100 → PairsAt w B k) (hma : (la : Int) ≤ 9223372036854775807) (hmb : (lb : Int) ≤ 9223372036854775807)
    (C : Option Addr) (cc len : Nat) (q : List (Int × Int)) (hq : q.length = len) (hC : len ≤ 20 → PairsAt w C q) (hmc : (len : Int) ≤ 9223372036854775807) (t : Int) :
    Calls Tryd.prog 5 #[.agg #[.int .i8 n, .int .i8 m, .slice A la ca, .slice B lb cb], .slice C len cc, .int .i64 t] w fun e w' => e = .returned (.bool true) ∧ Below w.heap.size w w' := by
  have HT := Lib.hid ht
  have hb0 := (Below.refl w.heap.size w).alloc (Nat.le_refl _) (.cells #[.int .i8 n, .int .i8 m, .slice A la ca, .slice B lb cb] 44)
  have f0 := last w (.cells #[.int .i8 n, .int .i8 m, .slice A la ca, .slice B lb cb] 44)
  have hs0 : (w.alloc (.cells #[.int .i8 n, .int .i8 m, .slice A la ca, .slice B lb cb] 44)).heap.size = w.heap.size + 1 := by simp
  have HA := Lib.hid (fun h => (hA h).below hb0)
  have HB := Lib.hid (fun h => (hB h).below hb0)
  have HC := Lib.hid (fun h => (hC h).below hb0)
  clear hA hB hC ht
  go_enter Tryd.func5, Tryd.ntmps5
  go_wp2_with fail
  generalize w.alloc (.cells #[.int .i8 n, .int .i8 m, .slice A la ca, .slice B lb cb] 44) = w0 at *
  refine (lives2_in w0 (HT.out.below hB0 hb0) (by omega)).mono ?_
  rintro e w1 ⟨rfl, hb1⟩
  have hs1 := hb1.size
  have hb01 := hb0.trans (hb1.mono (by omega))
  by_cases hl : 20 < len
  · go_wp2_with fail
    refine (lives2_in w1 (HT.out.below hB0 hb01) (by omega)).mono ?_
    rintro e w2 ⟨rfl, hb2⟩
    go_wp2_with fail
    go_ret
    exact ⟨rfl, hb01.trans (hb2.mono (by omega))⟩
  · obtain ⟨r0, r1, r2, r3⟩ := cellsOf4 ((hb1.block _ (by omega)).trans f0)
    have HC1 := Lib.hid ((HC.out (by omega)).below hb1)
    have hofc := LOf_in w1 (HT.out.below hB0 hb01) (by omega) n m n1 n2 m1 m2 A B ca cb la lb l k hla hlb (fun h => (HA.out h).below hb1) (fun h => (HB.out h).below hb1) hma hmb
    have HO := Lib.hid hofc
    clear hofc HA HB HC f0 hb0 hb1
    go_wp2_with fail
    refine HO.out.mono ?_
    rintro e w2 ⟨hb2, h⟩
    have hs2 := hb2.size
    have hb02 := hb01.trans (hb2.mono (by omega))
    have HC2 := Lib.hid (HC1.out.below hb2)
    clear HO HC1 r0 r1 r2 r3 hb2 hb01
    rcases h with ⟨p, p', x, s, k1, c1, y, s', k2, c2, rfl⟩ | ⟨b1, b2, n1, n2, g1, g2, c1, c2, R1, R2, rfl, h1, h2, hL, hl1, hl2⟩
    · have HB := Lib.hid ((hb02.alloc (by omega) (.cells #[.pointer p, .pointer p'] 47)).alloc (by simp; omega) (.cells #[.int .i64 x, .slice s k1 c1, .int .i64 y, .slice s' k2 c2] 49))
      clear hb02
      go_wp2_with fail
      go_ret
      exact ⟨rfl, HB.out⟩
    · have hbA := ((Below.refl w2.heap.size w2).alloc (by omega) (.cells #[.pointer (some ⟨b1, 0, none⟩), .pointer (some ⟨b2, 0, none⟩)] 47)).alloc (by simp) (.cells #[.int .i64 n1, .slice (some ⟨g1, 0, none⟩) n1 c1, .int .i64 n2, .slice (some ⟨g2, 0, none⟩) n2 c2] 49)
      have u0 : ((w2.alloc (.cells #[.pointer (some ⟨b1, 0, none⟩), .pointer (some ⟨b2, 0, none⟩)] 47)).alloc (.cells #[.int .i64 n1, .slice (some ⟨g1, 0, none⟩) n1 c1, .int .i64 n2, .slice (some ⟨g2, 0, none⟩) n2 c2] 49)).heap[w2.heap.size]? = some (.cells #[.pointer (some ⟨b1, 0, none⟩), .pointer (some ⟨b2, 0, none⟩)] 47) := by
        rw [Below.heap_alloc _ _ _ (by simp)]; exact last _ _
      have u1 : ((w2.alloc (.cells #[.pointer (some ⟨b1, 0, none⟩), .pointer (some ⟨b2, 0, none⟩)] 47)).alloc (.cells #[.int .i64 n1, .slice (some ⟨g1, 0, none⟩) n1 c1, .int .i64 n2, .slice (some ⟨g2, 0, none⟩) n2 c2] 49)).heap[w2.heap.size + 1]? = some (.cells #[.int .i64 n1, .slice (some ⟨g1, 0, none⟩) n1 c1, .int .i64 n2, .slice (some ⟨g2, 0, none⟩) n2 c2] 49) := by
        have := last (w2.alloc (.cells #[.pointer (some ⟨b1, 0, none⟩), .pointer (some ⟨b2, 0, none⟩)] 47)) (.cells #[.int .i64 n1, .slice (some ⟨g1, 0, none⟩) n1 c1, .int .i64 n2, .slice (some ⟨g2, 0, none⟩) n2 c2] 49)
        simpa using this
      have hs3 : ((w2.alloc (.cells #[.pointer (some ⟨b1, 0, none⟩), .pointer (some ⟨b2, 0, none⟩)] 47)).alloc (.cells #[.int .i64 n1, .slice (some ⟨g1, 0, none⟩) n1 c1, .int .i64 n2, .slice (some ⟨g2, 0, none⟩) n2 c2] 49)).heap.size = w2.heap.size + 2 := by simp
      have HL0 := Lib.hid (hL.below hbA)
      have HC3 := Lib.hid (HC2.out.below hbA)
      have HB := Lib.hid (hb02.trans (hbA.mono (by omega)))
      have HN := Lib.hid (And.intro hl1 hl2)
      clear hL hb02 hbA HC2 hl1 hl2
      unfold latV refV
      go_wp2_with fail
      generalize (w2.alloc (.cells #[.pointer (some ⟨b1, 0, none⟩), .pointer (some ⟨b2, 0, none⟩)] 47)).alloc (.cells #[.int .i64 n1, .slice (some ⟨g1, 0, none⟩) n1 c1, .int .i64 n2, .slice (some ⟨g2, 0, none⟩) n2 c2] 49) = W0 at *
      generalize w2.heap.size = Y at *
      clear HT
      have hbz := Below.refl W0.heap.size W0
      have hC0 := HC3.out
      go_loopw [10, 36] (fun rt i wr => ∃ j : Nat, i = .int .i64 j ∧ j ≤ len ∧ rt = .bool ((q.take j).all (labRight n1 n2)) ∧ Below W0.heap.size W0 wr) (fun _ i _ => ((len : Int) - intOf i).toNat)
      case atStart => exact ⟨0, rfl, by omega, by simp, hbz⟩
      case round =>
        obtain ⟨j, rfl, hj, rfl, hbr⟩ := hrel
        have v0 := (hbr.block _ (by omega)).trans u0
        have v1' := (hbr.block _ (by omega)).trans u1
        have hsr := hbr.size
        by_cases hjl : j < len
        · rcases hC0.below hbr with h0 | ⟨pb, off, hA, hc⟩
          · rw [h0] at hq; simp at hq; omega
          obtain ⟨c, d, hcd⟩ : ∃ c d, q.getD j (0, 0) = (c, d) := ⟨_, _, rfl⟩
          obtain ⟨p0, p1⟩ := hc j (by omega)
          have hall : (q.take (j + 1)).all (labRight n1 n2) = ((q.take j).all (labRight n1 n2) && labRight n1 n2 (c, d)) := by rw [getD_take (by omega), hcd]; simp
          rw [hcd] at p0 p1
          subst hA
          clear hc
          obtain ⟨rt, hrt⟩ : ∃ v, (q.take j).all (labRight n1 n2) = v := ⟨_, rfl⟩
          obtain ⟨rv, hrv⟩ : ∃ v, labRight n1 n2 (c, d) = v := ⟨_, rfl⟩
          have hrv2 := (labBelow_self HN.out.1 HN.out.2 (c, d)).trans hrv
          rw [hrt, hrv] at hall
          rw [hrt]
          have HV := Lib.hid (And.intro hrv (And.intro hrv2 (And.intro hall hcd)))
          clear hrt hrv hrv2 hall hcd
          have hji : (j : Int) < len := by omega
          go_wp2_with fail
          have m3 := last wr (.cells #[.int .i64 c, .int .i64 d] 53)
          have hbY := hbr.alloc (by omega) (.cells #[.int .i64 c, .int .i64 d] 53)
          have m0 := (Below.heap_alloc wr (.cells #[.int .i64 c, .int .i64 d] 53) Y (by omega)).trans v0
          have m1' := (Below.heap_alloc wr (.cells #[.int .i64 c, .int .i64 d] 53) (Y + 1) (by omega)).trans v1'
          have hsY : (wr.alloc (.cells #[.int .i64 c, .int .i64 d] 53)).heap.size = wr.heap.size + 1 := by simp
          generalize wr.alloc (.cells #[.int .i64 c, .int .i64 d] 53) = W5 at *
          generalize wr.heap.size = Z at *
          have HL5 := Lib.hid (HL0.out.below hbY)
          have he : ∀ w', Below W5.heap.size W5 w' → (w'.cell? ⟨Y, 0, none⟩ = some (.pointer (some ⟨b1, 0, none⟩)) ∧ w'.cell? ⟨Y, 1, none⟩ = some (.pointer (some ⟨b2, 0, none⟩))) ∧ (w'.cell? ⟨Y + 1, 0, none⟩ = some (.int .i64 n1) ∧ w'.cell? ⟨Y + 1, 1, none⟩ = some (.slice (some ⟨g1, 0, none⟩) n1 c1) ∧ w'.cell? ⟨Y + 1, 2, none⟩ = some (.int .i64 n2) ∧ w'.cell? ⟨Y + 1, 3, none⟩ = some (.slice (some ⟨g2, 0, none⟩) n2 c2)) ∧ (w'.cell? ⟨Z, 0, none⟩ = some (.int .i64 c) ∧ w'.cell? ⟨Z, 1, none⟩ = some (.int .i64 d)) := by
            intro w' hbx
            obtain ⟨x0, x1⟩ := cellsOf2 ((hbx.block _ (by omega)).trans m0)
            obtain ⟨x4, x5⟩ := cellsOf2 ((hbx.block _ (by omega)).trans m3)
            exact ⟨⟨x0, x1⟩, cellsOf4 ((hbx.block _ (by omega)).trans m1'), ⟨x4, x5⟩⟩
          obtain ⟨⟨e0, e1⟩, ⟨e2, e3, e4, e5⟩, e6, e7⟩ := he W5 (Below.refl _ _)
          have HE := Lib.hid he
          have HM := Lib.hid (And.intro m0 (And.intro m1' m3))
          clear he m0 m1' m3 v0 v1' p0 p1
          have hbr5 := (Below.refl W5.heap.size W5).drew
          go_region_held3 (fun w' => (w'.cell? ⟨Y, 0, none⟩ = some (.pointer (some ⟨b1, 0, none⟩)) ∧ w'.cell? ⟨Y, 1, none⟩ = some (.pointer (some ⟨b2, 0, none⟩))) ∧ (w'.cell? ⟨Y + 1, 0, none⟩ = some (.int .i64 n1) ∧ w'.cell? ⟨Y + 1, 1, none⟩ = some (.slice (some ⟨g1, 0, none⟩) n1 c1) ∧ w'.cell? ⟨Y + 1, 2, none⟩ = some (.int .i64 n2) ∧ w'.cell? ⟨Y + 1, 3, none⟩ = some (.slice (some ⟨g2, 0, none⟩) n2 c2)) ∧ (w'.cell? ⟨Z, 0, none⟩ = some (.int .i64 c) ∧ w'.cell? ⟨Z, 1, none⟩ = some (.int .i64 d))) (first | exact ⟨⟨by assumption, by assumption⟩, ⟨by assumption, by assumption, by assumption, by assumption⟩, ⟨by assumption, by assumption⟩⟩)
            (first
              | (go_at_call 21; refine (lRight_B h1 h2 HL5.out (by assumption) (c, d) HV.out.2.1).mono ?_; rintro e w' ⟨rfl, hbx⟩; obtain ⟨⟨e0, e1⟩, ⟨e2, e3, e4, e5⟩, e6, e7⟩ := HE.out w' hbx)
              | (go_at_call 22; refine (rRight_B (by assumption) n1 g1 c1 n2 g2 c2 (c, d) HV.out.1).mono ?_; rintro e w' ⟨rfl, hbx⟩; obtain ⟨⟨e0, e1⟩, ⟨e2, e3, e4, e5⟩, e6, e7⟩ := HE.out w' hbx))
          cases rt
          · go_wp2_with fail
            go_loopw [55] (fun i wr => ∃ z : Nat, i = .int .i64 z ∧ z ≤ len ∧ Below W5.heap.size W5 wr) (fun i _ => ((len : Int) - intOf i).toNat)
            case atStart => exact ⟨0, rfl, by omega, by assumption⟩
            case round =>
              obtain ⟨z, rfl, hz, hbs⟩ := hrel
              obtain ⟨⟨e0, e1⟩, ⟨e2, e3, e4, e5⟩, e6, e7⟩ := HE.out _ hbs
              have hss := hbs.size
              have hb0s := hbY.trans (hbs.mono (show W0.heap.size ≤ W5.heap.size by omega))
              by_cases hzl : z < len
              · rcases hC0.below hb0s with h0 | ⟨pb', off', hA', hc⟩
                · rw [h0] at hq; simp at hq; omega
                cases hA'
                obtain ⟨c', d', hcd'⟩ : ∃ c d, q.getD z (0, 0) = (c, d) := ⟨_, _, rfl⟩
                obtain ⟨p0, p1⟩ := hc z (by omega)
                rw [hcd'] at p0 p1
                clear hc hcd'
                obtain ⟨bv, hbv⟩ : ∃ v, labBelow n1 n2 R1 R2 (c, d) (c', d') = v := ⟨_, rfl⟩
                have HBV := Lib.hid hbv; clear hbv
                have hzi : (z : Int) < len := by omega
                go_wp2_with fail
                have s3 := last wr (.cells #[.int .i64 c', .int .i64 d'] 53)
                have hbT := hbs.alloc (by omega) (.cells #[.int .i64 c', .int .i64 d'] 53)
                have s0 := (Below.heap_alloc wr (.cells #[.int .i64 c', .int .i64 d'] 53) Y (by omega)).trans ((hbs.block _ (by omega)).trans HM.out.1)
                have s1 := (Below.heap_alloc wr (.cells #[.int .i64 c', .int .i64 d'] 53) (Y + 1) (by omega)).trans ((hbs.block _ (by omega)).trans HM.out.2.1)
                have s2 := (Below.heap_alloc wr (.cells #[.int .i64 c', .int .i64 d'] 53) Z (by omega)).trans ((hbs.block _ (by omega)).trans HM.out.2.2)
                have hsT : (wr.alloc (.cells #[.int .i64 c', .int .i64 d'] 53)).heap.size = wr.heap.size + 1 := by simp
                generalize wr.alloc (.cells #[.int .i64 c', .int .i64 d'] 53) = W7 at *
                generalize wr.heap.size = V at *
                have HL7 := Lib.hid (HL5.out.below hbT)
                have he7 : ∀ w', Below W7.heap.size W7 w' → (w'.cell? ⟨Y, 0, none⟩ = some (.pointer (some ⟨b1, 0, none⟩)) ∧ w'.cell? ⟨Y, 1, none⟩ = some (.pointer (some ⟨b2, 0, none⟩))) ∧ (w'.cell? ⟨Y + 1, 0, none⟩ = some (.int .i64 n1) ∧ w'.cell? ⟨Y + 1, 1, none⟩ = some (.slice (some ⟨g1, 0, none⟩) n1 c1) ∧ w'.cell? ⟨Y + 1, 2, none⟩ = some (.int .i64 n2) ∧ w'.cell? ⟨Y + 1, 3, none⟩ = some (.slice (some ⟨g2, 0, none⟩) n2 c2)) ∧ (w'.cell? ⟨Z, 0, none⟩ = some (.int .i64 c) ∧ w'.cell? ⟨Z, 1, none⟩ = some (.int .i64 d)) ∧ (w'.cell? ⟨V, 0, none⟩ = some (.int .i64 c') ∧ w'.cell? ⟨V, 1, none⟩ = some (.int .i64 d')) := by
                  intro w' hbx
                  obtain ⟨x4, x5⟩ := cellsOf2 ((hbx.block _ (by omega)).trans s2)
                  exact ⟨cellsOf2 ((hbx.block _ (by omega)).trans s0), cellsOf4 ((hbx.block _ (by omega)).trans s1), ⟨x4, x5⟩, cellsOf2 ((hbx.block _ (by omega)).trans s3)⟩
                obtain ⟨⟨e0, e1⟩, ⟨e2, e3, e4, e5⟩, ⟨e6, e7⟩, e8, e9⟩ := he7 W7 (Below.refl _ _)
                have HE7 := Lib.hid he7
                clear he7 s0 s1 s2 s3 p0 p1
                have hbr7 := (Below.refl W7.heap.size W7).drew
                go_region_held3 (fun w' => (w'.cell? ⟨Y, 0, none⟩ = some (.pointer (some ⟨b1, 0, none⟩)) ∧ w'.cell? ⟨Y, 1, none⟩ = some (.pointer (some ⟨b2, 0, none⟩))) ∧ (w'.cell? ⟨Y + 1, 0, none⟩ = some (.int .i64 n1) ∧ w'.cell? ⟨Y + 1, 1, none⟩ = some (.slice (some ⟨g1, 0, none⟩) n1 c1) ∧ w'.cell? ⟨Y + 1, 2, none⟩ = some (.int .i64 n2) ∧ w'.cell? ⟨Y + 1, 3, none⟩ = some (.slice (some ⟨g2, 0, none⟩) n2 c2)) ∧ (w'.cell? ⟨Z, 0, none⟩ = some (.int .i64 c) ∧ w'.cell? ⟨Z, 1, none⟩ = some (.int .i64 d)) ∧ (w'.cell? ⟨V, 0, none⟩ = some (.int .i64 c') ∧ w'.cell? ⟨V, 1, none⟩ = some (.int .i64 d'))) (first | exact ⟨⟨by assumption, by assumption⟩, ⟨by assumption, by assumption, by assumption, by assumption⟩, ⟨by assumption, by assumption⟩, ⟨by assumption, by assumption⟩⟩)
                  (first
                    | (go_at_call 23; refine (lBelow_B h1 h2 HL7.out (by assumption) (c, d) (c', d') HBV.out).mono ?_; rintro e w' ⟨rfl, hbx⟩; obtain ⟨⟨e0, e1⟩, ⟨e2, e3, e4, e5⟩, ⟨e6, e7⟩, e8, e9⟩ := HE7.out w' hbx)
                    | (go_at_call 24; refine (rBelow_B HL7.out (by assumption) c1 c2 (c, d) (c', d') HBV.out).mono ?_; rintro e w' ⟨rfl, hbx⟩; obtain ⟨⟨e0, e1⟩, ⟨e2, e3, e4, e5⟩, ⟨e6, e7⟩, e8, e9⟩ := HE7.out w' hbx))
                go_wp2_with fail
                go_roundw
                case rel => exact ⟨z + 1, by simp, by omega, hbT.trans (hbx.mono (show W5.heap.size ≤ W7.heap.size by omega))⟩
                case measure => simp [intOf]; omega
              · obtain rfl : z = len := by omega
                have hbr := hbs.drew
                by_cases hin : 0 ≤ t ∧ t < n2 ∧ 0 ≤ d ∧ d < n2
                · obtain ⟨t0, t1, d0, d1⟩ := hin
                  obtain ⟨t', rfl⟩ := Int.eq_ofNat_of_zero_le t0
                  obtain ⟨d', rfl⟩ := Int.eq_ofNat_of_zero_le d0
                  have t2 : t' < n2 := by omega
                  have d2 : d' < n2 := by omega
                  obtain ⟨bv, hbv⟩ : ∃ v, R2 t' d' = v := ⟨_, rfl⟩
                  have hbv2 : OrdP.belowI n2 R2 t' d' = bv := by rw [OrdP.belowI_nat t2 d2, hbv]
                  obtain ⟨S2, ⟨row, a1, a2⟩, a3⟩ := HL5.out.r2
                  have y1 := a1 t' t2
                  have y2 := a2 t' d' t2 d2
                  rw [a3 t' d' t2 d2, hbv] at y2
                  have i1 := (hbs.cell (p := ⟨g2, t', none⟩) (cell_lt y1)).trans y1
                  have i2 := (hbs.cell (p := ⟨row t', d', none⟩) (cell_lt y2)).trans y2
                  have HY := Lib.hid (And.intro y1 (And.intro y2 hbv2))
                  clear a1 a2 a3 hbv hbv2 y1 y2
                  go_wp2_with fail
                  go_region_held3 (fun w' => (w'.cell? ⟨Y, 0, none⟩ = some (.pointer (some ⟨b1, 0, none⟩)) ∧ w'.cell? ⟨Y, 1, none⟩ = some (.pointer (some ⟨b2, 0, none⟩))) ∧ (w'.cell? ⟨Y + 1, 0, none⟩ = some (.int .i64 n1) ∧ w'.cell? ⟨Y + 1, 1, none⟩ = some (.slice (some ⟨g1, 0, none⟩) n1 c1) ∧ w'.cell? ⟨Y + 1, 2, none⟩ = some (.int .i64 n2) ∧ w'.cell? ⟨Y + 1, 3, none⟩ = some (.slice (some ⟨g2, 0, none⟩) n2 c2)) ∧ (w'.cell? ⟨Z, 0, none⟩ = some (.int .i64 c) ∧ w'.cell? ⟨Z, 1, none⟩ = some (.int .i64 d')) ∧ (w'.cell? ⟨g2, t', none⟩ = some (.slice (some ⟨row t', 0, none⟩) n2 n2) ∧ w'.cell? ⟨row t', d', none⟩ = some (.bool bv))) (first | exact ⟨⟨by assumption, by assumption⟩, ⟨by assumption, by assumption, by assumption, by assumption⟩, ⟨by assumption, by assumption⟩, ⟨by assumption, by assumption⟩⟩)
                    (first
                      | (go_at_call 25; refine (lTrusted_B h2 HL5.out (by assumption) (c, d') t' HY.out.2.2).mono ?_; rintro e w' ⟨rfl, hbx⟩; obtain ⟨⟨e0, e1⟩, ⟨e2, e3, e4, e5⟩, e6, e7⟩ := HE.out w' hbx; have i1 := (hbx.cell (p := ⟨g2, t', none⟩) (cell_lt HY.out.1)).trans HY.out.1; have i2 := (hbx.cell (p := ⟨row t', d', none⟩) (cell_lt HY.out.2.1)).trans HY.out.2.1))
                  go_wp2_with fail
                  go_roundw
                  case rel => exact ⟨j + 1, by simp, by omega, by rw [HV.out.2.2.1]; simp, hbY.trans (hbx.mono (show W0.heap.size ≤ W5.heap.size by omega))⟩
                  case measure => simp [intOf]; omega
                · have hid' : OrdP.belowI n2 R2 t d = false := by
                    unfold OrdP.belowI OrdP.inB
                    have h5 : (decide (0 ≤ t) && decide (t < (n2 : Int)) && (decide (0 ≤ d) && decide (d < (n2 : Int)))) = false := by
                      rw [Bool.eq_false_iff]; intro h; simp only [Bool.and_eq_true, decide_eq_true_eq] at h; exact hin ⟨h.1.1, h.1.2, h.2.1, h.2.2⟩
                    rw [h5]; rfl
                  have HY := Lib.hid hid'; clear hid'
                  have hcase : t < 0 ∨ (0 ≤ t ∧ (n2 : Int) ≤ t) ∨ (0 ≤ t ∧ t < n2 ∧ d < 0) ∨ (0 ≤ t ∧ t < n2 ∧ 0 ≤ d ∧ (n2 : Int) ≤ d) := by omega
                  clear hin
                  rcases hcase with k1 | ⟨k1, k2⟩ | ⟨k1, k2, k3⟩ | ⟨k1, k2, k3, k4⟩
                  all_goals
                    try (have k5 : decide (d < (n2 : Int)) = false := decide_eq_false (by omega))
                    try (have k5 : decide (t < (n2 : Int)) = false := decide_eq_false (by omega))
                    go_wp2_with fail
                    refine Last.start_ (S := fun w' => (w'.cell? ⟨Y, 0, none⟩ = some (.pointer (some ⟨b1, 0, none⟩)) ∧ w'.cell? ⟨Y, 1, none⟩ = some (.pointer (some ⟨b2, 0, none⟩))) ∧ (w'.cell? ⟨Z, 0, none⟩ = some (.int .i64 c) ∧ w'.cell? ⟨Z, 1, none⟩ = some (.int .i64 d))) (ds := []) #[false, false, false, false, false, false, false, false, false, false, false, false, false, false, false, false, false, false, false] (by kernel_rfl) rfl rfl ⟨⟨by assumption, by assumption⟩, ⟨by assumption, by assumption⟩⟩ (fun hS => ?_)
                    refine Last.pure_ (i := 2) (N := some 93) #[false, false, true, false, false, false, false, false, false, false, false, false, false, false, false, false, false, false, false] rfl rfl (by kernel_rfl) (by exact fun _ _ _ h => h) (Or.inl ⟨by rfl, by (intro w; go_simp; try with_reducible rfl)⟩) rfl ?_
                    simp only [Act.put, List.setIfInBounds_toArray, List.set_cons_zero, List.set_cons_succ]
                    refine Last.pure_ (i := 4) (N := some 95) #[false, false, true, false, true, false, false, false, false, false, false, false, false, false, false, false, false, false, false] rfl rfl (by kernel_rfl) (by exact fun _ _ _ h => h) (Or.inl ⟨by rfl, by (intro w; go_simp; try with_reducible rfl)⟩) rfl ?_
                    simp only [Act.put, List.setIfInBounds_toArray, List.set_cons_zero, List.set_cons_succ]
                    refine Last.take_ (i := 0) (N := some 91) #[true, false, true, false, true, false, false, false, false, false, false, false, false, false, false, false, false, false, false] rfl rfl (by kernel_rfl) (by exact fun _ _ _ h => h) (Or.inl ⟨by rfl, by (intro w hSw; obtain ⟨⟨s0, s1⟩, s2, s3⟩ := hSw; go_simp; try with_reducible rfl)⟩) hS rfl ?_
                    simp only [Act.put, List.setIfInBounds_toArray, List.set_cons_zero, List.set_cons_succ]
                    refine Last.take_ (i := 1) (N := some 92) #[true, true, true, false, true, false, false, false, false, false, false, false, false, false, false, false, false, false, false] rfl rfl (by kernel_rfl) (by exact fun _ _ _ h => h) (Or.inl ⟨by rfl, by (intro w hSw; obtain ⟨⟨s0, s1⟩, s2, s3⟩ := hSw; go_simp; try with_reducible rfl)⟩) hS rfl ?_
                    simp only [Act.put, List.setIfInBounds_toArray, List.set_cons_zero, List.set_cons_succ]
                    refine Last.one_ (i := 3) (N := some 94) #[true, true, true, true, true, false, false, false, false, false, false, false, false, false, false, false, false, false, false] rfl rfl (by kernel_rfl) (by decide) (fun K hK => ?_)
                    refine Last.goes_ («as» := #[.tmp 91, .tmp 92, .tmp 93]) (ts := #[47, 53, 3]) Tryd.func25 (by kernel_rfl) rfl #[latV b1 b2, labV (c, d), .int .i64 t] (by rfl) rfl rfl (by simp [Act.eval, latV, labV]) ?_
                    refine (lTrusted_B h2 HL5.out (by assumption) (c, d) t HY.out).mono ?_
                    rintro e w' ⟨rfl, hbx⟩
                    obtain ⟨⟨e0, e1⟩, ⟨e2, e3, e4, e5⟩, e6, e7⟩ := HE.out w' hbx
                    refine ⟨_, rfl, hK.out _ _ ⟨⟨e0, e1⟩, e6, e7⟩ (fun hS => ?_)⟩
                    simp only [Act.put, List.setIfInBounds_toArray, List.set_cons_zero, List.set_cons_succ]
                    refine Last.pure_ (i := 5) (N := some 96) #[true, true, true, true, true, true, false, false, false, false, false, false, false, false, false, false, false, false, false] rfl rfl (by kernel_rfl) (by exact fun _ _ _ h => h) (Or.inl ⟨by rfl, by (intro w; go_simp; try with_reducible rfl)⟩) rfl ?_
                    simp only [Act.put, List.setIfInBounds_toArray, List.set_cons_zero, List.set_cons_succ]
                    refine Last.pure_ (i := 6) (N := some 97) #[true, true, true, true, true, true, true, false, false, false, false, false, false, false, false, false, false, false, false] rfl rfl (by kernel_rfl) (by exact fun _ _ _ h => h) (Or.inr ⟨by rfl, by rfl⟩) rfl ?_
                    simp only [Act.put, List.setIfInBounds_toArray, List.set_cons_zero, List.set_cons_succ]
                    refine Last.pure_ (i := 7) (N := some 98) #[true, true, true, true, true, true, true, true, false, false, false, false, false, false, false, false, false, false, false] rfl rfl (by kernel_rfl) (by exact fun _ _ _ h => h) (Or.inr ⟨by rfl, by rfl⟩) rfl ?_
                    simp only [Act.put, List.setIfInBounds_toArray, List.set_cons_zero, List.set_cons_succ]
                    refine Last.pure_ (i := 8) (N := some 99) #[true, true, true, true, true, true, true, true, true, false, false, false, false, false, false, false, false, false, false] rfl rfl (by kernel_rfl) (by exact fun _ _ _ h => h) (Or.inr ⟨by rfl, by rfl⟩) rfl ?_
                    simp only [Act.put, List.setIfInBounds_toArray, List.set_cons_zero, List.set_cons_succ]
                    refine Last.pure_ (i := 9) (N := some 100) #[true, true, true, true, true, true, true, true, true, true, false, false, false, false, false, false, false, false, false] rfl rfl (by kernel_rfl) (by exact fun _ _ _ h => h) (Or.inr ⟨by rfl, by rfl⟩) rfl ?_
                    simp only [Act.put, List.setIfInBounds_toArray, List.set_cons_zero, List.set_cons_succ]
                    refine Last.pure_ (i := 10) (N := some 101) #[true, true, true, true, true, true, true, true, true, true, true, false, false, false, false, false, false, false, false] rfl rfl (by kernel_rfl) (by exact fun _ _ _ h => h) (Or.inr ⟨by rfl, by rfl⟩) rfl ?_
                    simp only [Act.put, List.setIfInBounds_toArray, List.set_cons_zero, List.set_cons_succ]
                    refine Last.pure_ (i := 11) (N := some 102) #[true, true, true, true, true, true, true, true, true, true, true, true, false, false, false, false, false, false, false] rfl rfl (by kernel_rfl) (by exact fun _ _ _ h => h) (Or.inr ⟨by rfl, by rfl⟩) rfl ?_
                    simp only [Act.put, List.setIfInBounds_toArray, List.set_cons_zero, List.set_cons_succ]
                    refine Last.pure_ (i := 12) (N := some 103) #[true, true, true, true, true, true, true, true, true, true, true, true, true, false, false, false, false, false, false] rfl rfl (by kernel_rfl) (by exact fun _ _ _ h => h) (Or.inr ⟨by rfl, by rfl⟩) rfl ?_
                    simp only [Act.put, List.setIfInBounds_toArray, List.set_cons_zero, List.set_cons_succ]
                    refine Last.pure_ (i := 13) (N := some 104) #[true, true, true, true, true, true, true, true, true, true, true, true, true, true, false, false, false, false, false] rfl rfl (by kernel_rfl) (by exact fun _ _ _ h => h) (Or.inr ⟨by rfl, by rfl⟩) rfl ?_
                    simp only [Act.put, List.setIfInBounds_toArray, List.set_cons_zero, List.set_cons_succ]
                    refine Last.pure_ (i := 14) (N := some 105) #[true, true, true, true, true, true, true, true, true, true, true, true, true, true, true, false, false, false, false] rfl rfl (by kernel_rfl) (by exact fun _ _ _ h => h) (Or.inr ⟨by rfl, by rfl⟩) rfl ?_
                    simp only [Act.put, List.setIfInBounds_toArray, List.set_cons_zero, List.set_cons_succ]
                    refine Last.pure_ (i := 15) (N := some 106) #[true, true, true, true, true, true, true, true, true, true, true, true, true, true, true, true, false, false, false] rfl rfl (by kernel_rfl) (by exact fun _ _ _ h => h) (Or.inr ⟨by rfl, by rfl⟩) rfl ?_
                    simp only [Act.put, List.setIfInBounds_toArray, List.set_cons_zero, List.set_cons_succ]
                    refine Last.pure_ (i := 16) (N := some 107) #[true, true, true, true, true, true, true, true, true, true, true, true, true, true, true, true, true, false, false] rfl rfl (by kernel_rfl) (by exact fun _ _ _ h => h) (Or.inl ⟨by rfl, by (intro w; go_simp; try with_reducible rfl)⟩) rfl ?_
                    simp only [Act.put, List.setIfInBounds_toArray, List.set_cons_zero, List.set_cons_succ]
                    refine Last.pure_ (i := 17) (N := some 108) #[true, true, true, true, true, true, true, true, true, true, true, true, true, true, true, true, true, true, false] rfl rfl (by kernel_rfl) (by exact fun _ _ _ h => h) (Or.inl ⟨by rfl, by (intro w; go_simp; try with_reducible rfl)⟩) rfl ?_
                    simp only [Act.put, List.setIfInBounds_toArray, List.set_cons_zero, List.set_cons_succ]
                    refine Last.pure_ (i := 18) (N := some 109) #[true, true, true, true, true, true, true, true, true, true, true, true, true, true, true, true, true, true, true] rfl rfl (by kernel_rfl) (by exact fun _ _ _ h => h) (Or.inl ⟨by rfl, by (intro w; go_simp; try with_reducible rfl)⟩) rfl ?_
                    simp only [Act.put, List.setIfInBounds_toArray, List.set_cons_zero, List.set_cons_succ]
                    refine Last.done_ (by kernel_rfl) ?_
                    go_wp2_with fail
                    go_roundw
                    case rel => exact ⟨j + 1, by simp, by omega, by rw [HV.out.2.2.1]; simp, hbY.trans (hbx.mono (show W0.heap.size ≤ W5.heap.size by omega))⟩
                    case measure => simp [intOf]; omega
          · go_wp2_with fail
            refine (rRight_B (W0 := W5) (by assumption) n1 g1 c1 n2 g2 c2 (c, d) HV.out.1).mono ?_
            rintro e w' ⟨rfl, hbx⟩
            go_wp2_with fail
            go_loopw [55] (fun i wr => ∃ z : Nat, i = .int .i64 z ∧ z ≤ len ∧ Below W5.heap.size W5 wr) (fun i _ => ((len : Int) - intOf i).toNat)
            case atStart => exact ⟨0, rfl, by omega, by assumption⟩
            case round =>
              obtain ⟨z, rfl, hz, hbs⟩ := hrel
              obtain ⟨⟨e0, e1⟩, ⟨e2, e3, e4, e5⟩, e6, e7⟩ := HE.out _ hbs
              have hss := hbs.size
              have hb0s := hbY.trans (hbs.mono (show W0.heap.size ≤ W5.heap.size by omega))
              by_cases hzl : z < len
              · rcases hC0.below hb0s with h0 | ⟨pb', off', hA', hc⟩
                · rw [h0] at hq; simp at hq; omega
                cases hA'
                obtain ⟨c', d', hcd'⟩ : ∃ c d, q.getD z (0, 0) = (c, d) := ⟨_, _, rfl⟩
                obtain ⟨p0, p1⟩ := hc z (by omega)
                rw [hcd'] at p0 p1
                clear hc hcd'
                obtain ⟨bv, hbv⟩ : ∃ v, labBelow n1 n2 R1 R2 (c, d) (c', d') = v := ⟨_, rfl⟩
                have HBV := Lib.hid hbv; clear hbv
                have hzi : (z : Int) < len := by omega
                go_wp2_with fail
                have s3 := last wr (.cells #[.int .i64 c', .int .i64 d'] 53)
                have hbT := hbs.alloc (by omega) (.cells #[.int .i64 c', .int .i64 d'] 53)
                have s0 := (Below.heap_alloc wr (.cells #[.int .i64 c', .int .i64 d'] 53) Y (by omega)).trans ((hbs.block _ (by omega)).trans HM.out.1)
                have s1 := (Below.heap_alloc wr (.cells #[.int .i64 c', .int .i64 d'] 53) (Y + 1) (by omega)).trans ((hbs.block _ (by omega)).trans HM.out.2.1)
                have s2 := (Below.heap_alloc wr (.cells #[.int .i64 c', .int .i64 d'] 53) Z (by omega)).trans ((hbs.block _ (by omega)).trans HM.out.2.2)
                have hsT : (wr.alloc (.cells #[.int .i64 c', .int .i64 d'] 53)).heap.size = wr.heap.size + 1 := by simp
                generalize wr.alloc (.cells #[.int .i64 c', .int .i64 d'] 53) = W7 at *
                generalize wr.heap.size = V at *
                have HL7 := Lib.hid (HL5.out.below hbT)
                have he7 : ∀ w', Below W7.heap.size W7 w' → (w'.cell? ⟨Y, 0, none⟩ = some (.pointer (some ⟨b1, 0, none⟩)) ∧ w'.cell? ⟨Y, 1, none⟩ = some (.pointer (some ⟨b2, 0, none⟩))) ∧ (w'.cell? ⟨Y + 1, 0, none⟩ = some (.int .i64 n1) ∧ w'.cell? ⟨Y + 1, 1, none⟩ = some (.slice (some ⟨g1, 0, none⟩) n1 c1) ∧ w'.cell? ⟨Y + 1, 2, none⟩ = some (.int .i64 n2) ∧ w'.cell? ⟨Y + 1, 3, none⟩ = some (.slice (some ⟨g2, 0, none⟩) n2 c2)) ∧ (w'.cell? ⟨Z, 0, none⟩ = some (.int .i64 c) ∧ w'.cell? ⟨Z, 1, none⟩ = some (.int .i64 d)) ∧ (w'.cell? ⟨V, 0, none⟩ = some (.int .i64 c') ∧ w'.cell? ⟨V, 1, none⟩ = some (.int .i64 d')) := by
                  intro w' hbx
                  obtain ⟨x4, x5⟩ := cellsOf2 ((hbx.block _ (by omega)).trans s2)
                  exact ⟨cellsOf2 ((hbx.block _ (by omega)).trans s0), cellsOf4 ((hbx.block _ (by omega)).trans s1), ⟨x4, x5⟩, cellsOf2 ((hbx.block _ (by omega)).trans s3)⟩
                obtain ⟨⟨e0, e1⟩, ⟨e2, e3, e4, e5⟩, ⟨e6, e7⟩, e8, e9⟩ := he7 W7 (Below.refl _ _)
                have HE7 := Lib.hid he7
                clear he7 s0 s1 s2 s3 p0 p1
                have hbr7 := (Below.refl W7.heap.size W7).drew
                go_region_held3 (fun w' => (w'.cell? ⟨Y, 0, none⟩ = some (.pointer (some ⟨b1, 0, none⟩)) ∧ w'.cell? ⟨Y, 1, none⟩ = some (.pointer (some ⟨b2, 0, none⟩))) ∧ (w'.cell? ⟨Y + 1, 0, none⟩ = some (.int .i64 n1) ∧ w'.cell? ⟨Y + 1, 1, none⟩ = some (.slice (some ⟨g1, 0, none⟩) n1 c1) ∧ w'.cell? ⟨Y + 1, 2, none⟩ = some (.int .i64 n2) ∧ w'.cell? ⟨Y + 1, 3, none⟩ = some (.slice (some ⟨g2, 0, none⟩) n2 c2)) ∧ (w'.cell? ⟨Z, 0, none⟩ = some (.int .i64 c) ∧ w'.cell? ⟨Z, 1, none⟩ = some (.int .i64 d)) ∧ (w'.cell? ⟨V, 0, none⟩ = some (.int .i64 c') ∧ w'.cell? ⟨V, 1, none⟩ = some (.int .i64 d'))) (first | exact ⟨⟨by assumption, by assumption⟩, ⟨by assumption, by assumption, by assumption, by assumption⟩, ⟨by assumption, by assumption⟩, ⟨by assumption, by assumption⟩⟩)
                  (first
                    | (go_at_call 23; refine (lBelow_B h1 h2 HL7.out (by assumption) (c, d) (c', d') HBV.out).mono ?_; rintro e w' ⟨rfl, hbx⟩; obtain ⟨⟨e0, e1⟩, ⟨e2, e3, e4, e5⟩, ⟨e6, e7⟩, e8, e9⟩ := HE7.out w' hbx)
                    | (go_at_call 24; refine (rBelow_B HL7.out (by assumption) c1 c2 (c, d) (c', d') HBV.out).mono ?_; rintro e w' ⟨rfl, hbx⟩; obtain ⟨⟨e0, e1⟩, ⟨e2, e3, e4, e5⟩, ⟨e6, e7⟩, e8, e9⟩ := HE7.out w' hbx))
                go_wp2_with fail
                go_roundw
                case rel => exact ⟨z + 1, by simp, by omega, hbT.trans (hbx.mono (show W5.heap.size ≤ W7.heap.size by omega))⟩
                case measure => simp [intOf]; omega
              · obtain rfl : z = len := by omega
                have hbr := hbs.drew
                by_cases hin : 0 ≤ t ∧ t < n2 ∧ 0 ≤ d ∧ d < n2
                · obtain ⟨t0, t1, d0, d1⟩ := hin
                  obtain ⟨t', rfl⟩ := Int.eq_ofNat_of_zero_le t0
                  obtain ⟨d', rfl⟩ := Int.eq_ofNat_of_zero_le d0
                  have t2 : t' < n2 := by omega
                  have d2 : d' < n2 := by omega
                  obtain ⟨bv, hbv⟩ : ∃ v, R2 t' d' = v := ⟨_, rfl⟩
                  have hbv2 : OrdP.belowI n2 R2 t' d' = bv := by rw [OrdP.belowI_nat t2 d2, hbv]
                  obtain ⟨S2, ⟨row, a1, a2⟩, a3⟩ := HL5.out.r2
                  have y1 := a1 t' t2
                  have y2 := a2 t' d' t2 d2
                  rw [a3 t' d' t2 d2, hbv] at y2
                  have i1 := (hbs.cell (p := ⟨g2, t', none⟩) (cell_lt y1)).trans y1
                  have i2 := (hbs.cell (p := ⟨row t', d', none⟩) (cell_lt y2)).trans y2
                  have HY := Lib.hid (And.intro y1 (And.intro y2 hbv2))
                  clear a1 a2 a3 hbv hbv2 y1 y2
                  go_wp2_with fail
                  go_region_held3 (fun w' => (w'.cell? ⟨Y, 0, none⟩ = some (.pointer (some ⟨b1, 0, none⟩)) ∧ w'.cell? ⟨Y, 1, none⟩ = some (.pointer (some ⟨b2, 0, none⟩))) ∧ (w'.cell? ⟨Y + 1, 0, none⟩ = some (.int .i64 n1) ∧ w'.cell? ⟨Y + 1, 1, none⟩ = some (.slice (some ⟨g1, 0, none⟩) n1 c1) ∧ w'.cell? ⟨Y + 1, 2, none⟩ = some (.int .i64 n2) ∧ w'.cell? ⟨Y + 1, 3, none⟩ = some (.slice (some ⟨g2, 0, none⟩) n2 c2)) ∧ (w'.cell? ⟨Z, 0, none⟩ = some (.int .i64 c) ∧ w'.cell? ⟨Z, 1, none⟩ = some (.int .i64 d')) ∧ (w'.cell? ⟨g2, t', none⟩ = some (.slice (some ⟨row t', 0, none⟩) n2 n2) ∧ w'.cell? ⟨row t', d', none⟩ = some (.bool bv))) (first | exact ⟨⟨by assumption, by assumption⟩, ⟨by assumption, by assumption, by assumption, by assumption⟩, ⟨by assumption, by assumption⟩, ⟨by assumption, by assumption⟩⟩)
                    (first
                      | (go_at_call 25; refine (lTrusted_B h2 HL5.out (by assumption) (c, d') t' HY.out.2.2).mono ?_; rintro e w' ⟨rfl, hbx⟩; obtain ⟨⟨e0, e1⟩, ⟨e2, e3, e4, e5⟩, e6, e7⟩ := HE.out w' hbx; have i1 := (hbx.cell (p := ⟨g2, t', none⟩) (cell_lt HY.out.1)).trans HY.out.1; have i2 := (hbx.cell (p := ⟨row t', d', none⟩) (cell_lt HY.out.2.1)).trans HY.out.2.1))
                  go_wp2_with fail
                  go_roundw
                  case rel => exact ⟨j + 1, by simp, by omega, by rw [HV.out.2.2.1]; simp, hbY.trans (hbx.mono (show W0.heap.size ≤ W5.heap.size by omega))⟩
                  case measure => simp [intOf]; omega
                · have hid' : OrdP.belowI n2 R2 t d = false := by
                    unfold OrdP.belowI OrdP.inB
                    have h5 : (decide (0 ≤ t) && decide (t < (n2 : Int)) && (decide (0 ≤ d) && decide (d < (n2 : Int)))) = false := by
                      rw [Bool.eq_false_iff]; intro h; simp only [Bool.and_eq_true, decide_eq_true_eq] at h; exact hin ⟨h.1.1, h.1.2, h.2.1, h.2.2⟩
                    rw [h5]; rfl
                  have HY := Lib.hid hid'; clear hid'
                  have hcase : t < 0 ∨ (0 ≤ t ∧ (n2 : Int) ≤ t) ∨ (0 ≤ t ∧ t < n2 ∧ d < 0) ∨ (0 ≤ t ∧ t < n2 ∧ 0 ≤ d ∧ (n2 : Int) ≤ d) := by omega
                  clear hin
                  rcases hcase with k1 | ⟨k1, k2⟩ | ⟨k1, k2, k3⟩ | ⟨k1, k2, k3, k4⟩
                  all_goals
                    try (have k5 : decide (d < (n2 : Int)) = false := decide_eq_false (by omega))
                    try (have k5 : decide (t < (n2 : Int)) = false := decide_eq_false (by omega))
                    go_wp2_with fail
                    refine Last.start_ (S := fun w' => (w'.cell? ⟨Y, 0, none⟩ = some (.pointer (some ⟨b1, 0, none⟩)) ∧ w'.cell? ⟨Y, 1, none⟩ = some (.pointer (some ⟨b2, 0, none⟩))) ∧ (w'.cell? ⟨Z, 0, none⟩ = some (.int .i64 c) ∧ w'.cell? ⟨Z, 1, none⟩ = some (.int .i64 d))) (ds := []) #[false, false, false, false, false, false, false, false, false, false, false, false, false, false, false, false, false, false, false] (by kernel_rfl) rfl rfl ⟨⟨by assumption, by assumption⟩, ⟨by assumption, by assumption⟩⟩ (fun hS => ?_)
                    refine Last.pure_ (i := 2) (N := some 93) #[false, false, true, false, false, false, false, false, false, false, false, false, false, false, false, false, false, false, false] rfl rfl (by kernel_rfl) (by exact fun _ _ _ h => h) (Or.inl ⟨by rfl, by (intro w; go_simp; try with_reducible rfl)⟩) rfl ?_
                    simp only [Act.put, List.setIfInBounds_toArray, List.set_cons_zero, List.set_cons_succ]
                    refine Last.pure_ (i := 4) (N := some 95) #[false, false, true, false, true, false, false, false, false, false, false, false, false, false, false, false, false, false, false] rfl rfl (by kernel_rfl) (by exact fun _ _ _ h => h) (Or.inl ⟨by rfl, by (intro w; go_simp; try with_reducible rfl)⟩) rfl ?_
                    simp only [Act.put, List.setIfInBounds_toArray, List.set_cons_zero, List.set_cons_succ]
                    refine Last.take_ (i := 0) (N := some 91) #[true, false, true, false, true, false, false, false, false, false, false, false, false, false, false, false, false, false, false] rfl rfl (by kernel_rfl) (by exact fun _ _ _ h => h) (Or.inl ⟨by rfl, by (intro w hSw; obtain ⟨⟨s0, s1⟩, s2, s3⟩ := hSw; go_simp; try with_reducible rfl)⟩) hS rfl ?_
                    simp only [Act.put, List.setIfInBounds_toArray, List.set_cons_zero, List.set_cons_succ]
                    refine Last.take_ (i := 1) (N := some 92) #[true, true, true, false, true, false, false, false, false, false, false, false, false, false, false, false, false, false, false] rfl rfl (by kernel_rfl) (by exact fun _ _ _ h => h) (Or.inl ⟨by rfl, by (intro w hSw; obtain ⟨⟨s0, s1⟩, s2, s3⟩ := hSw; go_simp; try with_reducible rfl)⟩) hS rfl ?_
                    simp only [Act.put, List.setIfInBounds_toArray, List.set_cons_zero, List.set_cons_succ]
                    refine Last.one_ (i := 3) (N := some 94) #[true, true, true, true, true, false, false, false, false, false, false, false, false, false, false, false, false, false, false] rfl rfl (by kernel_rfl) (by decide) (fun K hK => ?_)
                    refine Last.goes_ («as» := #[.tmp 91, .tmp 92, .tmp 93]) (ts := #[47, 53, 3]) Tryd.func25 (by kernel_rfl) rfl #[latV b1 b2, labV (c, d), .int .i64 t] (by rfl) rfl rfl (by simp [Act.eval, latV, labV]) ?_
                    refine (lTrusted_B h2 HL5.out (by assumption) (c, d) t HY.out).mono ?_
                    rintro e w' ⟨rfl, hbx⟩
                    obtain ⟨⟨e0, e1⟩, ⟨e2, e3, e4, e5⟩, e6, e7⟩ := HE.out w' hbx
                    refine ⟨_, rfl, hK.out _ _ ⟨⟨e0, e1⟩, e6, e7⟩ (fun hS => ?_)⟩
                    simp only [Act.put, List.setIfInBounds_toArray, List.set_cons_zero, List.set_cons_succ]
                    refine Last.pure_ (i := 5) (N := some 96) #[true, true, true, true, true, true, false, false, false, false, false, false, false, false, false, false, false, false, false] rfl rfl (by kernel_rfl) (by exact fun _ _ _ h => h) (Or.inl ⟨by rfl, by (intro w; go_simp; try with_reducible rfl)⟩) rfl ?_
                    simp only [Act.put, List.setIfInBounds_toArray, List.set_cons_zero, List.set_cons_succ]
                    refine Last.pure_ (i := 6) (N := some 97) #[true, true, true, true, true, true, true, false, false, false, false, false, false, false, false, false, false, false, false] rfl rfl (by kernel_rfl) (by exact fun _ _ _ h => h) (Or.inr ⟨by rfl, by rfl⟩) rfl ?_
                    simp only [Act.put, List.setIfInBounds_toArray, List.set_cons_zero, List.set_cons_succ]
                    refine Last.pure_ (i := 7) (N := some 98) #[true, true, true, true, true, true, true, true, false, false, false, false, false, false, false, false, false, false, false] rfl rfl (by kernel_rfl) (by exact fun _ _ _ h => h) (Or.inr ⟨by rfl, by rfl⟩) rfl ?_
                    simp only [Act.put, List.setIfInBounds_toArray, List.set_cons_zero, List.set_cons_succ]
                    refine Last.pure_ (i := 8) (N := some 99) #[true, true, true, true, true, true, true, true, true, false, false, false, false, false, false, false, false, false, false] rfl rfl (by kernel_rfl) (by exact fun _ _ _ h => h) (Or.inr ⟨by rfl, by rfl⟩) rfl ?_
                    simp only [Act.put, List.setIfInBounds_toArray, List.set_cons_zero, List.set_cons_succ]
                    refine Last.pure_ (i := 9) (N := some 100) #[true, true, true, true, true, true, true, true, true, true, false, false, false, false, false, false, false, false, false] rfl rfl (by kernel_rfl) (by exact fun _ _ _ h => h) (Or.inr ⟨by rfl, by rfl⟩) rfl ?_
                    simp only [Act.put, List.setIfInBounds_toArray, List.set_cons_zero, List.set_cons_succ]
                    refine Last.pure_ (i := 10) (N := some 101) #[true, true, true, true, true, true, true, true, true, true, true, false, false, false, false, false, false, false, false] rfl rfl (by kernel_rfl) (by exact fun _ _ _ h => h) (Or.inr ⟨by rfl, by rfl⟩) rfl ?_
                    simp only [Act.put, List.setIfInBounds_toArray, List.set_cons_zero, List.set_cons_succ]
                    refine Last.pure_ (i := 11) (N := some 102) #[true, true, true, true, true, true, true, true, true, true, true, true, false, false, false, false, false, false, false] rfl rfl (by kernel_rfl) (by exact fun _ _ _ h => h) (Or.inr ⟨by rfl, by rfl⟩) rfl ?_
                    simp only [Act.put, List.setIfInBounds_toArray, List.set_cons_zero, List.set_cons_succ]
                    refine Last.pure_ (i := 12) (N := some 103) #[true, true, true, true, true, true, true, true, true, true, true, true, true, false, false, false, false, false, false] rfl rfl (by kernel_rfl) (by exact fun _ _ _ h => h) (Or.inr ⟨by rfl, by rfl⟩) rfl ?_
                    simp only [Act.put, List.setIfInBounds_toArray, List.set_cons_zero, List.set_cons_succ]
                    refine Last.pure_ (i := 13) (N := some 104) #[true, true, true, true, true, true, true, true, true, true, true, true, true, true, false, false, false, false, false] rfl rfl (by kernel_rfl) (by exact fun _ _ _ h => h) (Or.inr ⟨by rfl, by rfl⟩) rfl ?_
                    simp only [Act.put, List.setIfInBounds_toArray, List.set_cons_zero, List.set_cons_succ]
                    refine Last.pure_ (i := 14) (N := some 105) #[true, true, true, true, true, true, true, true, true, true, true, true, true, true, true, false, false, false, false] rfl rfl (by kernel_rfl) (by exact fun _ _ _ h => h) (Or.inr ⟨by rfl, by rfl⟩) rfl ?_
                    simp only [Act.put, List.setIfInBounds_toArray, List.set_cons_zero, List.set_cons_succ]
                    refine Last.pure_ (i := 15) (N := some 106) #[true, true, true, true, true, true, true, true, true, true, true, true, true, true, true, true, false, false, false] rfl rfl (by kernel_rfl) (by exact fun _ _ _ h => h) (Or.inr ⟨by rfl, by rfl⟩) rfl ?_
                    simp only [Act.put, List.setIfInBounds_toArray, List.set_cons_zero, List.set_cons_succ]
                    refine Last.pure_ (i := 16) (N := some 107) #[true, true, true, true, true, true, true, true, true, true, true, true, true, true, true, true, true, false, false] rfl rfl (by kernel_rfl) (by exact fun _ _ _ h => h) (Or.inl ⟨by rfl, by (intro w; go_simp; try with_reducible rfl)⟩) rfl ?_
                    simp only [Act.put, List.setIfInBounds_toArray, List.set_cons_zero, List.set_cons_succ]
                    refine Last.pure_ (i := 17) (N := some 108) #[true, true, true, true, true, true, true, true, true, true, true, true, true, true, true, true, true, true, false] rfl rfl (by kernel_rfl) (by exact fun _ _ _ h => h) (Or.inl ⟨by rfl, by (intro w; go_simp; try with_reducible rfl)⟩) rfl ?_
                    simp only [Act.put, List.setIfInBounds_toArray, List.set_cons_zero, List.set_cons_succ]
                    refine Last.pure_ (i := 18) (N := some 109) #[true, true, true, true, true, true, true, true, true, true, true, true, true, true, true, true, true, true, true] rfl rfl (by kernel_rfl) (by exact fun _ _ _ h => h) (Or.inl ⟨by rfl, by (intro w; go_simp; try with_reducible rfl)⟩) rfl ?_
                    simp only [Act.put, List.setIfInBounds_toArray, List.set_cons_zero, List.set_cons_succ]
                    refine Last.done_ (by kernel_rfl) ?_
                    go_wp2_with fail
                    go_roundw
                    case rel => exact ⟨j + 1, by simp, by omega, by rw [HV.out.2.2.1]; simp, hbY.trans (hbx.mono (show W0.heap.size ≤ W5.heap.size by omega))⟩
                    case measure => simp [intOf]; omega
        · have hjl' : j = len := by omega
          subst hjl'
          obtain ⟨rt, hrt⟩ : ∃ v, q.all (labRight n1 n2) = v := ⟨_, rfl⟩
          rw [show q.take j = q from by rw [← hq]; exact List.take_length, hrt]
          obtain ⟨v1, hv1⟩ : ∃ v, OrdP.bottom n1 R1 = v := ⟨_, rfl⟩
          obtain ⟨v2, hv2⟩ : ∃ v, OrdP.bottom n2 R2 = v := ⟨_, rfl⟩
          obtain ⟨t1, ht1⟩ : ∃ v, OrdP.top n1 R1 = v := ⟨_, rfl⟩
          obtain ⟨t2, ht2⟩ : ∃ v, OrdP.top n2 R2 = v := ⟨_, rfl⟩
          obtain ⟨z1, z2, hz⟩ : ∃ z1 z2, labFold n1 n2 R1 R2 q = (z1, z2) := ⟨_, _, rfl⟩
          have HV := Lib.hid (And.intro hv1 (And.intro hv2 (And.intro ht1 (And.intro ht2 (And.intro hrt (And.intro hz hq))))))
          have hj20 : j ≤ 20 := by omega
          clear hv1 hv2 ht1 ht2 hrt hz hq hjl hl hj
          have HL6 := Lib.hid (HL0.out.below hbr)
          have he6 : ∀ w', Below wr.heap.size wr w' → (w'.cell? ⟨Y, 0, none⟩ = some (.pointer (some ⟨b1, 0, none⟩)) ∧ w'.cell? ⟨Y, 1, none⟩ = some (.pointer (some ⟨b2, 0, none⟩))) ∧ (w'.cell? ⟨Y + 1, 0, none⟩ = some (.int .i64 n1) ∧ w'.cell? ⟨Y + 1, 1, none⟩ = some (.slice (some ⟨g1, 0, none⟩) n1 c1) ∧ w'.cell? ⟨Y + 1, 2, none⟩ = some (.int .i64 n2) ∧ w'.cell? ⟨Y + 1, 3, none⟩ = some (.slice (some ⟨g2, 0, none⟩) n2 c2)) := fun w' hbx => ⟨cellsOf2 ((hbx.block _ (by omega)).trans v0), cellsOf4 ((hbx.block _ (by omega)).trans v1')⟩
          obtain ⟨⟨e0, e1⟩, ⟨e2, e3, e4, e5⟩⟩ := he6 wr (Below.refl _ _)
          have HE6 := Lib.hid he6; clear he6
          go_wp2_with fail
          have hbr6 := (Below.refl wr.heap.size wr).drew
          refine Last.start_ (S := fun w' => w'.cell? ⟨Y + 1, 0, none⟩ = some (.int .i64 n1) ∧ w'.cell? ⟨Y + 1, 1, none⟩ = some (.slice (some ⟨g1, 0, none⟩) n1 c1) ∧ w'.cell? ⟨Y + 1, 2, none⟩ = some (.int .i64 n2) ∧ w'.cell? ⟨Y + 1, 3, none⟩ = some (.slice (some ⟨g2, 0, none⟩) n2 c2)) (ds := [8]) #[false, false, false, false, false, false, false, false, false] (by kernel_rfl) rfl rfl ⟨by assumption, by assumption, by assumption, by assumption⟩ (fun hS => ?_)
          generalize wr.drew = wd at *
          refine Last.pure_ (i := 0) (N := some 111) #[true, false, false, false, false, false, false, false, false] rfl rfl (by kernel_rfl) (by exact fun _ _ _ h => h) (Or.inl ⟨by rfl, by (intro w; go_simp; try with_reducible rfl)⟩) rfl ?_
          simp only [Act.put, List.setIfInBounds_toArray, List.set_cons_zero, List.set_cons_succ]
          refine Last.pure_ (i := 3) (N := some 114) #[true, false, false, true, false, false, false, false, false] rfl rfl (by kernel_rfl) (by exact fun _ _ _ h => h) (Or.inl ⟨by rfl, by (intro w; go_simp; try with_reducible rfl)⟩) rfl ?_
          simp only [Act.put, List.setIfInBounds_toArray, List.set_cons_zero, List.set_cons_succ]
          refine Last.take_ (i := 1) (N := some 112) #[true, true, false, true, false, false, false, false, false] rfl rfl (by kernel_rfl) (by exact fun _ _ _ h => h) (Or.inl ⟨by rfl, by (intro w hSw; obtain ⟨s0, s1, s2, s3⟩ := hSw; go_simp; try with_reducible rfl)⟩) hS rfl ?_
          simp only [Act.put, List.setIfInBounds_toArray, List.set_cons_zero, List.set_cons_succ]
          refine Last.take_ (i := 4) (N := some 115) #[true, true, false, true, true, false, false, false, false] rfl rfl (by kernel_rfl) (by exact fun _ _ _ h => h) (Or.inl ⟨by rfl, by (intro w hSw; obtain ⟨s0, s1, s2, s3⟩ := hSw; go_simp; try with_reducible rfl)⟩) hS rfl ?_
          simp only [Act.put, List.setIfInBounds_toArray, List.set_cons_zero, List.set_cons_succ]
          refine Last.join_ (σ := Nat) 1 #[true, true, true, true, true, true, true, true, false] (fun V => [(113, .int .i64 v1), (116, .int .i64 v2), (117, .agg #[.int .i64 v1, .int .i64 v2]), (16, .pointer (some ⟨V, 0, none⟩))]) (fun V w' => Below wr.heap.size wr w' ∧ wr.heap.size ≤ V ∧ w'.heap[V]? = some (.cells #[.int .i64 0, .int .i64 0] 53)) (fun X w' hF => ?_) (fun HJ => ?_)
          rotate_left
          · refine Last.two_ (i := 2) (j := 7) (Ni := some 113) (Nj := some 16) #[true, true, true, true, true, false, false, false, false] #[true, true, false, true, true, false, false, true, false] rfl rfl rfl rfl (by kernel_rfl) (by decide) (by decide) (fun K hK => ?_) (fun K hK => ?_)
            · have r0 := hbr6
              refine Last.goes_ («as» := #[.tmp 112]) (ts := #[28]) Tryd.func15 (by kernel_rfl) rfl #[.agg #[.int .i64 n1, .slice (some ⟨g1, 0, none⟩) n1 c1]] (by rfl) rfl rfl (by simp [Act.eval]) ?_
              refine (rBot_B h1 h2 (HL6.out.below r0) (Below.refl _ _) HV.out.1 HV.out.2.1 c1 c2).1.mono ?_
              rintro e wa ⟨rfl, wab⟩
              have ra := r0.trans (wab.mono r0.size)
              obtain ⟨⟨e0, e1⟩, ⟨e2, e3, e4, e5⟩⟩ := HE6.out wa ra
              refine ⟨_, rfl, hK.out _ _ ⟨e2, e3, e4, e5⟩ (fun hS => ?_)⟩
              simp only [Act.put, List.setIfInBounds_toArray, List.set_cons_zero, List.set_cons_succ]
              refine Last.two_ (i := 5) (j := 7) (Ni := some 116) (Nj := some 16) #[true, true, true, true, true, true, false, false, false] #[true, true, true, true, true, false, false, true, false] rfl rfl rfl rfl (by kernel_rfl) (by decide) (by decide) (fun K hK => ?_) (fun K hK => ?_)
              · skip
                refine Last.goes_ («as» := #[.tmp 115]) (ts := #[28]) Tryd.func15 (by kernel_rfl) rfl #[.agg #[.int .i64 n2, .slice (some ⟨g2, 0, none⟩) n2 c2]] (by rfl) rfl rfl (by simp [Act.eval]) ?_
                refine (rBot_B h1 h2 (HL6.out.below ra) (Below.refl _ _) HV.out.1 HV.out.2.1 c1 c2).2.mono ?_
                rintro e wb ⟨rfl, wbb⟩
                have rb := ra.trans (wbb.mono ra.size)
                obtain ⟨⟨e0, e1⟩, ⟨e2, e3, e4, e5⟩⟩ := HE6.out wb rb
                refine ⟨_, rfl, hK.out _ _ ⟨e2, e3, e4, e5⟩ (fun hS => ?_)⟩
                simp only [Act.put, List.setIfInBounds_toArray, List.set_cons_zero, List.set_cons_succ]
                refine Last.pure_ (i := 6) (N := some 117) #[true, true, true, true, true, true, true, false, false] rfl rfl (by kernel_rfl) (by exact fun _ _ _ h => h) (Or.inl ⟨by rfl, by (intro w; go_simp; try with_reducible rfl)⟩) rfl ?_
                simp only [Act.put, List.setIfInBounds_toArray, List.set_cons_zero, List.set_cons_succ]
                refine Last.one_ (i := 7) (N := some 16) #[true, true, true, true, true, true, true, true, false] rfl rfl (by kernel_rfl) (by decide) (fun K hK => ?_)
                have rc := rb.alloc rb.size (.cells #[.int .i64 0, .int .i64 0] 53)
                have wcx := last wb (.cells #[.int .i64 0, .int .i64 0] 53)
                have wcy := rb.size
                obtain ⟨⟨e0, e1⟩, ⟨e2, e3, e4, e5⟩⟩ := HE6.out _ rc
                refine Last.value_ (v := .pointer (some ⟨wb.heap.size, 0, none⟩)) (w1 := wb.alloc (.cells #[.int .i64 0, .int .i64 0] 53)) (by rfl) rfl (by go_simp) (hK.out _ _ ⟨e2, e3, e4, e5⟩ (fun hS => ?_))
                simp only [Act.put, List.setIfInBounds_toArray, List.set_cons_zero, List.set_cons_succ]
                generalize wce : wb.alloc (.cells #[.int .i64 0, .int .i64 0] 53) = wc at *
                have hj := HJ wb.heap.size wc ⟨rc, wcy, wcx⟩
                simp only [Last.putAll, Act.put, List.setIfInBounds_toArray, List.set_cons_zero, List.set_cons_succ] at hj
                exact hj
              · skip
                have rb := ra.alloc ra.size (.cells #[.int .i64 0, .int .i64 0] 53)
                have wbx := last wa (.cells #[.int .i64 0, .int .i64 0] 53)
                have wby := ra.size
                obtain ⟨⟨e0, e1⟩, ⟨e2, e3, e4, e5⟩⟩ := HE6.out _ rb
                refine Last.value_ (v := .pointer (some ⟨wa.heap.size, 0, none⟩)) (w1 := wa.alloc (.cells #[.int .i64 0, .int .i64 0] 53)) (by rfl) rfl (by go_simp) (hK.out _ _ ⟨e2, e3, e4, e5⟩ (fun hS => ?_))
                simp only [Act.put, List.setIfInBounds_toArray, List.set_cons_zero, List.set_cons_succ]
                generalize wbe : wa.alloc (.cells #[.int .i64 0, .int .i64 0] 53) = wb at *
                refine Last.one_ (i := 5) (N := some 116) #[true, true, true, true, true, true, false, true, false] rfl rfl (by kernel_rfl) (by decide) (fun K hK => ?_)
                refine Last.goes_ («as» := #[.tmp 115]) (ts := #[28]) Tryd.func15 (by kernel_rfl) rfl #[.agg #[.int .i64 n2, .slice (some ⟨g2, 0, none⟩) n2 c2]] (by rfl) rfl rfl (by simp [Act.eval]) ?_
                refine (rBot_B h1 h2 (HL6.out.below rb) (Below.refl _ _) HV.out.1 HV.out.2.1 c1 c2).2.mono ?_
                rintro e wc ⟨rfl, wcb⟩
                have rc := rb.trans (wcb.mono rb.size)
                obtain ⟨⟨e0, e1⟩, ⟨e2, e3, e4, e5⟩⟩ := HE6.out wc rc
                refine ⟨_, rfl, hK.out _ _ ⟨e2, e3, e4, e5⟩ (fun hS => ?_)⟩
                simp only [Act.put, List.setIfInBounds_toArray, List.set_cons_zero, List.set_cons_succ]
                refine Last.pure_ (i := 6) (N := some 117) #[true, true, true, true, true, true, true, true, false] rfl rfl (by kernel_rfl) (by exact fun _ _ _ h => h) (Or.inl ⟨by rfl, by (intro w; go_simp; try with_reducible rfl)⟩) rfl ?_
                simp only [Act.put, List.setIfInBounds_toArray, List.set_cons_zero, List.set_cons_succ]
                have hj := HJ wa.heap.size wc ⟨rc, wby, ((wcb.block _ (by rw [← wbe]; simp)).trans wbx)⟩
                simp only [Last.putAll, Act.put, List.setIfInBounds_toArray, List.set_cons_zero, List.set_cons_succ] at hj
                exact hj
            · have r0 := hbr6
              have ra := r0.alloc r0.size (.cells #[.int .i64 0, .int .i64 0] 53)
              have wax := last wd (.cells #[.int .i64 0, .int .i64 0] 53)
              have way := r0.size
              obtain ⟨⟨e0, e1⟩, ⟨e2, e3, e4, e5⟩⟩ := HE6.out _ ra
              refine Last.value_ (v := .pointer (some ⟨wd.heap.size, 0, none⟩)) (w1 := wd.alloc (.cells #[.int .i64 0, .int .i64 0] 53)) (by rfl) rfl (by go_simp) (hK.out _ _ ⟨e2, e3, e4, e5⟩ (fun hS => ?_))
              simp only [Act.put, List.setIfInBounds_toArray, List.set_cons_zero, List.set_cons_succ]
              generalize wae : wd.alloc (.cells #[.int .i64 0, .int .i64 0] 53) = wa at *
              refine Last.one_ (i := 2) (N := some 113) #[true, true, true, true, true, false, false, true, false] rfl rfl (by kernel_rfl) (by decide) (fun K hK => ?_)
              refine Last.goes_ («as» := #[.tmp 112]) (ts := #[28]) Tryd.func15 (by kernel_rfl) rfl #[.agg #[.int .i64 n1, .slice (some ⟨g1, 0, none⟩) n1 c1]] (by rfl) rfl rfl (by simp [Act.eval]) ?_
              refine (rBot_B h1 h2 (HL6.out.below ra) (Below.refl _ _) HV.out.1 HV.out.2.1 c1 c2).1.mono ?_
              rintro e wb ⟨rfl, wbb⟩
              have rb := ra.trans (wbb.mono ra.size)
              obtain ⟨⟨e0, e1⟩, ⟨e2, e3, e4, e5⟩⟩ := HE6.out wb rb
              refine ⟨_, rfl, hK.out _ _ ⟨e2, e3, e4, e5⟩ (fun hS => ?_)⟩
              simp only [Act.put, List.setIfInBounds_toArray, List.set_cons_zero, List.set_cons_succ]
              refine Last.one_ (i := 5) (N := some 116) #[true, true, true, true, true, true, false, true, false] rfl rfl (by kernel_rfl) (by decide) (fun K hK => ?_)
              refine Last.goes_ («as» := #[.tmp 115]) (ts := #[28]) Tryd.func15 (by kernel_rfl) rfl #[.agg #[.int .i64 n2, .slice (some ⟨g2, 0, none⟩) n2 c2]] (by rfl) rfl rfl (by simp [Act.eval]) ?_
              refine (rBot_B h1 h2 (HL6.out.below rb) (Below.refl _ _) HV.out.1 HV.out.2.1 c1 c2).2.mono ?_
              rintro e wc ⟨rfl, wcb⟩
              have rc := rb.trans (wcb.mono rb.size)
              obtain ⟨⟨e0, e1⟩, ⟨e2, e3, e4, e5⟩⟩ := HE6.out wc rc
              refine ⟨_, rfl, hK.out _ _ ⟨e2, e3, e4, e5⟩ (fun hS => ?_)⟩
              simp only [Act.put, List.setIfInBounds_toArray, List.set_cons_zero, List.set_cons_succ]
              refine Last.pure_ (i := 6) (N := some 117) #[true, true, true, true, true, true, true, true, false] rfl rfl (by kernel_rfl) (by exact fun _ _ _ h => h) (Or.inl ⟨by rfl, by (intro w; go_simp; try with_reducible rfl)⟩) rfl ?_
              simp only [Act.put, List.setIfInBounds_toArray, List.set_cons_zero, List.set_cons_succ]
              have hj := HJ wd.heap.size wc ⟨rc, way, ((wcb.block _ (by have := wbb.size; have hh : wd.heap.size < wa.heap.size := (by rw [← wae]; simp); omega)).trans ((wbb.block _ (by rw [← wae]; simp)).trans wax))⟩
              simp only [Last.putAll, Act.put, List.setIfInBounds_toArray, List.set_cons_zero, List.set_cons_succ] at hj
              exact hj
          obtain ⟨hbx, hXs, y0⟩ := hF
          simp only [Last.putAll, Act.put, List.setIfInBounds_toArray, List.set_cons_zero, List.set_cons_succ]
          obtain ⟨y1, y2⟩ := cellsOf2 y0
          have yz := frozenOf y0
          refine Last.last_ (i := 8) (N := none) #[true, true, true, true, true, true, true, true, true] rfl rfl (by kernel_rfl) (by decide) (fun K hK => Last.skip_ (w1 := (w'.setCell ⟨X, 0, none⟩ (.int .i64 v1)).setCell ⟨X, 1, none⟩ (.int .i64 v2)) (by rfl) rfl (by go_simp) (hK.out _ _ (Last.done_ (by kernel_rfl) ?_)))
          have x0 := set2_heap y0 (.int .i64 v1) (.int .i64 v2)
          have x1 : ∀ k, k < wr.heap.size → ((w'.setCell ⟨X, 0, none⟩ (.int .i64 v1)).setCell ⟨X, 1, none⟩ (.int .i64 v2)).heap[k]? = wr.heap[k]? := fun k hk => (set2_other (w := w') (b := X) (c := k) (by omega) (.int .i64 v1) (.int .i64 v2)).trans (hbx.block k hk)
          have x2 := Below.set2 hbx hXs (.int .i64 v1) (.int .i64 v2)
          have x3 := set2_size (w := w') (b := X) (.int .i64 v1) (.int .i64 v2)
          have x4 : X < w'.heap.size := (Array.getElem?_eq_some_iff.1 y0).1
          have m0 := (x1 Y (by omega)).trans v0
          have m1 := (x1 (Y + 1) (by omega)).trans v1'
          clear e0 e1 e2 e3 e4 e5 y0 y1 y2 yz hS x1 hbx
          clear hbr6
          generalize (w'.setCell ⟨X, 0, none⟩ (.int .i64 v1)).setCell ⟨X, 1, none⟩ (.int .i64 v2) = W6 at *
          rw [← x3] at x4
          clear x3 w'
          have x5 := x0; have x6 := x4; clear x0 x4
          have hb06 := hbr.trans (x2.mono (by omega))
          have hs6 := x2.size
          clear x2
          have HL7 := Lib.hid (HL0.out.below hb06)
          have he7 : ∀ w', Below W6.heap.size W6 w' → (w'.cell? ⟨Y, 0, none⟩ = some (.pointer (some ⟨b1, 0, none⟩)) ∧ w'.cell? ⟨Y, 1, none⟩ = some (.pointer (some ⟨b2, 0, none⟩))) ∧ (w'.cell? ⟨Y + 1, 0, none⟩ = some (.int .i64 n1) ∧ w'.cell? ⟨Y + 1, 1, none⟩ = some (.slice (some ⟨g1, 0, none⟩) n1 c1) ∧ w'.cell? ⟨Y + 1, 2, none⟩ = some (.int .i64 n2) ∧ w'.cell? ⟨Y + 1, 3, none⟩ = some (.slice (some ⟨g2, 0, none⟩) n2 c2)) := fun w' hbx => ⟨cellsOf2 ((hbx.block _ (by omega)).trans m0), cellsOf4 ((hbx.block _ (by omega)).trans m1)⟩
          obtain ⟨⟨e0, e1⟩, ⟨e2, e3, e4, e5⟩⟩ := he7 W6 (Below.refl _ _)
          have HE7 := Lib.hid he7; clear he7
          clear hXs
          go_wp2_with fail
          have hbr7 := (Below.refl W6.heap.size W6).drew
          refine Last.start_ (S := fun w' => w'.cell? ⟨Y + 1, 0, none⟩ = some (.int .i64 n1) ∧ w'.cell? ⟨Y + 1, 1, none⟩ = some (.slice (some ⟨g1, 0, none⟩) n1 c1) ∧ w'.cell? ⟨Y + 1, 2, none⟩ = some (.int .i64 n2) ∧ w'.cell? ⟨Y + 1, 3, none⟩ = some (.slice (some ⟨g2, 0, none⟩) n2 c2)) (ds := [8]) #[false, false, false, false, false, false, false, false, false] (by kernel_rfl) rfl rfl ⟨by assumption, by assumption, by assumption, by assumption⟩ (fun hS => ?_)
          generalize W6.drew = wd at *
          refine Last.pure_ (i := 0) (N := some 118) #[true, false, false, false, false, false, false, false, false] rfl rfl (by kernel_rfl) (by exact fun _ _ _ h => h) (Or.inl ⟨by rfl, by (intro w; go_simp; try with_reducible rfl)⟩) rfl ?_
          simp only [Act.put, List.setIfInBounds_toArray, List.set_cons_zero, List.set_cons_succ]
          refine Last.pure_ (i := 3) (N := some 121) #[true, false, false, true, false, false, false, false, false] rfl rfl (by kernel_rfl) (by exact fun _ _ _ h => h) (Or.inl ⟨by rfl, by (intro w; go_simp; try with_reducible rfl)⟩) rfl ?_
          simp only [Act.put, List.setIfInBounds_toArray, List.set_cons_zero, List.set_cons_succ]
          refine Last.take_ (i := 1) (N := some 119) #[true, true, false, true, false, false, false, false, false] rfl rfl (by kernel_rfl) (by exact fun _ _ _ h => h) (Or.inl ⟨by rfl, by (intro w hSw; obtain ⟨s0, s1, s2, s3⟩ := hSw; go_simp; try with_reducible rfl)⟩) hS rfl ?_
          simp only [Act.put, List.setIfInBounds_toArray, List.set_cons_zero, List.set_cons_succ]
          refine Last.take_ (i := 4) (N := some 122) #[true, true, false, true, true, false, false, false, false] rfl rfl (by kernel_rfl) (by exact fun _ _ _ h => h) (Or.inl ⟨by rfl, by (intro w hSw; obtain ⟨s0, s1, s2, s3⟩ := hSw; go_simp; try with_reducible rfl)⟩) hS rfl ?_
          simp only [Act.put, List.setIfInBounds_toArray, List.set_cons_zero, List.set_cons_succ]
          refine Last.join_ (σ := Nat) 1 #[true, true, true, true, true, true, true, true, false] (fun V => [(120, .int .i64 t1), (123, .int .i64 t2), (124, .agg #[.int .i64 t1, .int .i64 t2]), (17, .pointer (some ⟨V, 0, none⟩))]) (fun V w' => Below W6.heap.size W6 w' ∧ W6.heap.size ≤ V ∧ w'.heap[V]? = some (.cells #[.int .i64 0, .int .i64 0] 53)) (fun Z w' hF => ?_) (fun HJ => ?_)
          rotate_left
          · refine Last.two_ (i := 2) (j := 7) (Ni := some 120) (Nj := some 17) #[true, true, true, true, true, false, false, false, false] #[true, true, false, true, true, false, false, true, false] rfl rfl rfl rfl (by kernel_rfl) (by decide) (by decide) (fun K hK => ?_) (fun K hK => ?_)
            · have r0 := hbr7
              refine Last.goes_ («as» := #[.tmp 119]) (ts := #[28]) Tryd.func17 (by kernel_rfl) rfl #[.agg #[.int .i64 n1, .slice (some ⟨g1, 0, none⟩) n1 c1]] (by rfl) rfl rfl (by simp [Act.eval]) ?_
              refine (rTop_B h1 h2 (HL7.out.below r0) (Below.refl _ _) HV.out.2.2.1 HV.out.2.2.2.1 c1 c2).1.mono ?_
              rintro e wa ⟨rfl, wab⟩
              have ra := r0.trans (wab.mono r0.size)
              obtain ⟨⟨e0, e1⟩, ⟨e2, e3, e4, e5⟩⟩ := HE7.out wa ra
              refine ⟨_, rfl, hK.out _ _ ⟨e2, e3, e4, e5⟩ (fun hS => ?_)⟩
              simp only [Act.put, List.setIfInBounds_toArray, List.set_cons_zero, List.set_cons_succ]
              refine Last.two_ (i := 5) (j := 7) (Ni := some 123) (Nj := some 17) #[true, true, true, true, true, true, false, false, false] #[true, true, true, true, true, false, false, true, false] rfl rfl rfl rfl (by kernel_rfl) (by decide) (by decide) (fun K hK => ?_) (fun K hK => ?_)
              · skip
                refine Last.goes_ («as» := #[.tmp 122]) (ts := #[28]) Tryd.func17 (by kernel_rfl) rfl #[.agg #[.int .i64 n2, .slice (some ⟨g2, 0, none⟩) n2 c2]] (by rfl) rfl rfl (by simp [Act.eval]) ?_
                refine (rTop_B h1 h2 (HL7.out.below ra) (Below.refl _ _) HV.out.2.2.1 HV.out.2.2.2.1 c1 c2).2.mono ?_
                rintro e wb ⟨rfl, wbb⟩
                have rb := ra.trans (wbb.mono ra.size)
                obtain ⟨⟨e0, e1⟩, ⟨e2, e3, e4, e5⟩⟩ := HE7.out wb rb
                refine ⟨_, rfl, hK.out _ _ ⟨e2, e3, e4, e5⟩ (fun hS => ?_)⟩
                simp only [Act.put, List.setIfInBounds_toArray, List.set_cons_zero, List.set_cons_succ]
                refine Last.pure_ (i := 6) (N := some 124) #[true, true, true, true, true, true, true, false, false] rfl rfl (by kernel_rfl) (by exact fun _ _ _ h => h) (Or.inl ⟨by rfl, by (intro w; go_simp; try with_reducible rfl)⟩) rfl ?_
                simp only [Act.put, List.setIfInBounds_toArray, List.set_cons_zero, List.set_cons_succ]
                refine Last.one_ (i := 7) (N := some 17) #[true, true, true, true, true, true, true, true, false] rfl rfl (by kernel_rfl) (by decide) (fun K hK => ?_)
                have rc := rb.alloc rb.size (.cells #[.int .i64 0, .int .i64 0] 53)
                have wcx := last wb (.cells #[.int .i64 0, .int .i64 0] 53)
                have wcy := rb.size
                obtain ⟨⟨e0, e1⟩, ⟨e2, e3, e4, e5⟩⟩ := HE7.out _ rc
                refine Last.value_ (v := .pointer (some ⟨wb.heap.size, 0, none⟩)) (w1 := wb.alloc (.cells #[.int .i64 0, .int .i64 0] 53)) (by rfl) rfl (by go_simp) (hK.out _ _ ⟨e2, e3, e4, e5⟩ (fun hS => ?_))
                simp only [Act.put, List.setIfInBounds_toArray, List.set_cons_zero, List.set_cons_succ]
                generalize wce : wb.alloc (.cells #[.int .i64 0, .int .i64 0] 53) = wc at *
                have hj := HJ wb.heap.size wc ⟨rc, wcy, wcx⟩
                simp only [Last.putAll, Act.put, List.setIfInBounds_toArray, List.set_cons_zero, List.set_cons_succ] at hj
                exact hj
              · skip
                have rb := ra.alloc ra.size (.cells #[.int .i64 0, .int .i64 0] 53)
                have wbx := last wa (.cells #[.int .i64 0, .int .i64 0] 53)
                have wby := ra.size
                obtain ⟨⟨e0, e1⟩, ⟨e2, e3, e4, e5⟩⟩ := HE7.out _ rb
                refine Last.value_ (v := .pointer (some ⟨wa.heap.size, 0, none⟩)) (w1 := wa.alloc (.cells #[.int .i64 0, .int .i64 0] 53)) (by rfl) rfl (by go_simp) (hK.out _ _ ⟨e2, e3, e4, e5⟩ (fun hS => ?_))
                simp only [Act.put, List.setIfInBounds_toArray, List.set_cons_zero, List.set_cons_succ]
                generalize wbe : wa.alloc (.cells #[.int .i64 0, .int .i64 0] 53) = wb at *
                refine Last.one_ (i := 5) (N := some 123) #[true, true, true, true, true, true, false, true, false] rfl rfl (by kernel_rfl) (by decide) (fun K hK => ?_)
                refine Last.goes_ («as» := #[.tmp 122]) (ts := #[28]) Tryd.func17 (by kernel_rfl) rfl #[.agg #[.int .i64 n2, .slice (some ⟨g2, 0, none⟩) n2 c2]] (by rfl) rfl rfl (by simp [Act.eval]) ?_
                refine (rTop_B h1 h2 (HL7.out.below rb) (Below.refl _ _) HV.out.2.2.1 HV.out.2.2.2.1 c1 c2).2.mono ?_
                rintro e wc ⟨rfl, wcb⟩
                have rc := rb.trans (wcb.mono rb.size)
                obtain ⟨⟨e0, e1⟩, ⟨e2, e3, e4, e5⟩⟩ := HE7.out wc rc
                refine ⟨_, rfl, hK.out _ _ ⟨e2, e3, e4, e5⟩ (fun hS => ?_)⟩
                simp only [Act.put, List.setIfInBounds_toArray, List.set_cons_zero, List.set_cons_succ]
                refine Last.pure_ (i := 6) (N := some 124) #[true, true, true, true, true, true, true, true, false] rfl rfl (by kernel_rfl) (by exact fun _ _ _ h => h) (Or.inl ⟨by rfl, by (intro w; go_simp; try with_reducible rfl)⟩) rfl ?_
                simp only [Act.put, List.setIfInBounds_toArray, List.set_cons_zero, List.set_cons_succ]
                have hj := HJ wa.heap.size wc ⟨rc, wby, ((wcb.block _ (by rw [← wbe]; simp)).trans wbx)⟩
                simp only [Last.putAll, Act.put, List.setIfInBounds_toArray, List.set_cons_zero, List.set_cons_succ] at hj
                exact hj
            · have r0 := hbr7
              have ra := r0.alloc r0.size (.cells #[.int .i64 0, .int .i64 0] 53)
              have wax := last wd (.cells #[.int .i64 0, .int .i64 0] 53)
              have way := r0.size
              obtain ⟨⟨e0, e1⟩, ⟨e2, e3, e4, e5⟩⟩ := HE7.out _ ra
              refine Last.value_ (v := .pointer (some ⟨wd.heap.size, 0, none⟩)) (w1 := wd.alloc (.cells #[.int .i64 0, .int .i64 0] 53)) (by rfl) rfl (by go_simp) (hK.out _ _ ⟨e2, e3, e4, e5⟩ (fun hS => ?_))
              simp only [Act.put, List.setIfInBounds_toArray, List.set_cons_zero, List.set_cons_succ]
              generalize wae : wd.alloc (.cells #[.int .i64 0, .int .i64 0] 53) = wa at *
              refine Last.one_ (i := 2) (N := some 120) #[true, true, true, true, true, false, false, true, false] rfl rfl (by kernel_rfl) (by decide) (fun K hK => ?_)
              refine Last.goes_ («as» := #[.tmp 119]) (ts := #[28]) Tryd.func17 (by kernel_rfl) rfl #[.agg #[.int .i64 n1, .slice (some ⟨g1, 0, none⟩) n1 c1]] (by rfl) rfl rfl (by simp [Act.eval]) ?_
              refine (rTop_B h1 h2 (HL7.out.below ra) (Below.refl _ _) HV.out.2.2.1 HV.out.2.2.2.1 c1 c2).1.mono ?_
              rintro e wb ⟨rfl, wbb⟩
              have rb := ra.trans (wbb.mono ra.size)
              obtain ⟨⟨e0, e1⟩, ⟨e2, e3, e4, e5⟩⟩ := HE7.out wb rb
              refine ⟨_, rfl, hK.out _ _ ⟨e2, e3, e4, e5⟩ (fun hS => ?_)⟩
              simp only [Act.put, List.setIfInBounds_toArray, List.set_cons_zero, List.set_cons_succ]
              refine Last.one_ (i := 5) (N := some 123) #[true, true, true, true, true, true, false, true, false] rfl rfl (by kernel_rfl) (by decide) (fun K hK => ?_)
              refine Last.goes_ («as» := #[.tmp 122]) (ts := #[28]) Tryd.func17 (by kernel_rfl) rfl #[.agg #[.int .i64 n2, .slice (some ⟨g2, 0, none⟩) n2 c2]] (by rfl) rfl rfl (by simp [Act.eval]) ?_
              refine (rTop_B h1 h2 (HL7.out.below rb) (Below.refl _ _) HV.out.2.2.1 HV.out.2.2.2.1 c1 c2).2.mono ?_
              rintro e wc ⟨rfl, wcb⟩
              have rc := rb.trans (wcb.mono rb.size)
              obtain ⟨⟨e0, e1⟩, ⟨e2, e3, e4, e5⟩⟩ := HE7.out wc rc
              refine ⟨_, rfl, hK.out _ _ ⟨e2, e3, e4, e5⟩ (fun hS => ?_)⟩
              simp only [Act.put, List.setIfInBounds_toArray, List.set_cons_zero, List.set_cons_succ]
              refine Last.pure_ (i := 6) (N := some 124) #[true, true, true, true, true, true, true, true, false] rfl rfl (by kernel_rfl) (by exact fun _ _ _ h => h) (Or.inl ⟨by rfl, by (intro w; go_simp; try with_reducible rfl)⟩) rfl ?_
              simp only [Act.put, List.setIfInBounds_toArray, List.set_cons_zero, List.set_cons_succ]
              have hj := HJ wd.heap.size wc ⟨rc, way, ((wcb.block _ (by have := wbb.size; have hh : wd.heap.size < wa.heap.size := (by rw [← wae]; simp); omega)).trans ((wbb.block _ (by rw [← wae]; simp)).trans wax))⟩
              simp only [Last.putAll, Act.put, List.setIfInBounds_toArray, List.set_cons_zero, List.set_cons_succ] at hj
              exact hj
          obtain ⟨hbx, hXs, y0⟩ := hF
          simp only [Last.putAll, Act.put, List.setIfInBounds_toArray, List.set_cons_zero, List.set_cons_succ]
          obtain ⟨y1, y2⟩ := cellsOf2 y0
          have yz := frozenOf y0
          refine Last.last_ (i := 8) (N := none) #[true, true, true, true, true, true, true, true, true] rfl rfl (by kernel_rfl) (by decide) (fun K hK => Last.skip_ (w1 := (w'.setCell ⟨Z, 0, none⟩ (.int .i64 t1)).setCell ⟨Z, 1, none⟩ (.int .i64 t2)) (by rfl) rfl (by go_simp) (hK.out _ _ (Last.done_ (by kernel_rfl) ?_)))
          have x0 := set2_heap y0 (.int .i64 t1) (.int .i64 t2)
          have x1 : ∀ k, k < W6.heap.size → ((w'.setCell ⟨Z, 0, none⟩ (.int .i64 t1)).setCell ⟨Z, 1, none⟩ (.int .i64 t2)).heap[k]? = W6.heap[k]? := fun k hk => (set2_other (w := w') (b := Z) (c := k) (by omega) (.int .i64 t1) (.int .i64 t2)).trans (hbx.block k hk)
          have x2 := Below.set2 hbx hXs (.int .i64 t1) (.int .i64 t2)
          have x3 := set2_size (w := w') (b := Z) (.int .i64 t1) (.int .i64 t2)
          have x4 : Z < w'.heap.size := (Array.getElem?_eq_some_iff.1 y0).1
          have p0 := (x1 Y (by omega)).trans m0
          have p1 := (x1 (Y + 1) (by omega)).trans m1
          have p2 := (x1 X x6).trans x5
          clear e0 e1 e2 e3 e4 e5 y0 y1 y2 yz hS x1 hbx
          clear hbr7
          generalize (w'.setCell ⟨Z, 0, none⟩ (.int .i64 t1)).setCell ⟨Z, 1, none⟩ (.int .i64 t2) = W7 at *
          rw [← x3] at x4
          clear x3 w'
          have hb07 := hb06.trans (x2.mono (by omega))
          have hs7 := x2.size
          have HL8 := Lib.hid (HL0.out.below hb07)
          have HC8 := Lib.hid (hC0.below hb07)
          have he8 : ∀ w', Below W7.heap.size W7 w' → (w'.cell? ⟨Y, 0, none⟩ = some (.pointer (some ⟨b1, 0, none⟩)) ∧ w'.cell? ⟨Y, 1, none⟩ = some (.pointer (some ⟨b2, 0, none⟩))) ∧ (w'.cell? ⟨Y + 1, 0, none⟩ = some (.int .i64 n1) ∧ w'.cell? ⟨Y + 1, 1, none⟩ = some (.slice (some ⟨g1, 0, none⟩) n1 c1) ∧ w'.cell? ⟨Y + 1, 2, none⟩ = some (.int .i64 n2) ∧ w'.cell? ⟨Y + 1, 3, none⟩ = some (.slice (some ⟨g2, 0, none⟩) n2 c2)) ∧ (w'.cell? ⟨X, 0, none⟩ = some (.int .i64 v1) ∧ w'.cell? ⟨X, 1, none⟩ = some (.int .i64 v2)) ∧ (w'.cell? ⟨Z, 0, none⟩ = some (.int .i64 t1) ∧ w'.cell? ⟨Z, 1, none⟩ = some (.int .i64 t2)) := fun w' hbx => ⟨cellsOf2 ((hbx.block _ (by omega)).trans p0), cellsOf4 ((hbx.block _ (by omega)).trans p1), cellsOf2 ((hbx.block _ (by omega)).trans p2), cellsOf2 ((hbx.block _ x4).trans x0)⟩
          obtain ⟨⟨e0, e1⟩, ⟨e2, e3, e4, e5⟩, ⟨e6, e7⟩, e8, e9⟩ := he8 W7 (Below.refl _ _)
          have HE8 := Lib.hid he8; clear he8
          have HB8 := Lib.hid (HB.out.trans (hb07.mono (by omega)))
          have hbr8 := (Below.refl W7.heap.size W7).drew
          clear hbr hb06 hb07 v0 v1' m0 m1 x0 x2 x5 p0 p1 p2
          cases rt
          · go_wp2_with fail
            refine Last.start_ (S := fun w' => (w'.cell? ⟨Y, 0, none⟩ = some (.pointer (some ⟨b1, 0, none⟩)) ∧ w'.cell? ⟨Y, 1, none⟩ = some (.pointer (some ⟨b2, 0, none⟩))) ∧ (w'.cell? ⟨X, 0, none⟩ = some (.int .i64 v1) ∧ w'.cell? ⟨X, 1, none⟩ = some (.int .i64 v2)) ∧ (w'.cell? ⟨Z, 0, none⟩ = some (.int .i64 t1) ∧ w'.cell? ⟨Z, 1, none⟩ = some (.int .i64 t2))) (ds := []) #[false, false, false, false, false, false, false, false, false, false, false, false, false, false, false, false, false, false, false, false, false, false, false, false] (by kernel_rfl) rfl rfl ⟨⟨by assumption, by assumption⟩, ⟨by assumption, by assumption⟩, ⟨by assumption, by assumption⟩⟩ (fun hS => ?_)
            refine Last.take_ (i := 0) (N := some 125) #[true, false, false, false, false, false, false, false, false, false, false, false, false, false, false, false, false, false, false, false, false, false, false, false] rfl rfl (by kernel_rfl) (by exact fun _ _ _ h => h) (Or.inl ⟨by rfl, by (intro w hSw; obtain ⟨⟨s0, s1⟩, ⟨s2, s3⟩, s4, s5⟩ := hSw; go_simp; try with_reducible rfl)⟩) hS rfl ?_
            simp only [Act.put, List.setIfInBounds_toArray, List.set_cons_zero, List.set_cons_succ]
            refine Last.take_ (i := 2) (N := some 127) #[true, false, true, false, false, false, false, false, false, false, false, false, false, false, false, false, false, false, false, false, false, false, false, false] rfl rfl (by kernel_rfl) (by exact fun _ _ _ h => h) (Or.inl ⟨by rfl, by (intro w hSw; obtain ⟨⟨s0, s1⟩, ⟨s2, s3⟩, s4, s5⟩ := hSw; go_simp; try with_reducible rfl)⟩) hS rfl ?_
            simp only [Act.put, List.setIfInBounds_toArray, List.set_cons_zero, List.set_cons_succ]
            refine Last.one_ (i := 1) (N := some 126) #[true, true, true, false, false, false, false, false, false, false, false, false, false, false, false, false, false, false, false, false, false, false, false, false] rfl rfl (by kernel_rfl) (by decide) (fun K hK => ?_)
            refine Last.goes_ («as» := #[.tmp 125]) (ts := #[47]) Tryd.func26 (by kernel_rfl) rfl #[latV b1 b2] (by rfl) rfl rfl (by simp [Act.eval, latV]) ?_
            refine (lBottom_B h1 h2 HL8.out (by assumption) HV.out.1 HV.out.2.1).mono ?_
            rintro e w' ⟨rfl, hbx⟩
            obtain ⟨⟨e0, e1⟩, ⟨e2, e3, e4, e5⟩, ⟨e6, e7⟩, e8, e9⟩ := HE8.out w' hbx
            refine ⟨_, rfl, hK.out _ _ ⟨⟨e0, e1⟩, ⟨e6, e7⟩, e8, e9⟩ (fun hS => ?_)⟩
            unfold labV
            simp only [Act.put, List.setIfInBounds_toArray, List.set_cons_zero, List.set_cons_succ]
            refine Last.pure_ (i := 3) (N := some 128) (v := .bool true) #[true, true, true, true, false, false, false, false, false, false, false, false, false, false, false, false, false, false, false, false, false, false, false, false] rfl rfl (by kernel_rfl) (by exact fun _ _ _ h => h) (Or.inl ⟨by rfl, by (intro w; go_simp; try with_reducible rfl)⟩) rfl ?_
            simp only [Act.put, List.setIfInBounds_toArray, List.set_cons_zero, List.set_cons_succ]
            refine Last.pure_ (i := 4) (N := some 129) #[true, true, true, true, true, false, false, false, false, false, false, false, false, false, false, false, false, false, false, false, false, false, false, false] rfl rfl (by kernel_rfl) (by exact fun _ _ _ h => h) (Or.inl ⟨by rfl, by (intro w; go_simp; try with_reducible rfl)⟩) rfl ?_
            simp only [Act.put, List.setIfInBounds_toArray, List.set_cons_zero, List.set_cons_succ]
            refine Last.take_ (i := 5) (N := some 130) #[true, true, true, true, true, true, false, false, false, false, false, false, false, false, false, false, false, false, false, false, false, false, false, false] rfl rfl (by kernel_rfl) (by exact fun _ _ _ h => h) (Or.inl ⟨by rfl, by (intro w hSw; obtain ⟨⟨s0, s1⟩, ⟨s2, s3⟩, s4, s5⟩ := hSw; go_simp; try with_reducible rfl)⟩) hS rfl ?_
            simp only [Act.put, List.setIfInBounds_toArray, List.set_cons_zero, List.set_cons_succ]
            refine Last.take_ (i := 7) (N := some 132) #[true, true, true, true, true, true, false, true, false, false, false, false, false, false, false, false, false, false, false, false, false, false, false, false] rfl rfl (by kernel_rfl) (by exact fun _ _ _ h => h) (Or.inl ⟨by rfl, by (intro w hSw; obtain ⟨⟨s0, s1⟩, ⟨s2, s3⟩, s4, s5⟩ := hSw; go_simp; try with_reducible rfl)⟩) hS rfl ?_
            simp only [Act.put, List.setIfInBounds_toArray, List.set_cons_zero, List.set_cons_succ]
            refine Last.one_ (i := 6) (N := some 131) #[true, true, true, true, true, true, true, true, false, false, false, false, false, false, false, false, false, false, false, false, false, false, false, false] rfl rfl (by kernel_rfl) (by decide) (fun K hK => ?_)
            refine Last.goes_ («as» := #[.tmp 130]) (ts := #[47]) Tryd.func27 (by kernel_rfl) rfl #[latV b1 b2] (by rfl) rfl rfl (by simp [Act.eval, latV]) ?_
            refine (lTop_B h1 h2 HL8.out (by assumption) HV.out.2.2.1 HV.out.2.2.2.1).mono ?_
            rintro e w' ⟨rfl, hbx⟩
            obtain ⟨⟨e0, e1⟩, ⟨e2, e3, e4, e5⟩, ⟨e6, e7⟩, e8, e9⟩ := HE8.out w' hbx
            refine ⟨_, rfl, hK.out _ _ ⟨⟨e0, e1⟩, ⟨e6, e7⟩, e8, e9⟩ (fun hS => ?_)⟩
            unfold labV
            simp only [Act.put, List.setIfInBounds_toArray, List.set_cons_zero, List.set_cons_succ]
            refine Last.pure_ (i := 8) (N := some 133) (v := .bool true) #[true, true, true, true, true, true, true, true, true, false, false, false, false, false, false, false, false, false, false, false, false, false, false, false] rfl rfl (by kernel_rfl) (by exact fun _ _ _ h => h) (Or.inl ⟨by rfl, by (intro w; go_simp; try with_reducible rfl)⟩) rfl ?_
            simp only [Act.put, List.setIfInBounds_toArray, List.set_cons_zero, List.set_cons_succ]
            refine Last.pure_ (i := 9) (N := some 134) #[true, true, true, true, true, true, true, true, true, true, false, false, false, false, false, false, false, false, false, false, false, false, false, false] rfl rfl (by kernel_rfl) (by exact fun _ _ _ h => h) (Or.inl ⟨by rfl, by (intro w; go_simp; try with_reducible rfl)⟩) rfl ?_
            simp only [Act.put, List.setIfInBounds_toArray, List.set_cons_zero, List.set_cons_succ]
            refine Last.pure_ (i := 10) (N := some 135) #[true, true, true, true, true, true, true, true, true, true, true, false, false, false, false, false, false, false, false, false, false, false, false, false] rfl rfl (by kernel_rfl) (by exact fun _ _ _ h => h) (Or.inl ⟨by rfl, by (intro w; go_simp; try with_reducible rfl)⟩) rfl ?_
            simp only [Act.put, List.setIfInBounds_toArray, List.set_cons_zero, List.set_cons_succ]
            refine Last.pure_ (i := 11) (N := some 136) #[true, true, true, true, true, true, true, true, true, true, true, true, false, false, false, false, false, false, false, false, false, false, false, false] rfl rfl (by kernel_rfl) (by exact fun _ _ _ h => h) (Or.inl ⟨by rfl, by (intro w; go_simp; try with_reducible rfl)⟩) rfl ?_
            simp only [Act.put, List.setIfInBounds_toArray, List.set_cons_zero, List.set_cons_succ]
            refine Last.pure_ (i := 12) (N := some 137) #[true, true, true, true, true, true, true, true, true, true, true, true, true, false, false, false, false, false, false, false, false, false, false, false] rfl rfl (by kernel_rfl) (by exact fun _ _ _ h => h) (Or.inl ⟨by rfl, by (intro w; go_simp; try with_reducible rfl)⟩) rfl ?_
            simp only [Act.put, List.setIfInBounds_toArray, List.set_cons_zero, List.set_cons_succ]
            refine Last.pure_ (i := 13) (N := some 138) #[true, true, true, true, true, true, true, true, true, true, true, true, true, true, false, false, false, false, false, false, false, false, false, false] rfl rfl (by kernel_rfl) (by exact fun _ _ _ h => h) (Or.inl ⟨by rfl, by (intro w; go_simp; try with_reducible rfl)⟩) rfl ?_
            simp only [Act.put, List.setIfInBounds_toArray, List.set_cons_zero, List.set_cons_succ]
            refine Last.pure_ (i := 14) (N := some 139) #[true, true, true, true, true, true, true, true, true, true, true, true, true, true, true, false, false, false, false, false, false, false, false, false] rfl rfl (by kernel_rfl) (by exact fun _ _ _ h => h) (Or.inr ⟨by rfl, by rfl⟩) rfl ?_
            simp only [Act.put, List.setIfInBounds_toArray, List.set_cons_zero, List.set_cons_succ]
            refine Last.pure_ (i := 15) (N := some 140) #[true, true, true, true, true, true, true, true, true, true, true, true, true, true, true, true, false, false, false, false, false, false, false, false] rfl rfl (by kernel_rfl) (by exact fun _ _ _ h => h) (Or.inr ⟨by rfl, by rfl⟩) rfl ?_
            simp only [Act.put, List.setIfInBounds_toArray, List.set_cons_zero, List.set_cons_succ]
            refine Last.pure_ (i := 17) (N := some 142) #[true, true, true, true, true, true, true, true, true, true, true, true, true, true, true, true, false, true, false, false, false, false, false, false] rfl rfl (by kernel_rfl) (by exact fun _ _ _ h => h) (Or.inr ⟨by rfl, by rfl⟩) rfl ?_
            simp only [Act.put, List.setIfInBounds_toArray, List.set_cons_zero, List.set_cons_succ]
            refine Last.pure_ (i := 18) (N := some 143) #[true, true, true, true, true, true, true, true, true, true, true, true, true, true, true, true, false, true, true, false, false, false, false, false] rfl rfl (by kernel_rfl) (by exact fun _ _ _ h => h) (Or.inr ⟨by rfl, by rfl⟩) rfl ?_
            simp only [Act.put, List.setIfInBounds_toArray, List.set_cons_zero, List.set_cons_succ]
            refine Last.pure_ (i := 16) (N := some 141) #[true, true, true, true, true, true, true, true, true, true, true, true, true, true, true, true, true, true, true, false, false, false, false, false] rfl rfl (by kernel_rfl) (by exact fun _ _ _ h => h) (Or.inr ⟨by rfl, by rfl⟩) rfl ?_
            simp only [Act.put, List.setIfInBounds_toArray, List.set_cons_zero, List.set_cons_succ]
            refine Last.pure_ (i := 19) (N := some 144) #[true, true, true, true, true, true, true, true, true, true, true, true, true, true, true, true, true, true, true, true, false, false, false, false] rfl rfl (by kernel_rfl) (by exact fun _ _ _ h => h) (Or.inr ⟨by rfl, by rfl⟩) rfl ?_
            simp only [Act.put, List.setIfInBounds_toArray, List.set_cons_zero, List.set_cons_succ]
            refine Last.pure_ (i := 20) (N := some 145) #[true, true, true, true, true, true, true, true, true, true, true, true, true, true, true, true, true, true, true, true, true, false, false, false] rfl rfl (by kernel_rfl) (by exact fun _ _ _ h => h) (Or.inr ⟨by rfl, by rfl⟩) rfl ?_
            simp only [Act.put, List.setIfInBounds_toArray, List.set_cons_zero, List.set_cons_succ]
            refine Last.pure_ (i := 21) (N := some 146) #[true, true, true, true, true, true, true, true, true, true, true, true, true, true, true, true, true, true, true, true, true, true, false, false] rfl rfl (by kernel_rfl) (by exact fun _ _ _ h => h) (Or.inl ⟨by rfl, by (intro w; go_simp; try with_reducible rfl)⟩) rfl ?_
            simp only [Act.put, List.setIfInBounds_toArray, List.set_cons_zero, List.set_cons_succ]
            refine Last.pure_ (i := 22) (N := some 147) #[true, true, true, true, true, true, true, true, true, true, true, true, true, true, true, true, true, true, true, true, true, true, true, false] rfl rfl (by kernel_rfl) (by exact fun _ _ _ h => h) (Or.inl ⟨by rfl, by (intro w; go_simp; try with_reducible rfl)⟩) rfl ?_
            simp only [Act.put, List.setIfInBounds_toArray, List.set_cons_zero, List.set_cons_succ]
            refine Last.pure_ (i := 23) (N := some 6) #[true, true, true, true, true, true, true, true, true, true, true, true, true, true, true, true, true, true, true, true, true, true, true, true] rfl rfl (by kernel_rfl) (by exact fun _ _ _ h => h) (Or.inl ⟨by rfl, by (intro w; go_simp; try with_reducible rfl)⟩) rfl ?_
            simp only [Act.put, List.setIfInBounds_toArray, List.set_cons_zero, List.set_cons_succ]
            refine Last.done_ (by kernel_rfl) ?_
            go_wp2_with fail
            go_ret
            exact ⟨rfl, HB8.out.trans (hbx.mono (by have := HB8.out.size; omega))⟩
          · go_wp2_with fail
            go_region_held3 (fun w' => (w'.cell? ⟨Y, 0, none⟩ = some (.pointer (some ⟨b1, 0, none⟩)) ∧ w'.cell? ⟨Y, 1, none⟩ = some (.pointer (some ⟨b2, 0, none⟩))) ∧ (w'.cell? ⟨Y + 1, 0, none⟩ = some (.int .i64 n1) ∧ w'.cell? ⟨Y + 1, 1, none⟩ = some (.slice (some ⟨g1, 0, none⟩) n1 c1) ∧ w'.cell? ⟨Y + 1, 2, none⟩ = some (.int .i64 n2) ∧ w'.cell? ⟨Y + 1, 3, none⟩ = some (.slice (some ⟨g2, 0, none⟩) n2 c2)) ∧ (w'.cell? ⟨X, 0, none⟩ = some (.int .i64 v1) ∧ w'.cell? ⟨X, 1, none⟩ = some (.int .i64 v2)) ∧ (w'.cell? ⟨Z, 0, none⟩ = some (.int .i64 t1) ∧ w'.cell? ⟨Z, 1, none⟩ = some (.int .i64 t2))) (first | exact ⟨⟨by assumption, by assumption⟩, ⟨by assumption, by assumption, by assumption, by assumption⟩, ⟨by assumption, by assumption⟩, ⟨by assumption, by assumption⟩⟩)
              (first
                | (go_at_call 26; refine (lBottom_B h1 h2 HL8.out (by assumption) HV.out.1 HV.out.2.1).mono ?_; rintro e w' ⟨rfl, hbx⟩; unfold labV; obtain ⟨⟨e0, e1⟩, ⟨e2, e3, e4, e5⟩, ⟨e6, e7⟩, e8, e9⟩ := HE8.out w' hbx)
                | (go_at_call 27; refine (lTop_B h1 h2 HL8.out (by assumption) HV.out.2.2.1 HV.out.2.2.2.1).mono ?_; rintro e w' ⟨rfl, hbx⟩; unfold labV; obtain ⟨⟨e0, e1⟩, ⟨e2, e3, e4, e5⟩, ⟨e6, e7⟩, e8, e9⟩ := HE8.out w' hbx)
                | (go_at_call 28; refine (lJoin_B h1 h2 HL8.out (by assumption) HV.out.2.2.2.2.2.2 (by omega) HC8.out HV.out.2.2.2.2.2.1).mono ?_; rintro e w' ⟨rfl, hbx⟩; unfold labV; obtain ⟨⟨e0, e1⟩, ⟨e2, e3, e4, e5⟩, ⟨e6, e7⟩, e8, e9⟩ := HE8.out w' hbx)
                | (go_at_call 29; refine (rJoin_B h1 h2 HL8.out (by assumption) c1 c2 HN.out.1 HN.out.2 HV.out.2.2.2.2.2.2 (by omega) HC8.out (fun x hx => List.all_eq_true.1 HV.out.2.2.2.2.1 x hx) HV.out.2.2.2.2.2.1).mono ?_; rintro e w' ⟨rfl, hbx⟩; unfold labV; obtain ⟨⟨e0, e1⟩, ⟨e2, e3, e4, e5⟩, ⟨e6, e7⟩, e8, e9⟩ := HE8.out w' hbx))
            go_wp2_with fail
            go_ret
            exact ⟨rfl, HB8.out.trans (hbx.mono (by have := HB8.out.size; omega))⟩
end Go.Proofs.YtkcbcdfcpchgcaaDoor
