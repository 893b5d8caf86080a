/- ValueApplies: any op, and values, what it makes of them, or what is wrong; what is told is one's own. -/
import Derived.Test.YtofijodndilmbaaDoorVal23
set_option linter.unusedVariables false
set_option linter.unusedSimpArgs false
namespace Go.Proofs.YtofijodndilmbaaDoor
open Go.RowKit

/-- Where the law stands while it writes into what it was told. -/
structure JAt (w : World) (v : V) (A : Option Addr) (k vb : Nat) (wy : World) : Prop where
  below : Below w.heap.size w wy
  box : wy.heap[vb]? = some (.cells #[.string v.op, .int .i64 v.num, .slice A v.kids.length k] 24)
  row : ∃ ys, wy.ownsRow w.heap.size 24 3 (.slice A v.kids.length k) v.kids.length ys
theorem JAt.step {w : World} {v : V} {g k vb j : Nat} {wy wx w5 : World} {p q r : Value} (h : JAt w v (some ⟨g, 0, none⟩) k vb wy) (hg : g < vb) (hbx : Below wy.heap.size wy wx) (hb5 : Below wx.heap.size wx w5) :
    JAt w v (some ⟨g, 0, none⟩) k vb (((w5.setCell ⟨g, j, none⟩ p).setCell ⟨g, j + 1, none⟩ q).setCell ⟨g, j + 2, none⟩ r) := by
  obtain ⟨ys, hrow⟩ := h.row
  have hl := row_lt hrow (k := g) rfl
  have hb := chain hbx hb5
  have hset : ∀ k, k ≠ g → (((w5.setCell ⟨g, j, none⟩ p).setCell ⟨g, j + 1, none⟩ q).setCell ⟨g, j + 2, none⟩ r).heap[k]? = w5.heap[k]? := fun k hk => by
    rw [Below.heap_setCell _ _ _ _ hk, Below.heap_setCell _ _ _ _ hk, Below.heap_setCell _ _ _ _ hk]
  refine ⟨?_, ?_, _, row_set (row_set (row_set (owns_block hrow fun k hk => hb.block k (row_lt hrow hk).2)))⟩
  · exact (((chain h.below hb).setCell (p := ⟨g, j, none⟩) hl.1 _).setCell (p := ⟨g, j + 1, none⟩) hl.1 _).setCell (p := ⟨g, j + 2, none⟩) hl.1 _
  · rw [hset _ (by omega), hb.block _ (heap_lt h.box)]
    exact h.box

set_option maxRecDepth 100000 in
set_option maxHeartbeats 16000000 in
theorem ValueApplies_in (op : ByteArray) (ks : List V) (A : Option Addr) (cap : Nat) (ss : Nat → Value) (w : World) (hmax : ks.length ≤ 2932031007317) (h : ListAt w ks A ss) (ht : TabOk w) :
    Calls Tryd.prog 4 #[.string op, .slice A ks.length cap] w fun e w' => e = .returned (.bool true) ∧ Below w.heap.size w w' := by
  obtain ⟨i0, hi0, hz0, hz1, hz2⟩ := info_parts info_rvalue
  have HA := Lib.hid (And.intro h ht)
  have HMX := Lib.hid hmax
  clear h ht
  generalize hkl : ks.length = L at *
  have HKL := Lib.hid hkl
  clear hkl
  have hc := Lives_in w HA.out.2
  go_enter Tryd.func4, Tryd.ntmps4
  go_wp2_with fail
  refine hc.mono ?_
  clear hc
  rintro e w1 ⟨rfl, hb1⟩
  have HB1 := Lib.hid hb1
  have hc := Lives_in w1 (HA.out.2.under hb1)
  clear hb1
  by_cases hL4 : (4 : Int) < (L : Int)
  · go_wp2_with fail
    refine hc.mono ?_
    clear hc
    rintro e w2 ⟨rfl, hb2⟩
    have HF := Lib.hid (chain HB1.out hb2)
    clear hb2
    go_wp2_with fail
    go_ret
    exact ⟨rfl, HF.out⟩
  by_cases hop : (100 : Int) < (op.size : Int)
  · go_wp2_with fail
    refine hc.mono ?_
    clear hc
    rintro e w2 ⟨rfl, hb2⟩
    have HF := Lib.hid (chain HB1.out hb2)
    clear hb2
    go_wp2_with fail
    go_ret
    exact ⟨rfl, HF.out⟩
  clear hc
  have hL5 : L ≤ 4 := by omega
  go_wp2_with fail
  have H0 := Lib.hid (show MAt w ks 0 nilS (fun _ => nilS) w1 from ⟨HB1.out, World.ownsRow_nil _ _ _ _, fun j hj => by omega⟩)
  clear hL4 hop
  go_loopg [5, 30] L (fun gk mv iv wr => ∃ (i : Nat) (sm : Nat → Value), iv = .int .i64 i ∧ i + gk = L ∧ MAt w ks i mv sm wr)
  case atStart => exact ⟨0, _, rfl, by omega, H0.out⟩
  case round =>
    obtain ⟨i, sm, rfl, hi, hat⟩ := hrel
    obtain ⟨A2, k2, rfl⟩ := row_form hat.row
    have H1 := Lib.hid hat
    clear hat
    by_cases e : i = L
    · subst e
      have hls : ListAt wr ks A2 sm := by
        have h1 := H1.out
        rw [← HKL.out] at h1
        exact h1.list
      have hbe := H1.out.below
      have HLS := Lib.hid (And.intro (HA.out.1.under hbe) (And.intro hls hbe))
      obtain ⟨r, hr⟩ : ∃ z, applyF op ks = z := ⟨_, rfl⟩
      have hc := Apply_in op ks A cap ss wr (by rw [HKL.out]; omega) HLS.out.1
      have HRA := Lib.hid (fun W (hl : ListAt W ks A2 sm) => RApply_in op ks A2 k2 sm W (by rw [HKL.out]; omega) hl)
      rw [hr, HKL.out] at hc HRA
      clear hls hbe H1 hr H0
      unfold aggV at hc HRA
      go_wp2_with fail
      refine hc.mono ?_
      clear hc
      rintro e w6 ⟨⟨s6, rfl, hp6, xs, hrow6⟩, hb6⟩
      obtain ⟨A6, k6, rfl⟩ := hp6.form
      have hbv : Below wr.heap.size wr (w6.alloc (.cells #[.string r.1.op, .int .i64 r.1.num, .slice A6 r.1.kids.length k6] 24)) := hb6.alloc hb6.size _
      have hc := HRA.out _ (HLS.out.2.1.under hbv)
      have HV := Lib.hid (And.intro hp6 (And.intro hrow6 (And.intro hb6 hbv)))
      clear HRA hp6 hrow6 hb6 hbv
      go_wp2_with fail
      refine hc.mono ?_
      clear hc
      rintro e w7 ⟨⟨s7, rfl, hp7⟩, hb7⟩
      obtain ⟨A7, k7, rfl, _, _⟩ := hp7.inv
      have HW := Lib.hid (And.intro hp7 hb7)
      clear hp7 hb7
      go_wp2_with fail
      have hlv := (HW.out.2.block _ (by simp)).trans (last w6 (.cells #[.string r.1.op, .int .i64 r.1.num, .slice A6 r.1.kids.length k6] 24))
      have hlw := last w7 (.cells #[.string r.1.op, .int .i64 r.1.num, .slice A7 r.1.kids.length k7] 30)
      have h78 := (Below.refl w7.heap.size w7).alloc (Nat.le_refl _) (.cells #[.string r.1.op, .int .i64 r.1.num, .slice A7 r.1.kids.length k7] 30)
      have HX := Lib.hid (show Below wr.heap.size wr (w7.alloc (.cells #[.string r.1.op, .int .i64 r.1.num, .slice A7 r.1.kids.length k7] 30)) ∧ (w7.alloc (.cells #[.string r.1.op, .int .i64 r.1.num, .slice A7 r.1.kids.length k7] 30)).heap[w6.heap.size]? = some (.cells #[.string r.1.op, .int .i64 r.1.num, .slice A6 r.1.kids.length k6] 24) ∧ (w7.alloc (.cells #[.string r.1.op, .int .i64 r.1.num, .slice A7 r.1.kids.length k7] 30)).heap[w7.heap.size]? = some (.cells #[.string r.1.op, .int .i64 r.1.num, .slice A7 r.1.kids.length k7] 30) ∧
          At (w7.alloc (.cells #[.string r.1.op, .int .i64 r.1.num, .slice A7 r.1.kids.length k7] 30)) r.1 (.slice A6 r.1.kids.length k6) ∧ At (w7.alloc (.cells #[.string r.1.op, .int .i64 r.1.num, .slice A7 r.1.kids.length k7] 30)) r.1 (.slice A7 r.1.kids.length k7) ∧ (w7.alloc (.cells #[.string r.1.op, .int .i64 r.1.num, .slice A7 r.1.kids.length k7] 30)).ownsRow wr.heap.size 24 3 (.slice A6 r.1.kids.length k6) r.1.kids.length xs ∧
          (∀ g, (Value.slice A6 r.1.kids.length k6).ownBlock = some g → g < w6.heap.size) from by
        have hb67 := chain ((Below.refl w6.heap.size w6).alloc (Nat.le_refl _) (.cells #[.string r.1.op, .int .i64 r.1.num, .slice A6 r.1.kids.length k6] 24)) HW.out.2
        have hb68 := chain hb67 h78
        refine ⟨chain HV.out.2.2.1 hb68, (h78.block _ (heap_lt hlv)).trans hlv, hlw, HV.out.1.at.under hb68, HW.out.1.under h78, owns_block HV.out.2.1 fun g hg => hb68.block g (row_lt HV.out.2.1 hg).2, fun g hg => (row_lt HV.out.2.1 hg).2⟩)
      clear hlv hlw h78 HV HW
      generalize w7.alloc (.cells #[.string r.1.op, .int .i64 r.1.num, .slice A7 r.1.kids.length k7] 30) = W8 at *
      generalize w6.heap.size = vb at *
      generalize w7.heap.size = wb at *
      have HOF := Lib.hid (show ∀ w', Below W8.heap.size W8 w' → Calls Tryd.prog 7 #[.agg #[.string r.1.op, .int .i64 r.1.num, .slice A6 r.1.kids.length k6]] w' fun e w'' => (∃ A5 k5, e = .returned (.agg #[.string r.1.op, .int .i64 r.1.num, .slice A5 r.1.kids.length k5]) ∧ At w'' r.1 (.slice A5 r.1.kids.length k5)) ∧ Below w'.heap.size w' w'' from fun w' hb => (Of_in _ w' r.1 _ (Nat.le_refl _) (HX.out.2.2.2.1.under hb)).mono fun e w'' ⟨⟨s', he, hp⟩, hb⟩ => by
        obtain ⟨A5, k5, rfl⟩ := hp.form
        exact ⟨⟨A5, k5, he, hp.at⟩, hb⟩)
      have HRS := Lib.hid (show ∀ w' A5 k5, Below W8.heap.size W8 w' → At w' r.1 (.slice A5 r.1.kids.length k5) → Calls Tryd.prog 10 #[.agg #[.string r.1.op, .int .i64 r.1.num, .slice A5 r.1.kids.length k5], .agg #[.string r.1.op, .int .i64 r.1.num, .slice A7 r.1.kids.length k7]] w' fun e w'' => e = .returned (.bool true) ∧ Below w'.heap.size w' w'' from fun w' A5 k5 hb hat => (same_refl _ r.1 (Nat.le_refl _)) ▸ RSame_in _ w' r.1 r.1 _ _ (Nat.le_refl _) hat (HX.out.2.2.2.2.1.under hb))
      have HCL := Lib.hid (show ∀ w', Below W8.heap.size W8 w' → (w'.cell? ⟨vb, 0, none⟩ = some (.string r.1.op) ∧ w'.cell? ⟨vb, 1, none⟩ = some (.int .i64 r.1.num) ∧ w'.cell? ⟨vb, 2, none⟩ = some (.slice A6 r.1.kids.length k6)) ∧ (w'.cell? ⟨wb, 0, none⟩ = some (.string r.1.op) ∧ w'.cell? ⟨wb, 1, none⟩ = some (.int .i64 r.1.num) ∧ w'.cell? ⟨wb, 2, none⟩ = some (.slice A7 r.1.kids.length k7)) from fun w' hb => ⟨cellsOf3 ((hb.block _ (heap_lt HX.out.2.1)).trans HX.out.2.1), cellsOf3 ((hb.block _ (heap_lt HX.out.2.2.1)).trans HX.out.2.2.1)⟩)
      obtain ⟨⟨x0, x1, x2⟩, y0, y1, y2⟩ := HCL.out W8 (Below.refl _ _)
      have hbr : Below W8.heap.size W8 W8.drew := (Below.refl _ W8).drew
      go_region_held3 (fun w' => (w'.cell? ⟨vb, 0, none⟩ = some (.string r.1.op) ∧ w'.cell? ⟨vb, 1, none⟩ = some (.int .i64 r.1.num) ∧ w'.cell? ⟨vb, 2, none⟩ = some (.slice A6 r.1.kids.length k6)) ∧ (w'.cell? ⟨wb, 0, none⟩ = some (.string r.1.op) ∧ w'.cell? ⟨wb, 1, none⟩ = some (.int .i64 r.1.num) ∧ w'.cell? ⟨wb, 2, none⟩ = some (.slice A7 r.1.kids.length k7)))
        (first | exact HCL.out _ (by with_reducible assumption))
        (first
          | (go_at_call 7; refine (HOF.out _ (by with_reducible assumption)).mono ?_; rintro e w31 ⟨⟨A5, k5, rfl, hat5⟩, hbn⟩; have hbw31 := chain (by with_reducible assumption) hbn; clear hbn; obtain ⟨⟨x0, x1, x2⟩, y0, y1, y2⟩ := HCL.out _ hbw31)
          | (go_at_call 10; refine (HRS.out _ _ _ (by with_reducible assumption) hat5).mono ?_; rintro e w32 ⟨rfl, hbn⟩; have hbw32 := chain (by with_reducible assumption) hbn; clear hbn; obtain ⟨⟨x0, x1, x2⟩, y0, y1, y2⟩ := HCL.out _ hbw32))
      all_goals
        have HB32 := Lib.hid hbw32
        clear hbw31 hbw32 hbr hat5
        go_upto_region 15 with fail
        obtain ⟨wo, rfl⟩ : ∃ wo : World, wo = wr := ⟨_, rfl⟩
        have HJ := Lib.hid (show JAt wo r.1 A6 k6 vb w32 from ⟨chain HX.out.1 HB32.out, (HB32.out.block _ (heap_lt HX.out.2.1)).trans HX.out.2.1, xs, owns_block HX.out.2.2.2.2.2.1 fun g hg => HB32.out.block g (Nat.lt_of_lt_of_le (HX.out.2.2.2.2.2.2 g hg) (Nat.le_of_lt (heap_lt HX.out.2.1)))⟩)
        have HGV := Lib.hid HX.out.2.2.2.2.2.2
        have hn2 : r.1.kids.length ≤ 2932031007317 := by
          obtain ⟨_, _, _, h, _⟩ := HX.out.2.2.2.1.inv
          exact h
        clear HOF HRS HCL HX HB32 y0 y1 y2
        go_wp2_with fail
        clear x0 x1 x2
        generalize hnn : r.1.kids.length = n2 at *
        have HNN := Lib.hid hnn
        clear hnn
        go_loopg [67] n2 (fun gk iv wy => ∃ (i2 : Nat), iv = .int .i64 i2 ∧ i2 + gk = n2 ∧ JAt wo r.1 A6 k6 vb wy)
        case atStart => exact ⟨0, rfl, by omega, HJ.out⟩
        case round =>
          obtain ⟨i2, rfl, hi2, hj⟩ := hrel
          obtain ⟨wy, rfl⟩ : ∃ wy : World, wy = wr := ⟨_, rfl⟩
          have HJ1 := Lib.hid hj
          obtain ⟨x0, x1, x2⟩ := cellsOf3 hj.box
          rw [HNN.out] at x2
          clear hj
          by_cases e2 : i2 = n2
          · subst e2
            clear x0 x1 x2
            go_wp2_with fail
            go_loopg [78] i (fun gk iv wy => ∃ (i3 : Nat), iv = .int .i64 i3 ∧ i3 + gk = i ∧ Below wo.heap.size wo wy)
            case atStart => exact ⟨0, rfl, by omega, HJ1.out.below⟩
            case round =>
              obtain ⟨i3, rfl, hi3, hbz⟩ := hrel
              obtain ⟨wz, rfl⟩ : ∃ wz : World, wz = wr := ⟨_, rfl⟩
              have HBZ := Lib.hid hbz
              clear hbz
              by_cases e3 : i3 = i
              · subst e3
                have HF := Lib.hid (chain HLS.out.2.2 HBZ.out)
                go_wp2_with fail
                go_ret
                exact ⟨rfl, HF.out⟩
              · have hil3 : i3 < ks.length := by rw [HKL.out]; omega
                obtain ⟨b1, o1, A1, k1, rfl, ⟨p0, p1, p2⟩, hat1⟩ := (HLS.out.1.under HBZ.out).get hil3
                obtain ⟨b2, o2, A3, k3, rfl, ⟨q0, q1, q2⟩, hat2⟩ := (HLS.out.2.1.under HBZ.out).get hil3
                generalize ks.getD i3 default = x at *
                have h30 : (0 : Int) ≤ (i3 : Int) := by omega
                have h31 : (i3 : Int) < (i : Int) := by omega
                have hwz : Below wz.heap.size wz (wz.alloc (.cells #[.string x.op, .int .i64 x.num, .slice A1 x.kids.length k1] 24)) := (Below.refl wz.heap.size wz).alloc (Nat.le_refl _) _
                have hlx := last wz (.cells #[.string x.op, .int .i64 x.num, .slice A1 x.kids.length k1] 24)
                have HAT := Lib.hid (And.intro (hat1.under hwz) (And.intro (hat2.under hwz) (And.intro hlx (chain HBZ.out hwz))))
                have HQ := Lib.hid (show (wz.alloc (.cells #[.string x.op, .int .i64 x.num, .slice A1 x.kids.length k1] 24)).cell? ⟨b2, o2 + i3 * 3, none⟩ = some (.string x.op) ∧ (wz.alloc (.cells #[.string x.op, .int .i64 x.num, .slice A1 x.kids.length k1] 24)).cell? ⟨b2, o2 + i3 * 3 + 1, none⟩ = some (.int .i64 x.num) ∧ (wz.alloc (.cells #[.string x.op, .int .i64 x.num, .slice A1 x.kids.length k1] 24)).cell? ⟨b2, o2 + i3 * 3 + 2, none⟩ = some (.slice A3 x.kids.length k3) from
                  ⟨(World.cell?_of_block (hwz.block _ (cell_lt q0))).trans q0, (World.cell?_of_block (hwz.block _ (cell_lt q1))).trans q1, (World.cell?_of_block (hwz.block _ (cell_lt q2))).trans q2⟩)
                clear hat1 hat2 hwz hlx q0 q1 q2 HBZ
                go_upto_region 23 with fail
                generalize wz.alloc (.cells #[.string x.op, .int .i64 x.num, .slice A1 x.kids.length k1] 24) = W9 at *
                generalize wz.heap.size = xb at *
                clear p0 p1 p2
                have HCL := Lib.hid (show ∀ w', Below W9.heap.size W9 w' → (w'.cell? ⟨xb, 0, none⟩ = some (.string x.op) ∧ w'.cell? ⟨xb, 1, none⟩ = some (.int .i64 x.num) ∧ w'.cell? ⟨xb, 2, none⟩ = some (.slice A1 x.kids.length k1)) ∧ (w'.cell? ⟨b2, o2 + i3 * 3, none⟩ = some (.string x.op) ∧ w'.cell? ⟨b2, o2 + i3 * 3 + 1, none⟩ = some (.int .i64 x.num) ∧ w'.cell? ⟨b2, o2 + i3 * 3 + 2, none⟩ = some (.slice A3 x.kids.length k3)) from fun w' hb => ⟨cellsOf3 ((hb.block _ (heap_lt HAT.out.2.2.1)).trans HAT.out.2.2.1), (World.cell?_of_block (hb.block _ (cell_lt HQ.out.1))).trans HQ.out.1, (World.cell?_of_block (hb.block _ (cell_lt HQ.out.2.1))).trans HQ.out.2.1, (World.cell?_of_block (hb.block _ (cell_lt HQ.out.2.2))).trans HQ.out.2.2⟩)
                have HOF := Lib.hid (show ∀ w', Below W9.heap.size W9 w' → Calls Tryd.prog 7 #[.agg #[.string x.op, .int .i64 x.num, .slice A1 x.kids.length k1]] w' fun e w'' => (∃ A5 k5, e = .returned (.agg #[.string x.op, .int .i64 x.num, .slice A5 x.kids.length k5]) ∧ At w'' x (.slice A5 x.kids.length k5)) ∧ Below w'.heap.size w' w'' from fun w' hb => (Of_in _ w' x _ (Nat.le_refl _) (HAT.out.1.under hb)).mono fun e w'' ⟨⟨s', he, hp⟩, hb⟩ => by
                  obtain ⟨A5, k5, rfl⟩ := hp.form
                  exact ⟨⟨A5, k5, he, hp.at⟩, hb⟩)
                have HRS := Lib.hid (show ∀ w' A5 k5, Below W9.heap.size W9 w' → At w' x (.slice A5 x.kids.length k5) → Calls Tryd.prog 10 #[.agg #[.string x.op, .int .i64 x.num, .slice A5 x.kids.length k5], .agg #[.string x.op, .int .i64 x.num, .slice A3 x.kids.length k3]] w' fun e w'' => e = .returned (.bool true) ∧ Below w'.heap.size w' w'' from fun w' A5 k5 hb hat => (same_refl _ x (Nat.le_refl _)) ▸ RSame_in _ w' x x _ _ (Nat.le_refl _) hat (HAT.out.2.1.under hb))
                obtain ⟨⟨x0, x1, x2⟩, y0, y1, y2⟩ := HCL.out W9 (Below.refl _ _)
                have hbr : Below W9.heap.size W9 W9.drew := (Below.refl _ W9).drew
                go_region_held3 (fun w' => (w'.cell? ⟨xb, 0, none⟩ = some (.string x.op) ∧ w'.cell? ⟨xb, 1, none⟩ = some (.int .i64 x.num) ∧ w'.cell? ⟨xb, 2, none⟩ = some (.slice A1 x.kids.length k1)) ∧ (w'.cell? ⟨b2, o2 + i3 * 3, none⟩ = some (.string x.op) ∧ w'.cell? ⟨b2, o2 + i3 * 3 + 1, none⟩ = some (.int .i64 x.num) ∧ w'.cell? ⟨b2, o2 + i3 * 3 + 2, none⟩ = some (.slice A3 x.kids.length k3)))
                  (first | exact HCL.out _ (by with_reducible assumption))
                  (first
                    | (go_at_call 7; refine (HOF.out _ (by with_reducible assumption)).mono ?_; rintro e w31 ⟨⟨A5, k5, rfl, hat5⟩, hbn⟩; have hbw31 := chain (by with_reducible assumption) hbn; clear hbn; obtain ⟨⟨x0, x1, x2⟩, y0, y1, y2⟩ := HCL.out _ hbw31)
                    | (go_at_call 10; refine (HRS.out _ _ _ (by with_reducible assumption) hat5).mono ?_; rintro e w32 ⟨rfl, hbn⟩; have hbw32 := chain (by with_reducible assumption) hbn; clear hbn; obtain ⟨⟨x0, x1, x2⟩, y0, y1, y2⟩ := HCL.out _ hbw32))
                all_goals
                  have HP := Lib.hid (chain HAT.out.2.2.2 hbw32)
                  clear hbw31 hbw32 hbr hat5 x0 x1 x2 y0 y1 y2
                  go_wp2_with fail
                  go_roundg (gk - 1)
                  case measure => omega
                  case rel => exact ⟨i3 + 1, by simp, by omega, HP.out⟩
          · have hil2 : i2 < n2 := by omega
            obtain ⟨ys, hrow⟩ := HJ1.out.row
            obtain ⟨g, cp, hA6, hg1, hg2⟩ := World.ownsRow.form hrow (by rw [HNN.out]; omega)
            injection hA6 with hA6 _ hcp
            subst hA6 hcp
            have hrl := hrow.1
            rw [HNN.out] at hrl hrow
            obtain ⟨u0, hu0⟩ : ∃ u, ys[i2 * 3]? = some u := ⟨_, List.getElem?_eq_getElem (by omega)⟩
            obtain ⟨u1, hu1⟩ : ∃ u, ys[i2 * 3 + 1]? = some u := ⟨_, List.getElem?_eq_getElem (by omega)⟩
            obtain ⟨u2, hu2⟩ : ∃ u, ys[i2 * 3 + 2]? = some u := ⟨_, List.getElem?_eq_getElem (by omega)⟩
            have a0 := (World.ownsRow.cellAt hrow (i2 * 3) (by omega)).trans hu0
            have a1 := (World.ownsRow.cellAt hrow (i2 * 3 + 1) (by omega)).trans hu1
            have a2 := (World.ownsRow.cellAt hrow (i2 * 3 + 2) (by omega)).trans hu2
            have hfz := fun j => World.ownsRow.frozenAt hrow j
            have hlv := heap_lt HJ1.out.box
            have hgv := HGV.out g rfl
            have HST := Lib.hid (fun w5 hb5 => HJ1.out.step (w5 := w5) (j := i2 * 3) (p := .string bI) (q := .int .i64 (-7)) (r := nilS) hgv ((Below.refl _ wy).drew) hb5)
            have HK5 := Lib.hid (show ∀ w5, Below wy.drew.heap.size wy.drew w5 → w5.cell? ⟨vb, 2, none⟩ = some (.slice (some ⟨g, 0, none⟩) n2 k6) ∧ (w5.cell? ⟨g, i2 * 3, none⟩ = some u0 ∧ w5.cell? ⟨g, i2 * 3 + 1, none⟩ = some u1 ∧ w5.cell? ⟨g, i2 * 3 + 2, none⟩ = some u2) ∧
                (w5.frozen? ⟨g, i2 * 3, none⟩ = false ∧ w5.frozen? ⟨g, i2 * 3 + 1, none⟩ = false ∧ w5.frozen? ⟨g, i2 * 3 + 2, none⟩ = false) from fun w5 hb => by
              have old : ∀ k, k < wy.heap.size → w5.heap[k]? = wy.heap[k]? := fun k hk => hb.block k hk
              exact ⟨(World.cell?_of_block (old _ hlv)).trans x2, ⟨(World.cell?_of_block (old _ hg2)).trans a0, (World.cell?_of_block (old _ hg2)).trans a1, (World.cell?_of_block (old _ hg2)).trans a2⟩,
                (World.frozen?_of_block (old _ hg2)).trans (hfz _), (World.frozen?_of_block (old _ hg2)).trans (hfz _), (World.frozen?_of_block (old _ hg2)).trans (hfz _)⟩)
            have hc := Int_in wy.drew (-7)
            replace hc : Calls Tryd.prog _ _ _ fun e w' => e = .returned (.agg #[.string bI, .int .i64 (-7), nilS]) ∧ Below _ _ w' := hc
            have h20 : (0 : Int) ≤ (i2 : Int) := by omega
            have h21 : (i2 : Int) < (n2 : Int) := by omega
            clear hrow hg1 hrl hu0 hu1 hu2 hfz hgv x0 x1
            go_wp2_with fail
            go_region_law ((go_simp; go_at_call 9; refine hc.mono ?_; rintro e w5 ⟨rfl, hb5⟩; obtain ⟨x25, ⟨b0, b1, b2⟩, z0, z1, z2⟩ := HK5.out w5 hb5))
            all_goals
              have HP := Lib.hid (HST.out w5 hb5)
              clear hb5 x25 b0 b1 b2 z0 z1 z2 x2 a0 a1 a2 hlv hg2 hc
              go_wp2_with fail
              go_roundg (gk - 1)
              case measure => omega
              case rel => exact ⟨i2 + 1, by simp, by omega, HP.out⟩
    · have hil : i < L := by omega
      have hil' : i < ks.length := by rw [HKL.out]; exact hil
      have hl1 := HA.out.1.under H1.out.below
      obtain ⟨b1, o1, A1, k1, rfl, ⟨p0, p1, p2⟩, hat1⟩ := hl1.get hil'
      have hbw : Below wr.heap.size wr (wr.alloc (.cells #[.string (ks.getD i default).op, .int .i64 (ks.getD i default).num, .slice A1 (ks.getD i default).kids.length k1] 24)) := (Below.refl wr.heap.size wr).alloc (Nat.le_refl _) _
      have hc := Big_in _ _ _ (hat1.under hbw)
      have HBW := Lib.hid (And.intro hbw (And.intro hat1 (last wr (.cells #[.string (ks.getD i default).op, .int .i64 (ks.getD i default).num, .slice A1 (ks.getD i default).kids.length k1] 24))))
      have hi1 : (0 : Int) ≤ (i : Int) := by omega
      clear hat1 hbw hl1
      unfold aggV at hc
      generalize hx : ks.getD i default = x at *
      have HX := Lib.hid hx
      clear hx
      go_wp2_with fail
      refine hc.mono ?_
      clear hc
      rintro e w3 ⟨⟨b, rfl⟩, hb3⟩
      have hbx := chain HBW.out.1 hb3
      have hl3 := (hb3.block _ (heap_lt HBW.out.2.2)).trans HBW.out.2.2
      obtain ⟨z0, z1, z2⟩ := cellsOf3 hl3
      have HBX := Lib.hid hbx
      clear p0 p1 p2 hb3 hbx hl3
      cases b with
      | true =>
        have HF := Lib.hid (chain H1.out.below HBX.out)
        go_wp2_with fail
        go_ret
        exact ⟨rfl, HF.out⟩
      | false =>
        have hc := Of_in _ _ _ _ (Nat.le_refl _) (HBW.out.2.1.under HBX.out)
        unfold aggV at hc
        go_wp2_with fail
        refine hc.mono ?_
        clear hc
        rintro e w5 ⟨⟨s5, rfl, hp5⟩, hb5⟩
        obtain ⟨A5, k5, rfl⟩ := hp5.form
        have hown5 : w5.ownsRow w.heap.size 30 3 (.slice A2 i k2) i (rowsN (rowV ks sm) i) := owns_block H1.out.row fun g hg => (hb5.block _ (Nat.lt_of_lt_of_le (row_lt H1.out.row hg).2 HBX.out.size)).trans (HBX.out.block _ (row_lt H1.out.row hg).2)
        have hws : w.heap.size ≤ w5.heap.size := Nat.le_trans H1.out.below.size (Nat.le_trans HBX.out.size hb5.size)
        go_wp2_with (at_builtin; refine wpList_append_lies _ rfl _ _ 28 rfl w.heap.size 30 i0 (.agg #[.string ⟨#[]⟩, .int .i64 0, nilS]) 3 48 Tryd.underlying28 hi0 hz0 hz1 hz2 rfl (by decide) (.slice A2 i k2) i (rowsN (rowV ks sm) i) rfl (hown5.alloc _) ⟨w5.heap.size, 0, none⟩ 1 1 [.string x.op, .int .i64 x.num, .slice A5 x.kids.length k5] rfl rfl ?c1 ?c2 (by decide) ?c3 ?c4 ?c5 _ rfl ?_)
        case c1 => exact news3 _ _ _ _ _ (by simp)
        case c2 => simp [Value.oneCell']
        case c3 => unfold maxLen; omega
        case c4 => omega
        case c5 => simp; omega
        intro g' cap' wa hown hgrow hat hlt1
        have HP := Lib.hid (H1.out.push (A2 := A2) (k2 := k2) HBX.out hb5 (by rw [HX.out]; exact hp5) (by rw [HX.out]; exact hown) hgrow (hat.imp id fun e => e.trans (by simp)))
        clear hb5 hp5 hown hgrow hat hlt1 hown5 hws z0 z1 z2
        go_wp2_with fail
        go_roundg (gk - 1)
        case measure => omega
        case rel => exact ⟨i + 1, _, by simp, by omega, HP.out⟩
end Go.Proofs.YtofijodndilmbaaDoor
