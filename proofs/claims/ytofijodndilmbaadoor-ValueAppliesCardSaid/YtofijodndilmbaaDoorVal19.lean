/- What an op makes of values: the tree's Apply. -/
import Derived.Test.YtofijodndilmbaaDoorVal18
import Derived.Deep.CutBlock
set_option linter.unusedVariables false
set_option linter.unusedSimpArgs false
namespace Go.Proofs.YtofijodndilmbaaDoor
open Go.RowKit

noncomputable def rightB (v : V) : Bool := rightF (SizeOf.sizeOf v) v
noncomputable def allRight (ks : List V) : Bool := (List.range ks.length).all fun i => rightB (ks.getD i default)
/-- What an op makes of as many values. -/
def switchF (op : ByteArray) (ks : List V) : V × Bool := if ks.length = 1 then oneF op (ks.getD 0 default) else if ks.length = 2 then twoF op (ks.getD 0 default) (ks.getD 1 default) else (vZero, false)
/-- What an op makes of values; the error. -/
noncomputable def applyF (op : ByteArray) (ks : List V) : V × Int :=
  if allRight ks then if (switchF op ks).2 then if op.toList == lP && decide (1000 < wrap64 ((switchF op ks).1.parts : Int)) then (vZero, 6) else ((switchF op ks).1, 0) else (vZero, 10) else (vZero, 1)
/-- Values lie in a row. -/
def ListAt (w : World) (ks : List V) (A : Option Addr) (ss : Nat → Value) : Prop := RowAt w ks A ss ∧ ∀ i, i < ks.length → At w (ks.getD i default) (ss i)
theorem ListAt.under {w w' : World} {ks : List V} {A : Option Addr} {ss : Nat → Value} (h : ListAt w ks A ss) (hb : Below w.heap.size w w') : ListAt w' ks A ss := ⟨h.1.under hb, fun i hi => (h.2 i hi).under hb⟩
theorem ListAt.get {w : World} {ks : List V} {A : Option Addr} {ss : Nat → Value} (h : ListAt w ks A ss) {i : Nat} (hi : i < ks.length) : ∃ b off A1 k1, A = some ⟨b, off, none⟩ ∧
    (w.cell? ⟨b, off + i * 3, none⟩ = some (.string (ks.getD i default).op) ∧ w.cell? ⟨b, off + i * 3 + 1, none⟩ = some (.int .i64 (ks.getD i default).num) ∧ w.cell? ⟨b, off + i * 3 + 2, none⟩ = some (.slice A1 (ks.getD i default).kids.length k1)) ∧ At w (ks.getD i default) (.slice A1 (ks.getD i default).kids.length k1) := by
  have h2 := h.2 i hi
  obtain ⟨A1, k1, e, _, _⟩ := h2.inv
  rcases h.1 with h0 | ⟨b, off, rfl, h1⟩
  · omega
  · rw [e] at h2
    have h3 := h1 i hi
    rw [e] at h3
    exact ⟨b, off, A1, k1, rfl, h3, h2⟩
theorem right_pairB {v : V} (h : rightB v = true) : (v.op.toList == lP) = true → v.kids.length = 2 := fun h2 => right_kids h h2
theorem cell_set_ne {w : World} {a b : Addr} {v : Value} (h : b.block ≠ a.block) : (w.setCell a v).cell? b = w.cell? b := World.cell?_of_block (Below.heap_setCell _ _ _ _ h)
/-- Where Apply stands behind its switch: its result's block b, what came out in o. -/
structure Mid (w : World) (v : V) (ok : Bool) (okv : Value) (o : Nat) (wy : World) : Prop where
  below : Below w.heap.size w wy
  res : wy.heap[w.heap.size]? = some (.cells #[.string ⟨#[]⟩, .int .i64 0, nilS] 24)
  okv : okv = .bool ok
  out : ∃ A k, wy.heap[o]? = some (.cells #[.string v.op, .int .i64 v.num, .slice A v.kids.length k] 24) ∧ At wy v (.slice A v.kids.length k)

set_option maxRecDepth 100000 in
set_option maxHeartbeats 16000000 in
theorem Apply_in (op : ByteArray) (ks : List V) (A : Option Addr) (cap : Nat) (ss : Nat → Value) (w : World) (hmax : ks.length ≤ 2932031007317) (h : ListAt w ks A ss) :
    Calls Tryd.prog 18 #[.string op, .slice A ks.length cap] w fun e w' => (∃ s', e = .returned (.tuple #[aggV (applyF op ks).1 s', .int .i64 (applyF op ks).2]) ∧ AtP (fun k => w.heap.size ≤ k) w' (applyF op ks).1 s' ∧ ∃ xs, w'.ownsRow w.heap.size 24 3 s' (applyF op ks).1.kids.length xs) ∧ Below w.heap.size w w' := by
  have HA := Lib.hid h
  have HB0 := Lib.hid ((Below.refl w.heap.size w).alloc (Nat.le_refl _) (.cells #[.string ⟨#[]⟩, .int .i64 0, nilS] 24))
  have HL0 := Lib.hid (last w (.cells #[.string ⟨#[]⟩, .int .i64 0, nilS] 24))
  clear h
  have hr : ∃ r, applyF op ks = r := ⟨_, rfl⟩
  obtain ⟨r, hr⟩ := hr
  rw [hr]
  have HR := Lib.hid hr
  clear hr
  generalize hkl : ks.length = L at *
  have HKL := Lib.hid hkl
  clear hkl
  go_enter Tryd.func18, Tryd.ntmps18
  go_wp2_with fail
  generalize hW0 : w.alloc (.cells #[.string ⟨#[]⟩, .int .i64 0, nilS] 24) = W0 at *
  clear hW0
  go_loopg [12] L (fun gk iv wr => ∃ (i : Nat), iv = .int .i64 i ∧ i + gk = L ∧ (∀ j, j < i → rightB (ks.getD j default) = true) ∧ Below w.heap.size w wr ∧ wr.heap[w.heap.size]? = some (.cells #[.string ⟨#[]⟩, .int .i64 0, nilS] 24))
  case atStart => exact ⟨0, rfl, by omega, fun j hj => by omega, HB0.out, HL0.out⟩
  case round =>
    obtain ⟨i, rfl, hi, hall, hbe, hres⟩ := hrel
    have H1 := Lib.hid (And.intro hall (And.intro hbe hres))
    have hy := frozenOf hres
    have hlr := heap_lt hres
    obtain ⟨y0, y1, y2⟩ := cellsOf3 hres
    clear hall hbe hres
    by_cases e : i = L
    · subst e
      have HZ := Lib.hid (show Below w.heap.size w (wr.alloc (.cells #[.string ⟨#[]⟩, .int .i64 0, nilS] 24)) ∧ (wr.alloc (.cells #[.string ⟨#[]⟩, .int .i64 0, nilS] 24)).heap[w.heap.size]? = some (.cells #[.string ⟨#[]⟩, .int .i64 0, nilS] 24) ∧
          (wr.alloc (.cells #[.string ⟨#[]⟩, .int .i64 0, nilS] 24)).heap[wr.heap.size]? = some (.cells #[.string ⟨#[]⟩, .int .i64 0, nilS] 24) from
        ⟨H1.out.2.1.alloc (by omega) _, (Below.heap_alloc _ _ _ hlr).trans H1.out.2.2, last _ _⟩)
      clear hy y0 y1 y2
      go_upto_block 2 with fail
      generalize wr.alloc (.cells #[.string ⟨#[]⟩, .int .i64 0, nilS] 24) = W1 at *
      have HAL := Lib.hid (show allRight ks = true from List.all_eq_true.2 fun j hj => H1.out.1 j (by have := List.mem_range.1 hj; rw [← HKL.out]; exact this))
      have HRI := Lib.hid (fun j (hj : j < i) => right_pairB (H1.out.1 j hj))
      have hob : w.heap.size < wr.heap.size ∧ wr.heap.size < W1.heap.size := ⟨hlr, heap_lt HZ.out.2.2⟩
      have hob1 : w.heap.size < wr.heap.size := hlr
      clear H1
      generalize wr.heap.size = ob at *
      have HM := Lib.hid (show ∀ (v : V) (A5 : Option Addr) (k5 : Nat) (w3 : World), Below W1.heap.size W1 w3 → AtP (fun k => k < w.heap.size ∨ W1.heap.size ≤ k) w3 v (.slice A5 v.kids.length k5) → w3.heap[ob]? = some (.cells #[.string ⟨#[]⟩, .int .i64 0, nilS] 24) ∧
          ∀ ok : Bool, Mid w v ok (.bool ok) ob (((w3.setCell ⟨ob, 0, none⟩ (.string v.op)).setCell ⟨ob, 1, none⟩ (.int .i64 v.num)).setCell ⟨ob, 2, none⟩ (.slice A5 v.kids.length k5)) from fun v A5 k5 w3 hb3 hp => by
        have hset : ∀ k, k ≠ ob → (((w3.setCell ⟨ob, 0, none⟩ (.string v.op)).setCell ⟨ob, 1, none⟩ (.int .i64 v.num)).setCell ⟨ob, 2, none⟩ (.slice A5 v.kids.length k5)).heap[k]? = w3.heap[k]? := fun k hk => by
          rw [Below.heap_setCell _ _ _ _ hk, Below.heap_setCell _ _ _ _ hk, Below.heap_setCell _ _ _ _ hk]
        have ho3 := (hb3.block _ hob.2).trans HZ.out.2.2
        refine ⟨ho3, fun ok => ⟨set_below (HZ.out.1.trans (hb3.mono HZ.out.1.size)) (by omega) _ _ _, ?_, rfl, _, _, set3 ho3 _ _ _, ?_⟩⟩
        · rw [hset _ (by omega), hb3.block _ (by omega)]
          exact HZ.out.2.1
        · exact (hp.step (Q := fun _ => True) (by simp [World.setCell]) fun k hk hP => ⟨hset k (by omega), trivial⟩).at)
      clear hob hlr
      go_cut [9] from 24 to 46 (fun okv wy => Mid w (switchF op ks).1 (switchF op ks).2 okv ob wy)
      case first =>
        by_cases h1 : i = 1
        · subst h1
          obtain ⟨b1, o1, A1, k1, rfl, ⟨p0, p1, p2⟩, hat1⟩ := HA.out.get (i := 0) (by rw [HKL.out]; decide)
          have hbZ := HZ.out.1
          have hc := One_in (P := fun k => k < w.heap.size) op _ _ W1 (HRI.out 0 (by decide)) (hat1.toP.under hbZ)
          have hsw : switchF op ks = oneF op (ks.getD 0 default) := by
            unfold switchF
            rw [if_pos HKL.out]
          have HSW := Lib.hid hsw
          replace p0 := (World.cell?_of_block (hbZ.block _ (cell_lt p0))).trans p0
          replace p1 := (World.cell?_of_block (hbZ.block _ (cell_lt p1))).trans p1
          replace p2 := (World.cell?_of_block (hbZ.block _ (cell_lt p2))).trans p2
          simp only [Nat.zero_mul, Nat.add_zero] at p0 p1 p2
          clear hat1 hbZ hsw
          unfold aggV at hc
          generalize ks.getD 0 default = x at *
          generalize oneF op x = o at *
          generalize x.op = xo at *
          generalize x.num = xn at *
          go_wp2_with fail
          refine hc.mono ?_
          clear hc
          rintro e w3 ⟨⟨s', rfl, hp⟩, hb3⟩
          obtain ⟨A5, k5, rfl⟩ := hp.form
          have hm := HM.out _ _ _ _ hb3 hp
          have hz3 := frozenOf hm.1
          obtain ⟨z0, z1, z2⟩ := cellsOf3 hm.1
          have HM2 := Lib.hid (hm.2 o.2)
          clear hm hp hb3 p0 p1 p2
          go_wp2_with fail
          go_meet
          rw [HSW.out]
          exact HM2.out
        · by_cases h2 : i = 2
          · subst h2
            obtain ⟨b1, o1, A1, k1, rfl, ⟨p0, p1, p2⟩, hat1⟩ := HA.out.get (i := 0) (by rw [HKL.out]; decide)
            obtain ⟨b2, o2, A2, k2, e2, ⟨q0, q1, q2⟩, hat2⟩ := HA.out.get (i := 1) (by rw [HKL.out]; decide)
            obtain ⟨rfl, rfl⟩ : b2 = b1 ∧ o2 = o1 := by
              have := e2.symm
              simpa using this
            have hbZ := HZ.out.1
            have hx0 := p0
            have hc := Two_in (P := fun k => k < w.heap.size) op _ _ _ _ W1.drew (hat1.toP.under hbZ.drew) (hat2.toP.under hbZ.drew)
            have hsw : switchF op ks = twoF op (ks.getD 0 default) (ks.getD 1 default) := by
              unfold switchF
              rw [if_neg (by rw [HKL.out]; decide), if_pos HKL.out]
            have HSW := Lib.hid hsw
            replace p0 := (World.cell?_of_block (hbZ.block _ (cell_lt p0))).trans p0
            replace p1 := (World.cell?_of_block (hbZ.block _ (cell_lt p1))).trans p1
            replace p2 := (World.cell?_of_block (hbZ.block _ (cell_lt p2))).trans p2
            replace q0 := (World.cell?_of_block (hbZ.block _ (cell_lt q0))).trans q0
            replace q1 := (World.cell?_of_block (hbZ.block _ (cell_lt q1))).trans q1
            replace q2 := (World.cell?_of_block (hbZ.block _ (cell_lt q2))).trans q2
            simp only [Nat.zero_mul, Nat.add_zero, Nat.one_mul] at p0 p1 p2 q0 q1 q2
            have HBL := Lib.hid (show b2 ≠ ob from fun e => by
              have h1 := cell_lt hx0
              simp only at h1
              omega)
            have HD := Lib.hid (show ∀ w3, Below W1.heap.size W1 w3 → w3.cell? ⟨b2, o2, none⟩ = some (.string (ks.getD 0 default).op) ∧ w3.cell? ⟨b2, o2 + 1, none⟩ = some (.int .i64 (ks.getD 0 default).num) ∧ w3.cell? ⟨b2, o2 + 2, none⟩ = some (.slice A1 (ks.getD 0 default).kids.length k1) ∧ w3.cell? ⟨b2, o2 + 3, none⟩ = some (.string (ks.getD 1 default).op) ∧ w3.cell? ⟨b2, o2 + 3 + 1, none⟩ = some (.int .i64 (ks.getD 1 default).num) ∧ w3.cell? ⟨b2, o2 + 3 + 2, none⟩ = some (.slice A2 (ks.getD 1 default).kids.length k2) from fun w3 hb =>
              ⟨(World.cell?_of_block (hb.block _ (cell_lt p0))).trans p0, (World.cell?_of_block (hb.block _ (cell_lt p1))).trans p1, (World.cell?_of_block (hb.block _ (cell_lt p2))).trans p2, (World.cell?_of_block (hb.block _ (cell_lt q0))).trans q0, (World.cell?_of_block (hb.block _ (cell_lt q1))).trans q1, (World.cell?_of_block (hb.block _ (cell_lt q2))).trans q2⟩)
            clear hat1 hat2 hbZ hsw e2 hx0
            unfold aggV at hc
            generalize ks.getD 0 default = x at *
            generalize ks.getD 1 default = y at *
            generalize twoF op x y = o at *
            generalize x.op = xo at *
            generalize x.num = xn at *
            generalize y.op = yo at *
            generalize y.num = yn at *
            go_wp2_with fail
            go_region_held3 (fun w' => w'.cell? ⟨b2, o2, none⟩ = some (.string xo) ∧ w'.cell? ⟨b2, o2 + 1, none⟩ = some (.int .i64 xn) ∧ w'.cell? ⟨b2, o2 + 2, none⟩ = some (.slice A1 x.kids.length k1) ∧ w'.cell? ⟨b2, o2 + 3, none⟩ = some (.string yo) ∧ w'.cell? ⟨b2, o2 + 3 + 1, none⟩ = some (.int .i64 yn) ∧ w'.cell? ⟨b2, o2 + 3 + 2, none⟩ = some (.slice A2 y.kids.length k2)) (first | exact ⟨by assumption, by assumption, by assumption, by assumption, by assumption, by assumption⟩ | exact ⟨by (rw [cell_set_ne (by exact HBL.out), cell_set_ne (by exact HBL.out), cell_set_ne (by exact HBL.out)]; assumption), by (rw [cell_set_ne (by exact HBL.out), cell_set_ne (by exact HBL.out), cell_set_ne (by exact HBL.out)]; assumption), by (rw [cell_set_ne (by exact HBL.out), cell_set_ne (by exact HBL.out), cell_set_ne (by exact HBL.out)]; assumption), by (rw [cell_set_ne (by exact HBL.out), cell_set_ne (by exact HBL.out), cell_set_ne (by exact HBL.out)]; assumption), by (rw [cell_set_ne (by exact HBL.out), cell_set_ne (by exact HBL.out), cell_set_ne (by exact HBL.out)]; assumption), by (rw [cell_set_ne (by exact HBL.out), cell_set_ne (by exact HBL.out), cell_set_ne (by exact HBL.out)]; assumption)⟩)
              ((go_at_call 25; refine hc.mono ?_; rintro e w3 ⟨⟨s', rfl, hp⟩, hb3⟩; obtain ⟨A5, k5, rfl⟩ := hp.form; have hm := HM.out _ _ _ _ ((Below.refl _ W1).drew.trans hb3) hp; have hz3 := frozenOf hm.1; obtain ⟨z0, z1, z2⟩ := cellsOf3 hm.1; obtain ⟨d0, d1, d2, d3, d4, d5⟩ := HD.out w3 ((Below.refl _ W1).drew.trans hb3)))
            all_goals
              have HM2 := Lib.hid (hm.2 o.2)
              clear hm hp hb3 p0 p1 p2 q0 q1 q2
              go_wp2_with fail
              go_meet
              rw [HSW.out]
              exact HM2.out
          · have hn1 : ((i : Int) == 1) = false := by
              rw [show (1 : Int) = ((1 : Nat) : Int) from rfl, int_eq]
              exact decide_eq_false h1
            have hn2 : ((i : Int) == 2) = false := by
              rw [show (2 : Int) = ((2 : Nat) : Int) from rfl, int_eq]
              exact decide_eq_false h2
            have hsw : switchF op ks = (vZero, false) := by
              unfold switchF
              rw [if_neg (by rw [HKL.out]; exact h1), if_neg (by rw [HKL.out]; exact h2)]
            have HSW := Lib.hid hsw
            clear hsw
            go_wp2_with fail
            go_meet
            rw [HSW.out]
            exact ⟨HZ.out.1, HZ.out.2.1, rfl, _, _, HZ.out.2.2, .leaf⟩
      case rest =>
        have hap : applyF op ks = (if (switchF op ks).2 then if op.toList == lP && decide (1000 < wrap64 ((switchF op ks).1.parts : Int)) then (vZero, 6) else ((switchF op ks).1, 0) else (vZero, 10)) := by
          unfold applyF
          rw [HAL.out]
          rfl
        rw [HR.out] at hap
        have HAP := Lib.hid hap
        clear hap HRI HAL HM HA
        generalize hsw : switchF op ks = o at *
        have HSW := Lib.hid hsw
        clear hsw
        obtain ⟨hbe, hres, rfl, A5, k5, hob, hat⟩ := hcut
        have HC := Lib.hid (And.intro hbe (And.intro hres (And.intro hob hat)))
        have hz5 := frozenOf hres
        obtain ⟨z0, z1, z2⟩ := cellsOf3 hres
        obtain ⟨y0, y1, y2⟩ := cellsOf3 hob
        clear hbe hres hob hat
        obtain ⟨ov, ok⟩ := o
        simp only at z0 z1 z2 y0 y1 y2
        have HQ := Lib.hid (And.intro HC.out.1 (And.intro HC.out.2.1 (heap_lt HC.out.2.1)))
        cases ok with
        | false =>
          have HRR := Lib.hid (show r = (vZero, 10) by rw [HAP.out]; simp)
          go_wp2_with fail
          have HS := Lib.hid (set3 HQ.out.2.1 (.string ⟨#[]⟩) (.int .i64 0) nilS)
          obtain ⟨r0, r1, r2⟩ := cellsOf3 HS.out
          rw [HRR.out]
          exact bodyPost_ret (v := .tuple #[.agg #[.string ⟨#[]⟩, .int .i64 0, nilS], .int .i64 10]) (by simp [results, Tryd.results18, go_sem, r0, r1, r2]) rfl ⟨⟨nilS, rfl, .leaf, _, World.ownsRow_nil _ _ _ _⟩, set_below HQ.out.1 (Nat.le_refl _) _ _ _⟩
        | true =>
          cases hpr : (op.toList == lP) with
          | false =>
            have HRR := Lib.hid (show r = (ov, 0) by rw [HAP.out, hpr]; simp)
            have hc := Own_in _ wc _ _ (Nat.le_refl _) HC.out.2.2.2
            replace hc : Calls Tryd.prog _ #[.agg #[.string ov.op, .int .i64 ov.num, .slice A5 ov.kids.length k5]] _ fun e w' => (∃ s', e = .returned (aggV ov s') ∧ AtP (fun k => wc.heap.size ≤ k) w' ov s' ∧ ∃ xs, w'.ownsRow wc.heap.size 24 3 s' ov.kids.length xs) ∧ Below wc.heap.size wc w' := hc
            unfold aggV at hc
            go_wp2_with fail
            refine hc.mono ?_
            clear hc
            rintro e w6 ⟨⟨s6, rfl, hp6, xs, hrow⟩, hb6⟩
            obtain ⟨A6, k6, rfl⟩ := hp6.form
            have hr6 := (hb6.block _ HQ.out.2.2).trans HQ.out.2.1
            have hz6 := frozenOf hr6
            obtain ⟨g0, g1, g2⟩ := cellsOf3 hr6
            have HE := Lib.hid (And.intro (HQ.out.1.trans (hb6.mono HQ.out.1.size)) (And.intro hr6 (And.intro hp6 hrow)))
            clear hb6 hr6 hp6 hrow
            go_wp2_with fail
            have HS := Lib.hid (set3 HE.out.2.1 (.string ov.op) (.int .i64 ov.num) (.slice A6 ov.kids.length k6))
            obtain ⟨r0, r1, r2⟩ := cellsOf3 HS.out
            have hset : ∀ k, k ≠ w.heap.size → (((w6.setCell ⟨w.heap.size, 0, none⟩ (.string ov.op)).setCell ⟨w.heap.size, 1, none⟩ (.int .i64 ov.num)).setCell ⟨w.heap.size, 2, none⟩ (.slice A6 ov.kids.length k6)).heap[k]? = w6.heap[k]? := fun k hk => by
              rw [Below.heap_setCell _ _ _ _ hk, Below.heap_setCell _ _ _ _ hk, Below.heap_setCell _ _ _ _ hk]
            have hqs := HQ.out.2.2
            rw [HRR.out]
            exact bodyPost_ret (v := .tuple #[.agg #[.string ov.op, .int .i64 ov.num, .slice A6 ov.kids.length k6], .int .i64 0]) (by simp [results, Tryd.results18, go_sem, r0, r1, r2]) rfl ⟨⟨_, rfl, HE.out.2.2.1.step (by simp [World.setCell]) (fun k hk hP => ⟨hset k (by omega), by omega⟩), _, row_base (owns_block HE.out.2.2.2 fun k hk => hset k (by have := (row_lt HE.out.2.2.2 hk).1; omega)) (by omega)⟩, set_below HE.out.1 (Nat.le_refl _) _ _ _⟩
          | true =>
            have hc := parts_in _ wc _ _ (Nat.le_refl _) HC.out.2.2.2
            replace hc : Calls Tryd.prog _ #[.agg #[.string ov.op, .int .i64 ov.num, .slice A5 ov.kids.length k5]] _ fun e w' => e = .returned (.int .i64 (wrap64 ov.parts)) ∧ Below wc.heap.size wc w' := hc
            have hpt : ∃ z, wrap64 (ov.parts : Int) = z := ⟨_, rfl⟩
            obtain ⟨z, hpt⟩ := hpt
            rw [hpt] at hc
            have HPT := Lib.hid (And.intro hpt hpr)
            clear hpt
            have hrr := HAP.out
            simp only [if_true, HPT.out.1, HPT.out.2, Bool.true_and] at hrr
            have HRA := Lib.hid hrr
            clear hrr
            go_wp2_with fail
            refine hc.mono ?_
            clear hc
            rintro e w5 ⟨rfl, hb5⟩
            have hr5 := (hb5.block _ HQ.out.2.2).trans HQ.out.2.1
            have ho5 := (hb5.block _ (heap_lt HC.out.2.2.1)).trans HC.out.2.2.1
            have ha5 := HC.out.2.2.2.under hb5
            have hb5' := HQ.out.1.trans (hb5.mono HQ.out.1.size)
            have HC5 := Lib.hid ha5
            clear HC
            clear HQ z0 z1 z2 y0 y1 y2 hz5
            have HQ := Lib.hid (And.intro hb5' (And.intro hr5 (heap_lt hr5)))
            have hz5 := frozenOf hr5
            obtain ⟨z0, z1, z2⟩ := cellsOf3 hr5
            obtain ⟨y0, y1, y2⟩ := cellsOf3 ho5
            clear hb5 hr5 ho5 ha5 hb5'
            by_cases hgt : 1000 < z
            · have HRR := Lib.hid (show r = (vZero, 6) by rw [HRA.out, decide_eq_true hgt]; rfl)
              go_wp2_with fail
              have HS := Lib.hid (set3 HQ.out.2.1 (.string ⟨#[]⟩) (.int .i64 0) nilS)
              obtain ⟨r0, r1, r2⟩ := cellsOf3 HS.out
              rw [HRR.out]
              exact bodyPost_ret (v := .tuple #[.agg #[.string ⟨#[]⟩, .int .i64 0, nilS], .int .i64 6]) (by simp [results, Tryd.results18, go_sem, r0, r1, r2]) rfl ⟨⟨nilS, rfl, .leaf, _, World.ownsRow_nil _ _ _ _⟩, set_below HQ.out.1 (Nat.le_refl _) _ _ _⟩
            · have HRR := Lib.hid (show r = (ov, 0) by rw [HRA.out, decide_eq_false hgt]; rfl)
              have hc := Own_in _ w5 _ _ (Nat.le_refl _) HC5.out
              replace hc : Calls Tryd.prog _ #[.agg #[.string ov.op, .int .i64 ov.num, .slice A5 ov.kids.length k5]] _ fun e w' => (∃ s', e = .returned (aggV ov s') ∧ AtP (fun k => w5.heap.size ≤ k) w' ov s' ∧ ∃ xs, w'.ownsRow w5.heap.size 24 3 s' ov.kids.length xs) ∧ Below w5.heap.size w5 w' := hc
              unfold aggV at hc
              go_wp2_with fail
              refine hc.mono ?_
              clear hc
              rintro e w6 ⟨⟨s6, rfl, hp6, xs, hrow⟩, hb6⟩
              obtain ⟨A6, k6, rfl⟩ := hp6.form
              have hr6 := (hb6.block _ HQ.out.2.2).trans HQ.out.2.1
              have hz6 := frozenOf hr6
              obtain ⟨g0, g1, g2⟩ := cellsOf3 hr6
              have HE := Lib.hid (And.intro (HQ.out.1.trans (hb6.mono HQ.out.1.size)) (And.intro hr6 (And.intro hp6 hrow)))
              clear hb6 hr6 hp6 hrow
              go_wp2_with fail
              have HS := Lib.hid (set3 HE.out.2.1 (.string ov.op) (.int .i64 ov.num) (.slice A6 ov.kids.length k6))
              obtain ⟨r0, r1, r2⟩ := cellsOf3 HS.out
              have hset : ∀ k, k ≠ w.heap.size → (((w6.setCell ⟨w.heap.size, 0, none⟩ (.string ov.op)).setCell ⟨w.heap.size, 1, none⟩ (.int .i64 ov.num)).setCell ⟨w.heap.size, 2, none⟩ (.slice A6 ov.kids.length k6)).heap[k]? = w6.heap[k]? := fun k hk => by
                rw [Below.heap_setCell _ _ _ _ hk, Below.heap_setCell _ _ _ _ hk, Below.heap_setCell _ _ _ _ hk]
              have hqs := HQ.out.2.2
              rw [HRR.out]
              exact bodyPost_ret (v := .tuple #[.agg #[.string ov.op, .int .i64 ov.num, .slice A6 ov.kids.length k6], .int .i64 0]) (by simp [results, Tryd.results18, go_sem, r0, r1, r2]) rfl ⟨⟨_, rfl, HE.out.2.2.1.step (by simp [World.setCell]) (fun k hk hP => ⟨hset k (by omega), by omega⟩), _, row_base (owns_block HE.out.2.2.2 fun k hk => hset k (by have := (row_lt HE.out.2.2.2 hk).1; omega)) (by omega)⟩, set_below HE.out.1 (Nat.le_refl _) _ _ _⟩
    · have hil : i < L := by omega
      have hil' : i < ks.length := by rw [HKL.out]; exact hil
      obtain ⟨b1, o1, A1, k1, rfl, ⟨p0, p1, p2⟩, hat1⟩ := (HA.out.under H1.out.2.1).get hil'
      have hbw : Below wr.heap.size wr (wr.alloc (.cells #[.string (ks.getD i default).op, .int .i64 (ks.getD i default).num, .slice A1 (ks.getD i default).kids.length k1] 24)) := (Below.refl wr.heap.size wr).alloc (Nat.le_refl _) _
      have hc := Right_in _ _ _ _ (Nat.le_refl _) (hat1.under hbw)
      have HBW := Lib.hid (And.intro (H1.out.2.1.trans (hbw.mono H1.out.2.1.size)) (And.intro ((hbw.block _ hlr).trans H1.out.2.2) (show w.heap.size < (wr.alloc (.cells #[.string (ks.getD i default).op, .int .i64 (ks.getD i default).num, .slice A1 (ks.getD i default).kids.length k1] 24)).heap.size by simp; omega)))
      have hi0 : (0 : Int) ≤ (i : Int) := by omega
      clear hat1 hbw
      unfold aggV at hc
      have hrb : ∃ b, rightB (ks.getD i default) = b := ⟨_, rfl⟩
      obtain ⟨rb, hrb⟩ := hrb
      replace hc : Calls Tryd.prog _ _ _ fun e w' => e = .returned (.bool (rightB (ks.getD i default))) ∧ Below _ _ w' := hc
      rw [hrb] at hc
      have HRB := Lib.hid hrb
      clear hrb
      generalize hx : ks.getD i default = x at *
      have HX := Lib.hid hx
      clear hx
      generalize x.op = xo at *
      generalize x.num = xn at *
      go_wp2_with fail
      refine hc.mono ?_
      clear hc
      rintro e w3 ⟨rfl, hb3⟩
      have hr3 := (hb3.block _ HBW.out.2.2).trans HBW.out.2.1
      have HB3 := Lib.hid (And.intro (HBW.out.1.trans (hb3.mono HBW.out.1.size)) hr3)
      have hz3 := frozenOf hr3
      obtain ⟨z0, z1, z2⟩ := cellsOf3 hr3
      clear hb3 p0 p1 p2 hy hlr y0 y1 y2 hr3
      cases rb with
      | true =>
        go_wp2_with fail
        go_roundg (gk - 1)
        case measure => omega
        case rel =>
          refine ⟨i + 1, by simp, by omega, fun j hj => ?_, HB3.out.1, HB3.out.2⟩
          by_cases ej : j = i
          · subst ej
            rw [HX.out]
            exact HRB.out
          · exact H1.out.1 j (by omega)
      | false =>
        go_wp2_with fail
        have HS := Lib.hid (set3 HB3.out.2 (.string ⟨#[]⟩) (.int .i64 0) nilS)
        obtain ⟨r0, r1, r2⟩ := cellsOf3 HS.out
        have hap : applyF op ks = (vZero, 1) := by
          have : allRight ks = false := by
            unfold allRight
            rw [List.all_eq_false]
            exact ⟨i, List.mem_range.2 hil', by rw [HX.out, HRB.out]; simp⟩
          unfold applyF
          rw [this]
          rfl
        rw [← HR.out, hap]
        exact bodyPost_ret (v := .tuple #[.agg #[.string ⟨#[]⟩, .int .i64 0, nilS], .int .i64 1]) (by simp [results, Tryd.results18, go_sem, r0, r1, r2]) rfl ⟨⟨nilS, rfl, .leaf, _, World.ownsRow_nil _ _ _ _⟩, set_below HB3.out.1 (Nat.le_refl _) _ _ _⟩
end Go.Proofs.YtofijodndilmbaaDoor
