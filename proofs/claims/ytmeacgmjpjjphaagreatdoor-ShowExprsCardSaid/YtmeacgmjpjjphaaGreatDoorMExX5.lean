/- Items. PRINTED by genexx.py of this folder. -/
import Derived.Test.YtmeacgmjpjjphaaGreatDoorMExX0
import Derived.BigQuiet
set_option linter.unusedVariables false
set_option linter.unusedSimpArgs false
namespace Go.Proofs.YtmeacgmjpjjphaaGreatDoor
open Go.RowKit Go.Shelf
open Tr (Nd TreeAt Own Ints)
theorem below_drewN2 (w : World) : ∀ n, Below w.heap.size w (w.drewN n) := fun n => ⟨rfl, rfl, rfl, Nat.le_refl _, fun _ _ => rfl⟩
theorem RdrAt.step2 {B b t : Nat} {tv : Value} {ts l : List Tok} {d : Int} {v : Value} {ms : List (Nd × Value)} {w : World} (h : RdrAt B b t tv ts l d v ms w) (hk : (hdT l).kind ≠ 0) (hk2 : (hdT l.tail).kind ≠ 0) {n : Nat} (hn : n + l.length = ts.length) : RdrAt B b t tv ts l.tail.tail d v ms (w.setCell ⟨b, 2, none⟩ (.int .i64 ((n : Int) + 2))) := by
  have h1 := h.pre.tail hk
  have h2 := h1.pre.tail hk2
  obtain ⟨n', g1, g2⟩ := h.obj
  obtain rfl : n' = n := by omega
  have hl : l.tail.tail.length + 2 = l.length := by
    obtain ⟨x, r, rfl⟩ := h.pre.ends.cons
    obtain ⟨y, s, e⟩ := h1.pre.ends.cons
    simp only [List.tail_cons] at e
    subst e
    simp
  refine h.turned (n := n' + 2) ⟨rfl, rfl, rfl, by simp [World.setCell], fun k _ hk => Below.heap_setCell _ _ _ _ hk⟩ (by omega) (h2.suf.trans h1.suf) h2.pre ?_
  rw [setc g2 2]
  rfl
set_option maxRecDepth 100000 in
set_option maxHeartbeats 16000000 in
theorem it_set {d : Int} {item un : Ps Int} (h0 : 0 ≤ d) (h1 : d < 64) (hgi : GoodP item) (hgu : GoodP un) (hi : FnC 46 (d + 1) item) (hu : FnC 105 (d + 1) un)
    {B b t : Nat} {tv : Value} {ts l0 : List Tok} {v0 : Value} {ms0 : List (Nd × Value)} {w : World} (h : RdrAt B b t tv ts l0 d v0 ms0 w) (hILet : isT kLet (hdT l0) = false) (hIIf : isT kIf (hdT l0) = false) (hITry : isT kTry (hdT l0) = false) (hIRaise : isT kRaise (hdT l0) = false) (hIOut : isT kOut (hdT l0) = false) (HK1 : Hid ((hdT l0).kind = 1)) (HK4 : Hid ((hdT l0.tail).kind = 4)) (HK5 : Hid ((hdT l0.tail).text = kSet)) :
    Calls Tryz.prog 46 #[.pointer (some ⟨b, 0, none⟩)] w fun e w' => PostG intV B b t tv ts d v0 ms0 w (itemB item un l0 (ms0.map (·.1))) e w' := by
  obtain ⟨R, hR⟩ : ∃ R, itemB item un l0 (ms0.map (·.1)) = R := ⟨_, rfl⟩
  have HOK := Lib.hid (show Ok' (fun _ l' m' => Pre l' m') R by rw [← hR]; exact (item_ok hgi hgu l0 _ h.pre).mono fun i l' m' h => h.1.pre)
  have HALL := Lib.hid (all_in hgi hi)
  have HG := Lib.hid (allT_ok hgi)
  have HITEM := Lib.hid hi
  have HGI := Lib.hid hgi
  have HLV := Lib.hid (lev0_in hgu hu)
  have HGL := Lib.hid (lev_ok hgu 5)
  have HIN := Lib.hid (into_ok h h0 h1)
  rw [hR]
  refine deep_calls (ts := ts) (l := l0) Tryz.func46 rfl h0 h1 (fun tmps W => by simp [results, Tryz.results46, go_sem]) ?_
  simp only [Tryz.ntmps46, List.size_toArray, List.length_cons, List.length_nil, Nat.reduceAdd, Nat.reduceSub, Array.replicate_succ, Array.replicate_zero, List.push_toArray, List.append_toArray, List.nil_append, List.cons_append]
  clear h hgi hgu hi hu
  go_wp2_with fail
  refine HIN.out.mono ?_
  rintro e wB ⟨rfl, hbx, hr, hm⟩
  have HI := Lib.hid (show InD w B b t tv ts l0 d v0 ms0 wB from ⟨hbx, hr, hm⟩)
  clear hbx hr hm HIN
  go_wp2_with fail
  refine (Next_in HI.out.rd).mono ?_
  rintro e w2 ⟨rfl, hb⟩
  have hb0 := hb.alloc hb.size (.cells #[.int .i64 (hdT l0).kind, .string (hdT l0).text, .int .i64 (hdT l0).num, .int .i64 (hdT l0).line, .int .i64 (hdT l0).col] 35)
  have HR0 := Lib.hid (HI.out.rd.under hb0)
  have HM0 := Lib.hid (Mw.of (b := b) (t := t) (v := v0) (ms := ms0) hb0)
  have HT0 := Lib.hid (last w2 (.cells #[.int .i64 (hdT l0).kind, .string (hdT l0).text, .int .i64 (hdT l0).num, .int .i64 (hdT l0).line, .int .i64 (hdT l0).col] 35))
  clear hb hb0
  unfold tokV
  go_upto_region 3 with fail
  generalize w2.heap.size = q at *
  generalize w2.alloc (.cells #[.int .i64 (hdT l0).kind, .string (hdT l0).text, .int .i64 (hdT l0).num, .int .i64 (hdT l0).line, .int .i64 (hdT l0).col] 35) = w0 at *
  have HQ0 := Lib.hid hR
  clear hR
  unfold itemB at HQ0
  have hq := HQ0.out
  simp only [hILet, hIIf, hITry, hIRaise, hIOut, if_true, if_false, Bool.false_eq_true] at hq
  have HQ0 := Lib.hid hq
  clear hq
  go_wp2_with fail
  refine (take_no (s := kLet) HR0.out hILet).mono ?_
  rintro e w1 ⟨rfl, hb⟩
  have HT1 := Lib.hid ((hb.block _ (heap_lt HT0.out)).trans HT0.out)
  have HM1 := Lib.hid (HM0.out.then hb)
  have HR1 := Lib.hid (HR0.out.under hb)
  clear hb
  have HQ1 := HQ0
  go_wp2_with fail
  refine (take_no (s := kIf) HR1.out hIIf).mono ?_
  rintro e w2 ⟨rfl, hb⟩
  have HT2 := Lib.hid ((hb.block _ (heap_lt HT1.out)).trans HT1.out)
  have HM2 := Lib.hid (HM1.out.then hb)
  have HR2 := Lib.hid (HR1.out.under hb)
  clear hb
  have HQ2 := HQ1
  go_wp2_with fail
  refine (take_no (s := kTry) HR2.out hITry).mono ?_
  rintro e w3 ⟨rfl, hb⟩
  have HT3 := Lib.hid ((hb.block _ (heap_lt HT2.out)).trans HT2.out)
  have HM3 := Lib.hid (HM2.out.then hb)
  have HR3 := Lib.hid (HR2.out.under hb)
  clear hb
  have HQ3 := HQ2
  go_wp2_with fail
  refine (take_no (s := kRaise) HR3.out hIRaise).mono ?_
  rintro e w4 ⟨rfl, hb⟩
  have HT4 := Lib.hid ((hb.block _ (heap_lt HT3.out)).trans HT3.out)
  have HM4 := Lib.hid (HM3.out.then hb)
  have HR4 := Lib.hid (HR3.out.under hb)
  clear hb
  have HQ4 := HQ3
  go_wp2_with fail
  refine (take_no (s := kOut) HR4.out hIOut).mono ?_
  rintro e w5 ⟨rfl, hb⟩
  have HT5 := Lib.hid ((hb.block _ (heap_lt HT4.out)).trans HT4.out)
  have HM5 := Lib.hid (HM4.out.then hb)
  have HR5 := Lib.hid (HR4.out.under hb)
  clear hb
  have HQ5 := HQ4
  have hq := HQ5.out
  rw [if_pos ⟨HK1.out, HK4.out, HK5.out⟩] at hq
  have HQ5 := Lib.hid hq
  clear hq
  have hke : ((hdT l0).kind == 1) = true := by rw [HK1.out]; rfl
  have hk4 : ((hdT l0.tail).kind == 4) = true := by rw [HK4.out]; rfl
  obtain ⟨n, g, cap, hn, hcap, ⟨b0, b1, b2, b3⟩, hc⟩ := HR5.out.tok
  have hkd : (hdT l0).kind ≠ 0 := by rw [HK1.out]; decide
  obtain ⟨x0, r0, hl1⟩ := HR5.out.pre.ends.cons
  obtain ⟨x1, r1, hl2⟩ := (HR5.out.pre.tail hkd).pre.ends.cons
  have hlen2 : 2 ≤ l0.length := by
    rw [hl1] at hl2 ⊢
    simp only [List.tail_cons] at hl2
    rw [hl2]
    simp
  have hgd1 : l0.getD 1 zTok = hdT l0.tail := by
    rw [hl1]
    cases r0 <;> rfl
  clear hl1 hl2 x0 r0 x1 r1
  obtain ⟨k0, k1, k2, k3, k4⟩ := hc 1 (by omega)
  rw [hgd1] at k0 k1
  have HN := Lib.hid hn
  have hwr : IntKind.i64.wrap ((n : Int) + 1) = (n : Int) + 1 := IntWalk.i64_in _ ⟨by omega, by have := HR5.out.few; omega⟩
  have hn1 : (0 : Int) ≤ (n : Int) + 1 := by omega
  have hn2 : (n : Int) + 1 < (ts.length : Int) := by omega
  clear hcap hc hgd1 hlen2 k2 k3 k4 hn hkd
  rw [HK5.out] at k1
  replace k1 : w5.cell? ⟨g, (n + 1) * 5 + 1, none⟩ = some (.string ⟨#[58, 61]⟩) := k1
  obtain ⟨t0, t1, t2, t3, t4⟩ := cellsOf5 HT5.out
  go_upto_region 26 with fail
  go_quiet (fail)
  clear hke hk4 t0 t1 t2 t3 t4 b0 b1 b2 b3 k0 k1 hwr hn1 hn2
  have hbq := below_drewN2 w5 nq
  have HR6 := Lib.hid (HR5.out.under hbq)
  have HM6 := Lib.hid (HM5.out.then hbq)
  have HT6 := Lib.hid ((hbq.block _ (heap_lt HT5.out)).trans HT5.out)
  have HQ6 := HQ5
  clear hbq
  generalize w5.drewN nq = w6 at *
  obtain ⟨n6, g6, cap6, hn6, hcap6, ⟨b0, b1, b2, b3⟩, hc6⟩ := HR6.out.tok
  obtain rfl : n = n6 := by have := HN.out; omega
  have hfz := HR6.out.frozen 2
  have hw2 : IntKind.i64.wrap ((n : Int) + 2) = (n : Int) + 2 := IntWalk.i64_in _ ⟨by omega, by have := HR6.out.few; omega⟩
  clear hc6 hcap6 hn6 b0 b1 b3
  go_upto_region 28 with fail
  have HR7 := Lib.hid (HR6.out.step2 (by rw [HK1.out]; decide) (by rw [HK4.out]; decide) HN.out)
  have HM7 := Lib.hid (HM6.out.set 2 (.int .i64 ((n : Int) + 2)))
  have HT7 := Lib.hid (heap_far HT6.out (HR6.out.other HT6.out (by decide) (by decide) (by decide)).1 2 (.int .i64 ((n : Int) + 2)))
  have HQ7 := HQ6
  clear b2 hfz hw2
  generalize w6.setCell ⟨b, 2, none⟩ (.int .i64 ((n : Int) + 2)) = w7 at *
  go_upto_region 28 with fail
  obtain ⟨t0, t1, t2, t3, t4⟩ := cellsOf5 HT7.out
  have hbw := (Below.refl w7.heap.size w7).drew
  cases ho : levP un 5 l0.tail.tail (ms0.map (·.1)) with
  | bad c ln cl =>
    have hq := HQ7.out
    rw [ho] at hq
    simp only [Out.bind] at hq
    subst hq
    have hsx : ∀ W, Below w7.heap.size w7 W → Calls Tryz.prog 77 #[.pointer (some ⟨b, 0, none⟩), .int .i64 0] W fun e w' => e = .panicked (panicV c ln cl) ∧ Bad b t tv v0 wB w' := fun W hb => by
      have := HLV.out B b t tv ts l0.tail.tail v0 ms0 W (HR7.out.under hb)
      rw [ho] at this
      exact this.mono fun e w' ⟨h1, h2⟩ => ⟨h1, h2.after ((HM7.out.then hb).toMv)⟩
    have HZ := Lib.hid hsx
    clear hsx ho
    go_region_with
      (first | (go_at_call 77; refine (HZ.out _ (by with_reducible assumption)).mono ?_; rintro e w9 ⟨rfl, hbd⟩; refine dead (P := Tryz.prog) (w := w9) ⟨rfl, wB, HI.out, rfl, hbd⟩ ?_))
    all_goals trivial
  | ok a l8 m8 =>
    have hq := HQ7.out
    have hgs := HGL.out l0.tail.tail (ms0.map (·.1)) HR7.out.pre
    rw [ho] at hq hgs
    simp only [Out.bind] at hq
    have hgs : Fit l0.tail.tail (ms0.map (·.1)) a l8 m8 := hgs
    have hext : ms0.length ≤ m8.length := by simpa using hgs.1.ext.length_le
    have KKa := Lib.hid (show 0 ≤ a ∧ a < (m8.length : Int) from hgs.2.there a (by simp))
    have hsx : ∀ W, Below w7.heap.size w7 W → Calls Tryz.prog 77 #[.pointer (some ⟨b, 0, none⟩), .int .i64 0] W fun e w' => e = .returned (.int .i64 a) ∧ ∃ v' ms', ms'.map (·.1) = m8 ∧ RdrAt B b t tv ts l8 (d + 1) v' ms' w' ∧ Mw b t v0 ms0 wB v' ms' w' ∧ w'.heap[q]? = some (.cells #[.int .i64 (hdT l0).kind, .string (hdT l0).text, .int .i64 (hdT l0).num, .int .i64 (hdT l0).line, .int .i64 (hdT l0).col] 35) := fun W hb => by
      have := HLV.out B b t tv ts l0.tail.tail v0 ms0 W (HR7.out.under hb)
      rw [ho] at this
      refine this.mono fun e w' hp => ?_
      have hk := hp.keep (HR7.out.under hb) ((hb.block _ (heap_lt HT7.out)).trans HT7.out) (by decide) (by decide) (by decide)
      obtain ⟨h1, v', ms', h2, h3, h4⟩ := hp
      exact ⟨h1, v', ms', h2, h3, (HM7.out.then hb).trans h4, hk⟩
    have hno : ∀ (v2 : Value) (ms2 : List (Nd × Value)) (W : World), ms2.map (·.1) = m8 → RdrAt B b t tv ts l8 (d + 1) v2 ms2 W → Mw b t v0 ms0 wB v2 ms2 W →
        Calls Tryz.prog 49 #[.pointer (some ⟨b, 0, none⟩), .string nSet, .agg #[.int .i64 (hdT l0).kind, .string (hdT l0).text, .int .i64 (hdT l0).num, .int .i64 (hdT l0).line, .int .i64 (hdT l0).col], .string (hdT l0).text, .slice (some ⟨W.heap.size, 0, none⟩) 1 1] (W.alloc (.cells #[.int .i64 a] 3)) fun e w' => PostG intV B b t tv ts (d + 1) v0 ms0 wB R e w' := fun v2 ms2 W hms hr hm => by
      have hb' := (Below.refl W.heap.size W).alloc (Nat.le_refl _) (.cells #[.int .i64 a] 3)
      have hlm : (ms2.length : Int) = m8.length := by rw [← hms]; simp
      have h := node_in (hr.under hb') (by have := hr.base; have := hr.lt; simp; omega) nSet (hdT l0) (hdT l0).text (ints_one W a) (by simp) (fun k hk => by
          rw [hlm]
          simp only [List.mem_cons, List.not_mem_nil, or_false] at hk
          rcases hk with rfl
          · exact KKa.out) (by rw [hms, hq]; exact HOK.out)
      rw [hms, hq] at h
      exact h.mono fun e w' hp => PostG.mv (hm.then hb') hp
    have HZ := Lib.hid hsx
    have HNO := Lib.hid hno
    clear hsx hno ho hq hgs hext
    cases R with
    | bad c ln cl =>
      go_region_with
        (first
          | (go_at_call 77; refine (HZ.out _ (by with_reducible assumption)).mono ?_; rintro e w9 ⟨rfl, v2, ms2, hms2, hr9, hm9, ht9⟩; obtain ⟨t0, t1, t2, t3, t4⟩ := cellsOf5 ht9; have t0' := fun o => cellA t0 o; have t1' := fun o => cellA t1 o; have t2' := fun o => cellA t2 o; have t3' := fun o => cellA t3 o; have t4' := fun o => cellA t4 o; clear ht9)
          | (go_at_call 49; refine (HNO.out _ _ _ hms2 hr9 hm9).mono ?_; rintro e w10 ⟨rfl, hbd⟩; refine dead (P := Tryz.prog) (w := w10) ⟨rfl, wB, HI.out, rfl, hbd⟩ ?_))
      all_goals trivial
    | ok i' l' m' =>
      go_region_with
        (first
          | (go_at_call 77; refine (HZ.out _ (by with_reducible assumption)).mono ?_; rintro e w9 ⟨rfl, v2, ms2, hms2, hr9, hm9, ht9⟩; obtain ⟨t0, t1, t2, t3, t4⟩ := cellsOf5 ht9; have t0' := fun o => cellA t0 o; have t1' := fun o => cellA t1 o; have t2' := fun o => cellA t2 o; have t3' := fun o => cellA t3 o; have t4' := fun o => cellA t4 o; clear ht9)
          | (go_at_call 49; refine (HNO.out _ _ _ hms2 hr9 hm9).mono ?_; rintro e w10 ⟨rfl, hx10⟩; unfold intV))
      all_goals
        go_wp2_with fail
        exact ⟨rfl, wB, _, HI.out, rfl, rfl, hx10⟩
end Go.Proofs.YtmeacgmjpjjphaaGreatDoor
