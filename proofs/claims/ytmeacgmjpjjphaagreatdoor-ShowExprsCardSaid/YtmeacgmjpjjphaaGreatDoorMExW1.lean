/- Unaries. PRINTED by genexw.py of this folder. -/
import Derived.Test.YtmeacgmjpjjphaaGreatDoorMExV
set_option linter.unusedVariables false
set_option linter.unusedSimpArgs false
namespace Go.Proofs.YtmeacgmjpjjphaaGreatDoor
open Go.RowKit Go.Shelf
open Tr (Nd TreeAt Own Ints)

theorem ints_one (w : World) (a : Int) : Tr.Ints (w.alloc (.cells #[.int .i64 a] 3)) (.slice (some ⟨w.heap.size, 0, none⟩) 1 1) [a] := (own_one (B := w.heap.size) (Nat.le_refl _) a).ints
set_option maxRecDepth 100000 in
set_option maxHeartbeats 16000000 in
theorem un_minus {d : Int} {item un : Ps Int} (h0 : 0 ≤ d) (h1 : d < 64) (hgi : GoodP item) (hgu : GoodP un) (hi : FnC 46 (d + 1) item) (hu : FnC 105 (d + 1) un)
    {B b t : Nat} {tv : Value} {ts l0 : List Tok} {v0 : Value} {ms0 : List (Nd × Value)} {w : World} (h : RdrAt B b t tv ts l0 d v0 ms0 w) (hIMinus : isT kMinus (hdT l0) = true)  :
    Calls Tryz.prog 105 #[.pointer (some ⟨b, 0, none⟩)] w fun e w' => PostG intV B b t tv ts d v0 ms0 w (unB item un l0 (ms0.map (·.1))) e w' := by
  obtain ⟨R, hR⟩ : ∃ R, unB item un l0 (ms0.map (·.1)) = R := ⟨_, rfl⟩
  have HOK := Lib.hid (show Ok' (fun _ l' m' => Pre l' m') R by rw [← hR]; exact (un_ok hgi hgu l0 _ h.pre).mono fun i l' m' h => h.1.pre)
  have HTK := Lib.hid h.pre.hd
  have HALL := Lib.hid (all_in hgi hi)
  have HG := Lib.hid (allT_ok hgi)
  have HU := Lib.hid hu
  have HGU := Lib.hid hgu
  have HARGS := Lib.hid (args_in hgi (all_in hgi hi))
  have HINS := Lib.hid (inside_in hgi (all_in hgi hi))
  have HIN := Lib.hid (into_ok h h0 h1)
  rw [hR]
  refine deep_calls (ts := ts) (l := l0) Tryz.func105 rfl h0 h1 (fun tmps W => by simp [results, Tryz.results105, go_sem]) ?_
  simp only [Tryz.ntmps105, List.size_toArray, List.length_cons, List.length_nil, Nat.reduceAdd, Nat.reduceSub, Array.replicate_succ, Array.replicate_zero, List.push_toArray, List.append_toArray, List.nil_append, List.cons_append]
  clear h hgi hgu hi hu
  go_wp2_with fail
  refine HIN.out.mono ?_
  rintro e wB ⟨rfl, hbx, hr, hm⟩
  have HI := Lib.hid (show InD w B b t tv ts l0 d v0 ms0 wB from ⟨hbx, hr, hm⟩)
  clear hbx hr hm HIN
  go_wp2_with fail
  refine (Next_in HI.out.rd).mono ?_
  rintro e w2 ⟨rfl, hb⟩
  have hb0 := hb.alloc hb.size (.cells #[.int .i64 (hdT l0).kind, .string (hdT l0).text, .int .i64 (hdT l0).num, .int .i64 (hdT l0).line, .int .i64 (hdT l0).col] 35)
  have HR0 := Lib.hid (HI.out.rd.under hb0)
  have HM0 := Lib.hid (Mw.of (b := b) (t := t) (v := v0) (ms := ms0) hb0)
  have HT0 := Lib.hid (last w2 (.cells #[.int .i64 (hdT l0).kind, .string (hdT l0).text, .int .i64 (hdT l0).num, .int .i64 (hdT l0).line, .int .i64 (hdT l0).col] 35))
  clear hb hb0
  unfold tokV
  go_upto_region 3 with fail
  generalize w2.heap.size = q at *
  generalize w2.alloc (.cells #[.int .i64 (hdT l0).kind, .string (hdT l0).text, .int .i64 (hdT l0).num, .int .i64 (hdT l0).line, .int .i64 (hdT l0).col] 35) = w0 at *
  have HQ0 := Lib.hid hR
  clear hR
  unfold unB at HQ0
  have hq := HQ0.out
  simp only [hIMinus, if_true, if_false, Bool.false_eq_true, Bool.false_or, Bool.true_or, Bool.or_true, Bool.or_false] at hq
  have HQ0 := Lib.hid hq
  clear hq
  go_wp2_with fail
  refine (take_yes (s := kMinus) HR0.out hIMinus).mono ?_
  rintro e w1 ⟨rfl, hr, hm⟩
  have HT1 := Lib.hid (hm.keep HR0.out HT0.out (by decide) (by decide) (by decide))
  have HM1 := Lib.hid (HM0.out.trans (Mw.same hm))
  have HR1 := Lib.hid hr
  clear hr hm
  have HQ1 := HQ0
  go_upto_region 4 with fail
  obtain ⟨t0, t1, t2, t3, t4⟩ := cellsOf5 HT1.out
  have hbw := (Below.refl w1.heap.size w1).drew
  cases ho : un l0.tail (ms0.map (·.1)) with
  | bad c ln cl =>
    have hq := HQ1.out
    rw [ho] at hq
    simp only [Out.bind] at hq
    subst hq
    have hsx : ∀ W, Below w1.heap.size w1 W → Calls Tryz.prog 105 #[.pointer (some ⟨b, 0, none⟩)] W fun e w' => e = .panicked (panicV c ln cl) ∧ Bad b t tv v0 wB w' := fun W hb => by
      have := HU.out B b t tv ts l0.tail v0 ms0 W (HR1.out.under hb)
      rw [ho] at this
      exact this.mono fun e w' ⟨h1, h2⟩ => ⟨h1, h2.after ((HM1.out.then hb).toMv)⟩
    have HZ := Lib.hid hsx
    clear hsx ho
    go_region_with
      (first | (go_at_call 105; refine (HZ.out _ (by with_reducible assumption)).mono ?_; rintro e w9 ⟨rfl, hbd⟩; refine dead (P := Tryz.prog) (w := w9) ⟨rfl, wB, HI.out, rfl, hbd⟩ ?_))
    all_goals trivial
  | ok a l2 m2 =>
    have hq := HQ1.out
    have hgs := HGU.out l0.tail (ms0.map (·.1)) HR1.out.pre
    rw [ho] at hq hgs
    simp only [Out.bind] at hq
    have hgs : Fit l0.tail (ms0.map (·.1)) a l2 m2 := hgs
    have hext : ms0.length ≤ m2.length := by simpa using hgs.1.ext.length_le
    have KKa := Lib.hid (show 0 ≤ a ∧ a < (m2.length : Int) from hgs.2.there a (by simp))
    have hsx : ∀ W, Below w1.heap.size w1 W → Calls Tryz.prog 105 #[.pointer (some ⟨b, 0, none⟩)] W fun e w' => e = .returned (.int .i64 a) ∧ ∃ v' ms', ms'.map (·.1) = m2 ∧ RdrAt B b t tv ts l2 (d + 1) v' ms' w' ∧ Mw b t v0 ms0 wB v' ms' w' ∧ w'.heap[q]? = some (.cells #[.int .i64 (hdT l0).kind, .string (hdT l0).text, .int .i64 (hdT l0).num, .int .i64 (hdT l0).line, .int .i64 (hdT l0).col] 35) := fun W hb => by
      have := HU.out B b t tv ts l0.tail v0 ms0 W (HR1.out.under hb)
      rw [ho] at this
      refine this.mono fun e w' hp => ?_
      have hk := hp.keep (HR1.out.under hb) ((hb.block _ (heap_lt HT1.out)).trans HT1.out) (by decide) (by decide) (by decide)
      obtain ⟨h1, v', ms', h2, h3, h4⟩ := hp
      exact ⟨h1, v', ms', h2, h3, (HM1.out.then hb).trans h4, hk⟩
    have hno : ∀ (v2 : Value) (ms2 : List (Nd × Value)) (W : World), ms2.map (·.1) = m2 → RdrAt B b t tv ts l2 (d + 1) v2 ms2 W → Mw b t v0 ms0 wB v2 ms2 W →
        Calls Tryz.prog 49 #[.pointer (some ⟨b, 0, none⟩), .string nNeg, .agg #[.int .i64 (hdT l0).kind, .string (hdT l0).text, .int .i64 (hdT l0).num, .int .i64 (hdT l0).line, .int .i64 (hdT l0).col], .string nNil, .slice (some ⟨W.heap.size, 0, none⟩) 1 1] (W.alloc (.cells #[.int .i64 a] 3)) fun e w' => PostG intV B b t tv ts (d + 1) v0 ms0 wB R e w' := fun v2 ms2 W hms hr hm => by
      have hb' := (Below.refl W.heap.size W).alloc (Nat.le_refl _) (.cells #[.int .i64 a] 3)
      have hlm : (ms2.length : Int) = m2.length := by rw [← hms]; simp
      have h := node_in (hr.under hb') (by have := hr.base; have := hr.lt; simp; omega) nNeg (hdT l0) nNil (ints_one W a) (by simp) (fun k hk => by
          rw [hlm]
          simp only [List.mem_cons, List.not_mem_nil, or_false] at hk
          rcases hk with rfl
          · exact KKa.out) (by rw [hms, hq]; exact HOK.out)
      rw [hms, hq] at h
      exact h.mono fun e w' hp => PostG.mv (hm.then hb') hp
    have HZ := Lib.hid hsx
    have HNO := Lib.hid hno
    clear hsx hno ho hq hgs hext
    cases R with
    | bad c ln cl =>
      go_region_with
        (first
          | (go_at_call 105; refine (HZ.out _ (by with_reducible assumption)).mono ?_; rintro e w9 ⟨rfl, v2, ms2, hms2, hr9, hm9, ht9⟩; obtain ⟨t0, t1, t2, t3, t4⟩ := cellsOf5 ht9; have t0' := fun o => cellA t0 o; have t1' := fun o => cellA t1 o; have t2' := fun o => cellA t2 o; have t3' := fun o => cellA t3 o; have t4' := fun o => cellA t4 o; clear ht9)
          | (go_at_call 49; refine (HNO.out _ _ _ hms2 hr9 hm9).mono ?_; rintro e w10 ⟨rfl, hbd⟩; refine dead (P := Tryz.prog) (w := w10) ⟨rfl, wB, HI.out, rfl, hbd⟩ ?_))
      all_goals trivial
    | ok i' l' m' =>
      go_region_with
        (first
          | (go_at_call 105; refine (HZ.out _ (by with_reducible assumption)).mono ?_; rintro e w9 ⟨rfl, v2, ms2, hms2, hr9, hm9, ht9⟩; obtain ⟨t0, t1, t2, t3, t4⟩ := cellsOf5 ht9; have t0' := fun o => cellA t0 o; have t1' := fun o => cellA t1 o; have t2' := fun o => cellA t2 o; have t3' := fun o => cellA t3 o; have t4' := fun o => cellA t4 o; clear ht9)
          | (go_at_call 49; refine (HNO.out _ _ _ hms2 hr9 hm9).mono ?_; rintro e w10 ⟨rfl, hx10⟩; unfold intV))
      all_goals
        go_wp2_with fail
        exact ⟨rfl, wB, _, HI.out, rfl, rfl, hx10⟩
end Go.Proofs.YtmeacgmjpjjphaaGreatDoor
