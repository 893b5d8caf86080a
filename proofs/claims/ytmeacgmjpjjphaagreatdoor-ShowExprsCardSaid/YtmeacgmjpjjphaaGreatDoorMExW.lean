/- Unaries: all ways. -/
import Derived.Test.YtmeacgmjpjjphaaGreatDoorMExW1
import Derived.Test.YtmeacgmjpjjphaaGreatDoorMExW2
set_option linter.unusedVariables false
set_option linter.unusedSimpArgs false
namespace Go.Proofs.YtmeacgmjpjjphaaGreatDoor
open Go.RowKit Go.Shelf
open Tr (Nd TreeAt Own Ints)


set_option maxRecDepth 100000 in
set_option maxHeartbeats 16000000 in
theorem un_bang {d : Int} {item un : Ps Int} (h0 : 0 ≤ d) (h1 : d < 64) (hgi : GoodP item) (hgu : GoodP un) (hi : FnC 46 (d + 1) item) (hu : FnC 105 (d + 1) un)
    {B b t : Nat} {tv : Value} {ts l0 : List Tok} {v0 : Value} {ms0 : List (Nd × Value)} {w : World} (h : RdrAt B b t tv ts l0 d v0 ms0 w) (hIMinus : isT kMinus (hdT l0) = false) (hINot : isT kNot (hdT l0) = false) (hIFst : isT kFst (hdT l0) = false) (hISnd : isT kSnd (hdT l0) = false) (hIBang : isT kBang (hdT l0) = true)  :
    Calls Tryz.prog 105 #[.pointer (some ⟨b, 0, none⟩)] w fun e w' => PostG intV B b t tv ts d v0 ms0 w (unB item un l0 (ms0.map (·.1))) e w' := by
  obtain ⟨R, hR⟩ : ∃ R, unB item un l0 (ms0.map (·.1)) = R := ⟨_, rfl⟩
  have HOK := Lib.hid (show Ok' (fun _ l' m' => Pre l' m') R by rw [← hR]; exact (un_ok hgi hgu l0 _ h.pre).mono fun i l' m' h => h.1.pre)
  have HTK := Lib.hid h.pre.hd
  have HALL := Lib.hid (all_in hgi hi)
  have HG := Lib.hid (allT_ok hgi)
  have HU := Lib.hid hu
  have HGU := Lib.hid hgu
  have HARGS := Lib.hid (args_in hgi (all_in hgi hi))
  have HINS := Lib.hid (inside_in hgi (all_in hgi hi))
  have HIN := Lib.hid (into_ok h h0 h1)
  rw [hR]
  refine deep_calls (ts := ts) (l := l0) Tryz.func105 rfl h0 h1 (fun tmps W => by simp [results, Tryz.results105, go_sem]) ?_
  simp only [Tryz.ntmps105, List.size_toArray, List.length_cons, List.length_nil, Nat.reduceAdd, Nat.reduceSub, Array.replicate_succ, Array.replicate_zero, List.push_toArray, List.append_toArray, List.nil_append, List.cons_append]
  clear h hgi hgu hi hu
  go_wp2_with fail
  refine HIN.out.mono ?_
  rintro e wB ⟨rfl, hbx, hr, hm⟩
  have HI := Lib.hid (show InD w B b t tv ts l0 d v0 ms0 wB from ⟨hbx, hr, hm⟩)
  clear hbx hr hm HIN
  go_wp2_with fail
  refine (Next_in HI.out.rd).mono ?_
  rintro e w2 ⟨rfl, hb⟩
  have hb0 := hb.alloc hb.size (.cells #[.int .i64 (hdT l0).kind, .string (hdT l0).text, .int .i64 (hdT l0).num, .int .i64 (hdT l0).line, .int .i64 (hdT l0).col] 35)
  have HR0 := Lib.hid (HI.out.rd.under hb0)
  have HM0 := Lib.hid (Mw.of (b := b) (t := t) (v := v0) (ms := ms0) hb0)
  have HT0 := Lib.hid (last w2 (.cells #[.int .i64 (hdT l0).kind, .string (hdT l0).text, .int .i64 (hdT l0).num, .int .i64 (hdT l0).line, .int .i64 (hdT l0).col] 35))
  clear hb hb0
  unfold tokV
  go_upto_region 3 with fail
  generalize w2.heap.size = q at *
  generalize w2.alloc (.cells #[.int .i64 (hdT l0).kind, .string (hdT l0).text, .int .i64 (hdT l0).num, .int .i64 (hdT l0).line, .int .i64 (hdT l0).col] 35) = w0 at *
  have HQ0 := Lib.hid hR
  clear hR
  unfold unB at HQ0
  have hq := HQ0.out
  simp only [hIMinus, hINot, hIFst, hISnd, hIBang, if_true, if_false, Bool.false_eq_true, Bool.false_or, Bool.true_or, Bool.or_true, Bool.or_false] at hq
  have HQ0 := Lib.hid hq
  clear hq
  go_wp2_with fail
  refine (take_no (s := kMinus) HR0.out hIMinus).mono ?_
  rintro e w1 ⟨rfl, hb⟩
  have HT1 := Lib.hid ((hb.block _ (heap_lt HT0.out)).trans HT0.out)
  have HM1 := Lib.hid (HM0.out.then hb)
  have HR1 := Lib.hid (HR0.out.under hb)
  clear hb
  have HQ1 := HQ0
  go_wp2_with fail
  refine (take_no (s := kNot) HR1.out hINot).mono ?_
  rintro e w2 ⟨rfl, hb⟩
  have HT2 := Lib.hid ((hb.block _ (heap_lt HT1.out)).trans HT1.out)
  have HM2 := Lib.hid (HM1.out.then hb)
  have HR2 := Lib.hid (HR1.out.under hb)
  clear hb
  have HQ2 := HQ1
  go_wp2_with fail
  refine (take_no (s := kFst) HR2.out hIFst).mono ?_
  rintro e w3 ⟨rfl, hb⟩
  have HT3 := Lib.hid ((hb.block _ (heap_lt HT2.out)).trans HT2.out)
  have HM3 := Lib.hid (HM2.out.then hb)
  have HR3 := Lib.hid (HR2.out.under hb)
  clear hb
  have HQ3 := HQ2
  go_wp2_with fail
  refine (take_no (s := kSnd) HR3.out hISnd).mono ?_
  rintro e w4 ⟨rfl, hb⟩
  have HT4 := Lib.hid ((hb.block _ (heap_lt HT3.out)).trans HT3.out)
  have HM4 := Lib.hid (HM3.out.then hb)
  have HR4 := Lib.hid (HR3.out.under hb)
  clear hb
  have HQ4 := HQ3
  go_wp2_with fail
  refine (take_yes (s := kBang) HR4.out hIBang).mono ?_
  rintro e w5 ⟨rfl, hr, hm⟩
  have HT5 := Lib.hid (hm.keep HR4.out HT4.out (by decide) (by decide) (by decide))
  have HM5 := Lib.hid (HM4.out.trans (Mw.same hm))
  have HR5 := Lib.hid hr
  clear hr hm
  have HQ5 := HQ4
  go_upto_region 10 with fail
  obtain ⟨t0, t1, t2, t3, t4⟩ := cellsOf5 HT5.out
  have hbw := (Below.refl w5.heap.size w5).drew
  cases ho : kindP 1 l0.tail (ms0.map (·.1)) with
  | bad c ln cl =>
    have hq := HQ5.out
    rw [ho] at hq
    simp only [Out.bind] at hq
    subst hq
    have hsx : ∀ W, Below w5.heap.size w5 W → Calls Tryz.prog 50 #[.pointer (some ⟨b, 0, none⟩), .int .i64 1] W fun e w' => e = .panicked (panicV c ln cl) ∧ Bad b t tv v0 wB w' := fun W hb => by
      have := kind_in (k := 1) (HR5.out.under hb) (by decide)
      rw [ho] at this
      exact this.mono fun e w' ⟨h1, h2⟩ => ⟨h1, h2.after ((HM5.out.then hb).toMv)⟩
    have HZ := Lib.hid hsx
    clear hsx ho
    go_region_with
      (first | (go_at_call 50; refine (HZ.out _ (by with_reducible assumption)).mono ?_; rintro e w9 ⟨rfl, hbd⟩; refine dead (P := Tryz.prog) (w := w9) ⟨rfl, wB, HI.out, rfl, hbd⟩ ?_))
    all_goals trivial
  | ok x6 l6 m6 =>
    have hq := HQ5.out
    rw [ho] at hq
    simp only [Out.bind] at hq
    have hsx : ∀ W, Below w5.heap.size w5 W → Calls Tryz.prog 50 #[.pointer (some ⟨b, 0, none⟩), .int .i64 1] W fun e w' => e = .returned (.agg #[.int .i64 x6.kind, .string x6.text, .int .i64 x6.num, .int .i64 x6.line, .int .i64 x6.col]) ∧ ∃ v' ms', ms'.map (·.1) = m6 ∧ RdrAt B b t tv ts l6 (d + 1) v' ms' w' ∧ Mw b t v0 ms0 wB v' ms' w' ∧ w'.heap[q]? = some (.cells #[.int .i64 (hdT l0).kind, .string (hdT l0).text, .int .i64 (hdT l0).num, .int .i64 (hdT l0).line, .int .i64 (hdT l0).col] 35) := fun W hb => by
      have := kind_in (k := 1) (HR5.out.under hb) (by decide)
      rw [ho] at this
      refine this.mono fun e w' hp => ?_
      have hk := hp.keep (HR5.out.under hb) ((hb.block _ (heap_lt HT5.out)).trans HT5.out) (by decide) (by decide) (by decide)
      obtain ⟨h1, v', ms', h2, h3, h4⟩ := hp
      exact ⟨h1, v', ms', h2, h3, (HM5.out.then hb).trans h4, hk⟩
    have hno : ∀ (v2 : Value) (ms2 : List (Nd × Value)) (W : World), ms2.map (·.1) = m6 → RdrAt B b t tv ts l6 (d + 1) v2 ms2 W → Mw b t v0 ms0 wB v2 ms2 W →
        Calls Tryz.prog 49 #[.pointer (some ⟨b, 0, none⟩), .string nGet, .agg #[.int .i64 (hdT l0).kind, .string (hdT l0).text, .int .i64 (hdT l0).num, .int .i64 (hdT l0).line, .int .i64 (hdT l0).col], .string x6.text, .slice none 0 0] W fun e w' => PostG intV B b t tv ts (d + 1) v0 ms0 wB R e w' := fun v2 ms2 W hms hr hm => by
      have h := node_in hr (by have := hr.base; have := hr.lt; omega) nGet (hdT l0) x6.text (show Tr.Ints W (.slice none 0 0) [] from .inl ⟨⟨none, 0, rfl⟩, rfl⟩) (by simp) (fun k hk => by simp at hk) (by rw [hms, hq]; exact HOK.out)
      rw [hms, hq] at h
      exact h.mono fun e w' hp => PostG.mv hm hp
    have HZ := Lib.hid hsx
    have HNO := Lib.hid hno
    have hf := fun W => field_text x6.kind x6.num x6.line x6.col x6.text W
    clear hsx hno ho hq
    cases R with
    | bad c ln cl =>
      go_region_with
        (first
          | (go_at_call 50; refine (HZ.out _ (by with_reducible assumption)).mono ?_; rintro e w9 ⟨rfl, v2, ms2, hms2, hr9, hm9, ht9⟩; obtain ⟨t0, t1, t2, t3, t4⟩ := cellsOf5 ht9; clear ht9)
          | (go_at_call 49; refine (HNO.out _ _ _ hms2 hr9 hm9).mono ?_; rintro e w10 ⟨rfl, hbd⟩; refine dead (P := Tryz.prog) (w := w10) ⟨rfl, wB, HI.out, rfl, hbd⟩ ?_))
      all_goals trivial
    | ok i' l' m' =>
      go_region_with
        (first
          | (go_at_call 50; refine (HZ.out _ (by with_reducible assumption)).mono ?_; rintro e w9 ⟨rfl, v2, ms2, hms2, hr9, hm9, ht9⟩; obtain ⟨t0, t1, t2, t3, t4⟩ := cellsOf5 ht9; clear ht9)
          | (go_at_call 49; refine (HNO.out _ _ _ hms2 hr9 hm9).mono ?_; rintro e w10 ⟨rfl, hx10⟩; unfold intV))
      all_goals
        go_wp2_with fail
        exact ⟨rfl, wB, _, HI.out, rfl, rfl, hx10⟩
set_option maxRecDepth 100000 in
set_option maxHeartbeats 16000000 in
theorem un_true {d : Int} {item un : Ps Int} (h0 : 0 ≤ d) (h1 : d < 64) (hgi : GoodP item) (hgu : GoodP un) (hi : FnC 46 (d + 1) item) (hu : FnC 105 (d + 1) un)
    {B b t : Nat} {tv : Value} {ts l0 : List Tok} {v0 : Value} {ms0 : List (Nd × Value)} {w : World} (h : RdrAt B b t tv ts l0 d v0 ms0 w) (hIMinus : isT kMinus (hdT l0) = false) (hINot : isT kNot (hdT l0) = false) (hIFst : isT kFst (hdT l0) = false) (hISnd : isT kSnd (hdT l0) = false) (hIBang : isT kBang (hdT l0) = false) (hITrue : isT kTrue (hdT l0) = true)  :
    Calls Tryz.prog 105 #[.pointer (some ⟨b, 0, none⟩)] w fun e w' => PostG intV B b t tv ts d v0 ms0 w (unB item un l0 (ms0.map (·.1))) e w' := by
  obtain ⟨R, hR⟩ : ∃ R, unB item un l0 (ms0.map (·.1)) = R := ⟨_, rfl⟩
  have HOK := Lib.hid (show Ok' (fun _ l' m' => Pre l' m') R by rw [← hR]; exact (un_ok hgi hgu l0 _ h.pre).mono fun i l' m' h => h.1.pre)
  have HTK := Lib.hid h.pre.hd
  have HALL := Lib.hid (all_in hgi hi)
  have HG := Lib.hid (allT_ok hgi)
  have HU := Lib.hid hu
  have HGU := Lib.hid hgu
  have HARGS := Lib.hid (args_in hgi (all_in hgi hi))
  have HINS := Lib.hid (inside_in hgi (all_in hgi hi))
  have HIN := Lib.hid (into_ok h h0 h1)
  rw [hR]
  refine deep_calls (ts := ts) (l := l0) Tryz.func105 rfl h0 h1 (fun tmps W => by simp [results, Tryz.results105, go_sem]) ?_
  simp only [Tryz.ntmps105, List.size_toArray, List.length_cons, List.length_nil, Nat.reduceAdd, Nat.reduceSub, Array.replicate_succ, Array.replicate_zero, List.push_toArray, List.append_toArray, List.nil_append, List.cons_append]
  clear h hgi hgu hi hu
  go_wp2_with fail
  refine HIN.out.mono ?_
  rintro e wB ⟨rfl, hbx, hr, hm⟩
  have HI := Lib.hid (show InD w B b t tv ts l0 d v0 ms0 wB from ⟨hbx, hr, hm⟩)
  clear hbx hr hm HIN
  go_wp2_with fail
  refine (Next_in HI.out.rd).mono ?_
  rintro e w2 ⟨rfl, hb⟩
  have hb0 := hb.alloc hb.size (.cells #[.int .i64 (hdT l0).kind, .string (hdT l0).text, .int .i64 (hdT l0).num, .int .i64 (hdT l0).line, .int .i64 (hdT l0).col] 35)
  have HR0 := Lib.hid (HI.out.rd.under hb0)
  have HM0 := Lib.hid (Mw.of (b := b) (t := t) (v := v0) (ms := ms0) hb0)
  have HT0 := Lib.hid (last w2 (.cells #[.int .i64 (hdT l0).kind, .string (hdT l0).text, .int .i64 (hdT l0).num, .int .i64 (hdT l0).line, .int .i64 (hdT l0).col] 35))
  clear hb hb0
  unfold tokV
  go_upto_region 3 with fail
  generalize w2.heap.size = q at *
  generalize w2.alloc (.cells #[.int .i64 (hdT l0).kind, .string (hdT l0).text, .int .i64 (hdT l0).num, .int .i64 (hdT l0).line, .int .i64 (hdT l0).col] 35) = w0 at *
  have HQ0 := Lib.hid hR
  clear hR
  unfold unB at HQ0
  have hq := HQ0.out
  simp only [hIMinus, hINot, hIFst, hISnd, hIBang, hITrue, if_true, if_false, Bool.false_eq_true, Bool.false_or, Bool.true_or, Bool.or_true, Bool.or_false] at hq
  have HQ0 := Lib.hid hq
  clear hq
  go_wp2_with fail
  refine (take_no (s := kMinus) HR0.out hIMinus).mono ?_
  rintro e w1 ⟨rfl, hb⟩
  have HT1 := Lib.hid ((hb.block _ (heap_lt HT0.out)).trans HT0.out)
  have HM1 := Lib.hid (HM0.out.then hb)
  have HR1 := Lib.hid (HR0.out.under hb)
  clear hb
  have HQ1 := HQ0
  go_wp2_with fail
  refine (take_no (s := kNot) HR1.out hINot).mono ?_
  rintro e w2 ⟨rfl, hb⟩
  have HT2 := Lib.hid ((hb.block _ (heap_lt HT1.out)).trans HT1.out)
  have HM2 := Lib.hid (HM1.out.then hb)
  have HR2 := Lib.hid (HR1.out.under hb)
  clear hb
  have HQ2 := HQ1
  go_wp2_with fail
  refine (take_no (s := kFst) HR2.out hIFst).mono ?_
  rintro e w3 ⟨rfl, hb⟩
  have HT3 := Lib.hid ((hb.block _ (heap_lt HT2.out)).trans HT2.out)
  have HM3 := Lib.hid (HM2.out.then hb)
  have HR3 := Lib.hid (HR2.out.under hb)
  clear hb
  have HQ3 := HQ2
  go_wp2_with fail
  refine (take_no (s := kSnd) HR3.out hISnd).mono ?_
  rintro e w4 ⟨rfl, hb⟩
  have HT4 := Lib.hid ((hb.block _ (heap_lt HT3.out)).trans HT3.out)
  have HM4 := Lib.hid (HM3.out.then hb)
  have HR4 := Lib.hid (HR3.out.under hb)
  clear hb
  have HQ4 := HQ3
  go_wp2_with fail
  refine (take_no (s := kBang) HR4.out hIBang).mono ?_
  rintro e w5 ⟨rfl, hb⟩
  have HT5 := Lib.hid ((hb.block _ (heap_lt HT4.out)).trans HT4.out)
  have HM5 := Lib.hid (HM4.out.then hb)
  have HR5 := Lib.hid (HR4.out.under hb)
  clear hb
  have HQ5 := HQ4
  go_wp2_with fail
  refine (take_yes (s := kTrue) HR5.out hITrue).mono ?_
  rintro e w6 ⟨rfl, hr, hm⟩
  have HT6 := Lib.hid (hm.keep HR5.out HT5.out (by decide) (by decide) (by decide))
  have HM6 := Lib.hid (HM5.out.trans (Mw.same hm))
  have HR6 := Lib.hid hr
  clear hr hm
  have HQ6 := HQ5
  obtain ⟨t0, t1, t2, t3, t4⟩ := cellsOf5 HT6.out
  have HRa := Lib.hid HR6.out
  have HMa := Lib.hid HM6.out
  have hno : Calls Tryz.prog 49 #[.pointer (some ⟨b, 0, none⟩), .string (hdT l0).text, tokV (hdT l0), .string nNil, (.slice none 0 0)] w6 fun e w' => PostG intV B b t tv ts (d + 1) v0 ms0 wB R e w' := by
    have h := node_in HRa.out (by have := HRa.out.base; have := HRa.out.lt; omega) (hdT l0).text (hdT l0) nNil (show Tr.Ints w6 (.slice none 0 0) [] from .inl ⟨⟨none, 0, rfl⟩, rfl⟩) (by simp) (fun k hk => by simp at hk) (by rw [HQ6.out]; exact HOK.out)
    rw [HQ6.out] at h
    exact h.mono fun e w' hp => PostG.mv HMa.out hp
  unfold tokV at hno
  go_wp2_with fail
  refine hno.mono ?_
  clear hno
  intro e w7 hp
  cases R with
  | bad c ln cl =>
    obtain ⟨rfl, hbd⟩ := hp
    have HX := Lib.hid hbd
    clear hbd
    go_wp2_with fail
    exact ⟨rfl, wB, HI.out, rfl, HX.out⟩
  | ok a' l' m' =>
    obtain ⟨rfl, hx⟩ := hp
    have HX := Lib.hid hx
    clear hx
    unfold intV
    go_wp2_with fail
    exact ⟨rfl, wB, _, HI.out, rfl, rfl, HX.out⟩
set_option maxRecDepth 100000 in
set_option maxHeartbeats 16000000 in
theorem un_false {d : Int} {item un : Ps Int} (h0 : 0 ≤ d) (h1 : d < 64) (hgi : GoodP item) (hgu : GoodP un) (hi : FnC 46 (d + 1) item) (hu : FnC 105 (d + 1) un)
    {B b t : Nat} {tv : Value} {ts l0 : List Tok} {v0 : Value} {ms0 : List (Nd × Value)} {w : World} (h : RdrAt B b t tv ts l0 d v0 ms0 w) (hIMinus : isT kMinus (hdT l0) = false) (hINot : isT kNot (hdT l0) = false) (hIFst : isT kFst (hdT l0) = false) (hISnd : isT kSnd (hdT l0) = false) (hIBang : isT kBang (hdT l0) = false) (hITrue : isT kTrue (hdT l0) = false) (hIFalse : isT kFalse (hdT l0) = true)  :
    Calls Tryz.prog 105 #[.pointer (some ⟨b, 0, none⟩)] w fun e w' => PostG intV B b t tv ts d v0 ms0 w (unB item un l0 (ms0.map (·.1))) e w' := by
  obtain ⟨R, hR⟩ : ∃ R, unB item un l0 (ms0.map (·.1)) = R := ⟨_, rfl⟩
  have HOK := Lib.hid (show Ok' (fun _ l' m' => Pre l' m') R by rw [← hR]; exact (un_ok hgi hgu l0 _ h.pre).mono fun i l' m' h => h.1.pre)
  have HTK := Lib.hid h.pre.hd
  have HALL := Lib.hid (all_in hgi hi)
  have HG := Lib.hid (allT_ok hgi)
  have HU := Lib.hid hu
  have HGU := Lib.hid hgu
  have HARGS := Lib.hid (args_in hgi (all_in hgi hi))
  have HINS := Lib.hid (inside_in hgi (all_in hgi hi))
  have HIN := Lib.hid (into_ok h h0 h1)
  rw [hR]
  refine deep_calls (ts := ts) (l := l0) Tryz.func105 rfl h0 h1 (fun tmps W => by simp [results, Tryz.results105, go_sem]) ?_
  simp only [Tryz.ntmps105, List.size_toArray, List.length_cons, List.length_nil, Nat.reduceAdd, Nat.reduceSub, Array.replicate_succ, Array.replicate_zero, List.push_toArray, List.append_toArray, List.nil_append, List.cons_append]
  clear h hgi hgu hi hu
  go_wp2_with fail
  refine HIN.out.mono ?_
  rintro e wB ⟨rfl, hbx, hr, hm⟩
  have HI := Lib.hid (show InD w B b t tv ts l0 d v0 ms0 wB from ⟨hbx, hr, hm⟩)
  clear hbx hr hm HIN
  go_wp2_with fail
  refine (Next_in HI.out.rd).mono ?_
  rintro e w2 ⟨rfl, hb⟩
  have hb0 := hb.alloc hb.size (.cells #[.int .i64 (hdT l0).kind, .string (hdT l0).text, .int .i64 (hdT l0).num, .int .i64 (hdT l0).line, .int .i64 (hdT l0).col] 35)
  have HR0 := Lib.hid (HI.out.rd.under hb0)
  have HM0 := Lib.hid (Mw.of (b := b) (t := t) (v := v0) (ms := ms0) hb0)
  have HT0 := Lib.hid (last w2 (.cells #[.int .i64 (hdT l0).kind, .string (hdT l0).text, .int .i64 (hdT l0).num, .int .i64 (hdT l0).line, .int .i64 (hdT l0).col] 35))
  clear hb hb0
  unfold tokV
  go_upto_region 3 with fail
  generalize w2.heap.size = q at *
  generalize w2.alloc (.cells #[.int .i64 (hdT l0).kind, .string (hdT l0).text, .int .i64 (hdT l0).num, .int .i64 (hdT l0).line, .int .i64 (hdT l0).col] 35) = w0 at *
  have HQ0 := Lib.hid hR
  clear hR
  unfold unB at HQ0
  have hq := HQ0.out
  simp only [hIMinus, hINot, hIFst, hISnd, hIBang, hITrue, hIFalse, if_true, if_false, Bool.false_eq_true, Bool.false_or, Bool.true_or, Bool.or_true, Bool.or_false] at hq
  have HQ0 := Lib.hid hq
  clear hq
  go_wp2_with fail
  refine (take_no (s := kMinus) HR0.out hIMinus).mono ?_
  rintro e w1 ⟨rfl, hb⟩
  have HT1 := Lib.hid ((hb.block _ (heap_lt HT0.out)).trans HT0.out)
  have HM1 := Lib.hid (HM0.out.then hb)
  have HR1 := Lib.hid (HR0.out.under hb)
  clear hb
  have HQ1 := HQ0
  go_wp2_with fail
  refine (take_no (s := kNot) HR1.out hINot).mono ?_
  rintro e w2 ⟨rfl, hb⟩
  have HT2 := Lib.hid ((hb.block _ (heap_lt HT1.out)).trans HT1.out)
  have HM2 := Lib.hid (HM1.out.then hb)
  have HR2 := Lib.hid (HR1.out.under hb)
  clear hb
  have HQ2 := HQ1
  go_wp2_with fail
  refine (take_no (s := kFst) HR2.out hIFst).mono ?_
  rintro e w3 ⟨rfl, hb⟩
  have HT3 := Lib.hid ((hb.block _ (heap_lt HT2.out)).trans HT2.out)
  have HM3 := Lib.hid (HM2.out.then hb)
  have HR3 := Lib.hid (HR2.out.under hb)
  clear hb
  have HQ3 := HQ2
  go_wp2_with fail
  refine (take_no (s := kSnd) HR3.out hISnd).mono ?_
  rintro e w4 ⟨rfl, hb⟩
  have HT4 := Lib.hid ((hb.block _ (heap_lt HT3.out)).trans HT3.out)
  have HM4 := Lib.hid (HM3.out.then hb)
  have HR4 := Lib.hid (HR3.out.under hb)
  clear hb
  have HQ4 := HQ3
  go_wp2_with fail
  refine (take_no (s := kBang) HR4.out hIBang).mono ?_
  rintro e w5 ⟨rfl, hb⟩
  have HT5 := Lib.hid ((hb.block _ (heap_lt HT4.out)).trans HT4.out)
  have HM5 := Lib.hid (HM4.out.then hb)
  have HR5 := Lib.hid (HR4.out.under hb)
  clear hb
  have HQ5 := HQ4
  go_wp2_with fail
  refine (take_no (s := kTrue) HR5.out hITrue).mono ?_
  rintro e w6 ⟨rfl, hb⟩
  have HT6 := Lib.hid ((hb.block _ (heap_lt HT5.out)).trans HT5.out)
  have HM6 := Lib.hid (HM5.out.then hb)
  have HR6 := Lib.hid (HR5.out.under hb)
  clear hb
  have HQ6 := HQ5
  go_wp2_with fail
  refine (take_yes (s := kFalse) HR6.out hIFalse).mono ?_
  rintro e w7 ⟨rfl, hr, hm⟩
  have HT7 := Lib.hid (hm.keep HR6.out HT6.out (by decide) (by decide) (by decide))
  have HM7 := Lib.hid (HM6.out.trans (Mw.same hm))
  have HR7 := Lib.hid hr
  clear hr hm
  have HQ7 := HQ6
  obtain ⟨t0, t1, t2, t3, t4⟩ := cellsOf5 HT7.out
  have HRa := Lib.hid HR7.out
  have HMa := Lib.hid HM7.out
  have hno : Calls Tryz.prog 49 #[.pointer (some ⟨b, 0, none⟩), .string (hdT l0).text, tokV (hdT l0), .string nNil, (.slice none 0 0)] w7 fun e w' => PostG intV B b t tv ts (d + 1) v0 ms0 wB R e w' := by
    have h := node_in HRa.out (by have := HRa.out.base; have := HRa.out.lt; omega) (hdT l0).text (hdT l0) nNil (show Tr.Ints w7 (.slice none 0 0) [] from .inl ⟨⟨none, 0, rfl⟩, rfl⟩) (by simp) (fun k hk => by simp at hk) (by rw [HQ7.out]; exact HOK.out)
    rw [HQ7.out] at h
    exact h.mono fun e w' hp => PostG.mv HMa.out hp
  unfold tokV at hno
  go_wp2_with fail
  refine hno.mono ?_
  clear hno
  intro e w8 hp
  cases R with
  | bad c ln cl =>
    obtain ⟨rfl, hbd⟩ := hp
    have HX := Lib.hid hbd
    clear hbd
    go_wp2_with fail
    exact ⟨rfl, wB, HI.out, rfl, HX.out⟩
  | ok a' l' m' =>
    obtain ⟨rfl, hx⟩ := hp
    have HX := Lib.hid hx
    clear hx
    unfold intV
    go_wp2_with fail
    exact ⟨rfl, wB, _, HI.out, rfl, rfl, HX.out⟩
set_option maxRecDepth 100000 in
set_option maxHeartbeats 16000000 in
theorem un_hole {d : Int} {item un : Ps Int} (h0 : 0 ≤ d) (h1 : d < 64) (hgi : GoodP item) (hgu : GoodP un) (hi : FnC 46 (d + 1) item) (hu : FnC 105 (d + 1) un)
    {B b t : Nat} {tv : Value} {ts l0 : List Tok} {v0 : Value} {ms0 : List (Nd × Value)} {w : World} (h : RdrAt B b t tv ts l0 d v0 ms0 w) (hIMinus : isT kMinus (hdT l0) = false) (hINot : isT kNot (hdT l0) = false) (hIFst : isT kFst (hdT l0) = false) (hISnd : isT kSnd (hdT l0) = false) (hIBang : isT kBang (hdT l0) = false) (hITrue : isT kTrue (hdT l0) = false) (hIFalse : isT kFalse (hdT l0) = false) (hIHole : isT kHole (hdT l0) = true)  :
    Calls Tryz.prog 105 #[.pointer (some ⟨b, 0, none⟩)] w fun e w' => PostG intV B b t tv ts d v0 ms0 w (unB item un l0 (ms0.map (·.1))) e w' := by
  obtain ⟨R, hR⟩ : ∃ R, unB item un l0 (ms0.map (·.1)) = R := ⟨_, rfl⟩
  have HOK := Lib.hid (show Ok' (fun _ l' m' => Pre l' m') R by rw [← hR]; exact (un_ok hgi hgu l0 _ h.pre).mono fun i l' m' h => h.1.pre)
  have HTK := Lib.hid h.pre.hd
  have HALL := Lib.hid (all_in hgi hi)
  have HG := Lib.hid (allT_ok hgi)
  have HU := Lib.hid hu
  have HGU := Lib.hid hgu
  have HARGS := Lib.hid (args_in hgi (all_in hgi hi))
  have HINS := Lib.hid (inside_in hgi (all_in hgi hi))
  have HIN := Lib.hid (into_ok h h0 h1)
  rw [hR]
  refine deep_calls (ts := ts) (l := l0) Tryz.func105 rfl h0 h1 (fun tmps W => by simp [results, Tryz.results105, go_sem]) ?_
  simp only [Tryz.ntmps105, List.size_toArray, List.length_cons, List.length_nil, Nat.reduceAdd, Nat.reduceSub, Array.replicate_succ, Array.replicate_zero, List.push_toArray, List.append_toArray, List.nil_append, List.cons_append]
  clear h hgi hgu hi hu
  go_wp2_with fail
  refine HIN.out.mono ?_
  rintro e wB ⟨rfl, hbx, hr, hm⟩
  have HI := Lib.hid (show InD w B b t tv ts l0 d v0 ms0 wB from ⟨hbx, hr, hm⟩)
  clear hbx hr hm HIN
  go_wp2_with fail
  refine (Next_in HI.out.rd).mono ?_
  rintro e w2 ⟨rfl, hb⟩
  have hb0 := hb.alloc hb.size (.cells #[.int .i64 (hdT l0).kind, .string (hdT l0).text, .int .i64 (hdT l0).num, .int .i64 (hdT l0).line, .int .i64 (hdT l0).col] 35)
  have HR0 := Lib.hid (HI.out.rd.under hb0)
  have HM0 := Lib.hid (Mw.of (b := b) (t := t) (v := v0) (ms := ms0) hb0)
  have HT0 := Lib.hid (last w2 (.cells #[.int .i64 (hdT l0).kind, .string (hdT l0).text, .int .i64 (hdT l0).num, .int .i64 (hdT l0).line, .int .i64 (hdT l0).col] 35))
  clear hb hb0
  unfold tokV
  go_upto_region 3 with fail
  generalize w2.heap.size = q at *
  generalize w2.alloc (.cells #[.int .i64 (hdT l0).kind, .string (hdT l0).text, .int .i64 (hdT l0).num, .int .i64 (hdT l0).line, .int .i64 (hdT l0).col] 35) = w0 at *
  have HQ0 := Lib.hid hR
  clear hR
  unfold unB at HQ0
  have hq := HQ0.out
  simp only [hIMinus, hINot, hIFst, hISnd, hIBang, hITrue, hIFalse, hIHole, if_true, if_false, Bool.false_eq_true, Bool.false_or, Bool.true_or, Bool.or_true, Bool.or_false] at hq
  have HQ0 := Lib.hid hq
  clear hq
  go_wp2_with fail
  refine (take_no (s := kMinus) HR0.out hIMinus).mono ?_
  rintro e w1 ⟨rfl, hb⟩
  have HT1 := Lib.hid ((hb.block _ (heap_lt HT0.out)).trans HT0.out)
  have HM1 := Lib.hid (HM0.out.then hb)
  have HR1 := Lib.hid (HR0.out.under hb)
  clear hb
  have HQ1 := HQ0
  go_wp2_with fail
  refine (take_no (s := kNot) HR1.out hINot).mono ?_
  rintro e w2 ⟨rfl, hb⟩
  have HT2 := Lib.hid ((hb.block _ (heap_lt HT1.out)).trans HT1.out)
  have HM2 := Lib.hid (HM1.out.then hb)
  have HR2 := Lib.hid (HR1.out.under hb)
  clear hb
  have HQ2 := HQ1
  go_wp2_with fail
  refine (take_no (s := kFst) HR2.out hIFst).mono ?_
  rintro e w3 ⟨rfl, hb⟩
  have HT3 := Lib.hid ((hb.block _ (heap_lt HT2.out)).trans HT2.out)
  have HM3 := Lib.hid (HM2.out.then hb)
  have HR3 := Lib.hid (HR2.out.under hb)
  clear hb
  have HQ3 := HQ2
  go_wp2_with fail
  refine (take_no (s := kSnd) HR3.out hISnd).mono ?_
  rintro e w4 ⟨rfl, hb⟩
  have HT4 := Lib.hid ((hb.block _ (heap_lt HT3.out)).trans HT3.out)
  have HM4 := Lib.hid (HM3.out.then hb)
  have HR4 := Lib.hid (HR3.out.under hb)
  clear hb
  have HQ4 := HQ3
  go_wp2_with fail
  refine (take_no (s := kBang) HR4.out hIBang).mono ?_
  rintro e w5 ⟨rfl, hb⟩
  have HT5 := Lib.hid ((hb.block _ (heap_lt HT4.out)).trans HT4.out)
  have HM5 := Lib.hid (HM4.out.then hb)
  have HR5 := Lib.hid (HR4.out.under hb)
  clear hb
  have HQ5 := HQ4
  go_wp2_with fail
  refine (take_no (s := kTrue) HR5.out hITrue).mono ?_
  rintro e w6 ⟨rfl, hb⟩
  have HT6 := Lib.hid ((hb.block _ (heap_lt HT5.out)).trans HT5.out)
  have HM6 := Lib.hid (HM5.out.then hb)
  have HR6 := Lib.hid (HR5.out.under hb)
  clear hb
  have HQ6 := HQ5
  go_wp2_with fail
  refine (take_no (s := kFalse) HR6.out hIFalse).mono ?_
  rintro e w7 ⟨rfl, hb⟩
  have HT7 := Lib.hid ((hb.block _ (heap_lt HT6.out)).trans HT6.out)
  have HM7 := Lib.hid (HM6.out.then hb)
  have HR7 := Lib.hid (HR6.out.under hb)
  clear hb
  have HQ7 := HQ6
  go_wp2_with fail
  refine (take_yes (s := kHole) HR7.out hIHole).mono ?_
  rintro e w8 ⟨rfl, hr, hm⟩
  have HT8 := Lib.hid (hm.keep HR7.out HT7.out (by decide) (by decide) (by decide))
  have HM8 := Lib.hid (HM7.out.trans (Mw.same hm))
  have HR8 := Lib.hid hr
  clear hr hm
  have HQ8 := HQ7
  go_upto_region 15 with fail
  obtain ⟨t0, t1, t2, t3, t4⟩ := cellsOf5 HT8.out
  have hbw := (Below.refl w8.heap.size w8).drew
  cases ho : kindP 1 l0.tail (ms0.map (·.1)) with
  | bad c ln cl =>
    have hq := HQ8.out
    rw [ho] at hq
    simp only [Out.bind] at hq
    subst hq
    have hsx : ∀ W, Below w8.heap.size w8 W → Calls Tryz.prog 50 #[.pointer (some ⟨b, 0, none⟩), .int .i64 1] W fun e w' => e = .panicked (panicV c ln cl) ∧ Bad b t tv v0 wB w' := fun W hb => by
      have := kind_in (k := 1) (HR8.out.under hb) (by decide)
      rw [ho] at this
      exact this.mono fun e w' ⟨h1, h2⟩ => ⟨h1, h2.after ((HM8.out.then hb).toMv)⟩
    have HZ := Lib.hid hsx
    clear hsx ho
    go_region_with
      (first | (go_at_call 50; refine (HZ.out _ (by with_reducible assumption)).mono ?_; rintro e w9 ⟨rfl, hbd⟩; refine dead (P := Tryz.prog) (w := w9) ⟨rfl, wB, HI.out, rfl, hbd⟩ ?_))
    all_goals trivial
  | ok x9 l9 m9 =>
    have hq := HQ8.out
    rw [ho] at hq
    simp only [Out.bind] at hq
    have hsx : ∀ W, Below w8.heap.size w8 W → Calls Tryz.prog 50 #[.pointer (some ⟨b, 0, none⟩), .int .i64 1] W fun e w' => e = .returned (.agg #[.int .i64 x9.kind, .string x9.text, .int .i64 x9.num, .int .i64 x9.line, .int .i64 x9.col]) ∧ ∃ v' ms', ms'.map (·.1) = m9 ∧ RdrAt B b t tv ts l9 (d + 1) v' ms' w' ∧ Mw b t v0 ms0 wB v' ms' w' ∧ w'.heap[q]? = some (.cells #[.int .i64 (hdT l0).kind, .string (hdT l0).text, .int .i64 (hdT l0).num, .int .i64 (hdT l0).line, .int .i64 (hdT l0).col] 35) := fun W hb => by
      have := kind_in (k := 1) (HR8.out.under hb) (by decide)
      rw [ho] at this
      refine this.mono fun e w' hp => ?_
      have hk := hp.keep (HR8.out.under hb) ((hb.block _ (heap_lt HT8.out)).trans HT8.out) (by decide) (by decide) (by decide)
      obtain ⟨h1, v', ms', h2, h3, h4⟩ := hp
      exact ⟨h1, v', ms', h2, h3, (HM8.out.then hb).trans h4, hk⟩
    have hno : ∀ (v2 : Value) (ms2 : List (Nd × Value)) (W : World), ms2.map (·.1) = m9 → RdrAt B b t tv ts l9 (d + 1) v2 ms2 W → Mw b t v0 ms0 wB v2 ms2 W →
        Calls Tryz.prog 49 #[.pointer (some ⟨b, 0, none⟩), .string kHole, .agg #[.int .i64 (hdT l0).kind, .string (hdT l0).text, .int .i64 (hdT l0).num, .int .i64 (hdT l0).line, .int .i64 (hdT l0).col], .string x9.text, .slice none 0 0] W fun e w' => PostG intV B b t tv ts (d + 1) v0 ms0 wB R e w' := fun v2 ms2 W hms hr hm => by
      have h := node_in hr (by have := hr.base; have := hr.lt; omega) kHole (hdT l0) x9.text (show Tr.Ints W (.slice none 0 0) [] from .inl ⟨⟨none, 0, rfl⟩, rfl⟩) (by simp) (fun k hk => by simp at hk) (by rw [hms, hq]; exact HOK.out)
      rw [hms, hq] at h
      exact h.mono fun e w' hp => PostG.mv hm hp
    have HZ := Lib.hid hsx
    have HNO := Lib.hid hno
    have hf := fun W => field_text x9.kind x9.num x9.line x9.col x9.text W
    clear hsx hno ho hq
    cases R with
    | bad c ln cl =>
      go_region_with
        (first
          | (go_at_call 50; refine (HZ.out _ (by with_reducible assumption)).mono ?_; rintro e w9 ⟨rfl, v2, ms2, hms2, hr9, hm9, ht9⟩; obtain ⟨t0, t1, t2, t3, t4⟩ := cellsOf5 ht9; clear ht9)
          | (go_at_call 49; refine (HNO.out _ _ _ hms2 hr9 hm9).mono ?_; rintro e w10 ⟨rfl, hbd⟩; refine dead (P := Tryz.prog) (w := w10) ⟨rfl, wB, HI.out, rfl, hbd⟩ ?_))
      all_goals trivial
    | ok i' l' m' =>
      go_region_with
        (first
          | (go_at_call 50; refine (HZ.out _ (by with_reducible assumption)).mono ?_; rintro e w9 ⟨rfl, v2, ms2, hms2, hr9, hm9, ht9⟩; obtain ⟨t0, t1, t2, t3, t4⟩ := cellsOf5 ht9; clear ht9)
          | (go_at_call 49; refine (HNO.out _ _ _ hms2 hr9 hm9).mono ?_; rintro e w10 ⟨rfl, hx10⟩; unfold intV))
      all_goals
        go_wp2_with fail
        exact ⟨rfl, wB, _, HI.out, rfl, rfl, hx10⟩
set_option maxRecDepth 100000 in
set_option maxHeartbeats 16000000 in
theorem un_release {d : Int} {item un : Ps Int} (h0 : 0 ≤ d) (h1 : d < 64) (hgi : GoodP item) (hgu : GoodP un) (hi : FnC 46 (d + 1) item) (hu : FnC 105 (d + 1) un)
    {B b t : Nat} {tv : Value} {ts l0 : List Tok} {v0 : Value} {ms0 : List (Nd × Value)} {w : World} (h : RdrAt B b t tv ts l0 d v0 ms0 w) (hIMinus : isT kMinus (hdT l0) = false) (hINot : isT kNot (hdT l0) = false) (hIFst : isT kFst (hdT l0) = false) (hISnd : isT kSnd (hdT l0) = false) (hIBang : isT kBang (hdT l0) = false) (hITrue : isT kTrue (hdT l0) = false) (hIFalse : isT kFalse (hdT l0) = false) (hIHole : isT kHole (hdT l0) = false) (hIRelease : isT kRelease (hdT l0) = true)  :
    Calls Tryz.prog 105 #[.pointer (some ⟨b, 0, none⟩)] w fun e w' => PostG intV B b t tv ts d v0 ms0 w (unB item un l0 (ms0.map (·.1))) e w' := by
  obtain ⟨R, hR⟩ : ∃ R, unB item un l0 (ms0.map (·.1)) = R := ⟨_, rfl⟩
  have HOK := Lib.hid (show Ok' (fun _ l' m' => Pre l' m') R by rw [← hR]; exact (un_ok hgi hgu l0 _ h.pre).mono fun i l' m' h => h.1.pre)
  have HTK := Lib.hid h.pre.hd
  have HALL := Lib.hid (all_in hgi hi)
  have HG := Lib.hid (allT_ok hgi)
  have HU := Lib.hid hu
  have HGU := Lib.hid hgu
  have HARGS := Lib.hid (args_in hgi (all_in hgi hi))
  have HINS := Lib.hid (inside_in hgi (all_in hgi hi))
  have HIN := Lib.hid (into_ok h h0 h1)
  rw [hR]
  refine deep_calls (ts := ts) (l := l0) Tryz.func105 rfl h0 h1 (fun tmps W => by simp [results, Tryz.results105, go_sem]) ?_
  simp only [Tryz.ntmps105, List.size_toArray, List.length_cons, List.length_nil, Nat.reduceAdd, Nat.reduceSub, Array.replicate_succ, Array.replicate_zero, List.push_toArray, List.append_toArray, List.nil_append, List.cons_append]
  clear h hgi hgu hi hu
  go_wp2_with fail
  refine HIN.out.mono ?_
  rintro e wB ⟨rfl, hbx, hr, hm⟩
  have HI := Lib.hid (show InD w B b t tv ts l0 d v0 ms0 wB from ⟨hbx, hr, hm⟩)
  clear hbx hr hm HIN
  go_wp2_with fail
  refine (Next_in HI.out.rd).mono ?_
  rintro e w2 ⟨rfl, hb⟩
  have hb0 := hb.alloc hb.size (.cells #[.int .i64 (hdT l0).kind, .string (hdT l0).text, .int .i64 (hdT l0).num, .int .i64 (hdT l0).line, .int .i64 (hdT l0).col] 35)
  have HR0 := Lib.hid (HI.out.rd.under hb0)
  have HM0 := Lib.hid (Mw.of (b := b) (t := t) (v := v0) (ms := ms0) hb0)
  have HT0 := Lib.hid (last w2 (.cells #[.int .i64 (hdT l0).kind, .string (hdT l0).text, .int .i64 (hdT l0).num, .int .i64 (hdT l0).line, .int .i64 (hdT l0).col] 35))
  clear hb hb0
  unfold tokV
  go_upto_region 3 with fail
  generalize w2.heap.size = q at *
  generalize w2.alloc (.cells #[.int .i64 (hdT l0).kind, .string (hdT l0).text, .int .i64 (hdT l0).num, .int .i64 (hdT l0).line, .int .i64 (hdT l0).col] 35) = w0 at *
  have HQ0 := Lib.hid hR
  clear hR
  unfold unB at HQ0
  have hq := HQ0.out
  simp only [hIMinus, hINot, hIFst, hISnd, hIBang, hITrue, hIFalse, hIHole, hIRelease, if_true, if_false, Bool.false_eq_true, Bool.false_or, Bool.true_or, Bool.or_true, Bool.or_false] at hq
  have HQ0 := Lib.hid hq
  clear hq
  go_wp2_with fail
  refine (take_no (s := kMinus) HR0.out hIMinus).mono ?_
  rintro e w1 ⟨rfl, hb⟩
  have HT1 := Lib.hid ((hb.block _ (heap_lt HT0.out)).trans HT0.out)
  have HM1 := Lib.hid (HM0.out.then hb)
  have HR1 := Lib.hid (HR0.out.under hb)
  clear hb
  have HQ1 := HQ0
  go_wp2_with fail
  refine (take_no (s := kNot) HR1.out hINot).mono ?_
  rintro e w2 ⟨rfl, hb⟩
  have HT2 := Lib.hid ((hb.block _ (heap_lt HT1.out)).trans HT1.out)
  have HM2 := Lib.hid (HM1.out.then hb)
  have HR2 := Lib.hid (HR1.out.under hb)
  clear hb
  have HQ2 := HQ1
  go_wp2_with fail
  refine (take_no (s := kFst) HR2.out hIFst).mono ?_
  rintro e w3 ⟨rfl, hb⟩
  have HT3 := Lib.hid ((hb.block _ (heap_lt HT2.out)).trans HT2.out)
  have HM3 := Lib.hid (HM2.out.then hb)
  have HR3 := Lib.hid (HR2.out.under hb)
  clear hb
  have HQ3 := HQ2
  go_wp2_with fail
  refine (take_no (s := kSnd) HR3.out hISnd).mono ?_
  rintro e w4 ⟨rfl, hb⟩
  have HT4 := Lib.hid ((hb.block _ (heap_lt HT3.out)).trans HT3.out)
  have HM4 := Lib.hid (HM3.out.then hb)
  have HR4 := Lib.hid (HR3.out.under hb)
  clear hb
  have HQ4 := HQ3
  go_wp2_with fail
  refine (take_no (s := kBang) HR4.out hIBang).mono ?_
  rintro e w5 ⟨rfl, hb⟩
  have HT5 := Lib.hid ((hb.block _ (heap_lt HT4.out)).trans HT4.out)
  have HM5 := Lib.hid (HM4.out.then hb)
  have HR5 := Lib.hid (HR4.out.under hb)
  clear hb
  have HQ5 := HQ4
  go_wp2_with fail
  refine (take_no (s := kTrue) HR5.out hITrue).mono ?_
  rintro e w6 ⟨rfl, hb⟩
  have HT6 := Lib.hid ((hb.block _ (heap_lt HT5.out)).trans HT5.out)
  have HM6 := Lib.hid (HM5.out.then hb)
  have HR6 := Lib.hid (HR5.out.under hb)
  clear hb
  have HQ6 := HQ5
  go_wp2_with fail
  refine (take_no (s := kFalse) HR6.out hIFalse).mono ?_
  rintro e w7 ⟨rfl, hb⟩
  have HT7 := Lib.hid ((hb.block _ (heap_lt HT6.out)).trans HT6.out)
  have HM7 := Lib.hid (HM6.out.then hb)
  have HR7 := Lib.hid (HR6.out.under hb)
  clear hb
  have HQ7 := HQ6
  go_wp2_with fail
  refine (take_no (s := kHole) HR7.out hIHole).mono ?_
  rintro e w8 ⟨rfl, hb⟩
  have HT8 := Lib.hid ((hb.block _ (heap_lt HT7.out)).trans HT7.out)
  have HM8 := Lib.hid (HM7.out.then hb)
  have HR8 := Lib.hid (HR7.out.under hb)
  clear hb
  have HQ8 := HQ7
  go_wp2_with fail
  refine (take_yes (s := kRelease) HR8.out hIRelease).mono ?_
  rintro e w9 ⟨rfl, hr, hm⟩
  have HT9 := Lib.hid (hm.keep HR8.out HT8.out (by decide) (by decide) (by decide))
  have HM9 := Lib.hid (HM8.out.trans (Mw.same hm))
  have HR9 := Lib.hid hr
  clear hr hm
  have HQ9 := HQ8
  go_wp2_with fail
  refine (kind_in (k := 1) HR9.out (by decide)).mono ?_
  intro e w10 hp
  have HT10 := Lib.hid (hp.keep HR9.out HT9.out (by decide) (by decide) (by decide))
  have hp := PostG.mv HM9.out hp
  cases ho : kindP 1 l0.tail (ms0.map (·.1)) with
  | bad c ln cl =>
    rw [ho] at hp
    have hq := HQ9.out
    rw [ho] at hq
    simp only [Out.bind] at hq
    subst hq
    obtain ⟨rfl, hbd⟩ := hp
    have HX := Lib.hid hbd
    clear hbd ho
    go_wp2_with fail
    exact ⟨rfl, wB, HI.out, rfl, HX.out⟩
  | ok x10 l10 m10 =>
    rw [ho] at hp
    have hq := HQ9.out
    rw [ho] at hq
    simp only [Out.bind] at hq
    obtain ⟨rfl, v10, ms10, rfl, hr, hm⟩ := hp
    obtain ⟨-, -, hmm, -⟩ := kind_same ho
    have hext : ms10.length = ms0.length := by simpa using congrArg List.length hmm
    have HQ10 := Lib.hid hq
    have HR10 := Lib.hid hr
    have HM10 := Lib.hid hm
    have hf10 := fun W => field_text x10.kind x10.num x10.line x10.col x10.text W
    clear hq hext hmm hr hm ho
    unfold tokV
    have hba := (Below.refl w10.heap.size w10).alloc (Nat.le_refl _) (.cells #[.string ⟨#[40]⟩] 9)
    have HRa := Lib.hid (HR10.out.under hba)
    have HTa := Lib.hid ((hba.block _ (heap_lt HT10.out)).trans HT10.out)
    have HMa := Lib.hid (HM10.out.then hba)
    have hmu : Calls Tryz.prog 30 #[.pointer (some ⟨b, 0, none⟩), .slice (some ⟨w10.heap.size, 0, none⟩) 1 1] (w10.alloc (.cells #[.string ⟨#[40]⟩] 9)) fun e w' => PostG unitV B b t tv ts (d + 1) v10 ms10 (w10.alloc (.cells #[.string ⟨#[40]⟩] 9)) (mustP kLp l10 (ms10.map (·.1))) e w' := must_in HRa.out (last w10 _)
    clear hba
    go_wp2_with fail
    refine hmu.mono ?_
    clear hmu
    intro e w11 hp
    have HT11 := Lib.hid (hp.keep HRa.out HTa.out (by decide) (by decide) (by decide))
    have hp := PostG.mv HMa.out hp
    clear HRa HMa HTa
    cases ho : mustP kLp l10 (ms10.map (·.1)) with
    | bad c ln cl =>
      rw [ho] at hp
      have hq := HQ10.out
      rw [ho] at hq
      simp only [Out.bind] at hq
      subst hq
      obtain ⟨rfl, hbd⟩ := hp
      have HX := Lib.hid hbd
      clear hbd ho
      go_wp2_with fail
      exact ⟨rfl, wB, HI.out, rfl, HX.out⟩
    | ok u11 l11 m11 =>
      rw [ho] at hp
      have hq := HQ10.out
      rw [ho] at hq
      simp only [Out.bind] at hq
      obtain ⟨rfl, v11, ms11, rfl, hr, hm⟩ := hp
      obtain ⟨-, hmm⟩ := must_same ho
      have hext : ms11.length = ms10.length := by simpa using congrArg List.length hmm
      have HQ11 := Lib.hid hq
      have HR11 := Lib.hid hr
      have HM11 := Lib.hid hm
      clear hq hext hmm hr hm ho
      unfold unitV
      go_wp2_with fail
      refine (HALL.out B b t tv ts l11 v11 ms11 w11 HR11.out).mono ?_
      intro e w12 hp
      have HT12 := Lib.hid (hp.keep HR11.out HT11.out (by decide) (by decide) (by decide))
      have hp := PostG.mv HM11.out hp
      cases ho : allT item l11 (ms11.map (·.1)) with
      | bad c ln cl =>
        rw [ho] at hp
        have hq := HQ11.out
        rw [ho] at hq
        simp only [Out.bind] at hq
        subst hq
        obtain ⟨rfl, hbd⟩ := hp
        have HX := Lib.hid hbd
        clear hbd ho
        go_wp2_with fail
        exact ⟨rfl, wB, HI.out, rfl, HX.out⟩
      | ok a l12 m12 =>
        rw [ho] at hp
        have hq := HQ11.out
        have hgs := HG.out l11 (ms11.map (·.1)) HR11.out.pre
        rw [ho] at hq hgs
        simp only [Out.bind] at hq
        obtain ⟨rfl, v12, ms12, rfl, hr, hm⟩ := hp
        have hgs : Fit l11 (ms11.map (·.1)) a l12 (ms12.map (·.1)) := hgs
        have hext : ms11.length ≤ ms12.length := by simpa using hgs.1.ext.length_le
        have HQ12 := Lib.hid hq
        have HR12 := Lib.hid hr
        have HM12 := Lib.hid hm
        have Ka12 := Lib.hid (show 0 ≤ a ∧ a < (ms12.length : Int) by simpa using hgs.2.there a (by simp))
        clear hq hgs hext hr hm ho
        unfold intV
        have hba := (Below.refl w12.heap.size w12).alloc (Nat.le_refl _) (.cells #[.string ⟨#[41]⟩] 9)
        have HRa := Lib.hid (HR12.out.under hba)
        have HTa := Lib.hid ((hba.block _ (heap_lt HT12.out)).trans HT12.out)
        have HMa := Lib.hid (HM12.out.then hba)
        have hmu : Calls Tryz.prog 30 #[.pointer (some ⟨b, 0, none⟩), .slice (some ⟨w12.heap.size, 0, none⟩) 1 1] (w12.alloc (.cells #[.string ⟨#[41]⟩] 9)) fun e w' => PostG unitV B b t tv ts (d + 1) v12 ms12 (w12.alloc (.cells #[.string ⟨#[41]⟩] 9)) (mustP kRp l12 (ms12.map (·.1))) e w' := must_in HRa.out (last w12 _)
        clear hba
        go_wp2_with fail
        refine hmu.mono ?_
        clear hmu
        intro e w13 hp
        have HT13 := Lib.hid (hp.keep HRa.out HTa.out (by decide) (by decide) (by decide))
        have hp := PostG.mv HMa.out hp
        clear HRa HMa HTa
        cases ho : mustP kRp l12 (ms12.map (·.1)) with
        | bad c ln cl =>
          rw [ho] at hp
          have hq := HQ12.out
          rw [ho] at hq
          simp only [Out.bind] at hq
          subst hq
          obtain ⟨rfl, hbd⟩ := hp
          have HX := Lib.hid hbd
          clear hbd ho
          go_wp2_with fail
          exact ⟨rfl, wB, HI.out, rfl, HX.out⟩
        | ok u13 l13 m13 =>
          rw [ho] at hp
          have hq := HQ12.out
          rw [ho] at hq
          simp only [Out.bind] at hq
          obtain ⟨rfl, v13, ms13, rfl, hr, hm⟩ := hp
          obtain ⟨-, hmm⟩ := must_same ho
          have hext : ms13.length = ms12.length := by simpa using congrArg List.length hmm
          have HQ13 := Lib.hid hq
          have HR13 := Lib.hid hr
          have HM13 := Lib.hid hm
          have Ka13 := Lib.hid (show 0 ≤ a ∧ a < (ms13.length : Int) from ⟨Ka12.out.1, by have := Ka12.out.2; omega⟩)
          clear hq hext hmm hr hm ho
          unfold unitV
          obtain ⟨t0, t1, t2, t3, t4⟩ := cellsOf5 HT13.out
          have hba := (Below.refl w13.heap.size w13).alloc (Nat.le_refl _) (.cells #[.int .i64 a] 3)
          have HRa := Lib.hid (HR13.out.under hba)
          have HMa := Lib.hid (HM13.out.then hba)
          clear hba
          have hno : Calls Tryz.prog 49 #[.pointer (some ⟨b, 0, none⟩), .string kRelease, tokV (hdT l0), .string x10.text, (.slice (some ⟨w13.heap.size, 0, none⟩) 1 1)] (w13.alloc (.cells #[.int .i64 a] 3)) fun e w' => PostG intV B b t tv ts (d + 1) v0 ms0 wB R e w' := by
            have h := node_in HRa.out (by have := HRa.out.base; have := HRa.out.lt; omega) kRelease (hdT l0) x10.text (ints_one w13 a) (by simp) (fun k hk => by
              simp only [List.mem_cons, List.not_mem_nil, or_false] at hk
              rcases hk with rfl
              · exact Ka13.out) (by rw [HQ13.out]; exact HOK.out)
            rw [HQ13.out] at h
            exact h.mono fun e w' hp => PostG.mv HMa.out hp
          unfold tokV at hno
          go_wp2_with fail
          refine hno.mono ?_
          clear hno
          intro e w14 hp
          cases R with
          | bad c ln cl =>
            obtain ⟨rfl, hbd⟩ := hp
            have HX := Lib.hid hbd
            clear hbd
            go_wp2_with fail
            exact ⟨rfl, wB, HI.out, rfl, HX.out⟩
          | ok a' l' m' =>
            obtain ⟨rfl, hx⟩ := hp
            have HX := Lib.hid hx
            clear hx
            unfold intV
            go_wp2_with fail
            exact ⟨rfl, wB, _, HI.out, rfl, rfl, HX.out⟩
set_option maxRecDepth 100000 in
set_option maxHeartbeats 16000000 in
theorem un_lp {d : Int} {item un : Ps Int} (h0 : 0 ≤ d) (h1 : d < 64) (hgi : GoodP item) (hgu : GoodP un) (hi : FnC 46 (d + 1) item) (hu : FnC 105 (d + 1) un)
    {B b t : Nat} {tv : Value} {ts l0 : List Tok} {v0 : Value} {ms0 : List (Nd × Value)} {w : World} (h : RdrAt B b t tv ts l0 d v0 ms0 w) (hIMinus : isT kMinus (hdT l0) = false) (hINot : isT kNot (hdT l0) = false) (hIFst : isT kFst (hdT l0) = false) (hISnd : isT kSnd (hdT l0) = false) (hIBang : isT kBang (hdT l0) = false) (hITrue : isT kTrue (hdT l0) = false) (hIFalse : isT kFalse (hdT l0) = false) (hIHole : isT kHole (hdT l0) = false) (hIRelease : isT kRelease (hdT l0) = false) (hILp : isT kLp (hdT l0) = true)  :
    Calls Tryz.prog 105 #[.pointer (some ⟨b, 0, none⟩)] w fun e w' => PostG intV B b t tv ts d v0 ms0 w (unB item un l0 (ms0.map (·.1))) e w' := by
  obtain ⟨R, hR⟩ : ∃ R, unB item un l0 (ms0.map (·.1)) = R := ⟨_, rfl⟩
  have HOK := Lib.hid (show Ok' (fun _ l' m' => Pre l' m') R by rw [← hR]; exact (un_ok hgi hgu l0 _ h.pre).mono fun i l' m' h => h.1.pre)
  have HTK := Lib.hid h.pre.hd
  have HALL := Lib.hid (all_in hgi hi)
  have HG := Lib.hid (allT_ok hgi)
  have HU := Lib.hid hu
  have HGU := Lib.hid hgu
  have HARGS := Lib.hid (args_in hgi (all_in hgi hi))
  have HINS := Lib.hid (inside_in hgi (all_in hgi hi))
  have HIN := Lib.hid (into_ok h h0 h1)
  rw [hR]
  refine deep_calls (ts := ts) (l := l0) Tryz.func105 rfl h0 h1 (fun tmps W => by simp [results, Tryz.results105, go_sem]) ?_
  simp only [Tryz.ntmps105, List.size_toArray, List.length_cons, List.length_nil, Nat.reduceAdd, Nat.reduceSub, Array.replicate_succ, Array.replicate_zero, List.push_toArray, List.append_toArray, List.nil_append, List.cons_append]
  clear h hgi hgu hi hu
  go_wp2_with fail
  refine HIN.out.mono ?_
  rintro e wB ⟨rfl, hbx, hr, hm⟩
  have HI := Lib.hid (show InD w B b t tv ts l0 d v0 ms0 wB from ⟨hbx, hr, hm⟩)
  clear hbx hr hm HIN
  go_wp2_with fail
  refine (Next_in HI.out.rd).mono ?_
  rintro e w2 ⟨rfl, hb⟩
  have hb0 := hb.alloc hb.size (.cells #[.int .i64 (hdT l0).kind, .string (hdT l0).text, .int .i64 (hdT l0).num, .int .i64 (hdT l0).line, .int .i64 (hdT l0).col] 35)
  have HR0 := Lib.hid (HI.out.rd.under hb0)
  have HM0 := Lib.hid (Mw.of (b := b) (t := t) (v := v0) (ms := ms0) hb0)
  have HT0 := Lib.hid (last w2 (.cells #[.int .i64 (hdT l0).kind, .string (hdT l0).text, .int .i64 (hdT l0).num, .int .i64 (hdT l0).line, .int .i64 (hdT l0).col] 35))
  clear hb hb0
  unfold tokV
  go_upto_region 3 with fail
  generalize w2.heap.size = q at *
  generalize w2.alloc (.cells #[.int .i64 (hdT l0).kind, .string (hdT l0).text, .int .i64 (hdT l0).num, .int .i64 (hdT l0).line, .int .i64 (hdT l0).col] 35) = w0 at *
  have HQ0 := Lib.hid hR
  clear hR
  unfold unB at HQ0
  have hq := HQ0.out
  simp only [hIMinus, hINot, hIFst, hISnd, hIBang, hITrue, hIFalse, hIHole, hIRelease, hILp, if_true, if_false, Bool.false_eq_true, Bool.false_or, Bool.true_or, Bool.or_true, Bool.or_false] at hq
  have HQ0 := Lib.hid hq
  clear hq
  go_wp2_with fail
  refine (take_no (s := kMinus) HR0.out hIMinus).mono ?_
  rintro e w1 ⟨rfl, hb⟩
  have HT1 := Lib.hid ((hb.block _ (heap_lt HT0.out)).trans HT0.out)
  have HM1 := Lib.hid (HM0.out.then hb)
  have HR1 := Lib.hid (HR0.out.under hb)
  clear hb
  have HQ1 := HQ0
  go_wp2_with fail
  refine (take_no (s := kNot) HR1.out hINot).mono ?_
  rintro e w2 ⟨rfl, hb⟩
  have HT2 := Lib.hid ((hb.block _ (heap_lt HT1.out)).trans HT1.out)
  have HM2 := Lib.hid (HM1.out.then hb)
  have HR2 := Lib.hid (HR1.out.under hb)
  clear hb
  have HQ2 := HQ1
  go_wp2_with fail
  refine (take_no (s := kFst) HR2.out hIFst).mono ?_
  rintro e w3 ⟨rfl, hb⟩
  have HT3 := Lib.hid ((hb.block _ (heap_lt HT2.out)).trans HT2.out)
  have HM3 := Lib.hid (HM2.out.then hb)
  have HR3 := Lib.hid (HR2.out.under hb)
  clear hb
  have HQ3 := HQ2
  go_wp2_with fail
  refine (take_no (s := kSnd) HR3.out hISnd).mono ?_
  rintro e w4 ⟨rfl, hb⟩
  have HT4 := Lib.hid ((hb.block _ (heap_lt HT3.out)).trans HT3.out)
  have HM4 := Lib.hid (HM3.out.then hb)
  have HR4 := Lib.hid (HR3.out.under hb)
  clear hb
  have HQ4 := HQ3
  go_wp2_with fail
  refine (take_no (s := kBang) HR4.out hIBang).mono ?_
  rintro e w5 ⟨rfl, hb⟩
  have HT5 := Lib.hid ((hb.block _ (heap_lt HT4.out)).trans HT4.out)
  have HM5 := Lib.hid (HM4.out.then hb)
  have HR5 := Lib.hid (HR4.out.under hb)
  clear hb
  have HQ5 := HQ4
  go_wp2_with fail
  refine (take_no (s := kTrue) HR5.out hITrue).mono ?_
  rintro e w6 ⟨rfl, hb⟩
  have HT6 := Lib.hid ((hb.block _ (heap_lt HT5.out)).trans HT5.out)
  have HM6 := Lib.hid (HM5.out.then hb)
  have HR6 := Lib.hid (HR5.out.under hb)
  clear hb
  have HQ6 := HQ5
  go_wp2_with fail
  refine (take_no (s := kFalse) HR6.out hIFalse).mono ?_
  rintro e w7 ⟨rfl, hb⟩
  have HT7 := Lib.hid ((hb.block _ (heap_lt HT6.out)).trans HT6.out)
  have HM7 := Lib.hid (HM6.out.then hb)
  have HR7 := Lib.hid (HR6.out.under hb)
  clear hb
  have HQ7 := HQ6
  go_wp2_with fail
  refine (take_no (s := kHole) HR7.out hIHole).mono ?_
  rintro e w8 ⟨rfl, hb⟩
  have HT8 := Lib.hid ((hb.block _ (heap_lt HT7.out)).trans HT7.out)
  have HM8 := Lib.hid (HM7.out.then hb)
  have HR8 := Lib.hid (HR7.out.under hb)
  clear hb
  have HQ8 := HQ7
  go_wp2_with fail
  refine (take_no (s := kRelease) HR8.out hIRelease).mono ?_
  rintro e w9 ⟨rfl, hb⟩
  have HT9 := Lib.hid ((hb.block _ (heap_lt HT8.out)).trans HT8.out)
  have HM9 := Lib.hid (HM8.out.then hb)
  have HR9 := Lib.hid (HR8.out.under hb)
  clear hb
  have HQ9 := HQ8
  go_wp2_with fail
  refine (take_yes (s := kLp) HR9.out hILp).mono ?_
  rintro e w10 ⟨rfl, hr, hm⟩
  have HT10 := Lib.hid (hm.keep HR9.out HT9.out (by decide) (by decide) (by decide))
  have HM10 := Lib.hid (HM9.out.trans (Mw.same hm))
  have HR10 := Lib.hid hr
  clear hr hm
  have HQ10 := HQ9
  obtain ⟨t0, t1, t2, t3, t4⟩ := cellsOf5 HT10.out
  go_wp2_with fail
  refine (HINS.out B b t tv ts l0.tail v0 ms0 w10 (hdT l0) HR10.out HTK.out).mono ?_
  intro e w9 hp
  rw [HQ10.out] at hp
  have hp := PostG.mv HM10.out hp
  cases R with
  | bad c ln cl =>
    obtain ⟨rfl, hbd⟩ := hp
    have HX := Lib.hid hbd
    clear hbd
    go_wp2_with fail
    exact ⟨rfl, wB, HI.out, rfl, HX.out⟩
  | ok a' l' m' =>
    obtain ⟨rfl, hx⟩ := hp
    have HX := Lib.hid hx
    clear hx
    unfold intV
    go_wp2_with fail
    exact ⟨rfl, wB, _, HI.out, rfl, rfl, HX.out⟩
end Go.Proofs.YtmeacgmjpjjphaaGreatDoor
namespace Go.Proofs.YtmeacgmjpjjphaaGreatDoor
open Go.RowKit Go.Shelf
open Tr (Nd TreeAt Own Ints)


set_option maxRecDepth 100000 in
set_option maxHeartbeats 16000000 in
theorem un_int {d : Int} {item un : Ps Int} (h0 : 0 ≤ d) (h1 : d < 64) (hgi : GoodP item) (hgu : GoodP un) (hi : FnC 46 (d + 1) item) (hu : FnC 105 (d + 1) un)
    {B b t : Nat} {tv : Value} {ts l0 : List Tok} {v0 : Value} {ms0 : List (Nd × Value)} {w : World} (h : RdrAt B b t tv ts l0 d v0 ms0 w) (hIMinus : isT kMinus (hdT l0) = false) (hINot : isT kNot (hdT l0) = false) (hIFst : isT kFst (hdT l0) = false) (hISnd : isT kSnd (hdT l0) = false) (hIBang : isT kBang (hdT l0) = false) (hITrue : isT kTrue (hdT l0) = false) (hIFalse : isT kFalse (hdT l0) = false) (hIHole : isT kHole (hdT l0) = false) (hIRelease : isT kRelease (hdT l0) = false) (hILp : isT kLp (hdT l0) = false) (HK3 : Hid ((hdT l0).kind = 3)) :
    Calls Tryz.prog 105 #[.pointer (some ⟨b, 0, none⟩)] w fun e w' => PostG intV B b t tv ts d v0 ms0 w (unB item un l0 (ms0.map (·.1))) e w' := by
  obtain ⟨R, hR⟩ : ∃ R, unB item un l0 (ms0.map (·.1)) = R := ⟨_, rfl⟩
  have HOK := Lib.hid (show Ok' (fun _ l' m' => Pre l' m') R by rw [← hR]; exact (un_ok hgi hgu l0 _ h.pre).mono fun i l' m' h => h.1.pre)
  have HTK := Lib.hid h.pre.hd
  have HALL := Lib.hid (all_in hgi hi)
  have HG := Lib.hid (allT_ok hgi)
  have HU := Lib.hid hu
  have HGU := Lib.hid hgu
  have HARGS := Lib.hid (args_in hgi (all_in hgi hi))
  have HINS := Lib.hid (inside_in hgi (all_in hgi hi))
  have HIN := Lib.hid (into_ok h h0 h1)
  rw [hR]
  refine deep_calls (ts := ts) (l := l0) Tryz.func105 rfl h0 h1 (fun tmps W => by simp [results, Tryz.results105, go_sem]) ?_
  simp only [Tryz.ntmps105, List.size_toArray, List.length_cons, List.length_nil, Nat.reduceAdd, Nat.reduceSub, Array.replicate_succ, Array.replicate_zero, List.push_toArray, List.append_toArray, List.nil_append, List.cons_append]
  clear h hgi hgu hi hu
  go_wp2_with fail
  refine HIN.out.mono ?_
  rintro e wB ⟨rfl, hbx, hr, hm⟩
  have HI := Lib.hid (show InD w B b t tv ts l0 d v0 ms0 wB from ⟨hbx, hr, hm⟩)
  clear hbx hr hm HIN
  go_wp2_with fail
  refine (Next_in HI.out.rd).mono ?_
  rintro e w2 ⟨rfl, hb⟩
  have hb0 := hb.alloc hb.size (.cells #[.int .i64 (hdT l0).kind, .string (hdT l0).text, .int .i64 (hdT l0).num, .int .i64 (hdT l0).line, .int .i64 (hdT l0).col] 35)
  have HR0 := Lib.hid (HI.out.rd.under hb0)
  have HM0 := Lib.hid (Mw.of (b := b) (t := t) (v := v0) (ms := ms0) hb0)
  have HT0 := Lib.hid (last w2 (.cells #[.int .i64 (hdT l0).kind, .string (hdT l0).text, .int .i64 (hdT l0).num, .int .i64 (hdT l0).line, .int .i64 (hdT l0).col] 35))
  clear hb hb0
  unfold tokV
  go_upto_region 3 with fail
  generalize w2.heap.size = q at *
  generalize w2.alloc (.cells #[.int .i64 (hdT l0).kind, .string (hdT l0).text, .int .i64 (hdT l0).num, .int .i64 (hdT l0).line, .int .i64 (hdT l0).col] 35) = w0 at *
  have HQ0 := Lib.hid hR
  clear hR
  unfold unB at HQ0
  have hq := HQ0.out
  simp only [hIMinus, hINot, hIFst, hISnd, hIBang, hITrue, hIFalse, hIHole, hIRelease, hILp, if_true, if_false, Bool.false_eq_true, Bool.false_or, Bool.true_or, Bool.or_true, Bool.or_false] at hq
  have HQ0 := Lib.hid hq
  clear hq
  go_wp2_with fail
  refine (take_no (s := kMinus) HR0.out hIMinus).mono ?_
  rintro e w1 ⟨rfl, hb⟩
  have HT1 := Lib.hid ((hb.block _ (heap_lt HT0.out)).trans HT0.out)
  have HM1 := Lib.hid (HM0.out.then hb)
  have HR1 := Lib.hid (HR0.out.under hb)
  clear hb
  have HQ1 := HQ0
  go_wp2_with fail
  refine (take_no (s := kNot) HR1.out hINot).mono ?_
  rintro e w2 ⟨rfl, hb⟩
  have HT2 := Lib.hid ((hb.block _ (heap_lt HT1.out)).trans HT1.out)
  have HM2 := Lib.hid (HM1.out.then hb)
  have HR2 := Lib.hid (HR1.out.under hb)
  clear hb
  have HQ2 := HQ1
  go_wp2_with fail
  refine (take_no (s := kFst) HR2.out hIFst).mono ?_
  rintro e w3 ⟨rfl, hb⟩
  have HT3 := Lib.hid ((hb.block _ (heap_lt HT2.out)).trans HT2.out)
  have HM3 := Lib.hid (HM2.out.then hb)
  have HR3 := Lib.hid (HR2.out.under hb)
  clear hb
  have HQ3 := HQ2
  go_wp2_with fail
  refine (take_no (s := kSnd) HR3.out hISnd).mono ?_
  rintro e w4 ⟨rfl, hb⟩
  have HT4 := Lib.hid ((hb.block _ (heap_lt HT3.out)).trans HT3.out)
  have HM4 := Lib.hid (HM3.out.then hb)
  have HR4 := Lib.hid (HR3.out.under hb)
  clear hb
  have HQ4 := HQ3
  go_wp2_with fail
  refine (take_no (s := kBang) HR4.out hIBang).mono ?_
  rintro e w5 ⟨rfl, hb⟩
  have HT5 := Lib.hid ((hb.block _ (heap_lt HT4.out)).trans HT4.out)
  have HM5 := Lib.hid (HM4.out.then hb)
  have HR5 := Lib.hid (HR4.out.under hb)
  clear hb
  have HQ5 := HQ4
  go_wp2_with fail
  refine (take_no (s := kTrue) HR5.out hITrue).mono ?_
  rintro e w6 ⟨rfl, hb⟩
  have HT6 := Lib.hid ((hb.block _ (heap_lt HT5.out)).trans HT5.out)
  have HM6 := Lib.hid (HM5.out.then hb)
  have HR6 := Lib.hid (HR5.out.under hb)
  clear hb
  have HQ6 := HQ5
  go_wp2_with fail
  refine (take_no (s := kFalse) HR6.out hIFalse).mono ?_
  rintro e w7 ⟨rfl, hb⟩
  have HT7 := Lib.hid ((hb.block _ (heap_lt HT6.out)).trans HT6.out)
  have HM7 := Lib.hid (HM6.out.then hb)
  have HR7 := Lib.hid (HR6.out.under hb)
  clear hb
  have HQ7 := HQ6
  go_wp2_with fail
  refine (take_no (s := kHole) HR7.out hIHole).mono ?_
  rintro e w8 ⟨rfl, hb⟩
  have HT8 := Lib.hid ((hb.block _ (heap_lt HT7.out)).trans HT7.out)
  have HM8 := Lib.hid (HM7.out.then hb)
  have HR8 := Lib.hid (HR7.out.under hb)
  clear hb
  have HQ8 := HQ7
  go_wp2_with fail
  refine (take_no (s := kRelease) HR8.out hIRelease).mono ?_
  rintro e w9 ⟨rfl, hb⟩
  have HT9 := Lib.hid ((hb.block _ (heap_lt HT8.out)).trans HT8.out)
  have HM9 := Lib.hid (HM8.out.then hb)
  have HR9 := Lib.hid (HR8.out.under hb)
  clear hb
  have HQ9 := HQ8
  go_wp2_with fail
  refine (take_no (s := kLp) HR9.out hILp).mono ?_
  rintro e w10 ⟨rfl, hb⟩
  have HT10 := Lib.hid ((hb.block _ (heap_lt HT9.out)).trans HT9.out)
  have HM10 := Lib.hid (HM9.out.then hb)
  have HR10 := Lib.hid (HR9.out.under hb)
  clear hb
  have HQ10 := HQ9
  have hq := HQ10.out
  rw [if_pos HK3.out] at hq
  have HQ10 := Lib.hid hq
  clear hq
  have hke : ((hdT l0).kind == 3) = true := by rw [HK3.out]; rfl
  obtain ⟨t0, t1, t2, t3, t4⟩ := cellsOf5 HT10.out
  obtain ⟨n, g, cap, hn, hcap, ⟨b0, b1, b2, b3⟩, hc⟩ := HR10.out.tok
  have hfz := HR10.out.frozen 2
  have hwr : IntKind.i64.wrap ((n : Int) + 1) = (n : Int) + 1 := IntWalk.i64_in _ ⟨by omega, by have := HR10.out.few; omega⟩
  have HN := Lib.hid hn
  clear hc hcap b0 b1 b3 hn
  go_upto_region 26 with fail
  have HR11 := Lib.hid (HR10.out.step (by rw [HK3.out]; decide) HN.out)
  have HM11 := Lib.hid (HM10.out.set 2 (.int .i64 ((n : Int) + 1)))
  have HT11 := Lib.hid (heap_far HT10.out (HR10.out.other HT10.out (by decide) (by decide) (by decide)).1 2 (.int .i64 ((n : Int) + 1)))
  have HQ11 := HQ10
  clear b2 hfz hwr hke t0 t1 t2 t3 t4
  generalize w10.setCell ⟨b, 2, none⟩ (.int .i64 ((n : Int) + 1)) = w11 at *
  obtain ⟨t0, t1, t2, t3, t4⟩ := cellsOf5 HT11.out
  have HRa := Lib.hid HR11.out
  have HMa := Lib.hid HM11.out
  have hno : Calls Tryz.prog 49 #[.pointer (some ⟨b, 0, none⟩), .string nInt, tokV (hdT l0), .string nNil, (.slice none 0 0)] w11 fun e w' => PostG intV B b t tv ts (d + 1) v0 ms0 wB R e w' := by
    have h := node_in HRa.out (by have := HRa.out.base; have := HRa.out.lt; omega) nInt (hdT l0) nNil (show Tr.Ints w11 (.slice none 0 0) [] from .inl ⟨⟨none, 0, rfl⟩, rfl⟩) (by simp) (fun k hk => by simp at hk) (by rw [HQ11.out]; exact HOK.out)
    rw [HQ11.out] at h
    exact h.mono fun e w' hp => PostG.mv HMa.out hp
  unfold tokV at hno
  go_wp2_with fail
  refine hno.mono ?_
  clear hno
  intro e w12 hp
  cases R with
  | bad c ln cl =>
    obtain ⟨rfl, hbd⟩ := hp
    have HX := Lib.hid hbd
    clear hbd
    go_wp2_with fail
    exact ⟨rfl, wB, HI.out, rfl, HX.out⟩
  | ok a' l' m' =>
    obtain ⟨rfl, hx⟩ := hp
    have HX := Lib.hid hx
    clear hx
    unfold intV
    go_wp2_with fail
    exact ⟨rfl, wB, _, HI.out, rfl, rfl, HX.out⟩
set_option maxRecDepth 100000 in
set_option maxHeartbeats 16000000 in
theorem un_name {d : Int} {item un : Ps Int} (h0 : 0 ≤ d) (h1 : d < 64) (hgi : GoodP item) (hgu : GoodP un) (hi : FnC 46 (d + 1) item) (hu : FnC 105 (d + 1) un)
    {B b t : Nat} {tv : Value} {ts l0 : List Tok} {v0 : Value} {ms0 : List (Nd × Value)} {w : World} (h : RdrAt B b t tv ts l0 d v0 ms0 w) (hIMinus : isT kMinus (hdT l0) = false) (hINot : isT kNot (hdT l0) = false) (hIFst : isT kFst (hdT l0) = false) (hISnd : isT kSnd (hdT l0) = false) (hIBang : isT kBang (hdT l0) = false) (hITrue : isT kTrue (hdT l0) = false) (hIFalse : isT kFalse (hdT l0) = false) (hIHole : isT kHole (hdT l0) = false) (hIRelease : isT kRelease (hdT l0) = false) (hILp : isT kLp (hdT l0) = false) (HK3 : Hid ((hdT l0).kind ≠ 3)) (HGI : Hid (GoodP item)) :
    Calls Tryz.prog 105 #[.pointer (some ⟨b, 0, none⟩)] w fun e w' => PostG intV B b t tv ts d v0 ms0 w (unB item un l0 (ms0.map (·.1))) e w' := by
  obtain ⟨R, hR⟩ : ∃ R, unB item un l0 (ms0.map (·.1)) = R := ⟨_, rfl⟩
  have HOK := Lib.hid (show Ok' (fun _ l' m' => Pre l' m') R by rw [← hR]; exact (un_ok hgi hgu l0 _ h.pre).mono fun i l' m' h => h.1.pre)
  have HTK := Lib.hid h.pre.hd
  have HALL := Lib.hid (all_in hgi hi)
  have HG := Lib.hid (allT_ok hgi)
  have HU := Lib.hid hu
  have HGU := Lib.hid hgu
  have HARGS := Lib.hid (args_in hgi (all_in hgi hi))
  have HINS := Lib.hid (inside_in hgi (all_in hgi hi))
  have HIN := Lib.hid (into_ok h h0 h1)
  rw [hR]
  refine deep_calls (ts := ts) (l := l0) Tryz.func105 rfl h0 h1 (fun tmps W => by simp [results, Tryz.results105, go_sem]) ?_
  simp only [Tryz.ntmps105, List.size_toArray, List.length_cons, List.length_nil, Nat.reduceAdd, Nat.reduceSub, Array.replicate_succ, Array.replicate_zero, List.push_toArray, List.append_toArray, List.nil_append, List.cons_append]
  clear h hgi hgu hi hu
  go_wp2_with fail
  refine HIN.out.mono ?_
  rintro e wB ⟨rfl, hbx, hr, hm⟩
  have HI := Lib.hid (show InD w B b t tv ts l0 d v0 ms0 wB from ⟨hbx, hr, hm⟩)
  clear hbx hr hm HIN
  go_wp2_with fail
  refine (Next_in HI.out.rd).mono ?_
  rintro e w2 ⟨rfl, hb⟩
  have hb0 := hb.alloc hb.size (.cells #[.int .i64 (hdT l0).kind, .string (hdT l0).text, .int .i64 (hdT l0).num, .int .i64 (hdT l0).line, .int .i64 (hdT l0).col] 35)
  have HR0 := Lib.hid (HI.out.rd.under hb0)
  have HM0 := Lib.hid (Mw.of (b := b) (t := t) (v := v0) (ms := ms0) hb0)
  have HT0 := Lib.hid (last w2 (.cells #[.int .i64 (hdT l0).kind, .string (hdT l0).text, .int .i64 (hdT l0).num, .int .i64 (hdT l0).line, .int .i64 (hdT l0).col] 35))
  clear hb hb0
  unfold tokV
  go_upto_region 3 with fail
  generalize w2.heap.size = q at *
  generalize w2.alloc (.cells #[.int .i64 (hdT l0).kind, .string (hdT l0).text, .int .i64 (hdT l0).num, .int .i64 (hdT l0).line, .int .i64 (hdT l0).col] 35) = w0 at *
  have HQ0 := Lib.hid hR
  clear hR
  unfold unB at HQ0
  have hq := HQ0.out
  simp only [hIMinus, hINot, hIFst, hISnd, hIBang, hITrue, hIFalse, hIHole, hIRelease, hILp, if_true, if_false, Bool.false_eq_true, Bool.false_or, Bool.true_or, Bool.or_true, Bool.or_false] at hq
  have HQ0 := Lib.hid hq
  clear hq
  go_wp2_with fail
  refine (take_no (s := kMinus) HR0.out hIMinus).mono ?_
  rintro e w1 ⟨rfl, hb⟩
  have HT1 := Lib.hid ((hb.block _ (heap_lt HT0.out)).trans HT0.out)
  have HM1 := Lib.hid (HM0.out.then hb)
  have HR1 := Lib.hid (HR0.out.under hb)
  clear hb
  have HQ1 := HQ0
  go_wp2_with fail
  refine (take_no (s := kNot) HR1.out hINot).mono ?_
  rintro e w2 ⟨rfl, hb⟩
  have HT2 := Lib.hid ((hb.block _ (heap_lt HT1.out)).trans HT1.out)
  have HM2 := Lib.hid (HM1.out.then hb)
  have HR2 := Lib.hid (HR1.out.under hb)
  clear hb
  have HQ2 := HQ1
  go_wp2_with fail
  refine (take_no (s := kFst) HR2.out hIFst).mono ?_
  rintro e w3 ⟨rfl, hb⟩
  have HT3 := Lib.hid ((hb.block _ (heap_lt HT2.out)).trans HT2.out)
  have HM3 := Lib.hid (HM2.out.then hb)
  have HR3 := Lib.hid (HR2.out.under hb)
  clear hb
  have HQ3 := HQ2
  go_wp2_with fail
  refine (take_no (s := kSnd) HR3.out hISnd).mono ?_
  rintro e w4 ⟨rfl, hb⟩
  have HT4 := Lib.hid ((hb.block _ (heap_lt HT3.out)).trans HT3.out)
  have HM4 := Lib.hid (HM3.out.then hb)
  have HR4 := Lib.hid (HR3.out.under hb)
  clear hb
  have HQ4 := HQ3
  go_wp2_with fail
  refine (take_no (s := kBang) HR4.out hIBang).mono ?_
  rintro e w5 ⟨rfl, hb⟩
  have HT5 := Lib.hid ((hb.block _ (heap_lt HT4.out)).trans HT4.out)
  have HM5 := Lib.hid (HM4.out.then hb)
  have HR5 := Lib.hid (HR4.out.under hb)
  clear hb
  have HQ5 := HQ4
  go_wp2_with fail
  refine (take_no (s := kTrue) HR5.out hITrue).mono ?_
  rintro e w6 ⟨rfl, hb⟩
  have HT6 := Lib.hid ((hb.block _ (heap_lt HT5.out)).trans HT5.out)
  have HM6 := Lib.hid (HM5.out.then hb)
  have HR6 := Lib.hid (HR5.out.under hb)
  clear hb
  have HQ6 := HQ5
  go_wp2_with fail
  refine (take_no (s := kFalse) HR6.out hIFalse).mono ?_
  rintro e w7 ⟨rfl, hb⟩
  have HT7 := Lib.hid ((hb.block _ (heap_lt HT6.out)).trans HT6.out)
  have HM7 := Lib.hid (HM6.out.then hb)
  have HR7 := Lib.hid (HR6.out.under hb)
  clear hb
  have HQ7 := HQ6
  go_wp2_with fail
  refine (take_no (s := kHole) HR7.out hIHole).mono ?_
  rintro e w8 ⟨rfl, hb⟩
  have HT8 := Lib.hid ((hb.block _ (heap_lt HT7.out)).trans HT7.out)
  have HM8 := Lib.hid (HM7.out.then hb)
  have HR8 := Lib.hid (HR7.out.under hb)
  clear hb
  have HQ8 := HQ7
  go_wp2_with fail
  refine (take_no (s := kRelease) HR8.out hIRelease).mono ?_
  rintro e w9 ⟨rfl, hb⟩
  have HT9 := Lib.hid ((hb.block _ (heap_lt HT8.out)).trans HT8.out)
  have HM9 := Lib.hid (HM8.out.then hb)
  have HR9 := Lib.hid (HR8.out.under hb)
  clear hb
  have HQ9 := HQ8
  go_wp2_with fail
  refine (take_no (s := kLp) HR9.out hILp).mono ?_
  rintro e w10 ⟨rfl, hb⟩
  have HT10 := Lib.hid ((hb.block _ (heap_lt HT9.out)).trans HT9.out)
  have HM10 := Lib.hid (HM9.out.then hb)
  have HR10 := Lib.hid (HR9.out.under hb)
  clear hb
  have HQ10 := HQ9
  have hq := HQ10.out
  rw [if_neg HK3.out] at hq
  have HQ10 := Lib.hid hq
  clear hq
  have hke : ((hdT l0).kind == 3) = false := by have := HK3.out; simp [this]
  obtain ⟨t0, t1, t2, t3, t4⟩ := cellsOf5 HT10.out
  go_wp2_with fail
  refine (kind_in (k := 1) HR10.out (by decide)).mono ?_
  intro e w11 hp
  have HT11 := Lib.hid (hp.keep HR10.out HT10.out (by decide) (by decide) (by decide))
  have hp := PostG.mv HM10.out hp
  cases ho : kindP 1 l0 (ms0.map (·.1)) with
  | bad c ln cl =>
    rw [ho] at hp
    have hq := HQ10.out
    rw [ho] at hq
    simp only [Out.bind] at hq
    subst hq
    obtain ⟨rfl, hbd⟩ := hp
    have HX := Lib.hid hbd
    clear hbd ho
    go_wp2_with fail
    exact ⟨rfl, wB, HI.out, rfl, HX.out⟩
  | ok x11 l11 m11 =>
    rw [ho] at hp
    have hq := HQ10.out
    rw [ho] at hq
    simp only [Out.bind] at hq
    obtain ⟨rfl, v11, ms11, rfl, hr, hm⟩ := hp
    obtain ⟨-, -, hmm, -⟩ := kind_same ho
    have hext : ms11.length = ms0.length := by simpa using congrArg List.length hmm
    have HQ11 := Lib.hid hq
    have HR11 := Lib.hid hr
    have HM11 := Lib.hid hm
    have hf11 := fun W => field_text x11.kind x11.num x11.line x11.col x11.text W
    clear hq hext hmm hr hm ho
    unfold tokV
    clear hke t0 t1 t2 t3 t4
    cases hIc : isT kLp (hdT l11) with
    | true =>
      have hq := HQ11.out
      simp only [hIc, if_true] at hq
      have HQ11 := Lib.hid hq
      clear hq
      go_wp2_with fail
      refine (take_yes (s := kLp) HR11.out hIc).mono ?_
      rintro e w12 ⟨rfl, hr, hm⟩
      have HT12 := Lib.hid (hm.keep HR11.out HT11.out (by decide) (by decide) (by decide))
      have HM12 := Lib.hid (HM11.out.trans (Mw.same hm))
      have HR12 := Lib.hid hr
      clear hr hm
      have HQ12 := HQ11
      go_upto_region 30 with fail
      obtain ⟨t0, t1, t2, t3, t4⟩ := cellsOf5 HT12.out
      have hbw := (Below.refl w12.heap.size w12).drew
      cases ho : argsP item l11.tail (ms11.map (·.1)) with
      | bad c ln cl =>
        have hq := HQ12.out
        rw [ho] at hq
        simp only [Out.bind] at hq
        subst hq
        have hsx : ∀ W, Below w12.heap.size w12 W → Calls Tryz.prog 124 #[.pointer (some ⟨b, 0, none⟩)] W fun e w' => e = .panicked (panicV c ln cl) ∧ Bad b t tv v0 wB w' := fun W hb => by
          have := HARGS.out B b t tv ts l11.tail v11 ms11 W (HR12.out.under hb)
          rw [ho] at this
          exact this.mono fun e w' ⟨h1, h2⟩ => ⟨h1, h2.after ((HM12.out.then hb).toMv)⟩
        have HZ := Lib.hid hsx
        clear hsx ho
        go_region_with
          (first | (go_at_call 124; refine (HZ.out _ (by with_reducible assumption)).mono ?_; rintro e w9 ⟨rfl, hbd⟩; refine dead (P := Tryz.prog) (w := w9) ⟨rfl, wB, HI.out, rfl, hbd⟩ ?_))
        all_goals trivial
      | ok ks l13 m13 =>
        have hq := HQ12.out
        have hgs := args_ok HGI.out HR12.out.pre
        rw [ho] at hq hgs
        simp only [Out.bind] at hq
        have hgs : Adv l11.tail (ms11.map (·.1)) l13 m13 ∧ Paid (ms11.map (·.1)) ks m13 ∧ ks.length ≤ 65540 := hgs
        have hsx : ∀ W, Below w12.heap.size w12 W → Calls Tryz.prog 124 #[.pointer (some ⟨b, 0, none⟩)] W fun e w' => ∃ s, e = .returned s ∧ ∃ v' ms', Tr.Ints w' s ks ∧ ms'.map (·.1) = m13 ∧ RdrAt B b t tv ts l13 (d + 1) v' ms' w' ∧ Mw b t v0 ms0 wB v' ms' w' ∧ w'.heap[q]? = some (.cells #[.int .i64 (hdT l0).kind, .string (hdT l0).text, .int .i64 (hdT l0).num, .int .i64 (hdT l0).line, .int .i64 (hdT l0).col] 35) := fun W hb => by
          have := HARGS.out B b t tv ts l11.tail v11 ms11 W (HR12.out.under hb)
          rw [ho] at this
          refine this.mono fun e w' ⟨s, v', ms', h1, h2, h3, h4, h5⟩ => ?_
          have hk := h5.toMv.keep (HR12.out.under hb) ((hb.block _ (heap_lt HT12.out)).trans HT12.out) (by decide) (by decide) (by decide)
          exact ⟨s, h1, v', ms', h2, h3, h4, (HM12.out.then hb).trans h5, hk⟩
        have hno : ∀ (s v2 : Value) (ms2 : List (Nd × Value)) (W : World), Tr.Ints W s ks → ms2.map (·.1) = m13 → RdrAt B b t tv ts l13 (d + 1) v2 ms2 W → Mw b t v0 ms0 wB v2 ms2 W →
            Calls Tryz.prog 49 #[.pointer (some ⟨b, 0, none⟩), .string nCall, .agg #[.int .i64 (hdT l0).kind, .string (hdT l0).text, .int .i64 (hdT l0).num, .int .i64 (hdT l0).line, .int .i64 (hdT l0).col], .string (hdT l0).text, s] W fun e w' => PostG intV B b t tv ts (d + 1) v0 ms0 wB R e w' := fun s v2 ms2 W hin hms hr hm => by
          have hlm : (ms2.length : Int) = m13.length := by rw [← hms]; simp
          have h := node_in hr (by have := hr.base; have := hr.lt; omega) nCall (hdT l0) (hdT l0).text hin (by omega) (fun k hk => by
            rw [hlm]
            exact hgs.2.1.there k hk) (by rw [hms, hq]; exact HOK.out)
          rw [hms, hq] at h
          exact h.mono fun e w' hp => PostG.mv hm hp
        have HZ := Lib.hid hsx
        have HNO := Lib.hid hno
        clear hsx hno ho hq hgs
        cases R with
        | bad c ln cl =>
          go_region_with
            (first
              | (go_at_call 124; refine (HZ.out _ (by with_reducible assumption)).mono ?_; rintro e w9 ⟨s9, rfl, v2, ms2, hin9, hms2, hr9, hm9, ht9⟩; obtain ⟨t0, t1, t2, t3, t4⟩ := cellsOf5 ht9; clear ht9)
              | (go_at_call 49; refine (HNO.out _ _ _ _ hin9 hms2 hr9 hm9).mono ?_; rintro e w10 ⟨rfl, hbd⟩; refine dead (P := Tryz.prog) (w := w10) ⟨rfl, wB, HI.out, rfl, hbd⟩ ?_))
          all_goals trivial
        | ok i' l' m' =>
          go_region_with
            (first
              | (go_at_call 124; refine (HZ.out _ (by with_reducible assumption)).mono ?_; rintro e w9 ⟨s9, rfl, v2, ms2, hin9, hms2, hr9, hm9, ht9⟩; obtain ⟨t0, t1, t2, t3, t4⟩ := cellsOf5 ht9; clear ht9)
              | (go_at_call 49; refine (HNO.out _ _ _ _ hin9 hms2 hr9 hm9).mono ?_; rintro e w10 ⟨rfl, hx10⟩; unfold intV))
          all_goals
            go_wp2_with fail
            exact ⟨rfl, wB, _, HI.out, rfl, rfl, hx10⟩
    | false =>
      have hq := HQ11.out
      simp only [hIc, if_false, Bool.false_eq_true] at hq
      have HQ11 := Lib.hid hq
      clear hq
      go_wp2_with fail
      refine (take_no (s := kLp) HR11.out hIc).mono ?_
      rintro e w12 ⟨rfl, hb⟩
      have HT12 := Lib.hid ((hb.block _ (heap_lt HT11.out)).trans HT11.out)
      have HM12 := Lib.hid (HM11.out.then hb)
      have HR12 := Lib.hid (HR11.out.under hb)
      clear hb
      have HQ12 := HQ11
      obtain ⟨t0, t1, t2, t3, t4⟩ := cellsOf5 HT12.out
      have HRa := Lib.hid HR12.out
      have HMa := Lib.hid HM12.out
      have hno : Calls Tryz.prog 49 #[.pointer (some ⟨b, 0, none⟩), .string nVar, tokV (hdT l0), .string (hdT l0).text, (.slice none 0 0)] w12 fun e w' => PostG intV B b t tv ts (d + 1) v0 ms0 wB R e w' := by
        have h := node_in HRa.out (by have := HRa.out.base; have := HRa.out.lt; omega) nVar (hdT l0) (hdT l0).text (show Tr.Ints w12 (.slice none 0 0) [] from .inl ⟨⟨none, 0, rfl⟩, rfl⟩) (by simp) (fun k hk => by simp at hk) (by rw [HQ12.out]; exact HOK.out)
        rw [HQ12.out] at h
        exact h.mono fun e w' hp => PostG.mv HMa.out hp
      unfold tokV at hno
      go_wp2_with fail
      refine hno.mono ?_
      clear hno
      intro e w13 hp
      cases R with
      | bad c ln cl =>
        obtain ⟨rfl, hbd⟩ := hp
        have HX := Lib.hid hbd
        clear hbd
        go_wp2_with fail
        exact ⟨rfl, wB, HI.out, rfl, HX.out⟩
      | ok a' l' m' =>
        obtain ⟨rfl, hx⟩ := hp
        have HX := Lib.hid hx
        clear hx
        unfold intV
        go_wp2_with fail
        exact ⟨rfl, wB, _, HI.out, rfl, rfl, HX.out⟩
end Go.Proofs.YtmeacgmjpjjphaaGreatDoor
namespace Go.Proofs.YtmeacgmjpjjphaaGreatDoor
open Go.RowKit Go.Shelf
open Tr (Nd TreeAt Own Ints)

theorem unary_in {d : Int} {item un : Ps Int} (h0 : 0 ≤ d) (h1 : d < 64) (hgi : GoodP item) (hgu : GoodP un) (hi : FnC 46 (d + 1) item) (hu : FnC 105 (d + 1) un) : FnC 105 d (unB item un) := by
  intro B b t tv ts l v ms w h
  cases hm : isT kMinus (hdT l) with
  | true => exact un_minus h0 h1 hgi hgu hi hu h hm
  | false =>
  cases hn : isT kNot (hdT l) with
  | true => exact un_not h0 h1 hgi hgu hi hu h hm hn
  | false =>
  cases hf : isT kFst (hdT l) with
  | true => exact un_fst h0 h1 hgi hgu hi hu h hm hn hf
  | false =>
  cases hs : isT kSnd (hdT l) with
  | true => exact un_snd h0 h1 hgi hgu hi hu h hm hn hf hs
  | false =>
  cases hb : isT kBang (hdT l) with
  | true => exact un_bang h0 h1 hgi hgu hi hu h hm hn hf hs hb
  | false =>
  cases ht : isT kTrue (hdT l) with
  | true => exact un_true h0 h1 hgi hgu hi hu h hm hn hf hs hb ht
  | false =>
  cases hfa : isT kFalse (hdT l) with
  | true => exact un_false h0 h1 hgi hgu hi hu h hm hn hf hs hb ht hfa
  | false =>
  cases hh : isT kHole (hdT l) with
  | true => exact un_hole h0 h1 hgi hgu hi hu h hm hn hf hs hb ht hfa hh
  | false =>
  cases hr : isT kRelease (hdT l) with
  | true => exact un_release h0 h1 hgi hgu hi hu h hm hn hf hs hb ht hfa hh hr
  | false =>
  cases hl : isT kLp (hdT l) with
  | true => exact un_lp h0 h1 hgi hgu hi hu h hm hn hf hs hb ht hfa hh hr hl
  | false =>
  by_cases h3 : (hdT l).kind = 3
  · exact un_int h0 h1 hgi hgu hi hu h hm hn hf hs hb ht hfa hh hr hl (Lib.hid h3)
  · exact un_name h0 h1 hgi hgu hi hu h hm hn hf hs hb ht hfa hh hr hl (Lib.hid h3) (Lib.hid hgi)
end Go.Proofs.YtmeacgmjpjjphaaGreatDoor
