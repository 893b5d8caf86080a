/- Items: all ways; and the depth. -/
import Derived.Test.YtmeacgmjpjjphaaGreatDoorMExX0
import Derived.BigQuiet
import Derived.Test.YtmeacgmjpjjphaaGreatDoorMExX5
import Derived.Test.YtmeacgmjpjjphaaGreatDoorMExW
set_option linter.unusedVariables false
set_option linter.unusedSimpArgs false
namespace Go.Proofs.YtmeacgmjpjjphaaGreatDoor
open Go.RowKit Go.Shelf
open Tr (Nd TreeAt Own Ints)
set_option maxRecDepth 100000 in
set_option maxHeartbeats 16000000 in
theorem it_let {d : Int} {item un : Ps Int} (h0 : 0 ≤ d) (h1 : d < 64) (hgi : GoodP item) (hgu : GoodP un) (hi : FnC 46 (d + 1) item) (hu : FnC 105 (d + 1) un)
    {B b t : Nat} {tv : Value} {ts l0 : List Tok} {v0 : Value} {ms0 : List (Nd × Value)} {w : World} (h : RdrAt B b t tv ts l0 d v0 ms0 w) (hILet : isT kLet (hdT l0) = true)  :
    Calls Tryz.prog 46 #[.pointer (some ⟨b, 0, none⟩)] w fun e w' => PostG intV B b t tv ts d v0 ms0 w (itemB item un l0 (ms0.map (·.1))) e w' := by
  obtain ⟨R, hR⟩ : ∃ R, itemB item un l0 (ms0.map (·.1)) = R := ⟨_, rfl⟩
  have HOK := Lib.hid (show Ok' (fun _ l' m' => Pre l' m') R by rw [← hR]; exact (item_ok hgi hgu l0 _ h.pre).mono fun i l' m' h => h.1.pre)
  have HALL := Lib.hid (all_in hgi hi)
  have HG := Lib.hid (allT_ok hgi)
  have HITEM := Lib.hid hi
  have HGI := Lib.hid hgi
  have HLV := Lib.hid (lev0_in hgu hu)
  have HGL := Lib.hid (lev_ok hgu 5)
  have HIN := Lib.hid (into_ok h h0 h1)
  rw [hR]
  refine deep_calls (ts := ts) (l := l0) Tryz.func46 rfl h0 h1 (fun tmps W => by simp [results, Tryz.results46, go_sem]) ?_
  simp only [Tryz.ntmps46, List.size_toArray, List.length_cons, List.length_nil, Nat.reduceAdd, Nat.reduceSub, Array.replicate_succ, Array.replicate_zero, List.push_toArray, List.append_toArray, List.nil_append, List.cons_append]
  clear h hgi hgu hi hu
  go_wp2_with fail
  refine HIN.out.mono ?_
  rintro e wB ⟨rfl, hbx, hr, hm⟩
  have HI := Lib.hid (show InD w B b t tv ts l0 d v0 ms0 wB from ⟨hbx, hr, hm⟩)
  clear hbx hr hm HIN
  go_wp2_with fail
  refine (Next_in HI.out.rd).mono ?_
  rintro e w2 ⟨rfl, hb⟩
  have hb0 := hb.alloc hb.size (.cells #[.int .i64 (hdT l0).kind, .string (hdT l0).text, .int .i64 (hdT l0).num, .int .i64 (hdT l0).line, .int .i64 (hdT l0).col] 35)
  have HR0 := Lib.hid (HI.out.rd.under hb0)
  have HM0 := Lib.hid (Mw.of (b := b) (t := t) (v := v0) (ms := ms0) hb0)
  have HT0 := Lib.hid (last w2 (.cells #[.int .i64 (hdT l0).kind, .string (hdT l0).text, .int .i64 (hdT l0).num, .int .i64 (hdT l0).line, .int .i64 (hdT l0).col] 35))
  clear hb hb0
  unfold tokV
  go_upto_region 3 with fail
  generalize w2.heap.size = q at *
  generalize w2.alloc (.cells #[.int .i64 (hdT l0).kind, .string (hdT l0).text, .int .i64 (hdT l0).num, .int .i64 (hdT l0).line, .int .i64 (hdT l0).col] 35) = w0 at *
  have HQ0 := Lib.hid hR
  clear hR
  unfold itemB at HQ0
  have hq := HQ0.out
  simp only [hILet, if_true, if_false, Bool.false_eq_true] at hq
  have HQ0 := Lib.hid hq
  clear hq
  go_wp2_with fail
  refine (take_yes (s := kLet) HR0.out hILet).mono ?_
  rintro e w1 ⟨rfl, hr, hm⟩
  have HT1 := Lib.hid (hm.keep HR0.out HT0.out (by decide) (by decide) (by decide))
  have HM1 := Lib.hid (HM0.out.trans (Mw.same hm))
  have HR1 := Lib.hid hr
  clear hr hm
  have HQ1 := HQ0
  go_wp2_with fail
  refine (kind_in (k := 1) HR1.out (by decide)).mono ?_
  intro e w2 hp
  have HT2 := Lib.hid (hp.keep HR1.out HT1.out (by decide) (by decide) (by decide))
  have hp := PostG.mv HM1.out hp
  cases ho : kindP 1 l0.tail (ms0.map (·.1)) with
  | bad c ln cl =>
    rw [ho] at hp
    have hq := HQ1.out
    rw [ho] at hq
    simp only [Out.bind] at hq
    subst hq
    obtain ⟨rfl, hbd⟩ := hp
    have HX := Lib.hid hbd
    clear hbd ho
    go_wp2_with fail
    exact ⟨rfl, wB, HI.out, rfl, HX.out⟩
  | ok x2 l2 m2 =>
    rw [ho] at hp
    have hq := HQ1.out
    rw [ho] at hq
    simp only [Out.bind] at hq
    obtain ⟨rfl, v2, ms2, rfl, hr, hm⟩ := hp
    obtain ⟨-, -, hmm, -⟩ := kind_same ho
    have hext : ms2.length = ms0.length := by simpa using congrArg List.length hmm
    have HQ2 := Lib.hid hq
    have HR2 := Lib.hid hr
    have HM2 := Lib.hid hm
    have hf2 := fun W => field_text x2.kind x2.num x2.line x2.col x2.text W
    clear hq hext hmm hr hm ho
    unfold tokV
    have hba := (Below.refl w2.heap.size w2).alloc (Nat.le_refl _) (.cells #[.string ⟨#[61]⟩] 9)
    have HRa := Lib.hid (HR2.out.under hba)
    have HTa := Lib.hid ((hba.block _ (heap_lt HT2.out)).trans HT2.out)
    have HMa := Lib.hid (HM2.out.then hba)
    have hmu : Calls Tryz.prog 30 #[.pointer (some ⟨b, 0, none⟩), .slice (some ⟨w2.heap.size, 0, none⟩) 1 1] (w2.alloc (.cells #[.string ⟨#[61]⟩] 9)) fun e w' => PostG unitV B b t tv ts (d + 1) v2 ms2 (w2.alloc (.cells #[.string ⟨#[61]⟩] 9)) (mustP kEq l2 (ms2.map (·.1))) e w' := must_in HRa.out (last w2 _)
    clear hba
    go_wp2_with fail
    refine hmu.mono ?_
    clear hmu
    intro e w3 hp
    have HT3 := Lib.hid (hp.keep HRa.out HTa.out (by decide) (by decide) (by decide))
    have hp := PostG.mv HMa.out hp
    clear HRa HMa HTa
    cases ho : mustP kEq l2 (ms2.map (·.1)) with
    | bad c ln cl =>
      rw [ho] at hp
      have hq := HQ2.out
      rw [ho] at hq
      simp only [Out.bind] at hq
      subst hq
      obtain ⟨rfl, hbd⟩ := hp
      have HX := Lib.hid hbd
      clear hbd ho
      go_wp2_with fail
      exact ⟨rfl, wB, HI.out, rfl, HX.out⟩
    | ok u3 l3 m3 =>
      rw [ho] at hp
      have hq := HQ2.out
      rw [ho] at hq
      simp only [Out.bind] at hq
      obtain ⟨rfl, v3, ms3, rfl, hr, hm⟩ := hp
      obtain ⟨-, hmm⟩ := must_same ho
      have hext : ms3.length = ms2.length := by simpa using congrArg List.length hmm
      have HQ3 := Lib.hid hq
      have HR3 := Lib.hid hr
      have HM3 := Lib.hid hm
      clear hq hext hmm hr hm ho
      unfold unitV
      go_wp2_with fail
      refine (HALL.out B b t tv ts l3 v3 ms3 w3 HR3.out).mono ?_
      intro e w4 hp
      have HT4 := Lib.hid (hp.keep HR3.out HT3.out (by decide) (by decide) (by decide))
      have hp := PostG.mv HM3.out hp
      cases ho : allT item l3 (ms3.map (·.1)) with
      | bad c ln cl =>
        rw [ho] at hp
        have hq := HQ3.out
        rw [ho] at hq
        simp only [Out.bind] at hq
        subst hq
        obtain ⟨rfl, hbd⟩ := hp
        have HX := Lib.hid hbd
        clear hbd ho
        go_wp2_with fail
        exact ⟨rfl, wB, HI.out, rfl, HX.out⟩
      | ok a l4 m4 =>
        rw [ho] at hp
        have hq := HQ3.out
        have hgs := HG.out l3 (ms3.map (·.1)) HR3.out.pre
        rw [ho] at hq hgs
        simp only [Out.bind] at hq
        obtain ⟨rfl, v4, ms4, rfl, hr, hm⟩ := hp
        have hgs : Fit l3 (ms3.map (·.1)) a l4 (ms4.map (·.1)) := hgs
        have hext : ms3.length ≤ ms4.length := by simpa using hgs.1.ext.length_le
        have HQ4 := Lib.hid hq
        have HR4 := Lib.hid hr
        have HM4 := Lib.hid hm
        have Ka4 := Lib.hid (show 0 ≤ a ∧ a < (ms4.length : Int) by simpa using hgs.2.there a (by simp))
        clear hq hgs hext hr hm ho
        unfold intV
        have hba := (Below.refl w4.heap.size w4).alloc (Nat.le_refl _) (.cells #[.string ⟨#[105, 110]⟩] 9)
        have HRa := Lib.hid (HR4.out.under hba)
        have HTa := Lib.hid ((hba.block _ (heap_lt HT4.out)).trans HT4.out)
        have HMa := Lib.hid (HM4.out.then hba)
        have hmu : Calls Tryz.prog 30 #[.pointer (some ⟨b, 0, none⟩), .slice (some ⟨w4.heap.size, 0, none⟩) 1 1] (w4.alloc (.cells #[.string ⟨#[105, 110]⟩] 9)) fun e w' => PostG unitV B b t tv ts (d + 1) v4 ms4 (w4.alloc (.cells #[.string ⟨#[105, 110]⟩] 9)) (mustP kIn l4 (ms4.map (·.1))) e w' := must_in HRa.out (last w4 _)
        clear hba
        go_wp2_with fail
        refine hmu.mono ?_
        clear hmu
        intro e w5 hp
        have HT5 := Lib.hid (hp.keep HRa.out HTa.out (by decide) (by decide) (by decide))
        have hp := PostG.mv HMa.out hp
        clear HRa HMa HTa
        cases ho : mustP kIn l4 (ms4.map (·.1)) with
        | bad c ln cl =>
          rw [ho] at hp
          have hq := HQ4.out
          rw [ho] at hq
          simp only [Out.bind] at hq
          subst hq
          obtain ⟨rfl, hbd⟩ := hp
          have HX := Lib.hid hbd
          clear hbd ho
          go_wp2_with fail
          exact ⟨rfl, wB, HI.out, rfl, HX.out⟩
        | ok u5 l5 m5 =>
          rw [ho] at hp
          have hq := HQ4.out
          rw [ho] at hq
          simp only [Out.bind] at hq
          obtain ⟨rfl, v5, ms5, rfl, hr, hm⟩ := hp
          obtain ⟨-, hmm⟩ := must_same ho
          have hext : ms5.length = ms4.length := by simpa using congrArg List.length hmm
          have HQ5 := Lib.hid hq
          have HR5 := Lib.hid hr
          have HM5 := Lib.hid hm
          have Ka5 := Lib.hid (show 0 ≤ a ∧ a < (ms5.length : Int) from ⟨Ka4.out.1, by have := Ka4.out.2; omega⟩)
          clear hq hext hmm hr hm ho
          unfold unitV
          go_upto_region 8 with fail
          obtain ⟨t0, t1, t2, t3, t4⟩ := cellsOf5 HT5.out
          have hbw := (Below.refl w5.heap.size w5).drew
          cases ho : allT item l5 (ms5.map (·.1)) with
          | bad c ln cl =>
            have hq := HQ5.out
            rw [ho] at hq
            simp only [Out.bind] at hq
            subst hq
            have hsx : ∀ W, Below w5.heap.size w5 W → Calls Tryz.prog 26 #[.pointer (some ⟨b, 0, none⟩)] W fun e w' => e = .panicked (panicV c ln cl) ∧ Bad b t tv v0 wB w' := fun W hb => by
              have := HALL.out B b t tv ts l5 v5 ms5 W (HR5.out.under hb)
              rw [ho] at this
              exact this.mono fun e w' ⟨h1, h2⟩ => ⟨h1, h2.after ((HM5.out.then hb).toMv)⟩
            have HZ := Lib.hid hsx
            clear hsx ho
            go_region_with
              (first | (go_at_call 26; refine (HZ.out _ (by with_reducible assumption)).mono ?_; rintro e w9 ⟨rfl, hbd⟩; refine dead (P := Tryz.prog) (w := w9) ⟨rfl, wB, HI.out, rfl, hbd⟩ ?_))
            all_goals trivial
          | ok b2 l6 m6 =>
            have hq := HQ5.out
            have hgs := HG.out l5 (ms5.map (·.1)) HR5.out.pre
            rw [ho] at hq hgs
            simp only [Out.bind] at hq
            have hgs : Fit l5 (ms5.map (·.1)) b2 l6 m6 := hgs
            have hext : ms5.length ≤ m6.length := by simpa using hgs.1.ext.length_le
            have KKb2 := Lib.hid (show 0 ≤ b2 ∧ b2 < (m6.length : Int) from hgs.2.there b2 (by simp))
            have KKa := Lib.hid (show 0 ≤ a ∧ a < (m6.length : Int) from ⟨Ka5.out.1, by have := Ka5.out.2; omega⟩)
            have hsx : ∀ W, Below w5.heap.size w5 W → Calls Tryz.prog 26 #[.pointer (some ⟨b, 0, none⟩)] W fun e w' => e = .returned (.int .i64 b2) ∧ ∃ v' ms', ms'.map (·.1) = m6 ∧ RdrAt B b t tv ts l6 (d + 1) v' ms' w' ∧ Mw b t v0 ms0 wB v' ms' w' ∧ w'.heap[q]? = some (.cells #[.int .i64 (hdT l0).kind, .string (hdT l0).text, .int .i64 (hdT l0).num, .int .i64 (hdT l0).line, .int .i64 (hdT l0).col] 35) := fun W hb => by
              have := HALL.out B b t tv ts l5 v5 ms5 W (HR5.out.under hb)
              rw [ho] at this
              refine this.mono fun e w' hp => ?_
              have hk := hp.keep (HR5.out.under hb) ((hb.block _ (heap_lt HT5.out)).trans HT5.out) (by decide) (by decide) (by decide)
              obtain ⟨h1, v', ms', h2, h3, h4⟩ := hp
              exact ⟨h1, v', ms', h2, h3, (HM5.out.then hb).trans h4, hk⟩
            have hno : ∀ (v2 : Value) (ms2 : List (Nd × Value)) (W : World), ms2.map (·.1) = m6 → RdrAt B b t tv ts l6 (d + 1) v2 ms2 W → Mw b t v0 ms0 wB v2 ms2 W →
                Calls Tryz.prog 49 #[.pointer (some ⟨b, 0, none⟩), .string kLet, .agg #[.int .i64 (hdT l0).kind, .string (hdT l0).text, .int .i64 (hdT l0).num, .int .i64 (hdT l0).line, .int .i64 (hdT l0).col], .string x2.text, .slice (some ⟨W.heap.size, 0, none⟩) 2 2] (W.alloc (.cells #[.int .i64 a, .int .i64 b2] 3)) fun e w' => PostG intV B b t tv ts (d + 1) v0 ms0 wB R e w' := fun v2 ms2 W hms hr hm => by
              have hb' := (Below.refl W.heap.size W).alloc (Nat.le_refl _) (.cells #[.int .i64 a, .int .i64 b2] 3)
              have hlm : (ms2.length : Int) = m6.length := by rw [← hms]; simp
              have h := node_in (hr.under hb') (by have := hr.base; have := hr.lt; simp; omega) kLet (hdT l0) x2.text (ints_two W a b2) (by simp) (fun k hk => by
                  rw [hlm]
                  simp only [List.mem_cons, List.not_mem_nil, or_false] at hk
                  rcases hk with rfl | rfl
                  · exact KKa.out
                  · exact KKb2.out) (by rw [hms, hq]; exact HOK.out)
              rw [hms, hq] at h
              exact h.mono fun e w' hp => PostG.mv (hm.then hb') hp
            have HZ := Lib.hid hsx
            have HNO := Lib.hid hno
            clear hsx hno ho hq hgs hext
            cases R with
            | bad c ln cl =>
              go_region_with
                (first
                  | (go_at_call 26; refine (HZ.out _ (by with_reducible assumption)).mono ?_; rintro e w9 ⟨rfl, v2, ms2, hms2, hr9, hm9, ht9⟩; obtain ⟨t0, t1, t2, t3, t4⟩ := cellsOf5 ht9; have t0' := fun o => cellA t0 o; have t1' := fun o => cellA t1 o; have t2' := fun o => cellA t2 o; have t3' := fun o => cellA t3 o; have t4' := fun o => cellA t4 o; clear ht9)
                  | (go_at_call 49; refine (HNO.out _ _ _ hms2 hr9 hm9).mono ?_; rintro e w10 ⟨rfl, hbd⟩; refine dead (P := Tryz.prog) (w := w10) ⟨rfl, wB, HI.out, rfl, hbd⟩ ?_))
              all_goals trivial
            | ok i' l' m' =>
              go_region_with
                (first
                  | (go_at_call 26; refine (HZ.out _ (by with_reducible assumption)).mono ?_; rintro e w9 ⟨rfl, v2, ms2, hms2, hr9, hm9, ht9⟩; obtain ⟨t0, t1, t2, t3, t4⟩ := cellsOf5 ht9; have t0' := fun o => cellA t0 o; have t1' := fun o => cellA t1 o; have t2' := fun o => cellA t2 o; have t3' := fun o => cellA t3 o; have t4' := fun o => cellA t4 o; clear ht9)
                  | (go_at_call 49; refine (HNO.out _ _ _ hms2 hr9 hm9).mono ?_; rintro e w10 ⟨rfl, hx10⟩; unfold intV))
              all_goals
                go_wp2_with fail
                exact ⟨rfl, wB, _, HI.out, rfl, rfl, hx10⟩
set_option maxRecDepth 100000 in
set_option maxHeartbeats 16000000 in
theorem it_raise {d : Int} {item un : Ps Int} (h0 : 0 ≤ d) (h1 : d < 64) (hgi : GoodP item) (hgu : GoodP un) (hi : FnC 46 (d + 1) item) (hu : FnC 105 (d + 1) un)
    {B b t : Nat} {tv : Value} {ts l0 : List Tok} {v0 : Value} {ms0 : List (Nd × Value)} {w : World} (h : RdrAt B b t tv ts l0 d v0 ms0 w) (hILet : isT kLet (hdT l0) = false) (hIIf : isT kIf (hdT l0) = false) (hITry : isT kTry (hdT l0) = false) (hIRaise : isT kRaise (hdT l0) = true)  :
    Calls Tryz.prog 46 #[.pointer (some ⟨b, 0, none⟩)] w fun e w' => PostG intV B b t tv ts d v0 ms0 w (itemB item un l0 (ms0.map (·.1))) e w' := by
  obtain ⟨R, hR⟩ : ∃ R, itemB item un l0 (ms0.map (·.1)) = R := ⟨_, rfl⟩
  have HOK := Lib.hid (show Ok' (fun _ l' m' => Pre l' m') R by rw [← hR]; exact (item_ok hgi hgu l0 _ h.pre).mono fun i l' m' h => h.1.pre)
  have HALL := Lib.hid (all_in hgi hi)
  have HG := Lib.hid (allT_ok hgi)
  have HITEM := Lib.hid hi
  have HGI := Lib.hid hgi
  have HLV := Lib.hid (lev0_in hgu hu)
  have HGL := Lib.hid (lev_ok hgu 5)
  have HIN := Lib.hid (into_ok h h0 h1)
  rw [hR]
  refine deep_calls (ts := ts) (l := l0) Tryz.func46 rfl h0 h1 (fun tmps W => by simp [results, Tryz.results46, go_sem]) ?_
  simp only [Tryz.ntmps46, List.size_toArray, List.length_cons, List.length_nil, Nat.reduceAdd, Nat.reduceSub, Array.replicate_succ, Array.replicate_zero, List.push_toArray, List.append_toArray, List.nil_append, List.cons_append]
  clear h hgi hgu hi hu
  go_wp2_with fail
  refine HIN.out.mono ?_
  rintro e wB ⟨rfl, hbx, hr, hm⟩
  have HI := Lib.hid (show InD w B b t tv ts l0 d v0 ms0 wB from ⟨hbx, hr, hm⟩)
  clear hbx hr hm HIN
  go_wp2_with fail
  refine (Next_in HI.out.rd).mono ?_
  rintro e w2 ⟨rfl, hb⟩
  have hb0 := hb.alloc hb.size (.cells #[.int .i64 (hdT l0).kind, .string (hdT l0).text, .int .i64 (hdT l0).num, .int .i64 (hdT l0).line, .int .i64 (hdT l0).col] 35)
  have HR0 := Lib.hid (HI.out.rd.under hb0)
  have HM0 := Lib.hid (Mw.of (b := b) (t := t) (v := v0) (ms := ms0) hb0)
  have HT0 := Lib.hid (last w2 (.cells #[.int .i64 (hdT l0).kind, .string (hdT l0).text, .int .i64 (hdT l0).num, .int .i64 (hdT l0).line, .int .i64 (hdT l0).col] 35))
  clear hb hb0
  unfold tokV
  go_upto_region 3 with fail
  generalize w2.heap.size = q at *
  generalize w2.alloc (.cells #[.int .i64 (hdT l0).kind, .string (hdT l0).text, .int .i64 (hdT l0).num, .int .i64 (hdT l0).line, .int .i64 (hdT l0).col] 35) = w0 at *
  have HQ0 := Lib.hid hR
  clear hR
  unfold itemB at HQ0
  have hq := HQ0.out
  simp only [hILet, hIIf, hITry, hIRaise, if_true, if_false, Bool.false_eq_true] at hq
  have HQ0 := Lib.hid hq
  clear hq
  go_wp2_with fail
  refine (take_no (s := kLet) HR0.out hILet).mono ?_
  rintro e w1 ⟨rfl, hb⟩
  have HT1 := Lib.hid ((hb.block _ (heap_lt HT0.out)).trans HT0.out)
  have HM1 := Lib.hid (HM0.out.then hb)
  have HR1 := Lib.hid (HR0.out.under hb)
  clear hb
  have HQ1 := HQ0
  go_wp2_with fail
  refine (take_no (s := kIf) HR1.out hIIf).mono ?_
  rintro e w2 ⟨rfl, hb⟩
  have HT2 := Lib.hid ((hb.block _ (heap_lt HT1.out)).trans HT1.out)
  have HM2 := Lib.hid (HM1.out.then hb)
  have HR2 := Lib.hid (HR1.out.under hb)
  clear hb
  have HQ2 := HQ1
  go_wp2_with fail
  refine (take_no (s := kTry) HR2.out hITry).mono ?_
  rintro e w3 ⟨rfl, hb⟩
  have HT3 := Lib.hid ((hb.block _ (heap_lt HT2.out)).trans HT2.out)
  have HM3 := Lib.hid (HM2.out.then hb)
  have HR3 := Lib.hid (HR2.out.under hb)
  clear hb
  have HQ3 := HQ2
  go_wp2_with fail
  refine (take_yes (s := kRaise) HR3.out hIRaise).mono ?_
  rintro e w4 ⟨rfl, hr, hm⟩
  have HT4 := Lib.hid (hm.keep HR3.out HT3.out (by decide) (by decide) (by decide))
  have HM4 := Lib.hid (HM3.out.trans (Mw.same hm))
  have HR4 := Lib.hid hr
  clear hr hm
  have HQ4 := HQ3
  go_upto_region 22 with fail
  obtain ⟨t0, t1, t2, t3, t4⟩ := cellsOf5 HT4.out
  have hbw := (Below.refl w4.heap.size w4).drew
  cases ho : kindP 1 l0.tail (ms0.map (·.1)) with
  | bad c ln cl =>
    have hq := HQ4.out
    rw [ho] at hq
    simp only [Out.bind] at hq
    subst hq
    have hsx : ∀ W, Below w4.heap.size w4 W → Calls Tryz.prog 50 #[.pointer (some ⟨b, 0, none⟩), .int .i64 1] W fun e w' => e = .panicked (panicV c ln cl) ∧ Bad b t tv v0 wB w' := fun W hb => by
      have := kind_in (k := 1) (HR4.out.under hb) (by decide)
      rw [ho] at this
      exact this.mono fun e w' ⟨h1, h2⟩ => ⟨h1, h2.after ((HM4.out.then hb).toMv)⟩
    have HZ := Lib.hid hsx
    clear hsx ho
    go_region_with
      (first | (go_at_call 50; refine (HZ.out _ (by with_reducible assumption)).mono ?_; rintro e w9 ⟨rfl, hbd⟩; refine dead (P := Tryz.prog) (w := w9) ⟨rfl, wB, HI.out, rfl, hbd⟩ ?_))
    all_goals trivial
  | ok x5 l5 m5 =>
    have hq := HQ4.out
    rw [ho] at hq
    simp only [Out.bind] at hq
    have hsx : ∀ W, Below w4.heap.size w4 W → Calls Tryz.prog 50 #[.pointer (some ⟨b, 0, none⟩), .int .i64 1] W fun e w' => e = .returned (.agg #[.int .i64 x5.kind, .string x5.text, .int .i64 x5.num, .int .i64 x5.line, .int .i64 x5.col]) ∧ ∃ v' ms', ms'.map (·.1) = m5 ∧ RdrAt B b t tv ts l5 (d + 1) v' ms' w' ∧ Mw b t v0 ms0 wB v' ms' w' ∧ w'.heap[q]? = some (.cells #[.int .i64 (hdT l0).kind, .string (hdT l0).text, .int .i64 (hdT l0).num, .int .i64 (hdT l0).line, .int .i64 (hdT l0).col] 35) := fun W hb => by
      have := kind_in (k := 1) (HR4.out.under hb) (by decide)
      rw [ho] at this
      refine this.mono fun e w' hp => ?_
      have hk := hp.keep (HR4.out.under hb) ((hb.block _ (heap_lt HT4.out)).trans HT4.out) (by decide) (by decide) (by decide)
      obtain ⟨h1, v', ms', h2, h3, h4⟩ := hp
      exact ⟨h1, v', ms', h2, h3, (HM4.out.then hb).trans h4, hk⟩
    have hno : ∀ (v2 : Value) (ms2 : List (Nd × Value)) (W : World), ms2.map (·.1) = m5 → RdrAt B b t tv ts l5 (d + 1) v2 ms2 W → Mw b t v0 ms0 wB v2 ms2 W →
        Calls Tryz.prog 49 #[.pointer (some ⟨b, 0, none⟩), .string kRaise, .agg #[.int .i64 (hdT l0).kind, .string (hdT l0).text, .int .i64 (hdT l0).num, .int .i64 (hdT l0).line, .int .i64 (hdT l0).col], .string x5.text, .slice none 0 0] W fun e w' => PostG intV B b t tv ts (d + 1) v0 ms0 wB R e w' := fun v2 ms2 W hms hr hm => by
      have h := node_in hr (by have := hr.base; have := hr.lt; omega) kRaise (hdT l0) x5.text (show Tr.Ints W (.slice none 0 0) [] from .inl ⟨⟨none, 0, rfl⟩, rfl⟩) (by simp) (fun k hk => by simp at hk) (by rw [hms, hq]; exact HOK.out)
      rw [hms, hq] at h
      exact h.mono fun e w' hp => PostG.mv hm hp
    have HZ := Lib.hid hsx
    have HNO := Lib.hid hno
    have hf := fun W => field_text x5.kind x5.num x5.line x5.col x5.text W
    clear hsx hno ho hq
    cases R with
    | bad c ln cl =>
      go_region_with
        (first
          | (go_at_call 50; refine (HZ.out _ (by with_reducible assumption)).mono ?_; rintro e w9 ⟨rfl, v2, ms2, hms2, hr9, hm9, ht9⟩; obtain ⟨t0, t1, t2, t3, t4⟩ := cellsOf5 ht9; clear ht9)
          | (go_at_call 49; refine (HNO.out _ _ _ hms2 hr9 hm9).mono ?_; rintro e w10 ⟨rfl, hbd⟩; refine dead (P := Tryz.prog) (w := w10) ⟨rfl, wB, HI.out, rfl, hbd⟩ ?_))
      all_goals trivial
    | ok i' l' m' =>
      go_region_with
        (first
          | (go_at_call 50; refine (HZ.out _ (by with_reducible assumption)).mono ?_; rintro e w9 ⟨rfl, v2, ms2, hms2, hr9, hm9, ht9⟩; obtain ⟨t0, t1, t2, t3, t4⟩ := cellsOf5 ht9; clear ht9)
          | (go_at_call 49; refine (HNO.out _ _ _ hms2 hr9 hm9).mono ?_; rintro e w10 ⟨rfl, hx10⟩; unfold intV))
      all_goals
        go_wp2_with fail
        exact ⟨rfl, wB, _, HI.out, rfl, rfl, hx10⟩
end Go.Proofs.YtmeacgmjpjjphaaGreatDoor
namespace Go.Proofs.YtmeacgmjpjjphaaGreatDoor
open Go.RowKit Go.Shelf
open Tr (Nd TreeAt Own Ints)
set_option maxRecDepth 100000 in
set_option maxHeartbeats 16000000 in
theorem it_if {d : Int} {item un : Ps Int} (h0 : 0 ≤ d) (h1 : d < 64) (hgi : GoodP item) (hgu : GoodP un) (hi : FnC 46 (d + 1) item) (hu : FnC 105 (d + 1) un)
    {B b t : Nat} {tv : Value} {ts l0 : List Tok} {v0 : Value} {ms0 : List (Nd × Value)} {w : World} (h : RdrAt B b t tv ts l0 d v0 ms0 w) (hILet : isT kLet (hdT l0) = false) (hIIf : isT kIf (hdT l0) = true)  :
    Calls Tryz.prog 46 #[.pointer (some ⟨b, 0, none⟩)] w fun e w' => PostG intV B b t tv ts d v0 ms0 w (itemB item un l0 (ms0.map (·.1))) e w' := by
  obtain ⟨R, hR⟩ : ∃ R, itemB item un l0 (ms0.map (·.1)) = R := ⟨_, rfl⟩
  have HOK := Lib.hid (show Ok' (fun _ l' m' => Pre l' m') R by rw [← hR]; exact (item_ok hgi hgu l0 _ h.pre).mono fun i l' m' h => h.1.pre)
  have HALL := Lib.hid (all_in hgi hi)
  have HG := Lib.hid (allT_ok hgi)
  have HITEM := Lib.hid hi
  have HGI := Lib.hid hgi
  have HLV := Lib.hid (lev0_in hgu hu)
  have HGL := Lib.hid (lev_ok hgu 5)
  have HIN := Lib.hid (into_ok h h0 h1)
  rw [hR]
  refine deep_calls (ts := ts) (l := l0) Tryz.func46 rfl h0 h1 (fun tmps W => by simp [results, Tryz.results46, go_sem]) ?_
  simp only [Tryz.ntmps46, List.size_toArray, List.length_cons, List.length_nil, Nat.reduceAdd, Nat.reduceSub, Array.replicate_succ, Array.replicate_zero, List.push_toArray, List.append_toArray, List.nil_append, List.cons_append]
  clear h hgi hgu hi hu
  go_wp2_with fail
  refine HIN.out.mono ?_
  rintro e wB ⟨rfl, hbx, hr, hm⟩
  have HI := Lib.hid (show InD w B b t tv ts l0 d v0 ms0 wB from ⟨hbx, hr, hm⟩)
  clear hbx hr hm HIN
  go_wp2_with fail
  refine (Next_in HI.out.rd).mono ?_
  rintro e w2 ⟨rfl, hb⟩
  have hb0 := hb.alloc hb.size (.cells #[.int .i64 (hdT l0).kind, .string (hdT l0).text, .int .i64 (hdT l0).num, .int .i64 (hdT l0).line, .int .i64 (hdT l0).col] 35)
  have HR0 := Lib.hid (HI.out.rd.under hb0)
  have HM0 := Lib.hid (Mw.of (b := b) (t := t) (v := v0) (ms := ms0) hb0)
  have HT0 := Lib.hid (last w2 (.cells #[.int .i64 (hdT l0).kind, .string (hdT l0).text, .int .i64 (hdT l0).num, .int .i64 (hdT l0).line, .int .i64 (hdT l0).col] 35))
  clear hb hb0
  unfold tokV
  go_upto_region 3 with fail
  generalize w2.heap.size = q at *
  generalize w2.alloc (.cells #[.int .i64 (hdT l0).kind, .string (hdT l0).text, .int .i64 (hdT l0).num, .int .i64 (hdT l0).line, .int .i64 (hdT l0).col] 35) = w0 at *
  have HQ0 := Lib.hid hR
  clear hR
  unfold itemB at HQ0
  have hq := HQ0.out
  simp only [hILet, hIIf, if_true, if_false, Bool.false_eq_true] at hq
  have HQ0 := Lib.hid hq
  clear hq
  go_wp2_with fail
  refine (take_no (s := kLet) HR0.out hILet).mono ?_
  rintro e w1 ⟨rfl, hb⟩
  have HT1 := Lib.hid ((hb.block _ (heap_lt HT0.out)).trans HT0.out)
  have HM1 := Lib.hid (HM0.out.then hb)
  have HR1 := Lib.hid (HR0.out.under hb)
  clear hb
  have HQ1 := HQ0
  go_wp2_with fail
  refine (take_yes (s := kIf) HR1.out hIIf).mono ?_
  rintro e w2 ⟨rfl, hr, hm⟩
  have HT2 := Lib.hid (hm.keep HR1.out HT1.out (by decide) (by decide) (by decide))
  have HM2 := Lib.hid (HM1.out.trans (Mw.same hm))
  have HR2 := Lib.hid hr
  clear hr hm
  have HQ2 := HQ1
  go_wp2_with fail
  refine (HALL.out B b t tv ts l0.tail v0 ms0 w2 HR2.out).mono ?_
  intro e w3 hp
  have HT3 := Lib.hid (hp.keep HR2.out HT2.out (by decide) (by decide) (by decide))
  have hp := PostG.mv HM2.out hp
  cases ho : allT item l0.tail (ms0.map (·.1)) with
  | bad c ln cl =>
    rw [ho] at hp
    have hq := HQ2.out
    rw [ho] at hq
    simp only [Out.bind] at hq
    subst hq
    obtain ⟨rfl, hbd⟩ := hp
    have HX := Lib.hid hbd
    clear hbd ho
    go_wp2_with fail
    exact ⟨rfl, wB, HI.out, rfl, HX.out⟩
  | ok c2 l3 m3 =>
    rw [ho] at hp
    have hq := HQ2.out
    have hgs := HG.out l0.tail (ms0.map (·.1)) HR2.out.pre
    rw [ho] at hq hgs
    simp only [Out.bind] at hq
    obtain ⟨rfl, v3, ms3, rfl, hr, hm⟩ := hp
    have hgs : Fit l0.tail (ms0.map (·.1)) c2 l3 (ms3.map (·.1)) := hgs
    have hext : ms0.length ≤ ms3.length := by simpa using hgs.1.ext.length_le
    have HQ3 := Lib.hid hq
    have HR3 := Lib.hid hr
    have HM3 := Lib.hid hm
    have Kc23 := Lib.hid (show 0 ≤ c2 ∧ c2 < (ms3.length : Int) by simpa using hgs.2.there c2 (by simp))
    clear hq hgs hext hr hm ho
    unfold intV
    have hba := (Below.refl w3.heap.size w3).alloc (Nat.le_refl _) (.cells #[.string ⟨#[116, 104, 101, 110]⟩] 9)
    have HRa := Lib.hid (HR3.out.under hba)
    have HTa := Lib.hid ((hba.block _ (heap_lt HT3.out)).trans HT3.out)
    have HMa := Lib.hid (HM3.out.then hba)
    have hmu : Calls Tryz.prog 30 #[.pointer (some ⟨b, 0, none⟩), .slice (some ⟨w3.heap.size, 0, none⟩) 1 1] (w3.alloc (.cells #[.string ⟨#[116, 104, 101, 110]⟩] 9)) fun e w' => PostG unitV B b t tv ts (d + 1) v3 ms3 (w3.alloc (.cells #[.string ⟨#[116, 104, 101, 110]⟩] 9)) (mustP kThen l3 (ms3.map (·.1))) e w' := must_in HRa.out (last w3 _)
    clear hba
    go_wp2_with fail
    refine hmu.mono ?_
    clear hmu
    intro e w4 hp
    have HT4 := Lib.hid (hp.keep HRa.out HTa.out (by decide) (by decide) (by decide))
    have hp := PostG.mv HMa.out hp
    clear HRa HMa HTa
    cases ho : mustP kThen l3 (ms3.map (·.1)) with
    | bad c ln cl =>
      rw [ho] at hp
      have hq := HQ3.out
      rw [ho] at hq
      simp only [Out.bind] at hq
      subst hq
      obtain ⟨rfl, hbd⟩ := hp
      have HX := Lib.hid hbd
      clear hbd ho
      go_wp2_with fail
      exact ⟨rfl, wB, HI.out, rfl, HX.out⟩
    | ok u4 l4 m4 =>
      rw [ho] at hp
      have hq := HQ3.out
      rw [ho] at hq
      simp only [Out.bind] at hq
      obtain ⟨rfl, v4, ms4, rfl, hr, hm⟩ := hp
      obtain ⟨-, hmm⟩ := must_same ho
      have hext : ms4.length = ms3.length := by simpa using congrArg List.length hmm
      have HQ4 := Lib.hid hq
      have HR4 := Lib.hid hr
      have HM4 := Lib.hid hm
      have Kc24 := Lib.hid (show 0 ≤ c2 ∧ c2 < (ms4.length : Int) from ⟨Kc23.out.1, by have := Kc23.out.2; omega⟩)
      clear hq hext hmm hr hm ho
      unfold unitV
      go_wp2_with fail
      refine (HITEM.out B b t tv ts l4 v4 ms4 w4 HR4.out).mono ?_
      intro e w5 hp
      have HT5 := Lib.hid (hp.keep HR4.out HT4.out (by decide) (by decide) (by decide))
      have hp := PostG.mv HM4.out hp
      cases ho : item l4 (ms4.map (·.1)) with
      | bad c ln cl =>
        rw [ho] at hp
        have hq := HQ4.out
        rw [ho] at hq
        simp only [Out.bind] at hq
        subst hq
        obtain ⟨rfl, hbd⟩ := hp
        have HX := Lib.hid hbd
        clear hbd ho
        go_wp2_with fail
        exact ⟨rfl, wB, HI.out, rfl, HX.out⟩
      | ok a l5 m5 =>
        rw [ho] at hp
        have hq := HQ4.out
        have hgs := HGI.out l4 (ms4.map (·.1)) HR4.out.pre
        rw [ho] at hq hgs
        simp only [Out.bind] at hq
        obtain ⟨rfl, v5, ms5, rfl, hr, hm⟩ := hp
        have hgs : Fit l4 (ms4.map (·.1)) a l5 (ms5.map (·.1)) := hgs
        have hext : ms4.length ≤ ms5.length := by simpa using hgs.1.ext.length_le
        have HQ5 := Lib.hid hq
        have HR5 := Lib.hid hr
        have HM5 := Lib.hid hm
        have Ka5 := Lib.hid (show 0 ≤ a ∧ a < (ms5.length : Int) by simpa using hgs.2.there a (by simp))
        have Kc25 := Lib.hid (show 0 ≤ c2 ∧ c2 < (ms5.length : Int) from ⟨Kc24.out.1, by have := Kc24.out.2; omega⟩)
        clear hq hgs hext hr hm ho
        unfold intV
        have hba := (Below.refl w5.heap.size w5).alloc (Nat.le_refl _) (.cells #[.string ⟨#[101, 108, 115, 101]⟩] 9)
        have HRa := Lib.hid (HR5.out.under hba)
        have HTa := Lib.hid ((hba.block _ (heap_lt HT5.out)).trans HT5.out)
        have HMa := Lib.hid (HM5.out.then hba)
        have hmu : Calls Tryz.prog 30 #[.pointer (some ⟨b, 0, none⟩), .slice (some ⟨w5.heap.size, 0, none⟩) 1 1] (w5.alloc (.cells #[.string ⟨#[101, 108, 115, 101]⟩] 9)) fun e w' => PostG unitV B b t tv ts (d + 1) v5 ms5 (w5.alloc (.cells #[.string ⟨#[101, 108, 115, 101]⟩] 9)) (mustP kElse l5 (ms5.map (·.1))) e w' := must_in HRa.out (last w5 _)
        clear hba
        go_wp2_with fail
        refine hmu.mono ?_
        clear hmu
        intro e w6 hp
        have HT6 := Lib.hid (hp.keep HRa.out HTa.out (by decide) (by decide) (by decide))
        have hp := PostG.mv HMa.out hp
        clear HRa HMa HTa
        cases ho : mustP kElse l5 (ms5.map (·.1)) with
        | bad c ln cl =>
          rw [ho] at hp
          have hq := HQ5.out
          rw [ho] at hq
          simp only [Out.bind] at hq
          subst hq
          obtain ⟨rfl, hbd⟩ := hp
          have HX := Lib.hid hbd
          clear hbd ho
          go_wp2_with fail
          exact ⟨rfl, wB, HI.out, rfl, HX.out⟩
        | ok u6 l6 m6 =>
          rw [ho] at hp
          have hq := HQ5.out
          rw [ho] at hq
          simp only [Out.bind] at hq
          obtain ⟨rfl, v6, ms6, rfl, hr, hm⟩ := hp
          obtain ⟨-, hmm⟩ := must_same ho
          have hext : ms6.length = ms5.length := by simpa using congrArg List.length hmm
          have HQ6 := Lib.hid hq
          have HR6 := Lib.hid hr
          have HM6 := Lib.hid hm
          have Kc26 := Lib.hid (show 0 ≤ c2 ∧ c2 < (ms6.length : Int) from ⟨Kc25.out.1, by have := Kc25.out.2; omega⟩)
          have Ka6 := Lib.hid (show 0 ≤ a ∧ a < (ms6.length : Int) from ⟨Ka5.out.1, by have := Ka5.out.2; omega⟩)
          clear hq hext hmm hr hm ho
          unfold unitV
          go_upto_region 14 with fail
          obtain ⟨t0, t1, t2, t3, t4⟩ := cellsOf5 HT6.out
          have hbw := (Below.refl w6.heap.size w6).drew
          cases ho : item l6 (ms6.map (·.1)) with
          | bad c ln cl =>
            have hq := HQ6.out
            rw [ho] at hq
            simp only [Out.bind] at hq
            subst hq
            have hsx : ∀ W, Below w6.heap.size w6 W → Calls Tryz.prog 46 #[.pointer (some ⟨b, 0, none⟩)] W fun e w' => e = .panicked (panicV c ln cl) ∧ Bad b t tv v0 wB w' := fun W hb => by
              have := HITEM.out B b t tv ts l6 v6 ms6 W (HR6.out.under hb)
              rw [ho] at this
              exact this.mono fun e w' ⟨h1, h2⟩ => ⟨h1, h2.after ((HM6.out.then hb).toMv)⟩
            have HZ := Lib.hid hsx
            clear hsx ho
            go_region_with
              (first | (go_at_call 46; refine (HZ.out _ (by with_reducible assumption)).mono ?_; rintro e w9 ⟨rfl, hbd⟩; refine dead (P := Tryz.prog) (w := w9) ⟨rfl, wB, HI.out, rfl, hbd⟩ ?_))
            all_goals trivial
          | ok b2 l7 m7 =>
            have hq := HQ6.out
            have hgs := HGI.out l6 (ms6.map (·.1)) HR6.out.pre
            rw [ho] at hq hgs
            simp only [Out.bind] at hq
            have hgs : Fit l6 (ms6.map (·.1)) b2 l7 m7 := hgs
            have hext : ms6.length ≤ m7.length := by simpa using hgs.1.ext.length_le
            have KKb2 := Lib.hid (show 0 ≤ b2 ∧ b2 < (m7.length : Int) from hgs.2.there b2 (by simp))
            have KKc2 := Lib.hid (show 0 ≤ c2 ∧ c2 < (m7.length : Int) from ⟨Kc26.out.1, by have := Kc26.out.2; omega⟩)
            have KKa := Lib.hid (show 0 ≤ a ∧ a < (m7.length : Int) from ⟨Ka6.out.1, by have := Ka6.out.2; omega⟩)
            have hsx : ∀ W, Below w6.heap.size w6 W → Calls Tryz.prog 46 #[.pointer (some ⟨b, 0, none⟩)] W fun e w' => e = .returned (.int .i64 b2) ∧ ∃ v' ms', ms'.map (·.1) = m7 ∧ RdrAt B b t tv ts l7 (d + 1) v' ms' w' ∧ Mw b t v0 ms0 wB v' ms' w' ∧ w'.heap[q]? = some (.cells #[.int .i64 (hdT l0).kind, .string (hdT l0).text, .int .i64 (hdT l0).num, .int .i64 (hdT l0).line, .int .i64 (hdT l0).col] 35) := fun W hb => by
              have := HITEM.out B b t tv ts l6 v6 ms6 W (HR6.out.under hb)
              rw [ho] at this
              refine this.mono fun e w' hp => ?_
              have hk := hp.keep (HR6.out.under hb) ((hb.block _ (heap_lt HT6.out)).trans HT6.out) (by decide) (by decide) (by decide)
              obtain ⟨h1, v', ms', h2, h3, h4⟩ := hp
              exact ⟨h1, v', ms', h2, h3, (HM6.out.then hb).trans h4, hk⟩
            have hno : ∀ (v2 : Value) (ms2 : List (Nd × Value)) (W : World), ms2.map (·.1) = m7 → RdrAt B b t tv ts l7 (d + 1) v2 ms2 W → Mw b t v0 ms0 wB v2 ms2 W →
                Calls Tryz.prog 49 #[.pointer (some ⟨b, 0, none⟩), .string kIf, .agg #[.int .i64 (hdT l0).kind, .string (hdT l0).text, .int .i64 (hdT l0).num, .int .i64 (hdT l0).line, .int .i64 (hdT l0).col], .string nNil, .slice (some ⟨W.heap.size, 0, none⟩) 3 3] (W.alloc (.cells #[.int .i64 c2, .int .i64 a, .int .i64 b2] 3)) fun e w' => PostG intV B b t tv ts (d + 1) v0 ms0 wB R e w' := fun v2 ms2 W hms hr hm => by
              have hb' := (Below.refl W.heap.size W).alloc (Nat.le_refl _) (.cells #[.int .i64 c2, .int .i64 a, .int .i64 b2] 3)
              have hlm : (ms2.length : Int) = m7.length := by rw [← hms]; simp
              have h := node_in (hr.under hb') (by have := hr.base; have := hr.lt; simp; omega) kIf (hdT l0) nNil (ints_three W c2 a b2) (by simp) (fun k hk => by
                  rw [hlm]
                  simp only [List.mem_cons, List.not_mem_nil, or_false] at hk
                  rcases hk with rfl | rfl | rfl
                  · exact KKc2.out
                  · exact KKa.out
                  · exact KKb2.out) (by rw [hms, hq]; exact HOK.out)
              rw [hms, hq] at h
              exact h.mono fun e w' hp => PostG.mv (hm.then hb') hp
            have HZ := Lib.hid hsx
            have HNO := Lib.hid hno
            clear hsx hno ho hq hgs hext
            cases R with
            | bad c ln cl =>
              go_region_with
                (first
                  | (go_at_call 46; refine (HZ.out _ (by with_reducible assumption)).mono ?_; rintro e w9 ⟨rfl, v2, ms2, hms2, hr9, hm9, ht9⟩; obtain ⟨t0, t1, t2, t3, t4⟩ := cellsOf5 ht9; have t0' := fun o => cellA t0 o; have t1' := fun o => cellA t1 o; have t2' := fun o => cellA t2 o; have t3' := fun o => cellA t3 o; have t4' := fun o => cellA t4 o; clear ht9)
                  | (go_at_call 49; refine (HNO.out _ _ _ hms2 hr9 hm9).mono ?_; rintro e w10 ⟨rfl, hbd⟩; refine dead (P := Tryz.prog) (w := w10) ⟨rfl, wB, HI.out, rfl, hbd⟩ ?_))
              all_goals trivial
            | ok i' l' m' =>
              go_region_with
                (first
                  | (go_at_call 46; refine (HZ.out _ (by with_reducible assumption)).mono ?_; rintro e w9 ⟨rfl, v2, ms2, hms2, hr9, hm9, ht9⟩; obtain ⟨t0, t1, t2, t3, t4⟩ := cellsOf5 ht9; have t0' := fun o => cellA t0 o; have t1' := fun o => cellA t1 o; have t2' := fun o => cellA t2 o; have t3' := fun o => cellA t3 o; have t4' := fun o => cellA t4 o; clear ht9)
                  | (go_at_call 49; refine (HNO.out _ _ _ hms2 hr9 hm9).mono ?_; rintro e w10 ⟨rfl, hx10⟩; unfold intV))
              all_goals
                go_wp2_with fail
                exact ⟨rfl, wB, _, HI.out, rfl, rfl, hx10⟩
end Go.Proofs.YtmeacgmjpjjphaaGreatDoor
namespace Go.Proofs.YtmeacgmjpjjphaaGreatDoor
open Go.RowKit Go.Shelf
open Tr (Nd TreeAt Own Ints)
set_option maxRecDepth 100000 in
set_option maxHeartbeats 16000000 in
theorem it_try {d : Int} {item un : Ps Int} (h0 : 0 ≤ d) (h1 : d < 64) (hgi : GoodP item) (hgu : GoodP un) (hi : FnC 46 (d + 1) item) (hu : FnC 105 (d + 1) un)
    {B b t : Nat} {tv : Value} {ts l0 : List Tok} {v0 : Value} {ms0 : List (Nd × Value)} {w : World} (h : RdrAt B b t tv ts l0 d v0 ms0 w) (hILet : isT kLet (hdT l0) = false) (hIIf : isT kIf (hdT l0) = false) (hITry : isT kTry (hdT l0) = true)  :
    Calls Tryz.prog 46 #[.pointer (some ⟨b, 0, none⟩)] w fun e w' => PostG intV B b t tv ts d v0 ms0 w (itemB item un l0 (ms0.map (·.1))) e w' := by
  obtain ⟨R, hR⟩ : ∃ R, itemB item un l0 (ms0.map (·.1)) = R := ⟨_, rfl⟩
  have HOK := Lib.hid (show Ok' (fun _ l' m' => Pre l' m') R by rw [← hR]; exact (item_ok hgi hgu l0 _ h.pre).mono fun i l' m' h => h.1.pre)
  have HALL := Lib.hid (all_in hgi hi)
  have HG := Lib.hid (allT_ok hgi)
  have HITEM := Lib.hid hi
  have HGI := Lib.hid hgi
  have HLV := Lib.hid (lev0_in hgu hu)
  have HGL := Lib.hid (lev_ok hgu 5)
  have HIN := Lib.hid (into_ok h h0 h1)
  rw [hR]
  refine deep_calls (ts := ts) (l := l0) Tryz.func46 rfl h0 h1 (fun tmps W => by simp [results, Tryz.results46, go_sem]) ?_
  simp only [Tryz.ntmps46, List.size_toArray, List.length_cons, List.length_nil, Nat.reduceAdd, Nat.reduceSub, Array.replicate_succ, Array.replicate_zero, List.push_toArray, List.append_toArray, List.nil_append, List.cons_append]
  clear h hgi hgu hi hu
  go_wp2_with fail
  refine HIN.out.mono ?_
  rintro e wB ⟨rfl, hbx, hr, hm⟩
  have HI := Lib.hid (show InD w B b t tv ts l0 d v0 ms0 wB from ⟨hbx, hr, hm⟩)
  clear hbx hr hm HIN
  go_wp2_with fail
  refine (Next_in HI.out.rd).mono ?_
  rintro e w2 ⟨rfl, hb⟩
  have hb0 := hb.alloc hb.size (.cells #[.int .i64 (hdT l0).kind, .string (hdT l0).text, .int .i64 (hdT l0).num, .int .i64 (hdT l0).line, .int .i64 (hdT l0).col] 35)
  have HR0 := Lib.hid (HI.out.rd.under hb0)
  have HM0 := Lib.hid (Mw.of (b := b) (t := t) (v := v0) (ms := ms0) hb0)
  have HT0 := Lib.hid (last w2 (.cells #[.int .i64 (hdT l0).kind, .string (hdT l0).text, .int .i64 (hdT l0).num, .int .i64 (hdT l0).line, .int .i64 (hdT l0).col] 35))
  clear hb hb0
  unfold tokV
  go_upto_region 3 with fail
  generalize w2.heap.size = q at *
  generalize w2.alloc (.cells #[.int .i64 (hdT l0).kind, .string (hdT l0).text, .int .i64 (hdT l0).num, .int .i64 (hdT l0).line, .int .i64 (hdT l0).col] 35) = w0 at *
  have HQ0 := Lib.hid hR
  clear hR
  unfold itemB at HQ0
  have hq := HQ0.out
  simp only [hILet, hIIf, hITry, if_true, if_false, Bool.false_eq_true] at hq
  have HQ0 := Lib.hid hq
  clear hq
  go_wp2_with fail
  refine (take_no (s := kLet) HR0.out hILet).mono ?_
  rintro e w1 ⟨rfl, hb⟩
  have HT1 := Lib.hid ((hb.block _ (heap_lt HT0.out)).trans HT0.out)
  have HM1 := Lib.hid (HM0.out.then hb)
  have HR1 := Lib.hid (HR0.out.under hb)
  clear hb
  have HQ1 := HQ0
  go_wp2_with fail
  refine (take_no (s := kIf) HR1.out hIIf).mono ?_
  rintro e w2 ⟨rfl, hb⟩
  have HT2 := Lib.hid ((hb.block _ (heap_lt HT1.out)).trans HT1.out)
  have HM2 := Lib.hid (HM1.out.then hb)
  have HR2 := Lib.hid (HR1.out.under hb)
  clear hb
  have HQ2 := HQ1
  go_wp2_with fail
  refine (take_yes (s := kTry) HR2.out hITry).mono ?_
  rintro e w3 ⟨rfl, hr, hm⟩
  have HT3 := Lib.hid (hm.keep HR2.out HT2.out (by decide) (by decide) (by decide))
  have HM3 := Lib.hid (HM2.out.trans (Mw.same hm))
  have HR3 := Lib.hid hr
  clear hr hm
  have HQ3 := HQ2
  go_wp2_with fail
  refine (HALL.out B b t tv ts l0.tail v0 ms0 w3 HR3.out).mono ?_
  intro e w4 hp
  have HT4 := Lib.hid (hp.keep HR3.out HT3.out (by decide) (by decide) (by decide))
  have hp := PostG.mv HM3.out hp
  cases ho : allT item l0.tail (ms0.map (·.1)) with
  | bad c ln cl =>
    rw [ho] at hp
    have hq := HQ3.out
    rw [ho] at hq
    simp only [Out.bind] at hq
    subst hq
    obtain ⟨rfl, hbd⟩ := hp
    have HX := Lib.hid hbd
    clear hbd ho
    go_wp2_with fail
    exact ⟨rfl, wB, HI.out, rfl, HX.out⟩
  | ok a l4 m4 =>
    rw [ho] at hp
    have hq := HQ3.out
    have hgs := HG.out l0.tail (ms0.map (·.1)) HR3.out.pre
    rw [ho] at hq hgs
    simp only [Out.bind] at hq
    obtain ⟨rfl, v4, ms4, rfl, hr, hm⟩ := hp
    have hgs : Fit l0.tail (ms0.map (·.1)) a l4 (ms4.map (·.1)) := hgs
    have hext : ms0.length ≤ ms4.length := by simpa using hgs.1.ext.length_le
    have HQ4 := Lib.hid hq
    have HR4 := Lib.hid hr
    have HM4 := Lib.hid hm
    have Ka4 := Lib.hid (show 0 ≤ a ∧ a < (ms4.length : Int) by simpa using hgs.2.there a (by simp))
    clear hq hgs hext hr hm ho
    unfold intV
    have hba := (Below.refl w4.heap.size w4).alloc (Nat.le_refl _) (.cells #[.string ⟨#[119, 105, 116, 104]⟩] 9)
    have HRa := Lib.hid (HR4.out.under hba)
    have HTa := Lib.hid ((hba.block _ (heap_lt HT4.out)).trans HT4.out)
    have HMa := Lib.hid (HM4.out.then hba)
    have hmu : Calls Tryz.prog 30 #[.pointer (some ⟨b, 0, none⟩), .slice (some ⟨w4.heap.size, 0, none⟩) 1 1] (w4.alloc (.cells #[.string ⟨#[119, 105, 116, 104]⟩] 9)) fun e w' => PostG unitV B b t tv ts (d + 1) v4 ms4 (w4.alloc (.cells #[.string ⟨#[119, 105, 116, 104]⟩] 9)) (mustP kWith l4 (ms4.map (·.1))) e w' := must_in HRa.out (last w4 _)
    clear hba
    go_wp2_with fail
    refine hmu.mono ?_
    clear hmu
    intro e w5 hp
    have HT5 := Lib.hid (hp.keep HRa.out HTa.out (by decide) (by decide) (by decide))
    have hp := PostG.mv HMa.out hp
    clear HRa HMa HTa
    cases ho : mustP kWith l4 (ms4.map (·.1)) with
    | bad c ln cl =>
      rw [ho] at hp
      have hq := HQ4.out
      rw [ho] at hq
      simp only [Out.bind] at hq
      subst hq
      obtain ⟨rfl, hbd⟩ := hp
      have HX := Lib.hid hbd
      clear hbd ho
      go_wp2_with fail
      exact ⟨rfl, wB, HI.out, rfl, HX.out⟩
    | ok u5 l5 m5 =>
      rw [ho] at hp
      have hq := HQ4.out
      rw [ho] at hq
      simp only [Out.bind] at hq
      obtain ⟨rfl, v5, ms5, rfl, hr, hm⟩ := hp
      obtain ⟨-, hmm⟩ := must_same ho
      have hext : ms5.length = ms4.length := by simpa using congrArg List.length hmm
      have HQ5 := Lib.hid hq
      have HR5 := Lib.hid hr
      have HM5 := Lib.hid hm
      have Ka5 := Lib.hid (show 0 ≤ a ∧ a < (ms5.length : Int) from ⟨Ka4.out.1, by have := Ka4.out.2; omega⟩)
      clear hq hext hmm hr hm ho
      unfold unitV
      go_wp2_with fail
      refine (kind_in (k := 1) HR5.out (by decide)).mono ?_
      intro e w6 hp
      have HT6 := Lib.hid (hp.keep HR5.out HT5.out (by decide) (by decide) (by decide))
      have hp := PostG.mv HM5.out hp
      cases ho : kindP 1 l5 (ms5.map (·.1)) with
      | bad c ln cl =>
        rw [ho] at hp
        have hq := HQ5.out
        rw [ho] at hq
        simp only [Out.bind] at hq
        subst hq
        obtain ⟨rfl, hbd⟩ := hp
        have HX := Lib.hid hbd
        clear hbd ho
        go_wp2_with fail
        exact ⟨rfl, wB, HI.out, rfl, HX.out⟩
      | ok x6 l6 m6 =>
        rw [ho] at hp
        have hq := HQ5.out
        rw [ho] at hq
        simp only [Out.bind] at hq
        obtain ⟨rfl, v6, ms6, rfl, hr, hm⟩ := hp
        obtain ⟨-, -, hmm, -⟩ := kind_same ho
        have hext : ms6.length = ms5.length := by simpa using congrArg List.length hmm
        have HQ6 := Lib.hid hq
        have HR6 := Lib.hid hr
        have HM6 := Lib.hid hm
        have hf6 := fun W => field_text x6.kind x6.num x6.line x6.col x6.text W
        have Ka6 := Lib.hid (show 0 ≤ a ∧ a < (ms6.length : Int) from ⟨Ka5.out.1, by have := Ka5.out.2; omega⟩)
        clear hq hext hmm hr hm ho
        unfold tokV
        have hba := (Below.refl w6.heap.size w6).alloc (Nat.le_refl _) (.cells #[.string ⟨#[45, 62]⟩] 9)
        have HRa := Lib.hid (HR6.out.under hba)
        have HTa := Lib.hid ((hba.block _ (heap_lt HT6.out)).trans HT6.out)
        have HMa := Lib.hid (HM6.out.then hba)
        have hmu : Calls Tryz.prog 30 #[.pointer (some ⟨b, 0, none⟩), .slice (some ⟨w6.heap.size, 0, none⟩) 1 1] (w6.alloc (.cells #[.string ⟨#[45, 62]⟩] 9)) fun e w' => PostG unitV B b t tv ts (d + 1) v6 ms6 (w6.alloc (.cells #[.string ⟨#[45, 62]⟩] 9)) (mustP kArrow l6 (ms6.map (·.1))) e w' := must_in HRa.out (last w6 _)
        clear hba
        go_wp2_with fail
        refine hmu.mono ?_
        clear hmu
        intro e w7 hp
        have HT7 := Lib.hid (hp.keep HRa.out HTa.out (by decide) (by decide) (by decide))
        have hp := PostG.mv HMa.out hp
        clear HRa HMa HTa
        cases ho : mustP kArrow l6 (ms6.map (·.1)) with
        | bad c ln cl =>
          rw [ho] at hp
          have hq := HQ6.out
          rw [ho] at hq
          simp only [Out.bind] at hq
          subst hq
          obtain ⟨rfl, hbd⟩ := hp
          have HX := Lib.hid hbd
          clear hbd ho
          go_wp2_with fail
          exact ⟨rfl, wB, HI.out, rfl, HX.out⟩
        | ok u7 l7 m7 =>
          rw [ho] at hp
          have hq := HQ6.out
          rw [ho] at hq
          simp only [Out.bind] at hq
          obtain ⟨rfl, v7, ms7, rfl, hr, hm⟩ := hp
          obtain ⟨-, hmm⟩ := must_same ho
          have hext : ms7.length = ms6.length := by simpa using congrArg List.length hmm
          have HQ7 := Lib.hid hq
          have HR7 := Lib.hid hr
          have HM7 := Lib.hid hm
          have Ka7 := Lib.hid (show 0 ≤ a ∧ a < (ms7.length : Int) from ⟨Ka6.out.1, by have := Ka6.out.2; omega⟩)
          clear hq hext hmm hr hm ho
          unfold unitV
          go_upto_region 20 with fail
          obtain ⟨t0, t1, t2, t3, t4⟩ := cellsOf5 HT7.out
          have hbw := (Below.refl w7.heap.size w7).drew
          cases ho : item l7 (ms7.map (·.1)) with
          | bad c ln cl =>
            have hq := HQ7.out
            rw [ho] at hq
            simp only [Out.bind] at hq
            subst hq
            have hsx : ∀ W, Below w7.heap.size w7 W → Calls Tryz.prog 46 #[.pointer (some ⟨b, 0, none⟩)] W fun e w' => e = .panicked (panicV c ln cl) ∧ Bad b t tv v0 wB w' := fun W hb => by
              have := HITEM.out B b t tv ts l7 v7 ms7 W (HR7.out.under hb)
              rw [ho] at this
              exact this.mono fun e w' ⟨h1, h2⟩ => ⟨h1, h2.after ((HM7.out.then hb).toMv)⟩
            have HZ := Lib.hid hsx
            clear hsx ho
            go_region_with
              (first | (go_at_call 46; refine (HZ.out _ (by with_reducible assumption)).mono ?_; rintro e w9 ⟨rfl, hbd⟩; refine dead (P := Tryz.prog) (w := w9) ⟨rfl, wB, HI.out, rfl, hbd⟩ ?_))
            all_goals trivial
          | ok b2 l8 m8 =>
            have hq := HQ7.out
            have hgs := HGI.out l7 (ms7.map (·.1)) HR7.out.pre
            rw [ho] at hq hgs
            simp only [Out.bind] at hq
            have hgs : Fit l7 (ms7.map (·.1)) b2 l8 m8 := hgs
            have hext : ms7.length ≤ m8.length := by simpa using hgs.1.ext.length_le
            have KKb2 := Lib.hid (show 0 ≤ b2 ∧ b2 < (m8.length : Int) from hgs.2.there b2 (by simp))
            have KKa := Lib.hid (show 0 ≤ a ∧ a < (m8.length : Int) from ⟨Ka7.out.1, by have := Ka7.out.2; omega⟩)
            have hsx : ∀ W, Below w7.heap.size w7 W → Calls Tryz.prog 46 #[.pointer (some ⟨b, 0, none⟩)] W fun e w' => e = .returned (.int .i64 b2) ∧ ∃ v' ms', ms'.map (·.1) = m8 ∧ RdrAt B b t tv ts l8 (d + 1) v' ms' w' ∧ Mw b t v0 ms0 wB v' ms' w' ∧ w'.heap[q]? = some (.cells #[.int .i64 (hdT l0).kind, .string (hdT l0).text, .int .i64 (hdT l0).num, .int .i64 (hdT l0).line, .int .i64 (hdT l0).col] 35) := fun W hb => by
              have := HITEM.out B b t tv ts l7 v7 ms7 W (HR7.out.under hb)
              rw [ho] at this
              refine this.mono fun e w' hp => ?_
              have hk := hp.keep (HR7.out.under hb) ((hb.block _ (heap_lt HT7.out)).trans HT7.out) (by decide) (by decide) (by decide)
              obtain ⟨h1, v', ms', h2, h3, h4⟩ := hp
              exact ⟨h1, v', ms', h2, h3, (HM7.out.then hb).trans h4, hk⟩
            have hno : ∀ (v2 : Value) (ms2 : List (Nd × Value)) (W : World), ms2.map (·.1) = m8 → RdrAt B b t tv ts l8 (d + 1) v2 ms2 W → Mw b t v0 ms0 wB v2 ms2 W →
                Calls Tryz.prog 49 #[.pointer (some ⟨b, 0, none⟩), .string kTry, .agg #[.int .i64 (hdT l0).kind, .string (hdT l0).text, .int .i64 (hdT l0).num, .int .i64 (hdT l0).line, .int .i64 (hdT l0).col], .string x6.text, .slice (some ⟨W.heap.size, 0, none⟩) 2 2] (W.alloc (.cells #[.int .i64 a, .int .i64 b2] 3)) fun e w' => PostG intV B b t tv ts (d + 1) v0 ms0 wB R e w' := fun v2 ms2 W hms hr hm => by
              have hb' := (Below.refl W.heap.size W).alloc (Nat.le_refl _) (.cells #[.int .i64 a, .int .i64 b2] 3)
              have hlm : (ms2.length : Int) = m8.length := by rw [← hms]; simp
              have h := node_in (hr.under hb') (by have := hr.base; have := hr.lt; simp; omega) kTry (hdT l0) x6.text (ints_two W a b2) (by simp) (fun k hk => by
                  rw [hlm]
                  simp only [List.mem_cons, List.not_mem_nil, or_false] at hk
                  rcases hk with rfl | rfl
                  · exact KKa.out
                  · exact KKb2.out) (by rw [hms, hq]; exact HOK.out)
              rw [hms, hq] at h
              exact h.mono fun e w' hp => PostG.mv (hm.then hb') hp
            have HZ := Lib.hid hsx
            have HNO := Lib.hid hno
            clear hsx hno ho hq hgs hext
            cases R with
            | bad c ln cl =>
              go_region_with
                (first
                  | (go_at_call 46; refine (HZ.out _ (by with_reducible assumption)).mono ?_; rintro e w9 ⟨rfl, v2, ms2, hms2, hr9, hm9, ht9⟩; obtain ⟨t0, t1, t2, t3, t4⟩ := cellsOf5 ht9; have t0' := fun o => cellA t0 o; have t1' := fun o => cellA t1 o; have t2' := fun o => cellA t2 o; have t3' := fun o => cellA t3 o; have t4' := fun o => cellA t4 o; clear ht9)
                  | (go_at_call 49; refine (HNO.out _ _ _ hms2 hr9 hm9).mono ?_; rintro e w10 ⟨rfl, hbd⟩; refine dead (P := Tryz.prog) (w := w10) ⟨rfl, wB, HI.out, rfl, hbd⟩ ?_))
              all_goals trivial
            | ok i' l' m' =>
              go_region_with
                (first
                  | (go_at_call 46; refine (HZ.out _ (by with_reducible assumption)).mono ?_; rintro e w9 ⟨rfl, v2, ms2, hms2, hr9, hm9, ht9⟩; obtain ⟨t0, t1, t2, t3, t4⟩ := cellsOf5 ht9; have t0' := fun o => cellA t0 o; have t1' := fun o => cellA t1 o; have t2' := fun o => cellA t2 o; have t3' := fun o => cellA t3 o; have t4' := fun o => cellA t4 o; clear ht9)
                  | (go_at_call 49; refine (HNO.out _ _ _ hms2 hr9 hm9).mono ?_; rintro e w10 ⟨rfl, hx10⟩; unfold intV))
              all_goals
                go_wp2_with fail
                exact ⟨rfl, wB, _, HI.out, rfl, rfl, hx10⟩
set_option maxRecDepth 100000 in
set_option maxHeartbeats 16000000 in
theorem it_out {d : Int} {item un : Ps Int} (h0 : 0 ≤ d) (h1 : d < 64) (hgi : GoodP item) (hgu : GoodP un) (hi : FnC 46 (d + 1) item) (hu : FnC 105 (d + 1) un)
    {B b t : Nat} {tv : Value} {ts l0 : List Tok} {v0 : Value} {ms0 : List (Nd × Value)} {w : World} (h : RdrAt B b t tv ts l0 d v0 ms0 w) (hILet : isT kLet (hdT l0) = false) (hIIf : isT kIf (hdT l0) = false) (hITry : isT kTry (hdT l0) = false) (hIRaise : isT kRaise (hdT l0) = false) (hIOut : isT kOut (hdT l0) = true)  :
    Calls Tryz.prog 46 #[.pointer (some ⟨b, 0, none⟩)] w fun e w' => PostG intV B b t tv ts d v0 ms0 w (itemB item un l0 (ms0.map (·.1))) e w' := by
  obtain ⟨R, hR⟩ : ∃ R, itemB item un l0 (ms0.map (·.1)) = R := ⟨_, rfl⟩
  have HOK := Lib.hid (show Ok' (fun _ l' m' => Pre l' m') R by rw [← hR]; exact (item_ok hgi hgu l0 _ h.pre).mono fun i l' m' h => h.1.pre)
  have HALL := Lib.hid (all_in hgi hi)
  have HG := Lib.hid (allT_ok hgi)
  have HITEM := Lib.hid hi
  have HGI := Lib.hid hgi
  have HLV := Lib.hid (lev0_in hgu hu)
  have HGL := Lib.hid (lev_ok hgu 5)
  have HIN := Lib.hid (into_ok h h0 h1)
  rw [hR]
  refine deep_calls (ts := ts) (l := l0) Tryz.func46 rfl h0 h1 (fun tmps W => by simp [results, Tryz.results46, go_sem]) ?_
  simp only [Tryz.ntmps46, List.size_toArray, List.length_cons, List.length_nil, Nat.reduceAdd, Nat.reduceSub, Array.replicate_succ, Array.replicate_zero, List.push_toArray, List.append_toArray, List.nil_append, List.cons_append]
  clear h hgi hgu hi hu
  go_wp2_with fail
  refine HIN.out.mono ?_
  rintro e wB ⟨rfl, hbx, hr, hm⟩
  have HI := Lib.hid (show InD w B b t tv ts l0 d v0 ms0 wB from ⟨hbx, hr, hm⟩)
  clear hbx hr hm HIN
  go_wp2_with fail
  refine (Next_in HI.out.rd).mono ?_
  rintro e w2 ⟨rfl, hb⟩
  have hb0 := hb.alloc hb.size (.cells #[.int .i64 (hdT l0).kind, .string (hdT l0).text, .int .i64 (hdT l0).num, .int .i64 (hdT l0).line, .int .i64 (hdT l0).col] 35)
  have HR0 := Lib.hid (HI.out.rd.under hb0)
  have HM0 := Lib.hid (Mw.of (b := b) (t := t) (v := v0) (ms := ms0) hb0)
  have HT0 := Lib.hid (last w2 (.cells #[.int .i64 (hdT l0).kind, .string (hdT l0).text, .int .i64 (hdT l0).num, .int .i64 (hdT l0).line, .int .i64 (hdT l0).col] 35))
  clear hb hb0
  unfold tokV
  go_upto_region 3 with fail
  generalize w2.heap.size = q at *
  generalize w2.alloc (.cells #[.int .i64 (hdT l0).kind, .string (hdT l0).text, .int .i64 (hdT l0).num, .int .i64 (hdT l0).line, .int .i64 (hdT l0).col] 35) = w0 at *
  have HQ0 := Lib.hid hR
  clear hR
  unfold itemB at HQ0
  have hq := HQ0.out
  simp only [hILet, hIIf, hITry, hIRaise, hIOut, if_true, if_false, Bool.false_eq_true] at hq
  have HQ0 := Lib.hid hq
  clear hq
  go_wp2_with fail
  refine (take_no (s := kLet) HR0.out hILet).mono ?_
  rintro e w1 ⟨rfl, hb⟩
  have HT1 := Lib.hid ((hb.block _ (heap_lt HT0.out)).trans HT0.out)
  have HM1 := Lib.hid (HM0.out.then hb)
  have HR1 := Lib.hid (HR0.out.under hb)
  clear hb
  have HQ1 := HQ0
  go_wp2_with fail
  refine (take_no (s := kIf) HR1.out hIIf).mono ?_
  rintro e w2 ⟨rfl, hb⟩
  have HT2 := Lib.hid ((hb.block _ (heap_lt HT1.out)).trans HT1.out)
  have HM2 := Lib.hid (HM1.out.then hb)
  have HR2 := Lib.hid (HR1.out.under hb)
  clear hb
  have HQ2 := HQ1
  go_wp2_with fail
  refine (take_no (s := kTry) HR2.out hITry).mono ?_
  rintro e w3 ⟨rfl, hb⟩
  have HT3 := Lib.hid ((hb.block _ (heap_lt HT2.out)).trans HT2.out)
  have HM3 := Lib.hid (HM2.out.then hb)
  have HR3 := Lib.hid (HR2.out.under hb)
  clear hb
  have HQ3 := HQ2
  go_wp2_with fail
  refine (take_no (s := kRaise) HR3.out hIRaise).mono ?_
  rintro e w4 ⟨rfl, hb⟩
  have HT4 := Lib.hid ((hb.block _ (heap_lt HT3.out)).trans HT3.out)
  have HM4 := Lib.hid (HM3.out.then hb)
  have HR4 := Lib.hid (HR3.out.under hb)
  clear hb
  have HQ4 := HQ3
  go_wp2_with fail
  refine (take_yes (s := kOut) HR4.out hIOut).mono ?_
  rintro e w5 ⟨rfl, hr, hm⟩
  have HT5 := Lib.hid (hm.keep HR4.out HT4.out (by decide) (by decide) (by decide))
  have HM5 := Lib.hid (HM4.out.trans (Mw.same hm))
  have HR5 := Lib.hid hr
  clear hr hm
  have HQ5 := HQ4
  go_wp2_with fail
  refine (kind_in (k := 1) HR5.out (by decide)).mono ?_
  intro e w6 hp
  have HT6 := Lib.hid (hp.keep HR5.out HT5.out (by decide) (by decide) (by decide))
  have hp := PostG.mv HM5.out hp
  cases ho : kindP 1 l0.tail (ms0.map (·.1)) with
  | bad c ln cl =>
    rw [ho] at hp
    have hq := HQ5.out
    rw [ho] at hq
    simp only [Out.bind] at hq
    subst hq
    obtain ⟨rfl, hbd⟩ := hp
    have HX := Lib.hid hbd
    clear hbd ho
    go_wp2_with fail
    exact ⟨rfl, wB, HI.out, rfl, HX.out⟩
  | ok x6 l6 m6 =>
    rw [ho] at hp
    have hq := HQ5.out
    rw [ho] at hq
    simp only [Out.bind] at hq
    obtain ⟨rfl, v6, ms6, rfl, hr, hm⟩ := hp
    obtain ⟨-, -, hmm, -⟩ := kind_same ho
    have hext : ms6.length = ms0.length := by simpa using congrArg List.length hmm
    have HQ6 := Lib.hid hq
    have HR6 := Lib.hid hr
    have HM6 := Lib.hid hm
    have hf6 := fun W => field_text x6.kind x6.num x6.line x6.col x6.text W
    clear hq hext hmm hr hm ho
    unfold tokV
    go_upto_region 25 with fail
    obtain ⟨t0, t1, t2, t3, t4⟩ := cellsOf5 HT6.out
    have hbw := (Below.refl w6.heap.size w6).drew
    cases ho : levP un 5 l6 (ms6.map (·.1)) with
    | bad c ln cl =>
      have hq := HQ6.out
      rw [ho] at hq
      simp only [Out.bind] at hq
      subst hq
      have hsx : ∀ W, Below w6.heap.size w6 W → Calls Tryz.prog 77 #[.pointer (some ⟨b, 0, none⟩), .int .i64 0] W fun e w' => e = .panicked (panicV c ln cl) ∧ Bad b t tv v0 wB w' := fun W hb => by
        have := HLV.out B b t tv ts l6 v6 ms6 W (HR6.out.under hb)
        rw [ho] at this
        exact this.mono fun e w' ⟨h1, h2⟩ => ⟨h1, h2.after ((HM6.out.then hb).toMv)⟩
      have HZ := Lib.hid hsx
      clear hsx ho
      go_region_with
        (first | (go_at_call 77; refine (HZ.out _ (by with_reducible assumption)).mono ?_; rintro e w9 ⟨rfl, hbd⟩; refine dead (P := Tryz.prog) (w := w9) ⟨rfl, wB, HI.out, rfl, hbd⟩ ?_))
      all_goals trivial
    | ok a l7 m7 =>
      have hq := HQ6.out
      have hgs := HGL.out l6 (ms6.map (·.1)) HR6.out.pre
      rw [ho] at hq hgs
      simp only [Out.bind] at hq
      have hgs : Fit l6 (ms6.map (·.1)) a l7 m7 := hgs
      have hext : ms6.length ≤ m7.length := by simpa using hgs.1.ext.length_le
      have KKa := Lib.hid (show 0 ≤ a ∧ a < (m7.length : Int) from hgs.2.there a (by simp))
      have hsx : ∀ W, Below w6.heap.size w6 W → Calls Tryz.prog 77 #[.pointer (some ⟨b, 0, none⟩), .int .i64 0] W fun e w' => e = .returned (.int .i64 a) ∧ ∃ v' ms', ms'.map (·.1) = m7 ∧ RdrAt B b t tv ts l7 (d + 1) v' ms' w' ∧ Mw b t v0 ms0 wB v' ms' w' ∧ w'.heap[q]? = some (.cells #[.int .i64 (hdT l0).kind, .string (hdT l0).text, .int .i64 (hdT l0).num, .int .i64 (hdT l0).line, .int .i64 (hdT l0).col] 35) := fun W hb => by
        have := HLV.out B b t tv ts l6 v6 ms6 W (HR6.out.under hb)
        rw [ho] at this
        refine this.mono fun e w' hp => ?_
        have hk := hp.keep (HR6.out.under hb) ((hb.block _ (heap_lt HT6.out)).trans HT6.out) (by decide) (by decide) (by decide)
        obtain ⟨h1, v', ms', h2, h3, h4⟩ := hp
        exact ⟨h1, v', ms', h2, h3, (HM6.out.then hb).trans h4, hk⟩
      have hno : ∀ (v2 : Value) (ms2 : List (Nd × Value)) (W : World), ms2.map (·.1) = m7 → RdrAt B b t tv ts l7 (d + 1) v2 ms2 W → Mw b t v0 ms0 wB v2 ms2 W →
          Calls Tryz.prog 49 #[.pointer (some ⟨b, 0, none⟩), .string kOut, .agg #[.int .i64 (hdT l0).kind, .string (hdT l0).text, .int .i64 (hdT l0).num, .int .i64 (hdT l0).line, .int .i64 (hdT l0).col], .string x6.text, .slice (some ⟨W.heap.size, 0, none⟩) 1 1] (W.alloc (.cells #[.int .i64 a] 3)) fun e w' => PostG intV B b t tv ts (d + 1) v0 ms0 wB R e w' := fun v2 ms2 W hms hr hm => by
        have hb' := (Below.refl W.heap.size W).alloc (Nat.le_refl _) (.cells #[.int .i64 a] 3)
        have hlm : (ms2.length : Int) = m7.length := by rw [← hms]; simp
        have h := node_in (hr.under hb') (by have := hr.base; have := hr.lt; simp; omega) kOut (hdT l0) x6.text (ints_one W a) (by simp) (fun k hk => by
            rw [hlm]
            simp only [List.mem_cons, List.not_mem_nil, or_false] at hk
            rcases hk with rfl
            · exact KKa.out) (by rw [hms, hq]; exact HOK.out)
        rw [hms, hq] at h
        exact h.mono fun e w' hp => PostG.mv (hm.then hb') hp
      have HZ := Lib.hid hsx
      have HNO := Lib.hid hno
      clear hsx hno ho hq hgs hext
      cases R with
      | bad c ln cl =>
        go_region_with
          (first
            | (go_at_call 77; refine (HZ.out _ (by with_reducible assumption)).mono ?_; rintro e w9 ⟨rfl, v2, ms2, hms2, hr9, hm9, ht9⟩; obtain ⟨t0, t1, t2, t3, t4⟩ := cellsOf5 ht9; have t0' := fun o => cellA t0 o; have t1' := fun o => cellA t1 o; have t2' := fun o => cellA t2 o; have t3' := fun o => cellA t3 o; have t4' := fun o => cellA t4 o; clear ht9)
            | (go_at_call 49; refine (HNO.out _ _ _ hms2 hr9 hm9).mono ?_; rintro e w10 ⟨rfl, hbd⟩; refine dead (P := Tryz.prog) (w := w10) ⟨rfl, wB, HI.out, rfl, hbd⟩ ?_))
        all_goals trivial
      | ok i' l' m' =>
        go_region_with
          (first
            | (go_at_call 77; refine (HZ.out _ (by with_reducible assumption)).mono ?_; rintro e w9 ⟨rfl, v2, ms2, hms2, hr9, hm9, ht9⟩; obtain ⟨t0, t1, t2, t3, t4⟩ := cellsOf5 ht9; have t0' := fun o => cellA t0 o; have t1' := fun o => cellA t1 o; have t2' := fun o => cellA t2 o; have t3' := fun o => cellA t3 o; have t4' := fun o => cellA t4 o; clear ht9)
            | (go_at_call 49; refine (HNO.out _ _ _ hms2 hr9 hm9).mono ?_; rintro e w10 ⟨rfl, hx10⟩; unfold intV))
        all_goals
          go_wp2_with fail
          exact ⟨rfl, wB, _, HI.out, rfl, rfl, hx10⟩
end Go.Proofs.YtmeacgmjpjjphaaGreatDoor
namespace Go.Proofs.YtmeacgmjpjjphaaGreatDoor
open Go.RowKit Go.Shelf
open Tr (Nd TreeAt Own Ints)
theorem below_drewN (w : World) : ∀ n, Below w.heap.size w (w.drewN n) := fun n => ⟨rfl, rfl, rfl, Nat.le_refl _, fun _ _ => rfl⟩
set_option maxRecDepth 100000 in
set_option maxHeartbeats 16000000 in
theorem it_plain1 {d : Int} {item un : Ps Int} (h0 : 0 ≤ d) (h1 : d < 64) (hgi : GoodP item) (hgu : GoodP un) (hi : FnC 46 (d + 1) item) (hu : FnC 105 (d + 1) un)
    {B b t : Nat} {tv : Value} {ts l0 : List Tok} {v0 : Value} {ms0 : List (Nd × Value)} {w : World} (h : RdrAt B b t tv ts l0 d v0 ms0 w) (hILet : isT kLet (hdT l0) = false) (hIIf : isT kIf (hdT l0) = false) (hITry : isT kTry (hdT l0) = false) (hIRaise : isT kRaise (hdT l0) = false) (hIOut : isT kOut (hdT l0) = false) (HK1 : Hid ((hdT l0).kind ≠ 1)) :
    Calls Tryz.prog 46 #[.pointer (some ⟨b, 0, none⟩)] w fun e w' => PostG intV B b t tv ts d v0 ms0 w (itemB item un l0 (ms0.map (·.1))) e w' := by
  obtain ⟨R, hR⟩ : ∃ R, itemB item un l0 (ms0.map (·.1)) = R := ⟨_, rfl⟩
  have HOK := Lib.hid (show Ok' (fun _ l' m' => Pre l' m') R by rw [← hR]; exact (item_ok hgi hgu l0 _ h.pre).mono fun i l' m' h => h.1.pre)
  have HALL := Lib.hid (all_in hgi hi)
  have HG := Lib.hid (allT_ok hgi)
  have HITEM := Lib.hid hi
  have HGI := Lib.hid hgi
  have HLV := Lib.hid (lev0_in hgu hu)
  have HGL := Lib.hid (lev_ok hgu 5)
  have HIN := Lib.hid (into_ok h h0 h1)
  rw [hR]
  refine deep_calls (ts := ts) (l := l0) Tryz.func46 rfl h0 h1 (fun tmps W => by simp [results, Tryz.results46, go_sem]) ?_
  simp only [Tryz.ntmps46, List.size_toArray, List.length_cons, List.length_nil, Nat.reduceAdd, Nat.reduceSub, Array.replicate_succ, Array.replicate_zero, List.push_toArray, List.append_toArray, List.nil_append, List.cons_append]
  clear h hgi hgu hi hu
  go_wp2_with fail
  refine HIN.out.mono ?_
  rintro e wB ⟨rfl, hbx, hr, hm⟩
  have HI := Lib.hid (show InD w B b t tv ts l0 d v0 ms0 wB from ⟨hbx, hr, hm⟩)
  clear hbx hr hm HIN
  go_wp2_with fail
  refine (Next_in HI.out.rd).mono ?_
  rintro e w2 ⟨rfl, hb⟩
  have hb0 := hb.alloc hb.size (.cells #[.int .i64 (hdT l0).kind, .string (hdT l0).text, .int .i64 (hdT l0).num, .int .i64 (hdT l0).line, .int .i64 (hdT l0).col] 35)
  have HR0 := Lib.hid (HI.out.rd.under hb0)
  have HM0 := Lib.hid (Mw.of (b := b) (t := t) (v := v0) (ms := ms0) hb0)
  have HT0 := Lib.hid (last w2 (.cells #[.int .i64 (hdT l0).kind, .string (hdT l0).text, .int .i64 (hdT l0).num, .int .i64 (hdT l0).line, .int .i64 (hdT l0).col] 35))
  clear hb hb0
  unfold tokV
  go_upto_region 3 with fail
  generalize w2.heap.size = q at *
  generalize w2.alloc (.cells #[.int .i64 (hdT l0).kind, .string (hdT l0).text, .int .i64 (hdT l0).num, .int .i64 (hdT l0).line, .int .i64 (hdT l0).col] 35) = w0 at *
  have HQ0 := Lib.hid hR
  clear hR
  unfold itemB at HQ0
  have hq := HQ0.out
  simp only [hILet, hIIf, hITry, hIRaise, hIOut, if_true, if_false, Bool.false_eq_true] at hq
  have HQ0 := Lib.hid hq
  clear hq
  go_wp2_with fail
  refine (take_no (s := kLet) HR0.out hILet).mono ?_
  rintro e w1 ⟨rfl, hb⟩
  have HT1 := Lib.hid ((hb.block _ (heap_lt HT0.out)).trans HT0.out)
  have HM1 := Lib.hid (HM0.out.then hb)
  have HR1 := Lib.hid (HR0.out.under hb)
  clear hb
  have HQ1 := HQ0
  go_wp2_with fail
  refine (take_no (s := kIf) HR1.out hIIf).mono ?_
  rintro e w2 ⟨rfl, hb⟩
  have HT2 := Lib.hid ((hb.block _ (heap_lt HT1.out)).trans HT1.out)
  have HM2 := Lib.hid (HM1.out.then hb)
  have HR2 := Lib.hid (HR1.out.under hb)
  clear hb
  have HQ2 := HQ1
  go_wp2_with fail
  refine (take_no (s := kTry) HR2.out hITry).mono ?_
  rintro e w3 ⟨rfl, hb⟩
  have HT3 := Lib.hid ((hb.block _ (heap_lt HT2.out)).trans HT2.out)
  have HM3 := Lib.hid (HM2.out.then hb)
  have HR3 := Lib.hid (HR2.out.under hb)
  clear hb
  have HQ3 := HQ2
  go_wp2_with fail
  refine (take_no (s := kRaise) HR3.out hIRaise).mono ?_
  rintro e w4 ⟨rfl, hb⟩
  have HT4 := Lib.hid ((hb.block _ (heap_lt HT3.out)).trans HT3.out)
  have HM4 := Lib.hid (HM3.out.then hb)
  have HR4 := Lib.hid (HR3.out.under hb)
  clear hb
  have HQ4 := HQ3
  go_wp2_with fail
  refine (take_no (s := kOut) HR4.out hIOut).mono ?_
  rintro e w5 ⟨rfl, hb⟩
  have HT5 := Lib.hid ((hb.block _ (heap_lt HT4.out)).trans HT4.out)
  have HM5 := Lib.hid (HM4.out.then hb)
  have HR5 := Lib.hid (HR4.out.under hb)
  clear hb
  have HQ5 := HQ4
  have hq := HQ5.out
  rw [if_neg (fun h => HK1.out h.1)] at hq
  have HQ5 := Lib.hid hq
  clear hq
  have hke : ((hdT l0).kind == 1) = false := by have := HK1.out; simp [this]
  obtain ⟨t0, t1, t2, t3, t4⟩ := cellsOf5 HT5.out
  go_upto_region 26 with fail
  go_quiet (fail)
  clear hke t0 t1 t2 t3 t4
  have hbq := below_drewN w5 nq
  have HR6 := Lib.hid (HR5.out.under hbq)
  have HM6 := Lib.hid (HM5.out.then hbq)
  have HQ6 := HQ5
  clear hbq
  generalize w5.drewN nq = w6 at *
  go_wp2_with fail
  refine (HLV.out B b t _ ts l0 v0 ms0 w6 HR6.out).mono ?_
  intro e w9 hp
  rw [HQ6.out] at hp
  have hp := PostG.mv HM6.out hp
  cases R with
  | bad c ln cl =>
    obtain ⟨rfl, hbd⟩ := hp
    have HX := Lib.hid hbd
    clear hbd
    go_wp2_with fail
    exact ⟨rfl, wB, HI.out, rfl, HX.out⟩
  | ok a' l' m' =>
    obtain ⟨rfl, hx⟩ := hp
    have HX := Lib.hid hx
    clear hx
    unfold intV
    go_wp2_with fail
    exact ⟨rfl, wB, _, HI.out, rfl, rfl, HX.out⟩
set_option maxRecDepth 100000 in
set_option maxHeartbeats 16000000 in
theorem it_plain2 {d : Int} {item un : Ps Int} (h0 : 0 ≤ d) (h1 : d < 64) (hgi : GoodP item) (hgu : GoodP un) (hi : FnC 46 (d + 1) item) (hu : FnC 105 (d + 1) un)
    {B b t : Nat} {tv : Value} {ts l0 : List Tok} {v0 : Value} {ms0 : List (Nd × Value)} {w : World} (h : RdrAt B b t tv ts l0 d v0 ms0 w) (hILet : isT kLet (hdT l0) = false) (hIIf : isT kIf (hdT l0) = false) (hITry : isT kTry (hdT l0) = false) (hIRaise : isT kRaise (hdT l0) = false) (hIOut : isT kOut (hdT l0) = false) (HK1 : Hid ((hdT l0).kind = 1)) (HK4 : Hid ((hdT l0.tail).kind ≠ 4)) :
    Calls Tryz.prog 46 #[.pointer (some ⟨b, 0, none⟩)] w fun e w' => PostG intV B b t tv ts d v0 ms0 w (itemB item un l0 (ms0.map (·.1))) e w' := by
  obtain ⟨R, hR⟩ : ∃ R, itemB item un l0 (ms0.map (·.1)) = R := ⟨_, rfl⟩
  have HOK := Lib.hid (show Ok' (fun _ l' m' => Pre l' m') R by rw [← hR]; exact (item_ok hgi hgu l0 _ h.pre).mono fun i l' m' h => h.1.pre)
  have HALL := Lib.hid (all_in hgi hi)
  have HG := Lib.hid (allT_ok hgi)
  have HITEM := Lib.hid hi
  have HGI := Lib.hid hgi
  have HLV := Lib.hid (lev0_in hgu hu)
  have HGL := Lib.hid (lev_ok hgu 5)
  have HIN := Lib.hid (into_ok h h0 h1)
  rw [hR]
  refine deep_calls (ts := ts) (l := l0) Tryz.func46 rfl h0 h1 (fun tmps W => by simp [results, Tryz.results46, go_sem]) ?_
  simp only [Tryz.ntmps46, List.size_toArray, List.length_cons, List.length_nil, Nat.reduceAdd, Nat.reduceSub, Array.replicate_succ, Array.replicate_zero, List.push_toArray, List.append_toArray, List.nil_append, List.cons_append]
  clear h hgi hgu hi hu
  go_wp2_with fail
  refine HIN.out.mono ?_
  rintro e wB ⟨rfl, hbx, hr, hm⟩
  have HI := Lib.hid (show InD w B b t tv ts l0 d v0 ms0 wB from ⟨hbx, hr, hm⟩)
  clear hbx hr hm HIN
  go_wp2_with fail
  refine (Next_in HI.out.rd).mono ?_
  rintro e w2 ⟨rfl, hb⟩
  have hb0 := hb.alloc hb.size (.cells #[.int .i64 (hdT l0).kind, .string (hdT l0).text, .int .i64 (hdT l0).num, .int .i64 (hdT l0).line, .int .i64 (hdT l0).col] 35)
  have HR0 := Lib.hid (HI.out.rd.under hb0)
  have HM0 := Lib.hid (Mw.of (b := b) (t := t) (v := v0) (ms := ms0) hb0)
  have HT0 := Lib.hid (last w2 (.cells #[.int .i64 (hdT l0).kind, .string (hdT l0).text, .int .i64 (hdT l0).num, .int .i64 (hdT l0).line, .int .i64 (hdT l0).col] 35))
  clear hb hb0
  unfold tokV
  go_upto_region 3 with fail
  generalize w2.heap.size = q at *
  generalize w2.alloc (.cells #[.int .i64 (hdT l0).kind, .string (hdT l0).text, .int .i64 (hdT l0).num, .int .i64 (hdT l0).line, .int .i64 (hdT l0).col] 35) = w0 at *
  have HQ0 := Lib.hid hR
  clear hR
  unfold itemB at HQ0
  have hq := HQ0.out
  simp only [hILet, hIIf, hITry, hIRaise, hIOut, if_true, if_false, Bool.false_eq_true] at hq
  have HQ0 := Lib.hid hq
  clear hq
  go_wp2_with fail
  refine (take_no (s := kLet) HR0.out hILet).mono ?_
  rintro e w1 ⟨rfl, hb⟩
  have HT1 := Lib.hid ((hb.block _ (heap_lt HT0.out)).trans HT0.out)
  have HM1 := Lib.hid (HM0.out.then hb)
  have HR1 := Lib.hid (HR0.out.under hb)
  clear hb
  have HQ1 := HQ0
  go_wp2_with fail
  refine (take_no (s := kIf) HR1.out hIIf).mono ?_
  rintro e w2 ⟨rfl, hb⟩
  have HT2 := Lib.hid ((hb.block _ (heap_lt HT1.out)).trans HT1.out)
  have HM2 := Lib.hid (HM1.out.then hb)
  have HR2 := Lib.hid (HR1.out.under hb)
  clear hb
  have HQ2 := HQ1
  go_wp2_with fail
  refine (take_no (s := kTry) HR2.out hITry).mono ?_
  rintro e w3 ⟨rfl, hb⟩
  have HT3 := Lib.hid ((hb.block _ (heap_lt HT2.out)).trans HT2.out)
  have HM3 := Lib.hid (HM2.out.then hb)
  have HR3 := Lib.hid (HR2.out.under hb)
  clear hb
  have HQ3 := HQ2
  go_wp2_with fail
  refine (take_no (s := kRaise) HR3.out hIRaise).mono ?_
  rintro e w4 ⟨rfl, hb⟩
  have HT4 := Lib.hid ((hb.block _ (heap_lt HT3.out)).trans HT3.out)
  have HM4 := Lib.hid (HM3.out.then hb)
  have HR4 := Lib.hid (HR3.out.under hb)
  clear hb
  have HQ4 := HQ3
  go_wp2_with fail
  refine (take_no (s := kOut) HR4.out hIOut).mono ?_
  rintro e w5 ⟨rfl, hb⟩
  have HT5 := Lib.hid ((hb.block _ (heap_lt HT4.out)).trans HT4.out)
  have HM5 := Lib.hid (HM4.out.then hb)
  have HR5 := Lib.hid (HR4.out.under hb)
  clear hb
  have HQ5 := HQ4
  have hq := HQ5.out
  rw [if_neg (fun h => HK4.out h.2.1)] at hq
  have HQ5 := Lib.hid hq
  clear hq
  have hke : ((hdT l0).kind == 1) = true := by rw [HK1.out]; rfl
  have hk4 : ((hdT l0.tail).kind == 4) = false := by have := HK4.out; simp [this]
  obtain ⟨n, g, cap, hn, hcap, ⟨b0, b1, b2, b3⟩, hc⟩ := HR5.out.tok
  have hkd : (hdT l0).kind ≠ 0 := by rw [HK1.out]; decide
  obtain ⟨x0, r0, hl1⟩ := HR5.out.pre.ends.cons
  obtain ⟨x1, r1, hl2⟩ := (HR5.out.pre.tail hkd).pre.ends.cons
  have hlen2 : 2 ≤ l0.length := by
    rw [hl1] at hl2 ⊢
    simp only [List.tail_cons] at hl2
    rw [hl2]
    simp
  have hgd1 : l0.getD 1 zTok = hdT l0.tail := by
    rw [hl1]
    cases r0 <;> rfl
  clear hl1 hl2 x0 r0 x1 r1
  obtain ⟨k0, k1, k2, k3, k4⟩ := hc 1 (by omega)
  rw [hgd1] at k0 k1
  have HN := Lib.hid hn
  have hwr : IntKind.i64.wrap ((n : Int) + 1) = (n : Int) + 1 := IntWalk.i64_in _ ⟨by omega, by have := HR5.out.few; omega⟩
  have hn1 : (0 : Int) ≤ (n : Int) + 1 := by omega
  have hn2 : (n : Int) + 1 < (ts.length : Int) := by omega
  clear hcap hc hgd1 hlen2 k2 k3 k4 hn hkd
  obtain ⟨t0, t1, t2, t3, t4⟩ := cellsOf5 HT5.out
  go_upto_region 26 with fail
  go_quiet (fail)
  clear hke hk4 t0 t1 t2 t3 t4 b0 b1 b2 b3 k0 k1 hwr
  have hbq := below_drewN w5 nq
  have HR6 := Lib.hid (HR5.out.under hbq)
  have HM6 := Lib.hid (HM5.out.then hbq)
  have HQ6 := HQ5
  clear hbq
  generalize w5.drewN nq = w6 at *
  go_wp2_with fail
  refine (HLV.out B b t _ ts l0 v0 ms0 w6 HR6.out).mono ?_
  intro e w9 hp
  rw [HQ6.out] at hp
  have hp := PostG.mv HM6.out hp
  cases R with
  | bad c ln cl =>
    obtain ⟨rfl, hbd⟩ := hp
    have HX := Lib.hid hbd
    clear hbd
    go_wp2_with fail
    exact ⟨rfl, wB, HI.out, rfl, HX.out⟩
  | ok a' l' m' =>
    obtain ⟨rfl, hx⟩ := hp
    have HX := Lib.hid hx
    clear hx
    unfold intV
    go_wp2_with fail
    exact ⟨rfl, wB, _, HI.out, rfl, rfl, HX.out⟩
set_option maxRecDepth 100000 in
set_option maxHeartbeats 16000000 in
theorem it_plain3 {d : Int} {item un : Ps Int} (h0 : 0 ≤ d) (h1 : d < 64) (hgi : GoodP item) (hgu : GoodP un) (hi : FnC 46 (d + 1) item) (hu : FnC 105 (d + 1) un)
    {B b t : Nat} {tv : Value} {ts l0 : List Tok} {v0 : Value} {ms0 : List (Nd × Value)} {w : World} (h : RdrAt B b t tv ts l0 d v0 ms0 w) (hILet : isT kLet (hdT l0) = false) (hIIf : isT kIf (hdT l0) = false) (hITry : isT kTry (hdT l0) = false) (hIRaise : isT kRaise (hdT l0) = false) (hIOut : isT kOut (hdT l0) = false) (HK1 : Hid ((hdT l0).kind = 1)) (HK4 : Hid ((hdT l0.tail).kind = 4)) (HK5 : Hid ((hdT l0.tail).text ≠ kSet)) :
    Calls Tryz.prog 46 #[.pointer (some ⟨b, 0, none⟩)] w fun e w' => PostG intV B b t tv ts d v0 ms0 w (itemB item un l0 (ms0.map (·.1))) e w' := by
  obtain ⟨R, hR⟩ : ∃ R, itemB item un l0 (ms0.map (·.1)) = R := ⟨_, rfl⟩
  have HOK := Lib.hid (show Ok' (fun _ l' m' => Pre l' m') R by rw [← hR]; exact (item_ok hgi hgu l0 _ h.pre).mono fun i l' m' h => h.1.pre)
  have HALL := Lib.hid (all_in hgi hi)
  have HG := Lib.hid (allT_ok hgi)
  have HITEM := Lib.hid hi
  have HGI := Lib.hid hgi
  have HLV := Lib.hid (lev0_in hgu hu)
  have HGL := Lib.hid (lev_ok hgu 5)
  have HIN := Lib.hid (into_ok h h0 h1)
  rw [hR]
  refine deep_calls (ts := ts) (l := l0) Tryz.func46 rfl h0 h1 (fun tmps W => by simp [results, Tryz.results46, go_sem]) ?_
  simp only [Tryz.ntmps46, List.size_toArray, List.length_cons, List.length_nil, Nat.reduceAdd, Nat.reduceSub, Array.replicate_succ, Array.replicate_zero, List.push_toArray, List.append_toArray, List.nil_append, List.cons_append]
  clear h hgi hgu hi hu
  go_wp2_with fail
  refine HIN.out.mono ?_
  rintro e wB ⟨rfl, hbx, hr, hm⟩
  have HI := Lib.hid (show InD w B b t tv ts l0 d v0 ms0 wB from ⟨hbx, hr, hm⟩)
  clear hbx hr hm HIN
  go_wp2_with fail
  refine (Next_in HI.out.rd).mono ?_
  rintro e w2 ⟨rfl, hb⟩
  have hb0 := hb.alloc hb.size (.cells #[.int .i64 (hdT l0).kind, .string (hdT l0).text, .int .i64 (hdT l0).num, .int .i64 (hdT l0).line, .int .i64 (hdT l0).col] 35)
  have HR0 := Lib.hid (HI.out.rd.under hb0)
  have HM0 := Lib.hid (Mw.of (b := b) (t := t) (v := v0) (ms := ms0) hb0)
  have HT0 := Lib.hid (last w2 (.cells #[.int .i64 (hdT l0).kind, .string (hdT l0).text, .int .i64 (hdT l0).num, .int .i64 (hdT l0).line, .int .i64 (hdT l0).col] 35))
  clear hb hb0
  unfold tokV
  go_upto_region 3 with fail
  generalize w2.heap.size = q at *
  generalize w2.alloc (.cells #[.int .i64 (hdT l0).kind, .string (hdT l0).text, .int .i64 (hdT l0).num, .int .i64 (hdT l0).line, .int .i64 (hdT l0).col] 35) = w0 at *
  have HQ0 := Lib.hid hR
  clear hR
  unfold itemB at HQ0
  have hq := HQ0.out
  simp only [hILet, hIIf, hITry, hIRaise, hIOut, if_true, if_false, Bool.false_eq_true] at hq
  have HQ0 := Lib.hid hq
  clear hq
  go_wp2_with fail
  refine (take_no (s := kLet) HR0.out hILet).mono ?_
  rintro e w1 ⟨rfl, hb⟩
  have HT1 := Lib.hid ((hb.block _ (heap_lt HT0.out)).trans HT0.out)
  have HM1 := Lib.hid (HM0.out.then hb)
  have HR1 := Lib.hid (HR0.out.under hb)
  clear hb
  have HQ1 := HQ0
  go_wp2_with fail
  refine (take_no (s := kIf) HR1.out hIIf).mono ?_
  rintro e w2 ⟨rfl, hb⟩
  have HT2 := Lib.hid ((hb.block _ (heap_lt HT1.out)).trans HT1.out)
  have HM2 := Lib.hid (HM1.out.then hb)
  have HR2 := Lib.hid (HR1.out.under hb)
  clear hb
  have HQ2 := HQ1
  go_wp2_with fail
  refine (take_no (s := kTry) HR2.out hITry).mono ?_
  rintro e w3 ⟨rfl, hb⟩
  have HT3 := Lib.hid ((hb.block _ (heap_lt HT2.out)).trans HT2.out)
  have HM3 := Lib.hid (HM2.out.then hb)
  have HR3 := Lib.hid (HR2.out.under hb)
  clear hb
  have HQ3 := HQ2
  go_wp2_with fail
  refine (take_no (s := kRaise) HR3.out hIRaise).mono ?_
  rintro e w4 ⟨rfl, hb⟩
  have HT4 := Lib.hid ((hb.block _ (heap_lt HT3.out)).trans HT3.out)
  have HM4 := Lib.hid (HM3.out.then hb)
  have HR4 := Lib.hid (HR3.out.under hb)
  clear hb
  have HQ4 := HQ3
  go_wp2_with fail
  refine (take_no (s := kOut) HR4.out hIOut).mono ?_
  rintro e w5 ⟨rfl, hb⟩
  have HT5 := Lib.hid ((hb.block _ (heap_lt HT4.out)).trans HT4.out)
  have HM5 := Lib.hid (HM4.out.then hb)
  have HR5 := Lib.hid (HR4.out.under hb)
  clear hb
  have HQ5 := HQ4
  have hq := HQ5.out
  rw [if_neg (fun h => HK5.out h.2.2)] at hq
  have HQ5 := Lib.hid hq
  clear hq
  have hke : ((hdT l0).kind == 1) = true := by rw [HK1.out]; rfl
  have hk4 : ((hdT l0.tail).kind == 4) = true := by rw [HK4.out]; rfl
  have hk5 : ((hdT l0.tail).text.toList == (⟨#[58, 61]⟩ : ByteArray).toList) = false := (text_eq _ _).trans (decide_eq_false HK5.out)
  rw [show (⟨#[58, 61]⟩ : ByteArray).toList = [58, 61] from by rw [Lib.toList_data]] at hk5
  obtain ⟨n, g, cap, hn, hcap, ⟨b0, b1, b2, b3⟩, hc⟩ := HR5.out.tok
  have hkd : (hdT l0).kind ≠ 0 := by rw [HK1.out]; decide
  obtain ⟨x0, r0, hl1⟩ := HR5.out.pre.ends.cons
  obtain ⟨x1, r1, hl2⟩ := (HR5.out.pre.tail hkd).pre.ends.cons
  have hlen2 : 2 ≤ l0.length := by
    rw [hl1] at hl2 ⊢
    simp only [List.tail_cons] at hl2
    rw [hl2]
    simp
  have hgd1 : l0.getD 1 zTok = hdT l0.tail := by
    rw [hl1]
    cases r0 <;> rfl
  clear hl1 hl2 x0 r0 x1 r1
  obtain ⟨k0, k1, k2, k3, k4⟩ := hc 1 (by omega)
  rw [hgd1] at k0 k1
  have HN := Lib.hid hn
  have hwr : IntKind.i64.wrap ((n : Int) + 1) = (n : Int) + 1 := IntWalk.i64_in _ ⟨by omega, by have := HR5.out.few; omega⟩
  have hn1 : (0 : Int) ≤ (n : Int) + 1 := by omega
  have hn2 : (n : Int) + 1 < (ts.length : Int) := by omega
  clear hcap hc hgd1 hlen2 k2 k3 k4 hn hkd
  obtain ⟨t0, t1, t2, t3, t4⟩ := cellsOf5 HT5.out
  go_upto_region 26 with fail
  go_quiet (fail)
  clear hke hk4 hk5 t0 t1 t2 t3 t4 b0 b1 b2 b3 k0 k1 hwr
  have hbq := below_drewN w5 nq
  have HR6 := Lib.hid (HR5.out.under hbq)
  have HM6 := Lib.hid (HM5.out.then hbq)
  have HQ6 := HQ5
  clear hbq
  generalize w5.drewN nq = w6 at *
  go_wp2_with fail
  refine (HLV.out B b t _ ts l0 v0 ms0 w6 HR6.out).mono ?_
  intro e w9 hp
  rw [HQ6.out] at hp
  have hp := PostG.mv HM6.out hp
  cases R with
  | bad c ln cl =>
    obtain ⟨rfl, hbd⟩ := hp
    have HX := Lib.hid hbd
    clear hbd
    go_wp2_with fail
    exact ⟨rfl, wB, HI.out, rfl, HX.out⟩
  | ok a' l' m' =>
    obtain ⟨rfl, hx⟩ := hp
    have HX := Lib.hid hx
    clear hx
    unfold intV
    go_wp2_with fail
    exact ⟨rfl, wB, _, HI.out, rfl, rfl, HX.out⟩
end Go.Proofs.YtmeacgmjpjjphaaGreatDoor
namespace Go.Proofs.YtmeacgmjpjjphaaGreatDoor
open Go.RowKit Go.Shelf
open Tr (Nd TreeAt Own Ints)

theorem item_in {d : Int} {item un : Ps Int} (h0 : 0 ≤ d) (h1 : d < 64) (hgi : GoodP item) (hgu : GoodP un) (hi : FnC 46 (d + 1) item) (hu : FnC 105 (d + 1) un) : FnC 46 d (itemB item un) := by
  intro B b t tv ts l v ms w h
  cases hl : isT kLet (hdT l) with
  | true => exact it_let h0 h1 hgi hgu hi hu h hl
  | false =>
  cases hf : isT kIf (hdT l) with
  | true => exact it_if h0 h1 hgi hgu hi hu h hl hf
  | false =>
  cases ht : isT kTry (hdT l) with
  | true => exact it_try h0 h1 hgi hgu hi hu h hl hf ht
  | false =>
  cases hr : isT kRaise (hdT l) with
  | true => exact it_raise h0 h1 hgi hgu hi hu h hl hf ht hr
  | false =>
  cases ho : isT kOut (hdT l) with
  | true => exact it_out h0 h1 hgi hgu hi hu h hl hf ht hr ho
  | false =>
  by_cases k1 : (hdT l).kind = 1
  · by_cases k4 : (hdT l.tail).kind = 4
    · by_cases k5 : (hdT l.tail).text = kSet
      · exact it_set h0 h1 hgi hgu hi hu h hl hf ht hr ho (Lib.hid k1) (Lib.hid k4) (Lib.hid k5)
      · exact it_plain3 h0 h1 hgi hgu hi hu h hl hf ht hr ho (Lib.hid k1) (Lib.hid k4) (Lib.hid k5)
    · exact it_plain2 h0 h1 hgi hgu hi hu h hl hf ht hr ho (Lib.hid k1) (Lib.hid k4)
  · exact it_plain1 h0 h1 hgi hgu hi hu h hl hf ht hr ho (Lib.hid k1)
set_option maxRecDepth 100000 in
set_option maxHeartbeats 4000000 in
theorem item_top : FnC 46 64 (failP 6) := by
  intro B b t tv ts l v ms w h
  have HI := Lib.hid (into_bad h)
  unfold failP PostG
  clear h
  go_enter Tryz.func46, Tryz.ntmps46
  go_wp2_with fail
  refine HI.out.mono ?_
  rintro e w1 ⟨rfl, hb⟩
  have HX := Lib.hid hb
  clear hb
  go_wp2_with fail
  exact ⟨rfl, rfl, HX.out⟩
set_option maxRecDepth 100000 in
set_option maxHeartbeats 4000000 in
theorem unary_top : FnC 105 64 (failP 6) := by
  intro B b t tv ts l v ms w h
  have HI := Lib.hid (into_bad h)
  unfold failP PostG
  clear h
  go_enter Tryz.func105, Tryz.ntmps105
  go_wp2_with fail
  refine HI.out.mono ?_
  rintro e w1 ⟨rfl, hb⟩
  have HX := Lib.hid hb
  clear hb
  go_wp2_with fail
  exact ⟨rfl, rfl, HX.out⟩
/-- Items and unaries, at each depth. -/
theorem deep_in : ∀ k : Nat, k ≤ 64 → FnC 46 (64 - (k : Int)) (itemP k) ∧ FnC 105 (64 - (k : Int)) (unP k)
  | 0, _ => ⟨item_top, unary_top⟩
  | k + 1, h => by
    have ih := deep_in k (by omega)
    have e : 64 - (k : Int) = 64 - ((k + 1 : Nat) : Int) + 1 := by omega
    rw [e] at ih
    exact ⟨item_in (by omega) (by omega) (itemP_ok k) (unP_ok k) ih.1 ih.2, unary_in (by omega) (by omega) (itemP_ok k) (unP_ok k) ih.1 ih.2⟩
/-- All, at depth 0. -/
theorem all0_in : FnC 26 0 (allT (itemP 64)) := all_in (itemP_ok 64) (deep_in 64 (Nat.le_refl _)).1
end Go.Proofs.YtmeacgmjpjjphaaGreatDoor
