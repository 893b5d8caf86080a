/- A function that goes one deeper, and comes back by a deferred call. -/
import Derived.Test.YtmeacgmjpjjphaaGreatDoorMExS
import Derived.Test.YtmeacgmjpjjphaaGreatDoorMExF
set_option linter.unusedVariables false
set_option linter.unusedSimpArgs false
namespace Go.Proofs.YtmeacgmjpjjphaaGreatDoor
open Go.RowKit Go.Shelf
open Tr (Nd TreeAt Own Ints)

theorem must_same {s : ByteArray} {l l' : List Tok} {m m' : List Nd} {u : Unit} (h : mustP s l m = .ok u l' m') : l' = l.tail ∧ m' = m := by
  unfold mustP at h
  split at h
  · injection h with h1 h2 h3
    exact ⟨h2.symm, h3.symm⟩
  · cases h
theorem kind_same {k : Int} {l l' : List Tok} {m m' : List Nd} {x : Tok} (h : kindP k l m = .ok x l' m') : x = hdT l ∧ l' = l.tail ∧ m' = m ∧ (hdT l).kind = k := by
  unfold kindP at h
  split at h
  · injection h with h1 h2 h3
    exact ⟨h1.symm, h2.symm, h3.symm, by assumption⟩
  · cases h
/-- What inside does. -/
def InsC (d : Int) (item : Ps Int) : Prop := ∀ (B b t : Nat) (tv : Value) (ts l : List Tok) (v : Value) (ms : List (Nd × Value)) (w : World) (x : Tok), RdrAt B b t tv ts l d v ms w → TkOk x →
  Calls Tryz.prog 123 #[.pointer (some ⟨b, 0, none⟩), tokV x] w fun e w' => PostG intV B b t tv ts d v ms w (insP item x l (ms.map (·.1))) e w'
set_option maxRecDepth 100000 in
set_option maxHeartbeats 16000000 in
theorem inside_in {d : Int} {item : Ps Int} (hg : GoodP item) (ha : FnC 26 d (allT item)) : InsC d item := by
  intro B b t tv ts l0 v0 ms0 w x h htk
  have hb0 := (Below.refl w.heap.size w).alloc (Nat.le_refl _) (.cells #[.int .i64 x.kind, .string x.text, .int .i64 x.num, .int .i64 x.line, .int .i64 x.col] 35)
  have HR0 := Lib.hid (h.under hb0)
  have HM0 := Lib.hid (Mw.of (b := b) (t := t) (v := v0) (ms := ms0) hb0)
  have HT0 := Lib.hid (last w (.cells #[.int .i64 x.kind, .string x.text, .int .i64 x.num, .int .i64 x.line, .int .i64 x.col] 35))
  have HALL := Lib.hid ha
  have HG := Lib.hid (allT_ok hg)
  obtain ⟨R, hR⟩ : ∃ R, insP item x l0 (ms0.map (·.1)) = R := ⟨_, rfl⟩
  have HOK := Lib.hid (show Ok' (fun _ l' m' => Pre l' m') R by rw [← hR]; exact (ins_ok hg h.pre htk).mono fun i l' m' h => h.1.pre)
  rw [hR]
  generalize hw0 : w.alloc (.cells #[.int .i64 x.kind, .string x.text, .int .i64 x.num, .int .i64 x.line, .int .i64 x.col] 35) = w0 at *
  generalize hq0 : w.heap.size = q at *
  unfold tokV
  unfold insP at hR
  cases hI0 : isT kRp (hdT l0) with
  | true =>
    rw [hI0, if_pos rfl] at hR
    have HQ0 := Lib.hid hR
    clear hR h htk hg ha hb0
    go_enter Tryz.func123, Tryz.ntmps123
    go_wp2_with fail
    clear hw0 hq0
    refine (take_yes (s := ⟨#[41]⟩) HR0.out hI0).mono ?_
    rintro e w1 ⟨rfl, hr, hm⟩
    have HT1 := Lib.hid (hm.keep HR0.out HT0.out (by decide) (by decide) (by decide))
    have HM1 := Lib.hid (HM0.out.trans (Mw.same hm))
    have HR1 := Lib.hid hr
    clear hr hm
    have HQ1 := HQ0
    obtain ⟨t0, t1, t2, t3, t4⟩ := cellsOf5 HT1.out
    have HRa := Lib.hid HR1.out
    have HMa := Lib.hid HM1.out
    have hno : Calls Tryz.prog 49 #[.pointer (some ⟨b, 0, none⟩), .string nUnit, tokV x, .string nNil, (.slice none 0 0)] w1 fun e w' => PostG intV B b t tv ts d v0 ms0 w R e w' := by
      have h := node_in HRa.out (by have := HRa.out.base; have := HRa.out.lt; omega) nUnit x nNil (show Tr.Ints w1 (.slice none 0 0) [] from .inl ⟨⟨none, 0, rfl⟩, rfl⟩) (by simp) (fun k hk => by simp at hk) (by rw [HQ1.out]; exact HOK.out)
      rw [HQ1.out] at h
      exact h.mono fun e w' hp => PostG.mv HMa.out hp
    unfold tokV at hno
    go_wp2_with fail
    refine hno.mono ?_
    clear hno
    intro e w2 hp
    cases R with
    | bad c ln cl =>
      obtain ⟨rfl, hbd⟩ := hp
      have HX := Lib.hid hbd
      clear hbd
      go_wp2_with fail
      exact ⟨rfl, rfl, HX.out⟩
    | ok a' l' m' =>
      obtain ⟨rfl, hx⟩ := hp
      have HX := Lib.hid hx
      clear hx
      unfold intV
      go_wp2_with fail
      go_ret
      exact ⟨rfl, HX.out⟩
  | false =>
    rw [hI0, if_neg (by simp)] at hR
    have HQ0 := Lib.hid hR
    clear hR h htk hg ha hb0
    go_enter Tryz.func123, Tryz.ntmps123
    go_wp2_with fail
    clear hw0 hq0
    refine (take_no (s := ⟨#[41]⟩) HR0.out hI0).mono ?_
    rintro e w1 ⟨rfl, hb⟩
    have HT1 := Lib.hid ((hb.block _ (heap_lt HT0.out)).trans HT0.out)
    have HM1 := Lib.hid (HM0.out.then hb)
    have HR1 := Lib.hid (HR0.out.under hb)
    clear hb
    have HQ1 := HQ0
    go_wp2_with fail
    refine (HALL.out B b t tv ts l0 v0 ms0 w1 HR1.out).mono ?_
    intro e w2 hp
    have HT2 := Lib.hid (hp.keep HR1.out HT1.out (by decide) (by decide) (by decide))
    have hp := PostG.mv HM1.out hp
    cases ho : allT item l0 (ms0.map (·.1)) with
    | bad c ln cl =>
      rw [ho] at hp
      have hq := HQ1.out
      rw [ho] at hq
      simp only [Out.bind] at hq
      subst hq
      obtain ⟨rfl, hbd⟩ := hp
      have HX := Lib.hid hbd
      clear hbd ho
      go_wp2_with fail
      exact ⟨rfl, rfl, HX.out⟩
    | ok a l2 m2 =>
      rw [ho] at hp
      have hq := HQ1.out
      have hgs := HG.out l0 (ms0.map (·.1)) HR1.out.pre
      rw [ho] at hq hgs
      simp only [Out.bind] at hq
      obtain ⟨rfl, v2, ms2, rfl, hr, hm⟩ := hp
      have hgs : Fit l0 (ms0.map (·.1)) a l2 (ms2.map (·.1)) := hgs
      have hext : ms0.length ≤ ms2.length := by simpa using hgs.1.ext.length_le
      have HQ2 := Lib.hid hq
      have HR2 := Lib.hid hr
      have HM2 := Lib.hid hm
      have Ka2 := Lib.hid (show 0 ≤ a ∧ a < (ms2.length : Int) by simpa using hgs.2.there a (by simp))
      clear hq hgs hext hr hm ho
      unfold intV
      cases hI2 : isT kRp (hdT l2) with
      | true =>
        have hq := HQ2.out
        rw [hI2, if_pos rfl] at hq
        have HQ2 := Lib.hid hq
        clear hq
        go_wp2_with fail
        refine (take_yes (s := ⟨#[41]⟩) HR2.out hI2).mono ?_
        rintro e w3 ⟨rfl, hr, hm⟩
        have HT3 := Lib.hid (hm.keep HR2.out HT2.out (by decide) (by decide) (by decide))
        have HM3 := Lib.hid (HM2.out.trans (Mw.same hm))
        have HR3 := Lib.hid hr
        clear hr hm
        have Ka3 := Ka2
        have HQ3 := HQ2
        have hq : R = .ok a l2.tail (ms2.map (·.1)) := HQ3.out.symm
        subst hq
        go_wp2_with fail
        go_ret
        exact ⟨rfl, v2, ms2, rfl, HR3.out, HM3.out⟩
      | false =>
        have hq := HQ2.out
        rw [hI2, if_neg (by simp)] at hq
        have HQ2 := Lib.hid hq
        clear hq
        go_wp2_with fail
        refine (take_no (s := ⟨#[41]⟩) HR2.out hI2).mono ?_
        rintro e w3 ⟨rfl, hb⟩
        have HT3 := Lib.hid ((hb.block _ (heap_lt HT2.out)).trans HT2.out)
        have HM3 := Lib.hid (HM2.out.then hb)
        have HR3 := Lib.hid (HR2.out.under hb)
        clear hb
        have Ka3 := Ka2
        have HQ3 := HQ2
        have hba := (Below.refl w3.heap.size w3).alloc (Nat.le_refl _) (.cells #[.string ⟨#[44]⟩] 9)
        have HRa := Lib.hid (HR3.out.under hba)
        have HTa := Lib.hid ((hba.block _ (heap_lt HT3.out)).trans HT3.out)
        have HMa := Lib.hid (HM3.out.then hba)
        have hmu : Calls Tryz.prog 30 #[.pointer (some ⟨b, 0, none⟩), .slice (some ⟨w3.heap.size, 0, none⟩) 1 1] (w3.alloc (.cells #[.string ⟨#[44]⟩] 9)) fun e w' => PostG unitV B b t tv ts d v2 ms2 (w3.alloc (.cells #[.string ⟨#[44]⟩] 9)) (mustP kComma l2 (ms2.map (·.1))) e w' := must_in HRa.out (last w3 _)
        clear hba
        go_wp2_with fail
        refine hmu.mono ?_
        clear hmu
        intro e w4 hp
        have HT4 := Lib.hid (hp.keep HRa.out HTa.out (by decide) (by decide) (by decide))
        have hp := PostG.mv HMa.out hp
        clear HRa HMa HTa
        cases ho : mustP kComma l2 (ms2.map (·.1)) with
        | bad c ln cl =>
          rw [ho] at hp
          have hq := HQ3.out
          rw [ho] at hq
          simp only [Out.bind] at hq
          subst hq
          obtain ⟨rfl, hbd⟩ := hp
          have HX := Lib.hid hbd
          clear hbd ho
          go_wp2_with fail
          exact ⟨rfl, rfl, HX.out⟩
        | ok u4 l4 m4 =>
          rw [ho] at hp
          have hq := HQ3.out
          rw [ho] at hq
          simp only [Out.bind] at hq
          obtain ⟨rfl, v4, ms4, rfl, hr, hm⟩ := hp
          obtain ⟨_, hmm⟩ := must_same ho
          have hext : ms4.length = ms2.length := by simpa using congrArg List.length hmm
          have HQ4 := Lib.hid hq
          have HR4 := Lib.hid hr
          have HM4 := Lib.hid hm
          have Ka4 := Lib.hid (show 0 ≤ a ∧ a < (ms4.length : Int) from ⟨Ka3.out.1, by have := Ka3.out.2; omega⟩)
          clear hq hext hmm hr hm ho
          unfold unitV
          go_wp2_with fail
          refine (HALL.out B b t tv ts l4 v4 ms4 w4 HR4.out).mono ?_
          intro e w5 hp
          have HT5 := Lib.hid (hp.keep HR4.out HT4.out (by decide) (by decide) (by decide))
          have hp := PostG.mv HM4.out hp
          cases ho : allT item l4 (ms4.map (·.1)) with
          | bad c ln cl =>
            rw [ho] at hp
            have hq := HQ4.out
            rw [ho] at hq
            simp only [Out.bind] at hq
            subst hq
            obtain ⟨rfl, hbd⟩ := hp
            have HX := Lib.hid hbd
            clear hbd ho
            go_wp2_with fail
            exact ⟨rfl, rfl, HX.out⟩
          | ok b2 l5 m5 =>
            rw [ho] at hp
            have hq := HQ4.out
            have hgs := HG.out l4 (ms4.map (·.1)) HR4.out.pre
            rw [ho] at hq hgs
            simp only [Out.bind] at hq
            obtain ⟨rfl, v5, ms5, rfl, hr, hm⟩ := hp
            have hgs : Fit l4 (ms4.map (·.1)) b2 l5 (ms5.map (·.1)) := hgs
            have hext : ms4.length ≤ ms5.length := by simpa using hgs.1.ext.length_le
            have HQ5 := Lib.hid hq
            have HR5 := Lib.hid hr
            have HM5 := Lib.hid hm
            have Kb25 := Lib.hid (show 0 ≤ b2 ∧ b2 < (ms5.length : Int) by simpa using hgs.2.there b2 (by simp))
            have Ka5 := Lib.hid (show 0 ≤ a ∧ a < (ms5.length : Int) from ⟨Ka4.out.1, by have := Ka4.out.2; omega⟩)
            clear hq hgs hext hr hm ho
            unfold intV
            have hba := (Below.refl w5.heap.size w5).alloc (Nat.le_refl _) (.cells #[.string ⟨#[41]⟩] 9)
            have HRa := Lib.hid (HR5.out.under hba)
            have HTa := Lib.hid ((hba.block _ (heap_lt HT5.out)).trans HT5.out)
            have HMa := Lib.hid (HM5.out.then hba)
            have hmu : Calls Tryz.prog 30 #[.pointer (some ⟨b, 0, none⟩), .slice (some ⟨w5.heap.size, 0, none⟩) 1 1] (w5.alloc (.cells #[.string ⟨#[41]⟩] 9)) fun e w' => PostG unitV B b t tv ts d v5 ms5 (w5.alloc (.cells #[.string ⟨#[41]⟩] 9)) (mustP kRp l5 (ms5.map (·.1))) e w' := must_in HRa.out (last w5 _)
            clear hba
            go_wp2_with fail
            refine hmu.mono ?_
            clear hmu
            intro e w6 hp
            have HT6 := Lib.hid (hp.keep HRa.out HTa.out (by decide) (by decide) (by decide))
            have hp := PostG.mv HMa.out hp
            clear HRa HMa HTa
            cases ho : mustP kRp l5 (ms5.map (·.1)) with
            | bad c ln cl =>
              rw [ho] at hp
              have hq := HQ5.out
              rw [ho] at hq
              simp only [Out.bind] at hq
              subst hq
              obtain ⟨rfl, hbd⟩ := hp
              have HX := Lib.hid hbd
              clear hbd ho
              go_wp2_with fail
              exact ⟨rfl, rfl, HX.out⟩
            | ok u6 l6 m6 =>
              rw [ho] at hp
              have hq := HQ5.out
              rw [ho] at hq
              simp only [Out.bind] at hq
              obtain ⟨rfl, v6, ms6, rfl, hr, hm⟩ := hp
              obtain ⟨_, hmm⟩ := must_same ho
              have hext : ms6.length = ms5.length := by simpa using congrArg List.length hmm
              have HQ6 := Lib.hid hq
              have HR6 := Lib.hid hr
              have HM6 := Lib.hid hm
              have Ka6 := Lib.hid (show 0 ≤ a ∧ a < (ms6.length : Int) from ⟨Ka5.out.1, by have := Ka5.out.2; omega⟩)
              have Kb26 := Lib.hid (show 0 ≤ b2 ∧ b2 < (ms6.length : Int) from ⟨Kb25.out.1, by have := Kb25.out.2; omega⟩)
              clear hq hext hmm hr hm ho
              unfold unitV
              obtain ⟨t0, t1, t2, t3, t4⟩ := cellsOf5 HT6.out
              have hba := (Below.refl w6.heap.size w6).alloc (Nat.le_refl _) (.cells #[.int .i64 a, .int .i64 b2] 3)
              have HRa := Lib.hid (HR6.out.under hba)
              have HMa := Lib.hid (HM6.out.then hba)
              clear hba
              have hno : Calls Tryz.prog 49 #[.pointer (some ⟨b, 0, none⟩), .string nPair, tokV x, .string nNil, (.slice (some ⟨w6.heap.size, 0, none⟩) 2 2)] (w6.alloc (.cells #[.int .i64 a, .int .i64 b2] 3)) fun e w' => PostG intV B b t tv ts d v0 ms0 w R e w' := by
                have h := node_in HRa.out (by have := HRa.out.base; have := HRa.out.lt; omega) nPair x nNil (ints_two w6 a b2) (by simp) (fun k hk => by
                  simp only [List.mem_cons, List.not_mem_nil, or_false] at hk
                  rcases hk with rfl | rfl
                  · exact Ka6.out
                  · exact Kb26.out) (by rw [HQ6.out]; exact HOK.out)
                rw [HQ6.out] at h
                exact h.mono fun e w' hp => PostG.mv HMa.out hp
              unfold tokV at hno
              go_wp2_with fail
              refine hno.mono ?_
              clear hno
              intro e w7 hp
              cases R with
              | bad c ln cl =>
                obtain ⟨rfl, hbd⟩ := hp
                have HX := Lib.hid hbd
                clear hbd
                go_wp2_with fail
                exact ⟨rfl, rfl, HX.out⟩
              | ok a' l' m' =>
                obtain ⟨rfl, hx⟩ := hp
                have HX := Lib.hid hx
                clear hx
                unfold intV
                go_wp2_with fail
                go_ret
                exact ⟨rfl, HX.out⟩
end Go.Proofs.YtmeacgmjpjjphaaGreatDoor
namespace Go.Proofs.YtmeacgmjpjjphaaGreatDoor
open Go.RowKit Go.Shelf
open Tr (Nd TreeAt Own Ints)

/-- Where args stands: what it has collected. -/
structure ArgAt (w0 : World) (B b t : Nat) (tv : Value) (ts l : List Tok) (d : Int) (v : Value) (ms : List (Nd × Value)) (js : List Int) (lv : Value) (v' : Value) (ms' : List (Nd × Value)) (wr : World) : Prop where
  rd : RdrAt B b t tv ts l d v' ms' wr
  moved : Mw b t v ms w0 v' ms' wr
  old : ∀ g, tv.ownBlock = some g → g < w0.heap.size
  lrow : Tr.Own wr w0.heap.size lv js
  lfree : ∀ g, lv.ownBlock = some g → Free ms' g
section
variable {w0 : World} {B b t : Nat} {tv : Value} {ts l l' : List Tok} {d d' : Int} {v : Value} {ms : List (Nd × Value)} {js : List Int} {lv : Value} {v' v'' : Value} {ms' ms'' : List (Nd × Value)} {wr w2 : World}
theorem ArgAt.move (h : ArgAt w0 B b t tv ts l d v ms js lv v' ms' wr) (hr : RdrAt B b t tv ts l' d' v'' ms'' w2) (hm : Mw b t v' ms' wr v'' ms'' w2) : ArgAt w0 B b t tv ts l' d' v ms js lv v'' ms'' w2 :=
  ⟨hr, h.moved.trans hm, h.old, hm.row h.rd h.lrow (by decide) (by decide) (by decide), fun g hg => (h.lfree g hg).move hm.kn (h.lrow.lt g hg).2⟩
theorem ArgAt.under (h : ArgAt w0 B b t tv ts l d v ms js lv v' ms' wr) (hb : Below wr.heap.size wr w2) : ArgAt w0 B b t tv ts l d v ms js lv v' ms' w2 := h.move (h.rd.under hb) (Mw.of hb)
theorem ArgAt.push (h : ArgAt w0 B b t tv ts l d v ms js lv v' ms' wr) {o : Obj} {a : Int} {g cap n : Nat} {w3 : World} (hown : w3.ownsRow w0.heap.size 3 1 (.slice (some ⟨g, 0, none⟩) n cap) (js.length + 1) (js.map (.int .i64) ++ [.int .i64 a])) (hgrow : (wr.alloc o).grownBy w3 lv.ownBlock) (hat : lv.ownBlock = some g ∨ g = (wr.alloc o).heap.size) :
    ArgAt w0 B b t tv ts l d v ms (js ++ [a]) (.slice (some ⟨g, 0, none⟩) n cap) v' ms' w3 := by
  have ha := h.under ((Below.refl _ wr).alloc (Nat.le_refl _) o)
  have kp : ∀ {k : Nat} {c : Array Value} {e : TypeId}, (wr.alloc o).heap[k]? = some (.cells c e) → e ≠ 3 → w3.heap[k]? = some (.cells c e) := fun hk' he => (hgrow.block _ (heap_lt hk') fun e => he (row_type ha.lrow e.symm hk').symm).trans hk'
  obtain ⟨n', g1, g2⟩ := ha.rd.obj
  refine ⟨⟨ha.rd.base, ⟨n', g1, kp g2 (by decide)⟩, ha.rd.suf, Tr.owns_block ha.rd.toks fun k hk => ?_, ⟨ha.rd.tree.base, kp ha.rd.tree.obj (by decide), Tr.owns_block ha.rd.tree.rows fun k hk => ?_, fun p hp => Tr.owns_block (ha.rd.tree.kid p hp) fun k hk => ?_⟩, ha.rd.pre, ha.rd.few⟩,
    ⟨⟨hgrow.os.trans ha.moved.os, hgrow.tape.trans ha.moved.tape, hgrow.output.trans ha.moved.output, Nat.le_trans ha.moved.size hgrow.size, fun k hk a1 a2 a3 => ?_, ha.moved.own⟩, ha.moved.kn⟩, ha.old, ?_, fun g' hg' => ?_⟩
  · obtain ⟨c, hc⟩ := own_at ha.rd.toks hk
    rw [kp hc (by decide), hc]
  · obtain ⟨c, hc⟩ := own_at ha.rd.tree.rows hk
    rw [kp hc (by decide), hc]
  · obtain ⟨c, hc⟩ := own_at (ha.rd.tree.kid p hp) hk
    exact hgrow.block k (heap_lt hc) fun e => ha.lfree k e.symm p hp hk
  · exact (hgrow.block k (Nat.lt_of_lt_of_le hk ha.moved.size) fun e => by have := (ha.lrow.lt k e.symm).1; omega).trans (ha.moved.block k hk a1 a2 a3)
  · show w3.ownsRow _ _ _ _ (js ++ [a]).length ((js ++ [a]).map _)
    rw [List.length_append, List.map_append]
    exact hown
  · obtain rfl : g = g' := Option.some.inj hg'
    rcases hat with e | e
    · exact ha.lfree g e
    · exact TreeAt.free ha.rd.tree (Nat.le_of_eq e.symm)
end
/-- Behind an argument. -/
def goesA (item : Ps Int) (n : Nat) (acc : List Int) : Ps (List Int) := fun l m => if isT kComma (hdT l) then argP item n acc l.tail m else (mustP kRp l m).bind fun _ l2 m2 => .ok acc l2 m2
theorem argP_goes (item : Ps Int) (n : Nat) (acc : List Int) (l : List Tok) (m : List Nd) : argP item (n + 1) acc l m = (allT item l m).bind fun a l m => goesA item n (acc ++ [a]) l m := rfl
/-- How args ends. -/
def PostL (B b t : Nat) (tv : Value) (ts : List Tok) (d : Int) (v : Value) (ms : List (Nd × Value)) (w : World) (o : Out (List Int)) (e : Ending) (w' : World) : Prop := match o with
  | .bad c l k => e = .panicked (panicV c l k) ∧ Bad b t tv v w w'
  | .ok ks l' m' => ∃ s v' ms', e = .returned s ∧ Tr.Ints w' s ks ∧ ms'.map (·.1) = m' ∧ RdrAt B b t tv ts l' d v' ms' w' ∧ Mw b t v ms w v' ms' w'
def ArgsC (d : Int) (item : Ps Int) : Prop := ∀ (B b t : Nat) (tv : Value) (ts l : List Tok) (v : Value) (ms : List (Nd × Value)) (w : World), RdrAt B b t tv ts l d v ms w →
  Calls Tryz.prog 124 #[.pointer (some ⟨b, 0, none⟩)] w fun e w' => PostL B b t tv ts d v ms w (argsP item l (ms.map (·.1))) e w'
/-- Where args' loop stands. -/
structure GoArg (item : Ps Int) (R : Out (List Int)) (w : World) (B b t : Nat) (tv : Value) (ts l : List Tok) (d : Int) (v : Value) (ms : List (Nd × Value)) (gk : Nat) (lv : Value) (acc : List Int) (l1 : List Tok) (v1 : Value) (ms1 : List (Nd × Value)) (wr : World) : Prop where
  at' : ArgAt w B b t tv ts l1 d v ms acc lv v1 ms1 wr
  goes : goesA item gk acc l1 (ms1.map (·.1)) = R
  few : l1.length ≤ gk + 1
  many : acc.length + l1.length ≤ l.length + 1
attribute [local go_sem ↓] Go.wp_at_zero Go.wp_at_succ
set_option maxRecDepth 100000 in
set_option maxHeartbeats 16000000 in
theorem args_in {d : Int} {item : Ps Int} (hg : GoodP item) (ha : FnC 26 d (allT item)) : ArgsC d item := by
  intro B b t tv ts l v ms w h
  obtain ⟨i0, hi0, hz0, hz1, hz2⟩ := info_parts Tr.info_int
  have HR := Lib.hid h
  have HALL := Lib.hid ha
  have HG := Lib.hid (allT_ok hg)
  obtain ⟨R, hR⟩ : ∃ R, argsP item l (ms.map (·.1)) = R := ⟨_, rfl⟩
  rw [hR]
  unfold argsP at hR
  cases hI : isT kRp (hdT l) with
  | true =>
    rw [hI, if_pos rfl] at hR
    subst hR
    have HT := Lib.hid (take_yes (s := ⟨#[41]⟩) h hI)
    clear h ha hg hi0 hz0 hz1 hz2 hI
    go_enter Tryz.func124, Tryz.ntmps124
    go_wp2_with fail
    refine HT.out.mono ?_
    rintro e w1 ⟨rfl, hr, hm⟩
    have HX := Lib.hid (And.intro hr hm)
    clear hr hm
    go_wp2_with fail
    go_ret
    exact ⟨.slice none 0 0, v, ms, rfl, .inl ⟨⟨none, 0, rfl⟩, rfl⟩, rfl, HX.out.1, Mw.same HX.out.2⟩
  | false =>
    rw [hI, if_neg (by simp)] at hR
    obtain ⟨nl, hnl⟩ : ∃ n, l.length = n + 1 := by
      obtain ⟨x, r, rfl⟩ := h.pre.ends.cons
      exact ⟨r.length, rfl⟩
    rw [hnl, argP_goes] at hR
    have HNL := Lib.hid hnl
    have HQ := Lib.hid hR
    have HT := Lib.hid (take_no (s := ⟨#[41]⟩) h hI)
    have hfew : l.length ≤ 65540 := Nat.le_trans h.suf.length_le h.few
    have HOLD := Lib.hid (show ∀ g, tv.ownBlock = some g → g < w.heap.size from fun g hg => by
      obtain ⟨c, hc⟩ := own_at h.toks hg
      exact heap_lt hc)
    clear h ha hg hI hR hnl
    go_enter Tryz.func124, Tryz.ntmps124
    go_wp2_with fail
    refine HT.out.mono ?_
    rintro e w1 ⟨rfl, hb⟩
    have HR1 := Lib.hid (HR.out.under hb)
    have HM1 := Lib.hid (Mw.of (b := b) (t := t) (v := v) (ms := ms) hb)
    clear hb
    go_wp2_with fail
    refine (HALL.out B b t tv ts l v ms w1 HR1.out).mono ?_
    intro e w2 hp
    have hp := PostG.mv HM1.out hp
    cases ho : allT item l (ms.map (·.1)) with
    | bad c ln cl =>
      rw [ho] at hp
      have hq := HQ.out
      rw [ho] at hq
      simp only [Out.bind] at hq
      subst hq
      obtain ⟨rfl, hbd⟩ := hp
      have HX := Lib.hid hbd
      clear hbd ho
      go_wp2_with fail
      exact ⟨rfl, rfl, HX.out⟩
    | ok a l1 m1 =>
      rw [ho] at hp
      have hq := HQ.out
      have hgs := HG.out l (ms.map (·.1)) HR.out.pre
      rw [ho] at hq hgs
      simp only [Out.bind] at hq
      obtain ⟨rfl, v1, ms1, rfl, hr, hm⟩ := hp
      have hgs : Fit l (ms.map (·.1)) a l1 (ms1.map (·.1)) := hgs
      have hsh := hgs.1.shorter
      have hba := (Below.refl w2.heap.size w2).alloc (Nat.le_refl _) (.cells #[.int .i64 a] 3)
      have hA : ArgAt w B b t tv ts l1 d v ms [a] (.slice (some ⟨w2.heap.size, 0, none⟩) 1 1) v1 ms1 (w2.alloc (.cells #[.int .i64 a] 3)) := ⟨hr.under hba, hm.then hba, HOLD.out, own_one hm.size a, fun g hg => by
        obtain rfl : w2.heap.size = g := Option.some.inj hg
        exact TreeAt.free hr.tree (Nat.le_refl _)⟩
      have H4 := Lib.hid (show GoArg item R w B b t tv ts l d v ms nl _ [a] l1 v1 ms1 _ from ⟨hA, hq, by have := HNL.out; omega, by simp; omega⟩)
      clear hq hgs hsh hba hA hr hm ho
      unfold intV
      go_wp2_with fail
      generalize w2.alloc (.cells #[.int .i64 a] 3) = w4 at *
      generalize Value.slice (some ⟨w2.heap.size, 0, none⟩) 1 1 = lv0 at *
      go_loopg [3] nl (fun gk iv wr => ∃ (acc : List Int) (l1 : List Tok) (v1 : Value) (ms1 : List (Nd × Value)), GoArg item R w B b t tv ts l d v ms gk iv acc l1 v1 ms1 wr)
      case atStart => exact ⟨[a], l1, v1, ms1, H4.out⟩
      case round =>
        clear H4 HQ HT HM1 HR1
        obtain ⟨acc, l1, v1, ms1, hA⟩ := hrel
        have HA := Lib.hid hA
        have hgo := hA.goes
        unfold goesA at hgo
        cases hI : isT kComma (hdT l1) with
        | false =>
          rw [hI, if_neg (by simp)] at hgo
          have HGO := Lib.hid hgo
          have HT := Lib.hid (take_no (s := ⟨#[44]⟩) hA.at'.rd hI)
          clear hA hgo hI
          go_wp2_with fail
          refine HT.out.mono ?_
          rintro e w5 ⟨rfl, hb⟩
          have HA5 := Lib.hid (HA.out.at'.under hb)
          have HA6 := Lib.hid (HA5.out.under ((Below.refl w5.heap.size w5).alloc (Nat.le_refl _) (.cells #[.string ⟨#[41]⟩] 9)))
          have hmu : Calls Tryz.prog 30 #[.pointer (some ⟨b, 0, none⟩), .slice (some ⟨w5.heap.size, 0, none⟩) 1 1] (w5.alloc (.cells #[.string ⟨#[41]⟩] 9)) fun e w' => PostG unitV B b t tv ts d v1 ms1 (w5.alloc (.cells #[.string ⟨#[41]⟩] 9)) (mustP kRp l1 (ms1.map (·.1))) e w' := must_in HA6.out.rd (last w5 _)
          clear hb HT
          go_wp2_with fail
          refine hmu.mono ?_
          clear hmu
          intro e w7 hp
          cases ho : mustP kRp l1 (ms1.map (·.1)) with
          | bad c ln cl =>
            rw [ho] at hp
            have hq := HGO.out
            rw [ho] at hq
            simp only [Out.bind] at hq
            subst hq
            obtain ⟨rfl, hbd⟩ := hp
            have HX := Lib.hid (hbd.after HA6.out.moved.toMv)
            clear hbd ho
            go_wp2_with fail
            exact ⟨rfl, rfl, HX.out⟩
          | ok u l7 m7 =>
            rw [ho] at hp
            have hq := HGO.out
            rw [ho] at hq
            simp only [Out.bind] at hq
            subst hq
            obtain ⟨rfl, v7, ms7, rfl, hr, hm⟩ := hp
            have HX := Lib.hid (HA6.out.move hr hm)
            clear hr hm ho
            unfold unitV
            go_wp2_with fail
            go_ret
            exact ⟨_, v7, ms7, rfl, HX.out.lrow.ints, rfl, HX.out.rd, HX.out.moved⟩
        | true =>
          rw [hI, if_pos rfl] at hgo
          obtain ⟨gq, rfl⟩ : ∃ g, gk = g + 1 := ⟨gk - 1, by
            have h1 := hA.at'.rd.pre.tail (isT_kind hI)
            have := hA.few
            obtain ⟨x0, r0, hl1⟩ := hA.at'.rd.pre.ends.cons
            obtain ⟨x1, r1, hl2⟩ := h1.pre.ends.cons
            rw [hl1] at this hl2
            simp only [List.tail_cons] at hl2
            rw [hl2] at this
            simp at this
            omega⟩
          rw [argP_goes] at hgo
          have HGO := Lib.hid hgo
          have HT := Lib.hid (take_yes (s := ⟨#[44]⟩) hA.at'.rd hI)
          have hl : acc.length ≤ 65541 := by have := hA.many; omega
          clear hA hgo hI
          go_wp2_with fail
          refine HT.out.mono ?_
          rintro e w5 ⟨rfl, hr, hm⟩
          have HA5 := Lib.hid (HA.out.at'.move hr (Mw.same hm))
          clear hr hm HT
          go_wp2_with fail
          refine (HALL.out B b t tv ts l1.tail v1 ms1 w5 HA5.out.rd).mono ?_
          intro e w6 hp
          cases ho : allT item l1.tail (ms1.map (·.1)) with
          | bad c ln cl =>
            rw [ho] at hp
            have hq := HGO.out
            rw [ho] at hq
            simp only [Out.bind] at hq
            subst hq
            obtain ⟨rfl, hbd⟩ := hp
            have HX := Lib.hid (hbd.after HA5.out.moved.toMv)
            clear hbd ho
            go_wp2_with fail
            exact ⟨rfl, rfl, HX.out⟩
          | ok a2 l2 m2 =>
            rw [ho] at hp
            have hq := HGO.out
            have hgs := HG.out l1.tail (ms1.map (·.1)) HA5.out.rd.pre
            rw [ho] at hq hgs
            simp only [Out.bind] at hq
            obtain ⟨rfl, v2, ms2, rfl, hr, hm⟩ := hp
            have hgs : Fit l1.tail (ms1.map (·.1)) a2 l2 (ms2.map (·.1)) := hgs
            have hsh := hgs.1.shorter
            have HA6 := Lib.hid (HA5.out.move hr hm)
            have HN := Lib.hid (And.intro hq (show l2.length ≤ l1.length - 1 by simpa using hsh))
            have hrow := HA6.out.lrow.alloc (.cells #[.int .i64 a2] 3)
            have htop : w.heap.size ≤ w6.heap.size := HA6.out.moved.size
            clear hq hgs hsh hr hm ho
            unfold intV
            go_wp2_with (at_builtin; refine wpList_append_lies _ rfl _ _ 51 rfl w.heap.size 3 i0 (.int .i64 0) 1 8 Tryz.underlying51 hi0 hz0 hz1 hz2 rfl (by decide) _ acc.length _ rfl hrow ⟨w6.heap.size, 0, none⟩ 1 1 [.int .i64 a2] rfl rfl ?c2 ?c3 (by decide) ?c4 ?c5 ?c6 (w6.alloc (.cells #[.int .i64 a2] 3)).heap.size ?c7 ?_)
            case c2 => first | exact fun j u h => h | exact World.news_of_block (last _ _)
            case c3 => exact one_int a2
            case c4 => unfold maxLen; omega
            case c5 => omega
            case c6 => first | omega | (simp; omega)
            case c7 => first | rfl | simp
            intro g' cap' wa hown hgrow hat hlt1
            have HA7 := Lib.hid (HA6.out.push hown hgrow (by simpa using hat))
            clear hown hgrow hat hlt1 hrow
            go_wp2_with fail
            go_roundg gq
            case measure => omega
            case rel => exact ⟨acc ++ [a2], l2, v2, ms2, HA7.out, HN.out.1, by have := HN.out.2; have := HA.out.few; omega, by
              have := HN.out.2
              have := HA.out.many
              have : 0 < l1.length := by
                obtain ⟨x, r, e⟩ := HA.out.at'.rd.pre.ends.cons
                rw [e]
                simp
              simp
              omega⟩
end Go.Proofs.YtmeacgmjpjjphaaGreatDoor
namespace Go.Proofs.YtmeacgmjpjjphaaGreatDoor
open Go.RowKit Go.Shelf
open Tr (Nd TreeAt Own Ints)

/-- What is deferred. -/
def dfrD (w : World) : Deferred := { target := .fn (.func 103) #[.pointer (some ⟨w.heap.size, 0, none⟩)], args := #[] }
/-- One deeper. -/
structure InD (w : World) (B b t : Nat) (tv : Value) (ts l : List Tok) (d : Int) (v : Value) (ms : List (Nd × Value)) (w1 : World) : Prop where
  box : w1.heap[w.heap.size]? = some (.cells #[.pointer (some ⟨b, 0, none⟩)] 28)
  rd : RdrAt B b t tv ts l (d + 1) v ms w1
  mv : Mv b t v w v w1
/-- How the body is left. -/
def PostD (w : World) (B b t : Nat) (tv : Value) (ts l : List Tok) (d : Int) (v : Value) (ms : List (Nd × Value)) (R : Out Int) : Exit → Act → World → Prop
  | .panic ch, a, W => a.defers = [dfrD w] ∧ ∃ w1, InD w B b t tv ts l d v ms w1 ∧ PostG intV B b t tv ts (d + 1) v ms w1 R (.panicked ch) W
  | .ret, a, W => a.defers = [dfrD w] ∧ ∃ w1 i, InD w B b t tv ts l d v ms w1 ∧ a.tmps.getD 2 undef = .int .i64 i ∧ PostG intV B b t tv ts (d + 1) v ms w1 R (.returned (.int .i64 i)) W
  | _, _, _ => False
theorem deep_calls {f : FuncId} {fn : Func} {c : Code} {args : Array Value} {w : World} {B b t : Nat} {tv : Value} {ts l : List Tok} {d : Int} {v : Value} {ms : List (Nd × Value)} {R : Out Int} (hf : Tryz.prog.funcs[f]? = some fn) (hb : fn.body = some c) (h0 : 0 ≤ d) (h1 : d < 64)
    (hres : ∀ (tmps : Array Value) (W : World), (results fn tmps).run Tryz.prog W = .ok (tmps.getD 2 undef) W)
    (h : c.wp Tryz.prog (PostD w B b t tv ts l d v ms R) { tmps := args ++ Array.replicate (fn.ntmps - args.size) undef, defers := [] } w) : Calls Tryz.prog f args w fun e w' => PostG intV B b t tv ts d v ms w R e w' := by
  refine calls_of_wp_defers hf hb (Code.wp_mono ?_ h)
  have hwrap : wrap64 (d + 1 - 1) = d := by
    unfold wrap64
    omega
  intro e a W hp
  cases e with
  | panic ch =>
    obtain ⟨hd, w1, hI, hp⟩ := hp
    have hq := hp.keep hI.rd hI.box (by decide) (by decide) (by decide)
    show Leaves Tryz.prog fn a.tmps _ a.defers (.panicking ch) W
    rw [hd]
    cases R with
    | ok i l' m' => exact absurd hp.1 (by simp)
    | bad c ln cl =>
      obtain ⟨hch, v', n, d', hbl, hm⟩ := hp
      injection hch with hch
      subst hch
      refine leaves_cons (f := 103) (args := #[.pointer (some ⟨w.heap.size, 0, none⟩)]) (by simp) (enters_of Tryz.func103 (by kernel_rfl) rfl _ _) ((out_in hq hbl _).mono ?_)
      rintro e' u' W' ⟨rfl, rfl, rfl⟩
      refine ⟨rfl, v', n, wrap64 (d' - 1), ?_, (hI.mv.trans hm).set 3 _⟩
      rw [setc hbl 3]
      rfl
  | ret =>
    obtain ⟨hd, w1, i, hI, hi, hp⟩ := hp
    have hq := hp.keep hI.rd hI.box (by decide) (by decide) (by decide)
    show Leaves Tryz.prog fn a.tmps _ a.defers .returning W
    rw [hd]
    cases R with
    | bad c ln cl => exact absurd hp.1 (by simp)
    | ok j l' m' =>
      obtain ⟨hj, v', ms', hms, hr, hm⟩ := hp
      obtain ⟨n, hn, hbl⟩ := hr.obj
      refine leaves_cons (f := 103) (args := #[.pointer (some ⟨w.heap.size, 0, none⟩)]) (by simp) (enters_of Tryz.func103 (by kernel_rfl) rfl _ _) ((out_in hq hbl _).mono ?_)
      rintro e' u' W' ⟨rfl, rfl, rfl⟩
      rw [hwrap]
      refine ⟨_, hres _ _, ?_⟩
      rw [hi]
      exact ⟨hj, v', ms', hms, hr.dive d, ((Mw.same hI.mv).trans hm).set 3 _⟩
  | normal => exact hp.elim
  | exit id => exact hp.elim
  | goto l => exact hp.elim
  | outgrown => exact hp.elim
end Go.Proofs.YtmeacgmjpjjphaaGreatDoor
