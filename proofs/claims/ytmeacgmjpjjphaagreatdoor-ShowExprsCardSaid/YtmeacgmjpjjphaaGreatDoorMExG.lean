/- Expressions of a level: the loop. -/
import Derived.Test.YtmeacgmjpjjphaaGreatDoorMExF
import Derived.Deep.DrawnRows
set_option linter.unusedVariables false
set_option linter.unusedSimpArgs false
namespace Go.Proofs.YtmeacgmjpjjphaaGreatDoor
open Go.RowKit
open Tr (Nd TreeAt Own Ints)

attribute [local go_sem ↓] Go.wp_at_zero Go.wp_at_succ
set_option maxRecDepth 100000 in
set_option maxHeartbeats 16000000 in
theorem level_in {d : Int} {sub : Ps Int} (hg : GoodP sub) {n : Nat} (hn : n < 5) (hs : LevC (n + 1) d sub) : LevC n d (fun l m => (sub l m).bind fun a l1 m1 => lopP sub n l1.length a l1 m1) := by
  intro B b t tv ts l v ms w h
  have hsub : ∀ (l : List Tok) (v : Value) (ms : List (Nd × Value)) (W : World), RdrAt B b t tv ts l d v ms W → Calls Tryz.prog 77 #[.pointer (some ⟨b, 0, none⟩), .int .i64 ((n : Int) + 1)] W fun e w' => PostG intV B b t tv ts d v ms W (sub l (ms.map (·.1))) e w' := fun l v ms W h => by
    have := hs B b t tv ts l v ms W h
    rwa [Int.natCast_succ] at this
  have HS := Lib.hid hsub
  have HR := Lib.hid h
  have HGS := Lib.hid (hg l (ms.map (·.1)) h.pre)
  have HLV := Lib.hid (levels_in w)
  have n5 : ((n : Int) == 5) = false := by simp; omega
  have hnb : (n : Int) < 5 := by omega
  obtain ⟨R, hR⟩ : ∃ R, ((sub l (ms.map (·.1))).bind fun a l1 m1 => lopP sub n l1.length a l1 m1) = R := ⟨_, rfl⟩
  show Calls _ _ _ _ fun e w' => PostG intV B b t tv ts d v ms w ((sub l (ms.map (·.1))).bind fun a l1 m1 => lopP sub n l1.length a l1 m1) e w'
  rw [hR]
  have HQ := Lib.hid hR
  clear hsub hs h hR
  go_enter Tryz.func77, Tryz.ntmps77
  go_wp2_with fail
  refine HLV.out.mono ?_
  rintro e w2 ⟨rfl, _, hb⟩
  have HR2 := Lib.hid (HR.out.under hb)
  have HM2 := Lib.hid (Mw.of (b := b) (t := t) (v := v) (ms := ms) hb)
  have hc := HS.out l v ms w2 HR2.out
  clear hb
  unfold levV
  go_wp2_with fail
  refine hc.mono ?_
  clear hc
  intro e w3 hp
  have hp := PostG.mv HM2.out hp
  cases ho : sub l (ms.map (·.1)) with
  | bad c ln cl =>
    rw [ho] at hp
    have hq := HQ.out
    rw [ho] at hq
    have hq : R = .bad c ln cl := hq.symm
    subst hq
    obtain ⟨rfl, hbd⟩ := hp
    have HX := Lib.hid hbd
    clear hbd ho
    go_wp2_with fail
    exact ⟨rfl, rfl, HX.out⟩
  | ok a l1 m1 =>
    rw [ho] at hp
    have hq := HQ.out
    have hgs := HGS.out
    rw [ho] at hq hgs
    obtain ⟨rfl, v1, ms1, rfl, hr1, hmv1⟩ := hp
    have HQ1 := Lib.hid (show lopP sub n l1.length a l1 (ms1.map (·.1)) = R from hq)
    have HG1 := Lib.hid (show Fit l (ms.map (·.1)) a l1 (ms1.map (·.1)) from hgs)
    have HR3 := Lib.hid hr1
    have HM3 := Lib.hid hmv1
    clear hq hgs hr1 hmv1 ho
    unfold intV
    go_wp2_with fail
    go_loopg [5] l1.length (fun gk iv wr => ∃ (a : Int) (l1 : List Tok) (v1 : Value) (ms1 : List (Nd × Value)), iv = .int .i64 a ∧ RdrAt B b t tv ts l1 d v1 ms1 wr ∧ Mw b t v ms w v1 ms1 wr ∧ lopP sub n gk a l1 (ms1.map (·.1)) = R ∧ Fit l (ms.map (·.1)) a l1 (ms1.map (·.1)) ∧ l1.length ≤ gk)
    case atStart => exact ⟨a, l1, v1, ms1, rfl, HR3.out, HM3.out, HQ1.out, HG1.out, Nat.le_refl _⟩
    case round =>
      clear HQ1 HG1 HR3 HM3
      obtain ⟨a, l1, v1, ms1, rfl, hr, hm, hq, hfit, hle⟩ := hrel
      obtain ⟨gq, rfl⟩ : ∃ g, gk = g + 1 := ⟨gk - 1, by
        obtain ⟨x, r, rfl⟩ := hr.pre.ends.cons
        simp at hle
        omega⟩
      have HRD := Lib.hid hr
      have HMV := Lib.hid hm
      have HFT := Lib.hid hfit
      have HN := Lib.hid (Next_in hr)
      clear hr hm hfit
      go_wp2_with fail
      refine HN.out.mono ?_
      rintro e w4 ⟨rfl, hb⟩
      have hb5 := hb.alloc hb.size (.cells #[.int .i64 (hdT l1).kind, .string (hdT l1).text, .int .i64 (hdT l1).num, .int .i64 (hdT l1).line, .int .i64 (hdT l1).col] 35)
      have HR5 := Lib.hid (HRD.out.under hb5)
      have HM5 := Lib.hid (HMV.out.then hb5)
      have HT5 := Lib.hid (last w4 (.cells #[.int .i64 (hdT l1).kind, .string (hdT l1).text, .int .i64 (hdT l1).num, .int .i64 (hdT l1).line, .int .i64 (hdT l1).col] 35))
      clear hb hb5 HN
      unfold tokV
      go_upto_region 5 with fail
      generalize w4.heap.size = r5 at *
      generalize w4.alloc (.cells #[.int .i64 (hdT l1).kind, .string (hdT l1).text, .int .i64 (hdT l1).num, .int .i64 (hdT l1).line, .int .i64 (hdT l1).col] 35) = w5 at *
      have hmf : ∀ (fn : Fn) (first cap : Array Value) (w : World), (Instr.makeFunc fn first cap).run Tryz.prog w = .ok (.func fn first cap) w := fun _ _ _ _ => rfl
      have hlx := fun q W => lev_index q hn W
      have HL5 := Lib.hid (levels_in w5)
      go_wp2_with fail
      refine HL5.out.mono ?_
      rintro e w6 ⟨rfl, hlv, hb⟩
      have hq6 := hlv.row hn
      have HR6 := Lib.hid (HR5.out.under hb)
      have HM6 := Lib.hid (HM5.out.then hb)
      have HT6 := Lib.hid ((hb.block _ (heap_lt HT5.out)).trans HT5.out)
      have HI := Lib.hid (idx_in HR6.out hq6 (show (opsB n).length ≤ 100 by unfold opsB; split <;> decide))
      clear hb hlv hq6
      go_wp2_with fail
      refine HI.out.mono ?_
      intro e w7 hi
      unfold IdxPost at hi
      unfold lopP at hq
      cases hop : opT n (hdT l1) with
      | none =>
        rw [hop] at hq
        rw [find_none hop] at hi
        obtain ⟨rfl, hb⟩ := hi
        have hq : R = .ok a l1 (ms1.map (·.1)) := hq.symm
        subst hq
        have HX := Lib.hid (And.intro (HR6.out.under hb) (HM6.out.then hb))
        clear hb hop HQ
        go_wp2_with fail
        go_ret
        exact ⟨rfl, v1, ms1, rfl, HX.out.1, HX.out.2⟩
      | some op =>
        rw [hop] at hq
        obtain ⟨i, hi1, hi2, hi3⟩ := find_idx (d := ByteArray.empty) hop
        rw [hi1] at hi
        obtain ⟨rfl, hr7, hm7⟩ := hi
        obtain ⟨hkd, hosz⟩ := opT_kind hop
        have hadv := HFT.out.1.pre.tail hkd
        have HT7 := Lib.hid (hm7.keep HR6.out HT6.out (by decide) (by decide) (by decide))
        have HM7 := Lib.hid (HM6.out.trans (Mw.same hm7))
        have HR7 := Lib.hid hr7
        have HSG := Lib.hid (hg l1.tail (ms1.map (·.1)) hadv.pre)
        have HI3 := Lib.hid hi3
        have HAD := Lib.hid hadv
        have hsb := HS.out l1.tail v1 ms1
        have hlo : decide ((i : Int) < 0) = false := decide_eq_false (by omega)
        have hi0 : (0 : Int) ≤ (i : Int) := by omega
        have hil : (i : Int) < ((opsB n).length : Int) := by omega
        have HSB := Lib.hid (fun W (hb : Below w7.heap.size w7 W) => hsb W (HR7.out.under hb))
        clear hr7 hm7 hop hi1 hi3 hadv hsb HI HL5
        obtain ⟨t0, t1, t2, t3, t4⟩ := cellsOf5 HT7.out
        have HLW := Lib.hid (levels_in w7.drew)
        have hbw := (Below.refl w7.heap.size w7).drew
        cases ho : sub l1.tail (ms1.map (·.1)) with
        | bad c ln cl =>
          have hsb : ∀ W, Below w7.heap.size w7 W → Calls Tryz.prog 77 #[.pointer (some ⟨b, 0, none⟩), .int .i64 ((n : Int) + 1)] W fun e w' => e = .panicked (panicV c ln cl) ∧ Bad b t tv v w w' := fun W hb => by
            have := HSB.out W hb
            rw [ho] at this
            exact this.mono fun e w' ⟨h1, h2⟩ => ⟨h1, h2.after (HM7.out.then hb).toMv⟩
          rw [ho] at hq
          have hq : R = .bad c ln cl := hq.symm
          subst hq
          have HZ := Lib.hid hsb
          clear ho HQ hsb
          go_upto_region 8 with fail
          have hwr : IntKind.i64.wrap ((n : Int) + 1) = (n : Int) + 1 := IntWalk.i64_in _ ⟨by omega, by omega⟩
          go_region_with
            (first
              | (go_at_call 104; refine HLW.out.mono ?_; rintro e w8 ⟨rfl, hlv, hb⟩; have hb8 := chain hbw hb; obtain ⟨t0, t1, t2, t3, t4⟩ := cellsOf5 ((hb8.block _ (heap_lt HT7.out)).trans HT7.out); have hq8 : w8.cell? ⟨w7.heap.size + 1 + n, i, none⟩ = some (.string op) := by { have := (hlv.row hn).cell hi2; rw [HI3.out] at this; exact this }; clear hb hlv)
              | (go_at_call 77; refine (HZ.out _ (by with_reducible assumption)).mono ?_; rintro e w9 ⟨rfl, hbd⟩; refine dead (P := Tryz.prog) (w := w9) ⟨rfl, rfl, hbd⟩ ?_))
          all_goals trivial
        | ok b2 l2 m2 =>
          have hsb : ∀ W, Below w7.heap.size w7 W → Calls Tryz.prog 77 #[.pointer (some ⟨b, 0, none⟩), .int .i64 ((n : Int) + 1)] W fun e w' => e = .returned (.int .i64 b2) ∧ ∃ v' ms', ms'.map (·.1) = m2 ∧ RdrAt B b t tv ts l2 d v' ms' w' ∧ Mw b t v ms w v' ms' w' ∧ Mv b t v1 W v' w' := fun W hb => by
            have := HSB.out W hb
            rw [ho] at this
            refine this.mono fun e w' ⟨h1, v', ms', h2, h3, h4⟩ => ⟨h1, v', ms', h2, h3, (HM7.out.then hb).trans h4, h4.toMv⟩
          have hsg := HSG.out
          rw [ho] at hq hsg
          have hfs : Fit l1.tail (ms1.map (·.1)) b2 l2 m2 := hsg
          have hpd := HFT.out.2.app hfs.2 hfs.1.ext hfs.1.pre.wf
          have hnk : Ok' (fun i l' m' => Adv l2 m2 l' m' ∧ Paid (ms.map (·.1)) [i] m' ∧ l' = l2) (nodeP op (hdT l1) nNil [a, b2] l2 m2) := node_ok (op := op) (t := hdT l1) (name := nNil) hfs.1.pre (by omega) HFT.out.1.pre.hd (by decide) (by simp) hpd
          obtain ⟨Rn, hRn⟩ : ∃ Rn, nodeP op (hdT l1) nNil [a, b2] l2 m2 = Rn := ⟨_, rfl⟩
          replace hq : (nodeP op (hdT l1) nNil [a, b2] l2 m2).bind (fun c l2 m2 => if n = 2 then .ok c l2 m2 else lopP sub n gq c l2 m2) = R := hq
          have hno : ∀ (v2 : Value) (ms2 : List (Nd × Value)) (W : World), ms2.map (·.1) = m2 → RdrAt B b t tv ts l2 d v2 ms2 W → Mw b t v ms w v2 ms2 W →
              Calls Tryz.prog 49 #[.pointer (some ⟨b, 0, none⟩), .string op, .agg #[.int .i64 (hdT l1).kind, .string (hdT l1).text, .int .i64 (hdT l1).num, .int .i64 (hdT l1).line, .int .i64 (hdT l1).col], .string ⟨#[]⟩, .slice (some ⟨W.heap.size, 0, none⟩) 2 2] (W.alloc (.cells #[.int .i64 a, .int .i64 b2] 3)) fun e w' => PostG intV B b t tv ts d v ms w Rn e w' ∧ ∀ c, (W.alloc (.cells #[.int .i64 a, .int .i64 b2] 3)).heap[r5]? = some (.cells c 35) → w'.heap[r5]? = some (.cells c 35) := fun v2 ms2 W hms hr hm => by
            have hb' := (Below.refl W.heap.size W).alloc (Nat.le_refl _) (.cells #[.int .i64 a, .int .i64 b2] 3)
            have h := node_in (hr.under hb') (by have := hr.base; have := hr.lt; simp; omega) op (hdT l1) nNil (ints_two W a b2) (by simp) (fun k hk => by
              have := hpd.there k hk
              rw [← hms] at this
              simpa using this) (by rw [hms]; exact hnk.mono fun i l' m' h => h.1.pre)
            rw [hms, hRn] at h
            exact h.mono fun e w' hp => ⟨PostG.mv (hm.then hb') hp, fun c hc => hp.keep (hr.under hb') hc (by decide) (by decide) (by decide)⟩
          rw [hRn] at hq hnk
          have hlen : l2.length ≤ gq := by
            have := hfs.1.shorter
            obtain ⟨x, r, rfl⟩ := HFT.out.1.pre.ends.cons
            simp at this hle
            omega
          have HZ := Lib.hid hsb
          have HADV := Lib.hid (show Adv l (ms.map (·.1)) l2 m2 from (HFT.out.1.trans HAD.out).trans hfs.1)
          clear ho hsb hsg hfs hpd hRn
          cases Rn with
          | bad c ln cl =>
            replace hq : R = .bad c ln cl := hq.symm
            subst hq
            have HNO := Lib.hid hno
            clear hno hnk HQ
            go_upto_region 8 with fail
            have hwr : IntKind.i64.wrap ((n : Int) + 1) = (n : Int) + 1 := IntWalk.i64_in _ ⟨by omega, by omega⟩
            go_region_with
            (first
              | (go_at_call 104; refine HLW.out.mono ?_; rintro e w8 ⟨rfl, hlv, hb⟩; have hb8 := chain hbw hb; obtain ⟨t0, t1, t2, t3, t4⟩ := cellsOf5 ((hb8.block _ (heap_lt HT7.out)).trans HT7.out); have hq8 : w8.cell? ⟨w7.heap.size + 1 + n, i, none⟩ = some (.string op) := by { have := (hlv.row hn).cell hi2; rw [HI3.out] at this; exact this }; have HQ8 := Lib.hid (hlv.row hn); clear hb hlv)
              | (go_at_call 77; refine (HZ.out _ (by with_reducible assumption)).mono ?_; rintro e w9 ⟨rfl, v2, ms2, hms2, hr9, hm9, hmx⟩; have hk9 := hmx.keep (HR7.out.under hb8) HQ8.out (by decide) (by decide) (by decide); have hq9 : w9.cell? ⟨w7.heap.size + 1 + n, i, none⟩ = some (.string op) := by { have := (show strB w9 (w7.heap.size + 1 + n) (opsB n) from hk9).cell hi2; rw [HI3.out] at this; exact this }; have hq9' := fun o => cellA hq9 o; have ht9 := hmx.keep (HR7.out.under hb8) ((hb8.block _ (heap_lt HT7.out)).trans HT7.out) (by decide) (by decide) (by decide); obtain ⟨t0, t1, t2, t3, t4⟩ := cellsOf5 ht9; have t0' := fun o => cellA t0 o; have t1' := fun o => cellA t1 o; have t2' := fun o => cellA t2 o; have t3' := fun o => cellA t3 o; have t4' := fun o => cellA t4 o; clear hk9 ht9 hmx)
              | (go_at_call 49; refine (HNO.out _ _ _ hms2 hr9 hm9).mono ?_; rintro e w10 ⟨⟨rfl, hbd⟩, _⟩; refine dead (P := Tryz.prog) (w := w10) ⟨rfl, rfl, hbd⟩ ?_))
            all_goals trivial
          | ok c l3 m3 =>
            obtain ⟨hna, hnp, rfl⟩ := hnk
            have HNO := Lib.hid hno
            have HFIT := Lib.hid (show Fit l (ms.map (·.1)) c l3 m3 from ⟨HADV.out.trans hna, hnp⟩)
            have HQ2 := Lib.hid (show (if n = 2 then .ok c l3 m3 else lopP sub n gq c l3 m3) = R from hq)
            clear hno hna hnp hq
            go_upto_region 8 with fail
            have hwr : IntKind.i64.wrap ((n : Int) + 1) = (n : Int) + 1 := IntWalk.i64_in _ ⟨by omega, by omega⟩
            refine' (fun (key : Hid _) => ?main) (Lib.hid ?kp)
            case main =>
              go_region_with
              (first
                | (go_at_call 104; refine HLW.out.mono ?_; rintro e w8 ⟨rfl, hlv, hb⟩; have hb8 := chain hbw hb; obtain ⟨t0, t1, t2, t3, t4⟩ := cellsOf5 ((hb8.block _ (heap_lt HT7.out)).trans HT7.out); have hq8 : w8.cell? ⟨w7.heap.size + 1 + n, i, none⟩ = some (.string op) := by { have := (hlv.row hn).cell hi2; rw [HI3.out] at this; exact this }; have HQ8 := Lib.hid (hlv.row hn); clear hb hlv)
                | (go_at_call 77; refine (HZ.out _ (by with_reducible assumption)).mono ?_; rintro e w9 ⟨rfl, v2, ms2, hms2, hr9, hm9, hmx⟩; have hk9 := hmx.keep (HR7.out.under hb8) HQ8.out (by decide) (by decide) (by decide); have hq9 : w9.cell? ⟨w7.heap.size + 1 + n, i, none⟩ = some (.string op) := by { have := (show strB w9 (w7.heap.size + 1 + n) (opsB n) from hk9).cell hi2; rw [HI3.out] at this; exact this }; have hq9' := fun o => cellA hq9 o; have ht9 := hmx.keep (HR7.out.under hb8) ((hb8.block _ (heap_lt HT7.out)).trans HT7.out) (by decide) (by decide) (by decide); obtain ⟨t0, t1, t2, t3, t4⟩ := cellsOf5 ht9; have t0' := fun o => cellA t0 o; have t1' := fun o => cellA t1 o; have t2' := fun o => cellA t2 o; have t3' := fun o => cellA t3 o; have t4' := fun o => cellA t4 o; clear hk9 ht9 hmx)
                | (go_at_call 49; refine (HNO.out _ _ _ hms2 hr9 hm9).mono ?_; rintro e w10 ⟨⟨rfl, v3, ms3, hms3, hr10, hm10⟩, hz10⟩; clear hz10; have hx10 := (show ∃ v' ms', ms'.map (·.1) = m3 ∧ RdrAt B b t tv ts l3 d v' ms' w10 ∧ Mw b t v ms w v' ms' w10 from ⟨v3, ms3, hms3, hr10, hm10⟩)))
              all_goals
                clear hr10 hm10
                generalize w9.heap.size = z9
                revert hx10
                revert w10
                revert z9
              · exact key.out
              all_goals exact key.out
            intro z9 w10 hx10
            have HX := Lib.hid hx10
            clear hx10 t0 t1 t2 t3 t4 hlx hmf hwr hbw HQ
            by_cases h2 : n = 2
            · have n2 : ((n : Int) == 2) = true := by simp [h2]
              have hqr := HQ2.out
              rw [if_pos h2] at hqr
              subst hqr
              clear h2
              unfold intV
              go_wp2_with fail
              go_ret
              exact ⟨rfl, HX.out⟩
            · have n2 : ((n : Int) == 2) = false := by simp; omega
              have hqr := HQ2.out
              rw [if_neg h2] at hqr
              obtain ⟨v3, ms3, rfl, hr10, hm10⟩ := HX.out
              have HY := Lib.hid (And.intro hr10 (And.intro hm10 hqr))
              clear hr10 hm10 hqr h2
              unfold intV
              go_wp2_with fail
              go_roundg gq
              case measure => omega
              case rel => exact ⟨c, l3, v3, ms3, rfl, HY.out.1, HY.out.2.1, HY.out.2.2, HFIT.out, hlen⟩
end Go.Proofs.YtmeacgmjpjjphaaGreatDoor
