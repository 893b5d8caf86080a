/- A value's text: the walk of the reference's Show. -/
import Derived.Test.YtofijodndilmbaaDoorVal6
set_option linter.unusedVariables false
set_option linter.unusedSimpArgs false
namespace Go.Proofs.YtofijodndilmbaaDoor
open Go.RowKit

set_option maxRecDepth 100000 in
set_option maxHeartbeats 16000000 in
theorem RShow_in : ∀ (N : Nat) (w : World) (v : V) (s : Value), SizeOf.sizeOf v ≤ N → v.cnt ≤ 1048576 → v.rng → At w v s →
    Calls Tryd.prog 17 #[aggV v s] w fun e w' => e = .returned (.string (showF N v)) ∧ Below w.heap.size w w' := by
  intro N
  induction N with
  | zero =>
    intro w v s h
    cases v
    simp only [V.mk.sizeOf_spec] at h
    omega
  | succ N ih =>
    intro w v s hN hC hR h
    have hr := fun w' (hb : Below w.heap.size w w') => RRight_in (N + 1) w' v s hN (h.under hb)
    obtain ⟨A, cap, rfl, _, hk⟩ := h.inv
    have hb0 := (Below.refl w.heap.size w).alloc (Nat.le_refl _) (.cells #[.string v.op, .int .i64 v.num, .slice A v.kids.length cap] 30)
    have hc := hr _ hb0
    have HB := Lib.hid hb0
    have HL := Lib.hid (last w (.cells #[.string v.op, .int .i64 v.num, .slice A v.kids.length cap] 30))
    have HK := Lib.hid hk
    have IH := Lib.hid ih
    have HS := Lib.hid (fun (i : Nat) (hi : i < v.kids.length) => v.kid_lt hi)
    have HN := Lib.hid hN
    have HC := Lib.hid hC
    have HR := Lib.hid hR
    have HW := Lib.hid (show w.heap.size ≤ (w.alloc (.cells #[.string v.op, .int .i64 v.num, .slice A v.kids.length cap] 30)).heap.size by simp)
    clear hk ih hN h hb0 hr hC hR
    unfold aggV at hc ⊢
    generalize hres : showF (N + 1) v = res
    have HRES := Lib.hid hres
    clear hres
    have hRR : ∃ z, rightF (N + 1) v = z := ⟨_, rfl⟩
    obtain ⟨z, hz⟩ := hRR
    have HZ := Lib.hid hz
    rw [hz] at hc
    clear hz
    generalize hop : v.op = op at *
    generalize hnum : v.num = num at *
    generalize hkl : v.kids.length = L at *
    have HO := Lib.hid (And.intro hop (And.intro hnum hkl))
    clear hop hnum hkl
    go_enter Tryd.func17, Tryd.ntmps17
    go_wp2_with fail
    refine hc.mono ?_
    clear hc
    rintro e w2 ⟨rfl, hb2⟩
    have hB2 := HB.out.trans (hb2.mono HW.out)
    have hl2 := (hb2.block _ (by simp)).trans HL.out
    obtain ⟨p0, p1, p2⟩ := cellsOf3 hl2
    have HB2 := Lib.hid hB2
    have HL2 := Lib.hid hl2
    clear hb2 hB2 hl2
    cases z with
    | false =>
      try simp only [Bool.false_eq_true, if_false]
      go_wp2_with fail
      go_ret
      exact ⟨by rw [← HRES.out, show_no HZ.out]; rfl, HB2.out⟩
    | true =>
      try simp only [if_true]
      cases h1 : (op.toList == lI) with
      | true =>
        try simp only [if_true]
        have hg := (rng_eq v).1 HR.out
        rw [HO.out.2.1] at hg
        have hf := Digits_in num w2 hg.1.1 hg.1.2
        clear hg
        go_wp2_with fail
        refine hf.mono ?_
        clear hf
        rintro e w3 ⟨rfl, rfl⟩
        have HB3 := HB2
        go_wp2_with fail
        go_ret
        exact ⟨by rw [← HRES.out, show_int HZ.out HO.out.1 HO.out.2.1 h1]; rfl, HB3.out⟩
      | false =>
        try simp only [if_false, Bool.false_eq_true]
        cases h2 : (op.toList == lU) with
        | true =>
          try simp only [if_true]
          go_wp2_with fail
          go_ret
          exact ⟨by rw [← HRES.out, show_unit HZ.out HO.out.1 h1 h2]; rfl, HB2.out⟩
        | false =>
          try simp only [if_false, Bool.false_eq_true]
          cases h3 : (op.toList == lP) with
          | false =>
            try simp only [if_false, Bool.false_eq_true]
            go_wp2_with fail
            go_ret
            exact ⟨by rw [← HRES.out, show_other HZ.out HO.out.1 h1 h2 h3]; rfl, HB2.out⟩
          | true =>
            try simp only [if_true]
            have HSP := Lib.hid (show_pair HZ.out HO.out.1 h1 h2 h3)
            have hL := right_pair HZ.out (by rw [HO.out.1]; exact h1) (by rw [HO.out.1]; exact h3)
            have e2 := cntL_two hL
            have e3 := cnt_eq v
            rw [HO.out.2.2] at hL
            subst hL
            have hs0 := HS.out 0 (by decide)
            have hs1 := HS.out 1 (by decide)
            obtain ⟨b, off, s0, hA, ⟨a1, a2, a3⟩, hat0⟩ := HK.out 0 (by decide)
            obtain ⟨b', off', s1, hA', ⟨c1, c2, c3⟩, hat1⟩ := HK.out 1 (by decide)
            subst hA
            obtain ⟨rfl, rfl⟩ : b' = b ∧ off' = off := by
              have := hA'.symm
              simpa using this
            have hN' := HN.out
            have hC' := HC.out
            have hbl : b' < w.heap.size := cell_lt a1
            have hRl := ((rng_eq v).1 HR.out).2
            have hr0 := rngL_get (i := 0) hRl (by rw [HO.out.2.2]; decide)
            have hr1 := rngL_get (i := 1) hRl (by rw [HO.out.2.2]; decide)
            have z0 := showF_size N _ hr0
            have z1 := showF_size N _ hr1
            simp only [Nat.zero_mul, Nat.add_zero, Nat.one_mul] at a1 a2 a3 c1 c2 c3
            have hsz2 : w.heap.size < w2.heap.size := heap_lt HL2.out
            have HC0 := Lib.hid (fun w' (hb : Below w2.heap.size w2 w') => (IH.out w' (v.kids.getD 0 default) s0 (by omega) (by omega) hr0 (hat0.under (HB2.out.trans (hb.mono HB2.out.size)))).mono (R' := fun e w'' => e = .returned (.string (showF N (v.kids.getD 0 default))) ∧ Below w2.heap.size w2 w'') (by rintro e w'' ⟨rfl, hb'⟩; exact ⟨rfl, hb.trans (hb'.mono hb.size)⟩))
            have HC1 := Lib.hid (fun w' (hb : Below w2.heap.size w2 w') => (IH.out w' (v.kids.getD 1 default) s1 (by omega) (by omega) hr1 (hat1.under (HB2.out.trans (hb.mono HB2.out.size)))).mono (R' := fun e w'' => e = .returned (.string (showF N (v.kids.getD 1 default))) ∧ Below w2.heap.size w2 w'') (by rintro e w'' ⟨rfl, hb'⟩; exact ⟨rfl, hb.trans (hb'.mono hb.size)⟩))
            have y0 : (showF N (v.kids.getD 0 default)).size ≤ 25165824 := by omega
            have y1 : (showF N (v.kids.getD 1 default)).size ≤ 25165824 := by omega
            have HAA := Lib.hid (And.intro a1 (And.intro a2 (And.intro a3 (And.intro c1 (And.intro c2 c3)))))
            have HE := Lib.hid (show ∀ w3, Below w2.heap.size w2 w3 → w3.cell? ⟨w.heap.size, 2, none⟩ = some (.slice (some ⟨b', off', none⟩) 2 cap) ∧ w3.cell? ⟨b', off', none⟩ = some (.string (v.kids.getD 0 default).op) ∧ w3.cell? ⟨b', off' + 1, none⟩ = some (.int .i64 (v.kids.getD 0 default).num) ∧ w3.cell? ⟨b', off' + 2, none⟩ = some s0 ∧ w3.cell? ⟨b', off' + 3, none⟩ = some (.string (v.kids.getD 1 default).op) ∧ w3.cell? ⟨b', off' + 3 + 1, none⟩ = some (.int .i64 (v.kids.getD 1 default).num) ∧ w3.cell? ⟨b', off' + 3 + 2, none⟩ = some s1 from fun w3 hb => by
              have hbl2 : b' < w2.heap.size := Nat.lt_trans hbl hsz2
              have hh := (hb.block b' hbl2).trans (HB2.out.block b' hbl)
              exact ⟨(World.cell?_of_block (hb.block _ hsz2)).trans p2, (World.cell?_of_block hh).trans a1, (World.cell?_of_block hh).trans a2, (World.cell?_of_block hh).trans a3, (World.cell?_of_block hh).trans c1, (World.cell?_of_block hh).trans c2, (World.cell?_of_block hh).trans c3⟩)
            clear hA' hs0 hs1 hN' hat0 hat1 z0 z1 hr0 hr1 hRl hC' e2 e3 a1 a2 a3 c1 c2 c3 hsz2 hbl
            unfold aggV at HC0 HC1
            generalize v.kids.getD 0 default = k0 at *
            generalize v.kids.getD 1 default = k1 at *
            generalize showF N k0 = S0 at *
            generalize showF N k1 = S1 at *
            have hq1 : ¬ 9223372036854775807 < 1 + S0.size := by omega
            have hq2 : ¬ 9223372036854775807 < 1 + S0.size + 2 := by omega
            have hq3 : ¬ 9223372036854775807 < 1 + S0.size + 2 + S1.size := by omega
            have hq4 : ¬ 9223372036854775807 < 1 + S0.size + 2 + S1.size + 1 := by omega
            clear y0 y1
            obtain ⟨e2, d1, d2, d3, d4, d5, d6⟩ := HE.out w2 (Below.refl _ _)
            have hbr := (Below.refl w2.heap.size w2).drew
            go_wp2_with fail
            go_region_held3 (fun w' => w'.cell? ⟨w.heap.size, 2, none⟩ = some (.slice (some ⟨b', off', none⟩) 2 cap) ∧ w'.cell? ⟨b', off', none⟩ = some (.string k0.op) ∧ w'.cell? ⟨b', off' + 1, none⟩ = some (.int .i64 k0.num) ∧ w'.cell? ⟨b', off' + 2, none⟩ = some s0 ∧ w'.cell? ⟨b', off' + 3, none⟩ = some (.string k1.op) ∧ w'.cell? ⟨b', off' + 3 + 1, none⟩ = some (.int .i64 k1.num) ∧ w'.cell? ⟨b', off' + 3 + 2, none⟩ = some s1) (first | exact ⟨by assumption, by assumption, by assumption, by assumption, by assumption, by assumption, by assumption⟩)
              (first
                | (go_at_call_of 17 (Value.agg #[.string k0.op, .int .i64 k0.num, s0]); refine (HC0.out _ (by assumption)).mono ?_; rintro e w' ⟨rfl, hbx⟩; obtain ⟨e2, d1, d2, d3, d4, d5, d6⟩ := HE.out w' hbx)
                | (go_at_call_of 17 (Value.agg #[.string k1.op, .int .i64 k1.num, s1]); refine (HC1.out _ (by assumption)).mono ?_; rintro e w' ⟨rfl, hbx⟩; obtain ⟨e2, d1, d2, d3, d4, d5, d6⟩ := HE.out w' hbx))
            all_goals
              have HB4 := Lib.hid (HB2.out.trans (hbx.mono HB2.out.size))
              clear hbx
              go_wp2_with fail
              go_ret
              exact ⟨by rw [← HRES.out, HSP.out]; rfl, HB4.out⟩
end Go.Proofs.YtofijodndilmbaaDoor
