/- Whether a value is right: the reference's. -/
import Derived.Test.YtofijodndilmbaaDoorVal0
set_option linter.unusedVariables false
set_option linter.unusedSimpArgs false
namespace Go.Proofs.YtofijodndilmbaaDoor
open Go.RowKit

set_option maxRecDepth 100000 in
set_option maxHeartbeats 8000000 in
theorem RRight_in : ∀ (N : Nat) (w : World) (v : V) (s : Value), SizeOf.sizeOf v ≤ N → At w v s →
    Calls Tryd.prog 16 #[aggV v s] w fun e w' => e = .returned (.bool (rightF N v)) ∧ Below w.heap.size w w' := by
  intro N
  induction N with
  | zero =>
    intro w v s h
    cases v
    simp only [V.mk.sizeOf_spec] at h
    omega
  | succ N ih =>
    intro w v s hN h
    obtain ⟨A, cap, rfl, _, hk⟩ := h.inv
    have hb0 := (Below.refl w.heap.size w).alloc (Nat.le_refl _) (.cells #[.string v.op, .int .i64 v.num, .slice A v.kids.length cap] 30)
    have HB := Lib.hid hb0
    have hl0 := last w (.cells #[.string v.op, .int .i64 v.num, .slice A v.kids.length cap] 30)
    have HL := Lib.hid hl0
    have HK := Lib.hid hk
    have IH := Lib.hid ih
    have HS := Lib.hid (fun (i : Nat) (hi : i < v.kids.length) => v.kid_lt hi)
    have HN := Lib.hid hN
    clear hk ih hN h hb0 hl0
    unfold aggV rightF
    generalize hop : v.op = op at *
    generalize hnum : v.num = num at *
    generalize hkl : v.kids.length = L at *
    have HO := Lib.hid (And.intro hop (And.intro hnum hkl))
    clear hop hnum hkl
    go_enter Tryd.func16, Tryd.ntmps16
    cases h1 : (op.toList == lI) with
    | true =>
      simp only [if_true]
      go_wp2_with fail
      go_ret
      exact ⟨by simp [int_eq0], HB.out⟩
    | false =>
      cases h2 : (op.toList == lT) with
      | true =>
        simp only [Bool.true_or, if_true, Bool.false_eq_true, if_false]
        by_cases hn : num = 0
        · subst hn
          go_wp2_with fail
          go_ret
          exact ⟨by simp [int_eq0], HB.out⟩
        · have hn' : decide (num = 0) = false := decide_eq_false hn
          go_wp2_with fail
          go_ret
          exact ⟨by simp [hn, int_eq0], HB.out⟩
      | false =>
        cases h3 : (op.toList == lF) with
        | true =>
          simp only [Bool.true_or, Bool.or_true, Bool.false_or, if_true, Bool.false_eq_true, if_false]
          by_cases hn : num = 0
          · subst hn
            go_wp2_with fail
            go_ret
            exact ⟨by simp [int_eq0], HB.out⟩
          · have hn' : decide (num = 0) = false := decide_eq_false hn
            go_wp2_with fail
            go_ret
            exact ⟨by simp [hn, int_eq0], HB.out⟩
        | false =>
          cases h4 : (op.toList == lU) with
          | true =>
            simp only [Bool.true_or, Bool.or_true, Bool.false_or, if_true, Bool.false_eq_true, if_false]
            by_cases hn : num = 0
            · subst hn
              go_wp2_with fail
              go_ret
              exact ⟨by simp [int_eq0], HB.out⟩
            · have hn' : decide (num = 0) = false := decide_eq_false hn
              go_wp2_with fail
              go_ret
              exact ⟨by simp [hn, int_eq0], HB.out⟩
          | false =>
            cases h5 : (op.toList == lP) with
            | true =>
              simp only [Bool.or_self, if_true, Bool.false_eq_true, if_false]
              by_cases hn : num = 0
              · subst hn
                by_cases hL : L = 2
                · subst hL
                  obtain ⟨b, off, s0, hA, ⟨a1, a2, a3⟩, hat0⟩ := HK.out 0 (by decide)
                  obtain ⟨b', off', s1, hA', ⟨c1, c2, c3⟩, hat1⟩ := HK.out 1 (by decide)
                  subst hA
                  obtain ⟨rfl, rfl⟩ : b' = b ∧ off' = off := by
                    have := hA'.symm
                    simpa using this
                  have hs0 := HS.out 0 (by decide)
                  have hs1 := HS.out 1 (by decide)
                  have hN' := HN.out
                  have hbl := cell_lt a1
                  simp only [Nat.zero_mul, Nat.add_zero, Nat.one_mul] at a1 a2 a3 c1 c2 c3
                  have hc0 := IH.out (w.alloc (.cells #[.string op, .int .i64 0, .slice (some ⟨b', off', none⟩) 2 cap] 30)) (v.kids.getD 0 default) s0 (by omega) (hat0.alloc _)
                  have HC1 := Lib.hid (fun w' (hb : Below w.heap.size w w') => IH.out w' (v.kids.getD 1 default) s1 (by omega) (hat1.same hb.block))
                  have HCC := Lib.hid (And.intro c1 (And.intro c2 c3))
                  clear hA' hs0 hs1 hN' hat0 hat1
                  unfold aggV at hc0
                  generalize v.kids.getD 0 default = k0 at *
                  generalize v.kids.getD 1 default = k1 at *
                  generalize hr0 : rightF N k0 = r0 at *
                  generalize hr1 : rightF N k1 = r1 at *
                  clear hr0 hr1
                  go_wp2_with fail
                  refine hc0.mono ?_
                  clear hc0
                  rintro e w3 ⟨rfl, hb3⟩
                  have hB3 := HB.out.trans (hb3.mono (by simp))
                  have hl3 := (hb3.block _ (by simp)).trans HL.out
                  obtain ⟨p0, p1, p2⟩ := cellsOf3 hl3
                  have hc1 := HC1.out w3 hB3
                  unfold aggV at hc1
                  have d1 := (World.cell?_of_block (hB3.block _ hbl)).trans c1
                  have d2 := (World.cell?_of_block (hB3.block _ hbl)).trans c2
                  have d3 := (World.cell?_of_block (hB3.block _ hbl)).trans c3
                  have HB3 := Lib.hid hB3
                  clear hb3 hB3 hl3 a1 a2 a3 c1 c2 c3
                  go_wp2_with fail
                  refine hc1.mono ?_
                  clear hc1
                  rintro e w4 ⟨rfl, hb4⟩
                  have HB4 := Lib.hid (HB3.out.trans (hb4.mono HB3.out.size))
                  clear hb4
                  cases r0 <;> go_wp2_with fail
                  all_goals go_ret
                  all_goals exact ⟨by simp, HB4.out⟩
                · have hL' : ((L : Int) == 2) = false := by
                    rw [show (2 : Int) = ((2 : Nat) : Int) from rfl, int_eq]
                    exact decide_eq_false hL
                  go_wp2_with fail
                  go_ret
                  exact ⟨by simp [hL], HB.out⟩
              · have hn' : decide (num = 0) = false := decide_eq_false hn
                go_wp2_with fail
                go_ret
                exact ⟨by simp [hn], HB.out⟩
            | false =>
              simp only [Bool.or_self, if_true, Bool.false_eq_true, if_false]
              go_wp2_with fail
              go_ret
              exact ⟨by simp, HB.out⟩
end Go.Proofs.YtofijodndilmbaaDoor
