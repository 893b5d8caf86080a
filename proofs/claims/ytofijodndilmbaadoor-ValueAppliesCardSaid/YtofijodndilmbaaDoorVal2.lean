/- Whether two values are one. -/
import Derived.Test.YtofijodndilmbaaDoorVal1
set_option linter.unusedVariables false
set_option linter.unusedSimpArgs false
namespace Go.Proofs.YtofijodndilmbaaDoor
open Go.RowKit

/-- Whether two values are one, N deep. -/
def sameF : Nat → V → V → Bool
  | 0, _, _ => false
  | N + 1, a, b => ((a.op.toList == b.op.toList) && decide (a.num = b.num)) && (decide (a.kids.length = b.kids.length) && (List.range a.kids.length).all fun i => sameF N (a.kids.getD i default) (b.kids.getD i default))

set_option maxRecDepth 100000 in
set_option maxHeartbeats 8000000 in
theorem EqualFunc_of {N : Nat} (ih : ∀ (w : World) (a b : V) (s t : Value), SizeOf.sizeOf a ≤ N → At w a s → At w b t → Calls Tryd.prog 8 #[aggV a s, aggV b t] w fun e w' => e = .returned (.bool (sameF N a b)) ∧ Below w.heap.size w w')
    {w : World} {a b : V} {s t : Value} (hN : SizeOf.sizeOf a ≤ N + 1) (ha : At w a s) (hb : At w b t) :
    Calls Tryd.prog 22 #[s, t, .func (.func 8) #[] #[]] w fun e w' =>
      e = .returned (.bool (decide (a.kids.length = b.kids.length) && (List.range a.kids.length).all fun i => sameF N (a.kids.getD i default) (b.kids.getD i default))) ∧ Below w.heap.size w w' := by
  obtain ⟨A, ca, rfl, hmax, _⟩ := ha.inv
  obtain ⟨B, cb, rfl, _, _⟩ := hb.inv
  have HA := Lib.hid ha
  have HB := Lib.hid hb
  have IH := Lib.hid ih
  have HN := Lib.hid hN
  have HS := Lib.hid (fun (i : Nat) (hi : i < a.kids.length) => a.kid_lt hi)
  clear ha hb ih hN
  by_cases hl : a.kids.length = b.kids.length
  · rw [decide_eq_true hl, Bool.true_and]
    generalize hL : a.kids.length = L at *
    have HL := Lib.hid (And.intro hL hl)
    rw [← hl]
    clear hL hl
    go_enter Tryd.func22, Tryd.ntmps22
    go_wp2_with fail
    go_loopg [17] L (fun gk iv wr => ∃ i : Nat, iv = .int .i64 i ∧ i + gk = L ∧ Below w.heap.size w wr ∧ ∀ j, j < i → sameF N (a.kids.getD j default) (b.kids.getD j default) = true)
    case atStart => exact ⟨0, rfl, by omega, Below.refl _ _, fun j hj => by omega⟩
    case round =>
      obtain ⟨i, rfl, hi, hbe, hall⟩ := hrel
      have H2 := Lib.hid (And.intro hbe hall)
      clear hbe hall
      by_cases e : i = L
      · subst e
        go_wp2_with fail
        go_ret
        refine ⟨congrArg (fun x => Ending.returned (Value.bool x)) ?_, H2.out.1⟩
        exact (List.all_eq_true.2 fun j hj => H2.out.2 j (List.mem_range.1 hj)).symm
      · have hil : i < L := by omega
        obtain ⟨A', ca', eA, _, hka⟩ := (HA.out.under H2.out.1).inv
        obtain ⟨B', cb', eB, _, hkb⟩ := (HB.out.under H2.out.1).inv
        obtain ⟨b1, o1, s1, e1, ⟨p0, p1, p2⟩, hat1⟩ := hka i (by rw [HL.out.1]; exact hil)
        obtain ⟨b2, o2, s2, e2, ⟨q0, q1, q2⟩, hat2⟩ := hkb i (by rw [← HL.out.2]; exact hil)
        have eA' : A = some ⟨b1, o1, none⟩ := by rw [← e1]; injection eA
        have eB' : B = some ⟨b2, o2, none⟩ := by rw [← e2]; injection eB
        subst eA' eB'
        obtain ⟨A1, k1, rfl, _, _⟩ := hat1.inv
        obtain ⟨A2, k2, rfl, _, _⟩ := hat2.inv
        have hsz := HS.out i hil
        have hbl1 := cell_lt p0
        have hbl2 := cell_lt q0
        have hN' := HN.out
        have HC := Lib.hid (fun w' (hb : Below wr.heap.size wr w') => IH.out w' _ _ _ _ (show SizeOf.sizeOf (a.kids.getD i default) ≤ N by omega) (hat1.under hb) (hat2.under hb))
        clear hka hkb eA eB e1 e2 hat1 hat2 hsz hN'
        unfold aggV at HC
        generalize hxx : a.kids.getD i default = x at *
        generalize hyy : b.kids.getD i default = y at *
        have HXY := Lib.hid (And.intro hxx hyy)
        clear hxx hyy
        have hx3 : ∃ z, sameF N x y = z := ⟨_, rfl⟩
        obtain ⟨z, hz⟩ := hx3
        have HZ := Lib.hid hz
        rw [hz] at HC
        clear hz
        generalize x.op = xo at *
        generalize x.num = xn at *
        generalize y.op = yo at *
        generalize y.num = yn at *
        have hbw : Below wr.heap.size wr ((wr.alloc (.cells #[.string xo, .int .i64 xn, .slice A1 x.kids.length k1] 24)).alloc (.cells #[.string yo, .int .i64 yn, .slice A2 y.kids.length k2] 24)) := ((Below.refl wr.heap.size wr).alloc (Nat.le_refl _) _).alloc (by simp) _
        have hc := HC.out _ hbw
        have HBW := Lib.hid (H2.out.1.trans (hbw.mono H2.out.1.size))
        have HW2 := Lib.hid (show w.heap.size ≤ ((wr.alloc (.cells #[.string xo, .int .i64 xn, .slice A1 x.kids.length k1] 24)).alloc (.cells #[.string yo, .int .i64 yn, .slice A2 y.kids.length k2] 24)).heap.size by have := H2.out.1.size; simp; omega)
        clear hbw
        go_wp2_with fail
        refine hc.mono ?_
        clear hc
        rintro e w3 ⟨rfl, hb3⟩
        have HB3 := Lib.hid (HBW.out.trans (hb3.mono HW2.out))
        clear hb3 p0 p1 p2 q0 q1 q2
        cases z with
        | true =>
          go_wp2_with fail
          go_roundg (gk - 1)
          case measure => omega
          case rel =>
            refine ⟨i + 1, rfl, by omega, HB3.out, fun j hj => ?_⟩
            by_cases ej : j = i
            · subst ej
              rw [HXY.out.1, HXY.out.2]
              exact HZ.out
            · exact H2.out.2 j (by omega)
        | false =>
          go_wp2_with fail
          go_ret
          refine ⟨congrArg (fun x => Ending.returned (Value.bool x)) ?_, HB3.out⟩
          symm
          rw [List.all_eq_false]
          exact ⟨i, List.mem_range.2 hil, by rw [HXY.out.1, HXY.out.2, HZ.out]; simp⟩
  · have hl' : decide ((a.kids.length : Int) = (b.kids.length : Int)) = false := decide_eq_false (by omega)
    rw [decide_eq_false hl, Bool.false_and]
    go_enter Tryd.func22, Tryd.ntmps22
    go_wp2_with fail
    go_ret
    exact ⟨rfl, Below.refl _ _⟩

set_option maxRecDepth 100000 in
set_option maxHeartbeats 8000000 in
theorem Same_in : ∀ (N : Nat) (w : World) (a b : V) (s t : Value), SizeOf.sizeOf a ≤ N → At w a s → At w b t →
    Calls Tryd.prog 8 #[aggV a s, aggV b t] w fun e w' => e = .returned (.bool (sameF N a b)) ∧ Below w.heap.size w w' := by
  intro N
  induction N with
  | zero =>
    intro w a b s t h
    cases a
    simp only [V.mk.sizeOf_spec] at h
    omega
  | succ N ih =>
    intro w a b s t hN ha hb
    have hbw : Below w.heap.size w ((w.alloc (.cells #[.string a.op, .int .i64 a.num, s] 24)).alloc (.cells #[.string b.op, .int .i64 b.num, t] 24)) := ((Below.refl w.heap.size w).alloc (Nat.le_refl _) _).alloc (by simp) _
    have hc := EqualFunc_of ih hN (ha.under hbw) (hb.under hbw)
    have HBW := Lib.hid hbw
    have hsz : w.heap.size ≤ ((w.alloc (.cells #[.string a.op, .int .i64 a.num, s] 24)).alloc (.cells #[.string b.op, .int .i64 b.num, t] 24)).heap.size := by simp; omega
    have HSZ := Lib.hid hsz
    obtain ⟨A, ca, rfl, _, _⟩ := ha.inv
    obtain ⟨B, cb, rfl, _, _⟩ := hb.inv
    clear ih hN ha hb hbw hsz
    unfold aggV sameF
    generalize (decide (a.kids.length = b.kids.length) && (List.range a.kids.length).all fun i => sameF N (a.kids.getD i default) (b.kids.getD i default)) = z at *
    generalize a.op = ao at *
    generalize b.op = bo at *
    generalize a.num = an at *
    generalize b.num = bn at *
    generalize a.kids.length = la at *
    generalize b.kids.length = lb at *
    go_enter Tryd.func8, Tryd.ntmps8
    cases ho : (ao.toList == bo.toList) with
    | true =>
      by_cases hn : an = bn
      · subst hn
        go_wp2_with fail
        refine hc.mono ?_
        clear hc
        rintro e w3 ⟨rfl, hb3⟩
        have HB3 := Lib.hid (HBW.out.trans (hb3.mono HSZ.out))
        clear hb3
        go_wp2_with fail
        go_ret
        exact ⟨by simp, HB3.out⟩
      · clear hc
        have hn' : decide (an = bn) = false := decide_eq_false hn
        go_wp2_with fail
        go_ret
        exact ⟨by simp [hn], HBW.out⟩
    | false =>
      clear hc
      go_wp2_with fail
      go_ret
      exact ⟨by simp, HBW.out⟩
end Go.Proofs.YtofijodndilmbaaDoor
