/- Whether two values are one: the reference's. -/
import Derived.Test.YtofijodndilmbaaDoorVal2
set_option linter.unusedVariables false
set_option linter.unusedSimpArgs false
namespace Go.Proofs.YtofijodndilmbaaDoor
open Go.RowKit

set_option maxRecDepth 100000 in
set_option maxHeartbeats 8000000 in
theorem RSame_in : ∀ (N : Nat) (w : World) (a b : V) (s t : Value), SizeOf.sizeOf a ≤ N → At w a s → At w b t →
    Calls Tryd.prog 10 #[aggV a s, aggV b t] w fun e w' => e = .returned (.bool (sameF N a b)) ∧ Below w.heap.size w w' := by
  intro N
  induction N with
  | zero =>
    intro w a b s t h
    cases a
    simp only [V.mk.sizeOf_spec] at h
    omega
  | succ N ih =>
    intro w a b s t hN ha hb
    have hbw : Below w.heap.size w ((w.alloc (.cells #[.string a.op, .int .i64 a.num, s] 30)).alloc (.cells #[.string b.op, .int .i64 b.num, t] 30)) := ((Below.refl w.heap.size w).alloc (Nat.le_refl _) _).alloc (by simp) _
    have hsz : w.heap.size ≤ ((w.alloc (.cells #[.string a.op, .int .i64 a.num, s] 30)).alloc (.cells #[.string b.op, .int .i64 b.num, t] 30)).heap.size := by simp; omega
    have ha2 := ha.under hbw
    have hb2 := hb.under hbw
    have HBW := Lib.hid (And.intro hbw (And.intro hsz (And.intro ha2 hb2)))
    have hl1 : ((w.alloc (.cells #[.string a.op, .int .i64 a.num, s] 30)).alloc (.cells #[.string b.op, .int .i64 b.num, t] 30)).heap[w.heap.size]? = some (.cells #[.string a.op, .int .i64 a.num, s] 30) := (Below.heap_alloc _ _ _ (by simp)).trans (last w _)
    have hl2 : ((w.alloc (.cells #[.string a.op, .int .i64 a.num, s] 30)).alloc (.cells #[.string b.op, .int .i64 b.num, t] 30)).heap[w.heap.size + 1]? = some (.cells #[.string b.op, .int .i64 b.num, t] 30) := by
      have := last (w.alloc (.cells #[.string a.op, .int .i64 a.num, s] 30)) (.cells #[.string b.op, .int .i64 b.num, t] 30)
      simpa using this
    have HLL := Lib.hid (And.intro hl1 hl2)
    have IH := Lib.hid ih
    have HN := Lib.hid hN
    have HS := Lib.hid (fun (i : Nat) (hi : i < a.kids.length) => a.kid_lt hi)
    obtain ⟨A, ca, rfl, hmax, _⟩ := ha.inv
    obtain ⟨B, cb, rfl, _, _⟩ := hb.inv
    clear ih hN ha hb hbw hsz ha2 hb2 hl1 hl2
    unfold aggV sameF
    generalize hao : a.op = ao at *
    generalize hbo : b.op = bo at *
    generalize han : a.num = an at *
    generalize hbn : b.num = bn at *
    generalize hla : a.kids.length = la at *
    generalize hlb : b.kids.length = lb at *
    have HE := Lib.hid (And.intro hla hlb)
    clear hao hbo han hbn hla hlb
    go_enter Tryd.func10, Tryd.ntmps10
    cases ho : (ao.toList == bo.toList) with
    | false =>
      go_wp2_with fail
      go_ret
      exact ⟨by simp, HBW.out.1⟩
    | true =>
      by_cases hn : an = bn
      case neg =>
        have hn' : decide (an = bn) = false := decide_eq_false hn
        go_wp2_with fail
        go_ret
        exact ⟨by simp [hn], HBW.out.1⟩
      subst hn
      by_cases hl : la = lb
      case neg =>
        have hl' : ((la : Int) == (lb : Int)) = false := by rw [int_eq]; exact decide_eq_false hl
        have hl2 : ¬ (la : Int) = (lb : Int) := by omega
        go_wp2_with fail
        go_ret
        exact ⟨by simp [hl], HBW.out.1⟩
      subst hl
      go_wp2_with fail
      generalize (World.alloc (World.alloc w _) _) = W at *
      go_loopg [5] la (fun gk iv wr => ∃ i : Nat, iv = .int .i64 i ∧ i + gk = la ∧ Below W.heap.size W wr ∧ ∀ j, j < i → sameF N (a.kids.getD j default) (b.kids.getD j default) = true)
      case atStart => exact ⟨0, rfl, by omega, Below.refl _ _, fun j hj => by omega⟩
      case round =>
        obtain ⟨i, rfl, hi, hbe, hall⟩ := hrel
        have H2 := Lib.hid (And.intro hbe hall)
        have hf1 := (hbe.block _ (heap_lt HLL.out.1)).trans HLL.out.1
        have hf2 := (hbe.block _ (heap_lt HLL.out.2)).trans HLL.out.2
        obtain ⟨f0, f1, f2⟩ := cellsOf3 hf1
        obtain ⟨g0, g1, g2⟩ := cellsOf3 hf2
        clear hbe hall hf1 hf2
        by_cases e : i = la
        · subst e
          go_wp2_with fail
          go_ret
          refine ⟨?_, HBW.out.1.trans (H2.out.1.mono HBW.out.2.1)⟩
          have : ((List.range i).all fun i => sameF N (a.kids.getD i default) (b.kids.getD i default)) = true := List.all_eq_true.2 fun j hj => H2.out.2 j (List.mem_range.1 hj)
          exact congrArg (fun x => Ending.returned (Value.bool x)) this.symm
        · have hil : i < la := by omega
          obtain ⟨A', ca', eA, _, hka⟩ := (HBW.out.2.2.1.under H2.out.1).inv
          obtain ⟨B', cb', eB, _, hkb⟩ := (HBW.out.2.2.2.under H2.out.1).inv
          obtain ⟨b1, o1, s1, e1, ⟨p0, p1, p2⟩, hat1⟩ := hka i (by rw [HE.out.1]; exact hil)
          obtain ⟨b2, o2, s2, e2, ⟨q0, q1, q2⟩, hat2⟩ := hkb i (by rw [HE.out.2]; exact hil)
          have eA' : A = some ⟨b1, o1, none⟩ := by rw [← e1]; injection eA
          have eB' : B = some ⟨b2, o2, none⟩ := by rw [← e2]; injection eB
          subst eA' eB'
          obtain ⟨A1, k1, rfl, _, _⟩ := hat1.inv
          obtain ⟨A2, k2, rfl, _, _⟩ := hat2.inv
          have hsz := HS.out i hil
          have hN' := HN.out
          have hc := IH.out wr.drew _ _ _ _ (show SizeOf.sizeOf (a.kids.getD i default) ≤ N by omega) (hat1.under ((Below.refl _ wr).drew)) (hat2.under ((Below.refl _ wr).drew))
          clear hka hkb eA eB e1 e2 hat1 hat2 hsz hN'
          unfold aggV at hc
          generalize hxx : a.kids.getD i default = x at *
          generalize hyy : b.kids.getD i default = y at *
          have HXY := Lib.hid (And.intro hxx hyy)
          clear hxx hyy
          generalize hz : sameF N x y = z at *
          have HZ := Lib.hid hz
          clear hz
          generalize x.op = xo at *
          generalize x.num = xn at *
          generalize y.op = yo at *
          generalize y.num = yn at *
          go_wp2_with fail
          go_still_tail 10, (by kernel_rfl)
          change wpList _ _ _ _ _ wr.drew
          have HD := Lib.hid (show Below W.heap.size W wr.drew from H2.out.1.drew)
          clear f0 f1 f2 g0 g1 g2 p0 p1 p2 q0 q1 q2
          generalize wr.drew = wd at *
          go_wp2_with fail
          refine hc.mono ?_
          clear hc
          rintro e w3 ⟨rfl, hb3⟩
          have HB3 := Lib.hid (HD.out.trans (hb3.mono HD.out.size))
          clear hb3
          cases z with
          | true =>
            go_wp2_with fail
            go_roundg (gk - 1)
            case measure => omega
            case rel =>
              refine ⟨i + 1, rfl, by omega, HB3.out, fun j hj => ?_⟩
              by_cases ej : j = i
              · subst ej
                rw [HXY.out.1, HXY.out.2]
                exact HZ.out
              · exact H2.out.2 j (by omega)
          | false =>
            go_wp2_with fail
            go_ret
            refine ⟨?_, HBW.out.1.trans (HB3.out.mono HBW.out.2.1)⟩
            have : ((List.range la).all fun i => sameF N (a.kids.getD i default) (b.kids.getD i default)) = false := by
              rw [List.all_eq_false]
              exact ⟨i, List.mem_range.2 hil, by rw [HXY.out.1, HXY.out.2, HZ.out]; simp⟩
            exact congrArg (fun x => Ending.returned (Value.bool x)) this.symm
end Go.Proofs.YtofijodndilmbaaDoor
