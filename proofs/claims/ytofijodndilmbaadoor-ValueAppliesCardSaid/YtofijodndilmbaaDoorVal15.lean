/- What an op makes of two values. -/
import Derived.Test.YtofijodndilmbaaDoorVal14
import Derived.Laws.Strings
set_option linter.unusedVariables false
set_option linter.unusedSimpArgs false
namespace Go.Proofs.YtofijodndilmbaaDoor
open Go.RowKit

abbrev lAnd : List UInt8 := [97, 110, 100]
abbrev lOr : List UInt8 := [111, 114]
/-- What an op makes of two. -/
def twoF (op : ByteArray) (a b : V) : V × Bool :=
  if op.toList == lP then (.mk bP 0 [a, b], true) else if a.op.toList == lI && b.op.toList == lI then numF op a.num b.num else
  if isTF a && isTF b then (if op.toList == lAnd then (vBool (isT a && isT b), true) else if op.toList == lOr then (vBool (isT a || isT b), true) else (vZero, false)) else (vZero, false)
theorem toList_inj {x y : ByteArray} (h : (x.toList == y.toList) = true) : x = y := by
  have h2 := eq_of_beq h
  rw [ByteArray.toList_eq, ByteArray.toList_eq] at h2
  exact ByteArray.ext (Array.toList_inj.mp h2)
theorem op_pair {x : ByteArray} (h : (x.toList == lP) = true) : x = bP := toList_inj (by rw [ByteArray.toList_eq bP]; exact h)
theorem At_num (P : Nat → Prop) (w : World) (op : ByteArray) (a b : Int) : AtP P w (numF op a b).1 nilS := by
  unfold numF
  repeat' split
  all_goals exact .leaf
/-- The world of a call that has boxed two values and made its result. -/
def W3 (w : World) (t : TypeId) (o : ByteArray) (m : Int) (A : Option Addr) (l cap : Nat) (o' : ByteArray) (m' : Int) (A' : Option Addr) (l' cap' : Nat) : World :=
  ((w.alloc (.cells #[.string o, .int .i64 m, .slice A l cap] t)).alloc (.cells #[.string o', .int .i64 m', .slice A' l' cap'] t)).alloc (.cells #[.string ⟨#[]⟩, .int .i64 0, nilS] t)
theorem W3_facts (w : World) (t : TypeId) (o : ByteArray) (m : Int) (A : Option Addr) (l cap : Nat) (o' : ByteArray) (m' : Int) (A' : Option Addr) (l' cap' : Nat) : Below w.heap.size w (W3 w t o m A l cap o' m' A' l' cap') ∧
    (W3 w t o m A l cap o' m' A' l' cap').heap[w.heap.size]? = some (.cells #[.string o, .int .i64 m, .slice A l cap] t) ∧ (W3 w t o m A l cap o' m' A' l' cap').heap[w.heap.size + 1]? = some (.cells #[.string o', .int .i64 m', .slice A' l' cap'] t) ∧
    (W3 w t o m A l cap o' m' A' l' cap').heap[w.heap.size + 1 + 1]? = some (.cells #[.string ⟨#[]⟩, .int .i64 0, nilS] t) ∧ w.heap.size + 1 + 1 < (W3 w t o m A l cap o' m' A' l' cap').heap.size := by
  refine ⟨(((Below.refl w.heap.size w).alloc (Nat.le_refl _) _).alloc (by simp) _).alloc (by simp; omega) _, ?_, ?_, ?_, by simp [W3]⟩
  · exact (Below.heap_alloc _ _ _ (by simp; omega)).trans ((Below.heap_alloc _ _ _ (by simp)).trans (last w _))
  · refine (Below.heap_alloc _ _ _ (by simp)).trans ?_
    have := last (w.alloc (.cells #[.string o, .int .i64 m, .slice A l cap] t)) (.cells #[.string o', .int .i64 m', .slice A' l' cap'] t)
    simpa using this
  · have := last ((w.alloc (.cells #[.string o, .int .i64 m, .slice A l cap] t)).alloc (.cells #[.string o', .int .i64 m', .slice A' l' cap'] t)) (.cells #[.string ⟨#[]⟩, .int .i64 0, nilS] t)
    simpa [W3] using this
theorem At_pair {P : Nat → Prop} {W : World} {q : Nat} {a b : V} {s t' : Value} {ty : TypeId} {o : ByteArray} {n : Int} (h6 : W.heap[q]? = some (.cells #[.string a.op, .int .i64 a.num, s, .string b.op, .int .i64 b.num, t'] ty)) (hq : P q) (ha : AtP P W a s) (hb : AtP P W b t') : AtP P W (.mk o n [a, b]) (.slice (some ⟨q, 0, none⟩) 2 2) := by
  refine AtP.node (ks := [a, b]) (fun i => if i = 0 then s else t') (by simp) hq (heap_lt h6) (fun i hi => ?_) (fun i hi => ?_)
  · rcases i with _ | i
    · refine ⟨?_, ?_, ?_⟩ <;> simp only [World.cell?, h6] <;> rfl
    · obtain rfl : i = 0 := by
        simp at hi
        omega
      refine ⟨?_, ?_, ?_⟩ <;> simp only [World.cell?, h6] <;> rfl
  · rcases i with _ | i
    · exact ha
    · obtain rfl : i = 0 := by
        simp at hi
        omega
      exact hb
theorem pair_facts (w : World) (o1 o2 o3 o4 : Obj) : Below w.heap.size w ((((w.alloc o1).alloc o2).alloc o3).alloc o4) ∧ ((((w.alloc o1).alloc o2).alloc o3).alloc o4).heap[w.heap.size + 1 + 1]? = some o3 ∧ ((((w.alloc o1).alloc o2).alloc o3).alloc o4).heap[w.heap.size + 1 + 1 + 1]? = some o4 := by
  refine ⟨((((Below.refl w.heap.size w).alloc (Nat.le_refl _) _).alloc (by simp) _).alloc (by simp; omega) _).alloc (by simp; omega) _, ?_, ?_⟩
  · refine (Below.heap_alloc _ _ _ (by simp)).trans ?_
    have := last ((w.alloc o1).alloc o2) o3
    simpa using this
  · have := last (((w.alloc o1).alloc o2).alloc o3) o4
    simpa using this
set_option maxRecDepth 100000 in
set_option maxHeartbeats 2000000 in
theorem Two_in {P : Nat → Prop} (op : ByteArray) (a b : V) (s t : Value) (w : World) (ha : AtP P w a s) (hb : AtP P w b t) :
    Calls Tryd.prog 25 #[.string op, aggV a s, aggV b t] w fun e w' => (∃ s', e = .returned (.tuple #[aggV (twoF op a b).1 s', .bool (twoF op a b).2]) ∧ AtP (fun k => P k ∨ w.heap.size ≤ k) w' (twoF op a b).1 s') ∧ Below w.heap.size w w' := by
  obtain ⟨A, ca, rfl, _, _⟩ := ha.inv
  obtain ⟨B, cb, rfl, _, _⟩ := hb.inv
  have HAT := Lib.hid (And.intro ha hb)
  clear ha hb
  have HW := Lib.hid (W3_facts w 24 a.op a.num A a.kids.length ca b.op b.num B b.kids.length cb)
  have HNU := Lib.hid (Numbers_in op a.num b.num (W3 w 24 a.op a.num A a.kids.length ca b.op b.num B b.kids.length cb))
  have HTA := Lib.hid (fun w' => Truth_in a (.slice A a.kids.length ca) w' ⟨_, _, _, rfl⟩)
  have HTB := Lib.hid (fun w' => Truth_in b (.slice B b.kids.length cb) w' ⟨_, _, _, rfl⟩)
  have hres : ∃ r, twoF op a b = r := ⟨_, rfl⟩
  obtain ⟨r, hr⟩ := hres
  rw [hr]
  have HR := Lib.hid hr
  clear hr
  unfold W3 at HW HNU
  unfold aggV at HTA HTB HNU ⊢
  have hpa : ∃ z, isTF a = z := ⟨_, rfl⟩
  obtain ⟨pa, hpa⟩ := hpa
  have hpb : ∃ z, isTF b = z := ⟨_, rfl⟩
  obtain ⟨pb, hpb⟩ := hpb
  rw [hpa] at HTA
  rw [hpb] at HTB
  have HP := Lib.hid (And.intro hpa hpb)
  clear hpa hpb
  unfold isT at HTA HTB
  have hao : ∃ z, a.op = z := ⟨_, rfl⟩
  obtain ⟨ao, hao⟩ := hao
  have hbo : ∃ z, b.op = z := ⟨_, rfl⟩
  obtain ⟨bo, hbo⟩ := hbo
  have han : ∃ z, a.num = z := ⟨_, rfl⟩
  obtain ⟨an, han⟩ := han
  have hbn : ∃ z, b.num = z := ⟨_, rfl⟩
  obtain ⟨bn, hbn⟩ := hbn
  have hal : ∃ z, a.kids.length = z := ⟨_, rfl⟩
  obtain ⟨la, hal⟩ := hal
  have hbl : ∃ z, b.kids.length = z := ⟨_, rfl⟩
  obtain ⟨lb, hbl⟩ := hbl
  rw [hao, han, hal] at HTA
  rw [hbo, hbn, hbl] at HTB
  rw [hao, han, hal, hbo, hbn, hbl] at HW HNU ⊢
  have HV := Lib.hid (And.intro hao (And.intro hbo (And.intro han hbn)))
  have HLE := Lib.hid (And.intro hal hbl)
  clear hao hbo han hbn hal hbl
  go_enter Tryd.func25, Tryd.ntmps25
  cases h1 : (op.toList == lP) with
  | true =>
    have hop : op = bP := op_pair h1
    have HOP := Lib.hid hop
    clear hop
    go_wp2_with fail
    have hpf := pair_facts w (.cells #[.string ao, .int .i64 an, .slice A la ca] 24) (.cells #[.string bo, .int .i64 bn, .slice B lb cb] 24) (.cells #[.string op, .int .i64 0, .slice (some ⟨w.heap.size + 1 + 1 + 1, 0, none⟩) 2 2] 24) (.cells #[.string ao, .int .i64 an, .slice A la ca, .string bo, .int .i64 bn, .slice B lb cb] 24)
    have hat := And.intro ((HAT.out.1.under hpf.1).weak fun k (h : P k) => (.inl h : P k ∨ w.heap.size ≤ k)) ((HAT.out.2.under hpf.1).weak fun k (h : P k) => (.inl h : P k ∨ w.heap.size ≤ k))
    rw [HLE.out.1, HLE.out.2] at hat
    obtain ⟨r0, r1, r2⟩ := cellsOf3 hpf.2.1
    have hone : twoF op a b = (.mk bP 0 [a, b], true) := by
      simp only [twoF, h1, if_true]
    exact bodyPost_ret (v := .tuple #[.agg #[.string op, .int .i64 0, .slice (some ⟨w.heap.size + 1 + 1 + 1, 0, none⟩) 2 2], .bool true]) (by simp [results, Tryd.results25, go_sem, r0, r1, r2]) rfl ⟨⟨_, by rw [← HR.out, hone, HOP.out]; rfl, by rw [← HR.out, hone]; exact At_pair (by rw [HV.out.1, HV.out.2.1, HV.out.2.2.1, HV.out.2.2.2]; exact hpf.2.2) (.inr (by omega)) hat.1 hat.2⟩, hpf.1⟩
  | false =>
    cases hai : (ao.toList == lI) with
    | true =>
      cases hbi : (bo.toList == lI) with
      | true =>
        have hc := HNU.out
        have hnf : ∃ z, numF op an bn = z := ⟨_, rfl⟩
        obtain ⟨nf, hnf⟩ := hnf
        rw [hnf] at hc
        have HNF := Lib.hid hnf
        clear hnf
        go_wp2_with fail
        refine hc.mono ?_
        clear hc
        rintro e w4 ⟨rfl, hb4⟩
        have hz4 := (hb4.block _ HW.out.2.2.2.2).trans HW.out.2.2.2.1
        have H4 := Lib.hid (And.intro (HW.out.1.trans (hb4.mono HW.out.1.size)) hz4)
        obtain ⟨x0, x1, x2⟩ := cellsOf3 hz4
        have xf := frozenOf hz4
        clear hb4 hz4
        obtain ⟨nv, nb⟩ := nf
        generalize hno : nv.op = no at *
        generalize hnn : nv.num = nn at *
        have HNO := Lib.hid (And.intro hno hnn)
        clear hno hnn
        go_wp2_with fail
        have HS := Lib.hid (set3 H4.out.2 (.string no) (.int .i64 nn) nilS)
        obtain ⟨r0, r1, r2⟩ := cellsOf3 HS.out
        have hone : twoF op a b = (nv, nb) := by
          simp only [twoF, isT, HV.out.1, HV.out.2.1, HV.out.2.2.1, HV.out.2.2.2, HP.out.1, HP.out.2, h1, hai, hbi, Bool.and_self, Bool.or_self, Bool.false_and, Bool.and_false, Bool.true_and, Bool.and_true, Bool.true_or, Bool.or_true, Bool.false_or, Bool.or_false, Bool.false_eq_true, if_false, if_true]
          exact HNF.out
        exact bodyPost_ret (v := .tuple #[.agg #[.string no, .int .i64 nn, nilS], .bool nb]) (by simp [results, Tryd.results25, go_sem, r0, r1, r2]) rfl ⟨⟨nilS, by rw [← HR.out, hone, ← HNO.out.1, ← HNO.out.2], by rw [← HR.out, hone]; have := At_num (fun k => P k ∨ w.heap.size ≤ k) (((w4.setCell ⟨w.heap.size + 1 + 1, 0, none⟩ (.string no)).setCell ⟨w.heap.size + 1 + 1, 1, none⟩ (.int .i64 nn)).setCell ⟨w.heap.size + 1 + 1, 2, none⟩ nilS) op an bn; rw [HNF.out] at this; exact this⟩, set_below H4.out.1 (by omega) _ _ _⟩
      | false =>
        have hc := HTA.out ((((w.alloc (.cells #[.string ao, .int .i64 an, .slice A la ca] 24)).alloc (.cells #[.string bo, .int .i64 bn, .slice B lb cb] 24)).alloc (.cells #[.string ⟨#[]⟩, .int .i64 0, nilS] 24)))
        go_wp2_with fail
        refine hc.mono ?_
        clear hc
        rintro e w4 ⟨rfl, hb4⟩
        have hz4 := (hb4.block _ HW.out.2.2.2.2).trans HW.out.2.2.2.1
        have ha4 := (hb4.block _ (heap_lt HW.out.2.1)).trans HW.out.2.1
        have hbb4 := (hb4.block _ (heap_lt HW.out.2.2.1)).trans HW.out.2.2.1
        have H4 := Lib.hid (And.intro (HW.out.1.trans (hb4.mono HW.out.1.size)) (And.intro hz4 (And.intro ha4 hbb4)))
        obtain ⟨y0, y1, y2⟩ := cellsOf3 hbb4
        have hc := HTB.out w4
        clear hb4 hz4 ha4 hbb4
        go_wp2_with fail
        refine hc.mono ?_
        clear hc
        rintro e w5 ⟨rfl, hb5⟩
        have hz5 := (hb5.block _ (heap_lt H4.out.2.1)).trans H4.out.2.1
        have ha5 := (hb5.block _ (heap_lt H4.out.2.2.1)).trans H4.out.2.2.1
        have hbb5 := (hb5.block _ (heap_lt H4.out.2.2.2)).trans H4.out.2.2.2
        have H5 := Lib.hid (And.intro (H4.out.1.trans (hb5.mono H4.out.1.size)) (And.intro hz5 (And.intro ha5 hbb5)))
        obtain ⟨u0, u1, u2⟩ := cellsOf3 ha5
        obtain ⟨v0, v1, v2⟩ := cellsOf3 hbb5
        clear hb5 hz5 ha5 hbb5 y0 y1 y2
        cases pa with
        | false =>
          have hz5 := H5.out.2.1
          obtain ⟨q0, q1, q2⟩ := cellsOf3 hz5
          have qf := frozenOf hz5
          clear hz5
          go_wp2_with fail
          have HS := Lib.hid (set3 H5.out.2.1 (.string ⟨#[]⟩) (.int .i64 0) nilS)
          obtain ⟨r0, r1, r2⟩ := cellsOf3 HS.out
          have hone : twoF op a b = (vZero, false) := by
            simp only [twoF, isT, HV.out.1, HV.out.2.1, HV.out.2.2.1, HV.out.2.2.2, HP.out.1, HP.out.2, h1, hai, hbi, Bool.and_self, Bool.or_self, Bool.false_and, Bool.and_false, Bool.true_and, Bool.and_true, Bool.true_or, Bool.or_true, Bool.false_or, Bool.or_false, Bool.false_eq_true, if_false, if_true]
          exact bodyPost_ret (v := .tuple #[.agg #[.string ⟨#[]⟩, .int .i64 0, nilS], .bool false]) (by simp [results, Tryd.results25, go_sem, r0, r1, r2]) rfl ⟨⟨nilS, by rw [← HR.out, hone]; rfl, by rw [← HR.out, hone]; exact .leaf⟩, set_below H5.out.1 (by omega) _ _ _⟩
        | true =>
          cases pb with
          | false =>
            have hz5 := H5.out.2.1
            obtain ⟨q0, q1, q2⟩ := cellsOf3 hz5
            have qf := frozenOf hz5
            clear hz5
            go_wp2_with fail
            have HS := Lib.hid (set3 H5.out.2.1 (.string ⟨#[]⟩) (.int .i64 0) nilS)
            obtain ⟨r0, r1, r2⟩ := cellsOf3 HS.out
            have hone : twoF op a b = (vZero, false) := by
              simp only [twoF, isT, HV.out.1, HV.out.2.1, HV.out.2.2.1, HV.out.2.2.2, HP.out.1, HP.out.2, h1, hai, hbi, Bool.and_self, Bool.or_self, Bool.false_and, Bool.and_false, Bool.true_and, Bool.and_true, Bool.true_or, Bool.or_true, Bool.false_or, Bool.or_false, Bool.false_eq_true, if_false, if_true]
            exact bodyPost_ret (v := .tuple #[.agg #[.string ⟨#[]⟩, .int .i64 0, nilS], .bool false]) (by simp [results, Tryd.results25, go_sem, r0, r1, r2]) rfl ⟨⟨nilS, by rw [← HR.out, hone]; rfl, by rw [← HR.out, hone]; exact .leaf⟩, set_below H5.out.1 (by omega) _ _ _⟩
          | true =>
            cases h2 : (op.toList == lAnd) with
            | true =>
              cases hx : (ao.toList == lT) with
              | false =>
                have hc : Calls Tryd.prog _ _ _ fun e w' => e = .returned (.agg #[.string bF, .int .i64 0, nilS]) ∧ Below _ _ w' := Bool_in w5 false
                go_wp2_with fail
                refine hc.mono ?_
                clear hc
                rintro e w6 ⟨rfl, hb6⟩
                have hz6 := (hb6.block _ (heap_lt H5.out.2.1)).trans H5.out.2.1
                have H6 := Lib.hid (And.intro (H5.out.1.trans (hb6.mono H5.out.1.size)) hz6)
                obtain ⟨x0, x1, x2⟩ := cellsOf3 hz6
                have xf := frozenOf hz6
                clear hb6 hz6
                go_wp2_with fail
                have HS := Lib.hid (set3 H6.out.2 (.string bF) (.int .i64 0) nilS)
                obtain ⟨r0, r1, r2⟩ := cellsOf3 HS.out
                have hone : twoF op a b = (vBool false, true) := by
                  simp only [twoF, isT, HV.out.1, HV.out.2.1, HV.out.2.2.1, HV.out.2.2.2, HP.out.1, HP.out.2, h1, hai, hbi, h2, hx, Bool.and_self, Bool.or_self, Bool.false_and, Bool.and_false, Bool.true_and, Bool.and_true, Bool.true_or, Bool.or_true, Bool.false_or, Bool.or_false, Bool.false_eq_true, if_false, if_true]
                exact bodyPost_ret (v := .tuple #[.agg #[.string bF, .int .i64 0, nilS], .bool true]) (by simp [results, Tryd.results25, go_sem, r0, r1, r2]) rfl ⟨⟨nilS, by rw [← HR.out, hone]; rfl, by rw [← HR.out, hone]; exact .leaf⟩, set_below H6.out.1 (by omega) _ _ _⟩
              | true =>
                cases hy : (bo.toList == lT) with
                | false =>
                  have hc : Calls Tryd.prog _ _ _ fun e w' => e = .returned (.agg #[.string bF, .int .i64 0, nilS]) ∧ Below _ _ w' := Bool_in w5 false
                  go_wp2_with fail
                  refine hc.mono ?_
                  clear hc
                  rintro e w6 ⟨rfl, hb6⟩
                  have hz6 := (hb6.block _ (heap_lt H5.out.2.1)).trans H5.out.2.1
                  have H6 := Lib.hid (And.intro (H5.out.1.trans (hb6.mono H5.out.1.size)) hz6)
                  obtain ⟨x0, x1, x2⟩ := cellsOf3 hz6
                  have xf := frozenOf hz6
                  clear hb6 hz6
                  go_wp2_with fail
                  have HS := Lib.hid (set3 H6.out.2 (.string bF) (.int .i64 0) nilS)
                  obtain ⟨r0, r1, r2⟩ := cellsOf3 HS.out
                  have hone : twoF op a b = (vBool false, true) := by
                    simp only [twoF, isT, HV.out.1, HV.out.2.1, HV.out.2.2.1, HV.out.2.2.2, HP.out.1, HP.out.2, h1, hai, hbi, h2, hx, hy, Bool.and_self, Bool.or_self, Bool.false_and, Bool.and_false, Bool.true_and, Bool.and_true, Bool.true_or, Bool.or_true, Bool.false_or, Bool.or_false, Bool.false_eq_true, if_false, if_true]
                  exact bodyPost_ret (v := .tuple #[.agg #[.string bF, .int .i64 0, nilS], .bool true]) (by simp [results, Tryd.results25, go_sem, r0, r1, r2]) rfl ⟨⟨nilS, by rw [← HR.out, hone]; rfl, by rw [← HR.out, hone]; exact .leaf⟩, set_below H6.out.1 (by omega) _ _ _⟩
                | true =>
                  have hc : Calls Tryd.prog _ _ _ fun e w' => e = .returned (.agg #[.string bT, .int .i64 0, nilS]) ∧ Below _ _ w' := Bool_in w5 true
                  go_wp2_with fail
                  refine hc.mono ?_
                  clear hc
                  rintro e w6 ⟨rfl, hb6⟩
                  have hz6 := (hb6.block _ (heap_lt H5.out.2.1)).trans H5.out.2.1
                  have H6 := Lib.hid (And.intro (H5.out.1.trans (hb6.mono H5.out.1.size)) hz6)
                  obtain ⟨x0, x1, x2⟩ := cellsOf3 hz6
                  have xf := frozenOf hz6
                  clear hb6 hz6
                  go_wp2_with fail
                  have HS := Lib.hid (set3 H6.out.2 (.string bT) (.int .i64 0) nilS)
                  obtain ⟨r0, r1, r2⟩ := cellsOf3 HS.out
                  have hone : twoF op a b = (vBool true, true) := by
                    simp only [twoF, isT, HV.out.1, HV.out.2.1, HV.out.2.2.1, HV.out.2.2.2, HP.out.1, HP.out.2, h1, hai, hbi, h2, hx, hy, Bool.and_self, Bool.or_self, Bool.false_and, Bool.and_false, Bool.true_and, Bool.and_true, Bool.true_or, Bool.or_true, Bool.false_or, Bool.or_false, Bool.false_eq_true, if_false, if_true]
                  exact bodyPost_ret (v := .tuple #[.agg #[.string bT, .int .i64 0, nilS], .bool true]) (by simp [results, Tryd.results25, go_sem, r0, r1, r2]) rfl ⟨⟨nilS, by rw [← HR.out, hone]; rfl, by rw [← HR.out, hone]; exact .leaf⟩, set_below H6.out.1 (by omega) _ _ _⟩
            | false =>
              cases h3 : (op.toList == lOr) with
              | true =>
                cases hx : (ao.toList == lT) with
                | true =>
                  have hc : Calls Tryd.prog _ _ _ fun e w' => e = .returned (.agg #[.string bT, .int .i64 0, nilS]) ∧ Below _ _ w' := Bool_in w5 true
                  go_wp2_with fail
                  refine hc.mono ?_
                  clear hc
                  rintro e w6 ⟨rfl, hb6⟩
                  have hz6 := (hb6.block _ (heap_lt H5.out.2.1)).trans H5.out.2.1
                  have H6 := Lib.hid (And.intro (H5.out.1.trans (hb6.mono H5.out.1.size)) hz6)
                  obtain ⟨x0, x1, x2⟩ := cellsOf3 hz6
                  have xf := frozenOf hz6
                  clear hb6 hz6
                  go_wp2_with fail
                  have HS := Lib.hid (set3 H6.out.2 (.string bT) (.int .i64 0) nilS)
                  obtain ⟨r0, r1, r2⟩ := cellsOf3 HS.out
                  have hone : twoF op a b = (vBool true, true) := by
                    simp only [twoF, isT, HV.out.1, HV.out.2.1, HV.out.2.2.1, HV.out.2.2.2, HP.out.1, HP.out.2, h1, hai, hbi, h2, h3, hx, Bool.and_self, Bool.or_self, Bool.false_and, Bool.and_false, Bool.true_and, Bool.and_true, Bool.true_or, Bool.or_true, Bool.false_or, Bool.or_false, Bool.false_eq_true, if_false, if_true]
                  exact bodyPost_ret (v := .tuple #[.agg #[.string bT, .int .i64 0, nilS], .bool true]) (by simp [results, Tryd.results25, go_sem, r0, r1, r2]) rfl ⟨⟨nilS, by rw [← HR.out, hone]; rfl, by rw [← HR.out, hone]; exact .leaf⟩, set_below H6.out.1 (by omega) _ _ _⟩
                | false =>
                  cases hy : (bo.toList == lT) with
                  | false =>
                    have hc : Calls Tryd.prog _ _ _ fun e w' => e = .returned (.agg #[.string bF, .int .i64 0, nilS]) ∧ Below _ _ w' := Bool_in w5 false
                    go_wp2_with fail
                    refine hc.mono ?_
                    clear hc
                    rintro e w6 ⟨rfl, hb6⟩
                    have hz6 := (hb6.block _ (heap_lt H5.out.2.1)).trans H5.out.2.1
                    have H6 := Lib.hid (And.intro (H5.out.1.trans (hb6.mono H5.out.1.size)) hz6)
                    obtain ⟨x0, x1, x2⟩ := cellsOf3 hz6
                    have xf := frozenOf hz6
                    clear hb6 hz6
                    go_wp2_with fail
                    have HS := Lib.hid (set3 H6.out.2 (.string bF) (.int .i64 0) nilS)
                    obtain ⟨r0, r1, r2⟩ := cellsOf3 HS.out
                    have hone : twoF op a b = (vBool false, true) := by
                      simp only [twoF, isT, HV.out.1, HV.out.2.1, HV.out.2.2.1, HV.out.2.2.2, HP.out.1, HP.out.2, h1, hai, hbi, h2, h3, hx, hy, Bool.and_self, Bool.or_self, Bool.false_and, Bool.and_false, Bool.true_and, Bool.and_true, Bool.true_or, Bool.or_true, Bool.false_or, Bool.or_false, Bool.false_eq_true, if_false, if_true]
                    exact bodyPost_ret (v := .tuple #[.agg #[.string bF, .int .i64 0, nilS], .bool true]) (by simp [results, Tryd.results25, go_sem, r0, r1, r2]) rfl ⟨⟨nilS, by rw [← HR.out, hone]; rfl, by rw [← HR.out, hone]; exact .leaf⟩, set_below H6.out.1 (by omega) _ _ _⟩
                  | true =>
                    have hc : Calls Tryd.prog _ _ _ fun e w' => e = .returned (.agg #[.string bT, .int .i64 0, nilS]) ∧ Below _ _ w' := Bool_in w5 true
                    go_wp2_with fail
                    refine hc.mono ?_
                    clear hc
                    rintro e w6 ⟨rfl, hb6⟩
                    have hz6 := (hb6.block _ (heap_lt H5.out.2.1)).trans H5.out.2.1
                    have H6 := Lib.hid (And.intro (H5.out.1.trans (hb6.mono H5.out.1.size)) hz6)
                    obtain ⟨x0, x1, x2⟩ := cellsOf3 hz6
                    have xf := frozenOf hz6
                    clear hb6 hz6
                    go_wp2_with fail
                    have HS := Lib.hid (set3 H6.out.2 (.string bT) (.int .i64 0) nilS)
                    obtain ⟨r0, r1, r2⟩ := cellsOf3 HS.out
                    have hone : twoF op a b = (vBool true, true) := by
                      simp only [twoF, isT, HV.out.1, HV.out.2.1, HV.out.2.2.1, HV.out.2.2.2, HP.out.1, HP.out.2, h1, hai, hbi, h2, h3, hx, hy, Bool.and_self, Bool.or_self, Bool.false_and, Bool.and_false, Bool.true_and, Bool.and_true, Bool.true_or, Bool.or_true, Bool.false_or, Bool.or_false, Bool.false_eq_true, if_false, if_true]
                    exact bodyPost_ret (v := .tuple #[.agg #[.string bT, .int .i64 0, nilS], .bool true]) (by simp [results, Tryd.results25, go_sem, r0, r1, r2]) rfl ⟨⟨nilS, by rw [← HR.out, hone]; rfl, by rw [← HR.out, hone]; exact .leaf⟩, set_below H6.out.1 (by omega) _ _ _⟩
              | false =>
                have hz5 := H5.out.2.1
                obtain ⟨q0, q1, q2⟩ := cellsOf3 hz5
                have qf := frozenOf hz5
                clear hz5
                go_wp2_with fail
                have HS := Lib.hid (set3 H5.out.2.1 (.string ⟨#[]⟩) (.int .i64 0) nilS)
                obtain ⟨r0, r1, r2⟩ := cellsOf3 HS.out
                have hone : twoF op a b = (vZero, false) := by
                  simp only [twoF, isT, HV.out.1, HV.out.2.1, HV.out.2.2.1, HV.out.2.2.2, HP.out.1, HP.out.2, h1, hai, hbi, h2, h3, Bool.and_self, Bool.or_self, Bool.false_and, Bool.and_false, Bool.true_and, Bool.and_true, Bool.true_or, Bool.or_true, Bool.false_or, Bool.or_false, Bool.false_eq_true, if_false, if_true]
                exact bodyPost_ret (v := .tuple #[.agg #[.string ⟨#[]⟩, .int .i64 0, nilS], .bool false]) (by simp [results, Tryd.results25, go_sem, r0, r1, r2]) rfl ⟨⟨nilS, by rw [← HR.out, hone]; rfl, by rw [← HR.out, hone]; exact .leaf⟩, set_below H5.out.1 (by omega) _ _ _⟩
    | false =>
      have hc := HTA.out ((((w.alloc (.cells #[.string ao, .int .i64 an, .slice A la ca] 24)).alloc (.cells #[.string bo, .int .i64 bn, .slice B lb cb] 24)).alloc (.cells #[.string ⟨#[]⟩, .int .i64 0, nilS] 24)))
      go_wp2_with fail
      refine hc.mono ?_
      clear hc
      rintro e w4 ⟨rfl, hb4⟩
      have hz4 := (hb4.block _ HW.out.2.2.2.2).trans HW.out.2.2.2.1
      have ha4 := (hb4.block _ (heap_lt HW.out.2.1)).trans HW.out.2.1
      have hbb4 := (hb4.block _ (heap_lt HW.out.2.2.1)).trans HW.out.2.2.1
      have H4 := Lib.hid (And.intro (HW.out.1.trans (hb4.mono HW.out.1.size)) (And.intro hz4 (And.intro ha4 hbb4)))
      obtain ⟨y0, y1, y2⟩ := cellsOf3 hbb4
      have hc := HTB.out w4
      clear hb4 hz4 ha4 hbb4
      go_wp2_with fail
      refine hc.mono ?_
      clear hc
      rintro e w5 ⟨rfl, hb5⟩
      have hz5 := (hb5.block _ (heap_lt H4.out.2.1)).trans H4.out.2.1
      have ha5 := (hb5.block _ (heap_lt H4.out.2.2.1)).trans H4.out.2.2.1
      have hbb5 := (hb5.block _ (heap_lt H4.out.2.2.2)).trans H4.out.2.2.2
      have H5 := Lib.hid (And.intro (H4.out.1.trans (hb5.mono H4.out.1.size)) (And.intro hz5 (And.intro ha5 hbb5)))
      obtain ⟨u0, u1, u2⟩ := cellsOf3 ha5
      obtain ⟨v0, v1, v2⟩ := cellsOf3 hbb5
      clear hb5 hz5 ha5 hbb5 y0 y1 y2
      cases pa with
      | false =>
        have hz5 := H5.out.2.1
        obtain ⟨q0, q1, q2⟩ := cellsOf3 hz5
        have qf := frozenOf hz5
        clear hz5
        go_wp2_with fail
        have HS := Lib.hid (set3 H5.out.2.1 (.string ⟨#[]⟩) (.int .i64 0) nilS)
        obtain ⟨r0, r1, r2⟩ := cellsOf3 HS.out
        have hone : twoF op a b = (vZero, false) := by
          simp only [twoF, isT, HV.out.1, HV.out.2.1, HV.out.2.2.1, HV.out.2.2.2, HP.out.1, HP.out.2, h1, hai, Bool.and_self, Bool.or_self, Bool.false_and, Bool.and_false, Bool.true_and, Bool.and_true, Bool.true_or, Bool.or_true, Bool.false_or, Bool.or_false, Bool.false_eq_true, if_false, if_true]
        exact bodyPost_ret (v := .tuple #[.agg #[.string ⟨#[]⟩, .int .i64 0, nilS], .bool false]) (by simp [results, Tryd.results25, go_sem, r0, r1, r2]) rfl ⟨⟨nilS, by rw [← HR.out, hone]; rfl, by rw [← HR.out, hone]; exact .leaf⟩, set_below H5.out.1 (by omega) _ _ _⟩
      | true =>
        cases pb with
        | false =>
          have hz5 := H5.out.2.1
          obtain ⟨q0, q1, q2⟩ := cellsOf3 hz5
          have qf := frozenOf hz5
          clear hz5
          go_wp2_with fail
          have HS := Lib.hid (set3 H5.out.2.1 (.string ⟨#[]⟩) (.int .i64 0) nilS)
          obtain ⟨r0, r1, r2⟩ := cellsOf3 HS.out
          have hone : twoF op a b = (vZero, false) := by
            simp only [twoF, isT, HV.out.1, HV.out.2.1, HV.out.2.2.1, HV.out.2.2.2, HP.out.1, HP.out.2, h1, hai, Bool.and_self, Bool.or_self, Bool.false_and, Bool.and_false, Bool.true_and, Bool.and_true, Bool.true_or, Bool.or_true, Bool.false_or, Bool.or_false, Bool.false_eq_true, if_false, if_true]
          exact bodyPost_ret (v := .tuple #[.agg #[.string ⟨#[]⟩, .int .i64 0, nilS], .bool false]) (by simp [results, Tryd.results25, go_sem, r0, r1, r2]) rfl ⟨⟨nilS, by rw [← HR.out, hone]; rfl, by rw [← HR.out, hone]; exact .leaf⟩, set_below H5.out.1 (by omega) _ _ _⟩
        | true =>
          cases h2 : (op.toList == lAnd) with
          | true =>
            cases hx : (ao.toList == lT) with
            | false =>
              have hc : Calls Tryd.prog _ _ _ fun e w' => e = .returned (.agg #[.string bF, .int .i64 0, nilS]) ∧ Below _ _ w' := Bool_in w5 false
              go_wp2_with fail
              refine hc.mono ?_
              clear hc
              rintro e w6 ⟨rfl, hb6⟩
              have hz6 := (hb6.block _ (heap_lt H5.out.2.1)).trans H5.out.2.1
              have H6 := Lib.hid (And.intro (H5.out.1.trans (hb6.mono H5.out.1.size)) hz6)
              obtain ⟨x0, x1, x2⟩ := cellsOf3 hz6
              have xf := frozenOf hz6
              clear hb6 hz6
              go_wp2_with fail
              have HS := Lib.hid (set3 H6.out.2 (.string bF) (.int .i64 0) nilS)
              obtain ⟨r0, r1, r2⟩ := cellsOf3 HS.out
              have hone : twoF op a b = (vBool false, true) := by
                simp only [twoF, isT, HV.out.1, HV.out.2.1, HV.out.2.2.1, HV.out.2.2.2, HP.out.1, HP.out.2, h1, hai, h2, hx, Bool.and_self, Bool.or_self, Bool.false_and, Bool.and_false, Bool.true_and, Bool.and_true, Bool.true_or, Bool.or_true, Bool.false_or, Bool.or_false, Bool.false_eq_true, if_false, if_true]
              exact bodyPost_ret (v := .tuple #[.agg #[.string bF, .int .i64 0, nilS], .bool true]) (by simp [results, Tryd.results25, go_sem, r0, r1, r2]) rfl ⟨⟨nilS, by rw [← HR.out, hone]; rfl, by rw [← HR.out, hone]; exact .leaf⟩, set_below H6.out.1 (by omega) _ _ _⟩
            | true =>
              cases hy : (bo.toList == lT) with
              | false =>
                have hc : Calls Tryd.prog _ _ _ fun e w' => e = .returned (.agg #[.string bF, .int .i64 0, nilS]) ∧ Below _ _ w' := Bool_in w5 false
                go_wp2_with fail
                refine hc.mono ?_
                clear hc
                rintro e w6 ⟨rfl, hb6⟩
                have hz6 := (hb6.block _ (heap_lt H5.out.2.1)).trans H5.out.2.1
                have H6 := Lib.hid (And.intro (H5.out.1.trans (hb6.mono H5.out.1.size)) hz6)
                obtain ⟨x0, x1, x2⟩ := cellsOf3 hz6
                have xf := frozenOf hz6
                clear hb6 hz6
                go_wp2_with fail
                have HS := Lib.hid (set3 H6.out.2 (.string bF) (.int .i64 0) nilS)
                obtain ⟨r0, r1, r2⟩ := cellsOf3 HS.out
                have hone : twoF op a b = (vBool false, true) := by
                  simp only [twoF, isT, HV.out.1, HV.out.2.1, HV.out.2.2.1, HV.out.2.2.2, HP.out.1, HP.out.2, h1, hai, h2, hx, hy, Bool.and_self, Bool.or_self, Bool.false_and, Bool.and_false, Bool.true_and, Bool.and_true, Bool.true_or, Bool.or_true, Bool.false_or, Bool.or_false, Bool.false_eq_true, if_false, if_true]
                exact bodyPost_ret (v := .tuple #[.agg #[.string bF, .int .i64 0, nilS], .bool true]) (by simp [results, Tryd.results25, go_sem, r0, r1, r2]) rfl ⟨⟨nilS, by rw [← HR.out, hone]; rfl, by rw [← HR.out, hone]; exact .leaf⟩, set_below H6.out.1 (by omega) _ _ _⟩
              | true =>
                have hc : Calls Tryd.prog _ _ _ fun e w' => e = .returned (.agg #[.string bT, .int .i64 0, nilS]) ∧ Below _ _ w' := Bool_in w5 true
                go_wp2_with fail
                refine hc.mono ?_
                clear hc
                rintro e w6 ⟨rfl, hb6⟩
                have hz6 := (hb6.block _ (heap_lt H5.out.2.1)).trans H5.out.2.1
                have H6 := Lib.hid (And.intro (H5.out.1.trans (hb6.mono H5.out.1.size)) hz6)
                obtain ⟨x0, x1, x2⟩ := cellsOf3 hz6
                have xf := frozenOf hz6
                clear hb6 hz6
                go_wp2_with fail
                have HS := Lib.hid (set3 H6.out.2 (.string bT) (.int .i64 0) nilS)
                obtain ⟨r0, r1, r2⟩ := cellsOf3 HS.out
                have hone : twoF op a b = (vBool true, true) := by
                  simp only [twoF, isT, HV.out.1, HV.out.2.1, HV.out.2.2.1, HV.out.2.2.2, HP.out.1, HP.out.2, h1, hai, h2, hx, hy, Bool.and_self, Bool.or_self, Bool.false_and, Bool.and_false, Bool.true_and, Bool.and_true, Bool.true_or, Bool.or_true, Bool.false_or, Bool.or_false, Bool.false_eq_true, if_false, if_true]
                exact bodyPost_ret (v := .tuple #[.agg #[.string bT, .int .i64 0, nilS], .bool true]) (by simp [results, Tryd.results25, go_sem, r0, r1, r2]) rfl ⟨⟨nilS, by rw [← HR.out, hone]; rfl, by rw [← HR.out, hone]; exact .leaf⟩, set_below H6.out.1 (by omega) _ _ _⟩
          | false =>
            cases h3 : (op.toList == lOr) with
            | true =>
              cases hx : (ao.toList == lT) with
              | true =>
                have hc : Calls Tryd.prog _ _ _ fun e w' => e = .returned (.agg #[.string bT, .int .i64 0, nilS]) ∧ Below _ _ w' := Bool_in w5 true
                go_wp2_with fail
                refine hc.mono ?_
                clear hc
                rintro e w6 ⟨rfl, hb6⟩
                have hz6 := (hb6.block _ (heap_lt H5.out.2.1)).trans H5.out.2.1
                have H6 := Lib.hid (And.intro (H5.out.1.trans (hb6.mono H5.out.1.size)) hz6)
                obtain ⟨x0, x1, x2⟩ := cellsOf3 hz6
                have xf := frozenOf hz6
                clear hb6 hz6
                go_wp2_with fail
                have HS := Lib.hid (set3 H6.out.2 (.string bT) (.int .i64 0) nilS)
                obtain ⟨r0, r1, r2⟩ := cellsOf3 HS.out
                have hone : twoF op a b = (vBool true, true) := by
                  simp only [twoF, isT, HV.out.1, HV.out.2.1, HV.out.2.2.1, HV.out.2.2.2, HP.out.1, HP.out.2, h1, hai, h2, h3, hx, Bool.and_self, Bool.or_self, Bool.false_and, Bool.and_false, Bool.true_and, Bool.and_true, Bool.true_or, Bool.or_true, Bool.false_or, Bool.or_false, Bool.false_eq_true, if_false, if_true]
                exact bodyPost_ret (v := .tuple #[.agg #[.string bT, .int .i64 0, nilS], .bool true]) (by simp [results, Tryd.results25, go_sem, r0, r1, r2]) rfl ⟨⟨nilS, by rw [← HR.out, hone]; rfl, by rw [← HR.out, hone]; exact .leaf⟩, set_below H6.out.1 (by omega) _ _ _⟩
              | false =>
                cases hy : (bo.toList == lT) with
                | false =>
                  have hc : Calls Tryd.prog _ _ _ fun e w' => e = .returned (.agg #[.string bF, .int .i64 0, nilS]) ∧ Below _ _ w' := Bool_in w5 false
                  go_wp2_with fail
                  refine hc.mono ?_
                  clear hc
                  rintro e w6 ⟨rfl, hb6⟩
                  have hz6 := (hb6.block _ (heap_lt H5.out.2.1)).trans H5.out.2.1
                  have H6 := Lib.hid (And.intro (H5.out.1.trans (hb6.mono H5.out.1.size)) hz6)
                  obtain ⟨x0, x1, x2⟩ := cellsOf3 hz6
                  have xf := frozenOf hz6
                  clear hb6 hz6
                  go_wp2_with fail
                  have HS := Lib.hid (set3 H6.out.2 (.string bF) (.int .i64 0) nilS)
                  obtain ⟨r0, r1, r2⟩ := cellsOf3 HS.out
                  have hone : twoF op a b = (vBool false, true) := by
                    simp only [twoF, isT, HV.out.1, HV.out.2.1, HV.out.2.2.1, HV.out.2.2.2, HP.out.1, HP.out.2, h1, hai, h2, h3, hx, hy, Bool.and_self, Bool.or_self, Bool.false_and, Bool.and_false, Bool.true_and, Bool.and_true, Bool.true_or, Bool.or_true, Bool.false_or, Bool.or_false, Bool.false_eq_true, if_false, if_true]
                  exact bodyPost_ret (v := .tuple #[.agg #[.string bF, .int .i64 0, nilS], .bool true]) (by simp [results, Tryd.results25, go_sem, r0, r1, r2]) rfl ⟨⟨nilS, by rw [← HR.out, hone]; rfl, by rw [← HR.out, hone]; exact .leaf⟩, set_below H6.out.1 (by omega) _ _ _⟩
                | true =>
                  have hc : Calls Tryd.prog _ _ _ fun e w' => e = .returned (.agg #[.string bT, .int .i64 0, nilS]) ∧ Below _ _ w' := Bool_in w5 true
                  go_wp2_with fail
                  refine hc.mono ?_
                  clear hc
                  rintro e w6 ⟨rfl, hb6⟩
                  have hz6 := (hb6.block _ (heap_lt H5.out.2.1)).trans H5.out.2.1
                  have H6 := Lib.hid (And.intro (H5.out.1.trans (hb6.mono H5.out.1.size)) hz6)
                  obtain ⟨x0, x1, x2⟩ := cellsOf3 hz6
                  have xf := frozenOf hz6
                  clear hb6 hz6
                  go_wp2_with fail
                  have HS := Lib.hid (set3 H6.out.2 (.string bT) (.int .i64 0) nilS)
                  obtain ⟨r0, r1, r2⟩ := cellsOf3 HS.out
                  have hone : twoF op a b = (vBool true, true) := by
                    simp only [twoF, isT, HV.out.1, HV.out.2.1, HV.out.2.2.1, HV.out.2.2.2, HP.out.1, HP.out.2, h1, hai, h2, h3, hx, hy, Bool.and_self, Bool.or_self, Bool.false_and, Bool.and_false, Bool.true_and, Bool.and_true, Bool.true_or, Bool.or_true, Bool.false_or, Bool.or_false, Bool.false_eq_true, if_false, if_true]
                  exact bodyPost_ret (v := .tuple #[.agg #[.string bT, .int .i64 0, nilS], .bool true]) (by simp [results, Tryd.results25, go_sem, r0, r1, r2]) rfl ⟨⟨nilS, by rw [← HR.out, hone]; rfl, by rw [← HR.out, hone]; exact .leaf⟩, set_below H6.out.1 (by omega) _ _ _⟩
            | false =>
              have hz5 := H5.out.2.1
              obtain ⟨q0, q1, q2⟩ := cellsOf3 hz5
              have qf := frozenOf hz5
              clear hz5
              go_wp2_with fail
              have HS := Lib.hid (set3 H5.out.2.1 (.string ⟨#[]⟩) (.int .i64 0) nilS)
              obtain ⟨r0, r1, r2⟩ := cellsOf3 HS.out
              have hone : twoF op a b = (vZero, false) := by
                simp only [twoF, isT, HV.out.1, HV.out.2.1, HV.out.2.2.1, HV.out.2.2.2, HP.out.1, HP.out.2, h1, hai, h2, h3, Bool.and_self, Bool.or_self, Bool.false_and, Bool.and_false, Bool.true_and, Bool.and_true, Bool.true_or, Bool.or_true, Bool.false_or, Bool.or_false, Bool.false_eq_true, if_false, if_true]
              exact bodyPost_ret (v := .tuple #[.agg #[.string ⟨#[]⟩, .int .i64 0, nilS], .bool false]) (by simp [results, Tryd.results25, go_sem, r0, r1, r2]) rfl ⟨⟨nilS, by rw [← HR.out, hone]; rfl, by rw [← HR.out, hone]; exact .leaf⟩, set_below H5.out.1 (by omega) _ _ _⟩
set_option maxRecDepth 100000 in
set_option maxHeartbeats 2000000 in
theorem RTwo_in {P : Nat → Prop} (op : ByteArray) (a b : V) (s t : Value) (w : World) (ha : AtP P w a s) (hb : AtP P w b t) :
    Calls Tryd.prog 29 #[.string op, aggV a s, aggV b t] w fun e w' => (∃ s', e = .returned (.tuple #[aggV (twoF op a b).1 s', .bool (twoF op a b).2]) ∧ AtP (fun k => P k ∨ w.heap.size ≤ k) w' (twoF op a b).1 s') ∧ Below w.heap.size w w' := by
  obtain ⟨A, ca, rfl, _, _⟩ := ha.inv
  obtain ⟨B, cb, rfl, _, _⟩ := hb.inv
  have HAT := Lib.hid (And.intro ha hb)
  clear ha hb
  have HW := Lib.hid (W3_facts w 30 a.op a.num A a.kids.length ca b.op b.num B b.kids.length cb)
  have HNU := Lib.hid (RNumber_in op a.num b.num (W3 w 30 a.op a.num A a.kids.length ca b.op b.num B b.kids.length cb))
  have HTA := Lib.hid (fun w' => RTruth_in a (.slice A a.kids.length ca) w' ⟨_, _, _, rfl⟩)
  have HTB := Lib.hid (fun w' => RTruth_in b (.slice B b.kids.length cb) w' ⟨_, _, _, rfl⟩)
  have hres : ∃ r, twoF op a b = r := ⟨_, rfl⟩
  obtain ⟨r, hr⟩ := hres
  rw [hr]
  have HR := Lib.hid hr
  clear hr
  unfold W3 at HW HNU
  unfold aggV at HTA HTB HNU ⊢
  have hpa : ∃ z, isTF a = z := ⟨_, rfl⟩
  obtain ⟨pa, hpa⟩ := hpa
  have hpb : ∃ z, isTF b = z := ⟨_, rfl⟩
  obtain ⟨pb, hpb⟩ := hpb
  rw [hpa] at HTA
  rw [hpb] at HTB
  have HP := Lib.hid (And.intro hpa hpb)
  clear hpa hpb
  have hao : ∃ z, a.op = z := ⟨_, rfl⟩
  obtain ⟨ao, hao⟩ := hao
  have hbo : ∃ z, b.op = z := ⟨_, rfl⟩
  obtain ⟨bo, hbo⟩ := hbo
  have han : ∃ z, a.num = z := ⟨_, rfl⟩
  obtain ⟨an, han⟩ := han
  have hbn : ∃ z, b.num = z := ⟨_, rfl⟩
  obtain ⟨bn, hbn⟩ := hbn
  have hal : ∃ z, a.kids.length = z := ⟨_, rfl⟩
  obtain ⟨la, hal⟩ := hal
  have hbl : ∃ z, b.kids.length = z := ⟨_, rfl⟩
  obtain ⟨lb, hbl⟩ := hbl
  rw [hao, han, hal] at HTA
  rw [hbo, hbn, hbl] at HTB
  rw [hao, han, hal, hbo, hbn, hbl] at HW HNU ⊢
  have HV := Lib.hid (And.intro hao (And.intro hbo (And.intro han hbn)))
  have HLE := Lib.hid (And.intro hal hbl)
  clear hao hbo han hbn hal hbl
  go_enter Tryd.func29, Tryd.ntmps29
  cases h1 : (op.toList == lP) with
  | true =>
    have hop : op = bP := op_pair h1
    have HOP := Lib.hid hop
    clear hop
    go_wp2_with fail
    have hpf := pair_facts w (.cells #[.string ao, .int .i64 an, .slice A la ca] 30) (.cells #[.string bo, .int .i64 bn, .slice B lb cb] 30) (.cells #[.string bP, .int .i64 0, .slice (some ⟨w.heap.size + 1 + 1 + 1, 0, none⟩) 2 2] 30) (.cells #[.string ao, .int .i64 an, .slice A la ca, .string bo, .int .i64 bn, .slice B lb cb] 30)
    have hat := And.intro ((HAT.out.1.under hpf.1).weak fun k (h : P k) => (.inl h : P k ∨ w.heap.size ≤ k)) ((HAT.out.2.under hpf.1).weak fun k (h : P k) => (.inl h : P k ∨ w.heap.size ≤ k))
    rw [HLE.out.1, HLE.out.2] at hat
    obtain ⟨r0, r1, r2⟩ := cellsOf3 hpf.2.1
    have hone : twoF op a b = (.mk bP 0 [a, b], true) := by
      simp only [twoF, h1, if_true]
    exact bodyPost_ret (v := .tuple #[.agg #[.string bP, .int .i64 0, .slice (some ⟨w.heap.size + 1 + 1 + 1, 0, none⟩) 2 2], .bool true]) (by simp [results, Tryd.results29, go_sem, r0, r1, r2]) rfl ⟨⟨_, by rw [← HR.out, hone]; rfl, by rw [← HR.out, hone]; exact At_pair (by rw [HV.out.1, HV.out.2.1, HV.out.2.2.1, HV.out.2.2.2]; exact hpf.2.2) (.inr (by omega)) hat.1 hat.2⟩, hpf.1⟩
  | false =>
    cases hai : (ao.toList == lI) with
    | true =>
      cases hbi : (bo.toList == lI) with
      | true =>
        have hc := HNU.out
        have hnf : ∃ z, numF op an bn = z := ⟨_, rfl⟩
        obtain ⟨nf, hnf⟩ := hnf
        rw [hnf] at hc
        have HNF := Lib.hid hnf
        clear hnf
        go_wp2_with fail
        refine hc.mono ?_
        clear hc
        rintro e w4 ⟨rfl, hb4⟩
        have hz4 := (hb4.block _ HW.out.2.2.2.2).trans HW.out.2.2.2.1
        have H4 := Lib.hid (And.intro (HW.out.1.trans (hb4.mono HW.out.1.size)) hz4)
        obtain ⟨x0, x1, x2⟩ := cellsOf3 hz4
        have xf := frozenOf hz4
        clear hb4 hz4
        obtain ⟨nv, nb⟩ := nf
        generalize hno : nv.op = no at *
        generalize hnn : nv.num = nn at *
        have HNO := Lib.hid (And.intro hno hnn)
        clear hno hnn
        go_wp2_with fail
        have HS := Lib.hid (set3 H4.out.2 (.string no) (.int .i64 nn) nilS)
        obtain ⟨r0, r1, r2⟩ := cellsOf3 HS.out
        have hone : twoF op a b = (nv, nb) := by
          simp only [twoF, isT, HV.out.1, HV.out.2.1, HV.out.2.2.1, HV.out.2.2.2, HP.out.1, HP.out.2, h1, hai, hbi, Bool.and_self, Bool.or_self, Bool.false_and, Bool.and_false, Bool.true_and, Bool.and_true, Bool.true_or, Bool.or_true, Bool.false_or, Bool.or_false, Bool.false_eq_true, if_false, if_true]
          exact HNF.out
        exact bodyPost_ret (v := .tuple #[.agg #[.string no, .int .i64 nn, nilS], .bool nb]) (by simp [results, Tryd.results29, go_sem, r0, r1, r2]) rfl ⟨⟨nilS, by rw [← HR.out, hone, ← HNO.out.1, ← HNO.out.2], by rw [← HR.out, hone]; have := At_num (fun k => P k ∨ w.heap.size ≤ k) (((w4.setCell ⟨w.heap.size + 1 + 1, 0, none⟩ (.string no)).setCell ⟨w.heap.size + 1 + 1, 1, none⟩ (.int .i64 nn)).setCell ⟨w.heap.size + 1 + 1, 2, none⟩ nilS) op an bn; rw [HNF.out] at this; exact this⟩, set_below H4.out.1 (by omega) _ _ _⟩
      | false =>
        have hc := HTA.out ((((w.alloc (.cells #[.string ao, .int .i64 an, .slice A la ca] 30)).alloc (.cells #[.string bo, .int .i64 bn, .slice B lb cb] 30)).alloc (.cells #[.string ⟨#[]⟩, .int .i64 0, nilS] 30)))
        go_wp2_with fail
        refine hc.mono ?_
        clear hc
        rintro e w4 ⟨rfl, hb4⟩
        have hz4 := (hb4.block _ HW.out.2.2.2.2).trans HW.out.2.2.2.1
        have ha4 := (hb4.block _ (heap_lt HW.out.2.1)).trans HW.out.2.1
        have hbb4 := (hb4.block _ (heap_lt HW.out.2.2.1)).trans HW.out.2.2.1
        have H4 := Lib.hid (And.intro (HW.out.1.trans (hb4.mono HW.out.1.size)) (And.intro hz4 (And.intro ha4 hbb4)))
        obtain ⟨y0, y1, y2⟩ := cellsOf3 hbb4
        have hc := HTB.out w4
        clear hb4 hz4 ha4 hbb4
        go_wp2_with fail
        refine hc.mono ?_
        clear hc
        rintro e w5 ⟨rfl, hb5⟩
        have hz5 := (hb5.block _ (heap_lt H4.out.2.1)).trans H4.out.2.1
        have ha5 := (hb5.block _ (heap_lt H4.out.2.2.1)).trans H4.out.2.2.1
        have hbb5 := (hb5.block _ (heap_lt H4.out.2.2.2)).trans H4.out.2.2.2
        have H5 := Lib.hid (And.intro (H4.out.1.trans (hb5.mono H4.out.1.size)) (And.intro hz5 (And.intro ha5 hbb5)))
        obtain ⟨u0, u1, u2⟩ := cellsOf3 ha5
        obtain ⟨v0, v1, v2⟩ := cellsOf3 hbb5
        clear hb5 hz5 ha5 hbb5 y0 y1 y2
        cases pa with
        | false =>
          have hz5 := H5.out.2.1
          obtain ⟨q0, q1, q2⟩ := cellsOf3 hz5
          have qf := frozenOf hz5
          clear hz5
          go_wp2_with fail
          have HS := Lib.hid (set3 H5.out.2.1 (.string ⟨#[]⟩) (.int .i64 0) nilS)
          obtain ⟨r0, r1, r2⟩ := cellsOf3 HS.out
          have hone : twoF op a b = (vZero, false) := by
            simp only [twoF, isT, HV.out.1, HV.out.2.1, HV.out.2.2.1, HV.out.2.2.2, HP.out.1, HP.out.2, h1, hai, hbi, Bool.and_self, Bool.or_self, Bool.false_and, Bool.and_false, Bool.true_and, Bool.and_true, Bool.true_or, Bool.or_true, Bool.false_or, Bool.or_false, Bool.false_eq_true, if_false, if_true]
          exact bodyPost_ret (v := .tuple #[.agg #[.string ⟨#[]⟩, .int .i64 0, nilS], .bool false]) (by simp [results, Tryd.results29, go_sem, r0, r1, r2]) rfl ⟨⟨nilS, by rw [← HR.out, hone]; rfl, by rw [← HR.out, hone]; exact .leaf⟩, set_below H5.out.1 (by omega) _ _ _⟩
        | true =>
          cases pb with
          | false =>
            have hz5 := H5.out.2.1
            obtain ⟨q0, q1, q2⟩ := cellsOf3 hz5
            have qf := frozenOf hz5
            clear hz5
            go_wp2_with fail
            have HS := Lib.hid (set3 H5.out.2.1 (.string ⟨#[]⟩) (.int .i64 0) nilS)
            obtain ⟨r0, r1, r2⟩ := cellsOf3 HS.out
            have hone : twoF op a b = (vZero, false) := by
              simp only [twoF, isT, HV.out.1, HV.out.2.1, HV.out.2.2.1, HV.out.2.2.2, HP.out.1, HP.out.2, h1, hai, hbi, Bool.and_self, Bool.or_self, Bool.false_and, Bool.and_false, Bool.true_and, Bool.and_true, Bool.true_or, Bool.or_true, Bool.false_or, Bool.or_false, Bool.false_eq_true, if_false, if_true]
            exact bodyPost_ret (v := .tuple #[.agg #[.string ⟨#[]⟩, .int .i64 0, nilS], .bool false]) (by simp [results, Tryd.results29, go_sem, r0, r1, r2]) rfl ⟨⟨nilS, by rw [← HR.out, hone]; rfl, by rw [← HR.out, hone]; exact .leaf⟩, set_below H5.out.1 (by omega) _ _ _⟩
          | true =>
            cases h2 : (op.toList == lAnd) with
            | true =>
              cases hx : (ao.toList == lT) with
              | false =>
                have hc : Calls Tryd.prog _ _ _ fun e w' => e = .returned (.agg #[.string bF, .int .i64 0, nilS]) ∧ Below _ _ w' := RBool_in w5 false
                go_wp2_with fail
                refine hc.mono ?_
                clear hc
                rintro e w6 ⟨rfl, hb6⟩
                have hz6 := (hb6.block _ (heap_lt H5.out.2.1)).trans H5.out.2.1
                have H6 := Lib.hid (And.intro (H5.out.1.trans (hb6.mono H5.out.1.size)) hz6)
                obtain ⟨x0, x1, x2⟩ := cellsOf3 hz6
                have xf := frozenOf hz6
                clear hb6 hz6
                go_wp2_with fail
                have HS := Lib.hid (set3 H6.out.2 (.string bF) (.int .i64 0) nilS)
                obtain ⟨r0, r1, r2⟩ := cellsOf3 HS.out
                have hone : twoF op a b = (vBool false, true) := by
                  simp only [twoF, isT, HV.out.1, HV.out.2.1, HV.out.2.2.1, HV.out.2.2.2, HP.out.1, HP.out.2, h1, hai, hbi, h2, hx, Bool.and_self, Bool.or_self, Bool.false_and, Bool.and_false, Bool.true_and, Bool.and_true, Bool.true_or, Bool.or_true, Bool.false_or, Bool.or_false, Bool.false_eq_true, if_false, if_true]
                exact bodyPost_ret (v := .tuple #[.agg #[.string bF, .int .i64 0, nilS], .bool true]) (by simp [results, Tryd.results29, go_sem, r0, r1, r2]) rfl ⟨⟨nilS, by rw [← HR.out, hone]; rfl, by rw [← HR.out, hone]; exact .leaf⟩, set_below H6.out.1 (by omega) _ _ _⟩
              | true =>
                cases hy : (bo.toList == lT) with
                | false =>
                  have hc : Calls Tryd.prog _ _ _ fun e w' => e = .returned (.agg #[.string bF, .int .i64 0, nilS]) ∧ Below _ _ w' := RBool_in w5 false
                  go_wp2_with fail
                  refine hc.mono ?_
                  clear hc
                  rintro e w6 ⟨rfl, hb6⟩
                  have hz6 := (hb6.block _ (heap_lt H5.out.2.1)).trans H5.out.2.1
                  have H6 := Lib.hid (And.intro (H5.out.1.trans (hb6.mono H5.out.1.size)) hz6)
                  obtain ⟨x0, x1, x2⟩ := cellsOf3 hz6
                  have xf := frozenOf hz6
                  clear hb6 hz6
                  go_wp2_with fail
                  have HS := Lib.hid (set3 H6.out.2 (.string bF) (.int .i64 0) nilS)
                  obtain ⟨r0, r1, r2⟩ := cellsOf3 HS.out
                  have hone : twoF op a b = (vBool false, true) := by
                    simp only [twoF, isT, HV.out.1, HV.out.2.1, HV.out.2.2.1, HV.out.2.2.2, HP.out.1, HP.out.2, h1, hai, hbi, h2, hx, hy, Bool.and_self, Bool.or_self, Bool.false_and, Bool.and_false, Bool.true_and, Bool.and_true, Bool.true_or, Bool.or_true, Bool.false_or, Bool.or_false, Bool.false_eq_true, if_false, if_true]
                  exact bodyPost_ret (v := .tuple #[.agg #[.string bF, .int .i64 0, nilS], .bool true]) (by simp [results, Tryd.results29, go_sem, r0, r1, r2]) rfl ⟨⟨nilS, by rw [← HR.out, hone]; rfl, by rw [← HR.out, hone]; exact .leaf⟩, set_below H6.out.1 (by omega) _ _ _⟩
                | true =>
                  have hc : Calls Tryd.prog _ _ _ fun e w' => e = .returned (.agg #[.string bT, .int .i64 0, nilS]) ∧ Below _ _ w' := RBool_in w5 true
                  go_wp2_with fail
                  refine hc.mono ?_
                  clear hc
                  rintro e w6 ⟨rfl, hb6⟩
                  have hz6 := (hb6.block _ (heap_lt H5.out.2.1)).trans H5.out.2.1
                  have H6 := Lib.hid (And.intro (H5.out.1.trans (hb6.mono H5.out.1.size)) hz6)
                  obtain ⟨x0, x1, x2⟩ := cellsOf3 hz6
                  have xf := frozenOf hz6
                  clear hb6 hz6
                  go_wp2_with fail
                  have HS := Lib.hid (set3 H6.out.2 (.string bT) (.int .i64 0) nilS)
                  obtain ⟨r0, r1, r2⟩ := cellsOf3 HS.out
                  have hone : twoF op a b = (vBool true, true) := by
                    simp only [twoF, isT, HV.out.1, HV.out.2.1, HV.out.2.2.1, HV.out.2.2.2, HP.out.1, HP.out.2, h1, hai, hbi, h2, hx, hy, Bool.and_self, Bool.or_self, Bool.false_and, Bool.and_false, Bool.true_and, Bool.and_true, Bool.true_or, Bool.or_true, Bool.false_or, Bool.or_false, Bool.false_eq_true, if_false, if_true]
                  exact bodyPost_ret (v := .tuple #[.agg #[.string bT, .int .i64 0, nilS], .bool true]) (by simp [results, Tryd.results29, go_sem, r0, r1, r2]) rfl ⟨⟨nilS, by rw [← HR.out, hone]; rfl, by rw [← HR.out, hone]; exact .leaf⟩, set_below H6.out.1 (by omega) _ _ _⟩
            | false =>
              cases h3 : (op.toList == lOr) with
              | true =>
                cases hx : (ao.toList == lT) with
                | true =>
                  have hc : Calls Tryd.prog _ _ _ fun e w' => e = .returned (.agg #[.string bT, .int .i64 0, nilS]) ∧ Below _ _ w' := RBool_in w5 true
                  go_wp2_with fail
                  refine hc.mono ?_
                  clear hc
                  rintro e w6 ⟨rfl, hb6⟩
                  have hz6 := (hb6.block _ (heap_lt H5.out.2.1)).trans H5.out.2.1
                  have H6 := Lib.hid (And.intro (H5.out.1.trans (hb6.mono H5.out.1.size)) hz6)
                  obtain ⟨x0, x1, x2⟩ := cellsOf3 hz6
                  have xf := frozenOf hz6
                  clear hb6 hz6
                  go_wp2_with fail
                  have HS := Lib.hid (set3 H6.out.2 (.string bT) (.int .i64 0) nilS)
                  obtain ⟨r0, r1, r2⟩ := cellsOf3 HS.out
                  have hone : twoF op a b = (vBool true, true) := by
                    simp only [twoF, isT, HV.out.1, HV.out.2.1, HV.out.2.2.1, HV.out.2.2.2, HP.out.1, HP.out.2, h1, hai, hbi, h2, h3, hx, Bool.and_self, Bool.or_self, Bool.false_and, Bool.and_false, Bool.true_and, Bool.and_true, Bool.true_or, Bool.or_true, Bool.false_or, Bool.or_false, Bool.false_eq_true, if_false, if_true]
                  exact bodyPost_ret (v := .tuple #[.agg #[.string bT, .int .i64 0, nilS], .bool true]) (by simp [results, Tryd.results29, go_sem, r0, r1, r2]) rfl ⟨⟨nilS, by rw [← HR.out, hone]; rfl, by rw [← HR.out, hone]; exact .leaf⟩, set_below H6.out.1 (by omega) _ _ _⟩
                | false =>
                  cases hy : (bo.toList == lT) with
                  | false =>
                    have hc : Calls Tryd.prog _ _ _ fun e w' => e = .returned (.agg #[.string bF, .int .i64 0, nilS]) ∧ Below _ _ w' := RBool_in w5 false
                    go_wp2_with fail
                    refine hc.mono ?_
                    clear hc
                    rintro e w6 ⟨rfl, hb6⟩
                    have hz6 := (hb6.block _ (heap_lt H5.out.2.1)).trans H5.out.2.1
                    have H6 := Lib.hid (And.intro (H5.out.1.trans (hb6.mono H5.out.1.size)) hz6)
                    obtain ⟨x0, x1, x2⟩ := cellsOf3 hz6
                    have xf := frozenOf hz6
                    clear hb6 hz6
                    go_wp2_with fail
                    have HS := Lib.hid (set3 H6.out.2 (.string bF) (.int .i64 0) nilS)
                    obtain ⟨r0, r1, r2⟩ := cellsOf3 HS.out
                    have hone : twoF op a b = (vBool false, true) := by
                      simp only [twoF, isT, HV.out.1, HV.out.2.1, HV.out.2.2.1, HV.out.2.2.2, HP.out.1, HP.out.2, h1, hai, hbi, h2, h3, hx, hy, Bool.and_self, Bool.or_self, Bool.false_and, Bool.and_false, Bool.true_and, Bool.and_true, Bool.true_or, Bool.or_true, Bool.false_or, Bool.or_false, Bool.false_eq_true, if_false, if_true]
                    exact bodyPost_ret (v := .tuple #[.agg #[.string bF, .int .i64 0, nilS], .bool true]) (by simp [results, Tryd.results29, go_sem, r0, r1, r2]) rfl ⟨⟨nilS, by rw [← HR.out, hone]; rfl, by rw [← HR.out, hone]; exact .leaf⟩, set_below H6.out.1 (by omega) _ _ _⟩
                  | true =>
                    have hc : Calls Tryd.prog _ _ _ fun e w' => e = .returned (.agg #[.string bT, .int .i64 0, nilS]) ∧ Below _ _ w' := RBool_in w5 true
                    go_wp2_with fail
                    refine hc.mono ?_
                    clear hc
                    rintro e w6 ⟨rfl, hb6⟩
                    have hz6 := (hb6.block _ (heap_lt H5.out.2.1)).trans H5.out.2.1
                    have H6 := Lib.hid (And.intro (H5.out.1.trans (hb6.mono H5.out.1.size)) hz6)
                    obtain ⟨x0, x1, x2⟩ := cellsOf3 hz6
                    have xf := frozenOf hz6
                    clear hb6 hz6
                    go_wp2_with fail
                    have HS := Lib.hid (set3 H6.out.2 (.string bT) (.int .i64 0) nilS)
                    obtain ⟨r0, r1, r2⟩ := cellsOf3 HS.out
                    have hone : twoF op a b = (vBool true, true) := by
                      simp only [twoF, isT, HV.out.1, HV.out.2.1, HV.out.2.2.1, HV.out.2.2.2, HP.out.1, HP.out.2, h1, hai, hbi, h2, h3, hx, hy, Bool.and_self, Bool.or_self, Bool.false_and, Bool.and_false, Bool.true_and, Bool.and_true, Bool.true_or, Bool.or_true, Bool.false_or, Bool.or_false, Bool.false_eq_true, if_false, if_true]
                    exact bodyPost_ret (v := .tuple #[.agg #[.string bT, .int .i64 0, nilS], .bool true]) (by simp [results, Tryd.results29, go_sem, r0, r1, r2]) rfl ⟨⟨nilS, by rw [← HR.out, hone]; rfl, by rw [← HR.out, hone]; exact .leaf⟩, set_below H6.out.1 (by omega) _ _ _⟩
              | false =>
                have hz5 := H5.out.2.1
                obtain ⟨q0, q1, q2⟩ := cellsOf3 hz5
                have qf := frozenOf hz5
                clear hz5
                go_wp2_with fail
                have HS := Lib.hid (set3 H5.out.2.1 (.string ⟨#[]⟩) (.int .i64 0) nilS)
                obtain ⟨r0, r1, r2⟩ := cellsOf3 HS.out
                have hone : twoF op a b = (vZero, false) := by
                  simp only [twoF, isT, HV.out.1, HV.out.2.1, HV.out.2.2.1, HV.out.2.2.2, HP.out.1, HP.out.2, h1, hai, hbi, h2, h3, Bool.and_self, Bool.or_self, Bool.false_and, Bool.and_false, Bool.true_and, Bool.and_true, Bool.true_or, Bool.or_true, Bool.false_or, Bool.or_false, Bool.false_eq_true, if_false, if_true]
                exact bodyPost_ret (v := .tuple #[.agg #[.string ⟨#[]⟩, .int .i64 0, nilS], .bool false]) (by simp [results, Tryd.results29, go_sem, r0, r1, r2]) rfl ⟨⟨nilS, by rw [← HR.out, hone]; rfl, by rw [← HR.out, hone]; exact .leaf⟩, set_below H5.out.1 (by omega) _ _ _⟩
    | false =>
      have hc := HTA.out ((((w.alloc (.cells #[.string ao, .int .i64 an, .slice A la ca] 30)).alloc (.cells #[.string bo, .int .i64 bn, .slice B lb cb] 30)).alloc (.cells #[.string ⟨#[]⟩, .int .i64 0, nilS] 30)))
      go_wp2_with fail
      refine hc.mono ?_
      clear hc
      rintro e w4 ⟨rfl, hb4⟩
      have hz4 := (hb4.block _ HW.out.2.2.2.2).trans HW.out.2.2.2.1
      have ha4 := (hb4.block _ (heap_lt HW.out.2.1)).trans HW.out.2.1
      have hbb4 := (hb4.block _ (heap_lt HW.out.2.2.1)).trans HW.out.2.2.1
      have H4 := Lib.hid (And.intro (HW.out.1.trans (hb4.mono HW.out.1.size)) (And.intro hz4 (And.intro ha4 hbb4)))
      obtain ⟨y0, y1, y2⟩ := cellsOf3 hbb4
      have hc := HTB.out w4
      clear hb4 hz4 ha4 hbb4
      go_wp2_with fail
      refine hc.mono ?_
      clear hc
      rintro e w5 ⟨rfl, hb5⟩
      have hz5 := (hb5.block _ (heap_lt H4.out.2.1)).trans H4.out.2.1
      have ha5 := (hb5.block _ (heap_lt H4.out.2.2.1)).trans H4.out.2.2.1
      have hbb5 := (hb5.block _ (heap_lt H4.out.2.2.2)).trans H4.out.2.2.2
      have H5 := Lib.hid (And.intro (H4.out.1.trans (hb5.mono H4.out.1.size)) (And.intro hz5 (And.intro ha5 hbb5)))
      obtain ⟨u0, u1, u2⟩ := cellsOf3 ha5
      obtain ⟨v0, v1, v2⟩ := cellsOf3 hbb5
      clear hb5 hz5 ha5 hbb5 y0 y1 y2
      cases pa with
      | false =>
        have hz5 := H5.out.2.1
        obtain ⟨q0, q1, q2⟩ := cellsOf3 hz5
        have qf := frozenOf hz5
        clear hz5
        go_wp2_with fail
        have HS := Lib.hid (set3 H5.out.2.1 (.string ⟨#[]⟩) (.int .i64 0) nilS)
        obtain ⟨r0, r1, r2⟩ := cellsOf3 HS.out
        have hone : twoF op a b = (vZero, false) := by
          simp only [twoF, isT, HV.out.1, HV.out.2.1, HV.out.2.2.1, HV.out.2.2.2, HP.out.1, HP.out.2, h1, hai, Bool.and_self, Bool.or_self, Bool.false_and, Bool.and_false, Bool.true_and, Bool.and_true, Bool.true_or, Bool.or_true, Bool.false_or, Bool.or_false, Bool.false_eq_true, if_false, if_true]
        exact bodyPost_ret (v := .tuple #[.agg #[.string ⟨#[]⟩, .int .i64 0, nilS], .bool false]) (by simp [results, Tryd.results29, go_sem, r0, r1, r2]) rfl ⟨⟨nilS, by rw [← HR.out, hone]; rfl, by rw [← HR.out, hone]; exact .leaf⟩, set_below H5.out.1 (by omega) _ _ _⟩
      | true =>
        cases pb with
        | false =>
          have hz5 := H5.out.2.1
          obtain ⟨q0, q1, q2⟩ := cellsOf3 hz5
          have qf := frozenOf hz5
          clear hz5
          go_wp2_with fail
          have HS := Lib.hid (set3 H5.out.2.1 (.string ⟨#[]⟩) (.int .i64 0) nilS)
          obtain ⟨r0, r1, r2⟩ := cellsOf3 HS.out
          have hone : twoF op a b = (vZero, false) := by
            simp only [twoF, isT, HV.out.1, HV.out.2.1, HV.out.2.2.1, HV.out.2.2.2, HP.out.1, HP.out.2, h1, hai, Bool.and_self, Bool.or_self, Bool.false_and, Bool.and_false, Bool.true_and, Bool.and_true, Bool.true_or, Bool.or_true, Bool.false_or, Bool.or_false, Bool.false_eq_true, if_false, if_true]
          exact bodyPost_ret (v := .tuple #[.agg #[.string ⟨#[]⟩, .int .i64 0, nilS], .bool false]) (by simp [results, Tryd.results29, go_sem, r0, r1, r2]) rfl ⟨⟨nilS, by rw [← HR.out, hone]; rfl, by rw [← HR.out, hone]; exact .leaf⟩, set_below H5.out.1 (by omega) _ _ _⟩
        | true =>
          cases h2 : (op.toList == lAnd) with
          | true =>
            cases hx : (ao.toList == lT) with
            | false =>
              have hc : Calls Tryd.prog _ _ _ fun e w' => e = .returned (.agg #[.string bF, .int .i64 0, nilS]) ∧ Below _ _ w' := RBool_in w5 false
              go_wp2_with fail
              refine hc.mono ?_
              clear hc
              rintro e w6 ⟨rfl, hb6⟩
              have hz6 := (hb6.block _ (heap_lt H5.out.2.1)).trans H5.out.2.1
              have H6 := Lib.hid (And.intro (H5.out.1.trans (hb6.mono H5.out.1.size)) hz6)
              obtain ⟨x0, x1, x2⟩ := cellsOf3 hz6
              have xf := frozenOf hz6
              clear hb6 hz6
              go_wp2_with fail
              have HS := Lib.hid (set3 H6.out.2 (.string bF) (.int .i64 0) nilS)
              obtain ⟨r0, r1, r2⟩ := cellsOf3 HS.out
              have hone : twoF op a b = (vBool false, true) := by
                simp only [twoF, isT, HV.out.1, HV.out.2.1, HV.out.2.2.1, HV.out.2.2.2, HP.out.1, HP.out.2, h1, hai, h2, hx, Bool.and_self, Bool.or_self, Bool.false_and, Bool.and_false, Bool.true_and, Bool.and_true, Bool.true_or, Bool.or_true, Bool.false_or, Bool.or_false, Bool.false_eq_true, if_false, if_true]
              exact bodyPost_ret (v := .tuple #[.agg #[.string bF, .int .i64 0, nilS], .bool true]) (by simp [results, Tryd.results29, go_sem, r0, r1, r2]) rfl ⟨⟨nilS, by rw [← HR.out, hone]; rfl, by rw [← HR.out, hone]; exact .leaf⟩, set_below H6.out.1 (by omega) _ _ _⟩
            | true =>
              cases hy : (bo.toList == lT) with
              | false =>
                have hc : Calls Tryd.prog _ _ _ fun e w' => e = .returned (.agg #[.string bF, .int .i64 0, nilS]) ∧ Below _ _ w' := RBool_in w5 false
                go_wp2_with fail
                refine hc.mono ?_
                clear hc
                rintro e w6 ⟨rfl, hb6⟩
                have hz6 := (hb6.block _ (heap_lt H5.out.2.1)).trans H5.out.2.1
                have H6 := Lib.hid (And.intro (H5.out.1.trans (hb6.mono H5.out.1.size)) hz6)
                obtain ⟨x0, x1, x2⟩ := cellsOf3 hz6
                have xf := frozenOf hz6
                clear hb6 hz6
                go_wp2_with fail
                have HS := Lib.hid (set3 H6.out.2 (.string bF) (.int .i64 0) nilS)
                obtain ⟨r0, r1, r2⟩ := cellsOf3 HS.out
                have hone : twoF op a b = (vBool false, true) := by
                  simp only [twoF, isT, HV.out.1, HV.out.2.1, HV.out.2.2.1, HV.out.2.2.2, HP.out.1, HP.out.2, h1, hai, h2, hx, hy, Bool.and_self, Bool.or_self, Bool.false_and, Bool.and_false, Bool.true_and, Bool.and_true, Bool.true_or, Bool.or_true, Bool.false_or, Bool.or_false, Bool.false_eq_true, if_false, if_true]
                exact bodyPost_ret (v := .tuple #[.agg #[.string bF, .int .i64 0, nilS], .bool true]) (by simp [results, Tryd.results29, go_sem, r0, r1, r2]) rfl ⟨⟨nilS, by rw [← HR.out, hone]; rfl, by rw [← HR.out, hone]; exact .leaf⟩, set_below H6.out.1 (by omega) _ _ _⟩
              | true =>
                have hc : Calls Tryd.prog _ _ _ fun e w' => e = .returned (.agg #[.string bT, .int .i64 0, nilS]) ∧ Below _ _ w' := RBool_in w5 true
                go_wp2_with fail
                refine hc.mono ?_
                clear hc
                rintro e w6 ⟨rfl, hb6⟩
                have hz6 := (hb6.block _ (heap_lt H5.out.2.1)).trans H5.out.2.1
                have H6 := Lib.hid (And.intro (H5.out.1.trans (hb6.mono H5.out.1.size)) hz6)
                obtain ⟨x0, x1, x2⟩ := cellsOf3 hz6
                have xf := frozenOf hz6
                clear hb6 hz6
                go_wp2_with fail
                have HS := Lib.hid (set3 H6.out.2 (.string bT) (.int .i64 0) nilS)
                obtain ⟨r0, r1, r2⟩ := cellsOf3 HS.out
                have hone : twoF op a b = (vBool true, true) := by
                  simp only [twoF, isT, HV.out.1, HV.out.2.1, HV.out.2.2.1, HV.out.2.2.2, HP.out.1, HP.out.2, h1, hai, h2, hx, hy, Bool.and_self, Bool.or_self, Bool.false_and, Bool.and_false, Bool.true_and, Bool.and_true, Bool.true_or, Bool.or_true, Bool.false_or, Bool.or_false, Bool.false_eq_true, if_false, if_true]
                exact bodyPost_ret (v := .tuple #[.agg #[.string bT, .int .i64 0, nilS], .bool true]) (by simp [results, Tryd.results29, go_sem, r0, r1, r2]) rfl ⟨⟨nilS, by rw [← HR.out, hone]; rfl, by rw [← HR.out, hone]; exact .leaf⟩, set_below H6.out.1 (by omega) _ _ _⟩
          | false =>
            cases h3 : (op.toList == lOr) with
            | true =>
              cases hx : (ao.toList == lT) with
              | true =>
                have hc : Calls Tryd.prog _ _ _ fun e w' => e = .returned (.agg #[.string bT, .int .i64 0, nilS]) ∧ Below _ _ w' := RBool_in w5 true
                go_wp2_with fail
                refine hc.mono ?_
                clear hc
                rintro e w6 ⟨rfl, hb6⟩
                have hz6 := (hb6.block _ (heap_lt H5.out.2.1)).trans H5.out.2.1
                have H6 := Lib.hid (And.intro (H5.out.1.trans (hb6.mono H5.out.1.size)) hz6)
                obtain ⟨x0, x1, x2⟩ := cellsOf3 hz6
                have xf := frozenOf hz6
                clear hb6 hz6
                go_wp2_with fail
                have HS := Lib.hid (set3 H6.out.2 (.string bT) (.int .i64 0) nilS)
                obtain ⟨r0, r1, r2⟩ := cellsOf3 HS.out
                have hone : twoF op a b = (vBool true, true) := by
                  simp only [twoF, isT, HV.out.1, HV.out.2.1, HV.out.2.2.1, HV.out.2.2.2, HP.out.1, HP.out.2, h1, hai, h2, h3, hx, Bool.and_self, Bool.or_self, Bool.false_and, Bool.and_false, Bool.true_and, Bool.and_true, Bool.true_or, Bool.or_true, Bool.false_or, Bool.or_false, Bool.false_eq_true, if_false, if_true]
                exact bodyPost_ret (v := .tuple #[.agg #[.string bT, .int .i64 0, nilS], .bool true]) (by simp [results, Tryd.results29, go_sem, r0, r1, r2]) rfl ⟨⟨nilS, by rw [← HR.out, hone]; rfl, by rw [← HR.out, hone]; exact .leaf⟩, set_below H6.out.1 (by omega) _ _ _⟩
              | false =>
                cases hy : (bo.toList == lT) with
                | false =>
                  have hc : Calls Tryd.prog _ _ _ fun e w' => e = .returned (.agg #[.string bF, .int .i64 0, nilS]) ∧ Below _ _ w' := RBool_in w5 false
                  go_wp2_with fail
                  refine hc.mono ?_
                  clear hc
                  rintro e w6 ⟨rfl, hb6⟩
                  have hz6 := (hb6.block _ (heap_lt H5.out.2.1)).trans H5.out.2.1
                  have H6 := Lib.hid (And.intro (H5.out.1.trans (hb6.mono H5.out.1.size)) hz6)
                  obtain ⟨x0, x1, x2⟩ := cellsOf3 hz6
                  have xf := frozenOf hz6
                  clear hb6 hz6
                  go_wp2_with fail
                  have HS := Lib.hid (set3 H6.out.2 (.string bF) (.int .i64 0) nilS)
                  obtain ⟨r0, r1, r2⟩ := cellsOf3 HS.out
                  have hone : twoF op a b = (vBool false, true) := by
                    simp only [twoF, isT, HV.out.1, HV.out.2.1, HV.out.2.2.1, HV.out.2.2.2, HP.out.1, HP.out.2, h1, hai, h2, h3, hx, hy, Bool.and_self, Bool.or_self, Bool.false_and, Bool.and_false, Bool.true_and, Bool.and_true, Bool.true_or, Bool.or_true, Bool.false_or, Bool.or_false, Bool.false_eq_true, if_false, if_true]
                  exact bodyPost_ret (v := .tuple #[.agg #[.string bF, .int .i64 0, nilS], .bool true]) (by simp [results, Tryd.results29, go_sem, r0, r1, r2]) rfl ⟨⟨nilS, by rw [← HR.out, hone]; rfl, by rw [← HR.out, hone]; exact .leaf⟩, set_below H6.out.1 (by omega) _ _ _⟩
                | true =>
                  have hc : Calls Tryd.prog _ _ _ fun e w' => e = .returned (.agg #[.string bT, .int .i64 0, nilS]) ∧ Below _ _ w' := RBool_in w5 true
                  go_wp2_with fail
                  refine hc.mono ?_
                  clear hc
                  rintro e w6 ⟨rfl, hb6⟩
                  have hz6 := (hb6.block _ (heap_lt H5.out.2.1)).trans H5.out.2.1
                  have H6 := Lib.hid (And.intro (H5.out.1.trans (hb6.mono H5.out.1.size)) hz6)
                  obtain ⟨x0, x1, x2⟩ := cellsOf3 hz6
                  have xf := frozenOf hz6
                  clear hb6 hz6
                  go_wp2_with fail
                  have HS := Lib.hid (set3 H6.out.2 (.string bT) (.int .i64 0) nilS)
                  obtain ⟨r0, r1, r2⟩ := cellsOf3 HS.out
                  have hone : twoF op a b = (vBool true, true) := by
                    simp only [twoF, isT, HV.out.1, HV.out.2.1, HV.out.2.2.1, HV.out.2.2.2, HP.out.1, HP.out.2, h1, hai, h2, h3, hx, hy, Bool.and_self, Bool.or_self, Bool.false_and, Bool.and_false, Bool.true_and, Bool.and_true, Bool.true_or, Bool.or_true, Bool.false_or, Bool.or_false, Bool.false_eq_true, if_false, if_true]
                  exact bodyPost_ret (v := .tuple #[.agg #[.string bT, .int .i64 0, nilS], .bool true]) (by simp [results, Tryd.results29, go_sem, r0, r1, r2]) rfl ⟨⟨nilS, by rw [← HR.out, hone]; rfl, by rw [← HR.out, hone]; exact .leaf⟩, set_below H6.out.1 (by omega) _ _ _⟩
            | false =>
              have hz5 := H5.out.2.1
              obtain ⟨q0, q1, q2⟩ := cellsOf3 hz5
              have qf := frozenOf hz5
              clear hz5
              go_wp2_with fail
              have HS := Lib.hid (set3 H5.out.2.1 (.string ⟨#[]⟩) (.int .i64 0) nilS)
              obtain ⟨r0, r1, r2⟩ := cellsOf3 HS.out
              have hone : twoF op a b = (vZero, false) := by
                simp only [twoF, isT, HV.out.1, HV.out.2.1, HV.out.2.2.1, HV.out.2.2.2, HP.out.1, HP.out.2, h1, hai, h2, h3, Bool.and_self, Bool.or_self, Bool.false_and, Bool.and_false, Bool.true_and, Bool.and_true, Bool.true_or, Bool.or_true, Bool.false_or, Bool.or_false, Bool.false_eq_true, if_false, if_true]
              exact bodyPost_ret (v := .tuple #[.agg #[.string ⟨#[]⟩, .int .i64 0, nilS], .bool false]) (by simp [results, Tryd.results29, go_sem, r0, r1, r2]) rfl ⟨⟨nilS, by rw [← HR.out, hone]; rfl, by rw [← HR.out, hone]; exact .leaf⟩, set_below H5.out.1 (by omega) _ _ _⟩
end Go.Proofs.YtofijodndilmbaaDoor
