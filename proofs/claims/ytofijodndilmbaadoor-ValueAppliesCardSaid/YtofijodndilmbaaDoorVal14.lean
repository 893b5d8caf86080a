/- What an op makes of one value. -/
import Derived.Test.YtofijodndilmbaaDoorVal13
set_option linter.unusedVariables false
set_option linter.unusedSimpArgs false
namespace Go.Proofs.YtofijodndilmbaaDoor
open Go.RowKit

theorem AtP.inv {P : Nat → Prop} {w : World} {v : V} {s : Value} (h : AtP P w v s) : ∃ A cap, s = .slice A v.kids.length cap ∧ v.kids.length ≤ 2932031007317 ∧
    ∀ i, i < v.kids.length → ∃ b off si, A = some ⟨b, off, none⟩ ∧ (w.cell? ⟨b, off + i * 3, none⟩ = some (.string (v.kids.getD i default).op) ∧ w.cell? ⟨b, off + i * 3 + 1, none⟩ = some (.int .i64 (v.kids.getD i default).num) ∧ w.cell? ⟨b, off + i * 3 + 2, none⟩ = some si) ∧ AtP P w (v.kids.getD i default) si := by
  cases h with
  | leaf => exact ⟨_, _, rfl, by simp [V.kids], fun i hi => by simp [V.kids] at hi⟩
  | node ss h0 _ _ h1 h2 => exact ⟨_, _, rfl, h0, fun i hi => ⟨_, _, ss i, rfl, h1 i hi, h2 i hi⟩⟩
theorem AtP.under {P : Nat → Prop} {w w' : World} {v : V} {s : Value} (h : AtP P w v s) (hb : Below w.heap.size w w') : AtP P w' v s := h.step hb.size fun k hk hp => ⟨hb.block k hk, hp⟩
theorem AtP.weak {P Q : Nat → Prop} {w : World} {v : V} {s : Value} (h : AtP P w v s) (hpq : ∀ k, P k → Q k) : AtP Q w v s := h.step (Nat.le_refl _) fun k _ hp => ⟨rfl, hpq k hp⟩
theorem At.toP {w : World} {v : V} {s : Value} (h : At w v s) : AtP (fun k => k < w.heap.size) w v s := by
  induction h with
  | leaf => exact .leaf
  | node ss h0 h1 _ ih =>
    rename_i ks b off cap _
    by_cases e : ks.length = 0
    · obtain rfl : ks = [] := List.length_eq_zero_iff.1 e
      exact .leaf
    · have hb := cell_lt (h1 0 (by omega)).1
      exact .node ss h0 hb hb h1 ih
/-- The world of a call that has boxed a value and made its result. -/
def W2 (w : World) (t : TypeId) (o : ByteArray) (m : Int) (A : Option Addr) (l cap : Nat) : World := (w.alloc (.cells #[.string o, .int .i64 m, .slice A l cap] t)).alloc (.cells #[.string ⟨#[]⟩, .int .i64 0, nilS] t)
theorem W2_facts (w : World) (t : TypeId) (o : ByteArray) (m : Int) (A : Option Addr) (l cap : Nat) : Below w.heap.size w (W2 w t o m A l cap) ∧ (W2 w t o m A l cap).heap[w.heap.size]? = some (.cells #[.string o, .int .i64 m, .slice A l cap] t) ∧
    (W2 w t o m A l cap).heap[w.heap.size + 1]? = some (.cells #[.string ⟨#[]⟩, .int .i64 0, nilS] t) ∧ w.heap.size + 1 < (W2 w t o m A l cap).heap.size := by
  refine ⟨((Below.refl w.heap.size w).alloc (Nat.le_refl _) _).alloc (by simp) _, ?_, ?_, by simp [W2]⟩
  · exact (Below.heap_alloc _ _ _ (by simp)).trans (last w _)
  · have := last (w.alloc (.cells #[.string o, .int .i64 m, .slice A l cap] t)) (.cells #[.string ⟨#[]⟩, .int .i64 0, nilS] t)
    simpa [W2] using this
theorem set_below {w w' : World} {b : Nat} (h : Below w.heap.size w w') (hb : w.heap.size ≤ b) (p q r : Value) : Below w.heap.size w (((w'.setCell ⟨b, 0, none⟩ p).setCell ⟨b, 1, none⟩ q).setCell ⟨b, 2, none⟩ r) := ((h.setCell hb p).setCell hb q).setCell hb r
set_option maxRecDepth 100000 in
set_option maxHeartbeats 1000000 in
theorem One_in {P : Nat → Prop} (op : ByteArray) (v : V) (s : Value) (w : World) (hk : (v.op.toList == lP) = true → v.kids.length = 2) (h : AtP P w v s) :
    Calls Tryd.prog 24 #[.string op, aggV v s] w fun e w' => (∃ s', e = .returned (.tuple #[aggV (oneF op v).1 s', .bool (oneF op v).2]) ∧ AtP (fun k => P k ∨ w.heap.size ≤ k) w' (oneF op v).1 s') ∧ Below w.heap.size w w' := by
  obtain ⟨A, cap, rfl, hmax, hkid⟩ := h.inv
  obtain ⟨w0, w1, w2, w3⟩ := W2_facts w 24 v.op v.num A v.kids.length cap
  have hc := Truth_in v _ (W2 w 24 v.op v.num A v.kids.length cap) ⟨A, v.kids.length, cap, rfl⟩
  have HW := Lib.hid (And.intro w0 (And.intro w1 (And.intro w2 w3)))
  have HK := Lib.hid hk
  have HKI := Lib.hid hkid
  clear hk hkid h w0 w1 w2 w3
  unfold W2 at HW
  have hres : ∃ r, oneF op v = r := ⟨_, rfl⟩
  obtain ⟨r, hr⟩ := hres
  rw [hr]
  have HR := Lib.hid hr
  clear hr
  unfold aggV at hc ⊢
  unfold W2 at hc
  have his : ∃ z, isTF v = z := ⟨_, rfl⟩
  obtain ⟨is, his⟩ := his
  have hx : ∃ z, isT v = z := ⟨_, rfl⟩
  obtain ⟨x, hx⟩ := hx
  rw [his, hx] at hc
  have HX := Lib.hid (And.intro his hx)
  clear his hx
  have hvo : ∃ z, v.op = z := ⟨_, rfl⟩
  obtain ⟨vo, hvo⟩ := hvo
  have hvn : ∃ z, v.num = z := ⟨_, rfl⟩
  obtain ⟨vn, hvn⟩ := hvn
  rw [hvo, hvn] at hc HW ⊢
  have HV := Lib.hid (And.intro hvo hvn)
  clear hvo hvn
  generalize hkl : v.kids.length = L at *
  have HL := Lib.hid hkl
  clear hkl
  go_enter Tryd.func24, Tryd.ntmps24
  go_wp2_with fail
  refine hc.mono ?_
  clear hc
  rintro e w3 ⟨rfl, hb3⟩
  have hW := HW.out
  have hB3 := hW.1.trans (hb3.mono hW.1.size)
  have hl3 := (hb3.block _ (by have := hW.2.2.2; omega)).trans hW.2.1
  have hz3 := (hb3.block _ hW.2.2.2).trans hW.2.2.1
  have h13 : w.heap.size + 1 < w3.heap.size := heap_lt hz3
  obtain ⟨p0, p1, p2⟩ := cellsOf3 hl3
  obtain ⟨q0, q1, q2⟩ := cellsOf3 hz3
  have qf := frozenOf hz3
  have H3 := Lib.hid (And.intro hB3 (And.intro hl3 hz3))
  clear hb3 hW hB3 hl3 hz3
  cases h1 : (op.toList == lNeg) with
  | true =>
    have h2 := no_beq h1 (show ((lNeg : List UInt8) == lNot) = false from rfl)
    have h3 := no_beq h1 (show ((lNeg : List UInt8) == lFst) = false from rfl)
    have h4 := no_beq h1 (show ((lNeg : List UInt8) == lSnd) = false from rfl)
    cases hi : (vo.toList == lI) with
    | true =>
      have hc : Calls Tryd.prog _ _ _ fun e w' => e = .returned (.agg #[.string bI, .int .i64 (wrap64 (-vn)), nilS]) ∧ Below _ _ w' := Int_in w3 (wrap64 (-vn))
      go_wp2_with fail
      refine hc.mono ?_
      clear hc
      rintro e w4 ⟨rfl, hb4⟩
      have hz4 := (hb4.block _ h13).trans H3.out.2.2
      have H4 := Lib.hid (And.intro (H3.out.1.trans (hb4.mono H3.out.1.size)) hz4)
      obtain ⟨x0, x1, x2⟩ := cellsOf3 hz4
      have xf := frozenOf hz4
      clear hb4 hz4 p0 p1 p2 q0 q1 q2 qf
      go_wp2_with fail
      have HS := Lib.hid (set3 H4.out.2 (.string bI) (.int .i64 (wrap64 (-vn))) nilS)
      obtain ⟨r0, r1, r2⟩ := cellsOf3 HS.out
      have hone : oneF op v = (vInt (wrap64 (-vn)), true) := by
        simp only [oneF, HV.out.1, HV.out.2, h1, hi, Bool.and_self, Bool.false_and, Bool.and_false, Bool.true_and, Bool.false_eq_true, if_false, if_true]
      exact bodyPost_ret (v := .tuple #[.agg #[.string bI, .int .i64 (wrap64 (-vn)), nilS], .bool true]) (by simp [results, Tryd.results24, go_sem, r0, r1, r2]) rfl ⟨⟨nilS, by rw [← HR.out, hone]; rfl, by rw [← HR.out, hone]; exact .leaf⟩, set_below H4.out.1 (by omega) _ _ _⟩
    | false =>
      go_wp2_with fail
      have HS := Lib.hid (set3 H3.out.2.2 (.string ⟨#[]⟩) (.int .i64 0) nilS)
      obtain ⟨r0, r1, r2⟩ := cellsOf3 HS.out
      have hone : oneF op v = (vZero, false) := by
        simp only [oneF, HV.out.1, HV.out.2, h1, hi, h2, h3, h4, Bool.and_self, Bool.false_and, Bool.and_false, Bool.true_and, Bool.false_eq_true, if_false, if_true]
      exact bodyPost_ret (v := .tuple #[.agg #[.string ⟨#[]⟩, .int .i64 0, nilS], .bool false]) (by simp [results, Tryd.results24, go_sem, r0, r1, r2]) rfl ⟨⟨nilS, by rw [← HR.out, hone]; rfl, by rw [← HR.out, hone]; exact .leaf⟩, set_below H3.out.1 (by omega) _ _ _⟩
  | false =>
    cases h2 : (op.toList == lNot) with
    | true =>
      have h3 := no_beq h2 (show ((lNot : List UInt8) == lFst) = false from rfl)
      have h4 := no_beq h2 (show ((lNot : List UInt8) == lSnd) = false from rfl)
      cases is with
      | true =>
        cases hF : (vo.toList == lF) with
        | true =>
          have hxx := isTF_F (v := v) (by rw [HV.out.1]; exact hF)
          rw [HX.out.2] at hxx
          subst hxx
          have hc : Calls Tryd.prog _ _ _ fun e w' => e = .returned (.agg #[.string bT, .int .i64 (0), nilS]) ∧ Below _ _ w' := Bool_in w3 true
          go_wp2_with fail
          refine hc.mono ?_
          clear hc
          rintro e w4 ⟨rfl, hb4⟩
          have hz4 := (hb4.block _ h13).trans H3.out.2.2
          have H4 := Lib.hid (And.intro (H3.out.1.trans (hb4.mono H3.out.1.size)) hz4)
          obtain ⟨x0, x1, x2⟩ := cellsOf3 hz4
          have xf := frozenOf hz4
          clear hb4 hz4 p0 p1 p2 q0 q1 q2 qf
          go_wp2_with fail
          have HS := Lib.hid (set3 H4.out.2 (.string bT) (.int .i64 (0)) nilS)
          obtain ⟨r0, r1, r2⟩ := cellsOf3 HS.out
          have hone : oneF op v = (vBool true, true) := by
            simp only [oneF, HV.out.1, HV.out.2, h1, h2, HX.out.1, hF, Bool.and_self, Bool.false_and, Bool.and_false, Bool.true_and, Bool.false_eq_true, if_false, if_true]
          exact bodyPost_ret (v := .tuple #[.agg #[.string bT, .int .i64 (0), nilS], .bool true]) (by simp [results, Tryd.results24, go_sem, r0, r1, r2]) rfl ⟨⟨nilS, by rw [← HR.out, hone]; rfl, by rw [← HR.out, hone]; exact .leaf⟩, set_below H4.out.1 (by omega) _ _ _⟩
        | false =>
          have hxx := isTF_T HX.out.1 (by rw [HV.out.1]; exact hF)
          rw [HX.out.2] at hxx
          subst hxx
          have hc : Calls Tryd.prog _ _ _ fun e w' => e = .returned (.agg #[.string bF, .int .i64 (0), nilS]) ∧ Below _ _ w' := Bool_in w3 false
          go_wp2_with fail
          refine hc.mono ?_
          clear hc
          rintro e w4 ⟨rfl, hb4⟩
          have hz4 := (hb4.block _ h13).trans H3.out.2.2
          have H4 := Lib.hid (And.intro (H3.out.1.trans (hb4.mono H3.out.1.size)) hz4)
          obtain ⟨x0, x1, x2⟩ := cellsOf3 hz4
          have xf := frozenOf hz4
          clear hb4 hz4 p0 p1 p2 q0 q1 q2 qf
          go_wp2_with fail
          have HS := Lib.hid (set3 H4.out.2 (.string bF) (.int .i64 (0)) nilS)
          obtain ⟨r0, r1, r2⟩ := cellsOf3 HS.out
          have hone : oneF op v = (vBool false, true) := by
            simp only [oneF, HV.out.1, HV.out.2, h1, h2, HX.out.1, hF, Bool.and_self, Bool.false_and, Bool.and_false, Bool.true_and, Bool.false_eq_true, if_false, if_true]
          exact bodyPost_ret (v := .tuple #[.agg #[.string bF, .int .i64 (0), nilS], .bool true]) (by simp [results, Tryd.results24, go_sem, r0, r1, r2]) rfl ⟨⟨nilS, by rw [← HR.out, hone]; rfl, by rw [← HR.out, hone]; exact .leaf⟩, set_below H4.out.1 (by omega) _ _ _⟩
      | false =>
        go_wp2_with fail
        have HS := Lib.hid (set3 H3.out.2.2 (.string ⟨#[]⟩) (.int .i64 0) nilS)
        obtain ⟨r0, r1, r2⟩ := cellsOf3 HS.out
        have hone : oneF op v = (vZero, false) := by
          simp only [oneF, HV.out.1, HV.out.2, h1, h2, HX.out.1, h3, h4, Bool.and_self, Bool.false_and, Bool.and_false, Bool.true_and, Bool.false_eq_true, if_false, if_true]
        exact bodyPost_ret (v := .tuple #[.agg #[.string ⟨#[]⟩, .int .i64 0, nilS], .bool false]) (by simp [results, Tryd.results24, go_sem, r0, r1, r2]) rfl ⟨⟨nilS, by rw [← HR.out, hone]; rfl, by rw [← HR.out, hone]; exact .leaf⟩, set_below H3.out.1 (by omega) _ _ _⟩
    | false =>
      cases h3 : (op.toList == lFst) with
      | true =>
        have h4 := no_beq h3 (show ((lFst : List UInt8) == lSnd) = false from rfl)
        cases hp : (vo.toList == lP) with
        | true =>
          have hL := HK.out (by rw [HV.out.1]; exact hp)
          subst hL
          obtain ⟨b, off, s0, hA, ⟨a1, a2, a3⟩, hat0⟩ := HKI.out 0 (by decide)
          subst hA
          obtain ⟨A0, c0, rfl, _, _⟩ := hat0.inv
          simp only [Nat.zero_mul, Nat.add_zero, Nat.one_mul] at a1 a2 a3
          have HA0 := Lib.hid hat0
          have hbl : b < w.heap.size := cell_lt a1
          have i1 := (World.cell?_of_block (H3.out.1.block b hbl)).trans a1
          have i2 := (World.cell?_of_block (H3.out.1.block b hbl)).trans a2
          have i3 := (World.cell?_of_block (H3.out.1.block b hbl)).trans a3
          clear a1 a2 a3 hat0
          generalize hk0 : v.kids.getD 0 default = k0 at *
          have HK0 := Lib.hid hk0
          clear hk0
          go_wp2_with fail
          have HS := Lib.hid (set3 H3.out.2.2 (.string k0.op) (.int .i64 k0.num) (.slice A0 k0.kids.length c0))
          obtain ⟨r0, r1, r2⟩ := cellsOf3 HS.out
          have hbz := set_below H3.out.1 (show w.heap.size ≤ w.heap.size + 1 by omega) (.string k0.op) (.int .i64 k0.num) (.slice A0 k0.kids.length c0)
          have hone : oneF op v = (k0, true) := by
            simp only [oneF, HV.out.1, h1, h2, h3, hp, Bool.and_self, Bool.false_and, Bool.and_false, Bool.true_and, Bool.false_eq_true, if_false, if_true]
            rw [HK0.out]
          exact bodyPost_ret (v := .tuple #[.agg #[.string k0.op, .int .i64 k0.num, .slice A0 k0.kids.length c0], .bool true]) (by simp [results, Tryd.results24, go_sem, r0, r1, r2]) rfl ⟨⟨_, by rw [← HR.out, hone], by rw [← HR.out, hone]; exact (HA0.out.under hbz).weak fun _ h => .inl h⟩, hbz⟩
        | false =>
          go_wp2_with fail
          have HS := Lib.hid (set3 H3.out.2.2 (.string ⟨#[]⟩) (.int .i64 0) nilS)
          obtain ⟨r0, r1, r2⟩ := cellsOf3 HS.out
          have hone : oneF op v = (vZero, false) := by
            simp only [oneF, HV.out.1, HV.out.2, h1, h2, h3, hp, h4, Bool.and_self, Bool.false_and, Bool.and_false, Bool.true_and, Bool.false_eq_true, if_false, if_true]
          exact bodyPost_ret (v := .tuple #[.agg #[.string ⟨#[]⟩, .int .i64 0, nilS], .bool false]) (by simp [results, Tryd.results24, go_sem, r0, r1, r2]) rfl ⟨⟨nilS, by rw [← HR.out, hone]; rfl, by rw [← HR.out, hone]; exact .leaf⟩, set_below H3.out.1 (by omega) _ _ _⟩
      | false =>
        cases h4 : (op.toList == lSnd) with
        | true =>
          cases hp : (vo.toList == lP) with
          | true =>
            have hL := HK.out (by rw [HV.out.1]; exact hp)
            subst hL
            obtain ⟨b, off, s0, hA, ⟨a1, a2, a3⟩, hat0⟩ := HKI.out 1 (by decide)
            subst hA
            obtain ⟨A0, c0, rfl, _, _⟩ := hat0.inv
            simp only [Nat.zero_mul, Nat.add_zero, Nat.one_mul] at a1 a2 a3
            have HA0 := Lib.hid hat0
            have hbl : b < w.heap.size := cell_lt a1
            have i1 := (World.cell?_of_block (H3.out.1.block b hbl)).trans a1
            have i2 := (World.cell?_of_block (H3.out.1.block b hbl)).trans a2
            have i3 := (World.cell?_of_block (H3.out.1.block b hbl)).trans a3
            clear a1 a2 a3 hat0
            generalize hk0 : v.kids.getD 1 default = k0 at *
            have HK0 := Lib.hid hk0
            clear hk0
            go_wp2_with fail
            have HS := Lib.hid (set3 H3.out.2.2 (.string k0.op) (.int .i64 k0.num) (.slice A0 k0.kids.length c0))
            obtain ⟨r0, r1, r2⟩ := cellsOf3 HS.out
            have hbz := set_below H3.out.1 (show w.heap.size ≤ w.heap.size + 1 by omega) (.string k0.op) (.int .i64 k0.num) (.slice A0 k0.kids.length c0)
            have hone : oneF op v = (k0, true) := by
              simp only [oneF, HV.out.1, h1, h2, h3, h4, hp, Bool.and_self, Bool.false_and, Bool.and_false, Bool.true_and, Bool.false_eq_true, if_false, if_true]
              rw [HK0.out]
            exact bodyPost_ret (v := .tuple #[.agg #[.string k0.op, .int .i64 k0.num, .slice A0 k0.kids.length c0], .bool true]) (by simp [results, Tryd.results24, go_sem, r0, r1, r2]) rfl ⟨⟨_, by rw [← HR.out, hone], by rw [← HR.out, hone]; exact (HA0.out.under hbz).weak fun _ h => .inl h⟩, hbz⟩
          | false =>
            go_wp2_with fail
            have HS := Lib.hid (set3 H3.out.2.2 (.string ⟨#[]⟩) (.int .i64 0) nilS)
            obtain ⟨r0, r1, r2⟩ := cellsOf3 HS.out
            have hone : oneF op v = (vZero, false) := by
              simp only [oneF, HV.out.1, HV.out.2, h1, h2, h3, h4, hp, Bool.and_self, Bool.false_and, Bool.and_false, Bool.true_and, Bool.false_eq_true, if_false, if_true]
            exact bodyPost_ret (v := .tuple #[.agg #[.string ⟨#[]⟩, .int .i64 0, nilS], .bool false]) (by simp [results, Tryd.results24, go_sem, r0, r1, r2]) rfl ⟨⟨nilS, by rw [← HR.out, hone]; rfl, by rw [← HR.out, hone]; exact .leaf⟩, set_below H3.out.1 (by omega) _ _ _⟩
        | false =>
          go_wp2_with fail
          have HS := Lib.hid (set3 H3.out.2.2 (.string ⟨#[]⟩) (.int .i64 0) nilS)
          obtain ⟨r0, r1, r2⟩ := cellsOf3 HS.out
          have hone : oneF op v = (vZero, false) := by
            simp only [oneF, HV.out.1, HV.out.2, h1, h2, h3, h4, Bool.and_self, Bool.false_and, Bool.and_false, Bool.true_and, Bool.false_eq_true, if_false, if_true]
          exact bodyPost_ret (v := .tuple #[.agg #[.string ⟨#[]⟩, .int .i64 0, nilS], .bool false]) (by simp [results, Tryd.results24, go_sem, r0, r1, r2]) rfl ⟨⟨nilS, by rw [← HR.out, hone]; rfl, by rw [← HR.out, hone]; exact .leaf⟩, set_below H3.out.1 (by omega) _ _ _⟩
set_option maxRecDepth 100000 in
set_option maxHeartbeats 1000000 in
theorem ROne_in {P : Nat → Prop} (op : ByteArray) (v : V) (s : Value) (w : World) (hk : (v.op.toList == lP) = true → v.kids.length = 2) (h : AtP P w v s) :
    Calls Tryd.prog 28 #[.string op, aggV v s] w fun e w' => (∃ s', e = .returned (.tuple #[aggV (oneF op v).1 s', .bool (oneF op v).2]) ∧ AtP (fun k => P k ∨ w.heap.size ≤ k) w' (oneF op v).1 s') ∧ Below w.heap.size w w' := by
  obtain ⟨A, cap, rfl, hmax, hkid⟩ := h.inv
  obtain ⟨w0, w1, w2, w3⟩ := W2_facts w 30 v.op v.num A v.kids.length cap
  have hc := RTruth_in v _ (W2 w 30 v.op v.num A v.kids.length cap) ⟨A, v.kids.length, cap, rfl⟩
  have HW := Lib.hid (And.intro w0 (And.intro w1 (And.intro w2 w3)))
  have HK := Lib.hid hk
  have HKI := Lib.hid hkid
  clear hk hkid h w0 w1 w2 w3
  unfold W2 at HW
  have hres : ∃ r, oneF op v = r := ⟨_, rfl⟩
  obtain ⟨r, hr⟩ := hres
  rw [hr]
  have HR := Lib.hid hr
  clear hr
  unfold aggV at hc ⊢
  unfold W2 at hc
  have his : ∃ z, isTF v = z := ⟨_, rfl⟩
  obtain ⟨is, his⟩ := his
  rw [his] at hc
  have HX := Lib.hid his
  clear his
  have hvo : ∃ z, v.op = z := ⟨_, rfl⟩
  obtain ⟨vo, hvo⟩ := hvo
  have hvn : ∃ z, v.num = z := ⟨_, rfl⟩
  obtain ⟨vn, hvn⟩ := hvn
  rw [hvo, hvn] at hc HW ⊢
  have HV := Lib.hid (And.intro hvo hvn)
  clear hvo hvn
  generalize hkl : v.kids.length = L at *
  have HL := Lib.hid hkl
  clear hkl
  go_enter Tryd.func28, Tryd.ntmps28
  go_wp2_with fail
  refine hc.mono ?_
  clear hc
  rintro e w3 ⟨rfl, hb3⟩
  have hW := HW.out
  have hB3 := hW.1.trans (hb3.mono hW.1.size)
  have hl3 := (hb3.block _ (by have := hW.2.2.2; omega)).trans hW.2.1
  have hz3 := (hb3.block _ hW.2.2.2).trans hW.2.2.1
  have h13 : w.heap.size + 1 < w3.heap.size := heap_lt hz3
  obtain ⟨p0, p1, p2⟩ := cellsOf3 hl3
  obtain ⟨q0, q1, q2⟩ := cellsOf3 hz3
  have qf := frozenOf hz3
  have H3 := Lib.hid (And.intro hB3 (And.intro hl3 hz3))
  clear hb3 hW hB3 hl3 hz3
  cases h1 : (op.toList == lNeg) with
  | true =>
    have h2 := no_beq h1 (show ((lNeg : List UInt8) == lNot) = false from rfl)
    have h3 := no_beq h1 (show ((lNeg : List UInt8) == lFst) = false from rfl)
    have h4 := no_beq h1 (show ((lNeg : List UInt8) == lSnd) = false from rfl)
    cases hi : (vo.toList == lI) with
    | true =>
      have hc : Calls Tryd.prog _ _ _ fun e w' => e = .returned (.agg #[.string bI, .int .i64 (wrap64 (-vn)), nilS]) ∧ Below _ _ w' := RInt_in w3 (wrap64 (-vn))
      go_wp2_with fail
      refine hc.mono ?_
      clear hc
      rintro e w4 ⟨rfl, hb4⟩
      have hz4 := (hb4.block _ h13).trans H3.out.2.2
      have H4 := Lib.hid (And.intro (H3.out.1.trans (hb4.mono H3.out.1.size)) hz4)
      obtain ⟨x0, x1, x2⟩ := cellsOf3 hz4
      have xf := frozenOf hz4
      clear hb4 hz4 p0 p1 p2 q0 q1 q2 qf
      go_wp2_with fail
      have HS := Lib.hid (set3 H4.out.2 (.string bI) (.int .i64 (wrap64 (-vn))) nilS)
      obtain ⟨r0, r1, r2⟩ := cellsOf3 HS.out
      have hone : oneF op v = (vInt (wrap64 (-vn)), true) := by
        simp only [oneF, HV.out.1, HV.out.2, h1, hi, Bool.and_self, Bool.false_and, Bool.and_false, Bool.true_and, Bool.false_eq_true, if_false, if_true]
      exact bodyPost_ret (v := .tuple #[.agg #[.string bI, .int .i64 (wrap64 (-vn)), nilS], .bool true]) (by simp [results, Tryd.results28, go_sem, r0, r1, r2]) rfl ⟨⟨nilS, by rw [← HR.out, hone]; rfl, by rw [← HR.out, hone]; exact .leaf⟩, set_below H4.out.1 (by omega) _ _ _⟩
    | false =>
      go_wp2_with fail
      have HS := Lib.hid (set3 H3.out.2.2 (.string ⟨#[]⟩) (.int .i64 0) nilS)
      obtain ⟨r0, r1, r2⟩ := cellsOf3 HS.out
      have hone : oneF op v = (vZero, false) := by
        simp only [oneF, HV.out.1, HV.out.2, h1, hi, h2, h3, h4, Bool.and_self, Bool.false_and, Bool.and_false, Bool.true_and, Bool.false_eq_true, if_false, if_true]
      exact bodyPost_ret (v := .tuple #[.agg #[.string ⟨#[]⟩, .int .i64 0, nilS], .bool false]) (by simp [results, Tryd.results28, go_sem, r0, r1, r2]) rfl ⟨⟨nilS, by rw [← HR.out, hone]; rfl, by rw [← HR.out, hone]; exact .leaf⟩, set_below H3.out.1 (by omega) _ _ _⟩
  | false =>
    cases h2 : (op.toList == lNot) with
    | true =>
      have h3 := no_beq h2 (show ((lNot : List UInt8) == lFst) = false from rfl)
      have h4 := no_beq h2 (show ((lNot : List UInt8) == lSnd) = false from rfl)
      cases is with
      | true =>
        cases hF : (vo.toList == lF) with
        | true =>
          have hc : Calls Tryd.prog _ _ _ fun e w' => e = .returned (.agg #[.string bT, .int .i64 (0), nilS]) ∧ Below _ _ w' := RBool_in w3 true
          go_wp2_with fail
          refine hc.mono ?_
          clear hc
          rintro e w4 ⟨rfl, hb4⟩
          have hz4 := (hb4.block _ h13).trans H3.out.2.2
          have H4 := Lib.hid (And.intro (H3.out.1.trans (hb4.mono H3.out.1.size)) hz4)
          obtain ⟨x0, x1, x2⟩ := cellsOf3 hz4
          have xf := frozenOf hz4
          clear hb4 hz4 p0 p1 p2 q0 q1 q2 qf
          go_wp2_with fail
          have HS := Lib.hid (set3 H4.out.2 (.string bT) (.int .i64 (0)) nilS)
          obtain ⟨r0, r1, r2⟩ := cellsOf3 HS.out
          have hone : oneF op v = (vBool true, true) := by
            simp only [oneF, HV.out.1, HV.out.2, h1, h2, HX.out, hF, Bool.and_self, Bool.false_and, Bool.and_false, Bool.true_and, Bool.false_eq_true, if_false, if_true]
          exact bodyPost_ret (v := .tuple #[.agg #[.string bT, .int .i64 (0), nilS], .bool true]) (by simp [results, Tryd.results28, go_sem, r0, r1, r2]) rfl ⟨⟨nilS, by rw [← HR.out, hone]; rfl, by rw [← HR.out, hone]; exact .leaf⟩, set_below H4.out.1 (by omega) _ _ _⟩
        | false =>
          have hc : Calls Tryd.prog _ _ _ fun e w' => e = .returned (.agg #[.string bF, .int .i64 (0), nilS]) ∧ Below _ _ w' := RBool_in w3 false
          go_wp2_with fail
          refine hc.mono ?_
          clear hc
          rintro e w4 ⟨rfl, hb4⟩
          have hz4 := (hb4.block _ h13).trans H3.out.2.2
          have H4 := Lib.hid (And.intro (H3.out.1.trans (hb4.mono H3.out.1.size)) hz4)
          obtain ⟨x0, x1, x2⟩ := cellsOf3 hz4
          have xf := frozenOf hz4
          clear hb4 hz4 p0 p1 p2 q0 q1 q2 qf
          go_wp2_with fail
          have HS := Lib.hid (set3 H4.out.2 (.string bF) (.int .i64 (0)) nilS)
          obtain ⟨r0, r1, r2⟩ := cellsOf3 HS.out
          have hone : oneF op v = (vBool false, true) := by
            simp only [oneF, HV.out.1, HV.out.2, h1, h2, HX.out, hF, Bool.and_self, Bool.false_and, Bool.and_false, Bool.true_and, Bool.false_eq_true, if_false, if_true]
          exact bodyPost_ret (v := .tuple #[.agg #[.string bF, .int .i64 (0), nilS], .bool true]) (by simp [results, Tryd.results28, go_sem, r0, r1, r2]) rfl ⟨⟨nilS, by rw [← HR.out, hone]; rfl, by rw [← HR.out, hone]; exact .leaf⟩, set_below H4.out.1 (by omega) _ _ _⟩
      | false =>
        go_wp2_with fail
        have HS := Lib.hid (set3 H3.out.2.2 (.string ⟨#[]⟩) (.int .i64 0) nilS)
        obtain ⟨r0, r1, r2⟩ := cellsOf3 HS.out
        have hone : oneF op v = (vZero, false) := by
          simp only [oneF, HV.out.1, HV.out.2, h1, h2, HX.out, h3, h4, Bool.and_self, Bool.false_and, Bool.and_false, Bool.true_and, Bool.false_eq_true, if_false, if_true]
        exact bodyPost_ret (v := .tuple #[.agg #[.string ⟨#[]⟩, .int .i64 0, nilS], .bool false]) (by simp [results, Tryd.results28, go_sem, r0, r1, r2]) rfl ⟨⟨nilS, by rw [← HR.out, hone]; rfl, by rw [← HR.out, hone]; exact .leaf⟩, set_below H3.out.1 (by omega) _ _ _⟩
    | false =>
      cases h3 : (op.toList == lFst) with
      | true =>
        have h4 := no_beq h3 (show ((lFst : List UInt8) == lSnd) = false from rfl)
        cases hp : (vo.toList == lP) with
        | true =>
          have hL := HK.out (by rw [HV.out.1]; exact hp)
          subst hL
          obtain ⟨b, off, s0, hA, ⟨a1, a2, a3⟩, hat0⟩ := HKI.out 0 (by decide)
          subst hA
          obtain ⟨A0, c0, rfl, _, _⟩ := hat0.inv
          simp only [Nat.zero_mul, Nat.add_zero, Nat.one_mul] at a1 a2 a3
          have HA0 := Lib.hid hat0
          have hbl : b < w.heap.size := cell_lt a1
          have i1 := (World.cell?_of_block (H3.out.1.block b hbl)).trans a1
          have i2 := (World.cell?_of_block (H3.out.1.block b hbl)).trans a2
          have i3 := (World.cell?_of_block (H3.out.1.block b hbl)).trans a3
          clear a1 a2 a3 hat0
          generalize hk0 : v.kids.getD 0 default = k0 at *
          have HK0 := Lib.hid hk0
          clear hk0
          go_wp2_with fail
          have HS := Lib.hid (set3 H3.out.2.2 (.string k0.op) (.int .i64 k0.num) (.slice A0 k0.kids.length c0))
          obtain ⟨r0, r1, r2⟩ := cellsOf3 HS.out
          have hbz := set_below H3.out.1 (show w.heap.size ≤ w.heap.size + 1 by omega) (.string k0.op) (.int .i64 k0.num) (.slice A0 k0.kids.length c0)
          have hone : oneF op v = (k0, true) := by
            simp only [oneF, HV.out.1, h1, h2, h3, hp, Bool.and_self, Bool.false_and, Bool.and_false, Bool.true_and, Bool.false_eq_true, if_false, if_true]
            rw [HK0.out]
          exact bodyPost_ret (v := .tuple #[.agg #[.string k0.op, .int .i64 k0.num, .slice A0 k0.kids.length c0], .bool true]) (by simp [results, Tryd.results28, go_sem, r0, r1, r2]) rfl ⟨⟨_, by rw [← HR.out, hone], by rw [← HR.out, hone]; exact (HA0.out.under hbz).weak fun _ h => .inl h⟩, hbz⟩
        | false =>
          go_wp2_with fail
          have HS := Lib.hid (set3 H3.out.2.2 (.string ⟨#[]⟩) (.int .i64 0) nilS)
          obtain ⟨r0, r1, r2⟩ := cellsOf3 HS.out
          have hone : oneF op v = (vZero, false) := by
            simp only [oneF, HV.out.1, HV.out.2, h1, h2, h3, hp, h4, Bool.and_self, Bool.false_and, Bool.and_false, Bool.true_and, Bool.false_eq_true, if_false, if_true]
          exact bodyPost_ret (v := .tuple #[.agg #[.string ⟨#[]⟩, .int .i64 0, nilS], .bool false]) (by simp [results, Tryd.results28, go_sem, r0, r1, r2]) rfl ⟨⟨nilS, by rw [← HR.out, hone]; rfl, by rw [← HR.out, hone]; exact .leaf⟩, set_below H3.out.1 (by omega) _ _ _⟩
      | false =>
        cases h4 : (op.toList == lSnd) with
        | true =>
          cases hp : (vo.toList == lP) with
          | true =>
            have hL := HK.out (by rw [HV.out.1]; exact hp)
            subst hL
            obtain ⟨b, off, s0, hA, ⟨a1, a2, a3⟩, hat0⟩ := HKI.out 1 (by decide)
            subst hA
            obtain ⟨A0, c0, rfl, _, _⟩ := hat0.inv
            simp only [Nat.zero_mul, Nat.add_zero, Nat.one_mul] at a1 a2 a3
            have HA0 := Lib.hid hat0
            have hbl : b < w.heap.size := cell_lt a1
            have i1 := (World.cell?_of_block (H3.out.1.block b hbl)).trans a1
            have i2 := (World.cell?_of_block (H3.out.1.block b hbl)).trans a2
            have i3 := (World.cell?_of_block (H3.out.1.block b hbl)).trans a3
            clear a1 a2 a3 hat0
            generalize hk0 : v.kids.getD 1 default = k0 at *
            have HK0 := Lib.hid hk0
            clear hk0
            go_wp2_with fail
            have HS := Lib.hid (set3 H3.out.2.2 (.string k0.op) (.int .i64 k0.num) (.slice A0 k0.kids.length c0))
            obtain ⟨r0, r1, r2⟩ := cellsOf3 HS.out
            have hbz := set_below H3.out.1 (show w.heap.size ≤ w.heap.size + 1 by omega) (.string k0.op) (.int .i64 k0.num) (.slice A0 k0.kids.length c0)
            have hone : oneF op v = (k0, true) := by
              simp only [oneF, HV.out.1, h1, h2, h3, h4, hp, Bool.and_self, Bool.false_and, Bool.and_false, Bool.true_and, Bool.false_eq_true, if_false, if_true]
              rw [HK0.out]
            exact bodyPost_ret (v := .tuple #[.agg #[.string k0.op, .int .i64 k0.num, .slice A0 k0.kids.length c0], .bool true]) (by simp [results, Tryd.results28, go_sem, r0, r1, r2]) rfl ⟨⟨_, by rw [← HR.out, hone], by rw [← HR.out, hone]; exact (HA0.out.under hbz).weak fun _ h => .inl h⟩, hbz⟩
          | false =>
            go_wp2_with fail
            have HS := Lib.hid (set3 H3.out.2.2 (.string ⟨#[]⟩) (.int .i64 0) nilS)
            obtain ⟨r0, r1, r2⟩ := cellsOf3 HS.out
            have hone : oneF op v = (vZero, false) := by
              simp only [oneF, HV.out.1, HV.out.2, h1, h2, h3, h4, hp, Bool.and_self, Bool.false_and, Bool.and_false, Bool.true_and, Bool.false_eq_true, if_false, if_true]
            exact bodyPost_ret (v := .tuple #[.agg #[.string ⟨#[]⟩, .int .i64 0, nilS], .bool false]) (by simp [results, Tryd.results28, go_sem, r0, r1, r2]) rfl ⟨⟨nilS, by rw [← HR.out, hone]; rfl, by rw [← HR.out, hone]; exact .leaf⟩, set_below H3.out.1 (by omega) _ _ _⟩
        | false =>
          go_wp2_with fail
          have HS := Lib.hid (set3 H3.out.2.2 (.string ⟨#[]⟩) (.int .i64 0) nilS)
          obtain ⟨r0, r1, r2⟩ := cellsOf3 HS.out
          have hone : oneF op v = (vZero, false) := by
            simp only [oneF, HV.out.1, HV.out.2, h1, h2, h3, h4, Bool.and_self, Bool.false_and, Bool.and_false, Bool.true_and, Bool.false_eq_true, if_false, if_true]
          exact bodyPost_ret (v := .tuple #[.agg #[.string ⟨#[]⟩, .int .i64 0, nilS], .bool false]) (by simp [results, Tryd.results28, go_sem, r0, r1, r2]) rfl ⟨⟨nilS, by rw [← HR.out, hone]; rfl, by rw [← HR.out, hone]; exact .leaf⟩, set_below H3.out.1 (by omega) _ _ _⟩
end Go.Proofs.YtofijodndilmbaaDoor
