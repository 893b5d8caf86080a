/- A walk through an expression. PRINTED by gentre5.py of this folder. -/
import Derived.Test.YtnaednfdaaiciaaTre4
import Derived.RangeFuncNested
import Derived.RangeFuncBound
import Derived.RangeFuncCalls
import Derived.RangeFuncLeaves
import Derived.Shelf.Abstract
import Derived.OwnWalkIn
import Derived.TacticsInMore
import Derived.LoopNIn
import Derived.LoopIn
set_option linter.unusedVariables false
set_option linter.unusedSimpArgs false
namespace Go.Proofs.Ytnaednfdaaiciaa
open Go.RowKit Go.Shelf
open TreP (WF nd inT deep places fits)
attribute [local go_sem] Oper.semAt_some

/-- From W to W' what is not one's own lies as it lay, and has not become one's own. -/
structure Kept (own : World → Nat → Prop) (W W' : World) : Prop where
  size : W.heap.size ≤ W'.heap.size
  same : ∀ k, k < W.heap.size → ¬ own W k → W'.heap[k]? = W.heap[k]? ∧ ¬ own W' k
theorem Kept.refl (own : World → Nat → Prop) (W : World) : Kept own W W := ⟨Nat.le_refl _, fun _ _ h => ⟨rfl, h⟩⟩
theorem Kept.trans {own : World → Nat → Prop} {A B C : World} (h : Kept own A B) (k : Kept own B C) : Kept own A C :=
  ⟨Nat.le_trans h.size k.size, fun i hi ho => by
    obtain ⟨h1, h2⟩ := h.same i hi ho
    obtain ⟨h3, h4⟩ := k.same i (Nat.lt_of_lt_of_le hi h.size) h2
    exact ⟨h3.trans h1, h4⟩⟩
theorem Kept.cell {own : World → Nat → Prop} {W W' : World} (h : Kept own W W') {a : Addr} {v : Value} (hc : W.cell? a = some v) (ho : ¬ own W a.block) : W'.cell? a = some v :=
  (World.cell?_of_block (h.same _ (cell_lt hc) ho).1).trans hc
theorem Own.kept {own : World → Nat → Prop} {W W' : World} {B : Nat} {s : Value} {l : List Int} (h : Own W B s l) (hk : Kept own W W') (ho : ∀ g, s.ownBlock = some g → ¬ own W g) : Own W' B s l :=
  owns_block h fun g hg => (hk.same g (h.lt g hg).2 (ho g hg)).1

/-- What a loop's body leaves: J, by the places that have come. -/
structure Body (own : World → Nat → Prop) (W0 : World) (J : List Int → World → Prop) : Prop where
  base : ∀ pre W, J pre W → Below W0.heap.size W0 W
  lt : ∀ pre W k, J pre W → own W k → k < W.heap.size
  grow : ∀ pre W W', J pre W → Below W.heap.size W W' → J pre W' ∧ ∀ k, own W' k → own W k
theorem Body.kept {own : World → Nat → Prop} {W0 : World} {J : List Int → World → Prop} (h : Body own W0 J) {pre : List Int} {W W' : World} (hj : J pre W) (hb : Below W.heap.size W W') : Kept own W W' :=
  ⟨hb.size, fun k hk ho => ⟨hb.block k hk, fun ho' => ho ((h.grow pre W W' hj hb).2 k ho')⟩⟩
theorem Body.fresh {own : World → Nat → Prop} {W0 : World} {J : List Int → World → Prop} (h : Body own W0 J) {pre : List Int} {W W' : World} (hj : J pre W) (hb : Below W.heap.size W W') {k : Nat} (hk : W.heap.size ≤ k) : ¬ own W' k :=
  fun ho => by have := h.lt pre W k hj ((h.grow pre W W' hj hb).2 k ho); omega

theorem placesTo_prefix {f : Nat} {m : List Nd} {i : Int} {l : List Int} {j : Nat} (h : j < l.length) {q : List Int} (hq : q <+: places f m (l.getD j 0)) : placesTo f m i (l.take j) ++ q <+: placesTo f m i l := by
  have h1 : placesTo f m i (l.take j) ++ q <+: placesTo f m i (l.take (j + 1)) := by
    rw [placesTo_succ h]
    obtain ⟨r, hr⟩ := hq
    exact ⟨r, by rw [List.append_assoc, hr]⟩
  refine h1.trans ?_
  unfold placesTo
  refine ⟨(l.drop (j + 1)).flatMap (places f m), ?_⟩
  rw [List.cons_append, ← List.flatMap_append, List.take_append_drop]

/-- A node's parts, handed out: a row that nobody else has. -/
def KidsOut (own : World → Nat → Prop) (W : World) (s : Value) (l : List Int) : Prop := Own W 0 s l ∧ ∀ g, s.ownBlock = some g → ¬ own W g

section
variable {own : World → Nat → Prop} {W0 : World} {J Jx : List Int → World → Prop} {B t : Nat} {v : Value} {ms : List (Nd × Value)}
set_option maxRecDepth 100000 in
set_option maxHeartbeats 8000000 in
/-- A walk through an expression, whatever the loop's body does. -/
theorem each_in (hF : Fine ms) (hT : TreeAt W0 B t v ms) (hJ : Body own W0 J) (l N : Nat)
    (hY : ∀ (m : Nat) (pre : List Int) (i : Int) (x : Nd) (s : Value) (W : World), J pre W → pre.length < N → inT ms.length i = true → x = nd (ms.map (·.1)) i → KidsOut own W s x.kids →
      YieldAt Fence.wide m Try.prog l #[.int .i64 i, ndV x s] W fun e W' => (e = .returned (.bool true) ∧ J (pre ++ [i]) W' ∧ Kept own W W') ∨ (e = .returned (.bool false) ∧ Jx (pre ++ [i]) W')) :
    ∀ (f : Nat), f ≤ 4000 → ∀ (i : Int) (pre : List Int) (W : World), (inT ms.length i = true → i < f) → pre.length + (places f (ms.map (·.1)) i).length ≤ N → J pre W →
    Calls Try.prog 21 #[.pointer (some ⟨t, 0, none⟩), .int .i64 i, .func (.yield l) #[] #[]] W fun e W' =>
      (e = .returned (.bool true) ∧ J (pre ++ places f (ms.map (·.1)) i) W' ∧ Kept own W W') ∨ (e = .returned (.bool false) ∧ ∃ q, q <+: places f (ms.map (·.1)) i ∧ Jx (pre ++ q) W') := by
  have miss : ∀ (f : Nat) (i : Int) (pre : List Int) (W : World), inT ms.length i = false → J pre W →
      Calls Try.prog 21 #[.pointer (some ⟨t, 0, none⟩), .int .i64 i, .func (.yield l) #[] #[]] W fun e W' =>
        (e = .returned (.bool true) ∧ J (pre ++ places f (ms.map (·.1)) i) W' ∧ Kept own W W') ∨ (e = .returned (.bool false) ∧ ∃ q, q <+: places f (ms.map (·.1)) i ∧ Jx (pre ++ q) W') := by
    intro f i pre W hc hj
    rw [TreP.places_le _ _ _ (by simpa using hc)]
    have hb1 := ((Below.refl W.heap.size W).alloc (Nat.le_refl _) (.cells #[.pointer (some ⟨t, 0, none⟩)] 26)).alloc (by simp) (.cells #[.func (.yield l) #[] #[]] 55)
    have hT1 := (hT.below (hJ.base _ _ hj)).below hb1
    have hg := Get_miss hT1 hc
    have HJ := Lib.hid (And.intro hJ hj)
    have HB1 := Lib.hid hb1
    clear hT1 hY hT hJ hj hb1
    go_enter Try.func21, Try.ntmps21
    go_wp2_with (go_at_call 7; refine hg.mono ?_; rintro e w' ⟨rfl, hb⟩; have HB2 := Lib.hid hb; clear hb)
    go_ret
    have hbx := (HB1.out.trans (HB2.out.mono HB1.out.size)).alloc (Nat.le_trans HB1.out.size HB2.out.size) (.cells #[.string ⟨#[]⟩, .int .i64 0, .int .i64 0, .string ⟨#[]⟩, .int .i64 0, .slice none 0 0] 33)
    exact .inl ⟨rfl, by rw [List.append_nil]; exact (HJ.out.1.grow _ _ _ HJ.out.2 hbx).1, HJ.out.1.kept HJ.out.2 hbx⟩
  intro f
  induction f with
  | zero =>
    intro _ i pre W hi hN hj
    refine miss 0 i pre W ?_ hj
    cases hc : inT ms.length i with
    | false => rfl
    | true => have := hi hc; rw [TreP.inT_iff] at hc; omega
  | succ f ih =>
    intro hf i pre W hi hN hj
    cases hc : inT ms.length i with
    | false => exact miss (f + 1) i pre W hc hj
    | true =>
      clear miss
      have hif := hi hc
      have hc' := TreP.inT_iff.1 hc
      obtain ⟨k, rfl⟩ := Int.eq_ofNat_of_zero_le hc'.1
      have hk : k < ms.length := by omega
      have hd : places (f + 1) (ms.map (·.1)) (k : Nat) = placesTo f (ms.map (·.1)) k ms[k].1.kids := by
        have hc2 : inT (ms.map (·.1)).length (k : Int) = true := by simpa using hc
        simp only [places, hc2, if_true, nd_map hk]; rfl
      rw [hd] at hN ⊢
      have hnd := nd_map hk
      have hlen := hF.kid _ (mem_kid hk)
      have hb1 := ((Below.refl W.heap.size W).alloc (Nat.le_refl _) (.cells #[.pointer (some ⟨t, 0, none⟩)] 26)).alloc (by simp) (.cells #[.func (.yield l) #[] #[]] 55)
      have f0 : ((W.alloc (.cells #[.pointer (some ⟨t, 0, none⟩)] 26)).alloc (.cells #[.func (.yield l) #[] #[]] 55)).heap[W.heap.size]? = some (.cells #[.pointer (some ⟨t, 0, none⟩)] 26) := by rw [Below.heap_alloc _ _ _ (by simp)]; exact last _ _
      have f1 : ((W.alloc (.cells #[.pointer (some ⟨t, 0, none⟩)] 26)).alloc (.cells #[.func (.yield l) #[] #[]] 55)).heap[W.heap.size + 1]? = some (.cells #[.func (.yield l) #[] #[]] 55) := by
        have := last (W.alloc (.cells #[.pointer (some ⟨t, 0, none⟩)] 26)) (.cells #[.func (.yield l) #[] #[]] 55)
        simpa using this
      have hs1 : ((W.alloc (.cells #[.pointer (some ⟨t, 0, none⟩)] 26)).alloc (.cells #[.func (.yield l) #[] #[]] 55)).heap.size = W.heap.size + 2 := by simp
      have hg := Get_hit ((hT.below (hJ.base _ _ hj)).below hb1) hk (by omega) (by have := hF.len; omega)
      have hlt : ∀ j, j < ms[k].1.kids.length → (inT ms.length (ms[k].1.kids.getD j 0) = true → ms[k].1.kids.getD j 0 < f) := fun j hj _ => by have := hF.kid_lt hk hj; omega
      generalize hp : ms[k] = p at *
      obtain ⟨⟨op, line, col, name, num, kids⟩, s0⟩ := p
      simp only at hlen hg hlt hnd hN ⊢
      have hN1 : pre.length < N := by unfold placesTo at hN; simp only [List.length_cons] at hN; omega
      have HNB := Lib.hid hN
      clear hN
      unfold ndV at hg
      simp only at hg
      have HG := Lib.hid hg
      have HLT := Lib.hid hlt
      have HJ := Lib.hid hJ
      have HJ0 := Lib.hid hj
      have HY := Lib.hid hY
      have HND := Lib.hid hnd
      have HC := Lib.hid hc
      have HIH := Lib.hid (ih (by omega))
      clear hg hlt hT hF hJ hj hY hnd hc hc' hif hi hd hp ih
      refine (callsIn_wide (n := 3)).1 ?_
      refine callsIn_of_wp Try.func21 rfl trivial ?_ rfl
      simp only [Try.ntmps21, List.size_toArray, List.length_cons, List.length_nil, Nat.reduceAdd, Nat.reduceSub, Array.replicate_succ, Array.replicate_zero, List.push_toArray, List.append_toArray, List.nil_append, List.cons_append]
      gi_wp2_with fail
      generalize (W.alloc (.cells #[.pointer (some ⟨t, 0, none⟩)] 26)).alloc (.cells #[.func (.yield l) #[] #[]] 55) = W1 at *
      refine ⟨trivial, (callsIn_wide.2 HG.out).mono ?_⟩
      rintro e w2 ⟨s, rfl, hown, hb2⟩
      obtain ⟨A1, c1, rfl⟩ := hown.form
      have hs2 := hb2.size
      have hb13 := hb2.alloc hb2.size (.cells #[.string op, .int .i64 line, .int .i64 col, .string name, .int .i64 num, .slice A1 kids.length c1] 33)
      have g2 := last w2 (.cells #[.string op, .int .i64 line, .int .i64 col, .string name, .int .i64 num, .slice A1 kids.length c1] 33)
      have hs3 : (w2.alloc (.cells #[.string op, .int .i64 line, .int .i64 col, .string name, .int .i64 num, .slice A1 kids.length c1] 33)).heap.size = w2.heap.size + 1 := by simp
      have g0 := (hb13.block _ (by omega)).trans f0
      have g1 := (hb13.block _ (by omega)).trans f1
      have hb03 := hb1.trans (hb13.mono (by omega))
      have hJ3 := (HJ.out.grow _ _ _ HJ0.out hb03).1
      have ho3 : Own (w2.alloc (.cells #[.string op, .int .i64 line, .int .i64 col, .string name, .int .i64 num, .slice A1 kids.length c1] 33)) W1.heap.size (.slice A1 kids.length c1) kids := hown.below ((Below.refl w2.heap.size w2).alloc (Nat.le_refl _) (.cells #[.string op, .int .i64 line, .int .i64 col, .string name, .int .i64 num, .slice A1 kids.length c1] 33))
      have HK3 := Lib.hid (HJ.out.kept HJ0.out hb03)
      have HN3 : Hid (∀ k, W.heap.size ≤ k → ¬ own (w2.alloc (.cells #[.string op, .int .i64 line, .int .i64 col, .string name, .int .i64 num, .slice A1 kids.length c1] 33)) k) := Lib.hid (fun k hk => HJ.out.fresh HJ0.out hb03 hk)
      obtain ⟨fn, tmps, assign, body, hy, hR⟩ := HY.out 2 pre k ⟨op, line, col, name, num, kids⟩ (.slice A1 kids.length c1) (w2.alloc (.cells #[.string op, .int .i64 line, .int .i64 col, .string name, .int .i64 num, .slice A1 kids.length c1] 33)) hJ3 hN1 HC.out (by have := HND.out; exact this.symm) ⟨owns_base ho3 (Nat.zero_le _), fun g hg => HN3.out g (by have := (ho3.lt g hg).1; omega)⟩
      unfold ndV at hy
      dsimp only at hy
      have e0 := cellOf1 g0
      have e1 := cellOf1 g1
      obtain ⟨n0, n1, n2, n3, n4, n5⟩ := cellsOf6 g2
      have HR := Lib.hid hR
      have HO3 := Lib.hid ho3
      clear hR hown hb2 ho3
      gi_wp2_with fail
      generalize w2.alloc (.cells #[.string op, .int .i64 line, .int .i64 col, .string name, .int .i64 num, .slice A1 kids.length c1] 33) = W3 at *
      clear hy
      refine HR.out.mono ?_
      rintro e W4 (⟨rfl, hJ4, hk4⟩ | ⟨rfl, hx⟩)
      · have hs4 := hk4.size
        have x0 := hk4.cell e0 (HN3.out _ (Nat.le_refl _))
        have x1 := hk4.cell e1 (HN3.out _ (by simp))
        have y5 := hk4.cell n5 (HN3.out _ (by show W.heap.size ≤ w2.heap.size; omega))
        have HN4 : Hid (∀ k, W.heap.size ≤ k → k < W3.heap.size → ¬ own W4 k) := Lib.hid (fun k h1 h2 => (hk4.same k h2 (HN3.out k h1)).2)
        have HO4 := Lib.hid (HO3.out.kept hk4 (fun g hg => HN3.out g (by have := (HO3.out.lt g hg).1; omega)))
        clear e0 e1 n0 n1 n2 n3 n4 n5 g0 g1 g2 f0 f1
        have hcl : ∀ (j : Nat) (W' : World), j < kids.length → (J (pre ++ placesTo f (ms.map (·.1)) k (kids.take j)) W' ∧ Kept own W4 W') → Calls Try.prog 24 #[.int .i64 (kids.getD j 0), .pointer (some ⟨W.heap.size, 0, none⟩), .pointer (some ⟨W.heap.size + 1, 0, none⟩)] W' fun e w' =>
            (e = .returned (.bool false) ∧ (J (pre ++ placesTo f (ms.map (·.1)) k (kids.take (j + 1))) w' ∧ Kept own W4 w')) ∨ (e = .returned (.bool true) ∧ ∃ q, q <+: placesTo f (ms.map (·.1)) k kids ∧ Jx (pre ++ q) w') := by
          rintro j W' hjl ⟨hj, hk⟩
          have c0 := hk.cell x0 (HN4.out _ (Nat.le_refl _) (by show W.heap.size < _; omega))
          have c1 := hk.cell x1 (HN4.out _ (by simp) (by show W.heap.size + 1 < _; omega))
          have hcall := HIH.out (kids.getD j 0) (pre ++ placesTo f (ms.map (·.1)) k (kids.take j)) W' (HLT.out j hjl) (by
            have h1 := placesTo_take f (ms.map (·.1)) k kids (j + 1)
            rw [placesTo_succ hjl, List.length_append] at h1
            have h2 := HNB.out
            rw [List.length_append]
            omega) hj
          have HM := Lib.hid (placesTo_succ (f := f) (m := ms.map (·.1)) (i := k) hjl)
          have HP := Lib.hid (fun (q : List Int) (hq : q <+: places f (ms.map (·.1)) (kids.getD j 0)) => placesTo_prefix (f := f) (m := ms.map (·.1)) (i := k) (l := kids) (j := j) hjl hq)
          have HK := Lib.hid hk
          clear HR HY HIH HJ x0 x1 y5 hJ4 hk4 hj hk hJ3
          generalize kids.getD j 0 = y at *
          go_enter Try.func24, Try.ntmps24
          go_wp2_with (go_at_call 21; refine hcall.mono ?_; rintro e w' (⟨rfl, hj', hk'⟩ | ⟨rfl, q, hq, hx⟩))
          · go_ret
            exact .inl ⟨rfl, by rw [HM.out, ← List.append_assoc]; exact hj', HK.out.trans hk'⟩
          · go_ret
            exact .inr ⟨rfl, _, HP.out q hq, by rw [← List.append_assoc]; exact hx⟩
        have hcf := ContainsFunc_gen (w := W4) (s := .slice A1 kids.length c1) (l := kids) (g := 24) (lb := #[.pointer (some ⟨W.heap.size, 0, none⟩), .pointer (some ⟨W.heap.size + 1, 0, none⟩)])
          (fun j W' => J (pre ++ placesTo f (ms.map (·.1)) k (kids.take j)) W' ∧ Kept own W4 W') (fun j W' => ∃ q, q <+: placesTo f (ms.map (·.1)) k kids ∧ Jx (pre ++ q) W')
          (enters_of Try.func24 (by kernel_rfl) rfl) (by omega)
          (fun j W' hI => (HO4.out.kept hI.2 (fun g hg => HN4.out g (by have := (HO4.out.lt g hg).1; omega) (by have := (HO3.out.lt g hg).2; omega))).ints)
          ⟨hJ4, Kept.refl _ _⟩ (fun j W' hjl hI => hcl j W' hjl hI)
        have HCF := Lib.hid hcf
        have HK4 := Lib.hid (HK3.out.trans hk4)
        clear hcl hcf HIH HY HR hJ4 hk4 hJ3
        gi_wp2_with fail
        refine ⟨trivial, (callsIn_wide.2 HCF.out).mono ?_⟩
        rintro e W5 (⟨rfl, hj5, hk5⟩ | ⟨j, hjl, rfl, q, hq, hx⟩)
        · gi_wp2_with fail
          go_ret
          exact .inl ⟨rfl, by rw [List.take_length] at hj5; exact hj5, HK4.out.trans hk5⟩
        · gi_wp2_with fail
          go_ret
          exact .inr ⟨rfl, q, hq, hx⟩
      · gi_wp2_with fail
        go_ret
        exact .inr ⟨rfl, [(k : Int)], ⟨kids.flatMap (places f (ms.map (·.1))), rfl⟩, hx⟩
end
end Go.Proofs.Ytnaednfdaaiciaa
