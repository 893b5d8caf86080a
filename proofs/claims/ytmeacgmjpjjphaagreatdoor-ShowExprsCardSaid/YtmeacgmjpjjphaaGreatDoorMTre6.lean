/- A loop over a walk. PRINTED by gentre6.py of this folder. -/
import Derived.Test.YtmeacgmjpjjphaaGreatDoorMTre4
import Derived.RangeFuncNested
import Derived.RangeFuncBound
import Derived.RangeFuncCalls
import Derived.RangeFuncLeaves
import Derived.Shelf.Abstract
import Derived.OwnWalkIn
import Derived.TacticsInMore
import Derived.LoopNIn
import Derived.LoopIn
set_option linter.unusedVariables false
set_option linter.unusedSimpArgs false
namespace Go.Proofs.YtmeacgmjpjjphaaGreatDoor.Tr
open Go.RowKit Go.Shelf
open TreP (WF nd inT deep places fits)
attribute [local go_sem] Oper.semAt_some

/-- From W to W' what is not one's own lies as it lay, and has not become one's own. -/
structure Kept (own : World → Nat → Prop) (W W' : World) : Prop where
  size : W.heap.size ≤ W'.heap.size
  same : ∀ k, k < W.heap.size → ¬ own W k → W'.heap[k]? = W.heap[k]? ∧ ¬ own W' k
theorem Kept.refl (own : World → Nat → Prop) (W : World) : Kept own W W := ⟨Nat.le_refl _, fun _ _ h => ⟨rfl, h⟩⟩
theorem Kept.trans {own : World → Nat → Prop} {A B C : World} (h : Kept own A B) (k : Kept own B C) : Kept own A C :=
  ⟨Nat.le_trans h.size k.size, fun i hi ho => by
    obtain ⟨h1, h2⟩ := h.same i hi ho
    obtain ⟨h3, h4⟩ := k.same i (Nat.lt_of_lt_of_le hi h.size) h2
    exact ⟨h3.trans h1, h4⟩⟩
theorem Kept.cell {own : World → Nat → Prop} {W W' : World} (h : Kept own W W') {a : Addr} {v : Value} (hc : W.cell? a = some v) (ho : ¬ own W a.block) : W'.cell? a = some v :=
  (World.cell?_of_block (h.same _ (cell_lt hc) ho).1).trans hc
theorem Own.kept {own : World → Nat → Prop} {W W' : World} {B : Nat} {s : Value} {l : List Int} (h : Own W B s l) (hk : Kept own W W') (ho : ∀ g, s.ownBlock = some g → ¬ own W g) : Own W' B s l :=
  owns_block h fun g hg => (hk.same g (h.lt g hg).2 (ho g hg)).1

/-- What a loop's body leaves: J, by the places that have come. -/
structure Body (own : World → Nat → Prop) (W0 : World) (J : List Int → World → Prop) : Prop where
  base : ∀ pre W, J pre W → Below W0.heap.size W0 W
  lt : ∀ pre W k, J pre W → own W k → k < W.heap.size
  grow : ∀ pre W W', J pre W → Below W.heap.size W W' → J pre W' ∧ ∀ k, own W' k → own W k
theorem Body.kept {own : World → Nat → Prop} {W0 : World} {J : List Int → World → Prop} (h : Body own W0 J) {pre : List Int} {W W' : World} (hj : J pre W) (hb : Below W.heap.size W W') : Kept own W W' :=
  ⟨hb.size, fun k hk ho => ⟨hb.block k hk, fun ho' => ho ((h.grow pre W W' hj hb).2 k ho')⟩⟩
theorem Body.fresh {own : World → Nat → Prop} {W0 : World} {J : List Int → World → Prop} (h : Body own W0 J) {pre : List Int} {W W' : World} (hj : J pre W) (hb : Below W.heap.size W W') {k : Nat} (hk : W.heap.size ≤ k) : ¬ own W' k :=
  fun ho => by have := h.lt pre W k hj ((h.grow pre W W' hj hb).2 k ho); omega

theorem placesTo_prefix {f : Nat} {m : List Nd} {i : Int} {l : List Int} {j : Nat} (h : j < l.length) {q : List Int} (hq : q <+: places f m (l.getD j 0)) : placesTo f m i (l.take j) ++ q <+: placesTo f m i l := by
  have h1 : placesTo f m i (l.take j) ++ q <+: placesTo f m i (l.take (j + 1)) := by
    rw [placesTo_succ h]
    obtain ⟨r, hr⟩ := hq
    exact ⟨r, by rw [List.append_assoc, hr]⟩
  refine h1.trans ?_
  unfold placesTo
  refine ⟨(l.drop (j + 1)).flatMap (places f m), ?_⟩
  rw [List.cons_append, ← List.flatMap_append, List.take_append_drop]

/-- A node's parts, handed out: a row that nobody else has. -/
def KidsOut (own : World → Nat → Prop) (W : World) (s : Value) (l : List Int) : Prop := Own W 0 s l ∧ ∀ g, s.ownBlock = some g → ¬ own W g

section
variable {own : World → Nat → Prop} {W0 : World} {J Jx : List Int → World → Prop} {B t : Nat} {v : Value} {ms : List (Nd × Value)}
set_option maxRecDepth 100000 in
set_option maxHeartbeats 8000000 in
/-- A walk through an expression, whatever the loop's body does. -/
theorem each_in (hF : Fine ms) (hT : TreeAt W0 B t v ms) (hJ : Body own W0 J) (l N : Nat)
    (hY : ∀ (m : Nat) (pre : List Int) (i : Int) (x : Nd) (s : Value) (W : World), J pre W → pre.length < N → inT ms.length i = true → x = nd (ms.map (·.1)) i → KidsOut own W s x.kids →
      YieldAt Fence.wide m Tryz.prog l #[.int .i64 i, ndV x s] W fun e W' => (e = .returned (.bool true) ∧ J (pre ++ [i]) W' ∧ Kept own W W') ∨ (e = .returned (.bool false) ∧ Jx (pre ++ [i]) W')) :
    ∀ (f : Nat), f ≤ 4000 → ∀ (i : Int) (pre : List Int) (W : World), (inT ms.length i = true → i < f) → pre.length + (places f (ms.map (·.1)) i).length ≤ N → J pre W →
    Calls Tryz.prog 60 #[.pointer (some ⟨t, 0, none⟩), .int .i64 i, .func (.yield l) #[] #[]] W fun e W' =>
      (e = .returned (.bool true) ∧ J (pre ++ places f (ms.map (·.1)) i) W' ∧ Kept own W W') ∨ (e = .returned (.bool false) ∧ ∃ q, q <+: places f (ms.map (·.1)) i ∧ Jx (pre ++ q) W') := by
  have miss : ∀ (f : Nat) (i : Int) (pre : List Int) (W : World), inT ms.length i = false → J pre W →
      Calls Tryz.prog 60 #[.pointer (some ⟨t, 0, none⟩), .int .i64 i, .func (.yield l) #[] #[]] W fun e W' =>
        (e = .returned (.bool true) ∧ J (pre ++ places f (ms.map (·.1)) i) W' ∧ Kept own W W') ∨ (e = .returned (.bool false) ∧ ∃ q, q <+: places f (ms.map (·.1)) i ∧ Jx (pre ++ q) W') := by
    intro f i pre W hc hj
    rw [TreP.places_le _ _ _ (by simpa using hc)]
    have hb1 := ((Below.refl W.heap.size W).alloc (Nat.le_refl _) (.cells #[.pointer (some ⟨t, 0, none⟩)] 23)).alloc (by simp) (.cells #[.func (.yield l) #[] #[]] 125)
    have hT1 := (hT.below (hJ.base _ _ hj)).below hb1
    have hg := Get_miss hT1 hc
    have HJ := Lib.hid (And.intro hJ hj)
    have HB1 := Lib.hid hb1
    clear hT1 hY hT hJ hj hb1
    go_enter Tryz.func60, Tryz.ntmps60
    go_wp2_with (go_at_call 19; refine hg.mono ?_; rintro e w' ⟨rfl, hb⟩; have HB2 := Lib.hid hb; clear hb)
    go_ret
    have hbx := (HB1.out.trans (HB2.out.mono HB1.out.size)).alloc (Nat.le_trans HB1.out.size HB2.out.size) (.cells #[.string ⟨#[]⟩, .int .i64 0, .int .i64 0, .string ⟨#[]⟩, .int .i64 0, .slice none 0 0] 53)
    exact .inl ⟨rfl, by rw [List.append_nil]; exact (HJ.out.1.grow _ _ _ HJ.out.2 hbx).1, HJ.out.1.kept HJ.out.2 hbx⟩
  intro f
  induction f with
  | zero =>
    intro _ i pre W hi hN hj
    refine miss 0 i pre W ?_ hj
    cases hc : inT ms.length i with
    | false => rfl
    | true => have := hi hc; rw [TreP.inT_iff] at hc; omega
  | succ f ih =>
    intro hf i pre W hi hN hj
    cases hc : inT ms.length i with
    | false => exact miss (f + 1) i pre W hc hj
    | true =>
      clear miss
      have hif := hi hc
      have hc' := TreP.inT_iff.1 hc
      obtain ⟨k, rfl⟩ := Int.eq_ofNat_of_zero_le hc'.1
      have hk : k < ms.length := by omega
      have hd : places (f + 1) (ms.map (·.1)) (k : Nat) = placesTo f (ms.map (·.1)) k ms[k].1.kids := by
        have hc2 : inT (ms.map (·.1)).length (k : Int) = true := by simpa using hc
        simp only [places, hc2, if_true, nd_map hk]; rfl
      rw [hd] at hN ⊢
      have hnd := nd_map hk
      have hlen := hF.kid _ (mem_kid hk)
      have hb1 := ((Below.refl W.heap.size W).alloc (Nat.le_refl _) (.cells #[.pointer (some ⟨t, 0, none⟩)] 23)).alloc (by simp) (.cells #[.func (.yield l) #[] #[]] 125)
      have f0 : ((W.alloc (.cells #[.pointer (some ⟨t, 0, none⟩)] 23)).alloc (.cells #[.func (.yield l) #[] #[]] 125)).heap[W.heap.size]? = some (.cells #[.pointer (some ⟨t, 0, none⟩)] 23) := by rw [Below.heap_alloc _ _ _ (by simp)]; exact last _ _
      have f1 : ((W.alloc (.cells #[.pointer (some ⟨t, 0, none⟩)] 23)).alloc (.cells #[.func (.yield l) #[] #[]] 125)).heap[W.heap.size + 1]? = some (.cells #[.func (.yield l) #[] #[]] 125) := by
        have := last (W.alloc (.cells #[.pointer (some ⟨t, 0, none⟩)] 23)) (.cells #[.func (.yield l) #[] #[]] 125)
        simpa using this
      have hs1 : ((W.alloc (.cells #[.pointer (some ⟨t, 0, none⟩)] 23)).alloc (.cells #[.func (.yield l) #[] #[]] 125)).heap.size = W.heap.size + 2 := by simp
      have hg := Get_hit ((hT.below (hJ.base _ _ hj)).below hb1) hk (by omega) (by have := hF.len; omega)
      have hlt : ∀ j, j < ms[k].1.kids.length → (inT ms.length (ms[k].1.kids.getD j 0) = true → ms[k].1.kids.getD j 0 < f) := fun j hj _ => by have := hF.kid_lt hk hj; omega
      generalize hp : ms[k] = p at *
      obtain ⟨⟨op, line, col, name, num, kids⟩, s0⟩ := p
      simp only at hlen hg hlt hnd hN ⊢
      have hN1 : pre.length < N := by unfold placesTo at hN; simp only [List.length_cons] at hN; omega
      have HNB := Lib.hid hN
      clear hN
      unfold ndV at hg
      simp only at hg
      have HG := Lib.hid hg
      have HLT := Lib.hid hlt
      have HJ := Lib.hid hJ
      have HJ0 := Lib.hid hj
      have HY := Lib.hid hY
      have HND := Lib.hid hnd
      have HC := Lib.hid hc
      have HIH := Lib.hid (ih (by omega))
      clear hg hlt hT hF hJ hj hY hnd hc hc' hif hi hd hp ih
      refine (callsIn_wide (n := 3)).1 ?_
      refine callsIn_of_wp Tryz.func60 rfl trivial ?_ rfl
      simp only [Tryz.ntmps60, List.size_toArray, List.length_cons, List.length_nil, Nat.reduceAdd, Nat.reduceSub, Array.replicate_succ, Array.replicate_zero, List.push_toArray, List.append_toArray, List.nil_append, List.cons_append]
      gi_wp2_with fail
      generalize (W.alloc (.cells #[.pointer (some ⟨t, 0, none⟩)] 23)).alloc (.cells #[.func (.yield l) #[] #[]] 125) = W1 at *
      refine ⟨trivial, (callsIn_wide.2 HG.out).mono ?_⟩
      rintro e w2 ⟨s, rfl, hown, hb2⟩
      obtain ⟨A1, c1, rfl⟩ := hown.form
      have hs2 := hb2.size
      have hb13 := hb2.alloc hb2.size (.cells #[.string op, .int .i64 line, .int .i64 col, .string name, .int .i64 num, .slice A1 kids.length c1] 53)
      have g2 := last w2 (.cells #[.string op, .int .i64 line, .int .i64 col, .string name, .int .i64 num, .slice A1 kids.length c1] 53)
      have hs3 : (w2.alloc (.cells #[.string op, .int .i64 line, .int .i64 col, .string name, .int .i64 num, .slice A1 kids.length c1] 53)).heap.size = w2.heap.size + 1 := by simp
      have g0 := (hb13.block _ (by omega)).trans f0
      have g1 := (hb13.block _ (by omega)).trans f1
      have hb03 := hb1.trans (hb13.mono (by omega))
      have hJ3 := (HJ.out.grow _ _ _ HJ0.out hb03).1
      have ho3 : Own (w2.alloc (.cells #[.string op, .int .i64 line, .int .i64 col, .string name, .int .i64 num, .slice A1 kids.length c1] 53)) W1.heap.size (.slice A1 kids.length c1) kids := hown.below ((Below.refl w2.heap.size w2).alloc (Nat.le_refl _) (.cells #[.string op, .int .i64 line, .int .i64 col, .string name, .int .i64 num, .slice A1 kids.length c1] 53))
      have HK3 := Lib.hid (HJ.out.kept HJ0.out hb03)
      have HN3 : Hid (∀ k, W.heap.size ≤ k → ¬ own (w2.alloc (.cells #[.string op, .int .i64 line, .int .i64 col, .string name, .int .i64 num, .slice A1 kids.length c1] 53)) k) := Lib.hid (fun k hk => HJ.out.fresh HJ0.out hb03 hk)
      obtain ⟨fn, tmps, assign, body, hy, hR⟩ := HY.out 2 pre k ⟨op, line, col, name, num, kids⟩ (.slice A1 kids.length c1) (w2.alloc (.cells #[.string op, .int .i64 line, .int .i64 col, .string name, .int .i64 num, .slice A1 kids.length c1] 53)) hJ3 hN1 HC.out (by have := HND.out; exact this.symm) ⟨owns_base ho3 (Nat.zero_le _), fun g hg => HN3.out g (by have := (ho3.lt g hg).1; omega)⟩
      unfold ndV at hy
      dsimp only at hy
      have e0 := cellOf1 g0
      have e1 := cellOf1 g1
      obtain ⟨n0, n1, n2, n3, n4, n5⟩ := cellsOf6 g2
      have HR := Lib.hid hR
      have HO3 := Lib.hid ho3
      clear hR hown hb2 ho3
      gi_wp2_with fail
      generalize w2.alloc (.cells #[.string op, .int .i64 line, .int .i64 col, .string name, .int .i64 num, .slice A1 kids.length c1] 53) = W3 at *
      clear hy
      refine HR.out.mono ?_
      rintro e W4 (⟨rfl, hJ4, hk4⟩ | ⟨rfl, hx⟩)
      · have hs4 := hk4.size
        have x0 := hk4.cell e0 (HN3.out _ (Nat.le_refl _))
        have x1 := hk4.cell e1 (HN3.out _ (by simp))
        have y5 := hk4.cell n5 (HN3.out _ (by show W.heap.size ≤ w2.heap.size; omega))
        have HN4 : Hid (∀ k, W.heap.size ≤ k → k < W3.heap.size → ¬ own W4 k) := Lib.hid (fun k h1 h2 => (hk4.same k h2 (HN3.out k h1)).2)
        have HO4 := Lib.hid (HO3.out.kept hk4 (fun g hg => HN3.out g (by have := (HO3.out.lt g hg).1; omega)))
        clear e0 e1 n0 n1 n2 n3 n4 n5 g0 g1 g2 f0 f1
        have hcl : ∀ (j : Nat) (W' : World), j < kids.length → (J (pre ++ placesTo f (ms.map (·.1)) k (kids.take j)) W' ∧ Kept own W4 W') → Calls Tryz.prog 82 #[.int .i64 (kids.getD j 0), .pointer (some ⟨W.heap.size, 0, none⟩), .pointer (some ⟨W.heap.size + 1, 0, none⟩)] W' fun e w' =>
            (e = .returned (.bool false) ∧ (J (pre ++ placesTo f (ms.map (·.1)) k (kids.take (j + 1))) w' ∧ Kept own W4 w')) ∨ (e = .returned (.bool true) ∧ ∃ q, q <+: placesTo f (ms.map (·.1)) k kids ∧ Jx (pre ++ q) w') := by
          rintro j W' hjl ⟨hj, hk⟩
          have c0 := hk.cell x0 (HN4.out _ (Nat.le_refl _) (by show W.heap.size < _; omega))
          have c1 := hk.cell x1 (HN4.out _ (by simp) (by show W.heap.size + 1 < _; omega))
          have hcall := HIH.out (kids.getD j 0) (pre ++ placesTo f (ms.map (·.1)) k (kids.take j)) W' (HLT.out j hjl) (by
            have h1 := placesTo_take f (ms.map (·.1)) k kids (j + 1)
            rw [placesTo_succ hjl, List.length_append] at h1
            have h2 := HNB.out
            rw [List.length_append]
            omega) hj
          have HM := Lib.hid (placesTo_succ (f := f) (m := ms.map (·.1)) (i := k) hjl)
          have HP := Lib.hid (fun (q : List Int) (hq : q <+: places f (ms.map (·.1)) (kids.getD j 0)) => placesTo_prefix (f := f) (m := ms.map (·.1)) (i := k) (l := kids) (j := j) hjl hq)
          have HK := Lib.hid hk
          clear HR HY HIH HJ x0 x1 y5 hJ4 hk4 hj hk hJ3
          generalize kids.getD j 0 = y at *
          go_enter Tryz.func82, Tryz.ntmps82
          go_wp2_with (go_at_call 60; refine hcall.mono ?_; rintro e w' (⟨rfl, hj', hk'⟩ | ⟨rfl, q, hq, hx⟩))
          · go_ret
            exact .inl ⟨rfl, by rw [HM.out, ← List.append_assoc]; exact hj', HK.out.trans hk'⟩
          · go_ret
            exact .inr ⟨rfl, _, HP.out q hq, by rw [← List.append_assoc]; exact hx⟩
        have hcf := ContainsFunc_gen (w := W4) (s := .slice A1 kids.length c1) (l := kids) (g := 82) (lb := #[.pointer (some ⟨W.heap.size, 0, none⟩), .pointer (some ⟨W.heap.size + 1, 0, none⟩)])
          (fun j W' => J (pre ++ placesTo f (ms.map (·.1)) k (kids.take j)) W' ∧ Kept own W4 W') (fun j W' => ∃ q, q <+: placesTo f (ms.map (·.1)) k kids ∧ Jx (pre ++ q) W')
          (enters_of Tryz.func82 (by kernel_rfl) rfl) (by omega)
          (fun j W' hI => (HO4.out.kept hI.2 (fun g hg => HN4.out g (by have := (HO4.out.lt g hg).1; omega) (by have := (HO3.out.lt g hg).2; omega))).ints)
          ⟨hJ4, Kept.refl _ _⟩ (fun j W' hjl hI => hcl j W' hjl hI)
        have HCF := Lib.hid hcf
        have HK4 := Lib.hid (HK3.out.trans hk4)
        clear hcl hcf HIH HY HR hJ4 hk4 hJ3
        gi_wp2_with fail
        refine ⟨trivial, (callsIn_wide.2 HCF.out).mono ?_⟩
        rintro e W5 (⟨rfl, hj5, hk5⟩ | ⟨j, hjl, rfl, q, hq, hx⟩)
        · gi_wp2_with fail
          go_ret
          exact .inl ⟨rfl, by rw [List.take_length] at hj5; exact hj5, HK4.out.trans hk5⟩
        · gi_wp2_with fail
          go_ret
          exact .inr ⟨rfl, q, hq, hx⟩
      · gi_wp2_with fail
        go_ret
        exact .inr ⟨rfl, [(k : Int)], ⟨kids.flatMap (places f (ms.map (·.1))), rfl⟩, hx⟩
end
end Go.Proofs.YtmeacgmjpjjphaaGreatDoor.Tr
namespace Go.Proofs.YtmeacgmjpjjphaaGreatDoor.Tr
open Go.RowKit Go.Shelf
open TreP (WF nd inT deep places fits)
attribute [local go_sem] Oper.semAt_some

/-- How a round may be left: onward, or by a jump. -/
def postQ (own : World → Nat → Prop) (Ws : World) (I : List Int → World → Prop) (Ix : Code → List Int → World → Prop) (xs : List Int) (W : World) : Exit → Act → World → Prop
  | .normal, _, W' => KeepsOthers W W' ∧ I xs W' ∧ Kept own Ws W'
  | .ret, _, W' => KeepsOthers W W' ∧ Ix .ret xs W'
  | .exit id, _, W' => KeepsOthers W W' ∧ Ix (.exit id) xs W'
  | .goto t, _, W' => KeepsOthers W W' ∧ Ix (.goto t) xs W'
  | .panic _, _, _ => False
  | .outgrown, _, _ => False

/-- A block that holds no cells is turned: what speaks of cells alone stays. -/
def Stays (r : Nat) {β : Type} (p : β → World → Prop) : Prop := ∀ s W (o o' : Obj), W.heap[r]? = some o → o.isCells = false → p s W → p s (W.putObj r o')

section
variable {own : World → Nat → Prop} {W0 : World} {J Jx : List Int → World → Prop} {B t : Nat} {v : Value} {ms : List (Nd × Value)}
set_option maxHeartbeats 2000000 in
theorem Each1_in (hF : Fine ms) (hT : TreeAt W0 B t v ms) (hJ : Body own W0 J) (l : Nat) (f N : Nat) (hf : f ≤ 4000) (i : Int) (hi : inT ms.length i = true → i < f) (hN : (places f (ms.map (·.1)) i).length ≤ N)
    (hY : ∀ (m : Nat) (pre : List Int) (i : Int) (x : Nd) (s : Value) (W : World), J pre W → pre.length < N → inT ms.length i = true → x = nd (ms.map (·.1)) i → KidsOut own W s x.kids →
      YieldAt Fence.wide m Tryz.prog l #[.int .i64 i, ndV x s] W fun e W' => (e = .returned (.bool true) ∧ J (pre ++ [i]) W' ∧ Kept own W W') ∨ (e = .returned (.bool false) ∧ Jx (pre ++ [i]) W'))
    (bt bi : Nat) (W : World) (h1 : W.cell? ⟨bt, 0, none⟩ = some (.pointer (some ⟨t, 0, none⟩))) (h2 : W.cell? ⟨bi, 0, none⟩ = some (.int .i64 i)) (hj : J [] W) :
    Calls Tryz.prog 59 #[.func (.yield l) #[] #[], .pointer (some ⟨bt, 0, none⟩), .pointer (some ⟨bi, 0, none⟩)] W fun e W' => (∃ v, e = .returned v) ∧
      ((J (places f (ms.map (·.1)) i) W' ∧ Kept own W W') ∨ ∃ q, q <+: places f (ms.map (·.1)) i ∧ Jx q W') := by
  have hc := each_in hF hT hJ l N hY f hf i [] W hi (by simpa using hN) hj
  clear hF hT hJ hY hi hj hN
  go_enter Tryz.func59, Tryz.ntmps59
  go_wp2_with (go_at_call 60; refine hc.mono ?_; rintro e w' (⟨rfl, hj', hk'⟩ | ⟨rfl, q, hq, hx⟩))
  · go_end0
    exact ⟨⟨_, rfl⟩, .inl ⟨by simpa using hj', hk'⟩⟩
  · go_end0
    exact ⟨⟨_, rfl⟩, .inr ⟨q, hq, by simpa using hx⟩⟩
end

theorem yield_any {m m' : Nat} {P : Program} {l : Nat} {args : Array Value} {W : World} {R : Ending → World → Prop} (h : YieldAt Fence.wide m P l args W R) : YieldAt Fence.wide m' P l args W R := by
  obtain ⟨fn, tmps, assign, body, hy, hR⟩ := h
  exact ⟨fn, tmps, assign, body, hy, hR.1, fun c cs _ => hR.2 c cs (room_wide _)⟩

set_option maxHeartbeats 4000000 in
/-- A loop over a walk through an expression. -/
theorem loop_in {own : World → Nat → Prop} {W0 : World} {B t : Nat} {v : Value} {ms : List (Nd × Value)} (hF : Fine ms) (hT : TreeAt W0 B t v ms) (f : Nat) (hf : f ≤ 4000) (i0 : Int) (hi : inT ms.length i0 = true → i0 < f)
    {g : Operand} {ps : Array Tmp} {assign body : Code} {Q : Exit → Act → World → Prop} {a : Act} {w : World} (bt bi : Nat) (hg : a.eval g = .func (.func 59) #[] #[.pointer (some ⟨bt, 0, none⟩), .pointer (some ⟨bi, 0, none⟩)]) (hps : ps.size = 2)
    (c1 : w.cell? ⟨bt, 0, none⟩ = some (.pointer (some ⟨t, 0, none⟩))) (c2 : w.cell? ⟨bi, 0, none⟩ = some (.int .i64 i0))
    (I : List Int → World → Prop) (Ix : Code → List Int → World → Prop) (Mid : List Int × Int × World × Act → World → Prop)
    (hbase : ∀ pre W, I pre W → Below W0.heap.size W0 W) (hlt : ∀ pre W k, I pre W → own W k → k < W.heap.size) (hgrow : ∀ pre W W', I pre W → Below W.heap.size W W' → I pre W' ∧ ∀ k, own W' k → own W k)
    (hIs : Stays (w.heap.size + 1) I) (hOs : ∀ k, Stays (w.heap.size + 1) (fun (_ : Unit) W => ¬ own W k)) (hXs : ∀ c, Stays (w.heap.size + 1) (Ix c)) (hMs : Stays (w.heap.size + 1) Mid) (h0 : I [] w)
    (hassign : ∀ (l : Nat) (pre : List Int) (i : Int) (x : Nd) (s : Value) (W : World) (K : Act → World → Prop), I pre W → pre.length < (places f (ms.map (·.1)) i0).length → inT ms.length i = true → x = nd (ms.map (·.1)) i → KidsOut own W s x.kids → (∀ a' W', KeepsOthers W W' → Mid (pre, i, W, a') W' → K a' W') →
      assign.wpIn (Fence.wide.inRound l) 1 Tryz.prog (Exit.then K (fun _ _ _ => False)) { tmps := (ps.zip #[.int .i64 i, ndV x s]).foldl (fun t (p, v) => t.setIfInBounds p v) a.tmps, defers := [] } W)
    (hbody : ∀ (l : Nat) (pre : List Int) (i : Int) (Ws : World) (a' : Act) (W : World), Mid (pre, i, Ws, a') W → body.wpIn (Fence.wide.inRound l) 1 Tryz.prog (postQ (fun W k => own W k ∨ k = w.heap.size + 1) Ws I Ix (pre ++ [i]) W) a' W)
    (hdone : ∀ (D : Nat) (W : World), w.heap.size ≤ D → I (places f (ms.map (·.1)) i0) W → W.heap[D]? = some (.deferred (some [])) → Q .normal { a with defers := { target := .collected D, args := #[] } :: a.defers } W)
    (hstop : ∀ (D : Nat) (c : Code) (q : List Int) (W : World), w.heap.size ≤ D → q <+: places f (ms.map (·.1)) i0 → Ix c q W → W.heap[D]? = some (.deferred (some [])) → c.wpIn Fence.wide 3 Tryz.prog Q { a with defers := { target := .collected D, args := #[] } :: a.defers } W) :
    (Code.rangeFunc g ps assign body).wpIn Fence.wide 3 Tryz.prog Q a w := by
  refine wpIn_rangeFunc ?_
  intro fn hfn
  rw [show Fence.wide.round = none from rfl]
  obtain ⟨rec, hrec⟩ : ∃ rec : LoopState → Option Code → Loop, rec = fun st pe => { state := st, pending := pe, fn, tmps := a.tmps, params := ps, assign, body, defers := w.heap.size } := ⟨_, rfl⟩
  obtain ⟨W1, hW1⟩ : ∃ W1, (w.alloc (.deferred (some []))).alloc (.loop (rec .ready none)) = W1 := ⟨_, rfl⟩
  have hbW : Below w.heap.size w W1 := by rw [← hW1]; exact ((Below.refl _ w).alloc (Nat.le_refl _) _).alloc (by simp) _
  have hL1 : W1.heap[w.heap.size + 1]? = some (.loop (rec .ready none)) := by
    rw [← hW1]; have := last (w.alloc (.deferred (some []))) (.loop (rec .ready none)); simpa using this
  have hK1 : W1.heap[w.heap.size]? = some (.deferred (some [])) := by
    rw [← hW1, Below.heap_alloc _ _ _ (by simp)]; exact last w _
  have eg := enters_of Tryz.func59 (by kernel_rfl) rfl
  refine ⟨w.heap.size + 1, [{ target := .collected w.heap.size, args := #[] }], W1, { target := .fn (.func 59) #[.pointer (some ⟨bt, 0, none⟩), .pointer (some ⟨bi, 0, none⟩)], args := #[.func (.yield (w.heap.size + 1)) #[] #[]] }, W1, 59,
    #[.func (.yield (w.heap.size + 1)) #[] #[]] ++ #[.pointer (some ⟨bt, 0, none⟩), .pointer (some ⟨bi, 0, none⟩)], W1, ?_, ?_, ?_, ?_, fun _ => by omega, ?_⟩
  · rw [← hW1, hrec]; exact run_enterLoop_outer _ _ _ _ _
  · simp only [resolve, hg]
    simp [go_sem]
  · intro f' hf'; trivial
  · simp [invoke, go_sem, eg]
  · have hB : Body (fun W k => own W k ∨ k = w.heap.size + 1) W0 (fun pre W => I pre W ∧ W.heap[w.heap.size + 1]? = some (.loop (rec .ready none)) ∧ W.heap[w.heap.size]? = some (.deferred (some []))) := by
      refine ⟨fun pre W h => hbase pre W h.1, ?_, ?_⟩
      · rintro pre W k ⟨hi, hl, hk⟩ (ho | rfl)
        · exact hlt pre W k hi ho
        · exact heap_lt hl
      · rintro pre W W' ⟨hi, hl, hk⟩ hb
        obtain ⟨h1, h2⟩ := hgrow pre W W' hi hb
        exact ⟨⟨h1, (hb.block _ (heap_lt hl)).trans hl, (hb.block _ (heap_lt hk)).trans hk⟩, fun k ho => ho.imp (h2 k) id⟩
    refine (callsIn_wide.2 (Each1_in (Jx := fun pre W => ∃ c, Ix c pre W ∧ W.heap[w.heap.size + 1]? = some (.loop (rec .done (some c))) ∧ W.heap[w.heap.size]? = some (.deferred (some []))) hF hT hB (w.heap.size + 1) f (places f (ms.map (·.1)) i0).length hf i0 hi (Nat.le_refl _) ?_ bt bi W1 ((hbW.cell (p := ⟨bt, 0, none⟩) (cell_lt c1)).trans c1) ((hbW.cell (p := ⟨bi, 0, none⟩) (cell_lt c2)).trans c2) ⟨(hgrow _ _ _ h0 hbW).1, hL1, hK1⟩)).mono ?_
    · -- a round
      rintro m pre i x s W ⟨hi, hl, hk⟩ hpn hin hx hints
      have hy := run_yield (P := Tryz.prog) (args := #[.int .i64 i, ndV x s]) hl (by rw [hrec]; exact hps.symm)
      rw [hrec] at hy
      refine yield_any (m := 1) ⟨fn, _, assign, body, hy, roundIn_of_wpIn hfn (hassign _ pre i x s W _ hi hpn hin hx ⟨hints.1, fun g hg ho => hints.2 g hg (.inl ho)⟩ ?_)⟩
      clear hy
      intro a' Wa hka hmid
      have hl := hka.same _ _ hl rfl
      have hk := hka.same _ _ hk rfl
      refine ⟨_, run_beginRound hl (by rw [hrec]), ?_⟩
      have hl2 : (Wa.putObj (w.heap.size + 1) (.loop { rec .ready none with state := .busy })).heap[w.heap.size + 1]? = some (.loop { rec .ready none with state := .busy }) := World.putObj_heap_same (heap_lt hl)
      have hk2 : (Wa.putObj (w.heap.size + 1) (.loop { rec .ready none with state := .busy })).heap[w.heap.size]? = some (.deferred (some [])) := (World.putObj_heap_other (by omega)).trans hk
      refine wpIn_mono (hbody _ pre i W a' _ (hMs _ _ _ _ hl rfl hmid)) ?_
      have fin : ∀ (jump : Option Code) (W3 : World), KeepsOthers (Wa.putObj (w.heap.size + 1) (.loop { rec .ready none with state := .busy })) W3 →
          (Instr.endRound (w.heap.size + 1) jump).run Tryz.prog W3 = .ok (.bool jump.isNone) (W3.putObj (w.heap.size + 1) (.loop (rec (if jump.isNone then .ready else .done) jump))) ∧
          W3.heap[w.heap.size + 1]? = some (.loop { rec .ready none with state := .busy }) ∧
          (W3.putObj (w.heap.size + 1) (.loop (rec (if jump.isNone then .ready else .done) jump))).heap[w.heap.size + 1]? = some (.loop (rec (if jump.isNone then .ready else .done) jump)) ∧
          (W3.putObj (w.heap.size + 1) (.loop (rec (if jump.isNone then .ready else .done) jump))).heap[w.heap.size]? = some (.deferred (some [])) := fun jump W3 hk3 => by
        have hl3 := hk3.same _ _ hl2 rfl
        have he := run_endRound (P := Tryz.prog) jump hl3
        rw [hrec] at he ⊢
        exact ⟨he, by rw [hrec] at hl3; exact hl3, World.putObj_heap_same (heap_lt hl3), (World.putObj_heap_other (by omega)).trans (hk3.same _ _ hk2 rfl)⟩
      rintro e a3 W3 hp
      cases e with
      | normal =>
        obtain ⟨hk3, hi3, hkp3⟩ := hp
        obtain ⟨hr, hl3, hl4, hk4⟩ := fin none W3 hk3
        refine ⟨_, _, hr, .inl ⟨rfl, ⟨hIs _ _ _ _ hl3 rfl hi3, hl4, hk4⟩, ?_⟩⟩
        refine ⟨by rw [World.putObj_size]; exact hkp3.size, fun k hkk ho => ?_⟩
        obtain ⟨u1, u2⟩ := hkp3.same k hkk ho
        refine ⟨(World.putObj_heap_other (fun e => ho (.inr e))).trans u1, fun ho' => ?_⟩
        rcases ho' with ho' | ho'
        · exact hOs k () _ _ _ hl3 rfl (fun z => u2 (.inl z)) ho'
        · exact u2 (.inr ho')
      | ret =>
        obtain ⟨hk3, hi3⟩ := hp
        obtain ⟨hr, hl3, hl4, hk4⟩ := fin (some .ret) W3 hk3
        exact ⟨_, _, hr, .inr ⟨rfl, .ret, hXs _ _ _ _ _ hl3 rfl hi3, hl4, hk4⟩⟩
      | exit id =>
        obtain ⟨hk3, hi3⟩ := hp
        obtain ⟨hr, hl3, hl4, hk4⟩ := fin (some (.exit id)) W3 hk3
        exact ⟨_, _, hr, .inr ⟨rfl, .exit id, hXs _ _ _ _ _ hl3 rfl hi3, hl4, hk4⟩⟩
      | goto t =>
        obtain ⟨hk3, hi3⟩ := hp
        obtain ⟨hr, hl3, hl4, hk4⟩ := fin (some (.goto t)) W3 hk3
        exact ⟨_, _, hr, .inr ⟨rfl, .goto t, hXs _ _ _ _ _ hl3 rfl hi3, hl4, hk4⟩⟩
      | panic ch => exact hp.elim
      | outgrown => exact hp.elim
    · -- behind the walk
      rintro e W2 ⟨⟨v, rfl⟩, (⟨⟨hi, hl, hk⟩, _⟩ | ⟨q, hq, c, hi, hl, hk⟩)⟩
      · exact ⟨none, _, by have he := run_endLoop (P := Tryz.prog) hl (by rw [hrec]; simp); rw [hrec] at he; exact he, hdone _ _ (Nat.le_refl _) (hIs _ _ _ _ hl rfl hi) ((World.putObj_heap_other (by omega)).trans hk)⟩
      · exact ⟨some c, _, by have he := run_endLoop (P := Tryz.prog) hl (by rw [hrec]; simp); rw [hrec] at he; exact he, hstop _ c q _ (Nat.le_refl _) hq (hXs _ _ _ _ _ hl rfl hi) ((World.putObj_heap_other (by omega)).trans hk)⟩

theorem below_put {B : Nat} {a W : World} (h : Below B a W) {r : Nat} (hr : B ≤ r) (o : Obj) : Below B a (W.putObj r o) :=
  ⟨h.os, h.tape, h.output, by rw [World.putObj_size]; exact h.size, fun k hk => (World.putObj_heap_other (by omega)).trans (h.block k hk)⟩
def countW (l : List Int) : Int := l.foldl (fun s _ => wrap64 (s + 1)) 0
theorem countW_snoc (l : List Int) (x : Int) : countW (l ++ [x]) = wrap64 (countW l + 1) := by simp [countW]

set_option maxRecDepth 100000 in
set_option maxHeartbeats 4000000 in
/-- How many nodes an expression has. -/
theorem Size_in {w : World} {B t : Nat} {v : Value} {ms : List (Nd × Value)} (hF : Fine ms) (hT : TreeAt w B t v ms) (f : Nat) (hf : f ≤ 4000) (i : Int) (hi : inT ms.length i = true → i < f) :
    Calls Tryz.prog 21 #[.pointer (some ⟨t, 0, none⟩), .int .i64 i] w fun e w' => e = .returned (.int .i64 (countW (places f (ms.map (·.1)) i))) ∧ Below w.heap.size w w' := by
  have HT := Lib.hid hT
  have htl := heap_lt hT.obj
  clear hT
  refine (callsIn_wide (n := 3)).1 ?_
  refine callsIn_of_wp_marks Tryz.func21 rfl trivial ?_ rfl
  simp only [Tryz.ntmps21, List.size_toArray, List.length_cons, List.length_nil, Nat.reduceAdd, Nat.reduceSub, Array.replicate_succ, Array.replicate_zero, List.push_toArray, List.append_toArray, List.nil_append, List.cons_append]
  gi_wp2_with (refine ⟨trivial, ?_⟩; gi_at_call 31; refine (callsIn_wide.2 (Each_in _ _)).mono ?_; rintro e w' ⟨rfl, rfl⟩)
  have f0 : (((w.alloc (.cells #[.int .i64 0] 3)).alloc (.cells #[.pointer (some ⟨t, 0, none⟩)] 23)).alloc (.cells #[.int .i64 i] 3)).heap[w.heap.size]? = some (.cells #[.int .i64 0] 3) := by rw [Below.heap_alloc _ _ _ (by simp; omega), Below.heap_alloc _ _ _ (by simp)]; exact last _ _
  have f1 : (((w.alloc (.cells #[.int .i64 0] 3)).alloc (.cells #[.pointer (some ⟨t, 0, none⟩)] 23)).alloc (.cells #[.int .i64 i] 3)).heap[w.heap.size + 1]? = some (.cells #[.pointer (some ⟨t, 0, none⟩)] 23) := by
    rw [Below.heap_alloc _ _ _ (by simp)]
    have := last (w.alloc (.cells #[.int .i64 0] 3)) (.cells #[.pointer (some ⟨t, 0, none⟩)] 23)
    simpa using this
  have f2 : (((w.alloc (.cells #[.int .i64 0] 3)).alloc (.cells #[.pointer (some ⟨t, 0, none⟩)] 23)).alloc (.cells #[.int .i64 i] 3)).heap[w.heap.size + 1 + 1]? = some (.cells #[.int .i64 i] 3) := by
    have := last ((w.alloc (.cells #[.int .i64 0] 3)).alloc (.cells #[.pointer (some ⟨t, 0, none⟩)] 23)) (.cells #[.int .i64 i] 3)
    simpa using this
  have fs : (((w.alloc (.cells #[.int .i64 0] 3)).alloc (.cells #[.pointer (some ⟨t, 0, none⟩)] 23)).alloc (.cells #[.int .i64 i] 3)).heap.size = w.heap.size + 3 := by simp
  have fb := (((Below.refl w.heap.size w).alloc (Nat.le_refl _) (.cells #[.int .i64 0] 3)).alloc (by simp) (.cells #[.pointer (some ⟨t, 0, none⟩)] 23)).alloc (by simp; omega) (.cells #[.int .i64 i] 3)
  generalize ((w.alloc (.cells #[.int .i64 0] 3)).alloc (.cells #[.pointer (some ⟨t, 0, none⟩)] 23)).alloc (.cells #[.int .i64 i] 3) = W1 at *
  refine loop_in (own := fun _ k => k = w.heap.size) (W0 := w) hF HT.out f hf i hi (w.heap.size + 1) (w.heap.size + 1 + 1) rfl rfl (cellOf1 f1) (cellOf1 f2)
    (fun pre W => W.heap[w.heap.size]? = some (.cells #[.int .i64 (countW pre)] 3) ∧ Below w.heap.size w W) (fun _ _ _ => False)
    (fun s W' => (W'.heap[w.heap.size]? = some (.cells #[.int .i64 (countW s.1)] 3) ∧ Below w.heap.size w W') ∧ Kept (fun _ k => k = w.heap.size ∨ k = W1.heap.size + 1) s.2.2.1 W' ∧
      ∃ u9 u10, s.2.2.2 = { tmps := #[.pointer (some ⟨t, 0, none⟩), .int .i64 i, undef, undef, .int .i64 0, .pointer (some ⟨w.heap.size, 0, none⟩), .pointer (some ⟨t, 0, none⟩), .int .i64 i, .func (.func 59) #[] #[.pointer (some ⟨w.heap.size + 1, 0, none⟩), .pointer (some ⟨w.heap.size + 1 + 1, 0, none⟩)], u9, u10, undef, undef, undef], defers := [] })
    (fun pre W h => h.2) (fun pre W k h e => by rw [e]; exact heap_lt h.1) (fun pre W W' h hb => ⟨⟨(hb.block _ (heap_lt h.1)).trans h.1, h.2.trans (hb.mono h.2.size)⟩, fun k h => h⟩)
    (fun s W o o' ho hc h => ⟨(World.putObj_heap_other (by omega)).trans h.1, below_put h.2 (by omega) _⟩) (fun k s W o o' ho hc h => h) (fun c s W o o' ho hc h => h.elim)
    (fun s W o o' ho hc h => ⟨⟨(World.putObj_heap_other (by omega)).trans h.1.1, below_put h.1.2 (by omega) _⟩, ⟨by rw [World.putObj_size]; exact h.2.1.size, fun k hk hno => ⟨(World.putObj_heap_other (fun e => hno (.inr e))).trans (h.2.1.same k hk hno).1, hno⟩⟩, h.2.2⟩)
    ⟨f0, fb⟩ ?assign ?body ?done ?stop
  case assign =>
    intro l pre i' x s W K hI hpn hin hx hints hK
    gi_wp2
    exact hK _ _ (KeepsOthers.refl _) ⟨hI, Kept.refl _ _, _, _, rfl⟩
  case body =>
    rintro l pre i' Ws a' W ⟨⟨hc, hb⟩, hk, u9, u10, rfl⟩
    have e0 := cellOf1 hc
    have ef := frozenOf hc 0
    simp only [fs] at hk
    gi_wp2
    exact ⟨KeepsOthers.setCell _ _ _, ⟨by rw [countW_snoc]; exact heap_set0 hc _, hb.setCell (p := ⟨w.heap.size, 0, none⟩) (Nat.le_refl _) _⟩, hk.trans ⟨by simp, fun k hkk hno => ⟨Below.heap_setCell _ ⟨w.heap.size, 0, none⟩ _ _ (fun e => hno (.inl e)), hno⟩⟩⟩
  case done =>
    rintro D W hD ⟨hc, hb⟩ hK
    have e0 := cellOf1 hc
    gi_wp2
    refine ⟨by simp, .inl ⟨_, _, rfl, run_takeDeferred hK, ?_⟩⟩
    exact ⟨_, results_tmp rfl _ _ _, rfl, below_put hb (by omega) _⟩
  case stop =>
    rintro D c q W hD hq h hK
    exact h.elim
end Go.Proofs.YtmeacgmjpjjphaaGreatDoor.Tr
