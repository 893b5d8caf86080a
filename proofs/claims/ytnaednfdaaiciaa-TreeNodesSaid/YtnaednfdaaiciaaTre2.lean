/- The reference's Deep and Places. -/
import Derived.Test.YtnaednfdaaiciaaTre1
set_option linter.unusedVariables false
set_option linter.unusedSimpArgs false
namespace Go.Proofs.Ytnaednfdaaiciaa
open Go.RowKit
open TreP (WF nd inT deep places)

set_option maxRecDepth 100000 in
set_option maxHeartbeats 4000000 in
/-- How deep an expression is, by the reference. -/
theorem refDeep_in {A : Option Addr} {c : Nat} {ms : List (Nd × Value)} (hF : Fine ms) : ∀ (f : Nat), f ≤ 4000 → ∀ (i : Int) (w : World), Nodes w (.slice A ms.length c) ms → (inT ms.length i = true → i < f) →
    Calls Try.prog 14 #[.slice A ms.length c, .int .i64 i] w fun e w' => e = .returned (.int .i64 (deep f (ms.map (·.1)) i : Nat)) ∧ Below w.heap.size w w' := by
  intro f
  induction f with
  | zero =>
    intro _ i w h hi
    have hc : inT ms.length i = false := by
      cases hc : inT ms.length i with
      | false => rfl
      | true => have := hi hc; rw [TreP.inT_iff] at hc; omega
    rw [TreP.deep_le _ _ _ (by simpa using hc)]
    have hg := In_in (w := w) A ms.length c i
    rw [hc] at hg
    clear h hi hc
    go_enter Try.func14, Try.ntmps14
    go_wp2_with (go_at_call 15; refine hg.mono ?_; rintro e w' ⟨rfl, rfl⟩)
    go_ret
    exact ⟨rfl, Below.refl _ _⟩
  | succ f ih =>
    intro hf i w h hi
    have hg := In_in (w := w) A ms.length c i
    cases hc : inT ms.length i with
    | false =>
      rw [TreP.deep_le _ _ _ (by simpa using hc)]
      rw [hc] at hg
      clear h hi hc ih
      go_enter Try.func14, Try.ntmps14
      go_wp2_with (go_at_call 15; refine hg.mono ?_; rintro e w' ⟨rfl, rfl⟩)
      go_ret
      exact ⟨rfl, Below.refl _ _⟩
    | true =>
      rw [hc] at hg
      have hif := hi hc
      have hc' := TreP.inT_iff.1 hc
      obtain ⟨k, rfl⟩ := Int.eq_ofNat_of_zero_le hc'.1
      have hk : k < ms.length := by omega
      have hd : deep (f + 1) (ms.map (·.1)) (k : Nat) = deepsTo f (ms.map (·.1)) ms[k].1.kids + 1 := by
        have hc2 : inT (ms.map (·.1)).length (k : Int) = true := by simpa using hc
        simp only [deep, hc2, if_true, nd_map hk]; rfl
      rw [hd]
      have hlen := hF.kid _ (mem_kid hk)
      have hlt : ∀ j, j < ms[k].1.kids.length → (inT ms.length (ms[k].1.kids.getD j 0) = true → ms[k].1.kids.getD j 0 < f) := fun j hj _ => by have := hF.kid_lt hk hj; omega
      have hat := fun wr (hr : Below w.heap.size w wr) => (h.below hr).at hk
      have hn := hF.len
      have hki : (k : Int) < ms.length := by omega
      generalize hp : ms[k] = p at *
      obtain ⟨⟨op, line, col, name, num, kids⟩, s0⟩ := p
      simp only at hlen hg hlt hat ⊢
      have HT := Lib.hid h
      have HLT := Lib.hid hlt
      have HAT := Lib.hid hat
      have HF := Lib.hid hF
      clear h hlt hat hi hc hc' hd hp hif
      go_enter Try.func14, Try.ntmps14
      go_wp2_with (go_at_call 15; refine hg.mono ?_; rintro e w' ⟨rfl, rfl⟩)
      go_loopw [6, 7] (fun mo i wr => ∃ j : Nat, i = .int .i64 j ∧ j ≤ kids.length ∧ mo = .int .i64 (deepsTo f (ms.map (·.1)) (kids.take j) : Nat) ∧ Below w.heap.size w wr) (fun _ i _ => ((kids.length : Int) - intOf i).toNat)
      case atStart => exact ⟨0, rfl, by omega, by simp [deepsTo], Below.refl _ _⟩
      case round =>
        obtain ⟨j, rfl, hj, rfl, hr⟩ := hrel
        obtain ⟨b, off, c', hv, e0, e1, e2, e3, e4, e5, hI⟩ := HAT.out wr hr
        cases hv
        clear e0 e1 e2 e3 e4
        by_cases hjl : j < kids.length
        · have hji : (j : Int) < kids.length := by omega
          rcases hI with ⟨_, h2⟩ | ⟨b', off', c'', rfl, h2⟩
          · rw [h2] at hjl; simp at hjl
          have e6 := h2 j hjl
          clear h2
          have hcall := ih (by omega) (kids.getD j 0) wr (HT.out.below hr) (HLT.out j hjl)
          have HM := Lib.hid (deepsTo_succ (f := f) (m := ms.map (·.1)) hjl)
          generalize kids.getD j 0 = y at *
          generalize deepsTo f (ms.map (·.1)) (kids.take j) = D at *
          generalize deep f (ms.map (·.1)) y = D2 at *
          go_wp2_with (go_at_call 14; refine hcall.mono ?_; rintro e w' ⟨rfl, hb⟩)
          go_roundw
          case rel => exact ⟨j + 1, by simp, by omega, by rw [HM.out]; simp; try omega, hr.trans (hb.mono hr.size)⟩
          case measure => simp [intOf]; omega
        · have hji : ¬ (j : Int) < kids.length := by omega
          have hje : j = kids.length := by omega
          obtain ⟨A', c'', rfl⟩ := hI.form
          have hDl := deepsTo_le f (ms.map (·.1)) kids
          rw [hje, List.take_length]
          rw [hje] at hji
          obtain ⟨D, hD⟩ : ∃ D, deepsTo f (ms.map (·.1)) kids = D := ⟨_, rfl⟩
          rw [hD] at hDl ⊢
          have HD := Lib.hid hD; clear hD
          go_wp2_with fail
          go_ret
          exact ⟨by rw [HD.out]; simp; try omega, hr⟩

def placesTo (f : Nat) (m : List Nd) (i : Int) (l : List Int) : List Int := i :: l.flatMap (places f m)
theorem placesTo_succ {f : Nat} {m : List Nd} {i : Int} {l : List Int} {j : Nat} (h : j < l.length) : placesTo f m i (l.take (j + 1)) = placesTo f m i (l.take j) ++ places f m (l.getD j 0) := by
  unfold placesTo
  rw [TreP.getD_take (d := 0) h]
  simp
theorem placesTo_take (f : Nat) (m : List Nd) (i : Int) (l : List Int) (j : Nat) : (placesTo f m i (l.take j)).length ≤ (placesTo f m i l).length := by
  unfold placesTo
  have : (l.take j).flatMap (places f m) ++ (l.drop j).flatMap (places f m) = l.flatMap (places f m) := by
    rw [← List.flatMap_append, List.take_append_drop]
  have h2 := congrArg List.length this
  rw [List.length_append] at h2
  simp only [List.length_cons]
  omega
theorem Fine.few' {ms : List (Nd × Value)} (h : Fine ms) (f : Nat) (i : Int) (hi : inT ms.length i = true → i < f) : (places f (ms.map (·.1)) i).length ≤ 2000 := by
  cases hc : inT ms.length i with
  | false => rw [TreP.places_le _ _ _ (by simpa using hc)]; simp
  | true =>
    have h1 := hi hc
    have h2 := TreP.inT_iff.1 hc
    obtain ⟨k, rfl⟩ := Int.eq_ofNat_of_zero_le h2.1
    rw [TreP.places_fuel h.wf f ms.length k (fun _ => by omega)]
    exact h.few k (by omega)
theorem places_pos {f : Nat} {m : List Nd} {i : Int} (hc : inT m.length i = true) (hi : i < f) : 0 < (places f m i).length := by
  cases f with
  | zero => rw [TreP.inT_iff] at hc; omega
  | succ f => simp [places, hc]

set_option maxRecDepth 100000 in
set_option maxHeartbeats 4000000 in
/-- An expression's places, by the reference. -/
theorem Places_in {A : Option Addr} {c : Nat} {ms : List (Nd × Value)} (hF : Fine ms) : ∀ (f : Nat), f ≤ 4000 → ∀ (i : Int) (w : World), Nodes w (.slice A ms.length c) ms → (inT ms.length i = true → i < f) →
    Calls Try.prog 10 #[.slice A ms.length c, .int .i64 i] w fun e w' => ∃ s, e = .returned s ∧ Own w' w.heap.size s (places f (ms.map (·.1)) i) ∧ Below w.heap.size w w' := by
  intro f
  induction f with
  | zero =>
    intro _ i w h hi
    have hc : inT ms.length i = false := by
      cases hc : inT ms.length i with
      | false => rfl
      | true => have := hi hc; rw [TreP.inT_iff] at hc; omega
    rw [TreP.places_le _ _ _ (by simpa using hc)]
    have hg := In_in (w := w) A ms.length c i
    rw [hc] at hg
    clear h hi hc
    go_enter Try.func10, Try.ntmps10
    go_wp2_with (go_at_call 15; refine hg.mono ?_; rintro e w' ⟨rfl, rfl⟩)
    go_ret
    exact ⟨_, rfl, World.ownsRow_nil _ _ _ _, Below.refl _ _⟩
  | succ f ih =>
    intro hf i w h hi
    have hg := In_in (w := w) A ms.length c i
    cases hc : inT ms.length i with
    | false =>
      rw [TreP.places_le _ _ _ (by simpa using hc)]
      rw [hc] at hg
      clear h hi hc ih
      go_enter Try.func10, Try.ntmps10
      go_wp2_with (go_at_call 15; refine hg.mono ?_; rintro e w' ⟨rfl, rfl⟩)
      go_ret
      exact ⟨_, rfl, World.ownsRow_nil _ _ _ _, Below.refl _ _⟩
    | true =>
      rw [hc] at hg
      have hfew := hF.few' (f + 1) i hi
      have hif := hi hc
      have hc' := TreP.inT_iff.1 hc
      obtain ⟨k, rfl⟩ := Int.eq_ofNat_of_zero_le hc'.1
      have hk : k < ms.length := by omega
      have hd : places (f + 1) (ms.map (·.1)) (k : Nat) = placesTo f (ms.map (·.1)) k ms[k].1.kids := by
        have hc2 : inT (ms.map (·.1)).length (k : Int) = true := by simpa using hc
        simp only [places, hc2, if_true, nd_map hk]; rfl
      rw [hd] at hfew ⊢
      have hlen := hF.kid _ (mem_kid hk)
      have hlt : ∀ j, j < ms[k].1.kids.length → inT ms.length (ms[k].1.kids.getD j 0) = true ∧ ms[k].1.kids.getD j 0 < f := fun j hj => by
        have := hF.kid_lt hk hj
        exact ⟨TreP.inT_iff.2 (by omega), by omega⟩
      have hat := fun wr (hr : Below w.heap.size w wr) => (h.below hr).at hk
      have hn := hF.len
      have hki : (k : Int) < ms.length := by omega
      generalize hp : ms[k] = p at *
      obtain ⟨⟨op, line, col, name, num, kids⟩, s0⟩ := p
      simp only at hlen hg hlt hat hfew ⊢
      have HT := Lib.hid h
      have HLT := Lib.hid hlt
      have HAT := Lib.hid hat
      have HF := Lib.hid hF
      have HFEW := Lib.hid hfew
      obtain ⟨i0, hi0, hz0, hz1, hz2⟩ := info_parts info_int
      clear h hlt hat hi hc hc' hd hp hif hfew
      have hb1 := (Below.refl w.heap.size w).alloc (Nat.le_refl _) (.cells #[.int .i64 k] 3)
      have ho1 : Own (w.alloc (.cells #[.int .i64 k] 3)) w.heap.size (.slice (some ⟨w.heap.size, 0, none⟩) 1 1) (placesTo f (ms.map (·.1)) k (kids.take 0)) := World.ownsRow_lit w #[.int .i64 k] 1 (Nat.le_refl _) (by decide) rfl
      have H1 := Lib.hid (And.intro hb1 ho1)
      clear hb1 ho1
      go_enter Try.func10, Try.ntmps10
      go_wp2_with (go_at_call 15; refine hg.mono ?_; rintro e w' ⟨rfl, rfl⟩)
      go_loopw [6, 7] (fun ov i wr => ∃ j : Nat, i = .int .i64 j ∧ j ≤ kids.length ∧ Own wr w.heap.size ov (placesTo f (ms.map (·.1)) k (kids.take j)) ∧ Below w.heap.size w wr) (fun _ i _ => ((kids.length : Int) - intOf i).toNat)
      case atStart => exact ⟨0, rfl, by omega, H1.out.2, H1.out.1⟩
      case round =>
        obtain ⟨j, rfl, hj, hov, hr⟩ := hrel
        obtain ⟨A2, c2, rfl⟩ := hov.form
        obtain ⟨b, off, c', hv, e0, e1, e2, e3, e4, e5, hI⟩ := HAT.out wr hr
        cases hv
        clear e0 e1 e2 e3 e4
        have HOV := Lib.hid hov
        clear hov
        by_cases hjl : j < kids.length
        · have hji : (j : Int) < kids.length := by omega
          rcases hI with ⟨_, h2⟩ | ⟨b', off', c'', rfl, h2⟩
          · rw [h2] at hjl; simp at hjl
          have e6 := h2 j hjl
          clear h2
          have HC := Lib.hid (ih (by omega) (kids.getD j 0) wr (HT.out.below hr) (fun _ => (HLT.out j hjl).2))
          have hpos := places_pos (f := f) (m := ms.map (·.1)) (by simpa using (HLT.out j hjl).1) (HLT.out j hjl).2
          have HM := Lib.hid (placesTo_succ (f := f) (m := ms.map (·.1)) (i := k) hjl)
          have hle := placesTo_take f (ms.map (·.1)) k kids (j + 1)
          rw [HM.out, List.length_append] at hle
          have hle2 := HFEW.out
          generalize kids.getD j 0 = y at *
          obtain ⟨L1, hL1⟩ : ∃ L, placesTo f (ms.map (·.1)) k (kids.take j) = L := ⟨_, rfl⟩
          obtain ⟨L2, hL2⟩ : ∃ L, places f (ms.map (·.1)) y = L := ⟨_, rfl⟩
          rw [hL1] at HOV HM hle ⊢
          rw [hL2] at HC HM hpos hle
          clear hL1 hL2
          go_wp2_with (first
            | (go_at_call 10; refine HC.out.mono ?_; rintro e w' ⟨s, rfl, hs, hb⟩; obtain ⟨g2, cap2, rfl, hg2, hg3⟩ := World.ownsRow.form hs hpos; have HS := Lib.hid (And.intro hs hb); clear hs hb)
            | (at_builtin; refine wpList_append_own _ rfl _ _ 31 rfl w.heap.size 3 i0 (.int .i64 0) 1 8 Try.underlying31 hi0 hz0 hz1 hz2 rfl (by decide) _ L1.length _ rfl (HOV.out.below HS.out.2) ⟨g2, 0, none⟩ L2.length cap2 (L2.map (Value.int .i64)) rfl ?qc1 ?qc2 ?qc3 ?qc4 ?qc5 ?qc6 ?_))
          case qc1 => simp
          case qc2 => exact HS.out.1.news
          case qc3 => exact ints_one L2
          case qc4 => unfold maxLen; omega
          case qc5 => omega
          case qc6 => exact Nat.le_trans hr.size HS.out.2.size
          intro v' w1 hown hgrow hnil
          obtain ⟨g3, cap3, rfl, _, _⟩ := World.ownsRow.form hown (by omega)
          have hbw := (hr.trans (HS.out.2.mono hr.size)).grown hgrow (Nat.le_trans hr.size HS.out.2.size) (fun k hk => (HOV.out.lt k hk).1)
          have hj2 := Lib.hid (Own.join hown)
          clear hown hgrow hnil
          go_wp2_with fail
          go_roundw
          case rel => exact ⟨j + 1, by simp, by omega, by rw [HM.out]; exact hj2.out, hbw⟩
          case measure => simp [intOf]; omega
        · have hji : ¬ (j : Int) < kids.length := by omega
          have hje : j = kids.length := by omega
          obtain ⟨A', c'', rfl⟩ := hI.form
          rw [hje, List.take_length] at HOV
          rw [hje] at hji
          go_wp2_with fail
          go_ret
          exact ⟨_, rfl, HOV.out, hr⟩
end Go.Proofs.Ytnaednfdaaiciaa
