/- Equal lists, a tree's nodes. -/
import Derived.Test.YtnaednfdaaiciaaTre0
set_option linter.unusedVariables false
set_option linter.unusedSimpArgs false
namespace Go.Proofs.Ytnaednfdaaiciaa
open Go.RowKit

set_option maxHeartbeats 2000000 in
/-- slices.Equal at one list twice. -/
theorem Equal_same {w : World} {s s' : Value} {l : List Int} (h : Ints w s l) (h' : Ints w s' l) (hl : l.length ≤ 1000000) :
    Calls Try.prog 11 #[s, s'] w fun e w' => e = .returned (.bool true) ∧ Below w.heap.size w w' := by
  obtain ⟨A, c, rfl⟩ := h.form
  obtain ⟨A', c', rfl⟩ := h'.form
  have H := Lib.hid (And.intro h h')
  clear h h'
  go_enter Try.func11, Try.ntmps11
  go_wp2_with fail
  go_loopw [5, 13] (fun _ i wr => ∃ k : Nat, i = .int .i64 k ∧ k ≤ l.length ∧ Below w.heap.size w wr) (fun _ i _ => ((l.length : Int) - intOf i).toNat)
  case atStart => exact ⟨0, rfl, by omega, Below.refl _ _⟩
  case round =>
    obtain ⟨k, rfl, hk, hr⟩ := hrel
    by_cases hkl : k < l.length
    · have hki : (k : Int) < l.length := by omega
      rcases H.out.1.below hr with ⟨_, h2⟩ | ⟨b, off, c1, h1, h2⟩
      · rw [h2] at hkl; simp at hkl
      rcases H.out.2.below hr with ⟨_, h4⟩ | ⟨b', off', c1', h3, h4⟩
      · rw [h4] at hkl; simp at hkl
      cases h1
      cases h3
      have e1 := h2 k hkl
      have e2 := h4 k hkl
      clear h2 h4
      generalize l.getD k 0 = y at *
      have hr' := hr.drew
      go_wp2_with fail
      go_quiet (fail)
      all_goals
        go_wp2_with fail
        go_roundw
        case rel => exact ⟨k + 1, by simp, by omega, by first | assumption | exact below_drewN' hr _⟩
        case measure => simp [intOf]; omega
    · have hki : ¬ (k : Int) < l.length := by omega
      go_wp2_with fail
      go_ret
      exact ⟨rfl, hr⟩

theorem mem_kid {ms : List (Nd × Value)} {k : Nat} (hk : k < ms.length) : ms[k] ∈ ms := List.getElem_mem hk

set_option maxRecDepth 100000 in
set_option maxHeartbeats 4000000 in
/-- A node of a tree, its parts cloned. -/
theorem Get_hit {w : World} {B t : Nat} {v : Value} {ms : List (Nd × Value)} (h : TreeAt w B t v ms) {k : Nat} (hk : k < ms.length) (hl : ms[k].1.kids.length ≤ 1000000) (hm : ms.length ≤ 1000000) :
    Calls Try.prog 7 #[.pointer (some ⟨t, 0, none⟩), .int .i64 k] w fun e w' => ∃ s, e = .returned (.tuple #[ndV ms[k].1 s, .bool true]) ∧ Own w' w.heap.size s ms[k].1.kids ∧ Below w.heap.size w w' := by
  obtain ⟨b, off, c, hv, e0, e1, e2, e3, e4, e5, hI⟩ := h.nodes.at hk
  have ht := cellOf1 h.obj
  rw [hv] at ht
  clear h hv
  generalize ms[k] = p at *
  obtain ⟨⟨op, line, col, name, num, kids⟩, s0⟩ := p
  simp only at e0 e1 e2 e3 e4 e5 hI hl
  unfold ndV
  simp only
  obtain ⟨A0, c0, rfl⟩ := hI.form
  have HI := Lib.hid hI
  clear hI
  have hki : (k : Int) < ms.length := by omega
  have hk0 : decide ((k : Int) < 0) = false := decide_eq_false (by omega)
  have ht' := fun o => cell_alloc ht o
  have e0' := fun o => cell_alloc e0 o
  have e1' := fun o => cell_alloc e1 o
  have e2' := fun o => cell_alloc e2 o
  have e3' := fun o => cell_alloc e3 o
  have e4' := fun o => cell_alloc e4 o
  have e5' := fun o => cell_alloc e5 o
  go_enter Try.func7, Try.ntmps7
  go_wp2_with fail
  have hb0 := ((Below.refl w.heap.size w).alloc (Nat.le_refl _) (.cells #[.string ⟨#[]⟩, .int .i64 0, .int .i64 0, .string ⟨#[]⟩, .int .i64 0, .slice none 0 0] 33)).alloc (by simp) (.cells #[.string op, .int .i64 line, .int .i64 col, .string name, .int .i64 num, .slice A0 kids.length c0] 33)
  have f0 : ((w.alloc (.cells #[.string ⟨#[]⟩, .int .i64 0, .int .i64 0, .string ⟨#[]⟩, .int .i64 0, .slice none 0 0] 33)).alloc (.cells #[.string op, .int .i64 line, .int .i64 col, .string name, .int .i64 num, .slice A0 kids.length c0] 33)).heap[w.heap.size]? = some (.cells #[.string ⟨#[]⟩, .int .i64 0, .int .i64 0, .string ⟨#[]⟩, .int .i64 0, .slice none 0 0] 33) := by rw [Below.heap_alloc _ _ _ (by simp)]; exact last _ _
  have f1 : ((w.alloc (.cells #[.string ⟨#[]⟩, .int .i64 0, .int .i64 0, .string ⟨#[]⟩, .int .i64 0, .slice none 0 0] 33)).alloc (.cells #[.string op, .int .i64 line, .int .i64 col, .string name, .int .i64 num, .slice A0 kids.length c0] 33)).heap[w.heap.size + 1]? = some (.cells #[.string op, .int .i64 line, .int .i64 col, .string name, .int .i64 num, .slice A0 kids.length c0] 33) := by
    have := last (w.alloc (.cells #[.string ⟨#[]⟩, .int .i64 0, .int .i64 0, .string ⟨#[]⟩, .int .i64 0, .slice none 0 0] 33)) (.cells #[.string op, .int .i64 line, .int .i64 col, .string name, .int .i64 num, .slice A0 kids.length c0] 33)
    simpa using this
  have hs : ((w.alloc (.cells #[.string ⟨#[]⟩, .int .i64 0, .int .i64 0, .string ⟨#[]⟩, .int .i64 0, .slice none 0 0] 33)).alloc (.cells #[.string op, .int .i64 line, .int .i64 col, .string name, .int .i64 num, .slice A0 kids.length c0] 33)).heap.size = w.heap.size + 2 := by simp
  clear ht' e0' e1' e2' e3' e4' e5' e0 e1 e2 e3 e4 e5 ht
  generalize (w.alloc (.cells #[.string ⟨#[]⟩, .int .i64 0, .int .i64 0, .string ⟨#[]⟩, .int .i64 0, .slice none 0 0] 33)).alloc (.cells #[.string op, .int .i64 line, .int .i64 col, .string name, .int .i64 num, .slice A0 kids.length c0] 33) = W2 at *
  refine (Clone_in (HI.out.below hb0) hl).mono ?_
  rintro e w3 ⟨s, rfl, hown, hb3⟩
  obtain ⟨A1, c1, rfl⟩ := hown.form
  have g0 := (hb3.block _ (by omega)).trans f0
  have g1 := (hb3.block _ (by omega)).trans f1
  obtain ⟨z0, z1, z2, z3, z4, z5⟩ := cellsOf6 g0
  obtain ⟨n0, n1, n2, n3, n4, n5⟩ := cellsOf6 g1
  have zf := frozenOf g0
  have nf := frozenOf g1
  have HO := Lib.hid (And.intro hown hb3)
  clear hown hb3 f0 f1
  go_wp2_with fail
  have k0 : (w3.setCell ⟨w.heap.size + 1, 5, none⟩ (.slice A1 kids.length c1)).heap[w.heap.size]? = some (.cells #[.string ⟨#[]⟩, .int .i64 0, .int .i64 0, .string ⟨#[]⟩, .int .i64 0, .slice none 0 0] 33) := (Below.heap_setCell _ _ _ _ (by simp)).trans g0
  have k1 := set6_heap k0 (.string op) (.int .i64 line) (.int .i64 col) (.string name) (.int .i64 num) (.slice A1 kids.length c1)
  have k2 := Below.set6 ((hb0.trans (HO.out.2.mono (by omega))).setCell (p := ⟨w.heap.size + 1, 5, none⟩) (by simp) (.slice A1 kids.length c1)) (Nat.le_refl w.heap.size) (.string op) (.int .i64 line) (.int .i64 col) (.string name) (.int .i64 num) (.slice A1 kids.length c1)
  have k3 := owns_base (owns_block HO.out.1 fun g hg => (set6_other (w := w3.setCell ⟨w.heap.size + 1, 5, none⟩ (.slice A1 kids.length c1)) (b := w.heap.size) (by have := (HO.out.1.lt g hg).1; omega) (.string op) (.int .i64 line) (.int .i64 col) (.string name) (.int .i64 num) (.slice A1 kids.length c1)).trans (Below.heap_setCell _ _ _ _ (by have := (HO.out.1.lt g hg).1; simp; omega))) (show w.heap.size ≤ W2.heap.size by omega)
  generalize ((((((w3.setCell ⟨w.heap.size + 1, 5, none⟩ (.slice A1 kids.length c1)).setCell ⟨w.heap.size, 0, none⟩ (.string op)).setCell ⟨w.heap.size, 1, none⟩ (.int .i64 line)).setCell ⟨w.heap.size, 2, none⟩ (.int .i64 col)).setCell ⟨w.heap.size, 3, none⟩ (.string name)).setCell ⟨w.heap.size, 4, none⟩ (.int .i64 num)).setCell ⟨w.heap.size, 5, none⟩ (.slice A1 kids.length c1) = W4 at *
  obtain ⟨r0, r1, r2, r3, r4, r5⟩ := cellsOf6 k1
  exact bodyPost_ret (v := .tuple #[.agg #[.string op, .int .i64 line, .int .i64 col, .string name, .int .i64 num, .slice A1 kids.length c1], .bool true]) (by simp [results, Try.results7, go_sem, r0, r1, r2, r3, r4, r5]) rfl ⟨_, rfl, k3, k2⟩

set_option maxHeartbeats 4000000 in
theorem Get_miss {w : World} {B t : Nat} {v : Value} {ms : List (Nd × Value)} (h : TreeAt w B t v ms) {i : Int} (hi : TreP.inT ms.length i = false) :
    Calls Try.prog 7 #[.pointer (some ⟨t, 0, none⟩), .int .i64 i] w fun e w' => e = .returned (.tuple #[.agg #[.string ⟨#[]⟩, .int .i64 0, .int .i64 0, .string ⟨#[]⟩, .int .i64 0, .slice none 0 0], .bool false]) ∧ Below w.heap.size w w' := by
  have ht := cellOf1 h.obj
  obtain ⟨A, c, hv⟩ := h.nodes.form
  rw [hv] at ht
  clear h hv
  have ht' := fun o => cell_alloc ht o
  have f0 := last w (.cells #[.string ⟨#[]⟩, .int .i64 0, .int .i64 0, .string ⟨#[]⟩, .int .i64 0, .slice none 0 0] 33)
  have hb0 := (Below.refl w.heap.size w).alloc (Nat.le_refl _) (.cells #[.string ⟨#[]⟩, .int .i64 0, .int .i64 0, .string ⟨#[]⟩, .int .i64 0, .slice none 0 0] 33)
  by_cases h0 : 0 ≤ i
  · have h1 : ¬ i < ms.length := fun h1 => by simp [TreP.inT, h0, h1] at hi
    have hk0 : decide (i < 0) = false := decide_eq_false (by omega)
    have hk1 : (ms.length : Int) ≤ i := by omega
    go_enter Try.func7, Try.ntmps7
    go_wp2_with fail
    obtain ⟨r0, r1, r2, r3, r4, r5⟩ := cellsOf6 f0
    exact bodyPost_ret (v := .tuple #[.agg #[.string ⟨#[]⟩, .int .i64 0, .int .i64 0, .string ⟨#[]⟩, .int .i64 0, .slice none 0 0], .bool false]) (by simp [results, Try.results7, go_sem, r0, r1, r2, r3, r4, r5]) rfl ⟨rfl, hb0⟩
  · have hk0 : i < 0 := by omega
    go_enter Try.func7, Try.ntmps7
    go_wp2_with fail
    obtain ⟨r0, r1, r2, r3, r4, r5⟩ := cellsOf6 f0
    exact bodyPost_ret (v := .tuple #[.agg #[.string ⟨#[]⟩, .int .i64 0, .int .i64 0, .string ⟨#[]⟩, .int .i64 0, .slice none 0 0], .bool false]) (by simp [results, Try.results7, go_sem, r0, r1, r2, r3, r4, r5]) rfl ⟨rfl, hb0⟩

set_option maxRecDepth 100000 in
set_option maxHeartbeats 4000000 in
/-- A node is itself. -/
theorem Node_same {w : World} {x : Nd} {s s' : Value} (h : Ints w s x.kids) (h' : Ints w s' x.kids) (hl : x.kids.length ≤ 1000000) :
    Calls Try.prog 8 #[ndV x s, ndV x s'] w fun e w' => e = .returned (.bool true) ∧ Below w.heap.size w w' := by
  obtain ⟨A0, c0, rfl⟩ := h.form
  obtain ⟨A1, c1, rfl⟩ := h'.form
  obtain ⟨op, line, col, name, num, kids⟩ := x
  simp only at h h' hl
  unfold ndV
  simp only
  have hb0 := ((Below.refl w.heap.size w).alloc (Nat.le_refl _) (.cells #[.string op, .int .i64 line, .int .i64 col, .string name, .int .i64 num, .slice A0 kids.length c0] 33)).alloc (by simp) (.cells #[.string op, .int .i64 line, .int .i64 col, .string name, .int .i64 num, .slice A1 kids.length c1] 33)
  have f0 : ((w.alloc (.cells #[.string op, .int .i64 line, .int .i64 col, .string name, .int .i64 num, .slice A0 kids.length c0] 33)).alloc (.cells #[.string op, .int .i64 line, .int .i64 col, .string name, .int .i64 num, .slice A1 kids.length c1] 33)).heap[w.heap.size]? = some (.cells #[.string op, .int .i64 line, .int .i64 col, .string name, .int .i64 num, .slice A0 kids.length c0] 33) := by rw [Below.heap_alloc _ _ _ (by simp)]; exact last _ _
  have f1 : ((w.alloc (.cells #[.string op, .int .i64 line, .int .i64 col, .string name, .int .i64 num, .slice A0 kids.length c0] 33)).alloc (.cells #[.string op, .int .i64 line, .int .i64 col, .string name, .int .i64 num, .slice A1 kids.length c1] 33)).heap[w.heap.size + 1]? = some (.cells #[.string op, .int .i64 line, .int .i64 col, .string name, .int .i64 num, .slice A1 kids.length c1] 33) := by
    have := last (w.alloc (.cells #[.string op, .int .i64 line, .int .i64 col, .string name, .int .i64 num, .slice A0 kids.length c0] 33)) (.cells #[.string op, .int .i64 line, .int .i64 col, .string name, .int .i64 num, .slice A1 kids.length c1] 33)
    simpa using this
  have HE := Lib.hid (Equal_same (h.below hb0) (h'.below hb0) hl)
  have HB := Lib.hid hb0
  obtain ⟨z0, z1, z2, z3, z4, z5⟩ := cellsOf6 f0
  obtain ⟨n0, n1, n2, n3, n4, n5⟩ := cellsOf6 f1
  clear h h' hb0
  go_enter Try.func8, Try.ntmps8
  go_wp2_with (go_at_call 11; refine HE.out.mono ?_; rintro e w' ⟨rfl, hb⟩)
  go_ret
  exact ⟨rfl, HB.out.trans (hb.mono (by simp; omega))⟩

theorem Each_in {w : World} (p : Option Addr) (i : Int) : Calls Try.prog 9 #[.pointer p, .int .i64 i] w fun e w' =>
    e = .returned (.func (.func 20) #[] #[.pointer (some ⟨w.heap.size, 0, none⟩), .pointer (some ⟨w.heap.size + 1, 0, none⟩)]) ∧ w' = (w.alloc (.cells #[.pointer p] 26)).alloc (.cells #[.int .i64 i] 3) := by
  go_enter Try.func9, Try.ntmps9
  go_wp2_with fail
  go_ret
  exact ⟨rfl, rfl⟩

open TreP (WF nd inT deep places)
theorem nd_map {ms : List (Nd × Value)} {k : Nat} (hk : k < ms.length) : nd (ms.map (·.1)) k = ms[k].1 := by
  simp [nd, List.getD, hk]
/-- What a walk leans on. -/
structure Fine (ms : List (Nd × Value)) : Prop where
  wf : WF (ms.map (·.1))
  len : ms.length ≤ 2000
  kid : ∀ p ∈ ms, p.1.kids.length ≤ 2000
  few : ∀ k, k < ms.length → (places ms.length (ms.map (·.1)) k).length ≤ 2000
def deepsTo (f : Nat) (m : List Nd) (l : List Int) : Nat := (l.map (deep f m)).foldl max 0
theorem deepsTo_succ {f : Nat} {m : List Nd} {l : List Int} {j : Nat} (h : j < l.length) : deepsTo f m (l.take (j + 1)) = max (deepsTo f m (l.take j)) (deep f m (l.getD j 0)) := by
  unfold deepsTo
  rw [TreP.getD_take (d := 0) h]
  simp
theorem deepsTo_le (f : Nat) (m : List Nd) (l : List Int) : deepsTo f m l ≤ f := by
  refine TreP.foldl_max _ _ _ (by omega) fun x hx => ?_
  obtain ⟨y, _, rfl⟩ := List.mem_map.1 hx
  exact TreP.deep_bound f m y
theorem Fine.kid_lt {ms : List (Nd × Value)} (h : Fine ms) {k j : Nat} (hk : k < ms.length) (hj : j < ms[k].1.kids.length) : 0 ≤ ms[k].1.kids.getD j 0 ∧ ms[k].1.kids.getD j 0 < k := by
  have h1 := h.wf k (by simpa using hk) (ms[k].1.kids.getD j 0) (by
    have : (ms.map (·.1)).getD k default = ms[k].1 := by simp [List.getD, hk]
    rw [this]
    simp [List.getD, hj])
  exact h1

set_option maxRecDepth 100000 in
set_option maxHeartbeats 4000000 in
/-- How deep an expression of a tree is. -/
theorem Deep_in {B t : Nat} {v : Value} {ms : List (Nd × Value)} (hF : Fine ms) : ∀ (f : Nat), f ≤ 4000 → ∀ (i : Int) (w : World), TreeAt w B t v ms → (inT ms.length i = true → i < f) →
    Calls Try.prog 13 #[.pointer (some ⟨t, 0, none⟩), .int .i64 i] w fun e w' => e = .returned (.int .i64 (deep f (ms.map (·.1)) i : Nat)) ∧ Below w.heap.size w w' := by
  intro f
  induction f with
  | zero =>
    intro _ i w h hi
    have hc : inT ms.length i = false := by
      cases hc : inT ms.length i with
      | false => rfl
      | true => have := hi hc; rw [TreP.inT_iff] at hc; omega
    have hg := Get_miss h hc
    rw [TreP.deep_le _ _ _ (by simpa using hc)]
    clear h hi hc
    go_enter Try.func13, Try.ntmps13
    go_wp2_with (go_at_call 7; refine hg.mono ?_; rintro e w' ⟨rfl, hb⟩)
    go_ret
    exact ⟨rfl, hb.alloc hb.size _⟩
  | succ f ih =>
    intro hf i w h hi
    cases hc : inT ms.length i with
    | false =>
      have hg := Get_miss h hc
      rw [TreP.deep_le _ _ _ (by simpa using hc)]
      clear h hi hc ih
      go_enter Try.func13, Try.ntmps13
      go_wp2_with (go_at_call 7; refine hg.mono ?_; rintro e w' ⟨rfl, hb⟩)
      go_ret
      exact ⟨rfl, hb.alloc hb.size _⟩
    | true =>
      have hif := hi hc
      have hc' := TreP.inT_iff.1 hc
      obtain ⟨k, rfl⟩ := Int.eq_ofNat_of_zero_le hc'.1
      have hk : k < ms.length := by omega
      have hd : deep (f + 1) (ms.map (·.1)) (k : Nat) = deepsTo f (ms.map (·.1)) ms[k].1.kids + 1 := by
        have hc2 : inT (ms.map (·.1)).length (k : Int) = true := by simpa using hc
        simp only [deep, hc2, if_true, nd_map hk]; rfl
      rw [hd]
      have hlen := hF.kid _ (mem_kid hk)
      have hg := Get_hit h hk (by omega) (by have := hF.len; omega)
      have hlt : ∀ j, j < ms[k].1.kids.length → (inT ms.length (ms[k].1.kids.getD j 0) = true → ms[k].1.kids.getD j 0 < f) := fun j hj _ => by have := hF.kid_lt hk hj; omega
      generalize hp : ms[k] = p at *
      obtain ⟨⟨op, line, col, name, num, kids⟩, s0⟩ := p
      simp only at hlen hg hlt
      unfold ndV at hg
      simp only at hg ⊢
      have HT := Lib.hid h
      have HLT := Lib.hid hlt
      have HF := Lib.hid hF
      have HG := Lib.hid hg
      clear h hlt hi hc hc' hd hp hg
      go_enter Try.func13, Try.ntmps13
      go_wp2_with fail
      refine HG.out.mono ?_
      rintro e w1 ⟨s, rfl, hown, hb⟩
      obtain ⟨A1, c1, rfl⟩ := hown.form
      have HT1 := Lib.hid ((HT.out.below hb).below ((Below.refl w1.heap.size w1).alloc (Nat.le_refl _) (.cells #[.string op, .int .i64 line, .int .i64 col, .string name, .int .i64 num, .slice A1 kids.length c1] 33)))
      have HO := Lib.hid (hown.ints.below ((Below.refl w1.heap.size w1).alloc (Nat.le_refl _) (.cells #[.string op, .int .i64 line, .int .i64 col, .string name, .int .i64 num, .slice A1 kids.length c1] 33)))
      have HB := Lib.hid (hb.alloc hb.size (.cells #[.string op, .int .i64 line, .int .i64 col, .string name, .int .i64 num, .slice A1 kids.length c1] 33))
      have f1 := last w1 (.cells #[.string op, .int .i64 line, .int .i64 col, .string name, .int .i64 num, .slice A1 kids.length c1] 33)
      obtain ⟨n0, n1, n2, n3, n4, n5⟩ := cellsOf6 f1
      clear hown hb
      go_wp2_with fail
      generalize w1.alloc (.cells #[.string op, .int .i64 line, .int .i64 col, .string name, .int .i64 num, .slice A1 kids.length c1] 33) = W1 at *
      go_loopw [7, 9, 21] (fun mo _ i wr => ∃ j : Nat, i = .int .i64 j ∧ j ≤ kids.length ∧ mo = .int .i64 (deepsTo f (ms.map (·.1)) (kids.take j) : Nat) ∧ Below W1.heap.size W1 wr) (fun _ _ i _ => ((kids.length : Int) - intOf i).toNat)
      case atStart => exact ⟨0, rfl, by omega, by simp [deepsTo], Below.refl _ _⟩
      case round =>
        obtain ⟨j, rfl, hj, rfl, hr⟩ := hrel
        by_cases hjl : j < kids.length
        · have hji : (j : Int) < kids.length := by omega
          rcases HO.out.below hr with ⟨_, h2⟩ | ⟨b, off, c', h1, h2⟩
          · rw [h2] at hjl; simp at hjl
          cases h1
          have e1 := h2 j hjl
          clear h2
          have hcall := ih (by omega) (kids.getD j 0) wr (HT1.out.below hr) (HLT.out j hjl)
          have HM := Lib.hid (deepsTo_succ (f := f) (m := ms.map (·.1)) hjl)
          generalize kids.getD j 0 = y at *
          generalize deepsTo f (ms.map (·.1)) (kids.take j) = D at *
          generalize deep f (ms.map (·.1)) y = D2 at *
          go_wp2_with (go_at_call 13; refine hcall.mono ?_; rintro e w' ⟨rfl, hb⟩)
          go_roundw
          case rel => exact ⟨j + 1, by simp, by omega, by rw [HM.out]; simp; try omega, hr.trans (hb.mono hr.size)⟩
          case measure => simp [intOf]; omega
        · have hji : ¬ (j : Int) < kids.length := by omega
          have hje : j = kids.length := by omega
          have hDl := deepsTo_le f (ms.map (·.1)) kids
          rw [hje, List.take_length]
          obtain ⟨D, hD⟩ : ∃ D, deepsTo f (ms.map (·.1)) kids = D := ⟨_, rfl⟩
          rw [hD] at hDl ⊢
          have HD := Lib.hid hD; clear hD
          go_wp2_with fail
          go_ret
          exact ⟨by rw [HD.out]; simp; try omega, HB.out.trans (hr.mono HB.out.size)⟩
end Go.Proofs.Ytnaednfdaaiciaa
