/- Two orders, and those by the document. -/
import Derived.Test.YtkcbcdfcpchgcaaDoorLab6
set_option linter.unusedVariables false
set_option linter.unusedSimpArgs false
namespace Go.Proofs.YtkcbcdfcpchgcaaDoor
open Go.RowKit
open OrdP (inB Rel allB allB_iff)

theorem IsOrd.low {w : World} {B B' b n : Nat} {R : Rel} (h : IsOrd w B b n R) (hB : B' ≤ B) : IsOrd w B' b n R := by
  obtain ⟨h1, h2, bu, bd, u, d, h3, h4, h5, h6, h7, h8, h9⟩ := h
  exact ⟨by omega, h2, bu, bd, u, d, by omega, by omega, h5, h6, h7, h8, h9⟩

def LOfPost (w : World) (e : Ending) (w' : World) : Prop :=
  Below w.heap.size w w' ∧
  ((∃ p q x s k c y s' k' c', e = .returned (.tuple #[.agg #[.pointer p, .pointer q], .agg #[.int .i64 x, .slice s k c, .int .i64 y, .slice s' k' c'], .bool false])) ∨
   (∃ b1 b2 n1 n2 g1 g2 c1 c2 R1 R2, e = .returned (.tuple #[latV b1 b2, refV n1 g1 c1 n2 g2 c2, .bool true]) ∧ (1 ≤ n1 ∧ n1 ≤ 32) ∧ (1 ≤ n2 ∧ n2 ≤ 32) ∧ LatAt w' w.heap.size b1 b2 n1 n2 g1 g2 R1 R2 ∧ OrdP.Lat n1 R1 ∧ OrdP.Lat n2 R2))

theorem cellsOf_set2 {w : World} {b : Nat} {x y : Value} {t : TypeId} (h : w.heap[b]? = some (.cells #[x, y] t)) : w.cell? ⟨b, 0, none⟩ = some x ∧ w.cell? ⟨b, 1, none⟩ = some y := cellsOf2 h

theorem IsOrd.keep {w w' : World} {B b n : Nat} {R : Rel} (h : IsOrd w B b n R) (hs : w.heap.size ≤ w'.heap.size) (hk : ∀ k, B ≤ k → k < w.heap.size → w'.heap[k]? = w.heap[k]?) : IsOrd w' B b n R := by
  obtain ⟨h1, h2, bu, bd, u, d, h3, h4, h5, h6, h7, h8, h9⟩ := h
  have e1 := hk b h1 h2
  have e2 := hk bu h3 h5
  have e3 := hk bd h4 h6
  refine ⟨h1, by omega, bu, bd, u, d, h3, h4, by omega, by omega, ⟨?_, ?_, fun i hi => ?_, fun i hi => ?_⟩, h8, h9⟩
  · exact (World.cell?_of_block e1).trans h7.up
  · exact (World.cell?_of_block e1).trans h7.down
  · exact (World.cell?_of_block e2).trans (h7.us i hi)
  · exact (World.cell?_of_block e3).trans (h7.ds i hi)
theorem RefAt.keep {w w' : World} {g n z1 z2 : Nat} {R : Rel} {p : Option Addr} {x : Int} (h : RefAt w g n R) (h1 : w.cell? ⟨z1, 0, none⟩ = some (.pointer p)) (h2 : w.cell? ⟨z2, 0, none⟩ = some (.int .i64 x)) (hk : ∀ k, k ≠ z1 → k ≠ z2 → w'.heap[k]? = w.heap[k]?) : RefAt w' g n R := by
  obtain ⟨row, a1, a2⟩ := h
  refine ⟨row, fun i hi => ?_, fun i j hi hj => ?_⟩
  · have d1 : g ≠ z1 := fun e => by
      have := a1 0 (by omega)
      rw [e, h1] at this; cases this
    have d2 : g ≠ z2 := fun e => by
      have := a1 0 (by omega)
      rw [e, h2] at this; cases this
    exact (World.cell?_of_block (hk g d1 d2)).trans (a1 i hi)
  · have d1 : row i ≠ z1 := fun e => by
      have := a2 i 0 hi (by omega)
      rw [e, h1] at this; cases this
    have d2 : row i ≠ z2 := fun e => by
      have := a2 i 0 hi (by omega)
      rw [e, h2] at this; cases this
    exact (World.cell?_of_block (hk (row i) d1 d2)).trans (a2 i j hi hj)
def st2 (w : World) (z : Nat) (a b : Value) : World := (w.setCell ⟨z, 0, none⟩ a).setCell ⟨z, 1, none⟩ b
def st4 (w : World) (z : Nat) (a b c d : Value) : World := (((w.setCell ⟨z, 0, none⟩ a).setCell ⟨z, 1, none⟩ b).setCell ⟨z, 2, none⟩ c).setCell ⟨z, 3, none⟩ d
theorem st4_heap {w : World} {b : Nat} {x y z u : Value} {t : TypeId} (h : w.heap[b]? = some (.cells #[x, y, z, u] t)) (a c d e : Value) : (st4 w b a c d e).heap[b]? = some (.cells #[a, c, d, e] t) := by
  simp [st4, World.setCell, Array.getElem?_modify, h]
theorem st4_other {w : World} {b k : Nat} (h : k ≠ b) (a c d e : Value) : (st4 w b a c d e).heap[k]? = w.heap[k]? := by
  unfold st4; rw [Below.heap_setCell _ _ _ _ h, Below.heap_setCell _ _ _ _ h, Below.heap_setCell _ _ _ _ h, Below.heap_setCell _ _ _ _ h]
theorem st2_heap {w : World} {b : Nat} {x y : Value} {t : TypeId} (h : w.heap[b]? = some (.cells #[x, y] t)) (u v : Value) : (st2 w b u v).heap[b]? = some (.cells #[u, v] t) := set2_heap h u v
theorem st2_other {w : World} {b c : Nat} (h : c ≠ b) (u v : Value) : (st2 w b u v).heap[c]? = w.heap[c]? := set2_other h u v
theorem Below.st2 {B : Nat} {a w : World} (h : Below B a w) {b : Nat} (hb : B ≤ b) (u v : Value) : Below B a (st2 w b u v) := Below.set2 h hb u v
theorem Below.st4 {B : Nat} {a w : World} (h : Below B a w) {b : Nat} (hb : B ≤ b) (u v x y : Value) : Below B a (st4 w b u v x y) := (((h.setCell (p := ⟨b, 0, none⟩) hb u).setCell (p := ⟨b, 1, none⟩) hb v).setCell (p := ⟨b, 2, none⟩) hb x).setCell (p := ⟨b, 3, none⟩) hb y

theorem fin9 {WB w : World} {B z1 z2 : Nat} {a0 a1 b0 b1 b2 b3 : Value} {t1 t2 : TypeId} (hne : z1 ≠ z2) (h1 : WB.heap[z1]? = some (.cells #[a0, a1] t1)) (h2 : WB.heap[z2]? = some (.cells #[b0, b1, b2, b3] t2)) (hb : Below B w WB) (hB1 : B ≤ z1) (hB2 : B ≤ z2) (p q x s y r : Value) :
    ∃ W9, (st4 (st2 WB z1 p q) z2 x s y r).drew = W9 ∧ (W9.cell? ⟨z1, 0, none⟩ = some p ∧ W9.cell? ⟨z1, 1, none⟩ = some q) ∧
      (W9.cell? ⟨z2, 0, none⟩ = some x ∧ W9.cell? ⟨z2, 1, none⟩ = some s ∧ W9.cell? ⟨z2, 2, none⟩ = some y ∧ W9.cell? ⟨z2, 3, none⟩ = some r) ∧
      Below B w W9 ∧ (∀ k, k ≠ z1 → k ≠ z2 → W9.heap[k]? = WB.heap[k]?) ∧ WB.heap.size ≤ W9.heap.size := by
  have e1 : (st4 (st2 WB z1 p q) z2 x s y r).heap[z1]? = some (.cells #[p, q] t1) := (st4_other hne _ _ _ _).trans (st2_heap h1 _ _)
  have e2 : (st4 (st2 WB z1 p q) z2 x s y r).heap[z2]? = some (.cells #[x, s, y, r] t2) := st4_heap ((st2_other (Ne.symm hne) _ _).trans h2) _ _ _ _
  have e3 : Below B w (st4 (st2 WB z1 p q) z2 x s y r) := Below.st4 (Below.st2 hb hB1 _ _) hB2 _ _ _ _
  have e4 : ∀ k, k ≠ z1 → k ≠ z2 → (st4 (st2 WB z1 p q) z2 x s y r).heap[k]? = WB.heap[k]? := fun k h1 h2 => (st4_other h2 _ _ _ _).trans (st2_other h1 _ _)
  have e5 : WB.heap.size ≤ (st4 (st2 WB z1 p q) z2 x s y r).heap.size := by simp [st4, st2]
  generalize st4 (st2 WB z1 p q) z2 x s y r = X at *
  exact ⟨X.drew, rfl, cellsOf2 (w := X.drew) e1, cellsOf4 (w := X.drew) e2, e3.drew, e4, e5⟩

set_option maxRecDepth 100000 in
set_option maxHeartbeats 4000000 in
theorem LOf_in (w : World) (ht : TabAt w) (hB0 : 0 < w.heap.size) (n m : Int) (n1 : -128 ≤ n) (n2 : n ≤ 127) (m1 : -128 ≤ m) (m2 : m ≤ 127) (A B : Option Addr) (ca cb la lb : Nat) (l k : List (Int × Int)) (hla : l.length = la) (hlb : k.length = lb) (hA : la ≤ 100 → PairsAt w A l) (hB : lb ≤ 100 → PairsAt w B k) (hma : (la : Int) ≤ 9223372036854775807) (hmb : (lb : Int) ≤ 9223372036854775807) :
    Calls Tryd.prog 20 #[.agg #[.int .i8 n, .int .i8 m, .slice A la ca, .slice B lb cb]] w (LOfPost w) := by
  have HA := Lib.hid hA
  have HB := Lib.hid hB
  have HT := Lib.hid ht
  clear hA hB ht
  obtain ⟨f0, f1, f2, fs⟩ := three w (.cells #[.int .i8 n, .int .i8 m, .slice A la ca, .slice B lb cb] 44) (.cells #[.pointer none, .pointer none] 47) (.cells #[.int .i64 0, .slice none 0 0, .int .i64 0, .slice none 0 0] 49)
  have hb0 := three_below w (.cells #[.int .i8 n, .int .i8 m, .slice A la ca, .slice B lb cb] 44) (.cells #[.pointer none, .pointer none] 47) (.cells #[.int .i64 0, .slice none 0 0, .int .i64 0, .slice none 0 0] 49)
  have hzero : ∀ e w', e = .returned (.tuple #[.agg #[.pointer none, .pointer none], .agg #[.int .i64 0, .slice none 0 0, .int .i64 0, .slice none 0 0], .bool false]) → Below w.heap.size w w' → LOfPost w e w' := fun e w' he hb => ⟨hb, .inl ⟨_, _, _, _, _, _, _, _, _, _, he⟩⟩
  have HZ := Lib.hid hzero; clear hzero
  by_cases h1 : 100 < la
  · go_enter Tryd.func20, Tryd.ntmps20
    go_wp2_with fail
    generalize ((w.alloc (.cells #[.int .i8 n, .int .i8 m, .slice A la ca, .slice B lb cb] 44)).alloc (.cells #[.pointer none, .pointer none] 47)).alloc (.cells #[.int .i64 0, .slice none 0 0, .int .i64 0, .slice none 0 0] 49) = W1 at *
    obtain ⟨d0, d1⟩ := cellsOf2 f1
    obtain ⟨e0, e1, e2, e3⟩ := cellsOf4 f2
    exact bodyPost_ret (v := .tuple #[.agg #[.pointer none, .pointer none], .agg #[.int .i64 0, .slice none 0 0, .int .i64 0, .slice none 0 0], .bool false]) (by simp [results, Tryd.results20, go_sem, d0, d1, e0, e1, e2, e3]) rfl (HZ.out _ _ rfl hb0)
  · by_cases h2 : 100 < lb
    · go_enter Tryd.func20, Tryd.ntmps20
      go_wp2_with fail
      generalize ((w.alloc (.cells #[.int .i8 n, .int .i8 m, .slice A la ca, .slice B lb cb] 44)).alloc (.cells #[.pointer none, .pointer none] 47)).alloc (.cells #[.int .i64 0, .slice none 0 0, .int .i64 0, .slice none 0 0] 49) = W1 at *
      obtain ⟨d0, d1⟩ := cellsOf2 f1
      obtain ⟨e0, e1, e2, e3⟩ := cellsOf4 f2
      exact bodyPost_ret (v := .tuple #[.agg #[.pointer none, .pointer none], .agg #[.int .i64 0, .slice none 0 0, .int .i64 0, .slice none 0 0], .bool false]) (by simp [results, Tryd.results20, go_sem, d0, d1, e0, e1, e2, e3]) rfl (HZ.out _ _ rfl hb0)
    · go_enter Tryd.func20, Tryd.ntmps20
      go_wp2_with fail
      generalize ((w.alloc (.cells #[.int .i8 n, .int .i8 m, .slice A la ca, .slice B lb cb] 44)).alloc (.cells #[.pointer none, .pointer none] 47)).alloc (.cells #[.int .i64 0, .slice none 0 0, .int .i64 0, .slice none 0 0] 49) = W1 at *
      have hA := HA.out (by omega)
      have hB := HB.out (by omega)
      have HA1 := Lib.hid (hA.below hb0)
      have HT1 := Lib.hid (HT.out.below hB0 hb0)
      have HB' := Lib.hid hB
      clear hA hB
      subst hla
      subst hlb
      refine (Of_in W1 HT1.out (by omega) n A ca l (by omega) HA1.out).mono ?_
      rintro e w1 ⟨hb1, h⟩
      have hs1 := hb1.size
      have hb01 := hb0.trans (hb1.mono (by omega))
      have h : ∃ P x s k c, e = .returned (.tuple #[.pointer P, .agg #[.int .i64 x, .slice s k c], .bool true]) ∧ (P = none ∨ (1 ≤ n ∧ n ≤ 32 ∧ ∃ b g cp R S, P = some ⟨b, 0, none⟩ ∧ x = n ∧ s = some ⟨g, 0, none⟩ ∧ k = n.toNat ∧ c = cp ∧ IsOrd w1 W1.heap.size b n.toNat R ∧ OrdP.Lat n.toNat R ∧ RefAt w1 g n.toNat S ∧ ∀ i j, i < n.toNat → j < n.toNat → S i j = R i j)) := by
        rcases h with ⟨x, s, k, c, rfl⟩ | ⟨u1, u2, b, g, cp, R, S, rfl, u3, u4, u5, u6⟩
        · exact ⟨none, x, s, k, c, rfl, .inl rfl⟩
        · exact ⟨_, _, _, _, _, rfl, .inr ⟨u1, u2, b, g, cp, R, S, rfl, rfl, rfl, rfl, rfl, u3, u4, u5, u6⟩⟩
      obtain ⟨P, x, s, k1, c1, rfl, hP⟩ := h
      have HP := Lib.hid hP
      have g0 := (hb1.block _ (by omega)).trans f0
      have g1 := (hb1.block _ (by omega)).trans f1
      have g2 := (hb1.block _ (by omega)).trans f2
      clear hP f0 f1 f2 hb0
      obtain ⟨c0, c1c, c2, c3⟩ := cellsOf4 g0
      have g0' := (Below.heap_alloc w1 (.cells #[.int .i64 x, .slice s k1 c1] 28) w.heap.size (by omega)).trans g0
      have g1' := (Below.heap_alloc w1 (.cells #[.int .i64 x, .slice s k1 c1] 28) (w.heap.size + 1) (by omega)).trans g1
      have g2' := (Below.heap_alloc w1 (.cells #[.int .i64 x, .slice s k1 c1] 28) (w.heap.size + 1 + 1) (by omega)).trans g2
      have g3' := last w1 (.cells #[.int .i64 x, .slice s k1 c1] 28)
      have hbA := hb01.alloc (by omega) (.cells #[.int .i64 x, .slice s k1 c1] 28)
      have hbA1 := hb1.alloc (by omega) (.cells #[.int .i64 x, .slice s k1 c1] 28)
      have hbA2 := (Below.refl w1.heap.size w1).alloc (Nat.le_refl _) (.cells #[.int .i64 x, .slice s k1 c1] 28)
      have hsA : (w1.alloc (.cells #[.int .i64 x, .slice s k1 c1] 28)).heap.size = w1.heap.size + 1 := by simp
      obtain ⟨c0, c1c, c2, c3⟩ := cellsOf4 g0'
      go_wp2_with fail
      generalize (w1.alloc (.cells #[.int .i64 x, .slice s k1 c1] 28)) = WA at *
      have HT2 := Lib.hid (HT1.out.below (by omega) hbA1)
      have HB2 := Lib.hid (HB'.out.below hbA)
      refine (Of_in WA HT2.out (by omega) m B cb k (by omega) HB2.out).mono ?_
      rintro e w2 ⟨hb2, h⟩
      have hs2 := hb2.size
      have h : ∃ P y s k c, e = .returned (.tuple #[.pointer P, .agg #[.int .i64 y, .slice s k c], .bool true]) ∧ (P = none ∨ (1 ≤ m ∧ m ≤ 32 ∧ ∃ b g cp R S, P = some ⟨b, 0, none⟩ ∧ y = m ∧ s = some ⟨g, 0, none⟩ ∧ k = m.toNat ∧ c = cp ∧ IsOrd w2 WA.heap.size b m.toNat R ∧ OrdP.Lat m.toNat R ∧ RefAt w2 g m.toNat S ∧ ∀ i j, i < m.toNat → j < m.toNat → S i j = R i j)) := by
        rcases h with ⟨x, s, k, c, rfl⟩ | ⟨u1, u2, b, g, cp, R, S, rfl, u3, u4, u5, u6⟩
        · exact ⟨none, x, s, k, c, rfl, .inl rfl⟩
        · exact ⟨_, _, _, _, _, rfl, .inr ⟨u1, u2, b, g, cp, R, S, rfl, rfl, rfl, rfl, rfl, u3, u4, u5, u6⟩⟩
      obtain ⟨P', y, s', k1', c1', rfl, hP'⟩ := h
      have HP' := Lib.hid hP'
      have b1 := (hb2.block _ (by omega)).trans g1'
      have b2 := (hb2.block _ (by omega)).trans g2'
      have b3 := (hb2.block _ (by omega)).trans g3'
      have b1' := (Below.heap_alloc w2 (.cells #[.int .i64 y, .slice s' k1' c1'] 28) (w.heap.size + 1) (by omega)).trans b1
      have b2' := (Below.heap_alloc w2 (.cells #[.int .i64 y, .slice s' k1' c1'] 28) (w.heap.size + 1 + 1) (by omega)).trans b2
      have b3' := (Below.heap_alloc w2 (.cells #[.int .i64 y, .slice s' k1' c1'] 28) w1.heap.size (by omega)).trans b3
      have b4' := last w2 (.cells #[.int .i64 y, .slice s' k1' c1'] 28)
      have hbB := (hbA.trans (hb2.mono (by omega))).alloc (by omega) (.cells #[.int .i64 y, .slice s' k1' c1'] 28)
      have hbB2 := (Below.refl w2.heap.size w2).alloc (Nat.le_refl _) (.cells #[.int .i64 y, .slice s' k1' c1'] 28)
      have hsB : (w2.alloc (.cells #[.int .i64 y, .slice s' k1' c1'] 28)).heap.size = w2.heap.size + 1 := by simp
      clear g0 g1 g2 g0' g1' g2' g3' b1 b2 b3 hP' hb1 hb01 c0 c2 c3
      go_wp2_with fail
      generalize (w2.alloc (.cells #[.int .i64 y, .slice s' k1' c1'] 28)) = WB at *
      obtain ⟨d0, d1⟩ := cellsOf2 b1'
      obtain ⟨e0, e1, e2, e3⟩ := cellsOf4 b2'
      obtain ⟨i0, i1⟩ := cellsOf2 b3'
      obtain ⟨j0, j1⟩ := cellsOf2 b4'
      have zd := frozenOf b1'
      have ze := frozenOf b2'
      have HW := Lib.hid (And.intro b1' (And.intro b2' (And.intro hbB (And.intro hbB2 (And.intro hb2 hbA2)))))
      clear b1' b2' b3' b4' hbB hbB2 hb2 hbA2 hbA hbA1
      have hbW := HW.out.2.2.1
      have HWf := Lib.hid (fun p p' : Option Addr => fin9 (by omega) HW.out.1 HW.out.2.1 hbW (by omega) (by omega) (.pointer p) (.pointer p') (.int .i64 x) (.slice s k1 c1) (.int .i64 y) (.slice s' k1' c1'))
      clear hbW
      cases P with
      | none =>
        go_region
        all_goals
          obtain ⟨W9, h9, ⟨r0, r1⟩, ⟨r2, r3, r4, r5⟩, hb9, _, _⟩ := HWf.out none P'
          simp only [st4, st2] at h9
          rw [h9]
          clear h9
          go_wp2_with fail
          exact bodyPost_ret (v := .tuple #[.agg #[.pointer none, .pointer P'], .agg #[.int .i64 x, .slice s k1 c1, .int .i64 y, .slice s' k1' c1'], .bool false]) (by simp [results, Tryd.results20, go_sem, r0, r1, r2, r3, r4, r5]) rfl ⟨hb9, .inl ⟨_, _, _, _, _, _, _, _, _, _, rfl⟩⟩
      | some P =>
        cases P' with
        | none =>
          go_region
          all_goals
            obtain ⟨W9, h9, ⟨r0, r1⟩, ⟨r2, r3, r4, r5⟩, hb9, _, _⟩ := HWf.out (some P) none
            simp only [st4, st2] at h9
            rw [h9]
            clear h9
            go_wp2_with fail
            exact bodyPost_ret (v := .tuple #[.agg #[.pointer (some P), .pointer none], .agg #[.int .i64 x, .slice s k1 c1, .int .i64 y, .slice s' k1' c1'], .bool false]) (by simp [results, Tryd.results20, go_sem, r0, r1, r2, r3, r4, r5]) rfl ⟨hb9, .inl ⟨_, _, _, _, _, _, _, _, _, _, rfl⟩⟩
        | some P' =>
          go_region
          all_goals
            obtain ⟨W9, h9, ⟨r0, r1⟩, ⟨r2, r3, r4, r5⟩, hb9, hk9, hs9⟩ := HWf.out (some P) (some P')
            simp only [st4, st2] at h9
            rw [h9]
            clear h9
            go_wp2_with fail
            refine bodyPost_ret (v := .tuple #[.agg #[.pointer (some P), .pointer (some P')], .agg #[.int .i64 x, .slice s k1 c1, .int .i64 y, .slice s' k1' c1'], .bool true]) (by simp [results, Tryd.results20, go_sem, r0, r1, r2, r3, r4, r5]) rfl ⟨hb9, .inr ?_⟩
            have hb2 := HW.out.2.2.2.2.1
            have hbA2 := HW.out.2.2.2.2.2
            have hbB2 := HW.out.2.2.2.1
            rcases HP.out with h | ⟨u1, u2, b, g, cp, R, S, hPe, hx, hs, hk1, hc1, hI, hLat, hRS, hSR⟩
            · cases h
            rcases HP'.out with h | ⟨v1, v2, b', g', cp', R', S', hPe', hx', hs', hk1', hc1', hI', hLat', hRS', hSR'⟩
            · cases h
            cases hPe
            cases hPe'
            subst hx hs hk1 hc1 hx' hs' hk1' hc1'
            have q1 := (((hI.below (Nat.le_refl _) hbA2).below (Nat.le_refl _) hb2).below (Nat.le_refl _) hbB2)
            have q2 := hI'.below (Nat.le_refl _) hbB2
            have q3 : IsOrd W9 W1.heap.size b x.toNat R := q1.keep hs9 (fun k h1 h2 => hk9 k (by omega) (by omega))
            have q4 : IsOrd W9 WA.heap.size b' y.toNat R' := q2.keep hs9 (fun k h1 h2 => hk9 k (by omega) (by omega))
            refine ⟨b, b', x.toNat, y.toNat, g, g', c1, c1', R, R', ?_, by omega, by omega, ⟨?_, ?_, ⟨S, ?_, hSR⟩, ⟨S', ?_, hSR'⟩⟩, hLat, hLat'⟩
            · simp only [latV, refV, Int.toNat_of_nonneg (show (0 : Int) ≤ x by omega), Int.toNat_of_nonneg (show (0 : Int) ≤ y by omega)]
            · exact q3.low (by omega)
            · exact q4.low (by omega)
            · exact (((hRS.below hbA2).below hb2).below hbB2).keep d0 e0 hk9
            · exact (hRS'.below hbB2).keep d0 e0 hk9
end Go.Proofs.YtkcbcdfcpchgcaaDoor
