/- whisperlaw01.Of: an order, and that by the document, are alike. -/
import Derived.Test.YtkcbcdfcpchgcaaDoorRef5
set_option linter.unusedVariables false
set_option linter.unusedSimpArgs false
namespace Go.Proofs.YtkcbcdfcpchgcaaDoor
open Go.RowKit
open OrdP (inB Rel allB allB_iff)

theorem zf {w : World} {b : Nat} {x y : Value} {t : TypeId} (h : w.heap[b]? = some (.cells #[x, y] t)) (u v : Value) (t' : TypeId) :
    (w.alloc (.cells #[u, v] t')).cell? ⟨b, 0, none⟩ = some x ∧ (w.alloc (.cells #[u, v] t')).cell? ⟨b, 1, none⟩ = some y ∧ (∀ i, (w.alloc (.cells #[u, v] t')).frozen? ⟨b, i, none⟩ = false) ∧
    (w.alloc (.cells #[u, v] t')).cell? ⟨w.heap.size, 0, none⟩ = some u ∧ (w.alloc (.cells #[u, v] t')).cell? ⟨w.heap.size, 1, none⟩ = some v ∧ (w.alloc (.cells #[u, v] t')).heap.size = w.heap.size + 1 := by
  have hlt : b < w.heap.size := (Array.getElem?_eq_some_iff.1 h).1
  have e : (w.alloc (.cells #[u, v] t')).heap[b]? = some (.cells #[x, y] t) := by rw [Below.heap_alloc _ _ _ hlt]; exact h
  obtain ⟨c1, c2⟩ := cell_two_l w u v t'
  refine ⟨by simp only [World.cell?, e]; rfl, by simp only [World.cell?, e]; rfl, fun i => by simp [World.frozen?, e], c1, c2, by simp⟩

theorem Lat_congr {n : Nat} {R S : Rel} (h : ∀ i j, i < n → j < n → S i j = R i j) (hL : OrdP.Lat n R) : OrdP.Lat n S :=
  ⟨fun i hi => by rw [h i i hi hi]; exact hL.refl i hi, fun i j k hi hj hk a b => by rw [h i j hi hj] at a; rw [h j k hj hk] at b; rw [h i k hi hk]; exact hL.trans i j k hi hj hk a b,
   fun i j hi hj a b => by rw [h i j hi hj] at a; rw [h j i hj hi] at b; exact hL.anti i j hi hj a b, fun a b ha hb => by rw [OrdP.join_congr h ha hb]; exact hL.join a b ha hb, fun a b ha hb => by rw [OrdP.meet_congr h ha hb]; exact hL.meet a b ha hb⟩
theorem newR_refl (n : Nat) (l : List (Int × Int)) (i : Nat) (hi : i < n) : newR n l i i = true := OrdP.warshall_sub n (R0 l) n i i hi hi (r0_refl l i)
theorem newR_clo (n : Nat) (l : List (Int × Int)) : OrdP.Clo n (R0 l) (newR n l) := OrdP.warshall_clo n (R0 l)
theorem lat_is {n : Nat} {l : List (Int × Int)} {S : Rel} (hS : OrdP.Clo n (R0 l) S) : OrdP.latticeRef n S = OrdP.lattice n (newR n l) := by
  have h := hS.unique (newR_clo n l)
  have hr : ∀ i, i < n → S i i = true := fun i hi => by rw [h i i hi hi]; exact newR_refl n l i hi
  rw [Bool.eq_iff_iff, OrdP.latticeRef_iff hr hS.trans, OrdP.lattice_iff (newR_refl n l) (newR_clo n l).trans]
  exact ⟨Lat_congr fun i j hi hj => (h i j hi hj).symm, Lat_congr h⟩

theorem IsOrd.set2 {w : World} {B b n z : Nat} {R : Rel} (h : IsOrd w B b n R) {B' : Nat} (hz : z < B) (hB : B' ≤ B) (x y : Value) : IsOrd ((w.setCell ⟨z, 0, none⟩ x).setCell ⟨z, 1, none⟩ y) B' b n R := by
  obtain ⟨h1, h2, bu, bd, u, d, h3, h4, h5, h6, h7, h8, h9⟩ := h
  have hs : ((w.setCell ⟨z, 0, none⟩ x).setCell ⟨z, 1, none⟩ y).heap.size = w.heap.size := by simp [World.setCell]
  refine ⟨by omega, by omega, bu, bd, u, d, by omega, by omega, by omega, by omega, ⟨?_, ?_, fun i hi => ?_, fun i hi => ?_⟩, h8, h9⟩
  · rw [cell_set_ne (by show z ≠ b; omega), cell_set_ne (by show z ≠ b; omega)]; exact h7.up
  · rw [cell_set_ne (by show z ≠ b; omega), cell_set_ne (by show z ≠ b; omega)]; exact h7.down
  · rw [cell_set_ne (by show z ≠ bu; omega), cell_set_ne (by show z ≠ bu; omega)]; exact h7.us i hi
  · rw [cell_set_ne (by show z ≠ bd; omega), cell_set_ne (by show z ≠ bd; omega)]; exact h7.ds i hi
theorem IsOrd.alike {w : World} {B b n : Nat} {R : Rel} (h : IsOrd w B b n R) : IsOrd w.drew B b n R := by
  obtain ⟨h1, h2, bu, bd, u, d, h3, h4, h5, h6, h7, h8, h9⟩ := h
  exact ⟨h1, h2, bu, bd, u, d, h3, h4, h5, h6, ⟨h7.up, h7.down, h7.us, h7.ds⟩, h8, h9⟩
theorem RefAt.set2 {w : World} {g n z : Nat} {R : Rel} (h : RefAt w g n R) {k : Int} (hz : w.cell? ⟨z, 0, none⟩ = some (.int .i64 k)) (x y : Value) : RefAt ((w.setCell ⟨z, 0, none⟩ x).setCell ⟨z, 1, none⟩ y) g n R := by
  obtain ⟨row, h1, h2⟩ := h
  refine ⟨row, fun i hi => ?_, fun i j hi hj => ?_⟩
  · have hne : z ≠ g := fun e => by
      have := h1 0 (by omega)
      rw [← e, hz] at this
      cases this
    rw [cell_set_ne hne, cell_set_ne hne]; exact h1 i hi
  · have hne : z ≠ row i := fun e => by
      have := h2 i 0 hi (by omega)
      rw [← e, hz] at this
      cases this
    rw [cell_set_ne hne, cell_set_ne hne]; exact h2 i j hi hj

/-- What Of answers: no order; or one, and that by the document, of one relation. -/
def OfPost (w : World) (n : Int) (e : Ending) (w' : World) : Prop :=
  Below w.heap.size w w' ∧
  ((∃ x s k c, e = .returned (.tuple #[.pointer none, .agg #[.int .i64 x, .slice s k c], .bool true])) ∨
   (1 ≤ n ∧ n ≤ 32 ∧ ∃ b g cp R S, e = .returned (.tuple #[.pointer (some ⟨b, 0, none⟩), .agg #[.int .i64 n, .slice (some ⟨g, 0, none⟩) n.toNat cp], .bool true]) ∧
     IsOrd w' w.heap.size b n.toNat R ∧ OrdP.Lat n.toNat R ∧ RefAt w' g n.toNat S ∧ ∀ i j, i < n.toNat → j < n.toNat → S i j = R i j))

set_option maxRecDepth 100000 in
set_option maxHeartbeats 4000000 in
theorem Of_in (w : World) (ht : TabAt w) (hB0 : 0 < w.heap.size) (n : Int) (A : Option Addr) (cap : Nat) (l : List (Int × Int)) (hl : l.length ≤ 1000) (hp : PairsAt w A l) :
    Calls Tryd.prog 7 #[.int .i64 n, .slice A l.length cap] w (OfPost w n) := by
  have HP := Lib.hid hp; clear hp
  have HT := Lib.hid ht; clear ht
  go_enter Tryd.func7, Tryd.ntmps7
  go_wp2_with fail
  have hb0 : Below w.heap.size w (w.alloc (.cells #[.int .i64 0, .slice none 0 0] 28)) := (Below.refl _ _).alloc (Nat.le_refl _) _
  have hs0 : (w.alloc (.cells #[.int .i64 0, .slice none 0 0] 28)).heap.size = w.heap.size + 1 := by simp
  have hz0' : (w.alloc (.cells #[.int .i64 0, .slice none 0 0] 28)).heap[w.heap.size]? = some (.cells #[.int .i64 0, .slice none 0 0] 28) := by simp only [World.alloc, Array.getElem?_push]; simp
  generalize w.alloc (.cells #[.int .i64 0, .slice none 0 0] 28) = w0 at *
  refine (New_in w0 (HT.out.below hB0 hb0) (by omega) n A cap l hl (HP.out.below hb0)).mono ?_
  rintro e w1 ⟨hb1, h⟩
  have hz1 : w1.heap[w.heap.size]? = some (.cells #[.int .i64 0, .slice none 0 0] 28) := (hb1.block _ (by omega)).trans hz0'
  have hb01 := hb0.trans (hb1.mono (by omega))
  have hs1 := hb1.size
  by_cases hn1 : n < 1
  · have hgf : good n l = false := by simp [good]; omega
    rcases h with ⟨_, rfl⟩ | ⟨h, _⟩ | ⟨h, _⟩
    · have z1 : w1.cell? ⟨w.heap.size, 0, none⟩ = some (.int .i64 0) := by simp only [World.cell?, hz1]; rfl
      have z2 : w1.cell? ⟨w.heap.size, 1, none⟩ = some (.slice none 0 0) := by simp only [World.cell?, hz1]; rfl
      have z3 : ∀ i, w1.frozen? ⟨w.heap.size, i, none⟩ = false := fun i => by simp [World.frozen?, hz1]
      obtain ⟨r0, r1⟩ := set_zero z1 z2 (.int .i64 0) (.slice none 0 0)
      have HB5 := Lib.hid ((hb01.setCell (p := ⟨w.heap.size, 0, none⟩) (Nat.le_refl _) (.int .i64 0)).setCell (p := ⟨w.heap.size, 1, none⟩) (Nat.le_refl _) (.slice none 0 0))
      clear hb01 hb1 hb0 hz1 hz0'
      go_wp2_with fail
      exact bodyPost_ret (v := .tuple #[.pointer none, .agg #[.int .i64 0, .slice none 0 0], .bool true]) (by simp [results, Tryd.results7, go_sem, r0, r1]) rfl ⟨HB5.out, .inl ⟨_, _, _, _, rfl⟩⟩
    · rw [hgf] at h; cases h
    · rw [hgf] at h; cases h
  · by_cases hn2 : 32 < n
    · have hgf : good n l = false := by simp [good]; omega
      rcases h with ⟨_, rfl⟩ | ⟨h, _⟩ | ⟨h, _⟩
      · have z1 : w1.cell? ⟨w.heap.size, 0, none⟩ = some (.int .i64 0) := by simp only [World.cell?, hz1]; rfl
        have z2 : w1.cell? ⟨w.heap.size, 1, none⟩ = some (.slice none 0 0) := by simp only [World.cell?, hz1]; rfl
        have z3 : ∀ i, w1.frozen? ⟨w.heap.size, i, none⟩ = false := fun i => by simp [World.frozen?, hz1]
        obtain ⟨r0, r1⟩ := set_zero z1 z2 (.int .i64 0) (.slice none 0 0)
        have HB5 := Lib.hid ((hb01.setCell (p := ⟨w.heap.size, 0, none⟩) (Nat.le_refl _) (.int .i64 0)).setCell (p := ⟨w.heap.size, 1, none⟩) (Nat.le_refl _) (.slice none 0 0))
        clear hb01 hb1 hb0 hz1 hz0'
        go_wp2_with fail
        exact bodyPost_ret (v := .tuple #[.pointer none, .agg #[.int .i64 0, .slice none 0 0], .bool true]) (by simp [results, Tryd.results7, go_sem, r0, r1]) rfl ⟨HB5.out, .inl ⟨_, _, _, _, rfl⟩⟩
      · rw [hgf] at h; cases h
      · rw [hgf] at h; cases h
    · obtain ⟨N, rfl⟩ := Int.eq_ofNat_of_zero_le (show 0 ≤ n by omega)
      have hN1 : 1 ≤ N := by omega
      have hN2 : N ≤ 32 := by omega
      rw [Int.toNat_natCast] at h
      have hp1 := HP.out.below hb01
      rcases h with ⟨hg, rfl⟩ | ⟨hg, hlat, rfl⟩ | ⟨hg, hlat, b, rfl, hI⟩
      · go_wp2_with fail
        refine (refNew_in w1 N A cap l hN1 hN2 hl hp1).mono ?_
        rintro e w2 ⟨hb2, h⟩
        have hall : l.all (okP N) = false := by
          cases h2 : l.all (okP N) with
          | false => rfl
          | true => simp [good, h2] at hg; omega
        rcases h with ⟨_, rfl⟩ | ⟨h, _⟩
        · have hz2 := (hb2.block _ (by omega)).trans hz1
          have hs2 := hb2.size
          obtain ⟨f1, f2, f3, f4, f5, f6⟩ := zf hz2 (.int .i64 0) (.slice none 0 0) 28
          have HB := Lib.hid ((hb01.trans (hb2.mono (by omega))).alloc (by omega) (.cells #[.int .i64 0, .slice none 0 0] 28))
          clear hb01 hb1 hb0 hb2
          go_wp2_with fail
          generalize w2.alloc (.cells #[.int .i64 0, .slice none 0 0] 28) = W5 at *
          obtain ⟨r0, r1⟩ := set_zero f1 f2 (.int .i64 0) (.slice none 0 0)
          have HB5 := Lib.hid ((HB.out.drew.setCell (p := ⟨w.heap.size, 0, none⟩) (Nat.le_refl _) (.int .i64 0)).setCell (p := ⟨w.heap.size, 1, none⟩) (Nat.le_refl _) (.slice none 0 0))
          go_region
          all_goals
            go_wp2_with fail
            exact bodyPost_ret (v := .tuple #[.pointer none, .agg #[.int .i64 0, .slice none 0 0], .bool true]) (by simp [results, Tryd.results7, go_sem, r0, r1]) rfl ⟨HB5.out, .inl ⟨_, _, _, _, rfl⟩⟩
        · rw [hall] at h; cases h
      · have hall : l.all (okP N) = true := by simp [good] at hg; simpa using hg.2
        go_wp2_with fail
        refine (refNew_in w1 N A cap l hN1 hN2 hl hp1).mono ?_
        rintro e w2 ⟨hb2, h⟩
        rcases h with ⟨h, _⟩ | ⟨_, g, cp, S, rfl, hR, hC⟩
        · rw [hall] at h; cases h
        · have hz2 := (hb2.block _ (by omega)).trans hz1
          have hs2 := hb2.size
          obtain ⟨f1, f2, f3, f4, f5, f6⟩ := zf hz2 (.int .i64 N) (.slice (some ⟨g, 0, none⟩) N cp) 28
          have hB3 := (hb01.trans (hb2.mono (by omega))).alloc (by omega) (.cells #[.int .i64 N, .slice (some ⟨g, 0, none⟩) N cp] 28)
          have hR3 := hR.below ((Below.refl w2.heap.size w2).alloc (Nat.le_refl _) (.cells #[.int .i64 N, .slice (some ⟨g, 0, none⟩) N cp] 28))
          skip
          clear hb01 hb1 hb0 hb2
          go_wp2_with fail
          generalize w2.alloc (.cells #[.int .i64 N, .slice (some ⟨g, 0, none⟩) N cp] 28) = W5 at *
          refine (refLattice_in W5 g N cp S hN2 hR3).mono ?_
          rw [lat_is hC, hlat]
          rintro e w6 ⟨rfl, hb6⟩
          have e1 := (hb6.cell (p := ⟨w.heap.size, 0, none⟩) (by show w.heap.size < _; omega)).trans f1
          have e2 := (hb6.cell (p := ⟨w.heap.size, 1, none⟩) (by show w.heap.size < _; omega)).trans f2
          have e3 := fun i => (hb6.frozen (p := ⟨w.heap.size, i, none⟩) (by show w.heap.size < _; omega)).trans (f3 i)
          have e4 := (hb6.cell (p := ⟨w2.heap.size, 0, none⟩) (by show w2.heap.size < _; omega)).trans f4
          have e5 := (hb6.cell (p := ⟨w2.heap.size, 1, none⟩) (by show w2.heap.size < _; omega)).trans f5
          obtain ⟨r0, r1⟩ := set_zero e1 e2 (.int .i64 N) (.slice (some ⟨g, 0, none⟩) N cp)
          have HB5 := Lib.hid (((hB3.trans (hb6.mono (by omega))).drew.setCell (p := ⟨w.heap.size, 0, none⟩) (Nat.le_refl _) (.int .i64 N)).setCell (p := ⟨w.heap.size, 1, none⟩) (Nat.le_refl _) (.slice (some ⟨g, 0, none⟩) N cp))
          skip
          clear f1 f2 f3 f4 f5 hB3 hR3 hR hb6
          go_wp2_with fail
          go_region
          all_goals
            go_wp2_with fail
            exact bodyPost_ret (v := .tuple #[.pointer none, .agg #[.int .i64 N, .slice (some ⟨g, 0, none⟩) N cp], .bool true]) (by simp [results, Tryd.results7, go_sem, r0, r1]) rfl ⟨HB5.out, .inl ⟨_, _, _, _, rfl⟩⟩
      · have hall : l.all (okP N) = true := by simp [good] at hg; simpa using hg.2
        go_wp2_with fail
        refine (refNew_in w1 N A cap l hN1 hN2 hl hp1).mono ?_
        rintro e w2 ⟨hb2, h⟩
        rcases h with ⟨h, _⟩ | ⟨_, g, cp, S, rfl, hR, hC⟩
        · rw [hall] at h; cases h
        · have hz2 := (hb2.block _ (by omega)).trans hz1
          have hs2 := hb2.size
          obtain ⟨f1, f2, f3, f4, f5, f6⟩ := zf hz2 (.int .i64 N) (.slice (some ⟨g, 0, none⟩) N cp) 28
          have hB3 := (hb01.trans (hb2.mono (by omega))).alloc (by omega) (.cells #[.int .i64 N, .slice (some ⟨g, 0, none⟩) N cp] 28)
          have hR3 := hR.below ((Below.refl w2.heap.size w2).alloc (Nat.le_refl _) (.cells #[.int .i64 N, .slice (some ⟨g, 0, none⟩) N cp] 28))
          have hI3 := hI.below (Nat.le_refl _) (hb2.trans ((Below.refl _ w2).alloc hb2.size (.cells #[.int .i64 N, .slice (some ⟨g, 0, none⟩) N cp] 28)))
          clear hb01 hb1 hb0 hb2
          go_wp2_with fail
          generalize w2.alloc (.cells #[.int .i64 N, .slice (some ⟨g, 0, none⟩) N cp] 28) = W5 at *
          refine (refLattice_in W5 g N cp S hN2 hR3).mono ?_
          rw [lat_is hC, hlat]
          rintro e w6 ⟨rfl, hb6⟩
          have e1 := (hb6.cell (p := ⟨w.heap.size, 0, none⟩) (by show w.heap.size < _; omega)).trans f1
          have e2 := (hb6.cell (p := ⟨w.heap.size, 1, none⟩) (by show w.heap.size < _; omega)).trans f2
          have e3 := fun i => (hb6.frozen (p := ⟨w.heap.size, i, none⟩) (by show w.heap.size < _; omega)).trans (f3 i)
          have e4 := (hb6.cell (p := ⟨w2.heap.size, 0, none⟩) (by show w2.heap.size < _; omega)).trans f4
          have e5 := (hb6.cell (p := ⟨w2.heap.size, 1, none⟩) (by show w2.heap.size < _; omega)).trans f5
          obtain ⟨r0, r1⟩ := set_zero e1 e2 (.int .i64 N) (.slice (some ⟨g, 0, none⟩) N cp)
          have HB5 := Lib.hid (((hB3.trans (hb6.mono (by omega))).drew.setCell (p := ⟨w.heap.size, 0, none⟩) (Nat.le_refl _) (.int .i64 N)).setCell (p := ⟨w.heap.size, 1, none⟩) (Nat.le_refl _) (.slice (some ⟨g, 0, none⟩) N cp))
          have hsame := hC.unique (newR_clo N l)
          have hI6 := hI3.below (Nat.le_refl _) hb6
          have hS6 := hR3.below hb6
          have hL : OrdP.Lat N (newR N l) := (OrdP.lattice_iff (newR_refl N l) (newR_clo N l).trans).1 hlat
          have hI7 := Lib.hid (hI6.set2 (z := w.heap.size) (B' := w.heap.size) (by omega) (by omega) (.int .i64 N) (.slice (some ⟨g, 0, none⟩) N cp))
          have hS7 := Lib.hid (hS6.set2 e1 (.int .i64 N) (.slice (some ⟨g, 0, none⟩) N cp))
          clear f1 f2 f3 f4 f5 hB3 hR3 hR hb6
          go_wp2_with fail
          go_region
          all_goals
            go_wp2_with fail
            exact bodyPost_ret (v := .tuple #[.pointer (some ⟨b, 0, none⟩), .agg #[.int .i64 N, .slice (some ⟨g, 0, none⟩) N cp], .bool true]) (by simp [results, Tryd.results7, go_sem, r0, r1]) rfl ⟨HB5.out, .inr ⟨by omega, by omega, b, g, cp, newR N l, S, by rw [Int.toNat_natCast], by rw [Int.toNat_natCast]; exact hI7.out.alike, by rw [Int.toNat_natCast]; exact hL, by rw [Int.toNat_natCast]; exact hS7.out, by rw [Int.toNat_natCast]; exact hsame⟩⟩

end Go.Proofs.YtkcbcdfcpchgcaaDoor
