/- The joins of labels. -/
import Derived.Test.YtkcbcdfcpchgcaaDoorLab4
import Derived.Test.YtkcbcdfcpchgcaaDoorLast
set_option linter.unusedVariables false
set_option linter.unusedSimpArgs false
namespace Go.Proofs.YtkcbcdfcpchgcaaDoor
open Go.RowKit
open OrdP (inB Rel allB allB_iff)

theorem set2_heap {w : World} {b : Nat} {x y : Value} {t : TypeId} (h : w.heap[b]? = some (.cells #[x, y] t)) (u v : Value) : ((w.setCell ⟨b, 0, none⟩ u).setCell ⟨b, 1, none⟩ v).heap[b]? = some (.cells #[u, v] t) := by
  simp [World.setCell, Array.getElem?_modify, h]
theorem set2_other {w : World} {b c : Nat} (h : c ≠ b) (u v : Value) : ((w.setCell ⟨b, 0, none⟩ u).setCell ⟨b, 1, none⟩ v).heap[c]? = w.heap[c]? := by
  rw [Below.heap_setCell _ _ _ _ h, Below.heap_setCell _ _ _ _ h]
theorem set2_size {w : World} {b : Nat} (u v : Value) : ((w.setCell ⟨b, 0, none⟩ u).setCell ⟨b, 1, none⟩ v).heap.size = w.heap.size := by simp
theorem Below.set2 {B : Nat} {a w : World} (h : Below B a w) {b : Nat} (hb : B ≤ b) (u v : Value) : Below B a ((w.setCell ⟨b, 0, none⟩ u).setCell ⟨b, 1, none⟩ v) := (h.setCell (p := ⟨b, 0, none⟩) hb u).setCell (p := ⟨b, 1, none⟩) hb v
def labJoin (n1 n2 : Nat) (R1 R2 : Rel) (x y : Int × Int) : Int × Int := (OrdP.joinI n1 R1 x.1 y.1, OrdP.joinI n2 R2 x.2 y.2)
def labFold (n1 n2 : Nat) (R1 R2 : Rel) (l : List (Int × Int)) : Int × Int := l.foldl (labJoin n1 n2 R1 R2) (OrdP.bottom n1 R1, OrdP.bottom n2 R2)
theorem labFold_succ {n1 n2 : Nat} {R1 R2 : Rel} {l : List (Int × Int)} {k : Nat} (hk : k < l.length) : labFold n1 n2 R1 R2 (l.take (k + 1)) = labJoin n1 n2 R1 R2 (labFold n1 n2 R1 R2 (l.take k)) (l.getD k (0, 0)) := by
  rw [getD_take hk]; simp [labFold]

section
variable {W : World} {B b1 b2 n1 n2 g1 g2 : Nat} {R1 R2 : Rel}
set_option maxRecDepth 100000 in
set_option maxHeartbeats 2000000 in
theorem lJoin_in (h1 : 1 ≤ n1 ∧ n1 ≤ 32) (h2 : 1 ≤ n2 ∧ n2 ≤ 32) (hL : LatO W B b1 b2 n1 n2 R1 R2) {A : Option Addr} {len cap : Nat} {l : List (Int × Int)} (hlen : l.length = len) (hl : len ≤ 1000) (hp : PairsAt W A l) :
    Calls Tryd.prog 28 #[latV b1 b2, .slice A len cap] W fun e w' => e = .returned (labV (labFold n1 n2 R1 R2 l)) ∧ Below W.heap.size W w' := by
  have hb0 := ((Below.refl W.heap.size W).alloc (Nat.le_refl _) (.cells #[.pointer (some ⟨b1, 0, none⟩), .pointer (some ⟨b2, 0, none⟩)] 47)).alloc (by simp) (.cells #[.int .i64 0, .int .i64 0] 53)
  have f0 : ((W.alloc (.cells #[.pointer (some ⟨b1, 0, none⟩), .pointer (some ⟨b2, 0, none⟩)] 47)).alloc (.cells #[.int .i64 0, .int .i64 0] 53)).heap[W.heap.size]? = some (.cells #[.pointer (some ⟨b1, 0, none⟩), .pointer (some ⟨b2, 0, none⟩)] 47) := by
    rw [Below.heap_alloc _ _ _ (by simp)]; exact last _ _
  have f1 : ((W.alloc (.cells #[.pointer (some ⟨b1, 0, none⟩), .pointer (some ⟨b2, 0, none⟩)] 47)).alloc (.cells #[.int .i64 0, .int .i64 0] 53)).heap[W.heap.size + 1]? = some (.cells #[.int .i64 0, .int .i64 0] 53) := by
    have := last (W.alloc (.cells #[.pointer (some ⟨b1, 0, none⟩), .pointer (some ⟨b2, 0, none⟩)] 47)) (.cells #[.int .i64 0, .int .i64 0] 53)
    simpa using this
  have hs0 : ((W.alloc (.cells #[.pointer (some ⟨b1, 0, none⟩), .pointer (some ⟨b2, 0, none⟩)] 47)).alloc (.cells #[.int .i64 0, .int .i64 0] 53)).heap.size = W.heap.size + 2 := by simp
  have HL0 := Lib.hid (hL.below hb0)
  have HL := Lib.hid hL
  have HP := Lib.hid hp
  clear hL hp
  obtain ⟨e0, e1⟩ := cellsOf2 f0
  unfold latV labV
  go_enter Tryd.func28, Tryd.ntmps28
  go_wp2_with fail
  generalize (W.alloc (.cells #[.pointer (some ⟨b1, 0, none⟩), .pointer (some ⟨b2, 0, none⟩)] 47)).alloc (.cells #[.int .i64 0, .int .i64 0] 53) = W1 at *
  obtain ⟨v1, hv1⟩ : ∃ v, OrdP.bottom n1 R1 = v := ⟨_, rfl⟩
  obtain ⟨v2, hv2⟩ : ∃ v, OrdP.bottom n2 R2 = v := ⟨_, rfl⟩
  have hF0 : labFold n1 n2 R1 R2 (l.take 0) = (v1, v2) := by simp [labFold, hv1, hv2]
  have HQ := Lib.hid (And.intro hv1 hv2); clear hv1 hv2
  have HF0 := Lib.hid hF0; clear hF0
  refine (lBottom_in h1 h2 HL0.out HQ.out.1 HQ.out.2).mono ?_
  rintro e w2 ⟨rfl, hb2⟩
  have k0 := (hb2.block _ (by omega)).trans f0
  have k1 := (hb2.block _ (by omega)).trans f1
  have hs2 := hb2.size
  have hb02 := hb0.trans (hb2.mono (by omega))
  clear hb0 hb2 f0 f1 e0 e1 HL0
  have k3 := last w2 (.cells #[.int .i64 v1, .int .i64 v2] 53)
  have hbX := hb02.alloc (by omega) (.cells #[.int .i64 v1, .int .i64 v2] 53)
  have k4 := (Below.heap_alloc w2 (.cells #[.int .i64 v1, .int .i64 v2] 53) W.heap.size (by omega)).trans k0
  have k5 := (Below.heap_alloc w2 (.cells #[.int .i64 v1, .int .i64 v2] 53) (W.heap.size + 1) (by omega)).trans k1
  have hsX : (w2.alloc (.cells #[.int .i64 v1, .int .i64 v2] 53)).heap.size = w2.heap.size + 1 := by simp
  unfold labV
  go_wp2_with fail
  generalize w2.alloc (.cells #[.int .i64 v1, .int .i64 v2] 53) = W3 at *
  clear k0 k1 hb02
  generalize w2.heap.size = X at *
  go_loopw [12] (fun i wr => ∃ k : Nat, i = .int .i64 k ∧ k ≤ len ∧ Below W.heap.size W wr ∧ X < wr.heap.size ∧ wr.heap[W.heap.size]? = some (.cells #[.pointer (some ⟨b1, 0, none⟩), .pointer (some ⟨b2, 0, none⟩)] 47) ∧ wr.heap[W.heap.size + 1]? = some (.cells #[.int .i64 0, .int .i64 0] 53) ∧ ∃ a b : Int, wr.heap[X]? = some (.cells #[.int .i64 a, .int .i64 b] 53) ∧ Hid (labFold n1 n2 R1 R2 (l.take k) = (a, b))) (fun i _ => ((len : Int) - intOf i).toNat)
  case atStart => exact ⟨0, rfl, by omega, hbX, by omega, k4, k5, v1, v2, k3, HF0⟩
  case round =>
    obtain ⟨k, rfl, hk, hbr, hXr, q0, q1, a, b, q2, HF⟩ := hrel
    by_cases hkl : k < len
    · rcases HP.out.below hbr with h0 | ⟨pb, off, hA, hc⟩
      · rw [h0] at hlen; simp at hlen; omega
      obtain ⟨c, d, hcd⟩ : ∃ c d, l.getD k (0, 0) = (c, d) := ⟨_, _, rfl⟩
      obtain ⟨p0, p1⟩ := hc k (by omega)
      rw [hcd] at p0 p1
      subst hA
      clear hc
      obtain ⟨va, hva⟩ : ∃ v, OrdP.joinI n1 R1 a c = v := ⟨_, rfl⟩
      obtain ⟨vb, hvb⟩ : ∃ v, OrdP.joinI n2 R2 b d = v := ⟨_, rfl⟩
      have hnext : labFold n1 n2 R1 R2 (l.take (k + 1)) = (va, vb) := by rw [labFold_succ (by omega), HF.out, hcd]; simp [labJoin, hva, hvb]
      have HV := Lib.hid (And.intro hva (And.intro hvb hnext))
      clear hva hvb hnext HF hcd
      have hki : (k : Int) < len := by omega
      go_wp2_with fail
      have m3 := last wr (.cells #[.int .i64 c, .int .i64 d] 53)
      have hbY := hbr.alloc (by have := hbr.size; omega) (.cells #[.int .i64 c, .int .i64 d] 53)
      have m0 := (Below.heap_alloc wr (.cells #[.int .i64 c, .int .i64 d] 53) W.heap.size (by omega)).trans q0
      have m1 := (Below.heap_alloc wr (.cells #[.int .i64 c, .int .i64 d] 53) (W.heap.size + 1) (by omega)).trans q1
      have m2 := (Below.heap_alloc wr (.cells #[.int .i64 c, .int .i64 d] 53) X (by omega)).trans q2
      have hsY : (wr.alloc (.cells #[.int .i64 c, .int .i64 d] 53)).heap.size = wr.heap.size + 1 := by simp
      generalize wr.alloc (.cells #[.int .i64 c, .int .i64 d] 53) = W5 at *
      generalize wr.heap.size = Y at *
      have HL5 := Lib.hid (HL.out.below hbY)
      have he : ∀ w', Below W5.heap.size W5 w' → (w'.cell? ⟨W.heap.size, 0, none⟩ = some (.pointer (some ⟨b1, 0, none⟩)) ∧ w'.cell? ⟨W.heap.size, 1, none⟩ = some (.pointer (some ⟨b2, 0, none⟩)) ∧ w'.cell? ⟨X, 0, none⟩ = some (.int .i64 a) ∧ w'.cell? ⟨X, 1, none⟩ = some (.int .i64 b) ∧ w'.cell? ⟨Y, 0, none⟩ = some (.int .i64 c) ∧ w'.cell? ⟨Y, 1, none⟩ = some (.int .i64 d)) ∧ ∀ i, w'.frozen? ⟨X, i, none⟩ = false := by
        intro w' hbx
        obtain ⟨x0, x1⟩ := cellsOf2 ((hbx.block _ (by omega)).trans m0)
        obtain ⟨x2, x3⟩ := cellsOf2 ((hbx.block _ (by omega)).trans m2)
        obtain ⟨x4, x5⟩ := cellsOf2 ((hbx.block _ (by omega)).trans m3)
        exact ⟨⟨x0, x1, x2, x3, x4, x5⟩, frozenOf ((hbx.block _ (by omega)).trans m2)⟩
      obtain ⟨⟨e0, e1, e2, e3, e4, e5⟩, zf⟩ := he W5 (Below.refl _ _)
      have HE := Lib.hid he; clear he
      have HM := Lib.hid (And.intro m0 (And.intro m1 m2)); clear m0 m1 m2 m3 q0 q1 q2
      have hbr5 := (Below.refl W5.heap.size W5).drew
      have hWX : W.heap.size + 2 ≤ X := by omega
      refine Last.start_ (S := fun w' => w'.cell? ⟨W.heap.size, 0, none⟩ = some (.pointer (some ⟨b1, 0, none⟩)) ∧ w'.cell? ⟨W.heap.size, 1, none⟩ = some (.pointer (some ⟨b2, 0, none⟩)) ∧ w'.cell? ⟨X, 0, none⟩ = some (.int .i64 a) ∧ w'.cell? ⟨X, 1, none⟩ = some (.int .i64 b) ∧ w'.cell? ⟨Y, 0, none⟩ = some (.int .i64 c) ∧ w'.cell? ⟨Y, 1, none⟩ = some (.int .i64 d)) (ds := [15]) #[false, false, false, false, false, false, false, false, false, false, false, false, false, false, false, false] (by kernel_rfl) rfl rfl ⟨by assumption, by assumption, by assumption, by assumption, by assumption, by assumption⟩ (fun hS => ?_)
      refine Last.pure_ (i := 0) (N := some 16) #[true, false, false, false, false, false, false, false, false, false, false, false, false, false, false, false] rfl rfl (by kernel_rfl) (by exact fun _ _ _ h => h) (Or.inl ⟨by rfl, by (intro w; go_simp; try with_reducible rfl)⟩) rfl ?_
      simp only [Act.put, List.setIfInBounds_toArray, List.set_cons_zero, List.set_cons_succ]
      refine Last.pure_ (i := 2) (N := some 18) #[true, false, true, false, false, false, false, false, false, false, false, false, false, false, false, false] rfl rfl (by kernel_rfl) (by exact fun _ _ _ h => h) (Or.inl ⟨by rfl, by (intro w; go_simp; try with_reducible rfl)⟩) rfl ?_
      simp only [Act.put, List.setIfInBounds_toArray, List.set_cons_zero, List.set_cons_succ]
      refine Last.pure_ (i := 4) (N := some 20) #[true, false, true, false, true, false, false, false, false, false, false, false, false, false, false, false] rfl rfl (by kernel_rfl) (by exact fun _ _ _ h => h) (Or.inl ⟨by rfl, by (intro w; go_simp; try with_reducible rfl)⟩) rfl ?_
      simp only [Act.put, List.setIfInBounds_toArray, List.set_cons_zero, List.set_cons_succ]
      refine Last.pure_ (i := 7) (N := some 23) #[true, false, true, false, true, false, false, true, false, false, false, false, false, false, false, false] rfl rfl (by kernel_rfl) (by exact fun _ _ _ h => h) (Or.inl ⟨by rfl, by (intro w; go_simp; try with_reducible rfl)⟩) rfl ?_
      simp only [Act.put, List.setIfInBounds_toArray, List.set_cons_zero, List.set_cons_succ]
      refine Last.pure_ (i := 9) (N := some 25) #[true, false, true, false, true, false, false, true, false, true, false, false, false, false, false, false] rfl rfl (by kernel_rfl) (by exact fun _ _ _ h => h) (Or.inl ⟨by rfl, by (intro w; go_simp; try with_reducible rfl)⟩) rfl ?_
      simp only [Act.put, List.setIfInBounds_toArray, List.set_cons_zero, List.set_cons_succ]
      refine Last.pure_ (i := 11) (N := some 27) #[true, false, true, false, true, false, false, true, false, true, false, true, false, false, false, false] rfl rfl (by kernel_rfl) (by exact fun _ _ _ h => h) (Or.inl ⟨by rfl, by (intro w; go_simp; try with_reducible rfl)⟩) rfl ?_
      simp only [Act.put, List.setIfInBounds_toArray, List.set_cons_zero, List.set_cons_succ]
      refine Last.take_ (i := 1) (N := some 17) #[true, true, true, false, true, false, false, true, false, true, false, true, false, false, false, false] rfl rfl (by kernel_rfl) (by exact fun _ _ _ h => h) (Or.inl ⟨by rfl, by (intro w hSw; obtain ⟨s0, s1, s2, s3, s4, s5⟩ := hSw; go_simp; try with_reducible rfl)⟩) hS rfl ?_
      simp only [Act.put, List.setIfInBounds_toArray, List.set_cons_zero, List.set_cons_succ]
      refine Last.take_ (i := 3) (N := some 19) #[true, true, true, true, true, false, false, true, false, true, false, true, false, false, false, false] rfl rfl (by kernel_rfl) (by exact fun _ _ _ h => h) (Or.inl ⟨by rfl, by (intro w hSw; obtain ⟨s0, s1, s2, s3, s4, s5⟩ := hSw; go_simp; try with_reducible rfl)⟩) hS rfl ?_
      simp only [Act.put, List.setIfInBounds_toArray, List.set_cons_zero, List.set_cons_succ]
      refine Last.take_ (i := 5) (N := some 21) #[true, true, true, true, true, true, false, true, false, true, false, true, false, false, false, false] rfl rfl (by kernel_rfl) (by exact fun _ _ _ h => h) (Or.inl ⟨by rfl, by (intro w hSw; obtain ⟨s0, s1, s2, s3, s4, s5⟩ := hSw; go_simp; try with_reducible rfl)⟩) hS rfl ?_
      simp only [Act.put, List.setIfInBounds_toArray, List.set_cons_zero, List.set_cons_succ]
      refine Last.take_ (i := 8) (N := some 24) #[true, true, true, true, true, true, false, true, true, true, false, true, false, false, false, false] rfl rfl (by kernel_rfl) (by exact fun _ _ _ h => h) (Or.inl ⟨by rfl, by (intro w hSw; obtain ⟨s0, s1, s2, s3, s4, s5⟩ := hSw; go_simp; try with_reducible rfl)⟩) hS rfl ?_
      simp only [Act.put, List.setIfInBounds_toArray, List.set_cons_zero, List.set_cons_succ]
      refine Last.take_ (i := 10) (N := some 26) #[true, true, true, true, true, true, false, true, true, true, true, true, false, false, false, false] rfl rfl (by kernel_rfl) (by exact fun _ _ _ h => h) (Or.inl ⟨by rfl, by (intro w hSw; obtain ⟨s0, s1, s2, s3, s4, s5⟩ := hSw; go_simp; try with_reducible rfl)⟩) hS rfl ?_
      simp only [Act.put, List.setIfInBounds_toArray, List.set_cons_zero, List.set_cons_succ]
      refine Last.take_ (i := 12) (N := some 28) #[true, true, true, true, true, true, false, true, true, true, true, true, true, false, false, false] rfl rfl (by kernel_rfl) (by exact fun _ _ _ h => h) (Or.inl ⟨by rfl, by (intro w hSw; obtain ⟨s0, s1, s2, s3, s4, s5⟩ := hSw; go_simp; try with_reducible rfl)⟩) hS rfl ?_
      simp only [Act.put, List.setIfInBounds_toArray, List.set_cons_zero, List.set_cons_succ]
      refine Last.one_ (i := 6) (N := some 22) #[true, true, true, true, true, true, true, true, true, true, true, true, true, false, false, false] rfl rfl (by kernel_rfl) (by decide) (fun K hK => ?_)
      refine Last.goes_ («as» := #[.tmp 17, .tmp 19, .tmp 21]) (ts := #[25, 3, 3]) Tryd.func10 (by kernel_rfl) rfl #[.pointer (some ⟨b1, 0, none⟩), .int .i64 a, .int .i64 c] (by rfl) rfl rfl (by simp [Act.eval]) ?_
      refine (Join_B h1.2 HL5.out.i1 (by assumption) HV.out.1).mono ?_
      rintro e w' ⟨rfl, hbx⟩
      obtain ⟨⟨e0, e1, e2, e3, e4, e5⟩, zf⟩ := HE.out w' hbx
      refine ⟨_, rfl, hK.out _ _ ⟨e0, e1, e2, e3, e4, e5⟩ (fun hS => ?_)⟩
      simp only [Act.put, List.setIfInBounds_toArray, List.set_cons_zero, List.set_cons_succ]
      refine Last.one_ (i := 13) (N := some 29) #[true, true, true, true, true, true, true, true, true, true, true, true, true, true, false, false] rfl rfl (by kernel_rfl) (by decide) (fun K hK => ?_)
      refine Last.goes_ («as» := #[.tmp 24, .tmp 26, .tmp 28]) (ts := #[25, 3, 3]) Tryd.func10 (by kernel_rfl) rfl #[.pointer (some ⟨b2, 0, none⟩), .int .i64 b, .int .i64 d] (by rfl) rfl rfl (by simp [Act.eval]) ?_
      refine (Join_B h2.2 HL5.out.i2 (by assumption) HV.out.2.1).mono ?_
      rintro e w' ⟨rfl, hbx⟩
      obtain ⟨⟨e0, e1, e2, e3, e4, e5⟩, zf⟩ := HE.out w' hbx
      refine ⟨_, rfl, hK.out _ _ ⟨e0, e1, e2, e3, e4, e5⟩ (fun hS => ?_)⟩
      simp only [Act.put, List.setIfInBounds_toArray, List.set_cons_zero, List.set_cons_succ]
      refine Last.pure_ (i := 14) (N := some 30) #[true, true, true, true, true, true, true, true, true, true, true, true, true, true, true, false] rfl rfl (by kernel_rfl) (by exact fun _ _ _ h => h) (Or.inl ⟨by rfl, by (intro w; go_simp; try with_reducible rfl)⟩) rfl ?_
      simp only [Act.put, List.setIfInBounds_toArray, List.set_cons_zero, List.set_cons_succ]
      refine Last.last_ (i := 15) (N := none) #[true, true, true, true, true, true, true, true, true, true, true, true, true, true, true, true] rfl rfl (by kernel_rfl) (by decide) (fun K hK => Last.skip_ (w1 := (w'.setCell ⟨X, 0, none⟩ (.int .i64 va)).setCell ⟨X, 1, none⟩ (.int .i64 vb)) (by rfl) rfl (by go_simp) (hK.out _ _ (Last.done_ (by kernel_rfl) ?_)))
      have t0 := (set2_other (w := w') (b := X) (c := W.heap.size) (by omega) (.int .i64 va) (.int .i64 vb)).trans ((hbx.block _ (by omega)).trans HM.out.1)
      have t1 := (set2_other (w := w') (b := X) (c := W.heap.size + 1) (by omega) (.int .i64 va) (.int .i64 vb)).trans ((hbx.block _ (by omega)).trans HM.out.2.1)
      have t2 := set2_heap ((hbx.block _ (by omega)).trans HM.out.2.2) (.int .i64 va) (.int .i64 vb)
      have t3 := Below.set2 (hbY.trans (hbx.mono (by omega))) (b := X) (by omega) (.int .i64 va) (.int .i64 vb)
      have t4 := set2_size (w := w') (b := X) (.int .i64 va) (.int .i64 vb)
      have t5 := hbx.size
      clear e0 e1 e2 e3 e4 e5 zf hbx hS hbr5
      generalize (w'.setCell ⟨X, 0, none⟩ (.int .i64 va)).setCell ⟨X, 1, none⟩ (.int .i64 vb) = W6 at *
      go_wp2_with fail
      go_roundw
      case rel => exact ⟨k + 1, by simp, by omega, t3, by omega, t0, t1, va, vb, t2, Lib.hid HV.out.2.2⟩
      case measure => simp [intOf]; omega
    · obtain rfl : k = len := by omega
      have hfin : labFold n1 n2 R1 R2 l = (a, b) := by rw [← HF.out, ← hlen, List.take_length]
      have HFin := Lib.hid hfin
      obtain ⟨e0, e1⟩ := cellsOf2 q2
      obtain ⟨r0, r1⟩ := cellsOf2 q1
      have rf := frozenOf q1
      obtain ⟨z0, z1⟩ := set_zero r0 r1 (.int .i64 a) (.int .i64 b)
      have HB := Lib.hid (Below.set2 hbr (b := W.heap.size + 1) (by omega) (.int .i64 a) (.int .i64 b))
      clear HF hfin hbX k4 k5 k3
      go_wp2_with fail
      exact bodyPost_ret (v := .agg #[.int .i64 a, .int .i64 b]) (by simp [results, Tryd.results28, go_sem, z0, z1]) rfl ⟨by rw [HFin.out], HB.out⟩
end
end Go.Proofs.YtkcbcdfcpchgcaaDoor
