/- ValueShows: any values: which are right, which are one, and their texts. -/
import Derived.Test.YtofijodndilmbaaDoorVal21
set_option linter.unusedVariables false
set_option linter.unusedSimpArgs false
namespace Go.Proofs.YtofijodndilmbaaDoor
open Go.RowKit

/-- Two values, as the document has them, in boxes of their own. -/
def TwoOf (wx : World) (va vb : V) (xv yv : Value) (wy : World) : Prop := ∃ bx bz Ax kx Ay ky, xv = .pointer (some ⟨bx, 0, none⟩) ∧ yv = .pointer (some ⟨bz, 0, none⟩) ∧
  wy.heap[bx]? = some (.cells #[.string va.op, .int .i64 va.num, .slice Ax va.kids.length kx] 30) ∧ wy.heap[bz]? = some (.cells #[.string vb.op, .int .i64 vb.num, .slice Ay vb.kids.length ky] 30) ∧
  At wy va (.slice Ax va.kids.length kx) ∧ At wy vb (.slice Ay vb.kids.length ky) ∧ Below wx.heap.size wx wy
theorem AtP.lt {P : Nat → Prop} {w : World} {v : V} {s : Value} (h : AtP P w v s) : AtP (fun k => P k ∧ k < w.heap.size) w v s := h.step (Nat.le_refl _) fun k hk hp => ⟨rfl, hp, hk⟩

theorem TwoOf.make {wx w5 w6 W : World} {va vb : V} {pa pb bx bz kx ky : Nat} {Ax Ay : Option Addr} (hA : AtP (fun k => pa ≤ k ∧ k < w5.heap.size) w5 va (.slice Ax va.kids.length kx)) (hB : AtP (fun k => pb ≤ k ∧ k < w6.heap.size) w6 vb (.slice Ay vb.kids.length ky))
    (h56 : ∀ k, k < w5.heap.size → w6.heap[k]? = w5.heap[k]?) (hs : w5.heap.size ≤ w6.heap.size) (hW : ∀ k, k < w6.heap.size → k ≠ bx → k ≠ bz → W.heap[k]? = w6.heap[k]?) (hWs : w6.heap.size ≤ W.heap.size)
    (hx : W.heap[bx]? = some (.cells #[.string va.op, .int .i64 va.num, .slice Ax va.kids.length kx] 30)) (hz : W.heap[bz]? = some (.cells #[.string vb.op, .int .i64 vb.num, .slice Ay vb.kids.length ky] 30))
    (n1 : ¬ (pa ≤ bx ∧ bx < w5.heap.size)) (n2 : ¬ (pa ≤ bz ∧ bz < w5.heap.size)) (n3 : ¬ (pb ≤ bx ∧ bx < w6.heap.size)) (n4 : ¬ (pb ≤ bz ∧ bz < w6.heap.size)) (hb : Below wx.heap.size wx W) :
    TwoOf wx va vb (.pointer (some ⟨bx, 0, none⟩)) (.pointer (some ⟨bz, 0, none⟩)) W := by
  refine ⟨bx, bz, Ax, kx, Ay, ky, rfl, rfl, hx, hz, ?_, ?_, hb⟩
  · refine (hA.step (Q := fun _ => True) (by omega) fun k hk hP => ⟨?_, trivial⟩).at
    exact (hW k (by omega) (fun e => n1 (by rw [← e]; exact hP)) (fun e => n2 (by rw [← e]; exact hP))).trans (h56 k hk)
  · refine (hB.step (Q := fun _ => True) hWs fun k hk hP => ⟨?_, trivial⟩).at
    exact hW k hk (fun e => n3 (by rw [← e]; exact hP)) (fun e => n4 (by rw [← e]; exact hP))
theorem set3z {w : World} {b : Nat} {t : TypeId} (h : w.heap[b]? = some (.cells #[.string ⟨#[]⟩, .int .i64 0, nilS] t)) (p q r : Value) :
    (((w.setCell ⟨b, 0, none⟩ p).setCell ⟨b, 1, none⟩ q).setCell ⟨b, 2, none⟩ r).heap[b]? = some (.cells #[p, q, r] t) := set3 h p q r
theorem chain {w wp wn : World} (h : Below w.heap.size w wp) (h2 : Below wp.heap.size wp wn) : Below w.heap.size w wn := h.trans (h2.mono h.size)
theorem lastk (W : World) (o : Obj) {k : Nat} (h : k = W.heap.size) : (W.alloc o).heap[k]? = some o := by
  subst h
  exact last W o
set_option maxRecDepth 100000 in
set_option maxHeartbeats 16000000 in
theorem ValueShows_in (va vb : V) (sa sb : Value) (n m : Int) (w : World) (hn0 : -9223372036854775808 ≤ n) (hn1 : n ≤ 9223372036854775807) (ha : At w va sa) (hb : At w vb sb) (hca : va.cnt ≤ 1048576) (hcb : vb.cnt ≤ 1048576) (hra : va.rng) (hrb : vb.rng) (ht : TabOk w) :
    Calls Tryd.prog 3 #[aggV va sa, aggV vb sb, .agg #[.int .i64 n, .int .i64 m]] w fun e w' => e = .returned (.bool true) ∧ Below w.heap.size w w' := by
  have HN := Lib.hid (And.intro hn0 hn1)
  have HC := Lib.hid (And.intro hca (And.intro hcb (And.intro hra hrb)))
  obtain ⟨A, ca, rfl, hma, _⟩ := ha.inv
  obtain ⟨B, cb, rfl, hmb, _⟩ := hb.inv
  have HA := Lib.hid (And.intro ha (And.intro hb ht))
  clear ha hb ht hn0 hn1 hca hcb hra hrb hma hmb
  unfold aggV
  have hw3 : Below w.heap.size w (((w.alloc (.cells #[.string va.op, .int .i64 va.num, .slice A va.kids.length ca] 24)).alloc (.cells #[.string vb.op, .int .i64 vb.num, .slice B vb.kids.length cb] 24)).alloc (.cells #[.int .i64 n, .int .i64 m] 25)).drew ∧
      (((w.alloc (.cells #[.string va.op, .int .i64 va.num, .slice A va.kids.length ca] 24)).alloc (.cells #[.string vb.op, .int .i64 vb.num, .slice B vb.kids.length cb] 24)).alloc (.cells #[.int .i64 n, .int .i64 m] 25)).drew.heap[w.heap.size]? = some (.cells #[.string va.op, .int .i64 va.num, .slice A va.kids.length ca] 24) ∧
      (((w.alloc (.cells #[.string va.op, .int .i64 va.num, .slice A va.kids.length ca] 24)).alloc (.cells #[.string vb.op, .int .i64 vb.num, .slice B vb.kids.length cb] 24)).alloc (.cells #[.int .i64 n, .int .i64 m] 25)).drew.heap[w.heap.size + 1]? = some (.cells #[.string vb.op, .int .i64 vb.num, .slice B vb.kids.length cb] 24) := by
    refine ⟨((((Below.refl w.heap.size w).alloc (Nat.le_refl _) _).alloc (by simp) _).alloc (by first | omega | (simp <;> omega)) _).drew, ?_, ?_⟩
    · exact (Below.heap_alloc _ _ _ (by first | omega | (simp <;> omega))).trans ((Below.heap_alloc _ _ _ (by simp)).trans (last w _))
    · refine (Below.heap_alloc _ _ _ (by simp)).trans ?_
      have := last (w.alloc (.cells #[.string va.op, .int .i64 va.num, .slice A va.kids.length ca] 24)) (.cells #[.string vb.op, .int .i64 vb.num, .slice B vb.kids.length cb] 24)
      simpa using this
  have HW := Lib.hid hw3
  clear hw3
  go_enter Tryd.func3, Tryd.ntmps3
  go_upto_region 1 with fail
  go_region
  generalize (((w.alloc (.cells #[.string va.op, .int .i64 va.num, .slice A va.kids.length ca] 24)).alloc (.cells #[.string vb.op, .int .i64 vb.num, .slice B vb.kids.length cb] 24)).alloc (.cells #[.int .i64 n, .int .i64 m] 25)).drew = W at *
  generalize decide (0 < m) = tb at *
  have HX := Lib.hid (show ∀ w', Below W.heap.size W w' → ((w'.cell? ⟨w.heap.size, 0, none⟩ = some (.string va.op) ∧ w'.cell? ⟨w.heap.size, 1, none⟩ = some (.int .i64 va.num) ∧ w'.cell? ⟨w.heap.size, 2, none⟩ = some (.slice A va.kids.length ca)) ∧
      (w'.cell? ⟨w.heap.size + 1, 0, none⟩ = some (.string vb.op) ∧ w'.cell? ⟨w.heap.size + 1, 1, none⟩ = some (.int .i64 vb.num) ∧ w'.cell? ⟨w.heap.size + 1, 2, none⟩ = some (.slice B vb.kids.length cb))) ∧
      At w' va (.slice A va.kids.length ca) ∧ At w' vb (.slice B vb.kids.length cb) ∧ TabOk w' ∧ Below w.heap.size w w' from fun w' hb =>
    have hbb := HW.out.1.trans (hb.mono HW.out.1.size)
    ⟨⟨cellsOf3 ((hb.block _ (heap_lt HW.out.2.1)).trans HW.out.2.1), cellsOf3 ((hb.block _ (heap_lt HW.out.2.2)).trans HW.out.2.2)⟩, HA.out.1.under hbb, HA.out.2.1.under hbb, HA.out.2.2.under hbb, hbb⟩)
  clear HW HA
  have hc := Lives_in W (HX.out W (Below.refl _ _)).2.2.2.1
  go_wp2_with fail
  refine hc.mono ?_
  clear hc
  rintro e w1 ⟨rfl, hb1⟩
  obtain ⟨⟨⟨x0, x1, x2⟩, y0, y1, y2⟩, hat, hbt, htb, _⟩ := HX.out w1 hb1
  have HB1 := Lib.hid hb1
  have hc := Big_in w1 va _ hat
  unfold aggV at hc
  clear hb1 hat hbt htb
  go_wp2_with fail
  refine hc.mono ?_
  clear hc
  rintro e w2 ⟨⟨b, rfl⟩, hb2⟩
  have hb2' := HB1.out.trans (hb2.mono HB1.out.size)
  clear x0 x1 x2 y0 y1 y2 hb2
  obtain ⟨⟨⟨x0, x1, x2⟩, y0, y1, y2⟩, hat, hbt, htb, _⟩ := HX.out w2 hb2'
  have HB2 := Lib.hid hb2'
  clear HB1 hb2'
  cases b with
  | true =>
    have hc := Lives_in w2 htb
    clear hat hbt htb
    go_wp2_with fail
    refine hc.mono ?_
    clear hc
    rintro e w3 ⟨rfl, hb3⟩
    have HF := Lib.hid (HX.out w3 (HB2.out.trans (hb3.mono HB2.out.size))).2.2.2.2
    clear hb3 x0 x1 x2 y0 y1 y2
    go_wp2_with fail
    go_ret
    exact ⟨rfl, HF.out⟩
  | false =>
    have hc := Big_in w2 vb _ hbt
    unfold aggV at hc
    clear hat hbt htb
    go_wp2_with fail
    refine hc.mono ?_
    clear hc
    rintro e w3 ⟨⟨b, rfl⟩, hb3⟩
    have hb3' := HB2.out.trans (hb3.mono HB2.out.size)
    clear x0 x1 x2 y0 y1 y2 hb3
    obtain ⟨⟨⟨x0, x1, x2⟩, y0, y1, y2⟩, hat, hbt, htb, _⟩ := HX.out w3 hb3'
    have HB3 := Lib.hid hb3'
    clear HB2 hb3'
    cases b with
    | true =>
      have hc := Lives_in w3 htb
      clear hat hbt htb
      go_wp2_with fail
      refine hc.mono ?_
      clear hc
      rintro e w4 ⟨rfl, hb4⟩
      have HF := Lib.hid (HX.out w4 (HB3.out.trans (hb4.mono HB3.out.size))).2.2.2.2
      clear hb4 x0 x1 x2 y0 y1 y2
      go_wp2_with fail
      go_ret
      exact ⟨rfl, HF.out⟩
    | false =>
      have HAT := Lib.hid (And.intro hat hbt)
      clear hat hbt htb
      go_upto_region 4 with fail
      go_cut [9, 10] from 28 to 31 (fun xv yv wy => TwoOf w3 va vb xv yv wy)
      case first =>
        have hbr : Below w3.heap.size w3 w3.drew := (Below.refl _ w3).drew
        have HOA := Lib.hid (show ∀ w', Below w3.heap.size w3 w' → Calls Tryd.prog 7 #[.agg #[.string va.op, .int .i64 va.num, .slice A va.kids.length ca]] w' fun e w'' => (∃ A5 k5, e = .returned (.agg #[.string va.op, .int .i64 va.num, .slice A5 va.kids.length k5]) ∧ AtP (fun k => w'.heap.size ≤ k ∧ k < w''.heap.size) w'' va (.slice A5 va.kids.length k5)) ∧ Below w'.heap.size w' w'' from fun w' hb => (Of_in _ w' va _ (Nat.le_refl _) (HAT.out.1.under hb)).mono fun e w'' ⟨⟨s', he, hp⟩, hb⟩ => by
          obtain ⟨A5, k5, rfl⟩ := hp.form
          exact ⟨⟨A5, k5, he, hp.lt⟩, hb⟩)
        have HOB := Lib.hid (show ∀ w', Below w3.heap.size w3 w' → Calls Tryd.prog 7 #[.agg #[.string vb.op, .int .i64 vb.num, .slice B vb.kids.length cb]] w' fun e w'' => (∃ A5 k5, e = .returned (.agg #[.string vb.op, .int .i64 vb.num, .slice A5 vb.kids.length k5]) ∧ AtP (fun k => w'.heap.size ≤ k ∧ k < w''.heap.size) w'' vb (.slice A5 vb.kids.length k5)) ∧ Below w'.heap.size w' w'' from fun w' hb => (Of_in _ w' vb _ (Nat.le_refl _) (HAT.out.2.under hb)).mono fun e w'' ⟨⟨s', he, hp⟩, hb⟩ => by
          obtain ⟨A5, k5, rfl⟩ := hp.form
          exact ⟨⟨A5, k5, he, hp.lt⟩, hb⟩)
        have HCE := Lib.hid (show ∀ w', Below w3.heap.size w3 w' → (w'.cell? ⟨w.heap.size, 0, none⟩ = some (.string va.op) ∧ w'.cell? ⟨w.heap.size, 1, none⟩ = some (.int .i64 va.num) ∧ w'.cell? ⟨w.heap.size, 2, none⟩ = some (.slice A va.kids.length ca)) ∧
            (w'.cell? ⟨w.heap.size + 1, 0, none⟩ = some (.string vb.op) ∧ w'.cell? ⟨w.heap.size + 1, 1, none⟩ = some (.int .i64 vb.num) ∧ w'.cell? ⟨w.heap.size + 1, 2, none⟩ = some (.slice B vb.kids.length cb)) from fun w' hb => (HX.out w' (HB3.out.trans (hb.mono HB3.out.size))).1)
        have hlt := cell_lt y0
        simp only at hlt
        go_region_held3 (fun w' => (w'.cell? ⟨w.heap.size, 0, none⟩ = some (.string va.op) ∧ w'.cell? ⟨w.heap.size, 1, none⟩ = some (.int .i64 va.num) ∧ w'.cell? ⟨w.heap.size, 2, none⟩ = some (.slice A va.kids.length ca)) ∧ (w'.cell? ⟨w.heap.size + 1, 0, none⟩ = some (.string vb.op) ∧ w'.cell? ⟨w.heap.size + 1, 1, none⟩ = some (.int .i64 vb.num) ∧ w'.cell? ⟨w.heap.size + 1, 2, none⟩ = some (.slice B vb.kids.length cb)))
          (first | exact HCE.out _ (by repeat (first | with_reducible (exact Below.refl _ _) | with_reducible assumption | with_reducible (refine Below.drew ?_) | (with_reducible (refine Below.alloc ?_ ?_ _); rotate_left; (focus (first | omega | (simp <;> omega)))) | (with_reducible (refine Below.setCell ?_ ?_ _); rotate_left; (focus (first | omega | (simp <;> omega)))))))
          (first
            | (go_at_call_of 7 (Value.agg #[.string va.op, .int .i64 va.num, .slice A va.kids.length ca]); refine (HOA.out _ (by repeat (first | with_reducible (exact Below.refl _ _) | with_reducible assumption | with_reducible (refine Below.drew ?_) | (with_reducible (refine Below.alloc ?_ ?_ _); rotate_left; (focus (first | omega | (simp <;> omega)))) | (with_reducible (refine Below.setCell ?_ ?_ _); rotate_left; (focus (first | omega | (simp <;> omega))))))).mono ?_; rintro e w5 ⟨⟨A5, k5, rfl, hp5⟩, hb5⟩; have hbA : Below w3.heap.size w3 w5 := Below.trans (by repeat (first | with_reducible (exact Below.refl _ _) | with_reducible assumption | with_reducible (refine Below.drew ?_) | (with_reducible (refine Below.alloc ?_ ?_ _); rotate_left; (focus (first | omega | (simp <;> omega)))) | (with_reducible (refine Below.setCell ?_ ?_ _); rotate_left; (focus (first | omega | (simp <;> omega)))))) (hb5.mono (by first | omega | (simp <;> omega))); have hs5 := hb5.size; (try simp at hs5); obtain ⟨⟨x0, x1, x2⟩, y0, y1, y2⟩ := HCE.out w5 hbA; (first | ((with_reducible (have q : Below w3.drew.heap.size w3.drew w5 := hb5)); clear q) | ((with_reducible (have q : Below (w3.alloc (.cells #[.string ⟨#[]⟩, .int .i64 0, nilS] 30)).drew.heap.size (w3.alloc (.cells #[.string ⟨#[]⟩, .int .i64 0, nilS] 30)).drew w5 := hb5)); clear q; have fa : w5.heap[w3.heap.size]? = some (.cells #[.string ⟨#[]⟩, .int .i64 0, nilS] 30) := (hb5.block _ (by first | omega | (simp <;> omega))).trans (show (w3.alloc (.cells #[.string ⟨#[]⟩, .int .i64 0, nilS] 30)).heap[w3.heap.size]? = _ from lastk _ _ (by first | omega | (simp <;> omega))); have fal := heap_lt fa; have fac := cellsOf3 fa; have faz := frozenOf fa; obtain ⟨fa0, fa1, fa2⟩ := fac) | ((with_reducible (have q : Below ((w3.alloc (.cells #[.string ⟨#[]⟩, .int .i64 0, nilS] 30)).alloc (.cells #[.string ⟨#[]⟩, .int .i64 0, nilS] 30)).drew.heap.size ((w3.alloc (.cells #[.string ⟨#[]⟩, .int .i64 0, nilS] 30)).alloc (.cells #[.string ⟨#[]⟩, .int .i64 0, nilS] 30)).drew w5 := hb5)); clear q; have fa : w5.heap[w3.heap.size]? = some (.cells #[.string ⟨#[]⟩, .int .i64 0, nilS] 30) := (hb5.block _ (by first | omega | (simp <;> omega))).trans (show ((w3.alloc (.cells #[.string ⟨#[]⟩, .int .i64 0, nilS] 30)).alloc (.cells #[.string ⟨#[]⟩, .int .i64 0, nilS] 30)).heap[w3.heap.size]? = _ from (Below.heap_alloc _ _ _ (by first | omega | (simp <;> omega))).trans (lastk _ _ (by first | omega | (simp <;> omega)))); have fal := heap_lt fa; have fac := cellsOf3 fa; have faz := frozenOf fa; obtain ⟨fa0, fa1, fa2⟩ := fac; have fb : w5.heap[w3.heap.size + 1]? = some (.cells #[.string ⟨#[]⟩, .int .i64 0, nilS] 30) := (hb5.block _ (by first | omega | (simp <;> omega))).trans (show ((w3.alloc (.cells #[.string ⟨#[]⟩, .int .i64 0, nilS] 30)).alloc (.cells #[.string ⟨#[]⟩, .int .i64 0, nilS] 30)).heap[w3.heap.size + 1]? = _ from lastk _ _ (by first | omega | (simp <;> omega))); have fbl := heap_lt fb; have fbc := cellsOf3 fb; have fbz := frozenOf fb; obtain ⟨fb0, fb1, fb2⟩ := fbc)))
            | (go_at_call_of 7 (Value.agg #[.string vb.op, .int .i64 vb.num, .slice B vb.kids.length cb]); refine (HOB.out _ (by repeat (first | with_reducible (exact Below.refl _ _) | with_reducible assumption | with_reducible (refine Below.drew ?_) | (with_reducible (refine Below.alloc ?_ ?_ _); rotate_left; (focus (first | omega | (simp <;> omega)))) | (with_reducible (refine Below.setCell ?_ ?_ _); rotate_left; (focus (first | omega | (simp <;> omega))))))).mono ?_; rintro e w6 ⟨⟨A6, k6, rfl, hp6⟩, hb6⟩; have hbB : Below w3.heap.size w3 w6 := Below.trans (by repeat (first | with_reducible (exact Below.refl _ _) | with_reducible assumption | with_reducible (refine Below.drew ?_) | (with_reducible (refine Below.alloc ?_ ?_ _); rotate_left; (focus (first | omega | (simp <;> omega)))) | (with_reducible (refine Below.setCell ?_ ?_ _); rotate_left; (focus (first | omega | (simp <;> omega)))))) (hb6.mono (by first | omega | (simp <;> omega))); have hs6 := hb6.size; (try simp at hs6); obtain ⟨⟨x0, x1, x2⟩, y0, y1, y2⟩ := HCE.out w6 hbB; (first | ((with_reducible (have q : Below w5.heap.size w5 w6 := hb6)); clear q; (try (have ga : w6.heap[w3.heap.size]? = some (.cells #[.string ⟨#[]⟩, .int .i64 0, nilS] 30) := (hb6.block _ fal).trans fa; have gal := heap_lt ga; have gac := cellsOf3 ga; have gaz := frozenOf ga; obtain ⟨ga0, ga1, ga2⟩ := gac)); (try (have gb : w6.heap[w3.heap.size + 1]? = some (.cells #[.string ⟨#[]⟩, .int .i64 0, nilS] 30) := (hb6.block _ fbl).trans fb; have gbl := heap_lt gb; have gbc := cellsOf3 gb; have gbz := frozenOf gb; obtain ⟨gb0, gb1, gb2⟩ := gbc))) | ((with_reducible (have q : Below (w5.alloc (.cells #[.string ⟨#[]⟩, .int .i64 0, nilS] 30)).heap.size (w5.alloc (.cells #[.string ⟨#[]⟩, .int .i64 0, nilS] 30)) w6 := hb6)); clear q; have gc : w6.heap[w5.heap.size]? = some (.cells #[.string ⟨#[]⟩, .int .i64 0, nilS] 30) := (hb6.block _ (by first | omega | (simp <;> omega))).trans (lastk _ _ (by first | omega | (simp <;> omega))); have gcl := heap_lt gc; have gcc := cellsOf3 gc; have gcz := frozenOf gc; obtain ⟨gc0, gc1, gc2⟩ := gcc; (try (have ga : w6.heap[w3.heap.size]? = some (.cells #[.string ⟨#[]⟩, .int .i64 0, nilS] 30) := (hb6.block _ (Nat.lt_of_lt_of_le fal (by first | omega | (simp <;> omega)))).trans ((Below.heap_alloc _ _ _ fal).trans fa); have gal := heap_lt ga; have gac := cellsOf3 ga; have gaz := frozenOf ga; obtain ⟨ga0, ga1, ga2⟩ := gac))) | (have gc : w6.heap[w5.heap.size]? = some (.cells #[.string ⟨#[]⟩, .int .i64 0, nilS] 30) := (hb6.block _ (by first | omega | (simp <;> omega))).trans ((Below.heap_alloc _ _ _ (by first | omega | (simp <;> omega))).trans (lastk _ _ (by first | omega | (simp <;> omega)))); have gcl := heap_lt gc; have gcc := cellsOf3 gc; have gcz := frozenOf gc; obtain ⟨gc0, gc1, gc2⟩ := gcc; have gd : w6.heap[w5.heap.size + 1]? = some (.cells #[.string ⟨#[]⟩, .int .i64 0, nilS] 30) := (hb6.block _ (by first | omega | (simp <;> omega))).trans (lastk _ _ (by first | omega | (simp <;> omega))); have gdl := heap_lt gd; have gdc := cellsOf3 gd; have gdz := frozenOf gd; obtain ⟨gd0, gd1, gd2⟩ := gdc))))
        all_goals
          go_wp2_with fail
          go_meet
          (with_reducible (refine TwoOf.make hp5 hp6 ?h56 ?hs ?hW ?hWs ?hx ?hz ?n1 ?n2 ?n3 ?n4 ?hb))
          case h56 =>
            intro k hk
            refine (hb6.block k ?_).trans ?_
            (focus (first | omega | (simp <;> omega)))
            first | (with_reducible rfl) | ((with_reducible (refine Below.heap_alloc _ _ _ ?_)); (focus (first | omega | (simp <;> omega)))) | ((with_reducible (refine (Below.heap_alloc _ _ _ ?_).trans (Below.heap_alloc _ _ _ ?_))) <;> (focus (first | omega | (simp <;> omega))))
          case hs => omega
          case hW =>
            intro k hk h1 h2
            repeat (first | (with_reducible rfl) | ((with_reducible (refine (Below.heap_alloc _ _ _ ?_).trans ?_)); (focus (first | omega | (simp [World.setCell]; done) | (simp [World.setCell]; omega)))) | (with_reducible (refine (Below.heap_setCell _ _ _ _ h1).trans ?_)) | (with_reducible (refine (Below.heap_setCell _ _ _ _ h2).trans ?_)))
          case hWs => (focus (first | omega | (simp [World.setCell]; done) | (simp [World.setCell]; omega)))
          case hx => (focus (repeat (first | (with_reducible assumption) | ((with_reducible (refine lastk _ _ ?_)); (focus (first | omega | (simp [World.setCell]; done) | (simp [World.setCell]; omega)))) | (with_reducible (refine set3z ?_ _ _ _)) | ((with_reducible (refine (Below.heap_alloc _ _ _ ?_).trans ?_)); (focus (first | omega | (simp [World.setCell]; done) | (simp [World.setCell]; omega)))) | ((with_reducible (refine (Below.heap_setCell _ _ _ _ ?_).trans ?_)); (focus (first | omega | (simp <;> omega)))))))
          case hz => (focus (repeat (first | (with_reducible assumption) | ((with_reducible (refine lastk _ _ ?_)); (focus (first | omega | (simp [World.setCell]; done) | (simp [World.setCell]; omega)))) | (with_reducible (refine set3z ?_ _ _ _)) | ((with_reducible (refine (Below.heap_alloc _ _ _ ?_).trans ?_)); (focus (first | omega | (simp [World.setCell]; done) | (simp [World.setCell]; omega)))) | ((with_reducible (refine (Below.heap_setCell _ _ _ _ ?_).trans ?_)); (focus (first | omega | (simp <;> omega)))))))
          case n1 => (focus (first | omega | (simp <;> omega)))
          case n2 => (focus (first | omega | (simp <;> omega)))
          case n3 => (focus (first | omega | (simp <;> omega)))
          case n4 => (focus (first | omega | (simp <;> omega)))
          case hb => repeat (first | with_reducible (exact Below.refl _ _) | with_reducible assumption | with_reducible (refine Below.drew ?_) | (with_reducible (refine Below.alloc ?_ ?_ _); rotate_left; (focus (first | omega | (simp <;> omega)))) | (with_reducible (refine Below.setCell ?_ ?_ _); rotate_left; (focus (first | omega | (simp <;> omega)))))
      case rest =>
        obtain ⟨bx, bz, Ax, kx, Ay, ky, rfl, rfl, hx, hz, hax, hay, hbc⟩ := hcut
        have HY := Lib.hid (show ∀ w', Below wc.heap.size wc w' → (((w'.cell? ⟨w.heap.size, 0, none⟩ = some (.string va.op) ∧ w'.cell? ⟨w.heap.size, 1, none⟩ = some (.int .i64 va.num) ∧ w'.cell? ⟨w.heap.size, 2, none⟩ = some (.slice A va.kids.length ca)) ∧
            (w'.cell? ⟨w.heap.size + 1, 0, none⟩ = some (.string vb.op) ∧ w'.cell? ⟨w.heap.size + 1, 1, none⟩ = some (.int .i64 vb.num) ∧ w'.cell? ⟨w.heap.size + 1, 2, none⟩ = some (.slice B vb.kids.length cb))) ∧
            (w'.cell? ⟨bx, 0, none⟩ = some (.string va.op) ∧ w'.cell? ⟨bx, 1, none⟩ = some (.int .i64 va.num) ∧ w'.cell? ⟨bx, 2, none⟩ = some (.slice Ax va.kids.length kx)) ∧ (w'.cell? ⟨bz, 0, none⟩ = some (.string vb.op) ∧ w'.cell? ⟨bz, 1, none⟩ = some (.int .i64 vb.num) ∧ w'.cell? ⟨bz, 2, none⟩ = some (.slice Ay vb.kids.length ky))) ∧
            (At w' va (.slice A va.kids.length ca) ∧ At w' vb (.slice B vb.kids.length cb)) ∧ (At w' va (.slice Ax va.kids.length kx) ∧ At w' vb (.slice Ay vb.kids.length ky)) ∧ TabOk w' ∧ Below w.heap.size w w' from fun w' hb => by
          obtain ⟨h1, h2, h3, h4, h5⟩ := HX.out w' (HB3.out.trans ((chain hbc hb).mono HB3.out.size))
          exact ⟨⟨h1, cellsOf3 ((hb.block _ (heap_lt hx)).trans hx), cellsOf3 ((hb.block _ (heap_lt hz)).trans hz)⟩, ⟨h2, h3⟩, ⟨hax.under hb, hay.under hb⟩, h4, h5⟩)
        clear HX HB3 HAT hx hz hax hay hbc x0 x1 x2 y0 y1 y2
        obtain ⟨bo, hbo⟩ : ∃ z, (vBool tb).op = z := ⟨_, rfl⟩
        have HBO := Lib.hid hbo
        have HI := Lib.hid (show ∀ w', Calls Tryd.prog 9 #[.int .i64 n] w' fun e w'' => e = .returned (.agg #[.string bI, .int .i64 n, nilS]) ∧ Below w'.heap.size w' w'' from fun w' => Int_in w' n)
        have HSI := Lib.hid (show ∀ w', Calls Tryd.prog 8 #[.agg #[.string bI, .int .i64 n, nilS], .agg #[.string bI, .int .i64 n, nilS]] w' fun e w'' => e = .returned (.bool true) ∧ Below w'.heap.size w' w'' from fun w' => by
          have := Same_in _ w' (vInt n) (vInt n) nilS nilS (Nat.le_refl _) .leaf .leaf
          rw [same_refl _ _ (Nat.le_refl _)] at this
          exact this)
        have HBL := Lib.hid (show ∀ w', Calls Tryd.prog 11 #[.bool tb] w' fun e w'' => e = .returned (.agg #[.string bo, .int .i64 0, nilS]) ∧ Below w'.heap.size w' w'' from fun w' => by
          have := Bool_in w' tb
          unfold aggV at this
          rw [hbo] at this
          exact this)
        have HRB := Lib.hid (show ∀ w', Calls Tryd.prog 12 #[.bool tb] w' fun e w'' => e = .returned (.agg #[.string bo, .int .i64 0, nilS]) ∧ Below w'.heap.size w' w'' from fun w' => by
          have := RBool_in w' tb
          unfold aggV at this
          rw [hbo] at this
          exact this)
        have HOF := Lib.hid (show ∀ w', Calls Tryd.prog 7 #[.agg #[.string bo, .int .i64 0, nilS]] w' fun e w'' => (∃ A5 k5, e = .returned (.agg #[.string bo, .int .i64 0, .slice A5 0 k5])) ∧ Below w'.heap.size w' w'' from fun w' => by
          have := Of_in _ w' (vBool tb) nilS (Nat.le_refl _) .leaf
          unfold aggV at this
          rw [hbo] at this
          refine this.mono fun e w'' ⟨⟨s', he, hp⟩, hb⟩ => ?_
          obtain ⟨A5, k5, rfl⟩ := hp.form
          exact ⟨⟨A5, k5, he⟩, hb⟩)
        have HRS := Lib.hid (show ∀ w' A5 k5, Calls Tryd.prog 10 #[.agg #[.string bo, .int .i64 0, .slice A5 0 k5], .agg #[.string bo, .int .i64 0, nilS]] w' fun e w'' => e = .returned (.bool true) ∧ Below w'.heap.size w' w'' from fun w' A5 k5 => by
          have := RSame_in _ w' (vBool tb) (vBool tb) (.slice A5 0 k5) nilS (Nat.le_refl _) .leaf .leaf
          rw [same_refl _ _ (Nat.le_refl _)] at this
          unfold aggV at this
          rw [hbo] at this
          exact this)
        have HSH := Lib.hid (show ∀ w', Below wc.heap.size wc w' → Calls Tryd.prog 13 #[.agg #[.string bI, .int .i64 n, nilS]] w' fun e w'' => e = .returned (.string (figs n)) ∧ Below w'.heap.size w' w'' from fun w' hb => by
          have := Show_in _ w' (vInt n) nilS (Nat.le_refl _) (by rw [cnt_eq]; show 1 + bI.size + 0 ≤ 1048576; decide) ((rng_eq _).2 ⟨HN.out, trivial⟩) .leaf (HY.out w' hb).2.2.2.1
          have hs : showF (SizeOf.sizeOf (vInt n)) (vInt n) = figs n := by
            have : ∀ N, SizeOf.sizeOf (vInt n) ≤ N → showF N (vInt n) = figs n
              | 0, h => by
                unfold vInt at h
                simp only [V.mk.sizeOf_spec] at h
                omega
              | N + 1, h => show_int (right_leaf (v := vInt n) bI_list rfl h) rfl rfl bI_list
            exact this _ (Nat.le_refl _)
          rw [hs] at this
          exact this)
        have HDI := Lib.hid (fun w' => Digits_in n w' HN.out.1 HN.out.2)
        clear hbo
        have HB1 := Lib.hid (Below.refl wc.heap.size wc)
        go_wp2_with fail
        refine (HI.out _).mono ?_
        rintro e w20 ⟨rfl, hbn⟩
        have HB2 := Lib.hid (chain HB1.out hbn)
        clear hbn HB1
        have HB1 := HB2
        clear HB2
        go_wp2_with fail
        refine (HSI.out _).mono ?_
        rintro e w21 ⟨rfl, hbn⟩
        have HB2 := Lib.hid (chain HB1.out hbn)
        clear hbn HB1
        have HB1 := HB2
        clear HB2
        go_wp2_with fail
        refine (HBL.out _).mono ?_
        rintro e w22 ⟨rfl, hbn⟩
        have HB2 := Lib.hid (chain HB1.out hbn)
        clear hbn HB1
        have HB1 := HB2
        clear HB2
        go_wp2_with fail
        refine (HOF.out _).mono ?_
        rintro e w23 ⟨⟨A5, k5, rfl⟩, hbn⟩
        have HB2 := Lib.hid (chain HB1.out hbn)
        clear hbn HB1
        have HB1 := HB2
        clear HB2
        go_wp2_with fail
        refine (HRB.out _).mono ?_
        rintro e w24 ⟨rfl, hbn⟩
        have HB2 := Lib.hid (chain HB1.out hbn)
        clear hbn HB1
        have HB1 := HB2
        clear HB2
        go_wp2_with fail
        refine (HRS.out _ _ _).mono ?_
        rintro e w25 ⟨rfl, hbn⟩
        have HB2 := Lib.hid (chain HB1.out hbn)
        clear hbn HB1
        have HB1 := HB2
        clear HB2
        go_wp2_with fail
        refine (HI.out _).mono ?_
        rintro e w26 ⟨rfl, hbn⟩
        have HB2 := Lib.hid (chain HB1.out hbn)
        clear hbn HB1
        have HB1 := HB2
        clear HB2
        go_wp2_with fail
        refine (HSH.out _ HB1.out).mono ?_
        rintro e w27 ⟨rfl, hbn⟩
        have HB2 := Lib.hid (chain HB1.out hbn)
        clear hbn HB1
        have HB1 := HB2
        clear HB2
        go_wp2_with fail
        refine (HDI.out _).mono ?_
        rintro e wn ⟨rfl, rfl⟩
        go_upto_region 6 with fail
        obtain ⟨ra, hra⟩ : ∃ z, rightF (SizeOf.sizeOf va) va = z := ⟨_, rfl⟩
        obtain ⟨zab, hzab⟩ : ∃ z, sameF (SizeOf.sizeOf va) va vb = z := ⟨_, rfl⟩
        obtain ⟨sta, hsta⟩ : ∃ z, showF (SizeOf.sizeOf va) va = z := ⟨_, rfl⟩
        have HR1 := Lib.hid (show ∀ w', Below wc.heap.size wc w' → Calls Tryd.prog 15 #[.agg #[.string va.op, .int .i64 va.num, .slice A va.kids.length ca]] w' fun e w'' => e = .returned (.bool ra) ∧ Below w'.heap.size w' w'' from fun w' hb => by
          obtain ⟨_, ⟨ha, hbb⟩, ⟨hx, hz⟩, ht, _⟩ := HY.out w' hb
          exact hra ▸ Right_in _ w' va _ (Nat.le_refl _) ha)
        have HR2 := Lib.hid (show ∀ w', Below wc.heap.size wc w' → Calls Tryd.prog 16 #[.agg #[.string va.op, .int .i64 va.num, .slice Ax va.kids.length kx]] w' fun e w'' => e = .returned (.bool ra) ∧ Below w'.heap.size w' w'' from fun w' hb => by
          obtain ⟨_, ⟨ha, hbb⟩, ⟨hx, hz⟩, ht, _⟩ := HY.out w' hb
          exact hra ▸ RRight_in _ w' va _ (Nat.le_refl _) hx)
        have HS1 := Lib.hid (show ∀ w', Below wc.heap.size wc w' → Calls Tryd.prog 8 #[.agg #[.string va.op, .int .i64 va.num, .slice A va.kids.length ca], .agg #[.string vb.op, .int .i64 vb.num, .slice B vb.kids.length cb]] w' fun e w'' => e = .returned (.bool zab) ∧ Below w'.heap.size w' w'' from fun w' hb => by
          obtain ⟨_, ⟨ha, hbb⟩, ⟨hx, hz⟩, ht, _⟩ := HY.out w' hb
          exact hzab ▸ Same_in _ w' va vb _ _ (Nat.le_refl _) ha hbb)
        have HS2 := Lib.hid (show ∀ w', Below wc.heap.size wc w' → Calls Tryd.prog 10 #[.agg #[.string va.op, .int .i64 va.num, .slice Ax va.kids.length kx], .agg #[.string vb.op, .int .i64 vb.num, .slice Ay vb.kids.length ky]] w' fun e w'' => e = .returned (.bool zab) ∧ Below w'.heap.size w' w'' from fun w' hb => by
          obtain ⟨_, ⟨ha, hbb⟩, ⟨hx, hz⟩, ht, _⟩ := HY.out w' hb
          exact hzab ▸ RSame_in _ w' va vb _ _ (Nat.le_refl _) hx hz)
        have HS3 := Lib.hid (show ∀ w', Below wc.heap.size wc w' → Calls Tryd.prog 8 #[.agg #[.string va.op, .int .i64 va.num, .slice A va.kids.length ca], .agg #[.string va.op, .int .i64 va.num, .slice A va.kids.length ca]] w' fun e w'' => e = .returned (.bool true) ∧ Below w'.heap.size w' w'' from fun w' hb => by
          obtain ⟨_, ⟨ha, hbb⟩, ⟨hx, hz⟩, ht, _⟩ := HY.out w' hb
          exact (same_refl _ va (Nat.le_refl _)) ▸ Same_in _ w' va va _ _ (Nat.le_refl _) ha ha)
        have HT1 := Lib.hid (show ∀ w', Below wc.heap.size wc w' → Calls Tryd.prog 13 #[.agg #[.string va.op, .int .i64 va.num, .slice A va.kids.length ca]] w' fun e w'' => e = .returned (.string sta) ∧ Below w'.heap.size w' w'' from fun w' hb => by
          obtain ⟨_, ⟨ha, hbb⟩, ⟨hx, hz⟩, ht, _⟩ := HY.out w' hb
          exact hsta ▸ Show_in _ w' va _ (Nat.le_refl _) HC.out.1 HC.out.2.2.1 ha ht)
        have HT2 := Lib.hid (show ∀ w', Below wc.heap.size wc w' → Calls Tryd.prog 17 #[.agg #[.string va.op, .int .i64 va.num, .slice Ax va.kids.length kx]] w' fun e w'' => e = .returned (.string sta) ∧ Below w'.heap.size w' w'' from fun w' hb => by
          obtain ⟨_, ⟨ha, hbb⟩, ⟨hx, hz⟩, ht, _⟩ := HY.out w' hb
          exact hsta ▸ RShow_in _ w' va _ (Nat.le_refl _) HC.out.1 HC.out.2.2.1 hx)
        have HFI := Lib.hid (fun w' hb => (HY.out w' hb).2.2.2.2)
        have HCL := Lib.hid (fun w' hb => (HY.out w' hb).1)
        obtain ⟨⟨⟨x0, x1, x2⟩, y0, y1, y2⟩, ⟨u0, u1, u2⟩, v0, v1, v2⟩ := HCL.out _ HB1.out
        clear HY HI HSI HBL HRB HOF HRS HSH HDI HBO HN HC hra hzab hsta
        have hbr : Below wc.heap.size wc w27.drew := HB1.out.drew
        clear HB1
        go_region_held3 (fun w' => ((w'.cell? ⟨w.heap.size, 0, none⟩ = some (.string va.op) ∧ w'.cell? ⟨w.heap.size, 1, none⟩ = some (.int .i64 va.num) ∧ w'.cell? ⟨w.heap.size, 2, none⟩ = some (.slice A va.kids.length ca)) ∧ (w'.cell? ⟨w.heap.size + 1, 0, none⟩ = some (.string vb.op) ∧ w'.cell? ⟨w.heap.size + 1, 1, none⟩ = some (.int .i64 vb.num) ∧ w'.cell? ⟨w.heap.size + 1, 2, none⟩ = some (.slice B vb.kids.length cb))) ∧ (w'.cell? ⟨bx, 0, none⟩ = some (.string va.op) ∧ w'.cell? ⟨bx, 1, none⟩ = some (.int .i64 va.num) ∧ w'.cell? ⟨bx, 2, none⟩ = some (.slice Ax va.kids.length kx)) ∧ (w'.cell? ⟨bz, 0, none⟩ = some (.string vb.op) ∧ w'.cell? ⟨bz, 1, none⟩ = some (.int .i64 vb.num) ∧ w'.cell? ⟨bz, 2, none⟩ = some (.slice Ay vb.kids.length ky)))
          (first | exact HCL.out _ (by with_reducible assumption))
          (first
            | (go_at_call 15; refine (HR1.out _ (by with_reducible assumption)).mono ?_; rintro e w31 ⟨rfl, hbn⟩; have hbw31 := chain (by with_reducible assumption) hbn; clear hbn; obtain ⟨⟨⟨x0, x1, x2⟩, y0, y1, y2⟩, ⟨u0, u1, u2⟩, v0, v1, v2⟩ := HCL.out _ hbw31)
            | (go_at_call 16; refine (HR2.out _ (by with_reducible assumption)).mono ?_; rintro e w32 ⟨rfl, hbn⟩; have hbw32 := chain (by with_reducible assumption) hbn; clear hbn; obtain ⟨⟨⟨x0, x1, x2⟩, y0, y1, y2⟩, ⟨u0, u1, u2⟩, v0, v1, v2⟩ := HCL.out _ hbw32)
            | (go_at_call_of 8 (Value.agg #[.string vb.op, .int .i64 vb.num, .slice B vb.kids.length cb]); refine (HS1.out _ (by with_reducible assumption)).mono ?_; rintro e w33 ⟨rfl, hbn⟩; have hbw33 := chain (by with_reducible assumption) hbn; clear hbn; obtain ⟨⟨⟨x0, x1, x2⟩, y0, y1, y2⟩, ⟨u0, u1, u2⟩, v0, v1, v2⟩ := HCL.out _ hbw33)
            | (go_at_call 10; refine (HS2.out _ (by with_reducible assumption)).mono ?_; rintro e w34 ⟨rfl, hbn⟩; have hbw34 := chain (by with_reducible assumption) hbn; clear hbn; obtain ⟨⟨⟨x0, x1, x2⟩, y0, y1, y2⟩, ⟨u0, u1, u2⟩, v0, v1, v2⟩ := HCL.out _ hbw34)
            | (go_at_call 8; refine (HS3.out _ (by with_reducible assumption)).mono ?_; rintro e w35 ⟨rfl, hbn⟩; have hbw35 := chain (by with_reducible assumption) hbn; clear hbn; obtain ⟨⟨⟨x0, x1, x2⟩, y0, y1, y2⟩, ⟨u0, u1, u2⟩, v0, v1, v2⟩ := HCL.out _ hbw35)
            | (go_at_call 13; refine (HT1.out _ (by with_reducible assumption)).mono ?_; rintro e w36 ⟨rfl, hbn⟩; have hbw36 := chain (by with_reducible assumption) hbn; clear hbn; obtain ⟨⟨⟨x0, x1, x2⟩, y0, y1, y2⟩, ⟨u0, u1, u2⟩, v0, v1, v2⟩ := HCL.out _ hbw36)
            | (go_at_call 17; refine (HT2.out _ (by with_reducible assumption)).mono ?_; rintro e w37 ⟨rfl, hbn⟩; have hbw37 := chain (by with_reducible assumption) hbn; clear hbn; obtain ⟨⟨⟨x0, x1, x2⟩, y0, y1, y2⟩, ⟨u0, u1, u2⟩, v0, v1, v2⟩ := HCL.out _ hbw37))
        all_goals
          have HF := Lib.hid (HFI.out _ (by with_reducible assumption))
          go_wp2_with fail
          go_ret
          exact ⟨rfl, HF.out⟩
end Go.Proofs.YtofijodndilmbaaDoor
