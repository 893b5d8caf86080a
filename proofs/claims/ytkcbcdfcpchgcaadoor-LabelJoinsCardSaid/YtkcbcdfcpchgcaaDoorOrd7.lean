/- The methods' answers, as of the relation; the chapter's example; OrderLaws. -/
import Derived.Test.YtkcbcdfcpchgcaaDoorOrd6
set_option linter.unusedVariables false
set_option linter.unusedSimpArgs false
namespace Go.Proofs.YtkcbcdfcpchgcaaDoor
open Go.RowKit
open OrdP (inB Rel allB allB_iff)

/-- The answer v, and but draws behind it. -/
def Ans (W : World) (v : Value) (e : Ending) (w' : World) : Prop := e = .returned v ∧ ∃ q, w' = W.drewN q

section
variable {W : World} {B b n : Nat} {R : Rel} (q : Nat) (hn : n ≤ 32) (hI : IsOrd W B b n R)
include hI hn
theorem Join_at {x y v : Int} (h : OrdP.joinI n R x y = v) : Calls Tryd.prog 10 #[.pointer (some ⟨b, 0, none⟩), .int .i64 x, .int .i64 y] (W.drewN q) (Ans W (.int .i64 v)) := by
  obtain ⟨_, _, bu, bd, u, d, _, _, _, _, ho, hu, hd⟩ := hI
  refine (Join_in _ b bu bd n u d hn (fun i hi => lt32 hn (hu.1 i hi)) (ho.drewN q) x y).mono ?_
  rw [leastI_is hn hu, h]
  rintro e w' ⟨rfl, q', rfl⟩
  exact ⟨rfl, _, drn _ _ _⟩
theorem Meet_at {x y v : Int} (h : OrdP.meetI n R x y = v) : Calls Tryd.prog 11 #[.pointer (some ⟨b, 0, none⟩), .int .i64 x, .int .i64 y] (W.drewN q) (Ans W (.int .i64 v)) := by
  obtain ⟨_, _, bu, bd, u, d, _, _, _, _, ho, hu, hd⟩ := hI
  refine (Meet_in _ b bu bd n u d hn (fun i hi => lt32 hn (hd.1 i hi)) (ho.drewN q) x y).mono ?_
  rw [leastI_flip hn hd, h]
  rintro e w' ⟨rfl, q', rfl⟩
  exact ⟨rfl, _, drn _ _ _⟩
theorem Below_at {x y : Int} {v : Bool} (h : OrdP.belowI n R x y = v) : Calls Tryd.prog 9 #[.pointer (some ⟨b, 0, none⟩), .int .i64 x, .int .i64 y] (W.drewN q) (Ans W (.bool v)) := by
  obtain ⟨_, _, bu, bd, u, d, _, _, _, _, ho, hu, hd⟩ := hI
  refine (Below_in _ b bu bd n u d hn (fun i hi => lt32 hn (hu.1 i hi)) (ho.drewN q) x y).mono ?_
  rw [belowM_is hu, h]
  rintro e w' ⟨rfl, rfl⟩
  exact ⟨rfl, _, rfl⟩
theorem Bottom_at {v : Int} (h1 : 1 ≤ n) (h : OrdP.bottom n R = v) : Calls Tryd.prog 14 #[.pointer (some ⟨b, 0, none⟩)] (W.drewN q) (Ans W (.int .i64 v)) := by
  obtain ⟨_, _, bu, bd, u, d, _, _, _, _, ho, hu, hd⟩ := hI
  refine (Bottom_in _ b bu bd n u d h1 hn (fun i hi => lt32 hn (hu.1 i hi)) (ho.drewN q)).mono ?_
  rw [bottom_is hn hu, h]
  rintro e w' ⟨rfl, q', rfl⟩
  exact ⟨rfl, _, drn _ _ _⟩
theorem Top_at {v : Int} (h1 : 1 ≤ n) (h : OrdP.top n R = v) : Calls Tryd.prog 16 #[.pointer (some ⟨b, 0, none⟩)] (W.drewN q) (Ans W (.int .i64 v)) := by
  obtain ⟨_, _, bu, bd, u, d, _, _, _, _, ho, hu, hd⟩ := hI
  refine (Top_in _ b bu bd n u d h1 hn (fun i hi => lt32 hn (hd.1 i hi)) (ho.drewN q)).mono ?_
  rw [top_is hn hd, h]
  rintro e w' ⟨rfl, q', rfl⟩
  exact ⟨rfl, _, drn _ _ _⟩
omit hn in
theorem Len_at : Calls Tryd.prog 8 #[.pointer (some ⟨b, 0, none⟩)] (W.drewN q) fun e w' => e = .returned (.int .i64 n) ∧ w' = W.drewN q := by
  obtain ⟨_, _, bu, bd, u, d, _, _, _, _, ho, hu, hd⟩ := hI
  refine (Len_in _ b n _ (ho.drewN q).up).mono ?_
  rintro e w' ⟨rfl, rfl⟩
  exact ⟨rfl, rfl⟩
end

def exL : List (Int × Int) := [(0, 1), (0, 2), (1, 3), (2, 3)]
theorem ex_good : good 4 exL = true := by decide
theorem ex_lat : OrdP.lattice 4 (newR 4 exL) = true := by decide +kernel
theorem ex_join : OrdP.joinI 4 (newR 4 exL) 1 2 = 3 := by decide +kernel
theorem ex_meet : OrdP.meetI 4 (newR 4 exL) 1 2 = 0 := by decide +kernel
theorem ex_bottom : OrdP.bottom 4 (newR 4 exL) = 0 := by decide +kernel

set_option maxHeartbeats 1000000 in
theorem lives_in (w : World) (ht : TabAt w) (hB0 : 0 < w.heap.size) :
    Calls Tryd.prog 6 #[] w fun e w' => e = .returned (.bool true) ∧ Below w.heap.size w w' := by
  go_enter Tryd.func6, Tryd.ntmps6
  go_wp2_with fail
  have hp : PairsAt (w.alloc (.cells #[.int .i64 0, .int .i64 1, .int .i64 0, .int .i64 2, .int .i64 1, .int .i64 3, .int .i64 2, .int .i64 3] 63)) (some ⟨w.heap.size, 0, none⟩) exL := by
    refine .inr ⟨_, _, rfl, fun i hi => ?_⟩
    have h : (w.alloc (.cells #[.int .i64 0, .int .i64 1, .int .i64 0, .int .i64 2, .int .i64 1, .int .i64 3, .int .i64 2, .int .i64 3] 63)).heap[w.heap.size]? = some (.cells #[.int .i64 0, .int .i64 1, .int .i64 0, .int .i64 2, .int .i64 1, .int .i64 3, .int .i64 2, .int .i64 3] 63) := by simp only [World.alloc, Array.getElem?_push]; simp
    have hi' : i < 4 := hi
    rcases i with _ | _ | _ | _ | i
    · simp only [World.cell?, h]; exact ⟨rfl, rfl⟩
    · simp only [World.cell?, h]; exact ⟨rfl, rfl⟩
    · simp only [World.cell?, h]; exact ⟨rfl, rfl⟩
    · simp only [World.cell?, h]; exact ⟨rfl, rfl⟩
    · omega
  have hb0 : Below w.heap.size w (w.alloc (.cells #[.int .i64 0, .int .i64 1, .int .i64 0, .int .i64 2, .int .i64 1, .int .i64 3, .int .i64 2, .int .i64 3] 63)) := (Below.refl _ _).alloc (Nat.le_refl _) _
  generalize w.alloc (.cells #[.int .i64 0, .int .i64 1, .int .i64 0, .int .i64 2, .int .i64 1, .int .i64 3, .int .i64 2, .int .i64 3] 63) = w0 at *
  have hs0 := hb0.size
  refine (New_in w0 (fun i hi => (hb0.cell (p := ⟨_, i, none⟩) hB0).trans (ht i hi)) (by omega) 4 (some ⟨w.heap.size, 0, none⟩) 4 exL (by decide) hp).mono ?_
  rintro e w1 ⟨hb1, h⟩
  rcases h with ⟨h, _⟩ | ⟨_, h, _⟩ | ⟨_, _, b, rfl, hI⟩
  · rw [ex_good] at h; cases h
  · have h' : OrdP.lattice 4 (newR 4 exL) = false := h
    rw [ex_lat] at h'; cases h'
  have hI' : IsOrd w1 w0.heap.size b 4 (newR 4 exL) := hI
  have H1 := Lib.hid hI'
  have HB := Lib.hid (hb0.trans (hb1.mono hs0))
  clear hI hI' hb1 hb0 hp ht
  go_wp2_with fail
  refine (Join_at 0 (by omega) H1.out ex_join).mono ?_
  rintro e w2 ⟨rfl, q, rfl⟩
  go_wp2_with fail
  refine (Meet_at q (by omega) H1.out ex_meet).mono ?_
  rintro e w2 ⟨rfl, q2, rfl⟩
  go_wp2_with fail
  refine (Bottom_at q2 (by omega) H1.out (by omega) ex_bottom).mono ?_
  rintro e w2 ⟨rfl, q3, rfl⟩
  go_wp2_with fail
  go_ret
  exact ⟨rfl, below_drewN HB.out _⟩

theorem laws_parts {n : Nat} {R : Rel} (h : OrdP.Lat n R) {x y z : Nat} (hx : x < n) (hy : y < n) (hz : z < n) :
    ∃ (xy yz a m mz b bt tp : Int), OrdP.joinI n R x y = xy ∧ OrdP.joinI n R y z = yz ∧ OrdP.joinI n R xy z = a ∧ OrdP.joinI n R x yz = a ∧
      OrdP.meetI n R x y = m ∧ OrdP.meetI n R y z = mz ∧ OrdP.meetI n R m z = b ∧ OrdP.meetI n R x mz = b ∧
      OrdP.joinI n R x x = x ∧ OrdP.meetI n R x x = x ∧ OrdP.joinI n R y x = xy ∧ OrdP.meetI n R y x = m ∧
      OrdP.joinI n R x m = x ∧ OrdP.meetI n R x xy = x ∧ OrdP.belowI n R x y = (xy == (y : Int)) ∧ OrdP.belowI n R x y = (m == (x : Int)) ∧
      OrdP.bottom n R = bt ∧ OrdP.belowI n R bt x = true ∧ OrdP.top n R = tp ∧ OrdP.belowI n R x tp = true := by
  have hl := h.laws hx hy hz
  simp only [OrdP.bracketsI, OrdP.plainI, OrdP.bothI, Bool.and_eq_true, beq_iff_eq] at hl
  obtain ⟨⟨⟨⟨⟨⟨⟨h1, h2⟩, ⟨⟨h3, h4⟩, h5⟩, h6⟩, h7, h8⟩, h9⟩, h10⟩, h11⟩, h12⟩ := hl
  exact ⟨_, _, _, _, _, _, _, _, rfl, rfl, rfl, h1.symm, rfl, rfl, rfl, h2.symm, h3, h4, h5.symm, h6.symm, h7, h8, h9, h10, rfl, h11, rfl, h12⟩

theorem TabAt.below {B : Nat} {w w' : World} (h : TabAt w) (hB : 0 < B) (hb : Below B w w') : TabAt w' := fun i hi => (hb.cell (p := ⟨_, i, none⟩) hB).trans (h i hi)
theorem PairsAt.below {w w' : World} {A : Option Addr} {l : List (Int × Int)} (h : PairsAt w A l) (hb : Below w.heap.size w w') : PairsAt w' A l := by
  rcases h with h | ⟨b, off, hA, hc⟩
  · exact .inl h
  · exact .inr ⟨b, off, hA, fun i hi => ⟨(hb.cell (p := ⟨b, off + i * 2, none⟩) (cell_lt (hc i hi).1)).trans (hc i hi).1, (hb.cell (p := ⟨b, off + i * 2 + 1, none⟩) (cell_lt (hc i hi).2)).trans (hc i hi).2⟩⟩

set_option maxRecDepth 100000 in
set_option maxHeartbeats 4000000 in
theorem OrderLaws_in (w : World) (ht : TabAt w) (hB0 : 0 < w.heap.size) (n : Int) (n1 : -128 ≤ n) (n2 : n ≤ 127) (A : Option Addr) (cap len : Nat) (l : List (Int × Int)) (hlen : l.length = len) (hbig : len ≤ 200 → PairsAt w A l) (hmax : (len : Int) ≤ 9223372036854775807)
    (p0 p1 p2 : Int) (h0 : 0 ≤ p0 ∧ p0 ≤ 255) (h1 : 0 ≤ p1 ∧ p1 ≤ 255) (h2 : 0 ≤ p2 ∧ p2 ≤ 255) :
    Calls Tryd.prog 4 #[.int .i8 n, .slice A len cap, .agg #[.int .u8 p0, .int .u8 p1, .int .u8 p2]] w fun e w' => e = .returned (.bool true) ∧ Below w.heap.size w w' := by
  have hb0 : Below w.heap.size w (w.alloc (.cells #[.int .u8 p0, .int .u8 p1, .int .u8 p2] 38)) := (Below.refl _ _).alloc (Nat.le_refl _) _
  have hs0 : (w.alloc (.cells #[.int .u8 p0, .int .u8 p1, .int .u8 p2] 38)).heap.size = w.heap.size + 1 := by simp
  have hc0 : ∀ i v, #[Value.int .u8 p0, .int .u8 p1, .int .u8 p2][i]? = some v → (w.alloc (.cells #[.int .u8 p0, .int .u8 p1, .int .u8 p2] 38)).cell? ⟨w.heap.size, i, none⟩ = some v := fun i v h => by
    have e : (w.alloc (.cells #[.int .u8 p0, .int .u8 p1, .int .u8 p2] 38)).heap[w.heap.size]? = some (.cells #[.int .u8 p0, .int .u8 p1, .int .u8 p2] 38) := by simp only [World.alloc, Array.getElem?_push]; simp
    simp only [World.cell?, e]; exact h
  go_enter Tryd.func4, Tryd.ntmps4
  go_wp2_with fail
  generalize w.alloc (.cells #[.int .u8 p0, .int .u8 p1, .int .u8 p2] 38) = w0 at *
  have ht0 := ht.below hB0 hb0
  refine (lives_in w0 ht0 (by omega)).mono ?_
  rintro e w1 ⟨rfl, hb1⟩
  have hb01 := hb0.trans (hb1.mono (by omega))
  have ht1 := ht.below hB0 hb01
  have hs1 := hb1.size
  by_cases hl : 200 < len
  · go_wp2_with fail
    refine (lives_in w1 ht1 (by omega)).mono ?_
    rintro e w2 ⟨rfl, hb2⟩
    go_wp2_with fail
    go_ret
    exact ⟨rfl, hb01.trans (hb2.mono (by omega))⟩
  · have hp1 := (hbig (by omega)).below hb01
    have HP := Lib.hid hp1
    clear hp1 hbig
    subst hlen
    have c0 := hc0 0 _ rfl
    have c1 := hc0 1 _ rfl
    have c2 := hc0 2 _ rfl
    clear hc0
    go_wp2_with fail
    refine (New_in w1 ht1 (by omega) n A cap l (by omega) HP.out).mono ?_
    rintro e w2 ⟨hb2, h⟩
    have hb02 := hb01.trans (hb2.mono (by omega))
    rcases h with ⟨_, rfl⟩ | ⟨_, _, rfl⟩ | ⟨hg, hlat, b, rfl, hI⟩
    · go_wp2_with fail
      go_ret
      exact ⟨rfl, hb02⟩
    · go_wp2_with fail
      go_ret
      exact ⟨rfl, hb02⟩
    · have hg' : 1 ≤ n ∧ n ≤ 32 := by simp [good] at hg; omega
      obtain ⟨N, rfl⟩ := Int.eq_ofNat_of_zero_le (show 0 ≤ n by omega)
      rw [Int.toNat_natCast] at hlat hI
      have hR : OrdP.Lat N (newR N l) := (OrdP.lattice_iff (fun i hi => OrdP.warshall_sub N (R0 l) N i i hi hi (r0_refl l i)) (OrdP.warshall_clo N (R0 l)).trans).1 hlat
      generalize newR N l = R at *
      have hN1 : 1 ≤ N := by omega
      have hN2 : N ≤ 32 := by omega
      obtain ⟨x, hx⟩ : ∃ x : Nat, p0.tmod (N : Int) = (x : Int) := ⟨(p0.tmod N).toNat, by rw [Int.tmod_eq_emod_of_nonneg h0.1]; have := Int.emod_nonneg p0 (show (N : Int) ≠ 0 by omega); omega⟩
      obtain ⟨y, hy⟩ : ∃ x : Nat, p1.tmod (N : Int) = (x : Int) := ⟨(p1.tmod N).toNat, by rw [Int.tmod_eq_emod_of_nonneg h1.1]; have := Int.emod_nonneg p1 (show (N : Int) ≠ 0 by omega); omega⟩
      obtain ⟨z, hz⟩ : ∃ x : Nat, p2.tmod (N : Int) = (x : Int) := ⟨(p2.tmod N).toNat, by rw [Int.tmod_eq_emod_of_nonneg h2.1]; have := Int.emod_nonneg p2 (show (N : Int) ≠ 0 by omega); omega⟩
      have hxN : x < N := by rw [Int.tmod_eq_emod_of_nonneg h0.1] at hx; have := Int.emod_lt_of_pos p0 (show (0 : Int) < N by omega); omega
      have hyN : y < N := by rw [Int.tmod_eq_emod_of_nonneg h1.1] at hy; have := Int.emod_lt_of_pos p1 (show (0 : Int) < N by omega); omega
      have hzN : z < N := by rw [Int.tmod_eq_emod_of_nonneg h2.1] at hz; have := Int.emod_lt_of_pos p2 (show (0 : Int) < N by omega); omega
      obtain ⟨xy, yz, a, m, mz, bb, bt, tp, j1, j2, j3, j4, m1, m2, m3, m4, j5, m5, j6, m6, a1, a2, b1, b2, bo, b3, ttop, b4⟩ := laws_parts hR hxN hyN hzN
      have d0 := (hb1.trans (hb2.mono (by omega))).cell (p := ⟨w.heap.size, 0, none⟩) (by show w.heap.size < _; omega) |>.trans c0
      have d1 := (hb1.trans (hb2.mono (by omega))).cell (p := ⟨w.heap.size, 1, none⟩) (by show w.heap.size < _; omega) |>.trans c1
      have d2 := (hb1.trans (hb2.mono (by omega))).cell (p := ⟨w.heap.size, 2, none⟩) (by show w.heap.size < _; omega) |>.trans c2
      have H1 := Lib.hid (And.intro j1 (And.intro j2 (And.intro j3 (And.intro j4 (And.intro m1 (And.intro m2 (And.intro m3 m4)))))))
      have H2 := Lib.hid (And.intro j5 (And.intro m5 (And.intro j6 (And.intro m6 (And.intro a1 (And.intro a2 (And.intro b1 (And.intro b2 (And.intro bo (And.intro b3 (And.intro ttop b4)))))))))))
      have HI := Lib.hid hI
      have HB := Lib.hid hb02
      have hnz : ((N : Int) == 0) = false := by simp; omega
      clear j1 j2 j3 j4 m1 m2 m3 m4 j5 m5 j6 m6 a1 a2 b1 b2 bo b3 ttop b4 hI hb02 hb2 hb1 hb01 hb0 c0 c1 c2 ht ht0 ht1 hR hlat hg
      go_wp2_with fail
      go_quiet ((go_at_call 8; exact Calls.quiet_of_same (Len_at _ HI.out)))
      go_wp2_with fail
      refine (Join_at nq hN2 HI.out H1.out.1).mono ?_
      rintro e w3 ⟨rfl, q0, rfl⟩
      go_wp2_with fail
      refine (Join_at q0 hN2 HI.out H1.out.2.2.1).mono ?_
      rintro e w4 ⟨rfl, q1, rfl⟩
      go_wp2_with fail
      refine (Join_at q1 hN2 HI.out H1.out.2.1).mono ?_
      rintro e w5 ⟨rfl, q2, rfl⟩
      go_wp2_with fail
      refine (Join_at q2 hN2 HI.out H1.out.2.2.2.1).mono ?_
      rintro e w6 ⟨rfl, q3, rfl⟩
      go_wp2_with fail
      refine (Meet_at q3 hN2 HI.out H1.out.2.2.2.2.1).mono ?_
      rintro e w7 ⟨rfl, q4, rfl⟩
      go_wp2_with fail
      refine (Meet_at q4 hN2 HI.out H1.out.2.2.2.2.2.2.1).mono ?_
      rintro e w8 ⟨rfl, q5, rfl⟩
      go_wp2_with fail
      refine (Meet_at q5 hN2 HI.out H1.out.2.2.2.2.2.1).mono ?_
      rintro e w9 ⟨rfl, q6, rfl⟩
      go_wp2_with fail
      refine (Meet_at q6 hN2 HI.out H1.out.2.2.2.2.2.2.2).mono ?_
      rintro e w10 ⟨rfl, q7, rfl⟩
      go_wp2_with fail
      refine (Join_at q7 hN2 HI.out H2.out.1).mono ?_
      rintro e w11 ⟨rfl, q8, rfl⟩
      go_wp2_with fail
      refine (Meet_at q8 hN2 HI.out H2.out.2.1).mono ?_
      rintro e w12 ⟨rfl, q9, rfl⟩
      go_wp2_with fail
      refine (Join_at q9 hN2 HI.out H1.out.1).mono ?_
      rintro e w13 ⟨rfl, q10, rfl⟩
      go_wp2_with fail
      refine (Join_at q10 hN2 HI.out H2.out.2.2.1).mono ?_
      rintro e w14 ⟨rfl, q11, rfl⟩
      go_wp2_with fail
      refine (Meet_at q11 hN2 HI.out H1.out.2.2.2.2.1).mono ?_
      rintro e w15 ⟨rfl, q12, rfl⟩
      go_wp2_with fail
      refine (Meet_at q12 hN2 HI.out H2.out.2.2.2.1).mono ?_
      rintro e w16 ⟨rfl, q13, rfl⟩
      go_wp2_with fail
      refine (Meet_at q13 hN2 HI.out H1.out.2.2.2.2.1).mono ?_
      rintro e w17 ⟨rfl, q14, rfl⟩
      go_wp2_with fail
      refine (Join_at q14 hN2 HI.out H2.out.2.2.2.2.1).mono ?_
      rintro e w18 ⟨rfl, q15, rfl⟩
      go_wp2_with fail
      refine (Join_at q15 hN2 HI.out H1.out.1).mono ?_
      rintro e w19 ⟨rfl, q16, rfl⟩
      go_wp2_with fail
      refine (Meet_at q16 hN2 HI.out H2.out.2.2.2.2.2.1).mono ?_
      rintro e w20 ⟨rfl, q17, rfl⟩
      go_wp2_with fail
      refine (Below_at q17 hN2 HI.out H2.out.2.2.2.2.2.2.1).mono ?_
      rintro e w21 ⟨rfl, q18, rfl⟩
      go_wp2_with fail
      refine (Join_at q18 hN2 HI.out H1.out.1).mono ?_
      rintro e w22 ⟨rfl, q19, rfl⟩
      go_wp2_with fail
      refine (Below_at q19 hN2 HI.out H2.out.2.2.2.2.2.2.2.1).mono ?_
      rintro e w23 ⟨rfl, q20, rfl⟩
      go_wp2_with fail
      refine (Meet_at q20 hN2 HI.out H1.out.2.2.2.2.1).mono ?_
      rintro e w24 ⟨rfl, q21, rfl⟩
      go_wp2_with fail
      refine (Bottom_at q21 hN2 HI.out hN1 H2.out.2.2.2.2.2.2.2.2.1).mono ?_
      rintro e w25 ⟨rfl, q22, rfl⟩
      go_wp2_with fail
      refine (Below_at q22 hN2 HI.out H2.out.2.2.2.2.2.2.2.2.2.1).mono ?_
      rintro e w26 ⟨rfl, q23, rfl⟩
      go_wp2_with fail
      refine (Top_at q23 hN2 HI.out hN1 H2.out.2.2.2.2.2.2.2.2.2.2.1).mono ?_
      rintro e w27 ⟨rfl, q24, rfl⟩
      go_wp2_with fail
      refine (Below_at q24 hN2 HI.out H2.out.2.2.2.2.2.2.2.2.2.2.2).mono ?_
      rintro e w28 ⟨rfl, q25, rfl⟩
      go_wp2_with fail
      go_ret
      exact ⟨rfl, below_drewN HB.out _⟩

end Go.Proofs.YtkcbcdfcpchgcaaDoor
