/- OrderNew's walk. -/
import Derived.Test.YtkcbcdfcpchgcaaDoorRef6
import Derived.Deep.RegionHeld3
set_option linter.unusedVariables false
set_option linter.unusedSimpArgs false
namespace Go.Proofs.YtkcbcdfcpchgcaaDoor
open Go.RowKit
open OrdP (inB Rel allB allB_iff)

/-- The answer v, and of what lay in W0 nothing turned. -/
def AnsB (W0 : World) (v : Value) (e : Ending) (w' : World) : Prop := e = .returned v ∧ Below W0.heap.size W0 w'
section
variable {W0 W : World} {B b n : Nat} {R : Rel}
theorem of_ans {v : Value} {f : FuncId} {args : Array Value} (hb : Below W0.heap.size W0 W) (h : Calls Tryd.prog f args (W.drewN 0) (Ans W v)) : Calls Tryd.prog f args W (AnsB W0 v) :=
  Calls.mono (P := Tryd.prog) (f := f) (args := args) (w := W) h fun e w' ⟨he, q, hq⟩ => ⟨he, by subst hq; exact below_drewN hb q⟩
theorem Join_B (hn : n ≤ 32) (hI : IsOrd W0 B b n R) (hb : Below W0.heap.size W0 W) {x y v : Int} (h : OrdP.joinI n R x y = v) : Calls Tryd.prog 10 #[.pointer (some ⟨b, 0, none⟩), .int .i64 x, .int .i64 y] W (AnsB W0 (.int .i64 v)) := of_ans hb (Join_at 0 hn (hI.below (Nat.le_refl _) hb) h)
theorem Meet_B (hn : n ≤ 32) (hI : IsOrd W0 B b n R) (hb : Below W0.heap.size W0 W) {x y v : Int} (h : OrdP.meetI n R x y = v) : Calls Tryd.prog 11 #[.pointer (some ⟨b, 0, none⟩), .int .i64 x, .int .i64 y] W (AnsB W0 (.int .i64 v)) := of_ans hb (Meet_at 0 hn (hI.below (Nat.le_refl _) hb) h)
theorem Below_B (hn : n ≤ 32) (hI : IsOrd W0 B b n R) (hb : Below W0.heap.size W0 W) {x y : Int} {v : Bool} (h : OrdP.belowI n R x y = v) : Calls Tryd.prog 9 #[.pointer (some ⟨b, 0, none⟩), .int .i64 x, .int .i64 y] W (AnsB W0 (.bool v)) := of_ans hb (Below_at 0 hn (hI.below (Nat.le_refl _) hb) h)
theorem Bottom_B (hn : n ≤ 32) (h1 : 1 ≤ n) (hI : IsOrd W0 B b n R) (hb : Below W0.heap.size W0 W) {v : Int} (h : OrdP.bottom n R = v) : Calls Tryd.prog 14 #[.pointer (some ⟨b, 0, none⟩)] W (AnsB W0 (.int .i64 v)) := of_ans hb (Bottom_at 0 hn (hI.below (Nat.le_refl _) hb) h1 h)
theorem Top_B (hn : n ≤ 32) (h1 : 1 ≤ n) (hI : IsOrd W0 B b n R) (hb : Below W0.heap.size W0 W) {v : Int} (h : OrdP.top n R = v) : Calls Tryd.prog 16 #[.pointer (some ⟨b, 0, none⟩)] W (AnsB W0 (.int .i64 v)) := of_ans hb (Top_at 0 hn (hI.below (Nat.le_refl _) hb) h1 h)
theorem Len_B (hI : IsOrd W0 B b n R) (hb : Below W0.heap.size W0 W) : Calls Tryd.prog 8 #[.pointer (some ⟨b, 0, none⟩)] W (AnsB W0 (.int .i64 n)) :=
  (Len_at 0 (hI.below (Nat.le_refl _) hb)).mono fun e w' ⟨he, hq⟩ => ⟨he, by subst hq; exact hb⟩
theorem refB {v : Value} {f : FuncId} {args : Array Value} (hb : Below W0.heap.size W0 W) (h : Calls Tryd.prog f args W fun e w' => e = .returned v ∧ Below W.heap.size W w') : Calls Tryd.prog f args W (AnsB W0 v) :=
  h.mono fun e w' ⟨he, h'⟩ => ⟨he, hb.trans (h'.mono hb.size)⟩
theorem refJoin_B {g cp a c : Nat} {S : Rel} (hn : n ≤ 32) (ha : a < n) (hc : c < n) (hS : RefAt W0 g n S) (hb : Below W0.heap.size W0 W) {v : Int} (h : OrdP.join n S a c = v) :
    Calls Tryd.prog 12 #[.agg #[.int .i64 n, .slice (some ⟨g, 0, none⟩) n cp], .int .i64 a, .int .i64 c] W (AnsB W0 (.int .i64 v)) := by
  subst h; exact refB hb (refJoin_in W g n cp a c S hn ha hc (hS.below hb))
theorem refMeet_B {g cp a c : Nat} {S : Rel} (hn : n ≤ 32) (ha : a < n) (hc : c < n) (hS : RefAt W0 g n S) (hb : Below W0.heap.size W0 W) {v : Int} (h : OrdP.meet n S a c = v) :
    Calls Tryd.prog 13 #[.agg #[.int .i64 n, .slice (some ⟨g, 0, none⟩) n cp], .int .i64 a, .int .i64 c] W (AnsB W0 (.int .i64 v)) := by
  subst h; exact refB hb (refMeet_in W g n cp a c S hn ha hc (hS.below hb))
theorem refBottom_B {g cp : Nat} {S : Rel} (h1 : 1 ≤ n) (hn : n ≤ 32) (hS : RefAt W0 g n S) (hb : Below W0.heap.size W0 W) {v : Int} (h : OrdP.bottom n S = v) :
    Calls Tryd.prog 15 #[.agg #[.int .i64 n, .slice (some ⟨g, 0, none⟩) n cp]] W (AnsB W0 (.int .i64 v)) := by
  subst h; exact refB hb (refBottom_in W g n cp S h1 hn (hS.below hb))
theorem refTop_B {g cp : Nat} {S : Rel} (h1 : 1 ≤ n) (hn : n ≤ 32) (hS : RefAt W0 g n S) (hb : Below W0.heap.size W0 W) {v : Int} (h : OrdP.top n S = v) :
    Calls Tryd.prog 17 #[.agg #[.int .i64 n, .slice (some ⟨g, 0, none⟩) n cp]] W (AnsB W0 (.int .i64 v)) := by
  subst h; exact refB hb (refTop_in W g n cp S h1 hn (hS.below hb))
theorem nil_B {v : Value} {f : FuncId} {args : Array Value} (hb : Below W0.heap.size W0 W) (h : Calls Tryd.prog f args W fun e w' => e = .returned v ∧ W = w') : Calls Tryd.prog f args W (AnsB W0 v) :=
  h.mono fun e w' ⟨he, hq⟩ => ⟨he, by subst hq; exact hb⟩
end

set_option maxRecDepth 100000 in
set_option maxHeartbeats 8000000 in
theorem OrderNew_in (w : World) (ht : TabAt w) (hB0 : 0 < w.heap.size) (n : Int) (n1 : -128 ≤ n) (n2 : n ≤ 127) (A : Option Addr) (cap len : Nat) (l : List (Int × Int)) (hlen : l.length = len) (hbig : len ≤ 200 → PairsAt w A l) (hmax : (len : Int) ≤ 9223372036854775807) :
    Calls Tryd.prog 3 #[.int .i8 n, .slice A len cap] w fun e w' => e = .returned (.bool true) ∧ Below w.heap.size w w' := by
  go_enter Tryd.func3, Tryd.ntmps3
  go_wp2_with fail
  refine (lives_in w ht hB0).mono ?_
  rintro e w1 ⟨rfl, hb1⟩
  have ht1 := ht.below hB0 hb1
  have hs1 := hb1.size
  by_cases hl : 200 < len
  · go_wp2_with fail
    refine (lives_in w1 ht1 (by omega)).mono ?_
    rintro e w2 ⟨rfl, hb2⟩
    go_wp2_with fail
    go_ret
    exact ⟨rfl, hb1.trans (hb2.mono (by omega))⟩
  · have hp1 := (hbig (by omega)).below hb1
    have HP := Lib.hid hp1
    clear hp1 hbig
    subst hlen
    go_wp2_with fail
    refine (Of_in w1 ht1 (by omega) n A cap l (by omega) HP.out).mono ?_
    rintro e w2 ⟨hb2, h⟩
    have hb02 := hb1.trans (hb2.mono hs1)
    have hs2 := hb2.size
    rcases h with ⟨x, s, k, c, rfl⟩ | ⟨hn1, hn2, b, g, cp, R, S, rfl, hI, hL, hS, hSR⟩
    · have HB := Lib.hid (hb02.alloc (by omega) (.cells #[.int .i64 x, .slice s k c] 28))
      go_wp2_with fail
      refine (Len_nil _).mono ?_
      rintro e w3 ⟨rfl, rfl⟩
      go_wp2_with fail
      go_ret
      exact ⟨rfl, HB.out⟩
    · obtain ⟨N, rfl⟩ := Int.eq_ofNat_of_zero_le (show 0 ≤ n by omega)
      rw [Int.toNat_natCast] at *
      have hN1 : 1 ≤ N := by omega
      have hN2 : N ≤ 32 := by omega
      have hb3 := (Below.refl w2.heap.size w2).alloc (Nat.le_refl _) (.cells #[.int .i64 N, .slice (some ⟨g, 0, none⟩) N cp] 28)
      have hI3 := hI.below (Nat.le_refl _) hb3
      have hS3 := hS.below hb3
      have HB := Lib.hid (hb02.trans (hb3.mono (by omega)))
      obtain ⟨c0, c1⟩ := cell_two_l w2 (.int .i64 N) (.slice (some ⟨g, 0, none⟩) N cp) 28
      have hs3 : (w2.alloc (.cells #[.int .i64 N, .slice (some ⟨g, 0, none⟩) N cp] 28)).heap.size = w2.heap.size + 1 := by simp
      have HL := Lib.hid hL
      have HSR := Lib.hid hSR
      clear hb02 hb3 hI hS hL hSR ht ht1 hb1 hb2 HP
      go_wp2_with fail
      generalize w2.alloc (.cells #[.int .i64 N, .slice (some ⟨g, 0, none⟩) N cp] 28) = W0 at *
      have HI := Lib.hid hI3; clear hI3
      have HS := Lib.hid hS3; clear hS3
      go_loopw [4, 8, 9, 10] (fun r ai bi inn wr => ∃ a : Int, ai = .int .i64 a ∧ -1 ≤ a ∧ a ≤ (N : Int) + 1 ∧ Below W0.heap.size W0 wr) (fun _ ai _ _ _ => ((N : Int) + 1 - intOf ai).toNat)
      case atStart => exact ⟨-1, rfl, by omega, by omega, Below.refl _ _⟩
      case round =>
        obtain ⟨a, rfl, a1, a2, hbr⟩ := hrel
        have d0 := (hbr.cell (p := ⟨w2.heap.size, 0, none⟩) (by show w2.heap.size < _; omega)).trans c0
        by_cases hat : a ≤ N
        · go_wp2_with fail
          go_loopw [4, 9, 10] (fun r bi inn wr => ∃ b' : Int, bi = .int .i64 b' ∧ -1 ≤ b' ∧ b' ≤ (N : Int) + 1 ∧ Below W0.heap.size W0 wr) (fun _ bi _ _ => ((N : Int) + 1 - intOf bi).toNat)
          case atStart => exact ⟨-1, rfl, by omega, by omega, hbr⟩
          case round =>
            obtain ⟨c, rfl, b1, b2, hbr⟩ := hrel
            have d0 := (hbr.cell (p := ⟨w2.heap.size, 0, none⟩) (by show w2.heap.size < _; omega)).trans c0
            have d1 := (hbr.cell (p := ⟨w2.heap.size, 1, none⟩) (by show w2.heap.size < _; omega)).trans c1
            by_cases hbt : c ≤ N
            · by_cases hin : 0 ≤ a ∧ 0 ≤ c ∧ a < N ∧ c < N
              · obtain ⟨x0, y0, x1, y1⟩ := hin
                obtain ⟨x, rfl⟩ := Int.eq_ofNat_of_zero_le x0
                obtain ⟨y, rfl⟩ := Int.eq_ofNat_of_zero_le y0
                have hx : x < N := by omega
                have hy : y < N := by omega
                have hx' : (x : Int) < N := by omega
                have hy' : (y : Int) < N := by omega
                obtain ⟨row, r1, r2⟩ := HS.out
                have g1 := r1 x hx
                have g2 := r2 x y hx hy
                clear r1 r2
                have q1 := (hbr.cell (p := ⟨g, x, none⟩) (cell_lt g1)).trans g1
                have q2 := (hbr.cell (p := ⟨row x, y, none⟩) (cell_lt g2)).trans g2
                obtain ⟨v, hv⟩ : ∃ v, OrdP.belowI N R x y = v := ⟨_, rfl⟩
                have hv2 : S x y = v := by rw [HSR.out x y hx hy, ← hv, OrdP.belowI_nat hx hy]
                obtain ⟨jv, hjv⟩ : ∃ jv, OrdP.joinI N R x y = jv := ⟨_, rfl⟩
                have hjv2 : OrdP.join N S x y = jv := by rw [← hjv, OrdP.joinI_nat hx hy]; exact OrdP.join_congr HSR.out hx hy
                obtain ⟨mv, hmv⟩ : ∃ mv, OrdP.meetI N R x y = mv := ⟨_, rfl⟩
                have hmv2 : OrdP.meet N S x y = mv := by rw [← hmv, OrdP.meetI_nat hx hy]; exact OrdP.meet_congr HSR.out hx hy
                rw [hv2] at q2 g2
                have HQ := Lib.hid (And.intro hv (And.intro hjv (And.intro hjv2 (And.intro hmv hmv2))))
                clear hv hv2 hjv hjv2 hmv hmv2
                have hbrd := hbr.drew
                cases v
                · go_wp2_with fail
                  go_region_held3 (fun w' => w'.cell? ⟨w2.heap.size, 0, none⟩ = some (.int .i64 N) ∧ w'.cell? ⟨w2.heap.size, 1, none⟩ = some (.slice (some ⟨g, 0, none⟩) N cp) ∧ w'.cell? ⟨g, x, none⟩ = some (.slice (some ⟨row x, 0, none⟩) N N) ∧ w'.cell? ⟨row x, y, none⟩ = some (.bool false)) (first | exact ⟨by assumption, by assumption, by assumption, by assumption⟩)
                    (first
                      | (go_at_call 9; refine (Below_B hN2 HI.out (by assumption) HQ.out.1).mono ?_; rintro e w' ⟨rfl, hbx⟩; have e0 := (hbx.cell (p := ⟨w2.heap.size, 0, none⟩) (by show w2.heap.size < _; omega)).trans c0; have e1 := (hbx.cell (p := ⟨w2.heap.size, 1, none⟩) (by show w2.heap.size < _; omega)).trans c1; have e2 := (hbx.cell (p := ⟨g, x, none⟩) (cell_lt g1)).trans g1; have e3 := (hbx.cell (p := ⟨row x, y, none⟩) (cell_lt g2)).trans g2)
                      | (go_at_call 10; refine (Join_B hN2 HI.out (by assumption) HQ.out.2.1).mono ?_; rintro e w' ⟨rfl, hbx⟩; have e0 := (hbx.cell (p := ⟨w2.heap.size, 0, none⟩) (by show w2.heap.size < _; omega)).trans c0; have e1 := (hbx.cell (p := ⟨w2.heap.size, 1, none⟩) (by show w2.heap.size < _; omega)).trans c1; have e2 := (hbx.cell (p := ⟨g, x, none⟩) (cell_lt g1)).trans g1; have e3 := (hbx.cell (p := ⟨row x, y, none⟩) (cell_lt g2)).trans g2)
                      | (go_at_call 12; refine (refJoin_B hN2 hx hy HS.out (by assumption) HQ.out.2.2.1).mono ?_; rintro e w' ⟨rfl, hbx⟩; have e0 := (hbx.cell (p := ⟨w2.heap.size, 0, none⟩) (by show w2.heap.size < _; omega)).trans c0; have e1 := (hbx.cell (p := ⟨w2.heap.size, 1, none⟩) (by show w2.heap.size < _; omega)).trans c1; have e2 := (hbx.cell (p := ⟨g, x, none⟩) (cell_lt g1)).trans g1; have e3 := (hbx.cell (p := ⟨row x, y, none⟩) (cell_lt g2)).trans g2)
                      | (go_at_call 11; refine (Meet_B hN2 HI.out (by assumption) HQ.out.2.2.2.1).mono ?_; rintro e w' ⟨rfl, hbx⟩; have e0 := (hbx.cell (p := ⟨w2.heap.size, 0, none⟩) (by show w2.heap.size < _; omega)).trans c0; have e1 := (hbx.cell (p := ⟨w2.heap.size, 1, none⟩) (by show w2.heap.size < _; omega)).trans c1; have e2 := (hbx.cell (p := ⟨g, x, none⟩) (cell_lt g1)).trans g1; have e3 := (hbx.cell (p := ⟨row x, y, none⟩) (cell_lt g2)).trans g2)
                      | (go_at_call 13; refine (refMeet_B hN2 hx hy HS.out (by assumption) HQ.out.2.2.2.2).mono ?_; rintro e w' ⟨rfl, hbx⟩; have e0 := (hbx.cell (p := ⟨w2.heap.size, 0, none⟩) (by show w2.heap.size < _; omega)).trans c0; have e1 := (hbx.cell (p := ⟨w2.heap.size, 1, none⟩) (by show w2.heap.size < _; omega)).trans c1; have e2 := (hbx.cell (p := ⟨g, x, none⟩) (cell_lt g1)).trans g1; have e3 := (hbx.cell (p := ⟨row x, y, none⟩) (cell_lt g2)).trans g2))
                  go_wp2_with fail
                  go_roundw
                  case rel => exact ⟨(y : Int) + 1, rfl, by omega, by omega, by assumption⟩
                  case measure => simp [intOf]; omega
                · go_wp2_with fail
                  go_region_held3 (fun w' => w'.cell? ⟨w2.heap.size, 0, none⟩ = some (.int .i64 N) ∧ w'.cell? ⟨w2.heap.size, 1, none⟩ = some (.slice (some ⟨g, 0, none⟩) N cp) ∧ w'.cell? ⟨g, x, none⟩ = some (.slice (some ⟨row x, 0, none⟩) N N) ∧ w'.cell? ⟨row x, y, none⟩ = some (.bool true)) (first | exact ⟨by assumption, by assumption, by assumption, by assumption⟩)
                    (first
                      | (go_at_call 9; refine (Below_B hN2 HI.out (by assumption) HQ.out.1).mono ?_; rintro e w' ⟨rfl, hbx⟩; have e0 := (hbx.cell (p := ⟨w2.heap.size, 0, none⟩) (by show w2.heap.size < _; omega)).trans c0; have e1 := (hbx.cell (p := ⟨w2.heap.size, 1, none⟩) (by show w2.heap.size < _; omega)).trans c1; have e2 := (hbx.cell (p := ⟨g, x, none⟩) (cell_lt g1)).trans g1; have e3 := (hbx.cell (p := ⟨row x, y, none⟩) (cell_lt g2)).trans g2)
                      | (go_at_call 10; refine (Join_B hN2 HI.out (by assumption) HQ.out.2.1).mono ?_; rintro e w' ⟨rfl, hbx⟩; have e0 := (hbx.cell (p := ⟨w2.heap.size, 0, none⟩) (by show w2.heap.size < _; omega)).trans c0; have e1 := (hbx.cell (p := ⟨w2.heap.size, 1, none⟩) (by show w2.heap.size < _; omega)).trans c1; have e2 := (hbx.cell (p := ⟨g, x, none⟩) (cell_lt g1)).trans g1; have e3 := (hbx.cell (p := ⟨row x, y, none⟩) (cell_lt g2)).trans g2)
                      | (go_at_call 12; refine (refJoin_B hN2 hx hy HS.out (by assumption) HQ.out.2.2.1).mono ?_; rintro e w' ⟨rfl, hbx⟩; have e0 := (hbx.cell (p := ⟨w2.heap.size, 0, none⟩) (by show w2.heap.size < _; omega)).trans c0; have e1 := (hbx.cell (p := ⟨w2.heap.size, 1, none⟩) (by show w2.heap.size < _; omega)).trans c1; have e2 := (hbx.cell (p := ⟨g, x, none⟩) (cell_lt g1)).trans g1; have e3 := (hbx.cell (p := ⟨row x, y, none⟩) (cell_lt g2)).trans g2)
                      | (go_at_call 11; refine (Meet_B hN2 HI.out (by assumption) HQ.out.2.2.2.1).mono ?_; rintro e w' ⟨rfl, hbx⟩; have e0 := (hbx.cell (p := ⟨w2.heap.size, 0, none⟩) (by show w2.heap.size < _; omega)).trans c0; have e1 := (hbx.cell (p := ⟨w2.heap.size, 1, none⟩) (by show w2.heap.size < _; omega)).trans c1; have e2 := (hbx.cell (p := ⟨g, x, none⟩) (cell_lt g1)).trans g1; have e3 := (hbx.cell (p := ⟨row x, y, none⟩) (cell_lt g2)).trans g2)
                      | (go_at_call 13; refine (refMeet_B hN2 hx hy HS.out (by assumption) HQ.out.2.2.2.2).mono ?_; rintro e w' ⟨rfl, hbx⟩; have e0 := (hbx.cell (p := ⟨w2.heap.size, 0, none⟩) (by show w2.heap.size < _; omega)).trans c0; have e1 := (hbx.cell (p := ⟨w2.heap.size, 1, none⟩) (by show w2.heap.size < _; omega)).trans c1; have e2 := (hbx.cell (p := ⟨g, x, none⟩) (cell_lt g1)).trans g1; have e3 := (hbx.cell (p := ⟨row x, y, none⟩) (cell_lt g2)).trans g2))
                  go_wp2_with fail
                  go_roundw
                  case rel => exact ⟨(y : Int) + 1, rfl, by omega, by omega, by assumption⟩
                  case measure => simp [intOf]; omega
              · have hout : inB N a = false ∨ inB N c = false := by
                  unfold OrdP.inB
                  by_cases a1 : 0 ≤ a ∧ a < N
                  · right; simp; omega
                  · left; simp; omega
                have hv : OrdP.belowI N R a c = false := by unfold OrdP.belowI; rcases hout with h | h <;> rw [h] <;> simp
                have hjv : OrdP.joinI N R a c = -1 := by unfold OrdP.joinI; rcases hout with h | h <;> rw [h] <;> simp
                have hmv : OrdP.meetI N R a c = -1 := by unfold OrdP.meetI; rcases hout with h | h <;> rw [h] <;> simp
                have HQ := Lib.hid (And.intro hv (And.intro hjv hmv))
                clear hv hjv hmv hout
                have hcase : a < 0 ∨ (0 ≤ a ∧ c < 0) ∨ (0 ≤ a ∧ 0 ≤ c ∧ (N : Int) ≤ a) ∨ (0 ≤ a ∧ 0 ≤ c ∧ a < N ∧ (N : Int) ≤ c) := by omega
                clear hin
                rcases hcase with k1 | ⟨k1, k2⟩ | ⟨k1, k2, k3⟩ | ⟨k1, k2, k3, k4⟩
                all_goals
                  try (have k5 : decide (c < (N : Int)) = false := decide_eq_false (by omega))
                  go_wp2_with fail
                  refine (Below_B hN2 HI.out hbr HQ.out.1).mono ?_
                  rintro e w3 ⟨rfl, hb3⟩
                  go_wp2_with fail
                  refine (Join_B hN2 HI.out hb3 HQ.out.2.1).mono ?_
                  rintro e w4 ⟨rfl, hb4⟩
                  go_wp2_with fail
                  refine (Meet_B hN2 HI.out hb4 HQ.out.2.2).mono ?_
                  rintro e w5 ⟨rfl, hb5⟩
                  go_wp2_with fail
                  go_quiet (fail)
                  go_wp2_with fail
                  go_roundw
                  case rel => exact ⟨c + 1, rfl, by omega, by omega, below_drewN hb5 _⟩
                  case measure => simp [intOf]; omega
            · obtain rfl : c = (N : Int) + 1 := by omega
              go_wp2_with fail
              go_roundw
              case rel => exact ⟨a + 1, rfl, by omega, by omega, hbr⟩
              case measure => simp [intOf]; omega
        · obtain rfl : a = (N : Int) + 1 := by omega
          obtain ⟨bt, hbt⟩ : ∃ bt, OrdP.bottom N R = bt := ⟨_, rfl⟩
          obtain ⟨tp, htp⟩ : ∃ tp, OrdP.top N R = tp := ⟨_, rfl⟩
          have hbt2 : OrdP.bottom N S = bt := by rw [← hbt]; exact OrdP.bottom_congr HSR.out
          have htp2 : OrdP.top N S = tp := by rw [← htp]; exact OrdP.top_congr HSR.out
          have HQ := Lib.hid (And.intro hbt (And.intro hbt2 (And.intro htp htp2)))
          clear hbt hbt2 htp htp2
          have d1 := (hbr.cell (p := ⟨w2.heap.size, 1, none⟩) (by show w2.heap.size < _; omega)).trans c1
          go_wp2_with fail
          have hbrd := hbr.drew
          go_region_held3 (fun w' => w'.cell? ⟨w2.heap.size, 0, none⟩ = some (.int .i64 N) ∧ w'.cell? ⟨w2.heap.size, 1, none⟩ = some (.slice (some ⟨g, 0, none⟩) N cp)) (first | exact ⟨by assumption, by assumption⟩)
            (first
              | (go_at_call 8; refine (Len_B HI.out (by assumption)).mono ?_; rintro e w' ⟨rfl, hbx⟩; have e0 := (hbx.cell (p := ⟨w2.heap.size, 0, none⟩) (by show w2.heap.size < _; omega)).trans c0; have e1 := (hbx.cell (p := ⟨w2.heap.size, 1, none⟩) (by show w2.heap.size < _; omega)).trans c1)
              | (go_at_call_of 14 (Value.pointer (some ⟨b, 0, none⟩)); refine (Bottom_B hN2 hN1 HI.out (by assumption) HQ.out.1).mono ?_; rintro e w' ⟨rfl, hbx⟩; have e0 := (hbx.cell (p := ⟨w2.heap.size, 0, none⟩) (by show w2.heap.size < _; omega)).trans c0; have e1 := (hbx.cell (p := ⟨w2.heap.size, 1, none⟩) (by show w2.heap.size < _; omega)).trans c1)
              | (go_at_call 15; refine (refBottom_B hN1 hN2 HS.out (by assumption) HQ.out.2.1).mono ?_; rintro e w' ⟨rfl, hbx⟩; have e0 := (hbx.cell (p := ⟨w2.heap.size, 0, none⟩) (by show w2.heap.size < _; omega)).trans c0; have e1 := (hbx.cell (p := ⟨w2.heap.size, 1, none⟩) (by show w2.heap.size < _; omega)).trans c1)
              | (go_at_call_of 16 (Value.pointer (some ⟨b, 0, none⟩)); refine (Top_B hN2 hN1 HI.out (by assumption) HQ.out.2.2.1).mono ?_; rintro e w' ⟨rfl, hbx⟩; have e0 := (hbx.cell (p := ⟨w2.heap.size, 0, none⟩) (by show w2.heap.size < _; omega)).trans c0; have e1 := (hbx.cell (p := ⟨w2.heap.size, 1, none⟩) (by show w2.heap.size < _; omega)).trans c1)
              | (go_at_call 17; refine (refTop_B hN1 hN2 HS.out (by assumption) HQ.out.2.2.2).mono ?_; rintro e w' ⟨rfl, hbx⟩; have e0 := (hbx.cell (p := ⟨w2.heap.size, 0, none⟩) (by show w2.heap.size < _; omega)).trans c0; have e1 := (hbx.cell (p := ⟨w2.heap.size, 1, none⟩) (by show w2.heap.size < _; omega)).trans c1)
              | (go_at_call_of 14 (Value.pointer none); refine (nil_B (by assumption) (Bottom_nil _)).mono ?_; rintro e w' ⟨rfl, hbx⟩; have e0 := (hbx.cell (p := ⟨w2.heap.size, 0, none⟩) (by show w2.heap.size < _; omega)).trans c0; have e1 := (hbx.cell (p := ⟨w2.heap.size, 1, none⟩) (by show w2.heap.size < _; omega)).trans c1)
              | (go_at_call_of 16 (Value.pointer none); refine (nil_B (by assumption) (Top_nil _)).mono ?_; rintro e w' ⟨rfl, hbx⟩; have e0 := (hbx.cell (p := ⟨w2.heap.size, 0, none⟩) (by show w2.heap.size < _; omega)).trans c0; have e1 := (hbx.cell (p := ⟨w2.heap.size, 1, none⟩) (by show w2.heap.size < _; omega)).trans c1)
              | (go_at_call 10; refine (nil_B (by assumption) (Join_nil _ _ _)).mono ?_; rintro e w' ⟨rfl, hbx⟩; have e0 := (hbx.cell (p := ⟨w2.heap.size, 0, none⟩) (by show w2.heap.size < _; omega)).trans c0; have e1 := (hbx.cell (p := ⟨w2.heap.size, 1, none⟩) (by show w2.heap.size < _; omega)).trans c1)
              | (go_at_call 11; refine (nil_B (by assumption) (Meet_nil _ _ _)).mono ?_; rintro e w' ⟨rfl, hbx⟩; have e0 := (hbx.cell (p := ⟨w2.heap.size, 0, none⟩) (by show w2.heap.size < _; omega)).trans c0; have e1 := (hbx.cell (p := ⟨w2.heap.size, 1, none⟩) (by show w2.heap.size < _; omega)).trans c1)
              | (go_at_call 9; refine (nil_B (by assumption) (Below_nil _ _ _)).mono ?_; rintro e w' ⟨rfl, hbx⟩; have e0 := (hbx.cell (p := ⟨w2.heap.size, 0, none⟩) (by show w2.heap.size < _; omega)).trans c0; have e1 := (hbx.cell (p := ⟨w2.heap.size, 1, none⟩) (by show w2.heap.size < _; omega)).trans c1))
          go_wp2_with fail
          go_ret
          exact ⟨rfl, HB.out.trans (Below.mono (B := W0.heap.size) (by assumption) (by omega))⟩

end Go.Proofs.YtkcbcdfcpchgcaaDoor
