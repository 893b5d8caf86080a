/- Expressions' texts with commas between. -/
import Derived.Test.YtmeacgmjpjjphaaGreatDoorMShD
import Derived.Test.YtmeacgmjpjjphaaGreatDoorMShP
import Derived.Lib.Join
import Derived.Test.YtmeacgmjpjjphaaGreatDoorMLex
set_option linter.unusedVariables false
set_option linter.unusedSimpArgs false
namespace Go.Proofs.YtmeacgmjpjjphaaGreatDoor
open Go.RowKit Go.Shelf
open Tr (Nd TreeAt Own Ints Fine ndV)
open Tr.TreP (WF fits places nd inT)

/-- What at does with a part. -/
structure KidC (B t : Nat) (v : Value) (ms : List (Nd × Value)) (q : Int) (τ : Tm) : Prop where
  size : (textT τ).size ≤ 1099511627776
  call : ∀ W, TreeAt W B t v ms → TabOk W → ∀ least : Int, 0 ≤ least → least ≤ 8 → Calls Tryz.prog 33 #[.agg #[.pointer (some ⟨t, 0, none⟩)], .int .i64 q, .int .i64 least] W fun e W' => e = .returned (.string (atB τ (textT τ) least)) ∧ Below W.heap.size W W'
def OpenC (B t : Nat) (v : Value) (ms : List (Nd × Value)) (q : Int) (τ : Tm) : Prop := ∀ W, TreeAt W B t v ms → Calls Tryz.prog 108 #[.agg #[.pointer (some ⟨t, 0, none⟩)], .int .i64 q] W fun e W' => e = .returned (.bool (openT τ)) ∧ Below W.heap.size W W'
theorem lp_size : (⟨#[40]⟩ : ByteArray).size = 1 := rfl
theorem rp_size : (⟨#[41]⟩ : ByteArray).size = 1 := rfl
theorem atB_size (τ : Tm) (s : ByteArray) (least : Int) : (atB τ s least).size ≤ s.size + 2 := by
  unfold atB
  split
  · rw [ByteArray.size_append, ByteArray.size_append, lp_size, rp_size]
    omega
  · omega
theorem atB_zero (τ : Tm) (s : ByteArray) : atB τ s 0 = s := by
  unfold atB
  rw [if_neg (by have := (lvl_nn τ.op).1; omega)]
theorem KidC.at_size {B t : Nat} {v : Value} {ms : List (Nd × Value)} {q : Int} {τ : Tm} (h : KidC B t v ms q τ) (least : Int) : (atB τ (textT τ) least).size ≤ 2000000000000 := by
  have := h.size
  have := atB_size τ (textT τ) least
  omega
set_option maxRecDepth 100000 in
set_option maxHeartbeats 4000000 in
theorem first_in {B t : Nat} {v : Value} {ms : List (Nd × Value)} {q : Int} {τ : Tm} (hK : KidC B t v ms q τ) (hO : OpenC B t v ms q τ) (W : World) (hT : TreeAt W B t v ms) (ht : TabOk W) :
    Calls Tryz.prog 83 #[.agg #[.pointer (some ⟨t, 0, none⟩)], .int .i64 q] W fun e W' => e = .returned (.string (if openT τ then ⟨#[40]⟩ ++ textT τ ++ ⟨#[41]⟩ else atB τ (textT τ) 1)) ∧ Below W.heap.size W W' := by
  have hb := (Below.refl W.heap.size W).alloc (Nat.le_refl _) (.cells #[.pointer (some ⟨t, 0, none⟩)] 83)
  have HB := Lib.hid hb
  have HK := Lib.hid (Tr.last W (.cells #[.pointer (some ⟨t, 0, none⟩)] 83))
  have HT := Lib.hid (hT.below hb)
  have HTA := Lib.hid (ht.under hb)
  have HKC := Lib.hid hK
  have HOC := Lib.hid hO
  clear hb hT ht hK hO
  obtain ⟨r, hr⟩ : ∃ r, (if openT τ then ⟨#[40]⟩ ++ textT τ ++ ⟨#[41]⟩ else atB τ (textT τ) 1) = r := ⟨_, rfl⟩
  rw [hr]
  have HR := Lib.hid hr
  clear hr
  go_enter Tryz.func83, Tryz.ntmps83
  go_upto_region 1 with fail
  generalize W.alloc (.cells #[.pointer (some ⟨t, 0, none⟩)] 83) = w1 at *
  have c6 := cell1 HK.out
  go_wp2_with fail
  refine (HOC.out w1 HT.out).mono ?_
  rintro e w2 ⟨rfl, hb2⟩
  have HB2 := Lib.hid (HB.out.trans (hb2.mono HB.out.size))
  have c6' := (hb2.cell (p := ⟨W.heap.size, 0, none⟩) (Tr.cell_lt c6)).trans c6
  have HT2 := Lib.hid (HT.out.below hb2)
  have HTA2 := Lib.hid (HTA.out.under hb2)
  clear hb2 c6
  have hz1 := HKC.out.size
  have z1 : (⟨#[40]⟩ : ByteArray).size = 1 := rfl
  have z2 : (⟨#[41]⟩ : ByteArray).size = 1 := rfl
  cases ho : openT τ with
  | true =>
    rw [ho, if_pos rfl] at HR
    have HC := Lib.hid (HKC.out.call w2 HT2.out HTA2.out 0 (by decide) (by decide))
    rw [atB_zero] at HC
    clear ho
    go_wp2_with fail
    refine HC.out.mono ?_
    rintro e w3 ⟨rfl, hb3⟩
    have HB3 := Lib.hid (HB2.out.trans (hb3.mono HB2.out.size))
    clear hb3
    go_wp2_with fail
    go_ret
    exact ⟨by rw [← HR.out]; rfl, HB3.out⟩
  | false =>
    rw [ho, if_neg (by simp)] at HR
    have HC := Lib.hid (HKC.out.call w2 HT2.out HTA2.out 1 (by decide) (by decide))
    clear ho
    go_wp2_with fail
    refine HC.out.mono ?_
    rintro e w3 ⟨rfl, hb3⟩
    have HB3 := Lib.hid (HB2.out.trans (hb3.mono HB2.out.size))
    clear hb3
    go_wp2_with fail
    go_ret
    exact ⟨by rw [← HR.out]; rfl, HB3.out⟩
set_option maxRecDepth 100000 in
set_option maxHeartbeats 8000000 in
theorem two_in {B t : Nat} {v : Value} {ms : List (Nd × Value)} (op name : ByteArray) (line col num k0 k1 : Int) (t0 t1 : Tm) (b off cap : Nat) (W : World) (hT : TreeAt W B t v ms) (ht : TabOk W) (hc0 : W.cell? ⟨b, off, none⟩ = some (.int .i64 k0)) (hc1 : W.cell? ⟨b, off + 1, none⟩ = some (.int .i64 k1)) (ho : op.size ≤ 2097152) (hl26 : lvlB op = 2 ∨ lvlB op = 3 ∨ lvlB op = 4 ∨ lvlB op = 5 ∨ lvlB op = 6) (hK0 : KidC B t v ms k0 t0) (hK1 : KidC B t v ms k1 t1) :
    Calls Tryz.prog 84 #[.agg #[.pointer (some ⟨t, 0, none⟩)], .agg #[.string op, .int .i64 line, .int .i64 col, .string name, .int .i64 num, .slice (some ⟨b, off, none⟩) 2 cap]] W fun e W' => e = .returned (.string (atB t0 (textT t0) (if lvlB op = 4 then 5 else lvlB op) ++ ⟨#[32]⟩ ++ op ++ ⟨#[32]⟩ ++ atB t1 (textT t1) (lvlB op + 1))) ∧ Below W.heap.size W W' := by
  have hb := ((Below.refl W.heap.size W).alloc (Nat.le_refl _) (.cells #[.pointer (some ⟨t, 0, none⟩)] 83)).alloc (by simp) (.cells #[.string op, .int .i64 line, .int .i64 col, .string name, .int .i64 num, .slice (some ⟨b, off, none⟩) 2 cap] 53)
  have hk1 := (Below.heap_alloc (W.alloc (.cells #[.pointer (some ⟨t, 0, none⟩)] 83)) (.cells #[.string op, .int .i64 line, .int .i64 col, .string name, .int .i64 num, .slice (some ⟨b, off, none⟩) 2 cap] 53) W.heap.size (by simp)).trans (Tr.last W (.cells #[.pointer (some ⟨t, 0, none⟩)] 83))
  have hk2 := Tr.last (W.alloc (.cells #[.pointer (some ⟨t, 0, none⟩)] 83)) (.cells #[.string op, .int .i64 line, .int .i64 col, .string name, .int .i64 num, .slice (some ⟨b, off, none⟩) 2 cap] 53)
  rw [show (W.alloc (.cells #[.pointer (some ⟨t, 0, none⟩)] 83)).heap.size = W.heap.size + 1 by simp] at hk2
  have hd0 := (hb.cell (p := ⟨b, off, none⟩) (Tr.cell_lt hc0)).trans hc0
  have hd1 := (hb.cell (p := ⟨b, off + 1, none⟩) (Tr.cell_lt hc1)).trans hc1
  have HB := Lib.hid hb
  have HX := Lib.hid (And.intro hk1 (And.intro hk2 (And.intro hd0 hd1)))
  have HT := Lib.hid (hT.below hb)
  have HTA := Lib.hid (ht.under hb)
  have hz0 := hK0.at_size (if lvlB op = 4 then 5 else lvlB op)
  have hz1 := hK1.at_size (lvlB op + 1)
  have hlv := lvl_nn op
  have HK0 := Lib.hid (fun W a b => hK0.call W a b (if lvlB op = 4 then 5 else lvlB op) (by split <;> omega) (by split <;> omega))
  have HK1 := Lib.hid (fun W a b => hK1.call W a b (lvlB op + 1) (by omega) (by omega))
  clear hb hk1 hk2 hd0 hd1 hT ht hc0 hc1 hK0 hK1
  generalize atB t0 (textT t0) (if lvlB op = 4 then 5 else lvlB op) = s0 at *
  generalize atB t1 (textT t1) (lvlB op + 1) = s1 at *
  obtain ⟨r, hr⟩ : ∃ r, s0 ++ ⟨#[32]⟩ ++ op ++ ⟨#[32]⟩ ++ s1 = r := ⟨_, rfl⟩
  rw [hr]
  have HR := Lib.hid hr
  clear hr
  have HLV := Lib.hid (slevel_in op)
  generalize lvlB op = lv at *
  rcases hl26 with rfl | rfl | rfl | rfl | rfl
  · have HK0' : Hid (∀ W, TreeAt W B t v ms → TabOk W → Calls Tryz.prog 33 #[.agg #[.pointer (some ⟨t, 0, none⟩)], .int .i64 k0, .int .i64 2] W fun e W' => e = .returned (.string s0) ∧ Below W.heap.size W W') := HK0
    have HK1' : Hid (∀ W, TreeAt W B t v ms → TabOk W → Calls Tryz.prog 33 #[.agg #[.pointer (some ⟨t, 0, none⟩)], .int .i64 k1, .int .i64 3] W fun e W' => e = .returned (.string s1) ∧ Below W.heap.size W W') := HK1
    clear HK0 HK1 hlv
    go_enter Tryz.func84, Tryz.ntmps84
    go_upto_region 1 with fail
    generalize (W.alloc (.cells #[.pointer (some ⟨t, 0, none⟩)] 83)).alloc (.cells #[.string op, .int .i64 line, .int .i64 col, .string name, .int .i64 num, .slice (some ⟨b, off, none⟩) 2 cap] 53) = w1 at *
    obtain ⟨hk1, hk2, hd0, hd1⟩ := HX.out
    have c6 := cell1 hk1
    obtain ⟨c0, c1, c2, c3, c4, c5⟩ := Tr.cellsOf6 hk2
    have HCL := Lib.hid (show ∀ W', Below w1.heap.size w1 W' → W'.cell? ⟨W.heap.size, 0, none⟩ = some (.pointer (some ⟨t, 0, none⟩)) ∧ W'.cell? ⟨W.heap.size + 1, 0, none⟩ = some (.string op) ∧ W'.cell? ⟨W.heap.size + 1, 5, none⟩ = some (.slice (some ⟨b, off, none⟩) 2 cap) ∧ W'.cell? ⟨b, off, none⟩ = some (.int .i64 k0) ∧ W'.cell? ⟨b, off + 1, none⟩ = some (.int .i64 k1) from fun W' hb => ⟨(hb.cell (p := ⟨W.heap.size, 0, none⟩) (Tr.cell_lt c6)).trans c6, (hb.cell (p := ⟨W.heap.size + 1, 0, none⟩) (Tr.cell_lt c0)).trans c0, (hb.cell (p := ⟨W.heap.size + 1, 5, none⟩) (Tr.cell_lt c5)).trans c5, (hb.cell (p := ⟨b, off, none⟩) (Tr.cell_lt hd0)).trans hd0, (hb.cell (p := ⟨b, off + 1, none⟩) (Tr.cell_lt hd1)).trans hd1⟩)
    clear hk1 hk2 hd0 hd1 c1 c2 c3 c4
    go_wp2_with (go_at_call 62; refine (HLV.out _).mono ?_; rintro e w' ⟨rfl, rfl⟩)
    have z1 : ¬ 9223372036854775807 < s0.size + 1 := by omega
    have z2 : ¬ 9223372036854775807 < s0.size + 1 + op.size := by omega
    have z3 : ¬ 9223372036854775807 < s0.size + 1 + op.size + 1 := by omega
    have z4 : ¬ 9223372036854775807 < s0.size + 1 + op.size + 1 + s1.size := by omega
    have y0 : (0 : Int) < ((2 : Nat) : Int) := by decide
    have y1 : (1 : Int) < ((2 : Nat) : Int) := by decide
    have y2 : (0 : Int) < (2 : Int) := by decide
    have y3 : (1 : Int) < (2 : Int) := by decide
    have hbw1 : Below w1.heap.size w1 w1.drew := (Below.refl _ w1).drew
    clear c0 c5 c6
    obtain ⟨c6, c0, c5, d0, d1⟩ := HCL.out _ hbw1
    go_region_held3 (fun W' => W'.cell? ⟨W.heap.size, 0, none⟩ = some (.pointer (some ⟨t, 0, none⟩)) ∧ W'.cell? ⟨W.heap.size + 1, 0, none⟩ = some (.string op) ∧ W'.cell? ⟨W.heap.size + 1, 5, none⟩ = some (.slice (some ⟨b, off, none⟩) 2 cap) ∧ W'.cell? ⟨b, off, none⟩ = some (.int .i64 k0) ∧ W'.cell? ⟨b, off + 1, none⟩ = some (.int .i64 k1)) (first | exact HCL.out _ (by with_reducible assumption))
      (first
        | (go_at_call_of 33 (Value.int IntKind.i64 k0); refine (HK0'.out _ (HT.out.below (by with_reducible assumption)) (HTA.out.under (by with_reducible assumption))).mono ?_; rintro e w2 ⟨rfl, hbn⟩; have hbw2 := chain (by with_reducible assumption) hbn; clear hbn; obtain ⟨c6, c0, c5, d0, d1⟩ := HCL.out _ hbw2)
        | (go_at_call_of 33 (Value.int IntKind.i64 k1); refine (HK1'.out _ (HT.out.below (by with_reducible assumption)) (HTA.out.under (by with_reducible assumption))).mono ?_; rintro e w3 ⟨rfl, hbn⟩; have hbw3 := chain (by with_reducible assumption) hbn; clear hbn; obtain ⟨c6, c0, c5, d0, d1⟩ := HCL.out _ hbw3))
    all_goals
      have hfin := HB.out.trans (hbw3.mono HB.out.size)
      go_wp2_with fail
      go_ret
      exact ⟨by rw [← HR.out]; rfl, hfin⟩
  · have HK0' : Hid (∀ W, TreeAt W B t v ms → TabOk W → Calls Tryz.prog 33 #[.agg #[.pointer (some ⟨t, 0, none⟩)], .int .i64 k0, .int .i64 3] W fun e W' => e = .returned (.string s0) ∧ Below W.heap.size W W') := HK0
    have HK1' : Hid (∀ W, TreeAt W B t v ms → TabOk W → Calls Tryz.prog 33 #[.agg #[.pointer (some ⟨t, 0, none⟩)], .int .i64 k1, .int .i64 4] W fun e W' => e = .returned (.string s1) ∧ Below W.heap.size W W') := HK1
    clear HK0 HK1 hlv
    go_enter Tryz.func84, Tryz.ntmps84
    go_upto_region 1 with fail
    generalize (W.alloc (.cells #[.pointer (some ⟨t, 0, none⟩)] 83)).alloc (.cells #[.string op, .int .i64 line, .int .i64 col, .string name, .int .i64 num, .slice (some ⟨b, off, none⟩) 2 cap] 53) = w1 at *
    obtain ⟨hk1, hk2, hd0, hd1⟩ := HX.out
    have c6 := cell1 hk1
    obtain ⟨c0, c1, c2, c3, c4, c5⟩ := Tr.cellsOf6 hk2
    have HCL := Lib.hid (show ∀ W', Below w1.heap.size w1 W' → W'.cell? ⟨W.heap.size, 0, none⟩ = some (.pointer (some ⟨t, 0, none⟩)) ∧ W'.cell? ⟨W.heap.size + 1, 0, none⟩ = some (.string op) ∧ W'.cell? ⟨W.heap.size + 1, 5, none⟩ = some (.slice (some ⟨b, off, none⟩) 2 cap) ∧ W'.cell? ⟨b, off, none⟩ = some (.int .i64 k0) ∧ W'.cell? ⟨b, off + 1, none⟩ = some (.int .i64 k1) from fun W' hb => ⟨(hb.cell (p := ⟨W.heap.size, 0, none⟩) (Tr.cell_lt c6)).trans c6, (hb.cell (p := ⟨W.heap.size + 1, 0, none⟩) (Tr.cell_lt c0)).trans c0, (hb.cell (p := ⟨W.heap.size + 1, 5, none⟩) (Tr.cell_lt c5)).trans c5, (hb.cell (p := ⟨b, off, none⟩) (Tr.cell_lt hd0)).trans hd0, (hb.cell (p := ⟨b, off + 1, none⟩) (Tr.cell_lt hd1)).trans hd1⟩)
    clear hk1 hk2 hd0 hd1 c1 c2 c3 c4
    go_wp2_with (go_at_call 62; refine (HLV.out _).mono ?_; rintro e w' ⟨rfl, rfl⟩)
    have z1 : ¬ 9223372036854775807 < s0.size + 1 := by omega
    have z2 : ¬ 9223372036854775807 < s0.size + 1 + op.size := by omega
    have z3 : ¬ 9223372036854775807 < s0.size + 1 + op.size + 1 := by omega
    have z4 : ¬ 9223372036854775807 < s0.size + 1 + op.size + 1 + s1.size := by omega
    have y0 : (0 : Int) < ((2 : Nat) : Int) := by decide
    have y1 : (1 : Int) < ((2 : Nat) : Int) := by decide
    have y2 : (0 : Int) < (2 : Int) := by decide
    have y3 : (1 : Int) < (2 : Int) := by decide
    have hbw1 : Below w1.heap.size w1 w1.drew := (Below.refl _ w1).drew
    clear c0 c5 c6
    obtain ⟨c6, c0, c5, d0, d1⟩ := HCL.out _ hbw1
    go_region_held3 (fun W' => W'.cell? ⟨W.heap.size, 0, none⟩ = some (.pointer (some ⟨t, 0, none⟩)) ∧ W'.cell? ⟨W.heap.size + 1, 0, none⟩ = some (.string op) ∧ W'.cell? ⟨W.heap.size + 1, 5, none⟩ = some (.slice (some ⟨b, off, none⟩) 2 cap) ∧ W'.cell? ⟨b, off, none⟩ = some (.int .i64 k0) ∧ W'.cell? ⟨b, off + 1, none⟩ = some (.int .i64 k1)) (first | exact HCL.out _ (by with_reducible assumption))
      (first
        | (go_at_call_of 33 (Value.int IntKind.i64 k0); refine (HK0'.out _ (HT.out.below (by with_reducible assumption)) (HTA.out.under (by with_reducible assumption))).mono ?_; rintro e w2 ⟨rfl, hbn⟩; have hbw2 := chain (by with_reducible assumption) hbn; clear hbn; obtain ⟨c6, c0, c5, d0, d1⟩ := HCL.out _ hbw2)
        | (go_at_call_of 33 (Value.int IntKind.i64 k1); refine (HK1'.out _ (HT.out.below (by with_reducible assumption)) (HTA.out.under (by with_reducible assumption))).mono ?_; rintro e w3 ⟨rfl, hbn⟩; have hbw3 := chain (by with_reducible assumption) hbn; clear hbn; obtain ⟨c6, c0, c5, d0, d1⟩ := HCL.out _ hbw3))
    all_goals
      have hfin := HB.out.trans (hbw3.mono HB.out.size)
      go_wp2_with fail
      go_ret
      exact ⟨by rw [← HR.out]; rfl, hfin⟩
  · have HK0' : Hid (∀ W, TreeAt W B t v ms → TabOk W → Calls Tryz.prog 33 #[.agg #[.pointer (some ⟨t, 0, none⟩)], .int .i64 k0, .int .i64 5] W fun e W' => e = .returned (.string s0) ∧ Below W.heap.size W W') := HK0
    have HK1' : Hid (∀ W, TreeAt W B t v ms → TabOk W → Calls Tryz.prog 33 #[.agg #[.pointer (some ⟨t, 0, none⟩)], .int .i64 k1, .int .i64 5] W fun e W' => e = .returned (.string s1) ∧ Below W.heap.size W W') := HK1
    clear HK0 HK1 hlv
    go_enter Tryz.func84, Tryz.ntmps84
    go_upto_region 1 with fail
    generalize (W.alloc (.cells #[.pointer (some ⟨t, 0, none⟩)] 83)).alloc (.cells #[.string op, .int .i64 line, .int .i64 col, .string name, .int .i64 num, .slice (some ⟨b, off, none⟩) 2 cap] 53) = w1 at *
    obtain ⟨hk1, hk2, hd0, hd1⟩ := HX.out
    have c6 := cell1 hk1
    obtain ⟨c0, c1, c2, c3, c4, c5⟩ := Tr.cellsOf6 hk2
    have HCL := Lib.hid (show ∀ W', Below w1.heap.size w1 W' → W'.cell? ⟨W.heap.size, 0, none⟩ = some (.pointer (some ⟨t, 0, none⟩)) ∧ W'.cell? ⟨W.heap.size + 1, 0, none⟩ = some (.string op) ∧ W'.cell? ⟨W.heap.size + 1, 5, none⟩ = some (.slice (some ⟨b, off, none⟩) 2 cap) ∧ W'.cell? ⟨b, off, none⟩ = some (.int .i64 k0) ∧ W'.cell? ⟨b, off + 1, none⟩ = some (.int .i64 k1) from fun W' hb => ⟨(hb.cell (p := ⟨W.heap.size, 0, none⟩) (Tr.cell_lt c6)).trans c6, (hb.cell (p := ⟨W.heap.size + 1, 0, none⟩) (Tr.cell_lt c0)).trans c0, (hb.cell (p := ⟨W.heap.size + 1, 5, none⟩) (Tr.cell_lt c5)).trans c5, (hb.cell (p := ⟨b, off, none⟩) (Tr.cell_lt hd0)).trans hd0, (hb.cell (p := ⟨b, off + 1, none⟩) (Tr.cell_lt hd1)).trans hd1⟩)
    clear hk1 hk2 hd0 hd1 c1 c2 c3 c4
    go_wp2_with (go_at_call 62; refine (HLV.out _).mono ?_; rintro e w' ⟨rfl, rfl⟩)
    have z1 : ¬ 9223372036854775807 < s0.size + 1 := by omega
    have z2 : ¬ 9223372036854775807 < s0.size + 1 + op.size := by omega
    have z3 : ¬ 9223372036854775807 < s0.size + 1 + op.size + 1 := by omega
    have z4 : ¬ 9223372036854775807 < s0.size + 1 + op.size + 1 + s1.size := by omega
    have y0 : (0 : Int) < ((2 : Nat) : Int) := by decide
    have y1 : (1 : Int) < ((2 : Nat) : Int) := by decide
    have y2 : (0 : Int) < (2 : Int) := by decide
    have y3 : (1 : Int) < (2 : Int) := by decide
    have hbw1 : Below w1.heap.size w1 w1.drew := (Below.refl _ w1).drew
    clear c0 c5 c6
    obtain ⟨c6, c0, c5, d0, d1⟩ := HCL.out _ hbw1
    go_region_held3 (fun W' => W'.cell? ⟨W.heap.size, 0, none⟩ = some (.pointer (some ⟨t, 0, none⟩)) ∧ W'.cell? ⟨W.heap.size + 1, 0, none⟩ = some (.string op) ∧ W'.cell? ⟨W.heap.size + 1, 5, none⟩ = some (.slice (some ⟨b, off, none⟩) 2 cap) ∧ W'.cell? ⟨b, off, none⟩ = some (.int .i64 k0) ∧ W'.cell? ⟨b, off + 1, none⟩ = some (.int .i64 k1)) (first | exact HCL.out _ (by with_reducible assumption))
      (first
        | (go_at_call_of 33 (Value.int IntKind.i64 k0); refine (HK0'.out _ (HT.out.below (by with_reducible assumption)) (HTA.out.under (by with_reducible assumption))).mono ?_; rintro e w2 ⟨rfl, hbn⟩; have hbw2 := chain (by with_reducible assumption) hbn; clear hbn; obtain ⟨c6, c0, c5, d0, d1⟩ := HCL.out _ hbw2)
        | (go_at_call_of 33 (Value.int IntKind.i64 k1); refine (HK1'.out _ (HT.out.below (by with_reducible assumption)) (HTA.out.under (by with_reducible assumption))).mono ?_; rintro e w3 ⟨rfl, hbn⟩; have hbw3 := chain (by with_reducible assumption) hbn; clear hbn; obtain ⟨c6, c0, c5, d0, d1⟩ := HCL.out _ hbw3))
    all_goals
      have hfin := HB.out.trans (hbw3.mono HB.out.size)
      go_wp2_with fail
      go_ret
      exact ⟨by rw [← HR.out]; rfl, hfin⟩
  · have HK0' : Hid (∀ W, TreeAt W B t v ms → TabOk W → Calls Tryz.prog 33 #[.agg #[.pointer (some ⟨t, 0, none⟩)], .int .i64 k0, .int .i64 5] W fun e W' => e = .returned (.string s0) ∧ Below W.heap.size W W') := HK0
    have HK1' : Hid (∀ W, TreeAt W B t v ms → TabOk W → Calls Tryz.prog 33 #[.agg #[.pointer (some ⟨t, 0, none⟩)], .int .i64 k1, .int .i64 6] W fun e W' => e = .returned (.string s1) ∧ Below W.heap.size W W') := HK1
    clear HK0 HK1 hlv
    go_enter Tryz.func84, Tryz.ntmps84
    go_upto_region 1 with fail
    generalize (W.alloc (.cells #[.pointer (some ⟨t, 0, none⟩)] 83)).alloc (.cells #[.string op, .int .i64 line, .int .i64 col, .string name, .int .i64 num, .slice (some ⟨b, off, none⟩) 2 cap] 53) = w1 at *
    obtain ⟨hk1, hk2, hd0, hd1⟩ := HX.out
    have c6 := cell1 hk1
    obtain ⟨c0, c1, c2, c3, c4, c5⟩ := Tr.cellsOf6 hk2
    have HCL := Lib.hid (show ∀ W', Below w1.heap.size w1 W' → W'.cell? ⟨W.heap.size, 0, none⟩ = some (.pointer (some ⟨t, 0, none⟩)) ∧ W'.cell? ⟨W.heap.size + 1, 0, none⟩ = some (.string op) ∧ W'.cell? ⟨W.heap.size + 1, 5, none⟩ = some (.slice (some ⟨b, off, none⟩) 2 cap) ∧ W'.cell? ⟨b, off, none⟩ = some (.int .i64 k0) ∧ W'.cell? ⟨b, off + 1, none⟩ = some (.int .i64 k1) from fun W' hb => ⟨(hb.cell (p := ⟨W.heap.size, 0, none⟩) (Tr.cell_lt c6)).trans c6, (hb.cell (p := ⟨W.heap.size + 1, 0, none⟩) (Tr.cell_lt c0)).trans c0, (hb.cell (p := ⟨W.heap.size + 1, 5, none⟩) (Tr.cell_lt c5)).trans c5, (hb.cell (p := ⟨b, off, none⟩) (Tr.cell_lt hd0)).trans hd0, (hb.cell (p := ⟨b, off + 1, none⟩) (Tr.cell_lt hd1)).trans hd1⟩)
    clear hk1 hk2 hd0 hd1 c1 c2 c3 c4
    go_wp2_with (go_at_call 62; refine (HLV.out _).mono ?_; rintro e w' ⟨rfl, rfl⟩)
    have z1 : ¬ 9223372036854775807 < s0.size + 1 := by omega
    have z2 : ¬ 9223372036854775807 < s0.size + 1 + op.size := by omega
    have z3 : ¬ 9223372036854775807 < s0.size + 1 + op.size + 1 := by omega
    have z4 : ¬ 9223372036854775807 < s0.size + 1 + op.size + 1 + s1.size := by omega
    have y0 : (0 : Int) < ((2 : Nat) : Int) := by decide
    have y1 : (1 : Int) < ((2 : Nat) : Int) := by decide
    have y2 : (0 : Int) < (2 : Int) := by decide
    have y3 : (1 : Int) < (2 : Int) := by decide
    have hbw1 : Below w1.heap.size w1 w1.drew := (Below.refl _ w1).drew
    clear c0 c5 c6
    obtain ⟨c6, c0, c5, d0, d1⟩ := HCL.out _ hbw1
    go_region_held3 (fun W' => W'.cell? ⟨W.heap.size, 0, none⟩ = some (.pointer (some ⟨t, 0, none⟩)) ∧ W'.cell? ⟨W.heap.size + 1, 0, none⟩ = some (.string op) ∧ W'.cell? ⟨W.heap.size + 1, 5, none⟩ = some (.slice (some ⟨b, off, none⟩) 2 cap) ∧ W'.cell? ⟨b, off, none⟩ = some (.int .i64 k0) ∧ W'.cell? ⟨b, off + 1, none⟩ = some (.int .i64 k1)) (first | exact HCL.out _ (by with_reducible assumption))
      (first
        | (go_at_call_of 33 (Value.int IntKind.i64 k0); refine (HK0'.out _ (HT.out.below (by with_reducible assumption)) (HTA.out.under (by with_reducible assumption))).mono ?_; rintro e w2 ⟨rfl, hbn⟩; have hbw2 := chain (by with_reducible assumption) hbn; clear hbn; obtain ⟨c6, c0, c5, d0, d1⟩ := HCL.out _ hbw2)
        | (go_at_call_of 33 (Value.int IntKind.i64 k1); refine (HK1'.out _ (HT.out.below (by with_reducible assumption)) (HTA.out.under (by with_reducible assumption))).mono ?_; rintro e w3 ⟨rfl, hbn⟩; have hbw3 := chain (by with_reducible assumption) hbn; clear hbn; obtain ⟨c6, c0, c5, d0, d1⟩ := HCL.out _ hbw3))
    all_goals
      have hfin := HB.out.trans (hbw3.mono HB.out.size)
      go_wp2_with fail
      go_ret
      exact ⟨by rw [← HR.out]; rfl, hfin⟩
  · have HK0' : Hid (∀ W, TreeAt W B t v ms → TabOk W → Calls Tryz.prog 33 #[.agg #[.pointer (some ⟨t, 0, none⟩)], .int .i64 k0, .int .i64 6] W fun e W' => e = .returned (.string s0) ∧ Below W.heap.size W W') := HK0
    have HK1' : Hid (∀ W, TreeAt W B t v ms → TabOk W → Calls Tryz.prog 33 #[.agg #[.pointer (some ⟨t, 0, none⟩)], .int .i64 k1, .int .i64 7] W fun e W' => e = .returned (.string s1) ∧ Below W.heap.size W W') := HK1
    clear HK0 HK1 hlv
    go_enter Tryz.func84, Tryz.ntmps84
    go_upto_region 1 with fail
    generalize (W.alloc (.cells #[.pointer (some ⟨t, 0, none⟩)] 83)).alloc (.cells #[.string op, .int .i64 line, .int .i64 col, .string name, .int .i64 num, .slice (some ⟨b, off, none⟩) 2 cap] 53) = w1 at *
    obtain ⟨hk1, hk2, hd0, hd1⟩ := HX.out
    have c6 := cell1 hk1
    obtain ⟨c0, c1, c2, c3, c4, c5⟩ := Tr.cellsOf6 hk2
    have HCL := Lib.hid (show ∀ W', Below w1.heap.size w1 W' → W'.cell? ⟨W.heap.size, 0, none⟩ = some (.pointer (some ⟨t, 0, none⟩)) ∧ W'.cell? ⟨W.heap.size + 1, 0, none⟩ = some (.string op) ∧ W'.cell? ⟨W.heap.size + 1, 5, none⟩ = some (.slice (some ⟨b, off, none⟩) 2 cap) ∧ W'.cell? ⟨b, off, none⟩ = some (.int .i64 k0) ∧ W'.cell? ⟨b, off + 1, none⟩ = some (.int .i64 k1) from fun W' hb => ⟨(hb.cell (p := ⟨W.heap.size, 0, none⟩) (Tr.cell_lt c6)).trans c6, (hb.cell (p := ⟨W.heap.size + 1, 0, none⟩) (Tr.cell_lt c0)).trans c0, (hb.cell (p := ⟨W.heap.size + 1, 5, none⟩) (Tr.cell_lt c5)).trans c5, (hb.cell (p := ⟨b, off, none⟩) (Tr.cell_lt hd0)).trans hd0, (hb.cell (p := ⟨b, off + 1, none⟩) (Tr.cell_lt hd1)).trans hd1⟩)
    clear hk1 hk2 hd0 hd1 c1 c2 c3 c4
    go_wp2_with (go_at_call 62; refine (HLV.out _).mono ?_; rintro e w' ⟨rfl, rfl⟩)
    have z1 : ¬ 9223372036854775807 < s0.size + 1 := by omega
    have z2 : ¬ 9223372036854775807 < s0.size + 1 + op.size := by omega
    have z3 : ¬ 9223372036854775807 < s0.size + 1 + op.size + 1 := by omega
    have z4 : ¬ 9223372036854775807 < s0.size + 1 + op.size + 1 + s1.size := by omega
    have y0 : (0 : Int) < ((2 : Nat) : Int) := by decide
    have y1 : (1 : Int) < ((2 : Nat) : Int) := by decide
    have y2 : (0 : Int) < (2 : Int) := by decide
    have y3 : (1 : Int) < (2 : Int) := by decide
    have hbw1 : Below w1.heap.size w1 w1.drew := (Below.refl _ w1).drew
    clear c0 c5 c6
    obtain ⟨c6, c0, c5, d0, d1⟩ := HCL.out _ hbw1
    go_region_held3 (fun W' => W'.cell? ⟨W.heap.size, 0, none⟩ = some (.pointer (some ⟨t, 0, none⟩)) ∧ W'.cell? ⟨W.heap.size + 1, 0, none⟩ = some (.string op) ∧ W'.cell? ⟨W.heap.size + 1, 5, none⟩ = some (.slice (some ⟨b, off, none⟩) 2 cap) ∧ W'.cell? ⟨b, off, none⟩ = some (.int .i64 k0) ∧ W'.cell? ⟨b, off + 1, none⟩ = some (.int .i64 k1)) (first | exact HCL.out _ (by with_reducible assumption))
      (first
        | (go_at_call_of 33 (Value.int IntKind.i64 k0); refine (HK0'.out _ (HT.out.below (by with_reducible assumption)) (HTA.out.under (by with_reducible assumption))).mono ?_; rintro e w2 ⟨rfl, hbn⟩; have hbw2 := chain (by with_reducible assumption) hbn; clear hbn; obtain ⟨c6, c0, c5, d0, d1⟩ := HCL.out _ hbw2)
        | (go_at_call_of 33 (Value.int IntKind.i64 k1); refine (HK1'.out _ (HT.out.below (by with_reducible assumption)) (HTA.out.under (by with_reducible assumption))).mono ?_; rintro e w3 ⟨rfl, hbn⟩; have hbw3 := chain (by with_reducible assumption) hbn; clear hbn; obtain ⟨c6, c0, c5, d0, d1⟩ := HCL.out _ hbw3))
    all_goals
      have hfin := HB.out.trans (hbw3.mono HB.out.size)
      go_wp2_with fail
      go_ret
      exact ⟨by rw [← HR.out]; rfl, hfin⟩
end Go.Proofs.YtmeacgmjpjjphaaGreatDoor
namespace Go.Proofs.YtmeacgmjpjjphaaGreatDoor
open Go.RowKit Go.Shelf
open Tr (Nd TreeAt Own Ints Fine ndV)
open Tr.TreP (WF fits places nd inT)

/-- What text does with a node. -/
def TextK (B t : Nat) (v : Value) (ms : List (Nd × Value)) (x : Nd) (τ : Tm) : Prop := ∀ W A cap b0, TreeAt W B t v ms → TabOk W → Tr.Own W b0 (.slice A x.kids.length cap) x.kids →
  Calls Tryz.prog 61 #[.agg #[.pointer (some ⟨t, 0, none⟩)], .agg #[.string x.op, .int .i64 x.line, .int .i64 x.col, .string x.name, .int .i64 x.num, .slice A x.kids.length cap]] W fun e W' => e = .returned (.string (textT τ)) ∧ Below W.heap.size W W'
set_option maxRecDepth 100000 in
set_option maxHeartbeats 8000000 in
theorem at_in {B t : Nat} {v : Value} {ms : List (Nd × Value)} (hF : Fine ms) {k : Nat} (hk : k < ms.length) {τ : Tm} (hop : τ.op = ms[k].1.op) (hz : (textT τ).size ≤ 1099511627776) (hX : TextK B t v ms ms[k].1 τ) : KidC B t v ms k τ := by
  refine ⟨hz, ?_⟩
  intro W hT ht least hl0 hl8
  have hb := (Below.refl W.heap.size W).alloc (Nat.le_refl _) (.cells #[.pointer (some ⟨t, 0, none⟩)] 83)
  have HK := Lib.hid (Tr.last W (.cells #[.pointer (some ⟨t, 0, none⟩)] 83))
  have HT1 := Lib.hid (hT.below hb)
  have HTA := Lib.hid (ht.under hb)
  have HB1 := Lib.hid hb
  have HG := Lib.hid (Tr.Get_hit HT1.out hk (by have := hF.kid _ (List.getElem_mem hk); omega) (by have := hF.len; omega))
  have HX := Lib.hid hX
  have hkl := hF.kid _ (List.getElem_mem hk)
  obtain ⟨r, hr⟩ : ∃ r, atB τ (textT τ) least = r := ⟨_, rfl⟩
  rw [hr]
  have HR := Lib.hid hr
  clear hb hT ht hX hF hr
  unfold atB at HR
  rw [hop] at HR
  clear hop
  generalize ms[k].1 = x at *
  obtain ⟨op, line, col, name, num, kids⟩ := x
  unfold ndV at HG
  unfold TextK at HX
  simp only at HG HX hkl HR
  generalize textT τ = s at *
  go_enter Tryz.func33, Tryz.ntmps33
  go_wp2_with fail
  refine HG.out.mono ?_
  rintro e w2 ⟨sl, rfl, hs, hb2⟩
  obtain ⟨As, cs, rfl⟩ := hs.form
  have HI := Lib.hid hs
  have hkb := (hb2.block _ (Tr.heap_lt HK.out)).trans HK.out
  have hbn := (Below.refl w2.heap.size w2).alloc (Nat.le_refl _) (.cells #[.string op, .int .i64 line, .int .i64 col, .string name, .int .i64 num, .slice As kids.length cs] 53)
  have HT2 := Lib.hid ((HT1.out.below hb2).below hbn)
  have HTA2 := Lib.hid ((HTA.out.under hb2).under hbn)
  have HI2 := Lib.hid (HI.out.below hbn)
  have HB3 := Lib.hid ((HB1.out.trans (hb2.mono HB1.out.size)).alloc (by have := HB1.out.size; have := hb2.size; omega) (.cells #[.string op, .int .i64 line, .int .i64 col, .string name, .int .i64 num, .slice As kids.length cs] 53))
  have HKB := Lib.hid ((Below.heap_alloc w2 (.cells #[.string op, .int .i64 line, .int .i64 col, .string name, .int .i64 num, .slice As kids.length cs] 53) _ (Tr.heap_lt hkb)).trans hkb)
  have HND := Lib.hid (Tr.last w2 (.cells #[.string op, .int .i64 line, .int .i64 col, .string name, .int .i64 num, .slice As kids.length cs] 53))
  clear hs hb2 hkb hbn
  go_upto_region 2 with fail
  generalize w2.alloc (.cells #[.string op, .int .i64 line, .int .i64 col, .string name, .int .i64 num, .slice As kids.length cs] 53) = w3 at *
  generalize w2.heap.size = nb at *
  obtain ⟨c0, c1, c2, c3, c4, c5⟩ := Tr.cellsOf6 HND.out
  have c6 := cell1 HKB.out
  have HC := Lib.hid (HX.out w3 As cs _ HT2.out HTA2.out HI2.out)
  go_wp2_with fail
  refine HC.out.mono ?_
  rintro e w4 ⟨rfl, hb4⟩
  have HB4 := Lib.hid (HB3.out.trans (hb4.mono HB3.out.size))
  have c0' := (hb4.cell (p := ⟨nb, 0, none⟩) (Tr.cell_lt c0)).trans c0
  clear hb4 c0 c1 c2 c3 c4 c5 c6
  have z1 : (⟨#[40]⟩ : ByteArray).size = 1 := rfl
  have z2 : (⟨#[41]⟩ : ByteArray).size = 1 := rfl
  have HLV := Lib.hid (slevel_in op)
  generalize lvlB op = lv at *
  by_cases hc : lv < least
  · rw [if_pos hc] at HR
    go_wp2_with (go_at_call 62; refine (HLV.out _).mono ?_; rintro e w' ⟨rfl, rfl⟩)
    go_ret
    exact ⟨by rw [← HR.out]; rfl, HB4.out⟩
  · rw [if_neg hc] at HR
    go_wp2_with (go_at_call 62; refine (HLV.out _).mono ?_; rintro e w' ⟨rfl, rfl⟩)
    go_ret
    exact ⟨by rw [← HR.out]; rfl, HB4.out⟩
end Go.Proofs.YtmeacgmjpjjphaaGreatDoor
namespace Go.Proofs.YtmeacgmjpjjphaaGreatDoor
open Tr (Nd)
open Tr.TreP (WF fits places nd inT)

mutual
def nodesT : Tm → Nat
  | .mk _ _ _ ks => 1 + nodesL ks
def nodesL : List Tm → Nat
  | [] => 0
  | x :: r => nodesT x + nodesL r
end
mutual
/-- Words, names and numbers are not too great. -/
def okT : Tm → Prop
  | .mk op name num ks => op.size ≤ 2097152 ∧ name.size ≤ 2097152 ∧ (-9223372036854775808 ≤ num ∧ num ≤ 9223372036854775807) ∧ okL ks
def okL : List Tm → Prop
  | [] => True
  | x :: r => okT x ∧ okL r
end
def tot (ss : List ByteArray) : Nat := (ss.map (·.size)).sum
theorem tot_three (ss : List ByteArray) : (ss.getD 0 ⟨#[]⟩).size + (ss.getD 1 ⟨#[]⟩).size + (ss.getD 2 ⟨#[]⟩).size ≤ tot ss := by
  have e : (⟨#[]⟩ : ByteArray).size = 0 := rfl
  match ss with
  | [] => exact Nat.le_refl 0
  | [a] => show a.size + 0 + 0 ≤ a.size + 0; omega
  | [a, b] => show a.size + b.size + 0 ≤ a.size + (b.size + 0); omega
  | a :: b :: c :: r => show a.size + b.size + c.size ≤ a.size + (b.size + (c.size + (r.map (·.size)).sum)); omega
theorem joinL_size : ∀ (ss : List ByteArray), (joinL ss).size ≤ tot ss + 2 * ss.length
  | [] => Nat.zero_le _
  | [a] => by show a.size ≤ a.size + 0 + 2 * 1; omega
  | a :: b :: r => by
    have ih := joinL_size (b :: r)
    have e : (⟨#[44, 32]⟩ : ByteArray).size = 2 := rfl
    simp only [joinL, ByteArray.size_append, e]
    simp only [tot, List.map_cons, List.sum_cons, List.length_cons] at ih ⊢
    omega
theorem figs_le {n : Int} (h0 : -9223372036854775808 ≤ n) (h1 : n ≤ 9223372036854775807) : (figsB n).size ≤ 21 := by
  show (Lib.itoa n).toArray.size ≤ 21
  rw [List.size_toArray]
  exact Lib.itoa_length_le n h0 h1
theorem at_le (τ : Tm) (s : ByteArray) (least : Int) : (atB τ s least).size ≤ s.size + 2 := by
  unfold atB
  have e1 : (⟨#[40]⟩ : ByteArray).size = 1 := rfl
  have e2 : (⟨#[41]⟩ : ByteArray).size = 1 := rfl
  split
  · rw [ByteArray.size_append, ByteArray.size_append, e1, e2]
    omega
  · omega
theorem leaf_le (t : Tm) (h0 : -9223372036854775808 ≤ t.num) (h1 : t.num ≤ 9223372036854775807) : (leafB t).size ≤ t.op.size + t.name.size + 21 := by
  have h := figs_le h0 h1
  have e1 : (⟨#[32]⟩ : ByteArray).size = 1 := rfl
  have e2 : (⟨#[33]⟩ : ByteArray).size = 1 := rfl
  have e3 : (⟨#[40, 41]⟩ : ByteArray).size = 2 := rfl
  unfold leafB
  repeat' split
  all_goals try simp only [ByteArray.size_append, e1, e2, e3]
  all_goals omega
theorem ite_size {c : Prop} [Decidable c] {a b : ByteArray} {n : Nat} (ha : a.size ≤ n) (hb : b.size ≤ n) : (if c then a else b).size ≤ n := by
  split
  · exact ha
  · exact hb
theorem nodeB_le (t : Tm) (ss : List ByteArray) (h0 : -9223372036854775808 ≤ t.num) (h1 : t.num ≤ 9223372036854775807) : (nodeB t ss).size ≤ t.op.size + t.name.size + 64 + tot ss + 2 * ss.length := by
  have h3 := tot_three ss
  have hj := joinL_size ss
  have hl := leaf_le t h0 h1
  have a := fun j least => at_le (t.kids.getD j Tm.none) (ss.getD j ⟨#[]⟩) least
  have c1 : tSemi.size = 2 := rfl
  have c2 : tLetE.size = 4 := rfl
  have c3 : tEqE.size = 3 := rfl
  have c4 : tInE.size = 4 := rfl
  have c5 : tIfE.size = 3 := rfl
  have c6 : tThenE.size = 6 := rfl
  have c7 : tElseE.size = 6 := rfl
  have c8 : tTryE.size = 4 := rfl
  have c9 : tWithE.size = 6 := rfl
  have d1 : tArrowE.size = 4 := rfl
  have d2 : tOutE.size = 4 := rfl
  have d3 : tSetE.size = 4 := rfl
  have d4 : tRelE.size = 8 := rfl
  have d5 : tSp.size = 1 := rfl
  have d6 : tNeg.size = 2 := rfl
  have d7 : tLpE.size = 2 := rfl
  have e1 : (⟨#[40]⟩ : ByteArray).size = 1 := rfl
  have e2 : (⟨#[41]⟩ : ByteArray).size = 1 := rfl
  have a00 := a 0 0; have a10 := a 1 0; have a01 := a 0 1; have a11 := a 1 1; have a21 := a 2 1; have a02 := a 0 2; have a07 := a 0 7
  have al := a 0 (if lvlB t.op = 4 then 5 else lvlB t.op); have ar := a 1 (lvlB t.op + 1)
  clear a
  unfold nodeB
  simp only
  generalize atB (t.kids.getD 0 Tm.none) (ss.getD 0 ⟨#[]⟩) (if lvlB t.op = 4 then 5 else lvlB t.op) = x0 at *
  generalize atB (t.kids.getD 1 Tm.none) (ss.getD 1 ⟨#[]⟩) (lvlB t.op + 1) = x1 at *
  have hop : (if openT (t.kids.getD 0 Tm.none) = true then ⟨#[40]⟩ ++ ss.getD 0 ⟨#[]⟩ ++ ⟨#[41]⟩ else atB (t.kids.getD 0 Tm.none) (ss.getD 0 ⟨#[]⟩) 1).size ≤ (ss.getD 0 ⟨#[]⟩).size + 2 := ite_size (by simp only [ByteArray.size_append, e1, e2]; omega) a01
  generalize (if openT (t.kids.getD 0 Tm.none) = true then ⟨#[40]⟩ ++ ss.getD 0 ⟨#[]⟩ ++ ⟨#[41]⟩ else atB (t.kids.getD 0 Tm.none) (ss.getD 0 ⟨#[]⟩) 1) = xo at *
  generalize leafB t = lf at *
  repeat' (refine ite_size ?_ ?_)
  all_goals try simp only [ByteArray.size_append, c1, c2, c3, c4, c5, c6, c7, c8, c9, d1, d2, d3, d4, d5, d6, d7, e1, e2]
  all_goals omega
mutual
theorem text_le : ∀ (τ : Tm), okT τ → (textT τ).size + 4 ≤ 4194372 * nodesT τ
  | .mk op name num ks, h => by
    simp only [okT] at h
    have ih := textL_le ks h.2.2.2
    have hb : (nodeB (.mk op name num ks) (textL ks)).size ≤ op.size + name.size + 64 + tot (textL ks) + 2 * (textL ks).length := nodeB_le (.mk op name num ks) (textL ks) h.2.2.1.1 h.2.2.1.2
    simp only [textT, nodesT]
    have hl : (textL ks).length = ks.length := by simp [textL_map]
    omega
theorem textL_le : ∀ (l : List Tm), okL l → tot (textL l) + 4 * l.length ≤ 4194372 * nodesL l
  | [], _ => by simp [textL, tot, nodesL]
  | x :: r, h => by
    simp only [okL] at h
    have h1 := text_le x h.1
    have h2 := textL_le r h.2
    simp only [textL, tot, List.map_cons, List.sum_cons, List.length_cons, nodesL] at h2 ⊢
    omega
end
theorem nodesL_map (f : Int → Tm) : ∀ (l : List Int), nodesL (l.map f) = (l.map fun x => nodesT (f x)).sum
  | [] => by simp [nodesL]
  | x :: r => by simp [nodesL, nodesL_map f r]
/-- As many as an expression's places. -/
theorem nodes_places {m : List Nd} (h : WF m) : ∀ (f : Nat) (i : Int), inT m.length i = true → i < f → nodesT (tm m i) = (places f m i).length
  | 0, i, hi, hf => by rw [Tr.TreP.inT_iff] at hi; omega
  | f + 1, i, hi, hf => by
    rw [tm_eq h hi]
    simp only [nodesT, nodesL_map, places, hi, if_true, List.length_cons, List.length_flatMap]
    rw [Nat.add_comm]
    congr 2
    refine List.map_congr_left fun x hx => ?_
    have hk := h.kid hi hx
    refine nodes_places h f x ?_ (by omega)
    rw [Tr.TreP.inT_iff] at hi ⊢
    omega
theorem okL_map (f : Int → Tm) : ∀ (l : List Int), (∀ x ∈ l, okT (f x)) → okL (l.map f)
  | [], _ => by simp [okL]
  | x :: r, h => by
    simp only [List.map_cons, okL]
    exact ⟨h x (by simp), okL_map f r fun y hy => h y (by simp [hy])⟩
theorem ok_tm {m : List Nd} (h : WF m) (ho : ∀ x ∈ m, x.op.size ≤ 2097152 ∧ x.name.size ≤ 2097152 ∧ (-9223372036854775808 ≤ x.num ∧ x.num ≤ 9223372036854775807)) : ∀ (f : Nat) (i : Int), inT m.length i = true → i < f → okT (tm m i)
  | 0, i, hi, hf => by rw [Tr.TreP.inT_iff] at hi; omega
  | f + 1, i, hi, hf => by
    rw [tm_eq h hi]
    have hi' := Tr.TreP.inT_iff.1 hi
    have hx := ho (nd m i) (by
      unfold nd
      have : i.toNat < m.length := by omega
      simp [List.getD, this])
    simp only [okT]
    refine ⟨hx.1, hx.2.1, hx.2.2, okL_map _ _ fun y hy => ?_⟩
    have hk := h.kid hi hy
    exact ok_tm h ho f y (by rw [Tr.TreP.inT_iff]; omega) (by omega)
theorem join_is : ∀ (ss : List ByteArray), (⟨(Lib.join (ss.map (·.data.toList)) [44, 32]).toArray⟩ : ByteArray) = joinL ss := by
  intro ss
  apply ByteArray.ext
  apply Array.ext'
  induction ss with
  | nil => rfl
  | cons a r ih =>
    cases r with
    | nil => simp [Lib.join, joinL]
    | cons b r =>
      simp only [List.map_cons] at ih ⊢
      simp only [joinL, ByteArray.data_append, Array.toList_append]
      rw [← ih]
      simp [Lib.join]
end Go.Proofs.YtmeacgmjpjjphaaGreatDoor
namespace Go.Proofs.YtmeacgmjpjjphaaGreatDoor
open Go.RowKit Go.Shelf
open Tr (Nd TreeAt Own Ints Fine ndV)
open Tr.TreP (WF fits places nd inT)

theorem info_str : (Tryz.prog.info? 9).map (fun i => (i.zero, i.size, i.bytes)) = some (some (.string ⟨#[]⟩), 1, 16) := by kernel_rfl
def strs (l : List ByteArray) : List Value := l.map Value.string
theorem strs_snoc (l : List ByteArray) (x : ByteArray) : strs (l ++ [x]) = strs l ++ [.string x] := by simp [strs]
theorem grow_below {w w3 w8 : World} {o : Obj} {v : Value} {e s n : Nat} {xs : List Value} (h : Below w.heap.size w w3) (hs : w.heap.size ≤ w3.heap.size) (hrow : w3.ownsRow w.heap.size e s v n xs) (hg : (w3.alloc o).grownBy w8 v.ownBlock) : Below w.heap.size w w8 :=
  (h.alloc hs o).grown hg (Nat.le_trans hs (by simp)) fun k hk => (row_lt hrow hk).1
theorem news1 (w : World) (v : Value) (t : TypeId) : ∀ j u, [v][j]? = some u → (w.alloc (.cells #[v] t)).cell? ((⟨w.heap.size, 0, none⟩ : Addr).add j) = some u := World.news_of_block (last w _)
theorem one1 (s : ByteArray) : ∀ u ∈ [Value.string s], u.oneCell' = true := by simp [Value.oneCell']
theorem take_txt (ss : List ByteArray) (k : Nat) (h : k < ss.length) : strs (ss.take (k + 1)) = strs (ss.take k) ++ [.string (ss.getD k ⟨#[]⟩)] := by
  rw [← strs_snoc, List.take_succ_eq_append_getElem h, List.getD, List.getElem?_eq_getElem h]
  rfl
/-- The row's texts, joined. -/
theorem Join_in {w : World} {B : Nat} {v : Value} {ss : List ByteArray} (h : w.ownsRow B 9 1 v ss.length (strs ss)) (hn : ss.length ≤ 1000000) (hJ : (joinL ss).size ≤ 140737488355328) :
    Calls Tryz.prog 109 #[v, .string ⟨#[44, 32]⟩] w fun e w' => e = .returned (.string (joinL ss)) ∧ Below w.heap.size w w' := by
  have hc := h
  rcases h.2 with ⟨rfl, h0⟩ | ⟨g, cap, cur, rfl, hB, hh, hcap, _⟩
  · obtain rfl := List.eq_nil_of_length_eq_zero h0
    refine (Tryz.strings_Join_none none 0 ⟨#[44, 32]⟩ w).mono ?_
    rintro e w' ⟨rfl, rfl⟩
    exact ⟨rfl, Below.refl _ _⟩
  · have hl : (Lib.join (ss.map (·.data.toList)) (⟨#[44, 32]⟩ : ByteArray).data.toList).length ≤ 140737488355328 := by
      have e := join_is ss
      have h2 : (joinL ss).size = (Lib.join (ss.map (·.data.toList)) [44, 32]).length := by rw [← e]; simp [ByteArray.size]
      rw [← h2]
      exact hJ
    refine (Tryz.strings_Join g 0 cap ss ⟨#[44, 32]⟩ w (fun j x hx => ?_) (Tr.heap_lt hh) (by omega) hcap hl).mono ?_
    · have hj := (List.getElem?_eq_some_iff.1 hx).1
      rw [Nat.zero_add, hc.cellAt j (by omega)]
      simp [strs, hx]
    · rintro e w' ⟨rfl, hb⟩
      refine ⟨?_, hb⟩
      rw [← join_is ss]
set_option maxRecDepth 100000 in
set_option maxHeartbeats 8000000 in
theorem list_in {B t : Nat} {v : Value} {ms : List (Nd × Value)} (kids : List Int) (ss : List ByteArray) (hl : ss.length = kids.length) (hn : kids.length ≤ 70000) (A : Option Addr) (cap : Nat) (W : World) (hT : TreeAt W B t v ms) (ht : TabOk W) (hI : Ints W (.slice A kids.length cap) kids)
    (hK : ∀ j, j < kids.length → (ss.getD j ⟨#[]⟩).size ≤ 1099511627776 ∧ ∀ W, TreeAt W B t v ms → TabOk W → Calls Tryz.prog 33 #[.agg #[.pointer (some ⟨t, 0, none⟩)], .int .i64 (kids.getD j 0), .int .i64 0] W fun e W' => e = .returned (.string (ss.getD j ⟨#[]⟩)) ∧ Below W.heap.size W W') (hJ : (joinL ss).size ≤ 140737488355328) :
    Calls Tryz.prog 85 #[.agg #[.pointer (some ⟨t, 0, none⟩)], .slice A kids.length cap] W fun e W' => e = .returned (.string (joinL ss)) ∧ Below W.heap.size W W' := by
  obtain ⟨i0, hi0, hz0, hz1, hz2⟩ := info_parts info_str
  have hb := (Below.refl W.heap.size W).alloc (Nat.le_refl _) (.cells #[.pointer (some ⟨t, 0, none⟩)] 83)
  have HK := Lib.hid (Tr.last W (.cells #[.pointer (some ⟨t, 0, none⟩)] 83))
  have HT := Lib.hid hT
  have HTA := Lib.hid ht
  have HI := Lib.hid hI
  have HB1 := Lib.hid hb
  have HKC := Lib.hid hK
  have HJ := Lib.hid hJ
  have HL := Lib.hid hl
  clear hb hT ht hI hK hJ hl
  go_enter Tryz.func85, Tryz.ntmps85
  go_upto_region 1 with fail
  generalize W.alloc (.cells #[.pointer (some ⟨t, 0, none⟩)] 83) = w1 at *
  go_wp2_with fail
  go_loopg [5, 7, 10] kids.length (fun gk ov kv iv wr => ∃ k : Nat, iv = .int .i64 (k : Int) ∧ k + gk = kids.length ∧ Below w1.heap.size w1 wr ∧ wr.ownsRow w1.heap.size 9 1 ov k (strs (ss.take k)))
  case atStart => exact ⟨0, rfl, by omega, Below.refl _ _, World.ownsRow_nil _ _ _ _⟩
  case round =>
    obtain ⟨k, rfl, hkg, hb, hrow⟩ := hrel
    obtain ⟨A2, k2, rfl⟩ := row_form hrow
    have HB := Lib.hid (And.intro hb hrow)
    have hsb := hb.size
    have c6 := cell1 ((hb.block _ (Tr.heap_lt HK.out)).trans HK.out)
    clear hb hrow
    by_cases hlt : k < kids.length
    · obtain ⟨gq, rfl⟩ : ∃ g, gk = g + 1 := ⟨gk - 1, by omega⟩
      have hlt' : (k : Int) < (kids.length : Int) := by omega
      obtain ⟨b, off, c, hsl, hcs⟩ := ints_at HI.out (by omega)
      cases hsl
      have ck := hcs k hlt
      have ck' := (HB1.out.cell (p := ⟨b, off + k, none⟩) (Tr.cell_lt ck)).trans ck
      have ck2 := (HB.out.1.cell (p := ⟨b, off + k, none⟩) (Tr.cell_lt ck')).trans ck'
      have HTK := Lib.hid (take_txt ss k (by rw [HL.out]; exact hlt))
      have HC := Lib.hid ((HKC.out k hlt).2 wr ((HT.out.below HB1.out).below HB.out.1) ((HTA.out.under HB1.out).under HB.out.1))
      clear hcs ck ck'
      generalize ss.getD k ⟨#[]⟩ = sk at *
      generalize kids.getD k 0 = kd at *
      go_wp2_with fail
      refine HC.out.mono ?_
      rintro e w3 ⟨rfl, hb3⟩
      have HB3 := Lib.hid (chain HB.out.1 hb3)
      have HR3 := Lib.hid (owns_block HB.out.2 fun g hg => hb3.block g (row_lt HB.out.2 hg).2)
      have hs3 := hb3.size
      clear hb3 c6 ck2
      go_wp2_with (at_builtin; refine wpList_append_own _ rfl _ _ 76 rfl w1.heap.size 9 i0 (.string ⟨#[]⟩) 1 16 Tryz.underlying76 hi0 hz0 hz1 hz2 rfl (by decide) (.slice A2 k k2) k (strs (ss.take k)) rfl (HR3.out.alloc _) ⟨w3.heap.size, 0, none⟩ 1 1 [.string sk] rfl rfl ?c2 ?c3 ?c4 ?c5 ?c6 ?_)
      case c2 => first | exact fun j u h => h | exact news1 _ _ _
      case c3 => simp [Value.oneCell']
      case c4 => unfold maxLen; omega
      case c5 => omega
      case c6 => first | omega | (simp; omega)
      intro v' wa hown hgrow hnil
      have HB4 := Lib.hid (grow_below HB3.out HB3.out.size HR3.out hgrow)
      have HR4 := Lib.hid (show wa.ownsRow w1.heap.size 9 1 v' (k + 1) (strs (ss.take (k + 1))) by
        rw [HTK.out]
        exact hown)
      clear hown hgrow hnil
      go_wp2_with fail
      go_roundg gq
      case measure => omega
      case rel => exact ⟨k + 1, by first | rfl | go_num, by omega, HB4.out, HR4.out⟩
    · have hlt' : ¬ (k : Int) < (kids.length : Int) := by omega
      obtain rfl : k = kids.length := by omega
      have hrow := HB.out.2
      rw [List.take_of_length_le (by rw [HL.out]; omega), ← HL.out] at hrow
      have HJN := Lib.hid (Join_in hrow (by rw [HL.out]; omega) HJ.out)
      rw [HL.out] at HJN
      have HBB := Lib.hid (HB1.out.trans (HB.out.1.mono HB1.out.size))
      clear hrow
      go_wp2_with fail
      refine HJN.out.mono ?_
      rintro e w4 ⟨rfl, hb4⟩
      have HB4 := Lib.hid (HBB.out.trans (hb4.mono HBB.out.size))
      clear hb4
      go_wp2_with fail
      go_ret
      exact ⟨rfl, HB4.out⟩
end Go.Proofs.YtmeacgmjpjjphaaGreatDoor
