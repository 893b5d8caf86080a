/- Contracts of the order's methods that only read: Below, Join, Meet, Bottom, Top, Len. PRINTED by gen2.py of this folder. -/
import Derived.Test.YtkcbcdfcpchgcaaDoorOrd1
set_option linter.unusedVariables false
set_option linter.unusedSimpArgs false
namespace Go.Proofs.YtkcbcdfcpchgcaaDoor
open Go.RowKit
open OrdP (inB)

theorem inB_iff {n : Nat} {a : Int} : inB n a = true ↔ 0 ≤ a ∧ a < n := by simp [inB]

/-- What a method's answer is of, at whatever numbers. -/
def leastI (n : Nat) (u : Nat → Nat) (a b : Int) : Int := if inB n a && inB n b then leastM n u (u a.toNat &&& u b.toNat) else -1
def belowM (n : Nat) (u : Nat → Nat) (a b : Int) : Bool := inB n a && inB n b && (u a.toNat).testBit b.toNat

theorem and_lt {a b : Nat} (ha : a < 4294967296) : a &&& b < 4294967296 := Nat.lt_of_le_of_lt Nat.and_le_left ha

set_option maxHeartbeats 1000000 in
theorem Join_in (w : World) (b bu bd n : Nat) (u d : Nat → Nat) (hn : n ≤ 32) (hu : ∀ i, i < n → u i < 4294967296) (ho : OrdAt w b bu bd n u d) (x y : Int) :
    Calls Tryd.prog 10 #[.pointer (some ⟨b, 0, none⟩), .int .i64 x, .int .i64 y] w fun e w' => e = .returned (.int .i64 (leastI n u x y)) ∧ ∃ q, w' = w.drewN q := by
  have cu := ho.up
  have cd := ho.down
  cases hx : inB n x with
  | false =>
    have hx' := Lib.hid hx; clear hx
    go_enter Tryd.func10, Tryd.ntmps10
    go_wp2_with (go_at_call 32; refine (right_in _ b n _ hn cu x).mono ?_; rw [hx'.out]; rintro e w' ⟨rfl, rfl⟩)
    go_ret
    exact ⟨by simp [leastI, hx'.out], 0, rfl⟩
  | true =>
    cases hy : inB n y with
    | false =>
      have hx' := Lib.hid hx; clear hx
      have hy' := Lib.hid hy; clear hy
      go_enter Tryd.func10, Tryd.ntmps10
      go_wp2_with fail
      refine (right_in _ b n _ hn cu x).mono ?_
      rw [hx'.out]
      rintro e w' ⟨rfl, rfl⟩
      go_wp2_with fail
      refine (right_in _ b n _ hn cu y).mono ?_
      rw [hy'.out]
      rintro e w' ⟨rfl, rfl⟩
      go_wp2_with fail
      go_ret
      exact ⟨by simp [leastI, hy'.out], 0, rfl⟩
    | true =>
      obtain ⟨x0, x1⟩ := inB_iff.1 hx
      obtain ⟨y0, y1⟩ := inB_iff.1 hy
      obtain ⟨i, rfl⟩ := Int.eq_ofNat_of_zero_le x0
      obtain ⟨j, rfl⟩ := Int.eq_ofNat_of_zero_le y0
      have i1 : i < n := by omega
      have j1 : j < n := by omega
      have ci := ho.us i i1
      have cj := ho.us j j1
      have hb := u32_and_nat (u i) (u j) (hu i i1) (hu j j1)
      have hl := least_in w bu n u (u i &&& u j) hn (and_lt (hu i i1)) hu ho.us
      have hx' := Lib.hid hx; clear hx
      have hy' := Lib.hid hy; clear hy
      have hl' := Lib.hid hl; clear hl
      go_enter Tryd.func10, Tryd.ntmps10
      go_wp2_with fail
      refine (right_in _ b n _ hn cu i).mono ?_
      rw [hx'.out]
      rintro e w' ⟨rfl, rfl⟩
      go_wp2_with fail
      refine (right_in _ b n _ hn cu j).mono ?_
      rw [hy'.out]
      rintro e w' ⟨rfl, rfl⟩
      go_wp2_with fail
      go_quiet ((go_at_call 33; exact Calls.quiet_of_same ((least_in _ bu n u (u i &&& u j) hn (and_lt (hu i i1)) hu (by exact ho.us)).mono fun e w' h => ⟨h.1, h.2.symm⟩)))
      go_wp2
      go_ret
      exact ⟨by simp [leastI, hx'.out, hy'.out], _, rfl⟩

set_option maxHeartbeats 1000000 in
theorem Meet_in (w : World) (b bu bd n : Nat) (u d : Nat → Nat) (hn : n ≤ 32) (hd : ∀ i, i < n → d i < 4294967296) (ho : OrdAt w b bu bd n u d) (x y : Int) :
    Calls Tryd.prog 11 #[.pointer (some ⟨b, 0, none⟩), .int .i64 x, .int .i64 y] w fun e w' => e = .returned (.int .i64 (leastI n d x y)) ∧ ∃ q, w' = w.drewN q := by
  have cu := ho.up
  have cd := ho.down
  cases hx : inB n x with
  | false =>
    have hx' := Lib.hid hx; clear hx
    go_enter Tryd.func11, Tryd.ntmps11
    go_wp2_with (go_at_call 32; refine (right_in _ b n _ hn cu x).mono ?_; rw [hx'.out]; rintro e w' ⟨rfl, rfl⟩)
    go_ret
    exact ⟨by simp [leastI, hx'.out], 0, rfl⟩
  | true =>
    cases hy : inB n y with
    | false =>
      have hx' := Lib.hid hx; clear hx
      have hy' := Lib.hid hy; clear hy
      go_enter Tryd.func11, Tryd.ntmps11
      go_wp2_with fail
      refine (right_in _ b n _ hn cu x).mono ?_
      rw [hx'.out]
      rintro e w' ⟨rfl, rfl⟩
      go_wp2_with fail
      refine (right_in _ b n _ hn cu y).mono ?_
      rw [hy'.out]
      rintro e w' ⟨rfl, rfl⟩
      go_wp2_with fail
      go_ret
      exact ⟨by simp [leastI, hy'.out], 0, rfl⟩
    | true =>
      obtain ⟨x0, x1⟩ := inB_iff.1 hx
      obtain ⟨y0, y1⟩ := inB_iff.1 hy
      obtain ⟨i, rfl⟩ := Int.eq_ofNat_of_zero_le x0
      obtain ⟨j, rfl⟩ := Int.eq_ofNat_of_zero_le y0
      have i1 : i < n := by omega
      have j1 : j < n := by omega
      have ci := ho.ds i i1
      have cj := ho.ds j j1
      have hb := u32_and_nat (d i) (d j) (hd i i1) (hd j j1)
      have hl := least_in w bd n d (d i &&& d j) hn (and_lt (hd i i1)) hd ho.ds
      have hx' := Lib.hid hx; clear hx
      have hy' := Lib.hid hy; clear hy
      have hl' := Lib.hid hl; clear hl
      go_enter Tryd.func11, Tryd.ntmps11
      go_wp2_with fail
      refine (right_in _ b n _ hn cu i).mono ?_
      rw [hx'.out]
      rintro e w' ⟨rfl, rfl⟩
      go_wp2_with fail
      refine (right_in _ b n _ hn cu j).mono ?_
      rw [hy'.out]
      rintro e w' ⟨rfl, rfl⟩
      go_wp2_with fail
      go_quiet ((go_at_call 33; exact Calls.quiet_of_same ((least_in _ bd n d (d i &&& d j) hn (and_lt (hd i i1)) hd (by exact ho.ds)).mono fun e w' h => ⟨h.1, h.2.symm⟩)))
      go_wp2
      go_ret
      exact ⟨by simp [leastI, hx'.out, hy'.out], _, rfl⟩

theorem mask_lt {n : Nat} (hn : n ≤ 32) : (2 ^ n - 1 : Nat) < 4294967296 := by
  have : 2 ^ n ≤ 2 ^ 32 := Nat.pow_le_pow_right (by omega) hn
  have : 0 < 2 ^ n := Nat.two_pow_pos n
  omega
theorem mask_int {n : Nat} (hn : n ≤ 32) : ((2 : Int) ^ n % 4294967296 - 1) % 4294967296 = ((2 ^ n - 1 : Nat) : Int) := by
  have h1 : 2 ^ n ≤ 2 ^ 32 := Nat.pow_le_pow_right (by omega) hn
  have h2 : 0 < 2 ^ n := Nat.two_pow_pos n
  have h3 : ((2 : Int) ^ n) = ((2 ^ n : Nat) : Int) := by push_cast; rfl
  rw [h3]
  generalize 2 ^ n = m at *
  by_cases h : m = 4294967296
  · subst h; rfl
  · omega
theorem right_nil (w : World) (a : Int) : Calls Tryd.prog 32 #[.pointer none, .int .i64 a] w fun e w' => e = .returned (.bool false) ∧ w = w' := by
  go_enter Tryd.func32, Tryd.ntmps32
  go_wp2
  go_ret
  exact ⟨rfl, rfl⟩
theorem Len_nil (w : World) : Calls Tryd.prog 8 #[.pointer none] w fun e w' => e = .returned (.int .i64 0) ∧ w = w' := by
  go_enter Tryd.func8, Tryd.ntmps8
  go_wp2
  go_ret
  exact ⟨rfl, rfl⟩
theorem Len_in (w : World) (b n : Nat) (s : Option Addr) (hc : w.cell? ⟨b, 0, none⟩ = some (.slice s n n)) :
    Calls Tryd.prog 8 #[.pointer (some ⟨b, 0, none⟩)] w fun e w' => e = .returned (.int .i64 n) ∧ w = w' := by
  go_enter Tryd.func8, Tryd.ntmps8
  go_wp2
  go_ret
  exact ⟨rfl, rfl⟩
theorem Below_nil (w : World) (x y : Int) : Calls Tryd.prog 9 #[.pointer none, .int .i64 x, .int .i64 y] w fun e w' => e = .returned (.bool false) ∧ w = w' := by
  go_enter Tryd.func9, Tryd.ntmps9
  go_wp2_with (go_at_call 32; refine (right_nil _ x).mono ?_; rintro e w' ⟨rfl, rfl⟩)
  go_ret
  exact ⟨rfl, rfl⟩
theorem Join_nil (w : World) (x y : Int) : Calls Tryd.prog 10 #[.pointer none, .int .i64 x, .int .i64 y] w fun e w' => e = .returned (.int .i64 (-1)) ∧ w = w' := by
  go_enter Tryd.func10, Tryd.ntmps10
  go_wp2_with (go_at_call 32; refine (right_nil _ x).mono ?_; rintro e w' ⟨rfl, rfl⟩)
  go_ret
  exact ⟨rfl, rfl⟩
theorem Meet_nil (w : World) (x y : Int) : Calls Tryd.prog 11 #[.pointer none, .int .i64 x, .int .i64 y] w fun e w' => e = .returned (.int .i64 (-1)) ∧ w = w' := by
  go_enter Tryd.func11, Tryd.ntmps11
  go_wp2_with (go_at_call 32; refine (right_nil _ x).mono ?_; rintro e w' ⟨rfl, rfl⟩)
  go_ret
  exact ⟨rfl, rfl⟩

set_option maxHeartbeats 1000000 in
theorem Below_in (w : World) (b bu bd n : Nat) (u d : Nat → Nat) (hn : n ≤ 32) (hu : ∀ i, i < n → u i < 4294967296) (ho : OrdAt w b bu bd n u d) (x y : Int) :
    Calls Tryd.prog 9 #[.pointer (some ⟨b, 0, none⟩), .int .i64 x, .int .i64 y] w fun e w' => e = .returned (.bool (belowM n u x y)) ∧ w = w' := by
  have cu := ho.up
  cases hx : inB n x with
  | false =>
    have hx' := Lib.hid hx; clear hx
    go_enter Tryd.func9, Tryd.ntmps9
    go_wp2_with (go_at_call 32; refine (right_in _ b n _ hn cu x).mono ?_; rw [hx'.out]; rintro e w' ⟨rfl, rfl⟩)
    go_ret
    exact ⟨by simp [belowM, hx'.out], rfl⟩
  | true =>
    cases hy : inB n y with
    | false =>
      have hx' := Lib.hid hx; clear hx
      have hy' := Lib.hid hy; clear hy
      go_enter Tryd.func9, Tryd.ntmps9
      go_wp2_with fail
      refine (right_in _ b n _ hn cu x).mono ?_
      rw [hx'.out]
      rintro e w' ⟨rfl, rfl⟩
      go_wp2_with fail
      refine (right_in _ b n _ hn cu y).mono ?_
      rw [hy'.out]
      rintro e w' ⟨rfl, rfl⟩
      go_wp2_with fail
      go_ret
      exact ⟨by simp [belowM, hy'.out], rfl⟩
    | true =>
      obtain ⟨x0, x1⟩ := inB_iff.1 hx
      obtain ⟨y0, y1⟩ := inB_iff.1 hy
      obtain ⟨i, rfl⟩ := Int.eq_ofNat_of_zero_le x0
      obtain ⟨j, rfl⟩ := Int.eq_ofNat_of_zero_le y0
      have i1 : i < n := by omega
      have j1 : j < n := by omega
      have ci := ho.us i i1
      have hb := bit_and1 (u i) j (hu i i1)
      have hx' := Lib.hid hx; clear hx
      have hy' := Lib.hid hy; clear hy
      have fin : belowM n u i j = (u i).testBit j := by simp [belowM, hx'.out, hy'.out]
      rw [fin]
      clear fin
      cases ht : (u i).testBit j
      all_goals
        rw [ht] at hb
        clear ht
        simp only [Bool.false_eq_true, if_false, if_true] at hb
        go_enter Tryd.func9, Tryd.ntmps9
        go_wp2_with fail
        refine (right_in _ b n _ hn cu i).mono ?_
        rw [hx'.out]
        rintro e w' ⟨rfl, rfl⟩
        go_wp2_with fail
        refine (right_in _ b n _ hn cu j).mono ?_
        rw [hy'.out]
        rintro e w' ⟨rfl, rfl⟩
        go_wp2_with fail
        go_ret
        exact ⟨rfl, rfl⟩

set_option maxHeartbeats 1000000 in
theorem Bottom_in (w : World) (b bu bd n : Nat) (u d : Nat → Nat) (h1 : 1 ≤ n) (hn : n ≤ 32) (hu : ∀ i, i < n → u i < 4294967296) (ho : OrdAt w b bu bd n u d) :
    Calls Tryd.prog 14 #[.pointer (some ⟨b, 0, none⟩)] w fun e w' => e = .returned (.int .i64 (leastM n u (2 ^ n - 1))) ∧ ∃ q, w' = w.drewN q := by
  have cu := ho.up
  have cd := ho.down
  obtain ⟨m, hm⟩ : ∃ m : Nat, m = 2 ^ n - 1 := ⟨_, rfl⟩
  have hp : m < 4294967296 := by rw [hm]; exact mask_lt hn
  have he : ((2 : Int) ^ n % 4294967296 - 1) % 4294967296 = (m : Int) := by rw [hm]; exact mask_int hn
  rw [← hm]
  clear hm
  go_enter Tryd.func14, Tryd.ntmps14
  go_wp2_with fail
  go_quiet ((go_at_call 33; exact Calls.quiet_of_same ((least_in _ bu n u m hn hp hu (by exact ho.us)).mono fun e w' h => ⟨h.1, h.2.symm⟩)))
  go_wp2
  go_ret
  exact ⟨rfl, _, rfl⟩
theorem Bottom_nil (w : World) : Calls Tryd.prog 14 #[.pointer none] w fun e w' => e = .returned (.int .i64 (-1)) ∧ w = w' := by
  go_enter Tryd.func14, Tryd.ntmps14
  go_wp2_with fail
  go_ret
  exact ⟨rfl, rfl⟩

set_option maxHeartbeats 1000000 in
theorem Top_in (w : World) (b bu bd n : Nat) (u d : Nat → Nat) (h1 : 1 ≤ n) (hn : n ≤ 32) (hd : ∀ i, i < n → d i < 4294967296) (ho : OrdAt w b bu bd n u d) :
    Calls Tryd.prog 16 #[.pointer (some ⟨b, 0, none⟩)] w fun e w' => e = .returned (.int .i64 (leastM n d (2 ^ n - 1))) ∧ ∃ q, w' = w.drewN q := by
  have cu := ho.up
  have cd := ho.down
  obtain ⟨m, hm⟩ : ∃ m : Nat, m = 2 ^ n - 1 := ⟨_, rfl⟩
  have hp : m < 4294967296 := by rw [hm]; exact mask_lt hn
  have he : ((2 : Int) ^ n % 4294967296 - 1) % 4294967296 = (m : Int) := by rw [hm]; exact mask_int hn
  rw [← hm]
  clear hm
  go_enter Tryd.func16, Tryd.ntmps16
  go_wp2_with fail
  go_quiet ((go_at_call 33; exact Calls.quiet_of_same ((least_in _ bd n d m hn hp hd (by exact ho.ds)).mono fun e w' h => ⟨h.1, h.2.symm⟩)))
  go_wp2
  go_ret
  exact ⟨rfl, _, rfl⟩
theorem Top_nil (w : World) : Calls Tryd.prog 16 #[.pointer none] w fun e w' => e = .returned (.int .i64 (-1)) ∧ w = w' := by
  go_enter Tryd.func16, Tryd.ntmps16
  go_wp2_with fail
  go_ret
  exact ⟨rfl, rfl⟩

end Go.Proofs.YtkcbcdfcpchgcaaDoor
