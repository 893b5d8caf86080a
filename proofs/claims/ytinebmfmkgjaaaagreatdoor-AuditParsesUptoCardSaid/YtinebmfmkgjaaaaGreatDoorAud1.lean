/- A number in figures: the reference's, and the library's. -/
import Derived.Test.YtinebmfmkgjaaaaGreatDoorLex9z
import Derived.Lib.ItoaLen
import Derived.Lib.AppendIntMem
set_option linter.unusedVariables false
set_option linter.unusedSimpArgs false
namespace Go.Proofs.YtinebmfmkgjaaaaGreatDoor
open Go.RowKit

/-- A number that is not below 0, in figures. -/
def dec (u : Nat) : ByteArray := ⟨(Lib.decDigits u).toArray⟩
theorem dec_size (u : Nat) : (dec u).size ≤ u / 10 + 2 := by
  show (Lib.decDigits u).toArray.size ≤ _
  rw [List.size_toArray]
  induction u using Nat.strongRecOn with
  | ind u ih =>
    rw [Lib.decDigits]
    split
    · simp
    · rename_i h
      have := ih (u / 10) (by omega)
      rw [List.length_append]
      simp
      omega
theorem dec_one {u : Nat} (h : u < 10) : dec u = ⟨#[UInt8.ofNat (48 + u)]⟩ := by
  unfold dec
  rw [Lib.decDigits_one h]
theorem dec_step {u : Nat} (h : ¬ u < 10) : dec u = dec (u / 10) ++ dec (u % 10) := by
  rw [dec_one (show u % 10 < 10 by omega)]
  unfold dec
  rw [Lib.decDigits, dif_neg h]
  apply ByteArray.ext
  simp
theorem itoa_pos (u : Nat) : (⟨(Lib.itoa (u : Int)).toArray⟩ : ByteArray) = dec u := by
  rw [Lib.itoa_nonneg]
  rfl
theorem itoa_neg' {u : Nat} (h : 1 ≤ u) : (⟨(Lib.itoa (-(u : Int))).toArray⟩ : ByteArray) = ⟨#[45]⟩ ++ dec u := by
  rw [Lib.itoa_neg u h]
  unfold dec
  apply ByteArray.ext
  simp

set_option maxRecDepth 100000 in
set_option maxHeartbeats 8000000 in
theorem DigitsP_in : ∀ (u : Nat) (w : World), u ≤ 9223372036854775807 →
    Calls Tryz.prog 84 #[.int .i64 u] w fun e w' => e = .returned (.string (dec u)) ∧ w = w' := by
  intro u
  induction u using Nat.strongRecOn with
  | ind u ih =>
    intro w hu
    by_cases h : u < 10
    · clear ih
      go_enter Tryz.func84, Tryz.ntmps84
      have h' : decide (10 ≤ (u : Int)) = false := decide_eq_false (by omega)
      go_wp2_with fail
      go_ret
      refine ⟨congrArg (fun s => Ending.returned (Value.string s)) ?_, rfl⟩
      rw [dec_one h, Nat.mod_eq_of_lt h]
      refine (show ∀ j, j < 10 → ByteArray.extract _ j (j + 1) = ⟨#[UInt8.ofNat (48 + j)]⟩ from ?_) u h
      decide +kernel
    · have hc := ih (u / 10) (by omega) w (by omega)
      rw [show ((u / 10 : Nat) : Int) = (u : Int) / 10 by omega] at hc
      have hsz := dec_size (u / 10)
      have hsz' : ¬ 9223372036854775807 < (dec (u / 10)).size + (min (u % 10 + 1) 10 - u % 10) := by omega
      clear ih
      go_enter Tryz.func84, Tryz.ntmps84
      have h10 : (10 : Int) ≤ u := by omega
      go_wp2_with fail
      refine hc.mono ?_
      rintro e w' ⟨rfl, rfl⟩
      clear hc
      go_wp2_with fail
      go_ret
      refine ⟨congrArg (fun s => Ending.returned (Value.string s)) ?_, rfl⟩
      rw [dec_step h]
      congr 1
      rw [dec_one (show u % 10 < 10 by omega)]
      refine (show ∀ j, j < 10 → ByteArray.extract _ j (j + 1) = ⟨#[UInt8.ofNat (48 + j)]⟩ from ?_) (u % 10) (by omega)
      decide +kernel
set_option maxRecDepth 100000 in
set_option maxHeartbeats 400000 in
theorem DigitsN_in : ∀ (u : Nat) (w : World), 1 ≤ u → u ≤ 9223372036854775808 →
    Calls Tryz.prog 84 #[.int .i64 (-(u : Int))] w fun e w' => e = .returned (.string (⟨#[45]⟩ ++ dec u)) ∧ w = w' := by
  intro u
  induction u using Nat.strongRecOn with
  | ind u ih =>
    intro w h1 hu
    by_cases h : u < 10
    · have hc := DigitsP_in u w (by omega)
      have hsz := dec_size u
      clear ih
      have hn0 : -(u : Int) < 0 := by omega
      have hn1 : -10 < -(u : Int) := by omega
      have hneg : ∃ z, z = -(u : Int) ∧ IntKind.i64.wrap (-z) = (u : Int) := ⟨_, rfl, by rw [IntWalk.i64_in _ (by omega)]; omega⟩
      obtain ⟨z, hz, hw⟩ := hneg
      rw [← hz] at hn0 hn1 ⊢
      clear hz
      go_enter Tryz.func84, Tryz.ntmps84
      go_wp2_with fail
      refine hc.mono ?_
      rintro e w' ⟨rfl, rfl⟩
      clear hc
      go_wp2_with fail
      go_ret
      exact ⟨rfl, rfl⟩
    · have hc := ih (u / 10) (by omega) w (by omega) (by omega)
      have hc2 := DigitsP_in (u % 10) w (by omega)
      have hsz := dec_size (u / 10)
      have hsz2 := dec_size (u % 10)
      clear ih
      have hn0 : -(u : Int) < 0 := by omega
      have hn1 : ¬ -10 < -(u : Int) := by omega
      have e1 : (-(u : Int)).tdiv 10 = -((u / 10 : Nat) : Int) := by
        rw [Int.neg_tdiv]
        rfl
      have e2 : (-(u : Int)).tmod 10 = -((u % 10 : Nat) : Int) := by
        rw [Int.neg_tmod]
        rfl
      rw [← e1] at hc
      have e3 : ((u % 10 : Nat) : Int) = wrap64 (-((-(u : Int)).tmod 10)) := by
        rw [e2]
        rw [IntWalk.wrap64_in _ (by omega)]
        omega
      rw [e3] at hc2
      clear e3
      have hw : IntKind.i64.wrap ((-(u : Int)).tdiv 10) = (-(u : Int)).tdiv 10 := by rw [e1, IntWalk.i64_in _ (by omega)]
      have hw2 : IntKind.i64.wrap ((-(u : Int)).tmod 10) = (-(u : Int)).tmod 10 := by rw [e2, IntWalk.i64_in _ (by omega)]
      clear e1 e2
      generalize hz : -(u : Int) = z at hc hc2 hw hw2 hn0 hn1 ⊢
      clear hz
      have hsz' : ¬ 9223372036854775807 < ((⟨#[45]⟩ : ByteArray) ++ dec (u / 10)).size + (dec (u % 10)).size := by
        rw [ByteArray.size_append, show (⟨#[45]⟩ : ByteArray).size = 1 from rfl]
        omega
      rw [dec_step h, ← ByteArray.append_assoc]
      generalize (⟨#[45]⟩ : ByteArray) ++ dec (u / 10) = P at hc hsz' ⊢
      generalize dec (u % 10) = Q at hc2 hsz' ⊢
      clear hsz hsz2 h h1 hu
      go_enter Tryz.func84, Tryz.ntmps84
      go_wp2_with fail
      refine hc.mono ?_
      rintro e w' ⟨rfl, rfl⟩
      clear hc
      go_wp2_with fail
      refine hc2.mono ?_
      rintro e w' ⟨rfl, rfl⟩
      clear hc2
      go_wp2_with fail
      go_ret
      exact ⟨rfl, rfl⟩
/-- A number in figures. -/
def figs (n : Int) : ByteArray := ⟨(Lib.itoa n).toArray⟩
theorem figs_size {n : Int} (h0 : -9223372036854775808 ≤ n) (h1 : n ≤ 9223372036854775807) : (figs n).size ≤ 21 := by
  show (Lib.itoa n).toArray.size ≤ 21
  rw [List.size_toArray]
  exact Lib.itoa_length_le n h0 h1
theorem Digits_in (n : Int) (w : World) (h0 : -9223372036854775808 ≤ n) (h1 : n ≤ 9223372036854775807) :
    Calls Tryz.prog 84 #[.int .i64 n] w fun e w' => e = .returned (.string (figs n)) ∧ w = w' := by
  by_cases h : 0 ≤ n
  · obtain ⟨u, rfl⟩ : ∃ u : Nat, n = (u : Int) := ⟨n.toNat, by omega⟩
    unfold figs
    rw [itoa_pos]
    exact DigitsP_in u w (by omega)
  · obtain ⟨u, rfl⟩ : ∃ u : Nat, n = -(u : Int) := ⟨n.natAbs, by omega⟩
    unfold figs
    rw [itoa_neg' (by omega)]
    exact DigitsN_in u w (by omega) (by omega)

/-- The library's table of powers of ten lies as it was laid. -/
def TabOk (w : World) : Prop := Lib.TabIs Tryz.prog w "internal/strconv.uint64pow10" .u64 Lib.pow10Tab
theorem TabOk.under {w w' : World} (h : TabOk w) (hb : Below w.heap.size w w') : TabOk w' := Lib.tabBelow_of_tabIs h w' hb
theorem Itoa_in (n : Int) (w : World) (h0 : -9223372036854775808 ≤ n) (h1 : n ≤ 9223372036854775807) (ht : TabOk w) :
    Calls Tryz.prog 63 #[.int .i64 n] w fun e w' => e = .returned (.string (figs n)) ∧ Below w.heap.size w w' := by
  refine (Tryz.strconv_Itoa n h0 h1 w ht).mono ?_
  rintro e w' ⟨rfl, k, os, rfl⟩
  exact ⟨rfl, Lib.below_grow _ w (Nat.le_refl _) k os⟩
/-- A place's text. -/
def atB (l c : Int) : ByteArray := figs l ++ ⟨#[58]⟩ ++ figs c
def okI (n : Int) : Prop := -9223372036854775808 ≤ n ∧ n ≤ 9223372036854775807
theorem atB_size {l c : Int} (hl : okI l) (hc : okI c) : (atB l c).size ≤ 43 := by
  have := figs_size hl.1 hl.2
  have := figs_size hc.1 hc.2
  unfold atB
  rw [ByteArray.size_append, ByteArray.size_append, show (⟨#[58]⟩ : ByteArray).size = 1 from rfl]
  omega
theorem cellsOf2 {w : World} {b : Nat} {x0 x1 : Value} {t : TypeId} (h : w.heap[b]? = some (.cells #[x0, x1] t)) : w.cell? ⟨b, 0, none⟩ = some x0 ∧ w.cell? ⟨b, 1, none⟩ = some x1 := by
  refine ⟨?_, ?_⟩ <;> simp only [World.cell?, h] <;> rfl

set_option maxRecDepth 100000 in
set_option maxHeartbeats 4000000 in
theorem at_in (l c : Int) (w : World) (hl : okI l) (hc : okI c) (ht : TabOk w) :
    Calls Tryz.prog 29 #[.agg #[.int .i64 l, .int .i64 c]] w fun e w' => e = .returned (.string (atB l c)) ∧ Below w.heap.size w w' := by
  go_enter Tryz.func29, Tryz.ntmps29
  have h1 := figs_size hl.1 hl.2
  have h2 := figs_size hc.1 hc.2
  have HI := Lib.hid (show ∀ w', Below w.heap.size w w' → ∀ n, okI n → Calls Tryz.prog 63 #[.int .i64 n] w' fun e w'' => e = .returned (.string (figs n)) ∧ Below w'.heap.size w' w'' from fun w' hb n hn => Itoa_in n w' hn.1 hn.2 (ht.under hb))
  have HL := Lib.hid hl
  have HC := Lib.hid hc
  have HA := Lib.hid (show atB l c = figs l ++ ⟨#[58]⟩ ++ figs c from rfl)
  have hB0 : Below w.heap.size w (w.alloc (.cells #[.int .i64 l, .int .i64 c] 31)) := (Below.refl w.heap.size w).alloc (Nat.le_refl _) _
  have HCL := Lib.hid (show ∀ w', Below (w.alloc (.cells #[.int .i64 l, .int .i64 c] 31)).heap.size (w.alloc (.cells #[.int .i64 l, .int .i64 c] 31)) w' → w'.cell? ⟨w.heap.size, 0, none⟩ = some (.int .i64 l) ∧ w'.cell? ⟨w.heap.size, 1, none⟩ = some (.int .i64 c) from fun w' hb =>
    cellsOf2 ((hb.block _ (by simp)).trans (last _ _)))
  have HF := Lib.hid (show ∀ w', Below (w.alloc (.cells #[.int .i64 l, .int .i64 c] 31)).heap.size (w.alloc (.cells #[.int .i64 l, .int .i64 c] 31)) w' → Below w.heap.size w w' from fun w' hb => chain hB0 hb)
  clear hl hc ht hB0
  go_wp2_with fail
  generalize w.alloc (.cells #[.int .i64 l, .int .i64 c] 31) = w1 at *
  generalize hF : figs l = F at *
  generalize hG : figs c = G at *
  have HFF := Lib.hid hF
  have HGG := Lib.hid hG
  clear hF hG
  have z1 : ¬ 9223372036854775807 < F.size + 1 := by omega
  have z2 : ¬ 9223372036854775807 < F.size + 1 + G.size := by omega
  have hbw1 : Below w1.heap.size w1 w1.drew := (Below.refl _ w1).drew
  obtain ⟨c0, c1⟩ := HCL.out _ hbw1
  go_region_held3 (fun w' => w'.cell? ⟨w.heap.size, 0, none⟩ = some (.int .i64 l) ∧ w'.cell? ⟨w.heap.size, 1, none⟩ = some (.int .i64 c)) (first | exact HCL.out _ (by with_reducible assumption))
    (first
      | (go_at_call_of 63 (Value.int IntKind.i64 l); refine (HI.out _ (HF.out _ (by with_reducible assumption)) l HL.out).mono ?_; rintro e w2 ⟨rfl, hbn⟩; have hbw2 := chain (by with_reducible assumption) hbn; clear hbn; obtain ⟨c0, c1⟩ := HCL.out _ hbw2; rw [HFF.out])
      | (go_at_call_of 63 (Value.int IntKind.i64 c); refine (HI.out _ (HF.out _ (by with_reducible assumption)) c HC.out).mono ?_; rintro e w3 ⟨rfl, hbn⟩; have hbw3 := chain (by with_reducible assumption) hbn; clear hbn; obtain ⟨c0, c1⟩ := HCL.out _ hbw3; rw [HGG.out]))
  all_goals
    have hfin := HF.out _ (by with_reducible assumption)
    go_wp2_with fail
    go_ret
    exact ⟨by rw [HA.out]; rfl, hfin⟩
set_option maxRecDepth 100000 in
set_option maxHeartbeats 4000000 in
theorem refAt_in (l c : Int) (w : World) (hl : okI l) (hc : okI c) :
    Calls Tryz.prog 67 #[.agg #[.int .i64 l, .int .i64 c]] w fun e w' => e = .returned (.string (atB l c)) ∧ Below w.heap.size w w' := by
  go_enter Tryz.func67, Tryz.ntmps67
  have h1 := figs_size hl.1 hl.2
  have h2 := figs_size hc.1 hc.2
  have HI := Lib.hid (show ∀ w', Below w.heap.size w w' → ∀ n, okI n → Calls Tryz.prog 84 #[.int .i64 n] w' fun e w'' => e = .returned (.string (figs n)) ∧ Below w'.heap.size w' w'' from fun w' hb n hn => (Digits_in n w' hn.1 hn.2).mono fun e w'' ⟨he, hw⟩ => ⟨he, by subst hw; exact Below.refl _ _⟩)
  have HL := Lib.hid hl
  have HC := Lib.hid hc
  have HA := Lib.hid (show atB l c = figs l ++ ⟨#[58]⟩ ++ figs c from rfl)
  have hB0 : Below w.heap.size w (w.alloc (.cells #[.int .i64 l, .int .i64 c] 31)) := (Below.refl w.heap.size w).alloc (Nat.le_refl _) _
  have HCL := Lib.hid (show ∀ w', Below (w.alloc (.cells #[.int .i64 l, .int .i64 c] 31)).heap.size (w.alloc (.cells #[.int .i64 l, .int .i64 c] 31)) w' → w'.cell? ⟨w.heap.size, 0, none⟩ = some (.int .i64 l) ∧ w'.cell? ⟨w.heap.size, 1, none⟩ = some (.int .i64 c) from fun w' hb =>
    cellsOf2 ((hb.block _ (by simp)).trans (last _ _)))
  have HF := Lib.hid (show ∀ w', Below (w.alloc (.cells #[.int .i64 l, .int .i64 c] 31)).heap.size (w.alloc (.cells #[.int .i64 l, .int .i64 c] 31)) w' → Below w.heap.size w w' from fun w' hb => chain hB0 hb)
  clear hl hc hB0
  go_wp2_with fail
  generalize w.alloc (.cells #[.int .i64 l, .int .i64 c] 31) = w1 at *
  generalize hF : figs l = F at *
  generalize hG : figs c = G at *
  have HFF := Lib.hid hF
  have HGG := Lib.hid hG
  clear hF hG
  have z1 : ¬ 9223372036854775807 < F.size + 1 := by omega
  have z2 : ¬ 9223372036854775807 < F.size + 1 + G.size := by omega
  have hbw1 : Below w1.heap.size w1 w1.drew := (Below.refl _ w1).drew
  obtain ⟨c0, c1⟩ := HCL.out _ hbw1
  go_region_held3 (fun w' => w'.cell? ⟨w.heap.size, 0, none⟩ = some (.int .i64 l) ∧ w'.cell? ⟨w.heap.size, 1, none⟩ = some (.int .i64 c)) (first | exact HCL.out _ (by with_reducible assumption))
    (first
      | (go_at_call_of 84 (Value.int IntKind.i64 l); refine (HI.out _ (HF.out _ (by with_reducible assumption)) l HL.out).mono ?_; rintro e w2 ⟨rfl, hbn⟩; have hbw2 := chain (by with_reducible assumption) hbn; clear hbn; obtain ⟨c0, c1⟩ := HCL.out _ hbw2; rw [HFF.out])
      | (go_at_call_of 84 (Value.int IntKind.i64 c); refine (HI.out _ (HF.out _ (by with_reducible assumption)) c HC.out).mono ?_; rintro e w3 ⟨rfl, hbn⟩; have hbw3 := chain (by with_reducible assumption) hbn; clear hbn; obtain ⟨c0, c1⟩ := HCL.out _ hbw3; rw [HGG.out]))
  all_goals
    have hfin := HF.out _ (by with_reducible assumption)
    go_wp2_with fail
    go_ret
    exact ⟨by rw [HA.out]; rfl, hfin⟩
end Go.Proofs.YtinebmfmkgjaaaaGreatDoor
