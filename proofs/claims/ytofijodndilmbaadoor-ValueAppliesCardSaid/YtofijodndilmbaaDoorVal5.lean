/- A value's text: the tree's. -/
import Derived.Test.YtofijodndilmbaaDoorVal4
import Derived.Lib.AppendIntMem
import Derived.Lib.ItoaLen
set_option linter.unusedVariables false
set_option linter.unusedSimpArgs false
namespace Go.Proofs.YtofijodndilmbaaDoor
open Go.RowKit

mutual
/-- How great a value is. -/
def V.cnt : V → Nat
  | .mk o _ ks => 1 + o.size + cntL ks
def cntL : List V → Nat
  | [] => 0
  | k :: r => k.cnt + cntL r
end
mutual
/-- A value's numbers are int64s. -/
def V.rng : V → Prop
  | .mk _ n ks => (-9223372036854775808 ≤ n ∧ n ≤ 9223372036854775807) ∧ rngL ks
def rngL : List V → Prop
  | [] => True
  | k :: r => k.rng ∧ rngL r
end
theorem cnt_eq (v : V) : v.cnt = 1 + v.op.size + cntL v.kids := by
  cases v
  simp only [V.cnt, V.op, V.kids]
theorem rng_eq (v : V) : v.rng ↔ ((-9223372036854775808 ≤ v.num ∧ v.num ≤ 9223372036854775807) ∧ rngL v.kids) := by
  cases v
  simp only [V.rng, V.num, V.kids]
theorem cntL_get : ∀ {ks : List V} {i : Nat}, i < ks.length → (ks.getD i default).cnt ≤ cntL ks
  | [], i, h => by simp at h
  | k :: r, 0, h => by
    simp only [List.getD_cons_zero, cntL]
    omega
  | k :: r, i + 1, h => by
    have := cntL_get (ks := r) (i := i) (by simpa using h)
    simp only [List.getD_cons_succ, cntL]
    omega
theorem rngL_get : ∀ {ks : List V} {i : Nat}, rngL ks → i < ks.length → (ks.getD i default).rng
  | [], i, _, h => by simp at h
  | k :: r, 0, hr, h => by
    simp only [rngL] at hr
    exact hr.1
  | k :: r, i + 1, hr, h => by
    simp only [rngL] at hr
    exact rngL_get (ks := r) (i := i) hr.2 (by simpa using h)
theorem cntL_two : ∀ {ks : List V}, ks.length = 2 → cntL ks = (ks.getD 0 default).cnt + (ks.getD 1 default).cnt
  | [a, b], _ => by simp [cntL]
  | [], h => by simp at h
  | [a], h => by simp at h
  | a :: b :: c :: r, h => by simp at h

/-- A number in figures. -/
def figs (n : Int) : ByteArray := ⟨(Lib.itoa n).toArray⟩
theorem figs_size {n : Int} (h0 : -9223372036854775808 ≤ n) (h1 : n ≤ 9223372036854775807) : (figs n).size ≤ 21 := by
  show (Lib.itoa n).toArray.size ≤ 21
  rw [List.size_toArray]
  exact Lib.itoa_length_le n h0 h1
theorem Digits_in (n : Int) (w : World) (h0 : -9223372036854775808 ≤ n) (h1 : n ≤ 9223372036854775807) :
    Calls Tryd.prog 14 #[.int .i64 n] w fun e w' => e = .returned (.string (figs n)) ∧ w = w' := by
  by_cases h : 0 ≤ n
  · obtain ⟨u, rfl⟩ : ∃ u : Nat, n = (u : Int) := ⟨n.toNat, by omega⟩
    unfold figs
    rw [itoa_pos]
    exact DigitsP_in u w (by omega)
  · obtain ⟨u, rfl⟩ : ∃ u : Nat, n = -(u : Int) := ⟨n.natAbs, by omega⟩
    unfold figs
    rw [itoa_neg' (by omega)]
    exact DigitsN_in u w (by omega) (by omega)

/-- The library's table of powers of ten lies as it was laid. -/
def TabOk (w : World) : Prop := Lib.TabIs Tryd.prog w "internal/strconv.uint64pow10" .u64 Lib.pow10Tab
theorem TabOk.under {w w' : World} (h : TabOk w) (hb : Below w.heap.size w w') : TabOk w' := Lib.tabBelow_of_tabIs h w' hb
theorem FormatInt_in (n : Int) (w : World) (h0 : -9223372036854775808 ≤ n) (h1 : n ≤ 9223372036854775807) (ht : TabOk w) :
    Calls Tryd.prog 23 #[.int .i64 n, .int .i64 10] w fun e w' => e = .returned (.string (figs n)) ∧ Below w.heap.size w w' := by
  refine (Tryd.strconv_FormatInt_10 n h0 h1 w ht).mono ?_
  rintro e w' ⟨rfl, k, os, rfl⟩
  exact ⟨rfl, Lib.below_grow _ w (Nat.le_refl _) k os⟩

/-- A value's text, N deep. -/
def showF : Nat → V → ByteArray
  | 0, _ => ⟨#[63]⟩
  | N + 1, v => if rightF (N + 1) v then if v.op.toList == lI then figs v.num else if v.op.toList == lU then ⟨#[40, 41]⟩ else
      if v.op.toList == lP then (⟨#[40]⟩ ++ showF N (v.kids.getD 0 default) ++ ⟨#[44, 32]⟩ ++ showF N (v.kids.getD 1 default)) ++ ⟨#[41]⟩ else v.op else ⟨#[63]⟩
theorem right_pair {N : Nat} {v : V} (h : rightF (N + 1) v = true) (h1 : (v.op.toList == lI) = false) (h2 : (v.op.toList == lP) = true) : v.kids.length = 2 := by
  unfold rightF at h
  rw [h1] at h
  have h3 : (v.op.toList == lT || v.op.toList == lF || v.op.toList == lU) = false := by
    rw [eq_of_beq h2]
    rfl
  rw [h3] at h
  rw [h2] at h
  simp at h
  exact h.1.1.2
theorem showF_size : ∀ (N : Nat) (v : V), v.rng → (showF N v).size ≤ 24 * v.cnt
  | 0, v, _ => by
    have := cnt_eq v
    unfold showF
    show 1 ≤ _
    omega
  | N + 1, v, hr => by
    have hc := cnt_eq v
    unfold showF
    cases h0 : rightF (N + 1) v with
    | false =>
      show 1 ≤ _
      omega
    | true =>
      simp only [if_true]
      cases h1 : (v.op.toList == lI) with
      | true =>
        have hg := (rng_eq v).1 hr
        have := figs_size hg.1.1 hg.1.2
        simp only [if_true]
        omega
      | false =>
        cases h2 : (v.op.toList == lU) with
        | true =>
          simp only [if_true, if_false, Bool.false_eq_true]
          show 2 ≤ _
          omega
        | false =>
          cases h3 : (v.op.toList == lP) with
          | false =>
            simp only [if_true, if_false, Bool.false_eq_true]
            omega
          | true =>
            have hL := right_pair h0 h1 h3
            have hg := (rng_eq v).1 hr
            have e0 := showF_size N (v.kids.getD 0 default) (rngL_get hg.2 (by omega))
            have e1 := showF_size N (v.kids.getD 1 default) (rngL_get hg.2 (by omega))
            have e2 := cntL_two hL
            simp only [if_true, if_false, Bool.false_eq_true, ByteArray.size_append]
            rw [show (⟨#[40]⟩ : ByteArray).size = 1 from rfl, show (⟨#[41]⟩ : ByteArray).size = 1 from rfl, show (⟨#[44, 32]⟩ : ByteArray).size = 2 from rfl]
            omega
end Go.Proofs.YtofijodndilmbaaDoor
