/- Unify, equal texts, the chapter's example, and whether there is much. -/
import Derived.Test.YtpbiiigacfhbhaaDoorTyp2
import Derived.Test.YtpbiiigacfhbhaaDoorTyp3
import Derived.Test.YtpbiiigacfhbhaaDoorTyp5
import Derived.Test.YtpbiiigacfhbhaaDoorTyp10
set_option linter.unusedVariables false
set_option linter.unusedSimpArgs false
namespace Go.Proofs.YtpbiiigacfhbhaaDoor
open Go.RowKit
open TypP (Kd Acy Occ Uni Step Txt TStep Sn Line)

set_option maxRecDepth 100000 in
set_option maxHeartbeats 8000000 in
theorem Equal_in {w : World} {B1 B2 m : Nat} {o1 o2 : Value} {S : Nat → ByteArray} (h1 : RowS w B1 o1 S m) (h2 : RowS w B2 o2 S m) (hm : m ≤ 100) :
    Calls Tryd.prog 15 #[o1, o2] w fun e w' => e = .returned (.bool true) ∧ w.grownBy w' none := by
  obtain ⟨A1, c1, rfl⟩ := row_form h1
  obtain ⟨A2, c2, rfl⟩ := row_form h2
  have H1 := Lib.hid h1
  have H2 := Lib.hid h2
  clear h1 h2
  go_enter Tryd.func15, Tryd.ntmps15
  go_wp2_with fail
  go_loopw [13] (fun iv wr => ∃ i : Nat, iv = .int .i64 i ∧ i ≤ m ∧ w.grownBy wr none) (fun iv _ => m - (intOf iv).toNat)
  case atStart => exact ⟨0, rfl, by omega, World.grownBy.refl _ _⟩
  case round =>
    obtain ⟨i, rfl, hi, hg⟩ := hrel
    by_cases e : i = m
    · subst e
      have HG := Lib.hid hg
      clear hg
      go_wp2_with fail
      go_ret
      exact ⟨rfl, HG.out⟩
    · have him : i < m := by omega
      obtain ⟨p1, e1, k1⟩ := row_cells (grown_row hg H1.out (fun k e => by simp)) him
      obtain ⟨p2, e2, k2⟩ := row_cells (grown_row hg H2.out (fun k e => by simp)) him
      subst e1 e2
      have q1 := k1 i him
      have q2 := k2 i him
      have HG := Lib.hid hg
      clear hg k1 k2
      generalize S i = s at *
      go_wp2_with fail
      go_region
      all_goals go_wp2_with fail
      all_goals go_roundw
      case rel => exact ⟨i + 1, rfl, by omega, grown_drew HG.out⟩
      case measure =>
        simp [intOf]
        omega

set_option maxRecDepth 100000 in
set_option maxHeartbeats 8000000 in
theorem Unify_in {K : Nat → Kd} {R : Nat → Nat} {n : Nat} {d : Nat → Nat} {c : Nat → List Value} {w : World} {B t g cap : Nat} (hA : ∃ r, Acy K R n r) (h : PSto w B t g cap n c) (hp : PS K R n d c) (x y : Int) :
    Calls Tryd.prog 13 #[.pointer (some ⟨t, 0, none⟩), .int .i64 x, .int .i64 y] w fun e w' =>
      (¬ (0 ≤ x ∧ x < n ∧ 0 ≤ y ∧ y < n) ∧ e = .returned (.int .i64 1) ∧ w = w') ∨
      (∃ (a b : Nat) (ok : Bool) (R' : Nat → Nat), x = a ∧ y = b ∧ a < n ∧ b < n ∧ Uni K R a b ok R' ∧ e = .returned (.int .i64 (if ok then 0 else 10)) ∧ ∃ d' c', PSto w' B t g cap n c' ∧ PS K R' n d' c' ∧ w.grownBy w' (some g)) := by
  have hx := right_in h x
  have hy := right_in h y
  by_cases h1 : 0 ≤ x ∧ x < n
  · by_cases h2 : 0 ≤ y ∧ y < n
    · obtain ⟨a, rfl⟩ := Int.eq_ofNat_of_zero_le h1.1
      obtain ⟨b, rfl⟩ := Int.eq_ofNat_of_zero_le h2.1
      have ha : a < n := by omega
      have hb : b < n := by omega
      obtain ⟨r, hA'⟩ := hA
      obtain ⟨ok, R', hu, _⟩ := TypP.uni_total (K := K) (n := n) _ _ R r a b hA' (Nat.le_refl _) ha hb (Nat.le_refl _)
      have hc := one_in (B := B) (t := t) (g := g) (cap := cap) hu ha hb ⟨r, hA'⟩ d c w h hp
      have HU := Lib.hid hu
      rw [decide_eq_true h1] at hx
      rw [decide_eq_true h2] at hy
      clear h hp hu h1 h2 hA'
      go_enter Tryd.func13, Tryd.ntmps13
      go_wp2_with fail
      refine hx.mono ?_
      rintro e w1 ⟨rfl, rfl⟩
      clear hx
      go_wp2_with fail
      refine hy.mono ?_
      rintro e w1 ⟨rfl, rfl⟩
      clear hy
      go_wp2_with fail
      refine hc.mono ?_
      rintro e w1 ⟨rfl, hs⟩
      clear hc
      have HS := Lib.hid hs
      clear hs
      cases ok <;> go_wp2_with fail
      all_goals go_ret
      all_goals exact .inr ⟨a, b, _, R', rfl, rfl, ha, hb, HU.out, rfl, HS.out⟩
    · have H2 := Lib.hid h2
      rw [decide_eq_true h1] at hx
      rw [decide_eq_false h2] at hy
      clear h hp hA h1 h2
      go_enter Tryd.func13, Tryd.ntmps13
      go_wp2_with fail
      refine hx.mono ?_
      rintro e w1 ⟨rfl, rfl⟩
      clear hx
      go_wp2_with fail
      refine hy.mono ?_
      rintro e w1 ⟨rfl, rfl⟩
      clear hy
      go_wp2_with fail
      go_ret
      exact .inl ⟨fun h => H2.out ⟨h.2.2.1, h.2.2.2⟩, rfl, rfl⟩
  · have H1 := Lib.hid h1
    rw [decide_eq_false h1] at hx
    clear h hp hA h1 hy
    go_enter Tryd.func13, Tryd.ntmps13
    go_wp2_with fail
    refine hx.mono ?_
    rintro e w1 ⟨rfl, rfl⟩
    clear hx
    go_wp2_with fail
    go_ret
    exact .inl ⟨fun h => H1.out ⟨h.1, h.2.1⟩, rfl, rfl⟩

/-- Acts that came in: each of a kind and two numbers. -/
def ActsAt (w : World) (A : Option Addr) (l : List (Int × Int × Int)) : Prop :=
  l = [] ∨ ∃ b off, A = some ⟨b, off, none⟩ ∧ ∀ i, i < l.length → w.cell? ⟨b, off + i * 3, none⟩ = some (.int .u8 (l.getD i (0, 0, 0)).1) ∧ w.cell? ⟨b, off + i * 3 + 1, none⟩ = some (.int .i8 (l.getD i (0, 0, 0)).2.1) ∧ w.cell? ⟨b, off + i * 3 + 2, none⟩ = some (.int .i8 (l.getD i (0, 0, 0)).2.2)
theorem ActsAt.below {w w' : World} {A : Option Addr} {l : List (Int × Int × Int)} (h : ActsAt w A l) (hb : Below w.heap.size w w') : ActsAt w' A l := by
  rcases h with h | ⟨b, off, e, h⟩
  · exact .inl h
  · refine .inr ⟨b, off, e, fun i hi => ?_⟩
    obtain ⟨h1, h2, h3⟩ := h i hi
    exact ⟨(World.cell?_of_block (hb.block b (cell_lt h1))).trans h1, (World.cell?_of_block (hb.block b (cell_lt h2))).trans h2, (World.cell?_of_block (hb.block b (cell_lt h3))).trans h3⟩

set_option maxRecDepth 100000 in
set_option maxHeartbeats 8000000 in
theorem big_in {w : World} {A : Option Addr} {cap : Nat} {l : List (Int × Int × Int)} (hl : ActsAt w A l) (hk : ∀ p ∈ l, 0 ≤ p.1 ∧ p.1 < 256) (hm : l.length ≤ 40) :
    Calls Tryd.prog 6 #[.slice A l.length cap] w fun e w' => ∃ b, e = .returned (.bool b) ∧ Below w.heap.size w w' := by
  have HL := Lib.hid hl
  have HK := Lib.hid hk
  clear hl hk
  go_enter Tryd.func6, Tryd.ntmps6
  go_wp2_with fail
  go_loopw [3, 8] (fun nv iv wr => ∃ i j : Nat, iv = .int .i64 i ∧ nv = .int .i64 j ∧ j ≤ i ∧ i ≤ l.length ∧ Below w.heap.size w wr) (fun _ iv _ => l.length - (intOf iv).toNat)
  case atStart => exact ⟨0, 0, rfl, rfl, by omega, by omega, Below.refl _ _⟩
  case round =>
    obtain ⟨i, j, rfl, rfl, hj, hi, hb⟩ := hrel
    have HB := Lib.hid hb
    clear hb
    by_cases e : i = l.length
    · subst e
      go_wp2_with fail
      go_ret
      exact ⟨_, rfl, HB.out⟩
    · have him : i < l.length := by omega
      have hl' := HL.out.below HB.out
      rcases hl' with hl' | ⟨b, off, hA, hc⟩
      · rw [hl'] at him
        simp at him
      · subst hA
        obtain ⟨h1, h2, h3⟩ := hc i him
        have hkk := HK.out (l.getD i (0, 0, 0)) (by simp [List.getD, him])
        have hlt := cell_lt h1
        clear hc
        have HB' := Lib.hid (HB.out.alloc HB.out.size (.cells #[.int .u8 (l.getD i (0, 0, 0)).1, .int .i8 (l.getD i (0, 0, 0)).2.1, .int .i8 (l.getD i (0, 0, 0)).2.2] 31))
        generalize (l.getD i (0, 0, 0)).1 = k at *
        generalize (l.getD i (0, 0, 0)).2.1 = p at *
        generalize (l.getD i (0, 0, 0)).2.2 = q at *
        by_cases hk0 : k % 3 = 0
        · go_wp2_with fail
          go_roundw
          case rel => exact ⟨i + 1, j, rfl, rfl, by omega, by omega, HB'.out⟩
          case measure =>
            simp [intOf]
            omega
        · go_wp2_with fail
          go_roundw
          case rel => exact ⟨i + 1, j + 1, rfl, rfl, by omega, by omega, HB'.out⟩
          case measure =>
            simp [intOf]
            omega
end Go.Proofs.YtpbiiigacfhbhaaDoor
