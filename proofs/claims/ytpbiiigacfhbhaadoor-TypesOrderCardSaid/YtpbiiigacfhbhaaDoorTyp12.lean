/- The chapter's example. -/
import Derived.Test.YtpbiiigacfhbhaaDoorTyp11
set_option linter.unusedVariables false
set_option linter.unusedSimpArgs false
namespace Go.Proofs.YtpbiiigacfhbhaaDoor
open Go.RowKit
open TypP (Kd Acy Occ Uni Step Txt TStep Sn Line)

theorem below_grown {w w' : World} {g B : Nat} (h : w.grownBy w' (some g)) (hg : B ≤ g) (hB : B ≤ w.heap.size) : Below B w w' :=
  ⟨h.os, h.tape, h.output, h.size, fun k hk => h.block k (by omega) (by simp; omega)⟩
theorem Sto.ge {ty el : TypeId} {s : Nat} {w : World} {B t g cap n : Nat} {c : Nat → List Value} (h : Sto ty el s w B t g cap n c) : B ≤ t ∧ B ≤ g := ⟨h.base, h.row.1⟩

def K4 : Nat → Kd := kdPush K0 3 .opn
def K5 : Nat → Kd := kdPush K4 4 (.pair 0 3)
def R5 : Nat → Nat := rtPush (rtPush (fun x => x) 3) 4
theorem uni34 {ok : Bool} {R' : Nat → Nat} (h : Uni K5 R5 3 4 ok R') : ok = false ∧ R' = R5 := by
  have k3 : K5 (R5 3) = .opn := rfl
  have k4 : K5 (R5 4) = .pair 0 3 := rfl
  cases h with
  | same h => exact absurd h (by decide)
  | tie h1 h2 h3 => exact absurd (.right k4 (show Occ K5 R5 (R5 3) (R5 3) from .here)) h3
  | loop h1 h2 h3 => exact ⟨rfl, rfl⟩
  | turn h1 h2 h3 h4 => exact absurd k3 h2
  | clash h1 h2 h3 h4 h5 => exact absurd k3 h2
  | plain h1 h2 h3 h4 => exact absurd k3 h2
  | first h1 h2 h3 h4 => rw [k3] at h2; cases h2
  | both h1 h2 h3 h4 h5 => rw [k3] at h2; cases h2
theorem uni00 {K : Nat → Kd} {R : Nat → Nat} {ok : Bool} {R' : Nat → Nat} {a : Nat} (h : Uni K R a a ok R') : ok = true := by
  cases h with
  | same h => rfl
  | tie h1 => exact absurd rfl h1
  | loop h1 => exact absurd rfl h1
  | turn h1 => exact absurd rfl h1
  | clash h1 => exact absurd rfl h1
  | plain h1 => exact absurd rfl h1
  | first h1 => exact absurd rfl h1
  | both h1 => exact absurd rfl h1

set_option maxRecDepth 100000 in
set_option maxHeartbeats 8000000 in
theorem lives_in (w : World) : Calls Tryd.prog 5 #[] w fun e w' => e = .returned (.bool true) ∧ Below w.heap.size w w' := by
  have hnew := New_in (w := w) (B := w.heap.size) (Nat.le_refl _)
  go_enter Tryd.func5, Tryd.ntmps5
  go_wp2_with fail
  refine hnew.mono ?_
  clear hnew
  rintro e w1 ⟨t, g, rfl, hs1, hb1, ht, hg⟩
  have hc := Var_in hs1 (by decide)
  have H1 := Lib.hid hb1
  have hl1 : w.heap.size ≤ w1.heap.size := hb1.size
  clear hs1 hb1
  go_wp2_with fail
  refine hc.mono ?_
  clear hc
  rintro e w2 ⟨rfl, g2, cap2, hs2, hm2, hg2⟩
  have hb2 := hm2.below ht hg hl1
  have H2 := Lib.hid (H1.out.trans hb2)
  have hl2 : w.heap.size ≤ w2.heap.size := H2.out.size
  have hc := Pair_in hs2 (by decide) 0 3
  clear hs2 hm2 hb2 H1
  go_wp2_with fail
  refine hc.mono ?_
  clear hc
  rintro e w3 (⟨_, rfl, g3, cap3, hs3, hm3, hg3⟩ | ⟨h, _⟩)
  case inr => exact absurd (by decide) h
  have hb3 := hm3.below ht (show w.heap.size ≤ g2 by omega) hl2
  have H3 := Lib.hid (H2.out.trans hb3)
  have hl3 : w.heap.size ≤ w3.heap.size := H3.out.size
  have hA : ∃ r, Acy K5 R5 5 r := acy_push (k := .pair 0 3) (acy_push (k := .opn) ⟨_, acy0⟩ (fun a b e => by cases e)) (fun a b e => by cases e; decide)
  have hp : PS K5 R5 5 (fun _ => 0) _ := (ps0.push .opn).push (.pair 0 3)
  have hc := Unify_in hA hs3 hp 3 4
  have HA := Lib.hid hA
  clear hs3 hm3 hb3 H2 hA hp
  go_wp2_with fail
  refine hc.mono ?_
  clear hc
  rintro e w4 (⟨h, _⟩ | ⟨a, b, ok, R', ea, eb, ha, hb, hu, rfl, d4, c4, hs4, hp4, hg4⟩)
  · exact absurd (by decide) h
  obtain rfl : a = 3 := by omega
  obtain rfl : b = 4 := by omega
  obtain ⟨rfl, rfl⟩ := uni34 hu
  have hb4 := below_grown hg4 (show w.heap.size ≤ g3 by omega) hl3
  have H4 := Lib.hid (H3.out.trans hb4)
  have hl4 : w.heap.size ≤ w4.heap.size := H4.out.size
  have hc := Unify_in HA.out hs4 hp4 0 0
  clear hs4 hp4 hg4 hb4 H3 hu ea eb
  go_wp2_with fail
  refine hc.mono ?_
  clear hc
  rintro e w5 (⟨h, _⟩ | ⟨a, b, ok, R', ea2, eb2, ha2, hb2, hu, rfl, d5, c5, hs5, hp5, hg5⟩)
  · exact absurd (by decide) h
  obtain rfl : a = 0 := by omega
  obtain rfl : b = 0 := by omega
  obtain rfl := uni00 hu
  have hb5 := below_grown hg5 (show w.heap.size ≤ g3 by omega) hl4
  have H5 := Lib.hid (H4.out.trans hb5)
  clear hs5 hp5 hg5 hb5 H4 hu ea2 eb2
  go_wp2_with fail
  go_ret
  exact ⟨rfl, H5.out⟩
end Go.Proofs.YtpbiiigacfhbhaaDoor
