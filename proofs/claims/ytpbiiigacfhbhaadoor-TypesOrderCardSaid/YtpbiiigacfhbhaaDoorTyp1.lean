/- Whether an open type stands in another one. -/
import Derived.Test.YtpbiiigacfhbhaaDoorTyp0
set_option linter.unusedVariables false
set_option linter.unusedSimpArgs false
namespace Go.Proofs.YtpbiiigacfhbhaaDoor
open Go.RowKit
open TypP (Kd Acy Occ Uni)

theorem occ_iff {K : Nat → Kd} {R : Nat → Nat} {v y : Nat} : Occ K R v y ↔ y = v ∨ ∃ a b, K y = .pair a b ∧ (Occ K R v (R a) ∨ Occ K R v (R b)) := by
  constructor
  · intro h
    cases h with
    | here => exact .inl rfl
    | left hk h => exact .inr ⟨_, _, hk, .inl h⟩
    | right hk h => exact .inr ⟨_, _, hk, .inr h⟩
  · rintro (rfl | ⟨a, b, hk, h | h⟩)
    · exact .here
    · exact .left hk h
    · exact .right hk h
theorem Kd.code_ne4 {k : Kd} (h : ∀ a b, k ≠ .pair a b) : ((Kd.code k : Nat) : Int) ≠ 4 := by
  cases k with
  | pair a b => exact absurd rfl (h a b)
  | _ => simp [Kd.code]
theorem Sto.setFar {ty el : TypeId} {s : Nat} {w : World} {B t g cap n : Nat} {c : Nat → List Value} (h : Sto ty el s w B t g cap n c) {k : Nat} (ht : k ≠ t) (hg : k ≠ g) (i : Nat) (v : Value) : Sto ty el s (w.setCell ⟨k, i, none⟩ v) B t g cap n c :=
  h.keep (Below.heap_setCell _ _ _ _ (fun e => ht e.symm)) (Below.heap_setCell _ _ _ _ (fun e => hg e.symm))
theorem cellsOf3 {w : World} {b : Nat} {x0 x1 x2 : Value} {t : TypeId} (h : w.heap[b]? = some (.cells #[x0, x1, x2] t)) : w.cell? ⟨b, 0, none⟩ = some x0 ∧ w.cell? ⟨b, 1, none⟩ = some x1 ∧ w.cell? ⟨b, 2, none⟩ = some x2 := by
  refine ⟨?_, ?_, ?_⟩ <;> simp only [World.cell?, h] <;> rfl

set_option maxRecDepth 100000 in
set_option maxHeartbeats 8000000 in
theorem within_in {K : Nat → Kd} {R : Nat → Nat} {n : Nat} {d r : Nat → Nat} {B t g cap v : Nat} (hA : Acy K R n r) : ∀ (m : Nat) {c : Nat → List Value} {w : World} {x : Nat}, r (R x) ≤ m → PSto w B t g cap n c → PS K R n d c → x < n →
    Calls Tryd.prog 31 #[.pointer (some ⟨t, 0, none⟩), .int .i64 v, .int .i64 x] w fun e w' => ∃ b, e = .returned (.bool b) ∧ (b = true ↔ Occ K R v (R x)) ∧ ∃ c', PSto w' B t g cap n c' ∧ PS K R n d c' ∧ w.grownBy w' (some g) := by
  intro m
  induction m using Nat.strongRecOn with
  | ind m ih =>
    intro c w x hm h hp hx
    obtain ⟨hy, hry⟩ := hA.root x hx
    have hf := find_in h hp hx
    have IH := Lib.hid ih
    have HM := Lib.hid hm
    have HO := Lib.hid (occ_iff (K := K) (R := R) (v := v) (y := R x))
    clear h hp ih hm
    go_enter Tryd.func31, Tryd.ntmps31
    go_wp2_with fail
    refine hf.mono ?_
    rintro e w1 ⟨rfl, c1, hs1, hp1, hg1⟩
    clear hf
    have HP := Lib.hid (hA.pair (R x) hy)
    generalize hRX : R x = y at *
    have HRX := Lib.hid hRX
    clear hRX
    have e0 := hp1.own y hy hry
    have n0 := hs1.cell0 hy (by rw [e0]; rfl)
    have n1 := hs1.cell (j := 1) hy (by rw [e0]; rfl)
    have n2 := hs1.cell (j := 2) hy (by rw [e0]; rfl)
    have top := hs1.top
    have HS := Lib.hid (And.intro hs1 (And.intro hp1 hg1))
    have hgs := hs1.lt.2
    clear hs1 hp1 hg1 hry e0
    by_cases hyv : y = v
    · subst hyv
      go_wp2_with fail
      go_ret
      rw [HRX.out]
      exact ⟨true, rfl, ⟨fun _ => .here, fun _ => rfl⟩, _, HS.out.1.alloc _, HS.out.2.1, grown_alloc HS.out.2.2 _⟩
    · have hyv' : decide ((y : Int) = v) = false := decide_eq_false (by omega)
      by_cases hk : ∃ a b, K y = .pair a b
      · obtain ⟨a, b, hk⟩ := hk
        obtain ⟨_, ha, hb, hra, hrb⟩ := HP.out a b hk
        rw [hk] at n0 n1 n2
        simp only [Kd.code, Kd.fst, Kd.snd] at n0 n1 n2
        have H2 := Lib.hid (And.intro (HS.out.1.alloc (.cells #[.int .i64 ((4 : Nat) : Int), .int .i64 (a : Nat), .int .i64 (b : Nat)] 59)) (grown_alloc HS.out.2.2 (.cells #[.int .i64 ((4 : Nat) : Int), .int .i64 (a : Nat), .int .i64 (b : Nat)] 59)))
        have hl := last w1 (.cells #[.int .i64 ((4 : Nat) : Int), .int .i64 (a : Nat), .int .i64 (b : Nat)] 59)
        have hsz2 : w1.heap.size < (w1.alloc (.cells #[.int .i64 ((4 : Nat) : Int), .int .i64 (a : Nat), .int .i64 (b : Nat)] 59)).heap.size := by simp
        have HK := Lib.hid hk
        have hca := IH.out (r (R a)) (by have := HM.out; omega) (c := _) (w := w1.alloc (.cells #[.int .i64 ((4 : Nat) : Int), .int .i64 (a : Nat), .int .i64 (b : Nat)] 59)) (Nat.le_refl _) H2.out.1 HS.out.2.1 ha
        clear hk
        go_wp2_with fail
        refine hca.mono ?_
        clear hca
        rintro e w3 ⟨b1, rfl, hb1, c3, hs3, hp3, hg3⟩
        have hl3 := (hg3.block _ hsz2 (by simp; omega)).trans hl
        have hc3 := cellsOf3 hl3
        obtain ⟨q0, q1, q2⟩ := hc3
        have HB1 := Lib.hid hb1
        have hcb := IH.out (r (R b)) (by have := HM.out; omega) (Nat.le_refl _) hs3 hp3 hb
        have H3 := Lib.hid (And.intro hs3 (And.intro hp3 (grown_trans H2.out.2 hg3)))
        clear hs3 hp3 hg3 hb1 hl hl3
        cases b1 with
        | true =>
          have HBt := Lib.hid (HB1.out.1 rfl)
          clear HB1
          go_wp2_with fail
          go_ret
          rw [HRX.out]
          exact ⟨true, rfl, ⟨fun _ => .left HK.out HBt.out, fun _ => rfl⟩, _, H3.out.1, H3.out.2.1, H3.out.2.2⟩
        | false =>
          have HBf := Lib.hid (fun h => absurd (HB1.out.2 h) (by simp) : ¬ Occ K R v (R a))
          clear HB1
          go_wp2_with fail
          refine hcb.mono ?_
          clear hcb
          rintro e w4 ⟨b2, rfl, hb2, c4, hs4, hp4, hg4⟩
          have H4 := Lib.hid (And.intro hs4 (And.intro hp4 (grown_trans H3.out.2.2 hg4)))
          have HB2 := Lib.hid hb2
          clear hs4 hp4 hg4 hb2
          go_wp2_with fail
          go_ret
          rw [HRX.out]
          refine ⟨b2, by simp; omega, ?_, _, H4.out.1, H4.out.2.1, H4.out.2.2⟩
          rw [HO.out]
          constructor
          · intro h
            exact .inr ⟨_, _, HK.out, .inr (HB2.out.1 h)⟩
          · rintro (h | ⟨a', b', h1, h2⟩)
            · exact absurd h hyv
            · rw [HK.out] at h1
              cases h1
              rcases h2 with h2 | h2
              · exact absurd h2 HBf.out
              · exact HB2.out.2 h2
      · have hk4 := Kd.code_ne4 (k := K y) (fun a b e => hk ⟨a, b, e⟩)
        have HK := Lib.hid hk
        clear hk
        generalize ((Kd.code (K y) : Nat) : Int) = kd at *
        have hk4' : decide (kd = 4) = false := decide_eq_false hk4
        go_wp2_with fail
        go_ret
        rw [HRX.out]
        refine ⟨false, by simp; omega, ?_, _, HS.out.1.alloc _, HS.out.2.1, grown_alloc HS.out.2.2 _⟩
        rw [HO.out]
        constructor
        · intro h; cases h
        · rintro (h | ⟨a', b', h1, _⟩)
          · exact absurd h hyv
          · exact absurd ⟨a', b', h1⟩ HK.out

set_option maxRecDepth 100000 in
set_option maxHeartbeats 8000000 in
theorem in_in {K : Nat → Kd} {R : Nat → Nat} {n : Nat} {d r : Nat → Nat} {B t g cap v : Nat} {c : Nat → List Value} {w : World} (hA : Acy K R n r) (h : RSto w B t g cap n c) (hp : RS K R n d c) : ∀ (m : Nat) {x : Nat}, r (R x) ≤ m → x < n →
    Calls Tryd.prog 26 #[.pointer (some ⟨t, 0, none⟩), .int .i64 v, .int .i64 x] w fun e w' => ∃ b, e = .returned (.bool b) ∧ (b = true ↔ Occ K R v (R x)) ∧ w = w' := by
  intro m
  induction m using Nat.strongRecOn with
  | ind m ih =>
    intro x hm hx
    obtain ⟨hy, hry⟩ := hA.root x hx
    have hf := Find_in h hp hx
    have IH := Lib.hid ih
    have HM := Lib.hid hm
    have HO := Lib.hid (occ_iff (K := K) (R := R) (v := v) (y := R x))
    have HS := Lib.hid (And.intro h hp)
    clear h hp ih hm
    go_enter Tryd.func26, Tryd.ntmps26
    go_wp2_with fail
    refine hf.mono ?_
    rintro e w1 ⟨rfl, rfl⟩
    clear hf
    have HP := Lib.hid (hA.pair (R x) hy)
    generalize hRX : R x = y at *
    have HRX := Lib.hid hRX
    clear hRX
    have e0 := HS.out.2.own y hy hry
    have n0 := HS.out.1.cell0 hy (by rw [e0]; rfl)
    have n1 := HS.out.1.cell (j := 1) hy (by rw [e0]; rfl)
    have n2 := HS.out.1.cell (j := 2) hy (by rw [e0]; rfl)
    have top := HS.out.1.top
    clear hry e0
    by_cases hyv : y = v
    · subst hyv
      go_wp2_with fail
      go_ret
      rw [HRX.out]
      exact ⟨true, rfl, ⟨fun _ => .here, fun _ => rfl⟩, rfl⟩
    · have hyv' : decide ((y : Int) = v) = false := decide_eq_false (by omega)
      by_cases hk : ∃ a b, K y = .pair a b
      · obtain ⟨a, b, hk⟩ := hk
        obtain ⟨_, ha, hb, hra, hrb⟩ := HP.out a b hk
        rw [hk] at n0 n1 n2
        simp only [Kd.code, Kd.fst, Kd.snd] at n0 n1 n2
        have HK := Lib.hid hk
        have hca := IH.out (r (R a)) (by have := HM.out; omega) (x := a) (Nat.le_refl _) ha
        have hcb := IH.out (r (R b)) (by have := HM.out; omega) (x := b) (Nat.le_refl _) hb
        clear hk
        go_wp2_with fail
        refine hca.mono ?_
        clear hca
        rintro e w3 ⟨b1, rfl, hb1, rfl⟩
        have HB1 := Lib.hid hb1
        clear hb1
        go_wp2_with fail
        refine hcb.mono ?_
        clear hcb
        rintro e w4 ⟨b2, rfl, hb2, rfl⟩
        have HB2 := Lib.hid hb2
        clear hb2
        have HOr := Lib.hid (show (b1 || b2) = true ↔ Occ K R v y by
          rw [HO.out, Bool.or_eq_true, HB1.out, HB2.out]
          constructor
          · intro h
            exact .inr ⟨_, _, HK.out, h⟩
          · rintro (h | ⟨a', b', h1, h2⟩)
            · exact absurd h hyv
            · rw [HK.out] at h1
              cases h1
              exact h2)
        clear HB1 HB2
        cases b1 <;> go_wp2_with fail
        all_goals go_ret
        all_goals rw [HRX.out]
        all_goals exact ⟨_, rfl, HOr.out, rfl⟩
      · have hk4 := Kd.code_ne4 (k := K y) (fun a b e => hk ⟨a, b, e⟩)
        have HK := Lib.hid hk
        clear hk
        generalize ((Kd.code (K y) : Nat) : Int) = kd at *
        have hk4' : decide (kd = 4) = false := decide_eq_false hk4
        go_wp2_with fail
        go_ret
        rw [HRX.out]
        refine ⟨false, by first | rfl | (simp; omega), ?_, rfl⟩
        rw [HO.out]
        constructor
        · intro h; cases h
        · rintro (h | ⟨a', b', h1, _⟩)
          · exact absurd h hyv
          · exact absurd ⟨a', b', h1⟩ HK.out
end Go.Proofs.YtpbiiigacfhbhaaDoor
