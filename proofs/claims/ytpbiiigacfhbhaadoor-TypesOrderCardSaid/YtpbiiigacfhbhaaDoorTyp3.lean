/- Two types are made one: the reference's. -/
import Derived.Test.YtpbiiigacfhbhaaDoorTypT
import Derived.StillTailTactics
set_option linter.unusedVariables false
set_option linter.unusedSimpArgs false
namespace Go.Proofs.YtpbiiigacfhbhaaDoor
open Go.RowKit
open TypP (Kd Acy Occ Uni Step)

theorem RS.flds {K : Nat → Kd} {R : Nat → Nat} {n : Nat} {d : Nat → Nat} {c : Nat → List Value} (h : RS K R n d c) {x : Nat} (hx : x < n) :
    ∃ i : Int, c x = [.int .i64 (Kd.code (K x)), .int .i64 (Kd.fst (K x)), .int .i64 (Kd.snd (K x)), .int .i64 i] := by
  by_cases hr : R x = x
  · exact ⟨_, h.own x hx hr⟩
  · obtain ⟨y, h1, _⟩ := h.lnk x hx hr
    exact ⟨_, h1⟩

def ROneC (K : Nat → Kd) (n B t g cap : Nat) (R : Nat → Nat) (a b : Nat) (ok : Bool) (R' : Nat → Nat) : Prop :=
  a < n → b < n → (∃ r, Acy K R n r) → ∀ (d : Nat → Nat) (c : Nat → List Value) (w : World), RSto w B t g cap n c → RS K R n d c →
    Calls Tryd.prog 14 #[.pointer (some ⟨t, 0, none⟩), .int .i64 a, .int .i64 b] w fun e w' => e = .returned (.bool ok) ∧ ∃ d' c', RSto w' B t g cap n c' ∧ RS K R' n d' c' ∧ w.grownBy w' (some g)

set_option maxRecDepth 100000 in
set_option maxHeartbeats 8000000 in
theorem One_in {K : Nat → Kd} {n B t g cap : Nat} {R : Nat → Nat} {a b : Nat} {ok : Bool} {R' : Nat → Nat} (u : Uni K R a b ok R') : ROneC K n B t g cap R a b ok R' := by
  refine TypP.uni_ind ?_ u
  clear u R a b ok R'
  intro R a b ok R' hst ha hb ⟨r, hA⟩ d c w h hp
  obtain ⟨hya, hrya⟩ := hA.root a ha
  obtain ⟨hyb, hryb⟩ := hA.root b hb
  have hf := Find_in h hp ha
  have hf2 := Find_in h hp hb
  have HS := Lib.hid (And.intro h hp)
  have HA := Lib.hid hA
  clear h hp
  go_enter Tryd.func14, Tryd.ntmps14
  go_wp2_with fail
  refine hf.mono ?_
  clear hf
  rintro e w1 ⟨rfl, rfl⟩
  go_wp2_with fail
  refine hf2.mono ?_
  clear hf2
  rintro e w2 ⟨rfl, rfl⟩
  generalize hRA : R a = x at *
  generalize hRB : R b = y at *
  have HR := Lib.hid (And.intro hRA hRB)
  have e0 := HS.out.2.own x hya hrya
  have n0 := HS.out.1.cell0 hya (by rw [e0]; rfl)
  have n1 := HS.out.1.cell (j := 1) hya (by rw [e0]; rfl)
  have n2 := HS.out.1.cell (j := 2) hya (by rw [e0]; rfl)
  have n3 := HS.out.1.cell (j := 3) hya (by rw [e0]; rfl)
  have f0 := HS.out.2.own y hyb hryb
  have m0 := HS.out.1.cell0 hyb (by rw [f0]; rfl)
  have m1 := HS.out.1.cell (j := 1) hyb (by rw [f0]; rfl)
  have m2 := HS.out.1.cell (j := 2) hyb (by rw [f0]; rfl)
  have top := HS.out.1.top
  have HY := Lib.hid (And.intro hrya hryb)
  have HE := Lib.hid e0
  clear hrya hryb hA hRA hRB e0 f0
  cases hst with
  | same h1 =>
    rw [HR.out.1, HR.out.2] at h1
    subst h1
    go_wp2_with fail
    go_ret
    exact ⟨rfl, _, _, HS.out.1, HS.out.2, World.grownBy.refl _ _⟩
  | loop h1 h2 h3 =>
    rw [HR.out.1, HR.out.2] at h1 h3
    rw [HR.out.1] at h2
    have hxy : ¬ x = y := h1
    have hw := in_in (v := x) HA.out HS.out.1 HS.out.2 (r (R y)) (x := y) (Nat.le_refl _) hyb
    rw [HY.out.2] at hw
    have HO := Lib.hid h3
    rw [h2] at n0 n1 n2
    simp only [Kd.code, Kd.fst, Kd.snd] at n0 n1 n2
    clear h1 h2 h3
    by_cases hk : ((Kd.code (K y) : Nat) : Int) = 0
    · generalize ((Kd.code (K y) : Nat) : Int) = ke at *
      subst hk
      go_wp2_with fail
      refine hw.mono ?_
      clear hw
      rintro e w3 ⟨b1, rfl, hb1, rfl⟩
      have eb := hb1.2 HO.out
      subst eb
      clear hb1
      go_wp2_with fail
      go_ret
      exact ⟨rfl, _, _, HS.out.1, HS.out.2, World.grownBy.refl _ _⟩
    · generalize ((Kd.code (K y) : Nat) : Int) = ke at *
      have hk' : decide (ke = 0) = false := decide_eq_false hk
      go_wp2_with fail
      refine hw.mono ?_
      clear hw
      rintro e w3 ⟨b1, rfl, hb1, rfl⟩
      have eb := hb1.2 HO.out
      subst eb
      clear hb1
      go_wp2_with fail
      go_ret
      exact ⟨rfl, _, _, HS.out.1, HS.out.2, World.grownBy.refl _ _⟩
  | tie h1 h2 h3 =>
    rw [HR.out.1, HR.out.2] at h1 h3
    rw [HR.out.1] at h2
    have hxy : ¬ x = y := h1
    have hw := in_in (v := x) HA.out HS.out.1 HS.out.2 (r (R y)) (x := y) (Nat.le_refl _) hyb
    rw [HY.out.2] at hw
    have HO := Lib.hid (And.intro h1 (And.intro h2 h3))
    rw [h2] at n0 n1 n2
    simp only [Kd.code, Kd.fst, Kd.snd] at n0 n1 n2
    clear h1 h2 h3
    have fr := HS.out.1.free
    refine' (fun (key : Hid (∀ ke : Int, w.cell? ⟨g, y * 4, none⟩ = some (.int .i64 ke) → _)) => ?main) (Lib.hid ?kp)
    case main => exact key.out _ m0
    clear m0
    intro ke m0
    rcases Classical.em (ke = 0) with rfl | hk
    all_goals
      try have hk' := decide_eq_false hk
      go_wp2_with fail
      refine hw.mono ?_
      clear hw
      rintro e w3 ⟨b1, rfl, hb1, rfl⟩
      have eb : b1 = false := by
        cases b1 with
        | false => rfl
        | true => exact absurd (hb1.1 rfl) HO.out.2.2
      subst eb
      clear hb1
      go_wp2_with fail
      go_ret
      rw [HR.out.1, HR.out.2]
      refine ⟨rfl, _, _, HS.out.1.set (by decide) hya (j := 3) (by decide) (.int .i64 y), HS.out.2.tie hya HY.out.1 hyb HY.out.2 hxy ?_ ?_, grown_set _ _ _ _⟩
      · rw [upd_same, HE.out]
        rfl
      · intro k hk
        rw [upd_other _ _ hk]
  | turn h1 h2 h3 u =>
    rw [HR.out.1, HR.out.2] at h1
    rw [HR.out.1] at h2
    rw [HR.out.2] at h3
    have hxy : ¬ x = y := h1
    have hc := u.2
    rw [HR.out.1, HR.out.2] at hc
    have hcc := hc hyb hya ⟨r, HA.out⟩ d c w HS.out.1 HS.out.2
    clear hc u HE
    have hk := Kd.code_opn h2
    rw [h3] at m0 m1 m2
    simp only [Kd.code, Kd.fst, Kd.snd] at m0 m1 m2
    generalize ((Kd.code (K x) : Nat) : Int) = kd at *
    have hk' : decide (kd = 0) = false := decide_eq_false hk
    clear h1 h2 h3
    go_wp2_with fail
    refine hcc.mono ?_
    clear hcc
    rintro e w3 ⟨rfl, d3, c3, hs3, hp3, hg3⟩
    have H3 := Lib.hid (And.intro hs3 (And.intro hp3 hg3))
    clear hs3 hp3 hg3
    go_wp2_with fail
    go_ret
    exact ⟨rfl, _, _, H3.out.1, H3.out.2.1, H3.out.2.2⟩
  | clash h1 h2 h3 h4 h5 =>
    rw [HR.out.1, HR.out.2] at h1 h5
    rw [HR.out.1] at h2
    rw [HR.out.2] at h3
    have hxy : ¬ x = y := h1
    have hk := Kd.code_opn h2
    have hk2 := Kd.code_opn h3
    have hk3 := Kd.code_inj (fun a' b' c' d' e => h4 a' b' c' d' (by rw [HR.out.1, HR.out.2]; exact e)) h5
    clear h1 h2 h3 h4 h5 HE
    generalize ((Kd.code (K x) : Nat) : Int) = kd at *
    generalize ((Kd.code (K y) : Nat) : Int) = ke at *
    have hk' : decide (kd = 0) = false := decide_eq_false hk
    have hk2' : decide (ke = 0) = false := decide_eq_false hk2
    have hk3' : decide (kd = ke) = false := decide_eq_false hk3
    go_wp2_with fail
    go_region
    all_goals
      go_wp2_with fail
      go_ret
      exact ⟨rfl, _, _, by first | exact HS.out.1 | exact HS.out.1.drew | exact HS.out.1.drewN _, HS.out.2, by first | exact World.grownBy.refl _ _ | exact grown_drew (World.grownBy.refl _ _) | exact grown_drewN (World.grownBy.refl _ _) _⟩
  | plain h1 h2 h3 h4 =>
    rw [HR.out.1, HR.out.2] at h1 h4
    rw [HR.out.1] at h2
    have hxy : ¬ x = y := h1
    have hk := Kd.code_opn h2
    have hk4 := Kd.code_ne4 (k := K x) (fun a' b' e => h3 a' b' (by rw [HR.out.1]; exact e))
    rw [← h4] at m0 m1 m2
    clear h1 h2 h3 h4 HE
    generalize ((Kd.code (K x) : Nat) : Int) = kd at *
    have hk' : decide (kd = 0) = false := decide_eq_false hk
    have hk4' : decide (kd = 4) = false := decide_eq_false hk4
    go_wp2_with fail
    go_region
    all_goals
      go_wp2_with fail
      go_ret
      exact ⟨rfl, _, _, by first | exact HS.out.1 | exact HS.out.1.drew | exact HS.out.1.drewN _, HS.out.2, by first | exact World.grownBy.refl _ _ | exact grown_drew (World.grownBy.refl _ _) | exact grown_drewN (World.grownBy.refl _ _) _⟩
  | first h1 h2 h3 u =>
    rw [HR.out.1, HR.out.2] at h1
    rw [HR.out.1] at h2
    rw [HR.out.2] at h3
    have hxy : ¬ x = y := h1
    obtain ⟨_, hp1, hq1, _⟩ := HA.out.pair x hya _ _ h2
    obtain ⟨_, hp2, hq2, _⟩ := HA.out.pair y hyb _ _ h3
    have HC := Lib.hid (fun w h => u.2 hp1 hp2 ⟨r, HA.out⟩ d c w h HS.out.2)
    clear u HE
    rw [h2] at n0 n1 n2
    rw [h3] at m0 m1 m2
    simp only [Kd.code, Kd.fst, Kd.snd] at n0 n1 n2 m0 m1 m2
    clear h1 h2 h3
    go_wp2_with fail
    go_region
    go_wp2_with fail
    have HS1 := Lib.hid (show RSto w.drew B t g cap n c ∧ w.grownBy w.drew (some g) from ⟨HS.out.1.drew, grown_drew (World.grownBy.refl _ _)⟩)
    have top' : w.drew.cell? ⟨t, 0, none⟩ = _ := top
    have n1' : w.drew.cell? ⟨g, x * 4 + 1, none⟩ = _ := n1
    have m1' : w.drew.cell? ⟨g, y * 4 + 1, none⟩ = _ := m1
    generalize w.drew = w5 at HS1 top' n1' m1' ⊢
    clear n0 n1 n2 n3 m0 m1 m2 top
    go_still_tail 17, (by kernel_rfl)
    change wpList _ _ _ _ _ w5.drew
    have hcc := HC.out w5.drew HS1.out.1.drew
    have HS2 := Lib.hid (grown_drew HS1.out.2)
    generalize w5.drew = w6 at hcc HS2 ⊢
    clear top' n1' m1'
    go_wp2_with fail
    refine hcc.mono ?_
    clear hcc
    rintro e w3 ⟨rfl, d3, c3, hs3, hp3, hg3⟩
    have H3 := Lib.hid (And.intro hs3 (And.intro hp3 hg3))
    clear hs3 hp3 hg3
    go_wp2_with fail
    go_ret
    exact ⟨rfl, _, _, H3.out.1, H3.out.2.1, grown_trans HS2.out H3.out.2.2⟩
  | both h1 h2 h3 u v =>
    rw [HR.out.1, HR.out.2] at h1
    rw [HR.out.1] at h2
    rw [HR.out.2] at h3
    have hxy : ¬ x = y := h1
    obtain ⟨_, hp1, hq1, _⟩ := HA.out.pair x hya _ _ h2
    obtain ⟨_, hp2, hq2, _⟩ := HA.out.pair y hyb _ _ h3
    have HC := Lib.hid (fun w h => u.2 hp1 hp2 ⟨r, HA.out⟩ d c w h HS.out.2)
    have HV := Lib.hid (fun d3 c3 w3 hs3 hp3 => v.2 hq1 hq2 (TypP.uni_acy u.1 hp1 hp2 ⟨r, HA.out⟩) d3 c3 w3 hs3 hp3)
    clear u v HE
    have HKK := Lib.hid (And.intro h2 h3)
    rw [h2] at n0 n1 n2
    rw [h3] at m0 m1 m2
    simp only [Kd.code, Kd.fst, Kd.snd] at n0 n1 n2 m0 m1 m2
    clear h1 h2 h3
    go_wp2_with fail
    go_region
    go_wp2_with fail
    have HS1 := Lib.hid (show RSto w.drew B t g cap n c ∧ w.grownBy w.drew (some g) from ⟨HS.out.1.drew, grown_drew (World.grownBy.refl _ _)⟩)
    have top' : w.drew.cell? ⟨t, 0, none⟩ = _ := top
    have n1' : w.drew.cell? ⟨g, x * 4 + 1, none⟩ = _ := n1
    have m1' : w.drew.cell? ⟨g, y * 4 + 1, none⟩ = _ := m1
    generalize w.drew = w5 at HS1 top' n1' m1' ⊢
    clear n0 n1 n2 n3 m0 m1 m2 top
    go_still_tail 17, (by kernel_rfl)
    change wpList _ _ _ _ _ w5.drew
    have hcc := HC.out w5.drew HS1.out.1.drew
    have HS2 := Lib.hid (grown_drew HS1.out.2)
    generalize w5.drew = w6 at hcc HS2 ⊢
    clear top' n1' m1'
    go_wp2_with fail
    refine hcc.mono ?_
    clear hcc
    rintro e w3 ⟨rfl, d3, c3, hs3, hp3, hg3⟩
    have H3 := Lib.hid (And.intro hs3 (And.intro hp3 hg3))
    obtain ⟨i3, e3⟩ := hp3.flds hya
    obtain ⟨j3, f3⟩ := hp3.flds hyb
    have top := hs3.top
    have n2 := hs3.cell (j := 2) hya (by rw [e3]; rfl)
    have m2 := hs3.cell (j := 2) hyb (by rw [f3]; rfl)
    rw [HKK.out.1] at n2
    rw [HKK.out.2] at m2
    simp only [Kd.snd] at n2 m2
    clear hs3 hp3 hg3 e3 f3
    go_wp2_with fail
    go_still_tail 17, (by kernel_rfl)
    change wpList _ _ _ _ _ w3.drew
    have hcc := HV.out d3 c3 w3.drew H3.out.1.drew H3.out.2.1
    have H3' := Lib.hid (grown_drew H3.out.2.2)
    generalize w3.drew = w7 at hcc H3' ⊢
    clear top n2 m2
    go_wp2_with fail
    refine hcc.mono ?_
    clear hcc
    rintro e w4 ⟨rfl, d4, c4, hs4, hp4, hg4⟩
    have H4 := Lib.hid (And.intro hs4 (And.intro hp4 hg4))
    clear hs4 hp4 hg4
    go_wp2_with fail
    go_ret
    exact ⟨rfl, _, _, H4.out.1, H4.out.2.1, grown_trans (grown_trans HS2.out H3'.out) H4.out.2.2⟩
end Go.Proofs.YtpbiiigacfhbhaaDoor
