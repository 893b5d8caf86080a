/- Two types are made one: the program's. -/
import Derived.Test.YtpbiiigacfhbhaaDoorTypT
set_option linter.unusedVariables false
set_option linter.unusedSimpArgs false
namespace Go.Proofs.YtpbiiigacfhbhaaDoor
open Go.RowKit
open TypP (Kd Acy Occ Uni Step)

def OneC (K : Nat → Kd) (n B t g cap : Nat) (R : Nat → Nat) (a b : Nat) (ok : Bool) (R' : Nat → Nat) : Prop :=
  a < n → b < n → (∃ r, Acy K R n r) → ∀ (d : Nat → Nat) (c : Nat → List Value) (w : World), PSto w B t g cap n c → PS K R n d c →
    Calls Tryd.prog 24 #[.pointer (some ⟨t, 0, none⟩), .int .i64 a, .int .i64 b] w fun e w' => e = .returned (.bool ok) ∧ ∃ d' c', PSto w' B t g cap n c' ∧ PS K R' n d' c' ∧ w.grownBy w' (some g)

set_option maxRecDepth 100000 in
set_option maxHeartbeats 8000000 in
theorem one_in {K : Nat → Kd} {n B t g cap : Nat} {R : Nat → Nat} {a b : Nat} {ok : Bool} {R' : Nat → Nat} (u : Uni K R a b ok R') : OneC K n B t g cap R a b ok R' := by
  refine TypP.uni_ind ?_ u
  clear u R a b ok R'
  intro R a b ok R' hst ha hb ⟨r, hA⟩ d c w h hp
  obtain ⟨hya, hrya⟩ := hA.root a ha
  obtain ⟨hyb, hryb⟩ := hA.root b hb
  have hf := find_in h hp ha
  have HST := Lib.hid hst
  have HA := Lib.hid hA
  clear h hp hst
  go_enter Tryd.func24, Tryd.ntmps24
  go_wp2_with fail
  refine hf.mono ?_
  clear hf
  rintro e w1 ⟨rfl, c1, hs1, hp1, hg1⟩
  have hf := find_in hs1 hp1 hb
  have HG1 := Lib.hid hg1
  clear hs1 hp1 hg1
  go_wp2_with fail
  refine hf.mono ?_
  clear hf
  rintro e w2 ⟨rfl, c2, hs2, hp2, hg2⟩
  have HG2 := Lib.hid (grown_trans HG1.out hg2)
  clear HG1 hg2
  generalize hRA : R a = x at *
  generalize hRB : R b = y at *
  have HR := Lib.hid (And.intro hRA hRB)
  have e0 := hp2.own x hya hrya
  have n0 := hs2.cell0 hya (by rw [e0]; rfl)
  have n1 := hs2.cell (j := 1) hya (by rw [e0]; rfl)
  have n2 := hs2.cell (j := 2) hya (by rw [e0]; rfl)
  have f0 := hp2.own y hyb hryb
  have m0 := hs2.cell0 hyb (by rw [f0]; rfl)
  have m1 := hs2.cell (j := 1) hyb (by rw [f0]; rfl)
  have m2 := hs2.cell (j := 2) hyb (by rw [f0]; rfl)
  have top := hs2.top
  have hgs := hs2.lt.2
  have hts := hs2.lt.1
  have HS := Lib.hid (And.intro hs2 hp2)
  clear hs2 hp2 e0 f0 hRA hRB
  have HY := Lib.hid (And.intro hrya hryb)
  clear hrya hryb hA
  go_wp2_with fail
  refine' (fun (key : Hid _) => ?main) (Lib.hid ?kp)
  case main =>
    go_region
    · have HT := Lib.hid (two1 hgs #[.int .i64 (Kd.code (K x)), .int .i64 (Kd.fst (K x)), .int .i64 (Kd.snd (K x))] #[.int .i64 (Kd.code (K y)), .int .i64 (Kd.fst (K y)), .int .i64 (Kd.snd (K y))])
      generalize (World.drew (World.alloc (World.alloc w2 _) _)) = W at HT ⊢
      generalize w2.heap.size + 1 = pb at HT ⊢
      generalize w2.heap.size = pa at HT ⊢
      revert W pb pa
      exact key.out
    · have HT := Lib.hid (two2 hgs #[.int .i64 (Kd.code (K x)), .int .i64 (Kd.fst (K x)), .int .i64 (Kd.snd (K x))] #[.int .i64 (Kd.code (K y)), .int .i64 (Kd.fst (K y)), .int .i64 (Kd.snd (K y))])
      generalize (World.drew (World.alloc (World.alloc w2 _) _)) = W at HT ⊢
      generalize w2.heap.size + 1 = pa at HT ⊢
      generalize w2.heap.size = pb at HT ⊢
      exact key.out W pb pa HT
  intro W pb pa HT
  clear hgs hts
  clear top n0 n1 n2 m0 m1 m2
  have HSW := Lib.hid (HS.out.1.grown HT.out.grown (by simp) (by simp))
  have hgW := HSW.out.lt.2
  have qa := cellsOf3 HT.out.oa
  have qb := cellsOf3 HT.out.ob
  obtain ⟨qa0, qa1, qa2⟩ := qa
  obtain ⟨qb0, qb1, qb2⟩ := qb
  have HG := Lib.hid (grown_trans HG2.out (grown_up HT.out.grown g))
  clear HG2
  have hcs := HST.out
  clear HST
  cases hcs with
  | same h1 =>
    rw [HR.out.1, HR.out.2] at h1
    subst h1
    go_wp2_with fail
    go_ret
    exact ⟨rfl, _, _, HSW.out, HS.out.2, HG.out⟩
  | loop h1 h2 h3 =>
    rw [HR.out.1, HR.out.2] at h1 h3
    rw [HR.out.1] at h2
    have hxy : ¬ x = y := h1
    have hw := within_in (v := x) (x := y) HA.out (r (R y)) (Nat.le_refl _) HSW.out HS.out.2 hyb
    rw [HY.out.2] at hw
    have HO := Lib.hid h3
    rw [h2] at qa0 qa1 qa2
    simp only [Kd.code, Kd.fst, Kd.snd] at qa0 qa1 qa2
    clear h1 h2 h3
    go_wp2_with fail
    refine hw.mono ?_
    clear hw
    rintro e w3 ⟨b1, rfl, hb1, c3, hs3, hp3, hg3⟩
    have eb := hb1.2 HO.out
    subst eb
    have H3 := Lib.hid (And.intro hs3 (And.intro hp3 hg3))
    clear hs3 hp3 hg3 hb1
    go_wp2_with fail
    go_ret
    exact ⟨rfl, _, _, H3.out.1, H3.out.2.1, grown_trans HG.out H3.out.2.2⟩
  | tie h1 h2 h3 =>
    rw [HR.out.1, HR.out.2] at h1 h3
    rw [HR.out.1] at h2
    have hxy : ¬ x = y := h1
    have hw := within_in (v := x) (x := y) HA.out (r (R y)) (Nat.le_refl _) HSW.out HS.out.2 hyb
    rw [HY.out.2] at hw
    have HO := Lib.hid (And.intro h1 (And.intro h2 h3))
    rw [h2] at qa0 qa1 qa2
    simp only [Kd.code, Kd.fst, Kd.snd] at qa0 qa1 qa2
    clear h1 h2 h3
    go_wp2_with fail
    refine hw.mono ?_
    clear hw
    rintro e w3 ⟨b1, rfl, hb1, c3, hs3, hp3, hg3⟩
    have eb : b1 = false := by
      cases b1 with
      | false => rfl
      | true => exact absurd (hb1.1 rfl) HO.out.2.2
    subst eb
    have H3 := Lib.hid (And.intro hs3 (And.intro hp3 hg3))
    have top := hs3.top
    have ex := hp3.own x hya HY.out.1
    have n0 := hs3.cell0 hya (by rw [ex]; rfl)
    have n1 := hs3.cell (j := 1) hya (by rw [ex]; rfl)
    have n2 := hs3.cell (j := 2) hya (by rw [ex]; rfl)
    have fr := hs3.free
    have HE := Lib.hid ex
    clear hs3 hp3 hg3 hb1 ex
    go_wp2_with fail
    go_ret
    have s1 := H3.out.1.set (by decide) hya (j := 0) (by decide) (.int .i64 5)
    have s2 := s1.set (by decide) hya (j := 1) (by decide) (.int .i64 y)
    have s3 := s2.set (by decide) hya (j := 2) (by decide) (.int .i64 y)
    rw [HR.out.1, HR.out.2]
    refine ⟨rfl, _, _, s3, H3.out.2.1.tie hya HY.out.1 hyb HY.out.2 hxy ?_ ?_, ?_⟩
    · rw [upd_same, upd_same, upd_same, HE.out]
      rfl
    · intro k hk
      rw [upd_other _ _ hk, upd_other _ _ hk, upd_other _ _ hk]
    · exact grown_trans (grown_trans (grown_trans (grown_trans HG.out H3.out.2.2) (grown_set _ _ _ _)) (grown_set _ _ _ _)) (grown_set _ _ _ _)
  | turn h1 h2 h3 u =>
    rw [HR.out.1, HR.out.2] at h1
    rw [HR.out.1] at h2
    rw [HR.out.2] at h3
    have hxy : ¬ x = y := h1
    have hc := u.2
    rw [HR.out.1, HR.out.2] at hc
    have hcc := hc hyb hya ⟨r, HA.out⟩ d c2 W HSW.out HS.out.2
    clear hc u
    have hk := Kd.code_opn h2
    rw [h3] at qb0 qb1 qb2
    simp only [Kd.code, Kd.fst, Kd.snd] at qb0 qb1 qb2
    generalize ((Kd.code (K x) : Nat) : Int) = kd at *
    have hk' : decide (kd = 0) = false := decide_eq_false hk
    clear h1 h2 h3
    go_wp2_with fail
    refine hcc.mono ?_
    clear hcc
    rintro e w3 ⟨rfl, d3, c3, hs3, hp3, hg3⟩
    have H3 := Lib.hid (And.intro hs3 (And.intro hp3 hg3))
    clear hs3 hp3 hg3
    go_wp2_with fail
    go_ret
    exact ⟨rfl, _, _, H3.out.1, H3.out.2.1, grown_trans HG.out H3.out.2.2⟩
  | clash h1 h2 h3 h4 h5 =>
    rw [HR.out.1, HR.out.2] at h1 h5
    rw [HR.out.1] at h2
    rw [HR.out.2] at h3
    have hxy : ¬ x = y := h1
    have hk := Kd.code_opn h2
    have hk2 := Kd.code_opn h3
    have hk3 := Kd.code_inj (fun a' b' c' d' e => h4 a' b' c' d' (by rw [HR.out.1, HR.out.2]; exact e)) h5
    clear h1 h2 h3 h4 h5
    generalize ((Kd.code (K x) : Nat) : Int) = kd at *
    generalize ((Kd.code (K y) : Nat) : Int) = ke at *
    have hk' : decide (kd = 0) = false := decide_eq_false hk
    have hk2' : decide (ke = 0) = false := decide_eq_false hk2
    have hk3' : decide (kd = ke) = false := decide_eq_false hk3
    go_wp2_with fail
    go_ret
    exact ⟨rfl, _, _, HSW.out, HS.out.2, HG.out⟩
  | plain h1 h2 h3 h4 =>
    rw [HR.out.1, HR.out.2] at h1 h4
    rw [HR.out.1] at h2
    have hxy : ¬ x = y := h1
    have hk := Kd.code_opn h2
    have hk4 := Kd.code_ne4 (k := K x) (fun a' b' e => h3 a' b' (by rw [HR.out.1]; exact e))
    rw [← h4] at qb0 qb1 qb2
    clear h1 h2 h3 h4
    generalize ((Kd.code (K x) : Nat) : Int) = kd at *
    have hk' : decide (kd = 0) = false := decide_eq_false hk
    have hk4' : decide (kd = 4) = false := decide_eq_false hk4
    go_wp2_with fail
    go_ret
    exact ⟨rfl, _, _, HSW.out, HS.out.2, HG.out⟩
  | first h1 h2 h3 u =>
    rw [HR.out.1, HR.out.2] at h1
    rw [HR.out.1] at h2
    rw [HR.out.2] at h3
    have hxy : ¬ x = y := h1
    obtain ⟨_, hp1, hq1, _⟩ := HA.out.pair x hya _ _ h2
    obtain ⟨_, hp2, hq2, _⟩ := HA.out.pair y hyb _ _ h3
    have hcc := u.2 hp1 hp2 ⟨r, HA.out⟩ d c2 W HSW.out HS.out.2
    clear u
    rw [h2] at qa0 qa1 qa2
    rw [h3] at qb0 qb1 qb2
    simp only [Kd.code, Kd.fst, Kd.snd] at qa0 qa1 qa2 qb0 qb1 qb2
    clear h1 h2 h3
    go_wp2_with fail
    refine hcc.mono ?_
    clear hcc
    rintro e w3 ⟨rfl, d3, c3, hs3, hp3, hg3⟩
    have H3 := Lib.hid (And.intro hs3 (And.intro hp3 hg3))
    clear hs3 hp3 hg3
    go_wp2_with fail
    go_ret
    exact ⟨rfl, _, _, H3.out.1, H3.out.2.1, grown_trans HG.out H3.out.2.2⟩
  | both h1 h2 h3 u v =>
    rw [HR.out.1, HR.out.2] at h1
    rw [HR.out.1] at h2
    rw [HR.out.2] at h3
    have hxy : ¬ x = y := h1
    obtain ⟨_, hp1, hq1, _⟩ := HA.out.pair x hya _ _ h2
    obtain ⟨_, hp2, hq2, _⟩ := HA.out.pair y hyb _ _ h3
    have hcc := u.2 hp1 hp2 ⟨r, HA.out⟩ d c2 W HSW.out HS.out.2
    have HV := Lib.hid (fun d3 c3 w3 hs3 hp3 => v.2 hq1 hq2 (TypP.uni_acy u.1 hp1 hp2 ⟨r, HA.out⟩) d3 c3 w3 hs3 hp3)
    clear u v
    rw [h2] at qa0 qa1 qa2
    rw [h3] at qb0 qb1 qb2
    simp only [Kd.code, Kd.fst, Kd.snd] at qa0 qa1 qa2 qb0 qb1 qb2
    have HKK := Lib.hid (And.intro h2 h3)
    clear h1 h2 h3
    go_wp2_with fail
    refine hcc.mono ?_
    clear hcc qa0 qa1 qa2 qb0 qb1 qb2
    rintro e w3 ⟨rfl, d3, c3, hs3, hp3, hg3⟩
    have H3 := Lib.hid (And.intro hs3 (And.intro hp3 hg3))
    have ht := HT.out.step hg3
    have qa := cellsOf3 ht.1
    have qb := cellsOf3 ht.2
    rw [HKK.out.1] at qa
    rw [HKK.out.2] at qb
    simp only [Kd.code, Kd.fst, Kd.snd] at qa qb
    obtain ⟨qa0, qa1, qa2⟩ := qa
    obtain ⟨qb0, qb1, qb2⟩ := qb
    have hcc := HV.out d3 c3 w3 hs3 hp3
    clear hs3 hp3 hg3 ht
    go_wp2_with fail
    refine hcc.mono ?_
    clear hcc
    rintro e w4 ⟨rfl, d4, c4, hs4, hp4, hg4⟩
    have H4 := Lib.hid (And.intro hs4 (And.intro hp4 hg4))
    clear hs4 hp4 hg4
    go_wp2_with fail
    go_ret
    exact ⟨rfl, _, _, H4.out.1, H4.out.2.1, grown_trans HG.out (grown_trans H3.out.2.2 H4.out.2.2)⟩
end Go.Proofs.YtpbiiigacfhbhaaDoor
