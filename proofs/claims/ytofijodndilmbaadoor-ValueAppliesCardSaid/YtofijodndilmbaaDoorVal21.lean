/- The law's lives. -/
import Derived.Test.YtofijodndilmbaaDoorVal20
set_option linter.unusedVariables false
set_option linter.unusedSimpArgs false
namespace Go.Proofs.YtofijodndilmbaaDoor
open Go.RowKit

theorem right_leaf {v : V} (h : (v.op.toList == lI) = true) (hk : v.kids = []) : ∀ {N : Nat}, SizeOf.sizeOf v ≤ N → rightF N v = true
  | 0, h0 => by
    cases v
    simp only [V.mk.sizeOf_spec] at h0
    omega
  | N + 1, _ => by
    unfold rightF
    rw [h, hk]
    rfl
theorem bI_list : (bI.toList == lI) = true := by rw [ByteArray.toList_eq]; rfl
theorem bU_list : (bU.toList == lI) = false := by rw [ByteArray.toList_eq]; rfl
theorem bU_list2 : (bU.toList == lU) = true := by rw [ByteArray.toList_eq]; rfl
theorem plus_list : ((⟨#[43]⟩ : ByteArray).toList == [43]) = true := by rw [ByteArray.toList_eq]; rfl
theorem plus_list2 : ((⟨#[43]⟩ : ByteArray).toList == lP) = false := by rw [ByteArray.toList_eq]; rfl
theorem right_vInt (n : Int) : rightB (vInt n) = true := right_leaf (v := vInt n) bI_list rfl (Nat.le_refl _)
theorem lives_apply : applyF ⟨#[43]⟩ [vInt 2, vInt 3] = (vInt 5, 0) := by
  have h1 : allRight [vInt 2, vInt 3] = true := by
    unfold allRight
    rw [List.all_eq_true]
    intro i hi
    have hi := List.mem_range.1 hi
    match i, hi with
    | 0, _ => exact right_vInt 2
    | 1, _ => exact right_vInt 3
  have h2 : switchF ⟨#[43]⟩ [vInt 2, vInt 3] = (vInt 5, true) := by
    show twoF ⟨#[43]⟩ (vInt 2) (vInt 3) = _
    unfold twoF
    rw [plus_list2, show (vInt 2).op = bI from rfl, show (vInt 3).op = bI from rfl, bI_list]
    show numF ⟨#[43]⟩ 2 3 = _
    unfold numF
    rw [plus_list]
    have : wrap64 (2 + 3) = 5 := by decide +kernel
    rw [this]
    rfl
  unfold applyF
  rw [h1, h2, plus_list2]
  rfl
theorem same_refl : ∀ (N : Nat) (v : V), SizeOf.sizeOf v ≤ N → sameF N v v = true
  | 0, v, h => by
    cases v
    simp only [V.mk.sizeOf_spec] at h
    omega
  | N + 1, v, h => by
    unfold sameF
    have hk : ((List.range v.kids.length).all fun i => sameF N (v.kids.getD i default) (v.kids.getD i default)) = true := by
      rw [List.all_eq_true]
      intro i hi
      have hi := List.mem_range.1 hi
      have := v.kid_lt hi
      exact same_refl N _ (by omega)
    rw [hk]
    simp
theorem show_vUnit : ∀ {N : Nat}, SizeOf.sizeOf vUnit ≤ N → showF N vUnit = ⟨#[40, 41]⟩
  | 0, h => by
    unfold vUnit at h
    simp only [V.mk.sizeOf_spec] at h
    omega
  | N + 1, _ => by
    have hr : rightF (N + 1) vUnit = true := by
      unfold rightF
      rw [show vUnit.op = bU from rfl, bU_list, bU_list2, show vUnit.num = 0 from rfl, show vUnit.kids = [] from rfl]
      simp
    exact show_unit hr rfl bU_list bU_list2
theorem rng_leaf {v : V} (hn : v.num = 0) (hk : v.kids = []) : v.rng := (rng_eq v).2 ⟨by rw [hn]; decide, by rw [hk]; exact trivial⟩

set_option maxRecDepth 100000 in
set_option maxHeartbeats 8000000 in
theorem Lives_in (w : World) (ht : TabOk w) :
    Calls Tryd.prog 5 #[] w fun e w' => e = .returned (.bool true) ∧ Below w.heap.size w w' := by
  have HT := Lib.hid ht
  clear ht
  have hc := Int_in w 2
  go_enter Tryd.func5, Tryd.ntmps5
  go_wp2_with fail
  refine hc.mono ?_
  clear hc
  rintro e w1 ⟨rfl, hb1⟩
  have hc := Int_in w1 3
  go_wp2_with fail
  refine hc.mono ?_
  clear hc
  rintro e w2 ⟨rfl, hb2⟩
  have HB2 := Lib.hid (hb1.trans (hb2.mono hb1.size))
  clear hb1 hb2
  unfold aggV
  have hl := last w2 (.cells #[.string bI, .int .i64 2, nilS, .string bI, .int .i64 3, nilS] 24)
  have hla : ListAt (w2.alloc (.cells #[.string bI, .int .i64 2, nilS, .string bI, .int .i64 3, nilS] 24)) [vInt 2, vInt 3] (some ⟨w2.heap.size, 0, none⟩) (fun _ => nilS) := by
    refine ⟨.inr ⟨_, _, rfl, fun i hi => ?_⟩, fun i hi => ?_⟩
    · match i, hi with
      | 0, _ => refine ⟨?_, ?_, ?_⟩ <;> simp only [World.cell?, hl] <;> rfl
      | 1, _ => refine ⟨?_, ?_, ?_⟩ <;> simp only [World.cell?, hl] <;> rfl
    · match i, hi with
      | 0, _ => exact .leaf
      | 1, _ => exact .leaf
  have hc := Apply_in ⟨#[43]⟩ [vInt 2, vInt 3] (some ⟨w2.heap.size, 0, none⟩) 2 _ _ (by simp) hla
  rw [lives_apply] at hc
  have HBA := Lib.hid (HB2.out.alloc (HB2.out.size) (.cells #[.string bI, .int .i64 2, nilS, .string bI, .int .i64 3, nilS] 24))
  clear hl hla
  replace hc : Calls Tryd.prog 18 #[.string ⟨#[43]⟩, .slice (some ⟨w2.heap.size, 0, none⟩) 2 2] (w2.alloc (.cells #[.string bI, .int .i64 2, nilS, .string bI, .int .i64 3, nilS] 24)) fun e w' => (∃ A k, e = .returned (.tuple #[.agg #[.string bI, .int .i64 5, .slice A 0 k], .int .i64 0]) ∧ At w' (vInt 5) (.slice A 0 k)) ∧ Below (w2.alloc (.cells #[.string bI, .int .i64 2, nilS, .string bI, .int .i64 3, nilS] 24)).heap.size (w2.alloc (.cells #[.string bI, .int .i64 2, nilS, .string bI, .int .i64 3, nilS] 24)) w' := hc.mono fun e w' ⟨⟨s', he, hp, _⟩, hb⟩ => by
    obtain ⟨A, k, rfl⟩ := hp.form
    exact ⟨⟨A, k, he, hp.at⟩, hb⟩
  go_wp2_with fail
  refine hc.mono ?_
  clear hc
  rintro e w3 ⟨⟨A, k, rfl, hat⟩, hb3⟩
  have HB3 := Lib.hid (HBA.out.trans (hb3.mono HBA.out.size))
  clear hb3
  go_wp2_with fail
  have HB4 := Lib.hid (HB3.out.alloc HB3.out.size (.cells #[.string bI, .int .i64 5, .slice A 0 k] 24))
  have hl := last w3 (.cells #[.string bI, .int .i64 5, .slice A 0 k] 24)
  have HAT := Lib.hid (hat.alloc (.cells #[.string bI, .int .i64 5, .slice A 0 k] 24))
  have hlt := heap_lt hl
  clear hat
  generalize w3.alloc (.cells #[.string bI, .int .i64 5, .slice A 0 k] 24) = W4 at *
  generalize w3.heap.size = ob at *
  have HLB := Lib.hid hl
  have HKP := Lib.hid (show ∀ w', Below W4.heap.size W4 w' → w'.cell? ⟨ob, 0, none⟩ = some (.string bI) ∧ w'.cell? ⟨ob, 1, none⟩ = some (.int .i64 5) ∧ w'.cell? ⟨ob, 2, none⟩ = some (.slice A 0 k) from fun w' hb => cellsOf3 ((hb.block _ hlt).trans hl))
  obtain ⟨x0, x1, x2⟩ := cellsOf3 hl
  have HSA := Lib.hid (show ∀ w', Below W4.heap.size W4 w' → Calls Tryd.prog 8 #[.agg #[.string bI, .int .i64 5, .slice A 0 k], .agg #[.string bI, .int .i64 5, nilS]] w' fun e w'' => e = .returned (.bool true) ∧ Below w'.heap.size w' w'' from fun w' hb => by
    have := Same_in _ w' (vInt 5) (vInt 5) _ _ (Nat.le_refl _) (HAT.out.under hb) (.leaf (A := none) (cap := 0))
    rw [same_refl _ _ (Nat.le_refl _)] at this
    exact this)
  have HSH := Lib.hid (show ∀ w', Below W4.heap.size W4 w' → Calls Tryd.prog 13 #[.agg #[.string bU, .int .i64 0, nilS]] w' fun e w'' => e = .returned (.string ⟨#[40, 41]⟩) ∧ Below w'.heap.size w' w'' from fun w' hb => by
    have := Show_in _ w' vUnit nilS (Nat.le_refl _) (by decide +kernel) (rng_leaf rfl rfl) .leaf ((HT.out.under HB4.out).under hb)
    rw [show_vUnit (Nat.le_refl _)] at this
    exact this)
  have hbr : Below W4.heap.size W4 W4.drew := (Below.refl _ W4).drew
  have H5 := Lib.hid (fun w' => Int_in w' 5)
  have HU := Lib.hid (fun w' => Unit_in w')
  clear hl hlt
  go_region_held3 (fun w' => w'.cell? ⟨ob, 0, none⟩ = some (.string bI) ∧ w'.cell? ⟨ob, 1, none⟩ = some (.int .i64 5) ∧ w'.cell? ⟨ob, 2, none⟩ = some (.slice A 0 k)) (first | exact ⟨by assumption, by assumption, by assumption⟩)
    (first
      | (go_at_call 9; refine (H5.out _).mono ?_; rintro e wa ⟨rfl, hba⟩; have hbr' := hbr.trans (hba.mono hbr.size); obtain ⟨d0, d1, d2⟩ := HKP.out wa hbr'; unfold aggV vInt)
      | (go_at_call 8; refine (HSA.out _ (by assumption)).mono ?_; rintro e wb ⟨rfl, hbb⟩; have hbs := hbr'.trans (hbb.mono hbr'.size); obtain ⟨d0, d1, d2⟩ := HKP.out wb hbs)
      | (go_at_call 20; refine (HU.out _).mono ?_; rintro e wu ⟨rfl, hbu⟩; have hbu' := hbs.trans (hbu.mono hbs.size); obtain ⟨d0, d1, d2⟩ := HKP.out wu hbu'; unfold aggV vUnit)
      | (go_at_call 13; refine (HSH.out _ (by assumption)).mono ?_; rintro e wv ⟨rfl, hbv⟩; have hbv' := hbu'.trans (hbv.mono hbu'.size); obtain ⟨d0, d1, d2⟩ := HKP.out wv hbv'))
  all_goals
    have HF := Lib.hid (HB4.out.trans (hbv'.mono HB4.out.size))
    clear hba hbr' hbb hbs hbu hbu' hbv hbv'
    go_wp2_with fail
    go_ret
    exact ⟨by simp, HF.out⟩
end Go.Proofs.YtofijodndilmbaaDoor
