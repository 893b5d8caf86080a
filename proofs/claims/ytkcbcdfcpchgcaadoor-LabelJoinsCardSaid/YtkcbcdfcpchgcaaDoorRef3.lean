/- Contracts of the reference's Meet, Bottom, Top. PRINTED by genref.py of this folder. -/
import Derived.Test.YtkcbcdfcpchgcaaDoorRef1
set_option linter.unusedVariables false
set_option linter.unusedSimpArgs false
namespace Go.Proofs.YtkcbcdfcpchgcaaDoor
open Go.RowKit
open OrdP (inB Rel allB allB_iff)


set_option maxRecDepth 100000 in
set_option maxHeartbeats 4000000 in
theorem refBottom_in (w : World) (bB n cap : Nat) (R : Rel) (h1 : 1 ≤ n) (hn : n ≤ 32) (hr : RefAt w bB n R) :
    Calls Tryd.prog 15 #[.agg #[.int .i64 n, .slice (some ⟨bB, 0, none⟩) n cap]] w fun e w' => e = .returned (.int .i64 (OrdP.bottom n R)) ∧ Below w.heap.size w w' := by
  have hbel : Below w.heap.size w (w.alloc (refBox n bB cap)) := (Below.refl _ _).alloc (Nat.le_refl _) _
  have hr1 := hr.below hbel
  obtain ⟨c0, c1⟩ := refBox_cells w n bB cap
  obtain ⟨row, h1, h2⟩ := hr1
  have H1 := Lib.hid h1; clear h1
  have H2 := Lib.hid h2; clear h2 hr
  have HB := Lib.hid hbel; clear hbel
  have hst : OrdP.first n (fun c => allB n fun d => R c d) = OrdP.bottom n R := by
    unfold OrdP.bottom OrdP.least
    refine OrdP.first_congr fun c hc => ?_
    simp
  go_enter Tryd.func15, Tryd.ntmps15
  go_wp2_with fail
  rw [show Obj.cells #[Value.int .i64 (n : Int), Value.slice (some ⟨bB, 0, none⟩) n cap] 28 = refBox n bB cap from rfl]
  generalize hW1 : w.alloc (refBox n bB cap) = W1 at *
  clear hW1
  have HST := Lib.hid hst; clear hst
  go_loop [2, 3, 4, 5] (fun r ci is di => ∃ c : Nat, c ≤ n ∧ ci = .int .i64 c ∧ OrdP.firstFrom (fun c => allB n fun d => R c d) (n - c) c = OrdP.bottom n R) (fun _ ci _ _ => n - (intOf ci).toNat)
  case atStart => exact ⟨0, Nat.zero_le _, rfl, HST.out⟩
  case round =>
    obtain ⟨c, hc, rfl, he⟩ := hrel
    by_cases hlt : c < n
    · have HE := Lib.hid (first_step hlt he); clear he
      have hlt' : (c : Int) < n := by omega
      have rc := H1.out c hlt
      go_wp2_with fail
      go_loop [4, 5] (fun is di => ∃ d : Nat, d ≤ n ∧ di = .int .i64 d ∧ is = .bool (allB d fun d => R c d)) (fun _ di => n - (intOf di).toNat)
      case atStart => exact ⟨0, Nat.zero_le _, rfl, rfl⟩
      case round =>
        obtain ⟨d, hd, rfl, rfl⟩ := hrel
        by_cases hdt : d < n
        · have hdt' : (d : Int) < n := by omega
          have tc := H2.out c d (by omega) (by omega)
          have rd := H1.out d hdt
          have HS := Lib.hid (allB_succ d fun d => R c d)
          cases ua : allB d fun d => R c d
          · have HU := Lib.hid ua; clear ua
            go_wp2_with fail
            go_round
            case rel => exact ⟨d + 1, by omega, by go_num, by rw [HS.out, HU.out]; simp⟩
            case measure => simp [intOf]; omega
          · have HU := Lib.hid ua; clear ua
            go_wp2_with fail
            go_round
            case rel => exact ⟨d + 1, by omega, by go_num, by rw [HS.out, HU.out]; simp⟩
            case measure => simp [intOf]; omega
        · obtain rfl : d = n := by omega
          cases ht : allB d fun d => R c d
          · have HT := Lib.hid ht; clear ht
            go_wp2_with fail
            go_round
            case rel => exact ⟨c + 1, by omega, by go_num, by have := HE.out; rw [HT.out] at this; simpa using this⟩
            case measure => simp [intOf]; omega
          · have HT := Lib.hid ht; clear ht
            go_wp2_with fail
            go_ret
            exact ⟨ret_int (by have := HE.out; rw [HT.out] at this; simpa using this), HB.out⟩
    · obtain rfl : c = n := by omega
      have HE := Lib.hid he; clear he
      go_wp2_with fail
      go_ret
      exact ⟨ret_int (by have := HE.out; simpa [OrdP.firstFrom] using this), HB.out⟩

set_option maxRecDepth 100000 in
set_option maxHeartbeats 4000000 in
theorem refTop_in (w : World) (bB n cap : Nat) (R : Rel) (h1 : 1 ≤ n) (hn : n ≤ 32) (hr : RefAt w bB n R) :
    Calls Tryd.prog 17 #[.agg #[.int .i64 n, .slice (some ⟨bB, 0, none⟩) n cap]] w fun e w' => e = .returned (.int .i64 (OrdP.top n R)) ∧ Below w.heap.size w w' := by
  have hbel : Below w.heap.size w (w.alloc (refBox n bB cap)) := (Below.refl _ _).alloc (Nat.le_refl _) _
  have hr1 := hr.below hbel
  obtain ⟨c0, c1⟩ := refBox_cells w n bB cap
  obtain ⟨row, h1, h2⟩ := hr1
  have H1 := Lib.hid h1; clear h1
  have H2 := Lib.hid h2; clear h2 hr
  have HB := Lib.hid hbel; clear hbel
  have hst : OrdP.first n (fun c => allB n fun d => R d c) = OrdP.top n R := by
    unfold OrdP.top OrdP.bottom OrdP.least
    refine OrdP.first_congr fun c hc => ?_
    simp [OrdP.flip]
  go_enter Tryd.func17, Tryd.ntmps17
  go_wp2_with fail
  rw [show Obj.cells #[Value.int .i64 (n : Int), Value.slice (some ⟨bB, 0, none⟩) n cap] 28 = refBox n bB cap from rfl]
  generalize hW1 : w.alloc (refBox n bB cap) = W1 at *
  clear hW1
  have HST := Lib.hid hst; clear hst
  go_loop [2, 3, 4, 5] (fun r ci is di => ∃ c : Nat, c ≤ n ∧ ci = .int .i64 c ∧ OrdP.firstFrom (fun c => allB n fun d => R d c) (n - c) c = OrdP.top n R) (fun _ ci _ _ => n - (intOf ci).toNat)
  case atStart => exact ⟨0, Nat.zero_le _, rfl, HST.out⟩
  case round =>
    obtain ⟨c, hc, rfl, he⟩ := hrel
    by_cases hlt : c < n
    · have HE := Lib.hid (first_step hlt he); clear he
      have hlt' : (c : Int) < n := by omega
      have rc := H1.out c hlt
      go_wp2_with fail
      go_loop [4, 5] (fun is di => ∃ d : Nat, d ≤ n ∧ di = .int .i64 d ∧ is = .bool (allB d fun d => R d c)) (fun _ di => n - (intOf di).toNat)
      case atStart => exact ⟨0, Nat.zero_le _, rfl, rfl⟩
      case round =>
        obtain ⟨d, hd, rfl, rfl⟩ := hrel
        by_cases hdt : d < n
        · have hdt' : (d : Int) < n := by omega
          have tc := H2.out d c (by omega) (by omega)
          have rd := H1.out d hdt
          have HS := Lib.hid (allB_succ d fun d => R d c)
          cases ua : allB d fun d => R d c
          · have HU := Lib.hid ua; clear ua
            go_wp2_with fail
            go_round
            case rel => exact ⟨d + 1, by omega, by go_num, by rw [HS.out, HU.out]; simp⟩
            case measure => simp [intOf]; omega
          · have HU := Lib.hid ua; clear ua
            go_wp2_with fail
            go_round
            case rel => exact ⟨d + 1, by omega, by go_num, by rw [HS.out, HU.out]; simp⟩
            case measure => simp [intOf]; omega
        · obtain rfl : d = n := by omega
          cases ht : allB d fun d => R d c
          · have HT := Lib.hid ht; clear ht
            go_wp2_with fail
            go_round
            case rel => exact ⟨c + 1, by omega, by go_num, by have := HE.out; rw [HT.out] at this; simpa using this⟩
            case measure => simp [intOf]; omega
          · have HT := Lib.hid ht; clear ht
            go_wp2_with fail
            go_ret
            exact ⟨ret_int (by have := HE.out; rw [HT.out] at this; simpa using this), HB.out⟩
    · obtain rfl : c = n := by omega
      have HE := Lib.hid he; clear he
      go_wp2_with fail
      go_ret
      exact ⟨ret_int (by have := HE.out; simpa [OrdP.firstFrom] using this), HB.out⟩

end Go.Proofs.YtkcbcdfcpchgcaaDoor
