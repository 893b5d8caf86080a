/- The reference's Right and Line. -/
import Derived.Test.YtinebmfmkgjaaaaGreatDoorAuR1
set_option linter.unusedVariables false
set_option linter.unusedSimpArgs false
namespace Go.Proofs.YtinebmfmkgjaaaaGreatDoor
open Go.RowKit

set_option maxRecDepth 100000 in
set_option maxHeartbeats 8000000 in
theorem refRight_in (r : Rw) (w : World) : Calls Tryz.prog 31 #[rowV r] w fun e w' => e = .returned (.bool r.right) ∧ Below w.heap.size w w' := by
  rw [right_ref]
  obtain ⟨l, c, h, f, t, u⟩ := r
  unfold rowV
  simp only
  have HN := Lib.hid fun n W => refnum_in n W
  have HM := Lib.hid fun x W => refname_in x W
  go_enter Tryz.func31, Tryz.ntmps31
  have hb0 := (Below.refl w.heap.size w).alloc (Nat.le_refl _) (.cells #[.int .i64 l, .int .i64 c, .string h, .string f, .string t, .string u] 59)
  have HCL := Lib.hid (show ∀ W, Below (w.alloc (.cells #[.int .i64 l, .int .i64 c, .string h, .string f, .string t, .string u] 59)).heap.size (w.alloc (.cells #[.int .i64 l, .int .i64 c, .string h, .string f, .string t, .string u] 59)) W → W.heap[w.heap.size]? = some (.cells #[.int .i64 l, .int .i64 c, .string h, .string f, .string t, .string u] 59) from fun W hb => (hb.block _ (by simp)).trans (last w _))
  have HB0 := Lib.hid hb0
  have hbl := Below.refl (w.alloc (.cells #[.int .i64 l, .int .i64 c, .string h, .string f, .string t, .string u] 59)).heap.size (w.alloc (.cells #[.int .i64 l, .int .i64 c, .string h, .string f, .string t, .string u] 59))
  obtain ⟨a0, a1, a2, a3, a4, a5⟩ := cellsOf6 (HCL.out _ hbl)
  clear hb0
  have H1 := Lib.hid hbl
  clear hbl
  go_wp2_with fail
  generalize w.alloc (.cells #[.int .i64 l, .int .i64 c, .string h, .string f, .string t, .string u] 59) = w1 at *
  refine (HN.out l w1).mono ?_
  rintro e w2 ⟨rfl, rfl⟩
  go_wp2_with fail
  refine (HN.out c w1).mono ?_
  rintro e w2 ⟨rfl, rfl⟩
  go_wp2_with fail
  refine (HM.out h w1).mono ?_
  rintro e w3 ⟨rfl, hb⟩
  have H3 := Lib.hid (chain H1.out hb)
  clear hb a0 a1 a2 a3 a4 a5
  obtain ⟨a0, a1, a2, a3, a4, a5⟩ := cellsOf6 (HCL.out _ H3.out)
  go_wp2_with fail
  refine (HM.out f w3).mono ?_
  rintro e w4 ⟨rfl, hb⟩
  have H4 := Lib.hid (chain H3.out hb)
  clear hb a0 a1 a2 a3 a4 a5
  obtain ⟨a0, a1, a2, a3, a4, a5⟩ := cellsOf6 (HCL.out _ H4.out)
  go_wp2_with fail
  refine (HM.out t w4).mono ?_
  rintro e w5 ⟨rfl, hb⟩
  have H5 := Lib.hid (chain H4.out hb)
  clear hb a0 a1 a2 a3 a4 a5
  obtain ⟨a0, a1, a2, a3, a4, a5⟩ := cellsOf6 (HCL.out _ H5.out)
  go_wp2_with fail
  refine (HM.out u w5).mono ?_
  rintro e w6 ⟨rfl, hb⟩
  have H6 := Lib.hid (chain HB0.out (chain H5.out hb))
  have H7 := Lib.hid (chain H5.out hb)
  clear hb a0 a1 a2 a3 a4 a5
  obtain ⟨a0, a1, a2, a3, a4, a5⟩ := cellsOf6 (HCL.out _ H7.out)
  have HMU := Lib.hid (show mainB u = (u.toList == [109, 97, 105, 110]) from rfl)
  generalize k1 : numOk l = b1 at *
  generalize k2 : numOk c = b2 at *
  generalize k3 : oneB h = b3 at *
  generalize k4 : oneB f = b4 at *
  generalize k5 : oneB t = b5 at *
  generalize k6 : oneB u = b6 at *
  cases b1 with
  | false =>
    go_wp2_with fail
    go_ret
    exact ⟨by simp [*], H6.out⟩
  | true =>
    cases b2 with
    | false =>
      go_wp2_with fail
      go_ret
      exact ⟨by simp [*], H6.out⟩
    | true =>
      cases b3 with
      | false =>
        go_wp2_with fail
        go_ret
        exact ⟨by simp [*], H6.out⟩
      | true =>
        cases b4 with
        | false =>
          go_wp2_with fail
          go_ret
          exact ⟨by simp [*], H6.out⟩
        | true =>
          cases b5 with
          | false =>
            go_wp2_with fail
            go_ret
            exact ⟨by simp [*], H6.out⟩
          | true =>
            cases b6 with
            | true =>
              go_wp2_with fail
              go_ret
              exact ⟨by simp [*], H6.out⟩
            | false =>
              cases hmu : mainB u with
              | true =>
                have hm2 : (u.toList == [109, 97, 105, 110]) = true := HMU.out.symm.trans hmu
                go_wp2_with fail
                go_ret
                exact ⟨by simp [*], H6.out⟩
              | false =>
                have hm2 : (u.toList == [109, 97, 105, 110]) = false := HMU.out.symm.trans hmu
                go_wp2_with fail
                go_ret
                exact ⟨by simp [*], H6.out⟩

set_option maxRecDepth 100000 in
set_option maxHeartbeats 8000000 in
theorem refLine_in (r : Rw) (w : World) (hok : r.ok) : Calls Tryz.prog 32 #[rowV r] w fun e w' => e = .returned (.string (rowB r)) ∧ Below w.heap.size w w' := by
  have hz := row_sizes hok
  have HRB := Lib.hid (show rowB r = atB r.l r.c ++ ⟨#[32, 114, 101, 108, 101, 97, 115, 101, 32]⟩ ++ r.h ++ ⟨#[32, 102, 114, 111, 109, 32]⟩ ++ r.f ++ ⟨#[32, 116, 111, 32]⟩ ++ r.t ++ ⟨#[32, 105, 110, 32]⟩ ++ r.u from rfl)
  have HA := Lib.hid fun W => refAt_in r.l r.c W hok.1 hok.2.1
  clear hok
  generalize hRB : rowB r = RB at *
  clear hRB
  obtain ⟨l, c, h, f, t, u⟩ := r
  unfold rowV
  simp only at *
  generalize atB l c = P at *
  go_enter Tryz.func32, Tryz.ntmps32
  have hb0 := (Below.refl w.heap.size w).alloc (Nat.le_refl _) (.cells #[.int .i64 l, .int .i64 c, .string h, .string f, .string t, .string u] 59)
  have HCL := Lib.hid (show ∀ W, Below (w.alloc (.cells #[.int .i64 l, .int .i64 c, .string h, .string f, .string t, .string u] 59)).heap.size (w.alloc (.cells #[.int .i64 l, .int .i64 c, .string h, .string f, .string t, .string u] 59)) W → W.cell? ⟨w.heap.size, 0, none⟩ = some (.int .i64 l) ∧ W.cell? ⟨w.heap.size, 1, none⟩ = some (.int .i64 c) ∧ W.cell? ⟨w.heap.size, 2, none⟩ = some (.string h) ∧ W.cell? ⟨w.heap.size, 3, none⟩ = some (.string f) ∧ W.cell? ⟨w.heap.size, 4, none⟩ = some (.string t) ∧ W.cell? ⟨w.heap.size, 5, none⟩ = some (.string u) from fun W hb => cellsOf6 ((hb.block _ (by simp)).trans (last w _)))
  have HB0 := Lib.hid hb0
  clear hb0
  have z1 : ¬ 9223372036854775807 < P.size + 9 := by omega
  have z2 : ¬ 9223372036854775807 < P.size + 9 + h.size := by omega
  have z3 : ¬ 9223372036854775807 < P.size + 9 + h.size + 6 := by omega
  have z4 : ¬ 9223372036854775807 < P.size + 9 + h.size + 6 + f.size := by omega
  have z5 : ¬ 9223372036854775807 < P.size + 9 + h.size + 6 + f.size + 4 := by omega
  have z6 : ¬ 9223372036854775807 < P.size + 9 + h.size + 6 + f.size + 4 + t.size := by omega
  have z7 : ¬ 9223372036854775807 < P.size + 9 + h.size + 6 + f.size + 4 + t.size + 4 := by omega
  have z8 : ¬ 9223372036854775807 < P.size + 9 + h.size + 6 + f.size + 4 + t.size + 4 + u.size := by omega
  go_upto_region 1 with fail
  have hbw1 := (Below.refl (w.alloc (.cells #[.int .i64 l, .int .i64 c, .string h, .string f, .string t, .string u] 59)).heap.size (w.alloc (.cells #[.int .i64 l, .int .i64 c, .string h, .string f, .string t, .string u] 59))).drew
  generalize w.alloc (.cells #[.int .i64 l, .int .i64 c, .string h, .string f, .string t, .string u] 59) = w1 at *
  obtain ⟨c0, c1, c2, c3, c4, c5⟩ := HCL.out _ hbw1
  go_region_held3 (fun w' => w'.cell? ⟨w.heap.size, 0, none⟩ = some (.int .i64 l) ∧ w'.cell? ⟨w.heap.size, 1, none⟩ = some (.int .i64 c) ∧ w'.cell? ⟨w.heap.size, 2, none⟩ = some (.string h) ∧ w'.cell? ⟨w.heap.size, 3, none⟩ = some (.string f) ∧ w'.cell? ⟨w.heap.size, 4, none⟩ = some (.string t) ∧ w'.cell? ⟨w.heap.size, 5, none⟩ = some (.string u))
    (first | exact HCL.out _ (by with_reducible assumption))
    (first | (go_at_call 67; refine (HA.out _).mono ?_; rintro e w3 ⟨rfl, hbn⟩; have hbw3 := chain (by with_reducible assumption) hbn; clear hbn; obtain ⟨c0, c1, c2, c3, c4, c5⟩ := HCL.out _ hbw3))
  all_goals
    have HBB := Lib.hid (chain HB0.out hbw3)
    go_wp2_with fail
    go_ret
    exact ⟨by rw [HRB.out]; rfl, HBB.out⟩
end Go.Proofs.YtinebmfmkgjaaaaGreatDoor
