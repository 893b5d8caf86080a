/- How many parts a value has: the law's size, and Big. -/
import Derived.Test.YtofijodndilmbaaDoorVal7
set_option linter.unusedVariables false
set_option linter.unusedSimpArgs false
namespace Go.Proofs.YtofijodndilmbaaDoor
open Go.RowKit

theorem cntL_take : ∀ {ks : List V} {i : Nat}, i < ks.length → cntL (ks.take (i + 1)) = cntL (ks.take i) + (ks.getD i default).cnt
  | [], i, h => by simp at h
  | k :: r, 0, h => by simp [cntL]
  | k :: r, i + 1, h => by
    have := cntL_take (ks := r) (i := i) (by simpa using h)
    simp only [List.take_succ_cons, cntL, List.getD_cons_succ]
    omega
theorem cntL_take_le : ∀ (ks : List V) (i : Nat), cntL (ks.take i) ≤ cntL ks
  | [], i => by simp [cntL]
  | k :: r, 0 => by simp [cntL]
  | k :: r, i + 1 => by
    have := cntL_take_le r i
    simp only [List.take_succ_cons, cntL]
    omega

set_option maxRecDepth 100000 in
set_option maxHeartbeats 8000000 in
theorem size_in : ∀ (N : Nat) (w : World) (v : V) (s : Value), SizeOf.sizeOf v ≤ N → At w v s →
    Calls Tryd.prog 21 #[aggV v s] w fun e w' => (∃ z : Int, e = .returned (.int .i64 z)) ∧ Below w.heap.size w w' := by
  intro N
  induction N with
  | zero =>
    intro w v s h
    cases v
    simp only [V.mk.sizeOf_spec] at h
    omega
  | succ N ih =>
    intro w v s hN h
    obtain ⟨A, cap, rfl, hmax, _⟩ := h.inv
    have HA := Lib.hid h
    have hb0 := (Below.refl w.heap.size w).alloc (Nat.le_refl _) (.cells #[.string v.op, .int .i64 v.num, .slice A v.kids.length cap] 24)
    have HB := Lib.hid hb0
    have IH := Lib.hid ih
    have HS := Lib.hid (fun (i : Nat) (hi : i < v.kids.length) => v.kid_lt hi)
    have HN := Lib.hid hN
    clear ih hN h hb0
    unfold aggV
    generalize hop : v.op = op at *
    generalize hnum : v.num = num at *
    generalize hkl : v.kids.length = L at *
    have HO := Lib.hid (And.intro hop (And.intro hnum hkl))
    clear hop hnum hkl
    go_enter Tryd.func21, Tryd.ntmps21
    go_wp2_with fail
    generalize w.alloc (.cells #[.string op, .int .i64 num, .slice A L cap] 24) = W at *
    go_loopg [3, 13] L (fun gk nv iv wr => ∃ (n : Int) (i : Nat), nv = .int .i64 n ∧ iv = .int .i64 i ∧ i + gk = L ∧ Below w.heap.size w wr)
    case atStart => exact ⟨_, 0, rfl, rfl, by omega, HB.out⟩
    case round =>
      obtain ⟨n, i, rfl, rfl, hi, hbe⟩ := hrel
      have HBE := Lib.hid hbe
      clear hbe
      by_cases e : i = L
      · subst e
        go_wp2_with fail
        go_ret
        exact ⟨⟨n, rfl⟩, HBE.out⟩
      · have hil : i < L := by omega
        have hil' : i < v.kids.length := by rw [HO.out.2.2]; exact hil
        obtain ⟨A', ca', eA, _, hka⟩ := (HA.out.under HBE.out).inv
        obtain ⟨b1, o1, s1, e1, ⟨p0, p1, p2⟩, hat1⟩ := hka i hil'
        have eA' : A = some ⟨b1, o1, none⟩ := by rw [← e1]; injection eA
        subst eA'
        obtain ⟨A1, k1, rfl, _, _⟩ := hat1.inv
        have hsz := HS.out i hil
        have hN' := HN.out
        have hbw : Below wr.heap.size wr (wr.alloc (.cells #[.string (v.kids.getD i default).op, .int .i64 (v.kids.getD i default).num, .slice A1 (v.kids.getD i default).kids.length k1] 24)) := (Below.refl wr.heap.size wr).alloc (Nat.le_refl _) _
        have hc := IH.out _ _ _ (show SizeOf.sizeOf (v.kids.getD i default) ≤ N by omega) (hat1.under hbw)
        have HBW := Lib.hid (HBE.out.trans (hbw.mono HBE.out.size))
        have hi4 : i ≤ 2932031007317 := by omega
        have HW2 := Lib.hid (show w.heap.size ≤ (wr.alloc (.cells #[.string (v.kids.getD i default).op, .int .i64 (v.kids.getD i default).num, .slice A1 (v.kids.getD i default).kids.length k1] 24)).heap.size by have := HBE.out.size; simp; omega)
        clear hka eA e1 hat1 hsz hN' hbw
        unfold aggV at hc
        generalize v.kids.getD i default = x at *
        generalize x.op = xo at *
        generalize x.num = xn at *
        go_wp2_with fail
        refine hc.mono ?_
        clear hc
        rintro e w3 ⟨⟨z, rfl⟩, hb3⟩
        have HB3 := Lib.hid (HBW.out.trans (hb3.mono HW2.out))
        clear hb3 p0 p1 p2
        go_wp2_with fail
        · go_ret
          exact ⟨⟨_, rfl⟩, HB3.out⟩
        · go_roundg (gk - 1)
          case measure => omega
          case rel => exact ⟨_, i + 1, rfl, by simp, by omega, HB3.out⟩
end Go.Proofs.YtofijodndilmbaaDoor
