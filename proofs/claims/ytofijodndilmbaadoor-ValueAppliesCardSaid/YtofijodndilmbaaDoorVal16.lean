/- How many parts a value has: the tree's parts, and the reference's Parts. -/
import Derived.Test.YtofijodndilmbaaDoorVal15
set_option linter.unusedVariables false
set_option linter.unusedSimpArgs false
namespace Go.Proofs.YtofijodndilmbaaDoor
open Go.RowKit

mutual
/-- How many parts a value has, with theirs, and itself. -/
def V.parts : V → Nat
  | .mk _ _ ks => 1 + partsL ks
def partsL : List V → Nat
  | [] => 0
  | k :: r => k.parts + partsL r
end
theorem parts_eq (v : V) : v.parts = 1 + partsL v.kids := by
  cases v
  simp only [V.parts, V.kids]
mutual
theorem parts_le : ∀ v : V, v.parts ≤ v.cnt
  | .mk o n ks => by
    have := partsL_le ks
    simp only [V.parts, V.cnt]
    omega
theorem partsL_le : ∀ ks : List V, partsL ks ≤ cntL ks
  | [] => by simp [partsL, cntL]
  | k :: r => by
    have := parts_le k
    have := partsL_le r
    simp only [partsL, cntL]
    omega
end
theorem partsL_take : ∀ {ks : List V} {i : Nat}, i < ks.length → partsL (ks.take (i + 1)) = partsL (ks.take i) + (ks.getD i default).parts
  | [], i, h => by simp at h
  | k :: r, 0, h => by simp [partsL]
  | k :: r, i + 1, h => by
    have := partsL_take (ks := r) (i := i) (by simpa using h)
    simp only [List.take_succ_cons, partsL, List.getD_cons_succ]
    omega
theorem partsL_take_le : ∀ (ks : List V) (i : Nat), partsL (ks.take i) ≤ partsL ks
  | [], i => by simp [partsL]
  | k :: r, 0 => by simp [partsL]
  | k :: r, i + 1 => by
    have := partsL_take_le r i
    simp only [List.take_succ_cons, partsL]
    omega

theorem wrap_add (a b : Int) : wrap64 (wrap64 a + wrap64 b) = wrap64 (a + b) := by
  unfold wrap64
  omega
set_option maxRecDepth 100000 in
set_option maxHeartbeats 8000000 in
theorem parts_in : ∀ (N : Nat) (w : World) (v : V) (s : Value), SizeOf.sizeOf v ≤ N → At w v s →
    Calls Tryd.prog 26 #[aggV v s] w fun e w' => e = .returned (.int .i64 (wrap64 v.parts)) ∧ Below w.heap.size w w' := by
  intro N
  induction N with
  | zero =>
    intro w v s h
    cases v
    simp only [V.mk.sizeOf_spec] at h
    omega
  | succ N ih =>
    intro w v s hN h
    obtain ⟨A, cap, rfl, hmax, _⟩ := h.inv
    have HA := Lib.hid h
    have hb0 := (Below.refl w.heap.size w).alloc (Nat.le_refl _) (.cells #[.string v.op, .int .i64 v.num, .slice A v.kids.length cap] 24)
    have HB := Lib.hid hb0
    have IH := Lib.hid ih
    have HS := Lib.hid (fun (i : Nat) (hi : i < v.kids.length) => v.kid_lt hi)
    have HN := Lib.hid hN
    have HPE := Lib.hid (parts_eq v)
    clear ih hN h hb0
    unfold aggV
    generalize hvp : wrap64 (v.parts : Int) = vp at *
    have HVP := Lib.hid hvp
    generalize hop : v.op = op at *
    generalize hnum : v.num = num at *
    generalize hkl : v.kids.length = L at *
    have HO := Lib.hid (And.intro hop (And.intro hnum hkl))
    clear hop hnum hkl hvp
    go_enter Tryd.func26, Tryd.ntmps26
    go_wp2_with fail
    generalize w.alloc (.cells #[.string op, .int .i64 num, .slice A L cap] 24) = W at *
    go_loopg [3, 9] L (fun gk nv iv wr => ∃ (n : Int) (i : Nat), nv = .int .i64 n ∧ iv = .int .i64 i ∧ i + gk = L ∧ n = wrap64 ((1 + partsL (v.kids.take i) : Nat) : Int) ∧ Below w.heap.size w wr)
    case atStart => exact ⟨1, 0, rfl, rfl, by omega, by simp only [List.take_zero, partsL]; decide +kernel, HB.out⟩
    case round =>
      obtain ⟨n, i, rfl, rfl, hi, hn, hbe⟩ := hrel
      have HNI := Lib.hid hn
      have HBE := Lib.hid hbe
      clear hn hbe
      by_cases e : i = L
      · subst e
        go_wp2_with fail
        go_ret
        refine ⟨?_, HBE.out⟩
        have h1 := HNI.out
        have h2 := HPE.out
        rw [List.take_of_length_le (by rw [HO.out.2.2]; exact Nat.le_refl _)] at h1
        rw [← HVP.out, h2, ← h1]
        rfl
      · have hil : i < L := by omega
        have hil' : i < v.kids.length := by rw [HO.out.2.2]; exact hil
        obtain ⟨A', ca', eA, _, hka⟩ := (HA.out.under HBE.out).inv
        obtain ⟨b1, o1, s1, e1, ⟨p0, p1, p2⟩, hat1⟩ := hka i hil'
        have eA' : A = some ⟨b1, o1, none⟩ := by rw [← e1]; injection eA
        subst eA'
        obtain ⟨A1, k1, rfl, _, _⟩ := hat1.inv
        have hsz := HS.out i hil
        have hN' := HN.out
        have hbw : Below wr.heap.size wr (wr.alloc (.cells #[.string (v.kids.getD i default).op, .int .i64 (v.kids.getD i default).num, .slice A1 (v.kids.getD i default).kids.length k1] 24)) := (Below.refl wr.heap.size wr).alloc (Nat.le_refl _) _
        have hc := IH.out _ _ _ (show SizeOf.sizeOf (v.kids.getD i default) ≤ N by omega) (hat1.under hbw)
        have HBW := Lib.hid (HBE.out.trans (hbw.mono HBE.out.size))
        have HZ := Lib.hid (show wrap64 (n + wrap64 ((v.kids.getD i default).parts : Int)) = wrap64 ((1 + partsL (v.kids.take (i + 1)) : Nat) : Int) by rw [HNI.out, wrap_add, partsL_take hil']; exact congrArg wrap64 (by omega))
        have HW2 := Lib.hid (show w.heap.size ≤ (wr.alloc (.cells #[.string (v.kids.getD i default).op, .int .i64 (v.kids.getD i default).num, .slice A1 (v.kids.getD i default).kids.length k1] 24)).heap.size by have := HBE.out.size; simp; omega)
        clear hka eA e1 hat1 hsz hN' hbw
        unfold aggV at hc
        generalize v.kids.getD i default = x at *
        generalize x.op = xo at *
        generalize x.num = xn at *
        generalize wrap64 (x.parts : Int) = z at *
        go_wp2_with fail
        refine hc.mono ?_
        clear hc
        rintro e w3 ⟨rfl, hb3⟩
        have HB3 := Lib.hid (HBW.out.trans (hb3.mono HW2.out))
        clear hb3 p0 p1 p2
        go_wp2_with fail
        go_roundg (gk - 1)
        case measure => omega
        case rel => exact ⟨_, i + 1, rfl, by simp, by omega, HZ.out, HB3.out⟩

set_option maxRecDepth 100000 in
set_option maxHeartbeats 8000000 in
theorem RParts_in : ∀ (N : Nat) (w : World) (v : V) (s : Value), SizeOf.sizeOf v ≤ N → At w v s →
    Calls Tryd.prog 30 #[aggV v s] w fun e w' => e = .returned (.int .i64 (wrap64 v.parts)) ∧ Below w.heap.size w w' := by
  intro N
  induction N with
  | zero =>
    intro w v s h
    cases v
    simp only [V.mk.sizeOf_spec] at h
    omega
  | succ N ih =>
    intro w v s hN h
    obtain ⟨A, cap, rfl, hmax, _⟩ := h.inv
    have HA := Lib.hid h
    have hb0 := (Below.refl w.heap.size w).alloc (Nat.le_refl _) (.cells #[.string v.op, .int .i64 v.num, .slice A v.kids.length cap] 30)
    have HB := Lib.hid (And.intro hb0 (last w (.cells #[.string v.op, .int .i64 v.num, .slice A v.kids.length cap] 30)))
    have IH := Lib.hid ih
    have HS := Lib.hid (fun (i : Nat) (hi : i < v.kids.length) => v.kid_lt hi)
    have HN := Lib.hid hN
    have HPE := Lib.hid (parts_eq v)
    clear ih hN h hb0
    unfold aggV
    generalize hvp : wrap64 (v.parts : Int) = vp at *
    have HVP := Lib.hid hvp
    generalize hop : v.op = op at *
    generalize hnum : v.num = num at *
    generalize hkl : v.kids.length = L at *
    have HO := Lib.hid (And.intro hop (And.intro hnum hkl))
    clear hop hnum hkl hvp
    go_enter Tryd.func30, Tryd.ntmps30
    go_wp2_with fail
    generalize w.alloc (.cells #[.string op, .int .i64 num, .slice A L cap] 30) = W at *
    go_loopg [3, 4] L (fun gk nv iv wr => ∃ (n : Int) (i : Nat), nv = .int .i64 n ∧ iv = .int .i64 i ∧ i + gk = L ∧ n = wrap64 ((1 + partsL (v.kids.take i) : Nat) : Int) ∧ Below w.heap.size w wr ∧ wr.heap[w.heap.size]? = some (.cells #[.string op, .int .i64 num, .slice A L cap] 30))
    case atStart => exact ⟨1, 0, rfl, rfl, by omega, by simp only [List.take_zero, partsL]; decide +kernel, HB.out⟩
    case round =>
      obtain ⟨n, i, rfl, rfl, hi, hn, hbe, hbx⟩ := hrel
      have HNI := Lib.hid hn
      have HBE := Lib.hid hbe
      have HBX := Lib.hid hbx
      obtain ⟨q0, q1, q2⟩ := cellsOf3 hbx
      clear hn hbe hbx
      by_cases e : i = L
      · subst e
        go_wp2_with fail
        go_ret
        refine ⟨?_, HBE.out⟩
        have h1 := HNI.out
        have h2 := HPE.out
        rw [List.take_of_length_le (by rw [HO.out.2.2]; exact Nat.le_refl _)] at h1
        rw [← HVP.out, h2, ← h1]
        rfl
      · have hil : i < L := by omega
        have hil' : i < v.kids.length := by rw [HO.out.2.2]; exact hil
        obtain ⟨A', ca', eA, _, hka⟩ := (HA.out.under HBE.out).inv
        obtain ⟨b1, o1, s1, e1, ⟨p0, p1, p2⟩, hat1⟩ := hka i hil'
        have eA' : A = some ⟨b1, o1, none⟩ := by rw [← e1]; injection eA
        subst eA'
        obtain ⟨A1, k1, rfl, _, _⟩ := hat1.inv
        have hsz := HS.out i hil
        have hN' := HN.out
        have hc := IH.out _ _ _ (show SizeOf.sizeOf (v.kids.getD i default) ≤ N by omega) hat1
        have HZ := Lib.hid (show wrap64 (n + wrap64 ((v.kids.getD i default).parts : Int)) = wrap64 ((1 + partsL (v.kids.take (i + 1)) : Nat) : Int) by rw [HNI.out, wrap_add, partsL_take hil']; exact congrArg wrap64 (by omega))
        clear hka eA e1 hat1 hsz hN'
        unfold aggV at hc
        generalize v.kids.getD i default = x at *
        generalize x.op = xo at *
        generalize x.num = xn at *
        generalize wrap64 (x.parts : Int) = z at *
        go_wp2_with fail
        refine hc.mono ?_
        clear hc
        rintro e w3 ⟨rfl, hb3⟩
        have HB3 := Lib.hid (And.intro (HBE.out.trans (hb3.mono HBE.out.size)) ((hb3.block _ (heap_lt HBX.out)).trans HBX.out))
        clear hb3 p0 p1 p2 q0 q1 q2
        go_wp2_with fail
        go_roundg (gk - 1)
        case measure => omega
        case rel => exact ⟨_, i + 1, rfl, by simp, by omega, HZ.out, HB3.out⟩
end Go.Proofs.YtofijodndilmbaaDoor
