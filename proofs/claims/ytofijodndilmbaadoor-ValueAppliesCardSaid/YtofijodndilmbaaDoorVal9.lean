/- The small makers, and Big. -/
import Derived.Test.YtofijodndilmbaaDoorVal8
set_option linter.unusedVariables false
set_option linter.unusedSimpArgs false
namespace Go.Proofs.YtofijodndilmbaaDoor
open Go.RowKit

abbrev bI : ByteArray := ⟨#[105, 110, 116]⟩
abbrev bT : ByteArray := ⟨#[116, 114, 117, 101]⟩
abbrev bF : ByteArray := ⟨#[102, 97, 108, 115, 101]⟩
abbrev bU : ByteArray := ⟨#[117, 110, 105, 116]⟩
abbrev bP : ByteArray := ⟨#[112, 97, 105, 114]⟩
/-- No parts. -/
abbrev nilS : Value := .slice none 0 0
def vInt (n : Int) : V := .mk bI n []
def vBool (b : Bool) : V := .mk (if b then bT else bF) 0 []
def vUnit : V := .mk bU 0 []

set_option maxRecDepth 100000 in
set_option maxHeartbeats 8000000 in
theorem Big_in (w : World) (v : V) (s : Value) (h : At w v s) :
    Calls Tryd.prog 6 #[aggV v s] w fun e w' => (∃ b, e = .returned (.bool b)) ∧ Below w.heap.size w w' := by
  obtain ⟨A, cap, rfl, hmax, _⟩ := h.inv
  have hb0 := (Below.refl w.heap.size w).alloc (Nat.le_refl _) (.cells #[.string v.op, .int .i64 v.num, .slice A v.kids.length cap] 24)
  have hc := size_in _ _ v _ (Nat.le_refl _) (h.under hb0)
  have HB := Lib.hid hb0
  have HW := Lib.hid (show w.heap.size ≤ (w.alloc (.cells #[.string v.op, .int .i64 v.num, .slice A v.kids.length cap] 24)).heap.size by simp)
  clear hb0 h
  unfold aggV at hc ⊢
  generalize v.op = op at *
  generalize v.num = num at *
  generalize v.kids.length = L at *
  go_enter Tryd.func6, Tryd.ntmps6
  go_wp2_with fail
  refine hc.mono ?_
  clear hc
  rintro e w3 ⟨⟨z, rfl⟩, hb3⟩
  have HB3 := Lib.hid (HB.out.trans (hb3.mono HW.out))
  clear hb3
  go_wp2_with fail
  go_ret
  exact ⟨⟨_, rfl⟩, HB3.out⟩
set_option maxRecDepth 100000 in
set_option maxHeartbeats 8000000 in
theorem Int_in (w : World) (n : Int) :
    Calls Tryd.prog 9 #[.int .i64 n] w fun e w' => e = .returned (aggV (vInt n) nilS) ∧ Below w.heap.size w w' := by
  have HB := Lib.hid ((Below.refl w.heap.size w).alloc (Nat.le_refl _) (.cells #[.string bI, .int .i64 n, nilS] 24))
  obtain ⟨r0, r1, r2⟩ := cellsOf3 (last w (.cells #[.string bI, .int .i64 n, nilS] 24))
  show Calls Tryd.prog _ _ w fun e w' => e = .returned (.agg #[.string bI, .int .i64 n, nilS]) ∧ Below w.heap.size w w'
  go_enter Tryd.func9, Tryd.ntmps9
  go_wp2_with fail
  exact bodyPost_ret (v := .agg #[.string bI, .int .i64 n, nilS]) (by simp [results, Tryd.results9, go_sem, r0, r1, r2]) rfl ⟨rfl, HB.out⟩
set_option maxRecDepth 100000 in
set_option maxHeartbeats 8000000 in
theorem RInt_in (w : World) (n : Int) :
    Calls Tryd.prog 36 #[.int .i64 n] w fun e w' => e = .returned (aggV (vInt n) nilS) ∧ Below w.heap.size w w' := by
  have HB := Lib.hid ((Below.refl w.heap.size w).alloc (Nat.le_refl _) (.cells #[.string bI, .int .i64 n, nilS] 30))
  obtain ⟨r0, r1, r2⟩ := cellsOf3 (last w (.cells #[.string bI, .int .i64 n, nilS] 30))
  show Calls Tryd.prog _ _ w fun e w' => e = .returned (.agg #[.string bI, .int .i64 n, nilS]) ∧ Below w.heap.size w w'
  go_enter Tryd.func36, Tryd.ntmps36
  go_wp2_with fail
  exact bodyPost_ret (v := .agg #[.string bI, .int .i64 n, nilS]) (by simp [results, Tryd.results36, go_sem, r0, r1, r2]) rfl ⟨rfl, HB.out⟩
set_option maxRecDepth 100000 in
set_option maxHeartbeats 8000000 in
theorem Bool_in (w : World) (b : Bool) :
    Calls Tryd.prog 11 #[.bool b] w fun e w' => e = .returned (aggV (vBool b) nilS) ∧ Below w.heap.size w w' := by
  cases b with
  | true =>
    have HB := Lib.hid ((Below.refl w.heap.size w).alloc (Nat.le_refl _) (.cells #[.string bT, .int .i64 0, nilS] 24))
    obtain ⟨r0, r1, r2⟩ := cellsOf3 (last w (.cells #[.string bT, .int .i64 0, nilS] 24))
    show Calls Tryd.prog _ _ w fun e w' => e = .returned (.agg #[.string bT, .int .i64 0, nilS]) ∧ Below w.heap.size w w'
    go_enter Tryd.func11, Tryd.ntmps11
    go_wp2_with fail
    exact bodyPost_ret (v := .agg #[.string bT, .int .i64 0, nilS]) (by simp [results, Tryd.results11, go_sem, r0, r1, r2]) rfl ⟨rfl, HB.out⟩
  | false =>
    have HB := Lib.hid ((Below.refl w.heap.size w).alloc (Nat.le_refl _) (.cells #[.string bF, .int .i64 0, nilS] 24))
    obtain ⟨r0, r1, r2⟩ := cellsOf3 (last w (.cells #[.string bF, .int .i64 0, nilS] 24))
    show Calls Tryd.prog _ _ w fun e w' => e = .returned (.agg #[.string bF, .int .i64 0, nilS]) ∧ Below w.heap.size w w'
    go_enter Tryd.func11, Tryd.ntmps11
    go_wp2_with fail
    exact bodyPost_ret (v := .agg #[.string bF, .int .i64 0, nilS]) (by simp [results, Tryd.results11, go_sem, r0, r1, r2]) rfl ⟨rfl, HB.out⟩
set_option maxRecDepth 100000 in
set_option maxHeartbeats 8000000 in
theorem RBool_in (w : World) (b : Bool) :
    Calls Tryd.prog 12 #[.bool b] w fun e w' => e = .returned (aggV (vBool b) nilS) ∧ Below w.heap.size w w' := by
  cases b with
  | true =>
    have HB := Lib.hid ((Below.refl w.heap.size w).alloc (Nat.le_refl _) (.cells #[.string bT, .int .i64 0, nilS] 30))
    obtain ⟨r0, r1, r2⟩ := cellsOf3 (last w (.cells #[.string bT, .int .i64 0, nilS] 30))
    show Calls Tryd.prog _ _ w fun e w' => e = .returned (.agg #[.string bT, .int .i64 0, nilS]) ∧ Below w.heap.size w w'
    go_enter Tryd.func12, Tryd.ntmps12
    go_wp2_with fail
    exact bodyPost_ret (v := .agg #[.string bT, .int .i64 0, nilS]) (by simp [results, Tryd.results12, go_sem, r0, r1, r2]) rfl ⟨rfl, HB.out⟩
  | false =>
    have HB := Lib.hid ((Below.refl w.heap.size w).alloc (Nat.le_refl _) (.cells #[.string bF, .int .i64 0, nilS] 30))
    obtain ⟨r0, r1, r2⟩ := cellsOf3 (last w (.cells #[.string bF, .int .i64 0, nilS] 30))
    show Calls Tryd.prog _ _ w fun e w' => e = .returned (.agg #[.string bF, .int .i64 0, nilS]) ∧ Below w.heap.size w w'
    go_enter Tryd.func12, Tryd.ntmps12
    go_wp2_with fail
    exact bodyPost_ret (v := .agg #[.string bF, .int .i64 0, nilS]) (by simp [results, Tryd.results12, go_sem, r0, r1, r2]) rfl ⟨rfl, HB.out⟩
set_option maxRecDepth 100000 in
set_option maxHeartbeats 8000000 in
theorem Unit_in (w : World) :
    Calls Tryd.prog 20 #[] w fun e w' => e = .returned (aggV (vUnit) nilS) ∧ Below w.heap.size w w' := by
  have HB := Lib.hid ((Below.refl w.heap.size w).alloc (Nat.le_refl _) (.cells #[.string bU, .int .i64 0, nilS] 24))
  obtain ⟨r0, r1, r2⟩ := cellsOf3 (last w (.cells #[.string bU, .int .i64 0, nilS] 24))
  show Calls Tryd.prog _ _ w fun e w' => e = .returned (.agg #[.string bU, .int .i64 0, nilS]) ∧ Below w.heap.size w w'
  go_enter Tryd.func20, Tryd.ntmps20
  go_wp2_with fail
  exact bodyPost_ret (v := .agg #[.string bU, .int .i64 0, nilS]) (by simp [results, Tryd.results20, go_sem, r0, r1, r2]) rfl ⟨rfl, HB.out⟩
end Go.Proofs.YtofijodndilmbaaDoor
