/- Is a value a truth? What an op makes of one value. -/
import Derived.Test.YtofijodndilmbaaDoorVal12
set_option linter.unusedVariables false
set_option linter.unusedSimpArgs false
namespace Go.Proofs.YtofijodndilmbaaDoor
open Go.RowKit

abbrev lNeg : List UInt8 := [110, 101, 103]
abbrev lNot : List UInt8 := [110, 111, 116]
abbrev lFst : List UInt8 := [102, 115, 116]
abbrev lSnd : List UInt8 := [115, 110, 100]
/-- What an op makes of one. -/
def oneF (op : ByteArray) (v : V) : V × Bool :=
  if op.toList == lNeg && v.op.toList == lI then (vInt (wrap64 (-v.num)), true) else if op.toList == lNot && isTF v then (vBool (v.op.toList == lF), true) else
  if op.toList == lFst && v.op.toList == lP then (v.kids.getD 0 default, true) else if op.toList == lSnd && v.op.toList == lP then (v.kids.getD 1 default, true) else (vZero, false)
theorem right_kids : ∀ {N : Nat} {v : V}, rightF N v = true → (v.op.toList == lP) = true → v.kids.length = 2
  | 0, v, h, _ => by cases h
  | N + 1, v, h, h2 => right_pair h (by rw [eq_of_beq h2]; rfl) h2
theorem no_beq {a : List UInt8} {x y : List UInt8} (h : (a == x) = true) (hne : (x == y) = false) : (a == y) = false := by
  rw [eq_of_beq h]
  exact hne
theorem isTF_F {v : V} (h : (v.op.toList == lF) = true) : isT v = false := by
  unfold isT
  rw [eq_of_beq h]
  rfl
theorem isTF_T {v : V} (h : isTF v = true) (hF : (v.op.toList == lF) = false) : isT v = true := by
  unfold isTF at h
  rw [hF, Bool.or_false] at h
  exact h
set_option maxRecDepth 100000 in
set_option maxHeartbeats 8000000 in
theorem Truth_in (v : V) (s : Value) (w : World) (hs : ∃ A n cap, s = .slice A n cap) :
    Calls Tryd.prog 32 #[aggV v s] w fun e w' => e = .returned (.tuple #[.bool (isT v), .bool (isTF v)]) ∧ Below w.heap.size w w' := by
  obtain ⟨A, n, cap, rfl⟩ := hs
  have HB := Lib.hid ((Below.refl w.heap.size w).alloc (Nat.le_refl _) (.cells #[.string v.op, .int .i64 v.num, .slice A n cap] 24))
  unfold aggV isTF isT
  generalize v.op = op at *
  generalize v.num = num at *
  go_enter Tryd.func32, Tryd.ntmps32
  cases hT : (op.toList == lT) with
  | true =>
    go_wp2_with fail
    go_quiet (fail)
    go_wp2_with fail
    exact bodyPost_ret (v := .tuple #[.bool true, .bool true]) (by simp [results, Tryd.results32, go_sem]) rfl ⟨by simp, below_drewN HB.out _⟩
  | false =>
    cases hF : (op.toList == lF) with
    | true =>
      go_wp2_with fail
      go_quiet (fail)
      go_wp2_with fail
      exact bodyPost_ret (v := .tuple #[.bool false, .bool true]) (by simp [results, Tryd.results32, go_sem]) rfl ⟨by simp, below_drewN HB.out _⟩
    | false =>
      go_wp2_with fail
      go_quiet (fail)
      go_wp2_with fail
      exact bodyPost_ret (v := .tuple #[.bool false, .bool false]) (by simp [results, Tryd.results32, go_sem]) rfl ⟨by simp, below_drewN HB.out _⟩
set_option maxRecDepth 100000 in
set_option maxHeartbeats 8000000 in
theorem RTruth_in (v : V) (s : Value) (w : World) (hs : ∃ A n cap, s = .slice A n cap) :
    Calls Tryd.prog 35 #[aggV v s] w fun e w' => e = .returned (.bool (isTF v)) ∧ Below w.heap.size w w' := by
  obtain ⟨A, n, cap, rfl⟩ := hs
  have HB := Lib.hid ((Below.refl w.heap.size w).alloc (Nat.le_refl _) (.cells #[.string v.op, .int .i64 v.num, .slice A n cap] 30))
  unfold aggV isTF
  generalize v.op = op at *
  generalize v.num = num at *
  go_enter Tryd.func35, Tryd.ntmps35
  cases hT : (op.toList == lT) with
  | true =>
    go_wp2_with fail
    go_ret
    exact ⟨by simp, HB.out⟩
  | false =>
    cases hF : (op.toList == lF) with
    | true =>
      go_wp2_with fail
      go_ret
      exact ⟨by simp, HB.out⟩
    | false =>
      go_wp2_with fail
      go_ret
      exact ⟨by simp, HB.out⟩
end Go.Proofs.YtofijodndilmbaaDoor
