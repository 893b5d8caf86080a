/- What an op makes of numbers; is a value a truth? -/
import Derived.Test.YtofijodndilmbaaDoorVal11
set_option linter.unusedVariables false
set_option linter.unusedSimpArgs false
namespace Go.Proofs.YtofijodndilmbaaDoor
open Go.RowKit

def vZero : V := .mk ⟨#[]⟩ 0 []
/-- What an op makes of two numbers. -/
def numF (op : ByteArray) (a b : Int) : V × Bool :=
  if op.toList == [43] then (vInt (wrap64 (a + b)), true) else if op.toList == [45] then (vInt (wrap64 (a - b)), true) else if op.toList == [42] then (vInt (wrap64 (a * b)), true) else
  if op.toList == [61] then (vBool (decide (a = b)), true) else if op.toList == [60] then (vBool (decide (a < b)), true) else (vZero, false)
def isT (v : V) : Bool := v.op.toList == lT
def isTF (v : V) : Bool := v.op.toList == lT || v.op.toList == lF
set_option maxRecDepth 100000 in
set_option maxHeartbeats 8000000 in
theorem Numbers_in (op : ByteArray) (a b : Int) (w : World) :
    Calls Tryd.prog 33 #[.string op, .int .i64 a, .int .i64 b] w fun e w' => e = .returned (.tuple #[aggV (numF op a b).1 nilS, .bool (numF op a b).2]) ∧ Below w.heap.size w w' := by
  have hb0 := (Below.refl w.heap.size w).alloc (Nat.le_refl _) (.cells #[.string ⟨#[]⟩, .int .i64 0, nilS] 24)
  have HB := Lib.hid hb0
  have HL := Lib.hid (last w (.cells #[.string ⟨#[]⟩, .int .i64 0, nilS] 24))
  have HW := Lib.hid (show w.heap.size < (w.alloc (.cells #[.string ⟨#[]⟩, .int .i64 0, nilS] 24)).heap.size by simp)
  have HI := Lib.hid (fun n => Int_in (w.alloc (.cells #[.string ⟨#[]⟩, .int .i64 0, nilS] 24)) n)
  have HO := Lib.hid (fun n => Bool_in (w.alloc (.cells #[.string ⟨#[]⟩, .int .i64 0, nilS] 24)) n)
  clear hb0
  unfold numF
  go_enter Tryd.func33, Tryd.ntmps33
  cases h0 : (op.toList == [43]) with
  | true =>
    simp only [if_true]
    have hc := HI.out (wrap64 (a + b))
    replace hc : Calls Tryd.prog _ _ _ fun e w' => e = .returned (.agg #[.string bI, .int .i64 (wrap64 (a + b)), nilS]) ∧ Below _ _ w' := hc
    go_wp2_with fail
    refine hc.mono ?_
    clear hc
    rintro e w3 ⟨rfl, hb3⟩
    have hl3 := (hb3.block _ HW.out).trans HL.out
    have HS3 := Lib.hid (set3 hl3 (.string bI) (.int .i64 (wrap64 (a + b))) nilS)
    have HB3 := Lib.hid ((((HB.out.trans (hb3.mono (Nat.le_of_lt HW.out))).setCell (p := ⟨w.heap.size, 0, none⟩) (Nat.le_refl _) (.string bI)).setCell (p := ⟨w.heap.size, 1, none⟩) (Nat.le_refl _) (.int .i64 (wrap64 (a + b)))).setCell (p := ⟨w.heap.size, 2, none⟩) (Nat.le_refl _) nilS)
    obtain ⟨r0, r1, r2⟩ := cellsOf3 HS3.out
    obtain ⟨x0, x1, x2⟩ := cellsOf3 hl3
    have xf := frozenOf hl3
    clear hb3 hl3
    go_wp2_with fail
    exact bodyPost_ret (v := .tuple #[.agg #[.string bI, .int .i64 (wrap64 (a + b)), nilS], .bool true]) (by simp [results, Tryd.results33, go_sem, r0, r1, r2]) rfl ⟨rfl, HB3.out⟩
  | false =>
    simp only [if_false, Bool.false_eq_true]
    cases h1 : (op.toList == [45]) with
    | true =>
      simp only [if_true]
      have hc := HI.out (wrap64 (a - b))
      replace hc : Calls Tryd.prog _ _ _ fun e w' => e = .returned (.agg #[.string bI, .int .i64 (wrap64 (a - b)), nilS]) ∧ Below _ _ w' := hc
      go_wp2_with fail
      refine hc.mono ?_
      clear hc
      rintro e w3 ⟨rfl, hb3⟩
      have hl3 := (hb3.block _ HW.out).trans HL.out
      have HS3 := Lib.hid (set3 hl3 (.string bI) (.int .i64 (wrap64 (a - b))) nilS)
      have HB3 := Lib.hid ((((HB.out.trans (hb3.mono (Nat.le_of_lt HW.out))).setCell (p := ⟨w.heap.size, 0, none⟩) (Nat.le_refl _) (.string bI)).setCell (p := ⟨w.heap.size, 1, none⟩) (Nat.le_refl _) (.int .i64 (wrap64 (a - b)))).setCell (p := ⟨w.heap.size, 2, none⟩) (Nat.le_refl _) nilS)
      obtain ⟨r0, r1, r2⟩ := cellsOf3 HS3.out
      obtain ⟨x0, x1, x2⟩ := cellsOf3 hl3
      have xf := frozenOf hl3
      clear hb3 hl3
      go_wp2_with fail
      exact bodyPost_ret (v := .tuple #[.agg #[.string bI, .int .i64 (wrap64 (a - b)), nilS], .bool true]) (by simp [results, Tryd.results33, go_sem, r0, r1, r2]) rfl ⟨rfl, HB3.out⟩
    | false =>
      simp only [if_false, Bool.false_eq_true]
      cases h2 : (op.toList == [42]) with
      | true =>
        simp only [if_true]
        have hc := HI.out (wrap64 (a * b))
        replace hc : Calls Tryd.prog _ _ _ fun e w' => e = .returned (.agg #[.string bI, .int .i64 (wrap64 (a * b)), nilS]) ∧ Below _ _ w' := hc
        go_wp2_with fail
        refine hc.mono ?_
        clear hc
        rintro e w3 ⟨rfl, hb3⟩
        have hl3 := (hb3.block _ HW.out).trans HL.out
        have HS3 := Lib.hid (set3 hl3 (.string bI) (.int .i64 (wrap64 (a * b))) nilS)
        have HB3 := Lib.hid ((((HB.out.trans (hb3.mono (Nat.le_of_lt HW.out))).setCell (p := ⟨w.heap.size, 0, none⟩) (Nat.le_refl _) (.string bI)).setCell (p := ⟨w.heap.size, 1, none⟩) (Nat.le_refl _) (.int .i64 (wrap64 (a * b)))).setCell (p := ⟨w.heap.size, 2, none⟩) (Nat.le_refl _) nilS)
        obtain ⟨r0, r1, r2⟩ := cellsOf3 HS3.out
        obtain ⟨x0, x1, x2⟩ := cellsOf3 hl3
        have xf := frozenOf hl3
        clear hb3 hl3
        go_wp2_with fail
        exact bodyPost_ret (v := .tuple #[.agg #[.string bI, .int .i64 (wrap64 (a * b)), nilS], .bool true]) (by simp [results, Tryd.results33, go_sem, r0, r1, r2]) rfl ⟨rfl, HB3.out⟩
      | false =>
        simp only [if_false, Bool.false_eq_true]
        cases h3 : (op.toList == [61]) with
        | true =>
          simp only [if_true]
          by_cases hd : a = b
          · rw [decide_eq_true hd]
            have hd' : decide (a = b) = true := decide_eq_true hd
            have hc := HO.out true
            replace hc : Calls Tryd.prog _ _ _ fun e w' => e = .returned (.agg #[.string bT, .int .i64 (0), nilS]) ∧ Below _ _ w' := hc
            go_wp2_with fail
            refine hc.mono ?_
            clear hc
            rintro e w3 ⟨rfl, hb3⟩
            have hl3 := (hb3.block _ HW.out).trans HL.out
            have HS3 := Lib.hid (set3 hl3 (.string bT) (.int .i64 (0)) nilS)
            have HB3 := Lib.hid ((((HB.out.trans (hb3.mono (Nat.le_of_lt HW.out))).setCell (p := ⟨w.heap.size, 0, none⟩) (Nat.le_refl _) (.string bT)).setCell (p := ⟨w.heap.size, 1, none⟩) (Nat.le_refl _) (.int .i64 (0))).setCell (p := ⟨w.heap.size, 2, none⟩) (Nat.le_refl _) nilS)
            obtain ⟨r0, r1, r2⟩ := cellsOf3 HS3.out
            obtain ⟨x0, x1, x2⟩ := cellsOf3 hl3
            have xf := frozenOf hl3
            clear hb3 hl3
            go_wp2_with fail
            exact bodyPost_ret (v := .tuple #[.agg #[.string bT, .int .i64 (0), nilS], .bool true]) (by simp [results, Tryd.results33, go_sem, r0, r1, r2]) rfl ⟨rfl, HB3.out⟩
          · rw [decide_eq_false hd]
            have hd' : decide (a = b) = false := decide_eq_false hd
            have hd2 : (a == b) = false := by simpa using hd
            have hc := HO.out false
            replace hc : Calls Tryd.prog _ _ _ fun e w' => e = .returned (.agg #[.string bF, .int .i64 (0), nilS]) ∧ Below _ _ w' := hc
            go_wp2_with fail
            refine hc.mono ?_
            clear hc
            rintro e w3 ⟨rfl, hb3⟩
            have hl3 := (hb3.block _ HW.out).trans HL.out
            have HS3 := Lib.hid (set3 hl3 (.string bF) (.int .i64 (0)) nilS)
            have HB3 := Lib.hid ((((HB.out.trans (hb3.mono (Nat.le_of_lt HW.out))).setCell (p := ⟨w.heap.size, 0, none⟩) (Nat.le_refl _) (.string bF)).setCell (p := ⟨w.heap.size, 1, none⟩) (Nat.le_refl _) (.int .i64 (0))).setCell (p := ⟨w.heap.size, 2, none⟩) (Nat.le_refl _) nilS)
            obtain ⟨r0, r1, r2⟩ := cellsOf3 HS3.out
            obtain ⟨x0, x1, x2⟩ := cellsOf3 hl3
            have xf := frozenOf hl3
            clear hb3 hl3
            go_wp2_with fail
            exact bodyPost_ret (v := .tuple #[.agg #[.string bF, .int .i64 (0), nilS], .bool true]) (by simp [results, Tryd.results33, go_sem, r0, r1, r2]) rfl ⟨rfl, HB3.out⟩
        | false =>
          simp only [if_false, Bool.false_eq_true]
          cases h4 : (op.toList == [60]) with
          | true =>
            simp only [if_true]
            by_cases hd : a < b
            · rw [decide_eq_true hd]
              have hd' : decide (a < b) = true := decide_eq_true hd
              have hc := HO.out true
              replace hc : Calls Tryd.prog _ _ _ fun e w' => e = .returned (.agg #[.string bT, .int .i64 (0), nilS]) ∧ Below _ _ w' := hc
              go_wp2_with fail
              refine hc.mono ?_
              clear hc
              rintro e w3 ⟨rfl, hb3⟩
              have hl3 := (hb3.block _ HW.out).trans HL.out
              have HS3 := Lib.hid (set3 hl3 (.string bT) (.int .i64 (0)) nilS)
              have HB3 := Lib.hid ((((HB.out.trans (hb3.mono (Nat.le_of_lt HW.out))).setCell (p := ⟨w.heap.size, 0, none⟩) (Nat.le_refl _) (.string bT)).setCell (p := ⟨w.heap.size, 1, none⟩) (Nat.le_refl _) (.int .i64 (0))).setCell (p := ⟨w.heap.size, 2, none⟩) (Nat.le_refl _) nilS)
              obtain ⟨r0, r1, r2⟩ := cellsOf3 HS3.out
              obtain ⟨x0, x1, x2⟩ := cellsOf3 hl3
              have xf := frozenOf hl3
              clear hb3 hl3
              go_wp2_with fail
              exact bodyPost_ret (v := .tuple #[.agg #[.string bT, .int .i64 (0), nilS], .bool true]) (by simp [results, Tryd.results33, go_sem, r0, r1, r2]) rfl ⟨rfl, HB3.out⟩
            · rw [decide_eq_false hd]
              have hd' : decide (a < b) = false := decide_eq_false hd
              have hc := HO.out false
              replace hc : Calls Tryd.prog _ _ _ fun e w' => e = .returned (.agg #[.string bF, .int .i64 (0), nilS]) ∧ Below _ _ w' := hc
              go_wp2_with fail
              refine hc.mono ?_
              clear hc
              rintro e w3 ⟨rfl, hb3⟩
              have hl3 := (hb3.block _ HW.out).trans HL.out
              have HS3 := Lib.hid (set3 hl3 (.string bF) (.int .i64 (0)) nilS)
              have HB3 := Lib.hid ((((HB.out.trans (hb3.mono (Nat.le_of_lt HW.out))).setCell (p := ⟨w.heap.size, 0, none⟩) (Nat.le_refl _) (.string bF)).setCell (p := ⟨w.heap.size, 1, none⟩) (Nat.le_refl _) (.int .i64 (0))).setCell (p := ⟨w.heap.size, 2, none⟩) (Nat.le_refl _) nilS)
              obtain ⟨r0, r1, r2⟩ := cellsOf3 HS3.out
              obtain ⟨x0, x1, x2⟩ := cellsOf3 hl3
              have xf := frozenOf hl3
              clear hb3 hl3
              go_wp2_with fail
              exact bodyPost_ret (v := .tuple #[.agg #[.string bF, .int .i64 (0), nilS], .bool true]) (by simp [results, Tryd.results33, go_sem, r0, r1, r2]) rfl ⟨rfl, HB3.out⟩
          | false =>
            simp only [if_false, Bool.false_eq_true]
            obtain ⟨r0, r1, r2⟩ := cellsOf3 HL.out
            go_wp2_with fail
            exact bodyPost_ret (v := .tuple #[.agg #[.string ⟨#[]⟩, .int .i64 0, nilS], .bool false]) (by simp [results, Tryd.results33, go_sem, r0, r1, r2]) rfl ⟨rfl, HB.out⟩
set_option maxRecDepth 100000 in
set_option maxHeartbeats 8000000 in
theorem RNumber_in (op : ByteArray) (a b : Int) (w : World) :
    Calls Tryd.prog 37 #[.string op, .int .i64 a, .int .i64 b] w fun e w' => e = .returned (.tuple #[aggV (numF op a b).1 nilS, .bool (numF op a b).2]) ∧ Below w.heap.size w w' := by
  have hb0 := (Below.refl w.heap.size w).alloc (Nat.le_refl _) (.cells #[.string ⟨#[]⟩, .int .i64 0, nilS] 30)
  have HB := Lib.hid hb0
  have HL := Lib.hid (last w (.cells #[.string ⟨#[]⟩, .int .i64 0, nilS] 30))
  have HW := Lib.hid (show w.heap.size < (w.alloc (.cells #[.string ⟨#[]⟩, .int .i64 0, nilS] 30)).heap.size by simp)
  have HI := Lib.hid (fun n => RInt_in (w.alloc (.cells #[.string ⟨#[]⟩, .int .i64 0, nilS] 30)) n)
  have HO := Lib.hid (fun n => RBool_in (w.alloc (.cells #[.string ⟨#[]⟩, .int .i64 0, nilS] 30)) n)
  clear hb0
  unfold numF
  go_enter Tryd.func37, Tryd.ntmps37
  cases h0 : (op.toList == [43]) with
  | true =>
    simp only [if_true]
    have hc := HI.out (wrap64 (a + b))
    replace hc : Calls Tryd.prog _ _ _ fun e w' => e = .returned (.agg #[.string bI, .int .i64 (wrap64 (a + b)), nilS]) ∧ Below _ _ w' := hc
    go_wp2_with fail
    refine hc.mono ?_
    clear hc
    rintro e w3 ⟨rfl, hb3⟩
    have hl3 := (hb3.block _ HW.out).trans HL.out
    have HS3 := Lib.hid (set3 hl3 (.string bI) (.int .i64 (wrap64 (a + b))) nilS)
    have HB3 := Lib.hid ((((HB.out.trans (hb3.mono (Nat.le_of_lt HW.out))).setCell (p := ⟨w.heap.size, 0, none⟩) (Nat.le_refl _) (.string bI)).setCell (p := ⟨w.heap.size, 1, none⟩) (Nat.le_refl _) (.int .i64 (wrap64 (a + b)))).setCell (p := ⟨w.heap.size, 2, none⟩) (Nat.le_refl _) nilS)
    obtain ⟨r0, r1, r2⟩ := cellsOf3 HS3.out
    obtain ⟨x0, x1, x2⟩ := cellsOf3 hl3
    have xf := frozenOf hl3
    clear hb3 hl3
    go_wp2_with fail
    exact bodyPost_ret (v := .tuple #[.agg #[.string bI, .int .i64 (wrap64 (a + b)), nilS], .bool true]) (by simp [results, Tryd.results37, go_sem, r0, r1, r2]) rfl ⟨rfl, HB3.out⟩
  | false =>
    simp only [if_false, Bool.false_eq_true]
    cases h1 : (op.toList == [45]) with
    | true =>
      simp only [if_true]
      have hc := HI.out (wrap64 (a - b))
      replace hc : Calls Tryd.prog _ _ _ fun e w' => e = .returned (.agg #[.string bI, .int .i64 (wrap64 (a - b)), nilS]) ∧ Below _ _ w' := hc
      go_wp2_with fail
      refine hc.mono ?_
      clear hc
      rintro e w3 ⟨rfl, hb3⟩
      have hl3 := (hb3.block _ HW.out).trans HL.out
      have HS3 := Lib.hid (set3 hl3 (.string bI) (.int .i64 (wrap64 (a - b))) nilS)
      have HB3 := Lib.hid ((((HB.out.trans (hb3.mono (Nat.le_of_lt HW.out))).setCell (p := ⟨w.heap.size, 0, none⟩) (Nat.le_refl _) (.string bI)).setCell (p := ⟨w.heap.size, 1, none⟩) (Nat.le_refl _) (.int .i64 (wrap64 (a - b)))).setCell (p := ⟨w.heap.size, 2, none⟩) (Nat.le_refl _) nilS)
      obtain ⟨r0, r1, r2⟩ := cellsOf3 HS3.out
      obtain ⟨x0, x1, x2⟩ := cellsOf3 hl3
      have xf := frozenOf hl3
      clear hb3 hl3
      go_wp2_with fail
      exact bodyPost_ret (v := .tuple #[.agg #[.string bI, .int .i64 (wrap64 (a - b)), nilS], .bool true]) (by simp [results, Tryd.results37, go_sem, r0, r1, r2]) rfl ⟨rfl, HB3.out⟩
    | false =>
      simp only [if_false, Bool.false_eq_true]
      cases h2 : (op.toList == [42]) with
      | true =>
        simp only [if_true]
        have hc := HI.out (wrap64 (a * b))
        replace hc : Calls Tryd.prog _ _ _ fun e w' => e = .returned (.agg #[.string bI, .int .i64 (wrap64 (a * b)), nilS]) ∧ Below _ _ w' := hc
        go_wp2_with fail
        refine hc.mono ?_
        clear hc
        rintro e w3 ⟨rfl, hb3⟩
        have hl3 := (hb3.block _ HW.out).trans HL.out
        have HS3 := Lib.hid (set3 hl3 (.string bI) (.int .i64 (wrap64 (a * b))) nilS)
        have HB3 := Lib.hid ((((HB.out.trans (hb3.mono (Nat.le_of_lt HW.out))).setCell (p := ⟨w.heap.size, 0, none⟩) (Nat.le_refl _) (.string bI)).setCell (p := ⟨w.heap.size, 1, none⟩) (Nat.le_refl _) (.int .i64 (wrap64 (a * b)))).setCell (p := ⟨w.heap.size, 2, none⟩) (Nat.le_refl _) nilS)
        obtain ⟨r0, r1, r2⟩ := cellsOf3 HS3.out
        obtain ⟨x0, x1, x2⟩ := cellsOf3 hl3
        have xf := frozenOf hl3
        clear hb3 hl3
        go_wp2_with fail
        exact bodyPost_ret (v := .tuple #[.agg #[.string bI, .int .i64 (wrap64 (a * b)), nilS], .bool true]) (by simp [results, Tryd.results37, go_sem, r0, r1, r2]) rfl ⟨rfl, HB3.out⟩
      | false =>
        simp only [if_false, Bool.false_eq_true]
        cases h3 : (op.toList == [61]) with
        | true =>
          simp only [if_true]
          by_cases hd : a = b
          · rw [decide_eq_true hd]
            have hd' : decide (a = b) = true := decide_eq_true hd
            have hc := HO.out true
            replace hc : Calls Tryd.prog _ _ _ fun e w' => e = .returned (.agg #[.string bT, .int .i64 (0), nilS]) ∧ Below _ _ w' := hc
            go_wp2_with fail
            refine hc.mono ?_
            clear hc
            rintro e w3 ⟨rfl, hb3⟩
            have hl3 := (hb3.block _ HW.out).trans HL.out
            have HS3 := Lib.hid (set3 hl3 (.string bT) (.int .i64 (0)) nilS)
            have HB3 := Lib.hid ((((HB.out.trans (hb3.mono (Nat.le_of_lt HW.out))).setCell (p := ⟨w.heap.size, 0, none⟩) (Nat.le_refl _) (.string bT)).setCell (p := ⟨w.heap.size, 1, none⟩) (Nat.le_refl _) (.int .i64 (0))).setCell (p := ⟨w.heap.size, 2, none⟩) (Nat.le_refl _) nilS)
            obtain ⟨r0, r1, r2⟩ := cellsOf3 HS3.out
            obtain ⟨x0, x1, x2⟩ := cellsOf3 hl3
            have xf := frozenOf hl3
            clear hb3 hl3
            go_wp2_with fail
            exact bodyPost_ret (v := .tuple #[.agg #[.string bT, .int .i64 (0), nilS], .bool true]) (by simp [results, Tryd.results37, go_sem, r0, r1, r2]) rfl ⟨rfl, HB3.out⟩
          · rw [decide_eq_false hd]
            have hd' : decide (a = b) = false := decide_eq_false hd
            have hd2 : (a == b) = false := by simpa using hd
            have hc := HO.out false
            replace hc : Calls Tryd.prog _ _ _ fun e w' => e = .returned (.agg #[.string bF, .int .i64 (0), nilS]) ∧ Below _ _ w' := hc
            go_wp2_with fail
            refine hc.mono ?_
            clear hc
            rintro e w3 ⟨rfl, hb3⟩
            have hl3 := (hb3.block _ HW.out).trans HL.out
            have HS3 := Lib.hid (set3 hl3 (.string bF) (.int .i64 (0)) nilS)
            have HB3 := Lib.hid ((((HB.out.trans (hb3.mono (Nat.le_of_lt HW.out))).setCell (p := ⟨w.heap.size, 0, none⟩) (Nat.le_refl _) (.string bF)).setCell (p := ⟨w.heap.size, 1, none⟩) (Nat.le_refl _) (.int .i64 (0))).setCell (p := ⟨w.heap.size, 2, none⟩) (Nat.le_refl _) nilS)
            obtain ⟨r0, r1, r2⟩ := cellsOf3 HS3.out
            obtain ⟨x0, x1, x2⟩ := cellsOf3 hl3
            have xf := frozenOf hl3
            clear hb3 hl3
            go_wp2_with fail
            exact bodyPost_ret (v := .tuple #[.agg #[.string bF, .int .i64 (0), nilS], .bool true]) (by simp [results, Tryd.results37, go_sem, r0, r1, r2]) rfl ⟨rfl, HB3.out⟩
        | false =>
          simp only [if_false, Bool.false_eq_true]
          cases h4 : (op.toList == [60]) with
          | true =>
            simp only [if_true]
            by_cases hd : a < b
            · rw [decide_eq_true hd]
              have hd' : decide (a < b) = true := decide_eq_true hd
              have hc := HO.out true
              replace hc : Calls Tryd.prog _ _ _ fun e w' => e = .returned (.agg #[.string bT, .int .i64 (0), nilS]) ∧ Below _ _ w' := hc
              go_wp2_with fail
              refine hc.mono ?_
              clear hc
              rintro e w3 ⟨rfl, hb3⟩
              have hl3 := (hb3.block _ HW.out).trans HL.out
              have HS3 := Lib.hid (set3 hl3 (.string bT) (.int .i64 (0)) nilS)
              have HB3 := Lib.hid ((((HB.out.trans (hb3.mono (Nat.le_of_lt HW.out))).setCell (p := ⟨w.heap.size, 0, none⟩) (Nat.le_refl _) (.string bT)).setCell (p := ⟨w.heap.size, 1, none⟩) (Nat.le_refl _) (.int .i64 (0))).setCell (p := ⟨w.heap.size, 2, none⟩) (Nat.le_refl _) nilS)
              obtain ⟨r0, r1, r2⟩ := cellsOf3 HS3.out
              obtain ⟨x0, x1, x2⟩ := cellsOf3 hl3
              have xf := frozenOf hl3
              clear hb3 hl3
              go_wp2_with fail
              exact bodyPost_ret (v := .tuple #[.agg #[.string bT, .int .i64 (0), nilS], .bool true]) (by simp [results, Tryd.results37, go_sem, r0, r1, r2]) rfl ⟨rfl, HB3.out⟩
            · rw [decide_eq_false hd]
              have hd' : decide (a < b) = false := decide_eq_false hd
              have hc := HO.out false
              replace hc : Calls Tryd.prog _ _ _ fun e w' => e = .returned (.agg #[.string bF, .int .i64 (0), nilS]) ∧ Below _ _ w' := hc
              go_wp2_with fail
              refine hc.mono ?_
              clear hc
              rintro e w3 ⟨rfl, hb3⟩
              have hl3 := (hb3.block _ HW.out).trans HL.out
              have HS3 := Lib.hid (set3 hl3 (.string bF) (.int .i64 (0)) nilS)
              have HB3 := Lib.hid ((((HB.out.trans (hb3.mono (Nat.le_of_lt HW.out))).setCell (p := ⟨w.heap.size, 0, none⟩) (Nat.le_refl _) (.string bF)).setCell (p := ⟨w.heap.size, 1, none⟩) (Nat.le_refl _) (.int .i64 (0))).setCell (p := ⟨w.heap.size, 2, none⟩) (Nat.le_refl _) nilS)
              obtain ⟨r0, r1, r2⟩ := cellsOf3 HS3.out
              obtain ⟨x0, x1, x2⟩ := cellsOf3 hl3
              have xf := frozenOf hl3
              clear hb3 hl3
              go_wp2_with fail
              exact bodyPost_ret (v := .tuple #[.agg #[.string bF, .int .i64 (0), nilS], .bool true]) (by simp [results, Tryd.results37, go_sem, r0, r1, r2]) rfl ⟨rfl, HB3.out⟩
          | false =>
            simp only [if_false, Bool.false_eq_true]
            obtain ⟨r0, r1, r2⟩ := cellsOf3 HL.out
            go_wp2_with fail
            exact bodyPost_ret (v := .tuple #[.agg #[.string ⟨#[]⟩, .int .i64 0, nilS], .bool false]) (by simp [results, Tryd.results37, go_sem, r0, r1, r2]) rfl ⟨rfl, HB.out⟩
end Go.Proofs.YtofijodndilmbaaDoor
