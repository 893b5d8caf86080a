/- The chapter's example, shown: plain. -/
import Derived.Test.YtmeacgmjpjjphaaGreatDoorMExR
import Derived.Lib.ItoaLen
set_option linter.unusedVariables false
set_option linter.unusedSimpArgs false
namespace Go.Proofs.YtmeacgmjpjjphaaGreatDoor
open Tr (Nd)
open Tr.TreP (WF fits places nd inT)

/-- An expression, without places. -/
inductive Tm where
  | mk (op name : ByteArray) (num : Int) (kids : List Tm)
namespace Tm
def op : Tm → ByteArray | mk o _ _ _ => o
def name : Tm → ByteArray | mk _ n _ _ => n
def num : Tm → Int | mk _ _ n _ => n
def kids : Tm → List Tm | mk _ _ _ k => k
def none : Tm := mk ⟨#[]⟩ ⟨#[]⟩ 0 []
end Tm
mutual
def eqT : Tm → Tm → Bool
  | .mk a b c k, .mk a' b' c' k' => decide (a = a') && decide (b = b') && decide (c = c') && eqL k k'
def eqL : List Tm → List Tm → Bool
  | [], [] => true
  | x :: l, y :: r => eqT x y && eqL l r
  | _, _ => false
end
mutual
theorem eqT_iff : ∀ (a b : Tm), eqT a b = true ↔ a = b
  | .mk a b c k, .mk a' b' c' k' => by
    simp only [eqT, Bool.and_eq_true, decide_eq_true_eq, eqL_iff k k', Tm.mk.injEq, and_assoc]
theorem eqL_iff : ∀ (a b : List Tm), eqL a b = true ↔ a = b
  | [], [] => by simp [eqL]
  | [], y :: r => by simp [eqL]
  | x :: l, [] => by simp [eqL]
  | x :: l, y :: r => by simp [eqL, eqT_iff x y, eqL_iff l r]
end
/-- The expression at a place. -/
def tmF : Nat → List Nd → Int → Tm
  | 0, _, _ => Tm.none
  | f + 1, m, i => if inT m.length i then .mk (nd m i).op (nd m i).name (nd m i).num ((nd m i).kids.map (tmF f m)) else Tm.none
theorem tm_fuel {m : List Nd} (h : WF m) : ∀ (f f' : Nat) (i : Int), (inT m.length i = true → i < f ∧ i < f') → tmF f m i = tmF f' m i
  | 0, 0, i, hi => rfl
  | 0, f' + 1, i, hi => by
    cases hc : inT m.length i with
    | false => simp [tmF, hc]
    | true => have := hi hc; rw [Tr.TreP.inT_iff] at hc; omega
  | f + 1, 0, i, hi => by
    cases hc : inT m.length i with
    | false => simp [tmF, hc]
    | true => have := hi hc; rw [Tr.TreP.inT_iff] at hc; omega
  | f + 1, f' + 1, i, hi => by
    cases hc : inT m.length i with
    | false => simp [tmF, hc]
    | true =>
      have h1 := hi hc
      simp only [tmF, hc, if_true]
      congr 1
      refine List.map_congr_left fun x hx => tm_fuel h f f' x fun _ => ?_
      have := h.kid hc hx
      omega
def tm (m : List Nd) (i : Int) : Tm := tmF m.length m i
theorem tm_eq {m : List Nd} (h : WF m) {i : Int} (hi : inT m.length i = true) : tm m i = .mk (nd m i).op (nd m i).name (nd m i).num ((nd m i).kids.map (tm m)) := by
  have hi' := Tr.TreP.inT_iff.1 hi
  unfold tm
  rw [tm_fuel h m.length (m.length + 1) i fun _ => ⟨by omega, by omega⟩]
  simp [tmF, hi]
def lvlB (op : ByteArray) : Int :=
  if op = nSeq then 0 else if op = kLet ∨ op = kIf ∨ op = kTry ∨ op = kRaise ∨ op = kOut ∨ op = nSet then 1 else if op = kOr then 2 else if op = kAnd then 3 else if op = kEq ∨ op = kLt then 4 else if op = kPlus ∨ op = kMinus then 5 else if op = kStar then 6 else 7
theorem lvl_nn (op : ByteArray) : 0 ≤ lvlB op ∧ lvlB op ≤ 7 := by
  unfold lvlB
  repeat' split
  all_goals decide
def figsB (n : Int) : ByteArray := ⟨(Lib.itoa n).toArray⟩
def leafB (t : Tm) : ByteArray :=
  if t.op = kRaise ∨ t.op = kHole then t.op ++ ⟨#[32]⟩ ++ t.name
  else if t.op = nGet then ⟨#[33]⟩ ++ t.name
  else if t.op = nUnit then ⟨#[40, 41]⟩
  else if t.op = nInt then figsB t.num
  else if t.op = nVar then t.name
  else t.op
mutual
def openT : Tm → Bool
  | .mk op _ _ kids => if op = kLet then true else if op = kIf ∨ op = kTry then openL kids else false
def openL : List Tm → Bool
  | [] => false
  | x :: r => match r with
    | [] => openT x
    | _ :: _ => openL r
end
/-- Where one of a level may stand. -/
def atB (t : Tm) (s : ByteArray) (least : Int) : ByteArray := if lvlB t.op < least then ⟨#[40]⟩ ++ s ++ ⟨#[41]⟩ else s
def joinL : List ByteArray → ByteArray
  | [] => ⟨#[]⟩
  | [s] => s
  | s :: r => s ++ ⟨#[44, 32]⟩ ++ joinL r
def tInE : ByteArray := ⟨#[32, 105, 110, 32]⟩
def tLetE : ByteArray := ⟨#[108, 101, 116, 32]⟩
def tEqE : ByteArray := ⟨#[32, 61, 32]⟩
def tIfE : ByteArray := ⟨#[105, 102, 32]⟩
def tThenE : ByteArray := ⟨#[32, 116, 104, 101, 110, 32]⟩
def tElseE : ByteArray := ⟨#[32, 101, 108, 115, 101, 32]⟩
def tTryE : ByteArray := ⟨#[116, 114, 121, 32]⟩
def tWithE : ByteArray := ⟨#[32, 119, 105, 116, 104, 32]⟩
def tArrowE : ByteArray := ⟨#[32, 45, 62, 32]⟩
def tOutE : ByteArray := ⟨#[111, 117, 116, 32]⟩
def tSetE : ByteArray := ⟨#[32, 58, 61, 32]⟩
def tRelE : ByteArray := ⟨#[114, 101, 108, 101, 97, 115, 101, 32]⟩
def tSp : ByteArray := ⟨#[32]⟩
def tSemi : ByteArray := ⟨#[59, 32]⟩
def tNeg : ByteArray := ⟨#[45, 32]⟩
def tLpE : ByteArray := ⟨#[32, 40]⟩
/-- A node's text, out of its parts and their texts. -/
def nodeB (t : Tm) (ss : List ByteArray) : ByteArray :=
  let k := fun j => t.kids.getD j Tm.none
  let s := fun j => ss.getD j ⟨#[]⟩
  let x := fun j least => atB (k j) (s j) least
  if t.op = nSeq then (if openT (k 0) then ⟨#[40]⟩ ++ s 0 ++ ⟨#[41]⟩ else x 0 1) ++ tSemi ++ x 1 0
  else if t.op = kLet then tLetE ++ t.name ++ tEqE ++ x 0 0 ++ tInE ++ x 1 0
  else if t.op = kIf then tIfE ++ x 0 0 ++ tThenE ++ x 1 1 ++ tElseE ++ x 2 1
  else if t.op = kTry then tTryE ++ x 0 0 ++ tWithE ++ t.name ++ tArrowE ++ x 1 1
  else if t.op = kOut then tOutE ++ t.name ++ tSp ++ x 0 2
  else if t.op = nSet then t.name ++ tSetE ++ x 0 2
  else if t.op = nNeg then tNeg ++ x 0 7
  else if t.op = kNot ∨ t.op = kFst ∨ t.op = kSnd then t.op ++ tSp ++ x 0 7
  else if t.op = kOr ∨ t.op = kAnd ∨ t.op = kEq ∨ t.op = kLt ∨ t.op = kPlus ∨ t.op = kMinus ∨ t.op = kStar then x 0 (if lvlB t.op = 4 then 5 else lvlB t.op) ++ tSp ++ t.op ++ tSp ++ x 1 (lvlB t.op + 1)
  else if t.op = kRelease then tRelE ++ t.name ++ tLpE ++ x 0 0 ++ ⟨#[41]⟩
  else if t.op = nCall then t.name ++ ⟨#[40]⟩ ++ joinL ss ++ ⟨#[41]⟩
  else if t.op = nPair then ⟨#[40]⟩ ++ joinL ss ++ ⟨#[41]⟩
  else leafB t
mutual
def textT : Tm → ByteArray
  | .mk op name num kids => nodeB (.mk op name num kids) (textL kids)
def textL : List Tm → List ByteArray
  | [] => []
  | x :: r => textT x :: textL r
end
theorem textL_map : ∀ (l : List Tm), textL l = l.map textT
  | [] => by simp [textL]
  | x :: r => by simp [textL, textL_map r]
/-- Has a node as many parts as its Op has? -/
def rightB (op : ByteArray) (n : Nat) : Bool :=
  if op = kIf then decide (n = 3)
  else if op = nSeq ∨ op = kLet ∨ op = kTry ∨ op = kOr ∨ op = kAnd ∨ op = kEq ∨ op = kLt ∨ op = kPlus ∨ op = kMinus ∨ op = kStar ∨ op = nPair then decide (n = 2)
  else if op = kOut ∨ op = nSet ∨ op = nNeg ∨ op = kNot ∨ op = kFst ∨ op = kSnd ∨ op = kRelease then decide (n = 1)
  else if op = nCall then true
  else if op = kRaise ∨ op = kHole ∨ op = nGet ∨ op = nUnit ∨ op = nInt ∨ op = nVar ∨ op = kTrue ∨ op = kFalse then decide (n = 0)
  else false
mutual
def rightT : Tm → Bool
  | .mk op _ _ kids => rightB op kids.length && rightL kids
def rightL : List Tm → Bool
  | [] => true
  | x :: r => rightT x && rightL r
end
/-- An expression's text; what is wrong. -/
def showT (t : Tm) : Option ByteArray :=
  if rightT t then
    match parseP (textT t) with
    | .bad _ _ _ => none
    | .ok k _ m' => if eqT t (tm m' k) then some (textT t) else none
  else none
def showP (m : List Nd) (i : Int) : Option ByteArray := if inT m.length i then showT (tm m i) else none
/-- What is shown, and read again, is shown as it was. -/
theorem show_again {t : Tm} {s : ByteArray} (h : showT t = some s) : ∃ k l m, parseP s = .ok k l m ∧ t = tm m k ∧ showT (tm m k) = some s := by
  have h0 := h
  unfold showT at h
  split at h
  · split at h
    · cases h
    · rename_i k l m hp
      split at h
      · rename_i he
        have e := (eqT_iff _ _).1 he
        cases h
        exact ⟨k, l, m, hp, e, e ▸ h0⟩
      · cases h
  · cases h
end Go.Proofs.YtmeacgmjpjjphaaGreatDoor
namespace Go.Proofs.YtmeacgmjpjjphaaGreatDoor
theorem lives8_parse : ∃ i l m, parseP (bs [40, 40, 97, 59, 32, 98, 41, 41, 32, 42, 32, 45, 40, 102, 40, 49, 44, 120, 41, 41]) = .ok i l m ∧ showP m i = some (bs [40, 97, 59, 32, 98, 41, 32, 42, 32, 45, 32, 102, 40, 49, 44, 32, 120, 41]) := by
  have h : (match parseP (bs [40, 40, 97, 59, 32, 98, 41, 41, 32, 42, 32, 45, 40, 102, 40, 49, 44, 120, 41, 41]) with
    | .bad _ _ _ => false
    | .ok i l m => decide (showP m i = some (bs [40, 97, 59, 32, 98, 41, 32, 42, 32, 45, 32, 102, 40, 49, 44, 32, 120, 41]))) = true := by kernel_rfl
  split at h
  · cases h
  · rename_i i l m e
    exact ⟨i, l, m, e, of_decide_eq_true h⟩
end Go.Proofs.YtmeacgmjpjjphaaGreatDoor
