/- Expressions as nodes: what a reader makes of tokens, plain. -/
import Derived.Test.YtmeacgmjpjjphaaGreatDoorMLexP
import Derived.Test.YtmeacgmjpjjphaaGreatDoorMTre3
set_option linter.unusedVariables false
set_option linter.unusedSimpArgs false
namespace Go.Proofs.YtmeacgmjpjjphaaGreatDoor
open Tr (Nd)

/-- How a reading ends: with what is wrong, and where; or with something, what is left, and the nodes. -/
inductive Out (α : Type) where
  | bad (code line col : Int)
  | ok (a : α) (l : List Tok) (m : List Nd)
def Out.bind {α β : Type} : Out α → (α → List Tok → List Nd → Out β) → Out β
  | .bad c l k, _ => .bad c l k
  | .ok a l m, f => f a l m
abbrev Ps (α : Type) := List Tok → List Nd → Out α
def zTok : Tok := ⟨0, ⟨#[]⟩, 0, 0, 0⟩
def hdT (l : List Tok) : Tok := l.headD zTok
def isT (s : ByteArray) (t : Tok) : Bool := (decide (t.kind = 4) || decide (t.kind = 2)) && decide (t.text = s)
def failP {α : Type} (c : Int) : Ps α := fun l _ => .bad c (hdT l).line (hdT l).col
def mustP (s : ByteArray) : Ps Unit := fun l m => if isT s (hdT l) then .ok () l.tail m else .bad 5 (hdT l).line (hdT l).col
def kindP (k : Int) : Ps Tok := fun l m => if (hdT l).kind = k then .ok (hdT l) l.tail m else .bad 5 (hdT l).line (hdT l).col
def nodeP (op : ByteArray) (t : Tok) (name : ByteArray) (kids : List Int) : Ps Int := fun l m =>
  if 4000 ≤ m.length then .bad 6 (hdT l).line (hdT l).col else .ok m.length l (m ++ [⟨op, t.line, t.col, name, t.num, kids⟩])

def kLet : ByteArray := ⟨#[108, 101, 116]⟩
def kIn : ByteArray := ⟨#[105, 110]⟩
def kIf : ByteArray := ⟨#[105, 102]⟩
def kThen : ByteArray := ⟨#[116, 104, 101, 110]⟩
def kElse : ByteArray := ⟨#[101, 108, 115, 101]⟩
def kTry : ByteArray := ⟨#[116, 114, 121]⟩
def kWith : ByteArray := ⟨#[119, 105, 116, 104]⟩
def kOut : ByteArray := ⟨#[111, 117, 116]⟩
def kRaise : ByteArray := ⟨#[114, 97, 105, 115, 101]⟩
def kTrue : ByteArray := ⟨#[116, 114, 117, 101]⟩
def kFalse : ByteArray := ⟨#[102, 97, 108, 115, 101]⟩
def kNot : ByteArray := ⟨#[110, 111, 116]⟩
def kAnd : ByteArray := ⟨#[97, 110, 100]⟩
def kOr : ByteArray := ⟨#[111, 114]⟩
def kFst : ByteArray := ⟨#[102, 115, 116]⟩
def kSnd : ByteArray := ⟨#[115, 110, 100]⟩
def kRelease : ByteArray := ⟨#[114, 101, 108, 101, 97, 115, 101]⟩
def kHole : ByteArray := ⟨#[104, 111, 108, 101]⟩
def kSemi : ByteArray := ⟨#[59]⟩
def kEq : ByteArray := ⟨#[61]⟩
def kLt : ByteArray := ⟨#[60]⟩
def kPlus : ByteArray := ⟨#[43]⟩
def kMinus : ByteArray := ⟨#[45]⟩
def kStar : ByteArray := ⟨#[42]⟩
def kBang : ByteArray := ⟨#[33]⟩
def kLp : ByteArray := ⟨#[40]⟩
def kRp : ByteArray := ⟨#[41]⟩
def kComma : ByteArray := ⟨#[44]⟩
def kArrow : ByteArray := ⟨#[45, 62]⟩
def kSet : ByteArray := ⟨#[58, 61]⟩
def nSeq : ByteArray := ⟨#[115, 101, 113]⟩
def nSet : ByteArray := ⟨#[115, 101, 116]⟩
def nNeg : ByteArray := ⟨#[110, 101, 103]⟩
def nGet : ByteArray := ⟨#[103, 101, 116]⟩
def nInt : ByteArray := ⟨#[105, 110, 116]⟩
def nVar : ByteArray := ⟨#[118, 97, 114]⟩
def nCall : ByteArray := ⟨#[99, 97, 108, 108]⟩
def nUnit : ByteArray := ⟨#[117, 110, 105, 116]⟩
def nPair : ByteArray := ⟨#[112, 97, 105, 114]⟩
def nNil : ByteArray := ⟨#[]⟩

/-- The words and marks with which an item may begin. -/
def begs : List ByteArray := [kLet, kIf, kTry, kRaise, kOut, kMinus, kNot, kFst, kSnd, kBang, kTrue, kFalse, kHole, kRelease, kLp]
def startsT (t : Tok) : Bool := if t.kind = 1 ∨ t.kind = 3 then true else if t.kind = 2 ∨ t.kind = 4 then Lib.containsS begs t.text else false

/-- Items with ; between. -/
def allP (item : Ps Int) : Nat → Ps Int
  | 0, _, _ => .bad 0 0 0
  | n + 1, l, m => (item l m).bind fun a l1 m1 =>
    if isT kSemi (hdT l1) && startsT (hdT l1.tail) then (allP item n l1.tail m1).bind fun b l2 m2 => nodeP nSeq (hdT l1) nNil [a, b] l2 m2
    else .ok a l1 m1
def opsB : Nat → List ByteArray
  | 0 => [kOr]
  | 1 => [kAnd]
  | 2 => [kEq, kLt]
  | 3 => [kPlus, kMinus]
  | _ => [kStar]
def opT (n : Nat) (t : Tok) : Option ByteArray := (opsB n).find? fun s => isT s t
/-- Behind a first one of level n: more of them; sub is the next level. -/
def lopP (sub : Ps Int) (n : Nat) : Nat → Int → Ps Int
  | 0, _, _, _ => .bad 0 0 0
  | f + 1, a, l, m => match opT n (hdT l) with
    | none => .ok a l m
    | some op => (sub l.tail m).bind fun b l1 m1 => (nodeP op (hdT l) nNil [a, b] l1 m1).bind fun c l2 m2 => if n = 2 then .ok c l2 m2 else lopP sub n f c l2 m2
/-- Level 5 - j. -/
def levP (un : Ps Int) : Nat → Ps Int
  | 0 => un
  | j + 1 => fun l m => (levP un j l m).bind fun a l1 m1 => lopP (levP un j) (4 - j) l1.length a l1 m1

/-- All, with as much fuel as there are tokens. -/
def allT (item : Ps Int) : Ps Int := fun l m => allP item l.length l m

def itemB (item un : Ps Int) : Ps Int := fun l m =>
  let t := hdT l
  if isT kLet t then (kindP 1 l.tail m).bind fun n l m => (mustP kEq l m).bind fun _ l m => (allT item l m).bind fun a l m => (mustP kIn l m).bind fun _ l m => (allT item l m).bind fun b l m => nodeP kLet t n.text [a, b] l m
  else if isT kIf t then (allT item l.tail m).bind fun c l m => (mustP kThen l m).bind fun _ l m => (item l m).bind fun a l m => (mustP kElse l m).bind fun _ l m => (item l m).bind fun b l m => nodeP kIf t nNil [c, a, b] l m
  else if isT kTry t then (allT item l.tail m).bind fun a l m => (mustP kWith l m).bind fun _ l m => (kindP 1 l m).bind fun n l m => (mustP kArrow l m).bind fun _ l m => (item l m).bind fun b l m => nodeP kTry t n.text [a, b] l m
  else if isT kRaise t then (kindP 1 l.tail m).bind fun n l m => nodeP kRaise t n.text [] l m
  else if isT kOut t then (kindP 1 l.tail m).bind fun n l m => (levP un 5 l m).bind fun a l m => nodeP kOut t n.text [a] l m
  else if t.kind = 1 ∧ (hdT l.tail).kind = 4 ∧ (hdT l.tail).text = kSet then (levP un 5 l.tail.tail m).bind fun a l m => nodeP nSet t t.text [a] l m
  else levP un 5 l m

/-- Expressions up to the bracket, behind some. -/
def argP (item : Ps Int) : Nat → List Int → Ps (List Int)
  | 0, _, _, _ => .bad 0 0 0
  | f + 1, acc, l, m => (allT item l m).bind fun a l1 m1 => if isT kComma (hdT l1) then argP item f (acc ++ [a]) l1.tail m1 else (mustP kRp l1 m1).bind fun _ l2 m2 => .ok (acc ++ [a]) l2 m2
def argsP (item : Ps Int) : Ps (List Int) := fun l m => if isT kRp (hdT l) then .ok [] l.tail m else argP item l.length [] l m
def insP (item : Ps Int) (t : Tok) : Ps Int := fun l m =>
  if isT kRp (hdT l) then nodeP nUnit t nNil [] l.tail m
  else (allT item l m).bind fun a l m => if isT kRp (hdT l) then .ok a l.tail m
    else (mustP kComma l m).bind fun _ l m => (allT item l m).bind fun b l m => (mustP kRp l m).bind fun _ l m => nodeP nPair t nNil [a, b] l m
def unB (item un : Ps Int) : Ps Int := fun l m =>
  let t := hdT l
  if isT kMinus t then (un l.tail m).bind fun a l m => nodeP nNeg t nNil [a] l m
  else if isT kNot t || isT kFst t || isT kSnd t then (un l.tail m).bind fun a l m => nodeP t.text t nNil [a] l m
  else if isT kBang t then (kindP 1 l.tail m).bind fun n l m => nodeP nGet t n.text [] l m
  else if isT kTrue t || isT kFalse t then nodeP t.text t nNil [] l.tail m
  else if isT kHole t then (kindP 1 l.tail m).bind fun n l m => nodeP kHole t n.text [] l m
  else if isT kRelease t then (kindP 1 l.tail m).bind fun n l m => (mustP kLp l m).bind fun _ l m => (allT item l m).bind fun a l m => (mustP kRp l m).bind fun _ l m => nodeP kRelease t n.text [a] l m
  else if isT kLp t then insP item t l.tail m
  else if t.kind = 3 then nodeP nInt t nNil [] l.tail m
  else (kindP 1 l m).bind fun _ l m => if isT kLp (hdT l) then (argsP item l.tail m).bind fun ks l m => nodeP nCall t t.text ks l m else nodeP nVar t t.text [] l m
/-- Items, and unaries, that may nest k deep. -/
def deepP : Nat → Ps Int × Ps Int
  | 0 => (failP 6, failP 6)
  | k + 1 => (itemB (deepP k).1 (deepP k).2, unB (deepP k).1 (deepP k).2)
def itemP (k : Nat) : Ps Int := (deepP k).1
def unP (k : Nat) : Ps Int := (deepP k).2
/-- A text's expression. -/
def exprP : Ps Int := fun l m => (allT (itemP 64) l m).bind fun i l m => if (hdT l).kind = 0 then .ok i l m else .bad 5 (hdT l).line (hdT l).col
def parseP (s : ByteArray) : Out Int := match tokensB s with
  | .bad e l c => .bad e l c
  | .good ts => exprP ts []
end Go.Proofs.YtmeacgmjpjjphaaGreatDoor
