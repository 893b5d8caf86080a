/- What a text's tokens are: plain. -/
import Derived.Lib.RuneCount
import Derived.Lib.SlicesS
import Derived.Lib.ParseIntB
import Derived.Lib.IndexMore
import Derived.Shelf.Unicode.DecodeSlow
set_option linter.unusedVariables false
set_option linter.unusedSimpArgs false
namespace Go.Proofs.YtmeacgmjpjjphaaGreatDoor

/-- A text from place n on; its first n bytes; its first byte. -/
def aft (s : ByteArray) (n : Nat) : ByteArray := s.extract n s.size
def fore (s : ByteArray) (n : Nat) : ByteArray := s.extract 0 n
def hd (s : ByteArray) : UInt8 := s.data.toList.getD 0 0
theorem aft_size (s : ByteArray) (n : Nat) : (aft s n).size = s.size - n := by simp [aft]
theorem fore_size {s : ByteArray} {n : Nat} (h : n ≤ s.size) : (fore s n).size = n := by simp [fore]; omega
theorem hd_eq {s : ByteArray} (h : 0 < s.size) : s[0]'h = hd s := by
  have h' : 0 < s.data.toList.length := by simpa using h
  unfold hd
  rw [List.getD, List.getElem?_eq_getElem h']
  rfl
def letB (c : UInt8) : Bool := decide (97 ≤ c.toNat ∧ c.toNat ≤ 122) || decide (65 ≤ c.toNat ∧ c.toNat ≤ 90) || decide (c.toNat = 95)
def digB (c : UInt8) : Bool := decide (48 ≤ c.toNat ∧ c.toNat ≤ 57)
def nameB (c : UInt8) : Bool := letB c || digB c
/-- How many bytes come that are some. -/
def cntB (p : UInt8 → Bool) (s : ByteArray) : Nat := (s.data.toList.takeWhile p).length
theorem cntB_le (p : UInt8 → Bool) (s : ByteArray) : cntB p s ≤ s.size := by
  have := (List.takeWhile_prefix (l := s.data.toList) p).length_le
  rw [Array.length_toList] at this
  exact this
def bs (l : List UInt8) : ByteArray := ⟨l.toArray⟩
def owns : List ByteArray := [bs [108, 101, 116], bs [105, 110], bs [105, 102], bs [116, 104, 101, 110], bs [101, 108, 115, 101], bs [116, 114, 121], bs [119, 105, 116, 104], bs [111, 117, 116], bs [114, 97, 105, 115, 101], bs [116, 114, 117, 101], bs [102, 97, 108, 115, 101], bs [110, 111, 116], bs [97, 110, 100], bs [111, 114], bs [102, 115, 116], bs [115, 110, 100],
  bs [114, 101, 108, 101, 97, 115, 101], bs [104, 111, 108, 101], bs [105, 110, 112, 117, 116], bs [103, 108, 111, 98, 97, 108], bs [99, 104, 97, 110, 110, 101, 108], bs [101, 120, 99, 101, 112, 116, 105, 111, 110], bs [102, 117, 110], bs [109, 97, 105, 110], bs [99, 111, 110, 102], bs [105, 110, 116, 101, 103], bs [111, 114, 100, 101, 114], bs [97, 116, 116, 97, 99, 107, 101, 114], bs [104, 97, 116, 99, 104], bs [116, 111]]
def ownB (s : ByteArray) : Bool := Lib.containsS owns s
def marks : List ByteArray := [bs [58, 61], bs [45, 62], bs [40], bs [41], bs [123], bs [125], bs [44], bs [59], bs [58], bs [33], bs [43], bs [45], bs [42], bs [61], bs [60]]
/-- How many bytes the mark has that comes; 0: none does. -/
def markB (s : ByteArray) : Nat := match marks.find? fun m => Lib.hasPrefix s.data.toList m.data.toList with
  | some m => m.size
  | none => 0
/-- A number in figures. -/
def numV (l : List UInt8) : Nat := l.foldl (fun a c => a * 10 + (c.toNat - 48)) 0
/-- One token. -/
structure Tok where
  kind : Int
  text : ByteArray
  num : Int
  line : Int
  col : Int
/-- What comes: a token of so many bytes; or what is wrong. -/
inductive Read where
  | bad (code : Int)
  | tok (kind : Int) (n : Nat) (num : Int)
def readB (s : ByteArray) : Read :=
  if letB (hd s) then (if 40 < cntB nameB s then .bad 6 else .tok (if ownB (fore s (cntB nameB s)) then 2 else 1) (cntB nameB s) 0)
  else if digB (hd s) then (if 18 < cntB digB s then .bad 6 else .tok 3 (cntB digB s) (numV (fore s (cntB digB s)).data.toList))
  else if markB s = 0 then .bad 4 else .tok 4 (markB s) 0
/-- Where a text has bytes that are none. -/
def validB : Nat → ByteArray → Int → Int → Option (Int × Int)
  | 0, _, _, _ => none
  | N + 1, s, l, c => if s.size = 0 then none else if (Lib.decodeGo s).1 = 65533 ∧ (Lib.decodeGo s).2 = 1 then some (l, c) else if (Lib.decodeGo s).1 = 10 then validB N (aft s 1) (l + 1) 1 else
      validB N (aft s (Lib.decodeGo s).2) l (c + Lib.runeCount (fore s (Lib.decodeGo s).2))
/-- To the next token. -/
def blanksB : Nat → ByteArray → Int → Int → ByteArray × Int × Int
  | 0, s, l, c => (s, l, c)
  | N + 1, s, l, c => if s.size = 0 then (s, l, c) else if (hd s).toNat = 10 then blanksB N (aft s 1) (l + 1) 1 else if (hd s).toNat = 35 then blanksB N (aft s (Lib.cut s.data.toList [10]).1.length) l (c + Lib.runeCount (fore s (Lib.cut s.data.toList [10]).1.length)) else
      if (hd s).toNat = 32 ∨ (hd s).toNat = 9 ∨ (hd s).toNat = 13 then blanksB N (aft s 1) l (c + Lib.runeCount (fore s 1)) else (s, l, c)
/-- What a text ends in: tokens, or a fault with its place. -/
inductive Lexed where
  | bad (code line col : Int)
  | good (l : List Tok)
def toksB : Nat → ByteArray → Int → Int → Lexed
  | 0, _, l, c => .bad 0 l c
  | N + 1, s, l, c =>
    match blanksB s.size s l c with
    | (t, l', c') => if t.size = 0 then .good [⟨0, bs [], 0, l', c'⟩] else
      match readB t with
      | .bad e => .bad e l' c'
      | .tok k n v => match toksB N (aft t n) l' (c' + Lib.runeCount (fore t n)) with
        | .bad e a b => .bad e a b
        | .good r => .good (⟨k, fore t n, v, l', c'⟩ :: r)
/-- A text's tokens. -/
def tokensB (s : ByteArray) : Lexed :=
  if 65536 < s.size then .bad 6 1 1 else match validB s.size s 1 1 with
    | some (l, c) => .bad 3 l c
    | none => toksB (s.size + 1) s 1 1
end Go.Proofs.YtmeacgmjpjjphaaGreatDoor
