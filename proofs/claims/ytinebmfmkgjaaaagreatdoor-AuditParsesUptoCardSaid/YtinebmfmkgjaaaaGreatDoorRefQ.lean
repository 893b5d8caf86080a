/- The reference's places and scan, plain: what it says is what the tree says. -/
import Derived.Test.YtinebmfmkgjaaaaGreatDoorRefP
set_option linter.unusedVariables false
set_option linter.unusedSimpArgs false
namespace Go.Proofs.YtinebmfmkgjaaaaGreatDoor

theorem get_lt (s : ByteArray) (i : Nat) : (s.get! i).toNat < 256 := (s.get! i).toNat_lt
theorem aft_get (s : ByteArray) (n i : Nat) : (aft s n).get! i = s.get! (n + i) := Lib.tail_get! s n i
theorem fore_get {s : ByteArray} {n i : Nat} (hn : n ≤ s.size) (h : i < n) : (fore s n).get! i = s.get! i := by
  have h1 : i < (s.extract 0 n).size := by
    have := fore_size hn
    unfold fore at this
    omega
  have h2 : i < s.size := by omega
  show (s.extract 0 n).get! i = _
  rw [get_eq h1, get_eq h2, ByteArray.getElem_extract]
  simp
theorem aft_aft (s : ByteArray) (a b : Nat) : aft (aft s a) b = aft s (a + b) := by
  show (s.extract a s.size).extract b (aft s a).size = s.extract (a + b) s.size
  rw [ByteArray.extract_extract, aft_size]
  congr 1
  omega
theorem aft_fore {s : ByteArray} {n k : Nat} (hn : n ≤ s.size) (hk : k ≤ n) : aft (fore s n) k = fore (aft s k) (n - k) := by
  show (s.extract 0 n).extract k (fore s n).size = (s.extract k s.size).extract 0 (n - k)
  rw [ByteArray.extract_extract, ByteArray.extract_extract, fore_size hn]
  congr 1 <;> omega
theorem dec_go {s : ByteArray} (h : 0 < s.size) : Lib.decodeGo s = Lib.decodeN s.size (s.get! 0).toNat (s.get! 1).toNat (s.get! 2).toNat (s.get! 3).toNat := by
  unfold Lib.decodeGo
  rw [if_neg (by omega), Lib.decode_at]
  simp
theorem pt_zero {s : ByteArray} (h : 0 < s.size) : ptB s = 0 ↔ (Lib.decodeGo s).1 = 65533 ∧ (Lib.decodeGo s).2 = 1 := by
  rw [dec_go h, ptB_eq]
  exact (dec_pt _ _ _ _ _ h (get_lt _ _) (get_lt _ _) (get_lt _ _) (get_lt _ _)).1
theorem pt_some {s : ByteArray} (h : 0 < s.size) (hp : ptB s ≠ 0) : (Lib.decodeGo s).2 = ptB s ∧ ((Lib.decodeGo s).1 = 10 ↔ (s.get! 0).toNat = 10) := by
  have k := (dec_pt s.size _ _ _ _ h (get_lt s 0) (get_lt s 1) (get_lt s 2) (get_lt s 3)).2
  rw [dec_go h]
  rw [ptB_eq] at hp ⊢
  exact k hp
theorem loB_ge (c : Nat) : 128 ≤ loB c := by
  unfold loB
  split
  · decide
  · split <;> decide
theorem ptN_one {n b0 b1 b2 b3 : Nat} (h : b0 < 128) : ptN n b0 b1 b2 b3 = 1 := by
  unfold ptN
  rw [if_pos h]
theorem pt_one {s : ByteArray} (h : (s.get! 0).toNat < 128) : ptB s = 1 := by rw [ptB_eq, ptN_one h]
/-- What a code point's bytes are. -/
theorem pt_bytes (s : ByteArray) (h : 0 < s.size) : ptB s ≤ s.size ∧ (∀ j, 1 ≤ j → j < ptB s → 128 ≤ (s.get! j).toNat) ∧ (1 < ptB s → 128 ≤ (s.get! 0).toNat) := by
  rw [ptB_eq]
  have hl := loB_ge (s.get! 0).toNat
  unfold ptN
  split
  · exact ⟨h, fun j a b => by omega, fun a => by omega⟩
  · split
    · split
      · refine ⟨by omega, fun j a b => ?_, fun _ => by omega⟩
        obtain rfl : j = 1 := by omega
        omega
      · exact ⟨by omega, fun j a b => by omega, fun a => by omega⟩
    · split
      · split
        · refine ⟨by omega, fun j a b => ?_, fun _ => by omega⟩
          rcases (show j = 1 ∨ j = 2 by omega) with rfl | rfl <;> omega
        · exact ⟨by omega, fun j a b => by omega, fun a => by omega⟩
      · split
        · split
          · refine ⟨by omega, fun j a b => ?_, fun _ => by omega⟩
            rcases (show j = 1 ∨ j = 2 ∨ j = 3 by omega) with rfl | rfl | rfl <;> omega
          · exact ⟨by omega, fun j a b => by omega, fun a => by omega⟩
        · exact ⟨by omega, fun j a b => by omega, fun a => by omega⟩
/-- A code point that is cut out whole is the same. -/
theorem pt_fore {s : ByteArray} {n : Nat} (h : 0 < s.size) (hp : ptB s ≠ 0) (hn : n ≤ s.size) (hk : ptB s ≤ n) : ptB (fore s n) = ptB s := by
  have hb := (pt_bytes s h).1
  have h0 : (fore s n).get! 0 = s.get! 0 := fore_get hn (by omega)
  rw [ptB_eq] at hp hk ⊢
  rw [ptB_eq, fore_size hn, h0]
  unfold ptN at *
  split
  · rfl
  · rename_i c0
    rw [if_neg c0] at hp hk
    split
    · rename_i c1
      rw [if_pos c1] at hp hk
      split at hp
      · rename_i c
        rw [if_pos c] at hk
        rw [if_pos c, fore_get hn (by omega), if_pos ⟨by omega, c.2⟩]
      · exact absurd rfl hp
    · rename_i c1
      rw [if_neg c1] at hp hk
      split
      · rename_i c2
        rw [if_pos c2] at hp hk
        split at hp
        · rename_i c
          rw [if_pos c] at hk
          rw [if_pos c, fore_get hn (by omega), fore_get hn (by omega), if_pos ⟨⟨by omega, c.1.2⟩, ⟨by omega, c.2.2⟩⟩]
        · exact absurd rfl hp
      · rename_i c2
        rw [if_neg c2] at hp hk
        split
        · rename_i c3
          rw [if_pos c3] at hp hk
          split at hp
          · rename_i c
            rw [if_pos c] at hk
            rw [if_pos c, fore_get hn (by omega), fore_get hn (by omega), fore_get hn (by omega), if_pos ⟨⟨by omega, c.1.2⟩, ⟨by omega, c.2.1.2⟩, ⟨by omega, c.2.2.2⟩⟩]
          · exact absurd rfl hp
        · rename_i c3
          simp [c3] at hp
theorem count_step {s : ByteArray} (h : 0 < s.size) (hp : ptB s ≠ 0) : Lib.runeCount s = 1 + Lib.runeCount (aft s (ptB s)) := by
  have hd : (Utf8.decode s 0).2 = ptB s := by
    have := (pt_some h hp).1
    unfold Lib.decodeGo at this
    rw [if_neg (by omega)] at this
    exact this
  have hb := (pt_bytes s h).1
  obtain ⟨m, hm⟩ : ∃ m, s.size = m + 1 := ⟨s.size - 1, by omega⟩
  have e1 : Lib.runeCountFrom s (m + 1) 0 = 1 + Lib.runeCountFrom s m (0 + (Utf8.decode s 0).2) := by rw [Lib.runeCountFrom, if_pos h]
  have e2 : Lib.runeCount s = Lib.runeCountFrom s (m + 1) 0 := by
    unfold Lib.runeCount
    rw [hm]
  have e3 : Lib.runeCount (aft s (ptB s)) = Lib.runeCountFrom s (s.size - ptB s) (ptB s + 0) := by
    unfold Lib.runeCount
    rw [aft_size]
    exact Lib.tail_count s _ _ _
  rw [e2, e1, e3, hd]
  refine congrArg (1 + ·) ?_
  rw [Nat.zero_add, Nat.add_zero]
  exact Lib.fuel_enough s _ _ _ (by omega) (by omega)
theorem count_fore {s : ByteArray} {n : Nat} (h : 0 < s.size) (hp : ptB s ≠ 0) (hn : n ≤ s.size) (hk : ptB s ≤ n) : Lib.runeCount (fore s n) = 1 + Lib.runeCount (fore (aft s (ptB s)) (n - ptB s)) := by
  have e := pt_fore h hp hn hk
  rw [count_step (by rw [fore_size hn]; omega) (by rw [e]; exact hp), e, aft_fore hn hk]
theorem count_none {s : ByteArray} (h : s.size = 0) : Lib.runeCount s = 0 := by
  unfold Lib.runeCount
  rw [h]
  rfl
theorem count_pt {s : ByteArray} (h : 0 < s.size) (hp : ptB s ≠ 0) : Lib.runeCount (fore s (ptB s)) = 1 := by
  have hb := (pt_bytes s h).1
  rw [count_fore h hp hb (Nat.le_refl _), count_none (by rw [fore_size (by rw [aft_size]; omega)]; omega)]

/-- Behind a code point at (l, c). -/
def nextL (s : ByteArray) (l : Int) : Int := if (s.get! 0).toNat = 10 then l + 1 else l
def nextC (s : ByteArray) (c : Int) : Int := if (s.get! 0).toNat = 10 then 1 else c + 1
/-- The place of each byte, and of the end. -/
def plB : Nat → ByteArray → Int → Int → List (Int × Int)
  | 0, _, l, c => [(l, c)]
  | N + 1, s, l, c => if s.size = 0 ∨ ptB s = 0 then [(l, c)] else List.replicate (ptB s) (l, c) ++ plB N (aft s (ptB s)) (nextL s l) (nextC s c)
def pl (s : ByteArray) (l c : Int) : List (Int × Int) := plB s.size s l c
/-- Where the first bytes are that are none. -/
def vaB : Nat → ByteArray → Int → Int → Option (Int × Int)
  | 0, _, _, _ => none
  | N + 1, s, l, c => if s.size = 0 then none else if ptB s = 0 then some (l, c) else vaB N (aft s (ptB s)) (nextL s l) (nextC s c)
def va (s : ByteArray) (l c : Int) : Option (Int × Int) := vaB s.size s l c
theorem plB_fuel : ∀ (N M : Nat) (s : ByteArray) (l c : Int), s.size ≤ N → s.size ≤ M → plB N s l c = plB M s l c
  | 0, 0, _, _, _, _, _ => rfl
  | 0, M + 1, s, l, c, h, _ => by
    unfold plB
    rw [if_pos (Or.inl (by omega))]
  | N + 1, 0, s, l, c, _, h => by
    unfold plB
    rw [if_pos (Or.inl (by omega))]
  | N + 1, M + 1, s, l, c, h1, h2 => by
    unfold plB
    split
    · rfl
    · rename_i h
      rw [plB_fuel N M _ _ _ (by rw [aft_size]; omega) (by rw [aft_size]; omega)]
theorem vaB_fuel : ∀ (N M : Nat) (s : ByteArray) (l c : Int), s.size ≤ N → s.size ≤ M → vaB N s l c = vaB M s l c
  | 0, 0, _, _, _, _, _ => rfl
  | 0, M + 1, s, l, c, h, _ => by
    unfold vaB
    rw [if_pos (by omega)]
  | N + 1, 0, s, l, c, _, h => by
    unfold vaB
    rw [if_pos (by omega)]
  | N + 1, M + 1, s, l, c, h1, h2 => by
    unfold vaB
    split
    · rfl
    · split
      · rfl
      · rw [vaB_fuel N M _ _ _ (by rw [aft_size]; omega) (by rw [aft_size]; omega)]
theorem pl_nil {s : ByteArray} (h : s.size = 0) (l c : Int) : pl s l c = [(l, c)] := by
  unfold pl
  rw [h]
  rfl
theorem pl_cons {s : ByteArray} (h : s.size ≠ 0) (hp : ptB s ≠ 0) (l c : Int) : pl s l c = List.replicate (ptB s) (l, c) ++ pl (aft s (ptB s)) (nextL s l) (nextC s c) := by
  unfold pl
  obtain ⟨m, hm⟩ : ∃ m, s.size = m + 1 := ⟨s.size - 1, by omega⟩
  conv => lhs; rw [hm, plB, if_neg (by omega)]
  rw [plB_fuel m _ _ _ _ (by rw [aft_size]; omega) (Nat.le_refl _)]
theorem va_nil {s : ByteArray} (h : s.size = 0) (l c : Int) : va s l c = none := by
  unfold va
  rw [h]
  rfl
theorem va_bad {s : ByteArray} (h : s.size ≠ 0) (hp : ptB s = 0) (l c : Int) : va s l c = some (l, c) := by
  unfold va
  obtain ⟨m, hm⟩ : ∃ m, s.size = m + 1 := ⟨s.size - 1, by omega⟩
  rw [hm, vaB, if_neg h, if_pos hp]
theorem va_cons {s : ByteArray} (h : s.size ≠ 0) (hp : ptB s ≠ 0) (l c : Int) : va s l c = va (aft s (ptB s)) (nextL s l) (nextC s c) := by
  unfold va
  obtain ⟨m, hm⟩ : ∃ m, s.size = m + 1 := ⟨s.size - 1, by omega⟩
  conv => lhs; rw [hm, vaB, if_neg h, if_neg hp]
  rw [vaB_fuel m _ _ _ _ (by rw [aft_size]; omega) (Nat.le_refl _)]
/-- The tree finds the same first fault. -/
theorem valid_va : ∀ (N : Nat) (s : ByteArray) (l c : Int), s.size ≤ N → validB N s l c = va s l c
  | 0, s, l, c, h => by
    rw [va_nil (by omega)]
    rfl
  | N + 1, s, l, c, h => by
    unfold validB
    split
    · rename_i h0
      rw [va_nil h0]
    · rename_i h0
      have hpos : 0 < s.size := by omega
      split
      · rename_i h1
        rw [va_bad h0 ((pt_zero hpos).2 h1)]
      · rename_i h1
        have hp : ptB s ≠ 0 := fun e => h1 ((pt_zero hpos).1 e)
        have hb := pt_bytes s hpos
        have hs := pt_some hpos hp
        rw [va_cons h0 hp]
        split
        · rename_i h2
          have h3 := hs.2.1 h2
          have h4 : ptB s = 1 := pt_one (by omega)
          rw [valid_va N _ _ _ (by rw [aft_size]; omega), h4]
          unfold nextL nextC
          rw [if_pos h3, if_pos h3]
        · rename_i h2
          have h3 : ¬ (s.get! 0).toNat = 10 := fun e => h2 (hs.2.2 e)
          rw [valid_va N _ _ _ (by rw [aft_size, hs.1]; omega), hs.1, count_pt hpos hp]
          unfold nextL nextC
          rw [if_neg h3, if_neg h3]
          rfl
/-- No fault. -/
def Va (s : ByteArray) : Prop := ∀ l c, va s l c = none
theorem va_any : ∀ (N : Nat) (s : ByteArray) (l c l' c' : Int), s.size ≤ N → va s l c = none → va s l' c' = none
  | 0, s, l, c, l', c', h, _ => va_nil (by omega) _ _
  | N + 1, s, l, c, l', c', h, hv => by
    by_cases h0 : s.size = 0
    · exact va_nil h0 _ _
    · by_cases hp : ptB s = 0
      · rw [va_bad h0 hp] at hv
        cases hv
      · rw [va_cons h0 hp] at hv ⊢
        exact va_any N _ _ _ _ _ (by rw [aft_size]; omega) hv
theorem Va.of {s : ByteArray} {l c : Int} (h : va s l c = none) : Va s := fun l' c' => va_any s.size s l c l' c' (Nat.le_refl _) h
theorem Va.pt {s : ByteArray} (h : Va s) (h0 : s.size ≠ 0) : ptB s ≠ 0 := fun e => by
  have := h 1 1
  rw [va_bad h0 e] at this
  cases this
theorem Va.next {s : ByteArray} (h : Va s) (h0 : s.size ≠ 0) : Va (aft s (ptB s)) := Va.of ((va_cons h0 (h.pt h0) 1 1).symm.trans (h 1 1))
/-- A place between two code points. -/
def Bd (s : ByteArray) (n : Nat) : Prop := n = s.size ∨ (s.get! n).toNat < 128 ∨ ∀ j, j < n → (s.get! j).toNat < 128
theorem skip_pl : ∀ (N : Nat) (s : ByteArray) (n : Nat) (l c : Int), n ≤ N → n ≤ s.size → Va s → Bd s n → (∀ j, j < n → (s.get! j).toNat ≠ 10) →
    (pl s l c).drop n = pl (aft s n) l (c + Lib.runeCount (fore s n)) ∧ Va (aft s n)
  | N, s, 0, l, c, _, hn, hv, _, _ => by
    have ha : aft s 0 = s := by simp [aft]
    rw [ha, count_none (by rw [fore_size hn])]
    simp
    exact hv
  | 0, s, n + 1, l, c, h, _, _, _, _ => absurd h (by omega)
  | N + 1, s, n + 1, l, c, h, hn, hv, hbd, hno => by
    have h0 : s.size ≠ 0 := by omega
    have hp := hv.pt h0
    have hb := pt_bytes s (by omega)
    have hk : ptB s ≤ n + 1 := by
      by_cases e : ptB s ≤ n + 1
      · exact e
      · exfalso
        have h1 := hb.2.1 (n + 1) (by omega) (by omega)
        have h2 := hb.2.2 (by omega)
        rcases hbd with h3 | h3 | h3
        · omega
        · omega
        · have := h3 0 (by omega)
          omega
    have hn0 : ¬ (s.get! 0).toNat = 10 := hno 0 (by omega)
    have ih := skip_pl N (aft s (ptB s)) (n + 1 - ptB s) l (c + 1) (by omega) (by rw [aft_size]; omega) (hv.next h0) (by
      rcases hbd with h3 | h3 | h3
      · exact .inl (by rw [aft_size]; omega)
      · exact .inr (.inl (by rw [aft_get, show ptB s + (n + 1 - ptB s) = n + 1 by omega]; exact h3))
      · exact .inr (.inr fun j hj => by rw [aft_get]; exact h3 _ (by omega))) (fun j hj => by rw [aft_get]; exact hno _ (by omega))
    rw [aft_aft, show ptB s + (n + 1 - ptB s) = n + 1 by omega] at ih
    refine ⟨?_, ih.2⟩
    rw [pl_cons h0 hp, count_fore (by omega) hp hn hk]
    unfold nextL nextC
    rw [if_neg hn0, if_neg hn0, List.drop_append, List.length_replicate, List.drop_replicate, show ptB s - (n + 1) = 0 by omega]
    simp only [List.replicate_zero, List.nil_append]
    rw [ih.1]
    congr 1
    omega
theorem pl_head {s : ByteArray} (hv : Va s) (l c : Int) : (pl s l c).getD 0 (0, 0) = (l, c) := by
  by_cases h0 : s.size = 0
  · rw [pl_nil h0]
    rfl
  · rw [pl_cons h0 (hv.pt h0)]
    obtain ⟨m, hm⟩ : ∃ m, ptB s = m + 1 := ⟨ptB s - 1, by have := hv.pt h0; omega⟩
    rw [hm]
    rfl
end Go.Proofs.YtinebmfmkgjaaaaGreatDoor
