/- The reference's scan, plain, and that it is the tree's. -/
import Derived.Test.YtinebmfmkgjaaaaGreatDoorRefQ
set_option linter.unusedVariables false
set_option linter.unusedSimpArgs false
namespace Go.Proofs.YtinebmfmkgjaaaaGreatDoor

theorem get_list {s : ByteArray} {k : Nat} (h : k < s.data.toList.length) : s.get! k = s.data.toList[k] := by
  rw [get_eq (by simpa using h)]
  rfl
theorem get_getD {s : ByteArray} {k : Nat} (h : k < s.size) : s.get! k = s.data.toList.getD k 0 := (get_eq h).trans (byte_eq h)
theorem occ_one (l : List UInt8) (j : Nat) (h : j < l.length) : Lib.occAt l [10] j = decide (l[j] = 10) := by
  unfold Lib.occAt
  rw [List.drop_eq_getElem_cons h]
  by_cases e : l[j] = 10
  · simp [List.isPrefixOf, e]
  · have e' : ¬ (10 = l[j]) := fun x => e x.symm
    simp [List.isPrefixOf, e, e']
theorem cut_spec (t : ByteArray) : ∃ n, (Lib.cut t.data.toList [10]).1.length = n ∧ n ≤ t.size ∧ (∀ j, j < n → (t.get! j).toNat ≠ 10) ∧ (n = t.size ∨ (t.get! n).toNat = 10) := by
  have hl : t.data.toList.length = t.size := by simp
  refine ⟨_, rfl, ?_⟩
  unfold Lib.cut
  rcases Lib.index_spec t.data.toList [10] with ⟨h1, h2⟩ | ⟨i, h1, h2, h3, h4⟩
  · rw [if_neg (by omega)]
    refine ⟨Nat.le_of_eq hl, fun j hj e => ?_, .inl hl⟩
    have hj' : j < t.data.toList.length := hj
    have := h2 j (by omega)
    rw [occ_one _ _ hj', ← get_list hj'] at this
    exact of_decide_eq_false this (UInt8.toNat_inj.1 e)
  · rw [if_pos (by omega)]
    have hi : i < t.data.toList.length := by
      have := Lib.occAt_head rfl h3
      exact (List.getElem?_eq_some_iff.1 this).1
    simp only [List.length_take, h1, Int.toNat_natCast]
    refine ⟨by omega, fun j hj e => ?_, .inr ?_⟩
    · have hj' : j < t.data.toList.length := by omega
      have := h4 j (by omega)
      rw [occ_one _ _ hj', ← get_list hj'] at this
      exact of_decide_eq_false this (UInt8.toNat_inj.1 e)
    · rw [Nat.min_eq_left (by omega)]
      rw [occ_one _ _ hi, ← get_list hi] at h3
      rw [of_decide_eq_true h3]
      rfl
/-- A token's bytes. -/
def asc (c : UInt8) : Bool := decide (c.toNat < 128) && decide (c.toNat ≠ 10)
theorem asc_name {c : UInt8} (h : nameB c = true) : asc c = true := by
  unfold nameB letB digB at h
  unfold asc
  simp only [Bool.or_eq_true, decide_eq_true_eq] at h
  simp only [Bool.and_eq_true, decide_eq_true_eq]
  omega
theorem asc_dig {c : UInt8} (h : digB c = true) : asc c = true := asc_name (by unfold nameB; rw [h]; simp)
theorem asc_marks : ∀ m ∈ marks, ∀ c ∈ m.data.toList, asc c = true := by decide
theorem asc_take {s : ByteArray} {n : Nat} (h : ∀ c ∈ s.data.toList.take n, asc c = true) (hn : n ≤ s.size) : ∀ j, j < n → (s.get! j).toNat < 128 ∧ (s.get! j).toNat ≠ 10 := by
  intro j hj
  have hl : j < s.data.toList.length := by
    rw [show s.data.toList.length = s.size by simp]
    omega
  have hm : s.data.toList[j] ∈ s.data.toList.take n := by
    rw [List.mem_take_iff_getElem]
    exact ⟨j, by omega, rfl⟩
  have := h _ hm
  rw [← get_list hl] at this
  unfold asc at this
  simpa using this
theorem read_asc {s : ByteArray} (hpos : 0 < s.size) {k : Int} {n : Nat} {v : Int} (h : readB s = .tok k n v) : ∀ j, j < n → (s.get! j).toNat < 128 ∧ (s.get! j).toNat ≠ 10 := by
  have hn := readB_n hpos h
  refine asc_take ?_ hn.2
  unfold readB at h
  split at h
  · split at h
    · cases h
    · cases h
      exact fun c hc => asc_name (takeWhile_mem hc)
  · split at h
    · split at h
      · cases h
      · cases h
        exact fun c hc => asc_dig (takeWhile_mem hc)
    · split at h
      · cases h
      · cases h
        unfold markB
        cases hm : marks.find? (fun m => Lib.hasPrefix s.data.toList m.data.toList) with
        | none => simp
        | some m =>
          have hp := List.find?_some hm
          simp only [Lib.hasPrefix] at hp
          have hp' := List.isPrefixOf_iff_prefix.1 hp
          intro c hc
          refine asc_marks m (List.mem_of_find?_eq_some hm) c ?_
          rw [List.prefix_iff_eq_take.1 hp']
          simpa using hc
/-- In a note, behind a byte? -/
def noteB (note : Bool) (c : Nat) : Bool := if c = 10 then false else if c = 35 then true else note
def skipB (note : Bool) (c : Nat) : Bool := noteB note c || (decide (c = 32) || (decide (c = 9) || (decide (c = 13) || decide (c = 10))))
def p0 (ps : List (Int × Int)) : Int × Int := ps.getD 0 (0, 0)
def refB : Nat → ByteArray → List (Int × Int) → Bool → Lexed
  | 0, _, _, _ => .bad 0 0 0
  | N + 1, t, ps, note =>
    if t.size = 0 then .good [⟨0, bs [], 0, (p0 ps).1, (p0 ps).2⟩]
    else if skipB note (t.get! 0).toNat then refB N (aft t 1) (ps.drop 1) (noteB note (t.get! 0).toNat)
    else match readB t with
      | .bad e => .bad e (p0 ps).1 (p0 ps).2
      | .tok k n v => addL [⟨k, fore t n, v, (p0 ps).1, (p0 ps).2⟩] (refB N (aft t n) (ps.drop n) false)
theorem refB_fuel : ∀ (N M : Nat) (t : ByteArray) (ps : List (Int × Int)) (b : Bool), t.size < N → t.size < M → refB N t ps b = refB M t ps b
  | 0, _, _, _, _, h, _ => absurd h (by omega)
  | _ + 1, 0, _, _, _, _, h => absurd h (by omega)
  | N + 1, M + 1, t, ps, b, h1, h2 => by
    unfold refB
    split
    · rfl
    · rename_i h0
      split
      · exact refB_fuel N M _ _ _ (by rw [aft_size]; omega) (by rw [aft_size]; omega)
      · cases hr : readB t with
        | bad e => rfl
        | tok k n v =>
          have hn := readB_n (by omega) hr
          simp only
          rw [refB_fuel N M _ _ _ (by rw [aft_size]; omega) (by rw [aft_size]; omega)]
def ref (t : ByteArray) (ps : List (Int × Int)) (b : Bool) : Lexed := refB (t.size + 1) t ps b
theorem ref_nil {t : ByteArray} (h : t.size = 0) (ps : List (Int × Int)) (b : Bool) : ref t ps b = .good [⟨0, bs [], 0, (p0 ps).1, (p0 ps).2⟩] := by
  unfold ref refB
  rw [if_pos h]
theorem ref_skip {t : ByteArray} (h : t.size ≠ 0) (ps : List (Int × Int)) (b : Bool) (hs : skipB b (t.get! 0).toNat = true) : ref t ps b = ref (aft t 1) (ps.drop 1) (noteB b (t.get! 0).toNat) := by
  unfold ref
  conv => lhs; rw [refB, if_neg h, if_pos hs]
  exact refB_fuel _ _ _ _ _ (by rw [aft_size]; omega) (by omega)
theorem ref_bad {t : ByteArray} (h : t.size ≠ 0) (ps : List (Int × Int)) (b : Bool) (hs : skipB b (t.get! 0).toNat = false) {e : Int} (hr : readB t = .bad e) : ref t ps b = .bad e (p0 ps).1 (p0 ps).2 := by
  unfold ref
  rw [refB, if_neg h, if_neg (by rw [hs]; decide), hr]
theorem ref_tok {t : ByteArray} (h : t.size ≠ 0) (ps : List (Int × Int)) (b : Bool) (hs : skipB b (t.get! 0).toNat = false) {k : Int} {n : Nat} {v : Int} (hr : readB t = .tok k n v) :
    ref t ps b = addL [⟨k, fore t n, v, (p0 ps).1, (p0 ps).2⟩] (ref (aft t n) (ps.drop n) false) := by
  have hn := readB_n (by omega) hr
  unfold ref
  conv => lhs; rw [refB, if_neg h, if_neg (by rw [hs]; decide), hr]
  simp only
  rw [refB_fuel t.size _ _ _ _ (by rw [aft_size]; omega) (Nat.lt_succ_self _)]
/-- A note's bytes. -/
theorem ref_note : ∀ (k : Nat) (t : ByteArray) (ps : List (Int × Int)), k ≤ t.size → (∀ j, j < k → (t.get! j).toNat ≠ 10) → ref t ps true = ref (aft t k) (ps.drop k) true
  | 0, t, ps, _, _ => by
    rw [show aft t 0 = t by simp [aft]]
    rfl
  | k + 1, t, ps, hk, h => by
    have h1 : noteB true (t.get! 0).toNat = true := by
      unfold noteB
      rw [if_neg (h 0 (by omega))]
      split <;> rfl
    rw [ref_skip (by omega) _ _ (by unfold skipB; rw [h1]; rfl), h1, ref_note k (aft t 1) _ (by rw [aft_size]; omega) (fun j hj => by rw [aft_get]; exact h _ (by omega)), aft_aft, List.drop_drop, Nat.add_comm 1 k]
/-- Behind a note. -/
theorem ref_end {t : ByteArray} (ps : List (Int × Int)) (h : t.size = 0 ∨ (t.get! 0).toNat = 10) : ref t ps true = ref t ps false := by
  by_cases h0 : t.size = 0
  · rw [ref_nil h0, ref_nil h0]
  · have h1 : (t.get! 0).toNat = 10 := by omega
    rw [ref_skip h0 _ _ (by rw [h1]; rfl), ref_skip h0 _ _ (by rw [h1]; rfl), h1]
    rfl
theorem ref_hash {t : ByteArray} (ps : List (Int × Int)) (h0 : t.size ≠ 0) (h : (t.get! 0).toNat = 35) : ref t ps false = ref t ps true := by
  rw [ref_skip h0 _ _ (by rw [h]; rfl), ref_skip h0 _ _ (by rw [h]; rfl), h]
  rfl
theorem count_asc {s : ByteArray} (h : 0 < s.size) (h1 : (s.get! 0).toNat < 128) : Lib.runeCount (fore s 1) = 1 := by
  have hp := pt_one h1
  have := count_pt h (by omega)
  rwa [hp] at this
/-- To the next token. -/
theorem ref_blanks : ∀ (N : Nat) (t : ByteArray) (l c : Int), t.size ≤ N → Va t → ∃ (t' : ByteArray) (l' c' : Int), blanksB N t l c = (t', l', c') ∧ ref t (pl t l c) false = ref t' (pl t' l' c') false ∧ Va t' ∧ t'.size ≤ t.size ∧ (t'.size ≠ 0 → skipB false (t'.get! 0).toNat = false)
  | 0, t, l, c, h, hv => ⟨t, l, c, rfl, rfl, hv, Nat.le_refl _, fun e => absurd (by omega) e⟩
  | N + 1, t, l, c, h, hv => by
    unfold blanksB
    by_cases h0 : t.size = 0
    · rw [if_pos h0]
      exact ⟨t, l, c, rfl, rfl, hv, Nat.le_refl _, fun e => absurd h0 e⟩
    rw [if_neg h0, hd_get (by omega)]
    have hp := hv.pt h0
    by_cases h10 : (t.get! 0).toNat = 10
    · rw [if_pos h10]
      have hp1 : ptB t = 1 := pt_one (by omega)
      have hn := hv.next h0
      rw [hp1] at hn
      obtain ⟨t', l', c', e1, e2, e3, e4, e5⟩ := ref_blanks N (aft t 1) (l + 1) 1 (by rw [aft_size]; omega) hn
      refine ⟨t', l', c', e1, ?_, e3, Nat.le_trans e4 (by rw [aft_size]; omega), e5⟩
      rw [← e2, ref_skip h0 _ _ (by rw [h10]; rfl), h10, pl_cons h0 hp, hp1]
      unfold nextL nextC
      rw [if_pos h10, if_pos h10]
      rfl
    rw [if_neg h10]
    by_cases h35 : (t.get! 0).toNat = 35
    · rw [if_pos h35]
      obtain ⟨n, hn, hle, hno, hend⟩ := cut_spec t
      rw [hn]
      have hn1 : 1 ≤ n := by
        rcases hend with e | e
        · omega
        · by_cases e0 : n = 0
          · rw [e0] at e
            omega
          · omega
      have hsk := skip_pl n t n l c (Nat.le_refl _) hle hv (hend.imp id fun e => .inl (by omega)) hno
      obtain ⟨t', l', c', e1, e2, e3, e4, e5⟩ := ref_blanks N (aft t n) l (c + Lib.runeCount (fore t n)) (by rw [aft_size]; omega) hsk.2
      refine ⟨t', l', c', e1, ?_, e3, Nat.le_trans e4 (by rw [aft_size]; omega), e5⟩
      rw [← e2, ref_hash _ h0 h35, ref_note n t _ hle hno, hsk.1]
      exact ref_end _ (by
        rcases hend with e | e
        · exact .inl (by rw [aft_size]; omega)
        · exact .inr (by rw [aft_get]; exact e))
    rw [if_neg h35]
    by_cases hb : (t.get! 0).toNat = 32 ∨ (t.get! 0).toNat = 9 ∨ (t.get! 0).toNat = 13
    · rw [if_pos hb]
      have hsk := skip_pl 1 t 1 l c (Nat.le_refl _) (by omega) hv (.inr (.inr fun j hj => by have e : j = 0 := (by omega); rw [e]; omega)) (fun j hj => by have e : j = 0 := (by omega); rw [e]; exact h10)
      obtain ⟨t', l', c', e1, e2, e3, e4, e5⟩ := ref_blanks N (aft t 1) l (c + Lib.runeCount (fore t 1)) (by rw [aft_size]; omega) hsk.2
      refine ⟨t', l', c', e1, ?_, e3, Nat.le_trans e4 (by rw [aft_size]; omega), e5⟩
      have hnb : noteB false (t.get! 0).toNat = false := by
        unfold noteB
        rw [if_neg h10, if_neg h35]
      rw [← e2, ref_skip h0 _ _ (by
        unfold skipB
        rw [hnb]
        rcases hb with e | e | e <;> rw [e] <;> rfl), hnb, hsk.1]
    · rw [if_neg hb]
      refine ⟨t, l, c, rfl, rfl, hv, Nat.le_refl _, fun _ => ?_⟩
      unfold skipB noteB
      rw [if_neg h10, if_neg h35]
      simp
      omega
/-- The scan's answer is the tree's. -/
theorem ref_toks : ∀ (N : Nat) (t : ByteArray) (l c : Int), t.size ≤ N → Va t → ref t (pl t l c) false = toksB (N + 1) t l c
  | N, t, l, c, h, hv => by
    obtain ⟨t', l', c', e1, e2, e3, e4, e5⟩ := ref_blanks t.size t l c (Nat.le_refl _) hv
    rw [toksB_succ, e1, e2]
    unfold headB
    have hp : p0 (pl t' l' c') = (l', c') := pl_head e3 l' c'
    by_cases h0 : t'.size = 0
    · rw [if_pos h0, ref_nil h0, hp]
    · rw [if_neg h0]
      cases hr : readB t' with
      | bad e => rw [ref_bad h0 _ _ (e5 h0) hr, hp]
      | tok k n v =>
        have hn := readB_n (by omega) hr
        have ha := read_asc (by omega) hr
        have hsk := skip_pl n t' n l' c' (Nat.le_refl _) hn.2 e3 (.inr (.inr fun j hj => (ha j hj).1)) (fun j hj => (ha j hj).2)
        rw [ref_tok h0 _ _ (e5 h0) hr, hp, hsk.1]
        obtain ⟨M, rfl⟩ : ∃ M, N = M + 1 := ⟨N - 1, by omega⟩
        rw [ref_toks M (aft t' n) _ _ (by rw [aft_size]; omega) hsk.2]
        simp only
        cases toksB (M + 1) (aft t' n) l' (c' + Lib.runeCount (fore t' n)) with
        | bad e a b => rfl
        | good r => rfl
  termination_by N => N
/-- The reference's answer. -/
def refTokens (s : ByteArray) : Lexed :=
  if 65536 < s.size then .bad 6 1 1 else match va s 1 1 with
    | some (l, c) => .bad 3 l c
    | none => ref s (pl s 1 1) false
theorem ref_tokens (s : ByteArray) : refTokens s = tokensB s := by
  unfold refTokens tokensB
  rw [valid_va s.size s 1 1 (Nat.le_refl _)]
  split
  · rfl
  · cases h : va s 1 1 with
    | some p => rfl
    | none => exact ref_toks s.size s 1 1 (Nat.le_refl _) (Va.of h)
end Go.Proofs.YtinebmfmkgjaaaaGreatDoor
