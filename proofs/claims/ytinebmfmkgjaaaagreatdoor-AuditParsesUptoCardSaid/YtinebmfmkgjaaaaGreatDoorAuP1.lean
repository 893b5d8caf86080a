/- Words of a line, and numbers in figures: plain. -/
import Derived.Test.YtinebmfmkgjaaaaGreatDoorLex6
import Derived.Test.YtinebmfmkgjaaaaGreatDoorRef3
import Derived.Lib.SplitLaws
import Derived.Lib.AtoiTie
import Derived.Lib.AtoiAllCases
import Derived.Lib.ItoaLen
set_option linter.unusedVariables false
set_option linter.unusedSimpArgs false
namespace Go.Proofs.YtinebmfmkgjaaaaGreatDoor

/-- A line's words, with one byte 32 between. -/
def wordsL : List UInt8 → List (List UInt8)
  | [] => [[]]
  | c :: l => if c = 32 then [] :: wordsL l else match wordsL l with
    | [] => [[c]]
    | w :: ws => (c :: w) :: ws
def joinL : List (List UInt8) → List UInt8
  | [] => []
  | [w] => w
  | w :: v :: ws => w ++ 32 :: joinL (v :: ws)
theorem wordsL_ne : ∀ l, wordsL l ≠ []
  | [] => by simp [wordsL]
  | c :: l => by
    unfold wordsL
    split
    · simp
    · split <;> simp
theorem join_cons (c : UInt8) (w : List UInt8) (ws : List (List UInt8)) : joinL ((c :: w) :: ws) = c :: joinL (w :: ws) := by
  cases ws <;> rfl
theorem join_words : ∀ l, joinL (wordsL l) = l
  | [] => rfl
  | c :: l => by
    have ih := join_words l
    have hn := wordsL_ne l
    unfold wordsL
    cases h : wordsL l with
    | nil => exact absurd h hn
    | cons w ws =>
      rw [h] at ih
      split
      · rename_i e
        subst e
        show ([] : List UInt8) ++ 32 :: joinL (w :: ws) = _
        rw [ih]
        rfl
      · simp only
        rw [join_cons, ih]
theorem wordsL_free : ∀ (w : List UInt8), 32 ∉ w → wordsL w = [w]
  | [], _ => rfl
  | c :: l, h => by
    simp only [List.mem_cons, not_or] at h
    unfold wordsL
    rw [if_neg (fun e => h.1 e.symm), wordsL_free l h.2]
theorem wordsL_app : ∀ (w : List UInt8) (l : List UInt8), 32 ∉ w → wordsL (w ++ 32 :: l) = w :: wordsL l
  | [], l, _ => by simp [wordsL]
  | c :: w, l, h => by
    simp only [List.mem_cons, not_or] at h
    rw [List.cons_append, wordsL, if_neg (fun e => h.1 e.symm), wordsL_app w l h.2]
theorem words_join : ∀ (ws : List (List UInt8)), ws ≠ [] → (∀ w ∈ ws, 32 ∉ w) → wordsL (joinL ws) = ws
  | [], h, _ => absurd rfl h
  | [w], _, h => wordsL_free w (h w (by simp))
  | w :: v :: ws, _, h => by
    show wordsL (w ++ 32 :: joinL (v :: ws)) = _
    rw [wordsL_app w _ (h w (by simp)), words_join (v :: ws) (by simp) (fun x hx => h x (by simp only [List.mem_cons] at hx ⊢; exact .inr hx))]
theorem index_cons (c : UInt8) (l : List UInt8) : Lib.index (c :: l) [32] = if c = 32 then 0 else if Lib.index l [32] = -1 then -1 else Lib.index l [32] + 1 := by
  have e : Lib.index (c :: l) [32] = if ([32] : List UInt8).isPrefixOf (c :: l) then 0 else if Lib.index l [32] == -1 then -1 else Lib.index l [32] + 1 := rfl
  rw [e]
  by_cases h : c = 32
  · subst h
    simp [List.isPrefixOf]
  · have h' : ¬ (32 = c) := fun e => h e.symm
    simp [List.isPrefixOf, h, h']
theorem splitK_words : ∀ l, Lib.splitK [32] 0 (l.count 32) l = wordsL l
  | [] => rfl
  | c :: l => by
    have ih := splitK_words l
    by_cases h : c = 32
    · subst h
      rw [List.count_cons_self]
      unfold Lib.splitK wordsL
      rw [index_cons, if_pos rfl, if_pos rfl]
      simp
      exact ih
    · rw [List.count_cons_of_ne (by simpa using h)]
      unfold wordsL
      rw [if_neg h, ← ih]
      cases hk : l.count 32 with
      | zero => rfl
      | succ k =>
        have hi : Lib.index l [32] ≠ -1 := by
          intro e
          have := Lib.count_miss e
          rw [Lib.count_one, hk] at this
          omega
        have hge := Lib.index_ge l [32]
        obtain ⟨i, hi'⟩ : ∃ i : Nat, Lib.index l [32] = i := ⟨(Lib.index l [32]).toNat, by omega⟩
        unfold Lib.splitK
        rw [index_cons, if_neg h, if_neg hi, hi']
        have e1 : (((i : Int) == -1) = true) = False := by simp <;> omega
        have e2 : (((i : Int) + 1 == -1) = true) = False := by simp <;> omega
        simp only [e1, e2, if_false]
        have e3 : ((i : Int) + 1).toNat = i + 1 := by omega
        simp [e3]
def spB : ByteArray := ⟨#[32]⟩
def splitW (s : ByteArray) : List ByteArray := (wordsL s.data.toList).map bs
theorem bs_data (s : ByteArray) : bs s.data.toList = s := by
  unfold bs
  simp
theorem split_is (s : ByteArray) : Lib.splitB ⟨#[32]⟩ 0 (Lib.countB s ⟨#[32]⟩) s = splitW s := by
  have h := Lib.splitB_data ⟨#[32]⟩ 0 (Lib.countB s ⟨#[32]⟩) s
  have hc : Lib.countB s ⟨#[32]⟩ = s.data.toList.count 32 := Lib.count_one 32 _
  have h2 : (Lib.splitB ⟨#[32]⟩ 0 (Lib.countB s ⟨#[32]⟩) s).map (·.data.toList) = wordsL s.data.toList := by
    rw [h, hc]
    exact splitK_words _
  unfold splitW
  rw [← h2, List.map_map]
  conv => lhs; rw [← List.map_id (Lib.splitB ⟨#[32]⟩ 0 (Lib.countB s ⟨#[32]⟩) s)]
  refine List.map_congr_left fun x _ => ?_
  exact (bs_data x).symm
theorem splitW_length (s : ByteArray) : (splitW s).length = Lib.countB s ⟨#[32]⟩ + 1 := by
  rw [← split_is]
  exact Lib.splitB_all _ (by decide) 0 _ _ rfl

/-! ### Numbers -/
theorem numV_app (a b : List UInt8) : numV (a ++ b) = b.foldl (fun a c => a * 10 + (c.toNat - 48)) (numV a) := by
  unfold numV
  rw [List.foldl_append]
theorem dec_digits : ∀ (u : Nat), (∀ c ∈ Lib.decDigits u, digB c = true) ∧ numV (Lib.decDigits u) = u
  | u => by
    by_cases h : u < 10
    · rw [Lib.decDigits_one h]
      have e : (UInt8.ofNat (48 + u)).toNat = 48 + u := by
        simp
        omega
      refine ⟨fun c hc => ?_, ?_⟩
      · simp only [List.mem_singleton] at hc
        subst hc
        unfold digB
        rw [e]
        exact decide_eq_true ⟨by omega, by omega⟩
      · unfold numV
        simp only [List.foldl_cons, List.foldl_nil]
        rw [e]
        omega
    · have ih := dec_digits (u / 10)
      have e : (UInt8.ofNat (48 + u % 10)).toNat = 48 + u % 10 := by
        simp
        omega
      rw [Lib.decDigits, dif_neg h]
      refine ⟨fun c hc => ?_, ?_⟩
      · rcases List.mem_append.1 hc with hc | hc
        · exact ih.1 c hc
        · simp only [List.mem_singleton] at hc
          subst hc
          unfold digB
          rw [e]
          exact decide_eq_true ⟨by omega, by omega⟩
      · rw [numV_app, ih.2]
        simp only [List.foldl_cons, List.foldl_nil]
        rw [e]
        omega
  termination_by u => u
theorem dec_ne (u : Nat) : Lib.decDigits u ≠ [] := by
  rw [Lib.decDigits]
  split <;> simp
theorem dec_len : ∀ (k u : Nat), u < 10 ^ (k + 1) → (Lib.decDigits u).length ≤ k + 1
  | 0, u, h => by
    rw [Lib.decDigits_one (by omega)]
    simp
  | k + 1, u, h => by
    by_cases h10 : u < 10
    · rw [Lib.decDigits_one h10]
      simp
    · rw [Lib.decDigits, dif_neg h10, List.length_append]
      have := dec_len k (u / 10) (by rw [Nat.pow_succ] at h; omega)
      simp
      omega
theorem decFrom_all : ∀ (l : List UInt8) (acc : Nat), (∀ c ∈ l, digB c = true) → Lib.decFrom acc l = some (l.foldl (fun a c => a * 10 + (c.toNat - 48)) acc)
  | [], acc, _ => rfl
  | c :: l, acc, h => by
    have hc := h c (by simp)
    unfold digB at hc
    have hc := of_decide_eq_true hc
    unfold Lib.decFrom Lib.digitVal
    rw [if_pos hc]
    simp only [List.foldl_cons]
    exact decFrom_all l _ fun x hx => h x (by simp [hx])
theorem atoi_dec (u : Nat) : Lib.atoi (Lib.decDigits u) = some (u : Int) := by
  have hd := dec_digits u
  have hn := dec_ne u
  cases hl : Lib.decDigits u with
  | nil => exact absurd hl hn
  | cons c l =>
    rw [hl] at hd
    have hc := hd.1 c (by simp)
    unfold digB at hc
    have hc := of_decide_eq_true hc
    have h45 : (c == 45) = false := by
      rw [beq_eq_false_iff_ne]
      rintro rfl
      exact absurd hc (by decide)
    have h43 : (c == 43) = false := by
      rw [beq_eq_false_iff_ne]
      rintro rfl
      exact absurd hc (by decide)
    simp only [Lib.atoi, h45, h43, Bool.false_eq_true, if_false, Lib.decNat, List.isEmpty_cons]
    rw [decFrom_all _ _ hd.1]
    simp only [Option.map_some]
    have := hd.2
    unfold numV at this
    rw [this]
theorem atoiAll_dec {u : Nat} (h : u < 10 ^ 18) : Lib.atoiAll (Lib.decDigits u) = .ok (u : Int) := by
  rw [Lib.atoiAll_short _ (dec_len 17 u h), atoi_dec]
  rfl
end Go.Proofs.YtinebmfmkgjaaaaGreatDoor
