/- Rows and hatches as lines, and lines as these: plain. -/
import Derived.Test.YtinebmfmkgjaaaaGreatDoorAuP1
import Derived.Test.YtinebmfmkgjaaaaGreatDoorAud6a
set_option linter.unusedVariables false
set_option linter.unusedSimpArgs false
namespace Go.Proofs.YtinebmfmkgjaaaaGreatDoor

theorem figs_pos {n : Int} (h : 0 ≤ n) : (figs n).data.toList = Lib.decDigits n.toNat := by
  unfold figs Lib.itoa
  rw [if_neg (by omega)]
theorem figs_dig {n : Int} (h : 0 ≤ n) : ∀ c ∈ (figs n).data.toList, digB c = true := by
  rw [figs_pos h]
  exact (dec_digits _).1
theorem dig_no {l : List UInt8} (h : ∀ c ∈ l, digB c = true) : 32 ∉ l ∧ 58 ∉ l := by
  constructor <;> intro hm <;> exact absurd (h _ hm) (by decide)
/-- The program's number of a text. -/
def numB (s : ByteArray) : Int := match Lib.atoiAll s.data.toList with
  | .ok v => if 1 ≤ v ∧ v ≤ 1073741824 ∧ figs v = s then v else -1
  | _ => -1
theorem numB_spec (s : ByteArray) : numB s = -1 ∨ (1 ≤ numB s ∧ numB s ≤ 1073741824 ∧ figs (numB s) = s) := by
  unfold numB
  split
  · split
    · rename_i h
      exact .inr h
    · exact .inl rfl
  · exact .inl rfl
theorem numB_figs {n : Int} (h1 : 1 ≤ n) (h2 : n ≤ 1073741824) : numB (figs n) = n := by
  unfold numB
  rw [figs_pos (by omega), atoiAll_dec (by omega)]
  simp only
  have e : ((n.toNat : Nat) : Int) = n := by omega
  rw [e, if_pos ⟨h1, h2, rfl⟩]
/-- The reference's number of a text. -/
def figB (s : ByteArray) : Int := if s.size ≤ 10 ∧ (∀ c ∈ s.data.toList, digB c = true) ∧ figs (numV s.data.toList : Int) = s then (numV s.data.toList : Int) else -1
theorem figB_spec (s : ByteArray) : figB s = -1 ∨ (0 ≤ figB s ∧ figs (figB s) = s) := by
  unfold figB
  split
  · rename_i h
    exact .inr ⟨by omega, h.2.2⟩
  · exact .inl rfl
theorem figB_figs {n : Int} (h1 : 1 ≤ n) (h2 : n ≤ 1073741824) : figB (figs n) = n := by
  unfold figB
  have hp := figs_pos (n := n) (by omega)
  have hd := dec_digits n.toNat
  have e : ((n.toNat : Nat) : Int) = n := by omega
  have hs : (figs n).size ≤ 10 := by
    have h := dec_len 9 n.toNat (by omega)
    rw [← hp, Array.length_toList] at h
    exact h
  rw [hp, hd.2, e, if_pos ⟨hs, hd.1, rfl⟩]

/-! ### Names -/
theorem tok_text : ∀ (N : Nat) (t : ByteArray) (ps : List (Int × Int)) (b : Bool) (r : List Tok), refB N t ps b = .good r → ∀ x ∈ r, x.kind = 1 → ∀ c ∈ x.text.data.toList, nameB c = true
  | 0, t, ps, b, r, h => by cases h
  | N + 1, t, ps, b, r, h => by
    unfold refB at h
    split at h
    · cases h
      intro x hx hk
      simp only [List.mem_singleton] at hx
      subst hx
      cases hk
    · split at h
      · exact tok_text N _ _ _ _ h
      · cases hr : readB t with
        | bad e =>
          rw [hr] at h
          cases h
        | tok k n v =>
          rw [hr] at h
          simp only at h
          cases hq : refB N (aft t n) (ps.drop n) false with
          | bad e l c =>
            rw [hq] at h
            cases h
          | good q =>
            rw [hq] at h
            cases h
            intro x hx hk
            rcases List.mem_cons.1 hx with hx | hx
            · subst hx
              simp only at hk
              subst hk
              intro c hc
              simp only at hc
              unfold readB at hr
              split at hr
              · split at hr
                · cases hr
                · injection hr with h1 h2 h3
                  subst h2
                  rw [fore_list] at hc
                  exact takeWhile_mem hc
              · split at hr
                · split at hr
                  · cases hr
                  · cases hr
                · split at hr
                  · cases hr
                  · cases hr
            · exact tok_text N _ _ _ _ hq x hx hk
theorem toks_text {s : ByteArray} {r : List Tok} (h : tokensB s = .good r) : ∀ x ∈ r, x.kind = 1 → ∀ c ∈ x.text.data.toList, nameB c = true := by
  rw [← ref_tokens] at h
  unfold refTokens at h
  split at h
  · cases h
  · split at h
    · cases h
    · exact tok_text _ _ _ _ _ h
theorem name_free {s : ByteArray} (h : nameOk s = true) : 32 ∉ s.data.toList := by
  unfold nameOk at h
  rw [Bool.or_eq_true] at h
  rcases h with h | h
  · unfold mainB at h
    have e := eq_of_beq h
    rw [Lib.toList_data] at e
    rw [e]
    decide
  · unfold oneB at h
    split at h
    · rename_i a x heq
      simp only [Bool.and_eq_true, decide_eq_true_eq] at h
      have e := eq_of_beq h.2
      rw [Lib.toList_data, Lib.toList_data] at e
      intro hm
      rw [← e] at hm
      exact absurd (toks_text heq a (by simp) h.1 32 hm) (by decide)
    · cases h
theorem bad_free {s : ByteArray} (h : badB s = false) : 32 ∉ s.data.toList := by
  unfold badB at h
  rw [Bool.or_eq_false_iff] at h
  exact name_free (by simpa using h.1)

/-! ### Rows -/
theorem app_list (a b : ByteArray) : (a ++ b).data.toList = a.data.toList ++ b.data.toList := by
  rw [ByteArray.data_append, Array.toList_append]
def wRel : ByteArray := ⟨#[114, 101, 108, 101, 97, 115, 101]⟩
def wFrom : ByteArray := ⟨#[102, 114, 111, 109]⟩
def wTo : ByteArray := ⟨#[116, 111]⟩
def wIn : ByteArray := ⟨#[105, 110]⟩
def wordsR (r : Rw) : List ByteArray := [atB r.l r.c, wRel, r.h, wFrom, r.f, wTo, r.t, wIn, r.u]
theorem join_row (r : Rw) : joinL ((wordsR r).map fun x => x.data.toList) = (rowB r).data.toList := by
  unfold rowB wordsR
  simp only [app_list, List.map_cons, List.map_nil, joinL, List.append_assoc]
  simp [wRel, wFrom, wTo, wIn]
structure RowRight (r : Rw) : Prop where
  l1 : 1 ≤ r.l
  l2 : r.l ≤ 1073741824
  c1 : 1 ≤ r.c
  c2 : r.c ≤ 1073741824
  h : badB r.h = false
  f : badB r.f = false
  t : badB r.t = false
  u : nameOk r.u = true
theorem right_iff (r : Rw) : r.right = true ↔ RowRight r := by
  unfold Rw.right rightB placeB
  simp only [Bool.and_eq_true, decide_eq_true_eq, Bool.not_eq_true', List.any_cons, List.any_nil, Bool.or_false, Bool.or_eq_false_iff]
  constructor
  · rintro ⟨⟨⟨⟨⟨a, b⟩, c⟩, d⟩, e, f, g⟩, h⟩
    exact ⟨a, b, c, d, e, f, g, h⟩
  · rintro ⟨a, b, c, d, e, f, g, h⟩
    exact ⟨⟨⟨⟨⟨a, b⟩, c⟩, d⟩, e, f, g⟩, h⟩
theorem at_list (l c : Int) : (atB l c).data.toList = (figs l).data.toList ++ 58 :: (figs c).data.toList := by
  unfold atB
  rw [app_list, app_list, List.append_assoc]
  rfl
theorem at_free {l c : Int} (hl : 0 ≤ l) (hc : 0 ≤ c) : 32 ∉ (atB l c).data.toList := by
  rw [at_list]
  simp only [List.mem_append, List.mem_cons, not_or]
  exact ⟨(dig_no (figs_dig hl)).1, by decide, (dig_no (figs_dig hc)).1⟩
theorem row_words {r : Rw} (h : RowRight r) : splitW (rowB r) = wordsR r := by
  unfold splitW
  rw [← join_row, words_join]
  · rw [List.map_map]
    conv => rhs; rw [← List.map_id (wordsR r)]
    exact List.map_congr_left fun x _ => bs_data x
  · simp [wordsR]
  · intro w hw
    simp only [wordsR, List.map_cons, List.map_nil, List.mem_cons, List.not_mem_nil, or_false] at hw
    rcases hw with rfl | rfl | rfl | rfl | rfl | rfl | rfl | rfl | rfl
    · exact at_free (by have := h.l1; omega) (by have := h.c1; omega)
    · decide
    · exact bad_free h.h
    · decide
    · exact bad_free h.f
    · decide
    · exact bad_free h.t
    · decide
    · exact name_free h.u
end Go.Proofs.YtinebmfmkgjaaaaGreatDoor
