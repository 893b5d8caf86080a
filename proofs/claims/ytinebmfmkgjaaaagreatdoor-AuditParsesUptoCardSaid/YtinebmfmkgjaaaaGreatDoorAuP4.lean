/- Lines as a report, by the tree and by the reference: they agree. -/
import Derived.Test.YtinebmfmkgjaaaaGreatDoorAuP3
set_option linter.unusedVariables false
set_option linter.unusedSimpArgs false
namespace Go.Proofs.YtinebmfmkgjaaaaGreatDoor

def un7 : List UInt8 := [117, 110, 117, 115, 101, 100, 32]
def cutUn (s : ByteArray) : ByteArray := bs (Lib.trimPrefix s.data.toList un7)
def isUn (s : ByteArray) : Bool := Lib.hasPrefix s.data.toList un7 && !badB (cutUn s)
theorem isUn_un {h : ByteArray} (hb : badB h = false) : isUn (unB h) = true ∧ cutUn (unB h) = h := by
  have hp : Lib.hasPrefix (unB h).data.toList un7 = true := by
    unfold Lib.hasPrefix
    rw [unB_list, List.isPrefixOf_iff_prefix]
    exact List.prefix_append _ _
  have hc : cutUn (unB h) = h := by
    unfold cutUn Lib.trimPrefix
    rw [if_pos hp, unB_list]
    exact bs_data h
  refine ⟨?_, hc⟩
  unfold isUn
  rw [hp, hc, hb]
  rfl
theorem un_of {s : ByteArray} (h : isUn s = true) : unB (cutUn s) = s ∧ badB (cutUn s) = false := by
  unfold isUn at h
  rw [Bool.and_eq_true] at h
  refine ⟨?_, by simpa using h.2⟩
  apply data_inj
  rw [unB_list]
  have hp := h.1
  have hb : ∀ l : List UInt8, (bs l).data.toList = l := fun l => by simp [bs]
  unfold cutUn Lib.trimPrefix
  rw [if_pos hp, hb]
  unfold Lib.hasPrefix at hp
  obtain ⟨t, ht⟩ := List.isPrefixOf_iff_prefix.1 hp
  rw [← ht]
  rfl
def parseB : List ByteArray → List Rw → List ByteArray → Option (List Rw × List ByteArray)
  | [], rs, us => some (rs, us)
  | s :: l, rs, us => if isUn s then parseB l rs (us ++ [cutUn s]) else if rowOk s && us.isEmpty then parseB l (rs ++ [rowX s]) us else none
theorem GoodRep.row {rs : List Rw} {us : List ByteArray} (h : GoodRep rs us) {x : Rw} (hx : x.right = true) : GoodRep (rs ++ [x]) us := ⟨fun r hr => by
  rcases List.mem_append.1 hr with hr | hr
  · exact h.rows r hr
  · simp only [List.mem_singleton] at hr
    subst hr
    exact hx, h.uns⟩
theorem GoodRep.un {rs : List Rw} {us : List ByteArray} (h : GoodRep rs us) {x : ByteArray} (hx : badB x = false) : GoodRep rs (us ++ [x]) := ⟨h.rows, fun r hr => by
  rcases List.mem_append.1 hr with hr | hr
  · exact h.uns r hr
  · simp only [List.mem_singleton] at hr
    subst hr
    exact hx⟩
theorem lines_un (rs : List Rw) (us : List ByteArray) (x : ByteArray) (l : List ByteArray) : linesOf rs (us ++ [x]) ++ l = linesOf rs us ++ (unB x :: l) := by simp [linesOf]
theorem lines_row (rs : List Rw) (x : Rw) (l : List ByteArray) : linesOf (rs ++ [x]) [] ++ l = linesOf rs [] ++ (rowB x :: l) := by simp [linesOf]
theorem lines_at : ∀ (rs RS : List Rw) (us US : List ByteArray) (s : ByteArray) (l : List ByteArray), GoodRep rs us → GoodRep RS US → linesOf RS US = linesOf rs us ++ s :: l → (∃ r, r.right = true ∧ s = rowB r ∧ us = []) ∨ (∃ h, badB h = false ∧ s = unB h)
  | [], RS, us, US, s, l, h, H, e => by
    cases us with
    | nil =>
      cases RS with
      | nil =>
        cases US with
        | nil => cases e
        | cons u US =>
          simp only [linesOf, List.map_nil, List.nil_append, List.map_cons] at e
          injection e with e1 _
          exact .inr ⟨u, H.uns u (by simp), e1.symm⟩
      | cons r RS =>
        simp only [linesOf, List.map_nil, List.nil_append, List.map_cons, List.cons_append] at e
        injection e with e1 _
        exact .inl ⟨r, H.rows r (by simp), e1.symm, rfl⟩
    | cons u us =>
      cases RS with
      | nil =>
        have hm : s ∈ linesOf [] US := by rw [e]; simp
        simp only [linesOf, List.map_nil, List.nil_append, List.mem_map] at hm
        obtain ⟨x, hx, rfl⟩ := hm
        exact .inr ⟨x, H.uns x hx, rfl⟩
      | cons r RS =>
        simp only [linesOf, List.map_nil, List.nil_append, List.map_cons, List.cons_append] at e
        injection e with e1 _
        exact absurd e1 (row_un (H.rows r (by simp)) u)
  | r :: rs, RS, us, US, s, l, h, H, e => by
    cases RS with
    | nil =>
      cases US with
      | nil => cases e
      | cons u US =>
        simp only [linesOf, List.map_nil, List.nil_append, List.map_cons, List.cons_append] at e
        injection e with e1 _
        exact absurd e1.symm (row_un (h.rows r (by simp)) u)
    | cons r' RS =>
      simp only [linesOf, List.map_cons, List.cons_append] at e
      injection e with _ e2
      exact lines_at rs RS us US s l ⟨fun x hx => h.rows x (by simp [hx]), h.uns⟩ ⟨fun x hx => H.rows x (by simp [hx]), H.uns⟩ e2
theorem parseB_some : ∀ (l : List ByteArray) (rs : List Rw) (us : List ByteArray) (RS : List Rw) (US : List ByteArray), GoodRep rs us → parseB l rs us = some (RS, US) → GoodRep RS US ∧ linesOf RS US = linesOf rs us ++ l
  | [], rs, us, RS, US, h, e => by
    cases e
    exact ⟨h, by simp⟩
  | s :: l, rs, us, RS, US, h, e => by
    unfold parseB at e
    split at e
    · rename_i hu
      obtain ⟨u1, u2⟩ := un_of hu
      obtain ⟨a, b⟩ := parseB_some l _ _ RS US (h.un u2) e
      exact ⟨a, by rw [b, lines_un, u1]⟩
    · split at e
      · rename_i hr
        rw [Bool.and_eq_true] at hr
        obtain ⟨r1, r2⟩ := row_of hr.1
        obtain ⟨a, b⟩ := parseB_some l _ _ RS US (h.row r1) e
        have hus : us = [] := List.isEmpty_iff.1 hr.2
        subst hus
        exact ⟨a, by rw [b, lines_row, r2]⟩
      · cases e
theorem parseB_none : ∀ (l : List ByteArray) (rs : List Rw) (us : List ByteArray), GoodRep rs us → parseB l rs us = none → ∀ (RS : List Rw) (US : List ByteArray), GoodRep RS US → linesOf RS US ≠ linesOf rs us ++ l
  | [], rs, us, h, e => by cases e
  | s :: l, rs, us, h, e => by
    intro RS US H he
    unfold parseB at e
    split at e
    · rename_i hu
      obtain ⟨u1, u2⟩ := un_of hu
      refine parseB_none l _ _ (h.un u2) e RS US H ?_
      rw [lines_un, u1]
      exact he
    · rename_i hu
      rcases lines_at rs RS us US s l h H he with ⟨r, hr, rfl, rfl⟩ | ⟨x, hx, rfl⟩
      · split at e
        · rename_i hr2
          rw [Bool.and_eq_true] at hr2
          obtain ⟨r1, r2⟩ := row_of hr2.1
          refine parseB_none l _ _ (h.row r1) e RS US H ?_
          rw [lines_row, r2]
          exact he
        · rename_i hr2
          exact hr2 (by rw [(rowOk_row hr).1]; rfl)
      · exact hu (isUn_un hx).1
/-! ### The reference -/
def rowRX (s : ByteArray) : Rw := ⟨figB (bs (Lib.cut ((splitW s).getD 0 ByteArray.empty).data.toList [58]).1), figB (bs (Lib.cut ((splitW s).getD 0 ByteArray.empty).data.toList [58]).2.1), (splitW s).getD 2 ByteArray.empty, (splitW s).getD 4 ByteArray.empty, (splitW s).getD 6 ByteArray.empty, (splitW s).getD 8 ByteArray.empty⟩
def placeOk (s : ByteArray) : Bool := (Lib.cut s.data.toList [58]).2.2 && (decide (0 ≤ figB (bs (Lib.cut s.data.toList [58]).1)) && decide (0 ≤ figB (bs (Lib.cut s.data.toList [58]).2.1)))
def wUn : ByteArray := ⟨#[117, 110, 117, 115, 101, 100]⟩
def parseR : List ByteArray → List Rw → List ByteArray → Option (List Rw × List ByteArray)
  | [], rs, us => some (rs, us)
  | s :: l, rs, us => if (splitW s).length = 2 ∧ (splitW s).getD 0 ByteArray.empty = wUn then parseR l rs (us ++ [(splitW s).getD 1 ByteArray.empty])
    else if (splitW s).length ≠ 9 ∨ us ≠ [] then none
    else if placeOk ((splitW s).getD 0 ByteArray.empty) = true ∧ rowB (rowRX s) = s then parseR l (rs ++ [rowRX s]) us else none
theorem list2 {α : Type} (l : List α) (d : α) (h : l.length = 2) : l = [l.getD 0 d, l.getD 1 d] := by
  match l, h with
  | [a, b], _ => rfl
theorem un_words {s : ByteArray} (h : (splitW s).length = 2) (h0 : (splitW s).getD 0 ByteArray.empty = wUn) : unB ((splitW s).getD 1 ByteArray.empty) = s := by
  apply data_inj
  rw [unB_list, ← splitW_join s]
  conv => rhs; rw [list2 (splitW s) ByteArray.empty h, h0]
  rfl
theorem words_un {x : ByteArray} (h : badB x = false) : splitW (unB x) = [wUn, x] := by
  unfold splitW
  have e : (unB x).data.toList = joinL [wUn.data.toList, x.data.toList] := by
    rw [unB_list]
    rfl
  rw [e, words_join _ (by simp) (fun w hw => by
    simp only [List.mem_cons, List.not_mem_nil, or_false] at hw
    rcases hw with rfl | rfl
    · decide
    · exact bad_free h)]
  simp [bs_data]
theorem parseR_some : ∀ (l : List ByteArray) (rs : List Rw) (us : List ByteArray) (RS : List Rw) (US : List ByteArray), parseR l rs us = some (RS, US) → linesOf RS US = linesOf rs us ++ l
  | [], rs, us, RS, US, e => by
    cases e
    simp
  | s :: l, rs, us, RS, US, e => by
    unfold parseR at e
    split at e
    · rename_i hu
      rw [parseR_some l _ _ RS US e, lines_un, un_words hu.1 hu.2]
    · split at e
      · cases e
      · rename_i hn
        split at e
        · rename_i hr
          have hus : us = [] := by
            cases us with
            | nil => rfl
            | cons a b => exact absurd (.inr (by simp)) hn
          subst hus
          rw [parseR_some l _ _ RS US e, lines_row, hr.2]
        · cases e
theorem parseR_uns : ∀ (us : List ByteArray) (rs : List Rw) (us0 : List ByteArray), (∀ h ∈ us, badB h = false) → parseR (us.map unB) rs us0 = some (rs, us0 ++ us)
  | [], rs, us0, _ => by simp [parseR]
  | u :: us, rs, us0, h => by
    have hw := words_un (h u (by simp))
    rw [List.map_cons]
    unfold parseR
    rw [hw, if_pos ⟨rfl, rfl⟩]
    have ih := parseR_uns us rs (us0 ++ [u]) fun x hx => h x (by simp [hx])
    simp only [List.getD_cons_succ, List.getD_cons_zero]
    rw [ih, List.append_assoc]
    rfl
theorem rowRX_row {r : Rw} (h : RowRight r) : rowRX (rowB r) = r ∧ placeOk ((splitW (rowB r)).getD 0 ByteArray.empty) = true := by
  have hw := row_words h
  have hl : 0 ≤ r.l := by have := h.l1; omega
  have hcut : Lib.cut (atB r.l r.c).data.toList [58] = ((figs r.l).data.toList, (figs r.c).data.toList, true) := by
    rw [at_list, cut58 _ _ (dig_no (figs_dig hl)).2]
  constructor
  · unfold rowRX
    rw [hw]
    simp only [wordsR, List.getD_cons_zero, List.getD_cons_succ]
    rw [hcut]
    simp only
    rw [bs_data, bs_data, figB_figs h.l1 h.l2, figB_figs h.c1 h.c2]
  · rw [hw]
    simp only [wordsR, List.getD_cons_zero]
    unfold placeOk
    rw [hcut]
    simp only
    rw [bs_data, bs_data, figB_figs h.l1 h.l2, figB_figs h.c1 h.c2, decide_eq_true (by have := h.l1; omega), decide_eq_true (by have := h.c1; omega)]
    rfl
theorem parseR_good : ∀ (RS rs : List Rw) (US : List ByteArray), GoodRep RS US → parseR (linesOf RS US) rs [] = some (rs ++ RS, US)
  | [], rs, US, h => by
    have := parseR_uns US rs [] h.uns
    simpa [linesOf] using this
  | r :: RS, rs, US, h => by
    have hr := h.rows r (by simp)
    have hR := (right_iff _).1 hr
    have hw := row_words hR
    have hx := rowRX_row hR
    have e : linesOf (r :: RS) US = rowB r :: linesOf RS US := rfl
    rw [e]
    unfold parseR
    rw [if_neg (by rw [hw]; simp [wordsR]), if_neg (by rw [hw]; simp [wordsR]), if_pos ⟨hx.2, by rw [hx.1]⟩, hx.1]
    rw [parseR_good RS (rs ++ [r]) US ⟨fun x hx => h.rows x (by simp [hx]), h.uns⟩, List.append_assoc]
    rfl
/-- They agree. -/
theorem parse_same (l : List ByteArray) : (∀ RS US, parseB l [] [] = some (RS, US) → parseR l [] [] = some (RS, US) ∧ GoodRep RS US ∧ linesOf RS US = l) ∧ (parseB l [] [] = none → ∀ RS US, parseR l [] [] = some (RS, US) → ¬ GoodRep RS US) := by
  have h0 : GoodRep [] [] := ⟨fun r hr => (by cases hr), fun r hr => (by cases hr)⟩
  constructor
  · intro RS US e
    obtain ⟨a, b⟩ := parseB_some l [] [] RS US h0 e
    have b' : linesOf RS US = l := by simpa [linesOf] using b
    refine ⟨?_, a, b'⟩
    rw [← b']
    simpa using parseR_good RS [] US a
  · intro e RS US e2 hg
    refine parseB_none l [] [] h0 e RS US hg ?_
    exact parseR_some l [] [] RS US e2
theorem parse_lines {rs : List Rw} {us : List ByteArray} (h : GoodRep rs us) : parseB (linesOf rs us) [] [] = some (rs, us) := by
  have h0 : GoodRep [] [] := ⟨fun r hr => (by cases hr), fun r hr => (by cases hr)⟩
  cases e : parseB (linesOf rs us) [] [] with
  | none => exact absurd (by simp [linesOf]) (parseB_none _ [] [] h0 e rs us h)
  | some p =>
    obtain ⟨RS, US⟩ := p
    obtain ⟨a, b⟩ := parseB_some _ [] [] RS US h0 e
    obtain ⟨x, y⟩ := lines_inj a h (by simpa [linesOf] using b)
    rw [x, y]
end Go.Proofs.YtinebmfmkgjaaaaGreatDoor
