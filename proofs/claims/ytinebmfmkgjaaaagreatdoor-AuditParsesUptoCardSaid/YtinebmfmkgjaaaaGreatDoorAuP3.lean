/- A line's row; lines are of one report at most: plain. -/
import Derived.Test.YtinebmfmkgjaaaaGreatDoorAuP2
set_option linter.unusedVariables false
set_option linter.unusedSimpArgs false
namespace Go.Proofs.YtinebmfmkgjaaaaGreatDoor

theorem index58 : ∀ (w v : List UInt8), 58 ∉ w → Lib.index (w ++ 58 :: v) [58] = w.length
  | [], v, _ => by
    show (if ([58] : List UInt8).isPrefixOf (58 :: v) then (0 : Int) else _) = 0
    simp [List.isPrefixOf]
  | c :: w, v, h => by
    simp only [List.mem_cons, not_or] at h
    have ih := index58 w v h.2
    have e : Lib.index ((c :: w) ++ 58 :: v) [58] = if ([58] : List UInt8).isPrefixOf (c :: (w ++ 58 :: v)) then 0 else if Lib.index (w ++ 58 :: v) [58] == -1 then -1 else Lib.index (w ++ 58 :: v) [58] + 1 := rfl
    rw [e, ih]
    have h1 : ¬ ((w.length : Int) == -1) = true := by simp <;> omega
    rw [if_neg h1]
    simp [List.isPrefixOf, h.1]
theorem cut58 (w v : List UInt8) (h : 58 ∉ w) : Lib.cut (w ++ 58 :: v) [58] = (w, v, true) := by
  unfold Lib.cut
  rw [index58 w v h, if_pos (by omega)]
  simp
theorem cut_join (l : List UInt8) : (Lib.cut l [58]).2.2 = true → l = (Lib.cut l [58]).1 ++ 58 :: (Lib.cut l [58]).2.1 := by
  unfold Lib.cut
  rcases Lib.index_spec l [58] with ⟨h1, _⟩ | ⟨i, h1, h2, h3, h4⟩
  · rw [if_neg (by omega)]
    intro h
    cases h
  · intro _
    rw [if_pos (by omega), h1]
    simp only [Int.toNat_natCast, List.length_singleton]
    have h5 := Lib.occAt_head rfl h3
    obtain ⟨hi, he⟩ := List.getElem?_eq_some_iff.1 h5
    conv => lhs; rw [← List.take_append_drop i l, List.drop_eq_getElem_cons hi, he]
theorem cut_none (l : List UInt8) (h : (Lib.cut l [58]).2.2 = false) : (Lib.cut l [58]).2.1 = [] := by
  unfold Lib.cut at *
  split at h
  · cases h
  · rename_i h1
    rw [if_neg h1]
/-- What the tree makes of a line. -/
def rowX (s : ByteArray) : Rw := ⟨numB (bs (Lib.cut ((splitW s).getD 0 ByteArray.empty).data.toList [58]).1), numB (bs (Lib.cut ((splitW s).getD 0 ByteArray.empty).data.toList [58]).2.1), (splitW s).getD 2 ByteArray.empty, (splitW s).getD 4 ByteArray.empty, (splitW s).getD 6 ByteArray.empty, (splitW s).getD 8 ByteArray.empty⟩
def keyB (s : ByteArray) : Bool := decide ((splitW s).length = 9) && (decide ((splitW s).getD 1 ByteArray.empty = wRel) && (decide ((splitW s).getD 3 ByteArray.empty = wFrom) && (decide ((splitW s).getD 5 ByteArray.empty = wTo) && decide ((splitW s).getD 7 ByteArray.empty = wIn))))
def rowOk (s : ByteArray) : Bool := keyB s && (rowX s).right
theorem rowX_row {r : Rw} (h : RowRight r) : rowX (rowB r) = r ∧ keyB (rowB r) = true := by
  have hw := row_words h
  have hl : 0 ≤ r.l := by have := h.l1; omega
  have hcut : Lib.cut (atB r.l r.c).data.toList [58] = ((figs r.l).data.toList, (figs r.c).data.toList, true) := by
    rw [at_list, cut58 _ _ (dig_no (figs_dig hl)).2]
  constructor
  · unfold rowX
    rw [hw]
    simp only [wordsR, List.getD_cons_zero, List.getD_cons_succ]
    rw [hcut]
    simp only
    rw [bs_data, bs_data, numB_figs h.l1 h.l2, numB_figs h.c1 h.c2]
  · unfold keyB
    rw [hw]
    simp [wordsR]
theorem rowOk_row {r : Rw} (h : r.right = true) : rowOk (rowB r) = true ∧ rowX (rowB r) = r := by
  have k := rowX_row ((right_iff r).1 h)
  refine ⟨?_, k.1⟩
  unfold rowOk
  rw [k.1, k.2, h]
  rfl
theorem list9 {α : Type} (l : List α) (d : α) (h : l.length = 9) : l = [l.getD 0 d, l.getD 1 d, l.getD 2 d, l.getD 3 d, l.getD 4 d, l.getD 5 d, l.getD 6 d, l.getD 7 d, l.getD 8 d] := by
  match l, h with
  | [a, b, c, e, f, g, i, j, k], _ => rfl
theorem splitW_join (s : ByteArray) : joinL ((splitW s).map fun x => x.data.toList) = s.data.toList := by
  unfold splitW
  rw [List.map_map]
  have e : ((fun x : ByteArray => x.data.toList) ∘ bs) = id := by
    funext l
    simp [bs]
  rw [e, List.map_id, join_words]
theorem data_inj {a b : ByteArray} (h : a.data.toList = b.data.toList) : a = b := by
  rw [← bs_data a, ← bs_data b, h]
/-- A line that is a row's has that row. -/
theorem row_of {s : ByteArray} (h : rowOk s = true) : (rowX s).right = true ∧ rowB (rowX s) = s := by
  unfold rowOk keyB at h
  simp only [Bool.and_eq_true, decide_eq_true_eq] at h
  obtain ⟨⟨hl, h1, h3, h5, h7⟩, hr⟩ := h
  refine ⟨hr, ?_⟩
  have hR := (right_iff _).1 hr
  have hat : atB (rowX s).l (rowX s).c = (splitW s).getD 0 ByteArray.empty := by
    apply data_inj
    rw [at_list]
    have e1 : figs (rowX s).l = bs (Lib.cut ((splitW s).getD 0 ByteArray.empty).data.toList [58]).1 := by
      rcases numB_spec (bs (Lib.cut ((splitW s).getD 0 ByteArray.empty).data.toList [58]).1) with h | h
      · have := hR.l1
        have e : (rowX s).l = numB (bs (Lib.cut ((splitW s).getD 0 ByteArray.empty).data.toList [58]).1) := rfl
        omega
      · exact h.2.2
    have e2 : figs (rowX s).c = bs (Lib.cut ((splitW s).getD 0 ByteArray.empty).data.toList [58]).2.1 := by
      rcases numB_spec (bs (Lib.cut ((splitW s).getD 0 ByteArray.empty).data.toList [58]).2.1) with h | h
      · have := hR.c1
        have e : (rowX s).c = numB (bs (Lib.cut ((splitW s).getD 0 ByteArray.empty).data.toList [58]).2.1) := rfl
        omega
      · exact h.2.2
    have hfound : (Lib.cut ((splitW s).getD 0 ByteArray.empty).data.toList [58]).2.2 = true := by
      cases hf : (Lib.cut ((splitW s).getD 0 ByteArray.empty).data.toList [58]).2.2 with
      | true => rfl
      | false =>
        have hn := cut_none _ hf
        rw [hn] at e2
        have hp := figs_pos (n := (rowX s).c) (by have := hR.c1; omega)
        rw [e2] at hp
        exact absurd hp.symm (dec_ne _)
    have hj := cut_join _ hfound
    rw [e1, e2]
    have hb : ∀ l : List UInt8, (bs l).data.toList = l := fun l => by simp [bs]
    rw [hb, hb]
    exact hj.symm
  apply data_inj
  rw [← join_row, ← splitW_join s, list9 (splitW s) ByteArray.empty hl]
  unfold wordsR
  rw [hat, h1, h3, h5, h7]
  rfl
theorem row_ne {s : ByteArray} (h : rowOk s = false) {r : Rw} (hr : r.right = true) : rowB r ≠ s := by
  rintro rfl
  rw [(rowOk_row hr).1] at h
  cases h
theorem rowB_inj {r r' : Rw} (h : r.right = true) (h' : r'.right = true) (e : rowB r = rowB r') : r = r' := by
  rw [← (rowOk_row h).2, ← (rowOk_row h').2, e]
theorem unB_list (s : ByteArray) : (unB s).data.toList = [117, 110, 117, 115, 101, 100, 32] ++ s.data.toList := by
  unfold unB
  rw [app_list]
theorem unB_inj {a b : ByteArray} (h : unB a = unB b) : a = b := by
  apply data_inj
  have e : (unB a).data.toList = (unB b).data.toList := by rw [h]
  rw [unB_list, unB_list] at e
  exact List.append_cancel_left e
theorem row_un {r : Rw} (h : r.right = true) (s : ByteArray) : rowB r ≠ unB s := by
  intro e
  have hR := (right_iff _).1 h
  have e1 : (rowB r).data.toList = (unB s).data.toList := by rw [e]
  rw [← join_row, unB_list] at e1
  have hl : 0 ≤ r.l := by have := hR.l1; omega
  have hd := figs_dig hl
  have hn : (figs r.l).data.toList ≠ [] := by
    rw [figs_pos hl]
    exact dec_ne _
  unfold wordsR at e1
  simp only [List.map_cons, joinL, at_list] at e1
  cases hf : (figs r.l).data.toList with
  | nil => exact hn hf
  | cons c l =>
    rw [hf] at e1 hd
    simp only [List.cons_append, List.append_assoc] at e1
    injection e1 with e2 _
    subst e2
    exact absurd (hd 117 (by simp)) (by decide)
def linesOf (rs : List Rw) (us : List ByteArray) : List ByteArray := rs.map rowB ++ us.map unB
structure GoodRep (rs : List Rw) (us : List ByteArray) : Prop where
  rows : ∀ r ∈ rs, r.right = true
  uns : ∀ h ∈ us, badB h = false
theorem lines_inj : ∀ {rs rs' : List Rw} {us us' : List ByteArray}, GoodRep rs us → GoodRep rs' us' → linesOf rs us = linesOf rs' us' → rs = rs' ∧ us = us'
  | [], [], us, us', h, h', e => by
    refine ⟨rfl, ?_⟩
    unfold linesOf at e
    simp only [List.map_nil, List.nil_append] at e
    exact (List.map_inj_right fun a b => unB_inj).1 e
  | [], r' :: rs', us, us', h, h', e => by
    unfold linesOf at e
    cases us with
    | nil => cases e
    | cons u us =>
      simp only [List.map_nil, List.nil_append, List.map_cons, List.cons_append] at e
      injection e with e1 _
      exact absurd e1.symm (row_un (h'.rows r' (by simp)) u)
  | r :: rs, [], us, us', h, h', e => by
    unfold linesOf at e
    cases us' with
    | nil => cases e
    | cons u us' =>
      simp only [List.map_nil, List.nil_append, List.map_cons, List.cons_append] at e
      injection e with e1 _
      exact absurd e1 (row_un (h.rows r (by simp)) u)
  | r :: rs, r' :: rs', us, us', h, h', e => by
    unfold linesOf at e
    simp only [List.map_cons, List.cons_append] at e
    injection e with e1 e2
    obtain ⟨a, b⟩ := lines_inj (rs := rs) (rs' := rs') (us := us) (us' := us') ⟨fun x hx => h.rows x (by simp [hx]), h.uns⟩ ⟨fun x hx => h'.rows x (by simp [hx]), h'.uns⟩ e2
    rw [a, rowB_inj (h.rows r (by simp)) (h'.rows r' (by simp)) e1]
    exact ⟨rfl, b⟩
end Go.Proofs.YtinebmfmkgjaaaaGreatDoor
