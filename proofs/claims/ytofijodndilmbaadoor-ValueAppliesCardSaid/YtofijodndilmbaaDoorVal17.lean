/- A value of its own: the library's Clone at values, and own. -/
import Derived.Test.YtofijodndilmbaaDoorVal16
set_option linter.unusedVariables false
set_option linter.unusedSimpArgs false
namespace Go.Proofs.YtofijodndilmbaaDoor
open Go.RowKit

/-- A row of parts lies at A, its parts' own parts where ss says. -/
def RowAt (w : World) (ks : List V) (A : Option Addr) (ss : Nat → Value) : Prop := ks.length = 0 ∨ ∃ b off, A = some ⟨b, off, none⟩ ∧ ∀ i, i < ks.length → w.cell? ⟨b, off + i * 3, none⟩ = some (.string (ks.getD i default).op) ∧ w.cell? ⟨b, off + i * 3 + 1, none⟩ = some (.int .i64 (ks.getD i default).num) ∧ w.cell? ⟨b, off + i * 3 + 2, none⟩ = some (ss i)
theorem RowAt.under {w w' : World} {ks : List V} {A : Option Addr} {ss : Nat → Value} (h : RowAt w ks A ss) (hb : Below w.heap.size w w') : RowAt w' ks A ss := by
  rcases h with h | ⟨b, off, e, h⟩
  · exact .inl h
  · refine .inr ⟨b, off, e, fun i hi => ?_⟩
    obtain ⟨a0, a1, a2⟩ := h i hi
    exact ⟨(World.cell?_of_block (hb.block _ (cell_lt a0))).trans a0, (World.cell?_of_block (hb.block _ (cell_lt a1))).trans a1, (World.cell?_of_block (hb.block _ (cell_lt a2))).trans a2⟩
theorem At.row {w : World} {v : V} {s : Value} (h : At w v s) : ∃ (A : Option Addr) (cap : Nat) (ss : Nat → Value), s = .slice A v.kids.length cap ∧ v.kids.length ≤ 2932031007317 ∧
    RowAt w v.kids A ss ∧ ∀ i, i < v.kids.length → At w (v.kids.getD i default) (ss i) := by
  cases h with
  | leaf => exact ⟨_, _, fun _ => nilS, rfl, by simp [V.kids], .inl rfl, fun i hi => by simp [V.kids] at hi⟩
  | node ss h0 h1 h2 => exact ⟨_, _, ss, rfl, h0, .inr ⟨_, _, rfl, h1⟩, h2⟩
theorem rowV_length (ks : List V) (ss : Nat → Value) (i : Nat) : (rowV ks ss i).length = 3 := rfl
theorem rows_news {w : World} {ks : List V} {b off : Nat} {ss : Nat → Value} (h : ∀ i, i < ks.length → w.cell? ⟨b, off + i * 3, none⟩ = some (.string (ks.getD i default).op) ∧ w.cell? ⟨b, off + i * 3 + 1, none⟩ = some (.int .i64 (ks.getD i default).num) ∧ w.cell? ⟨b, off + i * 3 + 2, none⟩ = some (ss i)) :
    ∀ j u, (rowsN (rowV ks ss) ks.length)[j]? = some u → w.cell? ((⟨b, off, none⟩ : Addr).add j) = some u := by
  intro j u hu
  have hl := rowsN_length (rowV_length ks ss) ks.length
  have hj := (List.getElem?_eq_some_iff.1 hu).1
  rw [hl] at hj
  obtain ⟨q, r, rfl, hr⟩ : ∃ q r, j = q * 3 + r ∧ r < 3 := ⟨j / 3, j % 3, by omega, by omega⟩
  have hq : q < ks.length := by omega
  rw [rowsN_get (rowV_length ks ss) hq hr] at hu
  obtain ⟨a0, a1, a2⟩ := h q hq
  rw [add_at, ← Nat.add_assoc]
  match r, hr with
  | 0, _ => exact a0.trans (by simpa [rowV] using hu)
  | 1, _ => exact a1.trans (by simpa [rowV] using hu)
  | 2, _ => exact a2.trans (by simpa [rowV] using hu)
theorem rows_one {ks : List V} {ss : Nat → Value} (h : ∀ i, i < ks.length → (ss i).oneCell' = true) : ∀ u ∈ rowsN (rowV ks ss) ks.length, u.oneCell' = true := by
  intro u hu
  simp only [rowsN, List.mem_flatMap, List.mem_range] at hu
  obtain ⟨i, hi, hu⟩ := hu
  simp only [rowV, List.mem_cons, List.not_mem_nil, or_false] at hu
  rcases hu with rfl | rfl | rfl
  · rfl
  · rfl
  · exact h i hi
theorem At.one {w : World} {v : V} {s : Value} (h : At w v s) : s.oneCell' = true := by
  obtain ⟨A, cap, rfl, _⟩ := h.inv
  rfl
theorem vnil_eq (w : World) (a : Option Addr) (n c : Nat) : (binOp .eql 22 (.slice a n c) (.slice none 0 0)).run Tryd.prog w = .ok (.bool a.isNone) w := by
  first | exact Lib.run_eql_slice_nil w _ _ a n c Tryd.underlying22 | exact Lib.run_eql_slice_nil w _ _ a n c 0 0 Tryd.underlying22

set_option maxRecDepth 100000 in
set_option maxHeartbeats 8000000 in
/-- slices.Clone at values. -/
theorem VClone_in {w : World} {ks : List V} {A : Option Addr} {cap : Nat} {ss : Nat → Value} (hcells : RowAt w ks A ss) (hmax : ks.length ≤ 2932031007317) (hone : ∀ i, i < ks.length → (ss i).oneCell' = true) :
    Calls Tryd.prog 34 #[.slice A ks.length cap] w fun e w' => (∃ rv, e = .returned rv ∧ w'.ownsRow w.heap.size 24 3 rv ks.length (rowsN (rowV ks ss) ks.length)) ∧ Below w.heap.size w w' := by
  obtain ⟨i0, hi, hz0, hz1, hz2⟩ := info_parts info_value
  have q22 := vnil_eq
  have HON := Lib.hid hone
  clear hone
  cases A with
  | none =>
    have h0 : ks = [] := by
      rcases hcells with h | ⟨_, _, e, _⟩
      · exact List.length_eq_zero_iff.1 h
      · cases e
    subst h0
    clear hcells hmax
    go_enter Tryd.func34, Tryd.ntmps34
    go_wp2_with fail
    go_ret
    exact ⟨⟨_, rfl, World.ownsRow_nil _ _ _ _⟩, Below.refl _ _⟩
  | some ad =>
    have hnews : ∀ j u, (rowsN (rowV ks ss) ks.length)[j]? = some u → w.cell? (ad.add j) = some u := by
      rcases hcells with h | ⟨b, off, e, h⟩
      · intro j u hu
        rw [h] at hu
        simp [rowsN] at hu
      · cases e
        exact rows_news h
    have hn := Lib.hid hnews
    have hone := Lib.hid (rows_one (ks := ks) (ss := ss) HON.out)
    clear hcells hnews
    go_enter Tryd.func34, Tryd.ntmps34
    go_wp2_with (at_builtin; refine wpList_append_own _ rfl _ _ 22 rfl w.heap.size 24 i0 (.agg #[.string ⟨#[]⟩, .int .i64 0, nilS]) 3 48 Tryd.underlying22 hi hz0 hz1 hz2 rfl (by decide) _ 0 [] rfl (World.ownsRow_made w #[] 0 (Nat.le_refl _) (Nat.zero_le _) (by simp)) ad ks.length cap (rowsN (rowV ks ss) ks.length) rfl ?qc1 ?qc2 ?qc3 ?qc4 ?qc5 ?qc6 ?_)
    case qc1 => exact rowsN_length (rowV_length ks ss) _
    case qc2 => exact fun j u hu => (((Below.refl w.heap.size w).alloc (Nat.le_refl _) _).cell (cell_lt (hn.out j u hu))).trans (hn.out j u hu)
    case qc3 => exact hone.out
    case qc4 => unfold maxLen; omega
    case qc5 => omega
    case qc6 => simp
    intro v' w1 hown hgrow hnil
    try rw [Nat.zero_add, List.nil_append] at hown
    have hB : Below w.heap.size w w1 := ((Below.refl w.heap.size w).alloc (Nat.le_refl _) (.cells #[] 24)).grown hgrow (by simp) (fun k hk => Nat.le_of_eq (by simpa [Value.ownBlock] using hk))
    clear hnil
    go_wp2_with fail
    go_ret
    exact ⟨⟨_, rfl, hown⟩, hB⟩

theorem row_set {W : World} {B e s g cap n m j : Nat} {x : Value} {xs : List Value} (h : W.ownsRow B e s (.slice (some ⟨g, 0, none⟩) n cap) m xs) :
    (W.setCell ⟨g, j, none⟩ x).ownsRow B e s (.slice (some ⟨g, 0, none⟩) n cap) m (xs.set j x) := by
  refine ⟨by rw [List.length_set]; exact h.1, ?_⟩
  rcases h.2 with ⟨e, _⟩ | ⟨g', cap', cur, e, hb, hg, hn, hm, hs, ht⟩
  · cases e
  · cases e
    refine .inr ⟨g, cap, cur.setIfInBounds j x, rfl, hb, setc hg j x, hn, hm, by simpa using hs, ?_⟩
    rw [Array.toList_setIfInBounds, List.take_set, ht]
theorem row_base {W : World} {B B' e s m : Nat} {v : Value} {xs : List Value} (h : W.ownsRow B e s v m xs) (hB : B' ≤ B) : W.ownsRow B' e s v m xs := by
  refine ⟨h.1, ?_⟩
  rcases h.2 with h0 | ⟨g', cap', cur, e, hb, hr⟩
  · exact .inl h0
  · exact .inr ⟨g', cap', cur, e, Nat.le_trans hB hb, hr⟩
theorem rows_set3 {c c' : Nat → List Value} (hc : ∀ i, (c i).length = 3) (hc' : ∀ i, (c' i).length = 3) {n i : Nat} (hi : i < n) {x y z : Value} (he : c' i = [x, y, z]) (ho : ∀ j, j ≠ i → c' j = c j) :
    rowsN c' n = (((rowsN c n).set (i * 3) x).set (i * 3 + 1) y).set (i * 3 + 2) z := by
  have l1 := rowsN_length hc n
  have l2 := rowsN_length hc' n
  apply List.ext_getElem?
  intro k
  by_cases hk : k < n * 3
  · obtain ⟨q, r, rfl, hr⟩ : ∃ q r, k = q * 3 + r ∧ r < 3 := ⟨k / 3, k % 3, by omega, by omega⟩
    by_cases e : q = i
    · subst e
      rw [rowsN_get hc' hi hr, he]
      match r, hr with
      | 0, _ => rw [show q * 3 + 0 = q * 3 from rfl, List.getElem?_set_ne (by omega), List.getElem?_set_ne (by omega), List.getElem?_set_self (by rw [l1]; omega)]; rfl
      | 1, _ => rw [List.getElem?_set_ne (by omega), List.getElem?_set_self (by simp; omega)]; rfl
      | 2, _ => rw [List.getElem?_set_self (by simp; omega)]; rfl
    · rw [rowsN_get hc' (by omega) hr, ho q e, List.getElem?_set_ne (by omega), List.getElem?_set_ne (by omega), List.getElem?_set_ne (by omega), rowsN_get hc (by omega) hr]
  · rw [List.getElem?_eq_none (by omega), List.getElem?_eq_none (by simp; omega)]

/-- How far own has come: i parts of the row rv are its own. -/
structure OwnAt (w : World) (v : V) (i : Nat) (rv : Value) (ss : Nat → Value) (wr : World) : Prop where
  below : Below w.heap.size w wr
  box : wr.heap[w.heap.size]? = some (.cells #[.string v.op, .int .i64 v.num, rv] 24)
  res : wr.heap[w.heap.size + 1]? = some (.cells #[.string ⟨#[]⟩, .int .i64 0, nilS] 24)
  row : wr.ownsRow (w.heap.size + 1 + 1) 24 3 rv v.kids.length (rowsN (rowV v.kids ss) v.kids.length)
  kids : ∀ j, j < i → AtP (fun k => w.heap.size + 1 + 1 ≤ k ∧ rv.ownBlock ≠ some k) wr (v.kids.getD j default) (ss j)
  olds : ∀ j, i ≤ j → j < v.kids.length → At w (v.kids.getD j default) (ss j)
theorem OwnAt.step {w : World} {v : V} {i : Nat} {g cap n : Nat} {ss : Nat → Value} {wr wx w5 : World} {s5 : Value} (h : OwnAt w v i (.slice (some ⟨g, 0, none⟩) n cap) ss wr) (hi : i < v.kids.length)
    (hbx : Below wr.heap.size wr wx) (hb5 : Below wx.heap.size wx w5) (hp5 : AtP (fun k => wx.heap.size ≤ k) w5 (v.kids.getD i default) s5) :
    OwnAt w v (i + 1) (.slice (some ⟨g, 0, none⟩) n cap) (fun j => if j = i then s5 else ss j) (((w5.setCell ⟨g, i * 3, none⟩ (.string (v.kids.getD i default).op)).setCell ⟨g, i * 3 + 1, none⟩ (.int .i64 (v.kids.getD i default).num)).setCell ⟨g, i * 3 + 2, none⟩ s5) := by
  have hx := hbx.size
  have h5 := hb5.size
  have hg := row_lt h.row (k := g) rfl
  have old : ∀ k, k < wr.heap.size → w5.heap[k]? = wr.heap[k]? := fun k hk => (hb5.block k (by omega)).trans (hbx.block k hk)
  have hset : ∀ k, k ≠ g → (((w5.setCell ⟨g, i * 3, none⟩ (.string (v.kids.getD i default).op)).setCell ⟨g, i * 3 + 1, none⟩ (.int .i64 (v.kids.getD i default).num)).setCell ⟨g, i * 3 + 2, none⟩ s5).heap[k]? = w5.heap[k]? := fun k hk => by
    rw [Below.heap_setCell _ _ _ _ hk, Below.heap_setCell _ _ _ _ hk, Below.heap_setCell _ _ _ _ hk]
  have hsz : (((w5.setCell ⟨g, i * 3, none⟩ (.string (v.kids.getD i default).op)).setCell ⟨g, i * 3 + 1, none⟩ (.int .i64 (v.kids.getD i default).num)).setCell ⟨g, i * 3 + 2, none⟩ s5).heap.size = w5.heap.size := by simp [World.setCell]
  have hbox := heap_lt h.box
  have hres := heap_lt h.res
  refine ⟨?_, ?_, ?_, ?_, ?_, fun j hj hl => ?_⟩
  · have hb0 : Below w.heap.size w w5 := (h.below.trans (hbx.mono (by omega))).trans (hb5.mono (by omega))
    exact ((hb0.setCell (p := ⟨g, i * 3, none⟩) (by simp; omega) _).setCell (p := ⟨g, i * 3 + 1, none⟩) (by simp; omega) _).setCell (p := ⟨g, i * 3 + 2, none⟩) (by simp; omega) _
  · rw [hset _ (by omega), old _ hbox]
    exact h.box
  · rw [hset _ (by omega), old _ hres]
    exact h.res
  · rw [rows_set3 (c := rowV v.kids ss) (fun _ => rfl) (fun _ => rfl) hi (x := .string (v.kids.getD i default).op) (y := .int .i64 (v.kids.getD i default).num) (z := s5) (by simp [rowV]) (fun j hj => by simp [rowV, hj])]
    exact row_set (row_set (row_set (owns_block h.row fun k hk => old k (row_lt h.row hk).2)))
  · intro j hj
    by_cases e : j = i
    · subst e
      simp only [if_true]
      refine hp5.step (by omega) fun k hk hP => ⟨hset k (by omega), by omega, ?_⟩
      intro e'
      have : g = k := by simpa [Value.ownBlock] using e'
      omega
    · simp only [if_neg e]
      refine (h.kids j (by omega)).step (by omega) fun k hk hP => ?_
      have hne : k ≠ g := fun e' => hP.2 (by rw [e']; rfl)
      exact ⟨by rw [hset k hne, old k hk], hP⟩
  · have e : ¬ j = i := by omega
    simp only [if_neg e]
    exact h.olds j (by omega) hl
/-- What own hands out. -/
theorem OwnAt.done {w : World} {v : V} {rv : Value} {ss : Nat → Value} {wr : World} (h : OwnAt w v v.kids.length rv ss wr) (hl : v.kids.length ≤ 2932031007317) (W : World)
    (hs : wr.heap.size ≤ W.heap.size) (hk : ∀ k, k < wr.heap.size → w.heap.size + 1 + 1 ≤ k → W.heap[k]? = wr.heap[k]?) : AtP (fun k => w.heap.size ≤ k) W v rv ∧ W.ownsRow w.heap.size 24 3 rv v.kids.length (rowsN (rowV v.kids ss) v.kids.length) := by
  have hrow : W.ownsRow (w.heap.size + 1 + 1) 24 3 rv v.kids.length (rowsN (rowV v.kids ss) v.kids.length) := owns_block h.row fun g hg => hk g (row_lt h.row hg).2 (row_lt h.row hg).1
  refine ⟨?_, row_base hrow (by omega)⟩
  cases v with
  | mk o n ks =>
    refine AtP.of_row (B := w.heap.size + 1 + 1) (e := 24) hrow hl (fun g hg => ?_) fun j hj => ?_
    · have := (row_lt h.row hg).1
      omega
    · exact (h.kids j hj).step hs fun k hk' hP => ⟨hk k hk' hP.1, by omega⟩
end Go.Proofs.YtofijodndilmbaaDoor
