/- One more node: by the reference, by the tree. PRINTED by gentre3.py of this folder. -/
import Derived.Test.YtnaednfdaaiciaaTre2
import Derived.Laws.AppendOwnNone
set_option linter.unusedVariables false
set_option linter.unusedSimpArgs false
namespace Go.Proofs.Ytnaednfdaaiciaa
open Go.RowKit
open TreP (WF nd inT deep places fits)

theorem Ints.one {w : World} {s : Value} {l : List Int} (h : Ints w s l) : s.oneCell' = true := by
  obtain ⟨A, c, rfl⟩ := h.form
  rfl
theorem rows_one {w : World} {ms : List (Nd × Value)} (h : ∀ p ∈ ms, Ints w p.2 p.1.kids) : ∀ u ∈ rowsOf ms, u.oneCell' = true := by
  intro u hu
  obtain ⟨p, hp, hu⟩ := List.mem_flatMap.1 hu
  simp only [ndCells, List.mem_cons, List.not_mem_nil, or_false] at hu
  rcases hu with rfl | rfl | rfl | rfl | rfl | rfl
  · rfl
  · rfl
  · rfl
  · rfl
  · rfl
  · exact (h p hp).one
theorem Nodes.news {w : World} {b off c : Nat} {ms : List (Nd × Value)} (h : ∀ k u, (rowsOf ms)[k]? = some u → w.cell? ⟨b, off + k, none⟩ = some u) : ∀ j u, (rowsOf ms)[j]? = some u → w.cell? ((⟨b, off, none⟩ : Addr).add j) = some u := by
  intro j u hu
  rw [add_at]
  exact h j u hu
theorem rowsOf_one (x : Nd) (s : Value) : rowsOf [(x, s)] = ndCells x s := by simp [rowsOf]
theorem nd_one (x : Nd) (s : Value) (h : s.oneCell' = true) : ∀ u ∈ ndCells x s, u.oneCell' = true := by
  intro u hu
  simp only [ndCells, List.mem_cons, List.not_mem_nil, or_false] at hu
  rcases hu with rfl | rfl | rfl | rfl | rfl | rfl
  · rfl
  · rfl
  · rfl
  · rfl
  · rfl
  · exact h
theorem owns_nodes {w : World} {B : Nat} {v : Value} {ms : List (Nd × Value)} (h : w.ownsRow B 33 6 v ms.length (rowsOf ms)) (hk : ∀ p ∈ ms, Ints w p.2 p.1.kids) : Nodes w v ms := by
  refine ⟨?_, hk⟩
  rcases h.2 with ⟨rfl, h0⟩ | ⟨g, cap, cur, rfl, hg, hh, r⟩
  · exact .inl ⟨⟨none, 0, rfl⟩, List.eq_nil_of_length_eq_zero h0⟩
  · refine .inr ⟨g, 0, cap, rfl, fun k u hu => ?_⟩
    have hk : k < ms.length * 6 := by
      have := (List.getElem?_eq_some_iff.1 hu).1
      rwa [rowsOf_length] at this
    rw [Nat.zero_add, World.ownsRow.cellAt h k hk, hu]
theorem owns_case {w : World} {B : Nat} {v : Value} {ms : List (Nd × Value)} (h : w.ownsRow B 33 6 v ms.length (rowsOf ms)) :
    (v = .slice none 0 0 ∧ ms = []) ∨ ∃ b off c, v = .slice (some ⟨b, off, none⟩) ms.length c ∧ ∀ k u, (rowsOf ms)[k]? = some u → w.cell? ⟨b, off + k, none⟩ = some u := by
  rcases h.2 with ⟨rfl, h0⟩ | ⟨g, cap, cur, rfl, hg, hh, r⟩
  · exact .inl ⟨rfl, List.eq_nil_of_length_eq_zero h0⟩
  · refine .inr ⟨g, 0, cap, rfl, fun k u hu => ?_⟩
    have hk : k < ms.length * 6 := by
      have := (List.getElem?_eq_some_iff.1 hu).1
      rwa [rowsOf_length] at this
    rw [Nat.zero_add, World.ownsRow.cellAt h k hk, hu]
theorem owns_form {w : World} {B : Nat} {e : TypeId} {size n : Nat} {v : Value} {xs : List Value} (h : w.ownsRow B e size v n xs) : ∃ A c, v = .slice A n c := by
  rcases h.2 with ⟨rfl, rfl⟩ | ⟨g, cap, cur, rfl, _⟩
  · exact ⟨_, _, rfl⟩
  · exact ⟨_, _, rfl⟩
theorem news_block {w : World} {b : Nat} {cs : List Value} {t : TypeId} (h : w.heap[b]? = some (.cells cs.toArray t)) : ∀ j u, cs[j]? = some u → w.cell? ((⟨b, 0, none⟩ : Addr).add j) = some u :=
  World.news_of_block (cs := cs.toArray) h

def RefAddPost (w : World) (V : Value) (ms : List (Nd × Value)) (x : Nd) (s : Value) (e : Ending) (w' : World) : Prop :=
  Below w.heap.size w w' ∧ ((fits ms.length x = true ∧ ∃ V', e = .returned (.tuple #[V', .int .i64 0]) ∧ w'.ownsRow w.heap.size 33 6 V' (ms ++ [(x, s)]).length (rowsOf (ms ++ [(x, s)]))) ∨
    (fits ms.length x = false ∧ e = .returned (.tuple #[V, .int .i64 1])))
theorem inT_false {n : Nat} {i : Int} (h : ¬ (0 ≤ i ∧ i < n)) : inT n i = false := by
  cases hc : inT n i with
  | false => rfl
  | true => exact absurd (TreP.inT_iff.1 hc) h
theorem all_getD {l : List Int} {p : Int → Bool} (h : ∀ j, j < l.length → p (l.getD j 0) = true) : l.all p = true := by
  rw [List.all_eq_true]
  intro x hx
  obtain ⟨j, hj, rfl⟩ := List.getElem_of_mem hx
  have := h j hj
  simpa [List.getD, hj] using this
theorem all_false {l : List Int} {p : Int → Bool} {j : Nat} (hj : j < l.length) (h : p (l.getD j 0) = false) : l.all p = false := by
  rw [List.all_eq_false]
  refine ⟨l[j], List.getElem_mem hj, ?_⟩
  simp only [List.getD, List.getElem?_eq_getElem hj, Option.getD_some] at h
  simp [h]

set_option maxRecDepth 100000 in
set_option maxHeartbeats 8000000 in
theorem refAdd_in {w : World} {V s : Value} {ms : List (Nd × Value)} {x : Nd} (hV : Nodes w V ms) (hs : Ints w s x.kids) (hm : ms.length ≤ 2000) (hk : x.kids.length ≤ 2000) (hO : ∃ B', w.ownsRow B' 33 6 V ms.length (rowsOf ms)) :
    Calls Try.prog 17 #[V, ndV x s] w (RefAddPost w V ms x s) := by
  obtain ⟨A, c, rfl⟩ := hV.form
  obtain ⟨A0, c0, rfl⟩ := hs.form
  obtain ⟨op, line, col, name, num, kids⟩ := x
  simp only at hs hk
  unfold ndV
  simp only
  have hb0 := (Below.refl w.heap.size w).alloc (Nat.le_refl _) (.cells #[.string op, .int .i64 line, .int .i64 col, .string name, .int .i64 num, .slice A0 kids.length c0] 33)
  have f0 := last w (.cells #[.string op, .int .i64 line, .int .i64 col, .string name, .int .i64 num, .slice A0 kids.length c0] 33)
  have hsz : (w.alloc (.cells #[.string op, .int .i64 line, .int .i64 col, .string name, .int .i64 num, .slice A0 kids.length c0] 33)).heap.size = w.heap.size + 1 := by simp
  have HS := Lib.hid (hs.below hb0)
  have HV := Lib.hid (hV.below hb0)
  obtain ⟨B', hO⟩ := hO
  have HCASE := Lib.hid (owns_case (owns_below hO hb0))
  clear hO
  obtain ⟨n0, n1, n2, n3, n4, n5⟩ := cellsOf6 f0
  have hn4 : decide (4000 ≤ (ms.length : Int)) = false := decide_eq_false (by omega)
  obtain ⟨i0, hi0, hz0, hz1, hz2⟩ := info_parts info_node
  clear hs hV
  go_enter Try.func17, Try.ntmps17
  go_wp2_with fail
  generalize w.alloc (.cells #[.string op, .int .i64 line, .int .i64 col, .string name, .int .i64 num, .slice A0 kids.length c0] 33) = W1 at *
  go_loopw [6] (fun i wr => ∃ j : Nat, i = .int .i64 j ∧ j ≤ kids.length ∧ Hid (∀ j', j' < j → inT ms.length (kids.getD j' 0) = true) ∧ W1 = wr) (fun i _ => ((kids.length : Int) - intOf i).toNat)
  case atStart => exact ⟨0, rfl, by omega, Lib.hid (fun j' h => by omega), rfl⟩
  case round =>
    obtain ⟨j, rfl, hj, HA, rfl⟩ := hrel
    by_cases hjl : j < kids.length
    · have hji : (j : Int) < kids.length := by omega
      rcases HS.out with ⟨_, h2⟩ | ⟨b', off', c'', h1, h2⟩
      · rw [h2] at hjl; simp at hjl
      cases h1
      have e6 := h2 j hjl
      clear h2
      obtain ⟨y, hy⟩ : ∃ y, kids.getD j 0 = y := ⟨_, rfl⟩
      rw [hy] at e6
      have HY := Lib.hid hy; clear hy
      by_cases hy0 : y < 0
      · go_wp2_with fail
        exact bodyPost_ret (v := .tuple #[.slice A ms.length c, .int .i64 1]) (by simp [results, Try.results17, go_sem]) rfl ⟨hb0, .inr ⟨all_false hjl (by rw [HY.out]; exact inT_false (by omega)), rfl⟩⟩
      · have hy1 : decide (y < 0) = false := decide_eq_false hy0
        by_cases hyn : (ms.length : Int) ≤ y
        · go_wp2_with fail
          exact bodyPost_ret (v := .tuple #[.slice A ms.length c, .int .i64 1]) (by simp [results, Try.results17, go_sem]) rfl ⟨hb0, .inr ⟨all_false hjl (by rw [HY.out]; exact inT_false (by omega)), rfl⟩⟩
        · have hyn' : y < ms.length := by omega
          go_wp2_with fail
          go_roundw
          case rel =>
            refine ⟨j + 1, by simp, by omega, Lib.hid (fun j' h => ?_), by simp⟩
            by_cases e : j' = j
            · rw [e, HY.out]; exact TreP.inT_iff.2 (by omega)
            · exact HA.out j' (by omega)
          case measure => simp [intOf]; omega
    · have hji : ¬ (j : Int) < kids.length := by omega
      have hje : j = kids.length := by omega
      have hfit : kids.all (inT ms.length) = true := all_getD (fun j' h => HA.out j' (by omega))
      have hfit' : fits ms.length ⟨op, line, col, name, num, kids⟩ = true := hfit
      have HFIT := Lib.hid hfit'; clear hfit hfit' HA
      have hown0 := World.ownsRow_made (e := 33) (size := 6) (base := w.heap.size) W1 #[] 0 hb0.size (by decide) rfl
      rw [hsz] at hown0
      have f0' := f0
      rcases HCASE.out with ⟨hv, hms⟩ | ⟨b, off, c', hv, h2⟩
      · subst hms
        cases hv
        have hlast := last (W1.alloc (.cells #[] 33)) (.cells #[.string op, .int .i64 line, .int .i64 col, .string name, .int .i64 num, .slice A0 kids.length c0] 33)
        have hsz2 : (W1.alloc (.cells #[] 33)).heap.size = w.heap.size + 1 + 1 := by simp [hsz]
        rw [hsz2] at hlast
        have HLAST := Lib.hid (news_block (cs := ndCells ⟨op, line, col, name, num, kids⟩ (.slice A0 kids.length c0)) hlast)
        have HB2 := Lib.hid ((hb0.alloc hb0.size (.cells #[] 33)).alloc (by rw [hsz2]; omega) (.cells #[.string op, .int .i64 line, .int .i64 col, .string name, .int .i64 num, .slice A0 kids.length c0] 33))
        have m0 := fun o => cell_alloc n0 o
        have m1 := fun o => cell_alloc n1 o
        have m2 := fun o => cell_alloc n2 o
        have m3 := fun o => cell_alloc n3 o
        have m4 := fun o => cell_alloc n4 o
        have m5 := fun o => cell_alloc n5 o
        clear hlast
        go_wp2_with (first
          | (at_builtin; refine wpList_append_own_none rfl _ _ 22 rfl w.heap.size 33 i0 6 Try.underlying22 hi0 _ 0 [] rfl hown0 rfl ?_)
          | (at_builtin; refine wpList_append_own _ rfl _ _ 22 rfl w.heap.size 33 i0 (.agg #[.string .empty, .int .i64 0, .int .i64 0, .string .empty, .int .i64 0, .slice none 0 0]) 6 80 Try.underlying22 hi0 hz0 hz1 hz2 rfl (by decide) _ 0 [] rfl (hown0.alloc _) ⟨w.heap.size + 1 + 1, 0, none⟩ 1 1 (ndCells ⟨op, line, col, name, num, kids⟩ (.slice A0 kids.length c0)) rfl ?qd1 ?qd2 ?qd3 ?qd4 ?qd5 ?qd6 ?_))
        case qd1 => rfl
        case qd2 => first | exact HLAST.out | exact fun j u h => h
        case qd3 => exact nd_one _ _ rfl
        try (case qd4 => decide)
        try (case qd5 => decide)
        case qd6 => first | omega | (simp [hsz]; omega)
        intro v3 w3 hown3 hgrow3 hnil3
        have hbw := HB2.out.grown hgrow3 (by simp [hsz]; try omega) (fun k hk => by have e := (hown0.lt k hk).1; exact e)
        obtain ⟨A3, c3, rfl⟩ := owns_form hown3
        have HO3 := Lib.hid (And.intro hown3 hbw)
        clear hown3 hgrow3 hnil3 hbw m0 m1 m2 m3 m4 m5
        go_wp2_with fail
        exact bodyPost_ret (v := .tuple #[.slice A3 1 c3, .int .i64 0]) (by simp [results, Try.results17, go_sem]) rfl ⟨HO3.out.2, .inl ⟨HFIT.out, _, rfl, by have := HO3.out.1; simpa [rowsOf, ndCells] using this⟩⟩
      · cases hv
        have HN := Lib.hid (Nodes.news (c := c) h2)
        clear h2
        go_wp2_with (at_builtin; refine wpList_append_own _ rfl _ _ 22 rfl w.heap.size 33 i0 (.agg #[.string .empty, .int .i64 0, .int .i64 0, .string .empty, .int .i64 0, .slice none 0 0]) 6 80 Try.underlying22 hi0 hz0 hz1 hz2 rfl (by decide) _ 0 [] rfl hown0 ⟨b, off, none⟩ ms.length c (rowsOf ms) rfl ?qc1 ?qc2 ?qc3 ?qc4 ?qc5 ?qc6 ?_)
        case qc1 => exact rowsOf_length ms
        case qc2 => exact fun j u hu => cell_alloc (by have := HN.out j u hu; rwa [add_at] at this) _
        case qc3 => exact rows_one HV.out.2
        case qc4 => unfold maxLen; omega
        case qc5 => omega
        case qc6 => omega
        intro v2 w2 hown2 hgrow2 hnil2
        have hbw : Below W1.heap.size W1 w2 := ((Below.refl W1.heap.size W1).alloc (Nat.le_refl _) (.cells #[] 33)).grown hgrow2 (by simp) (fun k hk => by rw [hsz]; exact Nat.le_of_eq (by simpa [Value.ownBlock] using hk))
        obtain ⟨A2, c2, rfl⟩ := owns_form hown2
        obtain ⟨m0, m1, m2, m3, m4, m5⟩ := cellsOf6 ((hbw.block _ (by omega)).trans f0')
        have hs2 := hbw.size
        have hlast := last w2 (.cells #[.string op, .int .i64 line, .int .i64 col, .string name, .int .i64 num, .slice A0 kids.length c0] 33)
        have HLAST := Lib.hid (news_block (cs := ndCells ⟨op, line, col, name, num, kids⟩ (.slice A0 kids.length c0)) hlast)
        have HB2 := Lib.hid ((hb0.trans (hbw.mono hb0.size)).alloc (by omega) (.cells #[.string op, .int .i64 line, .int .i64 col, .string name, .int .i64 num, .slice A0 kids.length c0] 33))
        have HO2 := Lib.hid hown2
        clear hlast hown2 hgrow2 hnil2 hbw
        go_wp2_with (at_builtin; go_loud (refine wpList_append_own _ rfl _ _ 22 rfl w.heap.size 33 i0 (.agg #[.string .empty, .int .i64 0, .int .i64 0, .string .empty, .int .i64 0, .slice none 0 0]) 6 80 Try.underlying22 hi0 hz0 hz1 hz2 rfl (by decide) _ ms.length (rowsOf ms) rfl (HO2.out.alloc _) ⟨w2.heap.size, 0, none⟩ 1 1 (ndCells ⟨op, line, col, name, num, kids⟩ (.slice A0 kids.length c0)) rfl ?qe1 ?qe2 ?qe3 ?qe4 ?qe5 ?qe6 ?_))
        case qe1 => rfl
        case qe2 => first | exact HLAST.out | exact fun j u h => h
        case qe3 => exact nd_one _ _ rfl
        case qe4 => unfold maxLen; omega
        case qe5 => omega
        case qe6 => simp; omega
        intro v3 w3 hown3 hgrow3 hnil3
        have hbw := HB2.out.grown hgrow3 (by simp; omega) (fun k hk => (HO2.out.lt k hk).1)
        obtain ⟨A3, c3, rfl⟩ := owns_form hown3
        have HO3 := Lib.hid (And.intro hown3 hbw)
        clear hown3 hgrow3 hnil3 hbw
        go_wp2_with fail
        exact bodyPost_ret (v := .tuple #[.slice A3 (ms.length + 1) c3, .int .i64 0]) (by simp [results, Try.results17, go_sem]) rfl ⟨HO3.out.2, .inl ⟨HFIT.out, _, rfl, by rw [rowsOf_append, rowsOf_one, List.length_append]; exact HO3.out.1⟩⟩
end Go.Proofs.Ytnaednfdaaiciaa
