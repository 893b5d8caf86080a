/- slices.Grow, Concat and Reverse at pairs of bytes. -/
import Derived.Test.YtpbiiigacfhbhaaDoorTypR
set_option linter.unusedVariables false
set_option linter.unusedSimpArgs false
namespace Go.Proofs.YtpbiiigacfhbhaaDoor
open Go.RowKit

set_option maxRecDepth 100000 in
set_option maxHeartbeats 8000000 in
theorem Grow_in {w : World} {n : Nat} (h0 : 0 < n) (hn : n ≤ 100) :
    Calls Tryd.prog 29 #[.slice none 0 0, .int .i64 n] w fun e w' => ∃ g cp, e = .returned (.slice (some ⟨g, 0, none⟩) 0 cp) ∧ RowP w' w.heap.size (.slice (some ⟨g, 0, none⟩) 0 cp) [] ∧ Below w.heap.size w w' := by
  obtain ⟨i0, hi, hz0, hz1, hz2⟩ := info_parts info_p2
  have happ := fun w => Lib.run_append_nil_zeros (P := Tryd.prog) w 50 3 50 51 i0 (.agg #[.int .u8 0, .int .u8 0]) .i64 .i64 Tryd.underlying50 Tryd.underlying3 hi hz0 n h0 (by rw [hz1]; decide) (by omega) (by rw [hz2]; omega)
  have HAPP := Lib.hid happ
  have hcap := grownCap_ge w.drew n 0 51
  have hmax := fun w => grownCap_le_maxLen w n 0 51 (by unfold maxLen; omega)
  have hge := fun w => grownCap_ge w n 0 51
  have HG := Lib.hid (And.intro hmax hge)
  clear happ hcap hmax hge
  go_enter Tryd.func29, Tryd.ntmps29
  go_wp2_with (at_builtin; refine Lib.wpList_append_run _ rfl _ _ 50 3 rfl (.slice none 0 0) (.int .i64 n) rfl rfl _ _ (HAPP.out _) ?_)
  go_ret
  have hb := ((Below.refl w.heap.size w).alloc (Nat.le_refl _) (.cells (Builtin.zeroCells #[.int .u8 0, .int .u8 0] n ++ Builtin.zeroCells #[.int .u8 0, .int .u8 0] (grownCap w n 0 51 - n)) 51)).drew
  refine ⟨w.heap.size, grownCap w n 0 51, rfl, ⟨by rfl, .inr ⟨w.heap.size, _, _, rfl, Nat.le_refl _, last _ _, Nat.zero_le _, HG.out.1 w, ?_, by simp [cellsP]⟩⟩, hb⟩
  have := HG.out.2 w
  rw [Array.size_append, size_zeroCells, size_zeroCells]
  simp
  omega

set_option maxRecDepth 100000 in
set_option maxHeartbeats 8000000 in
theorem Concat_in {w : World} {sb c1 c2 : Nat} {p1 p2 : List (Int × Int)} {ad1 ad2 : Addr} (hs0 : w.cell? ⟨sb, 0, none⟩ = some (.slice (some ad1) p1.length c1)) (hs1 : w.cell? ⟨sb, 1, none⟩ = some (.slice (some ad2) p2.length c2))
    (hn1 : ∀ j u, (cellsP p1)[j]? = some u → w.cell? (ad1.add j) = some u) (hn2 : ∀ j u, (cellsP p2)[j]? = some u → w.cell? (ad2.add j) = some u) (h0 : 0 < p1.length + p2.length) (hn : p1.length + p2.length ≤ 100) :
    Calls Tryd.prog 20 #[.slice (some ⟨sb, 0, none⟩) 2 2] w fun e w' => ∃ v', e = .returned v' ∧ RowP w' w.heap.size v' (p1 ++ p2) ∧ Below w.heap.size w w' := by
  obtain ⟨i0, hi, hz0, hz1, hz2⟩ := info_parts info_p2
  obtain ⟨N, hN⟩ : ∃ N, N = p1.length + p2.length := ⟨_, rfl⟩
  have hc := Grow_in (w := w) (n := N) (by omega) (by omega)
  have hsum : (p1.length : Int) + (p2.length : Int) = (N : Int) := by omega
  have HN1 := Lib.hid hn1
  have HN2 := Lib.hid hn2
  have HNN := Lib.hid hN
  have hN100 : N ≤ 100 := by omega
  have hp1 : p1.length ≤ 100 := by omega
  have hp2 : p2.length ≤ 100 := by omega
  have hsb := cell_lt hs0
  clear hn1 hn2 hN h0 hn
  go_enter Tryd.func20, Tryd.ntmps20
  go_wp2_with fail
  go_loopg [3, 11] 2 (fun gk sz iv wr => w = wr ∧ ((iv = .int .i64 0 ∧ sz = .int .i64 0 ∧ gk = 2) ∨ (iv = .int .i64 1 ∧ sz = .int .i64 p1.length ∧ gk = 1) ∨ (iv = .int .i64 2 ∧ sz = .int .i64 N ∧ gk = 0)))
  case atStart => exact ⟨rfl, .inl ⟨rfl, rfl, rfl⟩⟩
  case round =>
    obtain ⟨rfl, ⟨rfl, rfl, rfl⟩ | ⟨rfl, rfl, rfl⟩ | ⟨rfl, rfl, rfl⟩⟩ := hrel
    · clear hc hsum
      go_wp2_with fail
      go_roundg 1
      case measure => omega
      case rel => exact ⟨by first | trivial | rfl, .inr (.inl ⟨rfl, rfl, rfl⟩)⟩
    · clear hc
      go_wp2_with fail
      go_roundg 0
      case measure => omega
      case rel => exact ⟨by first | trivial | rfl, .inr (.inr ⟨rfl, rfl, rfl⟩)⟩
    · clear hsum
      go_wp2_with fail
      refine hc.mono ?_
      clear hc
      rintro e w1 ⟨g, cp, rfl, hr, hb⟩
      have H1 := Lib.hid (And.intro hr hb)
      clear hr hb
      have hsz := H1.out.2.size
      go_wp2_with fail
      go_loopg [6, 27] 2 (fun gk nv iv wz => Below w.heap.size w wz ∧ ((iv = .int .i64 0 ∧ RowP wz w.heap.size nv [] ∧ gk = 2) ∨ (iv = .int .i64 1 ∧ RowP wz w.heap.size nv p1 ∧ gk = 1) ∨ (iv = .int .i64 2 ∧ RowP wz w.heap.size nv (p1 ++ p2) ∧ gk = 0)))
      case atStart => exact ⟨H1.out.2, .inl ⟨rfl, H1.out.1, rfl⟩⟩
      case round =>
        obtain ⟨hbe, ⟨rfl, hr, rfl⟩ | ⟨rfl, hr, rfl⟩ | ⟨rfl, hr, rfl⟩⟩ := hrel
        · obtain ⟨A, k1, rfl⟩ := row_form hr
          have hs0' := (World.cell?_of_block (a := ⟨sb, 0, none⟩) (hbe.block sb hsb)).trans hs0
          have H2 := Lib.hid (And.intro hbe hr)
          have hszz := hbe.size
          clear hbe hr hs0 hs1
          go_wp2_with (at_builtin; refine wpList_append_own _ rfl _ _ 50 rfl w.heap.size 51 i0 (.agg #[.int .u8 0, .int .u8 0]) 2 2 Tryd.underlying50 hi hz0 hz1 hz2 rfl (by decide) _ 0 [] rfl H2.out.2 ad1 p1.length c1 (cellsP p1) rfl (cellsP_length p1) (fun j u hu => (H2.out.1.cell (cell_lt (HN1.out j u hu))).trans (HN1.out j u hu)) (cellsP_one p1) (by unfold maxLen; omega) (by omega) hszz ?_)
          intro v' wa hown hgrow hnil
          have hbe2 := H2.out.1.grown hgrow hszz (fun k hk => (row_lt H2.out.2 hk).1)
          have hrow : RowP wa w.heap.size v' p1 := by
            simpa using hown
          have H3 := Lib.hid (And.intro hbe2 hrow)
          clear hown hgrow hnil hbe2 hrow H2
          go_wp2_with fail
          go_roundg 1
          case measure => omega
          case rel => exact ⟨H3.out.1, .inr (.inl ⟨rfl, H3.out.2, rfl⟩)⟩
        · obtain ⟨A, k1, rfl⟩ := row_form hr
          have hs1' := (World.cell?_of_block (a := ⟨sb, 1, none⟩) (hbe.block sb hsb)).trans hs1
          have H2 := Lib.hid (And.intro hbe hr)
          have hszz := hbe.size
          clear hbe hr hs0 hs1
          go_wp2_with (at_builtin; refine wpList_append_own _ rfl _ _ 50 rfl w.heap.size 51 i0 (.agg #[.int .u8 0, .int .u8 0]) 2 2 Tryd.underlying50 hi hz0 hz1 hz2 rfl (by decide) _ p1.length (cellsP p1) rfl H2.out.2 ad2 p2.length c2 (cellsP p2) rfl (cellsP_length p2) (fun j u hu => (H2.out.1.cell (cell_lt (HN2.out j u hu))).trans (HN2.out j u hu)) (cellsP_one p2) (by unfold maxLen; omega) (by omega) hszz ?_)
          intro v' wa hown hgrow hnil
          have hbe2 := H2.out.1.grown hgrow hszz (fun k hk => (row_lt H2.out.2 hk).1)
          have hrow : RowP wa w.heap.size v' (p1 ++ p2) := by
            unfold RowP
            rw [cellsP_append, List.length_append]
            exact hown
          have H3 := Lib.hid (And.intro hbe2 hrow)
          clear hown hgrow hnil hbe2 hrow H2
          go_wp2_with fail
          go_roundg 0
          case measure => omega
          case rel => exact ⟨H3.out.1, .inr (.inr ⟨rfl, H3.out.2, rfl⟩)⟩
        · have H2 := Lib.hid (And.intro hbe hr)
          clear hbe hr
          go_wp2_with fail
          go_ret
          exact ⟨_, rfl, H2.out.2, H2.out.1⟩

/-- Two of a list change places. -/
def swap2 (l : List (Int × Int)) (i j : Nat) : List (Int × Int) := (l.set i (l.getD j (0, 0))).set j (l.getD i (0, 0))
theorem cellsP_set (l : List (Int × Int)) {i : Nat} (hi : i < l.length) (p : Int × Int) : cellsP (l.set i p) = ((cellsP l).set (i * 2) (.int .u8 p.1)).set (i * 2 + 1) (.int .u8 p.2) := by
  induction l generalizing i with
  | nil => simp at hi
  | cons a l ih =>
    cases i with
    | zero => simp [cellsP]
    | succ i =>
      have := ih (i := i) (by simpa using hi)
      rw [show (i + 1) * 2 = i * 2 + 1 + 1 by omega, show i * 2 + 1 + 1 + 1 = i * 2 + 1 + 1 + 1 by rfl]
      simp only [cellsP, List.flatMap_cons, List.set_cons_succ] at *
      rw [this]
      simp
theorem RowP.set {w : World} {B g cap n : Nat} {l : List (Int × Int)} (h : RowP w B (.slice (some ⟨g, 0, none⟩) n cap) l) {i : Nat} (hi : i < l.length) (p : Int × Int) :
    RowP ((w.setCell ⟨g, i * 2, none⟩ (.int .u8 p.1)).setCell ⟨g, i * 2 + 1, none⟩ (.int .u8 p.2)) B (.slice (some ⟨g, 0, none⟩) n cap) (l.set i p) := by
  unfold RowP
  rw [List.length_set]
  refine ⟨by rw [cellsP_length, List.length_set], ?_⟩
  rcases h.2 with ⟨e, _⟩ | ⟨g', cap', cur, e, h2, h3, h4, h5, h6, h7⟩
  · cases e
  · cases e
    refine .inr ⟨g, cap, (cur.setIfInBounds (i * 2) (.int .u8 p.1)).setIfInBounds (i * 2 + 1) (.int .u8 p.2), rfl, h2, ?_, h4, h5, by simp [h6], ?_⟩
    · simp [World.setCell, Array.getElem?_modify, h3]
    · rw [Array.toList_setIfInBounds, Array.toList_setIfInBounds, List.take_set, List.take_set, h7, cellsP_set l hi]

/-- The first i and the last i are turned round. -/
def Turned (l m : List (Int × Int)) (i : Nat) : Prop := m.length = l.length ∧ ∀ k, k < l.length → m.getD k (0, 0) = if k < i ∨ l.length - 1 - k < i then l.getD (l.length - 1 - k) (0, 0) else l.getD k (0, 0)
theorem turned_zero (l : List (Int × Int)) : Turned l l 0 := ⟨rfl, fun k _ => by rw [if_neg (by omega)]⟩
theorem turned_step {l m : List (Int × Int)} {i : Nat} (h : Turned l m i) (hi : i < l.length - 1 - i) : Turned l (swap2 m i (l.length - 1 - i)) (i + 1) := by
  refine ⟨by simp [swap2, h.1], fun k hk => ?_⟩
  have hl := h.1
  have h1 := h.2 i (by omega)
  have h2 := h.2 (l.length - 1 - i) (by omega)
  rw [if_neg (by omega)] at h1 h2
  unfold swap2
  rw [h1, h2]
  have hkm : k < m.length := by omega
  simp only [List.getD, List.getElem?_set, List.length_set]
  by_cases e1 : l.length - 1 - i = k
  · subst e1
    rw [if_pos rfl, if_pos hkm, if_pos (by omega)]
    simp only [Option.getD_some]
    rw [show l.length - 1 - (l.length - 1 - i) = i by omega]
  · rw [if_neg e1]
    by_cases e2 : i = k
    · subst e2
      rw [if_pos rfl, if_pos hkm, if_pos (by omega)]
      rfl
    · rw [if_neg e2]
      have h3 := h.2 k hk
      simp only [List.getD] at h3
      rw [h3]
      by_cases e3 : k < i ∨ l.length - 1 - k < i
      · rw [if_pos e3, if_pos (by omega)]
      · rw [if_neg e3, if_neg (by omega)]
theorem turned_end {l m : List (Int × Int)} {i : Nat} (h : Turned l m i) (hi : ¬ i < l.length - 1 - i) : m = l.reverse := by
  apply List.ext_getElem?
  intro k
  by_cases hk : k < l.length
  · have h1 := h.2 k hk
    have hm : k < m.length := by rw [h.1]; exact hk
    have e : m.getD k (0, 0) = l.getD (l.length - 1 - k) (0, 0) := by
      rw [h1]
      split
      · rfl
      · rw [show l.length - 1 - k = k by omega]
    rw [List.getElem?_reverse hk]
    simp only [List.getD] at e
    rw [List.getElem?_eq_getElem hm, List.getElem?_eq_getElem (show l.length - 1 - k < l.length by omega)] at *
    simpa using e
  · rw [List.getElem?_eq_none (by rw [h.1]; omega), List.getElem?_eq_none (by simp; omega)]

set_option maxRecDepth 100000 in
set_option maxHeartbeats 8000000 in
theorem Reverse_in {w : World} {B g cap n : Nat} {l : List (Int × Int)} (h : RowP w B (.slice (some ⟨g, 0, none⟩) n cap) l) (hn : n = l.length) (h0 : 0 < n) (h1 : n ≤ 100) :
    Calls Tryd.prog 21 #[.slice (some ⟨g, 0, none⟩) n cap] w fun e w' => e = .returned (.tuple #[]) ∧ RowP w' B (.slice (some ⟨g, 0, none⟩) n cap) l.reverse ∧ w.grownBy w' (some g) := by
  have HN := Lib.hid hn
  have H0 := Lib.hid h
  clear h hn
  go_enter Tryd.func21, Tryd.ntmps21
  go_wp2_with fail
  go_loopg [2, 3] n (fun gk iv jv wr => ∃ (i : Nat) (m : List (Int × Int)), iv = .int .i64 i ∧ jv = .int .i64 ((n : Int) - 1 - i) ∧ i + gk = n ∧ Turned l m i ∧ RowP wr B (.slice (some ⟨g, 0, none⟩) n cap) m ∧ w.grownBy wr (some g))
  case atStart => exact ⟨0, l, rfl, by simp, by omega, turned_zero l, H0.out, World.grownBy.refl _ _⟩
  case round =>
    obtain ⟨i, m, rfl, rfl, hi, ht, hr, hg⟩ := hrel
    have H2 := Lib.hid (And.intro ht (And.intro hr hg))
    by_cases hij : i < n - 1 - i
    · obtain ⟨j, hj⟩ : ∃ j, j = n - 1 - i := ⟨_, rfl⟩
      have hz : (n : Int) - 1 - i = (j : Int) := by omega
      have hml := ht.1
      have hnl := HN.out
      have hil : i < m.length := by omega
      have hjl : j < m.length := by omega
      have hin : i < n := by omega
      have hjn : j < n := by omega
      have hlt : (i : Int) < j := by omega
      have hr2 : RowP wr B (.slice (some ⟨g, 0, none⟩) m.length cap) m := by
        rw [show m.length = n by omega] at *
        exact hr
      obtain ⟨a1, a2⟩ := cellsP_get m hil
      obtain ⟨b1, b2⟩ := cellsP_get m hjl
      have q0 : wr.cell? ⟨g, i * 2, none⟩ = _ := (World.ownsRow.cellAt hr2 (i * 2) (by omega)).trans a1
      have q1 : wr.cell? ⟨g, i * 2 + 1, none⟩ = _ := (World.ownsRow.cellAt hr2 (i * 2 + 1) (by omega)).trans a2
      have q2 : wr.cell? ⟨g, j * 2, none⟩ = _ := (World.ownsRow.cellAt hr2 (j * 2) (by omega)).trans b1
      have q3 : wr.cell? ⟨g, j * 2 + 1, none⟩ = _ := (World.ownsRow.cellAt hr2 (j * 2 + 1) (by omega)).trans b2
      have hne : ¬ i = j := by omega
      have fr : ∀ k, wr.frozen? ⟨g, k, none⟩ = false := by
        obtain ⟨cur, hc⟩ := owns_elem hr (g := g) rfl
        exact frozenOf hc
      have HJ := Lib.hid hj
      clear ht hr hr2 hg a1 a2 b1 b2 hj hil hjl hml hnl
      generalize hzz : (n : Int) - 1 - i = z at *
      subst hz
      have HZ := Lib.hid hzz
      clear hzz
      generalize hp : m.getD i (0, 0) = p at *
      generalize hq : m.getD j (0, 0) = q at *
      have HPQ := Lib.hid (And.intro hp hq)
      clear hp hq
      go_wp2_with fail
      go_region
      have hil : i < m.length := by
        have := H2.out.1.1
        have := HN.out
        omega
      have hjl : j < (m.set i q).length := by
        have := H2.out.1.1
        have := HN.out
        rw [List.length_set]
        omega
      have hrow := World.ownsRow.drew ((H2.out.2.1.set hil q).set hjl p)
      have htn := turned_step H2.out.1 (i := i) (by
        have := HN.out
        have := HJ.out
        omega)
      have hjj : l.length - 1 - i = j := by
        have := HN.out
        have := HJ.out
        omega
      rw [hjj] at htn
      unfold swap2 at htn
      rw [HPQ.out.1, HPQ.out.2] at htn
      have hgr := grown_drew (grown_trans (grown_trans (grown_trans (grown_trans H2.out.2.2 (grown_set wr g (i * 2) (.int .u8 q.1))) (grown_set _ g (i * 2 + 1) (.int .u8 q.2))) (grown_set _ g (j * 2) (.int .u8 p.1))) (grown_set _ g (j * 2 + 1) (.int .u8 p.2)))
      have H6 := Lib.hid (And.intro htn (And.intro hrow hgr))
      clear htn hrow hgr hil hjl hjj q0 q1 q2 q3 fr
      generalize (((((wr.setCell ⟨g, i * 2, none⟩ (.int .u8 q.1)).setCell ⟨g, i * 2 + 1, none⟩ (.int .u8 q.2)).setCell ⟨g, j * 2, none⟩ (.int .u8 p.1)).setCell ⟨g, j * 2 + 1, none⟩ (.int .u8 p.2)).drew) = W6 at *
      go_wp2_with fail
      go_roundg (gk - 1)
      case measure => omega
      case rel =>
        refine ⟨i + 1, _, rfl, ?_, by omega, H6.out.1, H6.out.2.1, H6.out.2.2⟩
        have := HZ.out
        congr 1
        omega
    · have hz : ¬ (i : Int) < (n : Int) - 1 - i := by omega
      have hm := turned_end ht (by rw [← HN.out]; exact hij)
      have HM := Lib.hid hm
      clear ht hr hg hm
      generalize (n : Int) - 1 - i = z at *
      go_wp2_with fail
      go_end0
      exact ⟨rfl, by rw [← HM.out]; exact H2.out.2.1, H2.out.2.2⟩
end Go.Proofs.YtpbiiigacfhbhaaDoor
