/- Lines as a report: the tree's Parse. -/
import Derived.Test.YtinebmfmkgjaaaaGreatDoorAuW2
import Derived.Test.YtinebmfmkgjaaaaGreatDoorRef5
set_option linter.unusedVariables false
set_option linter.unusedSimpArgs false
namespace Go.Proofs.YtinebmfmkgjaaaaGreatDoor
open Go.RowKit

def rwCells (r : Rw) : List Value := [.int .i64 r.l, .int .i64 r.c, .string r.h, .string r.f, .string r.t, .string r.u]
def rowsR (l : List Rw) : List Value := l.flatMap rwCells
theorem rowsR_append (a b : List Rw) : rowsR (a ++ b) = rowsR a ++ rowsR b := by simp [rowsR]
theorem info_rw : (Tryz.prog.info? 55).map (fun i => (i.zero, i.size, i.bytes)) = some (some (.agg #[.int .i64 0, .int .i64 0, .string ⟨#[]⟩, .string ⟨#[]⟩, .string ⟨#[]⟩, .string ⟨#[]⟩]), 6, 80) := by kernel_rfl
/-- Where Parse stands. -/
structure PsAt (w : World) (rs : List Rw) (us : List ByteArray) (rv uv : Value) (wr : World) : Prop where
  below : Below w.heap.size w wr
  res : wr.heap[w.heap.size]? = some (.cells #[.slice none 0 0, .slice none 0 0] 42)
  out : wr.heap[w.heap.size + 1]? = some (.cells #[rv, uv] 42)
  rows : wr.ownsRow (w.heap.size + 2) 55 6 rv rs.length (rowsR rs)
  uns : wr.ownsRow (w.heap.size + 2) 9 1 uv us.length (strs us)
  apart : ∀ g, rv.ownBlock = some g → uv.ownBlock ≠ some g
section
variable {w : World} {rs : List Rw} {us : List ByteArray} {rv uv : Value} {wr : World}
theorem PsAt.under (h : PsAt w rs us rv uv wr) {w' : World} (hb : Below wr.heap.size wr w') : PsAt w rs us rv uv w' :=
  ⟨chain h.below hb, (hb.block _ (heap_lt h.res)).trans h.res, (hb.block _ (heap_lt h.out)).trans h.out, owns_block h.rows fun g hg => hb.block g (row_lt h.rows hg).2, owns_block h.uns fun g hg => hb.block g (row_lt h.uns hg).2, h.apart⟩
theorem PsAt.top (h : PsAt w rs us rv uv wr) : w.heap.size + 2 ≤ wr.heap.size := heap_lt h.out
theorem PsAt.pushU (h : PsAt w rs us rv uv wr) {wa : World} {o : Obj} {x : ByteArray} {g cap n : Nat} (hown : wa.ownsRow (w.heap.size + 2) 9 1 (.slice (some ⟨g, 0, none⟩) n cap) (us.length + 1) (strs us ++ [.string x]))
    (hg : (wr.alloc o).grownBy wa uv.ownBlock) (hat : uv.ownBlock = some g ∨ g = wr.heap.size + 1) : PsAt w rs (us ++ [x]) rv (.slice (some ⟨g, 0, none⟩) n cap) (wa.setCell ⟨w.heap.size + 1, 1, none⟩ (.slice (some ⟨g, 0, none⟩) n cap)) := by
  have ht := h.top
  have hk : ∀ k, k < wr.heap.size → uv.ownBlock ≠ some k → wa.heap[k]? = wr.heap[k]? := fun k hk hn => (hg.block k (by simp; omega) (fun e => hn e.symm)).trans (Below.heap_alloc _ _ _ hk)
  have hu : ∀ k, k < w.heap.size + 2 → uv.ownBlock ≠ some k := fun k hk e => by
    have := (row_lt h.uns e).1
    omega
  refine ⟨((h.below.alloc (by omega) o).grown hg (by simp; omega) fun k hk => by have := (row_lt h.uns hk).1; omega).setCell (show w.heap.size ≤ w.heap.size + 1 by omega) _, ?_, ?_, ?_, ?_, ?_⟩
  · exact (Below.heap_setCell _ _ _ _ (show w.heap.size ≠ w.heap.size + 1 by omega)).trans ((hk _ (by omega) (hu _ (by omega))).trans h.res)
  · exact setc ((hk _ (by omega) (hu _ (by omega))).trans h.out) 1 _
  · refine owns_block h.rows fun g' hg' => ?_
    have := row_lt h.rows hg'
    exact (Below.heap_setCell _ _ _ _ (show g' ≠ w.heap.size + 1 by omega)).trans (hk _ this.2 (h.apart g' hg'))
  · refine owns_set ?_ (by omega) 1 _
    rw [List.length_append, strs_snoc]
    exact hown
  · intro g' hg' e
    have hgg : g = g' := by simpa [Value.ownBlock] using e
    subst hgg
    rcases hat with h1 | h1
    · exact h.apart g hg' h1
    · have := (row_lt h.rows hg').2
      omega
theorem PsAt.pushR (h : PsAt w rs us rv uv wr) {wa : World} {o : Obj} {x : Rw} {g cap n : Nat} (hown : wa.ownsRow (w.heap.size + 2) 55 6 (.slice (some ⟨g, 0, none⟩) n cap) (rs.length + 1) (rowsR rs ++ rwCells x))
    (hg : (wr.alloc o).grownBy wa rv.ownBlock) (hat : rv.ownBlock = some g ∨ g = wr.heap.size + 1) : PsAt w (rs ++ [x]) us (.slice (some ⟨g, 0, none⟩) n cap) uv (wa.setCell ⟨w.heap.size + 1, 0, none⟩ (.slice (some ⟨g, 0, none⟩) n cap)) := by
  have ht := h.top
  have hk : ∀ k, k < wr.heap.size → rv.ownBlock ≠ some k → wa.heap[k]? = wr.heap[k]? := fun k hk hn => (hg.block k (by simp; omega) (fun e => hn e.symm)).trans (Below.heap_alloc _ _ _ hk)
  have hu : ∀ k, k < w.heap.size + 2 → rv.ownBlock ≠ some k := fun k hk e => by
    have := (row_lt h.rows e).1
    omega
  refine ⟨((h.below.alloc (by omega) o).grown hg (by simp; omega) fun k hk => by have := (row_lt h.rows hk).1; omega).setCell (show w.heap.size ≤ w.heap.size + 1 by omega) _, ?_, ?_, ?_, ?_, ?_⟩
  · exact (Below.heap_setCell _ _ _ _ (show w.heap.size ≠ w.heap.size + 1 by omega)).trans ((hk _ (by omega) (hu _ (by omega))).trans h.res)
  · exact setc ((hk _ (by omega) (hu _ (by omega))).trans h.out) 0 _
  · refine owns_set ?_ (by omega) 0 _
    rw [List.length_append, rowsR_append]
    simpa [rowsR] using hown
  · refine owns_block h.uns fun g' hg' => ?_
    have := row_lt h.uns hg'
    exact (Below.heap_setCell _ _ _ _ (show g' ≠ w.heap.size + 1 by omega)).trans (hk _ this.2 (fun e => h.apart g' e hg'))
  · intro g' hg' e
    have hgg : g = g' := by simpa [Value.ownBlock] using hg'
    subst hgg
    rcases hat with h1 | h1
    · exact h.apart g h1 e
    · have := (row_lt h.uns e).2
      omega
end
/-- Texts that were handed in. -/
def LinesAt (w : World) (A : Option Addr) (l : List ByteArray) : Prop := l.length = 0 ∨ ∃ b off, A = some ⟨b, off, none⟩ ∧ TextsAt w b off l
theorem LinesAt.under {w w' : World} {A : Option Addr} {l : List ByteArray} (h : LinesAt w A l) (hb : Below w.heap.size w w') : LinesAt w' A l := by
  rcases h with h | ⟨b, off, rfl, h⟩
  · exact .inl h
  · exact .inr ⟨b, off, rfl, h.under hb⟩
/-- How Parse ends. -/
def ParseEnd (w : World) (R : Option (List Rw × List ByteArray)) (e : Ending) (w' : World) : Prop := match R with
  | some (rs, us) => (∃ rv uv, e = .returned (.tuple #[.agg #[rv, uv], .int .i64 0]) ∧ w'.ownsRow w.heap.size 55 6 rv rs.length (rowsR rs) ∧ w'.ownsRow w.heap.size 9 1 uv us.length (strs us)) ∧ Below w.heap.size w w'
  | none => e = .returned (.tuple #[.agg #[.slice none 0 0, .slice none 0 0], .int .i64 5]) ∧ Below w.heap.size w w'
theorem cutUn_size (s : ByteArray) : (cutUn s).size ≤ s.size := by
  have h : (cutUn s).size = (Lib.trimPrefix s.data.toList un7).length := by
    unfold cutUn bs
    simp [ByteArray.size]
  have h2 : s.data.toList.length = s.size := by simp
  rw [h]
  unfold Lib.trimPrefix
  split
  · rw [List.length_drop]
    omega
  · omega
theorem drop_cons {l : List ByteArray} {i : Nat} (h : i < l.length) : l.drop i = l.getD i ByteArray.empty :: l.drop (i + 1) := by
  rw [List.drop_eq_getElem_cons h, List.getD, List.getElem?_eq_getElem h]
  rfl

set_option maxRecDepth 100000 in
set_option maxHeartbeats 16000000 in
theorem Parse_in (A : Option Addr) (cap : Nat) (l : List ByteArray) (w : World) (hl : l.length ≤ 8388608) (hs : ∀ i, i < l.length → (l.getD i ByteArray.empty).size ≤ 8388608) (hat : LinesAt w A l) (henv : Env w) (ht : TabOk w) (hv : ErrVs w) :
    Calls Tryz.prog 16 #[.slice A l.length cap] w fun e w' => ParseEnd w (parseB l [] []) e w' := by
  obtain ⟨i0, hi0, hz0, hz1, hz2⟩ := info_parts info_str
  obtain ⟨j0, hj0, hy0, hy1, hy2⟩ := info_parts info_rw
  obtain ⟨R, hR⟩ : ∃ z, parseB l [] [] = z := ⟨_, rfl⟩
  rw [hR]
  have HR := Lib.hid hR
  have HE := Lib.hid (And.intro henv (And.intro ht hv))
  have HA := Lib.hid (show ∀ W i, Below w.heap.size w W → i < l.length → ∃ b off, A = some ⟨b, off, none⟩ ∧ W.cell? ⟨b, off + i, none⟩ = some (.string (l.getD i ByteArray.empty)) from fun W i hb hi => by
    rcases hat.under hb with h | ⟨b, off, e, h⟩
    · omega
    · exact ⟨b, off, e, h i hi⟩)
  have HS := Lib.hid hs
  clear hR henv ht hv hat hs
  go_enter Tryz.func16, Tryz.ntmps16
  go_wp2_with fail
  have H0 := Lib.hid (show PsAt w [] [] (.slice none 0 0) (.slice none 0 0) ((w.alloc (.cells #[.slice none 0 0, .slice none 0 0] 42)).alloc (.cells #[.slice none 0 0, .slice none 0 0] 42)) from
    ⟨((Below.refl w.heap.size w).alloc (Nat.le_refl _) _).alloc (by simp) _, by rw [Below.heap_alloc _ _ _ (by simp)]; exact last _ _, lastk _ _ (by simp), World.ownsRow_nil _ _ _ _, World.ownsRow_nil _ _ _ _, fun g hg => by cases hg⟩)
  generalize (w.alloc (.cells #[.slice none 0 0, .slice none 0 0] 42)).alloc (.cells #[.slice none 0 0, .slice none 0 0] 42) = wz at *
  go_loopg [13] l.length (fun gk iv wr => ∃ (i : Nat) (rs : List Rw) (us : List ByteArray) (rv uv : Value), iv = .int .i64 (i : Int) ∧ i + gk = l.length ∧ PsAt w rs us rv uv wr ∧ parseB (l.drop i) rs us = R ∧ rs.length ≤ i ∧ us.length ≤ i)
  case atStart => exact ⟨0, [], [], _, _, rfl, by omega, H0.out, HR.out, by simp, by simp⟩
  case round =>
    obtain ⟨i, rs, us, rv, uv, rfl, hig, hps, hpr, hrl, hul⟩ := hrel
    obtain ⟨A1, k1, rfl⟩ := row_form hps.rows
    obtain ⟨A2, k2, rfl⟩ := row_form hps.uns
    have HP := Lib.hid hps
    have HPR := Lib.hid hpr
    clear hps hpr
    by_cases hlt : i < l.length
    · obtain ⟨gq, rfl⟩ : ∃ g, gk = g + 1 := ⟨gk - 1, by omega⟩
      have hlt' : (i : Int) < (l.length : Int) := by omega
      obtain ⟨b, off, rfl, hcell⟩ := HA.out wr i HP.out.below hlt
      have hsz := HS.out i hlt
      have HPX := Lib.hid (show parseB (l.getD i ByteArray.empty :: l.drop (i + 1)) rs us = R by rw [← drop_cons hlt]; exact HPR.out)
      generalize l.getD i ByteArray.empty = s at *
      have hc := Tryz.strings_CutPrefix s ⟨#[117, 110, 117, 115, 101, 100, 32]⟩ wr
      replace hc : Calls Tryz.prog 34 #[.string s, .string ⟨#[117, 110, 117, 115, 101, 100, 32]⟩] wr fun e w' => e = .returned (.tuple #[.string (cutUn s), .bool (Lib.hasPrefix s.data.toList un7)]) ∧ w' = wr := hc
      obtain ⟨H, hH⟩ : ∃ z, cutUn s = z := ⟨_, rfl⟩
      have HSU := Lib.hid (show isUn s = (Lib.hasPrefix s.data.toList un7 && !badB H) by unfold isUn; rw [hH])
      have HHS := Lib.hid (show H.size ≤ s.size by rw [← hH]; exact cutUn_size s)
      rw [hH] at hc
      have HCU := Lib.hid hH
      clear hH
      have hro := fun W hb => row_in s W hsz (HE.out.1.below (w' := W) hb) (HE.out.2.1.under hb) (HE.out.2.2.below hb)
      have HRO := Lib.hid hro
      clear hro
      cases hp : Lib.hasPrefix s.data.toList un7 with
      | true =>
        rw [hp] at hc
        have HSU2 := Lib.hid (show isUn s = !badB H by rw [HSU.out, hp]; rfl)
        clear hp
        go_wp2_with fail
        refine hc.mono ?_
        clear hc
        rintro e w1 ⟨rfl, rfl⟩
        have hb1 := (Below.refl w1.heap.size w1).alloc (Nat.le_refl _) (.cells #[.string H] 9)
        have hn := names_in (cap := 1) (zs := [H]) (b := w1.heap.size) (off := 0) ((HE.out.1.below HP.out.below).below hb1) (fun j hj => by
          have hj0 : j = 0 := (by simpa using hj)
          subst hj0
          have h := last w1 (.cells #[.string H] 9)
          simp only [World.cell?, h]
          rfl) (by simp) (fun j hj => by
          have hj0 : j = 0 := (by simpa using hj)
          subst hj0
          have := HHS.out
          simp
          omega)
        have HB1 := Lib.hid hb1
        clear hb1
        simp only [List.length_cons, List.length_nil, List.any_cons, List.any_nil, Bool.or_false] at hn
        cases hbd : badB H with
        | false =>
          rw [hbd] at hn
          have HU := Lib.hid (show isUn s = true by rw [HSU2.out, hbd]; rfl)
          clear hbd
          go_wp2_with fail
          refine hn.mono ?_
          clear hn
          rintro e w2 ⟨rfl, hb2⟩
          have HP2 := Lib.hid (HP.out.under (chain HB1.out hb2))
          clear hb2
          obtain ⟨o0, o1⟩ := cellsOf2p HP2.out.out
          have of := frozenOf HP2.out.out
          clear hcell
          have htop := HP2.out.top
          go_wp2_with (at_builtin; refine wpList_append_lies _ rfl _ _ 40 rfl (w.heap.size + 2) 9 i0 (.string ⟨#[]⟩) 1 16 Tryz.underlying40 hi0 hz0 hz1 hz2 rfl (by decide) (.slice A2 us.length k2) us.length (strs us) rfl (HP2.out.uns.alloc _) ⟨w2.heap.size, 0, none⟩ 1 1 [.string H] rfl rfl ?c2 ?c3 (by decide) ?c4 ?c5 ?c6 (w2.alloc (.cells #[.string H] 9)).heap.size ?c7 ?_)
          case c2 => first | exact fun j u h => h | exact news1 _ _ _
          case c3 => simp [Value.oneCell']
          case c4 => unfold maxLen; omega
          case c5 => omega
          case c6 => first | omega | (simp; omega)
          case c7 => first | rfl | simp
          intro g cap' wa hown hgrow hat hlt1
          have HP3 := Lib.hid (HP2.out.pushU hown hgrow hat)
          have hoo := (hgrow.block (w.heap.size + 1) (by simp; omega) (fun e => by have := (row_lt HP2.out.uns e.symm).1; omega)).trans ((Below.heap_alloc _ _ _ (by omega)).trans HP2.out.out)
          clear o0 o1 of hown hgrow hat hlt1
          obtain ⟨o0, o1⟩ := cellsOf2p hoo
          have of := frozenOf hoo
          clear hoo
          have HNX := Lib.hid (show parseB (l.drop (i + 1)) rs (us ++ [H]) = R by
            have h := HPX.out
            unfold parseB at h
            rw [if_pos HU.out, HCU.out] at h
            exact h)
          go_wp2_with fail
          go_roundg gq
          case measure => omega
          case rel => exact ⟨i + 1, rs, us ++ [H], _, _, by first | rfl | go_num, by omega, HP3.out, HNX.out, by omega, by simp; omega⟩
        | true =>
          rw [hbd] at hn
          have HU := Lib.hid (show ¬ isUn s = true by rw [HSU2.out, hbd]; simp)
          clear hbd
          go_wp2_with fail
          refine hn.mono ?_
          clear hn
          rintro e w2 ⟨rfl, hb2⟩
          have HP2 := Lib.hid (HP.out.under (chain HB1.out hb2))
          clear hb2 hcell
          have hr := HRO.out w2 HP2.out.below
          unfold RowEnd at hr
          cases hk : rowOk s with
          | false =>
            rw [hk] at hr
            have HRX := Lib.hid (show R = none by
              rw [← HPX.out]
              unfold parseB
              rw [if_neg HU.out, hk]
              rfl)
            clear hk
            go_wp2_with fail
            refine hr.mono ?_
            clear hr
            rintro e w3 ⟨⟨x, rfl, _⟩, hb3⟩
            unfold rowV
            have HP3 := Lib.hid (HP2.out.under (hb3.alloc hb3.size (.cells #[.int .i64 x.l, .int .i64 x.c, .string x.h, .string x.f, .string x.t, .string x.u] 55)))
            clear hb3
            go_upto_region 9 with fail
            generalize w3.alloc (.cells #[.int .i64 x.l, .int .i64 x.c, .string x.h, .string x.f, .string x.t, .string x.u] 55) = w4 at *
            obtain ⟨r0, r1⟩ := cellsOf2p HP3.out.res
            have rf := frozenOf HP3.out.res
            go_wp2_with fail
            have HQ := Lib.hid (setc (setc HP3.out.res 0 (.slice none 0 0)) 1 (.slice none 0 0))
            obtain ⟨q0, q1⟩ := cellsOf2p HQ.out
            rw [HRX.out]
            exact bodyPost_ret (v := .tuple #[.agg #[.slice none 0 0, .slice none 0 0], .int .i64 5]) (by simp [results, Tryz.results16, go_sem, q0, q1]) rfl ⟨rfl, (HP3.out.below.setCell (Nat.le_refl _) _).setCell (Nat.le_refl _) _⟩
          | true =>
            rw [hk] at hr
            have HKR := Lib.hid hk
            clear hk
            go_wp2_with fail
            refine hr.mono ?_
            clear hr
            rintro e w3 ⟨⟨x, rfl, hx⟩, hb3⟩
            have HXX := Lib.hid (hx (by simp))
            clear hx
            unfold rowV
            have HP3 := Lib.hid (HP2.out.under (hb3.alloc hb3.size (.cells #[.int .i64 x.l, .int .i64 x.c, .string x.h, .string x.f, .string x.t, .string x.u] 55)))
            have HX4 := Lib.hid (last w3 (.cells #[.int .i64 x.l, .int .i64 x.c, .string x.h, .string x.f, .string x.t, .string x.u] 55))
            clear hb3
            go_upto_region 9 with fail
            generalize w3.heap.size = n4 at *
            generalize w3.alloc (.cells #[.int .i64 x.l, .int .i64 x.c, .string x.h, .string x.f, .string x.t, .string x.u] 55) = w4 at *
            obtain ⟨o0, o1⟩ := cellsOf2p HP3.out.out
            by_cases hus : us.length = 0
            · have hun : us = [] := List.eq_nil_of_length_eq_zero hus
              have hgt : ¬ (0 : Int) < (us.length : Int) := by omega
              have HNX := Lib.hid (show parseB (l.drop (i + 1)) (rs ++ [x]) us = R by
                have h := HPX.out
                unfold parseB at h
                rw [if_neg HU.out, HKR.out, hun] at h
                rw [HXX.out, hun]
                exact h)
              have HUL := Lib.hid hus
              clear hus hun
              obtain ⟨x0, x1, x2, x3, x4, x5⟩ := cellsOf6 HX4.out
              have of := frozenOf HP3.out.out
              have htop := HP3.out.top
              go_wp2_with (at_builtin; refine wpList_append_lies _ rfl _ _ 39 rfl (w.heap.size + 2) 55 j0 (.agg #[.int .i64 0, .int .i64 0, .string ⟨#[]⟩, .string ⟨#[]⟩, .string ⟨#[]⟩, .string ⟨#[]⟩]) 6 80 Tryz.underlying39 hj0 hy0 hy1 hy2 rfl (by decide) (.slice A1 rs.length k1) rs.length (rowsR rs) rfl (HP3.out.rows.alloc _) ⟨w4.heap.size, 0, none⟩ 1 1 (rwCells x) rfl rfl ?c2 ?c3 (by decide) ?c4 ?c5 ?c6 (w4.alloc (.cells #[.int .i64 x.l, .int .i64 x.c, .string x.h, .string x.f, .string x.t, .string x.u] 55)).heap.size ?c7 ?_)
              case c2 => exact fun j u h => h
              case c3 => simp [rwCells, Value.oneCell']
              case c4 => unfold maxLen; omega
              case c5 => omega
              case c6 => first | omega | (simp; omega)
              case c7 => first | rfl | simp
              intro g cap' wa hown hgrow hat hlt1
              have HP5 := Lib.hid (HP3.out.pushR (x := x) hown hgrow hat)
              have hoo := (hgrow.block (w.heap.size + 1) (by simp; omega) (fun e => by have := (row_lt HP3.out.rows e.symm).1; omega)).trans ((Below.heap_alloc _ _ _ (by omega)).trans HP3.out.out)
              clear o0 o1 of hown hgrow hat hlt1 x0 x1 x2 x3 x4 x5
              obtain ⟨o0, o1⟩ := cellsOf2p hoo
              have of := frozenOf hoo
              clear hoo
              go_wp2_with fail
              go_roundg gq
              case measure => omega
              case rel => exact ⟨i + 1, rs ++ [x], us, _, _, by first | rfl | go_num, by omega, HP5.out, HNX.out, by simp; omega, by omega⟩
            · have hgt : (0 : Int) < (us.length : Int) := by omega
              have HRX := Lib.hid (show R = none by
                rw [← HPX.out]
                unfold parseB
                rw [if_neg HU.out, HKR.out]
                cases us with
                | nil => exact absurd rfl hus
                | cons a b => rfl)
              obtain ⟨r0, r1⟩ := cellsOf2p HP3.out.res
              have rf := frozenOf HP3.out.res
              go_wp2_with fail
              have HQ := Lib.hid (setc (setc HP3.out.res 0 (.slice none 0 0)) 1 (.slice none 0 0))
              obtain ⟨q0, q1⟩ := cellsOf2p HQ.out
              rw [HRX.out]
              exact bodyPost_ret (v := .tuple #[.agg #[.slice none 0 0, .slice none 0 0], .int .i64 5]) (by simp [results, Tryz.results16, go_sem, q0, q1]) rfl ⟨rfl, (HP3.out.below.setCell (Nat.le_refl _) _).setCell (Nat.le_refl _) _⟩
      | false =>
        rw [hp] at hc
        have HU := Lib.hid (show ¬ isUn s = true by rw [HSU.out, hp]; simp)
        clear hp
        go_wp2_with fail
        refine hc.mono ?_
        clear hc
        rintro e w2 ⟨rfl, rfl⟩
        have HP2 := HP
        clear hcell
        have hr := HRO.out w2 HP2.out.below
        unfold RowEnd at hr
        cases hk : rowOk s with
        | false =>
          rw [hk] at hr
          have HRX := Lib.hid (show R = none by
            rw [← HPX.out]
            unfold parseB
            rw [if_neg HU.out, hk]
            rfl)
          clear hk
          go_wp2_with fail
          refine hr.mono ?_
          clear hr
          rintro e w3 ⟨⟨x, rfl, _⟩, hb3⟩
          unfold rowV
          have HP3 := Lib.hid (HP2.out.under (hb3.alloc hb3.size (.cells #[.int .i64 x.l, .int .i64 x.c, .string x.h, .string x.f, .string x.t, .string x.u] 55)))
          clear hb3
          go_upto_region 9 with fail
          generalize w3.alloc (.cells #[.int .i64 x.l, .int .i64 x.c, .string x.h, .string x.f, .string x.t, .string x.u] 55) = w4 at *
          obtain ⟨r0, r1⟩ := cellsOf2p HP3.out.res
          have rf := frozenOf HP3.out.res
          go_wp2_with fail
          have HQ := Lib.hid (setc (setc HP3.out.res 0 (.slice none 0 0)) 1 (.slice none 0 0))
          obtain ⟨q0, q1⟩ := cellsOf2p HQ.out
          rw [HRX.out]
          exact bodyPost_ret (v := .tuple #[.agg #[.slice none 0 0, .slice none 0 0], .int .i64 5]) (by simp [results, Tryz.results16, go_sem, q0, q1]) rfl ⟨rfl, (HP3.out.below.setCell (Nat.le_refl _) _).setCell (Nat.le_refl _) _⟩
        | true =>
          rw [hk] at hr
          have HKR := Lib.hid hk
          clear hk
          go_wp2_with fail
          refine hr.mono ?_
          clear hr
          rintro e w3 ⟨⟨x, rfl, hx⟩, hb3⟩
          have HXX := Lib.hid (hx (by simp))
          clear hx
          unfold rowV
          have HP3 := Lib.hid (HP2.out.under (hb3.alloc hb3.size (.cells #[.int .i64 x.l, .int .i64 x.c, .string x.h, .string x.f, .string x.t, .string x.u] 55)))
          have HX4 := Lib.hid (last w3 (.cells #[.int .i64 x.l, .int .i64 x.c, .string x.h, .string x.f, .string x.t, .string x.u] 55))
          clear hb3
          go_upto_region 9 with fail
          generalize w3.heap.size = n4 at *
          generalize w3.alloc (.cells #[.int .i64 x.l, .int .i64 x.c, .string x.h, .string x.f, .string x.t, .string x.u] 55) = w4 at *
          obtain ⟨o0, o1⟩ := cellsOf2p HP3.out.out
          by_cases hus : us.length = 0
          · have hun : us = [] := List.eq_nil_of_length_eq_zero hus
            have hgt : ¬ (0 : Int) < (us.length : Int) := by omega
            have HNX := Lib.hid (show parseB (l.drop (i + 1)) (rs ++ [x]) us = R by
              have h := HPX.out
              unfold parseB at h
              rw [if_neg HU.out, HKR.out, hun] at h
              rw [HXX.out, hun]
              exact h)
            have HUL := Lib.hid hus
            clear hus hun
            obtain ⟨x0, x1, x2, x3, x4, x5⟩ := cellsOf6 HX4.out
            have of := frozenOf HP3.out.out
            have htop := HP3.out.top
            go_wp2_with (at_builtin; refine wpList_append_lies _ rfl _ _ 39 rfl (w.heap.size + 2) 55 j0 (.agg #[.int .i64 0, .int .i64 0, .string ⟨#[]⟩, .string ⟨#[]⟩, .string ⟨#[]⟩, .string ⟨#[]⟩]) 6 80 Tryz.underlying39 hj0 hy0 hy1 hy2 rfl (by decide) (.slice A1 rs.length k1) rs.length (rowsR rs) rfl (HP3.out.rows.alloc _) ⟨w4.heap.size, 0, none⟩ 1 1 (rwCells x) rfl rfl ?c2 ?c3 (by decide) ?c4 ?c5 ?c6 (w4.alloc (.cells #[.int .i64 x.l, .int .i64 x.c, .string x.h, .string x.f, .string x.t, .string x.u] 55)).heap.size ?c7 ?_)
            case c2 => exact fun j u h => h
            case c3 => simp [rwCells, Value.oneCell']
            case c4 => unfold maxLen; omega
            case c5 => omega
            case c6 => first | omega | (simp; omega)
            case c7 => first | rfl | simp
            intro g cap' wa hown hgrow hat hlt1
            have HP5 := Lib.hid (HP3.out.pushR (x := x) hown hgrow hat)
            have hoo := (hgrow.block (w.heap.size + 1) (by simp; omega) (fun e => by have := (row_lt HP3.out.rows e.symm).1; omega)).trans ((Below.heap_alloc _ _ _ (by omega)).trans HP3.out.out)
            clear o0 o1 of hown hgrow hat hlt1 x0 x1 x2 x3 x4 x5
            obtain ⟨o0, o1⟩ := cellsOf2p hoo
            have of := frozenOf hoo
            clear hoo
            go_wp2_with fail
            go_roundg gq
            case measure => omega
            case rel => exact ⟨i + 1, rs ++ [x], us, _, _, by first | rfl | go_num, by omega, HP5.out, HNX.out, by simp; omega, by omega⟩
          · have hgt : (0 : Int) < (us.length : Int) := by omega
            have HRX := Lib.hid (show R = none by
              rw [← HPX.out]
              unfold parseB
              rw [if_neg HU.out, HKR.out]
              cases us with
              | nil => exact absurd rfl hus
              | cons a b => rfl)
            obtain ⟨r0, r1⟩ := cellsOf2p HP3.out.res
            have rf := frozenOf HP3.out.res
            go_wp2_with fail
            have HQ := Lib.hid (setc (setc HP3.out.res 0 (.slice none 0 0)) 1 (.slice none 0 0))
            obtain ⟨q0, q1⟩ := cellsOf2p HQ.out
            rw [HRX.out]
            exact bodyPost_ret (v := .tuple #[.agg #[.slice none 0 0, .slice none 0 0], .int .i64 5]) (by simp [results, Tryz.results16, go_sem, q0, q1]) rfl ⟨rfl, (HP3.out.below.setCell (Nat.le_refl _) _).setCell (Nat.le_refl _) _⟩
    · have hlt' : ¬ (i : Int) < (l.length : Int) := by omega
      obtain rfl : i = l.length := by omega
      have HRX := Lib.hid (show R = some (rs, us) by
        have h := HPR.out
        rw [List.drop_length] at h
        rw [← h]
        rfl)
      obtain ⟨o0, o1⟩ := cellsOf2p HP.out.out
      obtain ⟨r0, r1⟩ := cellsOf2p HP.out.res
      have rf := frozenOf HP.out.res
      go_wp2_with fail
      have HQ := Lib.hid (setc (setc HP.out.res 0 (.slice A1 rs.length k1)) 1 (.slice A2 us.length k2))
      obtain ⟨q0, q1⟩ := cellsOf2p HQ.out
      rw [HRX.out]
      exact bodyPost_ret (v := .tuple #[.agg #[.slice A1 rs.length k1, .slice A2 us.length k2], .int .i64 0]) (by simp [results, Tryz.results16, go_sem, q0, q1]) rfl ⟨⟨_, _, rfl, row_base (owns_set (owns_set HP.out.rows (show w.heap.size < w.heap.size + 2 by omega) 0 _) (show w.heap.size < w.heap.size + 2 by omega) 1 _) (by omega), row_base (owns_set (owns_set HP.out.uns (show w.heap.size < w.heap.size + 2 by omega) 0 _) (show w.heap.size < w.heap.size + 2 by omega) 1 _) (by omega)⟩, (HP.out.below.setCell (Nat.le_refl _) _).setCell (Nat.le_refl _) _⟩
end Go.Proofs.YtinebmfmkgjaaaaGreatDoor
