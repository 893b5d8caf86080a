/- The law's Of: a value as the document has it. -/
import Derived.Test.YtofijodndilmbaaDoorVal10
set_option linter.unusedVariables false
set_option linter.unusedSimpArgs false
namespace Go.Proofs.YtofijodndilmbaaDoor
open Go.RowKit

theorem info_parts {P : Program} {t : TypeId} {z : Value} {s b : Nat} (h : (P.info? t).map (fun i => (i.zero, i.size, i.bytes)) = some (some z, s, b)) : ∃ i, P.info? t = some i ∧ i.zero = some z ∧ i.size = s ∧ i.bytes = b := by
  cases hi : P.info? t with
  | none => rw [hi] at h; cases h
  | some i =>
    rw [hi] at h
    simp at h
    exact ⟨i, rfl, h.1, h.2.1, h.2.2⟩
theorem info_rvalue : (Tryd.prog.info? 30).map (fun i => (i.zero, i.size, i.bytes)) = some (some (.agg #[.string ⟨#[]⟩, .int .i64 0, nilS]), 3, 48) := by kernel_rfl
theorem info_value : (Tryd.prog.info? 24).map (fun i => (i.zero, i.size, i.bytes)) = some (some (.agg #[.string ⟨#[]⟩, .int .i64 0, nilS]), 3, 48) := by kernel_rfl

/-- How far Of has come: i parts are in the row rv. -/
structure OfAt (w : World) (v : V) (i : Nat) (rv : Value) (ss : Nat → Value) (wr : World) : Prop where
  below : Below w.heap.size w wr
  res : wr.heap[w.heap.size + 1]? = some (.cells #[.string ⟨#[]⟩, .int .i64 0, nilS] 30)
  out : wr.heap[w.heap.size + 1 + 1]? = some (.cells #[.string v.op, .int .i64 v.num, rv] 30)
  row : wr.ownsRow (w.heap.size + 1 + 1 + 1) 30 3 rv i (rowsN (rowV v.kids ss) i)
  kids : ∀ j, j < i → AtP (fun k => w.heap.size + 1 + 1 + 1 ≤ k ∧ rv.ownBlock ≠ some k) wr (v.kids.getD j default) (ss j)

theorem setc {w : World} {b : Nat} {cs : Array Value} {t : TypeId} (h : w.heap[b]? = some (.cells cs t)) (i : Nat) (p : Value) : (w.setCell ⟨b, i, none⟩ p).heap[b]? = some (.cells (cs.setIfInBounds i p) t) := by
  simp only [World.setCell, Array.getElem?_modify]
  rw [h]
  simp
theorem set3 {w : World} {b : Nat} {x y z : Value} {t : TypeId} (h : w.heap[b]? = some (.cells #[x, y, z] t)) (p q r : Value) :
    (((w.setCell ⟨b, 0, none⟩ p).setCell ⟨b, 1, none⟩ q).setCell ⟨b, 2, none⟩ r).heap[b]? = some (.cells #[p, q, r] t) := setc (setc (setc h 0 p) 1 q) 2 r
theorem set2 {w : World} {b : Nat} {x y z : Value} {t : TypeId} (h : w.heap[b]? = some (.cells #[x, y, z] t)) (r : Value) :
    (w.setCell ⟨b, 2, none⟩ r).heap[b]? = some (.cells #[x, y, r] t) := setc h 2 r
theorem OfAt.push {w : World} {v : V} {i : Nat} {A2 : Option Addr} {k2 : Nat} {ss : Nat → Value} {wr w5 wa : World} {o o2 : Obj} {s5 : Value} {g' cap' : Nat} (h : OfAt w v i (.slice A2 i k2) ss wr)
    (hb5 : Below (wr.alloc o).drew.heap.size (wr.alloc o).drew w5) (hp5 : AtP (fun k => (wr.alloc o).drew.heap.size ≤ k) w5 (v.kids.getD i default) s5)
    (hown : wa.ownsRow (w.heap.size + 1 + 1 + 1) 30 3 (.slice (some ⟨g', 0, none⟩) (i + 1) cap') (i + 1) (rowsN (rowV v.kids ss) i ++ [.string (v.kids.getD i default).op, .int .i64 (v.kids.getD i default).num, s5]))
    (hgrow : (w5.alloc o2).grownBy wa (Value.slice A2 i k2).ownBlock) (hat : (Value.slice A2 i k2).ownBlock = some g' ∨ g' = (w5.alloc o2).heap.size) :
    OfAt w v (i + 1) (.slice (some ⟨g', 0, none⟩) (i + 1) cap') (fun j => if j = i then s5 else ss j) (wa.setCell ⟨w.heap.size + 1 + 1, 2, none⟩ (.slice (some ⟨g', 0, none⟩) (i + 1) cap')) := by
  have hsz := heap_lt h.out
  have hs1 : (wr.alloc o).drew.heap.size = wr.heap.size + 1 := by
    show (wr.alloc o).heap.size = _
    simp
  have hs5 := hb5.size
  have hs6 : (w5.alloc o2).heap.size = w5.heap.size + 1 := by simp
  have hg' : w.heap.size + 1 + 1 + 1 ≤ g' := (row_lt hown rfl).1
  -- an older block that is not the row's
  have old : ∀ k, k < wr.heap.size → (Value.slice A2 i k2).ownBlock ≠ some k → wa.heap[k]? = wr.heap[k]? := fun k hk hn => by
    rw [hgrow.block k (by omega) (fun e => hn e.symm), Below.heap_alloc _ _ _ (by omega), hb5.block k (by omega)]
    exact Below.heap_alloc wr o k hk
  have notrow : ∀ k, k < w.heap.size + 1 + 1 + 1 → (Value.slice A2 i k2).ownBlock ≠ some k := fun k hk e => by
    have := (row_lt h.row e).1
    omega
  have hsa : (w5.alloc o2).heap.size ≤ wa.heap.size := hgrow.size
  have hset : ∀ k, k ≠ w.heap.size + 1 + 1 → (wa.setCell ⟨w.heap.size + 1 + 1, 2, none⟩ (.slice (some ⟨g', 0, none⟩) (i + 1) cap')).heap[k]? = wa.heap[k]? := fun k hk => Below.heap_setCell _ _ _ _ hk
  have hss : (wa.setCell ⟨w.heap.size + 1 + 1, 2, none⟩ (.slice (some ⟨g', 0, none⟩) (i + 1) cap')).heap.size = wa.heap.size := by simp [World.setCell]
  refine ⟨?_, ?_, ?_, ?_, ?_⟩
  · have h5 : Below w.heap.size w (w5.alloc o2) := ((((h.below.alloc (by omega) o).drew).trans (hb5.mono (by omega)))).alloc (by omega) o2
    refine (h5.grown hgrow (by omega) fun k hk => ?_).setCell (by simp; omega) _
    have := (row_lt h.row hk).1
    omega
  · rw [hset _ (by omega), old _ (by omega) (notrow _ (by omega))]
    exact h.res
  · exact set2 ((old _ (by omega) (notrow _ (by omega))).trans h.out) _
  · rw [rowsN_succ]
    have e1 : rowsN (rowV v.kids (fun j => if j = i then s5 else ss j)) i = rowsN (rowV v.kids ss) i := by
      have : ∀ n, n ≤ i → rowsN (rowV v.kids (fun j => if j = i then s5 else ss j)) n = rowsN (rowV v.kids ss) n := by
        intro n
        induction n with
        | zero => intro _; rfl
        | succ n ihn =>
          intro hn
          rw [rowsN_succ, rowsN_succ, ihn (by omega)]
          simp [rowV, show ¬ n = i by omega]
      exact this i (Nat.le_refl _)
    have e2 : rowV v.kids (fun j => if j = i then s5 else ss j) i = [.string (v.kids.getD i default).op, .int .i64 (v.kids.getD i default).num, s5] := by simp [rowV]
    rw [e1, e2]
    refine owns_block hown fun g hg => hset g ?_
    have : g' = g := by simpa [Value.ownBlock] using hg
    omega
  · intro j hj
    by_cases e : j = i
    · subst e
      simp only [if_true]
      refine hp5.step (by omega) fun k hk hP => ?_
      have hP' : wr.heap.size + 1 ≤ k := by omega
      have hne : (Value.slice A2 j k2).ownBlock ≠ some k := fun e => by
        have := (row_lt h.row e).2
        omega
      refine ⟨?_, by omega, ?_⟩
      · rw [hset k (by omega), hgrow.block k (by omega) (fun e => hne e.symm), Below.heap_alloc _ _ _ hk]
      · intro e'
        have e'' : g' = k := by simpa [Value.ownBlock] using e'
        rcases hat with hh | hh
        · exact hne (by rw [hh, e''])
        · omega
    · simp only [if_neg e]
      refine (h.kids j (by omega)).step (by omega) fun k hk hP => ?_
      refine ⟨by rw [hset k (by omega), old k hk hP.2], hP.1, ?_⟩
      intro e'
      have e'' : g' = k := by simpa [Value.ownBlock] using e'
      rcases hat with hh | hh
      · exact hP.2 (by rw [hh, e''])
      · omega
/-- What Of hands out. -/
theorem OfAt.done {w : World} {v : V} {A2 : Option Addr} {k2 : Nat} {ss : Nat → Value} {wr : World} (h : OfAt w v v.kids.length (.slice A2 v.kids.length k2) ss wr) (hl : v.kids.length ≤ 2932031007317) (W : World) (hB : Below w.heap.size w W)
    (hs : wr.heap.size ≤ W.heap.size) (hk : ∀ k, k < wr.heap.size → w.heap.size + 1 + 1 + 1 ≤ k → W.heap[k]? = wr.heap[k]?) : AtP (fun k => w.heap.size ≤ k) W v (.slice A2 v.kids.length k2) := by
  cases v with
  | mk o n ks =>
    refine AtP.of_row (B := w.heap.size + 1 + 1 + 1) (e := 30) (owns_block h.row fun g hg => hk g (row_lt h.row hg).2 (row_lt h.row hg).1) hl (fun g hg => ?_) fun j hj => ?_
    · have := (row_lt h.row hg).1
      omega
    · exact (h.kids j hj).step hs fun k hk' hP => ⟨hk k hk' hP.1, by omega⟩

set_option maxRecDepth 100000 in
set_option maxHeartbeats 8000000 in
theorem Of_in : ∀ (N : Nat) (w : World) (v : V) (s : Value), SizeOf.sizeOf v ≤ N → At w v s →
    Calls Tryd.prog 7 #[aggV v s] w fun e w' => (∃ s', e = .returned (aggV v s') ∧ AtP (fun k => w.heap.size ≤ k) w' v s') ∧ Below w.heap.size w w' := by
  intro N
  induction N with
  | zero =>
    intro w v s h
    cases v
    simp only [V.mk.sizeOf_spec] at h
    omega
  | succ N ih =>
    intro w v s hN h
    obtain ⟨A, cap, rfl, hmax, _⟩ := h.inv
    obtain ⟨i0, hi0, hz0, hz1, hz2⟩ := info_parts info_rvalue
    have HA := Lib.hid h
    have IH := Lib.hid ih
    have HS := Lib.hid (fun (i : Nat) (hi : i < v.kids.length) => v.kid_lt hi)
    have HN := Lib.hid hN
    clear ih hN h
    unfold aggV
    generalize hop : v.op = op at *
    generalize hnum : v.num = num at *
    generalize hkl : v.kids.length = L at *
    have HO := Lib.hid (And.intro hop (And.intro hnum hkl))
    clear hop hnum hkl
    go_enter Tryd.func7, Tryd.ntmps7
    go_wp2_with fail
    have hW : OfAt w v 0 nilS (fun _ => nilS) (((w.alloc (.cells #[.string op, .int .i64 num, .slice A L cap] 24)).alloc (.cells #[.string ⟨#[]⟩, .int .i64 0, nilS] 30)).alloc (.cells #[.string op, .int .i64 num, nilS] 30)) := by
      refine ⟨(((Below.refl w.heap.size w).alloc (Nat.le_refl _) _).alloc (by simp) _).alloc (by simp; omega) _, ?_, ?_, ?_, fun j hj => by omega⟩
      · exact (Below.heap_alloc _ _ _ (by simp)).trans (by have := last (w.alloc (.cells #[.string op, .int .i64 num, .slice A L cap] 24)) (.cells #[.string ⟨#[]⟩, .int .i64 0, nilS] 30); simpa using this)
      · have := last ((w.alloc (.cells #[.string op, .int .i64 num, .slice A L cap] 24)).alloc (.cells #[.string ⟨#[]⟩, .int .i64 0, nilS] 30)) (.cells #[.string op, .int .i64 num, nilS] 30)
        rw [HO.out.1, HO.out.2.1]
        simpa using this
      · exact World.ownsRow_nil _ _ _ _
    have H0 := Lib.hid hW
    clear hW
    go_loopg [14] L (fun gk iv wr => ∃ (i : Nat) (rv : Value) (ss : Nat → Value), iv = .int .i64 i ∧ i + gk = L ∧ OfAt w v i rv ss wr)
    case atStart => exact ⟨0, _, _, rfl, by omega, H0.out⟩
    case round =>
      obtain ⟨i, rv, ss, rfl, hi, hat⟩ := hrel
      obtain ⟨A2, k2, rfl⟩ := row_form hat.row
      have H1 := Lib.hid hat
      have hfz := frozenOf hat.out 2
      obtain ⟨x0, x1, x2⟩ := cellsOf3 hat.out
      clear hat
      by_cases e : i = L
      · subst e
        have hy := frozenOf H1.out.res
        obtain ⟨y0, y1, y2⟩ := cellsOf3 H1.out.res
        go_wp2_with fail
        have hW3 := set3 H1.out.res (.string v.op) (.int .i64 v.num) (.slice A2 i k2)
        obtain ⟨r0, r1, r2⟩ := cellsOf3 hW3
        have hset : ∀ k, k ≠ w.heap.size + 1 → (((wr.setCell ⟨w.heap.size + 1, 0, none⟩ (.string v.op)).setCell ⟨w.heap.size + 1, 1, none⟩ (.int .i64 v.num)).setCell ⟨w.heap.size + 1, 2, none⟩ (.slice A2 i k2)).heap[k]? = wr.heap[k]? := fun k hk => by
          rw [Below.heap_setCell _ _ _ _ hk, Below.heap_setCell _ _ _ _ hk, Below.heap_setCell _ _ _ _ hk]
        have hbe : Below w.heap.size w (((wr.setCell ⟨w.heap.size + 1, 0, none⟩ (.string v.op)).setCell ⟨w.heap.size + 1, 1, none⟩ (.int .i64 v.num)).setCell ⟨w.heap.size + 1, 2, none⟩ (.slice A2 i k2)) := ((H1.out.below.setCell (by simp) _).setCell (by simp) _).setCell (by simp) _
        have H1' := H1.out
        rw [← HO.out.2.2] at H1' hset hbe r0 r1 r2 ⊢
        have hdone := H1'.done (by rw [HO.out.2.2]; exact hmax) _ hbe (by simp [World.setCell]) (fun k _ hk => hset k (by omega))
        refine bodyPost_ret (v := .agg #[.string v.op, .int .i64 v.num, .slice A2 v.kids.length k2]) (by simp [results, Tryd.results7, go_sem, r0, r1, r2]) rfl ⟨⟨_, ?_, hdone⟩, hbe⟩
        rw [HO.out.1, HO.out.2.1]
      · have hil : i < L := by omega
        have hil' : i < v.kids.length := by rw [HO.out.2.2]; exact hil
        have hi4 : i ≤ 2932031007317 := by omega
        obtain ⟨A', ca', eA, _, hka⟩ := (HA.out.under H1.out.below).inv
        obtain ⟨b1, o1, s1, e1, ⟨p0, p1, p2⟩, hat1⟩ := hka i hil'
        have eA' : A = some ⟨b1, o1, none⟩ := by rw [← e1]; injection eA
        subst eA'
        obtain ⟨A1, k1, rfl, _, _⟩ := hat1.inv
        have hsz := HS.out i hil
        have hN' := HN.out
        have hbw : Below wr.heap.size wr (wr.alloc (.cells #[.string (v.kids.getD i default).op, .int .i64 (v.kids.getD i default).num, .slice A1 (v.kids.getD i default).kids.length k1] 24)).drew := ((Below.refl wr.heap.size wr).alloc (Nat.le_refl _) _).drew
        have hc := IH.out _ _ _ (show SizeOf.sizeOf (v.kids.getD i default) ≤ N by omega) (hat1.under hbw)
        have hlo := heap_lt H1.out.out
        have HK5 := Lib.hid (show ∀ w5, Below (wr.alloc (.cells #[.string (v.kids.getD i default).op, .int .i64 (v.kids.getD i default).num, .slice A1 (v.kids.getD i default).kids.length k1] 24)).drew.heap.size (wr.alloc (.cells #[.string (v.kids.getD i default).op, .int .i64 (v.kids.getD i default).num, .slice A1 (v.kids.getD i default).kids.length k1] 24)).drew w5 →
            w5.heap[w.heap.size + 1 + 1]? = some (.cells #[.string v.op, .int .i64 v.num, .slice A2 i k2] 30) ∧ w5.ownsRow (w.heap.size + 1 + 1 + 1) 30 3 (.slice A2 i k2) i (rowsN (rowV v.kids ss) i) ∧ w.heap.size + 1 + 1 + 1 ≤ w5.heap.size from fun w5 hb => by
          have hs1 : (wr.alloc (.cells #[.string (v.kids.getD i default).op, .int .i64 (v.kids.getD i default).num, .slice A1 (v.kids.getD i default).kids.length k1] 24)).drew.heap.size = wr.heap.size + 1 := by
            show (World.alloc _ _).heap.size = _
            simp
          have hl := heap_lt H1.out.out
          have old : ∀ k, k < wr.heap.size → w5.heap[k]? = wr.heap[k]? := fun k hk => (hb.block k (by omega)).trans (hbw.block k hk)
          exact ⟨(old _ hl).trans H1.out.out, owns_block H1.out.row fun g hg => old g (row_lt H1.out.row hg).2, by have := hb.size; omega⟩)
        have HF : Hid ((Value.slice A2 i k2).ownBlock ≠ some (w.heap.size + 1 + 1)) := Lib.hid (fun e => by
          have := (row_lt H1.out.row e).1
          omega)
        clear hka eA e1 hat1 hsz hN' hbw
        unfold aggV at hc
        generalize hx : v.kids.getD i default = x at *
        have HX := Lib.hid hx
        clear hx
        go_wp2_with fail
        go_region_law (first
          | (go_simp; go_at_call 7; refine hc.mono ?_; rintro e w5 ⟨⟨s5, rfl, hp5⟩, hb5⟩; obtain ⟨A5, k5, rfl⟩ := hp5.form; obtain ⟨h5, hr5, hs5⟩ := HK5.out w5 hb5; have x25 := (cellsOf3 h5).2.2; have hl5 := heap_lt h5)
          | (go_loud (refine step_append_lies _ rfl _ _ 28 rfl (w.heap.size + 1 + 1 + 1) 30 i0 (.agg #[.string ⟨#[]⟩, .int .i64 0, nilS]) 3 48 Tryd.underlying28 hi0 hz0 hz1 hz2 rfl (by decide) (.slice A2 i k2) i _ rfl (hr5.alloc _) ⟨w5.heap.size, 0, none⟩ 1 1 [.string x.op, .int .i64 x.num, .slice A5 x.kids.length k5] rfl rfl (news3 _ _ _ _ _ (by simp)) (by simp [Value.oneCell']) (by decide) (by unfold maxLen; omega) (by omega) (by simp; omega) _ rfl ?_); intro g' cap' wa hown hgrow hat hlt1; have hho := (hgrow.block _ (by simp; omega) (fun e => HF.out e.symm)).trans ((Below.heap_alloc _ _ _ (by omega)).trans h5); have cf1 := frozenOf hho 2; have co1 := (cellsOf3 hho).2.2))
        all_goals
          have HP := Lib.hid (H1.out.push (A2 := A2) (k2 := k2) hb5 (by rw [HX.out]; exact hp5) (by rw [HX.out]; exact hown) hgrow hat)
          clear hb5 hp5 hown hgrow hat hlt1 hl5 hho cf1 co1 x25 h5 hr5 hs5 x0 x1 x2 hfz hlo
          generalize wa.setCell ⟨w.heap.size + 1 + 1, 2, none⟩ (.slice (some ⟨g', 0, none⟩) (i + 1) cap') = W6 at *
          go_wp2_with fail
          go_roundg (gk - 1)
          case measure => omega
          case rel => exact ⟨i + 1, _, _, by simp, by omega, HP.out⟩
end Go.Proofs.YtofijodndilmbaaDoor
