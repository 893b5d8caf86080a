/- Diagnoses' lines: the tree's Diags. -/
import Derived.Test.YtinebmfmkgjaaaaDoorAud1
set_option linter.unusedVariables false
set_option linter.unusedSimpArgs false
namespace Go.Proofs.YtinebmfmkgjaaaaDoor
open Go.RowKit

structure Dg where
  code : Int
  line : Int
  col : Int
  name : ByteArray
instance : Inhabited Dg := ⟨⟨0, 0, 0, ByteArray.empty⟩⟩
/-- Diagnoses lie one behind the other. -/
def DgsAt (w : World) (A : Option Addr) (ds : List Dg) : Prop := ds.length = 0 ∨ ∃ b off, A = some ⟨b, off, none⟩ ∧ ∀ i, i < ds.length →
  w.cell? ⟨b, off + i * 4, none⟩ = some (.int .i64 (ds.getD i default).code) ∧ w.cell? ⟨b, off + i * 4 + 1, none⟩ = some (.int .i64 (ds.getD i default).line) ∧
  w.cell? ⟨b, off + i * 4 + 2, none⟩ = some (.int .i64 (ds.getD i default).col) ∧ w.cell? ⟨b, off + i * 4 + 3, none⟩ = some (.string (ds.getD i default).name)
theorem DgsAt.under {w w' : World} {A : Option Addr} {ds : List Dg} (h : DgsAt w A ds) (hb : Below w.heap.size w w') : DgsAt w' A ds := by
  rcases h with h | ⟨b, off, rfl, h⟩
  · exact .inl h
  · refine .inr ⟨b, off, rfl, fun i hi => ?_⟩
    obtain ⟨h0, h1, h2, h3⟩ := h i hi
    exact ⟨(World.cell?_of_block (hb.block _ (cell_lt h0))).trans h0, (World.cell?_of_block (hb.block _ (cell_lt h1))).trans h1, (World.cell?_of_block (hb.block _ (cell_lt h2))).trans h2, (World.cell?_of_block (hb.block _ (cell_lt h3))).trans h3⟩
theorem cellsOf4 {w : World} {b : Nat} {x0 x1 x2 x3 : Value} {t : TypeId} (h : w.heap[b]? = some (.cells #[x0, x1, x2, x3] t)) : w.cell? ⟨b, 0, none⟩ = some x0 ∧ w.cell? ⟨b, 1, none⟩ = some x1 ∧ w.cell? ⟨b, 2, none⟩ = some x2 ∧ w.cell? ⟨b, 3, none⟩ = some x3 := by
  refine ⟨?_, ?_, ?_, ?_⟩ <;> simp only [World.cell?, h] <;> rfl
/-- A diagnosis' line, but its name. -/
def headL (what : ByteArray) (d : Dg) : ByteArray := what ++ ⟨#[32]⟩ ++ atB d.line d.col ++ ⟨#[32]⟩ ++ figs d.code
def lineB (what : ByteArray) (d : Dg) : ByteArray := if d.name.size = 0 then headL what d else headL what d ++ (⟨#[32]⟩ ++ d.name)
def Dg.ok (d : Dg) : Prop := okI d.code ∧ okI d.line ∧ okI d.col ∧ d.name.size ≤ 1048576
theorem info_str : (Tryd.prog.info? 9).map (fun i => (i.zero, i.size, i.bytes)) = some (some (.string ⟨#[]⟩), 1, 16) := by kernel_rfl
def strs (l : List ByteArray) : List Value := l.map Value.string

theorem strs_snoc (l : List ByteArray) (x : ByteArray) : strs (l ++ [x]) = strs l ++ [.string x] := by simp [strs]
theorem grow_below {w w3 w8 : World} {o : Obj} {v : Value} {e s n : Nat} {xs : List Value} (h : Below w.heap.size w w3) (hs : w.heap.size ≤ w3.heap.size) (hrow : w3.ownsRow w.heap.size e s v n xs) (hg : (w3.alloc o).grownBy w8 v.ownBlock) : Below w.heap.size w w8 :=
  (h.alloc hs o).grown hg (by simp; omega) fun k hk => (row_lt hrow hk).1

set_option maxRecDepth 100000 in
set_option maxHeartbeats 2000000 in
theorem Diags_in (what : ByteArray) (A : Option Addr) (cap : Nat) (ds : List Dg) (w : World) (hw : what.size ≤ 1048576) (hn : ds.length ≤ 100) (hd : ∀ i, i < ds.length → (ds.getD i default).ok) (hat : DgsAt w A ds) (ht : TabOk w) :
    Calls Tryd.prog 10 #[.string what, .slice A ds.length cap] w fun e w' => (∃ v, e = .returned v ∧ w'.ownsRow w.heap.size 9 1 v ds.length (strs (ds.map (lineB what)))) ∧ Below w.heap.size w w' := by
  obtain ⟨i0, hi0, hz0, hz1, hz2⟩ := info_parts info_str
  have HD := Lib.hid (show ∀ W i, Below w.heap.size w W → i < ds.length → ∃ b off, A = some ⟨b, off, none⟩ ∧ (ds.getD i default).ok ∧ (W.cell? ⟨b, off + i * 4, none⟩ = some (.int .i64 (ds.getD i default).code) ∧ W.cell? ⟨b, off + i * 4 + 1, none⟩ = some (.int .i64 (ds.getD i default).line) ∧
      W.cell? ⟨b, off + i * 4 + 2, none⟩ = some (.int .i64 (ds.getD i default).col) ∧ W.cell? ⟨b, off + i * 4 + 3, none⟩ = some (.string (ds.getD i default).name)) from fun W i hb hi => by
    rcases hat.under hb with h | ⟨b, off, h1, h2⟩
    · omega
    · exact ⟨b, off, h1, hd i hi, h2 i hi⟩)
  have HT := Lib.hid (fun W (hb : Below w.heap.size w W) => ht.under hb)
  clear hd hat ht
  go_enter Tryd.func10, Tryd.ntmps10
  go_wp2_with fail
  go_loopw [5, 11] (fun v i wr => ∃ k : Nat, i = .int .i64 k ∧ k ≤ ds.length ∧ Below w.heap.size w wr ∧ wr.ownsRow w.heap.size 9 1 v k (strs ((ds.take k).map (lineB what)))) (fun _ i _ => ((ds.length : Int) - intOf i).toNat)
  case atStart => exact ⟨0, rfl, by omega, Below.refl _ _, World.ownsRow_nil _ _ _ _⟩
  case round =>
    obtain ⟨k, rfl, hk, hb, hrow⟩ := hrel
    by_cases hkl : k < ds.length
    · have hki : (k : Int) < ds.length := by omega
      obtain ⟨b, off, rfl, hok, c0, c1, c2, c3⟩ := HD.out wr k hb hkl
      have HB := Lib.hid (And.intro hb hrow)
      clear hb hrow
      have HK := Lib.hid (show ∃ d, ds.getD k default = d from ⟨_, rfl⟩)
      have HDK := Lib.hid (show (ds.take (k + 1)).map (lineB what) = (ds.take k).map (lineB what) ++ [lineB what (ds.getD k default)] by
        rw [List.take_add_one, List.getElem?_eq_getElem hkl, List.map_append]
        simp [List.getD, hkl])
      generalize hy : ds.getD k default = d at *
      clear hy HK
      have HOK := Lib.hid hok
      have HLN := Lib.hid (show lineB what d = if d.name.size = 0 then headL what d else headL what d ++ (⟨#[32]⟩ ++ d.name) from rfl)
      have HHD := Lib.hid (show headL what d = what ++ ⟨#[32]⟩ ++ atB d.line d.col ++ ⟨#[32]⟩ ++ figs d.code from rfl)
      have hs1 := atB_size hok.2.1 hok.2.2.1
      have hs2 := figs_size hok.1.1 hok.1.2
      have hs3 := hok.2.2.2
      clear hok
      obtain ⟨A2, k2, rfl⟩ := row_form HB.out.2
      have hbd : Below wr.heap.size wr (wr.alloc (.cells #[.int .i64 d.code, .int .i64 d.line, .int .i64 d.col, .string d.name] 39)) := (Below.refl _ _).alloc (Nat.le_refl _) _
      have HCL := Lib.hid (show ∀ w', Below (wr.alloc (.cells #[.int .i64 d.code, .int .i64 d.line, .int .i64 d.col, .string d.name] 39)).heap.size (wr.alloc (.cells #[.int .i64 d.code, .int .i64 d.line, .int .i64 d.col, .string d.name] 39)) w' → w'.cell? ⟨wr.heap.size, 0, none⟩ = some (.int .i64 d.code) ∧ (w'.cell? ⟨wr.heap.size, 1, none⟩ = some (.int .i64 d.line) ∧ w'.cell? ⟨wr.heap.size, 2, none⟩ = some (.int .i64 d.col)) ∧ w'.cell? ⟨wr.heap.size, 3, none⟩ = some (.string d.name) from fun w' hb => by
        obtain ⟨x0, x1, x2, x3⟩ := cellsOf4 ((hb.block _ (by simp)).trans (last wr (.cells #[.int .i64 d.code, .int .i64 d.line, .int .i64 d.col, .string d.name] 39)))
        exact ⟨x0, ⟨x1, x2⟩, x3⟩)
      have HF := Lib.hid (show ∀ w', Below (wr.alloc (.cells #[.int .i64 d.code, .int .i64 d.line, .int .i64 d.col, .string d.name] 39)).heap.size (wr.alloc (.cells #[.int .i64 d.code, .int .i64 d.line, .int .i64 d.col, .string d.name] 39)) w' → Below w.heap.size w w' ∧ w'.ownsRow w.heap.size 9 1 (.slice A2 k k2) k (strs ((ds.take k).map (lineB what))) ∧ w.heap.size ≤ w'.heap.size from fun w' hb =>
        ⟨chain (chain HB.out.1 hbd) hb, owns_block HB.out.2 fun g hg => (chain hbd hb).block _ (row_lt HB.out.2 hg).2, (chain (chain HB.out.1 hbd) hb).size⟩)
      have HA := Lib.hid (show ∀ w', Below w.heap.size w w' → Calls Tryd.prog 19 #[.agg #[.int .i64 d.line, .int .i64 d.col]] w' fun e w'' => e = .returned (.string (atB d.line d.col)) ∧ Below w'.heap.size w' w'' from fun w' hb => at_in _ _ w' HOK.out.2.1 HOK.out.2.2.1 (HT.out w' hb))
      have HI := Lib.hid (show ∀ w', Below w.heap.size w w' → Calls Tryd.prog 20 #[.int .i64 d.code] w' fun e w'' => e = .returned (.string (figs d.code)) ∧ Below w'.heap.size w' w'' from fun w' hb => Itoa_in _ w' HOK.out.1.1 HOK.out.1.2 (HT.out w' hb))
      clear hbd
      go_wp2_with fail
      generalize wr.alloc (.cells #[.int .i64 d.code, .int .i64 d.line, .int .i64 d.col, .string d.name] 39) = wd at *
      generalize hP : atB d.line d.col = P at *
      generalize hG : figs d.code = G at *
      have HPP := Lib.hid hP
      have HGG := Lib.hid hG
      clear hP hG c0 c1 c2 c3
      have z1 : ¬ 9223372036854775807 < what.size + 1 := by omega
      have z2 : ¬ 9223372036854775807 < what.size + 1 + P.size := by omega
      have z3 : ¬ 9223372036854775807 < what.size + 1 + P.size + 1 := by omega
      have z4 : ¬ 9223372036854775807 < what.size + 1 + P.size + 1 + G.size := by omega
      have hbw1 : Below wd.heap.size wd wd.drew := (Below.refl _ wd).drew
      obtain ⟨c0, ⟨c1, c2⟩, c3⟩ := HCL.out _ hbw1
      go_region_held3 (fun w' => w'.cell? ⟨wr.heap.size, 0, none⟩ = some (.int .i64 d.code) ∧ (w'.cell? ⟨wr.heap.size, 1, none⟩ = some (.int .i64 d.line) ∧ w'.cell? ⟨wr.heap.size, 2, none⟩ = some (.int .i64 d.col)) ∧ w'.cell? ⟨wr.heap.size, 3, none⟩ = some (.string d.name)) (first | exact HCL.out _ (by with_reducible assumption))
        (first
          | (go_at_call 19; refine (HA.out _ (HF.out _ (by with_reducible assumption)).1).mono ?_; rintro e w2 ⟨rfl, hbn⟩; have hbw2 := chain (by with_reducible assumption) hbn; clear hbn; obtain ⟨c0, ⟨c1, c2⟩, c3⟩ := HCL.out _ hbw2)
          | (go_at_call 20; refine (HI.out _ (HF.out _ (by with_reducible assumption)).1).mono ?_; rintro e w3 ⟨rfl, hbn⟩; have hbw3 := chain (by with_reducible assumption) hbn; clear hbn; obtain ⟨c0, ⟨c1, c2⟩, c3⟩ := HCL.out _ hbw3))
      all_goals
        have HFF := Lib.hid (HF.out _ (by with_reducible assumption))
        have hc3 := (HCL.out _ (by with_reducible assumption)).2.2
        clear hbw1 hbw2 hbw3 c0 c1 c2 c3 HCL HA HI
        have hze : d.name.toList.isEmpty = decide (d.name.size = 0) := by
          rw [Lib.toList_data]
          have hq : d.name.data.toList.length = d.name.size := by simp
          cases hl : d.name.data.toList with
          | nil => rw [hl] at hq; simp at hq; simp [← hq]
          | cons x r => rw [hl] at hq; simp at hq; simp [← hq]
        cases hz : d.name.toList.isEmpty with
        | false =>
          rw [hz] at hze
          have HZ := Lib.hid (show ¬ d.name.size = 0 by simpa using hze.symm)
          clear hze
          go_wp2_with (at_builtin; refine wpList_append_own _ rfl _ _ 35 rfl w.heap.size 9 i0 (.string ⟨#[]⟩) 1 16 Tryd.underlying35 hi0 hz0 hz1 hz2 rfl (by decide) (.slice A2 k k2) k (strs ((ds.take k).map (lineB what))) rfl (HFF.out.2.1.alloc _) ⟨w3.heap.size, 0, none⟩ 1 1 [.string (what ++ ⟨#[32]⟩ ++ P ++ ⟨#[32]⟩ ++ G ++ (⟨#[32]⟩ ++ d.name))] rfl rfl ?c2 ?c3 ?c4 ?c5 ?c6 ?_)
          case c2 => exact World.news_of_block (last w3 _)
          case c3 => simp [Value.oneCell']
          case c4 => unfold maxLen; omega
          case c5 => omega
          case c6 => simp; have := HFF.out.2.2; omega
          intro v' w8 hown hgrow hnil
          have HBB := Lib.hid (grow_below HFF.out.1 HFF.out.2.2 HFF.out.2.1 hgrow)
          have HOO := Lib.hid (show w8.ownsRow w.heap.size 9 1 v' (k + 1) (strs ((ds.take (k + 1)).map (lineB what))) by
            rw [HDK.out, HLN.out, if_neg HZ.out, HHD.out, strs_snoc, List.map_take]
            exact hown)
          clear hown hgrow hnil hc3
          go_wp2_with fail
          exact ⟨⟨k + 1, by simp, by omega, HBB.out, HOO.out⟩, by simp [intOf]; omega⟩
        | true =>
          rw [hz] at hze
          have HZ := Lib.hid (show d.name.size = 0 by simpa using hze.symm)
          clear hze
          go_wp2_with (at_builtin; refine wpList_append_own _ rfl _ _ 35 rfl w.heap.size 9 i0 (.string ⟨#[]⟩) 1 16 Tryd.underlying35 hi0 hz0 hz1 hz2 rfl (by decide) (.slice A2 k k2) k (strs ((ds.take k).map (lineB what))) rfl (HFF.out.2.1.alloc _) ⟨w3.heap.size, 0, none⟩ 1 1 [.string (what ++ ⟨#[32]⟩ ++ P ++ ⟨#[32]⟩ ++ G)] rfl rfl ?c2 ?c3 ?c4 ?c5 ?c6 ?_)
          case c2 => exact World.news_of_block (last w3 _)
          case c3 => simp [Value.oneCell']
          case c4 => unfold maxLen; omega
          case c5 => omega
          case c6 => simp; have := HFF.out.2.2; omega
          intro v' w8 hown hgrow hnil
          have HBB := Lib.hid (grow_below HFF.out.1 HFF.out.2.2 HFF.out.2.1 hgrow)
          have HOO := Lib.hid (show w8.ownsRow w.heap.size 9 1 v' (k + 1) (strs ((ds.take (k + 1)).map (lineB what))) by
            rw [HDK.out, HLN.out, if_pos HZ.out, HHD.out, strs_snoc, List.map_take]
            exact hown)
          clear hown hgrow hnil hc3
          go_wp2_with fail
          exact ⟨⟨k + 1, by simp, by omega, HBB.out, HOO.out⟩, by simp [intOf]; omega⟩
    · have hki : ¬ (k : Int) < ds.length := by omega
      have hke : k = ds.length := by omega
      have HB := Lib.hid (And.intro hb hrow)
      clear hb hrow
      go_wp2_with fail
      go_ret
      refine ⟨⟨_, rfl, ?_⟩, HB.out.1⟩
      have := HB.out.2
      rw [hke, List.take_length] at this
      exact this
end Go.Proofs.YtinebmfmkgjaaaaDoor
