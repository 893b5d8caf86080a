/- Parse, with all of the parser. -/
import Derived.Test.YtmeacgmjpjjphaaGreatDoorMExY
import Derived.Test.YtmeacgmjpjjphaaGreatDoorMErr4
import Derived.Test.YtmeacgmjpjjphaaGreatDoorMDeP
import Derived.Test.YtmeacgmjpjjphaaGreatDoorMTre6
import Derived.Test.YtmeacgmjpjjphaaGreatDoorMExX
set_option linter.unusedVariables false
set_option linter.unusedSimpArgs false
namespace Go.Proofs.YtmeacgmjpjjphaaGreatDoor
open Go.RowKit Go.Shelf
open Tr (Nd TreeAt Own Ints)

theorem tokV_zero : tokV zTok = .agg #[.int .i64 0, .string ⟨#[]⟩, .int .i64 0, .int .i64 0, .int .i64 0] := rfl
set_option maxRecDepth 100000 in
set_option maxHeartbeats 1000000 in
theorem Expr_nil (w : World) : Calls Tryz.prog 8 #[.pointer none] w fun e w' => e = .returned (.tuple #[.int .i64 0, diagV 1 0 0]) ∧ Below w.heap.size w w' := by
  go_enter Tryz.func8, Tryz.ntmps8
  go_wp2_with fail
  exact bodyPost_ret (v := .tuple #[.int .i64 0, diagV 1 0 0]) (by simp [results, Tryz.results8, go_sem]; rfl) rfl ⟨rfl, (Below.refl _ w).alloc (Nat.le_refl _) _⟩
set_option maxRecDepth 100000 in
set_option maxHeartbeats 1000000 in
theorem Next_nil (w : World) : Calls Tryz.prog 23 #[.pointer none] w fun e w' => e = .returned (.agg #[.int .i64 0, .string ⟨#[]⟩, .int .i64 0, .int .i64 0, .int .i64 0]) ∧ Below w.heap.size w w' := by
  go_enter Tryz.func23, Tryz.ntmps23
  go_wp2_with fail
  exact bodyPost_ret (v := .agg #[.int .i64 0, .string ⟨#[]⟩, .int .i64 0, .int .i64 0, .int .i64 0]) (by simp [results, Tryz.results23, go_sem]) rfl ⟨rfl, (Below.refl _ w).alloc (Nat.le_refl _) _⟩
set_option maxRecDepth 100000 in
set_option maxHeartbeats 1000000 in
theorem one_nil (k : Int) (w : World) : Calls Tryz.prog 27 #[.pointer none, .int .i64 k] w fun e w' => e = .returned (.tuple #[.agg #[.int .i64 0, .string ⟨#[]⟩, .int .i64 0, .int .i64 0, .int .i64 0], diagV 1 0 0]) ∧ Below w.heap.size w w' := by
  go_enter Tryz.func27, Tryz.ntmps27
  go_wp2_with fail
  exact bodyPost_ret (v := .tuple #[.agg #[.int .i64 0, .string ⟨#[]⟩, .int .i64 0, .int .i64 0, .int .i64 0], diagV 1 0 0]) (by simp [results, Tryz.results27, go_sem]; rfl) rfl ⟨rfl, ((Below.refl _ w).alloc (Nat.le_refl _) _).alloc (by simp) _⟩
set_option maxRecDepth 100000 in
set_option maxHeartbeats 1000000 in
theorem Name_nil (w : World) : Calls Tryz.prog 9 #[.pointer none] w fun e w' => e = .returned (.tuple #[.agg #[.int .i64 0, .string ⟨#[]⟩, .int .i64 0, .int .i64 0, .int .i64 0], diagV 1 0 0]) ∧ Below w.heap.size w w' := by
  have hb1 := (Below.refl _ w).alloc (Nat.le_refl _) (.cells #[.int .i64 0, .string ⟨#[]⟩, .int .i64 0, .int .i64 0, .int .i64 0] 35)
  have hk := Tr.last w (.cells #[.int .i64 0, .string ⟨#[]⟩, .int .i64 0, .int .i64 0, .int .i64 0] 35)
  have hc := one_nil 1 (w.alloc (.cells #[.int .i64 0, .string ⟨#[]⟩, .int .i64 0, .int .i64 0, .int .i64 0] 35))
  have HB := Lib.hid hb1
  have HK := Lib.hid hk
  have HC := Lib.hid hc
  clear hb1 hk hc
  go_enter Tryz.func9, Tryz.ntmps9
  go_wp2_with fail
  refine HC.out.mono ?_
  rintro e w2 ⟨rfl, hb2⟩
  have HB2 := Lib.hid (HB.out.trans (hb2.mono HB.out.size))
  have hk2 := (hb2.block _ (Tr.heap_lt HK.out)).trans HK.out
  obtain ⟨c0, c1, c2, c3, c4⟩ := cellsOf5 hk2
  have f0 := frozenOf hk2
  clear hb2
  unfold diagV
  go_wp2_with fail
  have hk3 := setc (setc (setc (setc (setc hk2 0 (.int .i64 0)) 1 (.string ⟨#[]⟩)) 2 (.int .i64 0)) 3 (.int .i64 0)) 4 (.int .i64 0)
  have hb3 : Below w.heap.size w (((((w2.setCell ⟨w.heap.size, 0, none⟩ (.int .i64 0)).setCell ⟨w.heap.size, 1, none⟩ (.string ⟨#[]⟩)).setCell ⟨w.heap.size, 2, none⟩ (.int .i64 0)).setCell ⟨w.heap.size, 3, none⟩ (.int .i64 0)).setCell ⟨w.heap.size, 4, none⟩ (.int .i64 0)) := ((((HB2.out.setCell (by simp) _).setCell (by simp) _).setCell (by simp) _).setCell (by simp) _).setCell (by simp) _
  clear c0 c1 c2 c3 c4 f0 hk2
  generalize (((((w2.setCell ⟨w.heap.size, 0, none⟩ (.int .i64 0)).setCell ⟨w.heap.size, 1, none⟩ (.string ⟨#[]⟩)).setCell ⟨w.heap.size, 2, none⟩ (.int .i64 0)).setCell ⟨w.heap.size, 3, none⟩ (.int .i64 0)).setCell ⟨w.heap.size, 4, none⟩ (.int .i64 0)) = w3 at *
  obtain ⟨c0, c1, c2, c3, c4⟩ := cellsOf5 (show w3.heap[w.heap.size]? = some (.cells #[.int .i64 0, .string ⟨#[]⟩, .int .i64 0, .int .i64 0, .int .i64 0] 35) from hk3)
  exact bodyPost_ret (v := .tuple #[.agg #[.int .i64 0, .string ⟨#[]⟩, .int .i64 0, .int .i64 0, .int .i64 0], diagV 1 0 0]) (by simp [results, Tryz.results9, go_sem, c0, c1, c2, c3, c4]; rfl) rfl ⟨rfl, hb3⟩
set_option maxRecDepth 100000 in
set_option maxHeartbeats 1000000 in
theorem Take_nil (w : World) (v : Value) : Calls Tryz.prog 11 #[.pointer none, v] w fun e w' => e = .returned (diagV 1 0 0) ∧ Below w.heap.size w w' := by
  go_enter Tryz.func11, Tryz.ntmps11
  go_wp2_with fail
  exact bodyPost_ret (v := diagV 1 0 0) (by simp [results, Tryz.results11, go_sem]; rfl) rfl ⟨rfl, ((Below.refl _ w).alloc (Nat.le_refl _) _)⟩
set_option maxRecDepth 100000 in
set_option maxHeartbeats 1000000 in
theorem Is_nil (w : World) (s : ByteArray) : Calls Tryz.prog 12 #[.pointer none, .string s] w fun e w' => e = .returned (.bool false) ∧ Below w.heap.size w w' := by
  have HC := Lib.hid (Next_nil w)
  go_enter Tryz.func12, Tryz.ntmps12
  go_wp2_with fail
  refine HC.out.mono ?_
  rintro e w2 ⟨rfl, hb2⟩
  have HB2 := Lib.hid (hb2.alloc hb2.size (.cells #[.int .i64 0, .string ⟨#[]⟩, .int .i64 0, .int .i64 0, .int .i64 0] 35))
  clear hb2
  go_wp2_with fail
  go_ret
  exact ⟨rfl, HB2.out⟩
end Go.Proofs.YtmeacgmjpjjphaaGreatDoor
namespace Go.Proofs.YtmeacgmjpjjphaaGreatDoor
open Go.RowKit Go.Shelf
open Tr (Nd TreeAt Own Ints Fine ndV)
open Tr.TreP (WF fits places nd inT)

/-- What Parse does. -/
def ParseC : Prop := ∀ (s : ByteArray) (w : World), Env w → s.size ≤ 140737488355328 → ErrTy w → Calls Tryz.prog 7 #[.string s] w fun e w' => PostP w (parseP s) e w'
theorem parseC_of (hall : FnC 26 0 (allT (itemP 64))) : ParseC := fun s w h1 h2 h3 => Parse_gen hall s w h1 h2 h3
theorem fine_of {l : List Tok} {ms : List (Nd × Value)} (h : Pre l (ms.map (·.1))) : Fine ms := by
  refine ⟨h.wf, by simpa using h.len, fun p hp => ?_, fun k hk => ?_⟩
  · have := (h.nodes p.1 (List.mem_map.2 ⟨p, hp, rfl⟩)).kids
    omega
  · have := h.cheap k (by simpa using hk)
    unfold cost at this
    simpa using this
theorem countW_go : ∀ (l : List Int) (a : Int), 0 ≤ a → a + l.length ≤ 1000000 → l.foldl (fun s _ => wrap64 (s + 1)) a = a + l.length
  | [], a, _, _ => by simp
  | x :: l, a, h0, h => by
    simp at h
    rw [List.foldl_cons, wrap_in (by omega), countW_go l (a + 1) (by omega) (by omega)]
    simp
    omega
theorem countW_len (l : List Int) (h : l.length ≤ 1000000) : Tr.countW l = l.length := by
  unfold Tr.countW
  rw [countW_go l 0 (by omega) (by omega)]
  simp
theorem plus_lst : ((⟨#[43]⟩ : ByteArray).toList == [43]) = true := by rw [ByteArray.toList_eq]; rfl
/-- A node that is there. -/
theorem nd_there {ms : List (Nd × Value)} {i : Int} (hi : inT ms.length i = true) : ∃ (k : Nat) (hk : k < ms.length), i = k ∧ nd (ms.map (·.1)) i = ms[k].1 := by
  have h := Tr.TreP.inT_iff.1 hi
  refine ⟨i.toNat, by omega, by omega, ?_⟩
  have := Tr.nd_map (ms := ms) (k := i.toNat) (by omega)
  rw [← this]
  congr 1
  omega
set_option maxRecDepth 100000 in
set_option maxHeartbeats 4000000 in
theorem lives5_in (hP : ParseC) {w : World} (henv : Env w) (hg : ErrTy w) : Calls Tryz.prog 6 #[] w fun e w' => e = .returned (.bool true) ∧ Below w.heap.size w w' := by
  have hc := hP (bs [49, 32, 43, 32, 50, 32, 42, 32, 120]) w henv (by decide) hg
  obtain ⟨i, l, m, hp, h1, h2, h3, h4⟩ := lives5_parse
  rw [hp] at hc
  have HC := Lib.hid hc
  clear hc henv hg hP
  unfold bs at HC
  go_enter Tryz.func6, Tryz.ntmps6
  go_wp2_with fail
  refine HC.out.mono ?_
  rintro e w1 ⟨t, v, ms, rfl, rfl, hT, hpre, hb⟩
  have hF := fine_of hpre
  have hl : ms.length = 5 := by simpa using h3
  obtain ⟨k, hk, rfl, hnd⟩ := nd_there (ms := ms) (i := i) (by simpa using h1)
  rw [hnd] at h2
  have HG := Lib.hid (Tr.Get_hit hT hk (by have := hF.kid _ (List.getElem_mem hk); omega) (by omega))
  have HT := Lib.hid hT
  have HF := Lib.hid hF
  have HB := Lib.hid hb
  have H4 := Lib.hid h4
  have HL := Lib.hid hl
  clear hT hF hb hpre h1 h3 h4 hnd hp hl
  go_wp2_with fail
  refine HG.out.mono ?_
  rintro e w2 ⟨s, rfl, hs, hb2⟩
  have HB2 := Lib.hid (HB.out.trans (hb2.mono HB.out.size))
  have HT2 := Lib.hid (HT.out.below hb2)
  obtain ⟨As, cs, rfl⟩ := hs.form
  clear hs hb2
  obtain ⟨A, c, rfl⟩ := HT2.out.nodes.form
  generalize ms[k].1 = x at *
  obtain ⟨op, line, col, name, num, kids⟩ := x
  simp only at h2
  subst h2
  unfold kPlus ndV
  simp only
  have hpl := plus_lst
  have hT3 := HT2.out.below ((Below.refl _ w2).alloc (Nat.le_refl _) (.cells #[.string ⟨#[43]⟩, .int .i64 line, .int .i64 col, .string name, .int .i64 num, .slice As kids.length cs] 53))
  have HB3 := Lib.hid (HB2.out.alloc HB2.out.size (.cells #[.string ⟨#[43]⟩, .int .i64 line, .int .i64 col, .string name, .int .i64 num, .slice As kids.length cs] 53))
  have HN := Lib.hid (Tr.Len_in hT3)
  have HS := Lib.hid (Tr.Size_in HF.out hT3 4000 (by decide) k (fun _ => by have := HF.out.len; omega))
  rw [countW_len _ (by rw [H4.out]; decide), H4.out] at HS
  rw [HL.out] at HN
  clear hT3
  go_wp2_with (first | (go_at_call 20; refine HN.out.mono ?_; rintro e w3 ⟨rfl, rfl⟩) | (go_at_call 21; refine HS.out.mono ?_; rintro e w4 ⟨rfl, hb4⟩))
  go_ret
  exact ⟨rfl, HB3.out.trans (hb4.mono HB3.out.size)⟩
end Go.Proofs.YtmeacgmjpjjphaaGreatDoor
namespace Go.Proofs.YtmeacgmjpjjphaaGreatDoor
open Go.RowKit Go.Shelf
open Tr (Nd TreeAt Own Ints Fine ndV)
open Tr.TreP (WF fits places nd inT)

theorem bs_app (a b : List UInt8) : bs a ++ bs b = bs (a ++ b) := by
  apply ByteArray.ext
  apply Array.ext'
  simp [bs]
def ErrIs (b : Bool) (ev : Value) : Prop := match b with
  | true => ev = .nilIface
  | false => ∃ c x y, ev = diagV c x y
def EndsAs (b : Bool) (s : ByteArray) : Prop := match b with
  | true => ∃ i l m, parseP s = .ok i l m
  | false => ∃ c x y, parseP s = .bad c x y
theorem parse_err (hP : ParseC) {s : ByteArray} {b : Bool} (h : EndsAs b s) {w : World} (henv : Env w) (hs : s.size ≤ 100000) (hg : ErrTy w) : Calls Tryz.prog 7 #[.string s] w fun e w' => ∃ A i ev, e = .returned (.tuple #[.pointer A, .int .i64 i, ev]) ∧ ErrIs b ev ∧ Below w.heap.size w w' := by
  refine (hP s w henv (by omega) hg).mono ?_
  intro e w' hp
  cases b with
  | true =>
    obtain ⟨i, l, m, h⟩ := h
    rw [h] at hp
    obtain ⟨t, v, ms, rfl, _, _, _, hb⟩ := hp
    exact ⟨_, _, _, rfl, rfl, hb⟩
  | false =>
    obtain ⟨c, x, y, h⟩ := h
    rw [h] at hp
    obtain ⟨rfl, hb⟩ := hp
    exact ⟨_, _, _, rfl, ⟨c, x, y, rfl⟩, hb⟩
theorem ends_signs (n : Nat) (hn : n ≤ 255) : EndsAs (decide (n ≤ 62)) (bs (rp [45, 32] n ++ [49])) := by
  have h := signs_parse n hn
  by_cases hc : n ≤ 62
  · rw [if_pos hc] at h
    rw [decide_eq_true hc]
    exact h
  · rw [if_neg hc] at h
    rw [decide_eq_false hc]
    exact ⟨6, h⟩
theorem ends_open (n : Nat) (hn : n ≤ 255) : EndsAs (decide (n ≤ 31)) (bs (rp [40] n ++ 49 :: rp [41] n)) := by
  have h := open_parse n hn
  by_cases hc : n ≤ 31
  · rw [if_pos hc] at h
    rw [decide_eq_true hc]
    exact h
  · rw [if_neg hc] at h
    rw [decide_eq_false hc]
    exact ⟨6, h⟩
structure Sx (w : World) (n gk k : Nat) (s3 s4 s5 s6 s7 : ByteArray) (wr : World) : Prop where
  left : k + gk = n
  e3 : s3 = bs (rp [45, 32] k)
  e4 : s4 = bs (rp [40] k)
  e5 : s5 = bs (49 :: rp [43, 49] k)
  e6 : s6 = bs (49 :: rp [59, 49] k)
  e7 : s7 = bs (rp [41] k)
  below : Below w.heap.size w wr
theorem Sx.sizes {w wr : World} {n gk k : Nat} {s3 s4 s5 s6 s7 : ByteArray} (h : Sx w n gk k s3 s4 s5 s6 s7 wr) (hn : n ≤ 255) : s3.size ≤ 1000 ∧ s4.size ≤ 1000 ∧ s5.size ≤ 1000 ∧ s6.size ≤ 1000 ∧ s7.size ≤ 1000 := by
  have hk := h.left
  rw [h.e3, h.e4, h.e5, h.e6, h.e7]
  simp only [bs_size, rp_len, List.length_cons, List.length_nil]
  omega
theorem Sx.step {w wr : World} {n gk k : Nat} {s3 s4 s5 s6 s7 : ByteArray} (h : Sx w n (gk + 1) k s3 s4 s5 s6 s7 wr) : Sx w n gk (k + 1) (s3 ++ ⟨#[45, 32]⟩) (s4 ++ ⟨#[40]⟩) (s5 ++ ⟨#[43, 49]⟩) (s6 ++ ⟨#[59, 49]⟩) (s7 ++ ⟨#[41]⟩) wr := by
  refine ⟨by have := h.left; omega, ?_, ?_, ?_, ?_, ?_, h.below⟩
  · rw [h.e3, rp_snoc]; exact bs_app _ [45, 32]
  · rw [h.e4, rp_snoc]; exact bs_app _ [40]
  · rw [h.e5, rp_snoc]; exact bs_app _ [43, 49]
  · rw [h.e6, rp_snoc]; exact bs_app _ [59, 49]
  · rw [h.e7, rp_snoc]; exact bs_app _ [41]
set_option maxRecDepth 100000 in
set_option maxHeartbeats 8000000 in
theorem ExprDeep_in (hP : ParseC) (n : Nat) (hn : n ≤ 255) {w : World} (henv : Env w) (hg : ErrTy w) : Calls Tryz.prog 3 #[.int .u8 n] w fun e w' => e = .returned (.bool true) ∧ Below w.heap.size w w' := by
  have HP := Lib.hid hP
  have HE := Lib.hid (And.intro henv hg)
  have HL := Lib.hid (lives5_in hP henv hg)
  clear hP henv hg
  go_enter Tryz.func3, Tryz.ntmps3
  go_wp2_with fail
  refine HL.out.mono ?_
  rintro e w1 ⟨rfl, hb⟩
  have HB := Lib.hid hb
  clear hb
  go_wp2_with fail
  go_loopg [3, 4, 5, 6, 7, 29] n (fun gk v3 v4 v5 v6 v7 iv wr => ∃ (k : Nat) (s3 s4 s5 s6 s7 : ByteArray), v3 = .string s3 ∧ v4 = .string s4 ∧ v5 = .string s5 ∧ v6 = .string s6 ∧ v7 = .string s7 ∧ iv = .int .u8 (k : Int) ∧ Sx w n gk k s3 s4 s5 s6 s7 wr)
  case atStart => exact ⟨0, _, _, _, _, _, rfl, rfl, rfl, rfl, rfl, rfl, ⟨by omega, rfl, rfl, rfl, rfl, rfl, HB.out⟩⟩
  case round =>
    obtain ⟨k, s3, s4, s5, s6, s7, rfl, rfl, rfl, rfl, rfl, rfl, hs⟩ := hrel
    have HS := Lib.hid hs
    obtain ⟨z3, z4, z5, z6, z7⟩ := hs.sizes hn
    have hkg := hs.left
    clear hs
    by_cases hlt : k < n
    · obtain ⟨gq, rfl⟩ : ∃ g, gk = g + 1 := ⟨gk - 1, by omega⟩
      have hlt' : (k : Int) < (n : Int) := by omega
      go_wp2_with fail
      go_roundg gq
      case measure => omega
      case rel => exact ⟨k + 1, _, _, _, _, _, rfl, rfl, rfl, rfl, rfl, by first | rfl | go_num, HS.out.step⟩
    · have hlt' : ¬ (k : Int) < (n : Int) := by omega
      obtain rfl : k = n := by omega
      have HB2 := Lib.hid HS.out.below
      have h49 : (⟨#[49]⟩ : ByteArray).size = 1 := rfl
      have hp1 := fun W (hb : Below wr.heap.size wr W) => parse_err HP.out (s := s3 ++ ⟨#[49]⟩) (b := decide (k ≤ 62)) (w := W) (by rw [HS.out.e3, show (⟨#[49]⟩ : ByteArray) = bs [49] from rfl, bs_app]; exact ends_signs k hn) ((HE.out.1.below HB2.out).below hb) (by simp only [ByteArray.size_append, h49]; omega) ((HE.out.2.below HB2.out).below hb)
      have hp2 := fun W (hb : Below wr.heap.size wr W) => parse_err HP.out (s := s4 ++ ⟨#[49]⟩ ++ s7) (b := decide (k ≤ 31)) (w := W) (by rw [HS.out.e4, HS.out.e7, show (⟨#[49]⟩ : ByteArray) = bs [49] from rfl, bs_app, bs_app, List.append_assoc]; exact ends_open k hn) ((HE.out.1.below HB2.out).below hb) (by simp only [ByteArray.size_append, h49]; omega) ((HE.out.2.below HB2.out).below hb)
      have hp3 := fun W (hb : Below wr.heap.size wr W) => parse_err HP.out (s := s5) (b := true) (w := W) (by rw [HS.out.e5]; exact sum_parse k hn) ((HE.out.1.below HB2.out).below hb) (by omega) ((HE.out.2.below HB2.out).below hb)
      have hp4 := fun W (hb : Below wr.heap.size wr W) => parse_err HP.out (s := s6) (b := true) (w := W) (by rw [HS.out.e6]; exact seq_parse k hn) ((HE.out.1.below HB2.out).below hb) (by omega) ((HE.out.2.below HB2.out).below hb)
      have H1 := Lib.hid hp1
      have H2 := Lib.hid hp2
      have H3 := Lib.hid hp3
      have H4 := Lib.hid hp4
      clear hp1 hp2 hp3 hp4 hkg hlt h49
      go_wp2_with fail
      refine (H1.out wr (Below.refl _ _)).mono ?_
      rintro e wa ⟨Aa, ia, eva, rfl, ha, hba⟩
      have HA := Lib.hid ha
      have HBA := Lib.hid hba
      clear ha hba
      go_wp2_with fail
      refine (H2.out wa HBA.out).mono ?_
      rintro e wb ⟨Ab, ib, evb, rfl, ha, hba⟩
      have HAb := Lib.hid ha
      have HBb := Lib.hid (HBA.out.trans (hba.mono HBA.out.size))
      clear ha hba
      go_wp2_with fail
      refine (H3.out wb HBb.out).mono ?_
      rintro e wc ⟨Ac, ic, evc, rfl, ha, hba⟩
      have ha : evc = .nilIface := ha
      subst ha
      have HBc := Lib.hid (HBb.out.trans (hba.mono HBb.out.size))
      clear hba
      go_wp2_with fail
      refine (H4.out wc HBc.out).mono ?_
      rintro e wd ⟨Ad, id, evd, rfl, ha, hba⟩
      have ha : evd = .nilIface := ha
      subst ha
      have HBd := Lib.hid (HBc.out.trans (hba.mono HBc.out.size))
      clear hba
      go_wp2_with fail
      refine (Expr_nil wd).mono ?_
      rintro e we ⟨rfl, hbe⟩
      have HBe := Lib.hid (HBd.out.trans (hbe.mono HBd.out.size))
      clear hbe
      go_wp2_with fail
      refine (Name_nil we).mono ?_
      rintro e wf ⟨rfl, hbf⟩
      have HBf := Lib.hid ((HBe.out.trans (hbf.mono HBe.out.size)).alloc (Nat.le_trans HBe.out.size hbf.size) (.cells #[.int .i64 0, .string ⟨#[]⟩, .int .i64 0, .int .i64 0, .int .i64 0] 35))
      have HGf := Lib.hid ((HE.out.2.below HB2.out).below HBf.out)
      clear hbf
      go_upto_region 20 with fail
      generalize wf.alloc (.cells #[.int .i64 0, .string ⟨#[]⟩, .int .i64 0, .int .i64 0, .int .i64 0] 35) = wg at *
      have HW1 := Lib.hid (Wrong_in 1 0 0 wg HGf.out)
      go_wp2_with fail
      refine HW1.out.mono ?_
      rintro e wh ⟨rfl, hbh⟩
      have HW2 := Lib.hid (Wrong_in 1 0 0 wh (HGf.out.below hbh))
      have HBh := Lib.hid (HBf.out.trans (hbh.mono HBf.out.size))
      have HGh := Lib.hid (HGf.out.below hbh)
      clear hbh
      go_wp2_with fail
      refine HW2.out.mono ?_
      rintro e wi ⟨rfl, hbi⟩
      have hb2 := hbi.alloc hbi.size (.cells #[.string ⟨#[120]⟩] 9)
      have HGi := Lib.hid (HGh.out.below hb2)
      have HBi := Lib.hid (HBh.out.trans (hb2.mono HBh.out.size))
      clear hbi hb2
      have HT := Lib.hid (Take_nil (wi.alloc (.cells #[.string ⟨#[120]⟩] 9)))
      go_wp2_with (go_at_call 11; refine (HT.out _).mono ?_; rintro e wj ⟨rfl, hbj⟩)
      have HBj := Lib.hid (HBi.out.trans (hbj.mono HBi.out.size))
      have HW3 := Lib.hid (Wrong_in 1 0 0 wj (HGi.out.below hbj))
      clear hbj
      refine HW3.out.mono ?_
      rintro e wk ⟨rfl, hbk⟩
      have HBk := Lib.hid (HBj.out.trans (hbk.mono HBj.out.size))
      clear hbk
      go_wp2_with fail
      refine (Is_nil wk _).mono ?_
      rintro e wl ⟨rfl, hbl⟩
      have HBl := Lib.hid (HBk.out.trans (hbl.mono HBk.out.size))
      clear hbl
      go_upto_region 21 with fail
      have ha := HA.out
      have hb := HAb.out
      cases hd1 : decide (k ≤ 62) with
      | true =>
        have d1 : ((k : Int) ≤ 62) := by have := of_decide_eq_true hd1; omega
        rw [hd1] at ha
        have ha : eva = .nilIface := ha
        subst ha
        cases hd2 : decide (k ≤ 31) with
        | true =>
          have d2 : ((k : Int) ≤ 31) := by have := of_decide_eq_true hd2; omega
          rw [hd2] at hb
          have hb : evb = .nilIface := hb
          subst hb
          clear hd1 hd2
          go_wp2_with fail
          go_ret
          exact ⟨rfl, HB2.out.trans (HBl.out.mono HB2.out.size)⟩
        | false =>
          have d2 : ¬ ((k : Int) ≤ 31) := by have := of_decide_eq_false hd2; omega
          rw [hd2] at hb
          obtain ⟨c, x, y, rfl⟩ := hb
          unfold diagV
          clear hd1 hd2
          go_wp2_with fail
          go_ret
          exact ⟨rfl, HB2.out.trans (HBl.out.mono HB2.out.size)⟩
      | false =>
        have d1 : ¬ ((k : Int) ≤ 62) := by have := of_decide_eq_false hd1; omega
        have hd2 : decide (k ≤ 31) = false := decide_eq_false (by omega)
        have d2 : ¬ ((k : Int) ≤ 31) := by have := of_decide_eq_false hd2; omega
        rw [hd1] at ha
        rw [hd2] at hb
        obtain ⟨c, x, y, rfl⟩ := ha
        obtain ⟨c', x', y', rfl⟩ := hb
        unfold diagV
        clear hd1 hd2
        go_wp2_with fail
        go_ret
        exact ⟨rfl, HB2.out.trans (HBl.out.mono HB2.out.size)⟩
end Go.Proofs.YtmeacgmjpjjphaaGreatDoor
namespace Go.Proofs.YtmeacgmjpjjphaaGreatDoor
theorem parse_in : ParseC := parseC_of all0_in
end Go.Proofs.YtmeacgmjpjjphaaGreatDoor
