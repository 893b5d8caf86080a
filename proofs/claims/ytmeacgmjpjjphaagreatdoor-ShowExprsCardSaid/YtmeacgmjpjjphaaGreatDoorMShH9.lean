/- The texts of nodes. PRINTED by genshh.py. -/
import Derived.Test.YtmeacgmjpjjphaaGreatDoorMShH4
set_option linter.unusedVariables false
set_option linter.unusedSimpArgs false
namespace Go.Proofs.YtmeacgmjpjjphaaGreatDoor
open Go.RowKit Go.Shelf
open Tr (Nd TreeAt Own Ints Fine ndV)
open Tr.TreP (WF fits places nd inT)

set_option maxRecDepth 100000 in
set_option maxHeartbeats 8000000 in
theorem tx_or {B t : Nat} {v : Value} {ms : List (Nd × Value)} (op name : ByteArray) (line col num k0 k1 : Int) (t0 t1 : Tm) (b off cap : Nat) (e : op = kOr) (W : World) (hT : TreeAt W B t v ms) (ht : TabOk W) (hc0 : W.cell? ⟨b, off, none⟩ = some (.int .i64 k0)) (hc1 : W.cell? ⟨b, off + 1, none⟩ = some (.int .i64 k1)) (hn : name.size ≤ 2097152) (hK0 : KidC B t v ms k0 t0) (hK1 : KidC B t v ms k1 t1) :
    Calls Tryz.prog 61 #[.agg #[.pointer (some ⟨t, 0, none⟩)], .agg #[.string op, .int .i64 line, .int .i64 col, .string name, .int .i64 num, .slice (some ⟨b, off, none⟩) 2 cap]] W fun e W' => e = .returned (.string (nodeB (.mk op name num [t0, t1]) [textT t0, textT t1])) ∧ Below W.heap.size W W' := by
  have hnb : nodeB (.mk op name num [t0, t1]) [textT t0, textT t1] = atB t0 (textT t0) (if lvlB op = 4 then 5 else lvlB op) ++ ⟨#[32]⟩ ++ op ++ ⟨#[32]⟩ ++ atB t1 (textT t1) (lvlB op + 1) := by
    rw [e]
    kernel_rfl
  rw [hnb]
  clear hnb
  have hl26 : lvlB op = 2 ∨ lvlB op = 3 ∨ lvlB op = 4 ∨ lvlB op = 5 ∨ lvlB op = 6 := by rw [e]; decide
  have hos : op.size ≤ 20 := by rw [e]; decide
  have HTW := Lib.hid (fun W a1 a2 a3 a4 => two_in (B := B) (t := t) (v := v) (ms := ms) op name line col num k0 k1 t0 t1 b off cap W a1 a2 a3 a4 (by omega) hl26 hK0 hK1)
  clear hK0 hK1 hl26
  generalize atB t0 (textT t0) (if lvlB op = 4 then 5 else lvlB op) ++ ⟨#[32]⟩ ++ op ++ ⟨#[32]⟩ ++ atB t1 (textT t1) (lvlB op + 1) = r at *
  have h0 : (op.toList == [115, 101, 113]) = false := by rw [e]; exact (lit_eq _ _).trans (by decide)
  have h1 : (op.toList == [108, 101, 116]) = false := by rw [e]; exact (lit_eq _ _).trans (by decide)
  have h2 : (op.toList == [105, 102]) = false := by rw [e]; exact (lit_eq _ _).trans (by decide)
  have h3 : (op.toList == [116, 114, 121]) = false := by rw [e]; exact (lit_eq _ _).trans (by decide)
  have h4 : (op.toList == [111, 117, 116]) = false := by rw [e]; exact (lit_eq _ _).trans (by decide)
  have h5 : (op.toList == [115, 101, 116]) = false := by rw [e]; exact (lit_eq _ _).trans (by decide)
  have h6 : (op.toList == [110, 101, 103]) = false := by rw [e]; exact (lit_eq _ _).trans (by decide)
  have h7 : (op.toList == [110, 111, 116]) = false := by rw [e]; exact (lit_eq _ _).trans (by decide)
  have h8 : (op.toList == [102, 115, 116]) = false := by rw [e]; exact (lit_eq _ _).trans (by decide)
  have h9 : (op.toList == [115, 110, 100]) = false := by rw [e]; exact (lit_eq _ _).trans (by decide)
  have h10 : (op.toList == [111, 114]) = true := by rw [e]; exact (lit_eq _ _).trans (by decide)
  clear e
  obtain ⟨i0, hi0, hz0, hz1, hz2⟩ := info_parts Tr.info_int
  have hb := ((Below.refl W.heap.size W).alloc (Nat.le_refl _) (.cells #[.pointer (some ⟨t, 0, none⟩)] 83)).alloc (by simp) (.cells #[.string op, .int .i64 line, .int .i64 col, .string name, .int .i64 num, .slice (some ⟨b, off, none⟩) 2 cap] 53)
  have hk1 := (Below.heap_alloc (W.alloc (.cells #[.pointer (some ⟨t, 0, none⟩)] 83)) (.cells #[.string op, .int .i64 line, .int .i64 col, .string name, .int .i64 num, .slice (some ⟨b, off, none⟩) 2 cap] 53) W.heap.size (by simp)).trans (Tr.last W (.cells #[.pointer (some ⟨t, 0, none⟩)] 83))
  have hk2 := Tr.last (W.alloc (.cells #[.pointer (some ⟨t, 0, none⟩)] 83)) (.cells #[.string op, .int .i64 line, .int .i64 col, .string name, .int .i64 num, .slice (some ⟨b, off, none⟩) 2 cap] 53)
  rw [show (W.alloc (.cells #[.pointer (some ⟨t, 0, none⟩)] 83)).heap.size = W.heap.size + 1 by simp] at hk2
  have hd0 := (hb.cell (p := ⟨b, off, none⟩) (Tr.cell_lt hc0)).trans hc0
  have hd1 := (hb.cell (p := ⟨b, off + 1, none⟩) (Tr.cell_lt hc1)).trans hc1
  have HB := Lib.hid hb
  have HX := Lib.hid (And.intro hk1 (And.intro hk2 (And.intro hd0 hd1)))
  have HT := Lib.hid (hT.below hb)
  have HTA := Lib.hid (ht.under hb)
  clear hb hk1 hk2 hT ht hc0 hd0 hc1 hd1
  go_enter Tryz.func61, Tryz.ntmps61
  go_upto_region 1 with fail
  generalize (W.alloc (.cells #[.pointer (some ⟨t, 0, none⟩)] 83)).alloc (.cells #[.string op, .int .i64 line, .int .i64 col, .string name, .int .i64 num, .slice (some ⟨b, off, none⟩) 2 cap] 53) = w1 at *
  obtain ⟨hk1, hk2, hd0, hd1⟩ := HX.out
  have c6 := cell1 hk1
  obtain ⟨c0, c1, c2, c3, c4, c5⟩ := Tr.cellsOf6 hk2
  have HN1 := Lib.hid (show ∀ j u, ([.int .i64 k0, .int .i64 k1] : List Value)[j]? = some u → w1.cell? ((⟨b, off, none⟩ : Addr).add j) = some u from fun j u hu => by
    rw [Tr.add_at]
    match j, hu with
    | 0, hu => cases hu; exact hd0
    | 1, hu => cases hu; exact hd1
    | j + 2, hu => simp at hu)
  go_wp2_with (at_builtin; refine wpList_append_own _ rfl _ _ 51 rfl w1.heap.size 3 i0 (.int .i64 0) 1 8 Tryz.underlying51 hi0 hz0 hz1 hz2 rfl (by decide) (.slice none 0 0) 0 [] rfl (World.ownsRow_nil _ _ _ _) ⟨b, off, none⟩ 2 cap [.int .i64 k0, .int .i64 k1] rfl rfl HN1.out (by simp [Value.oneCell']) (by decide) (by decide) (Nat.le_refl _) ?_)
  intro v2 w2 hown2 hgrow2 hnil2
  have HBg := Lib.hid ((Below.refl w1.heap.size w1).grown hgrow2 (Nat.le_refl _) (fun k hk => by cases hk))
  obtain ⟨A2, c2', rfl⟩ := row_form hown2
  have HO2 := Lib.hid hown2
  clear hown2 hgrow2 hnil2
  have hb2s := HBg.out.size
  go_wp2_with (at_builtin; refine wpList_append_own _ rfl _ _ 51 rfl w1.heap.size 3 i0 (.int .i64 0) 1 8 Tryz.underlying51 hi0 hz0 hz1 hz2 rfl (by decide) (.slice A2 (0 + 2) c2') (0 + 2) [.int .i64 k0, .int .i64 k1] rfl (HO2.out.alloc _) ⟨w2.heap.size, 0, none⟩ 3 3 [.int .i64 (-1), .int .i64 (-1), .int .i64 (-1)] rfl rfl ?q1 ?q2 ?q3 ?q4 ?q5 ?_)
  case q1 => first | exact fun j u h => h | exact World.news_of_block (Tr.last _ _)
  case q2 => simp [Value.oneCell']
  case q3 => decide
  case q4 => decide
  case q5 => first | omega | (simp; omega)
  intro v3 w3 hown3 hgrow3 hnil3
  have hb3 : Below w1.heap.size w1 w3 := (HBg.out.alloc hb2s _).grown hgrow3 (by simp; omega) (fun k hk => (row_lt HO2.out hk).1)
  obtain ⟨g, cap3, rfl, hgB, hgl⟩ := hown3.form (by decide)
  have e0 : w3.cell? ⟨g, 0, none⟩ = some (.int .i64 k0) := hown3.cellAt 0 (by decide)
  have e1 : w3.cell? ⟨g, 1, none⟩ = some (.int .i64 k1) := hown3.cellAt 1 (by decide)
  have HB3 := Lib.hid (HB.out.trans (hb3.mono HB.out.size))
  have HT3 := Lib.hid (HT.out.below hb3)
  have HTA3 := Lib.hid (HTA.out.under hb3)
  have c6 := (hb3.cell (p := ⟨W.heap.size, 0, none⟩) (Tr.cell_lt c6)).trans c6
  have c0 := (hb3.cell (p := ⟨W.heap.size + 1, 0, none⟩) (Tr.cell_lt c0)).trans c0
  have c3 := (hb3.cell (p := ⟨W.heap.size + 1, 3, none⟩) (Tr.cell_lt c3)).trans c3
  have c5 := (hb3.cell (p := ⟨W.heap.size + 1, 5, none⟩) (Tr.cell_lt c5)).trans c5
  have f0 := (hb3.cell (p := ⟨b, off, none⟩) (Tr.cell_lt hd0)).trans hd0
  have f1 := (hb3.cell (p := ⟨b, off + 1, none⟩) (Tr.cell_lt hd1)).trans hd1
  have HC := Lib.hid (HTW.out w3 HT3.out HTA3.out f0 f1)
  have c1 := (hb3.cell (p := ⟨W.heap.size + 1, 1, none⟩) (Tr.cell_lt c1)).trans c1
  have c2 := (hb3.cell (p := ⟨W.heap.size + 1, 2, none⟩) (Tr.cell_lt c2)).trans c2
  have c4 := (hb3.cell (p := ⟨W.heap.size + 1, 4, none⟩) (Tr.cell_lt c4)).trans c4
  clear hown3 hgrow3 hnil3 hb3 hk1 hk2 f0 f1 hd0 hd1
  go_wp2_with fail
  refine HC.out.mono ?_
  rintro e v0 ⟨rfl, hbn⟩
  have hfin := HB3.out.trans (hbn.mono HB3.out.size)
  clear hbn
  go_wp2_with fail
  go_ret
  exact ⟨rfl, hfin⟩
set_option maxRecDepth 100000 in
set_option maxHeartbeats 8000000 in
theorem tx_and {B t : Nat} {v : Value} {ms : List (Nd × Value)} (op name : ByteArray) (line col num k0 k1 : Int) (t0 t1 : Tm) (b off cap : Nat) (e : op = kAnd) (W : World) (hT : TreeAt W B t v ms) (ht : TabOk W) (hc0 : W.cell? ⟨b, off, none⟩ = some (.int .i64 k0)) (hc1 : W.cell? ⟨b, off + 1, none⟩ = some (.int .i64 k1)) (hn : name.size ≤ 2097152) (hK0 : KidC B t v ms k0 t0) (hK1 : KidC B t v ms k1 t1) :
    Calls Tryz.prog 61 #[.agg #[.pointer (some ⟨t, 0, none⟩)], .agg #[.string op, .int .i64 line, .int .i64 col, .string name, .int .i64 num, .slice (some ⟨b, off, none⟩) 2 cap]] W fun e W' => e = .returned (.string (nodeB (.mk op name num [t0, t1]) [textT t0, textT t1])) ∧ Below W.heap.size W W' := by
  have hnb : nodeB (.mk op name num [t0, t1]) [textT t0, textT t1] = atB t0 (textT t0) (if lvlB op = 4 then 5 else lvlB op) ++ ⟨#[32]⟩ ++ op ++ ⟨#[32]⟩ ++ atB t1 (textT t1) (lvlB op + 1) := by
    rw [e]
    kernel_rfl
  rw [hnb]
  clear hnb
  have hl26 : lvlB op = 2 ∨ lvlB op = 3 ∨ lvlB op = 4 ∨ lvlB op = 5 ∨ lvlB op = 6 := by rw [e]; decide
  have hos : op.size ≤ 20 := by rw [e]; decide
  have HTW := Lib.hid (fun W a1 a2 a3 a4 => two_in (B := B) (t := t) (v := v) (ms := ms) op name line col num k0 k1 t0 t1 b off cap W a1 a2 a3 a4 (by omega) hl26 hK0 hK1)
  clear hK0 hK1 hl26
  generalize atB t0 (textT t0) (if lvlB op = 4 then 5 else lvlB op) ++ ⟨#[32]⟩ ++ op ++ ⟨#[32]⟩ ++ atB t1 (textT t1) (lvlB op + 1) = r at *
  have h0 : (op.toList == [115, 101, 113]) = false := by rw [e]; exact (lit_eq _ _).trans (by decide)
  have h1 : (op.toList == [108, 101, 116]) = false := by rw [e]; exact (lit_eq _ _).trans (by decide)
  have h2 : (op.toList == [105, 102]) = false := by rw [e]; exact (lit_eq _ _).trans (by decide)
  have h3 : (op.toList == [116, 114, 121]) = false := by rw [e]; exact (lit_eq _ _).trans (by decide)
  have h4 : (op.toList == [111, 117, 116]) = false := by rw [e]; exact (lit_eq _ _).trans (by decide)
  have h5 : (op.toList == [115, 101, 116]) = false := by rw [e]; exact (lit_eq _ _).trans (by decide)
  have h6 : (op.toList == [110, 101, 103]) = false := by rw [e]; exact (lit_eq _ _).trans (by decide)
  have h7 : (op.toList == [110, 111, 116]) = false := by rw [e]; exact (lit_eq _ _).trans (by decide)
  have h8 : (op.toList == [102, 115, 116]) = false := by rw [e]; exact (lit_eq _ _).trans (by decide)
  have h9 : (op.toList == [115, 110, 100]) = false := by rw [e]; exact (lit_eq _ _).trans (by decide)
  have h10 : (op.toList == [111, 114]) = false := by rw [e]; exact (lit_eq _ _).trans (by decide)
  have h11 : (op.toList == [97, 110, 100]) = true := by rw [e]; exact (lit_eq _ _).trans (by decide)
  clear e
  obtain ⟨i0, hi0, hz0, hz1, hz2⟩ := info_parts Tr.info_int
  have hb := ((Below.refl W.heap.size W).alloc (Nat.le_refl _) (.cells #[.pointer (some ⟨t, 0, none⟩)] 83)).alloc (by simp) (.cells #[.string op, .int .i64 line, .int .i64 col, .string name, .int .i64 num, .slice (some ⟨b, off, none⟩) 2 cap] 53)
  have hk1 := (Below.heap_alloc (W.alloc (.cells #[.pointer (some ⟨t, 0, none⟩)] 83)) (.cells #[.string op, .int .i64 line, .int .i64 col, .string name, .int .i64 num, .slice (some ⟨b, off, none⟩) 2 cap] 53) W.heap.size (by simp)).trans (Tr.last W (.cells #[.pointer (some ⟨t, 0, none⟩)] 83))
  have hk2 := Tr.last (W.alloc (.cells #[.pointer (some ⟨t, 0, none⟩)] 83)) (.cells #[.string op, .int .i64 line, .int .i64 col, .string name, .int .i64 num, .slice (some ⟨b, off, none⟩) 2 cap] 53)
  rw [show (W.alloc (.cells #[.pointer (some ⟨t, 0, none⟩)] 83)).heap.size = W.heap.size + 1 by simp] at hk2
  have hd0 := (hb.cell (p := ⟨b, off, none⟩) (Tr.cell_lt hc0)).trans hc0
  have hd1 := (hb.cell (p := ⟨b, off + 1, none⟩) (Tr.cell_lt hc1)).trans hc1
  have HB := Lib.hid hb
  have HX := Lib.hid (And.intro hk1 (And.intro hk2 (And.intro hd0 hd1)))
  have HT := Lib.hid (hT.below hb)
  have HTA := Lib.hid (ht.under hb)
  clear hb hk1 hk2 hT ht hc0 hd0 hc1 hd1
  go_enter Tryz.func61, Tryz.ntmps61
  go_upto_region 1 with fail
  generalize (W.alloc (.cells #[.pointer (some ⟨t, 0, none⟩)] 83)).alloc (.cells #[.string op, .int .i64 line, .int .i64 col, .string name, .int .i64 num, .slice (some ⟨b, off, none⟩) 2 cap] 53) = w1 at *
  obtain ⟨hk1, hk2, hd0, hd1⟩ := HX.out
  have c6 := cell1 hk1
  obtain ⟨c0, c1, c2, c3, c4, c5⟩ := Tr.cellsOf6 hk2
  have HN1 := Lib.hid (show ∀ j u, ([.int .i64 k0, .int .i64 k1] : List Value)[j]? = some u → w1.cell? ((⟨b, off, none⟩ : Addr).add j) = some u from fun j u hu => by
    rw [Tr.add_at]
    match j, hu with
    | 0, hu => cases hu; exact hd0
    | 1, hu => cases hu; exact hd1
    | j + 2, hu => simp at hu)
  go_wp2_with (at_builtin; refine wpList_append_own _ rfl _ _ 51 rfl w1.heap.size 3 i0 (.int .i64 0) 1 8 Tryz.underlying51 hi0 hz0 hz1 hz2 rfl (by decide) (.slice none 0 0) 0 [] rfl (World.ownsRow_nil _ _ _ _) ⟨b, off, none⟩ 2 cap [.int .i64 k0, .int .i64 k1] rfl rfl HN1.out (by simp [Value.oneCell']) (by decide) (by decide) (Nat.le_refl _) ?_)
  intro v2 w2 hown2 hgrow2 hnil2
  have HBg := Lib.hid ((Below.refl w1.heap.size w1).grown hgrow2 (Nat.le_refl _) (fun k hk => by cases hk))
  obtain ⟨A2, c2', rfl⟩ := row_form hown2
  have HO2 := Lib.hid hown2
  clear hown2 hgrow2 hnil2
  have hb2s := HBg.out.size
  go_wp2_with (at_builtin; refine wpList_append_own _ rfl _ _ 51 rfl w1.heap.size 3 i0 (.int .i64 0) 1 8 Tryz.underlying51 hi0 hz0 hz1 hz2 rfl (by decide) (.slice A2 (0 + 2) c2') (0 + 2) [.int .i64 k0, .int .i64 k1] rfl (HO2.out.alloc _) ⟨w2.heap.size, 0, none⟩ 3 3 [.int .i64 (-1), .int .i64 (-1), .int .i64 (-1)] rfl rfl ?q1 ?q2 ?q3 ?q4 ?q5 ?_)
  case q1 => first | exact fun j u h => h | exact World.news_of_block (Tr.last _ _)
  case q2 => simp [Value.oneCell']
  case q3 => decide
  case q4 => decide
  case q5 => first | omega | (simp; omega)
  intro v3 w3 hown3 hgrow3 hnil3
  have hb3 : Below w1.heap.size w1 w3 := (HBg.out.alloc hb2s _).grown hgrow3 (by simp; omega) (fun k hk => (row_lt HO2.out hk).1)
  obtain ⟨g, cap3, rfl, hgB, hgl⟩ := hown3.form (by decide)
  have e0 : w3.cell? ⟨g, 0, none⟩ = some (.int .i64 k0) := hown3.cellAt 0 (by decide)
  have e1 : w3.cell? ⟨g, 1, none⟩ = some (.int .i64 k1) := hown3.cellAt 1 (by decide)
  have HB3 := Lib.hid (HB.out.trans (hb3.mono HB.out.size))
  have HT3 := Lib.hid (HT.out.below hb3)
  have HTA3 := Lib.hid (HTA.out.under hb3)
  have c6 := (hb3.cell (p := ⟨W.heap.size, 0, none⟩) (Tr.cell_lt c6)).trans c6
  have c0 := (hb3.cell (p := ⟨W.heap.size + 1, 0, none⟩) (Tr.cell_lt c0)).trans c0
  have c3 := (hb3.cell (p := ⟨W.heap.size + 1, 3, none⟩) (Tr.cell_lt c3)).trans c3
  have c5 := (hb3.cell (p := ⟨W.heap.size + 1, 5, none⟩) (Tr.cell_lt c5)).trans c5
  have f0 := (hb3.cell (p := ⟨b, off, none⟩) (Tr.cell_lt hd0)).trans hd0
  have f1 := (hb3.cell (p := ⟨b, off + 1, none⟩) (Tr.cell_lt hd1)).trans hd1
  have HC := Lib.hid (HTW.out w3 HT3.out HTA3.out f0 f1)
  have c1 := (hb3.cell (p := ⟨W.heap.size + 1, 1, none⟩) (Tr.cell_lt c1)).trans c1
  have c2 := (hb3.cell (p := ⟨W.heap.size + 1, 2, none⟩) (Tr.cell_lt c2)).trans c2
  have c4 := (hb3.cell (p := ⟨W.heap.size + 1, 4, none⟩) (Tr.cell_lt c4)).trans c4
  clear hown3 hgrow3 hnil3 hb3 hk1 hk2 f0 f1 hd0 hd1
  go_wp2_with fail
  refine HC.out.mono ?_
  rintro e v0 ⟨rfl, hbn⟩
  have hfin := HB3.out.trans (hbn.mono HB3.out.size)
  clear hbn
  go_wp2_with fail
  go_ret
  exact ⟨rfl, hfin⟩
set_option maxRecDepth 100000 in
set_option maxHeartbeats 8000000 in
theorem tx_eq {B t : Nat} {v : Value} {ms : List (Nd × Value)} (op name : ByteArray) (line col num k0 k1 : Int) (t0 t1 : Tm) (b off cap : Nat) (e : op = kEq) (W : World) (hT : TreeAt W B t v ms) (ht : TabOk W) (hc0 : W.cell? ⟨b, off, none⟩ = some (.int .i64 k0)) (hc1 : W.cell? ⟨b, off + 1, none⟩ = some (.int .i64 k1)) (hn : name.size ≤ 2097152) (hK0 : KidC B t v ms k0 t0) (hK1 : KidC B t v ms k1 t1) :
    Calls Tryz.prog 61 #[.agg #[.pointer (some ⟨t, 0, none⟩)], .agg #[.string op, .int .i64 line, .int .i64 col, .string name, .int .i64 num, .slice (some ⟨b, off, none⟩) 2 cap]] W fun e W' => e = .returned (.string (nodeB (.mk op name num [t0, t1]) [textT t0, textT t1])) ∧ Below W.heap.size W W' := by
  have hnb : nodeB (.mk op name num [t0, t1]) [textT t0, textT t1] = atB t0 (textT t0) (if lvlB op = 4 then 5 else lvlB op) ++ ⟨#[32]⟩ ++ op ++ ⟨#[32]⟩ ++ atB t1 (textT t1) (lvlB op + 1) := by
    rw [e]
    kernel_rfl
  rw [hnb]
  clear hnb
  have hl26 : lvlB op = 2 ∨ lvlB op = 3 ∨ lvlB op = 4 ∨ lvlB op = 5 ∨ lvlB op = 6 := by rw [e]; decide
  have hos : op.size ≤ 20 := by rw [e]; decide
  have HTW := Lib.hid (fun W a1 a2 a3 a4 => two_in (B := B) (t := t) (v := v) (ms := ms) op name line col num k0 k1 t0 t1 b off cap W a1 a2 a3 a4 (by omega) hl26 hK0 hK1)
  clear hK0 hK1 hl26
  generalize atB t0 (textT t0) (if lvlB op = 4 then 5 else lvlB op) ++ ⟨#[32]⟩ ++ op ++ ⟨#[32]⟩ ++ atB t1 (textT t1) (lvlB op + 1) = r at *
  have h0 : (op.toList == [115, 101, 113]) = false := by rw [e]; exact (lit_eq _ _).trans (by decide)
  have h1 : (op.toList == [108, 101, 116]) = false := by rw [e]; exact (lit_eq _ _).trans (by decide)
  have h2 : (op.toList == [105, 102]) = false := by rw [e]; exact (lit_eq _ _).trans (by decide)
  have h3 : (op.toList == [116, 114, 121]) = false := by rw [e]; exact (lit_eq _ _).trans (by decide)
  have h4 : (op.toList == [111, 117, 116]) = false := by rw [e]; exact (lit_eq _ _).trans (by decide)
  have h5 : (op.toList == [115, 101, 116]) = false := by rw [e]; exact (lit_eq _ _).trans (by decide)
  have h6 : (op.toList == [110, 101, 103]) = false := by rw [e]; exact (lit_eq _ _).trans (by decide)
  have h7 : (op.toList == [110, 111, 116]) = false := by rw [e]; exact (lit_eq _ _).trans (by decide)
  have h8 : (op.toList == [102, 115, 116]) = false := by rw [e]; exact (lit_eq _ _).trans (by decide)
  have h9 : (op.toList == [115, 110, 100]) = false := by rw [e]; exact (lit_eq _ _).trans (by decide)
  have h10 : (op.toList == [111, 114]) = false := by rw [e]; exact (lit_eq _ _).trans (by decide)
  have h11 : (op.toList == [97, 110, 100]) = false := by rw [e]; exact (lit_eq _ _).trans (by decide)
  have h12 : (op.toList == [61]) = true := by rw [e]; exact (lit_eq _ _).trans (by decide)
  clear e
  obtain ⟨i0, hi0, hz0, hz1, hz2⟩ := info_parts Tr.info_int
  have hb := ((Below.refl W.heap.size W).alloc (Nat.le_refl _) (.cells #[.pointer (some ⟨t, 0, none⟩)] 83)).alloc (by simp) (.cells #[.string op, .int .i64 line, .int .i64 col, .string name, .int .i64 num, .slice (some ⟨b, off, none⟩) 2 cap] 53)
  have hk1 := (Below.heap_alloc (W.alloc (.cells #[.pointer (some ⟨t, 0, none⟩)] 83)) (.cells #[.string op, .int .i64 line, .int .i64 col, .string name, .int .i64 num, .slice (some ⟨b, off, none⟩) 2 cap] 53) W.heap.size (by simp)).trans (Tr.last W (.cells #[.pointer (some ⟨t, 0, none⟩)] 83))
  have hk2 := Tr.last (W.alloc (.cells #[.pointer (some ⟨t, 0, none⟩)] 83)) (.cells #[.string op, .int .i64 line, .int .i64 col, .string name, .int .i64 num, .slice (some ⟨b, off, none⟩) 2 cap] 53)
  rw [show (W.alloc (.cells #[.pointer (some ⟨t, 0, none⟩)] 83)).heap.size = W.heap.size + 1 by simp] at hk2
  have hd0 := (hb.cell (p := ⟨b, off, none⟩) (Tr.cell_lt hc0)).trans hc0
  have hd1 := (hb.cell (p := ⟨b, off + 1, none⟩) (Tr.cell_lt hc1)).trans hc1
  have HB := Lib.hid hb
  have HX := Lib.hid (And.intro hk1 (And.intro hk2 (And.intro hd0 hd1)))
  have HT := Lib.hid (hT.below hb)
  have HTA := Lib.hid (ht.under hb)
  clear hb hk1 hk2 hT ht hc0 hd0 hc1 hd1
  go_enter Tryz.func61, Tryz.ntmps61
  go_upto_region 1 with fail
  generalize (W.alloc (.cells #[.pointer (some ⟨t, 0, none⟩)] 83)).alloc (.cells #[.string op, .int .i64 line, .int .i64 col, .string name, .int .i64 num, .slice (some ⟨b, off, none⟩) 2 cap] 53) = w1 at *
  obtain ⟨hk1, hk2, hd0, hd1⟩ := HX.out
  have c6 := cell1 hk1
  obtain ⟨c0, c1, c2, c3, c4, c5⟩ := Tr.cellsOf6 hk2
  have HN1 := Lib.hid (show ∀ j u, ([.int .i64 k0, .int .i64 k1] : List Value)[j]? = some u → w1.cell? ((⟨b, off, none⟩ : Addr).add j) = some u from fun j u hu => by
    rw [Tr.add_at]
    match j, hu with
    | 0, hu => cases hu; exact hd0
    | 1, hu => cases hu; exact hd1
    | j + 2, hu => simp at hu)
  go_wp2_with (at_builtin; refine wpList_append_own _ rfl _ _ 51 rfl w1.heap.size 3 i0 (.int .i64 0) 1 8 Tryz.underlying51 hi0 hz0 hz1 hz2 rfl (by decide) (.slice none 0 0) 0 [] rfl (World.ownsRow_nil _ _ _ _) ⟨b, off, none⟩ 2 cap [.int .i64 k0, .int .i64 k1] rfl rfl HN1.out (by simp [Value.oneCell']) (by decide) (by decide) (Nat.le_refl _) ?_)
  intro v2 w2 hown2 hgrow2 hnil2
  have HBg := Lib.hid ((Below.refl w1.heap.size w1).grown hgrow2 (Nat.le_refl _) (fun k hk => by cases hk))
  obtain ⟨A2, c2', rfl⟩ := row_form hown2
  have HO2 := Lib.hid hown2
  clear hown2 hgrow2 hnil2
  have hb2s := HBg.out.size
  go_wp2_with (at_builtin; refine wpList_append_own _ rfl _ _ 51 rfl w1.heap.size 3 i0 (.int .i64 0) 1 8 Tryz.underlying51 hi0 hz0 hz1 hz2 rfl (by decide) (.slice A2 (0 + 2) c2') (0 + 2) [.int .i64 k0, .int .i64 k1] rfl (HO2.out.alloc _) ⟨w2.heap.size, 0, none⟩ 3 3 [.int .i64 (-1), .int .i64 (-1), .int .i64 (-1)] rfl rfl ?q1 ?q2 ?q3 ?q4 ?q5 ?_)
  case q1 => first | exact fun j u h => h | exact World.news_of_block (Tr.last _ _)
  case q2 => simp [Value.oneCell']
  case q3 => decide
  case q4 => decide
  case q5 => first | omega | (simp; omega)
  intro v3 w3 hown3 hgrow3 hnil3
  have hb3 : Below w1.heap.size w1 w3 := (HBg.out.alloc hb2s _).grown hgrow3 (by simp; omega) (fun k hk => (row_lt HO2.out hk).1)
  obtain ⟨g, cap3, rfl, hgB, hgl⟩ := hown3.form (by decide)
  have e0 : w3.cell? ⟨g, 0, none⟩ = some (.int .i64 k0) := hown3.cellAt 0 (by decide)
  have e1 : w3.cell? ⟨g, 1, none⟩ = some (.int .i64 k1) := hown3.cellAt 1 (by decide)
  have HB3 := Lib.hid (HB.out.trans (hb3.mono HB.out.size))
  have HT3 := Lib.hid (HT.out.below hb3)
  have HTA3 := Lib.hid (HTA.out.under hb3)
  have c6 := (hb3.cell (p := ⟨W.heap.size, 0, none⟩) (Tr.cell_lt c6)).trans c6
  have c0 := (hb3.cell (p := ⟨W.heap.size + 1, 0, none⟩) (Tr.cell_lt c0)).trans c0
  have c3 := (hb3.cell (p := ⟨W.heap.size + 1, 3, none⟩) (Tr.cell_lt c3)).trans c3
  have c5 := (hb3.cell (p := ⟨W.heap.size + 1, 5, none⟩) (Tr.cell_lt c5)).trans c5
  have f0 := (hb3.cell (p := ⟨b, off, none⟩) (Tr.cell_lt hd0)).trans hd0
  have f1 := (hb3.cell (p := ⟨b, off + 1, none⟩) (Tr.cell_lt hd1)).trans hd1
  have HC := Lib.hid (HTW.out w3 HT3.out HTA3.out f0 f1)
  have c1 := (hb3.cell (p := ⟨W.heap.size + 1, 1, none⟩) (Tr.cell_lt c1)).trans c1
  have c2 := (hb3.cell (p := ⟨W.heap.size + 1, 2, none⟩) (Tr.cell_lt c2)).trans c2
  have c4 := (hb3.cell (p := ⟨W.heap.size + 1, 4, none⟩) (Tr.cell_lt c4)).trans c4
  clear hown3 hgrow3 hnil3 hb3 hk1 hk2 f0 f1 hd0 hd1
  go_wp2_with fail
  refine HC.out.mono ?_
  rintro e v0 ⟨rfl, hbn⟩
  have hfin := HB3.out.trans (hbn.mono HB3.out.size)
  clear hbn
  go_wp2_with fail
  go_ret
  exact ⟨rfl, hfin⟩
set_option maxRecDepth 100000 in
set_option maxHeartbeats 8000000 in
theorem tx_lt {B t : Nat} {v : Value} {ms : List (Nd × Value)} (op name : ByteArray) (line col num k0 k1 : Int) (t0 t1 : Tm) (b off cap : Nat) (e : op = kLt) (W : World) (hT : TreeAt W B t v ms) (ht : TabOk W) (hc0 : W.cell? ⟨b, off, none⟩ = some (.int .i64 k0)) (hc1 : W.cell? ⟨b, off + 1, none⟩ = some (.int .i64 k1)) (hn : name.size ≤ 2097152) (hK0 : KidC B t v ms k0 t0) (hK1 : KidC B t v ms k1 t1) :
    Calls Tryz.prog 61 #[.agg #[.pointer (some ⟨t, 0, none⟩)], .agg #[.string op, .int .i64 line, .int .i64 col, .string name, .int .i64 num, .slice (some ⟨b, off, none⟩) 2 cap]] W fun e W' => e = .returned (.string (nodeB (.mk op name num [t0, t1]) [textT t0, textT t1])) ∧ Below W.heap.size W W' := by
  have hnb : nodeB (.mk op name num [t0, t1]) [textT t0, textT t1] = atB t0 (textT t0) (if lvlB op = 4 then 5 else lvlB op) ++ ⟨#[32]⟩ ++ op ++ ⟨#[32]⟩ ++ atB t1 (textT t1) (lvlB op + 1) := by
    rw [e]
    kernel_rfl
  rw [hnb]
  clear hnb
  have hl26 : lvlB op = 2 ∨ lvlB op = 3 ∨ lvlB op = 4 ∨ lvlB op = 5 ∨ lvlB op = 6 := by rw [e]; decide
  have hos : op.size ≤ 20 := by rw [e]; decide
  have HTW := Lib.hid (fun W a1 a2 a3 a4 => two_in (B := B) (t := t) (v := v) (ms := ms) op name line col num k0 k1 t0 t1 b off cap W a1 a2 a3 a4 (by omega) hl26 hK0 hK1)
  clear hK0 hK1 hl26
  generalize atB t0 (textT t0) (if lvlB op = 4 then 5 else lvlB op) ++ ⟨#[32]⟩ ++ op ++ ⟨#[32]⟩ ++ atB t1 (textT t1) (lvlB op + 1) = r at *
  have h0 : (op.toList == [115, 101, 113]) = false := by rw [e]; exact (lit_eq _ _).trans (by decide)
  have h1 : (op.toList == [108, 101, 116]) = false := by rw [e]; exact (lit_eq _ _).trans (by decide)
  have h2 : (op.toList == [105, 102]) = false := by rw [e]; exact (lit_eq _ _).trans (by decide)
  have h3 : (op.toList == [116, 114, 121]) = false := by rw [e]; exact (lit_eq _ _).trans (by decide)
  have h4 : (op.toList == [111, 117, 116]) = false := by rw [e]; exact (lit_eq _ _).trans (by decide)
  have h5 : (op.toList == [115, 101, 116]) = false := by rw [e]; exact (lit_eq _ _).trans (by decide)
  have h6 : (op.toList == [110, 101, 103]) = false := by rw [e]; exact (lit_eq _ _).trans (by decide)
  have h7 : (op.toList == [110, 111, 116]) = false := by rw [e]; exact (lit_eq _ _).trans (by decide)
  have h8 : (op.toList == [102, 115, 116]) = false := by rw [e]; exact (lit_eq _ _).trans (by decide)
  have h9 : (op.toList == [115, 110, 100]) = false := by rw [e]; exact (lit_eq _ _).trans (by decide)
  have h10 : (op.toList == [111, 114]) = false := by rw [e]; exact (lit_eq _ _).trans (by decide)
  have h11 : (op.toList == [97, 110, 100]) = false := by rw [e]; exact (lit_eq _ _).trans (by decide)
  have h12 : (op.toList == [61]) = false := by rw [e]; exact (lit_eq _ _).trans (by decide)
  have h13 : (op.toList == [60]) = true := by rw [e]; exact (lit_eq _ _).trans (by decide)
  clear e
  obtain ⟨i0, hi0, hz0, hz1, hz2⟩ := info_parts Tr.info_int
  have hb := ((Below.refl W.heap.size W).alloc (Nat.le_refl _) (.cells #[.pointer (some ⟨t, 0, none⟩)] 83)).alloc (by simp) (.cells #[.string op, .int .i64 line, .int .i64 col, .string name, .int .i64 num, .slice (some ⟨b, off, none⟩) 2 cap] 53)
  have hk1 := (Below.heap_alloc (W.alloc (.cells #[.pointer (some ⟨t, 0, none⟩)] 83)) (.cells #[.string op, .int .i64 line, .int .i64 col, .string name, .int .i64 num, .slice (some ⟨b, off, none⟩) 2 cap] 53) W.heap.size (by simp)).trans (Tr.last W (.cells #[.pointer (some ⟨t, 0, none⟩)] 83))
  have hk2 := Tr.last (W.alloc (.cells #[.pointer (some ⟨t, 0, none⟩)] 83)) (.cells #[.string op, .int .i64 line, .int .i64 col, .string name, .int .i64 num, .slice (some ⟨b, off, none⟩) 2 cap] 53)
  rw [show (W.alloc (.cells #[.pointer (some ⟨t, 0, none⟩)] 83)).heap.size = W.heap.size + 1 by simp] at hk2
  have hd0 := (hb.cell (p := ⟨b, off, none⟩) (Tr.cell_lt hc0)).trans hc0
  have hd1 := (hb.cell (p := ⟨b, off + 1, none⟩) (Tr.cell_lt hc1)).trans hc1
  have HB := Lib.hid hb
  have HX := Lib.hid (And.intro hk1 (And.intro hk2 (And.intro hd0 hd1)))
  have HT := Lib.hid (hT.below hb)
  have HTA := Lib.hid (ht.under hb)
  clear hb hk1 hk2 hT ht hc0 hd0 hc1 hd1
  go_enter Tryz.func61, Tryz.ntmps61
  go_upto_region 1 with fail
  generalize (W.alloc (.cells #[.pointer (some ⟨t, 0, none⟩)] 83)).alloc (.cells #[.string op, .int .i64 line, .int .i64 col, .string name, .int .i64 num, .slice (some ⟨b, off, none⟩) 2 cap] 53) = w1 at *
  obtain ⟨hk1, hk2, hd0, hd1⟩ := HX.out
  have c6 := cell1 hk1
  obtain ⟨c0, c1, c2, c3, c4, c5⟩ := Tr.cellsOf6 hk2
  have HN1 := Lib.hid (show ∀ j u, ([.int .i64 k0, .int .i64 k1] : List Value)[j]? = some u → w1.cell? ((⟨b, off, none⟩ : Addr).add j) = some u from fun j u hu => by
    rw [Tr.add_at]
    match j, hu with
    | 0, hu => cases hu; exact hd0
    | 1, hu => cases hu; exact hd1
    | j + 2, hu => simp at hu)
  go_wp2_with (at_builtin; refine wpList_append_own _ rfl _ _ 51 rfl w1.heap.size 3 i0 (.int .i64 0) 1 8 Tryz.underlying51 hi0 hz0 hz1 hz2 rfl (by decide) (.slice none 0 0) 0 [] rfl (World.ownsRow_nil _ _ _ _) ⟨b, off, none⟩ 2 cap [.int .i64 k0, .int .i64 k1] rfl rfl HN1.out (by simp [Value.oneCell']) (by decide) (by decide) (Nat.le_refl _) ?_)
  intro v2 w2 hown2 hgrow2 hnil2
  have HBg := Lib.hid ((Below.refl w1.heap.size w1).grown hgrow2 (Nat.le_refl _) (fun k hk => by cases hk))
  obtain ⟨A2, c2', rfl⟩ := row_form hown2
  have HO2 := Lib.hid hown2
  clear hown2 hgrow2 hnil2
  have hb2s := HBg.out.size
  go_wp2_with (at_builtin; refine wpList_append_own _ rfl _ _ 51 rfl w1.heap.size 3 i0 (.int .i64 0) 1 8 Tryz.underlying51 hi0 hz0 hz1 hz2 rfl (by decide) (.slice A2 (0 + 2) c2') (0 + 2) [.int .i64 k0, .int .i64 k1] rfl (HO2.out.alloc _) ⟨w2.heap.size, 0, none⟩ 3 3 [.int .i64 (-1), .int .i64 (-1), .int .i64 (-1)] rfl rfl ?q1 ?q2 ?q3 ?q4 ?q5 ?_)
  case q1 => first | exact fun j u h => h | exact World.news_of_block (Tr.last _ _)
  case q2 => simp [Value.oneCell']
  case q3 => decide
  case q4 => decide
  case q5 => first | omega | (simp; omega)
  intro v3 w3 hown3 hgrow3 hnil3
  have hb3 : Below w1.heap.size w1 w3 := (HBg.out.alloc hb2s _).grown hgrow3 (by simp; omega) (fun k hk => (row_lt HO2.out hk).1)
  obtain ⟨g, cap3, rfl, hgB, hgl⟩ := hown3.form (by decide)
  have e0 : w3.cell? ⟨g, 0, none⟩ = some (.int .i64 k0) := hown3.cellAt 0 (by decide)
  have e1 : w3.cell? ⟨g, 1, none⟩ = some (.int .i64 k1) := hown3.cellAt 1 (by decide)
  have HB3 := Lib.hid (HB.out.trans (hb3.mono HB.out.size))
  have HT3 := Lib.hid (HT.out.below hb3)
  have HTA3 := Lib.hid (HTA.out.under hb3)
  have c6 := (hb3.cell (p := ⟨W.heap.size, 0, none⟩) (Tr.cell_lt c6)).trans c6
  have c0 := (hb3.cell (p := ⟨W.heap.size + 1, 0, none⟩) (Tr.cell_lt c0)).trans c0
  have c3 := (hb3.cell (p := ⟨W.heap.size + 1, 3, none⟩) (Tr.cell_lt c3)).trans c3
  have c5 := (hb3.cell (p := ⟨W.heap.size + 1, 5, none⟩) (Tr.cell_lt c5)).trans c5
  have f0 := (hb3.cell (p := ⟨b, off, none⟩) (Tr.cell_lt hd0)).trans hd0
  have f1 := (hb3.cell (p := ⟨b, off + 1, none⟩) (Tr.cell_lt hd1)).trans hd1
  have HC := Lib.hid (HTW.out w3 HT3.out HTA3.out f0 f1)
  have c1 := (hb3.cell (p := ⟨W.heap.size + 1, 1, none⟩) (Tr.cell_lt c1)).trans c1
  have c2 := (hb3.cell (p := ⟨W.heap.size + 1, 2, none⟩) (Tr.cell_lt c2)).trans c2
  have c4 := (hb3.cell (p := ⟨W.heap.size + 1, 4, none⟩) (Tr.cell_lt c4)).trans c4
  clear hown3 hgrow3 hnil3 hb3 hk1 hk2 f0 f1 hd0 hd1
  go_wp2_with fail
  refine HC.out.mono ?_
  rintro e v0 ⟨rfl, hbn⟩
  have hfin := HB3.out.trans (hbn.mono HB3.out.size)
  clear hbn
  go_wp2_with fail
  go_ret
  exact ⟨rfl, hfin⟩
end Go.Proofs.YtmeacgmjpjjphaaGreatDoor
namespace Go.Proofs.YtmeacgmjpjjphaaGreatDoor
open Go.RowKit Go.Shelf
open Tr (Nd TreeAt Own Ints Fine ndV)
open Tr.TreP (WF fits places nd inT)

set_option maxRecDepth 100000 in
set_option maxHeartbeats 8000000 in
theorem tx_plus {B t : Nat} {v : Value} {ms : List (Nd × Value)} (op name : ByteArray) (line col num k0 k1 : Int) (t0 t1 : Tm) (b off cap : Nat) (e : op = kPlus) (W : World) (hT : TreeAt W B t v ms) (ht : TabOk W) (hc0 : W.cell? ⟨b, off, none⟩ = some (.int .i64 k0)) (hc1 : W.cell? ⟨b, off + 1, none⟩ = some (.int .i64 k1)) (hn : name.size ≤ 2097152) (hK0 : KidC B t v ms k0 t0) (hK1 : KidC B t v ms k1 t1) :
    Calls Tryz.prog 61 #[.agg #[.pointer (some ⟨t, 0, none⟩)], .agg #[.string op, .int .i64 line, .int .i64 col, .string name, .int .i64 num, .slice (some ⟨b, off, none⟩) 2 cap]] W fun e W' => e = .returned (.string (nodeB (.mk op name num [t0, t1]) [textT t0, textT t1])) ∧ Below W.heap.size W W' := by
  have hnb : nodeB (.mk op name num [t0, t1]) [textT t0, textT t1] = atB t0 (textT t0) (if lvlB op = 4 then 5 else lvlB op) ++ ⟨#[32]⟩ ++ op ++ ⟨#[32]⟩ ++ atB t1 (textT t1) (lvlB op + 1) := by
    rw [e]
    kernel_rfl
  rw [hnb]
  clear hnb
  have hl26 : lvlB op = 2 ∨ lvlB op = 3 ∨ lvlB op = 4 ∨ lvlB op = 5 ∨ lvlB op = 6 := by rw [e]; decide
  have hos : op.size ≤ 20 := by rw [e]; decide
  have HTW := Lib.hid (fun W a1 a2 a3 a4 => two_in (B := B) (t := t) (v := v) (ms := ms) op name line col num k0 k1 t0 t1 b off cap W a1 a2 a3 a4 (by omega) hl26 hK0 hK1)
  clear hK0 hK1 hl26
  generalize atB t0 (textT t0) (if lvlB op = 4 then 5 else lvlB op) ++ ⟨#[32]⟩ ++ op ++ ⟨#[32]⟩ ++ atB t1 (textT t1) (lvlB op + 1) = r at *
  have h0 : (op.toList == [115, 101, 113]) = false := by rw [e]; exact (lit_eq _ _).trans (by decide)
  have h1 : (op.toList == [108, 101, 116]) = false := by rw [e]; exact (lit_eq _ _).trans (by decide)
  have h2 : (op.toList == [105, 102]) = false := by rw [e]; exact (lit_eq _ _).trans (by decide)
  have h3 : (op.toList == [116, 114, 121]) = false := by rw [e]; exact (lit_eq _ _).trans (by decide)
  have h4 : (op.toList == [111, 117, 116]) = false := by rw [e]; exact (lit_eq _ _).trans (by decide)
  have h5 : (op.toList == [115, 101, 116]) = false := by rw [e]; exact (lit_eq _ _).trans (by decide)
  have h6 : (op.toList == [110, 101, 103]) = false := by rw [e]; exact (lit_eq _ _).trans (by decide)
  have h7 : (op.toList == [110, 111, 116]) = false := by rw [e]; exact (lit_eq _ _).trans (by decide)
  have h8 : (op.toList == [102, 115, 116]) = false := by rw [e]; exact (lit_eq _ _).trans (by decide)
  have h9 : (op.toList == [115, 110, 100]) = false := by rw [e]; exact (lit_eq _ _).trans (by decide)
  have h10 : (op.toList == [111, 114]) = false := by rw [e]; exact (lit_eq _ _).trans (by decide)
  have h11 : (op.toList == [97, 110, 100]) = false := by rw [e]; exact (lit_eq _ _).trans (by decide)
  have h12 : (op.toList == [61]) = false := by rw [e]; exact (lit_eq _ _).trans (by decide)
  have h13 : (op.toList == [60]) = false := by rw [e]; exact (lit_eq _ _).trans (by decide)
  have h14 : (op.toList == [43]) = true := by rw [e]; exact (lit_eq _ _).trans (by decide)
  clear e
  obtain ⟨i0, hi0, hz0, hz1, hz2⟩ := info_parts Tr.info_int
  have hb := ((Below.refl W.heap.size W).alloc (Nat.le_refl _) (.cells #[.pointer (some ⟨t, 0, none⟩)] 83)).alloc (by simp) (.cells #[.string op, .int .i64 line, .int .i64 col, .string name, .int .i64 num, .slice (some ⟨b, off, none⟩) 2 cap] 53)
  have hk1 := (Below.heap_alloc (W.alloc (.cells #[.pointer (some ⟨t, 0, none⟩)] 83)) (.cells #[.string op, .int .i64 line, .int .i64 col, .string name, .int .i64 num, .slice (some ⟨b, off, none⟩) 2 cap] 53) W.heap.size (by simp)).trans (Tr.last W (.cells #[.pointer (some ⟨t, 0, none⟩)] 83))
  have hk2 := Tr.last (W.alloc (.cells #[.pointer (some ⟨t, 0, none⟩)] 83)) (.cells #[.string op, .int .i64 line, .int .i64 col, .string name, .int .i64 num, .slice (some ⟨b, off, none⟩) 2 cap] 53)
  rw [show (W.alloc (.cells #[.pointer (some ⟨t, 0, none⟩)] 83)).heap.size = W.heap.size + 1 by simp] at hk2
  have hd0 := (hb.cell (p := ⟨b, off, none⟩) (Tr.cell_lt hc0)).trans hc0
  have hd1 := (hb.cell (p := ⟨b, off + 1, none⟩) (Tr.cell_lt hc1)).trans hc1
  have HB := Lib.hid hb
  have HX := Lib.hid (And.intro hk1 (And.intro hk2 (And.intro hd0 hd1)))
  have HT := Lib.hid (hT.below hb)
  have HTA := Lib.hid (ht.under hb)
  clear hb hk1 hk2 hT ht hc0 hd0 hc1 hd1
  go_enter Tryz.func61, Tryz.ntmps61
  go_upto_region 1 with fail
  generalize (W.alloc (.cells #[.pointer (some ⟨t, 0, none⟩)] 83)).alloc (.cells #[.string op, .int .i64 line, .int .i64 col, .string name, .int .i64 num, .slice (some ⟨b, off, none⟩) 2 cap] 53) = w1 at *
  obtain ⟨hk1, hk2, hd0, hd1⟩ := HX.out
  have c6 := cell1 hk1
  obtain ⟨c0, c1, c2, c3, c4, c5⟩ := Tr.cellsOf6 hk2
  have HN1 := Lib.hid (show ∀ j u, ([.int .i64 k0, .int .i64 k1] : List Value)[j]? = some u → w1.cell? ((⟨b, off, none⟩ : Addr).add j) = some u from fun j u hu => by
    rw [Tr.add_at]
    match j, hu with
    | 0, hu => cases hu; exact hd0
    | 1, hu => cases hu; exact hd1
    | j + 2, hu => simp at hu)
  go_wp2_with (at_builtin; refine wpList_append_own _ rfl _ _ 51 rfl w1.heap.size 3 i0 (.int .i64 0) 1 8 Tryz.underlying51 hi0 hz0 hz1 hz2 rfl (by decide) (.slice none 0 0) 0 [] rfl (World.ownsRow_nil _ _ _ _) ⟨b, off, none⟩ 2 cap [.int .i64 k0, .int .i64 k1] rfl rfl HN1.out (by simp [Value.oneCell']) (by decide) (by decide) (Nat.le_refl _) ?_)
  intro v2 w2 hown2 hgrow2 hnil2
  have HBg := Lib.hid ((Below.refl w1.heap.size w1).grown hgrow2 (Nat.le_refl _) (fun k hk => by cases hk))
  obtain ⟨A2, c2', rfl⟩ := row_form hown2
  have HO2 := Lib.hid hown2
  clear hown2 hgrow2 hnil2
  have hb2s := HBg.out.size
  go_wp2_with (at_builtin; refine wpList_append_own _ rfl _ _ 51 rfl w1.heap.size 3 i0 (.int .i64 0) 1 8 Tryz.underlying51 hi0 hz0 hz1 hz2 rfl (by decide) (.slice A2 (0 + 2) c2') (0 + 2) [.int .i64 k0, .int .i64 k1] rfl (HO2.out.alloc _) ⟨w2.heap.size, 0, none⟩ 3 3 [.int .i64 (-1), .int .i64 (-1), .int .i64 (-1)] rfl rfl ?q1 ?q2 ?q3 ?q4 ?q5 ?_)
  case q1 => first | exact fun j u h => h | exact World.news_of_block (Tr.last _ _)
  case q2 => simp [Value.oneCell']
  case q3 => decide
  case q4 => decide
  case q5 => first | omega | (simp; omega)
  intro v3 w3 hown3 hgrow3 hnil3
  have hb3 : Below w1.heap.size w1 w3 := (HBg.out.alloc hb2s _).grown hgrow3 (by simp; omega) (fun k hk => (row_lt HO2.out hk).1)
  obtain ⟨g, cap3, rfl, hgB, hgl⟩ := hown3.form (by decide)
  have e0 : w3.cell? ⟨g, 0, none⟩ = some (.int .i64 k0) := hown3.cellAt 0 (by decide)
  have e1 : w3.cell? ⟨g, 1, none⟩ = some (.int .i64 k1) := hown3.cellAt 1 (by decide)
  have HB3 := Lib.hid (HB.out.trans (hb3.mono HB.out.size))
  have HT3 := Lib.hid (HT.out.below hb3)
  have HTA3 := Lib.hid (HTA.out.under hb3)
  have c6 := (hb3.cell (p := ⟨W.heap.size, 0, none⟩) (Tr.cell_lt c6)).trans c6
  have c0 := (hb3.cell (p := ⟨W.heap.size + 1, 0, none⟩) (Tr.cell_lt c0)).trans c0
  have c3 := (hb3.cell (p := ⟨W.heap.size + 1, 3, none⟩) (Tr.cell_lt c3)).trans c3
  have c5 := (hb3.cell (p := ⟨W.heap.size + 1, 5, none⟩) (Tr.cell_lt c5)).trans c5
  have f0 := (hb3.cell (p := ⟨b, off, none⟩) (Tr.cell_lt hd0)).trans hd0
  have f1 := (hb3.cell (p := ⟨b, off + 1, none⟩) (Tr.cell_lt hd1)).trans hd1
  have HC := Lib.hid (HTW.out w3 HT3.out HTA3.out f0 f1)
  have c1 := (hb3.cell (p := ⟨W.heap.size + 1, 1, none⟩) (Tr.cell_lt c1)).trans c1
  have c2 := (hb3.cell (p := ⟨W.heap.size + 1, 2, none⟩) (Tr.cell_lt c2)).trans c2
  have c4 := (hb3.cell (p := ⟨W.heap.size + 1, 4, none⟩) (Tr.cell_lt c4)).trans c4
  clear hown3 hgrow3 hnil3 hb3 hk1 hk2 f0 f1 hd0 hd1
  go_wp2_with fail
  refine HC.out.mono ?_
  rintro e v0 ⟨rfl, hbn⟩
  have hfin := HB3.out.trans (hbn.mono HB3.out.size)
  clear hbn
  go_wp2_with fail
  go_ret
  exact ⟨rfl, hfin⟩
set_option maxRecDepth 100000 in
set_option maxHeartbeats 8000000 in
theorem tx_minus {B t : Nat} {v : Value} {ms : List (Nd × Value)} (op name : ByteArray) (line col num k0 k1 : Int) (t0 t1 : Tm) (b off cap : Nat) (e : op = kMinus) (W : World) (hT : TreeAt W B t v ms) (ht : TabOk W) (hc0 : W.cell? ⟨b, off, none⟩ = some (.int .i64 k0)) (hc1 : W.cell? ⟨b, off + 1, none⟩ = some (.int .i64 k1)) (hn : name.size ≤ 2097152) (hK0 : KidC B t v ms k0 t0) (hK1 : KidC B t v ms k1 t1) :
    Calls Tryz.prog 61 #[.agg #[.pointer (some ⟨t, 0, none⟩)], .agg #[.string op, .int .i64 line, .int .i64 col, .string name, .int .i64 num, .slice (some ⟨b, off, none⟩) 2 cap]] W fun e W' => e = .returned (.string (nodeB (.mk op name num [t0, t1]) [textT t0, textT t1])) ∧ Below W.heap.size W W' := by
  have hnb : nodeB (.mk op name num [t0, t1]) [textT t0, textT t1] = atB t0 (textT t0) (if lvlB op = 4 then 5 else lvlB op) ++ ⟨#[32]⟩ ++ op ++ ⟨#[32]⟩ ++ atB t1 (textT t1) (lvlB op + 1) := by
    rw [e]
    kernel_rfl
  rw [hnb]
  clear hnb
  have hl26 : lvlB op = 2 ∨ lvlB op = 3 ∨ lvlB op = 4 ∨ lvlB op = 5 ∨ lvlB op = 6 := by rw [e]; decide
  have hos : op.size ≤ 20 := by rw [e]; decide
  have HTW := Lib.hid (fun W a1 a2 a3 a4 => two_in (B := B) (t := t) (v := v) (ms := ms) op name line col num k0 k1 t0 t1 b off cap W a1 a2 a3 a4 (by omega) hl26 hK0 hK1)
  clear hK0 hK1 hl26
  generalize atB t0 (textT t0) (if lvlB op = 4 then 5 else lvlB op) ++ ⟨#[32]⟩ ++ op ++ ⟨#[32]⟩ ++ atB t1 (textT t1) (lvlB op + 1) = r at *
  have h0 : (op.toList == [115, 101, 113]) = false := by rw [e]; exact (lit_eq _ _).trans (by decide)
  have h1 : (op.toList == [108, 101, 116]) = false := by rw [e]; exact (lit_eq _ _).trans (by decide)
  have h2 : (op.toList == [105, 102]) = false := by rw [e]; exact (lit_eq _ _).trans (by decide)
  have h3 : (op.toList == [116, 114, 121]) = false := by rw [e]; exact (lit_eq _ _).trans (by decide)
  have h4 : (op.toList == [111, 117, 116]) = false := by rw [e]; exact (lit_eq _ _).trans (by decide)
  have h5 : (op.toList == [115, 101, 116]) = false := by rw [e]; exact (lit_eq _ _).trans (by decide)
  have h6 : (op.toList == [110, 101, 103]) = false := by rw [e]; exact (lit_eq _ _).trans (by decide)
  have h7 : (op.toList == [110, 111, 116]) = false := by rw [e]; exact (lit_eq _ _).trans (by decide)
  have h8 : (op.toList == [102, 115, 116]) = false := by rw [e]; exact (lit_eq _ _).trans (by decide)
  have h9 : (op.toList == [115, 110, 100]) = false := by rw [e]; exact (lit_eq _ _).trans (by decide)
  have h10 : (op.toList == [111, 114]) = false := by rw [e]; exact (lit_eq _ _).trans (by decide)
  have h11 : (op.toList == [97, 110, 100]) = false := by rw [e]; exact (lit_eq _ _).trans (by decide)
  have h12 : (op.toList == [61]) = false := by rw [e]; exact (lit_eq _ _).trans (by decide)
  have h13 : (op.toList == [60]) = false := by rw [e]; exact (lit_eq _ _).trans (by decide)
  have h14 : (op.toList == [43]) = false := by rw [e]; exact (lit_eq _ _).trans (by decide)
  have h15 : (op.toList == [45]) = true := by rw [e]; exact (lit_eq _ _).trans (by decide)
  clear e
  obtain ⟨i0, hi0, hz0, hz1, hz2⟩ := info_parts Tr.info_int
  have hb := ((Below.refl W.heap.size W).alloc (Nat.le_refl _) (.cells #[.pointer (some ⟨t, 0, none⟩)] 83)).alloc (by simp) (.cells #[.string op, .int .i64 line, .int .i64 col, .string name, .int .i64 num, .slice (some ⟨b, off, none⟩) 2 cap] 53)
  have hk1 := (Below.heap_alloc (W.alloc (.cells #[.pointer (some ⟨t, 0, none⟩)] 83)) (.cells #[.string op, .int .i64 line, .int .i64 col, .string name, .int .i64 num, .slice (some ⟨b, off, none⟩) 2 cap] 53) W.heap.size (by simp)).trans (Tr.last W (.cells #[.pointer (some ⟨t, 0, none⟩)] 83))
  have hk2 := Tr.last (W.alloc (.cells #[.pointer (some ⟨t, 0, none⟩)] 83)) (.cells #[.string op, .int .i64 line, .int .i64 col, .string name, .int .i64 num, .slice (some ⟨b, off, none⟩) 2 cap] 53)
  rw [show (W.alloc (.cells #[.pointer (some ⟨t, 0, none⟩)] 83)).heap.size = W.heap.size + 1 by simp] at hk2
  have hd0 := (hb.cell (p := ⟨b, off, none⟩) (Tr.cell_lt hc0)).trans hc0
  have hd1 := (hb.cell (p := ⟨b, off + 1, none⟩) (Tr.cell_lt hc1)).trans hc1
  have HB := Lib.hid hb
  have HX := Lib.hid (And.intro hk1 (And.intro hk2 (And.intro hd0 hd1)))
  have HT := Lib.hid (hT.below hb)
  have HTA := Lib.hid (ht.under hb)
  clear hb hk1 hk2 hT ht hc0 hd0 hc1 hd1
  go_enter Tryz.func61, Tryz.ntmps61
  go_upto_region 1 with fail
  generalize (W.alloc (.cells #[.pointer (some ⟨t, 0, none⟩)] 83)).alloc (.cells #[.string op, .int .i64 line, .int .i64 col, .string name, .int .i64 num, .slice (some ⟨b, off, none⟩) 2 cap] 53) = w1 at *
  obtain ⟨hk1, hk2, hd0, hd1⟩ := HX.out
  have c6 := cell1 hk1
  obtain ⟨c0, c1, c2, c3, c4, c5⟩ := Tr.cellsOf6 hk2
  have HN1 := Lib.hid (show ∀ j u, ([.int .i64 k0, .int .i64 k1] : List Value)[j]? = some u → w1.cell? ((⟨b, off, none⟩ : Addr).add j) = some u from fun j u hu => by
    rw [Tr.add_at]
    match j, hu with
    | 0, hu => cases hu; exact hd0
    | 1, hu => cases hu; exact hd1
    | j + 2, hu => simp at hu)
  go_wp2_with (at_builtin; refine wpList_append_own _ rfl _ _ 51 rfl w1.heap.size 3 i0 (.int .i64 0) 1 8 Tryz.underlying51 hi0 hz0 hz1 hz2 rfl (by decide) (.slice none 0 0) 0 [] rfl (World.ownsRow_nil _ _ _ _) ⟨b, off, none⟩ 2 cap [.int .i64 k0, .int .i64 k1] rfl rfl HN1.out (by simp [Value.oneCell']) (by decide) (by decide) (Nat.le_refl _) ?_)
  intro v2 w2 hown2 hgrow2 hnil2
  have HBg := Lib.hid ((Below.refl w1.heap.size w1).grown hgrow2 (Nat.le_refl _) (fun k hk => by cases hk))
  obtain ⟨A2, c2', rfl⟩ := row_form hown2
  have HO2 := Lib.hid hown2
  clear hown2 hgrow2 hnil2
  have hb2s := HBg.out.size
  go_wp2_with (at_builtin; refine wpList_append_own _ rfl _ _ 51 rfl w1.heap.size 3 i0 (.int .i64 0) 1 8 Tryz.underlying51 hi0 hz0 hz1 hz2 rfl (by decide) (.slice A2 (0 + 2) c2') (0 + 2) [.int .i64 k0, .int .i64 k1] rfl (HO2.out.alloc _) ⟨w2.heap.size, 0, none⟩ 3 3 [.int .i64 (-1), .int .i64 (-1), .int .i64 (-1)] rfl rfl ?q1 ?q2 ?q3 ?q4 ?q5 ?_)
  case q1 => first | exact fun j u h => h | exact World.news_of_block (Tr.last _ _)
  case q2 => simp [Value.oneCell']
  case q3 => decide
  case q4 => decide
  case q5 => first | omega | (simp; omega)
  intro v3 w3 hown3 hgrow3 hnil3
  have hb3 : Below w1.heap.size w1 w3 := (HBg.out.alloc hb2s _).grown hgrow3 (by simp; omega) (fun k hk => (row_lt HO2.out hk).1)
  obtain ⟨g, cap3, rfl, hgB, hgl⟩ := hown3.form (by decide)
  have e0 : w3.cell? ⟨g, 0, none⟩ = some (.int .i64 k0) := hown3.cellAt 0 (by decide)
  have e1 : w3.cell? ⟨g, 1, none⟩ = some (.int .i64 k1) := hown3.cellAt 1 (by decide)
  have HB3 := Lib.hid (HB.out.trans (hb3.mono HB.out.size))
  have HT3 := Lib.hid (HT.out.below hb3)
  have HTA3 := Lib.hid (HTA.out.under hb3)
  have c6 := (hb3.cell (p := ⟨W.heap.size, 0, none⟩) (Tr.cell_lt c6)).trans c6
  have c0 := (hb3.cell (p := ⟨W.heap.size + 1, 0, none⟩) (Tr.cell_lt c0)).trans c0
  have c3 := (hb3.cell (p := ⟨W.heap.size + 1, 3, none⟩) (Tr.cell_lt c3)).trans c3
  have c5 := (hb3.cell (p := ⟨W.heap.size + 1, 5, none⟩) (Tr.cell_lt c5)).trans c5
  have f0 := (hb3.cell (p := ⟨b, off, none⟩) (Tr.cell_lt hd0)).trans hd0
  have f1 := (hb3.cell (p := ⟨b, off + 1, none⟩) (Tr.cell_lt hd1)).trans hd1
  have HC := Lib.hid (HTW.out w3 HT3.out HTA3.out f0 f1)
  have c1 := (hb3.cell (p := ⟨W.heap.size + 1, 1, none⟩) (Tr.cell_lt c1)).trans c1
  have c2 := (hb3.cell (p := ⟨W.heap.size + 1, 2, none⟩) (Tr.cell_lt c2)).trans c2
  have c4 := (hb3.cell (p := ⟨W.heap.size + 1, 4, none⟩) (Tr.cell_lt c4)).trans c4
  clear hown3 hgrow3 hnil3 hb3 hk1 hk2 f0 f1 hd0 hd1
  go_wp2_with fail
  refine HC.out.mono ?_
  rintro e v0 ⟨rfl, hbn⟩
  have hfin := HB3.out.trans (hbn.mono HB3.out.size)
  clear hbn
  go_wp2_with fail
  go_ret
  exact ⟨rfl, hfin⟩
set_option maxRecDepth 100000 in
set_option maxHeartbeats 8000000 in
theorem tx_star {B t : Nat} {v : Value} {ms : List (Nd × Value)} (op name : ByteArray) (line col num k0 k1 : Int) (t0 t1 : Tm) (b off cap : Nat) (e : op = kStar) (W : World) (hT : TreeAt W B t v ms) (ht : TabOk W) (hc0 : W.cell? ⟨b, off, none⟩ = some (.int .i64 k0)) (hc1 : W.cell? ⟨b, off + 1, none⟩ = some (.int .i64 k1)) (hn : name.size ≤ 2097152) (hK0 : KidC B t v ms k0 t0) (hK1 : KidC B t v ms k1 t1) :
    Calls Tryz.prog 61 #[.agg #[.pointer (some ⟨t, 0, none⟩)], .agg #[.string op, .int .i64 line, .int .i64 col, .string name, .int .i64 num, .slice (some ⟨b, off, none⟩) 2 cap]] W fun e W' => e = .returned (.string (nodeB (.mk op name num [t0, t1]) [textT t0, textT t1])) ∧ Below W.heap.size W W' := by
  have hnb : nodeB (.mk op name num [t0, t1]) [textT t0, textT t1] = atB t0 (textT t0) (if lvlB op = 4 then 5 else lvlB op) ++ ⟨#[32]⟩ ++ op ++ ⟨#[32]⟩ ++ atB t1 (textT t1) (lvlB op + 1) := by
    rw [e]
    kernel_rfl
  rw [hnb]
  clear hnb
  have hl26 : lvlB op = 2 ∨ lvlB op = 3 ∨ lvlB op = 4 ∨ lvlB op = 5 ∨ lvlB op = 6 := by rw [e]; decide
  have hos : op.size ≤ 20 := by rw [e]; decide
  have HTW := Lib.hid (fun W a1 a2 a3 a4 => two_in (B := B) (t := t) (v := v) (ms := ms) op name line col num k0 k1 t0 t1 b off cap W a1 a2 a3 a4 (by omega) hl26 hK0 hK1)
  clear hK0 hK1 hl26
  generalize atB t0 (textT t0) (if lvlB op = 4 then 5 else lvlB op) ++ ⟨#[32]⟩ ++ op ++ ⟨#[32]⟩ ++ atB t1 (textT t1) (lvlB op + 1) = r at *
  have h0 : (op.toList == [115, 101, 113]) = false := by rw [e]; exact (lit_eq _ _).trans (by decide)
  have h1 : (op.toList == [108, 101, 116]) = false := by rw [e]; exact (lit_eq _ _).trans (by decide)
  have h2 : (op.toList == [105, 102]) = false := by rw [e]; exact (lit_eq _ _).trans (by decide)
  have h3 : (op.toList == [116, 114, 121]) = false := by rw [e]; exact (lit_eq _ _).trans (by decide)
  have h4 : (op.toList == [111, 117, 116]) = false := by rw [e]; exact (lit_eq _ _).trans (by decide)
  have h5 : (op.toList == [115, 101, 116]) = false := by rw [e]; exact (lit_eq _ _).trans (by decide)
  have h6 : (op.toList == [110, 101, 103]) = false := by rw [e]; exact (lit_eq _ _).trans (by decide)
  have h7 : (op.toList == [110, 111, 116]) = false := by rw [e]; exact (lit_eq _ _).trans (by decide)
  have h8 : (op.toList == [102, 115, 116]) = false := by rw [e]; exact (lit_eq _ _).trans (by decide)
  have h9 : (op.toList == [115, 110, 100]) = false := by rw [e]; exact (lit_eq _ _).trans (by decide)
  have h10 : (op.toList == [111, 114]) = false := by rw [e]; exact (lit_eq _ _).trans (by decide)
  have h11 : (op.toList == [97, 110, 100]) = false := by rw [e]; exact (lit_eq _ _).trans (by decide)
  have h12 : (op.toList == [61]) = false := by rw [e]; exact (lit_eq _ _).trans (by decide)
  have h13 : (op.toList == [60]) = false := by rw [e]; exact (lit_eq _ _).trans (by decide)
  have h14 : (op.toList == [43]) = false := by rw [e]; exact (lit_eq _ _).trans (by decide)
  have h15 : (op.toList == [45]) = false := by rw [e]; exact (lit_eq _ _).trans (by decide)
  have h16 : (op.toList == [42]) = true := by rw [e]; exact (lit_eq _ _).trans (by decide)
  clear e
  obtain ⟨i0, hi0, hz0, hz1, hz2⟩ := info_parts Tr.info_int
  have hb := ((Below.refl W.heap.size W).alloc (Nat.le_refl _) (.cells #[.pointer (some ⟨t, 0, none⟩)] 83)).alloc (by simp) (.cells #[.string op, .int .i64 line, .int .i64 col, .string name, .int .i64 num, .slice (some ⟨b, off, none⟩) 2 cap] 53)
  have hk1 := (Below.heap_alloc (W.alloc (.cells #[.pointer (some ⟨t, 0, none⟩)] 83)) (.cells #[.string op, .int .i64 line, .int .i64 col, .string name, .int .i64 num, .slice (some ⟨b, off, none⟩) 2 cap] 53) W.heap.size (by simp)).trans (Tr.last W (.cells #[.pointer (some ⟨t, 0, none⟩)] 83))
  have hk2 := Tr.last (W.alloc (.cells #[.pointer (some ⟨t, 0, none⟩)] 83)) (.cells #[.string op, .int .i64 line, .int .i64 col, .string name, .int .i64 num, .slice (some ⟨b, off, none⟩) 2 cap] 53)
  rw [show (W.alloc (.cells #[.pointer (some ⟨t, 0, none⟩)] 83)).heap.size = W.heap.size + 1 by simp] at hk2
  have hd0 := (hb.cell (p := ⟨b, off, none⟩) (Tr.cell_lt hc0)).trans hc0
  have hd1 := (hb.cell (p := ⟨b, off + 1, none⟩) (Tr.cell_lt hc1)).trans hc1
  have HB := Lib.hid hb
  have HX := Lib.hid (And.intro hk1 (And.intro hk2 (And.intro hd0 hd1)))
  have HT := Lib.hid (hT.below hb)
  have HTA := Lib.hid (ht.under hb)
  clear hb hk1 hk2 hT ht hc0 hd0 hc1 hd1
  go_enter Tryz.func61, Tryz.ntmps61
  go_upto_region 1 with fail
  generalize (W.alloc (.cells #[.pointer (some ⟨t, 0, none⟩)] 83)).alloc (.cells #[.string op, .int .i64 line, .int .i64 col, .string name, .int .i64 num, .slice (some ⟨b, off, none⟩) 2 cap] 53) = w1 at *
  obtain ⟨hk1, hk2, hd0, hd1⟩ := HX.out
  have c6 := cell1 hk1
  obtain ⟨c0, c1, c2, c3, c4, c5⟩ := Tr.cellsOf6 hk2
  have HN1 := Lib.hid (show ∀ j u, ([.int .i64 k0, .int .i64 k1] : List Value)[j]? = some u → w1.cell? ((⟨b, off, none⟩ : Addr).add j) = some u from fun j u hu => by
    rw [Tr.add_at]
    match j, hu with
    | 0, hu => cases hu; exact hd0
    | 1, hu => cases hu; exact hd1
    | j + 2, hu => simp at hu)
  go_wp2_with (at_builtin; refine wpList_append_own _ rfl _ _ 51 rfl w1.heap.size 3 i0 (.int .i64 0) 1 8 Tryz.underlying51 hi0 hz0 hz1 hz2 rfl (by decide) (.slice none 0 0) 0 [] rfl (World.ownsRow_nil _ _ _ _) ⟨b, off, none⟩ 2 cap [.int .i64 k0, .int .i64 k1] rfl rfl HN1.out (by simp [Value.oneCell']) (by decide) (by decide) (Nat.le_refl _) ?_)
  intro v2 w2 hown2 hgrow2 hnil2
  have HBg := Lib.hid ((Below.refl w1.heap.size w1).grown hgrow2 (Nat.le_refl _) (fun k hk => by cases hk))
  obtain ⟨A2, c2', rfl⟩ := row_form hown2
  have HO2 := Lib.hid hown2
  clear hown2 hgrow2 hnil2
  have hb2s := HBg.out.size
  go_wp2_with (at_builtin; refine wpList_append_own _ rfl _ _ 51 rfl w1.heap.size 3 i0 (.int .i64 0) 1 8 Tryz.underlying51 hi0 hz0 hz1 hz2 rfl (by decide) (.slice A2 (0 + 2) c2') (0 + 2) [.int .i64 k0, .int .i64 k1] rfl (HO2.out.alloc _) ⟨w2.heap.size, 0, none⟩ 3 3 [.int .i64 (-1), .int .i64 (-1), .int .i64 (-1)] rfl rfl ?q1 ?q2 ?q3 ?q4 ?q5 ?_)
  case q1 => first | exact fun j u h => h | exact World.news_of_block (Tr.last _ _)
  case q2 => simp [Value.oneCell']
  case q3 => decide
  case q4 => decide
  case q5 => first | omega | (simp; omega)
  intro v3 w3 hown3 hgrow3 hnil3
  have hb3 : Below w1.heap.size w1 w3 := (HBg.out.alloc hb2s _).grown hgrow3 (by simp; omega) (fun k hk => (row_lt HO2.out hk).1)
  obtain ⟨g, cap3, rfl, hgB, hgl⟩ := hown3.form (by decide)
  have e0 : w3.cell? ⟨g, 0, none⟩ = some (.int .i64 k0) := hown3.cellAt 0 (by decide)
  have e1 : w3.cell? ⟨g, 1, none⟩ = some (.int .i64 k1) := hown3.cellAt 1 (by decide)
  have HB3 := Lib.hid (HB.out.trans (hb3.mono HB.out.size))
  have HT3 := Lib.hid (HT.out.below hb3)
  have HTA3 := Lib.hid (HTA.out.under hb3)
  have c6 := (hb3.cell (p := ⟨W.heap.size, 0, none⟩) (Tr.cell_lt c6)).trans c6
  have c0 := (hb3.cell (p := ⟨W.heap.size + 1, 0, none⟩) (Tr.cell_lt c0)).trans c0
  have c3 := (hb3.cell (p := ⟨W.heap.size + 1, 3, none⟩) (Tr.cell_lt c3)).trans c3
  have c5 := (hb3.cell (p := ⟨W.heap.size + 1, 5, none⟩) (Tr.cell_lt c5)).trans c5
  have f0 := (hb3.cell (p := ⟨b, off, none⟩) (Tr.cell_lt hd0)).trans hd0
  have f1 := (hb3.cell (p := ⟨b, off + 1, none⟩) (Tr.cell_lt hd1)).trans hd1
  have HC := Lib.hid (HTW.out w3 HT3.out HTA3.out f0 f1)
  have c1 := (hb3.cell (p := ⟨W.heap.size + 1, 1, none⟩) (Tr.cell_lt c1)).trans c1
  have c2 := (hb3.cell (p := ⟨W.heap.size + 1, 2, none⟩) (Tr.cell_lt c2)).trans c2
  have c4 := (hb3.cell (p := ⟨W.heap.size + 1, 4, none⟩) (Tr.cell_lt c4)).trans c4
  clear hown3 hgrow3 hnil3 hb3 hk1 hk2 f0 f1 hd0 hd1
  go_wp2_with fail
  refine HC.out.mono ?_
  rintro e v0 ⟨rfl, hbn⟩
  have hfin := HB3.out.trans (hbn.mono HB3.out.size)
  clear hbn
  go_wp2_with fail
  go_ret
  exact ⟨rfl, hfin⟩
end Go.Proofs.YtmeacgmjpjjphaaGreatDoor
namespace Go.Proofs.YtmeacgmjpjjphaaGreatDoor
open Go.RowKit Go.Shelf
open Tr (Nd TreeAt Own Ints Fine ndV)
open Tr.TreP (WF fits places nd inT)

set_option maxRecDepth 100000 in
set_option maxHeartbeats 8000000 in
theorem tx_pair {B t : Nat} {v : Value} {ms : List (Nd × Value)} (op name : ByteArray) (line col num k0 k1 : Int) (t0 t1 : Tm) (b off cap : Nat) (e : op = nPair) (W : World) (hT : TreeAt W B t v ms) (ht : TabOk W) (hc0 : W.cell? ⟨b, off, none⟩ = some (.int .i64 k0)) (hc1 : W.cell? ⟨b, off + 1, none⟩ = some (.int .i64 k1)) (hn : name.size ≤ 2097152) (hK0 : KidC B t v ms k0 t0) (hK1 : KidC B t v ms k1 t1) (hJ : (joinL [textT t0, textT t1]).size ≤ 140737488355328) :
    Calls Tryz.prog 61 #[.agg #[.pointer (some ⟨t, 0, none⟩)], .agg #[.string op, .int .i64 line, .int .i64 col, .string name, .int .i64 num, .slice (some ⟨b, off, none⟩) 2 cap]] W fun e W' => e = .returned (.string (nodeB (.mk op name num [t0, t1]) [textT t0, textT t1])) ∧ Below W.heap.size W W' := by
  have hnb : nodeB (.mk op name num [t0, t1]) [textT t0, textT t1] = ⟨#[40]⟩ ++ joinL [textT t0, textT t1] ++ ⟨#[41]⟩ := by
    rw [e]
    kernel_rfl
  rw [hnb]
  clear hnb
  have HLI := Lib.hid (fun W a1 a2 a3 => list_in (B := B) (t := t) (v := v) (ms := ms) [k0, k1] [textT t0, textT t1] rfl (by simp) (some ⟨b, off, none⟩) cap W a1 a2 a3 (fun j hj => by
    match j, hj with
    | 0, _ => exact ⟨hK0.size, fun W h1 h2 => by have := hK0.call W h1 h2 0 (by decide) (by decide); rwa [atB_zero] at this⟩
    | 1, _ => exact ⟨hK1.size, fun W h1 h2 => by have := hK1.call W h1 h2 0 (by decide) (by decide); rwa [atB_zero] at this⟩
    | j + 2, hj => simp at hj; omega) hJ)
  clear hK0 hK1
  generalize joinL [textT t0, textT t1] = J at *
  have h0 : (op.toList == [115, 101, 113]) = false := by rw [e]; exact (lit_eq _ _).trans (by decide)
  have h1 : (op.toList == [108, 101, 116]) = false := by rw [e]; exact (lit_eq _ _).trans (by decide)
  have h2 : (op.toList == [105, 102]) = false := by rw [e]; exact (lit_eq _ _).trans (by decide)
  have h3 : (op.toList == [116, 114, 121]) = false := by rw [e]; exact (lit_eq _ _).trans (by decide)
  have h4 : (op.toList == [111, 117, 116]) = false := by rw [e]; exact (lit_eq _ _).trans (by decide)
  have h5 : (op.toList == [115, 101, 116]) = false := by rw [e]; exact (lit_eq _ _).trans (by decide)
  have h6 : (op.toList == [110, 101, 103]) = false := by rw [e]; exact (lit_eq _ _).trans (by decide)
  have h7 : (op.toList == [110, 111, 116]) = false := by rw [e]; exact (lit_eq _ _).trans (by decide)
  have h8 : (op.toList == [102, 115, 116]) = false := by rw [e]; exact (lit_eq _ _).trans (by decide)
  have h9 : (op.toList == [115, 110, 100]) = false := by rw [e]; exact (lit_eq _ _).trans (by decide)
  have h10 : (op.toList == [111, 114]) = false := by rw [e]; exact (lit_eq _ _).trans (by decide)
  have h11 : (op.toList == [97, 110, 100]) = false := by rw [e]; exact (lit_eq _ _).trans (by decide)
  have h12 : (op.toList == [61]) = false := by rw [e]; exact (lit_eq _ _).trans (by decide)
  have h13 : (op.toList == [60]) = false := by rw [e]; exact (lit_eq _ _).trans (by decide)
  have h14 : (op.toList == [43]) = false := by rw [e]; exact (lit_eq _ _).trans (by decide)
  have h15 : (op.toList == [45]) = false := by rw [e]; exact (lit_eq _ _).trans (by decide)
  have h16 : (op.toList == [42]) = false := by rw [e]; exact (lit_eq _ _).trans (by decide)
  have h17 : (op.toList == [114, 101, 108, 101, 97, 115, 101]) = false := by rw [e]; exact (lit_eq _ _).trans (by decide)
  have h18 : (op.toList == [99, 97, 108, 108]) = false := by rw [e]; exact (lit_eq _ _).trans (by decide)
  have h19 : (op.toList == [112, 97, 105, 114]) = true := by rw [e]; exact (lit_eq _ _).trans (by decide)
  clear e
  obtain ⟨i0, hi0, hz0, hz1, hz2⟩ := info_parts Tr.info_int
  have hb := ((Below.refl W.heap.size W).alloc (Nat.le_refl _) (.cells #[.pointer (some ⟨t, 0, none⟩)] 83)).alloc (by simp) (.cells #[.string op, .int .i64 line, .int .i64 col, .string name, .int .i64 num, .slice (some ⟨b, off, none⟩) 2 cap] 53)
  have hk1 := (Below.heap_alloc (W.alloc (.cells #[.pointer (some ⟨t, 0, none⟩)] 83)) (.cells #[.string op, .int .i64 line, .int .i64 col, .string name, .int .i64 num, .slice (some ⟨b, off, none⟩) 2 cap] 53) W.heap.size (by simp)).trans (Tr.last W (.cells #[.pointer (some ⟨t, 0, none⟩)] 83))
  have hk2 := Tr.last (W.alloc (.cells #[.pointer (some ⟨t, 0, none⟩)] 83)) (.cells #[.string op, .int .i64 line, .int .i64 col, .string name, .int .i64 num, .slice (some ⟨b, off, none⟩) 2 cap] 53)
  rw [show (W.alloc (.cells #[.pointer (some ⟨t, 0, none⟩)] 83)).heap.size = W.heap.size + 1 by simp] at hk2
  have hd0 := (hb.cell (p := ⟨b, off, none⟩) (Tr.cell_lt hc0)).trans hc0
  have hd1 := (hb.cell (p := ⟨b, off + 1, none⟩) (Tr.cell_lt hc1)).trans hc1
  have HB := Lib.hid hb
  have HX := Lib.hid (And.intro hk1 (And.intro hk2 (And.intro hd0 hd1)))
  have HT := Lib.hid (hT.below hb)
  have HTA := Lib.hid (ht.under hb)
  clear hb hk1 hk2 hT ht hc0 hd0 hc1 hd1
  go_enter Tryz.func61, Tryz.ntmps61
  go_upto_region 1 with fail
  generalize (W.alloc (.cells #[.pointer (some ⟨t, 0, none⟩)] 83)).alloc (.cells #[.string op, .int .i64 line, .int .i64 col, .string name, .int .i64 num, .slice (some ⟨b, off, none⟩) 2 cap] 53) = w1 at *
  obtain ⟨hk1, hk2, hd0, hd1⟩ := HX.out
  have c6 := cell1 hk1
  obtain ⟨c0, c1, c2, c3, c4, c5⟩ := Tr.cellsOf6 hk2
  have HN1 := Lib.hid (show ∀ j u, ([.int .i64 k0, .int .i64 k1] : List Value)[j]? = some u → w1.cell? ((⟨b, off, none⟩ : Addr).add j) = some u from fun j u hu => by
    rw [Tr.add_at]
    match j, hu with
    | 0, hu => cases hu; exact hd0
    | 1, hu => cases hu; exact hd1
    | j + 2, hu => simp at hu)
  go_wp2_with (at_builtin; refine wpList_append_own _ rfl _ _ 51 rfl w1.heap.size 3 i0 (.int .i64 0) 1 8 Tryz.underlying51 hi0 hz0 hz1 hz2 rfl (by decide) (.slice none 0 0) 0 [] rfl (World.ownsRow_nil _ _ _ _) ⟨b, off, none⟩ 2 cap [.int .i64 k0, .int .i64 k1] rfl rfl HN1.out (by simp [Value.oneCell']) (by decide) (by decide) (Nat.le_refl _) ?_)
  intro v2 w2 hown2 hgrow2 hnil2
  have HBg := Lib.hid ((Below.refl w1.heap.size w1).grown hgrow2 (Nat.le_refl _) (fun k hk => by cases hk))
  obtain ⟨A2, c2', rfl⟩ := row_form hown2
  have HO2 := Lib.hid hown2
  clear hown2 hgrow2 hnil2
  have hb2s := HBg.out.size
  go_wp2_with (at_builtin; refine wpList_append_own _ rfl _ _ 51 rfl w1.heap.size 3 i0 (.int .i64 0) 1 8 Tryz.underlying51 hi0 hz0 hz1 hz2 rfl (by decide) (.slice A2 (0 + 2) c2') (0 + 2) [.int .i64 k0, .int .i64 k1] rfl (HO2.out.alloc _) ⟨w2.heap.size, 0, none⟩ 3 3 [.int .i64 (-1), .int .i64 (-1), .int .i64 (-1)] rfl rfl ?q1 ?q2 ?q3 ?q4 ?q5 ?_)
  case q1 => first | exact fun j u h => h | exact World.news_of_block (Tr.last _ _)
  case q2 => simp [Value.oneCell']
  case q3 => decide
  case q4 => decide
  case q5 => first | omega | (simp; omega)
  intro v3 w3 hown3 hgrow3 hnil3
  have hb3 : Below w1.heap.size w1 w3 := (HBg.out.alloc hb2s _).grown hgrow3 (by simp; omega) (fun k hk => (row_lt HO2.out hk).1)
  obtain ⟨g, cap3, rfl, hgB, hgl⟩ := hown3.form (by decide)
  have e0 : w3.cell? ⟨g, 0, none⟩ = some (.int .i64 k0) := hown3.cellAt 0 (by decide)
  have e1 : w3.cell? ⟨g, 1, none⟩ = some (.int .i64 k1) := hown3.cellAt 1 (by decide)
  have HB3 := Lib.hid (HB.out.trans (hb3.mono HB.out.size))
  have HT3 := Lib.hid (HT.out.below hb3)
  have HTA3 := Lib.hid (HTA.out.under hb3)
  have c6 := (hb3.cell (p := ⟨W.heap.size, 0, none⟩) (Tr.cell_lt c6)).trans c6
  have c0 := (hb3.cell (p := ⟨W.heap.size + 1, 0, none⟩) (Tr.cell_lt c0)).trans c0
  have c3 := (hb3.cell (p := ⟨W.heap.size + 1, 3, none⟩) (Tr.cell_lt c3)).trans c3
  have c5 := (hb3.cell (p := ⟨W.heap.size + 1, 5, none⟩) (Tr.cell_lt c5)).trans c5
  have f0 := (hb3.cell (p := ⟨b, off, none⟩) (Tr.cell_lt hd0)).trans hd0
  have f1 := (hb3.cell (p := ⟨b, off + 1, none⟩) (Tr.cell_lt hd1)).trans hd1
  have HC := Lib.hid (HLI.out w3 HT3.out HTA3.out (.inr ⟨b, off, cap, rfl, fun i hi => by
    match i, hi with
    | 0, _ => exact f0
    | 1, _ => exact f1
    | i + 2, hi => simp at hi; omega⟩))
  clear hown3 hgrow3 hnil3 hb3 hk1 hk2 f0 f1 hd0 hd1
  have z1 : ¬ 9223372036854775807 < 1 + J.size := by omega
  have z2 : ¬ 9223372036854775807 < 1 + J.size + 1 := by omega
  go_wp2_with fail
  refine HC.out.mono ?_
  rintro e v0 ⟨rfl, hbn⟩
  have hfin := HB3.out.trans (hbn.mono HB3.out.size)
  clear hbn
  go_wp2_with fail
  go_ret
  exact ⟨rfl, hfin⟩
end Go.Proofs.YtmeacgmjpjjphaaGreatDoor
namespace Go.Proofs.YtmeacgmjpjjphaaGreatDoor
open Go.RowKit Go.Shelf
open Tr (Nd TreeAt Own Ints Fine ndV)
open Tr.TreP (WF fits places nd inT)

set_option maxRecDepth 100000 in
set_option maxHeartbeats 8000000 in
theorem tx_leafN {B t : Nat} {v : Value} {ms : List (Nd × Value)} (op name : ByteArray) (line col num : Int) (W : World) (hT : TreeAt W B t v ms) (ht : TabOk W) (ho : op.size ≤ 2097152) (hn : name.size ≤ 2097152) (hu0 : -9223372036854775808 ≤ num) (hu1 : num ≤ 9223372036854775807) (n0 : op ≠ nSeq) (n1 : op ≠ kLet) (n2 : op ≠ kIf) (n3 : op ≠ kTry) (n4 : op ≠ kOut) (n5 : op ≠ nSet) (n6 : op ≠ nNeg) (n7 : op ≠ kNot) (n8 : op ≠ kFst) (n9 : op ≠ kSnd) (n10 : op ≠ kOr) (n11 : op ≠ kAnd) (n12 : op ≠ kEq) (n13 : op ≠ kLt) (n14 : op ≠ kPlus) (n15 : op ≠ kMinus) (n16 : op ≠ kStar) (n17 : op ≠ kRelease) (n18 : op ≠ nCall) (n19 : op ≠ nPair) :
    Calls Tryz.prog 61 #[.agg #[.pointer (some ⟨t, 0, none⟩)], .agg #[.string op, .int .i64 line, .int .i64 col, .string name, .int .i64 num, .slice none 0 0]] W fun e W' => e = .returned (.string (nodeB (.mk op name num []) [])) ∧ Below W.heap.size W W' := by
  have hnb : nodeB (.mk op name num []) [] = leafB (.mk op name num []) := by
    simp [nodeB, Tm.op, n0, n1, n2, n3, n4, n5, n6, n7, n8, n9, n10, n11, n12, n13, n14, n15, n16, n17, n18, n19]
  rw [hnb]
  clear hnb
  have h0 : (op.toList == [115, 101, 113]) = false := no_eq n0
  have h1 : (op.toList == [108, 101, 116]) = false := no_eq n1
  have h2 : (op.toList == [105, 102]) = false := no_eq n2
  have h3 : (op.toList == [116, 114, 121]) = false := no_eq n3
  have h4 : (op.toList == [111, 117, 116]) = false := no_eq n4
  have h5 : (op.toList == [115, 101, 116]) = false := no_eq n5
  have h6 : (op.toList == [110, 101, 103]) = false := no_eq n6
  have h7 : (op.toList == [110, 111, 116]) = false := no_eq n7
  have h8 : (op.toList == [102, 115, 116]) = false := no_eq n8
  have h9 : (op.toList == [115, 110, 100]) = false := no_eq n9
  have h10 : (op.toList == [111, 114]) = false := no_eq n10
  have h11 : (op.toList == [97, 110, 100]) = false := no_eq n11
  have h12 : (op.toList == [61]) = false := no_eq n12
  have h13 : (op.toList == [60]) = false := no_eq n13
  have h14 : (op.toList == [43]) = false := no_eq n14
  have h15 : (op.toList == [45]) = false := no_eq n15
  have h16 : (op.toList == [42]) = false := no_eq n16
  have h17 : (op.toList == [114, 101, 108, 101, 97, 115, 101]) = false := no_eq n17
  have h18 : (op.toList == [99, 97, 108, 108]) = false := no_eq n18
  have h19 : (op.toList == [112, 97, 105, 114]) = false := no_eq n19
  clear n0 n1 n2 n3 n4 n5 n6 n7 n8 n9 n10 n11 n12 n13 n14 n15 n16 n17 n18 n19
  have HLF := Lib.hid (fun W a => leaf_in op name line col num none 0 0 [] W ho hn hu0 hu1 a)
  generalize leafB (.mk op name num []) = r at *
  obtain ⟨i0, hi0, hz0, hz1, hz2⟩ := info_parts Tr.info_int
  have hb := ((Below.refl W.heap.size W).alloc (Nat.le_refl _) (.cells #[.pointer (some ⟨t, 0, none⟩)] 83)).alloc (by simp) (.cells #[.string op, .int .i64 line, .int .i64 col, .string name, .int .i64 num, .slice none 0 0] 53)
  have hk1 := (Below.heap_alloc (W.alloc (.cells #[.pointer (some ⟨t, 0, none⟩)] 83)) (.cells #[.string op, .int .i64 line, .int .i64 col, .string name, .int .i64 num, .slice none 0 0] 53) W.heap.size (by simp)).trans (Tr.last W (.cells #[.pointer (some ⟨t, 0, none⟩)] 83))
  have hk2 := Tr.last (W.alloc (.cells #[.pointer (some ⟨t, 0, none⟩)] 83)) (.cells #[.string op, .int .i64 line, .int .i64 col, .string name, .int .i64 num, .slice none 0 0] 53)
  rw [show (W.alloc (.cells #[.pointer (some ⟨t, 0, none⟩)] 83)).heap.size = W.heap.size + 1 by simp] at hk2
  have HB := Lib.hid hb
  have HX := Lib.hid (And.intro hk1 hk2)
  have HT := Lib.hid (hT.below hb)
  have HTA := Lib.hid (ht.under hb)
  clear hb hk1 hk2 hT ht
  go_enter Tryz.func61, Tryz.ntmps61
  go_upto_region 1 with fail
  generalize (W.alloc (.cells #[.pointer (some ⟨t, 0, none⟩)] 83)).alloc (.cells #[.string op, .int .i64 line, .int .i64 col, .string name, .int .i64 num, .slice none 0 0] 53) = w1 at *
  obtain ⟨hk1, hk2⟩ := HX.out
  have c6 := cell1 hk1
  obtain ⟨c0, c1, c2, c3, c4, c5⟩ := Tr.cellsOf6 hk2
  go_wp2_with (first
    | (at_builtin; refine wpList_append_own_none rfl _ _ 51 rfl w1.heap.size 3 i0 1 Tryz.underlying51 hi0 (.slice none 0 0) 0 [] rfl (World.ownsRow_nil _ _ _ _) rfl ?_)
    | (at_builtin; refine wpList_append_own _ rfl _ _ 51 rfl w1.heap.size 3 i0 (.int .i64 0) 1 8 Tryz.underlying51 hi0 hz0 hz1 hz2 rfl (by decide) (.slice none 0 0) 0 [] rfl (World.ownsRow_nil _ _ _ _) ⟨w1.heap.size, 0, none⟩ 3 3 [.int .i64 (-1), .int .i64 (-1), .int .i64 (-1)] rfl rfl ?q1 ?q2 ?q3 ?q4 ?q5 ?_))
  case q1 => first | exact fun j u h => h | exact World.news_of_block (Tr.last _ _)
  case q2 => simp [Value.oneCell']
  case q3 => decide
  case q4 => decide
  case q5 => first | omega | (simp; omega) | simp
  intro v3 w3 hown3 hgrow3 hnil3
  have hb3 : Below w1.heap.size w1 w3 := ((Below.refl w1.heap.size w1).alloc (Nat.le_refl _) _).grown hgrow3 (by simp) (fun k hk => by cases hk)
  obtain ⟨g, cap3, rfl, hgB, hgl⟩ := hown3.form (by omega)
  have HB3 := Lib.hid (HB.out.trans (hb3.mono HB.out.size))
  have HT3 := Lib.hid (HT.out.below hb3)
  have HTA3 := Lib.hid (HTA.out.under hb3)
  have HBW := Lib.hid hb3
  have c6 := (hb3.cell (p := ⟨W.heap.size, 0, none⟩) (Tr.cell_lt c6)).trans c6
  have c0 := (hb3.cell (p := ⟨W.heap.size + 1, 0, none⟩) (Tr.cell_lt c0)).trans c0
  have c1 := (hb3.cell (p := ⟨W.heap.size + 1, 1, none⟩) (Tr.cell_lt c1)).trans c1
  have c2 := (hb3.cell (p := ⟨W.heap.size + 1, 2, none⟩) (Tr.cell_lt c2)).trans c2
  have c3 := (hb3.cell (p := ⟨W.heap.size + 1, 3, none⟩) (Tr.cell_lt c3)).trans c3
  have c4 := (hb3.cell (p := ⟨W.heap.size + 1, 4, none⟩) (Tr.cell_lt c4)).trans c4
  have c5 := (hb3.cell (p := ⟨W.heap.size + 1, 5, none⟩) (Tr.cell_lt c5)).trans c5
  clear hown3 hgrow3 hnil3 hb3 hk1 hk2
  have HC := Lib.hid (HLF.out w3 HTA3.out)
  go_wp2_with fail
  refine HC.out.mono ?_
  rintro e v0 ⟨rfl, hbn⟩
  have hfin := HB3.out.trans (hbn.mono HB3.out.size)
  clear hbn
  go_wp2_with fail
  go_ret
  exact ⟨rfl, hfin⟩
set_option maxRecDepth 100000 in
set_option maxHeartbeats 8000000 in
theorem tx_leafS {B t : Nat} {v : Value} {ms : List (Nd × Value)} (op name : ByteArray) (line col num : Int) (gk cap : Nat) (W : World) (hT : TreeAt W B t v ms) (ht : TabOk W) (ho : op.size ≤ 2097152) (hn : name.size ≤ 2097152) (hu0 : -9223372036854775808 ≤ num) (hu1 : num ≤ 9223372036854775807) (n0 : op ≠ nSeq) (n1 : op ≠ kLet) (n2 : op ≠ kIf) (n3 : op ≠ kTry) (n4 : op ≠ kOut) (n5 : op ≠ nSet) (n6 : op ≠ nNeg) (n7 : op ≠ kNot) (n8 : op ≠ kFst) (n9 : op ≠ kSnd) (n10 : op ≠ kOr) (n11 : op ≠ kAnd) (n12 : op ≠ kEq) (n13 : op ≠ kLt) (n14 : op ≠ kPlus) (n15 : op ≠ kMinus) (n16 : op ≠ kStar) (n17 : op ≠ kRelease) (n18 : op ≠ nCall) (n19 : op ≠ nPair) :
    Calls Tryz.prog 61 #[.agg #[.pointer (some ⟨t, 0, none⟩)], .agg #[.string op, .int .i64 line, .int .i64 col, .string name, .int .i64 num, .slice (some ⟨gk, 0, none⟩) 0 cap]] W fun e W' => e = .returned (.string (nodeB (.mk op name num []) [])) ∧ Below W.heap.size W W' := by
  have hnb : nodeB (.mk op name num []) [] = leafB (.mk op name num []) := by
    simp [nodeB, Tm.op, n0, n1, n2, n3, n4, n5, n6, n7, n8, n9, n10, n11, n12, n13, n14, n15, n16, n17, n18, n19]
  rw [hnb]
  clear hnb
  have h0 : (op.toList == [115, 101, 113]) = false := no_eq n0
  have h1 : (op.toList == [108, 101, 116]) = false := no_eq n1
  have h2 : (op.toList == [105, 102]) = false := no_eq n2
  have h3 : (op.toList == [116, 114, 121]) = false := no_eq n3
  have h4 : (op.toList == [111, 117, 116]) = false := no_eq n4
  have h5 : (op.toList == [115, 101, 116]) = false := no_eq n5
  have h6 : (op.toList == [110, 101, 103]) = false := no_eq n6
  have h7 : (op.toList == [110, 111, 116]) = false := no_eq n7
  have h8 : (op.toList == [102, 115, 116]) = false := no_eq n8
  have h9 : (op.toList == [115, 110, 100]) = false := no_eq n9
  have h10 : (op.toList == [111, 114]) = false := no_eq n10
  have h11 : (op.toList == [97, 110, 100]) = false := no_eq n11
  have h12 : (op.toList == [61]) = false := no_eq n12
  have h13 : (op.toList == [60]) = false := no_eq n13
  have h14 : (op.toList == [43]) = false := no_eq n14
  have h15 : (op.toList == [45]) = false := no_eq n15
  have h16 : (op.toList == [42]) = false := no_eq n16
  have h17 : (op.toList == [114, 101, 108, 101, 97, 115, 101]) = false := no_eq n17
  have h18 : (op.toList == [99, 97, 108, 108]) = false := no_eq n18
  have h19 : (op.toList == [112, 97, 105, 114]) = false := no_eq n19
  clear n0 n1 n2 n3 n4 n5 n6 n7 n8 n9 n10 n11 n12 n13 n14 n15 n16 n17 n18 n19
  have HLF := Lib.hid (fun W a => leaf_in op name line col num (some ⟨gk, 0, none⟩) 0 cap [] W ho hn hu0 hu1 a)
  generalize leafB (.mk op name num []) = r at *
  obtain ⟨i0, hi0, hz0, hz1, hz2⟩ := info_parts Tr.info_int
  have hb := ((Below.refl W.heap.size W).alloc (Nat.le_refl _) (.cells #[.pointer (some ⟨t, 0, none⟩)] 83)).alloc (by simp) (.cells #[.string op, .int .i64 line, .int .i64 col, .string name, .int .i64 num, .slice (some ⟨gk, 0, none⟩) 0 cap] 53)
  have hk1 := (Below.heap_alloc (W.alloc (.cells #[.pointer (some ⟨t, 0, none⟩)] 83)) (.cells #[.string op, .int .i64 line, .int .i64 col, .string name, .int .i64 num, .slice (some ⟨gk, 0, none⟩) 0 cap] 53) W.heap.size (by simp)).trans (Tr.last W (.cells #[.pointer (some ⟨t, 0, none⟩)] 83))
  have hk2 := Tr.last (W.alloc (.cells #[.pointer (some ⟨t, 0, none⟩)] 83)) (.cells #[.string op, .int .i64 line, .int .i64 col, .string name, .int .i64 num, .slice (some ⟨gk, 0, none⟩) 0 cap] 53)
  rw [show (W.alloc (.cells #[.pointer (some ⟨t, 0, none⟩)] 83)).heap.size = W.heap.size + 1 by simp] at hk2
  have HB := Lib.hid hb
  have HX := Lib.hid (And.intro hk1 hk2)
  have HT := Lib.hid (hT.below hb)
  have HTA := Lib.hid (ht.under hb)
  clear hb hk1 hk2 hT ht
  go_enter Tryz.func61, Tryz.ntmps61
  go_upto_region 1 with fail
  generalize (W.alloc (.cells #[.pointer (some ⟨t, 0, none⟩)] 83)).alloc (.cells #[.string op, .int .i64 line, .int .i64 col, .string name, .int .i64 num, .slice (some ⟨gk, 0, none⟩) 0 cap] 53) = w1 at *
  obtain ⟨hk1, hk2⟩ := HX.out
  have c6 := cell1 hk1
  obtain ⟨c0, c1, c2, c3, c4, c5⟩ := Tr.cellsOf6 hk2
  go_wp2_with (at_builtin; refine wpList_append_own _ rfl _ _ 51 rfl w1.heap.size 3 i0 (.int .i64 0) 1 8 Tryz.underlying51 hi0 hz0 hz1 hz2 rfl (by decide) (.slice none 0 0) 0 [] rfl (World.ownsRow_nil _ _ _ _) ⟨gk, 0, none⟩ 0 cap [] rfl rfl (fun j u hu => by simp at hu) (by simp) (by decide) (by decide) (Nat.le_refl _) ?_)
  intro v2 w2 hown2 hgrow2 hnil2
  have HBg := Lib.hid ((Below.refl w1.heap.size w1).grown hgrow2 (Nat.le_refl _) (fun k hk => by cases hk))
  obtain ⟨A2, c2', rfl⟩ := row_form hown2
  have HO2 := Lib.hid hown2
  clear hown2 hgrow2 hnil2
  have hb2s := HBg.out.size
  go_wp2_with (at_builtin; refine wpList_append_own _ rfl _ _ 51 rfl w1.heap.size 3 i0 (.int .i64 0) 1 8 Tryz.underlying51 hi0 hz0 hz1 hz2 rfl (by decide) (.slice A2 (0 + 0) c2') (0 + 0) ([] ++ []) rfl (HO2.out.alloc _) ⟨w2.heap.size, 0, none⟩ 3 3 [.int .i64 (-1), .int .i64 (-1), .int .i64 (-1)] rfl rfl ?q1 ?q2 ?q3 ?q4 ?q5 ?_)
  case q1 => first | exact fun j u h => h | exact World.news_of_block (Tr.last _ _)
  case q2 => simp [Value.oneCell']
  case q3 => decide
  case q4 => decide
  case q5 => first | omega | (simp; omega)
  intro v3 w3 hown3 hgrow3 hnil3
  have hb3 : Below w1.heap.size w1 w3 := (HBg.out.alloc hb2s _).grown hgrow3 (by simp; omega) (fun k hk => (row_lt HO2.out hk).1)
  obtain ⟨g, cap3, rfl, hgB, hgl⟩ := hown3.form (by omega)
  have HB3 := Lib.hid (HB.out.trans (hb3.mono HB.out.size))
  have HT3 := Lib.hid (HT.out.below hb3)
  have HTA3 := Lib.hid (HTA.out.under hb3)
  have HBW := Lib.hid hb3
  have c6 := (hb3.cell (p := ⟨W.heap.size, 0, none⟩) (Tr.cell_lt c6)).trans c6
  have c0 := (hb3.cell (p := ⟨W.heap.size + 1, 0, none⟩) (Tr.cell_lt c0)).trans c0
  have c1 := (hb3.cell (p := ⟨W.heap.size + 1, 1, none⟩) (Tr.cell_lt c1)).trans c1
  have c2 := (hb3.cell (p := ⟨W.heap.size + 1, 2, none⟩) (Tr.cell_lt c2)).trans c2
  have c3 := (hb3.cell (p := ⟨W.heap.size + 1, 3, none⟩) (Tr.cell_lt c3)).trans c3
  have c4 := (hb3.cell (p := ⟨W.heap.size + 1, 4, none⟩) (Tr.cell_lt c4)).trans c4
  have c5 := (hb3.cell (p := ⟨W.heap.size + 1, 5, none⟩) (Tr.cell_lt c5)).trans c5
  clear hown3 hgrow3 hnil3 hb3 hk1 hk2
  have HC := Lib.hid (HLF.out w3 HTA3.out)
  go_wp2_with fail
  refine HC.out.mono ?_
  rintro e v0 ⟨rfl, hbn⟩
  have hfin := HB3.out.trans (hbn.mono HB3.out.size)
  clear hbn
  go_wp2_with fail
  go_ret
  exact ⟨rfl, hfin⟩
end Go.Proofs.YtmeacgmjpjjphaaGreatDoor
namespace Go.Proofs.YtmeacgmjpjjphaaGreatDoor
open Go.RowKit Go.Shelf
open Tr (Nd TreeAt Own Ints Fine ndV)
open Tr.TreP (WF fits places nd inT)

set_option maxRecDepth 100000 in
set_option maxHeartbeats 8000000 in
theorem tx_callN {B t : Nat} {v : Value} {ms : List (Nd × Value)} (op name : ByteArray) (line col num : Int) (W : World) (e : op = nCall) (hT : TreeAt W B t v ms) (ht : TabOk W) (hn : name.size ≤ 2097152)  :
    Calls Tryz.prog 61 #[.agg #[.pointer (some ⟨t, 0, none⟩)], .agg #[.string op, .int .i64 line, .int .i64 col, .string name, .int .i64 num, .slice none 0 0]] W fun e W' => e = .returned (.string (nodeB (.mk op name num []) [])) ∧ Below W.heap.size W W' := by
  have hnb : nodeB (.mk op name num []) [] = name ++ ⟨#[40]⟩ ++ joinL [] ++ ⟨#[41]⟩ := by
    rw [e]
    kernel_rfl
  rw [hnb]
  clear hnb
  have hJ : (joinL []).size ≤ 140737488355328 := by decide
  have HLI := Lib.hid (fun W a1 a2 => list_in (B := B) (t := t) (v := v) (ms := ms) [] [] rfl (by decide) none 0 W a1 a2 (.inl ⟨⟨_, _, rfl⟩, rfl⟩) (fun j hj => by simp at hj) hJ)
  generalize joinL [] = J at *
  have h0 : (op.toList == [115, 101, 113]) = false := by rw [e]; exact (lit_eq _ _).trans (by decide)
  have h1 : (op.toList == [108, 101, 116]) = false := by rw [e]; exact (lit_eq _ _).trans (by decide)
  have h2 : (op.toList == [105, 102]) = false := by rw [e]; exact (lit_eq _ _).trans (by decide)
  have h3 : (op.toList == [116, 114, 121]) = false := by rw [e]; exact (lit_eq _ _).trans (by decide)
  have h4 : (op.toList == [111, 117, 116]) = false := by rw [e]; exact (lit_eq _ _).trans (by decide)
  have h5 : (op.toList == [115, 101, 116]) = false := by rw [e]; exact (lit_eq _ _).trans (by decide)
  have h6 : (op.toList == [110, 101, 103]) = false := by rw [e]; exact (lit_eq _ _).trans (by decide)
  have h7 : (op.toList == [110, 111, 116]) = false := by rw [e]; exact (lit_eq _ _).trans (by decide)
  have h8 : (op.toList == [102, 115, 116]) = false := by rw [e]; exact (lit_eq _ _).trans (by decide)
  have h9 : (op.toList == [115, 110, 100]) = false := by rw [e]; exact (lit_eq _ _).trans (by decide)
  have h10 : (op.toList == [111, 114]) = false := by rw [e]; exact (lit_eq _ _).trans (by decide)
  have h11 : (op.toList == [97, 110, 100]) = false := by rw [e]; exact (lit_eq _ _).trans (by decide)
  have h12 : (op.toList == [61]) = false := by rw [e]; exact (lit_eq _ _).trans (by decide)
  have h13 : (op.toList == [60]) = false := by rw [e]; exact (lit_eq _ _).trans (by decide)
  have h14 : (op.toList == [43]) = false := by rw [e]; exact (lit_eq _ _).trans (by decide)
  have h15 : (op.toList == [45]) = false := by rw [e]; exact (lit_eq _ _).trans (by decide)
  have h16 : (op.toList == [42]) = false := by rw [e]; exact (lit_eq _ _).trans (by decide)
  have h17 : (op.toList == [114, 101, 108, 101, 97, 115, 101]) = false := by rw [e]; exact (lit_eq _ _).trans (by decide)
  have h18 : (op.toList == [99, 97, 108, 108]) = true := by rw [e]; exact (lit_eq _ _).trans (by decide)
  clear e
  obtain ⟨i0, hi0, hz0, hz1, hz2⟩ := info_parts Tr.info_int
  have hb := ((Below.refl W.heap.size W).alloc (Nat.le_refl _) (.cells #[.pointer (some ⟨t, 0, none⟩)] 83)).alloc (by simp) (.cells #[.string op, .int .i64 line, .int .i64 col, .string name, .int .i64 num, .slice none 0 0] 53)
  have hk1 := (Below.heap_alloc (W.alloc (.cells #[.pointer (some ⟨t, 0, none⟩)] 83)) (.cells #[.string op, .int .i64 line, .int .i64 col, .string name, .int .i64 num, .slice none 0 0] 53) W.heap.size (by simp)).trans (Tr.last W (.cells #[.pointer (some ⟨t, 0, none⟩)] 83))
  have hk2 := Tr.last (W.alloc (.cells #[.pointer (some ⟨t, 0, none⟩)] 83)) (.cells #[.string op, .int .i64 line, .int .i64 col, .string name, .int .i64 num, .slice none 0 0] 53)
  rw [show (W.alloc (.cells #[.pointer (some ⟨t, 0, none⟩)] 83)).heap.size = W.heap.size + 1 by simp] at hk2
  have HB := Lib.hid hb
  have HX := Lib.hid (And.intro hk1 hk2)
  have HT := Lib.hid (hT.below hb)
  have HTA := Lib.hid (ht.under hb)
  clear hb hk1 hk2 hT ht
  go_enter Tryz.func61, Tryz.ntmps61
  go_upto_region 1 with fail
  generalize (W.alloc (.cells #[.pointer (some ⟨t, 0, none⟩)] 83)).alloc (.cells #[.string op, .int .i64 line, .int .i64 col, .string name, .int .i64 num, .slice none 0 0] 53) = w1 at *
  obtain ⟨hk1, hk2⟩ := HX.out
  have c6 := cell1 hk1
  obtain ⟨c0, c1, c2, c3, c4, c5⟩ := Tr.cellsOf6 hk2
  go_wp2_with (first
    | (at_builtin; refine wpList_append_own_none rfl _ _ 51 rfl w1.heap.size 3 i0 1 Tryz.underlying51 hi0 (.slice none 0 0) 0 [] rfl (World.ownsRow_nil _ _ _ _) rfl ?_)
    | (at_builtin; refine wpList_append_own _ rfl _ _ 51 rfl w1.heap.size 3 i0 (.int .i64 0) 1 8 Tryz.underlying51 hi0 hz0 hz1 hz2 rfl (by decide) (.slice none 0 0) 0 [] rfl (World.ownsRow_nil _ _ _ _) ⟨w1.heap.size, 0, none⟩ 3 3 [.int .i64 (-1), .int .i64 (-1), .int .i64 (-1)] rfl rfl ?q1 ?q2 ?q3 ?q4 ?q5 ?_))
  case q1 => first | exact fun j u h => h | exact World.news_of_block (Tr.last _ _)
  case q2 => simp [Value.oneCell']
  case q3 => decide
  case q4 => decide
  case q5 => first | omega | (simp; omega) | simp
  intro v3 w3 hown3 hgrow3 hnil3
  have hb3 : Below w1.heap.size w1 w3 := ((Below.refl w1.heap.size w1).alloc (Nat.le_refl _) _).grown hgrow3 (by simp) (fun k hk => by cases hk)
  obtain ⟨g, cap3, rfl, hgB, hgl⟩ := hown3.form (by omega)
  have HB3 := Lib.hid (HB.out.trans (hb3.mono HB.out.size))
  have HT3 := Lib.hid (HT.out.below hb3)
  have HTA3 := Lib.hid (HTA.out.under hb3)
  have HBW := Lib.hid hb3
  have c6 := (hb3.cell (p := ⟨W.heap.size, 0, none⟩) (Tr.cell_lt c6)).trans c6
  have c0 := (hb3.cell (p := ⟨W.heap.size + 1, 0, none⟩) (Tr.cell_lt c0)).trans c0
  have c1 := (hb3.cell (p := ⟨W.heap.size + 1, 1, none⟩) (Tr.cell_lt c1)).trans c1
  have c2 := (hb3.cell (p := ⟨W.heap.size + 1, 2, none⟩) (Tr.cell_lt c2)).trans c2
  have c3 := (hb3.cell (p := ⟨W.heap.size + 1, 3, none⟩) (Tr.cell_lt c3)).trans c3
  have c4 := (hb3.cell (p := ⟨W.heap.size + 1, 4, none⟩) (Tr.cell_lt c4)).trans c4
  have c5 := (hb3.cell (p := ⟨W.heap.size + 1, 5, none⟩) (Tr.cell_lt c5)).trans c5
  clear hown3 hgrow3 hnil3 hb3 hk1 hk2
  have HC := Lib.hid (HLI.out w3 HT3.out HTA3.out)
  have z1 : ¬ 9223372036854775807 < name.size + 1 := by omega
  have z2 : ¬ 9223372036854775807 < name.size + 1 + J.size := by omega
  have z3 : ¬ 9223372036854775807 < name.size + 1 + J.size + 1 := by omega
  have HCL := Lib.hid (show ∀ W', Below w3.heap.size w3 W' → W'.cell? ⟨W.heap.size, 0, none⟩ = some (.pointer (some ⟨t, 0, none⟩)) ∧ W'.cell? ⟨W.heap.size + 1, 3, none⟩ = some (.string name) ∧ W'.cell? ⟨W.heap.size + 1, 5, none⟩ = some (.slice none 0 0) from fun W' hb => ⟨(hb.cell (p := ⟨W.heap.size, 0, none⟩) (Tr.cell_lt c6)).trans c6, (hb.cell (p := ⟨W.heap.size + 1, 3, none⟩) (Tr.cell_lt c3)).trans c3, (hb.cell (p := ⟨W.heap.size + 1, 5, none⟩) (Tr.cell_lt c5)).trans c5⟩)
  have HCD := Lib.hid (show ∀ W', Below w3.heap.size w3 W' → Calls Tryz.prog 85 #[.agg #[.pointer (some ⟨t, 0, none⟩)], .slice none 0 0] W' fun e W'' => e = .returned (.string J) ∧ Below W'.heap.size W' W'' from fun W' hb => HLI.out W' (HT3.out.below hb) (HTA3.out.under hb))
  clear c1 c2 c4
  go_wp2_with fail
  have hbw1 : Below w3.heap.size w3 w3.drew := (Below.refl _ w3).drew
  clear c6 c0 c3 c5
  obtain ⟨c6, c3, c5⟩ := HCL.out _ hbw1
  go_region_held3 (fun W' => W'.cell? ⟨W.heap.size, 0, none⟩ = some (.pointer (some ⟨t, 0, none⟩)) ∧ W'.cell? ⟨W.heap.size + 1, 3, none⟩ = some (.string name) ∧ W'.cell? ⟨W.heap.size + 1, 5, none⟩ = some (.slice none 0 0)) (first | exact HCL.out _ (by with_reducible assumption))
    (first
      | (go_at_call 85; refine (HCD.out _ (by with_reducible assumption)).mono ?_; rintro e v0 ⟨rfl, hbn⟩; have hbv0 := chain (by with_reducible assumption) hbn; clear hbn; obtain ⟨c6, c3, c5⟩ := HCL.out _ hbv0))
  all_goals
    have hfin := HB3.out.trans (hbv0.mono HB3.out.size)
    go_wp2_with fail
    go_ret
    exact ⟨rfl, hfin⟩
set_option maxRecDepth 100000 in
set_option maxHeartbeats 8000000 in
theorem tx_callS {B t : Nat} {v : Value} {ms : List (Nd × Value)} (op name : ByteArray) (line col num : Int) (gk cap : Nat) (W : World) (e : op = nCall) (hT : TreeAt W B t v ms) (ht : TabOk W) (hn : name.size ≤ 2097152)  :
    Calls Tryz.prog 61 #[.agg #[.pointer (some ⟨t, 0, none⟩)], .agg #[.string op, .int .i64 line, .int .i64 col, .string name, .int .i64 num, .slice (some ⟨gk, 0, none⟩) 0 cap]] W fun e W' => e = .returned (.string (nodeB (.mk op name num []) [])) ∧ Below W.heap.size W W' := by
  have hnb : nodeB (.mk op name num []) [] = name ++ ⟨#[40]⟩ ++ joinL [] ++ ⟨#[41]⟩ := by
    rw [e]
    kernel_rfl
  rw [hnb]
  clear hnb
  have hJ : (joinL []).size ≤ 140737488355328 := by decide
  have HLI := Lib.hid (fun W a1 a2 => list_in (B := B) (t := t) (v := v) (ms := ms) [] [] rfl (by decide) (some ⟨gk, 0, none⟩) cap W a1 a2 (.inl ⟨⟨_, _, rfl⟩, rfl⟩) (fun j hj => by simp at hj) hJ)
  generalize joinL [] = J at *
  have h0 : (op.toList == [115, 101, 113]) = false := by rw [e]; exact (lit_eq _ _).trans (by decide)
  have h1 : (op.toList == [108, 101, 116]) = false := by rw [e]; exact (lit_eq _ _).trans (by decide)
  have h2 : (op.toList == [105, 102]) = false := by rw [e]; exact (lit_eq _ _).trans (by decide)
  have h3 : (op.toList == [116, 114, 121]) = false := by rw [e]; exact (lit_eq _ _).trans (by decide)
  have h4 : (op.toList == [111, 117, 116]) = false := by rw [e]; exact (lit_eq _ _).trans (by decide)
  have h5 : (op.toList == [115, 101, 116]) = false := by rw [e]; exact (lit_eq _ _).trans (by decide)
  have h6 : (op.toList == [110, 101, 103]) = false := by rw [e]; exact (lit_eq _ _).trans (by decide)
  have h7 : (op.toList == [110, 111, 116]) = false := by rw [e]; exact (lit_eq _ _).trans (by decide)
  have h8 : (op.toList == [102, 115, 116]) = false := by rw [e]; exact (lit_eq _ _).trans (by decide)
  have h9 : (op.toList == [115, 110, 100]) = false := by rw [e]; exact (lit_eq _ _).trans (by decide)
  have h10 : (op.toList == [111, 114]) = false := by rw [e]; exact (lit_eq _ _).trans (by decide)
  have h11 : (op.toList == [97, 110, 100]) = false := by rw [e]; exact (lit_eq _ _).trans (by decide)
  have h12 : (op.toList == [61]) = false := by rw [e]; exact (lit_eq _ _).trans (by decide)
  have h13 : (op.toList == [60]) = false := by rw [e]; exact (lit_eq _ _).trans (by decide)
  have h14 : (op.toList == [43]) = false := by rw [e]; exact (lit_eq _ _).trans (by decide)
  have h15 : (op.toList == [45]) = false := by rw [e]; exact (lit_eq _ _).trans (by decide)
  have h16 : (op.toList == [42]) = false := by rw [e]; exact (lit_eq _ _).trans (by decide)
  have h17 : (op.toList == [114, 101, 108, 101, 97, 115, 101]) = false := by rw [e]; exact (lit_eq _ _).trans (by decide)
  have h18 : (op.toList == [99, 97, 108, 108]) = true := by rw [e]; exact (lit_eq _ _).trans (by decide)
  clear e
  obtain ⟨i0, hi0, hz0, hz1, hz2⟩ := info_parts Tr.info_int
  have hb := ((Below.refl W.heap.size W).alloc (Nat.le_refl _) (.cells #[.pointer (some ⟨t, 0, none⟩)] 83)).alloc (by simp) (.cells #[.string op, .int .i64 line, .int .i64 col, .string name, .int .i64 num, .slice (some ⟨gk, 0, none⟩) 0 cap] 53)
  have hk1 := (Below.heap_alloc (W.alloc (.cells #[.pointer (some ⟨t, 0, none⟩)] 83)) (.cells #[.string op, .int .i64 line, .int .i64 col, .string name, .int .i64 num, .slice (some ⟨gk, 0, none⟩) 0 cap] 53) W.heap.size (by simp)).trans (Tr.last W (.cells #[.pointer (some ⟨t, 0, none⟩)] 83))
  have hk2 := Tr.last (W.alloc (.cells #[.pointer (some ⟨t, 0, none⟩)] 83)) (.cells #[.string op, .int .i64 line, .int .i64 col, .string name, .int .i64 num, .slice (some ⟨gk, 0, none⟩) 0 cap] 53)
  rw [show (W.alloc (.cells #[.pointer (some ⟨t, 0, none⟩)] 83)).heap.size = W.heap.size + 1 by simp] at hk2
  have HB := Lib.hid hb
  have HX := Lib.hid (And.intro hk1 hk2)
  have HT := Lib.hid (hT.below hb)
  have HTA := Lib.hid (ht.under hb)
  clear hb hk1 hk2 hT ht
  go_enter Tryz.func61, Tryz.ntmps61
  go_upto_region 1 with fail
  generalize (W.alloc (.cells #[.pointer (some ⟨t, 0, none⟩)] 83)).alloc (.cells #[.string op, .int .i64 line, .int .i64 col, .string name, .int .i64 num, .slice (some ⟨gk, 0, none⟩) 0 cap] 53) = w1 at *
  obtain ⟨hk1, hk2⟩ := HX.out
  have c6 := cell1 hk1
  obtain ⟨c0, c1, c2, c3, c4, c5⟩ := Tr.cellsOf6 hk2
  go_wp2_with (at_builtin; refine wpList_append_own _ rfl _ _ 51 rfl w1.heap.size 3 i0 (.int .i64 0) 1 8 Tryz.underlying51 hi0 hz0 hz1 hz2 rfl (by decide) (.slice none 0 0) 0 [] rfl (World.ownsRow_nil _ _ _ _) ⟨gk, 0, none⟩ 0 cap [] rfl rfl (fun j u hu => by simp at hu) (by simp) (by decide) (by decide) (Nat.le_refl _) ?_)
  intro v2 w2 hown2 hgrow2 hnil2
  have HBg := Lib.hid ((Below.refl w1.heap.size w1).grown hgrow2 (Nat.le_refl _) (fun k hk => by cases hk))
  obtain ⟨A2, c2', rfl⟩ := row_form hown2
  have HO2 := Lib.hid hown2
  clear hown2 hgrow2 hnil2
  have hb2s := HBg.out.size
  go_wp2_with (at_builtin; refine wpList_append_own _ rfl _ _ 51 rfl w1.heap.size 3 i0 (.int .i64 0) 1 8 Tryz.underlying51 hi0 hz0 hz1 hz2 rfl (by decide) (.slice A2 (0 + 0) c2') (0 + 0) ([] ++ []) rfl (HO2.out.alloc _) ⟨w2.heap.size, 0, none⟩ 3 3 [.int .i64 (-1), .int .i64 (-1), .int .i64 (-1)] rfl rfl ?q1 ?q2 ?q3 ?q4 ?q5 ?_)
  case q1 => first | exact fun j u h => h | exact World.news_of_block (Tr.last _ _)
  case q2 => simp [Value.oneCell']
  case q3 => decide
  case q4 => decide
  case q5 => first | omega | (simp; omega)
  intro v3 w3 hown3 hgrow3 hnil3
  have hb3 : Below w1.heap.size w1 w3 := (HBg.out.alloc hb2s _).grown hgrow3 (by simp; omega) (fun k hk => (row_lt HO2.out hk).1)
  obtain ⟨g, cap3, rfl, hgB, hgl⟩ := hown3.form (by omega)
  have HB3 := Lib.hid (HB.out.trans (hb3.mono HB.out.size))
  have HT3 := Lib.hid (HT.out.below hb3)
  have HTA3 := Lib.hid (HTA.out.under hb3)
  have HBW := Lib.hid hb3
  have c6 := (hb3.cell (p := ⟨W.heap.size, 0, none⟩) (Tr.cell_lt c6)).trans c6
  have c0 := (hb3.cell (p := ⟨W.heap.size + 1, 0, none⟩) (Tr.cell_lt c0)).trans c0
  have c1 := (hb3.cell (p := ⟨W.heap.size + 1, 1, none⟩) (Tr.cell_lt c1)).trans c1
  have c2 := (hb3.cell (p := ⟨W.heap.size + 1, 2, none⟩) (Tr.cell_lt c2)).trans c2
  have c3 := (hb3.cell (p := ⟨W.heap.size + 1, 3, none⟩) (Tr.cell_lt c3)).trans c3
  have c4 := (hb3.cell (p := ⟨W.heap.size + 1, 4, none⟩) (Tr.cell_lt c4)).trans c4
  have c5 := (hb3.cell (p := ⟨W.heap.size + 1, 5, none⟩) (Tr.cell_lt c5)).trans c5
  clear hown3 hgrow3 hnil3 hb3 hk1 hk2
  have HC := Lib.hid (HLI.out w3 HT3.out HTA3.out)
  have z1 : ¬ 9223372036854775807 < name.size + 1 := by omega
  have z2 : ¬ 9223372036854775807 < name.size + 1 + J.size := by omega
  have z3 : ¬ 9223372036854775807 < name.size + 1 + J.size + 1 := by omega
  have HCL := Lib.hid (show ∀ W', Below w3.heap.size w3 W' → W'.cell? ⟨W.heap.size, 0, none⟩ = some (.pointer (some ⟨t, 0, none⟩)) ∧ W'.cell? ⟨W.heap.size + 1, 3, none⟩ = some (.string name) ∧ W'.cell? ⟨W.heap.size + 1, 5, none⟩ = some (.slice (some ⟨gk, 0, none⟩) 0 cap) from fun W' hb => ⟨(hb.cell (p := ⟨W.heap.size, 0, none⟩) (Tr.cell_lt c6)).trans c6, (hb.cell (p := ⟨W.heap.size + 1, 3, none⟩) (Tr.cell_lt c3)).trans c3, (hb.cell (p := ⟨W.heap.size + 1, 5, none⟩) (Tr.cell_lt c5)).trans c5⟩)
  have HCD := Lib.hid (show ∀ W', Below w3.heap.size w3 W' → Calls Tryz.prog 85 #[.agg #[.pointer (some ⟨t, 0, none⟩)], .slice (some ⟨gk, 0, none⟩) 0 cap] W' fun e W'' => e = .returned (.string J) ∧ Below W'.heap.size W' W'' from fun W' hb => HLI.out W' (HT3.out.below hb) (HTA3.out.under hb))
  clear c1 c2 c4
  go_wp2_with fail
  have hbw1 : Below w3.heap.size w3 w3.drew := (Below.refl _ w3).drew
  clear c6 c0 c3 c5
  obtain ⟨c6, c3, c5⟩ := HCL.out _ hbw1
  go_region_held3 (fun W' => W'.cell? ⟨W.heap.size, 0, none⟩ = some (.pointer (some ⟨t, 0, none⟩)) ∧ W'.cell? ⟨W.heap.size + 1, 3, none⟩ = some (.string name) ∧ W'.cell? ⟨W.heap.size + 1, 5, none⟩ = some (.slice (some ⟨gk, 0, none⟩) 0 cap)) (first | exact HCL.out _ (by with_reducible assumption))
    (first
      | (go_at_call 85; refine (HCD.out _ (by with_reducible assumption)).mono ?_; rintro e v0 ⟨rfl, hbn⟩; have hbv0 := chain (by with_reducible assumption) hbn; clear hbn; obtain ⟨c6, c3, c5⟩ := HCL.out _ hbv0))
  all_goals
    have hfin := HB3.out.trans (hbv0.mono HB3.out.size)
    go_wp2_with fail
    go_ret
    exact ⟨rfl, hfin⟩
set_option maxRecDepth 100000 in
set_option maxHeartbeats 8000000 in
theorem tx_callM {B t : Nat} {v : Value} {ms : List (Nd × Value)} (op name : ByteArray) (line col num : Int) (gk cap : Nat) (W : World) (e : op = nCall) (hT : TreeAt W B t v ms) (ht : TabOk W) (hn : name.size ≤ 2097152) (kids : List Int) (ts : List Tm) (hl : ts.length = kids.length) (hkl : kids.length ≤ 70000) (hpos : 0 < kids.length) (b0 : Nat) (hO : Tr.Own W b0 (.slice (some ⟨gk, 0, none⟩) kids.length cap) kids) (hK : ∀ j, j < kids.length → KidC B t v ms (kids.getD j 0) (ts.getD j Tm.none)) (hJ : (joinL (ts.map textT)).size ≤ 140737488355328) :
    Calls Tryz.prog 61 #[.agg #[.pointer (some ⟨t, 0, none⟩)], .agg #[.string op, .int .i64 line, .int .i64 col, .string name, .int .i64 num, .slice (some ⟨gk, 0, none⟩) kids.length cap]] W fun e W' => e = .returned (.string (nodeB (.mk op name num ts) (ts.map textT))) ∧ Below W.heap.size W W' := by
  have hnb : nodeB (.mk op name num ts) (ts.map textT) = name ++ ⟨#[40]⟩ ++ joinL (ts.map textT) ++ ⟨#[41]⟩ := by
    rw [e]
    kernel_rfl
  rw [hnb]
  clear hnb
  have HLI := Lib.hid (fun W a1 a2 a3 => list_in (B := B) (t := t) (v := v) (ms := ms) kids (ts.map textT) (by simpa using hl) hkl (some ⟨gk, 0, none⟩) cap W a1 a2 a3 (fun j hj => by
    have hk := hK j hj
    have hg : (ts.map textT).getD j ⟨#[]⟩ = textT (ts.getD j Tm.none) := by simp [List.getD, show j < ts.length by omega]
    rw [hg]
    exact ⟨hk.size, fun W h1 h2 => by have := hk.call W h1 h2 0 (by decide) (by decide); rwa [atB_zero] at this⟩) hJ)
  clear hK
  generalize joinL (ts.map textT) = J at *
  have h0 : (op.toList == [115, 101, 113]) = false := by rw [e]; exact (lit_eq _ _).trans (by decide)
  have h1 : (op.toList == [108, 101, 116]) = false := by rw [e]; exact (lit_eq _ _).trans (by decide)
  have h2 : (op.toList == [105, 102]) = false := by rw [e]; exact (lit_eq _ _).trans (by decide)
  have h3 : (op.toList == [116, 114, 121]) = false := by rw [e]; exact (lit_eq _ _).trans (by decide)
  have h4 : (op.toList == [111, 117, 116]) = false := by rw [e]; exact (lit_eq _ _).trans (by decide)
  have h5 : (op.toList == [115, 101, 116]) = false := by rw [e]; exact (lit_eq _ _).trans (by decide)
  have h6 : (op.toList == [110, 101, 103]) = false := by rw [e]; exact (lit_eq _ _).trans (by decide)
  have h7 : (op.toList == [110, 111, 116]) = false := by rw [e]; exact (lit_eq _ _).trans (by decide)
  have h8 : (op.toList == [102, 115, 116]) = false := by rw [e]; exact (lit_eq _ _).trans (by decide)
  have h9 : (op.toList == [115, 110, 100]) = false := by rw [e]; exact (lit_eq _ _).trans (by decide)
  have h10 : (op.toList == [111, 114]) = false := by rw [e]; exact (lit_eq _ _).trans (by decide)
  have h11 : (op.toList == [97, 110, 100]) = false := by rw [e]; exact (lit_eq _ _).trans (by decide)
  have h12 : (op.toList == [61]) = false := by rw [e]; exact (lit_eq _ _).trans (by decide)
  have h13 : (op.toList == [60]) = false := by rw [e]; exact (lit_eq _ _).trans (by decide)
  have h14 : (op.toList == [43]) = false := by rw [e]; exact (lit_eq _ _).trans (by decide)
  have h15 : (op.toList == [45]) = false := by rw [e]; exact (lit_eq _ _).trans (by decide)
  have h16 : (op.toList == [42]) = false := by rw [e]; exact (lit_eq _ _).trans (by decide)
  have h17 : (op.toList == [114, 101, 108, 101, 97, 115, 101]) = false := by rw [e]; exact (lit_eq _ _).trans (by decide)
  have h18 : (op.toList == [99, 97, 108, 108]) = true := by rw [e]; exact (lit_eq _ _).trans (by decide)
  clear e
  obtain ⟨i0, hi0, hz0, hz1, hz2⟩ := info_parts Tr.info_int
  have hb := ((Below.refl W.heap.size W).alloc (Nat.le_refl _) (.cells #[.pointer (some ⟨t, 0, none⟩)] 83)).alloc (by simp) (.cells #[.string op, .int .i64 line, .int .i64 col, .string name, .int .i64 num, .slice (some ⟨gk, 0, none⟩) kids.length cap] 53)
  have hk1 := (Below.heap_alloc (W.alloc (.cells #[.pointer (some ⟨t, 0, none⟩)] 83)) (.cells #[.string op, .int .i64 line, .int .i64 col, .string name, .int .i64 num, .slice (some ⟨gk, 0, none⟩) kids.length cap] 53) W.heap.size (by simp)).trans (Tr.last W (.cells #[.pointer (some ⟨t, 0, none⟩)] 83))
  have hk2 := Tr.last (W.alloc (.cells #[.pointer (some ⟨t, 0, none⟩)] 83)) (.cells #[.string op, .int .i64 line, .int .i64 col, .string name, .int .i64 num, .slice (some ⟨gk, 0, none⟩) kids.length cap] 53)
  rw [show (W.alloc (.cells #[.pointer (some ⟨t, 0, none⟩)] 83)).heap.size = W.heap.size + 1 by simp] at hk2
  have HB := Lib.hid hb
  have HX := Lib.hid (And.intro hk1 hk2)
  have HT := Lib.hid (hT.below hb)
  have HTA := Lib.hid (ht.under hb)
  have HI1 := Lib.hid (hO.below hb)
  clear hb hk1 hk2 hT ht hO
  go_enter Tryz.func61, Tryz.ntmps61
  go_upto_region 1 with fail
  generalize (W.alloc (.cells #[.pointer (some ⟨t, 0, none⟩)] 83)).alloc (.cells #[.string op, .int .i64 line, .int .i64 col, .string name, .int .i64 num, .slice (some ⟨gk, 0, none⟩) kids.length cap] 53) = w1 at *
  obtain ⟨hk1, hk2⟩ := HX.out
  have c6 := cell1 hk1
  obtain ⟨c0, c1, c2, c3, c4, c5⟩ := Tr.cellsOf6 hk2
  go_wp2_with (at_builtin; refine wpList_append_own _ rfl _ _ 51 rfl w1.heap.size 3 i0 (.int .i64 0) 1 8 Tryz.underlying51 hi0 hz0 hz1 hz2 rfl (by decide) (.slice none 0 0) 0 [] rfl (World.ownsRow_nil _ _ _ _) ⟨gk, 0, none⟩ kids.length cap (kids.map (Value.int .i64)) rfl (by simp) HI1.out.news (Tr.ints_one kids) (by unfold maxLen; omega) (by omega) (Nat.le_refl _) ?_)
  intro v2 w2 hown2 hgrow2 hnil2
  have HBg := Lib.hid ((Below.refl w1.heap.size w1).grown hgrow2 (Nat.le_refl _) (fun k hk => by cases hk))
  obtain ⟨A2, c2', rfl⟩ := row_form hown2
  have HO2 := Lib.hid hown2
  clear hown2 hgrow2 hnil2
  have hb2s := HBg.out.size
  go_wp2_with (at_builtin; refine wpList_append_own _ rfl _ _ 51 rfl w1.heap.size 3 i0 (.int .i64 0) 1 8 Tryz.underlying51 hi0 hz0 hz1 hz2 rfl (by decide) (.slice A2 kids.length c2') kids.length (kids.map (Value.int .i64)) rfl (HO2.out.alloc _) ⟨w2.heap.size, 0, none⟩ 3 3 [.int .i64 (-1), .int .i64 (-1), .int .i64 (-1)] rfl rfl ?q1 ?q2 ?q3 ?q4 ?q5 ?_)
  case q1 => first | exact fun j u h => h | exact World.news_of_block (Tr.last _ _)
  case q2 => simp [Value.oneCell']
  case q3 => unfold maxLen; omega
  case q4 => omega
  case q5 => first | omega | (simp; omega)
  intro v3 w3 hown3 hgrow3 hnil3
  have hb3 : Below w1.heap.size w1 w3 := (HBg.out.alloc hb2s _).grown hgrow3 (by simp; omega) (fun k hk => (row_lt HO2.out hk).1)
  obtain ⟨g, cap3, rfl, hgB, hgl⟩ := hown3.form (by omega)
  have HB3 := Lib.hid (HB.out.trans (hb3.mono HB.out.size))
  have HT3 := Lib.hid (HT.out.below hb3)
  have HTA3 := Lib.hid (HTA.out.under hb3)
  have HBW := Lib.hid hb3
  have c6 := (hb3.cell (p := ⟨W.heap.size, 0, none⟩) (Tr.cell_lt c6)).trans c6
  have c0 := (hb3.cell (p := ⟨W.heap.size + 1, 0, none⟩) (Tr.cell_lt c0)).trans c0
  have c1 := (hb3.cell (p := ⟨W.heap.size + 1, 1, none⟩) (Tr.cell_lt c1)).trans c1
  have c2 := (hb3.cell (p := ⟨W.heap.size + 1, 2, none⟩) (Tr.cell_lt c2)).trans c2
  have c3 := (hb3.cell (p := ⟨W.heap.size + 1, 3, none⟩) (Tr.cell_lt c3)).trans c3
  have c4 := (hb3.cell (p := ⟨W.heap.size + 1, 4, none⟩) (Tr.cell_lt c4)).trans c4
  have c5 := (hb3.cell (p := ⟨W.heap.size + 1, 5, none⟩) (Tr.cell_lt c5)).trans c5
  clear hown3 hgrow3 hnil3 hb3 hk1 hk2
  have HC := Lib.hid (HLI.out w3 HT3.out HTA3.out ((HI1.out.below HBW.out).ints))
  have z1 : ¬ 9223372036854775807 < name.size + 1 := by omega
  have z2 : ¬ 9223372036854775807 < name.size + 1 + J.size := by omega
  have z3 : ¬ 9223372036854775807 < name.size + 1 + J.size + 1 := by omega
  have HCL := Lib.hid (show ∀ W', Below w3.heap.size w3 W' → W'.cell? ⟨W.heap.size, 0, none⟩ = some (.pointer (some ⟨t, 0, none⟩)) ∧ W'.cell? ⟨W.heap.size + 1, 3, none⟩ = some (.string name) ∧ W'.cell? ⟨W.heap.size + 1, 5, none⟩ = some (.slice (some ⟨gk, 0, none⟩) kids.length cap) from fun W' hb => ⟨(hb.cell (p := ⟨W.heap.size, 0, none⟩) (Tr.cell_lt c6)).trans c6, (hb.cell (p := ⟨W.heap.size + 1, 3, none⟩) (Tr.cell_lt c3)).trans c3, (hb.cell (p := ⟨W.heap.size + 1, 5, none⟩) (Tr.cell_lt c5)).trans c5⟩)
  have HCD := Lib.hid (show ∀ W', Below w3.heap.size w3 W' → Calls Tryz.prog 85 #[.agg #[.pointer (some ⟨t, 0, none⟩)], .slice (some ⟨gk, 0, none⟩) kids.length cap] W' fun e W'' => e = .returned (.string J) ∧ Below W'.heap.size W' W'' from fun W' hb => HLI.out W' (HT3.out.below hb) (HTA3.out.under hb) (((HI1.out.below HBW.out).below hb).ints))
  clear c1 c2 c4
  go_wp2_with fail
  have hbw1 : Below w3.heap.size w3 w3.drew := (Below.refl _ w3).drew
  clear c6 c0 c3 c5
  obtain ⟨c6, c3, c5⟩ := HCL.out _ hbw1
  go_region_held3 (fun W' => W'.cell? ⟨W.heap.size, 0, none⟩ = some (.pointer (some ⟨t, 0, none⟩)) ∧ W'.cell? ⟨W.heap.size + 1, 3, none⟩ = some (.string name) ∧ W'.cell? ⟨W.heap.size + 1, 5, none⟩ = some (.slice (some ⟨gk, 0, none⟩) kids.length cap)) (first | exact HCL.out _ (by with_reducible assumption))
    (first
      | (go_at_call 85; refine (HCD.out _ (by with_reducible assumption)).mono ?_; rintro e v0 ⟨rfl, hbn⟩; have hbv0 := chain (by with_reducible assumption) hbn; clear hbn; obtain ⟨c6, c3, c5⟩ := HCL.out _ hbv0))
  all_goals
    have hfin := HB3.out.trans (hbv0.mono HB3.out.size)
    go_wp2_with fail
    go_ret
    exact ⟨rfl, hfin⟩
end Go.Proofs.YtmeacgmjpjjphaaGreatDoor
