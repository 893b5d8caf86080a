/- The texts of nodes. PRINTED by genshh.py. -/
import Derived.Test.YtmeacgmjpjjphaaGreatDoorMShG
set_option linter.unusedVariables false
set_option linter.unusedSimpArgs false
namespace Go.Proofs.YtmeacgmjpjjphaaGreatDoor
open Go.RowKit Go.Shelf
open Tr (Nd TreeAt Own Ints Fine ndV)
open Tr.TreP (WF fits places nd inT)

theorem no_eq {op : ByteArray} {l : List UInt8} (h : op ≠ bs l) : (op.toList == l) = false := by
  cases hb : (op.toList == l) with
  | false => rfl
  | true => exact absurd (op_yes hb) h
theorem first_size {B t : Nat} {v : Value} {ms : List (Nd × Value)} {q : Int} {τ : Tm} (hK : KidC B t v ms q τ) : (if openT τ then ⟨#[40]⟩ ++ textT τ ++ ⟨#[41]⟩ else atB τ (textT τ) 1).size ≤ 2000000000000 := by
  have h1 := hK.size
  have h2 := hK.at_size 1
  split
  · rw [ByteArray.size_append, ByteArray.size_append, lp_size, rp_size]
    omega
  · exact h2
theorem lit_eq (a b : List UInt8) : ((bs a).toList == b) = decide (a = b) := by
  rw [ByteArray.toList_eq]
  show (a == b) = decide (a = b)
  cases h : decide (a = b) with
  | true => simpa using of_decide_eq_true h
  | false => simpa using of_decide_eq_false h
end Go.Proofs.YtmeacgmjpjjphaaGreatDoor
namespace Go.Proofs.YtmeacgmjpjjphaaGreatDoor
open Go.RowKit Go.Shelf
open Tr (Nd TreeAt Own Ints Fine ndV)
open Tr.TreP (WF fits places nd inT)

set_option maxRecDepth 100000 in
set_option maxHeartbeats 8000000 in
theorem tx_seq {B t : Nat} {v : Value} {ms : List (Nd × Value)} (op name : ByteArray) (line col num k0 k1 : Int) (t0 t1 : Tm) (b off cap : Nat) (e : op = nSeq) (W : World) (hT : TreeAt W B t v ms) (ht : TabOk W) (hc0 : W.cell? ⟨b, off, none⟩ = some (.int .i64 k0)) (hc1 : W.cell? ⟨b, off + 1, none⟩ = some (.int .i64 k1)) (hn : name.size ≤ 2097152) (hK0 : KidC B t v ms k0 t0) (hK1 : KidC B t v ms k1 t1) (hO0 : OpenC B t v ms k0 t0) :
    Calls Tryz.prog 61 #[.agg #[.pointer (some ⟨t, 0, none⟩)], .agg #[.string op, .int .i64 line, .int .i64 col, .string name, .int .i64 num, .slice (some ⟨b, off, none⟩) 2 cap]] W fun e W' => e = .returned (.string (nodeB (.mk op name num [t0, t1]) [textT t0, textT t1])) ∧ Below W.heap.size W W' := by
  have hnb : nodeB (.mk op name num [t0, t1]) [textT t0, textT t1] = (if openT t0 then ⟨#[40]⟩ ++ textT t0 ++ ⟨#[41]⟩ else atB t0 (textT t0) 1) ++ (⟨#[59, 32]⟩ : ByteArray) ++ atB t1 (textT t1) 0 := by
    rw [e]
    kernel_rfl
  have hz0 : (if openT t0 then ⟨#[40]⟩ ++ textT t0 ++ ⟨#[41]⟩ else atB t0 (textT t0) 1).size ≤ 2000000000000 := first_size hK0
  have HK0 := Lib.hid (fun W a b => first_in hK0 hO0 W a b)
  have hz1 := hK1.at_size 0
  have HK1 := Lib.hid (fun W a b => hK1.call W a b 0 (by decide) (by decide))
  clear hK0 hK1 hO0
  generalize (if openT t0 then ⟨#[40]⟩ ++ textT t0 ++ ⟨#[41]⟩ else atB t0 (textT t0) 1) = s0 at *
  generalize atB t1 (textT t1) 0 = s1 at *
  rw [hnb]
  clear hnb
  obtain ⟨r, hr⟩ : ∃ r, s0 ++ (⟨#[59, 32]⟩ : ByteArray) ++ s1 = r := ⟨_, rfl⟩
  rw [hr]
  have HR := Lib.hid hr
  clear hr
  have hos : op.size ≤ 20 := by rw [e]; decide
  have h0 : (op.toList == [115, 101, 113]) = true := by rw [e]; exact (lit_eq _ _).trans (by decide)
  clear e
  obtain ⟨i0, hi0, hz0, hz1, hz2⟩ := info_parts Tr.info_int
  have hb := ((Below.refl W.heap.size W).alloc (Nat.le_refl _) (.cells #[.pointer (some ⟨t, 0, none⟩)] 83)).alloc (by simp) (.cells #[.string op, .int .i64 line, .int .i64 col, .string name, .int .i64 num, .slice (some ⟨b, off, none⟩) 2 cap] 53)
  have hk1 := (Below.heap_alloc (W.alloc (.cells #[.pointer (some ⟨t, 0, none⟩)] 83)) (.cells #[.string op, .int .i64 line, .int .i64 col, .string name, .int .i64 num, .slice (some ⟨b, off, none⟩) 2 cap] 53) W.heap.size (by simp)).trans (Tr.last W (.cells #[.pointer (some ⟨t, 0, none⟩)] 83))
  have hk2 := Tr.last (W.alloc (.cells #[.pointer (some ⟨t, 0, none⟩)] 83)) (.cells #[.string op, .int .i64 line, .int .i64 col, .string name, .int .i64 num, .slice (some ⟨b, off, none⟩) 2 cap] 53)
  rw [show (W.alloc (.cells #[.pointer (some ⟨t, 0, none⟩)] 83)).heap.size = W.heap.size + 1 by simp] at hk2
  have hd0 := (hb.cell (p := ⟨b, off, none⟩) (Tr.cell_lt hc0)).trans hc0
  have hd1 := (hb.cell (p := ⟨b, off + 1, none⟩) (Tr.cell_lt hc1)).trans hc1
  have HB := Lib.hid hb
  have HX := Lib.hid (And.intro hk1 (And.intro hk2 (And.intro hd0 hd1)))
  have HT := Lib.hid (hT.below hb)
  have HTA := Lib.hid (ht.under hb)
  clear hb hk1 hk2 hT ht hc0 hd0 hc1 hd1
  go_enter Tryz.func61, Tryz.ntmps61
  go_upto_region 1 with fail
  generalize (W.alloc (.cells #[.pointer (some ⟨t, 0, none⟩)] 83)).alloc (.cells #[.string op, .int .i64 line, .int .i64 col, .string name, .int .i64 num, .slice (some ⟨b, off, none⟩) 2 cap] 53) = w1 at *
  obtain ⟨hk1, hk2, hd0, hd1⟩ := HX.out
  have c6 := cell1 hk1
  obtain ⟨c0, c1, c2, c3, c4, c5⟩ := Tr.cellsOf6 hk2
  have HN1 := Lib.hid (show ∀ j u, ([.int .i64 k0, .int .i64 k1] : List Value)[j]? = some u → w1.cell? ((⟨b, off, none⟩ : Addr).add j) = some u from fun j u hu => by
    rw [Tr.add_at]
    match j, hu with
    | 0, hu => cases hu; exact hd0
    | 1, hu => cases hu; exact hd1
    | j + 2, hu => simp at hu)
  go_wp2_with (at_builtin; refine wpList_append_own _ rfl _ _ 51 rfl w1.heap.size 3 i0 (.int .i64 0) 1 8 Tryz.underlying51 hi0 hz0 hz1 hz2 rfl (by decide) (.slice none 0 0) 0 [] rfl (World.ownsRow_nil _ _ _ _) ⟨b, off, none⟩ 2 cap [.int .i64 k0, .int .i64 k1] rfl rfl HN1.out (by simp [Value.oneCell']) (by decide) (by decide) (Nat.le_refl _) ?_)
  intro v2 w2 hown2 hgrow2 hnil2
  have HBg := Lib.hid ((Below.refl w1.heap.size w1).grown hgrow2 (Nat.le_refl _) (fun k hk => by cases hk))
  obtain ⟨A2, c2', rfl⟩ := row_form hown2
  have HO2 := Lib.hid hown2
  clear hown2 hgrow2 hnil2
  have hb2s := HBg.out.size
  go_wp2_with (at_builtin; refine wpList_append_own _ rfl _ _ 51 rfl w1.heap.size 3 i0 (.int .i64 0) 1 8 Tryz.underlying51 hi0 hz0 hz1 hz2 rfl (by decide) (.slice A2 (0 + 2) c2') (0 + 2) [.int .i64 k0, .int .i64 k1] rfl (HO2.out.alloc _) ⟨w2.heap.size, 0, none⟩ 3 3 [.int .i64 (-1), .int .i64 (-1), .int .i64 (-1)] rfl rfl ?q1 ?q2 ?q3 ?q4 ?q5 ?_)
  case q1 => first | exact fun j u h => h | exact World.news_of_block (Tr.last _ _)
  case q2 => simp [Value.oneCell']
  case q3 => decide
  case q4 => decide
  case q5 => first | omega | (simp; omega)
  intro v3 w3 hown3 hgrow3 hnil3
  have hb3 : Below w1.heap.size w1 w3 := (HBg.out.alloc hb2s _).grown hgrow3 (by simp; omega) (fun k hk => (row_lt HO2.out hk).1)
  obtain ⟨g, cap3, rfl, hgB, hgl⟩ := hown3.form (by decide)
  have e0 : w3.cell? ⟨g, 0, none⟩ = some (.int .i64 k0) := hown3.cellAt 0 (by decide)
  have e1 : w3.cell? ⟨g, 1, none⟩ = some (.int .i64 k1) := hown3.cellAt 1 (by decide)
  have HB3 := Lib.hid (HB.out.trans (hb3.mono HB.out.size))
  have HT3 := Lib.hid (HT.out.below hb3)
  have HTA3 := Lib.hid (HTA.out.under hb3)
  have c6 := (hb3.cell (p := ⟨W.heap.size, 0, none⟩) (Tr.cell_lt c6)).trans c6
  have c0 := (hb3.cell (p := ⟨W.heap.size + 1, 0, none⟩) (Tr.cell_lt c0)).trans c0
  have c3 := (hb3.cell (p := ⟨W.heap.size + 1, 3, none⟩) (Tr.cell_lt c3)).trans c3
  have c5 := (hb3.cell (p := ⟨W.heap.size + 1, 5, none⟩) (Tr.cell_lt c5)).trans c5
  have HCL := Lib.hid (show ∀ W', Below w3.heap.size w3 W' → W'.cell? ⟨W.heap.size, 0, none⟩ = some (.pointer (some ⟨t, 0, none⟩)) ∧ W'.cell? ⟨W.heap.size + 1, 0, none⟩ = some (.string op) ∧ W'.cell? ⟨W.heap.size + 1, 3, none⟩ = some (.string name) ∧ W'.cell? ⟨g, 0, none⟩ = some (.int .i64 k0) ∧ W'.cell? ⟨g, 1, none⟩ = some (.int .i64 k1) from fun W' hb => ⟨(hb.cell (p := ⟨W.heap.size, 0, none⟩) (Tr.cell_lt c6)).trans c6, (hb.cell (p := ⟨W.heap.size + 1, 0, none⟩) (Tr.cell_lt c0)).trans c0, (hb.cell (p := ⟨W.heap.size + 1, 3, none⟩) (Tr.cell_lt c3)).trans c3, (hb.cell (p := ⟨g, 0, none⟩) (Tr.cell_lt e0)).trans e0, (hb.cell (p := ⟨g, 1, none⟩) (Tr.cell_lt e1)).trans e1⟩)
  clear hown3 hgrow3 hnil3 hb3 hk1 hk2 c5 hd0 hd1
  have z1 : ¬ 9223372036854775807 < s0.size + 2 := by omega
  have z2 : ¬ 9223372036854775807 < s0.size + 2 + s1.size := by omega
  have y0 : (0 : Int) < ((0 + 2 + 3 : Nat) : Int) := by decide
  have y0' : (0 : Int) < (5 : Int) := by decide
  have y1 : (1 : Int) < ((0 + 2 + 3 : Nat) : Int) := by decide
  have y1' : (1 : Int) < (5 : Int) := by decide
  go_wp2_with fail
  have hbw1 : Below w3.heap.size w3 w3.drew := (Below.refl _ w3).drew
  clear c6 c0 c3 e0 e1
  obtain ⟨c6, c0, c3, e0, e1⟩ := HCL.out _ hbw1
  go_region_held3 (fun W' => W'.cell? ⟨W.heap.size, 0, none⟩ = some (.pointer (some ⟨t, 0, none⟩)) ∧ W'.cell? ⟨W.heap.size + 1, 0, none⟩ = some (.string op) ∧ W'.cell? ⟨W.heap.size + 1, 3, none⟩ = some (.string name) ∧ W'.cell? ⟨g, 0, none⟩ = some (.int .i64 k0) ∧ W'.cell? ⟨g, 1, none⟩ = some (.int .i64 k1)) (first | exact HCL.out _ (by with_reducible assumption))
    (first
      | (go_at_call_of 83 (Value.int IntKind.i64 k0); refine (HK0.out _ (HT3.out.below (by with_reducible assumption)) (HTA3.out.under (by with_reducible assumption))).mono ?_; rintro e v0 ⟨rfl, hbn⟩; have hbv0 := chain (by with_reducible assumption) hbn; clear hbn; obtain ⟨c6, c0, c3, e0, e1⟩ := HCL.out _ hbv0)
      | (go_at_call_of 33 (Value.int IntKind.i64 k1); refine (HK1.out _ (HT3.out.below (by with_reducible assumption)) (HTA3.out.under (by with_reducible assumption))).mono ?_; rintro e v1 ⟨rfl, hbn⟩; have hbv1 := chain (by with_reducible assumption) hbn; clear hbn; obtain ⟨c6, c0, c3, e0, e1⟩ := HCL.out _ hbv1))
  all_goals
    have hfin := HB3.out.trans (hbv1.mono HB3.out.size)
    go_wp2_with fail
    go_ret
    exact ⟨by rw [← HR.out]; rfl, hfin⟩
set_option maxRecDepth 100000 in
set_option maxHeartbeats 8000000 in
theorem tx_let {B t : Nat} {v : Value} {ms : List (Nd × Value)} (op name : ByteArray) (line col num k0 k1 : Int) (t0 t1 : Tm) (b off cap : Nat) (e : op = kLet) (W : World) (hT : TreeAt W B t v ms) (ht : TabOk W) (hc0 : W.cell? ⟨b, off, none⟩ = some (.int .i64 k0)) (hc1 : W.cell? ⟨b, off + 1, none⟩ = some (.int .i64 k1)) (hn : name.size ≤ 2097152) (hK0 : KidC B t v ms k0 t0) (hK1 : KidC B t v ms k1 t1) :
    Calls Tryz.prog 61 #[.agg #[.pointer (some ⟨t, 0, none⟩)], .agg #[.string op, .int .i64 line, .int .i64 col, .string name, .int .i64 num, .slice (some ⟨b, off, none⟩) 2 cap]] W fun e W' => e = .returned (.string (nodeB (.mk op name num [t0, t1]) [textT t0, textT t1])) ∧ Below W.heap.size W W' := by
  have hnb : nodeB (.mk op name num [t0, t1]) [textT t0, textT t1] = (⟨#[108, 101, 116, 32]⟩ : ByteArray) ++ name ++ (⟨#[32, 61, 32]⟩ : ByteArray) ++ atB t0 (textT t0) 0 ++ (⟨#[32, 105, 110, 32]⟩ : ByteArray) ++ atB t1 (textT t1) 0 := by
    rw [e]
    kernel_rfl
  have hz0 := hK0.at_size 0
  have HK0 := Lib.hid (fun W a b => hK0.call W a b 0 (by decide) (by decide))
  have hz1 := hK1.at_size 0
  have HK1 := Lib.hid (fun W a b => hK1.call W a b 0 (by decide) (by decide))
  clear hK0 hK1
  generalize atB t0 (textT t0) 0 = s0 at *
  generalize atB t1 (textT t1) 0 = s1 at *
  rw [hnb]
  clear hnb
  obtain ⟨r, hr⟩ : ∃ r, (⟨#[108, 101, 116, 32]⟩ : ByteArray) ++ name ++ (⟨#[32, 61, 32]⟩ : ByteArray) ++ s0 ++ (⟨#[32, 105, 110, 32]⟩ : ByteArray) ++ s1 = r := ⟨_, rfl⟩
  rw [hr]
  have HR := Lib.hid hr
  clear hr
  have hos : op.size ≤ 20 := by rw [e]; decide
  have h0 : (op.toList == [115, 101, 113]) = false := by rw [e]; exact (lit_eq _ _).trans (by decide)
  have h1 : (op.toList == [108, 101, 116]) = true := by rw [e]; exact (lit_eq _ _).trans (by decide)
  clear e
  obtain ⟨i0, hi0, hz0, hz1, hz2⟩ := info_parts Tr.info_int
  have hb := ((Below.refl W.heap.size W).alloc (Nat.le_refl _) (.cells #[.pointer (some ⟨t, 0, none⟩)] 83)).alloc (by simp) (.cells #[.string op, .int .i64 line, .int .i64 col, .string name, .int .i64 num, .slice (some ⟨b, off, none⟩) 2 cap] 53)
  have hk1 := (Below.heap_alloc (W.alloc (.cells #[.pointer (some ⟨t, 0, none⟩)] 83)) (.cells #[.string op, .int .i64 line, .int .i64 col, .string name, .int .i64 num, .slice (some ⟨b, off, none⟩) 2 cap] 53) W.heap.size (by simp)).trans (Tr.last W (.cells #[.pointer (some ⟨t, 0, none⟩)] 83))
  have hk2 := Tr.last (W.alloc (.cells #[.pointer (some ⟨t, 0, none⟩)] 83)) (.cells #[.string op, .int .i64 line, .int .i64 col, .string name, .int .i64 num, .slice (some ⟨b, off, none⟩) 2 cap] 53)
  rw [show (W.alloc (.cells #[.pointer (some ⟨t, 0, none⟩)] 83)).heap.size = W.heap.size + 1 by simp] at hk2
  have hd0 := (hb.cell (p := ⟨b, off, none⟩) (Tr.cell_lt hc0)).trans hc0
  have hd1 := (hb.cell (p := ⟨b, off + 1, none⟩) (Tr.cell_lt hc1)).trans hc1
  have HB := Lib.hid hb
  have HX := Lib.hid (And.intro hk1 (And.intro hk2 (And.intro hd0 hd1)))
  have HT := Lib.hid (hT.below hb)
  have HTA := Lib.hid (ht.under hb)
  clear hb hk1 hk2 hT ht hc0 hd0 hc1 hd1
  go_enter Tryz.func61, Tryz.ntmps61
  go_upto_region 1 with fail
  generalize (W.alloc (.cells #[.pointer (some ⟨t, 0, none⟩)] 83)).alloc (.cells #[.string op, .int .i64 line, .int .i64 col, .string name, .int .i64 num, .slice (some ⟨b, off, none⟩) 2 cap] 53) = w1 at *
  obtain ⟨hk1, hk2, hd0, hd1⟩ := HX.out
  have c6 := cell1 hk1
  obtain ⟨c0, c1, c2, c3, c4, c5⟩ := Tr.cellsOf6 hk2
  have HN1 := Lib.hid (show ∀ j u, ([.int .i64 k0, .int .i64 k1] : List Value)[j]? = some u → w1.cell? ((⟨b, off, none⟩ : Addr).add j) = some u from fun j u hu => by
    rw [Tr.add_at]
    match j, hu with
    | 0, hu => cases hu; exact hd0
    | 1, hu => cases hu; exact hd1
    | j + 2, hu => simp at hu)
  go_wp2_with (at_builtin; refine wpList_append_own _ rfl _ _ 51 rfl w1.heap.size 3 i0 (.int .i64 0) 1 8 Tryz.underlying51 hi0 hz0 hz1 hz2 rfl (by decide) (.slice none 0 0) 0 [] rfl (World.ownsRow_nil _ _ _ _) ⟨b, off, none⟩ 2 cap [.int .i64 k0, .int .i64 k1] rfl rfl HN1.out (by simp [Value.oneCell']) (by decide) (by decide) (Nat.le_refl _) ?_)
  intro v2 w2 hown2 hgrow2 hnil2
  have HBg := Lib.hid ((Below.refl w1.heap.size w1).grown hgrow2 (Nat.le_refl _) (fun k hk => by cases hk))
  obtain ⟨A2, c2', rfl⟩ := row_form hown2
  have HO2 := Lib.hid hown2
  clear hown2 hgrow2 hnil2
  have hb2s := HBg.out.size
  go_wp2_with (at_builtin; refine wpList_append_own _ rfl _ _ 51 rfl w1.heap.size 3 i0 (.int .i64 0) 1 8 Tryz.underlying51 hi0 hz0 hz1 hz2 rfl (by decide) (.slice A2 (0 + 2) c2') (0 + 2) [.int .i64 k0, .int .i64 k1] rfl (HO2.out.alloc _) ⟨w2.heap.size, 0, none⟩ 3 3 [.int .i64 (-1), .int .i64 (-1), .int .i64 (-1)] rfl rfl ?q1 ?q2 ?q3 ?q4 ?q5 ?_)
  case q1 => first | exact fun j u h => h | exact World.news_of_block (Tr.last _ _)
  case q2 => simp [Value.oneCell']
  case q3 => decide
  case q4 => decide
  case q5 => first | omega | (simp; omega)
  intro v3 w3 hown3 hgrow3 hnil3
  have hb3 : Below w1.heap.size w1 w3 := (HBg.out.alloc hb2s _).grown hgrow3 (by simp; omega) (fun k hk => (row_lt HO2.out hk).1)
  obtain ⟨g, cap3, rfl, hgB, hgl⟩ := hown3.form (by decide)
  have e0 : w3.cell? ⟨g, 0, none⟩ = some (.int .i64 k0) := hown3.cellAt 0 (by decide)
  have e1 : w3.cell? ⟨g, 1, none⟩ = some (.int .i64 k1) := hown3.cellAt 1 (by decide)
  have HB3 := Lib.hid (HB.out.trans (hb3.mono HB.out.size))
  have HT3 := Lib.hid (HT.out.below hb3)
  have HTA3 := Lib.hid (HTA.out.under hb3)
  have c6 := (hb3.cell (p := ⟨W.heap.size, 0, none⟩) (Tr.cell_lt c6)).trans c6
  have c0 := (hb3.cell (p := ⟨W.heap.size + 1, 0, none⟩) (Tr.cell_lt c0)).trans c0
  have c3 := (hb3.cell (p := ⟨W.heap.size + 1, 3, none⟩) (Tr.cell_lt c3)).trans c3
  have c5 := (hb3.cell (p := ⟨W.heap.size + 1, 5, none⟩) (Tr.cell_lt c5)).trans c5
  have HCL := Lib.hid (show ∀ W', Below w3.heap.size w3 W' → W'.cell? ⟨W.heap.size, 0, none⟩ = some (.pointer (some ⟨t, 0, none⟩)) ∧ W'.cell? ⟨W.heap.size + 1, 0, none⟩ = some (.string op) ∧ W'.cell? ⟨W.heap.size + 1, 3, none⟩ = some (.string name) ∧ W'.cell? ⟨g, 0, none⟩ = some (.int .i64 k0) ∧ W'.cell? ⟨g, 1, none⟩ = some (.int .i64 k1) from fun W' hb => ⟨(hb.cell (p := ⟨W.heap.size, 0, none⟩) (Tr.cell_lt c6)).trans c6, (hb.cell (p := ⟨W.heap.size + 1, 0, none⟩) (Tr.cell_lt c0)).trans c0, (hb.cell (p := ⟨W.heap.size + 1, 3, none⟩) (Tr.cell_lt c3)).trans c3, (hb.cell (p := ⟨g, 0, none⟩) (Tr.cell_lt e0)).trans e0, (hb.cell (p := ⟨g, 1, none⟩) (Tr.cell_lt e1)).trans e1⟩)
  clear hown3 hgrow3 hnil3 hb3 hk1 hk2 c5 hd0 hd1
  have z1 : ¬ 9223372036854775807 < 4 + name.size := by omega
  have z2 : ¬ 9223372036854775807 < 4 + name.size + 3 := by omega
  have z3 : ¬ 9223372036854775807 < 4 + name.size + 3 + s0.size := by omega
  have z4 : ¬ 9223372036854775807 < 4 + name.size + 3 + s0.size + 4 := by omega
  have z5 : ¬ 9223372036854775807 < 4 + name.size + 3 + s0.size + 4 + s1.size := by omega
  have y0 : (0 : Int) < ((0 + 2 + 3 : Nat) : Int) := by decide
  have y0' : (0 : Int) < (5 : Int) := by decide
  have y1 : (1 : Int) < ((0 + 2 + 3 : Nat) : Int) := by decide
  have y1' : (1 : Int) < (5 : Int) := by decide
  go_wp2_with fail
  have hbw1 : Below w3.heap.size w3 w3.drew := (Below.refl _ w3).drew
  clear c6 c0 c3 e0 e1
  obtain ⟨c6, c0, c3, e0, e1⟩ := HCL.out _ hbw1
  go_region_held3 (fun W' => W'.cell? ⟨W.heap.size, 0, none⟩ = some (.pointer (some ⟨t, 0, none⟩)) ∧ W'.cell? ⟨W.heap.size + 1, 0, none⟩ = some (.string op) ∧ W'.cell? ⟨W.heap.size + 1, 3, none⟩ = some (.string name) ∧ W'.cell? ⟨g, 0, none⟩ = some (.int .i64 k0) ∧ W'.cell? ⟨g, 1, none⟩ = some (.int .i64 k1)) (first | exact HCL.out _ (by with_reducible assumption))
    (first
      | (go_at_call_of 33 (Value.int IntKind.i64 k0); refine (HK0.out _ (HT3.out.below (by with_reducible assumption)) (HTA3.out.under (by with_reducible assumption))).mono ?_; rintro e v0 ⟨rfl, hbn⟩; have hbv0 := chain (by with_reducible assumption) hbn; clear hbn; obtain ⟨c6, c0, c3, e0, e1⟩ := HCL.out _ hbv0)
      | (go_at_call_of 33 (Value.int IntKind.i64 k1); refine (HK1.out _ (HT3.out.below (by with_reducible assumption)) (HTA3.out.under (by with_reducible assumption))).mono ?_; rintro e v1 ⟨rfl, hbn⟩; have hbv1 := chain (by with_reducible assumption) hbn; clear hbn; obtain ⟨c6, c0, c3, e0, e1⟩ := HCL.out _ hbv1))
  all_goals
    have hfin := HB3.out.trans (hbv1.mono HB3.out.size)
    go_wp2_with fail
    go_ret
    exact ⟨by rw [← HR.out]; rfl, hfin⟩
end Go.Proofs.YtmeacgmjpjjphaaGreatDoor
namespace Go.Proofs.YtmeacgmjpjjphaaGreatDoor
open Go.RowKit Go.Shelf
open Tr (Nd TreeAt Own Ints Fine ndV)
open Tr.TreP (WF fits places nd inT)

set_option maxRecDepth 100000 in
set_option maxHeartbeats 8000000 in
theorem tx_if {B t : Nat} {v : Value} {ms : List (Nd × Value)} (op name : ByteArray) (line col num k0 k1 k2 : Int) (t0 t1 t2 : Tm) (b off cap : Nat) (e : op = kIf) (W : World) (hT : TreeAt W B t v ms) (ht : TabOk W) (hc0 : W.cell? ⟨b, off, none⟩ = some (.int .i64 k0)) (hc1 : W.cell? ⟨b, off + 1, none⟩ = some (.int .i64 k1)) (hc2 : W.cell? ⟨b, off + 2, none⟩ = some (.int .i64 k2)) (hn : name.size ≤ 2097152) (hK0 : KidC B t v ms k0 t0) (hK1 : KidC B t v ms k1 t1) (hK2 : KidC B t v ms k2 t2) :
    Calls Tryz.prog 61 #[.agg #[.pointer (some ⟨t, 0, none⟩)], .agg #[.string op, .int .i64 line, .int .i64 col, .string name, .int .i64 num, .slice (some ⟨b, off, none⟩) 3 cap]] W fun e W' => e = .returned (.string (nodeB (.mk op name num [t0, t1, t2]) [textT t0, textT t1, textT t2])) ∧ Below W.heap.size W W' := by
  have hnb : nodeB (.mk op name num [t0, t1, t2]) [textT t0, textT t1, textT t2] = (⟨#[105, 102, 32]⟩ : ByteArray) ++ atB t0 (textT t0) 0 ++ (⟨#[32, 116, 104, 101, 110, 32]⟩ : ByteArray) ++ atB t1 (textT t1) 1 ++ (⟨#[32, 101, 108, 115, 101, 32]⟩ : ByteArray) ++ atB t2 (textT t2) 1 := by
    rw [e]
    kernel_rfl
  have hz0 := hK0.at_size 0
  have HK0 := Lib.hid (fun W a b => hK0.call W a b 0 (by decide) (by decide))
  have hz1 := hK1.at_size 1
  have HK1 := Lib.hid (fun W a b => hK1.call W a b 1 (by decide) (by decide))
  have hz2 := hK2.at_size 1
  have HK2 := Lib.hid (fun W a b => hK2.call W a b 1 (by decide) (by decide))
  clear hK0 hK1 hK2
  generalize atB t0 (textT t0) 0 = s0 at *
  generalize atB t1 (textT t1) 1 = s1 at *
  generalize atB t2 (textT t2) 1 = s2 at *
  rw [hnb]
  clear hnb
  obtain ⟨r, hr⟩ : ∃ r, (⟨#[105, 102, 32]⟩ : ByteArray) ++ s0 ++ (⟨#[32, 116, 104, 101, 110, 32]⟩ : ByteArray) ++ s1 ++ (⟨#[32, 101, 108, 115, 101, 32]⟩ : ByteArray) ++ s2 = r := ⟨_, rfl⟩
  rw [hr]
  have HR := Lib.hid hr
  clear hr
  have hos : op.size ≤ 20 := by rw [e]; decide
  have h0 : (op.toList == [115, 101, 113]) = false := by rw [e]; exact (lit_eq _ _).trans (by decide)
  have h1 : (op.toList == [108, 101, 116]) = false := by rw [e]; exact (lit_eq _ _).trans (by decide)
  have h2 : (op.toList == [105, 102]) = true := by rw [e]; exact (lit_eq _ _).trans (by decide)
  clear e
  obtain ⟨i0, hi0, hz0, hz1, hz2⟩ := info_parts Tr.info_int
  have hb := ((Below.refl W.heap.size W).alloc (Nat.le_refl _) (.cells #[.pointer (some ⟨t, 0, none⟩)] 83)).alloc (by simp) (.cells #[.string op, .int .i64 line, .int .i64 col, .string name, .int .i64 num, .slice (some ⟨b, off, none⟩) 3 cap] 53)
  have hk1 := (Below.heap_alloc (W.alloc (.cells #[.pointer (some ⟨t, 0, none⟩)] 83)) (.cells #[.string op, .int .i64 line, .int .i64 col, .string name, .int .i64 num, .slice (some ⟨b, off, none⟩) 3 cap] 53) W.heap.size (by simp)).trans (Tr.last W (.cells #[.pointer (some ⟨t, 0, none⟩)] 83))
  have hk2 := Tr.last (W.alloc (.cells #[.pointer (some ⟨t, 0, none⟩)] 83)) (.cells #[.string op, .int .i64 line, .int .i64 col, .string name, .int .i64 num, .slice (some ⟨b, off, none⟩) 3 cap] 53)
  rw [show (W.alloc (.cells #[.pointer (some ⟨t, 0, none⟩)] 83)).heap.size = W.heap.size + 1 by simp] at hk2
  have hd0 := (hb.cell (p := ⟨b, off, none⟩) (Tr.cell_lt hc0)).trans hc0
  have hd1 := (hb.cell (p := ⟨b, off + 1, none⟩) (Tr.cell_lt hc1)).trans hc1
  have hd2 := (hb.cell (p := ⟨b, off + 2, none⟩) (Tr.cell_lt hc2)).trans hc2
  have HB := Lib.hid hb
  have HX := Lib.hid (And.intro hk1 (And.intro hk2 (And.intro hd0 (And.intro hd1 hd2))))
  have HT := Lib.hid (hT.below hb)
  have HTA := Lib.hid (ht.under hb)
  clear hb hk1 hk2 hT ht hc0 hd0 hc1 hd1 hc2 hd2
  go_enter Tryz.func61, Tryz.ntmps61
  go_upto_region 1 with fail
  generalize (W.alloc (.cells #[.pointer (some ⟨t, 0, none⟩)] 83)).alloc (.cells #[.string op, .int .i64 line, .int .i64 col, .string name, .int .i64 num, .slice (some ⟨b, off, none⟩) 3 cap] 53) = w1 at *
  obtain ⟨hk1, hk2, hd0, hd1, hd2⟩ := HX.out
  have c6 := cell1 hk1
  obtain ⟨c0, c1, c2, c3, c4, c5⟩ := Tr.cellsOf6 hk2
  have HN1 := Lib.hid (show ∀ j u, ([.int .i64 k0, .int .i64 k1, .int .i64 k2] : List Value)[j]? = some u → w1.cell? ((⟨b, off, none⟩ : Addr).add j) = some u from fun j u hu => by
    rw [Tr.add_at]
    match j, hu with
    | 0, hu => cases hu; exact hd0
    | 1, hu => cases hu; exact hd1
    | 2, hu => cases hu; exact hd2
    | j + 3, hu => simp at hu)
  go_wp2_with (at_builtin; refine wpList_append_own _ rfl _ _ 51 rfl w1.heap.size 3 i0 (.int .i64 0) 1 8 Tryz.underlying51 hi0 hz0 hz1 hz2 rfl (by decide) (.slice none 0 0) 0 [] rfl (World.ownsRow_nil _ _ _ _) ⟨b, off, none⟩ 3 cap [.int .i64 k0, .int .i64 k1, .int .i64 k2] rfl rfl HN1.out (by simp [Value.oneCell']) (by decide) (by decide) (Nat.le_refl _) ?_)
  intro v2 w2 hown2 hgrow2 hnil2
  have HBg := Lib.hid ((Below.refl w1.heap.size w1).grown hgrow2 (Nat.le_refl _) (fun k hk => by cases hk))
  obtain ⟨A2, c2', rfl⟩ := row_form hown2
  have HO2 := Lib.hid hown2
  clear hown2 hgrow2 hnil2
  have hb2s := HBg.out.size
  go_wp2_with (at_builtin; refine wpList_append_own _ rfl _ _ 51 rfl w1.heap.size 3 i0 (.int .i64 0) 1 8 Tryz.underlying51 hi0 hz0 hz1 hz2 rfl (by decide) (.slice A2 (0 + 3) c2') (0 + 3) [.int .i64 k0, .int .i64 k1, .int .i64 k2] rfl (HO2.out.alloc _) ⟨w2.heap.size, 0, none⟩ 3 3 [.int .i64 (-1), .int .i64 (-1), .int .i64 (-1)] rfl rfl ?q1 ?q2 ?q3 ?q4 ?q5 ?_)
  case q1 => first | exact fun j u h => h | exact World.news_of_block (Tr.last _ _)
  case q2 => simp [Value.oneCell']
  case q3 => decide
  case q4 => decide
  case q5 => first | omega | (simp; omega)
  intro v3 w3 hown3 hgrow3 hnil3
  have hb3 : Below w1.heap.size w1 w3 := (HBg.out.alloc hb2s _).grown hgrow3 (by simp; omega) (fun k hk => (row_lt HO2.out hk).1)
  obtain ⟨g, cap3, rfl, hgB, hgl⟩ := hown3.form (by decide)
  have e0 : w3.cell? ⟨g, 0, none⟩ = some (.int .i64 k0) := hown3.cellAt 0 (by decide)
  have e1 : w3.cell? ⟨g, 1, none⟩ = some (.int .i64 k1) := hown3.cellAt 1 (by decide)
  have e2 : w3.cell? ⟨g, 2, none⟩ = some (.int .i64 k2) := hown3.cellAt 2 (by decide)
  have HB3 := Lib.hid (HB.out.trans (hb3.mono HB.out.size))
  have HT3 := Lib.hid (HT.out.below hb3)
  have HTA3 := Lib.hid (HTA.out.under hb3)
  have c6 := (hb3.cell (p := ⟨W.heap.size, 0, none⟩) (Tr.cell_lt c6)).trans c6
  have c0 := (hb3.cell (p := ⟨W.heap.size + 1, 0, none⟩) (Tr.cell_lt c0)).trans c0
  have c3 := (hb3.cell (p := ⟨W.heap.size + 1, 3, none⟩) (Tr.cell_lt c3)).trans c3
  have c5 := (hb3.cell (p := ⟨W.heap.size + 1, 5, none⟩) (Tr.cell_lt c5)).trans c5
  have HCL := Lib.hid (show ∀ W', Below w3.heap.size w3 W' → W'.cell? ⟨W.heap.size, 0, none⟩ = some (.pointer (some ⟨t, 0, none⟩)) ∧ W'.cell? ⟨W.heap.size + 1, 0, none⟩ = some (.string op) ∧ W'.cell? ⟨W.heap.size + 1, 3, none⟩ = some (.string name) ∧ W'.cell? ⟨g, 0, none⟩ = some (.int .i64 k0) ∧ W'.cell? ⟨g, 1, none⟩ = some (.int .i64 k1) ∧ W'.cell? ⟨g, 2, none⟩ = some (.int .i64 k2) from fun W' hb => ⟨(hb.cell (p := ⟨W.heap.size, 0, none⟩) (Tr.cell_lt c6)).trans c6, (hb.cell (p := ⟨W.heap.size + 1, 0, none⟩) (Tr.cell_lt c0)).trans c0, (hb.cell (p := ⟨W.heap.size + 1, 3, none⟩) (Tr.cell_lt c3)).trans c3, (hb.cell (p := ⟨g, 0, none⟩) (Tr.cell_lt e0)).trans e0, (hb.cell (p := ⟨g, 1, none⟩) (Tr.cell_lt e1)).trans e1, (hb.cell (p := ⟨g, 2, none⟩) (Tr.cell_lt e2)).trans e2⟩)
  clear hown3 hgrow3 hnil3 hb3 hk1 hk2 c5 hd0 hd1 hd2
  have z1 : ¬ 9223372036854775807 < 3 + s0.size := by omega
  have z2 : ¬ 9223372036854775807 < 3 + s0.size + 6 := by omega
  have z3 : ¬ 9223372036854775807 < 3 + s0.size + 6 + s1.size := by omega
  have z4 : ¬ 9223372036854775807 < 3 + s0.size + 6 + s1.size + 6 := by omega
  have z5 : ¬ 9223372036854775807 < 3 + s0.size + 6 + s1.size + 6 + s2.size := by omega
  have y0 : (0 : Int) < ((0 + 3 + 3 : Nat) : Int) := by decide
  have y0' : (0 : Int) < (6 : Int) := by decide
  have y1 : (1 : Int) < ((0 + 3 + 3 : Nat) : Int) := by decide
  have y1' : (1 : Int) < (6 : Int) := by decide
  have y2 : (2 : Int) < ((0 + 3 + 3 : Nat) : Int) := by decide
  have y2' : (2 : Int) < (6 : Int) := by decide
  go_wp2_with fail
  have hbw1 : Below w3.heap.size w3 w3.drew := (Below.refl _ w3).drew
  clear c6 c0 c3 e0 e1 e2
  obtain ⟨c6, c0, c3, e0, e1, e2⟩ := HCL.out _ hbw1
  go_region_held3 (fun W' => W'.cell? ⟨W.heap.size, 0, none⟩ = some (.pointer (some ⟨t, 0, none⟩)) ∧ W'.cell? ⟨W.heap.size + 1, 0, none⟩ = some (.string op) ∧ W'.cell? ⟨W.heap.size + 1, 3, none⟩ = some (.string name) ∧ W'.cell? ⟨g, 0, none⟩ = some (.int .i64 k0) ∧ W'.cell? ⟨g, 1, none⟩ = some (.int .i64 k1) ∧ W'.cell? ⟨g, 2, none⟩ = some (.int .i64 k2)) (first | exact HCL.out _ (by with_reducible assumption))
    (first
      | (go_at_call_of 33 (Value.int IntKind.i64 k0); refine (HK0.out _ (HT3.out.below (by with_reducible assumption)) (HTA3.out.under (by with_reducible assumption))).mono ?_; rintro e v0 ⟨rfl, hbn⟩; have hbv0 := chain (by with_reducible assumption) hbn; clear hbn; obtain ⟨c6, c0, c3, e0, e1, e2⟩ := HCL.out _ hbv0)
      | (go_at_call_of 33 (Value.int IntKind.i64 k1); refine (HK1.out _ (HT3.out.below (by with_reducible assumption)) (HTA3.out.under (by with_reducible assumption))).mono ?_; rintro e v1 ⟨rfl, hbn⟩; have hbv1 := chain (by with_reducible assumption) hbn; clear hbn; obtain ⟨c6, c0, c3, e0, e1, e2⟩ := HCL.out _ hbv1)
      | (go_at_call_of 33 (Value.int IntKind.i64 k2); refine (HK2.out _ (HT3.out.below (by with_reducible assumption)) (HTA3.out.under (by with_reducible assumption))).mono ?_; rintro e v2 ⟨rfl, hbn⟩; have hbv2 := chain (by with_reducible assumption) hbn; clear hbn; obtain ⟨c6, c0, c3, e0, e1, e2⟩ := HCL.out _ hbv2))
  all_goals
    have hfin := HB3.out.trans (hbv2.mono HB3.out.size)
    go_wp2_with fail
    go_ret
    exact ⟨by rw [← HR.out]; rfl, hfin⟩
end Go.Proofs.YtmeacgmjpjjphaaGreatDoor
namespace Go.Proofs.YtmeacgmjpjjphaaGreatDoor
open Go.RowKit Go.Shelf
open Tr (Nd TreeAt Own Ints Fine ndV)
open Tr.TreP (WF fits places nd inT)

set_option maxRecDepth 100000 in
set_option maxHeartbeats 8000000 in
theorem tx_try {B t : Nat} {v : Value} {ms : List (Nd × Value)} (op name : ByteArray) (line col num k0 k1 : Int) (t0 t1 : Tm) (b off cap : Nat) (e : op = kTry) (W : World) (hT : TreeAt W B t v ms) (ht : TabOk W) (hc0 : W.cell? ⟨b, off, none⟩ = some (.int .i64 k0)) (hc1 : W.cell? ⟨b, off + 1, none⟩ = some (.int .i64 k1)) (hn : name.size ≤ 2097152) (hK0 : KidC B t v ms k0 t0) (hK1 : KidC B t v ms k1 t1) :
    Calls Tryz.prog 61 #[.agg #[.pointer (some ⟨t, 0, none⟩)], .agg #[.string op, .int .i64 line, .int .i64 col, .string name, .int .i64 num, .slice (some ⟨b, off, none⟩) 2 cap]] W fun e W' => e = .returned (.string (nodeB (.mk op name num [t0, t1]) [textT t0, textT t1])) ∧ Below W.heap.size W W' := by
  have hnb : nodeB (.mk op name num [t0, t1]) [textT t0, textT t1] = (⟨#[116, 114, 121, 32]⟩ : ByteArray) ++ atB t0 (textT t0) 0 ++ (⟨#[32, 119, 105, 116, 104, 32]⟩ : ByteArray) ++ name ++ (⟨#[32, 45, 62, 32]⟩ : ByteArray) ++ atB t1 (textT t1) 1 := by
    rw [e]
    kernel_rfl
  have hz0 := hK0.at_size 0
  have HK0 := Lib.hid (fun W a b => hK0.call W a b 0 (by decide) (by decide))
  have hz1 := hK1.at_size 1
  have HK1 := Lib.hid (fun W a b => hK1.call W a b 1 (by decide) (by decide))
  clear hK0 hK1
  generalize atB t0 (textT t0) 0 = s0 at *
  generalize atB t1 (textT t1) 1 = s1 at *
  rw [hnb]
  clear hnb
  obtain ⟨r, hr⟩ : ∃ r, (⟨#[116, 114, 121, 32]⟩ : ByteArray) ++ s0 ++ (⟨#[32, 119, 105, 116, 104, 32]⟩ : ByteArray) ++ name ++ (⟨#[32, 45, 62, 32]⟩ : ByteArray) ++ s1 = r := ⟨_, rfl⟩
  rw [hr]
  have HR := Lib.hid hr
  clear hr
  have hos : op.size ≤ 20 := by rw [e]; decide
  have h0 : (op.toList == [115, 101, 113]) = false := by rw [e]; exact (lit_eq _ _).trans (by decide)
  have h1 : (op.toList == [108, 101, 116]) = false := by rw [e]; exact (lit_eq _ _).trans (by decide)
  have h2 : (op.toList == [105, 102]) = false := by rw [e]; exact (lit_eq _ _).trans (by decide)
  have h3 : (op.toList == [116, 114, 121]) = true := by rw [e]; exact (lit_eq _ _).trans (by decide)
  clear e
  obtain ⟨i0, hi0, hz0, hz1, hz2⟩ := info_parts Tr.info_int
  have hb := ((Below.refl W.heap.size W).alloc (Nat.le_refl _) (.cells #[.pointer (some ⟨t, 0, none⟩)] 83)).alloc (by simp) (.cells #[.string op, .int .i64 line, .int .i64 col, .string name, .int .i64 num, .slice (some ⟨b, off, none⟩) 2 cap] 53)
  have hk1 := (Below.heap_alloc (W.alloc (.cells #[.pointer (some ⟨t, 0, none⟩)] 83)) (.cells #[.string op, .int .i64 line, .int .i64 col, .string name, .int .i64 num, .slice (some ⟨b, off, none⟩) 2 cap] 53) W.heap.size (by simp)).trans (Tr.last W (.cells #[.pointer (some ⟨t, 0, none⟩)] 83))
  have hk2 := Tr.last (W.alloc (.cells #[.pointer (some ⟨t, 0, none⟩)] 83)) (.cells #[.string op, .int .i64 line, .int .i64 col, .string name, .int .i64 num, .slice (some ⟨b, off, none⟩) 2 cap] 53)
  rw [show (W.alloc (.cells #[.pointer (some ⟨t, 0, none⟩)] 83)).heap.size = W.heap.size + 1 by simp] at hk2
  have hd0 := (hb.cell (p := ⟨b, off, none⟩) (Tr.cell_lt hc0)).trans hc0
  have hd1 := (hb.cell (p := ⟨b, off + 1, none⟩) (Tr.cell_lt hc1)).trans hc1
  have HB := Lib.hid hb
  have HX := Lib.hid (And.intro hk1 (And.intro hk2 (And.intro hd0 hd1)))
  have HT := Lib.hid (hT.below hb)
  have HTA := Lib.hid (ht.under hb)
  clear hb hk1 hk2 hT ht hc0 hd0 hc1 hd1
  go_enter Tryz.func61, Tryz.ntmps61
  go_upto_region 1 with fail
  generalize (W.alloc (.cells #[.pointer (some ⟨t, 0, none⟩)] 83)).alloc (.cells #[.string op, .int .i64 line, .int .i64 col, .string name, .int .i64 num, .slice (some ⟨b, off, none⟩) 2 cap] 53) = w1 at *
  obtain ⟨hk1, hk2, hd0, hd1⟩ := HX.out
  have c6 := cell1 hk1
  obtain ⟨c0, c1, c2, c3, c4, c5⟩ := Tr.cellsOf6 hk2
  have HN1 := Lib.hid (show ∀ j u, ([.int .i64 k0, .int .i64 k1] : List Value)[j]? = some u → w1.cell? ((⟨b, off, none⟩ : Addr).add j) = some u from fun j u hu => by
    rw [Tr.add_at]
    match j, hu with
    | 0, hu => cases hu; exact hd0
    | 1, hu => cases hu; exact hd1
    | j + 2, hu => simp at hu)
  go_wp2_with (at_builtin; refine wpList_append_own _ rfl _ _ 51 rfl w1.heap.size 3 i0 (.int .i64 0) 1 8 Tryz.underlying51 hi0 hz0 hz1 hz2 rfl (by decide) (.slice none 0 0) 0 [] rfl (World.ownsRow_nil _ _ _ _) ⟨b, off, none⟩ 2 cap [.int .i64 k0, .int .i64 k1] rfl rfl HN1.out (by simp [Value.oneCell']) (by decide) (by decide) (Nat.le_refl _) ?_)
  intro v2 w2 hown2 hgrow2 hnil2
  have HBg := Lib.hid ((Below.refl w1.heap.size w1).grown hgrow2 (Nat.le_refl _) (fun k hk => by cases hk))
  obtain ⟨A2, c2', rfl⟩ := row_form hown2
  have HO2 := Lib.hid hown2
  clear hown2 hgrow2 hnil2
  have hb2s := HBg.out.size
  go_wp2_with (at_builtin; refine wpList_append_own _ rfl _ _ 51 rfl w1.heap.size 3 i0 (.int .i64 0) 1 8 Tryz.underlying51 hi0 hz0 hz1 hz2 rfl (by decide) (.slice A2 (0 + 2) c2') (0 + 2) [.int .i64 k0, .int .i64 k1] rfl (HO2.out.alloc _) ⟨w2.heap.size, 0, none⟩ 3 3 [.int .i64 (-1), .int .i64 (-1), .int .i64 (-1)] rfl rfl ?q1 ?q2 ?q3 ?q4 ?q5 ?_)
  case q1 => first | exact fun j u h => h | exact World.news_of_block (Tr.last _ _)
  case q2 => simp [Value.oneCell']
  case q3 => decide
  case q4 => decide
  case q5 => first | omega | (simp; omega)
  intro v3 w3 hown3 hgrow3 hnil3
  have hb3 : Below w1.heap.size w1 w3 := (HBg.out.alloc hb2s _).grown hgrow3 (by simp; omega) (fun k hk => (row_lt HO2.out hk).1)
  obtain ⟨g, cap3, rfl, hgB, hgl⟩ := hown3.form (by decide)
  have e0 : w3.cell? ⟨g, 0, none⟩ = some (.int .i64 k0) := hown3.cellAt 0 (by decide)
  have e1 : w3.cell? ⟨g, 1, none⟩ = some (.int .i64 k1) := hown3.cellAt 1 (by decide)
  have HB3 := Lib.hid (HB.out.trans (hb3.mono HB.out.size))
  have HT3 := Lib.hid (HT.out.below hb3)
  have HTA3 := Lib.hid (HTA.out.under hb3)
  have c6 := (hb3.cell (p := ⟨W.heap.size, 0, none⟩) (Tr.cell_lt c6)).trans c6
  have c0 := (hb3.cell (p := ⟨W.heap.size + 1, 0, none⟩) (Tr.cell_lt c0)).trans c0
  have c3 := (hb3.cell (p := ⟨W.heap.size + 1, 3, none⟩) (Tr.cell_lt c3)).trans c3
  have c5 := (hb3.cell (p := ⟨W.heap.size + 1, 5, none⟩) (Tr.cell_lt c5)).trans c5
  have HCL := Lib.hid (show ∀ W', Below w3.heap.size w3 W' → W'.cell? ⟨W.heap.size, 0, none⟩ = some (.pointer (some ⟨t, 0, none⟩)) ∧ W'.cell? ⟨W.heap.size + 1, 0, none⟩ = some (.string op) ∧ W'.cell? ⟨W.heap.size + 1, 3, none⟩ = some (.string name) ∧ W'.cell? ⟨g, 0, none⟩ = some (.int .i64 k0) ∧ W'.cell? ⟨g, 1, none⟩ = some (.int .i64 k1) from fun W' hb => ⟨(hb.cell (p := ⟨W.heap.size, 0, none⟩) (Tr.cell_lt c6)).trans c6, (hb.cell (p := ⟨W.heap.size + 1, 0, none⟩) (Tr.cell_lt c0)).trans c0, (hb.cell (p := ⟨W.heap.size + 1, 3, none⟩) (Tr.cell_lt c3)).trans c3, (hb.cell (p := ⟨g, 0, none⟩) (Tr.cell_lt e0)).trans e0, (hb.cell (p := ⟨g, 1, none⟩) (Tr.cell_lt e1)).trans e1⟩)
  clear hown3 hgrow3 hnil3 hb3 hk1 hk2 c5 hd0 hd1
  have z1 : ¬ 9223372036854775807 < 4 + s0.size := by omega
  have z2 : ¬ 9223372036854775807 < 4 + s0.size + 6 := by omega
  have z3 : ¬ 9223372036854775807 < 4 + s0.size + 6 + name.size := by omega
  have z4 : ¬ 9223372036854775807 < 4 + s0.size + 6 + name.size + 4 := by omega
  have z5 : ¬ 9223372036854775807 < 4 + s0.size + 6 + name.size + 4 + s1.size := by omega
  have y0 : (0 : Int) < ((0 + 2 + 3 : Nat) : Int) := by decide
  have y0' : (0 : Int) < (5 : Int) := by decide
  have y1 : (1 : Int) < ((0 + 2 + 3 : Nat) : Int) := by decide
  have y1' : (1 : Int) < (5 : Int) := by decide
  go_wp2_with fail
  have hbw1 : Below w3.heap.size w3 w3.drew := (Below.refl _ w3).drew
  clear c6 c0 c3 e0 e1
  obtain ⟨c6, c0, c3, e0, e1⟩ := HCL.out _ hbw1
  go_region_held3 (fun W' => W'.cell? ⟨W.heap.size, 0, none⟩ = some (.pointer (some ⟨t, 0, none⟩)) ∧ W'.cell? ⟨W.heap.size + 1, 0, none⟩ = some (.string op) ∧ W'.cell? ⟨W.heap.size + 1, 3, none⟩ = some (.string name) ∧ W'.cell? ⟨g, 0, none⟩ = some (.int .i64 k0) ∧ W'.cell? ⟨g, 1, none⟩ = some (.int .i64 k1)) (first | exact HCL.out _ (by with_reducible assumption))
    (first
      | (go_at_call_of 33 (Value.int IntKind.i64 k0); refine (HK0.out _ (HT3.out.below (by with_reducible assumption)) (HTA3.out.under (by with_reducible assumption))).mono ?_; rintro e v0 ⟨rfl, hbn⟩; have hbv0 := chain (by with_reducible assumption) hbn; clear hbn; obtain ⟨c6, c0, c3, e0, e1⟩ := HCL.out _ hbv0)
      | (go_at_call_of 33 (Value.int IntKind.i64 k1); refine (HK1.out _ (HT3.out.below (by with_reducible assumption)) (HTA3.out.under (by with_reducible assumption))).mono ?_; rintro e v1 ⟨rfl, hbn⟩; have hbv1 := chain (by with_reducible assumption) hbn; clear hbn; obtain ⟨c6, c0, c3, e0, e1⟩ := HCL.out _ hbv1))
  all_goals
    have hfin := HB3.out.trans (hbv1.mono HB3.out.size)
    go_wp2_with fail
    go_ret
    exact ⟨by rw [← HR.out]; rfl, hfin⟩
set_option maxRecDepth 100000 in
set_option maxHeartbeats 8000000 in
theorem tx_out {B t : Nat} {v : Value} {ms : List (Nd × Value)} (op name : ByteArray) (line col num k0 : Int) (t0 : Tm) (b off cap : Nat) (e : op = kOut) (W : World) (hT : TreeAt W B t v ms) (ht : TabOk W) (hc0 : W.cell? ⟨b, off, none⟩ = some (.int .i64 k0)) (hn : name.size ≤ 2097152) (hK0 : KidC B t v ms k0 t0) :
    Calls Tryz.prog 61 #[.agg #[.pointer (some ⟨t, 0, none⟩)], .agg #[.string op, .int .i64 line, .int .i64 col, .string name, .int .i64 num, .slice (some ⟨b, off, none⟩) 1 cap]] W fun e W' => e = .returned (.string (nodeB (.mk op name num [t0]) [textT t0])) ∧ Below W.heap.size W W' := by
  have hnb : nodeB (.mk op name num [t0]) [textT t0] = (⟨#[111, 117, 116, 32]⟩ : ByteArray) ++ name ++ (⟨#[32]⟩ : ByteArray) ++ atB t0 (textT t0) 2 := by
    rw [e]
    kernel_rfl
  have hz0 := hK0.at_size 2
  have HK0 := Lib.hid (fun W a b => hK0.call W a b 2 (by decide) (by decide))
  clear hK0
  generalize atB t0 (textT t0) 2 = s0 at *
  rw [hnb]
  clear hnb
  obtain ⟨r, hr⟩ : ∃ r, (⟨#[111, 117, 116, 32]⟩ : ByteArray) ++ name ++ (⟨#[32]⟩ : ByteArray) ++ s0 = r := ⟨_, rfl⟩
  rw [hr]
  have HR := Lib.hid hr
  clear hr
  have hos : op.size ≤ 20 := by rw [e]; decide
  have h0 : (op.toList == [115, 101, 113]) = false := by rw [e]; exact (lit_eq _ _).trans (by decide)
  have h1 : (op.toList == [108, 101, 116]) = false := by rw [e]; exact (lit_eq _ _).trans (by decide)
  have h2 : (op.toList == [105, 102]) = false := by rw [e]; exact (lit_eq _ _).trans (by decide)
  have h3 : (op.toList == [116, 114, 121]) = false := by rw [e]; exact (lit_eq _ _).trans (by decide)
  have h4 : (op.toList == [111, 117, 116]) = true := by rw [e]; exact (lit_eq _ _).trans (by decide)
  clear e
  obtain ⟨i0, hi0, hz0, hz1, hz2⟩ := info_parts Tr.info_int
  have hb := ((Below.refl W.heap.size W).alloc (Nat.le_refl _) (.cells #[.pointer (some ⟨t, 0, none⟩)] 83)).alloc (by simp) (.cells #[.string op, .int .i64 line, .int .i64 col, .string name, .int .i64 num, .slice (some ⟨b, off, none⟩) 1 cap] 53)
  have hk1 := (Below.heap_alloc (W.alloc (.cells #[.pointer (some ⟨t, 0, none⟩)] 83)) (.cells #[.string op, .int .i64 line, .int .i64 col, .string name, .int .i64 num, .slice (some ⟨b, off, none⟩) 1 cap] 53) W.heap.size (by simp)).trans (Tr.last W (.cells #[.pointer (some ⟨t, 0, none⟩)] 83))
  have hk2 := Tr.last (W.alloc (.cells #[.pointer (some ⟨t, 0, none⟩)] 83)) (.cells #[.string op, .int .i64 line, .int .i64 col, .string name, .int .i64 num, .slice (some ⟨b, off, none⟩) 1 cap] 53)
  rw [show (W.alloc (.cells #[.pointer (some ⟨t, 0, none⟩)] 83)).heap.size = W.heap.size + 1 by simp] at hk2
  have hd0 := (hb.cell (p := ⟨b, off, none⟩) (Tr.cell_lt hc0)).trans hc0
  have HB := Lib.hid hb
  have HX := Lib.hid (And.intro hk1 (And.intro hk2 hd0))
  have HT := Lib.hid (hT.below hb)
  have HTA := Lib.hid (ht.under hb)
  clear hb hk1 hk2 hT ht hc0 hd0
  go_enter Tryz.func61, Tryz.ntmps61
  go_upto_region 1 with fail
  generalize (W.alloc (.cells #[.pointer (some ⟨t, 0, none⟩)] 83)).alloc (.cells #[.string op, .int .i64 line, .int .i64 col, .string name, .int .i64 num, .slice (some ⟨b, off, none⟩) 1 cap] 53) = w1 at *
  obtain ⟨hk1, hk2, hd0⟩ := HX.out
  have c6 := cell1 hk1
  obtain ⟨c0, c1, c2, c3, c4, c5⟩ := Tr.cellsOf6 hk2
  have HN1 := Lib.hid (show ∀ j u, ([.int .i64 k0] : List Value)[j]? = some u → w1.cell? ((⟨b, off, none⟩ : Addr).add j) = some u from fun j u hu => by
    rw [Tr.add_at]
    match j, hu with
    | 0, hu => cases hu; exact hd0
    | j + 1, hu => simp at hu)
  go_wp2_with (at_builtin; refine wpList_append_own _ rfl _ _ 51 rfl w1.heap.size 3 i0 (.int .i64 0) 1 8 Tryz.underlying51 hi0 hz0 hz1 hz2 rfl (by decide) (.slice none 0 0) 0 [] rfl (World.ownsRow_nil _ _ _ _) ⟨b, off, none⟩ 1 cap [.int .i64 k0] rfl rfl HN1.out (by simp [Value.oneCell']) (by decide) (by decide) (Nat.le_refl _) ?_)
  intro v2 w2 hown2 hgrow2 hnil2
  have HBg := Lib.hid ((Below.refl w1.heap.size w1).grown hgrow2 (Nat.le_refl _) (fun k hk => by cases hk))
  obtain ⟨A2, c2', rfl⟩ := row_form hown2
  have HO2 := Lib.hid hown2
  clear hown2 hgrow2 hnil2
  have hb2s := HBg.out.size
  go_wp2_with (at_builtin; refine wpList_append_own _ rfl _ _ 51 rfl w1.heap.size 3 i0 (.int .i64 0) 1 8 Tryz.underlying51 hi0 hz0 hz1 hz2 rfl (by decide) (.slice A2 (0 + 1) c2') (0 + 1) [.int .i64 k0] rfl (HO2.out.alloc _) ⟨w2.heap.size, 0, none⟩ 3 3 [.int .i64 (-1), .int .i64 (-1), .int .i64 (-1)] rfl rfl ?q1 ?q2 ?q3 ?q4 ?q5 ?_)
  case q1 => first | exact fun j u h => h | exact World.news_of_block (Tr.last _ _)
  case q2 => simp [Value.oneCell']
  case q3 => decide
  case q4 => decide
  case q5 => first | omega | (simp; omega)
  intro v3 w3 hown3 hgrow3 hnil3
  have hb3 : Below w1.heap.size w1 w3 := (HBg.out.alloc hb2s _).grown hgrow3 (by simp; omega) (fun k hk => (row_lt HO2.out hk).1)
  obtain ⟨g, cap3, rfl, hgB, hgl⟩ := hown3.form (by decide)
  have e0 : w3.cell? ⟨g, 0, none⟩ = some (.int .i64 k0) := hown3.cellAt 0 (by decide)
  have HB3 := Lib.hid (HB.out.trans (hb3.mono HB.out.size))
  have HT3 := Lib.hid (HT.out.below hb3)
  have HTA3 := Lib.hid (HTA.out.under hb3)
  have c6 := (hb3.cell (p := ⟨W.heap.size, 0, none⟩) (Tr.cell_lt c6)).trans c6
  have c0 := (hb3.cell (p := ⟨W.heap.size + 1, 0, none⟩) (Tr.cell_lt c0)).trans c0
  have c3 := (hb3.cell (p := ⟨W.heap.size + 1, 3, none⟩) (Tr.cell_lt c3)).trans c3
  have c5 := (hb3.cell (p := ⟨W.heap.size + 1, 5, none⟩) (Tr.cell_lt c5)).trans c5
  have HCL := Lib.hid (show ∀ W', Below w3.heap.size w3 W' → W'.cell? ⟨W.heap.size, 0, none⟩ = some (.pointer (some ⟨t, 0, none⟩)) ∧ W'.cell? ⟨W.heap.size + 1, 0, none⟩ = some (.string op) ∧ W'.cell? ⟨W.heap.size + 1, 3, none⟩ = some (.string name) ∧ W'.cell? ⟨g, 0, none⟩ = some (.int .i64 k0) from fun W' hb => ⟨(hb.cell (p := ⟨W.heap.size, 0, none⟩) (Tr.cell_lt c6)).trans c6, (hb.cell (p := ⟨W.heap.size + 1, 0, none⟩) (Tr.cell_lt c0)).trans c0, (hb.cell (p := ⟨W.heap.size + 1, 3, none⟩) (Tr.cell_lt c3)).trans c3, (hb.cell (p := ⟨g, 0, none⟩) (Tr.cell_lt e0)).trans e0⟩)
  clear hown3 hgrow3 hnil3 hb3 hk1 hk2 c5 hd0
  have z1 : ¬ 9223372036854775807 < 4 + name.size := by omega
  have z2 : ¬ 9223372036854775807 < 4 + name.size + 1 := by omega
  have z3 : ¬ 9223372036854775807 < 4 + name.size + 1 + s0.size := by omega
  have y0 : (0 : Int) < ((0 + 1 + 3 : Nat) : Int) := by decide
  have y0' : (0 : Int) < (4 : Int) := by decide
  go_wp2_with fail
  have hbw1 : Below w3.heap.size w3 w3.drew := (Below.refl _ w3).drew
  clear c6 c0 c3 e0
  obtain ⟨c6, c0, c3, e0⟩ := HCL.out _ hbw1
  go_region_held3 (fun W' => W'.cell? ⟨W.heap.size, 0, none⟩ = some (.pointer (some ⟨t, 0, none⟩)) ∧ W'.cell? ⟨W.heap.size + 1, 0, none⟩ = some (.string op) ∧ W'.cell? ⟨W.heap.size + 1, 3, none⟩ = some (.string name) ∧ W'.cell? ⟨g, 0, none⟩ = some (.int .i64 k0)) (first | exact HCL.out _ (by with_reducible assumption))
    (first
      | (go_at_call_of 33 (Value.int IntKind.i64 k0); refine (HK0.out _ (HT3.out.below (by with_reducible assumption)) (HTA3.out.under (by with_reducible assumption))).mono ?_; rintro e v0 ⟨rfl, hbn⟩; have hbv0 := chain (by with_reducible assumption) hbn; clear hbn; obtain ⟨c6, c0, c3, e0⟩ := HCL.out _ hbv0))
  all_goals
    have hfin := HB3.out.trans (hbv0.mono HB3.out.size)
    go_wp2_with fail
    go_ret
    exact ⟨by rw [← HR.out]; rfl, hfin⟩
set_option maxRecDepth 100000 in
set_option maxHeartbeats 8000000 in
theorem tx_set {B t : Nat} {v : Value} {ms : List (Nd × Value)} (op name : ByteArray) (line col num k0 : Int) (t0 : Tm) (b off cap : Nat) (e : op = nSet) (W : World) (hT : TreeAt W B t v ms) (ht : TabOk W) (hc0 : W.cell? ⟨b, off, none⟩ = some (.int .i64 k0)) (hn : name.size ≤ 2097152) (hK0 : KidC B t v ms k0 t0) :
    Calls Tryz.prog 61 #[.agg #[.pointer (some ⟨t, 0, none⟩)], .agg #[.string op, .int .i64 line, .int .i64 col, .string name, .int .i64 num, .slice (some ⟨b, off, none⟩) 1 cap]] W fun e W' => e = .returned (.string (nodeB (.mk op name num [t0]) [textT t0])) ∧ Below W.heap.size W W' := by
  have hnb : nodeB (.mk op name num [t0]) [textT t0] = name ++ (⟨#[32, 58, 61, 32]⟩ : ByteArray) ++ atB t0 (textT t0) 2 := by
    rw [e]
    kernel_rfl
  have hz0 := hK0.at_size 2
  have HK0 := Lib.hid (fun W a b => hK0.call W a b 2 (by decide) (by decide))
  clear hK0
  generalize atB t0 (textT t0) 2 = s0 at *
  rw [hnb]
  clear hnb
  obtain ⟨r, hr⟩ : ∃ r, name ++ (⟨#[32, 58, 61, 32]⟩ : ByteArray) ++ s0 = r := ⟨_, rfl⟩
  rw [hr]
  have HR := Lib.hid hr
  clear hr
  have hos : op.size ≤ 20 := by rw [e]; decide
  have h0 : (op.toList == [115, 101, 113]) = false := by rw [e]; exact (lit_eq _ _).trans (by decide)
  have h1 : (op.toList == [108, 101, 116]) = false := by rw [e]; exact (lit_eq _ _).trans (by decide)
  have h2 : (op.toList == [105, 102]) = false := by rw [e]; exact (lit_eq _ _).trans (by decide)
  have h3 : (op.toList == [116, 114, 121]) = false := by rw [e]; exact (lit_eq _ _).trans (by decide)
  have h4 : (op.toList == [111, 117, 116]) = false := by rw [e]; exact (lit_eq _ _).trans (by decide)
  have h5 : (op.toList == [115, 101, 116]) = true := by rw [e]; exact (lit_eq _ _).trans (by decide)
  clear e
  obtain ⟨i0, hi0, hz0, hz1, hz2⟩ := info_parts Tr.info_int
  have hb := ((Below.refl W.heap.size W).alloc (Nat.le_refl _) (.cells #[.pointer (some ⟨t, 0, none⟩)] 83)).alloc (by simp) (.cells #[.string op, .int .i64 line, .int .i64 col, .string name, .int .i64 num, .slice (some ⟨b, off, none⟩) 1 cap] 53)
  have hk1 := (Below.heap_alloc (W.alloc (.cells #[.pointer (some ⟨t, 0, none⟩)] 83)) (.cells #[.string op, .int .i64 line, .int .i64 col, .string name, .int .i64 num, .slice (some ⟨b, off, none⟩) 1 cap] 53) W.heap.size (by simp)).trans (Tr.last W (.cells #[.pointer (some ⟨t, 0, none⟩)] 83))
  have hk2 := Tr.last (W.alloc (.cells #[.pointer (some ⟨t, 0, none⟩)] 83)) (.cells #[.string op, .int .i64 line, .int .i64 col, .string name, .int .i64 num, .slice (some ⟨b, off, none⟩) 1 cap] 53)
  rw [show (W.alloc (.cells #[.pointer (some ⟨t, 0, none⟩)] 83)).heap.size = W.heap.size + 1 by simp] at hk2
  have hd0 := (hb.cell (p := ⟨b, off, none⟩) (Tr.cell_lt hc0)).trans hc0
  have HB := Lib.hid hb
  have HX := Lib.hid (And.intro hk1 (And.intro hk2 hd0))
  have HT := Lib.hid (hT.below hb)
  have HTA := Lib.hid (ht.under hb)
  clear hb hk1 hk2 hT ht hc0 hd0
  go_enter Tryz.func61, Tryz.ntmps61
  go_upto_region 1 with fail
  generalize (W.alloc (.cells #[.pointer (some ⟨t, 0, none⟩)] 83)).alloc (.cells #[.string op, .int .i64 line, .int .i64 col, .string name, .int .i64 num, .slice (some ⟨b, off, none⟩) 1 cap] 53) = w1 at *
  obtain ⟨hk1, hk2, hd0⟩ := HX.out
  have c6 := cell1 hk1
  obtain ⟨c0, c1, c2, c3, c4, c5⟩ := Tr.cellsOf6 hk2
  have HN1 := Lib.hid (show ∀ j u, ([.int .i64 k0] : List Value)[j]? = some u → w1.cell? ((⟨b, off, none⟩ : Addr).add j) = some u from fun j u hu => by
    rw [Tr.add_at]
    match j, hu with
    | 0, hu => cases hu; exact hd0
    | j + 1, hu => simp at hu)
  go_wp2_with (at_builtin; refine wpList_append_own _ rfl _ _ 51 rfl w1.heap.size 3 i0 (.int .i64 0) 1 8 Tryz.underlying51 hi0 hz0 hz1 hz2 rfl (by decide) (.slice none 0 0) 0 [] rfl (World.ownsRow_nil _ _ _ _) ⟨b, off, none⟩ 1 cap [.int .i64 k0] rfl rfl HN1.out (by simp [Value.oneCell']) (by decide) (by decide) (Nat.le_refl _) ?_)
  intro v2 w2 hown2 hgrow2 hnil2
  have HBg := Lib.hid ((Below.refl w1.heap.size w1).grown hgrow2 (Nat.le_refl _) (fun k hk => by cases hk))
  obtain ⟨A2, c2', rfl⟩ := row_form hown2
  have HO2 := Lib.hid hown2
  clear hown2 hgrow2 hnil2
  have hb2s := HBg.out.size
  go_wp2_with (at_builtin; refine wpList_append_own _ rfl _ _ 51 rfl w1.heap.size 3 i0 (.int .i64 0) 1 8 Tryz.underlying51 hi0 hz0 hz1 hz2 rfl (by decide) (.slice A2 (0 + 1) c2') (0 + 1) [.int .i64 k0] rfl (HO2.out.alloc _) ⟨w2.heap.size, 0, none⟩ 3 3 [.int .i64 (-1), .int .i64 (-1), .int .i64 (-1)] rfl rfl ?q1 ?q2 ?q3 ?q4 ?q5 ?_)
  case q1 => first | exact fun j u h => h | exact World.news_of_block (Tr.last _ _)
  case q2 => simp [Value.oneCell']
  case q3 => decide
  case q4 => decide
  case q5 => first | omega | (simp; omega)
  intro v3 w3 hown3 hgrow3 hnil3
  have hb3 : Below w1.heap.size w1 w3 := (HBg.out.alloc hb2s _).grown hgrow3 (by simp; omega) (fun k hk => (row_lt HO2.out hk).1)
  obtain ⟨g, cap3, rfl, hgB, hgl⟩ := hown3.form (by decide)
  have e0 : w3.cell? ⟨g, 0, none⟩ = some (.int .i64 k0) := hown3.cellAt 0 (by decide)
  have HB3 := Lib.hid (HB.out.trans (hb3.mono HB.out.size))
  have HT3 := Lib.hid (HT.out.below hb3)
  have HTA3 := Lib.hid (HTA.out.under hb3)
  have c6 := (hb3.cell (p := ⟨W.heap.size, 0, none⟩) (Tr.cell_lt c6)).trans c6
  have c0 := (hb3.cell (p := ⟨W.heap.size + 1, 0, none⟩) (Tr.cell_lt c0)).trans c0
  have c3 := (hb3.cell (p := ⟨W.heap.size + 1, 3, none⟩) (Tr.cell_lt c3)).trans c3
  have c5 := (hb3.cell (p := ⟨W.heap.size + 1, 5, none⟩) (Tr.cell_lt c5)).trans c5
  have HCL := Lib.hid (show ∀ W', Below w3.heap.size w3 W' → W'.cell? ⟨W.heap.size, 0, none⟩ = some (.pointer (some ⟨t, 0, none⟩)) ∧ W'.cell? ⟨W.heap.size + 1, 0, none⟩ = some (.string op) ∧ W'.cell? ⟨W.heap.size + 1, 3, none⟩ = some (.string name) ∧ W'.cell? ⟨g, 0, none⟩ = some (.int .i64 k0) from fun W' hb => ⟨(hb.cell (p := ⟨W.heap.size, 0, none⟩) (Tr.cell_lt c6)).trans c6, (hb.cell (p := ⟨W.heap.size + 1, 0, none⟩) (Tr.cell_lt c0)).trans c0, (hb.cell (p := ⟨W.heap.size + 1, 3, none⟩) (Tr.cell_lt c3)).trans c3, (hb.cell (p := ⟨g, 0, none⟩) (Tr.cell_lt e0)).trans e0⟩)
  clear hown3 hgrow3 hnil3 hb3 hk1 hk2 c5 hd0
  have z1 : ¬ 9223372036854775807 < name.size + 4 := by omega
  have z2 : ¬ 9223372036854775807 < name.size + 4 + s0.size := by omega
  have y0 : (0 : Int) < ((0 + 1 + 3 : Nat) : Int) := by decide
  have y0' : (0 : Int) < (4 : Int) := by decide
  go_wp2_with fail
  have hbw1 : Below w3.heap.size w3 w3.drew := (Below.refl _ w3).drew
  clear c6 c0 c3 e0
  obtain ⟨c6, c0, c3, e0⟩ := HCL.out _ hbw1
  go_region_held3 (fun W' => W'.cell? ⟨W.heap.size, 0, none⟩ = some (.pointer (some ⟨t, 0, none⟩)) ∧ W'.cell? ⟨W.heap.size + 1, 0, none⟩ = some (.string op) ∧ W'.cell? ⟨W.heap.size + 1, 3, none⟩ = some (.string name) ∧ W'.cell? ⟨g, 0, none⟩ = some (.int .i64 k0)) (first | exact HCL.out _ (by with_reducible assumption))
    (first
      | (go_at_call_of 33 (Value.int IntKind.i64 k0); refine (HK0.out _ (HT3.out.below (by with_reducible assumption)) (HTA3.out.under (by with_reducible assumption))).mono ?_; rintro e v0 ⟨rfl, hbn⟩; have hbv0 := chain (by with_reducible assumption) hbn; clear hbn; obtain ⟨c6, c0, c3, e0⟩ := HCL.out _ hbv0))
  all_goals
    have hfin := HB3.out.trans (hbv0.mono HB3.out.size)
    go_wp2_with fail
    go_ret
    exact ⟨by rw [← HR.out]; rfl, hfin⟩
end Go.Proofs.YtmeacgmjpjjphaaGreatDoor
namespace Go.Proofs.YtmeacgmjpjjphaaGreatDoor
open Go.RowKit Go.Shelf
open Tr (Nd TreeAt Own Ints Fine ndV)
open Tr.TreP (WF fits places nd inT)

set_option maxRecDepth 100000 in
set_option maxHeartbeats 8000000 in
theorem tx_neg {B t : Nat} {v : Value} {ms : List (Nd × Value)} (op name : ByteArray) (line col num k0 : Int) (t0 : Tm) (b off cap : Nat) (e : op = nNeg) (W : World) (hT : TreeAt W B t v ms) (ht : TabOk W) (hc0 : W.cell? ⟨b, off, none⟩ = some (.int .i64 k0)) (hn : name.size ≤ 2097152) (hK0 : KidC B t v ms k0 t0) :
    Calls Tryz.prog 61 #[.agg #[.pointer (some ⟨t, 0, none⟩)], .agg #[.string op, .int .i64 line, .int .i64 col, .string name, .int .i64 num, .slice (some ⟨b, off, none⟩) 1 cap]] W fun e W' => e = .returned (.string (nodeB (.mk op name num [t0]) [textT t0])) ∧ Below W.heap.size W W' := by
  have hnb : nodeB (.mk op name num [t0]) [textT t0] = (⟨#[45, 32]⟩ : ByteArray) ++ atB t0 (textT t0) 7 := by
    rw [e]
    kernel_rfl
  have hz0 := hK0.at_size 7
  have HK0 := Lib.hid (fun W a b => hK0.call W a b 7 (by decide) (by decide))
  clear hK0
  generalize atB t0 (textT t0) 7 = s0 at *
  rw [hnb]
  clear hnb
  obtain ⟨r, hr⟩ : ∃ r, (⟨#[45, 32]⟩ : ByteArray) ++ s0 = r := ⟨_, rfl⟩
  rw [hr]
  have HR := Lib.hid hr
  clear hr
  have hos : op.size ≤ 20 := by rw [e]; decide
  have h0 : (op.toList == [115, 101, 113]) = false := by rw [e]; exact (lit_eq _ _).trans (by decide)
  have h1 : (op.toList == [108, 101, 116]) = false := by rw [e]; exact (lit_eq _ _).trans (by decide)
  have h2 : (op.toList == [105, 102]) = false := by rw [e]; exact (lit_eq _ _).trans (by decide)
  have h3 : (op.toList == [116, 114, 121]) = false := by rw [e]; exact (lit_eq _ _).trans (by decide)
  have h4 : (op.toList == [111, 117, 116]) = false := by rw [e]; exact (lit_eq _ _).trans (by decide)
  have h5 : (op.toList == [115, 101, 116]) = false := by rw [e]; exact (lit_eq _ _).trans (by decide)
  have h6 : (op.toList == [110, 101, 103]) = true := by rw [e]; exact (lit_eq _ _).trans (by decide)
  clear e
  obtain ⟨i0, hi0, hz0, hz1, hz2⟩ := info_parts Tr.info_int
  have hb := ((Below.refl W.heap.size W).alloc (Nat.le_refl _) (.cells #[.pointer (some ⟨t, 0, none⟩)] 83)).alloc (by simp) (.cells #[.string op, .int .i64 line, .int .i64 col, .string name, .int .i64 num, .slice (some ⟨b, off, none⟩) 1 cap] 53)
  have hk1 := (Below.heap_alloc (W.alloc (.cells #[.pointer (some ⟨t, 0, none⟩)] 83)) (.cells #[.string op, .int .i64 line, .int .i64 col, .string name, .int .i64 num, .slice (some ⟨b, off, none⟩) 1 cap] 53) W.heap.size (by simp)).trans (Tr.last W (.cells #[.pointer (some ⟨t, 0, none⟩)] 83))
  have hk2 := Tr.last (W.alloc (.cells #[.pointer (some ⟨t, 0, none⟩)] 83)) (.cells #[.string op, .int .i64 line, .int .i64 col, .string name, .int .i64 num, .slice (some ⟨b, off, none⟩) 1 cap] 53)
  rw [show (W.alloc (.cells #[.pointer (some ⟨t, 0, none⟩)] 83)).heap.size = W.heap.size + 1 by simp] at hk2
  have hd0 := (hb.cell (p := ⟨b, off, none⟩) (Tr.cell_lt hc0)).trans hc0
  have HB := Lib.hid hb
  have HX := Lib.hid (And.intro hk1 (And.intro hk2 hd0))
  have HT := Lib.hid (hT.below hb)
  have HTA := Lib.hid (ht.under hb)
  clear hb hk1 hk2 hT ht hc0 hd0
  go_enter Tryz.func61, Tryz.ntmps61
  go_upto_region 1 with fail
  generalize (W.alloc (.cells #[.pointer (some ⟨t, 0, none⟩)] 83)).alloc (.cells #[.string op, .int .i64 line, .int .i64 col, .string name, .int .i64 num, .slice (some ⟨b, off, none⟩) 1 cap] 53) = w1 at *
  obtain ⟨hk1, hk2, hd0⟩ := HX.out
  have c6 := cell1 hk1
  obtain ⟨c0, c1, c2, c3, c4, c5⟩ := Tr.cellsOf6 hk2
  have HN1 := Lib.hid (show ∀ j u, ([.int .i64 k0] : List Value)[j]? = some u → w1.cell? ((⟨b, off, none⟩ : Addr).add j) = some u from fun j u hu => by
    rw [Tr.add_at]
    match j, hu with
    | 0, hu => cases hu; exact hd0
    | j + 1, hu => simp at hu)
  go_wp2_with (at_builtin; refine wpList_append_own _ rfl _ _ 51 rfl w1.heap.size 3 i0 (.int .i64 0) 1 8 Tryz.underlying51 hi0 hz0 hz1 hz2 rfl (by decide) (.slice none 0 0) 0 [] rfl (World.ownsRow_nil _ _ _ _) ⟨b, off, none⟩ 1 cap [.int .i64 k0] rfl rfl HN1.out (by simp [Value.oneCell']) (by decide) (by decide) (Nat.le_refl _) ?_)
  intro v2 w2 hown2 hgrow2 hnil2
  have HBg := Lib.hid ((Below.refl w1.heap.size w1).grown hgrow2 (Nat.le_refl _) (fun k hk => by cases hk))
  obtain ⟨A2, c2', rfl⟩ := row_form hown2
  have HO2 := Lib.hid hown2
  clear hown2 hgrow2 hnil2
  have hb2s := HBg.out.size
  go_wp2_with (at_builtin; refine wpList_append_own _ rfl _ _ 51 rfl w1.heap.size 3 i0 (.int .i64 0) 1 8 Tryz.underlying51 hi0 hz0 hz1 hz2 rfl (by decide) (.slice A2 (0 + 1) c2') (0 + 1) [.int .i64 k0] rfl (HO2.out.alloc _) ⟨w2.heap.size, 0, none⟩ 3 3 [.int .i64 (-1), .int .i64 (-1), .int .i64 (-1)] rfl rfl ?q1 ?q2 ?q3 ?q4 ?q5 ?_)
  case q1 => first | exact fun j u h => h | exact World.news_of_block (Tr.last _ _)
  case q2 => simp [Value.oneCell']
  case q3 => decide
  case q4 => decide
  case q5 => first | omega | (simp; omega)
  intro v3 w3 hown3 hgrow3 hnil3
  have hb3 : Below w1.heap.size w1 w3 := (HBg.out.alloc hb2s _).grown hgrow3 (by simp; omega) (fun k hk => (row_lt HO2.out hk).1)
  obtain ⟨g, cap3, rfl, hgB, hgl⟩ := hown3.form (by decide)
  have e0 : w3.cell? ⟨g, 0, none⟩ = some (.int .i64 k0) := hown3.cellAt 0 (by decide)
  have HB3 := Lib.hid (HB.out.trans (hb3.mono HB.out.size))
  have HT3 := Lib.hid (HT.out.below hb3)
  have HTA3 := Lib.hid (HTA.out.under hb3)
  have c6 := (hb3.cell (p := ⟨W.heap.size, 0, none⟩) (Tr.cell_lt c6)).trans c6
  have c0 := (hb3.cell (p := ⟨W.heap.size + 1, 0, none⟩) (Tr.cell_lt c0)).trans c0
  have c3 := (hb3.cell (p := ⟨W.heap.size + 1, 3, none⟩) (Tr.cell_lt c3)).trans c3
  have c5 := (hb3.cell (p := ⟨W.heap.size + 1, 5, none⟩) (Tr.cell_lt c5)).trans c5
  have HCL := Lib.hid (show ∀ W', Below w3.heap.size w3 W' → W'.cell? ⟨W.heap.size, 0, none⟩ = some (.pointer (some ⟨t, 0, none⟩)) ∧ W'.cell? ⟨W.heap.size + 1, 0, none⟩ = some (.string op) ∧ W'.cell? ⟨W.heap.size + 1, 3, none⟩ = some (.string name) ∧ W'.cell? ⟨g, 0, none⟩ = some (.int .i64 k0) from fun W' hb => ⟨(hb.cell (p := ⟨W.heap.size, 0, none⟩) (Tr.cell_lt c6)).trans c6, (hb.cell (p := ⟨W.heap.size + 1, 0, none⟩) (Tr.cell_lt c0)).trans c0, (hb.cell (p := ⟨W.heap.size + 1, 3, none⟩) (Tr.cell_lt c3)).trans c3, (hb.cell (p := ⟨g, 0, none⟩) (Tr.cell_lt e0)).trans e0⟩)
  clear hown3 hgrow3 hnil3 hb3 hk1 hk2 c5 hd0
  have z1 : ¬ 9223372036854775807 < 2 + s0.size := by omega
  have y0 : (0 : Int) < ((0 + 1 + 3 : Nat) : Int) := by decide
  have y0' : (0 : Int) < (4 : Int) := by decide
  go_wp2_with fail
  have hbw1 : Below w3.heap.size w3 w3.drew := (Below.refl _ w3).drew
  clear c6 c0 c3 e0
  obtain ⟨c6, c0, c3, e0⟩ := HCL.out _ hbw1
  go_region_held3 (fun W' => W'.cell? ⟨W.heap.size, 0, none⟩ = some (.pointer (some ⟨t, 0, none⟩)) ∧ W'.cell? ⟨W.heap.size + 1, 0, none⟩ = some (.string op) ∧ W'.cell? ⟨W.heap.size + 1, 3, none⟩ = some (.string name) ∧ W'.cell? ⟨g, 0, none⟩ = some (.int .i64 k0)) (first | exact HCL.out _ (by with_reducible assumption))
    (first
      | (go_at_call_of 33 (Value.int IntKind.i64 k0); refine (HK0.out _ (HT3.out.below (by with_reducible assumption)) (HTA3.out.under (by with_reducible assumption))).mono ?_; rintro e v0 ⟨rfl, hbn⟩; have hbv0 := chain (by with_reducible assumption) hbn; clear hbn; obtain ⟨c6, c0, c3, e0⟩ := HCL.out _ hbv0))
  all_goals
    have hfin := HB3.out.trans (hbv0.mono HB3.out.size)
    go_wp2_with fail
    go_ret
    exact ⟨by rw [← HR.out]; rfl, hfin⟩
set_option maxRecDepth 100000 in
set_option maxHeartbeats 8000000 in
theorem tx_not {B t : Nat} {v : Value} {ms : List (Nd × Value)} (op name : ByteArray) (line col num k0 : Int) (t0 : Tm) (b off cap : Nat) (e : op = kNot) (W : World) (hT : TreeAt W B t v ms) (ht : TabOk W) (hc0 : W.cell? ⟨b, off, none⟩ = some (.int .i64 k0)) (hn : name.size ≤ 2097152) (hK0 : KidC B t v ms k0 t0) :
    Calls Tryz.prog 61 #[.agg #[.pointer (some ⟨t, 0, none⟩)], .agg #[.string op, .int .i64 line, .int .i64 col, .string name, .int .i64 num, .slice (some ⟨b, off, none⟩) 1 cap]] W fun e W' => e = .returned (.string (nodeB (.mk op name num [t0]) [textT t0])) ∧ Below W.heap.size W W' := by
  have hnb : nodeB (.mk op name num [t0]) [textT t0] = op ++ (⟨#[32]⟩ : ByteArray) ++ atB t0 (textT t0) 7 := by
    rw [e]
    kernel_rfl
  have hz0 := hK0.at_size 7
  have HK0 := Lib.hid (fun W a b => hK0.call W a b 7 (by decide) (by decide))
  clear hK0
  generalize atB t0 (textT t0) 7 = s0 at *
  rw [hnb]
  clear hnb
  obtain ⟨r, hr⟩ : ∃ r, op ++ (⟨#[32]⟩ : ByteArray) ++ s0 = r := ⟨_, rfl⟩
  rw [hr]
  have HR := Lib.hid hr
  clear hr
  have hos : op.size ≤ 20 := by rw [e]; decide
  have h0 : (op.toList == [115, 101, 113]) = false := by rw [e]; exact (lit_eq _ _).trans (by decide)
  have h1 : (op.toList == [108, 101, 116]) = false := by rw [e]; exact (lit_eq _ _).trans (by decide)
  have h2 : (op.toList == [105, 102]) = false := by rw [e]; exact (lit_eq _ _).trans (by decide)
  have h3 : (op.toList == [116, 114, 121]) = false := by rw [e]; exact (lit_eq _ _).trans (by decide)
  have h4 : (op.toList == [111, 117, 116]) = false := by rw [e]; exact (lit_eq _ _).trans (by decide)
  have h5 : (op.toList == [115, 101, 116]) = false := by rw [e]; exact (lit_eq _ _).trans (by decide)
  have h6 : (op.toList == [110, 101, 103]) = false := by rw [e]; exact (lit_eq _ _).trans (by decide)
  have h7 : (op.toList == [110, 111, 116]) = true := by rw [e]; exact (lit_eq _ _).trans (by decide)
  clear e
  obtain ⟨i0, hi0, hz0, hz1, hz2⟩ := info_parts Tr.info_int
  have hb := ((Below.refl W.heap.size W).alloc (Nat.le_refl _) (.cells #[.pointer (some ⟨t, 0, none⟩)] 83)).alloc (by simp) (.cells #[.string op, .int .i64 line, .int .i64 col, .string name, .int .i64 num, .slice (some ⟨b, off, none⟩) 1 cap] 53)
  have hk1 := (Below.heap_alloc (W.alloc (.cells #[.pointer (some ⟨t, 0, none⟩)] 83)) (.cells #[.string op, .int .i64 line, .int .i64 col, .string name, .int .i64 num, .slice (some ⟨b, off, none⟩) 1 cap] 53) W.heap.size (by simp)).trans (Tr.last W (.cells #[.pointer (some ⟨t, 0, none⟩)] 83))
  have hk2 := Tr.last (W.alloc (.cells #[.pointer (some ⟨t, 0, none⟩)] 83)) (.cells #[.string op, .int .i64 line, .int .i64 col, .string name, .int .i64 num, .slice (some ⟨b, off, none⟩) 1 cap] 53)
  rw [show (W.alloc (.cells #[.pointer (some ⟨t, 0, none⟩)] 83)).heap.size = W.heap.size + 1 by simp] at hk2
  have hd0 := (hb.cell (p := ⟨b, off, none⟩) (Tr.cell_lt hc0)).trans hc0
  have HB := Lib.hid hb
  have HX := Lib.hid (And.intro hk1 (And.intro hk2 hd0))
  have HT := Lib.hid (hT.below hb)
  have HTA := Lib.hid (ht.under hb)
  clear hb hk1 hk2 hT ht hc0 hd0
  go_enter Tryz.func61, Tryz.ntmps61
  go_upto_region 1 with fail
  generalize (W.alloc (.cells #[.pointer (some ⟨t, 0, none⟩)] 83)).alloc (.cells #[.string op, .int .i64 line, .int .i64 col, .string name, .int .i64 num, .slice (some ⟨b, off, none⟩) 1 cap] 53) = w1 at *
  obtain ⟨hk1, hk2, hd0⟩ := HX.out
  have c6 := cell1 hk1
  obtain ⟨c0, c1, c2, c3, c4, c5⟩ := Tr.cellsOf6 hk2
  have HN1 := Lib.hid (show ∀ j u, ([.int .i64 k0] : List Value)[j]? = some u → w1.cell? ((⟨b, off, none⟩ : Addr).add j) = some u from fun j u hu => by
    rw [Tr.add_at]
    match j, hu with
    | 0, hu => cases hu; exact hd0
    | j + 1, hu => simp at hu)
  go_wp2_with (at_builtin; refine wpList_append_own _ rfl _ _ 51 rfl w1.heap.size 3 i0 (.int .i64 0) 1 8 Tryz.underlying51 hi0 hz0 hz1 hz2 rfl (by decide) (.slice none 0 0) 0 [] rfl (World.ownsRow_nil _ _ _ _) ⟨b, off, none⟩ 1 cap [.int .i64 k0] rfl rfl HN1.out (by simp [Value.oneCell']) (by decide) (by decide) (Nat.le_refl _) ?_)
  intro v2 w2 hown2 hgrow2 hnil2
  have HBg := Lib.hid ((Below.refl w1.heap.size w1).grown hgrow2 (Nat.le_refl _) (fun k hk => by cases hk))
  obtain ⟨A2, c2', rfl⟩ := row_form hown2
  have HO2 := Lib.hid hown2
  clear hown2 hgrow2 hnil2
  have hb2s := HBg.out.size
  go_wp2_with (at_builtin; refine wpList_append_own _ rfl _ _ 51 rfl w1.heap.size 3 i0 (.int .i64 0) 1 8 Tryz.underlying51 hi0 hz0 hz1 hz2 rfl (by decide) (.slice A2 (0 + 1) c2') (0 + 1) [.int .i64 k0] rfl (HO2.out.alloc _) ⟨w2.heap.size, 0, none⟩ 3 3 [.int .i64 (-1), .int .i64 (-1), .int .i64 (-1)] rfl rfl ?q1 ?q2 ?q3 ?q4 ?q5 ?_)
  case q1 => first | exact fun j u h => h | exact World.news_of_block (Tr.last _ _)
  case q2 => simp [Value.oneCell']
  case q3 => decide
  case q4 => decide
  case q5 => first | omega | (simp; omega)
  intro v3 w3 hown3 hgrow3 hnil3
  have hb3 : Below w1.heap.size w1 w3 := (HBg.out.alloc hb2s _).grown hgrow3 (by simp; omega) (fun k hk => (row_lt HO2.out hk).1)
  obtain ⟨g, cap3, rfl, hgB, hgl⟩ := hown3.form (by decide)
  have e0 : w3.cell? ⟨g, 0, none⟩ = some (.int .i64 k0) := hown3.cellAt 0 (by decide)
  have HB3 := Lib.hid (HB.out.trans (hb3.mono HB.out.size))
  have HT3 := Lib.hid (HT.out.below hb3)
  have HTA3 := Lib.hid (HTA.out.under hb3)
  have c6 := (hb3.cell (p := ⟨W.heap.size, 0, none⟩) (Tr.cell_lt c6)).trans c6
  have c0 := (hb3.cell (p := ⟨W.heap.size + 1, 0, none⟩) (Tr.cell_lt c0)).trans c0
  have c3 := (hb3.cell (p := ⟨W.heap.size + 1, 3, none⟩) (Tr.cell_lt c3)).trans c3
  have c5 := (hb3.cell (p := ⟨W.heap.size + 1, 5, none⟩) (Tr.cell_lt c5)).trans c5
  have HCL := Lib.hid (show ∀ W', Below w3.heap.size w3 W' → W'.cell? ⟨W.heap.size, 0, none⟩ = some (.pointer (some ⟨t, 0, none⟩)) ∧ W'.cell? ⟨W.heap.size + 1, 0, none⟩ = some (.string op) ∧ W'.cell? ⟨W.heap.size + 1, 3, none⟩ = some (.string name) ∧ W'.cell? ⟨g, 0, none⟩ = some (.int .i64 k0) from fun W' hb => ⟨(hb.cell (p := ⟨W.heap.size, 0, none⟩) (Tr.cell_lt c6)).trans c6, (hb.cell (p := ⟨W.heap.size + 1, 0, none⟩) (Tr.cell_lt c0)).trans c0, (hb.cell (p := ⟨W.heap.size + 1, 3, none⟩) (Tr.cell_lt c3)).trans c3, (hb.cell (p := ⟨g, 0, none⟩) (Tr.cell_lt e0)).trans e0⟩)
  clear hown3 hgrow3 hnil3 hb3 hk1 hk2 c5 hd0
  have z1 : ¬ 9223372036854775807 < op.size + 1 := by omega
  have z2 : ¬ 9223372036854775807 < op.size + 1 + s0.size := by omega
  have y0 : (0 : Int) < ((0 + 1 + 3 : Nat) : Int) := by decide
  have y0' : (0 : Int) < (4 : Int) := by decide
  go_wp2_with fail
  have hbw1 : Below w3.heap.size w3 w3.drew := (Below.refl _ w3).drew
  clear c6 c0 c3 e0
  obtain ⟨c6, c0, c3, e0⟩ := HCL.out _ hbw1
  go_region_held3 (fun W' => W'.cell? ⟨W.heap.size, 0, none⟩ = some (.pointer (some ⟨t, 0, none⟩)) ∧ W'.cell? ⟨W.heap.size + 1, 0, none⟩ = some (.string op) ∧ W'.cell? ⟨W.heap.size + 1, 3, none⟩ = some (.string name) ∧ W'.cell? ⟨g, 0, none⟩ = some (.int .i64 k0)) (first | exact HCL.out _ (by with_reducible assumption))
    (first
      | (go_at_call_of 33 (Value.int IntKind.i64 k0); refine (HK0.out _ (HT3.out.below (by with_reducible assumption)) (HTA3.out.under (by with_reducible assumption))).mono ?_; rintro e v0 ⟨rfl, hbn⟩; have hbv0 := chain (by with_reducible assumption) hbn; clear hbn; obtain ⟨c6, c0, c3, e0⟩ := HCL.out _ hbv0))
  all_goals
    have hfin := HB3.out.trans (hbv0.mono HB3.out.size)
    go_wp2_with fail
    go_ret
    exact ⟨by rw [← HR.out]; rfl, hfin⟩
set_option maxRecDepth 100000 in
set_option maxHeartbeats 8000000 in
theorem tx_fst {B t : Nat} {v : Value} {ms : List (Nd × Value)} (op name : ByteArray) (line col num k0 : Int) (t0 : Tm) (b off cap : Nat) (e : op = kFst) (W : World) (hT : TreeAt W B t v ms) (ht : TabOk W) (hc0 : W.cell? ⟨b, off, none⟩ = some (.int .i64 k0)) (hn : name.size ≤ 2097152) (hK0 : KidC B t v ms k0 t0) :
    Calls Tryz.prog 61 #[.agg #[.pointer (some ⟨t, 0, none⟩)], .agg #[.string op, .int .i64 line, .int .i64 col, .string name, .int .i64 num, .slice (some ⟨b, off, none⟩) 1 cap]] W fun e W' => e = .returned (.string (nodeB (.mk op name num [t0]) [textT t0])) ∧ Below W.heap.size W W' := by
  have hnb : nodeB (.mk op name num [t0]) [textT t0] = op ++ (⟨#[32]⟩ : ByteArray) ++ atB t0 (textT t0) 7 := by
    rw [e]
    kernel_rfl
  have hz0 := hK0.at_size 7
  have HK0 := Lib.hid (fun W a b => hK0.call W a b 7 (by decide) (by decide))
  clear hK0
  generalize atB t0 (textT t0) 7 = s0 at *
  rw [hnb]
  clear hnb
  obtain ⟨r, hr⟩ : ∃ r, op ++ (⟨#[32]⟩ : ByteArray) ++ s0 = r := ⟨_, rfl⟩
  rw [hr]
  have HR := Lib.hid hr
  clear hr
  have hos : op.size ≤ 20 := by rw [e]; decide
  have h0 : (op.toList == [115, 101, 113]) = false := by rw [e]; exact (lit_eq _ _).trans (by decide)
  have h1 : (op.toList == [108, 101, 116]) = false := by rw [e]; exact (lit_eq _ _).trans (by decide)
  have h2 : (op.toList == [105, 102]) = false := by rw [e]; exact (lit_eq _ _).trans (by decide)
  have h3 : (op.toList == [116, 114, 121]) = false := by rw [e]; exact (lit_eq _ _).trans (by decide)
  have h4 : (op.toList == [111, 117, 116]) = false := by rw [e]; exact (lit_eq _ _).trans (by decide)
  have h5 : (op.toList == [115, 101, 116]) = false := by rw [e]; exact (lit_eq _ _).trans (by decide)
  have h6 : (op.toList == [110, 101, 103]) = false := by rw [e]; exact (lit_eq _ _).trans (by decide)
  have h7 : (op.toList == [110, 111, 116]) = false := by rw [e]; exact (lit_eq _ _).trans (by decide)
  have h8 : (op.toList == [102, 115, 116]) = true := by rw [e]; exact (lit_eq _ _).trans (by decide)
  clear e
  obtain ⟨i0, hi0, hz0, hz1, hz2⟩ := info_parts Tr.info_int
  have hb := ((Below.refl W.heap.size W).alloc (Nat.le_refl _) (.cells #[.pointer (some ⟨t, 0, none⟩)] 83)).alloc (by simp) (.cells #[.string op, .int .i64 line, .int .i64 col, .string name, .int .i64 num, .slice (some ⟨b, off, none⟩) 1 cap] 53)
  have hk1 := (Below.heap_alloc (W.alloc (.cells #[.pointer (some ⟨t, 0, none⟩)] 83)) (.cells #[.string op, .int .i64 line, .int .i64 col, .string name, .int .i64 num, .slice (some ⟨b, off, none⟩) 1 cap] 53) W.heap.size (by simp)).trans (Tr.last W (.cells #[.pointer (some ⟨t, 0, none⟩)] 83))
  have hk2 := Tr.last (W.alloc (.cells #[.pointer (some ⟨t, 0, none⟩)] 83)) (.cells #[.string op, .int .i64 line, .int .i64 col, .string name, .int .i64 num, .slice (some ⟨b, off, none⟩) 1 cap] 53)
  rw [show (W.alloc (.cells #[.pointer (some ⟨t, 0, none⟩)] 83)).heap.size = W.heap.size + 1 by simp] at hk2
  have hd0 := (hb.cell (p := ⟨b, off, none⟩) (Tr.cell_lt hc0)).trans hc0
  have HB := Lib.hid hb
  have HX := Lib.hid (And.intro hk1 (And.intro hk2 hd0))
  have HT := Lib.hid (hT.below hb)
  have HTA := Lib.hid (ht.under hb)
  clear hb hk1 hk2 hT ht hc0 hd0
  go_enter Tryz.func61, Tryz.ntmps61
  go_upto_region 1 with fail
  generalize (W.alloc (.cells #[.pointer (some ⟨t, 0, none⟩)] 83)).alloc (.cells #[.string op, .int .i64 line, .int .i64 col, .string name, .int .i64 num, .slice (some ⟨b, off, none⟩) 1 cap] 53) = w1 at *
  obtain ⟨hk1, hk2, hd0⟩ := HX.out
  have c6 := cell1 hk1
  obtain ⟨c0, c1, c2, c3, c4, c5⟩ := Tr.cellsOf6 hk2
  have HN1 := Lib.hid (show ∀ j u, ([.int .i64 k0] : List Value)[j]? = some u → w1.cell? ((⟨b, off, none⟩ : Addr).add j) = some u from fun j u hu => by
    rw [Tr.add_at]
    match j, hu with
    | 0, hu => cases hu; exact hd0
    | j + 1, hu => simp at hu)
  go_wp2_with (at_builtin; refine wpList_append_own _ rfl _ _ 51 rfl w1.heap.size 3 i0 (.int .i64 0) 1 8 Tryz.underlying51 hi0 hz0 hz1 hz2 rfl (by decide) (.slice none 0 0) 0 [] rfl (World.ownsRow_nil _ _ _ _) ⟨b, off, none⟩ 1 cap [.int .i64 k0] rfl rfl HN1.out (by simp [Value.oneCell']) (by decide) (by decide) (Nat.le_refl _) ?_)
  intro v2 w2 hown2 hgrow2 hnil2
  have HBg := Lib.hid ((Below.refl w1.heap.size w1).grown hgrow2 (Nat.le_refl _) (fun k hk => by cases hk))
  obtain ⟨A2, c2', rfl⟩ := row_form hown2
  have HO2 := Lib.hid hown2
  clear hown2 hgrow2 hnil2
  have hb2s := HBg.out.size
  go_wp2_with (at_builtin; refine wpList_append_own _ rfl _ _ 51 rfl w1.heap.size 3 i0 (.int .i64 0) 1 8 Tryz.underlying51 hi0 hz0 hz1 hz2 rfl (by decide) (.slice A2 (0 + 1) c2') (0 + 1) [.int .i64 k0] rfl (HO2.out.alloc _) ⟨w2.heap.size, 0, none⟩ 3 3 [.int .i64 (-1), .int .i64 (-1), .int .i64 (-1)] rfl rfl ?q1 ?q2 ?q3 ?q4 ?q5 ?_)
  case q1 => first | exact fun j u h => h | exact World.news_of_block (Tr.last _ _)
  case q2 => simp [Value.oneCell']
  case q3 => decide
  case q4 => decide
  case q5 => first | omega | (simp; omega)
  intro v3 w3 hown3 hgrow3 hnil3
  have hb3 : Below w1.heap.size w1 w3 := (HBg.out.alloc hb2s _).grown hgrow3 (by simp; omega) (fun k hk => (row_lt HO2.out hk).1)
  obtain ⟨g, cap3, rfl, hgB, hgl⟩ := hown3.form (by decide)
  have e0 : w3.cell? ⟨g, 0, none⟩ = some (.int .i64 k0) := hown3.cellAt 0 (by decide)
  have HB3 := Lib.hid (HB.out.trans (hb3.mono HB.out.size))
  have HT3 := Lib.hid (HT.out.below hb3)
  have HTA3 := Lib.hid (HTA.out.under hb3)
  have c6 := (hb3.cell (p := ⟨W.heap.size, 0, none⟩) (Tr.cell_lt c6)).trans c6
  have c0 := (hb3.cell (p := ⟨W.heap.size + 1, 0, none⟩) (Tr.cell_lt c0)).trans c0
  have c3 := (hb3.cell (p := ⟨W.heap.size + 1, 3, none⟩) (Tr.cell_lt c3)).trans c3
  have c5 := (hb3.cell (p := ⟨W.heap.size + 1, 5, none⟩) (Tr.cell_lt c5)).trans c5
  have HCL := Lib.hid (show ∀ W', Below w3.heap.size w3 W' → W'.cell? ⟨W.heap.size, 0, none⟩ = some (.pointer (some ⟨t, 0, none⟩)) ∧ W'.cell? ⟨W.heap.size + 1, 0, none⟩ = some (.string op) ∧ W'.cell? ⟨W.heap.size + 1, 3, none⟩ = some (.string name) ∧ W'.cell? ⟨g, 0, none⟩ = some (.int .i64 k0) from fun W' hb => ⟨(hb.cell (p := ⟨W.heap.size, 0, none⟩) (Tr.cell_lt c6)).trans c6, (hb.cell (p := ⟨W.heap.size + 1, 0, none⟩) (Tr.cell_lt c0)).trans c0, (hb.cell (p := ⟨W.heap.size + 1, 3, none⟩) (Tr.cell_lt c3)).trans c3, (hb.cell (p := ⟨g, 0, none⟩) (Tr.cell_lt e0)).trans e0⟩)
  clear hown3 hgrow3 hnil3 hb3 hk1 hk2 c5 hd0
  have z1 : ¬ 9223372036854775807 < op.size + 1 := by omega
  have z2 : ¬ 9223372036854775807 < op.size + 1 + s0.size := by omega
  have y0 : (0 : Int) < ((0 + 1 + 3 : Nat) : Int) := by decide
  have y0' : (0 : Int) < (4 : Int) := by decide
  go_wp2_with fail
  have hbw1 : Below w3.heap.size w3 w3.drew := (Below.refl _ w3).drew
  clear c6 c0 c3 e0
  obtain ⟨c6, c0, c3, e0⟩ := HCL.out _ hbw1
  go_region_held3 (fun W' => W'.cell? ⟨W.heap.size, 0, none⟩ = some (.pointer (some ⟨t, 0, none⟩)) ∧ W'.cell? ⟨W.heap.size + 1, 0, none⟩ = some (.string op) ∧ W'.cell? ⟨W.heap.size + 1, 3, none⟩ = some (.string name) ∧ W'.cell? ⟨g, 0, none⟩ = some (.int .i64 k0)) (first | exact HCL.out _ (by with_reducible assumption))
    (first
      | (go_at_call_of 33 (Value.int IntKind.i64 k0); refine (HK0.out _ (HT3.out.below (by with_reducible assumption)) (HTA3.out.under (by with_reducible assumption))).mono ?_; rintro e v0 ⟨rfl, hbn⟩; have hbv0 := chain (by with_reducible assumption) hbn; clear hbn; obtain ⟨c6, c0, c3, e0⟩ := HCL.out _ hbv0))
  all_goals
    have hfin := HB3.out.trans (hbv0.mono HB3.out.size)
    go_wp2_with fail
    go_ret
    exact ⟨by rw [← HR.out]; rfl, hfin⟩
set_option maxRecDepth 100000 in
set_option maxHeartbeats 8000000 in
theorem tx_snd {B t : Nat} {v : Value} {ms : List (Nd × Value)} (op name : ByteArray) (line col num k0 : Int) (t0 : Tm) (b off cap : Nat) (e : op = kSnd) (W : World) (hT : TreeAt W B t v ms) (ht : TabOk W) (hc0 : W.cell? ⟨b, off, none⟩ = some (.int .i64 k0)) (hn : name.size ≤ 2097152) (hK0 : KidC B t v ms k0 t0) :
    Calls Tryz.prog 61 #[.agg #[.pointer (some ⟨t, 0, none⟩)], .agg #[.string op, .int .i64 line, .int .i64 col, .string name, .int .i64 num, .slice (some ⟨b, off, none⟩) 1 cap]] W fun e W' => e = .returned (.string (nodeB (.mk op name num [t0]) [textT t0])) ∧ Below W.heap.size W W' := by
  have hnb : nodeB (.mk op name num [t0]) [textT t0] = op ++ (⟨#[32]⟩ : ByteArray) ++ atB t0 (textT t0) 7 := by
    rw [e]
    kernel_rfl
  have hz0 := hK0.at_size 7
  have HK0 := Lib.hid (fun W a b => hK0.call W a b 7 (by decide) (by decide))
  clear hK0
  generalize atB t0 (textT t0) 7 = s0 at *
  rw [hnb]
  clear hnb
  obtain ⟨r, hr⟩ : ∃ r, op ++ (⟨#[32]⟩ : ByteArray) ++ s0 = r := ⟨_, rfl⟩
  rw [hr]
  have HR := Lib.hid hr
  clear hr
  have hos : op.size ≤ 20 := by rw [e]; decide
  have h0 : (op.toList == [115, 101, 113]) = false := by rw [e]; exact (lit_eq _ _).trans (by decide)
  have h1 : (op.toList == [108, 101, 116]) = false := by rw [e]; exact (lit_eq _ _).trans (by decide)
  have h2 : (op.toList == [105, 102]) = false := by rw [e]; exact (lit_eq _ _).trans (by decide)
  have h3 : (op.toList == [116, 114, 121]) = false := by rw [e]; exact (lit_eq _ _).trans (by decide)
  have h4 : (op.toList == [111, 117, 116]) = false := by rw [e]; exact (lit_eq _ _).trans (by decide)
  have h5 : (op.toList == [115, 101, 116]) = false := by rw [e]; exact (lit_eq _ _).trans (by decide)
  have h6 : (op.toList == [110, 101, 103]) = false := by rw [e]; exact (lit_eq _ _).trans (by decide)
  have h7 : (op.toList == [110, 111, 116]) = false := by rw [e]; exact (lit_eq _ _).trans (by decide)
  have h8 : (op.toList == [102, 115, 116]) = false := by rw [e]; exact (lit_eq _ _).trans (by decide)
  have h9 : (op.toList == [115, 110, 100]) = true := by rw [e]; exact (lit_eq _ _).trans (by decide)
  clear e
  obtain ⟨i0, hi0, hz0, hz1, hz2⟩ := info_parts Tr.info_int
  have hb := ((Below.refl W.heap.size W).alloc (Nat.le_refl _) (.cells #[.pointer (some ⟨t, 0, none⟩)] 83)).alloc (by simp) (.cells #[.string op, .int .i64 line, .int .i64 col, .string name, .int .i64 num, .slice (some ⟨b, off, none⟩) 1 cap] 53)
  have hk1 := (Below.heap_alloc (W.alloc (.cells #[.pointer (some ⟨t, 0, none⟩)] 83)) (.cells #[.string op, .int .i64 line, .int .i64 col, .string name, .int .i64 num, .slice (some ⟨b, off, none⟩) 1 cap] 53) W.heap.size (by simp)).trans (Tr.last W (.cells #[.pointer (some ⟨t, 0, none⟩)] 83))
  have hk2 := Tr.last (W.alloc (.cells #[.pointer (some ⟨t, 0, none⟩)] 83)) (.cells #[.string op, .int .i64 line, .int .i64 col, .string name, .int .i64 num, .slice (some ⟨b, off, none⟩) 1 cap] 53)
  rw [show (W.alloc (.cells #[.pointer (some ⟨t, 0, none⟩)] 83)).heap.size = W.heap.size + 1 by simp] at hk2
  have hd0 := (hb.cell (p := ⟨b, off, none⟩) (Tr.cell_lt hc0)).trans hc0
  have HB := Lib.hid hb
  have HX := Lib.hid (And.intro hk1 (And.intro hk2 hd0))
  have HT := Lib.hid (hT.below hb)
  have HTA := Lib.hid (ht.under hb)
  clear hb hk1 hk2 hT ht hc0 hd0
  go_enter Tryz.func61, Tryz.ntmps61
  go_upto_region 1 with fail
  generalize (W.alloc (.cells #[.pointer (some ⟨t, 0, none⟩)] 83)).alloc (.cells #[.string op, .int .i64 line, .int .i64 col, .string name, .int .i64 num, .slice (some ⟨b, off, none⟩) 1 cap] 53) = w1 at *
  obtain ⟨hk1, hk2, hd0⟩ := HX.out
  have c6 := cell1 hk1
  obtain ⟨c0, c1, c2, c3, c4, c5⟩ := Tr.cellsOf6 hk2
  have HN1 := Lib.hid (show ∀ j u, ([.int .i64 k0] : List Value)[j]? = some u → w1.cell? ((⟨b, off, none⟩ : Addr).add j) = some u from fun j u hu => by
    rw [Tr.add_at]
    match j, hu with
    | 0, hu => cases hu; exact hd0
    | j + 1, hu => simp at hu)
  go_wp2_with (at_builtin; refine wpList_append_own _ rfl _ _ 51 rfl w1.heap.size 3 i0 (.int .i64 0) 1 8 Tryz.underlying51 hi0 hz0 hz1 hz2 rfl (by decide) (.slice none 0 0) 0 [] rfl (World.ownsRow_nil _ _ _ _) ⟨b, off, none⟩ 1 cap [.int .i64 k0] rfl rfl HN1.out (by simp [Value.oneCell']) (by decide) (by decide) (Nat.le_refl _) ?_)
  intro v2 w2 hown2 hgrow2 hnil2
  have HBg := Lib.hid ((Below.refl w1.heap.size w1).grown hgrow2 (Nat.le_refl _) (fun k hk => by cases hk))
  obtain ⟨A2, c2', rfl⟩ := row_form hown2
  have HO2 := Lib.hid hown2
  clear hown2 hgrow2 hnil2
  have hb2s := HBg.out.size
  go_wp2_with (at_builtin; refine wpList_append_own _ rfl _ _ 51 rfl w1.heap.size 3 i0 (.int .i64 0) 1 8 Tryz.underlying51 hi0 hz0 hz1 hz2 rfl (by decide) (.slice A2 (0 + 1) c2') (0 + 1) [.int .i64 k0] rfl (HO2.out.alloc _) ⟨w2.heap.size, 0, none⟩ 3 3 [.int .i64 (-1), .int .i64 (-1), .int .i64 (-1)] rfl rfl ?q1 ?q2 ?q3 ?q4 ?q5 ?_)
  case q1 => first | exact fun j u h => h | exact World.news_of_block (Tr.last _ _)
  case q2 => simp [Value.oneCell']
  case q3 => decide
  case q4 => decide
  case q5 => first | omega | (simp; omega)
  intro v3 w3 hown3 hgrow3 hnil3
  have hb3 : Below w1.heap.size w1 w3 := (HBg.out.alloc hb2s _).grown hgrow3 (by simp; omega) (fun k hk => (row_lt HO2.out hk).1)
  obtain ⟨g, cap3, rfl, hgB, hgl⟩ := hown3.form (by decide)
  have e0 : w3.cell? ⟨g, 0, none⟩ = some (.int .i64 k0) := hown3.cellAt 0 (by decide)
  have HB3 := Lib.hid (HB.out.trans (hb3.mono HB.out.size))
  have HT3 := Lib.hid (HT.out.below hb3)
  have HTA3 := Lib.hid (HTA.out.under hb3)
  have c6 := (hb3.cell (p := ⟨W.heap.size, 0, none⟩) (Tr.cell_lt c6)).trans c6
  have c0 := (hb3.cell (p := ⟨W.heap.size + 1, 0, none⟩) (Tr.cell_lt c0)).trans c0
  have c3 := (hb3.cell (p := ⟨W.heap.size + 1, 3, none⟩) (Tr.cell_lt c3)).trans c3
  have c5 := (hb3.cell (p := ⟨W.heap.size + 1, 5, none⟩) (Tr.cell_lt c5)).trans c5
  have HCL := Lib.hid (show ∀ W', Below w3.heap.size w3 W' → W'.cell? ⟨W.heap.size, 0, none⟩ = some (.pointer (some ⟨t, 0, none⟩)) ∧ W'.cell? ⟨W.heap.size + 1, 0, none⟩ = some (.string op) ∧ W'.cell? ⟨W.heap.size + 1, 3, none⟩ = some (.string name) ∧ W'.cell? ⟨g, 0, none⟩ = some (.int .i64 k0) from fun W' hb => ⟨(hb.cell (p := ⟨W.heap.size, 0, none⟩) (Tr.cell_lt c6)).trans c6, (hb.cell (p := ⟨W.heap.size + 1, 0, none⟩) (Tr.cell_lt c0)).trans c0, (hb.cell (p := ⟨W.heap.size + 1, 3, none⟩) (Tr.cell_lt c3)).trans c3, (hb.cell (p := ⟨g, 0, none⟩) (Tr.cell_lt e0)).trans e0⟩)
  clear hown3 hgrow3 hnil3 hb3 hk1 hk2 c5 hd0
  have z1 : ¬ 9223372036854775807 < op.size + 1 := by omega
  have z2 : ¬ 9223372036854775807 < op.size + 1 + s0.size := by omega
  have y0 : (0 : Int) < ((0 + 1 + 3 : Nat) : Int) := by decide
  have y0' : (0 : Int) < (4 : Int) := by decide
  go_wp2_with fail
  have hbw1 : Below w3.heap.size w3 w3.drew := (Below.refl _ w3).drew
  clear c6 c0 c3 e0
  obtain ⟨c6, c0, c3, e0⟩ := HCL.out _ hbw1
  go_region_held3 (fun W' => W'.cell? ⟨W.heap.size, 0, none⟩ = some (.pointer (some ⟨t, 0, none⟩)) ∧ W'.cell? ⟨W.heap.size + 1, 0, none⟩ = some (.string op) ∧ W'.cell? ⟨W.heap.size + 1, 3, none⟩ = some (.string name) ∧ W'.cell? ⟨g, 0, none⟩ = some (.int .i64 k0)) (first | exact HCL.out _ (by with_reducible assumption))
    (first
      | (go_at_call_of 33 (Value.int IntKind.i64 k0); refine (HK0.out _ (HT3.out.below (by with_reducible assumption)) (HTA3.out.under (by with_reducible assumption))).mono ?_; rintro e v0 ⟨rfl, hbn⟩; have hbv0 := chain (by with_reducible assumption) hbn; clear hbn; obtain ⟨c6, c0, c3, e0⟩ := HCL.out _ hbv0))
  all_goals
    have hfin := HB3.out.trans (hbv0.mono HB3.out.size)
    go_wp2_with fail
    go_ret
    exact ⟨by rw [← HR.out]; rfl, hfin⟩
set_option maxRecDepth 100000 in
set_option maxHeartbeats 8000000 in
theorem tx_release {B t : Nat} {v : Value} {ms : List (Nd × Value)} (op name : ByteArray) (line col num k0 : Int) (t0 : Tm) (b off cap : Nat) (e : op = kRelease) (W : World) (hT : TreeAt W B t v ms) (ht : TabOk W) (hc0 : W.cell? ⟨b, off, none⟩ = some (.int .i64 k0)) (hn : name.size ≤ 2097152) (hK0 : KidC B t v ms k0 t0) :
    Calls Tryz.prog 61 #[.agg #[.pointer (some ⟨t, 0, none⟩)], .agg #[.string op, .int .i64 line, .int .i64 col, .string name, .int .i64 num, .slice (some ⟨b, off, none⟩) 1 cap]] W fun e W' => e = .returned (.string (nodeB (.mk op name num [t0]) [textT t0])) ∧ Below W.heap.size W W' := by
  have hnb : nodeB (.mk op name num [t0]) [textT t0] = (⟨#[114, 101, 108, 101, 97, 115, 101, 32]⟩ : ByteArray) ++ name ++ (⟨#[32, 40]⟩ : ByteArray) ++ atB t0 (textT t0) 0 ++ (⟨#[41]⟩ : ByteArray) := by
    rw [e]
    kernel_rfl
  have hz0 := hK0.at_size 0
  have HK0 := Lib.hid (fun W a b => hK0.call W a b 0 (by decide) (by decide))
  clear hK0
  generalize atB t0 (textT t0) 0 = s0 at *
  rw [hnb]
  clear hnb
  obtain ⟨r, hr⟩ : ∃ r, (⟨#[114, 101, 108, 101, 97, 115, 101, 32]⟩ : ByteArray) ++ name ++ (⟨#[32, 40]⟩ : ByteArray) ++ s0 ++ (⟨#[41]⟩ : ByteArray) = r := ⟨_, rfl⟩
  rw [hr]
  have HR := Lib.hid hr
  clear hr
  have hos : op.size ≤ 20 := by rw [e]; decide
  have h0 : (op.toList == [115, 101, 113]) = false := by rw [e]; exact (lit_eq _ _).trans (by decide)
  have h1 : (op.toList == [108, 101, 116]) = false := by rw [e]; exact (lit_eq _ _).trans (by decide)
  have h2 : (op.toList == [105, 102]) = false := by rw [e]; exact (lit_eq _ _).trans (by decide)
  have h3 : (op.toList == [116, 114, 121]) = false := by rw [e]; exact (lit_eq _ _).trans (by decide)
  have h4 : (op.toList == [111, 117, 116]) = false := by rw [e]; exact (lit_eq _ _).trans (by decide)
  have h5 : (op.toList == [115, 101, 116]) = false := by rw [e]; exact (lit_eq _ _).trans (by decide)
  have h6 : (op.toList == [110, 101, 103]) = false := by rw [e]; exact (lit_eq _ _).trans (by decide)
  have h7 : (op.toList == [110, 111, 116]) = false := by rw [e]; exact (lit_eq _ _).trans (by decide)
  have h8 : (op.toList == [102, 115, 116]) = false := by rw [e]; exact (lit_eq _ _).trans (by decide)
  have h9 : (op.toList == [115, 110, 100]) = false := by rw [e]; exact (lit_eq _ _).trans (by decide)
  have h10 : (op.toList == [111, 114]) = false := by rw [e]; exact (lit_eq _ _).trans (by decide)
  have h11 : (op.toList == [97, 110, 100]) = false := by rw [e]; exact (lit_eq _ _).trans (by decide)
  have h12 : (op.toList == [61]) = false := by rw [e]; exact (lit_eq _ _).trans (by decide)
  have h13 : (op.toList == [60]) = false := by rw [e]; exact (lit_eq _ _).trans (by decide)
  have h14 : (op.toList == [43]) = false := by rw [e]; exact (lit_eq _ _).trans (by decide)
  have h15 : (op.toList == [45]) = false := by rw [e]; exact (lit_eq _ _).trans (by decide)
  have h16 : (op.toList == [42]) = false := by rw [e]; exact (lit_eq _ _).trans (by decide)
  have h17 : (op.toList == [114, 101, 108, 101, 97, 115, 101]) = true := by rw [e]; exact (lit_eq _ _).trans (by decide)
  clear e
  obtain ⟨i0, hi0, hz0, hz1, hz2⟩ := info_parts Tr.info_int
  have hb := ((Below.refl W.heap.size W).alloc (Nat.le_refl _) (.cells #[.pointer (some ⟨t, 0, none⟩)] 83)).alloc (by simp) (.cells #[.string op, .int .i64 line, .int .i64 col, .string name, .int .i64 num, .slice (some ⟨b, off, none⟩) 1 cap] 53)
  have hk1 := (Below.heap_alloc (W.alloc (.cells #[.pointer (some ⟨t, 0, none⟩)] 83)) (.cells #[.string op, .int .i64 line, .int .i64 col, .string name, .int .i64 num, .slice (some ⟨b, off, none⟩) 1 cap] 53) W.heap.size (by simp)).trans (Tr.last W (.cells #[.pointer (some ⟨t, 0, none⟩)] 83))
  have hk2 := Tr.last (W.alloc (.cells #[.pointer (some ⟨t, 0, none⟩)] 83)) (.cells #[.string op, .int .i64 line, .int .i64 col, .string name, .int .i64 num, .slice (some ⟨b, off, none⟩) 1 cap] 53)
  rw [show (W.alloc (.cells #[.pointer (some ⟨t, 0, none⟩)] 83)).heap.size = W.heap.size + 1 by simp] at hk2
  have hd0 := (hb.cell (p := ⟨b, off, none⟩) (Tr.cell_lt hc0)).trans hc0
  have HB := Lib.hid hb
  have HX := Lib.hid (And.intro hk1 (And.intro hk2 hd0))
  have HT := Lib.hid (hT.below hb)
  have HTA := Lib.hid (ht.under hb)
  clear hb hk1 hk2 hT ht hc0 hd0
  go_enter Tryz.func61, Tryz.ntmps61
  go_upto_region 1 with fail
  generalize (W.alloc (.cells #[.pointer (some ⟨t, 0, none⟩)] 83)).alloc (.cells #[.string op, .int .i64 line, .int .i64 col, .string name, .int .i64 num, .slice (some ⟨b, off, none⟩) 1 cap] 53) = w1 at *
  obtain ⟨hk1, hk2, hd0⟩ := HX.out
  have c6 := cell1 hk1
  obtain ⟨c0, c1, c2, c3, c4, c5⟩ := Tr.cellsOf6 hk2
  have HN1 := Lib.hid (show ∀ j u, ([.int .i64 k0] : List Value)[j]? = some u → w1.cell? ((⟨b, off, none⟩ : Addr).add j) = some u from fun j u hu => by
    rw [Tr.add_at]
    match j, hu with
    | 0, hu => cases hu; exact hd0
    | j + 1, hu => simp at hu)
  go_wp2_with (at_builtin; refine wpList_append_own _ rfl _ _ 51 rfl w1.heap.size 3 i0 (.int .i64 0) 1 8 Tryz.underlying51 hi0 hz0 hz1 hz2 rfl (by decide) (.slice none 0 0) 0 [] rfl (World.ownsRow_nil _ _ _ _) ⟨b, off, none⟩ 1 cap [.int .i64 k0] rfl rfl HN1.out (by simp [Value.oneCell']) (by decide) (by decide) (Nat.le_refl _) ?_)
  intro v2 w2 hown2 hgrow2 hnil2
  have HBg := Lib.hid ((Below.refl w1.heap.size w1).grown hgrow2 (Nat.le_refl _) (fun k hk => by cases hk))
  obtain ⟨A2, c2', rfl⟩ := row_form hown2
  have HO2 := Lib.hid hown2
  clear hown2 hgrow2 hnil2
  have hb2s := HBg.out.size
  go_wp2_with (at_builtin; refine wpList_append_own _ rfl _ _ 51 rfl w1.heap.size 3 i0 (.int .i64 0) 1 8 Tryz.underlying51 hi0 hz0 hz1 hz2 rfl (by decide) (.slice A2 (0 + 1) c2') (0 + 1) [.int .i64 k0] rfl (HO2.out.alloc _) ⟨w2.heap.size, 0, none⟩ 3 3 [.int .i64 (-1), .int .i64 (-1), .int .i64 (-1)] rfl rfl ?q1 ?q2 ?q3 ?q4 ?q5 ?_)
  case q1 => first | exact fun j u h => h | exact World.news_of_block (Tr.last _ _)
  case q2 => simp [Value.oneCell']
  case q3 => decide
  case q4 => decide
  case q5 => first | omega | (simp; omega)
  intro v3 w3 hown3 hgrow3 hnil3
  have hb3 : Below w1.heap.size w1 w3 := (HBg.out.alloc hb2s _).grown hgrow3 (by simp; omega) (fun k hk => (row_lt HO2.out hk).1)
  obtain ⟨g, cap3, rfl, hgB, hgl⟩ := hown3.form (by decide)
  have e0 : w3.cell? ⟨g, 0, none⟩ = some (.int .i64 k0) := hown3.cellAt 0 (by decide)
  have HB3 := Lib.hid (HB.out.trans (hb3.mono HB.out.size))
  have HT3 := Lib.hid (HT.out.below hb3)
  have HTA3 := Lib.hid (HTA.out.under hb3)
  have c6 := (hb3.cell (p := ⟨W.heap.size, 0, none⟩) (Tr.cell_lt c6)).trans c6
  have c0 := (hb3.cell (p := ⟨W.heap.size + 1, 0, none⟩) (Tr.cell_lt c0)).trans c0
  have c3 := (hb3.cell (p := ⟨W.heap.size + 1, 3, none⟩) (Tr.cell_lt c3)).trans c3
  have c5 := (hb3.cell (p := ⟨W.heap.size + 1, 5, none⟩) (Tr.cell_lt c5)).trans c5
  have HCL := Lib.hid (show ∀ W', Below w3.heap.size w3 W' → W'.cell? ⟨W.heap.size, 0, none⟩ = some (.pointer (some ⟨t, 0, none⟩)) ∧ W'.cell? ⟨W.heap.size + 1, 0, none⟩ = some (.string op) ∧ W'.cell? ⟨W.heap.size + 1, 3, none⟩ = some (.string name) ∧ W'.cell? ⟨g, 0, none⟩ = some (.int .i64 k0) from fun W' hb => ⟨(hb.cell (p := ⟨W.heap.size, 0, none⟩) (Tr.cell_lt c6)).trans c6, (hb.cell (p := ⟨W.heap.size + 1, 0, none⟩) (Tr.cell_lt c0)).trans c0, (hb.cell (p := ⟨W.heap.size + 1, 3, none⟩) (Tr.cell_lt c3)).trans c3, (hb.cell (p := ⟨g, 0, none⟩) (Tr.cell_lt e0)).trans e0⟩)
  clear hown3 hgrow3 hnil3 hb3 hk1 hk2 c5 hd0
  have z1 : ¬ 9223372036854775807 < 8 + name.size := by omega
  have z2 : ¬ 9223372036854775807 < 8 + name.size + 2 := by omega
  have z3 : ¬ 9223372036854775807 < 8 + name.size + 2 + s0.size := by omega
  have z4 : ¬ 9223372036854775807 < 8 + name.size + 2 + s0.size + 1 := by omega
  have y0 : (0 : Int) < ((0 + 1 + 3 : Nat) : Int) := by decide
  have y0' : (0 : Int) < (4 : Int) := by decide
  go_wp2_with fail
  have hbw1 : Below w3.heap.size w3 w3.drew := (Below.refl _ w3).drew
  clear c6 c0 c3 e0
  obtain ⟨c6, c0, c3, e0⟩ := HCL.out _ hbw1
  go_region_held3 (fun W' => W'.cell? ⟨W.heap.size, 0, none⟩ = some (.pointer (some ⟨t, 0, none⟩)) ∧ W'.cell? ⟨W.heap.size + 1, 0, none⟩ = some (.string op) ∧ W'.cell? ⟨W.heap.size + 1, 3, none⟩ = some (.string name) ∧ W'.cell? ⟨g, 0, none⟩ = some (.int .i64 k0)) (first | exact HCL.out _ (by with_reducible assumption))
    (first
      | (go_at_call_of 33 (Value.int IntKind.i64 k0); refine (HK0.out _ (HT3.out.below (by with_reducible assumption)) (HTA3.out.under (by with_reducible assumption))).mono ?_; rintro e v0 ⟨rfl, hbn⟩; have hbv0 := chain (by with_reducible assumption) hbn; clear hbn; obtain ⟨c6, c0, c3, e0⟩ := HCL.out _ hbv0))
  all_goals
    have hfin := HB3.out.trans (hbv0.mono HB3.out.size)
    go_wp2_with fail
    go_ret
    exact ⟨by rw [← HR.out]; rfl, hfin⟩
end Go.Proofs.YtmeacgmjpjjphaaGreatDoor
