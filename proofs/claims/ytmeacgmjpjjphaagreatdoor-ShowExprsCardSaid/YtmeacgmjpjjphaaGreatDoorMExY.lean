/- A new reader; a text's expression: what Parse tells. -/
import Derived.Test.YtmeacgmjpjjphaaGreatDoorMExF
import Derived.Test.YtmeacgmjpjjphaaGreatDoorMErr2
import Derived.Recover
import Derived.Stop.Asserts
import Derived.Test.YtmeacgmjpjjphaaGreatDoorMExR
set_option linter.unusedVariables false
set_option linter.unusedSimpArgs false
namespace Go.Proofs.YtmeacgmjpjjphaaGreatDoor
open Go.RowKit Go.Shelf
open Tr (Nd TreeAt Own Ints)

set_option maxRecDepth 100000 in
set_option maxHeartbeats 1000000 in
theorem ended_idle (p : Addr) (w : World) : CallsD Tryz.prog 25 #[.pointer (some p)] .returning w fun e u' w' => e = .returned (.tuple #[]) ∧ u' = .returning ∧ w' = w := by
  refine callsD_of_wpS Tryz.func25 rfl fun c₀ cs hu => ?_
  apply wpS_seq
  apply wpS_region
  simp [wpOpsS, go_sem, recoverD, hu, Tryz.ntmps25, Exit.thenS]
  apply wpS_seq
  apply wpS_seq
  apply wpS_region
  simp [wpOpsS, go_sem, Exit.thenS]
  refine wpS_cond (t := true) (by simp [Act.eval]) ?_
  simp only [if_true]
  refine wpS_of_wp (wp_ret ?_)
  simp only [Exit.thenS]
  cases c₀
  simp at hu
  subst hu
  simp [bodyPostS, results, Tryz.results25]
end Go.Proofs.YtmeacgmjpjjphaaGreatDoor
namespace Go.Proofs.YtmeacgmjpjjphaaGreatDoor
open Go.RowKit Go.Shelf
open Tr (Nd TreeAt Own Ints)

theorem diag_err (v : Value) (xT : TypeId) (w : World) : (Instr.typeAssert (.iface 41 v) xT 25 true).run Tryz.prog w = .ok (.tuple #[.iface 41 v, .bool true]) w := run_typeAssert_hasB Tryz.underlying25 (by kernel_rfl) v xT w
set_option maxRecDepth 100000 in
set_option maxHeartbeats 1000000 in
theorem ended_hit (p : Addr) (x : Value) (c l k : Int) (w : World) (hg : w.cell? ⟨0, 0, none⟩ = some (.iface 149 (.agg #[.pointer (some ⟨9, 25, none⟩)]))) (hp : w.cell? p = some x) (hz : w.frozen? p = false) :
    CallsD Tryz.prog 25 #[.pointer (some p)] (.panicking (panicV c l k)) w fun e u' w' => e = .returned (.tuple #[]) ∧ u' = .panicking [{ v := .iface 41 (.agg #[.int .i64 c, .int .i64 l, .int .i64 k, .string ⟨#[]⟩]), recovered := true }] ∧ ∃ w1, Below w.heap.size w w1 ∧ w' = w1.setCell p (.iface 41 (.agg #[.int .i64 c, .int .i64 l, .int .i64 k, .string ⟨#[]⟩])) := by
  refine callsD_of_wpS Tryz.func25 rfl fun c₀ cs hu => ?_
  unfold panicV at hu
  apply wpS_seq
  apply wpS_region
  simp [wpOpsS, go_sem, recoverD, hu, Tryz.ntmps25, Exit.thenS]
  apply wpS_seq
  apply wpS_seq
  apply wpS_region
  simp [wpOpsS, go_sem, Exit.thenS]
  refine wpS_cond (t := false) (by simp [Act.eval]) ?_
  simp only [Bool.false_eq_true, if_false]
  refine wpS_of_wp (wp_skip ?_)
  simp only [Exit.thenS]
  refine wpS_of_wp ?_
  have hA := diag_err (.agg #[.int .i64 c, .int .i64 l, .int .i64 k, .string ⟨#[]⟩])
  have HW := Lib.hid (as_hit c l k ⟨#[]⟩ (.int .i64 0) (.int .i64 0) (.int .i64 0) (.string ⟨#[]⟩) w.heap.size (w.alloc (.cells #[.int .i64 0, .int .i64 0, .int .i64 0, .string ⟨#[]⟩] 41)) (Tr.cell_alloc hg _) (Tr.last w _))
  have hpl := Tr.cell_lt hp
  have HP := Lib.hid hp
  have HZ := Lib.hid hz
  have HU := Lib.hid hu
  clear hg hp hz hu
  simp only [List.size_toArray, List.length_cons, List.length_nil, Nat.reduceAdd, Nat.reduceSub, Array.replicate_succ, Array.replicate_zero, List.push_toArray, List.append_toArray, List.nil_append, List.cons_append]
  go_wp2_with fail
  refine HW.out.mono ?_
  rintro ev w' ⟨rfl, hd, ht⟩
  obtain ⟨d0, d1, d2, d3⟩ := cells4 hd
  have hb := ht.block p.block (by simp; omega) (by omega)
  rw [Below.heap_alloc _ _ _ hpl] at hb
  have hp' : w'.cell? p = some x := (World.cell?_of_block hb).trans HP.out
  have hz' : w'.frozen? p = false := by
    have := HZ.out
    simp only [World.frozen?, hb] at this ⊢
    exact this
  have HT := Lib.hid ht
  clear ht hd hb
  go_wp2_with fail
  have hu := HU.out
  cases c₀
  simp at hu
  subst hu
  simp [bodyPostS, results, Tryz.results25]
  refine ⟨w', ?_, rfl⟩
  have h1 := HT.out.below (B := w.heap.size) (Nat.le_refl _) (by simp)
  exact ((Below.refl w.heap.size w).alloc (Nat.le_refl _) _).trans h1
end Go.Proofs.YtmeacgmjpjjphaaGreatDoor
namespace Go.Proofs.YtmeacgmjpjjphaaGreatDoor
open Go.RowKit Go.Shelf
open Tr (Nd TreeAt Own Ints)

def dfrE (w : World) : Deferred := { target := .fn (.func 25) #[], args := #[.pointer (some ⟨w.heap.size, 0, none⟩)] }
/-- How a call of the reader's Expr ends. -/
def PostE (B b t : Nat) (tv : Value) (ts : List Tok) (v : Value) (ms : List (Nd × Value)) (w : World) (o : Out Int) (e : Ending) (w' : World) : Prop := match o with
  | .bad c l k => e = .returned (.tuple #[.int .i64 0, diagV c l k]) ∧ Bad b t tv v w w'
  | .ok i l' m' => e = .returned (.tuple #[.int .i64 i, .nilIface]) ∧ ∃ v' ms', ms'.map (·.1) = m' ∧ RdrAt B b t tv ts l' 0 v' ms' w' ∧ Mw b t v ms w v' ms' w'
/-- How its body is left. -/
def PostX (w : World) (B b t : Nat) (tv : Value) (ts : List Tok) (v : Value) (ms : List (Nd × Value)) (R : Out Int) : Exit → Act → World → Prop
  | .panic ch, a, W => a.defers = [dfrE w] ∧ a.tmps.getD 2 undef = .int .i64 0 ∧ a.tmps.getD 3 undef = .pointer (some ⟨w.heap.size, 0, none⟩) ∧ PostG intV B b t tv ts 0 v ms (w.alloc (.cells #[.nilIface] 25)) R (.panicked ch) W
  | .ret, a, W => a.defers = [dfrE w] ∧ ∃ i W0, a.tmps.getD 2 undef = .int .i64 i ∧ a.tmps.getD 3 undef = .pointer (some ⟨w.heap.size, 0, none⟩) ∧ W = W0.setCell ⟨w.heap.size, 0, none⟩ .nilIface ∧ PostG intV B b t tv ts 0 v ms (w.alloc (.cells #[.nilIface] 25)) R (.returned (.int .i64 i)) W0
  | _, _, _ => False

theorem set_same {W : World} {h : Nat} {t : TypeId} {x : Value} (hk : W.heap[h]? = some (.cells #[x] t)) : W.setCell ⟨h, 0, none⟩ x = W := by
  have e : (W.setCell ⟨h, 0, none⟩ x).heap = W.heap := by
    apply Array.ext_getElem?
    intro i
    by_cases hi : i = h
    · rw [hi, setc hk 0 x, hk]
      rfl
    · exact Below.heap_setCell _ _ _ _ hi
  have e2 : W.setCell ⟨h, 0, none⟩ x = { W with heap := (W.setCell ⟨h, 0, none⟩ x).heap } := rfl
  rw [e2, e]
theorem res_E (tmps : Array Value) {q : Addr} {x : Value} {W : World} (h3 : tmps.getD 3 undef = .pointer (some q)) (hc : W.cell? q = some x) : (results Tryz.f8 tmps).run Tryz.prog W = .ok (.tuple #[tmps.getD 2 undef, x]) W := by
  have h3' : tmps[3]?.getD undef = .pointer (some q) := by simpa using h3
  simp [results, Tryz.results8, h3', hc, go_sem]
set_option maxRecDepth 100000 in
set_option maxHeartbeats 4000000 in
theorem Expr_gen {p : Ps Int} (hall : FnC 26 0 p) {B b t : Nat} {tv : Value} {ts l : List Tok} {v : Value} {ms : List (Nd × Value)} {w : World} (h : RdrAt B b t tv ts l 0 v ms w) (hB : 0 < B) (hg : w.cell? ⟨0, 0, none⟩ = some (.iface 149 (.agg #[.pointer (some ⟨9, 25, none⟩)]))) :
    Calls Tryz.prog 8 #[.pointer (some ⟨b, 0, none⟩)] w fun e w' => PostE B b t tv ts v ms w (p l (ms.map (·.1))) e w' := by
  generalize hR : p l (ms.map (·.1)) = R
  have hc := hall B b t tv ts l v ms (w.alloc (.cells #[.nilIface] 25)) (h.under ((Below.refl _ w).alloc (Nat.le_refl _) _))
  rw [hR] at hc
  have h1 := h.under ((Below.refl _ w).alloc (Nat.le_refl _) (.cells #[.nilIface] 25))
  refine calls_of_wp_defers Tryz.func8 rfl (Code.wp_mono ?_ (show Code.wp Tryz.prog _ (PostX w B b t tv ts v ms R) _ w from ?_))
  · have hblk : ∀ {e : Ending} {W : World}, PostG intV B b t tv ts 0 v ms (w.alloc (.cells #[.nilIface] 25)) R e W → W.heap[w.heap.size]? = some (.cells #[.nilIface] 25) ∧ Below w.heap.size w (w.alloc (.cells #[.nilIface] 25)) := fun hq => ⟨hq.keep h1 (Tr.last w _) (by decide) (by decide) (by decide), (Below.refl _ w).alloc (Nat.le_refl _) _⟩
    intro e a W hp
    cases e with
    | panic ch =>
      obtain ⟨hd, h2, h3, hp⟩ := hp
      obtain ⟨hk, hbl⟩ := hblk hp
      show Leaves Tryz.prog Tryz.f8 a.tmps _ a.defers (.panicking ch) W
      rw [hd]
      cases R with
      | ok i l' m' => exact absurd hp.1 (by simp)
      | bad c ln cl =>
        obtain ⟨hch, hbd⟩ := hp
        injection hch with hch
        subst hch
        have hgW : W.cell? ⟨0, 0, none⟩ = some (.iface 149 (.agg #[.pointer (some ⟨9, 25, none⟩)])) := by
          refine (World.cell?_of_block ?_).trans hg
          obtain ⟨v', n, d', hbl', hm⟩ := hbd
          refine (hm.block _ ?_ ?_ ?_ ?_).trans (Below.heap_alloc _ _ _ (Tr.cell_lt hg))
          · exact Nat.lt_of_lt_of_le (Tr.cell_lt hg) (by simp)
          · have := h.base
            show 0 ≠ b
            omega
          · have := h.tree.base
            show 0 ≠ t
            omega
          · intro hv
            have := (row_lt h.tree.rows hv).1
            simp only at this
            omega
        refine leaves_cons (f := 25) (args := #[.pointer (some ⟨w.heap.size, 0, none⟩)]) (by simp) (enters_of Tryz.func25 (by kernel_rfl) rfl _ _) ((ended_hit ⟨w.heap.size, 0, none⟩ .nilIface c ln cl W hgW (Tr.cellOf1 hk) (frozenOf hk 0)).mono ?_)
        rintro e' u' W' ⟨rfl, rfl, w1, hb1, rfl⟩
        have hw1 : w1.heap[w.heap.size]? = some (.cells #[.nilIface] 25) := (hb1.block _ (Tr.heap_lt hk)).trans hk
        obtain ⟨v', n, d', hbl', hm⟩ := hbd
        refine ⟨_, res_E a.tmps h3 (Tr.cellOf1 (setc hw1 0 (diagV c ln cl))), ?_⟩
        rw [h2]
        refine ⟨rfl, v', n, d', ?_, ?_⟩
        · exact (Below.heap_setCell _ _ _ _ (by have := h.lt; simp; omega)).trans ((hb1.block _ (Tr.heap_lt hbl')).trans hbl')
        · exact ((((Mv.of (v := v) hbl).trans hm).then hb1).setNew (Nat.le_refl _) 0 _)
    | ret =>
      obtain ⟨hd, i, W0, h2, h3, rfl, hp⟩ := hp
      obtain ⟨hk, hbl⟩ := hblk hp
      show Leaves Tryz.prog Tryz.f8 a.tmps _ a.defers .returning _
      rw [hd]
      cases R with
      | bad c ln cl => exact absurd hp.1 (by simp)
      | ok j l' m' =>
        obtain ⟨hj, v', ms', hms, hr, hm⟩ := hp
        refine leaves_cons (f := 25) (args := #[.pointer (some ⟨w.heap.size, 0, none⟩)]) (by simp) (enters_of Tryz.func25 (by kernel_rfl) rfl _ _) ((ended_idle ⟨w.heap.size, 0, none⟩ _).mono ?_)
        rintro e' u' W' ⟨rfl, rfl, rfl⟩
        rw [set_same hk]
        refine ⟨_, res_E a.tmps h3 (Tr.cellOf1 hk), ?_⟩
        rw [h2]
        injection hj with hj
        rw [hj]
        exact ⟨rfl, v', ms', hms, hr, (Mw.of (v := v) hbl).trans hm⟩
    | normal => exact hp.elim
    | exit id => exact hp.elim
    | goto l => exact hp.elim
    | outgrown => exact hp.elim
  · have HC := Lib.hid hc
    have HK := Lib.hid h1
    clear hc hR h hall hg h1
    show Code.wp _ _ _ { tmps := #[.pointer (some ⟨b, 0, none⟩)] ++ Array.replicate 9 undef, defers := [] } _
    simp only [List.size_toArray, List.length_cons, List.length_nil, Nat.reduceAdd, Nat.reduceSub, Array.replicate_succ, Array.replicate_zero, List.push_toArray, List.append_toArray, List.nil_append, List.cons_append]
    go_wp2_with fail
    refine HC.out.mono ?_
    intro e w3 hp
    cases R with
    | bad c ln cl =>
      obtain ⟨rfl, hbd⟩ := hp
      exact ⟨rfl, rfl, rfl, rfl, hbd⟩
    | ok i l' m' =>
      have hk := PostG.keep hp HK.out (Tr.last w _) (by decide) (by decide) (by decide)
      obtain ⟨rfl, hp⟩ := hp
      have hk1 := Tr.cellOf1 hk
      have hk2 := frozenOf hk 0
      have HX := Lib.hid hp
      clear hp hk
      unfold intV
      go_wp2_with fail
      exact ⟨rfl, i, w3, rfl, rfl, rfl, rfl, HX.out⟩
end Go.Proofs.YtmeacgmjpjjphaaGreatDoor
namespace Go.Proofs.YtmeacgmjpjjphaaGreatDoor
open Tr (Nd)
open Tr.TreP (WF fits places nd inT)

theorem numV_go : ∀ (l : List UInt8) (a : Nat), (∀ c ∈ l, digB c = true) → l.foldl (fun a c => a * 10 + (c.toNat - 48)) a < (a + 1) * 10 ^ l.length
  | [], a, _ => by simp
  | c :: l, a, h => by
    have ih := numV_go l (a * 10 + (c.toNat - 48)) fun x hx => h x (List.mem_cons_of_mem _ hx)
    have hc := h c (by simp)
    simp [digB] at hc
    rw [List.foldl_cons, List.length_cons, Nat.pow_succ']
    refine Nat.lt_of_lt_of_le ih ?_
    rw [← Nat.mul_assoc]
    exact Nat.mul_le_mul_right _ (by omega)
theorem cnt_digs (s : ByteArray) : (fore s (cntB digB s)).data.toList = s.data.toList.takeWhile digB := by
  have h := List.takeWhile_prefix digB (l := s.data.toList)
  have e := List.prefix_iff_eq_take.1 h
  conv => rhs; rw [e]
  simp [fore, ByteArray.data_extract, cntB]
theorem fore_le (s : ByteArray) (n : Nat) : (fore s n).size ≤ s.size := by
  simp [fore, ByteArray.size_extract]
  omega
theorem read_ok {s : ByteArray} {k : Int} {n : Nat} {v : Int} (h : readB s = .tok k n v) : 0 ≤ v ∧ v < 1000000000000000000 := by
  unfold readB at h
  split at h
  · split at h
    · cases h
    · cases h; decide
  · split at h
    · split at h
      · cases h
      · cases h
        have h1 := cnt_digs s
        have hd : ∀ c ∈ (fore s (cntB digB s)).data.toList, digB c = true := by
          rw [h1]
          intro c hc
          exact List.all_eq_true.1 (List.all_takeWhile (p := digB) (l := s.data.toList)) c hc
        have h2 := numV_go (fore s (cntB digB s)).data.toList 0 hd
        have h3 : (fore s (cntB digB s)).data.toList.length ≤ 18 := by
          rw [h1]
          show cntB digB s ≤ 18
          omega
        have h4 : 10 ^ (fore s (cntB digB s)).data.toList.length ≤ 10 ^ 18 := Nat.pow_le_pow_right (by decide) h3
        unfold numV
        omega
    · split at h
      · cases h
      · cases h; decide
theorem toks_ok : ∀ (N : Nat) (s : ByteArray) (a b : Int) (ts : List Tok), toksB N s a b = .good ts → s.size ≤ 65536 → Ends ts ∧ (∀ t ∈ ts, TkOk t) ∧ ts.length ≤ N
  | 0, s, a, b, ts, h, _ => by cases h
  | N + 1, s, a, b, ts, h, hs => by
    unfold toksB at h
    have hsz : (blanksB s.size s a b).1.size ≤ s.size := blk_size _ _ _ _
    split at h
    rename_i t l' c' hb
    rw [hb] at hsz
    simp only at hsz
    split at h
    · cases h
      exact ⟨rfl, fun t ht => by rw [List.mem_singleton.1 ht]; exact ⟨Nat.zero_le _, Int.le_refl _, show (0 : Int) < 1000000000000000000 by decide⟩, by simp⟩
    · split at h
      · cases h
      · rename_i k n v hr
        split at h
        · cases h
        · rename_i r hr2
          cases h
          obtain ⟨i1, i2, i3⟩ := toks_ok N _ _ _ r hr2 (by rw [aft_size]; omega)
          refine ⟨?_, ?_, by simp; omega⟩
          · obtain ⟨x, q, rfl⟩ := i1.cons
            exact i1
          · intro x hx
            rcases List.mem_cons.1 hx with rfl | hx
            · have := read_ok hr
              exact ⟨Nat.le_trans (fore_le _ _) (by omega), this.1, this.2⟩
            · exact i2 x hx
where blk_size : ∀ (N : Nat) (s : ByteArray) (l c : Int), (blanksB N s l c).1.size ≤ s.size
  | 0, s, l, c => Nat.le_refl _
  | N + 1, s, l, c => by
    unfold blanksB
    split
    · exact Nat.le_refl _
    · split
      · exact Nat.le_trans (blk_size N _ _ _) (by rw [aft_size]; omega)
      · split
        · exact Nat.le_trans (blk_size N _ _ _) (by rw [aft_size]; omega)
        · split
          · exact Nat.le_trans (blk_size N _ _ _) (by rw [aft_size]; omega)
          · exact Nat.le_refl _
theorem toks_pre {s : ByteArray} {ts : List Tok} (h : tokensB s = .good ts) : Pre ts [] := by
  unfold tokensB at h
  split at h
  · cases h
  · split at h
    · cases h
    · obtain ⟨h1, h2, h3⟩ := toks_ok _ _ _ _ _ h (by omega)
      exact ⟨h1, fun k hk => by simp at hk, by simp, fun x hx => by simp at hx, h2, by omega, fun k hk => by simp at hk⟩
end Go.Proofs.YtmeacgmjpjjphaaGreatDoor
namespace Go.Proofs.YtmeacgmjpjjphaaGreatDoor
open Go.RowKit Go.Shelf
open Tr (Nd TreeAt Own Ints)

def PostN (w : World) (o : Lexed) (e : Ending) (w' : World) : Prop := match o with
  | .bad c l k => e = .returned (.tuple #[.pointer none, diagV c l k]) ∧ Below w.heap.size w w'
  | .good ts => ∃ b t tv, e = .returned (.tuple #[.pointer (some ⟨b, 0, none⟩), .nilIface]) ∧ RdrAt w.heap.size b t tv ts ts 0 (.slice none 0 0) [] w' ∧ Below w.heap.size w w'
theorem tree_none {w : World} {B t : Nat} (hB : B ≤ t) (h : w.heap[t]? = some (.cells #[.slice none 0 0] 88)) : TreeAt w B t (.slice none 0 0) [] :=
  ⟨hB, h, ⟨rfl, .inl ⟨rfl, rfl⟩⟩, fun p hp => absurd hp (by simp)⟩
set_option maxRecDepth 100000 in
set_option maxHeartbeats 4000000 in
theorem New_in (s : ByteArray) (w : World) (henv : Env w) (hmax : s.size ≤ 140737488355328) : Calls Tryz.prog 22 #[.string s] w fun e w' => PostN w (tokensB s) e w' := by
  have hc := Tokens_in s w henv hmax
  have HP := Lib.hid (fun ts => toks_pre (s := s) (ts := ts))
  generalize tokensB s = R at *
  clear henv
  have HC := Lib.hid hc
  clear hc
  go_enter Tryz.func22, Tryz.ntmps22
  go_wp2_with fail
  refine HC.out.mono ?_
  intro e w1 hp
  cases R with
  | bad c l k =>
    obtain ⟨rfl, hb⟩ := hp
    have HB := Lib.hid hb
    clear hb
    unfold diagV
    go_wp2_with fail
    exact bodyPost_ret (v := .tuple #[.pointer none, diagV c l k]) (by simp [results, Tryz.results22, go_sem]; rfl) rfl ⟨rfl, HB.out⟩
  | good ts =>
    obtain ⟨⟨rv, rfl, hown⟩, hb⟩ := hp
    have HO := Lib.hid hown
    have HB := Lib.hid hb
    clear hown hb
    obtain ⟨A, cap, rfl⟩ := row_form HO.out
    go_wp2_with fail
    refine bodyPost_ret (v := .tuple #[.pointer (some ⟨w1.heap.size + 1, 0, none⟩), .nilIface]) (by simp [results, Tryz.results22, go_sem]) rfl ?_
    have hsz := HB.out.size
    have hb2 : Below w.heap.size w ((w1.alloc (.cells #[.slice none 0 0] 88)).alloc (.cells #[.pointer (some ⟨w1.heap.size, 0, none⟩), .slice A ts.length cap, .int .i64 0, .int .i64 0] 69)) := (HB.out.alloc (by omega) _).alloc (by simp; omega) _
    have hpre := HP.out ts rfl
    refine ⟨w1.heap.size + 1, w1.heap.size, .slice A ts.length cap, rfl, ⟨by omega, ⟨0, by simp, ?_⟩, List.suffix_refl _, ?_, ?_, hpre, hpre.few⟩, hb2⟩
    · have := Tr.last (w1.alloc (.cells #[.slice none 0 0] 88)) (.cells #[.pointer (some ⟨w1.heap.size, 0, none⟩), .slice A ts.length cap, .int .i64 0, .int .i64 0] 69)
      simpa using this
    · exact (World.ownsRow.alloc (World.ownsRow.alloc HO.out _) _)
    · refine tree_none (by omega) ?_
      rw [Below.heap_alloc _ _ _ (by simp)]
      exact Tr.last _ _
/-- How Parse ends. -/
def PostP (w : World) (o : Out Int) (e : Ending) (w' : World) : Prop := match o with
  | .bad c l k => e = .returned (.tuple #[.pointer none, .int .i64 0, diagV c l k]) ∧ Below w.heap.size w w'
  | .ok i l m => ∃ t v ms, e = .returned (.tuple #[.pointer (some ⟨t, 0, none⟩), .int .i64 i, .nilIface]) ∧ ms.map (·.1) = m ∧ TreeAt w' w.heap.size t v ms ∧ Pre l m ∧ Below w.heap.size w w'
set_option maxRecDepth 100000 in
set_option maxHeartbeats 4000000 in
theorem Parse_gen (hall : FnC 26 0 (allT (itemP 64))) (s : ByteArray) (w : World) (henv : Env w) (hmax : s.size ≤ 140737488355328) (hg : w.cell? ⟨0, 0, none⟩ = some (.iface 149 (.agg #[.pointer (some ⟨9, 25, none⟩)]))) :
    Calls Tryz.prog 7 #[.string s] w fun e w' => PostP w (parseP s) e w' := by
  have HN := Lib.hid (New_in s w henv hmax)
  have HG := Lib.hid hg
  have HAL := Lib.hid hall
  have hpre : ∀ ts, tokensB s = .good ts → Ok' (Fit ts []) (allT (itemP 64) ts []) := fun ts h => allT_ok (itemP_ok 64) ts [] (toks_pre h)
  have HPR := Lib.hid hpre
  clear henv hg hall hpre
  unfold parseP
  generalize hT : tokensB s = R at *
  go_enter Tryz.func7, Tryz.ntmps7
  go_wp2_with fail
  refine HN.out.mono ?_
  intro e w1 hp
  cases R with
  | bad c l k =>
    obtain ⟨rfl, hb⟩ := hp
    have HB := Lib.hid hb
    clear hb
    unfold diagV
    go_wp2_with fail
    exact bodyPost_ret (v := .tuple #[.pointer none, .int .i64 0, diagV c l k]) (by simp [results, Tryz.results7, go_sem]; rfl) rfl ⟨rfl, HB.out⟩
  | good ts =>
    obtain ⟨b, t, tv, rfl, hr, hb⟩ := hp
    have hx := Expr_gen HAL.out hr (Tr.cell_lt HG.out) ((hb.cell (p := ⟨0, 0, none⟩) (Tr.cell_lt HG.out)).trans HG.out)
    have hok := HPR.out ts rfl
    have HB := Lib.hid hb
    have HR := Lib.hid hr
    clear hb hr
    simp only [List.map_nil] at hx
    have HE := Lib.hid (show exprP ts [] = (allT (itemP 64) ts []).bind fun i l m => if (hdT l).kind = 0 then .ok i l m else .bad 5 (hdT l).line (hdT l).col from rfl)
    generalize allT (itemP 64) ts [] = X at *
    have HX := Lib.hid hx
    have HO := Lib.hid hok
    clear hx hok
    go_wp2_with fail
    refine HX.out.mono ?_
    intro e w2 hp
    have hvb : ∀ g, (Value.slice none 0 0).ownBlock = some g → w.heap.size ≤ g := fun g hg => by cases hg
    cases X with
    | bad c l k =>
      obtain ⟨rfl, v', n, d', hbl, hm⟩ := hp
      have HB2 := Lib.hid (HB.out.trans (hm.below HR.out.base HR.out.tree.base hvb HB.out.size))
      clear hbl hm
      unfold diagV
      go_wp2_with fail
      exact bodyPost_ret (v := .tuple #[.pointer none, .int .i64 0, diagV c l k]) (by simp [results, Tryz.results7, go_sem]; rfl) rfl (show PostP w (exprP ts []) _ _ by rw [HE.out]; exact ⟨rfl, HB2.out⟩)
    | ok i l' m' =>
      obtain ⟨rfl, v', ms', hms, hr2, hm⟩ := hp
      have HM := Lib.hid hms
      have HR2 := Lib.hid hr2
      have HB2 := Lib.hid (HB.out.trans (hm.toMv.below HR.out.base HR.out.tree.base hvb HB.out.size))
      clear hms hr2 hm
      have HN2 := Lib.hid (Next_in HR2.out)
      unfold tokV at HN2
      go_wp2_with fail
      refine HN2.out.mono ?_
      rintro e w3 ⟨rfl, hb3⟩
      have hfk := field_kind (hdT l').kind (hdT l').num (hdT l').line (hdT l').col (hdT l').text
      have HB3 := Lib.hid (HB2.out.trans (hb3.mono HB2.out.size))
      have HR3 := Lib.hid (HR2.out.under hb3)
      clear hb3
      by_cases hk : (hdT l').kind = 0
      · have HE2 := Lib.hid (show exprP ts [] = .ok i l' m' by rw [HE.out]; show (if (hdT l').kind = 0 then _ else _) = _; rw [if_pos hk])
        rw [hk] at hfk ⊢
        obtain ⟨n, hn, hbl⟩ := HR3.out.obj
        obtain ⟨r0, -, -, -⟩ := cells4 hbl
        have HBL := Lib.hid hbl
        clear hbl hn
        go_wp2_with fail
        exact bodyPost_ret (v := .tuple #[.pointer (some ⟨t, 0, none⟩), .int .i64 i, .nilIface]) (by simp [results, Tryz.results7, go_sem]) rfl (show PostP w (exprP ts []) _ _ by rw [HE2.out]; exact ⟨t, v', ms', rfl, HM.out, HR3.out.tree, HM.out ▸ HR3.out.pre, HB3.out⟩)
      · have HE2 := Lib.hid (show exprP ts [] = .bad 5 (hdT l').line (hdT l').col by rw [HE.out]; show (if (hdT l').kind = 0 then _ else _) = _; rw [if_neg hk])
        have HW := Lib.hid (Wrong_rd HR3.out 5)
        have hk2 : decide ((hdT l').kind = 0) = false := decide_eq_false hk
        go_wp2_with fail
        refine HW.out.mono ?_
        rintro e w4 ⟨rfl, hb4⟩
        have HB4 := Lib.hid (HB3.out.trans (hb4.mono HB3.out.size))
        clear hb4
        unfold diagV
        go_wp2_with fail
        exact bodyPost_ret (v := .tuple #[.pointer none, .int .i64 0, diagV 5 (hdT l').line (hdT l').col]) (by simp [results, Tryz.results7, go_sem]; rfl) rfl (show PostP w (exprP ts []) _ _ by rw [HE2.out]; exact ⟨rfl, HB4.out⟩)
end Go.Proofs.YtmeacgmjpjjphaaGreatDoor
