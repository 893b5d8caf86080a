/- The reader's next token. -/
import Derived.Test.YtinebmfmkgjaaaaGreatDoorLex4
import Derived.Lib.AtoiErrMem
set_option linter.unusedVariables false
set_option linter.unusedSimpArgs false
namespace Go.Proofs.YtinebmfmkgjaaaaGreatDoor
open Go.RowKit

theorem parse_ok : ∀ (l : List UInt8) (a : Nat), (∀ c ∈ l, digB c = true) → (a + 1) * 10 ^ l.length ≤ 10 ^ 18 → Lib.parseUintM (2 ^ 64 - 1) a l = .ok (l.foldl (fun a c => a * 10 + (c.toNat - 48)) a) ∧ l.foldl (fun a c => a * 10 + (c.toNat - 48)) a < 10 ^ 18
  | [], a, _, h => by
    refine ⟨rfl, ?_⟩
    simp at h ⊢
    omega
  | c :: r, a, hd, h => by
    have hc := hd c (by simp)
    unfold digB at hc
    have hc := of_decide_eq_true hc
    have hp : 1 ≤ 10 ^ r.length := Nat.one_le_pow _ _ (by decide)
    have h2 : (a * 10 + (c.toNat - 48) + 1) * 10 ^ r.length ≤ 10 ^ 18 := by
      refine Nat.le_trans ?_ h
      rw [List.length_cons, Nat.pow_succ, Nat.mul_comm (10 ^ r.length) 10, ← Nat.mul_assoc]
      exact Nat.mul_le_mul_right _ (by omega)
    have h3 : a * 10 + (c.toNat - 48) + 1 ≤ 10 ^ 18 := Nat.le_trans (Nat.le_mul_of_pos_right _ hp) h2
    have ih := parse_ok r (a * 10 + (c.toNat - 48)) (fun x hx => hd x (by simp [hx])) h2
    unfold Lib.parseUintM
    rw [if_pos hc, if_neg (by omega), if_neg (by omega)]
    exact ih
theorem parse_num {l : List UInt8} (h0 : l ≠ []) (hd : ∀ c ∈ l, digB c = true) (hl : l.length ≤ 18) : Lib.parseIntB 64 l = .ok (numV l : Int) := by
  have hp := parse_ok l 0 hd (by
    rw [Nat.zero_add, Nat.one_mul]
    exact Nat.pow_le_pow_right (by decide) hl)
  cases l with
  | nil => exact absurd rfl h0
  | cons c r =>
    have hc := hd c (by simp)
    unfold digB at hc
    have hc := of_decide_eq_true hc
    have h43 : ¬ (c.toNat = 43 ∨ c.toNat = 45) := by omega
    have h45 : ¬ c.toNat = 45 := by omega
    have hu : Lib.parseUintB 64 (c :: r) = .ok (numV (c :: r)) := by
      unfold Lib.parseUintB
      rw [if_neg (by simp)]
      exact hp.1
    have hlt : numV (c :: r) < 10 ^ 18 := hp.2
    simp only [Lib.parseIntB]
    rw [if_neg h43, hu]
    simp only
    rw [if_neg (by
      intro h
      have := h.2
      omega), if_neg (by
      intro h
      exact h45 h.1), if_neg h45]
theorem tw_mem {p : UInt8 → Bool} {c : UInt8} : ∀ {l : List UInt8}, c ∈ l.takeWhile p → p c = true
  | [], h => by simp at h
  | a :: l, h => by
    rw [List.takeWhile_cons] at h
    split at h
    · rename_i ha
      rcases List.mem_cons.1 h with e | e
      · subst e
        exact ha
      · exact tw_mem e
    · cases h
theorem takeWhile_mem {p : UInt8 → Bool} {l : List UInt8} {c : UInt8} (h : c ∈ l.take (l.takeWhile p).length) : p c = true := by
  have e : l.take (l.takeWhile p).length = l.takeWhile p := List.prefix_iff_eq_take.1 (List.takeWhile_prefix p) |>.symm
  rw [e] at h
  exact tw_mem h
theorem fore_list (s : ByteArray) (n : Nat) : (fore s n).data.toList = s.data.toList.take n := by
  unfold fore
  simp
theorem cntB_pos {p : UInt8 → Bool} {s : ByteArray} (h : 0 < s.size) (hp : p (hd s) = true) : 1 ≤ cntB p s := by
  unfold cntB hd at *
  have hl : 0 < s.data.toList.length := by simpa using h
  cases hs : s.data.toList with
  | nil =>
    rw [hs] at hl
    simp at hl
  | cons c r =>
    rw [hs] at hp
    simp only [List.getD_cons_zero] at hp
    rw [List.takeWhile_cons, hp]
    simp
theorem markB_le (s : ByteArray) : markB s ≤ s.size := by
  unfold markB
  cases h : marks.find? (fun m => Lib.hasPrefix s.data.toList m.data.toList) with
  | none => simp
  | some m =>
    have hp := List.find?_some h
    simp only [Lib.hasPrefix] at hp
    have hl := (List.isPrefixOf_iff_prefix.1 hp).length_le
    simpa using hl
def tokV (t : Tok) : Value := .agg #[.int .i64 t.kind, .string t.text, .int .i64 t.num, .int .i64 t.line, .int .i64 t.col]
def zeroTok : Tok := ⟨0, ⟨#[]⟩, 0, 0, 0⟩
theorem readB_n {s : ByteArray} (hpos : 0 < s.size) {k : Int} {n : Nat} {v : Int} (h : readB s = .tok k n v) : 1 ≤ n ∧ n ≤ s.size := by
  unfold readB at h
  split at h
  · rename_i hl
    split at h
    · cases h
    · cases h
      exact ⟨cntB_pos hpos (by unfold nameB; rw [hl]; rfl), cntB_le _ _⟩
  · split at h
    · rename_i hdg
      split at h
      · cases h
      · cases h
        exact ⟨cntB_pos hpos hdg, cntB_le _ _⟩
    · split at h
      · cases h
      · cases h
        rename_i hm
        exact ⟨by omega, markB_le _⟩
/-- Where token stands: its result's block, its token's block, the reader's. -/
structure TkAt (w : World) (b : Nat) (s : ByteArray) (l c k v : Int) (x : ByteArray) (wx : World) : Prop where
  below : Below w.heap.size w wx
  rd : Rd wx b s l c
  res : wx.heap[w.heap.size]? = some (.cells #[.int .i64 0, .string ⟨#[]⟩, .int .i64 0, .int .i64 0, .int .i64 0] 63)
  tk : wx.heap[w.heap.size + 1]? = some (.cells #[.int .i64 k, .string x, .int .i64 v, .int .i64 l, .int .i64 c] 63)
theorem TkAt.under {w : World} {b : Nat} {s : ByteArray} {l c k v : Int} {x : ByteArray} {wx wy : World} (h : TkAt w b s l c k v x wx) (hb : Below wx.heap.size wx wy) : TkAt w b s l c k v x wy :=
  ⟨chain h.below hb, h.rd.under hb, (hb.block _ (heap_lt h.res)).trans h.res, (hb.block _ (heap_lt h.tk)).trans h.tk⟩
theorem TkAt.set {w : World} {b : Nat} {s : ByteArray} {l c k v : Int} {x : ByteArray} {wx : World} (h : TkAt w b s l c k v x wx) (hbw : b < w.heap.size) (hgm : 3 < w.heap.size) (i : Nat) (p : Value) {k' v' : Int} {x' : ByteArray}
    (he : (#[.int .i64 k, .string x, .int .i64 v, .int .i64 l, .int .i64 c] : Array Value).setIfInBounds i p = #[.int .i64 k', .string x', .int .i64 v', .int .i64 l, .int .i64 c]) : TkAt w b s l c k' v' x' (wx.setCell ⟨w.heap.size + 1, i, none⟩ p) := by
  have hset : ∀ j, j ≠ w.heap.size + 1 → (wx.setCell ⟨w.heap.size + 1, i, none⟩ p).heap[j]? = wx.heap[j]? := fun j hj => Below.heap_setCell _ _ _ _ hj
  have hmx := h.rd
  refine ⟨h.below.setCell (by simp) _, ?_, (hset _ (by omega)).trans h.res, by rw [← he]; exact setc h.tk i p⟩
  exact ⟨(hset _ (by omega)).trans hmx.at', hmx.max.same (hset _ (by omega)), hmx.ne, hmx.line, hmx.col⟩
/-- How token ends. -/
def TokEnd (w : World) (b : Nat) (s : ByteArray) (l c : Int) (R : Read) (e : Ending) (w' : World) : Prop :=
  match R with
  | .bad x => e = .returned (.tuple #[tokV zeroTok, diagV x l c]) ∧ Rd w' b s l c ∧ Below w.heap.size w w'
  | .tok k n v => e = .returned (.tuple #[tokV ⟨k, fore s n, v, l, c⟩, .nilIface]) ∧ Rd w' b (aft s n) l (c + Lib.runeCount (fore s n)) ∧ Turn b w w'
set_option maxHeartbeats 4000000 in
theorem res_zero {w : World} {b : Nat} {s : ByteArray} {l c k v : Int} {x : ByteArray} {wx : World} (h : TkAt w b s l c k v x wx) (hbw : b < w.heap.size) (hgm : 3 < w.heap.size) :
    (((((wx.setCell ⟨w.heap.size, 0, none⟩ (.int .i64 0)).setCell ⟨w.heap.size, 1, none⟩ (.string ⟨#[]⟩)).setCell ⟨w.heap.size, 2, none⟩ (.int .i64 0)).setCell ⟨w.heap.size, 3, none⟩ (.int .i64 0)).setCell ⟨w.heap.size, 4, none⟩ (.int .i64 0)).heap[w.heap.size]? = some (.cells #[.int .i64 0, .string ⟨#[]⟩, .int .i64 0, .int .i64 0, .int .i64 0] 63) ∧
    Rd (((((wx.setCell ⟨w.heap.size, 0, none⟩ (.int .i64 0)).setCell ⟨w.heap.size, 1, none⟩ (.string ⟨#[]⟩)).setCell ⟨w.heap.size, 2, none⟩ (.int .i64 0)).setCell ⟨w.heap.size, 3, none⟩ (.int .i64 0)).setCell ⟨w.heap.size, 4, none⟩ (.int .i64 0)) b s l c ∧
    Below w.heap.size w (((((wx.setCell ⟨w.heap.size, 0, none⟩ (.int .i64 0)).setCell ⟨w.heap.size, 1, none⟩ (.string ⟨#[]⟩)).setCell ⟨w.heap.size, 2, none⟩ (.int .i64 0)).setCell ⟨w.heap.size, 3, none⟩ (.int .i64 0)).setCell ⟨w.heap.size, 4, none⟩ (.int .i64 0)) := by
  refine ⟨setc (setc (setc (setc (setc h.res 0 _) 1 _) 2 _) 3 _) 4 _, ?_, ((((h.below.setCell (Nat.le_refl _) _).setCell (Nat.le_refl _) _).setCell (Nat.le_refl _) _).setCell (Nat.le_refl _) _).setCell (Nat.le_refl _) _⟩
  have hset : ∀ j, j ≠ w.heap.size → (((((wx.setCell ⟨w.heap.size, 0, none⟩ (.int .i64 0)).setCell ⟨w.heap.size, 1, none⟩ (.string ⟨#[]⟩)).setCell ⟨w.heap.size, 2, none⟩ (.int .i64 0)).setCell ⟨w.heap.size, 3, none⟩ (.int .i64 0)).setCell ⟨w.heap.size, 4, none⟩ (.int .i64 0)).heap[j]? = wx.heap[j]? := fun j hj => by
    rw [Below.heap_setCell _ _ _ _ hj, Below.heap_setCell _ _ _ _ hj, Below.heap_setCell _ _ _ _ hj, Below.heap_setCell _ _ _ _ hj, Below.heap_setCell _ _ _ _ hj]
  exact ⟨(hset _ (by omega)).trans h.rd.at', h.rd.max.same (hset _ (by omega)), h.rd.ne, h.rd.line, h.rd.col⟩
set_option maxHeartbeats 4000000 in
theorem res_set {w wu : World} {b : Nat} {s : ByteArray} {l c : Int} (hr : Rd wu b s l c) (ht : Turn b w wu) (h : wu.heap[w.heap.size]? = some (.cells #[.int .i64 0, .string ⟨#[]⟩, .int .i64 0, .int .i64 0, .int .i64 0] 63)) (hbw : b < w.heap.size) (hgm : 3 < w.heap.size) (v0 v1 v2 v3 v4 : Value) :
    (((((wu.setCell ⟨w.heap.size, 0, none⟩ v0).setCell ⟨w.heap.size, 1, none⟩ v1).setCell ⟨w.heap.size, 2, none⟩ v2).setCell ⟨w.heap.size, 3, none⟩ v3).setCell ⟨w.heap.size, 4, none⟩ v4).heap[w.heap.size]? = some (.cells #[v0, v1, v2, v3, v4] 63) ∧
    Rd (((((wu.setCell ⟨w.heap.size, 0, none⟩ v0).setCell ⟨w.heap.size, 1, none⟩ v1).setCell ⟨w.heap.size, 2, none⟩ v2).setCell ⟨w.heap.size, 3, none⟩ v3).setCell ⟨w.heap.size, 4, none⟩ v4) b s l c ∧
    Turn b w (((((wu.setCell ⟨w.heap.size, 0, none⟩ v0).setCell ⟨w.heap.size, 1, none⟩ v1).setCell ⟨w.heap.size, 2, none⟩ v2).setCell ⟨w.heap.size, 3, none⟩ v3).setCell ⟨w.heap.size, 4, none⟩ v4) := by
  have hset : ∀ j, j ≠ w.heap.size → (((((wu.setCell ⟨w.heap.size, 0, none⟩ v0).setCell ⟨w.heap.size, 1, none⟩ v1).setCell ⟨w.heap.size, 2, none⟩ v2).setCell ⟨w.heap.size, 3, none⟩ v3).setCell ⟨w.heap.size, 4, none⟩ v4).heap[j]? = wu.heap[j]? := fun j hj => by
    rw [Below.heap_setCell _ _ _ _ hj, Below.heap_setCell _ _ _ _ hj, Below.heap_setCell _ _ _ _ hj, Below.heap_setCell _ _ _ _ hj, Below.heap_setCell _ _ _ _ hj]
  refine ⟨setc (setc (setc (setc (setc h 0 _) 1 _) 2 _) 3 _) 4 _, ⟨(hset _ (by omega)).trans hr.at', hr.max.same (hset _ (by omega)), hr.ne, hr.line, hr.col⟩, ⟨ht.os, ht.tape, ht.output, ?_, fun k hk hb => (hset _ (by omega)).trans (ht.block k hk hb)⟩⟩
  have := ht.size
  simpa [World.setCell] using this
set_option maxRecDepth 100000 in
set_option maxHeartbeats 16000000 in
theorem token_in {w : World} {b : Nat} {s : ByteArray} {l c : Int} (h : Rd w b s l c) (hpos : 0 < s.size) :
    Calls Tryz.prog 23 #[.pointer (some ⟨b, 0, none⟩)] w fun e w' => TokEnd w b s l c (readB s) e w' := by
  have hsm := h.small
  have HBW := Lib.hid (show b < w.heap.size ∧ 3 < w.heap.size from ⟨heap_lt h.at', h.max.lt⟩)
  have hb0 := (Below.refl w.heap.size w).alloc (Nat.le_refl _) (.cells #[.int .i64 0, .string ⟨#[]⟩, .int .i64 0, .int .i64 0, .int .i64 0] 63)
  have hb1 := hb0.alloc (by simp) (.cells #[.int .i64 0, .string ⟨#[]⟩, .int .i64 0, .int .i64 l, .int .i64 c] 63)
  have hT : TkAt w b s l c 0 0 ⟨#[]⟩ ((w.alloc (.cells #[.int .i64 0, .string ⟨#[]⟩, .int .i64 0, .int .i64 0, .int .i64 0] 63)).alloc (.cells #[.int .i64 0, .string ⟨#[]⟩, .int .i64 0, .int .i64 l, .int .i64 c] 63)) :=
    ⟨hb1, h.under hb1, (Below.heap_alloc _ _ _ (by simp)).trans (last w _), lastk _ _ (by simp)⟩
  have HT := Lib.hid hT
  obtain ⟨b0, b1, b2⟩ := h.at'.cells
  have hbw := heap_lt h.at'
  clear h hb0 hb1 hT
  have hb0' := hd_eq hpos
  have hcl := letter_in (s[0]'hpos)
  have hcd := digit_in (s[0]'hpos)
  have HDG := Lib.hid hcd
  have HB0 := Lib.hid hb0'
  clear hb0' hcd
  cases hl : letB (s[0]'hpos) with
  | true =>
    simp only [hl] at hcl
    have HL := Lib.hid (show letB (hd s) = true by rw [← HB0.out]; exact hl)
    clear hl
    have HCL := Lib.hid hcl
    clear hcl
    go_enter Tryz.func23, Tryz.ntmps23
    go_wp2_with fail
    generalize (w.alloc (.cells #[.int .i64 0, .string ⟨#[]⟩, .int .i64 0, .int .i64 0, .int .i64 0] 63)).alloc (.cells #[.int .i64 0, .string ⟨#[]⟩, .int .i64 0, .int .i64 l, .int .i64 c] 63) = w2 at *
    refine (HCL.out w2).mono ?_
    rintro e w2' ⟨rfl, rfl⟩
    have hc := count_in (g := 44) nameB nameB_in (fun _ _ => by kernel_rfl) s w2 (by omega)
    clear b0 b1 b2
    obtain ⟨b0, b1, b2⟩ := HT.out.rd.at'.cells
    have tf := frozenOf HT.out.tk
    obtain ⟨t0, t1, t2, t3, t4⟩ := cellsOf5 HT.out.tk
    go_wp2_with fail
    refine hc.mono ?_
    clear hc
    rintro e w2' ⟨rfl, rfl⟩
    have hn := cntB_le nameB s
    obtain ⟨n, hnn⟩ : ∃ z, cntB nameB s = z := ⟨_, rfl⟩
    rw [hnn] at hn
    rw [hnn]
    have HNN := Lib.hid hnn
    clear hnn
    go_upto_region 11 with fail
    have HN := Lib.hid (HT.out.set HBW.out.1 HBW.out.2 0 (.int .i64 1) (k' := 1) (v' := 0) (x' := ⟨#[]⟩) rfl)
    clear b0 b1 b2 tf t0 t1 t2 t3 t4
    clear HT
    generalize w2.setCell ⟨w.heap.size + 1, 0, none⟩ (.int .i64 1) = w3 at *
    have HT := HN
    clear HN
    have hc := Own_in (s.extract 0 n) w3
    obtain ⟨b0, b1, b2⟩ := HT.out.rd.at'.cells
    have tf := frozenOf HT.out.tk
    obtain ⟨t0, t1, t2, t3, t4⟩ := cellsOf5 HT.out.tk
    have hn0 : (n : Int) ≤ (s.size : Int) := by omega
    go_wp2_with fail
    refine hc.mono ?_
    clear hc
    rintro e w4 ⟨rfl, hb4⟩
    have HN := Lib.hid (HT.out.under hb4)
    clear hb4 HT b0 b1 b2 tf t0 t1 t2 t3 t4
    have HT := HN
    clear HN
    obtain ⟨b0, b1, b2⟩ := HT.out.rd.at'.cells
    have tf := frozenOf HT.out.tk
    obtain ⟨t0, t1, t2, t3, t4⟩ := cellsOf5 HT.out.tk
    cases ho : ownB (s.extract 0 n) with
    | true =>
      have HO := Lib.hid (show ownB (fore s n) = true from ho)
      clear ho
      go_upto_region 13 with fail
      have HN := Lib.hid (HT.out.set HBW.out.1 HBW.out.2 0 (.int .i64 2) (k' := 2) (v' := 0) (x' := ⟨#[]⟩) rfl)
      clear b0 b1 b2 tf t0 t1 t2 t3 t4
      clear HT
      generalize w4.setCell ⟨w.heap.size + 1, 0, none⟩ (.int .i64 2) = w5 at *
      have HT := HN
      clear HN
      by_cases h40 : (40 : Int) < (n : Int)
      · have b0 := True.intro
        have H40 := Lib.hid h40
        obtain ⟨b0, b1, b2⟩ := HT.out.rd.at'.cells
        have tf := True.intro
        have t0 := True.intro
        have t1 := True.intro
        have t2 := True.intro
        have t3 := True.intro
        have t4 := True.intro
        have hc := wrong_in HT.out.rd.at' 6
        clear b0 b1 b2 tf t0 t1 t2 t3 t4
        have hrf := frozenOf HT.out.res
        obtain ⟨r0, r1, r2, r3, r4⟩ := cellsOf5 HT.out.res
        obtain ⟨b0, b1, b2⟩ := HT.out.rd.at'.cells
        go_wp2_with fail
        refine hc.mono ?_
        clear hc
        rintro e we ⟨rfl, hbe⟩
        have HE := Lib.hid (HT.out.under hbe)
        clear hbe hrf r0 r1 r2 r3 r4 b0 b1 b2
        have hrf := frozenOf HE.out.res
        obtain ⟨r0, r1, r2, r3, r4⟩ := cellsOf5 HE.out.res
        go_wp2_with fail
        have HS := Lib.hid (res_zero HE.out HBW.out.1 HBW.out.2)
        obtain ⟨q0, q1, q2, q3, q4⟩ := cellsOf5 HS.out.1
        have HRD := Lib.hid (show readB s = .bad 6 by unfold readB; rw [if_pos HL.out, HNN.out, if_pos (by have := H40.out; omega)])
        rw [HRD.out]
        exact bodyPost_ret (v := .tuple #[.agg #[.int .i64 0, .string ⟨#[]⟩, .int .i64 0, .int .i64 0, .int .i64 0], diagV 6 l c]) (by simp [results, Tryz.results23, go_sem, q0, q1, q2, q3, q4]; rfl) rfl ⟨rfl, HS.out.2.1, HS.out.2.2⟩
      · have H40 := Lib.hid h40
        have HRD := Lib.hid (show readB s = .tok 2 n 0 by unfold readB; rw [if_pos HL.out, HNN.out, if_neg (by have := H40.out; omega), HO.out]; rfl)
        obtain ⟨b0, b1, b2⟩ := HT.out.rd.at'.cells
        have tf := frozenOf HT.out.tk
        obtain ⟨t0, t1, t2, t3, t4⟩ := cellsOf5 HT.out.tk
        have hn0 : (n : Int) ≤ (s.size : Int) := by omega
        go_upto_region 22 with fail
        have HN := Lib.hid (HT.out.set HBW.out.1 HBW.out.2 1 (.string (s.extract 0 n)) (k' := 2) (v' := 0) (x' := s.extract 0 n) rfl)
        clear b0 b1 b2 tf t0 t1 t2 t3 t4
        clear HT
        generalize w5.setCell ⟨w.heap.size + 1, 1, none⟩ (.string (s.extract 0 n)) = wt at *
        have HT := HN
        clear HN
        have hc := HT.out.rd.skip (n := n) hn
        go_wp2_with fail
        refine hc.mono ?_
        clear hc
        rintro e wu ⟨rfl, hru, htu⟩
        have hw1 := HT.out.below.size
        have HU := Lib.hid (show Rd wu b (aft s n) l (c + Lib.runeCount (fore s n)) ∧ Turn b w wu ∧ wu.heap[w.heap.size]? = some (.cells #[.int .i64 0, .string ⟨#[]⟩, .int .i64 0, .int .i64 0, .int .i64 0] 63) ∧ wu.heap[w.heap.size + 1]? = some (.cells #[.int .i64 2, .string (s.extract 0 n), .int .i64 0, .int .i64 l, .int .i64 c] 63) from
          ⟨hru, (Turn.of b HT.out.below).trans htu, (htu.block _ (heap_lt HT.out.res) (by have := HBW.out.1; omega)).trans HT.out.res, (htu.block _ (heap_lt HT.out.tk) (by have := HBW.out.1; omega)).trans HT.out.tk⟩)
        clear hru htu
        have hrf := frozenOf HU.out.2.2.1
        obtain ⟨r0, r1, r2, r3, r4⟩ := cellsOf5 HU.out.2.2.1
        obtain ⟨t0, t1, t2, t3, t4⟩ := cellsOf5 HU.out.2.2.2
        go_wp2_with fail
        have HS := Lib.hid (res_set HU.out.1 HU.out.2.1 HU.out.2.2.1 HBW.out.1 HBW.out.2 (.int .i64 2) (.string (s.extract 0 n)) (.int .i64 0) (.int .i64 l) (.int .i64 c))
        obtain ⟨q0, q1, q2, q3, q4⟩ := cellsOf5 HS.out.1
        rw [HRD.out]
        exact bodyPost_ret (v := .tuple #[.agg #[.int .i64 2, .string (s.extract 0 n), .int .i64 0, .int .i64 l, .int .i64 c], .nilIface]) (by simp [results, Tryz.results23, go_sem, q0, q1, q2, q3, q4]) rfl ⟨rfl, HS.out.2.1, HS.out.2.2⟩
    | false =>
      have HO := Lib.hid (show ownB (fore s n) = false from ho)
      clear ho
      by_cases h40 : (40 : Int) < (n : Int)
      · have H40 := Lib.hid h40
        have hc := wrong_in HT.out.rd.at' 6
        clear b0 b1 b2 tf t0 t1 t2 t3 t4
        have hrf := frozenOf HT.out.res
        obtain ⟨r0, r1, r2, r3, r4⟩ := cellsOf5 HT.out.res
        obtain ⟨b0, b1, b2⟩ := HT.out.rd.at'.cells
        go_wp2_with fail
        refine hc.mono ?_
        clear hc
        rintro e we ⟨rfl, hbe⟩
        have HE := Lib.hid (HT.out.under hbe)
        clear hbe hrf r0 r1 r2 r3 r4 b0 b1 b2
        have hrf := frozenOf HE.out.res
        obtain ⟨r0, r1, r2, r3, r4⟩ := cellsOf5 HE.out.res
        go_wp2_with fail
        have HS := Lib.hid (res_zero HE.out HBW.out.1 HBW.out.2)
        obtain ⟨q0, q1, q2, q3, q4⟩ := cellsOf5 HS.out.1
        have HRD := Lib.hid (show readB s = .bad 6 by unfold readB; rw [if_pos HL.out, HNN.out, if_pos (by have := H40.out; omega)])
        rw [HRD.out]
        exact bodyPost_ret (v := .tuple #[.agg #[.int .i64 0, .string ⟨#[]⟩, .int .i64 0, .int .i64 0, .int .i64 0], diagV 6 l c]) (by simp [results, Tryz.results23, go_sem, q0, q1, q2, q3, q4]; rfl) rfl ⟨rfl, HS.out.2.1, HS.out.2.2⟩
      · have H40 := Lib.hid h40
        clear b0 b1 b2 tf t0 t1 t2 t3 t4
        have HRD := Lib.hid (show readB s = .tok 1 n 0 by unfold readB; rw [if_pos HL.out, HNN.out, if_neg (by have := H40.out; omega), HO.out]; rfl)
        obtain ⟨b0, b1, b2⟩ := HT.out.rd.at'.cells
        have tf := frozenOf HT.out.tk
        obtain ⟨t0, t1, t2, t3, t4⟩ := cellsOf5 HT.out.tk
        have hn0 : (n : Int) ≤ (s.size : Int) := by omega
        go_upto_region 22 with fail
        have HN := Lib.hid (HT.out.set HBW.out.1 HBW.out.2 1 (.string (s.extract 0 n)) (k' := 1) (v' := 0) (x' := s.extract 0 n) rfl)
        clear b0 b1 b2 tf t0 t1 t2 t3 t4
        clear HT
        generalize w4.setCell ⟨w.heap.size + 1, 1, none⟩ (.string (s.extract 0 n)) = wt at *
        have HT := HN
        clear HN
        have hc := HT.out.rd.skip (n := n) hn
        go_wp2_with fail
        refine hc.mono ?_
        clear hc
        rintro e wu ⟨rfl, hru, htu⟩
        have hw1 := HT.out.below.size
        have HU := Lib.hid (show Rd wu b (aft s n) l (c + Lib.runeCount (fore s n)) ∧ Turn b w wu ∧ wu.heap[w.heap.size]? = some (.cells #[.int .i64 0, .string ⟨#[]⟩, .int .i64 0, .int .i64 0, .int .i64 0] 63) ∧ wu.heap[w.heap.size + 1]? = some (.cells #[.int .i64 1, .string (s.extract 0 n), .int .i64 0, .int .i64 l, .int .i64 c] 63) from
          ⟨hru, (Turn.of b HT.out.below).trans htu, (htu.block _ (heap_lt HT.out.res) (by have := HBW.out.1; omega)).trans HT.out.res, (htu.block _ (heap_lt HT.out.tk) (by have := HBW.out.1; omega)).trans HT.out.tk⟩)
        clear hru htu
        have hrf := frozenOf HU.out.2.2.1
        obtain ⟨r0, r1, r2, r3, r4⟩ := cellsOf5 HU.out.2.2.1
        obtain ⟨t0, t1, t2, t3, t4⟩ := cellsOf5 HU.out.2.2.2
        go_wp2_with fail
        have HS := Lib.hid (res_set HU.out.1 HU.out.2.1 HU.out.2.2.1 HBW.out.1 HBW.out.2 (.int .i64 1) (.string (s.extract 0 n)) (.int .i64 0) (.int .i64 l) (.int .i64 c))
        obtain ⟨q0, q1, q2, q3, q4⟩ := cellsOf5 HS.out.1
        rw [HRD.out]
        exact bodyPost_ret (v := .tuple #[.agg #[.int .i64 1, .string (s.extract 0 n), .int .i64 0, .int .i64 l, .int .i64 c], .nilIface]) (by simp [results, Tryz.results23, go_sem, q0, q1, q2, q3, q4]) rfl ⟨rfl, HS.out.2.1, HS.out.2.2⟩
  | false =>
    simp only [hl] at hcl
    have HL := Lib.hid (show letB (hd s) = false by rw [← HB0.out]; exact hl)
    clear hl
    have HCL := Lib.hid hcl
    clear hcl
    have hcd := HDG.out
    go_enter Tryz.func23, Tryz.ntmps23
    cases hdg : digB (s[0]'hpos) with
    | true =>
      simp only [hdg] at hcd
      have HD := Lib.hid (show digB (hd s) = true by rw [← HB0.out]; exact hdg)
      clear hdg
      have HCD := Lib.hid hcd
      clear hcd
      go_wp2_with fail
      generalize (w.alloc (.cells #[.int .i64 0, .string ⟨#[]⟩, .int .i64 0, .int .i64 0, .int .i64 0] 63)).alloc (.cells #[.int .i64 0, .string ⟨#[]⟩, .int .i64 0, .int .i64 l, .int .i64 c] 63) = w2 at *
      refine (HCL.out w2).mono ?_
      rintro e w2' ⟨rfl, rfl⟩
      clear b0 b1 b2
      obtain ⟨b0, b1, b2⟩ := HT.out.rd.at'.cells
      have tf := frozenOf HT.out.tk
      obtain ⟨t0, t1, t2, t3, t4⟩ := cellsOf5 HT.out.tk
      go_wp2_with fail
      refine (HCD.out w2).mono ?_
      rintro e w2' ⟨rfl, rfl⟩
      have hc := count_in (g := 45) digB digit_in (fun _ _ => by kernel_rfl) s w2 (by omega)
      go_wp2_with fail
      refine hc.mono ?_
      clear hc
      rintro e w2' ⟨rfl, rfl⟩
      have hn := cntB_le digB s
      obtain ⟨n, hnn⟩ : ∃ z, cntB digB s = z := ⟨_, rfl⟩
      rw [hnn] at hn
      rw [hnn]
      have HNN := Lib.hid hnn
      clear hnn
      by_cases h18 : (18 : Int) < (n : Int)
      · have H18 := Lib.hid h18
        have hc := wrong_in HT.out.rd.at' 6
        clear b0 b1 b2 tf t0 t1 t2 t3 t4
        have hrf := frozenOf HT.out.res
        obtain ⟨r0, r1, r2, r3, r4⟩ := cellsOf5 HT.out.res
        obtain ⟨b0, b1, b2⟩ := HT.out.rd.at'.cells
        go_wp2_with fail
        refine hc.mono ?_
        clear hc
        rintro e we ⟨rfl, hbe⟩
        have HE := Lib.hid (HT.out.under hbe)
        clear hbe hrf r0 r1 r2 r3 r4 b0 b1 b2
        have hrf := frozenOf HE.out.res
        obtain ⟨r0, r1, r2, r3, r4⟩ := cellsOf5 HE.out.res
        go_wp2_with fail
        have HS := Lib.hid (res_zero HE.out HBW.out.1 HBW.out.2)
        obtain ⟨q0, q1, q2, q3, q4⟩ := cellsOf5 HS.out.1
        have HRD := Lib.hid (show readB s = .bad 6 by unfold readB; rw [if_neg (by rw [HL.out]; simp), if_pos HD.out, HNN.out, if_pos (by have := H18.out; omega)])
        rw [HRD.out]
        exact bodyPost_ret (v := .tuple #[.agg #[.int .i64 0, .string ⟨#[]⟩, .int .i64 0, .int .i64 0, .int .i64 0], diagV 6 l c]) (by simp [results, Tryz.results23, go_sem, q0, q1, q2, q3, q4]; rfl) rfl ⟨rfl, HS.out.2.1, HS.out.2.2⟩
      · have H18 := Lib.hid h18
        go_upto_region 20 with fail
        have HN := Lib.hid (HT.out.set HBW.out.1 HBW.out.2 0 (.int .i64 3) (k' := 3) (v' := 0) (x' := ⟨#[]⟩) rfl)
        clear b0 b1 b2 tf t0 t1 t2 t3 t4
        clear HT
        generalize w2.setCell ⟨w.heap.size + 1, 0, none⟩ (.int .i64 3) = w3 at *
        have HT := HN
        clear HN
        obtain ⟨v, hv⟩ : ∃ z : Int, (numV (fore s n).data.toList : Int) = z := ⟨_, rfl⟩
        have hps : Lib.parseIntB 64 (s.extract 0 n).data.toList = .ok v := by
          have hfl := fore_list s n
          have hn18 := H18.out
          have hn1 : 1 ≤ n := by
            rw [← HNN.out]
            exact cntB_pos hpos HD.out
          have hlen : (fore s n).data.toList.length = n := by
            rw [hfl, List.length_take]
            have : s.data.toList.length = s.size := by simp
            omega
          have := parse_num (l := (fore s n).data.toList) (by
            intro e
            rw [e] at hlen
            simp at hlen
            omega) (fun c hc => by
            rw [hfl, ← HNN.out] at hc
            exact takeWhile_mem hc) (by omega)
          rw [hv] at this
          exact this
        have HVV := Lib.hid hv
        have hc := Tryz.strconv_ParseInt_10_at64_ok (s.extract 0 n) (by
          have := fore_size hn
          unfold fore at this
          omega) v hps w3
        clear hps hv
        obtain ⟨b0, b1, b2⟩ := HT.out.rd.at'.cells
        have tf := frozenOf HT.out.tk
        obtain ⟨t0, t1, t2, t3, t4⟩ := cellsOf5 HT.out.tk
        have hn0 : (n : Int) ≤ (s.size : Int) := by omega
        go_wp2_with fail
        refine hc.mono ?_
        clear hc
        rintro e w4 ⟨rfl, hw4⟩
        have hb4 : Below w3.heap.size w3 w4 := by
          rcases hw4 with e | ⟨t, e⟩
          · rw [e]
            exact Below.refl _ _
          · rw [e]
            exact Lib.bytesWorld_below _ _ _
        have HN := Lib.hid (HT.out.under hb4)
        clear hb4 hw4 HT b0 b1 b2 tf t0 t1 t2 t3 t4
        have HT := HN
        clear HN
        obtain ⟨b0, b1, b2⟩ := HT.out.rd.at'.cells
        have tf := frozenOf HT.out.tk
        obtain ⟨t0, t1, t2, t3, t4⟩ := cellsOf5 HT.out.tk
        go_upto_region 21 with fail
        have HN := Lib.hid (HT.out.set HBW.out.1 HBW.out.2 2 (.int .i64 v) (k' := 3) (v' := v) (x' := ⟨#[]⟩) rfl)
        clear b0 b1 b2 tf t0 t1 t2 t3 t4
        clear HT
        generalize w4.setCell ⟨w.heap.size + 1, 2, none⟩ (.int .i64 v) = w5 at *
        have HT := HN
        clear HN
        have HRD := Lib.hid (show readB s = .tok 3 n v by unfold readB; rw [if_neg (by rw [HL.out]; simp), if_pos HD.out, HNN.out, if_neg (by have := H18.out; omega), HVV.out])
        obtain ⟨b0, b1, b2⟩ := HT.out.rd.at'.cells
        have tf := frozenOf HT.out.tk
        obtain ⟨t0, t1, t2, t3, t4⟩ := cellsOf5 HT.out.tk
        have hn0 : (n : Int) ≤ (s.size : Int) := by omega
        go_upto_region 22 with fail
        have HN := Lib.hid (HT.out.set HBW.out.1 HBW.out.2 1 (.string (s.extract 0 n)) (k' := 3) (v' := v) (x' := s.extract 0 n) rfl)
        clear b0 b1 b2 tf t0 t1 t2 t3 t4
        clear HT
        generalize w5.setCell ⟨w.heap.size + 1, 1, none⟩ (.string (s.extract 0 n)) = wt at *
        have HT := HN
        clear HN
        have hc := HT.out.rd.skip (n := n) hn
        go_wp2_with fail
        refine hc.mono ?_
        clear hc
        rintro e wu ⟨rfl, hru, htu⟩
        have hw1 := HT.out.below.size
        have HU := Lib.hid (show Rd wu b (aft s n) l (c + Lib.runeCount (fore s n)) ∧ Turn b w wu ∧ wu.heap[w.heap.size]? = some (.cells #[.int .i64 0, .string ⟨#[]⟩, .int .i64 0, .int .i64 0, .int .i64 0] 63) ∧ wu.heap[w.heap.size + 1]? = some (.cells #[.int .i64 3, .string (s.extract 0 n), .int .i64 v, .int .i64 l, .int .i64 c] 63) from
          ⟨hru, (Turn.of b HT.out.below).trans htu, (htu.block _ (heap_lt HT.out.res) (by have := HBW.out.1; omega)).trans HT.out.res, (htu.block _ (heap_lt HT.out.tk) (by have := HBW.out.1; omega)).trans HT.out.tk⟩)
        clear hru htu
        have hrf := frozenOf HU.out.2.2.1
        obtain ⟨r0, r1, r2, r3, r4⟩ := cellsOf5 HU.out.2.2.1
        obtain ⟨t0, t1, t2, t3, t4⟩ := cellsOf5 HU.out.2.2.2
        go_wp2_with fail
        have HS := Lib.hid (res_set HU.out.1 HU.out.2.1 HU.out.2.2.1 HBW.out.1 HBW.out.2 (.int .i64 3) (.string (s.extract 0 n)) (.int .i64 v) (.int .i64 l) (.int .i64 c))
        obtain ⟨q0, q1, q2, q3, q4⟩ := cellsOf5 HS.out.1
        rw [HRD.out]
        exact bodyPost_ret (v := .tuple #[.agg #[.int .i64 3, .string (s.extract 0 n), .int .i64 v, .int .i64 l, .int .i64 c], .nilIface]) (by simp [results, Tryz.results23, go_sem, q0, q1, q2, q3, q4]) rfl ⟨rfl, HS.out.2.1, HS.out.2.2⟩
    | false =>
      simp only [hdg] at hcd
      have HD := Lib.hid (show digB (hd s) = false by rw [← HB0.out]; exact hdg)
      clear hdg
      have HCD := Lib.hid hcd
      clear hcd
      go_wp2_with fail
      generalize (w.alloc (.cells #[.int .i64 0, .string ⟨#[]⟩, .int .i64 0, .int .i64 0, .int .i64 0] 63)).alloc (.cells #[.int .i64 0, .string ⟨#[]⟩, .int .i64 0, .int .i64 l, .int .i64 c] 63) = w2 at *
      refine (HCL.out w2).mono ?_
      rintro e w2' ⟨rfl, rfl⟩
      clear b0 b1 b2
      obtain ⟨b0, b1, b2⟩ := HT.out.rd.at'.cells
      have tf := frozenOf HT.out.tk
      obtain ⟨t0, t1, t2, t3, t4⟩ := cellsOf5 HT.out.tk
      go_wp2_with fail
      refine (HCD.out w2).mono ?_
      rintro e w2' ⟨rfl, rfl⟩
      have hc := mark_in s w2
      go_wp2_with fail
      refine hc.mono ?_
      clear hc
      rintro e w3 ⟨rfl, hb3⟩
      have HN := Lib.hid (HT.out.under hb3)
      clear hb3 HT b0 b1 b2 tf t0 t1 t2 t3 t4
      have HT := HN
      clear HN
      have hn := markB_le s
      obtain ⟨n, hnn⟩ : ∃ z, markB s = z := ⟨_, rfl⟩
      rw [hnn] at hn
      rw [hnn]
      have HNN := Lib.hid hnn
      clear hnn
      obtain ⟨b0, b1, b2⟩ := HT.out.rd.at'.cells
      have tf := frozenOf HT.out.tk
      obtain ⟨t0, t1, t2, t3, t4⟩ := cellsOf5 HT.out.tk
      by_cases h0 : n = 0
      · subst h0
        have hc := wrong_in HT.out.rd.at' 4
        clear b0 b1 b2 tf t0 t1 t2 t3 t4
        have hrf := frozenOf HT.out.res
        obtain ⟨r0, r1, r2, r3, r4⟩ := cellsOf5 HT.out.res
        obtain ⟨b0, b1, b2⟩ := HT.out.rd.at'.cells
        go_wp2_with fail
        refine hc.mono ?_
        clear hc
        rintro e we ⟨rfl, hbe⟩
        have HE := Lib.hid (HT.out.under hbe)
        clear hbe hrf r0 r1 r2 r3 r4 b0 b1 b2
        have hrf := frozenOf HE.out.res
        obtain ⟨r0, r1, r2, r3, r4⟩ := cellsOf5 HE.out.res
        go_wp2_with fail
        have HS := Lib.hid (res_zero HE.out HBW.out.1 HBW.out.2)
        obtain ⟨q0, q1, q2, q3, q4⟩ := cellsOf5 HS.out.1
        have HRD := Lib.hid (show readB s = .bad 4 by unfold readB; rw [if_neg (by rw [HL.out]; simp), if_neg (by rw [HD.out]; simp), if_pos HNN.out])
        rw [HRD.out]
        exact bodyPost_ret (v := .tuple #[.agg #[.int .i64 0, .string ⟨#[]⟩, .int .i64 0, .int .i64 0, .int .i64 0], diagV 4 l c]) (by simp [results, Tryz.results23, go_sem, q0, q1, q2, q3, q4]; rfl) rfl ⟨rfl, HS.out.2.1, HS.out.2.2⟩
      · have H0 := Lib.hid h0
        have k0 : ((n : Int) == 0) = false := by
          rw [beq_eq_false_iff_ne]
          omega
        go_upto_region 21 with fail
        have HN := Lib.hid (HT.out.set HBW.out.1 HBW.out.2 0 (.int .i64 4) (k' := 4) (v' := 0) (x' := ⟨#[]⟩) rfl)
        clear b0 b1 b2 tf t0 t1 t2 t3 t4
        clear HT
        generalize w3.setCell ⟨w.heap.size + 1, 0, none⟩ (.int .i64 4) = w5 at *
        have HT := HN
        clear HN
        have HRD := Lib.hid (show readB s = .tok 4 n 0 by unfold readB; rw [if_neg (by rw [HL.out]; simp), if_neg (by rw [HD.out]; simp), HNN.out, if_neg H0.out])
        obtain ⟨b0, b1, b2⟩ := HT.out.rd.at'.cells
        have tf := frozenOf HT.out.tk
        obtain ⟨t0, t1, t2, t3, t4⟩ := cellsOf5 HT.out.tk
        have hn0 : (n : Int) ≤ (s.size : Int) := by omega
        go_upto_region 22 with fail
        have HN := Lib.hid (HT.out.set HBW.out.1 HBW.out.2 1 (.string (s.extract 0 n)) (k' := 4) (v' := 0) (x' := s.extract 0 n) rfl)
        clear b0 b1 b2 tf t0 t1 t2 t3 t4
        clear HT
        generalize w5.setCell ⟨w.heap.size + 1, 1, none⟩ (.string (s.extract 0 n)) = wt at *
        have HT := HN
        clear HN
        have hc := HT.out.rd.skip (n := n) hn
        go_wp2_with fail
        refine hc.mono ?_
        clear hc
        rintro e wu ⟨rfl, hru, htu⟩
        have hw1 := HT.out.below.size
        have HU := Lib.hid (show Rd wu b (aft s n) l (c + Lib.runeCount (fore s n)) ∧ Turn b w wu ∧ wu.heap[w.heap.size]? = some (.cells #[.int .i64 0, .string ⟨#[]⟩, .int .i64 0, .int .i64 0, .int .i64 0] 63) ∧ wu.heap[w.heap.size + 1]? = some (.cells #[.int .i64 4, .string (s.extract 0 n), .int .i64 0, .int .i64 l, .int .i64 c] 63) from
          ⟨hru, (Turn.of b HT.out.below).trans htu, (htu.block _ (heap_lt HT.out.res) (by have := HBW.out.1; omega)).trans HT.out.res, (htu.block _ (heap_lt HT.out.tk) (by have := HBW.out.1; omega)).trans HT.out.tk⟩)
        clear hru htu
        have hrf := frozenOf HU.out.2.2.1
        obtain ⟨r0, r1, r2, r3, r4⟩ := cellsOf5 HU.out.2.2.1
        obtain ⟨t0, t1, t2, t3, t4⟩ := cellsOf5 HU.out.2.2.2
        go_wp2_with fail
        have HS := Lib.hid (res_set HU.out.1 HU.out.2.1 HU.out.2.2.1 HBW.out.1 HBW.out.2 (.int .i64 4) (.string (s.extract 0 n)) (.int .i64 0) (.int .i64 l) (.int .i64 c))
        obtain ⟨q0, q1, q2, q3, q4⟩ := cellsOf5 HS.out.1
        rw [HRD.out]
        exact bodyPost_ret (v := .tuple #[.agg #[.int .i64 4, .string (s.extract 0 n), .int .i64 0, .int .i64 l, .int .i64 c], .nilIface]) (by simp [results, Tryz.results23, go_sem, q0, q1, q2, q3, q4]) rfl ⟨rfl, HS.out.2.1, HS.out.2.2⟩
end Go.Proofs.YtinebmfmkgjaaaaGreatDoor
