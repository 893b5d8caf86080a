/- order.New: of any number of points, and any pairs. -/
import Derived.Test.YtkcbcdfcpchgcaaDoorOrd5
import Derived.Deep.OwnRows
import Derived.Deep.DeepCutAuto
set_option linter.unusedVariables false
set_option linter.unusedSimpArgs false
namespace Go.Proofs.YtkcbcdfcpchgcaaDoor
open Go.RowKit
open OrdP (inB Rel allB allB_iff)

/-- A slice of pairs of numbers, as it reads. -/
def PairsAt (w : World) (A : Option Addr) (l : List (Int × Int)) : Prop :=
  l = [] ∨ ∃ b off, A = some ⟨b, off, none⟩ ∧ ∀ i, i < l.length → w.cell? ⟨b, off + i * 2, none⟩ = some (.int .i64 (l.getD i (0, 0)).1) ∧ w.cell? ⟨b, off + i * 2 + 1, none⟩ = some (.int .i64 (l.getD i (0, 0)).2)

/-- What pairs say before it is closed. -/
def R0 (l : List (Int × Int)) : Rel := fun i j => decide (i = j) || l.any fun p => decide (p.1 = (i : Int)) && decide (p.2 = (j : Int))
def okP (n : Nat) (p : Int × Int) : Bool := inB n p.1 && inB n p.2
def good (n : Int) (l : List (Int × Int)) : Bool := decide (1 ≤ n) && decide (n ≤ 32) && l.all (okP n.toNat)
def newR (n : Nat) (l : List (Int × Int)) : Rel := OrdP.warshall (R0 l) n

/-- An order's place, whatever memory it takes from B on. -/
def IsOrd (w : World) (B b n : Nat) (R : Rel) : Prop :=
  B ≤ b ∧ b < w.heap.size ∧ ∃ bu bd u d, B ≤ bu ∧ B ≤ bd ∧ bu < w.heap.size ∧ bd < w.heap.size ∧ OrdAt w b bu bd n u d ∧ Rows' n u R ∧ Rows' n d fun j m => decide (m < n) && R m j
theorem IsOrd.below {w w' : World} {B b n : Nat} {R : Rel} (h : IsOrd w B b n R) {C : Nat} (hC : w.heap.size ≤ C) (hb : Below C w w') : IsOrd w' B b n R := by
  obtain ⟨h1, h2, bu, bd, u, d, h3, h4, h5, h6, h7, h8, h9⟩ := h
  have := hb.size
  refine ⟨h1, by omega, bu, bd, u, d, h3, h4, by omega, by omega, ⟨?_, ?_, fun i hi => ?_, fun i hi => ?_⟩, h8, h9⟩
  · exact (hb.cell (p := ⟨b, 0, none⟩) (by show b < C; omega)).trans h7.up
  · exact (hb.cell (p := ⟨b, 1, none⟩) (by show b < C; omega)).trans h7.down
  · exact (hb.cell (p := ⟨bu, i, none⟩) (by show bu < C; omega)).trans (h7.us i hi)
  · exact (hb.cell (p := ⟨bd, i, none⟩) (by show bd < C; omega)).trans (h7.ds i hi)

def NewPost (w : World) (n : Int) (l : List (Int × Int)) (e : Ending) (w' : World) : Prop :=
  Below w.heap.size w w' ∧
  ((good n l = false ∧ e = .returned (.tuple #[.pointer none, .int .i64 1])) ∨
   (good n l = true ∧ OrdP.lattice n.toNat (newR n.toNat l) = false ∧ e = .returned (.tuple #[.pointer none, .int .i64 2])) ∨
   (good n l = true ∧ OrdP.lattice n.toNat (newR n.toNat l) = true ∧ ∃ b, e = .returned (.tuple #[.pointer (some ⟨b, 0, none⟩), .int .i64 0]) ∧ IsOrd w' w.heap.size b n.toNat (newR n.toNat l)))

theorem ord_new {W : World} {b bu bd n : Nat} (h0 : W.heap[b]? = some (.cells #[.slice (some ⟨bu, 0, none⟩) n n, .slice (some ⟨bd, 0, none⟩) n n] 69)) (h1 : W.heap[bu]? = some (.cells (madeCells #[.int .u32 0] n) 71))
    (h2 : W.heap[bd]? = some (.cells (madeCells #[.int .u32 0] n) 71)) (n1 : b ≠ bu) (n2 : b ≠ bd) (n3 : bu ≠ bd) : OrdOwn W b bu bd n (fun _ => 0) (fun _ => 0) := by
  have hm : ∀ i, i < n → (madeCells #[Value.int .u32 0] n)[i]? = some (.int .u32 0) := fun i hi => by simp [madeCells, hi, Nat.mod_one]
  refine ⟨⟨by simp [World.cell?, h0], by simp [World.cell?, h0], fun i hi => ?_, fun i hi => ?_⟩, fun i hi => by simp [World.frozen?, h1], fun i hi => by simp [World.frozen?, h2], n1, n2, n3⟩
  · simp only [World.cell?, h1, hm i hi]; rfl
  · simp only [World.cell?, h2, hm i hi]; rfl

theorem three (w : World) (a b c : Obj) : (((w.alloc a).alloc b).alloc c).heap[w.heap.size]? = some a ∧ (((w.alloc a).alloc b).alloc c).heap[w.heap.size + 1]? = some b ∧ (((w.alloc a).alloc b).alloc c).heap[w.heap.size + 1 + 1]? = some c ∧ (((w.alloc a).alloc b).alloc c).heap.size = w.heap.size + 1 + 1 + 1 := by
  simp only [World.alloc, Array.getElem?_push, Array.size_push]
  simp
  omega
theorem three_below (w : World) (a b c : Obj) : Below w.heap.size w (((w.alloc a).alloc b).alloc c) :=
  (((Below.refl _ w).alloc (Nat.le_refl _) a).alloc (by simp) b).alloc (by simp; omega) c

theorem cell_lt {w : World} {a : Addr} {v : Value} (h : w.cell? a = some v) : a.block < w.heap.size := by
  unfold World.cell? at h
  cases hh : w.heap[a.block]? with
  | none => rw [hh] at h; cases h
  | some o => exact (Array.getElem?_eq_some_iff.1 hh).1
theorem cell_alloc {w : World} {a : Addr} {v : Value} (h : w.cell? a = some v) (o : Obj) : (w.alloc o).cell? a = some v := (World.cell?_of_block (Below.heap_alloc w o a.block (cell_lt h))).trans h
theorem cell_two_l (W : World) (a b : Value) (t : TypeId) : (W.alloc (.cells #[a, b] t)).cell? ⟨W.heap.size, 0, none⟩ = some a ∧ (W.alloc (.cells #[a, b] t)).cell? ⟨W.heap.size, 1, none⟩ = some b := by
  have h : (W.alloc (.cells #[a, b] t)).heap[W.heap.size]? = some (.cells #[a, b] t) := by simp only [World.alloc, Array.getElem?_push]; simp
  constructor <;> simp only [World.cell?, h] <;> rfl
theorem below_drewN {B : Nat} {a w : World} (h : Below B a w) (q : Nat) : Below B a (w.drewN q) := ⟨h.os, h.tape, h.output, h.size, h.block⟩
theorem frozen_alloc {w : World} {a : Addr} {v : Value} (h : w.cell? a = some v) (o : Obj) : (w.alloc o).frozen? a = w.frozen? a := World.frozen?_of_block (Below.heap_alloc w o a.block (cell_lt h))
theorem OrdOwn.alloc {w : World} {b bu bd n : Nat} {u d : Nat → Nat} (h : OrdOwn w b bu bd n u d) (o : Obj) : OrdOwn (w.alloc o) b bu bd n u d :=
  ⟨⟨cell_alloc h.up o, cell_alloc h.down o, fun i hi => cell_alloc (h.us i hi) o, fun i hi => cell_alloc (h.ds i hi) o⟩, fun i hi => (frozen_alloc (h.us i hi) o).trans (h.fu i hi), fun i hi => (frozen_alloc (h.ds i hi) o).trans (h.fd i hi), h.n1, h.n2, h.n3⟩
theorem all_take {l : List (Int × Int)} {n k : Nat} (hk : k < l.length) (h : okP n (l.getD k (0, 0)) = false) : l.all (okP n) = false := by
  cases h2 : l.all (okP n) with
  | false => rfl
  | true =>
    have := List.all_eq_true.1 h2 l[k] (List.getElem_mem hk)
    simp [List.getD, hk] at h
    rw [this] at h; cases h

/-- the rows that hold the points alone -/
def pts (n k : Nat) : Nat → Nat := fun i => if i < k then 2 ^ i else 0
theorem upd_pts {n k : Nat} : upd (pts n k) k (2 ^ k) = pts n (k + 1) := by
  funext i
  unfold upd pts
  by_cases e : i = k
  · subst e; simp
  · by_cases e2 : i < k
    · rw [if_neg e, if_pos e2, if_pos (by omega)]
    · rw [if_neg e, if_neg e2, if_neg (by omega)]
theorem pts_rows {n : Nat} : Rows' n (pts n n) (R0 []) := by
  refine ⟨fun i hi => by unfold pts; rw [if_pos hi]; exact Nat.pow_lt_pow_right (by omega) hi, fun i hi j => ?_⟩
  unfold pts R0
  rw [if_pos hi, Nat.testBit_two_pow]
  simp
theorem getD_take {l : List (Int × Int)} {k : Nat} (hk : k < l.length) : l.take (k + 1) = l.take k ++ [l.getD k (0, 0)] := by
  rw [List.take_succ_eq_append_getElem hk]
  simp [List.getD, hk]
theorem r0_snoc (l : List (Int × Int)) (a b : Nat) (i j : Nat) : R0 (l ++ [((a : Int), (b : Int))]) i j = (R0 l i j || (decide (a = i) && decide (b = j))) := by
  unfold R0
  simp [List.any_append, Bool.or_assoc, Int.ofNat_inj]
theorem rows_pair {n a b : Nat} {u : Nat → Nat} {l : List (Int × Int)} (h : Rows' n u (R0 l)) (ha : a < n) (hb : b < n) : Rows' n (upd u a (u a ||| 2 ^ b)) (R0 (l ++ [((a : Int), (b : Int))])) := by
  refine ⟨fun i hi => ?_, fun i hi j => ?_⟩
  · unfold upd; split
    · exact Nat.or_lt_two_pow (h.1 a ha) (Nat.pow_lt_pow_right (by omega) hb)
    · exact h.1 i hi
  · rw [r0_snoc]
    unfold upd
    by_cases e : i = a
    · subst e
      rw [if_pos rfl, Nat.testBit_or, h.2 i hi j, Nat.testBit_two_pow]
      simp
    · have e2 : ¬ a = i := fun x => e x.symm
      rw [if_neg e, h.2 i hi j]
      simp [e2]
theorem r0_refl (l : List (Int × Int)) (i : Nat) : R0 l i i = true := by simp [R0]

theorem info_u32 : (Tryd.prog.info? 71).map (fun i => (i.zero, i.size, i.bytes)) = some (some (.int .u32 0), 1, 4) := by kernel_rfl

set_option maxHeartbeats 4000000 in
theorem New_in (w : World) (ht : TabAt w) (hB0 : 0 < w.heap.size) (n : Int) (A : Option Addr) (cap : Nat) (l : List (Int × Int)) (hl : l.length ≤ 1000) (hp : PairsAt w A l) :
    Calls Tryd.prog 18 #[.int .i64 n, .slice A l.length cap] w (NewPost w n l) := by
  by_cases h1 : n < 1
  · go_enter Tryd.func18, Tryd.ntmps18
    go_wp2_with fail
    go_ret2
    exact ⟨Below.refl _ _, .inl ⟨by simp [good]; omega, rfl⟩⟩
  · by_cases h2 : 32 < n
    · go_enter Tryd.func18, Tryd.ntmps18
      go_wp2_with fail
      go_ret2
      exact ⟨Below.refl _ _, .inl ⟨by simp [good]; omega, rfl⟩⟩
    · obtain ⟨N, rfl⟩ := Int.eq_ofNat_of_zero_le (show 0 ≤ n by omega)
      have hmk := run_make_row' (P := Tryd.prog) 67 71 (.int .u32 0) 4 Tryd.underlying67 info_u32 rfl .i64 .i64 N (by omega) (by omega)
      go_enter Tryd.func18, Tryd.ntmps18
      go_upto_region 3 with (fail)
      go_cut [6] (fun o wx => ∃ b bu bd : Nat, o = .pointer (some ⟨b, 0, none⟩) ∧ OrdOwn wx b bu bd N (fun _ => 0) (fun _ => 0) ∧ (w.heap.size ≤ b ∧ w.heap.size ≤ bu ∧ w.heap.size ≤ bd) ∧ (b < wx.heap.size ∧ bu < wx.heap.size ∧ bd < wx.heap.size) ∧ Below w.heap.size w wx)
      case first =>
        go_region
        all_goals
          go_wp2_with fail
          go_meet
          first
            | exact ⟨_, w.heap.size, w.heap.size + 1, rfl, (by obtain ⟨e1, e2, e3, e4⟩ := three w _ _ _; exact (ord_new e3 e1 e2 (by omega) (by omega) (by omega)).drew), by omega, by simp; omega, (three_below w _ _ _).drew⟩
            | exact ⟨_, w.heap.size + 1, w.heap.size, rfl, (by obtain ⟨e1, e2, e3, e4⟩ := three w _ _ _; exact (ord_new e3 e2 e1 (by omega) (by omega) (by omega)).drew), by omega, by simp; omega, (three_below w _ _ _).drew⟩
      case rest =>
        obtain ⟨b, bu, bd, rfl, ho, ⟨l1, l2, l3⟩, ⟨g1, g2, g3⟩, hbel⟩ := hcut
        have hpe : ∀ i, i < l.length → ∃ bp off, A = some ⟨bp, off, none⟩ ∧ bp < w.heap.size ∧ w.cell? ⟨bp, off + i * 2, none⟩ = some (.int .i64 (l.getD i (0, 0)).1) ∧ w.cell? ⟨bp, off + i * 2 + 1, none⟩ = some (.int .i64 (l.getD i (0, 0)).2) := by
          intro i hi
          rcases hp with rfl | ⟨bp, off, hA, hc⟩
          · simp at hi
          · exact ⟨bp, off, hA, cell_lt (hc i hi).1, hc i hi⟩
        have HPE := Lib.hid hpe; clear hpe hp
        go_wp2_with fail
        go_loopw [7, 23] (fun o i wr => ∃ k : Nat, k ≤ N ∧ i = .int .i64 k ∧ OrdOwn wr b bu bd N (pts N k) (fun _ => 0) ∧ Below w.heap.size w wr ∧ wc.heap.size ≤ wr.heap.size) (fun _ i _ => N - (intOf i).toNat)
        case atStart => exact ⟨0, Nat.zero_le _, rfl, ho, hbel, Nat.le_refl _⟩
        case round =>
          obtain ⟨k, hk, rfl, ho1, hbel1, hsz1⟩ := hrel
          have cu := ho1.up
          by_cases hlt : k < N
          · have ck := ho1.us k hlt
            have fk := ho1.fu k hlt
            have hp2 := pow_int hlt (show N ≤ 32 by omega)
            obtain ⟨p, hpp⟩ : ∃ p : Nat, p = 2 ^ k := ⟨_, rfl⟩
            rw [← hpp] at hp2
            have HP := Lib.hid hpp; clear hpp
            have HO := Lib.hid ho1; clear ho1
            go_wp2_with fail
            go_region
            all_goals
              go_wp2_with fail
              go_roundw
              case rel =>
                refine ⟨k + 1, by omega, by go_num, ?_, (hbel1.drew.setCell (p := ⟨bu, k, none⟩) l2 _), by simpa [World.setCell] using hsz1⟩
                have h1 := HP.out
                subst h1
                have := HO.out.drew.setUp hlt (2 ^ k)
                rw [upd_pts] at this
                exact this
              case measure => simp [intOf]; omega
          · obtain rfl : k = N := by omega
            clear hmk
            go_wp2_with fail
            go_loopw [4, 5, 9, 37] (fun r1 r2 pp i wr => ∃ (m : Nat) (u' : Nat → Nat), m ≤ l.length ∧ i = .int .i64 m ∧ OrdOwn wr b bu bd k u' (fun _ => 0) ∧ Rows' k u' (R0 (l.take m)) ∧ (l.take m).all (okP k) = true ∧ Below w.heap.size w wr ∧ wc.heap.size ≤ wr.heap.size) (fun _ _ _ i _ => l.length - (intOf i).toNat)
            case atStart => exact ⟨0, _, Nat.zero_le _, rfl, ho1, by simpa using pts_rows, by simp, hbel1, hsz1⟩
            case round =>
              obtain ⟨m, u1', hm, rfl, ho2, hR, hall, hbel2, hsz2⟩ := hrel
              by_cases hmt : m < l.length
              · obtain ⟨bp, off, rfl, hbp, c1, c2⟩ := HPE.out m hmt
                have cx := (hbel2.cell (p := ⟨bp, off + m * 2, none⟩) hbp).trans c1
                have cy := (hbel2.cell (p := ⟨bp, off + m * 2 + 1, none⟩) hbp).trans c2
                obtain ⟨⟨x, y⟩, hxy⟩ : ∃ xy, xy = l.getD m (0, 0) := ⟨_, rfl⟩
                rw [← hxy] at cx cy
                have HXY := Lib.hid hxy; clear hxy c1 c2
                have HO := Lib.hid ho2; clear ho2
                have HR := Lib.hid hR; clear hR
                have HA := Lib.hid hall; clear hall
                cases hx : inB k x with
                | false =>
                  have hx' := Lib.hid hx; clear hx
                  go_wp2_with fail
                  refine (right_in _ b k _ (by omega) (HO.out.alloc _).up x).mono ?_
                  rw [hx'.out]
                  rintro e w' ⟨rfl, rfl⟩
                  go_wp2_with fail
                  go_ret2
                  exact ⟨hbel2.alloc hbel2.size _, .inl ⟨by rw [good, all_take hmt (by rw [← HXY.out]; simp [okP, hx'.out])]; simp, rfl⟩⟩
                | true =>
                  cases hy : inB k y with
                  | false =>
                    have hx' := Lib.hid hx; clear hx
                    have hy' := Lib.hid hy; clear hy
                    go_wp2_with fail
                    refine (right_in _ b k _ (by omega) (HO.out.alloc _).up x).mono ?_
                    rw [hx'.out]
                    rintro e w' ⟨rfl, rfl⟩
                    go_wp2_with fail
                    refine (right_in _ b k _ (by omega) (HO.out.alloc _).up y).mono ?_
                    rw [hy'.out]
                    rintro e w' ⟨rfl, rfl⟩
                    go_wp2_with fail
                    go_ret2
                    exact ⟨hbel2.alloc hbel2.size _, .inl ⟨by rw [good, all_take hmt (by rw [← HXY.out]; simp [okP, hy'.out])]; simp, rfl⟩⟩
                  | true =>
                    obtain ⟨x0, x1⟩ := inB_iff.1 hx
                    obtain ⟨y0, y1⟩ := inB_iff.1 hy
                    obtain ⟨ix, rfl⟩ := Int.eq_ofNat_of_zero_le x0
                    obtain ⟨jy, rfl⟩ := Int.eq_ofNat_of_zero_le y0
                    have ix1 : ix < k := by omega
                    have jy1 : jy < k := by omega
                    have hx' := Lib.hid hx; clear hx
                    have hy' := Lib.hid hy; clear hy
                    go_wp2_with fail
                    refine (right_in _ b k _ (by omega) (HO.out.alloc _).up ix).mono ?_
                    rw [hx'.out]
                    rintro e w' ⟨rfl, rfl⟩
                    go_wp2_with fail
                    refine (right_in _ b k _ (by omega) (HO.out.alloc _).up jy).mono ?_
                    rw [hy'.out]
                    rintro e w' ⟨rfl, rfl⟩
                    have HW := Lib.hid (HO.out.alloc (.cells #[.int .i64 (ix : Int), .int .i64 (jy : Int)] 63))
                    have z1 := cell_two_l wr (.int .i64 (ix : Int)) (.int .i64 (jy : Int)) 63
                    have hW1 : Below w.heap.size w (wr.alloc (.cells #[.int .i64 (ix : Int), .int .i64 (jy : Int)] 63)) := hbel2.alloc hbel2.size _
                    have hs1 : (wr.alloc (.cells #[.int .i64 (ix : Int), .int .i64 (jy : Int)] 63)).heap.size = wr.heap.size + 1 := by simp
                    generalize wr.alloc (.cells #[.int .i64 (ix : Int), .int .i64 (jy : Int)] 63) = W1 at *
                    obtain ⟨z1, z2⟩ := z1
                    have u1 := HW.out.up
                    have u2 := HW.out.us ix ix1
                    have u3 := HW.out.fu ix ix1
                    have hp2 := pow_int jy1 (show k ≤ 32 by omega)
                    have hor := u32_or_nat (u1' ix) (2 ^ jy) (lt32 (by omega) (HR.out.1 ix ix1)) (lt32 (show k ≤ 32 by omega) (Nat.pow_lt_pow_right (by omega) jy1))
                    obtain ⟨p, hpp⟩ : ∃ p : Nat, p = 2 ^ jy := ⟨_, rfl⟩
                    rw [← hpp] at hp2 hor
                    have HP := Lib.hid hpp; clear hpp
                    have HS := Lib.hid hs1; clear hs1
                    go_wp2_with fail
                    go_region
                    all_goals
                      go_wp2_with fail
                      go_roundw
                      case rel =>
                        have h1 := HP.out
                        subst h1
                        refine ⟨m + 1, _, by omega, by go_num, HW.out.drew.setUp ix1 (u1' ix ||| 2 ^ jy), ?_, ?_, hW1.drew.setCell (p := ⟨bu, ix, none⟩) l2 _, ?_⟩
                        · rw [getD_take hmt, ← HXY.out]; exact rows_pair HR.out ix1 jy1
                        · rw [getD_take hmt, ← HXY.out, List.all_append, HA.out]; simp [okP, hx'.out, hy'.out]
                        · have := HS.out
                          simp [World.setCell]; omega
                      case measure => simp [intOf]; omega
              · obtain rfl : m = l.length := by omega
                rw [List.take_length] at hR hall
                have HO := Lib.hid ho2; clear ho2
                have HR := Lib.hid hR; clear hR
                have HA := Lib.hid hall; clear hall
                have hk1 : 1 ≤ k := by omega
                have htr : TabAt wr := fun i hi => (hbel2.cell (p := ⟨_, i, none⟩) hB0).trans (ht i hi)
                have HT := Lib.hid htr; clear htr
                go_wp2_with fail
                refine (close_in w.heap.size _ HT.out hB0 b bu bd k u1' (R0 l) (by omega) HO.out HR.out l2 l3).mono ?_
                rintro e w1 ⟨rfl, u', d', ho3, hR3, hD3, hbel3⟩
                have HO3 := Lib.hid ho3; clear ho3
                have HR3 := Lib.hid hR3; clear hR3
                have HD3 := Lib.hid hD3; clear hD3
                go_wp2_with fail
                refine (lattice_in _ b bu bd k u' d' (newR k l) (by omega) HO3.out.toOrdAt HR3.out HD3.out (fun i hi => OrdP.warshall_sub k (R0 l) k i i hi hi (r0_refl l i))).mono ?_
                have hgood : good (k : Int) l = true := by simp [good, HA.out]; omega
                cases hlat : OrdP.lattice k (newR k l) with
                | false =>
                  rintro e w2 ⟨rfl, q, rfl⟩
                  have HL := Lib.hid hlat; clear hlat
                  have HG := Lib.hid hgood; clear hgood
                  go_wp2_with fail
                  go_ret2
                  exact ⟨below_drewN (hbel2.trans hbel3) _, .inr (.inl ⟨HG.out, by simpa using HL.out, rfl⟩)⟩
                | true =>
                  rintro e w2 ⟨rfl, q, rfl⟩
                  have HL := Lib.hid hlat; clear hlat
                  have HG := Lib.hid hgood; clear hgood
                  go_wp2_with fail
                  go_ret2
                  refine ⟨below_drewN (hbel2.trans hbel3) _, .inr (.inr ⟨HG.out, by simpa using HL.out, b, rfl, l1, ?_, bu, bd, u', d', l2, l3, ?_, ?_, by rw [Int.toNat_natCast]; exact HO3.out.toOrdAt.drewN _, by rw [Int.toNat_natCast]; exact HR3.out, by rw [Int.toNat_natCast]; exact HD3.out⟩)⟩
                  all_goals
                    have := hbel3.size
                    simp
                    omega

end Go.Proofs.YtkcbcdfcpchgcaaDoor
