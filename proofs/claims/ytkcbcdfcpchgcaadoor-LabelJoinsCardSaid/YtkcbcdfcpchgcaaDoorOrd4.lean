/- (*order.Order).close: what is below something is below all that this is below; and the points below each. -/
import Derived.Test.YtkcbcdfcpchgcaaDoorOrd3
import Derived.BigRegion
import Derived.RegionTactic
import Derived.Deep.RegionWith
set_option linter.unusedVariables false
set_option linter.unusedSimpArgs false
namespace Go.Proofs.YtkcbcdfcpchgcaaDoor
open Go.RowKit
open OrdP (inB Rel wround warshall)

/-- An order in memory of the call's own. -/
structure OrdOwn (w : World) (b bu bd n : Nat) (u d : Nat → Nat) : Prop extends OrdAt w b bu bd n u d where
  fu : ∀ i, i < n → w.frozen? ⟨bu, i, none⟩ = false
  fd : ∀ i, i < n → w.frozen? ⟨bd, i, none⟩ = false
  n1 : b ≠ bu
  n2 : b ≠ bd
  n3 : bu ≠ bd

def upd (u : Nat → Nat) (i v : Nat) : Nat → Nat := fun j => if j = i then v else u j

theorem OrdAt.drewN {w : World} {b bu bd n : Nat} {u d : Nat → Nat} (h : OrdAt w b bu bd n u d) (q : Nat) : OrdAt (w.drewN q) b bu bd n u d := ⟨h.up, h.down, h.us, h.ds⟩
theorem OrdOwn.drewN {w : World} {b bu bd n : Nat} {u d : Nat → Nat} (h : OrdOwn w b bu bd n u d) (q : Nat) : OrdOwn (w.drewN q) b bu bd n u d := ⟨h.toOrdAt.drewN q, h.fu, h.fd, h.n1, h.n2, h.n3⟩
theorem OrdOwn.drew {w : World} {b bu bd n : Nat} {u d : Nat → Nat} (h : OrdOwn w b bu bd n u d) : OrdOwn w.drew b bu bd n u d := h.drewN 1

theorem cell_set_ne {w : World} {p q : Addr} {v : Value} (h : p.block ≠ q.block) : (w.setCell p v).cell? q = w.cell? q := World.cell?_of_block (Below.heap_setCell w p v q.block (fun e => h e.symm))
theorem cell_set_off {w : World} {b i j : Nat} {v : Value} (h : i ≠ j) : (w.setCell ⟨b, i, none⟩ v).cell? ⟨b, j, none⟩ = w.cell? ⟨b, j, none⟩ := by
  simp only [World.cell?, World.setCell, Array.getElem?_modify]
  cases hh : w.heap[b]? with
  | none => simp
  | some o => cases o <;> simp [Array.getElem?_setIfInBounds, h]
theorem cell_set_same {w : World} {b i : Nat} {v x : Value} (h : w.cell? ⟨b, i, none⟩ = some x) : (w.setCell ⟨b, i, none⟩ v).cell? ⟨b, i, none⟩ = some v := World.cell?_setCell_same' _ _ _ (by rw [h]; rfl)

theorem OrdOwn.setUp {w : World} {b bu bd n : Nat} {u d : Nat → Nat} (h : OrdOwn w b bu bd n u d) {i : Nat} (hi : i < n) (v : Nat) : OrdOwn (w.setCell ⟨bu, i, none⟩ (.int .u32 (v : Int))) b bu bd n (upd u i v) d := by
  refine ⟨⟨?_, ?_, fun j hj => ?_, fun j hj => ?_⟩, fun j hj => by rw [World.frozen?_setCell]; exact h.fu j hj, fun j hj => by rw [World.frozen?_setCell]; exact h.fd j hj, h.n1, h.n2, h.n3⟩
  · rw [cell_set_ne (fun e => h.n1 e.symm)]; exact h.up
  · rw [cell_set_ne (fun e => h.n1 e.symm)]; exact h.down
  · unfold upd
    by_cases e : j = i
    · subst e; rw [if_pos rfl]; exact cell_set_same (h.us j hi)
    · rw [if_neg e, cell_set_off (fun x => e x.symm)]; exact h.us j hj
  · rw [cell_set_ne h.n3]; exact h.ds j hj
theorem OrdOwn.setDown {w : World} {b bu bd n : Nat} {u d : Nat → Nat} (h : OrdOwn w b bu bd n u d) {i : Nat} (hi : i < n) (v : Nat) : OrdOwn (w.setCell ⟨bd, i, none⟩ (.int .u32 (v : Int))) b bu bd n u (upd d i v) := by
  refine ⟨⟨?_, ?_, fun j hj => ?_, fun j hj => ?_⟩, fun j hj => by rw [World.frozen?_setCell]; exact h.fu j hj, fun j hj => by rw [World.frozen?_setCell]; exact h.fd j hj, h.n1, h.n2, h.n3⟩
  · rw [cell_set_ne (fun e => h.n2 e.symm)]; exact h.up
  · rw [cell_set_ne (fun e => h.n2 e.symm)]; exact h.down
  · rw [cell_set_ne (fun e => h.n3 e.symm)]; exact h.us j hj
  · unfold upd
    by_cases e : j = i
    · subst e; rw [if_pos rfl]; exact cell_set_same (h.ds j hi)
    · rw [if_neg e, cell_set_off (fun x => e x.symm)]; exact h.ds j hj

/-- u's rows are R's, and have no bit from n on. -/
def Rows' (n : Nat) (u : Nat → Nat) (R : Rel) : Prop := (∀ i, i < n → u i < 2 ^ n) ∧ ∀ i, i < n → ∀ j, (u i).testBit j = R i j
/-- .. the first i of them being a round further. -/
def Half (n k i : Nat) (u : Nat → Nat) (R : Rel) : Prop := (∀ i, i < n → u i < 2 ^ n) ∧ ∀ m, m < n → ∀ j, (u m).testBit j = if m < i then wround R k m j else R m j

theorem lt32 {n x : Nat} (hn : n ≤ 32) (h : x < 2 ^ n) : x < 4294967296 := Nat.lt_of_lt_of_le h (Nat.pow_le_pow_right (by omega) hn : 2 ^ n ≤ 2 ^ 32)
theorem half_start {n k : Nat} {u : Nat → Nat} {R : Rel} (h : Rows' n u R) : Half n k 0 u R := ⟨h.1, fun m hm j => by simp [h.2 m hm j]⟩
theorem half_end {n k : Nat} {u : Nat → Nat} {R : Rel} (h : Half n k n u R) : Rows' n u (wround R k) := ⟨h.1, fun m hm j => by rw [h.2 m hm j, if_pos hm]⟩
theorem half_skip {n k i : Nat} {u : Nat → Nat} {R : Rel} (h : Half n k i u R) (hi : i < n) (ht : (u i).testBit k = false) : Half n k (i + 1) u R := by
  refine ⟨h.1, fun m hm j => ?_⟩
  rw [h.2 m hm j]
  by_cases e : m = i
  · subst e
    rw [h.2 m hi k, if_neg (by omega)] at ht
    rw [if_neg (by omega), if_pos (by omega)]
    simp [wround, ht]
  · by_cases e2 : m < i
    · rw [if_pos e2, if_pos (by omega)]
    · rw [if_neg e2, if_neg (by omega)]
theorem row_k {n k i : Nat} {u : Nat → Nat} {R : Rel} (h : Half n k i u R) (hk : k < n) (j : Nat) : (u k).testBit j = R k j := by
  rw [h.2 k hk j]
  split
  · simp only [wround]; cases R k j <;> simp
  · rfl
theorem half_step {n k i : Nat} {u : Nat → Nat} {R : Rel} (h : Half n k i u R) (hk : k < n) (hi : i < n) (ht : (u i).testBit k = true) : Half n k (i + 1) (upd u i (u i ||| u k)) R := by
  refine ⟨fun m hm => ?_, fun m hm j => ?_⟩
  · unfold upd; split
    · exact Nat.or_lt_two_pow (h.1 i hi) (h.1 k hk)
    · exact h.1 m hm
  · unfold upd
    by_cases e : m = i
    · subst e
      rw [if_pos rfl, if_pos (by omega), Nat.testBit_or, row_k h hk, h.2 m hi j, if_neg (by omega)]
      rw [h.2 m hi k, if_neg (by omega)] at ht
      simp [wround, ht]
    · rw [if_neg e, h.2 m hm j]
      by_cases e2 : m < i
      · rw [if_pos e2, if_pos (by omega)]
      · rw [if_neg e2, if_neg (by omega)]

/-- d's rows are the columns of u's first i rows, and of row i but for s. -/
def DRel (n i s : Nat) (u d : Nat → Nat) : Prop := (∀ j, j < n → d j < 2 ^ n) ∧ ∀ j, j < n → ∀ m, (d j).testBit m = (decide (m < i) && (u m).testBit j || (decide (m = i) && (u i).testBit j && !s.testBit j))
theorem drel_start {n : Nat} {u : Nat → Nat} : DRel n 0 (u 0) u (fun _ => 0) := ⟨fun j hj => Nat.two_pow_pos n, fun j hj m => by
  by_cases e : m = 0
  · subst e; cases h : (u 0).testBit j <;> simp [h]
  · simp [e]⟩
theorem drel_next {n i : Nat} {u d : Nat → Nat} (h : DRel n i 0 u d) : DRel n (i + 1) (u (i + 1)) u d := ⟨h.1, fun j hj m => by
  rw [h.2 j hj m]
  by_cases e : m = i
  · subst e; simp
  · by_cases e2 : m = i + 1
    · subst e2; cases h : (u (i + 1)).testBit j <;> simp [h]
    · have e3 : (m < i + 1) = (m < i) := by rw [eq_iff_iff]; omega
      simp [e, e2, e3]⟩
theorem drel_step {n i s c : Nat} {u d : Nat → Nat} (h : DRel n i s u d) (hi : i < n) (hc : OrdB.Low s c) (hcn : c < n) (hsub : ∀ j, s.testBit j = true → (u i).testBit j = true) :
    DRel n i (s &&& (s - 1)) u (upd d c (d c ||| 2 ^ i)) := by
  have h2 : 2 ^ i < 2 ^ n := Nat.pow_lt_pow_right (by omega) hi
  refine ⟨fun j hj => ?_, fun j hj m => ?_⟩
  · unfold upd; split
    · exact Nat.or_lt_two_pow (h.1 c hcn) h2
    · exact h.1 j hj
  · rw [hc.clear]
    unfold upd
    by_cases e : j = c
    · subst e
      rw [if_pos rfl, Nat.testBit_or, h.2 j hj m, Nat.testBit_two_pow]
      by_cases e2 : m = i
      · subst e2; simp [hsub j hc.bit, hc.bit]
      · have e3 : ¬ i = m := fun x => e2 x.symm
        simp [e2, e3]
    · rw [if_neg e, h.2 j hj m]
      simp [e]

theorem drel_end {n : Nat} {u d : Nat → Nat} {R : Rel} (h : DRel n n (u n) u d) (hu : Rows' n u R) : Rows' n d (fun j m => decide (m < n) && R m j) := ⟨h.1, fun j hj m => by
  rw [h.2 j hj m]
  by_cases e : m < n
  · have e2 : ¬ m = n := by omega
    simp [e, e2, hu.2 m e j]
  · cases hb : (u n).testBit j <;> simp [e]⟩
theorem pow_int {i n : Nat} (hi : i < n) (hn : n ≤ 32) : (2 : Int) ^ i % 4294967296 = ((2 ^ i : Nat) : Int) := by
  have h1 : 2 ^ i < 2 ^ 32 := Nat.pow_lt_pow_right (by omega) (by omega)
  have h3 : ((2 : Int) ^ i) = ((2 ^ i : Nat) : Int) := by push_cast; rfl
  rw [h3]
  generalize 2 ^ i = p at *
  omega
theorem low_lt {n s c : Nat} (h : OrdB.Low s c) (hs : s < 2 ^ n) : c < n := by
  apply Classical.byContradiction
  intro hc
  have := Nat.testBit_lt_two_pow (Nat.lt_of_lt_of_le hs (Nat.pow_le_pow_right (by omega) (show n ≤ c by omega)))
  rw [h.bit] at this; cases this

set_option maxHeartbeats 4000000 in
theorem close_in (B : Nat) (w : World) (ht : TabAt w) (hB0 : 0 < B) (b bu bd n : Nat) (u : Nat → Nat) (R : Rel) (hn : n ≤ 32) (ho : OrdOwn w b bu bd n u (fun _ => 0)) (hR : Rows' n u R) (hb1 : B ≤ bu) (hb2 : B ≤ bd) :
    Calls Tryd.prog 34 #[.pointer (some ⟨b, 0, none⟩)] w fun e w' => e = .returned (.tuple #[]) ∧ ∃ u' d', OrdOwn w' b bu bd n u' d' ∧ Rows' n u' (warshall R n) ∧ Rows' n d' (fun j m => decide (m < n) && warshall R n m j) ∧ Below B w w' := by
  have cu := ho.up
  go_enter Tryd.func34, Tryd.ntmps34
  go_wp2_with fail
  go_loopw [2, 11] (fun o i wr => ∃ (k : Nat) (u' : Nat → Nat), k ≤ n ∧ i = .int .i64 k ∧ OrdOwn wr b bu bd n u' (fun _ => 0) ∧ Rows' n u' (warshall R k) ∧ Below B w wr) (fun _ i _ => n - (intOf i).toNat)
  case atStart => exact ⟨0, u, Nat.zero_le _, rfl, ho, hR, Below.refl _ _⟩
  case round =>
    obtain ⟨k, u1, hk, rfl, ho1, hR1, hbel⟩ := hrel
    have cu1 := ho1.up
    by_cases hlt : k < n
    · go_wp2_with fail
      obtain ⟨wo, hwo⟩ : ∃ wo : World, wo = wr := ⟨_, rfl⟩
      go_loopw [3, 19] (fun o i wr => ∃ (m : Nat) (u' : Nat → Nat), m ≤ n ∧ i = .int .i64 m ∧ OrdOwn wr b bu bd n u' (fun _ => 0) ∧ Half n k m u' (warshall R k) ∧ Below B w wr) (fun _ i _ => n - (intOf i).toNat)
      case atStart => exact ⟨0, u1, Nat.zero_le _, rfl, ho1, half_start hR1, hbel⟩
      case round =>
        obtain ⟨m, u2, hm, rfl, ho2, hR2, hbel2⟩ := hrel
        have cu2 := ho2.up
        by_cases hmt : m < n
        · have cm := ho2.us m hmt
          have ck := ho2.us k hlt
          have fm := ho2.fu m hmt
          have l1 := lt32 hn (hR2.1 m hmt)
          have l2 := lt32 hn (hR2.1 k hlt)
          have b1 := bit_and1 (u2 m) k l1
          have b2 := u32_or_nat (u2 m) (u2 k) l1 l2
          cases tb : (u2 m).testBit k with
          | false =>
            have HR := Lib.hid (half_skip hR2 hmt tb)
            have HO := Lib.hid ho2
            rw [tb] at b1
            simp only [Bool.false_eq_true, if_false] at b1
            clear hR2 ho2 ck fm b2
            go_wp2_with fail
            go_roundw
            case rel => exact ⟨m + 1, u2, by omega, by go_num, HO.out, HR.out, hbel2⟩
            case measure => simp [intOf]; omega
          | true =>
            have HR := Lib.hid (half_step hR2 hlt hmt tb)
            have HO := Lib.hid (ho2.drew.setUp hmt (u2 m ||| u2 k))
            have HB := Lib.hid (hbel2.drew.setCell (p := ⟨bu, m, none⟩) hb1 (.int .u32 ((u2 m ||| u2 k : Nat) : Int)))
            rw [tb] at b1
            simp only [if_true] at b1
            clear hR2 ho2
            go_wp2_with fail
            go_region
            go_wp2_with fail
            go_roundw
            case rel => exact ⟨m + 1, _, by omega, by go_num, HO.out, HR.out, HB.out⟩
            case measure => simp [intOf]; omega
        · obtain rfl : m = n := by omega
          have HR := Lib.hid (half_end hR2)
          have HO := Lib.hid ho2
          clear hR2 ho2
          go_wp2_with fail
          go_roundw
          case rel => exact ⟨k + 1, u2, by omega, by go_num, HO.out, HR.out, hbel2⟩
          case measure => simp [intOf]; omega
    · obtain rfl : k = n := by omega
      have HR := Lib.hid hR1
      clear hR1
      go_wp2_with fail
      obtain ⟨wo, hwo⟩ : ∃ wo : World, wo = wr := ⟨_, rfl⟩
      go_loopw [4, 5, 56] (fun o s i wr => ∃ (m : Nat) (d' : Nat → Nat), m ≤ k ∧ i = .int .i64 m ∧ OrdOwn wr b bu bd k u1 d' ∧ DRel k m (u1 m) u1 d' ∧ Below B w wr) (fun _ _ i _ => k - (intOf i).toNat)
      case atStart => exact ⟨0, _, Nat.zero_le _, rfl, ho1, drel_start, hbel⟩
      case round =>
        obtain ⟨m, d1, hm, rfl, ho2, hD1, hbel2⟩ := hrel
        by_cases hmt : m < k
        · have cm := ho2.us m hmt
          have hum := HR.out.1 m hmt
          go_wp2_with fail
          obtain ⟨wo2, hwo2⟩ : ∃ wo : World, wo = wr := ⟨_, rfl⟩
          go_loopw [5] (fun s wr => ∃ (x : Nat) (d' : Nat → Nat), s = .int .u32 x ∧ x < 2 ^ k ∧ (∀ j, x.testBit j = true → (u1 m).testBit j = true) ∧ OrdOwn wr b bu bd k u1 d' ∧ DRel k m x u1 d' ∧ Below B w wr) (fun s _ => (intOf s).toNat)
          case atStart => exact ⟨u1 m, d1, rfl, hum, fun j h => h, ho2, hD1, hbel2⟩
          case round =>
            obtain ⟨x, d2, rfl, hx, hsub, ho3, hD2, hbel3⟩ := hrel
            by_cases hx0 : x = 0
            · subst hx0
              have HD := Lib.hid (drel_next hD2)
              have HO := Lib.hid ho3
              clear hD2 ho3 hwo hwo2 hsub ho2 hD1
              go_wp2_with fail
              go_roundw
              case rel => exact ⟨m + 1, d2, by omega, by go_num, HO.out, HD.out, hbel3⟩
              case measure => simp [intOf]; omega
            · have hx32 := lt32 hn hx
              obtain ⟨c, hlow⟩ := OrdB.low x hx0 hx32
              have hck := low_lt hlow hx
              have cx := ho3.ds c hck
              have fx := ho3.fd c hck
              have cd3 := ho3.down
              have hp := pow_int hmt hn
              have hne : ((x : Int) != 0) = true := by simp; omega
              have hor := u32_or_nat (d2 c) (2 ^ m) (lt32 hn (hD2.1 c hck)) (lt32 hn (Nat.pow_lt_pow_right (by omega) hmt))
              obtain ⟨y, hy⟩ : ∃ y : Nat, y = x - 1 := ⟨_, rfl⟩
              have hand := u32_and_nat x y hx32 (by omega)
              have hsub1 : ((x : Int) - 1) = (y : Int) := by omega
              have HY := Lib.hid hy; clear hy
              have hx1 : (1 : Int) ≤ x := by omega
              obtain ⟨p, hpp⟩ : ∃ p : Nat, p = 2 ^ m := ⟨_, rfl⟩
              rw [← hpp] at hp hor
              have HP := Lib.hid hpp; clear hpp
              have HL := Lib.hid hlow
              have HD := Lib.hid hD2; clear hD2
              have HO := Lib.hid ho3; clear ho3
              have HS := Lib.hid hsub; clear hsub
              have tw : TabAt wr := fun i hi => (hbel3.cell (p := ⟨_, i, none⟩) hB0).trans (ht i hi)
              have HT := Lib.hid tw; clear tw
              clear ht hwo hwo2 hD1 ho2 ho1
              go_wp2_with fail
              go_region_with (go_at_call 38; refine (ctz_in _ (by exact HT.out) x c hx0 hx32 HL.out).mono ?_; rintro e w' ⟨rfl, rfl⟩)
              all_goals
                go_wp2_with fail
                go_roundw
                case rel =>
                  have h1 := HP.out
                  subst h1
                  have h2 := HY.out
                  subst h2
                  refine ⟨x &&& (x - 1), upd d2 c (d2 c ||| 2 ^ m), rfl, Nat.lt_of_le_of_lt Nat.and_le_left hx, fun j hj => ?_, HO.out.drew.setDown hck _, drel_step HD.out hmt HL.out hck HS.out, hbel3.drew.setCell (p := ⟨bd, c, none⟩) hb2 _⟩
                  rw [HL.out.clear] at hj
                  exact HS.out j (by simp at hj; exact hj.1)
                case measure =>
                  have h2 := HY.out
                  subst h2
                  have := HL.out.less
                  simp [intOf]; omega
        · obtain rfl : m = k := by omega
          have HD := Lib.hid hD1
          have HO := Lib.hid ho2
          clear hD1 ho2 hwo
          go_wp2_with fail
          go_end0
          exact ⟨rfl, u1, d1, HO.out, HR.out, drel_end HD.out HR.out, hbel2⟩

end Go.Proofs.YtkcbcdfcpchgcaaDoor
