/- TypesOrder answers true. -/
import Derived.Test.YtpbiiigacfhbhaaDoorTypX
set_option linter.unusedVariables false
set_option linter.unusedSimpArgs false
namespace Go.Proofs.YtpbiiigacfhbhaaDoor
open Go.RowKit
open TypP (Kd Acy Occ Uni Step Txt TStep Sn Line Unis)

theorem below_nil {w w' : World} {B : Nat} (h : w.grownBy w' none) (hB : B ≤ w.heap.size) : Below B w w' :=
  ⟨h.os, h.tape, h.output, h.size, fun k hk => h.block k (by omega) (by simp)⟩
/-- What both orders come to. -/
theorem orders {k : Nat} {l l2 : List (Int × Int)} (he : ∀ p, p ∈ l2 ↔ p ∈ l) :
    ∃ (ok : Bool) (R1 R2 : Nat → Nat) (S : Nat → ByteArray), Unis (Kp k (k + 1)) (fun x => x) (l.map (nodes2 k)) ok R1 ∧ Unis (Kp k (k + 1)) (fun x => x) (l2.map (nodes2 k)) ok R2 ∧
      ∃ seq seq', (ok = true → Line (Kp k (k + 1)) R1 (2 * k + 4) (fun i => ((al k i : Nat) : Int)) (2 * k + 3) seq S) ∧ (ok = true → Line (Kp k (k + 1)) R2 (2 * k + 4) (fun i => ((al k i : Nat) : Int)) (2 * k + 3) seq' S) := by
  obtain ⟨r, hA⟩ := acyP k (k + 1) (Nat.le_refl _)
  rw [show 3 + k + (k + 1) = 2 * k + 4 by omega] at hA
  have hl : ∀ p ∈ l.map (nodes2 k), p.1 < 2 * k + 4 ∧ p.2 < 2 * k + 4 := fun p hp => by
    obtain ⟨q, _, rfl⟩ := List.mem_map.1 hp
    exact nodes2_lt k q
  have he' : ∀ p, p ∈ l2.map (nodes2 k) ↔ p ∈ l.map (nodes2 k) := fun p => by
    simp only [List.mem_map, he]
  have hl2 : ∀ p ∈ l2.map (nodes2 k), p.1 < 2 * k + 4 ∧ p.2 < 2 * k + 4 := fun p hp => hl p ((he' p).1 hp)
  obtain ⟨ok1, R1, u1⟩ := TypP.unis_total (K := Kp k (k + 1)) _ (fun x => x) hl ⟨r, hA⟩
  obtain ⟨ok2, R2, u2⟩ := TypP.unis_total (K := Kp k (k + 1)) _ (fun x => x) hl2 ⟨r, hA⟩
  obtain ⟨rfl, hlaw⟩ := TypP.order_law hl he' hA u1 u2
  cases ok1 with
  | false => exact ⟨false, R1, R2, fun _ => ByteArray.empty, u1, u2, fun _ => [], fun _ => [], (fun h => by cases h), (fun h => by cases h)⟩
  | true =>
    obtain ⟨hA1, _⟩ := TypP.unis_acy u1 hl ⟨r, hA⟩ (fun _ _ _ => rfl)
    obtain ⟨seq, S, hline⟩ := TypP.line_total hA1 (fun i => ((al k i : Nat) : Int)) (2 * k + 3)
    obtain ⟨seq', hline'⟩ := hlaw rfl _ _ _ _ hline
    exact ⟨true, R1, R2, S, u1, u2, seq, seq', fun _ => hline, fun _ => hline'⟩

set_option maxRecDepth 100000 in
set_option maxHeartbeats 16000000 in
theorem TypesOrder_in {w : World} {nv tv : Int} {A : Option Addr} {cap : Nat} {l : List (Int × Int)} (hn0 : 0 ≤ nv) (hn1 : nv < 256) (ht0 : 0 ≤ tv) (ht1 : tv < 256) (hl : PairsU w A l) (hb : ∀ p ∈ l, (0 ≤ p.1 ∧ p.1 < 256) ∧ (0 ≤ p.2 ∧ p.2 < 256)) :
    Calls Tryd.prog 4 #[.int .u8 nv, .slice A l.length cap, .int .u8 tv] w fun e w' => e = .returned (.bool true) ∧ Below w.heap.size w w' := by
  have HL := Lib.hid hl
  have HB := Lib.hid hb
  have hb0 := (Below.refl w.heap.size w).alloc (Nat.le_refl _) (.cells #[.int .u8 nv] 5)
  have hl0 := last w (.cells #[.int .u8 nv] 5)
  have H0 := Lib.hid (And.intro hb0 hl0)
  have hlive := lives_in (w.alloc (.cells #[.int .u8 nv] 5))
  clear hl hb hb0 hl0
  generalize hln : l.length = n0
  have HLN := Lib.hid hln
  clear hln
  go_enter Tryd.func4, Tryd.ntmps4
  go_wp2_with fail
  refine hlive.mono ?_
  clear hlive
  rintro e w1 ⟨rfl, hb1⟩
  have hs0 : (w.alloc (.cells #[.int .u8 nv] 5)).heap.size = w.heap.size + 1 := by simp
  have hbx : w1.heap[w.heap.size]? = some (.cells #[.int .u8 nv] 5) := (hb1.block _ (by omega)).trans H0.out.2
  have hB1 : Below w.heap.size w w1 := H0.out.1.trans (hb1.mono (by omega))
  have H1 := Lib.hid (And.intro hB1 hbx)
  have hbl1 := heap_lt hbx
  clear hb1 hs0 hbx hB1 H0
  by_cases hlen : 10 < n0
  · have hlive := lives_in w1
    go_wp2_with fail
    refine hlive.mono ?_
    clear hlive
    rintro e w2 ⟨rfl, hb2⟩
    have H2 := Lib.hid (H1.out.1.trans (hb2.mono H1.out.1.size))
    clear hb2
    go_wp2_with fail
    go_ret
    exact ⟨rfl, H2.out⟩
  have hlen2 : n0 ≤ 10 := by omega
  have hmf : ∀ (fn : Fn) (first cap : Array Value) (w : World), (Instr.makeFunc fn first cap).run Tryd.prog w = .ok (.func fn first cap) w := fun _ _ _ _ => rfl
  have hcl := Clone_in (c := cap) (HL.out.below H1.out.1) (by have := HLN.out; omega)
  rw [HLN.out] at hcl
  clear hlen
  go_wp2_with fail
  refine hcl.mono ?_
  clear hcl
  rintro e w2 ⟨s', rfl, hr2, hb2⟩
  have hbx2 := (hb2.block _ hbl1).trans H1.out.2
  have hB2 := H1.out.1.trans (hb2.mono H1.out.1.size)
  obtain ⟨A2, c2, rfl⟩ := row_form hr2
  rw [HLN.out] at hr2
  have H2 := Lib.hid (And.intro hr2 (And.intro hbx2 hB2))
  have hbl2 := heap_lt hbx2
  have hsz2 := hB2.size
  clear hr2 hb2 hbx2 hB2 H1 hbl1
  rw [HLN.out]
  obtain ⟨kk, hkk⟩ := Int.eq_ofNat_of_zero_le (show 0 ≤ nv % 5 from Int.emod_nonneg _ (by decide))
  have HKK := Lib.hid hkk
  clear hkk
  rcases Nat.eq_zero_or_pos n0 with h0 | h0
  subst h0
  go_wp2_with fail
  have hnil : l = [] := List.eq_nil_of_length_eq_zero HLN.out
  have HX := Lib.hid (show ∃ l2 : List (Int × Int), PairsU w2 A2 l2 ∧ (∀ p, p ∈ l2 ↔ p ∈ l) ∧ l2.length = 0 ∧ w2.heap[w.heap.size]? = some (.cells #[.int .u8 nv] 5) ∧ Below w.heap.size w w2 from ⟨l, .inl hnil, fun p => Iff.rfl, HLN.out, H2.out.2.1, H2.out.2.2⟩)
  clear H2 hbl2 hsz2 hnil
  generalize w2 = w7 at HX ⊢
  generalize A2 = A3 at HX ⊢
  generalize c2 = c3
  rotate_left
  obtain ⟨g, cg, eg, _⟩ := World.ownsRow.form H2.out.1 (by rw [HLN.out]; exact h0)
  have ea : A2 = some ⟨g, 0, none⟩ := by injection eg
  subst ea
  clear eg
  obtain ⟨q, hq⟩ := Int.eq_ofNat_of_zero_le (show 0 ≤ tv % (n0 : Int) from Int.emod_nonneg _ (by omega))
  have hql : q < n0 := by
    have := Int.emod_lt_of_pos tv (show (0 : Int) < n0 by omega)
    omega
  have hcap : n0 ≤ c2 ∧ c2 ≤ maxLen := by
    rcases H2.out.1.2 with ⟨e, _⟩ | ⟨g', cap', cur, e, _, _, h4, h5, _⟩
    · cases e
    · injection e with e1 e2 e3
      rw [HLN.out] at h4
      rw [e3]
      exact ⟨h4, h5⟩
  have hqc : q ≤ c2 := by omega
  have hqle : q ≤ n0 := by omega
  have hcq : ¬ c2 = q := by omega
  obtain ⟨hcap1, hcap2⟩ := hcap
  go_wp2_with fail
  rw [hq]
  clear hq
  go_still_tail 6, (by kernel_rfl)
  change wpList _ _ _ _ _ w2.drew
  have H5 := Lib.hid (show RowP w2.drew w1.heap.size (.slice (some ⟨g, 0, none⟩) n0 c2) l ∧ w2.drew.heap[w.heap.size]? = some (.cells #[.int .u8 nv] 5) ∧ Below w.heap.size w w2.drew from ⟨H2.out.1.drew, H2.out.2.1, H2.out.2.2.drew⟩)
  have hbl5 : w.heap.size < w2.drew.heap.size := hbl2
  clear hcq hqc hcap1 hcap2 H2 hbl2 hsz2
  generalize w2.drew = w5 at *
  have hlw := last w5 (.cells #[.slice (some ⟨g, q * 2, none⟩) (n0 - q) (c2 - q), .slice (some ⟨g, 0, none⟩) q c2] 50)
  have hgw := World.grownBy_alloc w5 (.cells #[.slice (some ⟨g, q * 2, none⟩) (n0 - q) (c2 - q), .slice (some ⟨g, 0, none⟩) q c2] 50) none
  have hlw2 := cellsOf2 hlw
  have hW : ∀ k, k < w5.heap.size → (w5.alloc (.cells #[.slice (some ⟨g, q * 2, none⟩) (n0 - q) (c2 - q), .slice (some ⟨g, 0, none⟩) q c2] 50)).heap[k]? = w5.heap[k]? := fun k hk => hgw.block k hk (by simp)
  have hld : (l.drop q).length = n0 - q := by rw [List.length_drop, HLN.out]
  have hlt : (l.take q).length = q := by rw [List.length_take, HLN.out]; omega
  have hgl : g < w5.heap.size := (row_lt H5.out.1 (k := g) rfl).2
  have hc := Concat_in (p1 := l.drop q) (p2 := l.take q) (by rw [hld]; exact hlw2.1) (by rw [hlt]; exact hlw2.2) (H5.out.1.news (hW g hgl) q) (H5.out.1.news' (hW g hgl) q) (by rw [hld, hlt]; omega) (by rw [hld, hlt]; omega)
  have HW := Lib.hid (show (w5.alloc (.cells #[.slice (some ⟨g, q * 2, none⟩) (n0 - q) (c2 - q), .slice (some ⟨g, 0, none⟩) q c2] 50)).heap[w.heap.size]? = some (.cells #[.int .u8 nv] 5) ∧ Below w.heap.size w (w5.alloc (.cells #[.slice (some ⟨g, q * 2, none⟩) (n0 - q) (c2 - q), .slice (some ⟨g, 0, none⟩) q c2] 50)) from
    ⟨(hW _ hbl5).trans H5.out.2.1, H5.out.2.2.alloc (by omega) _⟩)
  have HLL := Lib.hid (And.intro hld hlt)
  clear hlw hgw hlw2 hW hld hlt hgl
  go_wp2_with fail
  refine hc.mono ?_
  clear hc
  rintro e w6 ⟨v', rfl, hr6, hb6⟩
  have hlen6 : (l.drop q ++ l.take q).length = n0 := by rw [List.length_append, HLL.out.1, HLL.out.2]; omega
  obtain ⟨g2, c3, ev, hg2, _⟩ := World.ownsRow.form hr6 (by rw [hlen6]; exact h0)
  rw [hlen6] at ev
  subst ev
  have hbx6 := (hb6.block _ (heap_lt HW.out.1)).trans HW.out.1
  have hB6 := HW.out.2.trans (hb6.mono HW.out.2.size)
  have hc := Reverse_in hr6 hlen6.symm h0 (by omega)
  have hne : w.heap.size ≠ g2 := by
    have := heap_lt HW.out.1
    omega
  have hgB : w.heap.size ≤ g2 := by
    have := HW.out.2.size
    omega
  have H6 := Lib.hid (And.intro hbx6 (And.intro hB6 (And.intro hne hgB)))
  have HL6 := Lib.hid hlen6
  clear hr6 hb6 hbx6 hB6 hne hgB hlen6 hg2
  go_wp2_with fail
  refine hc.mono ?_
  clear hc
  rintro e w7 ⟨rfl, hr7, hg7⟩
  have HX := Lib.hid (show ∃ l2 : List (Int × Int), PairsU w7 (some ⟨g2, 0, none⟩) l2 ∧ (∀ p, p ∈ l2 ↔ p ∈ l) ∧ l2.length = n0 ∧ w7.heap[w.heap.size]? = some (.cells #[.int .u8 nv] 5) ∧ Below w.heap.size w w7 from
    ⟨(l.drop q ++ l.take q).reverse, hr7.pairs, fun p => by
      rw [List.mem_reverse, List.mem_append, or_comm, ← List.mem_append, List.take_append_drop], by rw [List.length_reverse, HL6.out], (hg7.block _ (heap_lt H6.out.1) (by simpa using H6.out.2.2.1)).trans H6.out.1, H6.out.2.1.trans (below_grown hg7 H6.out.2.2.2 H6.out.2.1.size)⟩)
  clear hr7 hg7 H6 HW H5 HLL HL6 hbl5 hql hqle
  go_wp2_with fail
  generalize (some ⟨g2, 0, none⟩ : Option Addr) = A3 at HX ⊢
  rotate_left
  all_goals
    obtain ⟨l2, hp2, hmem, hlen', hbx, hb7⟩ := HX.out
    obtain ⟨ok, R1, R2, S, u1, u2, seq, seq', hl1, hl2⟩ := orders (k := kk) hmem
    have hc1 := made_in (cap := cap) (cellOf1 hbx) hn0 hn1 HKK.out (HL.out.below hb7) HB.out (by have := HLN.out; omega) u1 hl1
    rw [HLN.out] at hc1
    have HM := Lib.hid (And.intro hp2 (And.intro hmem (And.intro hlen' (And.intro hbx (And.intro hb7 (And.intro u2 hl2))))))
    have hbl7 := heap_lt hbx
    clear hp2 hmem hlen' hbx hb7 u1 u2 hl1 hl2 HX
    refine hc1.mono ?_
    clear hc1
    intro e w8 hm8
    have hb8 : Below w7.heap.size w7 w8 := by
      rcases hm8 with ⟨_, _, _, _, h⟩ | ⟨_, _, h⟩
      · exact h
      · exact h
    have hbx8 := (hb8.block _ hbl7).trans HM.out.2.2.2.1
    have hB8 := HM.out.2.2.2.2.1.trans (hb8.mono HM.out.2.2.2.2.1.size)
    have hc2 := made_in (cap := c3) (cellOf1 hbx8) hn0 hn1 HKK.out (HM.out.1.below hb8) (fun p hp => HB.out p ((HM.out.2.1 p).1 hp)) (by have := HM.out.2.2.1; omega) HM.out.2.2.2.2.2.1 HM.out.2.2.2.2.2.2
    rw [HM.out.2.2.1] at hc2
    have hs8 := hB8.size
    have H8 := Lib.hid hB8
    have hm8' : ∃ (b : Bool) (o1 : Value) (m : Nat) (B1 : Nat), ok = b ∧ e = .returned (.tuple #[o1, .bool b]) ∧ m = (if b then 2 * kk + 3 else 0) ∧ RowS w8 B1 o1 S m ∧ (b = false → o1 = .slice none 0 0) := by
      rcases hm8 with ⟨h1, o, h2, h3, _⟩ | ⟨h1, h2, _⟩
      · exact ⟨true, o, _, _, h1, h2, rfl, h3, fun h => by cases h⟩
      · exact ⟨false, _, 0, 0, h1, h2, rfl, World.ownsRow_nil _ _ _ _, fun _ => rfl⟩
    obtain ⟨b, o1, m, B1, rfl, rfl, hmb, hr1, _⟩ := hm8'
    have hm100 : m ≤ 100 := by
      have := HKK.out
      split at hmb <;> omega
    have HR1 := Lib.hid hr1
    have HMB := Lib.hid hmb
    clear hm8 hb8 hbx8 hB8 hr1 hmb HM hbl7
    go_wp2_with fail
    refine hc2.mono ?_
    clear hc2
    intro e w9 hm9
    have hb9 : Below w8.heap.size w8 w9 := by
      rcases hm9 with ⟨_, _, _, _, h⟩ | ⟨_, _, h⟩
      · exact h
      · exact h
    have hm9' : ∃ (o2 : Value) (B2 : Nat), e = .returned (.tuple #[o2, .bool ok]) ∧ RowS w9 B2 o2 S m := by
      rcases hm9 with ⟨h1, o, h2, h3, _⟩ | ⟨h1, h2, _⟩
      · subst h1
        exact ⟨o, _, h2, by rw [HMB.out]; exact h3⟩
      · subst h1
        exact ⟨_, 0, h2, by rw [HMB.out]; exact World.ownsRow_nil _ _ _ _⟩
    obtain ⟨o2, B2, rfl, hr2⟩ := hm9'
    have H9 := Lib.hid (And.intro (row_below HR1.out hb9) (And.intro hr2 (H8.out.trans (hb9.mono hs8))))
    clear hm9 hb9 hr2 HR1 HMB hs8 H8
    go_wp2_with fail
    refine (Pair_nil _).mono ?_
    rintro e w' ⟨rfl, rfl⟩
    have hce := Equal_in H9.out.1 H9.out.2.1 hm100
    go_wp2_with fail
    refine hce.mono ?_
    clear hce
    rintro e w10 ⟨rfl, hg10⟩
    have H10 := Lib.hid (H9.out.2.2.trans (below_nil hg10 H9.out.2.2.size))
    clear hg10 H9
    go_wp2_with fail
    refine (Unify_nil _).mono ?_
    rintro e w' ⟨rfl, rfl⟩
    go_wp2_with fail
    refine (Var_nil _).mono ?_
    rintro e w' ⟨rfl, rfl⟩
    have hl10 := cellOf1 (last w10 (.cells #[.int .i64 0] 35))
    have hcs := Show_nil hl10
    have hb10 := H10.out.alloc H10.out.size (.cells #[.int .i64 0] 35)
    have HB10 := Lib.hid hb10
    clear hl10 hb10
    go_wp2_with fail
    refine hcs.mono ?_
    clear hcs
    rintro e w11 ⟨o, rfl, hr11, hg11⟩
    have hl11 := last w11 (.cells #[.string .empty] 9)
    have hrow : RowS (w11.alloc (.cells #[.string .empty] 9)) 0 (.slice (some ⟨w11.heap.size, 0, none⟩) 1 1) (fun _ => ByteArray.empty) 1 := ⟨by rfl, .inr ⟨w11.heap.size, 1, _, rfl, Nat.zero_le _, hl11, by decide, by decide, by rfl, by rfl⟩⟩
    have hce := Equal_in (hr11.alloc (.cells #[.string .empty] 9)) hrow (by decide)
    have hb11 := (HB10.out.trans (below_nil hg11 HB10.out.size)).alloc (Nat.le_trans HB10.out.size hg11.size) (.cells #[.string .empty] 9)
    have H11 := Lib.hid hb11
    clear hl11 hrow hr11 hg11 hb11 HB10 H10
    go_wp2_with fail
    refine hce.mono ?_
    clear hce
    rintro e w12 ⟨rfl, hg12⟩
    have H12 := Lib.hid (H11.out.trans (below_nil hg12 H11.out.size))
    clear hg12 H11
    go_wp2_with fail
    go_ret
    exact ⟨by simp, H12.out⟩
end Go.Proofs.YtpbiiigacfhbhaaDoor
