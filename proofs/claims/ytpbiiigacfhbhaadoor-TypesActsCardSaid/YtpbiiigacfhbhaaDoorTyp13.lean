/- TypesActs answers true. -/
import Derived.Test.YtpbiiigacfhbhaaDoorTyp12
import Derived.Deep.DeepCutAuto
import Derived.Deep.CutBlock
import Derived.Deep.LoopGhost
set_option linter.unusedVariables false
set_option linter.unusedSimpArgs false
namespace Go.Proofs.YtpbiiigacfhbhaaDoor
open Go.RowKit
open TypP (Kd Acy Occ Uni Step Txt TStep Sn Line)

/-- The program's types and the reference's, of one kind each. -/
structure Both (B t t2 n g cap g2 cap2 : Nat) (K : Nat → Kd) (R d d2 : Nat → Nat) (c c2 : Nat → List Value) (w : World) : Prop where
  acy : ∃ r, Acy K R n r
  p : PSto w B t g cap n c
  ps : PS K R n d c
  r : RSto w B t2 g2 cap2 n c2
  rs : RS K R n d2 c2
theorem apartPR {B t t2 n g cap g2 cap2 n2 : Nat} {c c2 : Nat → List Value} {w : World} (hp : PSto w B t g cap n c) (hr : RSto w B t2 g2 cap2 n2 c2) : t ≠ t2 ∧ t ≠ g2 ∧ g ≠ t2 ∧ g ≠ g2 := by
  obtain ⟨cu, h1⟩ := PSto.objs hp
  obtain ⟨cu2, h2⟩ := PSto.objs hr
  have h3 := hp.obj
  have h4 := hr.obj
  refine ⟨fun e => ?_, fun e => ?_, fun e => ?_, fun e => ?_⟩
  · rw [e, h4] at h3; simp at h3
  · rw [e, h2] at h3; simp at h3
  · rw [e, h4] at h1; simp at h1
  · rw [e, h2] at h1; simp at h1
def LawAt (B t t2 n : Nat) (w : World) : Prop := ∃ g cap g2 cap2 K R d d2 c c2, Both B t t2 n g cap g2 cap2 K R d d2 c c2 w

theorem Both.push {B t t2 n g cap g2 cap2 : Nat} {K : Nat → Kd} {R d d2 : Nat → Nat} {c c2 : Nat → List Value} {w : World} (h : Both B t t2 n g cap g2 cap2 K R d d2 c c2 w) (k : Kd) (hk : ∀ a b, k = .pair a b → a < n ∧ b < n) (hB : B ≤ w.heap.size) {w5 w6 : World} {ga ca gb cb : Nat}
    (hs5 : PSto w5 B t ga ca (n + 1) (upd c n [.int .i64 (Kd.code k), .int .i64 (Kd.fst k), .int .i64 (Kd.snd k)])) (hm5 : Moved w w5 t g)
    (hs6 : RSto w6 B t2 gb cb (n + 1) (upd c2 n [.int .i64 (Kd.code k), .int .i64 (Kd.fst k), .int .i64 (Kd.snd k), .int .i64 (-1)])) (hm6 : Moved w5 w6 t2 g2) : LawAt B t t2 (n + 1) w6 ∧ Below B w w6 := by
  obtain ⟨f1, f2, f3, f4⟩ := apartPR h.p h.r
  have hr5 := h.r.moved hm5 f1.symm f3.symm f2.symm f4.symm
  obtain ⟨e1, e2, e3, e4⟩ := apartPR hs5 hr5
  have hge := h.p.ge
  have hge2 := h.r.ge
  exact ⟨⟨_, _, _, _, _, _, _, _, _, _, acy_push h.acy hk, hs5.moved hm6 e1 e2 e3 e4, h.ps.push k, hs6, h.rs.push k⟩, (hm5.below hge.1 hge.2 hB).trans (hm6.below hge2.1 hge2.2 (Nat.le_trans hB hm5.size))⟩
theorem row_base {w : World} {B B' e s m : Nat} {v : Value} {xs : List Value} (h : w.ownsRow B e s v m xs) (hb : B' ≤ B) : w.ownsRow B' e s v m xs := by
  refine ⟨h.1, ?_⟩
  rcases h.2 with h0 | ⟨g', cap, cur, rfl, h2, h3, h4⟩
  · exact .inl h0
  · exact .inr ⟨g', cap, cur, rfl, by omega, h3, h4⟩

theorem rows_push {wc wz wa : World} {e k g' cap' : Nat} {f : Nat → Value} {o : Value} (hr : wz.ownsRow wc.heap.size e 1 o k ((List.range k).map f)) (hg : wc.grownBy wz none) {a : Obj} (hown : wa.ownsRow wc.heap.size e 1 (.slice (some ⟨g', 0, none⟩) (k + 1) cap') (k + 1) (((List.range k).map f) ++ [f k])) (hgrow : (wz.alloc a).grownBy wa o.ownBlock) :
    wa.ownsRow wc.heap.size e 1 (.slice (some ⟨g', 0, none⟩) (k + 1) cap') (k + 1) ((List.range (k + 1)).map f) ∧ wc.grownBy wa none ∧
      ∀ {B' e' s' m' : Nat} {v' : Value} {xs' : List Value}, wz.ownsRow B' e' s' v' m' xs' → e ≠ e' → wa.ownsRow B' e' s' v' m' xs' := by
  refine ⟨?_, ?_, fun h hne => ?_⟩
  · rw [List.range_succ, List.map_append]
    exact hown
  · have g1 := grown_alloc hg a
    refine ⟨hgrow.os.trans g1.os, hgrow.tape.trans g1.tape, hgrow.output.trans g1.output, Nat.le_trans g1.size hgrow.size, fun k hk hg => ?_⟩
    refine (hgrow.block k (Nat.lt_of_lt_of_le hk g1.size) (fun e => ?_)).trans (g1.block k hk hg)
    have := (row_lt hr e.symm).1
    omega
  · exact grown_row hgrow (grown_row (World.grownBy_alloc wz a none) h (fun _ _ => by simp)) (fun k e e' => far_rows hr h hne e' e)
theorem below_none {w w' : World} {B : Nat} (h : w.grownBy w' none) (hB : B ≤ w.heap.size) : Below B w w' :=
  ⟨h.os, h.tape, h.output, h.size, fun k hk => h.block k (by omega) (by simp)⟩

def actIn (n : Nat) (x y : Int) : Bool := decide (0 ≤ x ∧ 0 ≤ y ∧ x < n ∧ y < n)

set_option maxRecDepth 100000 in
set_option maxHeartbeats 16000000 in
theorem TypesActs_in {w : World} {A : Option Addr} {cap : Nat} {l : List (Int × Int × Int)} (hl : ActsAt w A l) (hk : ∀ p ∈ l, (0 ≤ p.1 ∧ p.1 < 256) ∧ (-128 ≤ p.2.1 ∧ p.2.1 < 128) ∧ (-128 ≤ p.2.2 ∧ p.2.2 < 128)) :
    Calls Tryd.prog 3 #[.slice A l.length cap] w fun e w' => e = .returned (.bool true) ∧ Below w.heap.size w w' := by
  have HL := Lib.hid hl
  have HK := Lib.hid hk
  have hlive := lives_in w
  clear hl hk
  go_enter Tryd.func3, Tryd.ntmps3
  go_wp2_with fail
  refine hlive.mono ?_
  clear hlive
  rintro e w1 ⟨rfl, hb1⟩
  have H1 := Lib.hid hb1
  clear hb1
  by_cases hlen : 40 < l.length
  · have hlive := lives_in w1
    go_wp2_with fail
    refine hlive.mono ?_
    clear hlive
    rintro e w2 ⟨rfl, hb2⟩
    have H2 := Lib.hid (H1.out.trans (hb2.mono H1.out.size))
    clear hb2
    go_wp2_with fail
    go_ret
    exact ⟨rfl, H2.out⟩
  have hbig := big_in (cap := cap) (HL.out.below H1.out) (fun p hp => (HK.out p hp).1) (by omega)
  go_wp2_with fail
  refine hbig.mono ?_
  clear hbig
  rintro e w2 ⟨b, rfl, hb2⟩
  have H2 := Lib.hid (H1.out.trans (hb2.mono H1.out.size))
  clear hb2
  cases b with
  | true =>
    have hlive := lives_in w2
    go_wp2_with fail
    refine hlive.mono ?_
    clear hlive
    rintro e w3 ⟨rfl, hb3⟩
    have H3 := Lib.hid (H2.out.trans (hb3.mono H2.out.size))
    clear hb3
    go_wp2_with fail
    go_ret
    exact ⟨rfl, H3.out⟩
  | false =>
    have hnew := New_in (w := w2) (B := w.heap.size) H2.out.size
    go_wp2_with fail
    refine hnew.mono ?_
    clear hnew
    rintro e w3 ⟨t, g0, rfl, hs3, hb3, ht, hg⟩
    have H3 := Lib.hid (H2.out.trans (hb3.mono H2.out.size))
    have hnew := RNew_in (w := w3) (B := w.heap.size) H3.out.size
    have HS3 := Lib.hid hs3
    clear hb3 hs3
    go_wp2_with fail
    refine hnew.mono ?_
    clear hnew
    rintro e w4 ⟨t2, g20, rfl, hs4, hb4, ht2, hg2⟩
    have H4 := Lib.hid (H3.out.trans (hb4.mono H3.out.size))
    have hl4 : LawAt w.heap.size t t2 3 w4 := ⟨g0, 3, g20, 3, K0, fun x => x, _, _, c0, r0, ⟨_, acy0⟩, HS3.out.keep (hb4.block t HS3.out.lt.1) (hb4.block g0 HS3.out.lt.2), ps0, hs4, rs0⟩
    have HL4 := Lib.hid hl4
    clear hb4 hs4 hl4
    go_wp2_with fail
    go_loopg [32] l.length (fun gk iv wr => ∃ i n : Nat, iv = .int .i64 i ∧ i + gk = l.length ∧ n ≤ 3 + i ∧ LawAt w.heap.size t t2 n wr ∧ Below w.heap.size w wr)
    case atStart => exact ⟨0, 3, rfl, by omega, by omega, HL4.out, H4.out⟩
    case round =>
      obtain ⟨i, n, rfl, hi, hn, hat, hb⟩ := hrel
      have HAT := Lib.hid hat
      have HB := Lib.hid hb
      clear hat hb HL4
      by_cases e : i = l.length
      · subst e
        go_wp2_with fail
        go_ret
        exact ⟨rfl, HB.out⟩
      · have him : i < l.length := by omega
        rcases HL.out.below HB.out with hl' | ⟨b, off, hA, hc⟩
        · rw [hl'] at him
          simp at him
        · subst hA
          obtain ⟨h1, h2, h3⟩ := hc i him
          have hkk := HK.out (l.getD i (0, 0, 0)) (by simp [List.getD, him])
          have hlt := cell_lt h1
          clear hc
          have HB' := Lib.hid (HB.out.alloc HB.out.size (.cells #[.int .u8 (l.getD i (0, 0, 0)).1, .int .i8 (l.getD i (0, 0, 0)).2.1, .int .i8 (l.getD i (0, 0, 0)).2.2] 31))
          obtain ⟨hk1, hk2, hk3⟩ := hkk
          have hl5 := last wr (.cells #[.int .u8 (l.getD i (0, 0, 0)).1, .int .i8 (l.getD i (0, 0, 0)).2.1, .int .i8 (l.getD i (0, 0, 0)).2.2] 31)
          generalize (l.getD i (0, 0, 0)).1 = k at *
          generalize (l.getD i (0, 0, 0)).2.1 = x at *
          generalize (l.getD i (0, 0, 0)).2.2 = y at *
          obtain ⟨g, cp, g2, cp2, K, R, d, d2, c, c2, hbo⟩ := HAT.out
          have hbo2 : Both w.heap.size t t2 n g cp g2 cp2 K R d d2 c c2 (wr.alloc (.cells #[.int .u8 k, .int .i8 x, .int .i8 y] 31)) := ⟨hbo.acy, hbo.p.alloc _, hbo.ps, hbo.r.alloc _, hbo.rs⟩
          have top := hbo.r.top
          have htl := hbo.r.lt.1
          have HBO := Lib.hid hbo2
          clear HAT hbo hbo2
          go_upto_region 7 with fail
          go_region
          have HBO2 := Lib.hid (show Both w.heap.size t t2 n g cp g2 cp2 K R d d2 c c2 (wr.alloc (.cells #[.int .u8 k, .int .i8 x, .int .i8 y] 31)).drew from ⟨HBO.out.acy, HBO.out.p.drew, HBO.out.ps, HBO.out.r.drew, HBO.out.rs⟩)
          have HB2 := Lib.hid HB'.out.drew
          have q0 : (wr.alloc (.cells #[.int .u8 k, .int .i8 x, .int .i8 y] 31)).drew.cell? ⟨wr.heap.size, 0, none⟩ = some (.int .u8 k) := (cellsOf3 hl5).1
          clear HBO HB HB' hl5 top htl h1 h2 h3 hlt
          generalize (wr.alloc (.cells #[.int .u8 k, .int .i8 x, .int .i8 y] 31)).drew = wx at *
          generalize wr.heap.size = ka at *
          have top := HBO2.out.r.top
          go_upto_region 8 with fail
          go_cut [9] (fun inv wy => inv = .bool (actIn n x y) ∧ wy = wx)
          case first =>
            have hof : actIn n x y = decide (0 ≤ x ∧ 0 ≤ y ∧ x < n ∧ y < n) := rfl
            have HOF := Lib.hid hof
            clear hof
            by_cases c1 : 0 ≤ x
            · by_cases c2 : 0 ≤ y
              · by_cases c3 : x < n
                · by_cases c4 : y < n
                  · go_wp2_with fail
                    go_meet
                    exact ⟨by rw [HOF.out, decide_eq_true (by omega)], rfl⟩
                  · have c4' : decide (y < (n : Int)) = false := decide_eq_false c4
                    go_wp2_with fail
                    go_meet
                    exact ⟨by rw [HOF.out, decide_eq_false (by omega)], rfl⟩
                · have c3' : decide (x < (n : Int)) = false := decide_eq_false c3
                  go_wp2_with fail
                  go_meet
                  exact ⟨by rw [HOF.out, decide_eq_false (by omega)], rfl⟩
              · have c2' : decide (0 ≤ y) = false := decide_eq_false c2
                go_wp2_with fail
                go_meet
                exact ⟨by rw [HOF.out, decide_eq_false (by omega)], rfl⟩
            · have c1' : decide (0 ≤ x) = false := decide_eq_false c1
              go_wp2_with fail
              go_meet
              exact ⟨by rw [HOF.out, decide_eq_false (by omega)], rfl⟩
          case rest =>
            obtain ⟨rfl, rfl⟩ := hcut
            have hge := HBO2.out.p.ge
            have hge2 := HBO2.out.r.ge
            have hbl : w.heap.size ≤ wc.heap.size := HB2.out.size
            have HF := Lib.hid (apartPR HBO2.out.p HBO2.out.r)
            have HOF := Lib.hid (show actIn n x y = decide (0 ≤ x ∧ 0 ≤ y ∧ x < n ∧ y < n) from rfl)
            clear top
            go_upto_block 2 with fail
            go_cut [9] from 33 to 119 (fun _ wy => ∃ n', n' ≤ 3 + (i + 1) ∧ LawAt w.heap.size t t2 n' wy ∧ Below w.heap.size w wy)
            case first =>
              have hk3' : k % 3 = 0 ∨ k % 3 = 1 ∨ k % 3 = 2 := by omega
              rcases hk3' with hk0 | hk0 | hk0
              have hc := Var_in HBO2.out.p (show n < 1000 by omega)
              go_wp2_with fail
              refine hc.mono ?_
              clear hc
              rintro e w5 ⟨rfl, ga, ca, hs5, hm5, hg5⟩
              have hr5 := HBO2.out.r.moved hm5 HF.out.1.symm HF.out.2.2.1.symm HF.out.2.1.symm HF.out.2.2.2.symm
              have hc := RVar_in hr5 (show n < 1000 by omega)
              have H5 := Lib.hid (And.intro hs5 hm5)
              clear hs5 hm5 hr5
              go_wp2_with fail
              refine hc.mono ?_
              clear hc
              rintro e w6 ⟨rfl, gb, cb, hs6, hm6, hg6⟩
              have hpu := HBO2.out.push .opn (fun a b e => by cases e) hbl H5.out.1 H5.out.2 hs6 hm6
              have HLA := Lib.hid hpu.1
              have HBZ := Lib.hid (HB2.out.trans hpu.2)
              have hn' : n + 1 ≤ 3 + (i + 1) := by omega
              clear hs6 hm6 H5 hpu HBO2 hg5 hg6 hge hge2 hk0 hbl HB2 HF HOF hn q0
              go_wp2_with fail
              go_meet
              exact ⟨n + 1, hn', HLA.out, HBZ.out⟩
              have hc := Pair_in HBO2.out.p (show n < 1000 by omega) x y
              go_wp2_with fail
              refine hc.mono ?_
              clear hc
              rintro e w5 hor
              rcases hor.symm with ⟨hin, rfl, rfl⟩ | ⟨hin, rfl, ga, ca, hs5, hm5, hg5⟩
              · clear hor
                have ha : actIn n x y = false := by
                  rw [HOF.out]
                  exact decide_eq_false (by omega)
                rw [ha]
                clear ha hin
                go_wp2_with fail
                go_roundg (gk - 1)
                case measure => omega
                case rel => exact ⟨i + 1, n, rfl, by omega, by omega, ⟨_, _, _, _, _, _, _, _, _, _, HBO2.out⟩, HB2.out⟩
              clear hor
              have ha : actIn n x y = true := by
                rw [HOF.out]
                exact decide_eq_true (by omega)
              rw [ha]
              obtain ⟨a, rfl⟩ := Int.eq_ofNat_of_zero_le hin.1
              obtain ⟨b', rfl⟩ := Int.eq_ofNat_of_zero_le hin.2.2.1
              have hr5 := HBO2.out.r.moved hm5 HF.out.1.symm HF.out.2.2.1.symm HF.out.2.1.symm HF.out.2.2.2.symm
              have hc := RPair_in hr5 (show n < 1000 by omega) a b'
              have H5 := Lib.hid (And.intro hs5 hm5)
              have HIN := Lib.hid hin
              clear hs5 hm5 hr5 ha hin
              go_wp2_with fail
              refine hc.mono ?_
              clear hc
              rintro e w6 ⟨rfl, gb, cb, hs6, hm6, hg6⟩
              have hpu := HBO2.out.push (.pair a b') (fun p q e => by
                cases e
                have := HIN.out
                omega) hbl H5.out.1 H5.out.2 hs6 hm6
              have HLA := Lib.hid hpu.1
              have HBZ := Lib.hid (HB2.out.trans hpu.2)
              have hn' : n + 1 ≤ 3 + (i + 1) := by omega
              clear hs6 hm6 H5 hpu HBO2 hg5 hg6 hge hge2 hk0 hbl HB2 HF HOF hn q0 HIN
              go_wp2_with fail
              go_meet
              exact ⟨n + 1, hn', HLA.out, HBZ.out⟩
              have hc := Unify_in HBO2.out.acy HBO2.out.p HBO2.out.ps x y
              go_wp2_with fail
              refine hc.mono ?_
              clear hc
              rintro e w5 (⟨hin, rfl, rfl⟩ | ⟨a, b', ok, R', rfl, rfl, ha, hb', hu, rfl, d5, c5, hs5, hp5, hg5⟩)
              · have ha : actIn n x y = false := by
                  rw [HOF.out]
                  exact decide_eq_false (by omega)
                rw [ha]
                clear ha hin
                go_wp2_with fail
                go_roundg (gk - 1)
                case measure => omega
                case rel => exact ⟨i + 1, n, rfl, by omega, by omega, ⟨_, _, _, _, _, _, _, _, _, _, HBO2.out⟩, HB2.out⟩
              have hat : actIn n a b' = true := by
                rw [HOF.out]
                exact decide_eq_true (by omega)
              rw [hat]
              have hr5 := HBO2.out.r.grown hg5 (by simpa using HF.out.2.2.1) (by simpa using HF.out.2.2.2)
              have hc := One_in hu ha hb' HBO2.out.acy d2 c2 w5 hr5 HBO2.out.rs
              have HAC := Lib.hid (TypP.uni_acy hu ha hb' HBO2.out.acy)
              have hf5 := apartPR hs5 hr5
              have H5 := Lib.hid (And.intro hs5 (And.intro hp5 (And.intro hg5 hf5)))
              clear hs5 hp5 hg5 hu hr5 hat ha hb' hf5
              cases ok
              · go_wp2_with fail
                refine hc.mono ?_
                clear hc
                rintro e w6 ⟨rfl, d6, c6, hs6, hp6, hg6⟩
                have HBZ := Lib.hid ((HB2.out.trans (below_grown H5.out.2.2.1 hge.2 hbl)).trans (below_grown hg6 hge2.2 (Nat.le_trans hbl H5.out.2.2.1.size)))
                clear hs6 hp6 hg6
                go_wp2_with fail
                go_ret
                exact ⟨rfl, HBZ.out⟩
              go_wp2_with fail
              refine hc.mono ?_
              clear hc
              rintro e w6 ⟨rfl, d6, c6, hs6, hp6, hg6⟩
              have HBZ := Lib.hid ((HB2.out.trans (below_grown H5.out.2.2.1 hge.2 hbl)).trans (below_grown hg6 hge2.2 (Nat.le_trans hbl H5.out.2.2.1.size)))
              have hla : LawAt w.heap.size t t2 n w6 := ⟨_, _, _, _, _, _, _, _, _, _, HAC.out, H5.out.1.grown hg6 (by simpa using H5.out.2.2.2.2.1.symm) (by simpa using H5.out.2.2.2.2.2.2.symm), H5.out.2.1, hs6, hp6⟩
              have HLA := Lib.hid hla
              have hn' : n ≤ 3 + (i + 1) := by omega
              clear hs6 hp6 hg6 H5 hla HBO2 hge hge2 hk0 hbl HB2 HF HOF hn q0 HAC
              go_wp2_with fail
              go_meet
              exact ⟨n, hn', HLA.out, HBZ.out⟩
            case rest =>
              obtain ⟨n', hn', hla, hbz⟩ := hcut
              have HLA := Lib.hid hla
              have HBZ := Lib.hid hbz
              clear hla hbz HBO2 hge hge2 hbl HB2 HF HOF hn q0
              go_wp2_with fail
              obtain ⟨ga, ca, gb, cb, K', R', d', d2', cc, cc2, hbo⟩ := HLA.out
              obtain ⟨go, hgo⟩ : ∃ go, go + 1 = gk := ⟨gk - 1, by omega⟩
              have top := hbo.r.top
              have hgl := hbo.p.lt
              have hgl2 := hbo.r.lt
              have HBO := Lib.hid hbo
              have HFA := Lib.hid (apartPR hbo.p hbo.r)
              obtain ⟨seq, S, hline⟩ := TypP.line_total hbo.acy (fun i => (i : Int) - 1) (n' + 2)
              obtain ⟨rr, hac⟩ := hbo.acy
              have HLI := Lib.hid (And.intro hline hac)
              obtain ⟨i1, hi1, hi2, hi3, hi4⟩ := info_parts info_type
              obtain ⟨i2, hj1, hj2, hj3, hj4⟩ := info_parts info_int
              clear hbo hline hac HLA
              go_loopg [13, 14, 15] (n' + 2) (fun gm av wv iv wz => ∃ m : Nat, iv = .int .i64 ((m : Int) - 1) ∧ m + gm = n' + 2 ∧ wz.ownsRow wc.heap.size 35 1 av m ((List.range m).map fun i : Nat => .int .i64 ((i : Int) - 1)) ∧ wz.ownsRow wc.heap.size 3 1 wv m ((List.range m).map fun i : Nat => .int .i64 ((i : Int) - 1)) ∧ wc.grownBy wz none)
              case atStart => exact ⟨0, rfl, by omega, World.ownsRow_nil _ _ _ _, World.ownsRow_nil _ _ _ _, World.grownBy.refl _ _⟩
              case round =>
                obtain ⟨m, rfl, hm, ha, hw, hgr⟩ := hrel
                obtain ⟨A1, k1, rfl⟩ := row_form ha
                obtain ⟨A2, k2, rfl⟩ := row_form hw
                have top' : wr.cell? ⟨t2, 0, none⟩ = _ := (World.cell?_of_block (hgr.block t2 hgl2.1 (by simp))).trans top
                have HA := Lib.hid (And.intro ha (And.intro hw hgr))
                clear ha hw hgr top
                by_cases hmn : m = n' + 2
                · subst hmn
                  have HP := Lib.hid (HBO.out.p.grown HA.out.2.2 (by simp) (by simp))
                  have HR := Lib.hid (HBO.out.r.grown HA.out.2.2 (by simp) (by simp))
                  have hS := Show_in HLI.out.2 (by omega) HLI.out.1 (by omega) HP.out HBO.out.ps HA.out.1
                  have hz : decide (((n' + 2 : Nat) : Int) - 1 ≤ (n' : Int)) = false := decide_eq_false (by omega)
                  have hz' : ¬ ((n' + 2 : Nat) : Int) - 1 ≤ (n' : Int) := by omega
                  generalize ((n' + 2 : Nat) : Int) - 1 = z at *
                  go_wp2_with fail
                  refine hS.mono ?_
                  clear hS
                  rintro e w7 ⟨o1, c7, rfl, hr1, hp7, hps7, hg7⟩
                  have hr7 := HR.out.grown hg7 (by simpa using HFA.out.2.2.1) (by simpa using HFA.out.2.2.2)
                  have hfw : (Value.slice A2 (n' + 2) k2).ownBlock ≠ some ga := by
                    obtain ⟨cur, hg⟩ := PSto.objs HP.out
                    exact far_block HA.out.2.1 hg (by decide)
                  have hS := RShow_in HLI.out.2 (by omega) HLI.out.1 (by omega) hr7 HBO.out.rs (grown_row hg7 HA.out.2.1 (fun k e e' => hfw (e.trans e'.symm)))
                  have H7 := Lib.hid (And.intro hr1 (And.intro hp7 (And.intro hps7 hg7)))
                  clear hr1 hp7 hps7 hg7 hr7 hfw
                  go_wp2_with fail
                  refine hS.mono ?_
                  clear hS
                  rintro e w8 ⟨o2, rfl, hr2, hr8, hg8⟩
                  have hS := Equal_in (grown_row hg8 H7.out.1 (fun _ _ => by simp)) hr2 (by omega)
                  have H8 := Lib.hid (And.intro hr8 hg8)
                  clear hr2 hr8 hg8
                  go_wp2_with fail
                  refine hS.mono ?_
                  clear hS
                  rintro e w9 ⟨rfl, hg9⟩
                  have hbo9 : Both w.heap.size t t2 n' ga ca gb cb K' R' d' d2' c7 cc2 w9 := ⟨HBO.out.acy, (H7.out.2.1.grown H8.out.2 (by simp) (by simp)).grown hg9 (by simp) (by simp), H7.out.2.2.1, H8.out.1.grown hg9 (by simp) (by simp), HBO.out.rs⟩
                  have s1 : w.heap.size ≤ wr.heap.size := Nat.le_trans HBZ.out.size HA.out.2.2.size
                  have s2 : w.heap.size ≤ w7.heap.size := Nat.le_trans s1 H7.out.2.2.2.size
                  have s3 : w.heap.size ≤ w8.heap.size := Nat.le_trans s2 H8.out.2.size
                  have hb9 : Below w.heap.size w w9 := (((HBZ.out.trans (below_none HA.out.2.2 HBZ.out.size)).trans (below_grown H7.out.2.2.2 HP.out.ge.2 s1)).trans (below_none H8.out.2 s2)).trans (below_none hg9 s3)
                  have H9 := Lib.hid (And.intro hbo9 hb9)
                  clear hbo9 hb9 hg9 s1 s2 s3
                  go_wp2_with fail
                  go_roundg go
                  case measure => omega
                  case rel => exact ⟨i + 1, n', rfl, by omega, by omega, ⟨_, _, _, _, _, _, _, _, _, _, H9.out.1⟩, H9.out.2⟩
                · have hz : ((m : Nat) : Int) - 1 ≤ (n' : Int) := by omega
                  have hzl : -1 ≤ ((m : Nat) : Int) - 1 := by omega
                  have HZ := Lib.hid (show ((m : Nat) : Int) - 1 + 1 = ((m + 1 : Nat) : Int) - 1 by omega)
                  have HZ0 : Hid (∀ q : Int, q = (m : Int) - 1 → Value.int .i64 q = Value.int .i64 ((m : Int) - 1)) := Lib.hid (fun q e => by rw [e])
                  generalize hzz : ((m : Nat) : Int) - 1 = z at *
                  have HZE := Lib.hid hzz
                  clear hzz
                  have HRO := Lib.hid (HA.out.1.alloc (.cells #[.int .i64 z] 35))
                  have hls : wc.heap.size ≤ wr.heap.size := HA.out.2.2.size
                  go_upto_region 33 with fail
                  go_wp2_with (at_builtin; refine wpList_append_lies _ rfl _ _ 44 rfl wc.heap.size 35 i1 (.int .i64 0) 1 8 Tryd.underlying44 hi1 hi2 hi3 hi4 rfl (by decide) (.slice A1 m k1) m _ rfl HRO.out ⟨wr.heap.size, 0, none⟩ 1 1 [.int .i64 z] rfl rfl (news1 _ _ _ rfl) (by simp [Value.oneCell']) (by decide) (by unfold maxLen; omega) (by omega) (by simp; omega) _ rfl ?_)
                  intro g' cap' wa hown hgrow hat hlt1
                  have hpu := rows_push HA.out.1 HA.out.2.2 (by rw [HZE.out]; exact hown) hgrow
                  have hw2 := hpu.2.2 HA.out.2.1 (by decide)
                  have HP1 := Lib.hid (And.intro hpu.1 (And.intro hpu.2.1 hw2))
                  have HRO2 := Lib.hid (hw2.alloc (.cells #[.int .i64 z] 3))
                  have hls2 : wc.heap.size ≤ wa.heap.size := hpu.2.1.size
                  clear hown hgrow hat hlt1 hpu hw2
                  go_wp2_with (at_builtin; refine wpList_append_lies _ rfl _ _ 45 rfl wc.heap.size 3 i2 (.int .i64 0) 1 8 Tryd.underlying45 hj1 hj2 hj3 hj4 rfl (by decide) (.slice A2 m k2) m _ rfl HRO2.out ⟨wa.heap.size, 0, none⟩ 1 1 [.int .i64 z] rfl rfl (news1 _ _ _ rfl) (by simp [Value.oneCell']) (by decide) (by unfold maxLen; omega) (by omega) (by simp; omega) _ rfl ?_)
                  intro g'' cap'' wb hown hgrow hat hlt1
                  have hpu := rows_push HP1.out.2.2 HP1.out.2.1 (by rw [HZE.out]; exact hown) hgrow
                  have HP2 := Lib.hid (And.intro (hpu.2.2 HP1.out.1 (by decide)) (And.intro hpu.1 hpu.2.1))
                  clear hown hgrow hat hlt1 hpu
                  go_wp2_with fail
                  go_roundg (gk - 1)
                  case measure => omega
                  case rel => exact ⟨m + 1, by rw [← HZ.out], by omega, HP2.out.1, HP2.out.2.1, HP2.out.2.2⟩
end Go.Proofs.YtpbiiigacfhbhaaDoor
