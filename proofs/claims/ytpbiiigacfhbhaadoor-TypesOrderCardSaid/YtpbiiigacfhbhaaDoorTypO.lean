/- TypesOrder's closure: types are made, and made one, in the list's order. -/
import Derived.Test.YtpbiiigacfhbhaaDoorTypN
import Derived.StillTailTactics
import Derived.Deep.LoopGhost
import Derived.Deep.DeepCutAuto
set_option linter.unusedVariables false
set_option linter.unusedSimpArgs false
namespace Go.Proofs.YtpbiiigacfhbhaaDoor
open Go.RowKit
open TypP (Kd Acy Occ Uni Step Txt TStep Sn Line Unis)

/-- What is made so far: nn types of kinds K and roots R, of which m stand in a list. -/
def MadeAt (w : World) (t : Nat) (K : Nat → Kd) (R : Nat → Nat) (nn k m : Nat) (av : Value) (wz : World) : Prop :=
  ∃ (g cap : Nat) (c : Nat → List Value) (d : Nat → Nat), PSto wz w.heap.size t g cap nn c ∧ PS K R nn d c ∧ wz.ownsRow w.heap.size 35 1 av m ((List.range m).map fun j => .int .i64 ((al k j : Nat) : Int)) ∧ Below w.heap.size w wz

def MadePost (w : World) (k : Nat) (ok : Bool) (S : Nat → ByteArray) (e : Ending) (w' : World) : Prop :=
  (ok = true ∧ ∃ o, e = .returned (.tuple #[o, .bool true]) ∧ RowS w' w.heap.size o S (2 * k + 3) ∧ Below w.heap.size w w') ∨ (ok = false ∧ e = .returned (.tuple #[.slice none 0 0, .bool false]) ∧ Below w.heap.size w w')

set_option maxRecDepth 100000 in
set_option maxHeartbeats 16000000 in
theorem made_in {w : World} {bx k cap : Nat} {nv : Int} {A : Option Addr} {l : List (Int × Int)} {ok : Bool} {Rf : Nat → Nat} {seq : Nat → List Nat} {S : Nat → ByteArray}
    (hbx : w.cell? ⟨bx, 0, none⟩ = some (.int .u8 nv)) (hn0 : 0 ≤ nv) (hn1 : nv < 256) (hk : nv % 5 = k) (hl : PairsU w A l) (hb : ∀ p ∈ l, (0 ≤ p.1 ∧ p.1 < 256) ∧ (0 ≤ p.2 ∧ p.2 < 256)) (hlen : l.length ≤ 100)
    (hu : Unis (Kp k (k + 1)) (fun x => x) (l.map (nodes2 k)) ok Rf) (hline : ok = true → Line (Kp k (k + 1)) Rf (2 * k + 4) (fun i => ((al k i : Nat) : Int)) (2 * k + 3) seq S) :
    Calls Tryd.prog 18 #[.slice A l.length cap, .pointer (some ⟨bx, 0, none⟩)] w (MadePost w k ok S) := by
  have hk5 : k < 5 := by omega
  have hnew := New_in (w := w) (B := w.heap.size) (Nat.le_refl _)
  have HL := Lib.hid hl
  have HB := Lib.hid hb
  have HU := Lib.hid hu
  have HLI := Lib.hid hline
  have hbl := cell_lt hbx
  obtain ⟨i1, hi1, hi2, hi3, hi4⟩ := info_parts info_type
  clear hl hb hu hline
  go_enter Tryd.func18, Tryd.ntmps18
  go_wp2_with fail
  refine hnew.mono ?_
  clear hnew
  rintro e w1 ⟨t, g0, rfl, hs1, hb1, ht, hg⟩
  have hbx1 : w1.cell? ⟨bx, 0, none⟩ = some (.int .u8 nv) := (World.cell?_of_block (hb1.block bx hbl)).trans hbx
  have H1 := Lib.hid (And.intro hs1 hb1)
  clear hs1 hb1 hbx
  go_wp2_with fail
  rw [hk]
  clear hk
  have h0 : MadeAt w t (Kv 0) (fun x => x) 3 k 0 (.slice none 0 0) w1 := ⟨g0, 3, c0, _, H1.out.1, ps0, World.ownsRow_nil _ _ _ _, H1.out.2⟩
  have H0 := Lib.hid h0
  clear h0
  go_loopg [6, 15] k (fun gk av iv wz => ∃ i : Nat, iv = .int .u8 i ∧ i + gk = k ∧ MadeAt w t (Kv i) (fun x => x) (3 + i) k i av wz)
  case atStart => exact ⟨0, rfl, by omega, H0.out⟩
  case round =>
    obtain ⟨i, rfl, hi, g, cp, c, d, hs, hp, hr, hbe⟩ := hrel
    clear H0
    obtain ⟨A1, k1, rfl⟩ := row_form hr
    have hsz := hbe.size
    by_cases e : i = k
    · subst e
      have hro := hr.alloc (.cells #[.int .i64 0, .int .i64 1] 35)
      have H2 := Lib.hid (And.intro hs (And.intro hp (And.intro hr hbe)))
      have HRO := Lib.hid hro
      clear hs hp hr hbe hro H1
      go_wp2_with (at_builtin; refine wpList_append_lies _ rfl _ _ 44 rfl w.heap.size 35 i1 (.int .i64 0) 1 8 Tryd.underlying44 hi1 hi2 hi3 hi4 rfl (by decide) (.slice A1 i k1) i _ rfl HRO.out ⟨wr.heap.size, 0, none⟩ 2 2 [.int .i64 0, .int .i64 1] rfl rfl (news2 _ _ _ _ rfl) (by simp [Value.oneCell']) (by decide) (by unfold maxLen; omega) (by omega) (by simp; omega) _ rfl ?_)
      intro g' cap' wa hown hgrow hat hlt1
      obtain ⟨hsa, hba⟩ := row_grow H2.out.1 H2.out.2.2.1 H2.out.2.2.2 hsz hgrow
      have hrow : wa.ownsRow w.heap.size 35 1 (.slice (some ⟨g', 0, none⟩) (i + 2) cap') (i + 2) ((List.range (i + 2)).map fun j => .int .i64 ((al i j : Nat) : Int)) := by
        rw [List.range_succ, List.map_append, List.range_succ, List.map_append, List.append_assoc]
        simp only [List.map_cons, List.map_nil, al_at0, al_at1, List.singleton_append]
        exact hown
      have h0 : MadeAt w t (Kp i 0) (fun x => x) (3 + i + 0) i (i + 2 + 0) (.slice (some ⟨g', 0, none⟩) (i + 2) cap') wa := ⟨g, cp, c, d, hsa, H2.out.2.1, hrow, hba⟩
      have H0 := Lib.hid h0
      clear h0 hsa hba hrow hown hgrow hat hlt1 H2 HRO
      go_wp2_with fail
      go_loopw [6, 29] (fun av iv wz => ∃ j : Nat, iv = .int .i64 j ∧ j ≤ i + 1 ∧ MadeAt w t (Kp i j) (fun x => x) (3 + i + j) i (i + 2 + j) av wz) (fun _ iv _ => i + 1 - (intOf iv).toNat)
      case atStart => exact ⟨0, rfl, by omega, H0.out⟩
      case round =>
        obtain ⟨j, rfl, hj, g, cp, c, d, hs, hp, hr, hbe⟩ := hrel
        clear H0
        obtain ⟨A2, k2, rfl⟩ := row_form hr
        have hsz := hbe.size
        have hap := row_apart hs hr
        have H2 := Lib.hid (And.intro hs (And.intro hp (And.intro hr (And.intro hbe hap))))
        clear hs hp hbe hap
        by_cases e : j = i + 1
        · subst e
          obtain ⟨r0, hac⟩ := acyP i (i + 1) (Nat.le_refl _)
          have hL0 : 0 < i + 2 + (i + 1) ∧ i + 2 + (i + 1) < 100 := by omega
          have hN0 : 3 + i + (i + 1) ≤ 50 := by omega
          have HLN := Lib.hid (show i + 2 + (i + 1) = 2 * i + 3 ∧ 3 + i + (i + 1) = 2 * i + 4 by omega)
          have h0 : ∃ R : Nat → Nat, Unis (Kp i (i + 1)) R ((l.map (nodes2 i)).drop 0) ok Rf ∧ MadeAt w t (Kp i (i + 1)) R (3 + i + (i + 1)) i (i + 2 + (i + 1)) (.slice A2 (i + 2 + (i + 1)) k2) wr ∧ ∃ r, Acy (Kp i (i + 1)) R (3 + i + (i + 1)) r := ⟨fun x => x, HU.out, ⟨_, _, _, _, H2.out.1, H2.out.2.1, H2.out.2.2.1, H2.out.2.2.2.1⟩, r0, hac⟩
          have H0 := Lib.hid h0
          clear hr h0 hac H2 hi hj
          generalize i + 2 + (i + 1) = L at *
          generalize 3 + i + (i + 1) = nn at *
          go_wp2_with fail
          go_loopg [53] l.length (fun gk iv wz => ∃ (j : Nat), iv = .int .i64 j ∧ j + gk = l.length ∧ ∃ R : Nat → Nat, Unis (Kp i (i + 1)) R ((l.map (nodes2 i)).drop j) ok Rf ∧ MadeAt w t (Kp i (i + 1)) R nn i L (.slice A2 L k2) wz ∧ ∃ r, Acy (Kp i (i + 1)) R nn r)
          case atStart => exact ⟨0, rfl, by omega, H0.out⟩
          case round =>
            obtain ⟨j, rfl, hj, R, hus, ⟨g, cp, c, d, hs, hp, hr, hbe⟩, rr, hac⟩ := hrel
            clear H0
            have hszr := hbe.size
            by_cases e : j = l.length
            · subst e
              have hnil : (l.map (nodes2 i)).drop l.length = [] := by
                apply List.drop_eq_nil_of_le
                simp
              rw [hnil] at hus
              obtain ⟨rfl, rfl⟩ : ok = true ∧ R = Rf := by
                cases hus
                exact ⟨rfl, rfl⟩
              have hli := HLI.out rfl
              rw [← HLN.out.1, ← HLN.out.2] at hli
              have hS := Show_in hac hN0 hli (by omega) hs hp hr
              have HBE := Lib.hid hbe
              have hge := hs.ge
              clear hs hp hr hbe hus hnil hli hac
              go_wp2_with fail
              refine hS.mono ?_
              clear hS
              rintro e w7 ⟨o, c', rfl, hro, _, _, hg7⟩
              have H7 := Lib.hid (And.intro hro hg7)
              clear hro hg7
              go_wp2_with fail
              refine bodyPost_ret (v := .tuple #[o, .bool true]) (by simp [results, Tryd.results18, go_sem]) rfl (.inl ⟨rfl, o, rfl, ?_, HBE.out.trans (below_grown H7.out.2 hge.2 hszr)⟩)
              rw [← HLN.out.1]
              exact row_lower H7.out.1 hszr
            · have hjl : j < l.length := by omega
              rcases HL.out.below hbe with hl' | ⟨b, off, hA, hc⟩
              · rw [hl'] at hjl
                simp at hjl
              · subst hA
                obtain ⟨h1, h2⟩ := hc j hjl
                have hbl2 := cell_lt h1
                have hbb := HB.out (l.getD j (0, 0)) (by simp [List.getD, hjl])
                have hdr : (l.map (nodes2 i)).drop j = nodes2 i (l.getD j (0, 0)) :: (l.map (nodes2 i)).drop (j + 1) := by
                  rw [List.drop_eq_getElem_cons (by simpa using hjl)]
                  simp [List.getD, hjl]
                rw [hdr] at hus
                clear hdr
                generalize hrest : (l.map (nodes2 i)).drop (j + 1) = rest at hus
                have HRE := Lib.hid hrest
                clear hrest
                have hlt2 := nodes2_lt i (l.getD j (0, 0))
                unfold nodes2 at hus hlt2
                rw [← HLN.out.1] at hus hlt2
                rw [← HLN.out.2] at hlt2
                obtain ⟨⟨hx0, hx1⟩, hy0, hy1⟩ := hbb
                generalize (l.getD j (0, 0)).1 = x at *
                generalize (l.getD j (0, 0)).2 = y at *
                clear hc
                obtain ⟨u, hu⟩ := Int.eq_ofNat_of_zero_le (show 0 ≤ x % (L : Int) from Int.emod_nonneg _ (by omega))
                obtain ⟨v, hv⟩ := Int.eq_ofNat_of_zero_le (show 0 ≤ y % (L : Int) from Int.emod_nonneg _ (by omega))
                have hul : u < L := by
                  have := Int.emod_lt_of_pos x (show (0 : Int) < L by omega)
                  omega
                have hvl : v < L := by
                  have := Int.emod_lt_of_pos y (show (0 : Int) < L by omega)
                  omega
                rw [hu, hv] at hus hlt2
                simp only [Int.toNat_natCast] at hus hlt2
                obtain ⟨o, ho, hcell⟩ := row_cells hr hul
                subst ho
                have q1 := hcell u hul
                have q2 := hcell v hvl
                have hol := (row_lt hr (k := o) rfl).2
                have hl5 := last wr (.cells #[.int .u8 x, .int .u8 y] 51)
                have H2 := Lib.hid (And.intro hs (And.intro hp (And.intro hr (And.intro hbe hac))))
                have HUS := Lib.hid hus
                clear hcell hs hp hr hbe hac hus
                go_upto_region 17 with fail
                have H5 := Lib.hid (show PSto (wr.alloc (.cells #[.int .u8 x, .int .u8 y] 51)) w.heap.size t g cp nn c ∧ (wr.alloc (.cells #[.int .u8 x, .int .u8 y] 51)).ownsRow w.heap.size 35 1 (.slice (some ⟨o, 0, none⟩) L k2) L ((List.range L).map fun j => .int .i64 ((al i j : Nat) : Int)) ∧ Below w.heap.size w (wr.alloc (.cells #[.int .u8 x, .int .u8 y] 51)) from
                  ⟨H2.out.1.alloc _, H2.out.2.2.1.alloc _, H2.out.2.2.2.1.alloc hszr _⟩)
                have r1 := cell_alloc q1 (.cells #[.int .u8 x, .int .u8 y] 51)
                have r2 := cell_alloc q2 (.cells #[.int .u8 x, .int .u8 y] 51)
                obtain ⟨p1, p2⟩ := cellsOf2 hl5
                have hszw : w.heap.size ≤ (wr.alloc (.cells #[.int .u8 x, .int .u8 y] 51)).heap.size := H5.out.2.2.size
                clear q1 q2 h1 h2 hl5 hol hbl2
                generalize wr.alloc (.cells #[.int .u8 x, .int .u8 y] 51) = W at *
                have hL1 : ¬ L = 0 := by omega
                have hw1 : (IntKind.i64.wrap x).tmod (L : Int) = (u : Int) := by rw [IntWalk.i64_in x (by omega), Int.tmod_eq_emod_of_nonneg hx0, hu]
                have hw2 : (IntKind.i64.wrap y).tmod (L : Int) = (v : Int) := by rw [IntWalk.i64_in y (by omega), Int.tmod_eq_emod_of_nonneg hy0, hv]
                clear hu hv
                go_still_tail 19, (by kernel_rfl)
                change wpList _ _ _ _ _ W.drew
                have Hd := Lib.hid (show W.drew.ownsRow w.heap.size 35 1 (.slice (some ⟨o, 0, none⟩) L k2) L ((List.range L).map fun j => .int .i64 ((al i j : Nat) : Int)) ∧ Below w.heap.size w W.drew ∧ PSto W.drew w.heap.size t g cp nn c from ⟨H5.out.2.1.drew, H5.out.2.2.drew, H5.out.1.drew⟩)
                have hszd : w.heap.size ≤ W.drew.heap.size := hszw
                clear r1 r2 p1 p2 hw1 hw2
                generalize W.drew = wd at *
                have hge := H2.out.1.ge
                have hap := row_apart H2.out.1 H2.out.2.2.1
                have hcs := HUS.out
                clear HUS
                cases hcs with
                | stop hu1 =>
                  have hc := Unify_of ⟨rr, H2.out.2.2.2.2⟩ Hd.out.2.2 H2.out.2.1 hu1 hlt2.1 hlt2.2
                  clear hu1 hlt2
                  go_wp2_with fail
                  refine hc.mono ?_
                  clear hc
                  rintro e w5 ⟨rfl, d5, c5, hs5, hp5, hg5⟩
                  have HB5 := Lib.hid (Hd.out.2.1.trans (below_grown hg5 hge.2 hszd))
                  clear hs5 hp5 hg5
                  go_wp2_with fail
                  exact bodyPost_ret (v := .tuple #[.slice none 0 0, .bool false]) (by simp [results, Tryd.results18, go_sem]) rfl (.inr ⟨rfl, rfl, HB5.out⟩)
                | next hu1 hus2 =>
                  have hc := Unify_of ⟨rr, H2.out.2.2.2.2⟩ Hd.out.2.2 H2.out.2.1 hu1 hlt2.1 hlt2.2
                  have HAC := Lib.hid (TypP.uni_acy hu1 hlt2.1 hlt2.2 ⟨rr, H2.out.2.2.2.2⟩)
                  have HUS := Lib.hid hus2
                  clear hu1 hlt2 hus2
                  go_wp2_with fail
                  refine hc.mono ?_
                  clear hc
                  rintro e w5 ⟨rfl, d5, c5, hs5, hp5, hg5⟩
                  have HB5 := Lib.hid (show MadeAt w t _ _ nn i L (.slice (some ⟨o, 0, none⟩) L k2) w5 from ⟨g, cp, c5, d5, hs5, hp5, grown_row hg5 Hd.out.1 (fun k e e' => hap.2 (e.trans e'.symm)), Hd.out.2.1.trans (below_grown hg5 hge.2 hszd)⟩)
                  clear hs5 hp5 hg5 hap
                  go_wp2_with fail
                  go_roundg (gk - 1)
                  case measure => omega
                  case rel => exact ⟨j + 1, rfl, by omega, _, by rw [HRE.out]; exact HUS.out, HB5.out, HAC.out⟩
        · have hji : j < i + 1 := by omega
          obtain ⟨o, ho, hcell⟩ := row_cells hr (show j < i + 2 + j by omega)
          subst ho
          have q1 := hcell j (by omega)
          have q2 := hcell (j + 1) (by omega)
          have hl1 := al_lt (k := i) (i := j) (j := j) (by omega)
          have hl2 := al_lt (k := i) (i := j + 1) (j := j) (by omega)
          have hc := Pair_in H2.out.1.drew (show 3 + i + j < 1000 by omega) (al i j) (al i (j + 1))
          have HLT := Lib.hid (And.intro hl1 hl2)
          have hjl : j < i + 2 + j := by omega
          have hjl2 : j + 1 < i + 2 + j := by omega
          have hj100 : i + 2 + j < 100 := by omega
          have hwr : IntKind.i64.wrap ((j : Int) + 1) = ((j + 1 : Nat) : Int) := by
            rw [IntWalk.i64_in _ (by omega)]
            omega
          clear hcell hr hl1 hl2
          generalize hjn : j + 1 = jn at *
          have HJN := Lib.hid hjn
          clear hjn
          generalize hLL : i + 2 + j = L at *
          have HLL := Lib.hid hLL
          clear hLL
          go_wp2_with fail
          have Hd := Lib.hid (show wr.drew.ownsRow w.heap.size 35 1 (.slice (some ⟨o, 0, none⟩) L k2) L ((List.range L).map fun j => .int .i64 ((al i j : Nat) : Int)) ∧ Below w.heap.size w wr.drew from ⟨H2.out.2.2.1.drew, H2.out.2.2.2.1.drew⟩)
          have hszd : w.heap.size ≤ wr.drew.heap.size := hsz
          have HC := Lib.hid hc
          clear hc
          go_region_with (go_at_call 11; refine HC.out.mono ?_; rintro e w5 (⟨_, rfl, ga, ca, hs5, hm5, hg5⟩ | ⟨hno, _⟩); rotate_left; exact absurd (by have := HLT.out; omega) hno)
          all_goals
            have hge := H2.out.1.ge
            have hr5 := hm5.row Hd.out.1 H2.out.2.2.2.2.1 H2.out.2.2.2.2.2
            have hb5 := Hd.out.2.trans (hm5.below hge.1 hge.2 hszd)
            have hsz5 : w.heap.size ≤ w5.heap.size := Nat.le_trans hszd hm5.size
            have hp5 : PS (Kp i (j + 1)) (fun x => x) (3 + i + j + 1) d (upd c (3 + i + j) [.int .i64 4, .int .i64 ((al i j : Nat) : Int), .int .i64 ((al i (j + 1) : Nat) : Int)]) := by
              have := H2.out.2.1.push (.pair (al i j) (al i (j + 1)))
              rw [rtPush_id] at this
              exact this
            rw [← HJN.out] at hs5
            have HRO := Lib.hid (hr5.alloc (.cells #[.int .i64 ((3 + i + j : Nat) : Int)] 35))
            have H5 := Lib.hid (And.intro hs5 (And.intro hp5 (And.intro hr5 hb5)))
            clear hs5 hp5 hr5 hb5 hm5 H2 hge hg5 Hd HLT
            go_wp2_with (at_builtin; refine wpList_append_lies _ rfl _ _ 44 rfl w.heap.size 35 i1 (.int .i64 0) 1 8 Tryd.underlying44 hi1 hi2 hi3 hi4 rfl (by decide) (.slice (some ⟨o, 0, none⟩) L k2) L _ rfl HRO.out ⟨w5.heap.size, 0, none⟩ 1 1 [.int .i64 ((3 + i + j : Nat) : Int)] rfl rfl (news1 _ _ _ rfl) (by simp [Value.oneCell']) (by decide) (by unfold maxLen; omega) (by omega) (by simp; omega) _ rfl ?_)
            intro g' cap' wa hown hgrow hat hlt1
            obtain ⟨hsa, hba⟩ := row_grow H5.out.1 H5.out.2.2.1 H5.out.2.2.2 hsz5 hgrow
            have hrow : wa.ownsRow w.heap.size 35 1 (.slice (some ⟨g', 0, none⟩) (L + 1) cap') (L + 1) ((List.range (L + 1)).map fun j => .int .i64 ((al i j : Nat) : Int)) := by
              rw [List.range_succ, List.map_append]
              simp only [List.map_cons, List.map_nil]
              rw [show al i L = 3 + i + j by rw [← HLL.out, al_more]]
              exact hown
            have h0 : MadeAt w t (Kp i (j + 1)) (fun x => x) (3 + i + (j + 1)) i (i + 2 + (j + 1)) (.slice (some ⟨g', 0, none⟩) (L + 1) cap') wa := ⟨_, _, _, d, hsa, H5.out.2.1, by rw [show i + 2 + (j + 1) = L + 1 by rw [← HLL.out]; omega]; exact hrow, hba⟩
            have H0 := Lib.hid h0
            clear h0 hsa hba hrow hown hgrow hat hlt1 H5 HRO
            go_wp2_with fail
            go_roundw
            case rel => exact ⟨j + 1, by rw [HJN.out], by omega, H0.out⟩
            case measure =>
              have := HJN.out
              simp [intOf]
              omega
    · have hik : i < k := by omega
      have hc := Var_in hs (show 3 + i < 1000 by omega)
      have hap := row_apart hs hr
      have H2 := Lib.hid (And.intro hs (And.intro hp (And.intro hr (And.intro hbe hap))))
      clear hs hp hr hbe hap H1
      go_wp2_with fail
      refine hc.mono ?_
      clear hc
      rintro e w5 ⟨rfl, ga, ca, hs5, hm5, hg5⟩
      have hge := H2.out.1.ge
      have hr5 := hm5.row H2.out.2.2.1 H2.out.2.2.2.2.1 H2.out.2.2.2.2.2
      have hb5 := H2.out.2.2.2.1.trans (hm5.below hge.1 hge.2 hsz)
      have hsz5 : w.heap.size ≤ w5.heap.size := Nat.le_trans hsz hm5.size
      have hp5 : PS (Kv (i + 1)) (fun x => x) (3 + i + 1) d (upd c (3 + i) [.int .i64 0, .int .i64 0, .int .i64 0]) := by
        have := H2.out.2.1.push .opn
        rw [rtPush_id] at this
        exact this
      have HRO := Lib.hid (hr5.alloc (.cells #[.int .i64 ((3 + i : Nat) : Int)] 35))
      have H5 := Lib.hid (And.intro hs5 (And.intro hp5 (And.intro hr5 hb5)))
      clear hs5 hp5 hr5 hb5 hm5 H2 hge hg5
      go_wp2_with (at_builtin; refine wpList_append_lies _ rfl _ _ 44 rfl w.heap.size 35 i1 (.int .i64 0) 1 8 Tryd.underlying44 hi1 hi2 hi3 hi4 rfl (by decide) (.slice A1 i k1) i _ rfl HRO.out ⟨w5.heap.size, 0, none⟩ 1 1 [.int .i64 ((3 + i : Nat) : Int)] rfl rfl (news1 _ _ _ rfl) (by simp [Value.oneCell']) (by decide) (by unfold maxLen; omega) (by omega) (by simp; omega) _ rfl ?_)
      intro g' cap' wa hown hgrow hat hlt1
      obtain ⟨hsa, hba⟩ := row_grow H5.out.1 H5.out.2.2.1 H5.out.2.2.2 hsz5 hgrow
      have hrow : wa.ownsRow w.heap.size 35 1 (.slice (some ⟨g', 0, none⟩) (i + 1) cap') (i + 1) ((List.range (i + 1)).map fun j => .int .i64 ((al k j : Nat) : Int)) := by
        rw [List.range_succ, List.map_append]
        simp only [List.map_cons, List.map_nil, al_first hik]
        exact hown
      have h0 : MadeAt w t (Kv (i + 1)) (fun x => x) (3 + (i + 1)) k (i + 1) (.slice (some ⟨g', 0, none⟩) (i + 1) cap') wa := ⟨_, _, _, d, hsa, H5.out.2.1, hrow, hba⟩
      have H0 := Lib.hid h0
      clear h0 hsa hba hrow hown hgrow hat hlt1 H5 HRO
      go_wp2_with fail
      go_roundg (gk - 1)
      case measure => omega
      case rel => exact ⟨i + 1, rfl, by omega, H0.out⟩
end Go.Proofs.YtpbiiigacfhbhaaDoor
