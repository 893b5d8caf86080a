/- The reference's Places. -/
import Derived.Test.YtinebmfmkgjaaaaGreatDoorRef3
set_option linter.unusedVariables false
set_option linter.unusedSimpArgs false
namespace Go.Proofs.YtinebmfmkgjaaaaGreatDoor
open Go.RowKit

theorem far_cellp {w3 wa : World} {o : Obj} {row : Option Nat} {a : Addr} {v : Value} (hg : (w3.alloc o).grownBy wa row) (ha : w3.cell? a = some v) (hne : some a.block ≠ row) : wa.cell? a = some v :=
  (hg.cell_far a (by have := cell_lt ha; simp; omega) hne).trans ((World.cell?_of_block (Below.heap_alloc _ _ _ (cell_lt ha))).trans ha)
theorem news2 (w : World) (x y : Value) (t : TypeId) : ∀ j u, [x, y][j]? = some u → (w.alloc (.cells #[x, y] t)).cell? ((⟨w.heap.size, 0, none⟩ : Addr).add j) = some u := World.news_of_block (last w _)
theorem news2d (w : World) (x y : Value) (t : TypeId) : ∀ j u, [x, y][j]? = some u → ((w.alloc (.cells #[x, y] t)).drew).cell? ((⟨w.heap.size, 0, none⟩ : Addr).add j) = some u := news2 w x y t
theorem row_drewa {w : World} {B e s n : Nat} {v : Value} {xs : List Value} (h : w.ownsRow B e s v n xs) (o : Obj) : ((w.alloc o).drew).ownsRow B e s v n xs := h.alloc o
theorem far_celld {w3 wa : World} {o : Obj} {row : Option Nat} {a : Addr} {v : Value} (hg : ((w3.alloc o).drew).grownBy wa row) (ha : w3.cell? a = some v) (hne : some a.block ≠ row) : wa.cell? a = some v :=
  (hg.cell_far a (by have := cell_lt ha; show a.block < (w3.alloc o).heap.size; simp; omega) hne).trans ((World.cell?_of_block (Below.heap_alloc _ _ _ (cell_lt ha))).trans ha)
theorem one2 (x y : Int) : ∀ u ∈ [Value.int .i64 x, Value.int .i64 y], u.oneCell' = true := by simp [Value.oneCell']
def posCells (p : Int × Int) : List Value := [.int .i64 p.1, .int .i64 p.2]
def rowsP (l : List (Int × Int)) : List Value := l.flatMap posCells
theorem rowsP_append (a b : List (Int × Int)) : rowsP (a ++ b) = rowsP a ++ rowsP b := by simp [rowsP]
theorem info_pos : (Tryz.prog.info? 31).map (fun i => (i.zero, i.size, i.bytes)) = some (some (.agg #[.int .i64 0, .int .i64 0]), 2, 16) := by kernel_rfl
theorem cellsOf2p {w : World} {b : Nat} {x0 x1 : Value} {t : TypeId} (h : w.heap[b]? = some (.cells #[x0, x1] t)) : w.cell? ⟨b, 0, none⟩ = some x0 ∧ w.cell? ⟨b, 1, none⟩ = some x1 := by
  refine ⟨?_, ?_⟩ <;> simp only [World.cell?, h] <;> rfl
/-- Where Places stands. -/
structure PcAt (w : World) (d : List (Int × Int)) (l c : Int) (rv : Value) (wr : World) : Prop where
  below : Below w.heap.size w wr
  res : wr.heap[w.heap.size]? = some (.cells #[.int .i64 0, .int .i64 0] 31)
  at' : wr.heap[w.heap.size + 1]? = some (.cells #[.int .i64 l, .int .i64 c] 31)
  row : wr.ownsRow (w.heap.size + 2) 31 2 rv d.length (rowsP d)
theorem PcAt.push {w wr wa : World} {d : List (Int × Int)} {l c : Int} {rv v' : Value} {o : Obj} (h : PcAt w d l c rv wr) (hown : wa.ownsRow (w.heap.size + 2) 31 2 v' (d.length + 1) (rowsP d ++ posCells (l, c))) (hg : (wr.alloc o).grownBy wa rv.ownBlock) : PcAt w (d ++ [(l, c)]) l c v' wa := by
  have hk : ∀ k, k < w.heap.size + 2 → wa.heap[k]? = wr.heap[k]? := fun k hk => by
    have hlt := heap_lt h.at'
    rw [hg.block k (by simp; omega) (fun e => by
      have := (row_lt h.row e.symm).1
      omega), Below.heap_alloc _ _ _ (by omega)]
  have hsz := heap_lt h.at'
  refine ⟨(h.below.alloc (by omega) o).grown hg (by simp; omega) fun k hk => ?_, (hk _ (by omega)).trans h.res, (hk _ (by omega)).trans h.at', ?_⟩
  · have := (row_lt h.row hk).1
    omega
  · rw [rowsP_append, List.length_append]
    simpa [rowsP] using hown
theorem PcAt.pushd {w wr wa : World} {d : List (Int × Int)} {l c : Int} {rv v' : Value} {o : Obj} (h : PcAt w d l c rv wr) (hown : wa.ownsRow (w.heap.size + 2) 31 2 v' (d.length + 1) (rowsP d ++ posCells (l, c))) (hg : ((wr.alloc o).drew).grownBy wa rv.ownBlock) : PcAt w (d ++ [(l, c)]) l c v' wa := by
  have hk : ∀ k, k < w.heap.size + 2 → wa.heap[k]? = wr.heap[k]? := fun k hk => by
    have hlt := heap_lt h.at'
    exact (hg.block k (by show k < (wr.alloc o).heap.size; simp; omega) (fun e => by
      have := (row_lt h.row e.symm).1
      omega)).trans (Below.heap_alloc _ _ _ (by omega))
  have hsz := heap_lt h.at'
  refine ⟨((h.below.alloc (by omega) o).drew).grown hg (by show w.heap.size ≤ (wr.alloc o).heap.size; simp; omega) fun k hk => ?_, (hk _ (by omega)).trans h.res, (hk _ (by omega)).trans h.at', ?_⟩
  · have := (row_lt h.row hk).1
    omega
  · rw [rowsP_append, List.length_append]
    simpa [rowsP] using hown
theorem PcAt.move {w wr : World} {d : List (Int × Int)} {l c : Int} {rv : Value} (h : PcAt w d l c rv wr) (i : Nat) (v : Value) {l' c' : Int} (he : (#[.int .i64 l, .int .i64 c] : Array Value).setIfInBounds i v = #[.int .i64 l', .int .i64 c']) : PcAt w d l' c' rv (wr.setCell ⟨w.heap.size + 1, i, none⟩ v) := by
  refine ⟨h.below.setCell (show w.heap.size ≤ w.heap.size + 1 by omega) _, (Below.heap_setCell _ _ _ _ (by simp)).trans h.res, by rw [← he]; exact setc h.at' i v, owns_block h.row fun g hg => Below.heap_setCell _ _ _ _ ?_⟩
  have := (row_lt h.row hg).1
  show g ≠ w.heap.size + 1
  omega
theorem PcAt.drew {w wr : World} {d : List (Int × Int)} {l c : Int} {rv : Value} (h : PcAt w d l c rv wr) : PcAt w d l c rv wr.drew := ⟨h.below.drew, h.res, h.at', h.row⟩
theorem PcAt.last {w wr : World} {d : List (Int × Int)} {l c : Int} {rv : Value} (h : PcAt w d l c rv wr) (x y : Value) :
    ((wr.setCell ⟨w.heap.size, 0, none⟩ x).setCell ⟨w.heap.size, 1, none⟩ y).heap[w.heap.size]? = some (.cells #[x, y] 31) ∧
    ((wr.setCell ⟨w.heap.size, 0, none⟩ x).setCell ⟨w.heap.size, 1, none⟩ y).ownsRow w.heap.size 31 2 rv d.length (rowsP d) ∧
    Below w.heap.size w ((wr.setCell ⟨w.heap.size, 0, none⟩ x).setCell ⟨w.heap.size, 1, none⟩ y) := by
  refine ⟨setc (setc h.res 0 x) 1 y, owns_block (row_base h.row (by omega)) fun g hg => ?_, (h.below.setCell (Nat.le_refl _) _).setCell (Nat.le_refl _) _⟩
  have := (row_lt h.row hg).1
  rw [Below.heap_setCell _ _ _ _ (show g ≠ w.heap.size by omega), Below.heap_setCell _ _ _ _ (show g ≠ w.heap.size by omega)]
def PlcEnd (w : World) (V : Option (Int × Int)) (PL : List (Int × Int)) (e : Ending) (w' : World) : Prop :=
  match V with
  | some (l, c) => e = .returned (.tuple #[.slice none 0 0, .agg #[.int .i64 l, .int .i64 c], .bool true]) ∧ Below w.heap.size w w'
  | none => (∃ rv l c, e = .returned (.tuple #[rv, .agg #[.int .i64 l, .int .i64 c], .bool false]) ∧ w'.ownsRow w.heap.size 31 2 rv PL.length (rowsP PL)) ∧ Below w.heap.size w w'
theorem next_one {s : ByteArray} (h : (s.get! 0).toNat = 10) (l c : Int) : nextL s l = l + 1 ∧ nextC s c = 1 := by
  unfold nextL nextC
  rw [if_pos h, if_pos h]
  exact ⟨rfl, rfl⟩
theorem next_go {s : ByteArray} (h : ¬ (s.get! 0).toNat = 10) (l c : Int) : nextL s l = l ∧ nextC s c = c + 1 := by
  unfold nextL nextC
  rw [if_neg h, if_neg h]
  exact ⟨rfl, rfl⟩

set_option maxRecDepth 100000 in
set_option maxHeartbeats 16000000 in
theorem Places_in (s : ByteArray) (w : World) (hs : s.size ≤ 1048576) : Calls Tryz.prog 24 #[.string s] w fun e w' => PlcEnd w (va s 1 1) (pl s 1 1) e w' := by
  obtain ⟨i0, hi0, hz0, hz1, hz2⟩ := info_parts info_pos
  obtain ⟨V, hV⟩ : ∃ z, va s 1 1 = z := ⟨_, rfl⟩
  obtain ⟨PL, hPL⟩ : ∃ z, pl s 1 1 = z := ⟨_, rfl⟩
  rw [hV, hPL]
  have HV := Lib.hid hV
  have HPL := Lib.hid hPL
  clear hV hPL
  go_enter Tryz.func24, Tryz.ntmps24
  go_wp2_with fail
  have H0 := Lib.hid (show PcAt w [] 1 1 (.slice none 0 0) ((w.alloc (.cells #[.int .i64 0, .int .i64 0] 31)).alloc (.cells #[.int .i64 1, .int .i64 1] 31)) from
    ⟨((Below.refl w.heap.size w |>.alloc (Nat.le_refl _) _)).alloc (by simp) _, by rw [Below.heap_alloc _ _ _ (by simp)]; exact last _ _, lastk _ _ (by simp), World.ownsRow_nil _ _ _ _⟩)
  generalize (w.alloc (.cells #[.int .i64 0, .int .i64 0] 31)).alloc (.cells #[.int .i64 1, .int .i64 1] 31) = wz at *
  go_loopg [5, 7] s.size (fun gk ov iv wr => ∃ (i : Nat) (l c : Int) (d : List (Int × Int)), iv = .int .i64 (i : Int) ∧ s.size ≤ gk + i ∧ i ≤ s.size ∧ d.length = i ∧ PcAt w d l c ov wr ∧ va (s.extract i s.size) l c = V ∧ d ++ pl (s.extract i s.size) l c = PL ∧ 1 ≤ l ∧ l ≤ 1 + i ∧ 1 ≤ c ∧ c ≤ 1 + i)
  case atStart =>
    have e0 : s.extract 0 s.size = s := by simp
    exact ⟨0, 1, 1, [], rfl, by omega, by omega, rfl, H0.out, by rw [e0]; exact HV.out, by rw [e0]; exact HPL.out, by omega, by omega, by omega, by omega⟩
  case round =>
    obtain ⟨i, l, c, d, rfl, hgk, his, hdl, hpc, hva, hpl, hl1, hl2, hc1, hc2⟩ := hrel
    obtain ⟨A2, k2, rfl⟩ := row_form hpc.row
    have HP := Lib.hid hpc
    have HX := Lib.hid (And.intro hva hpl)
    have HSL := Lib.hid (show w.heap.size + 2 ≤ wr.heap.size from heap_lt hpc.at')
    have HDL := Lib.hid hdl
    clear hdl
    obtain ⟨a0, a1⟩ := cellsOf2p hpc.at'
    have af := frozenOf hpc.at'
    obtain ⟨r0, r1⟩ := cellsOf2p hpc.res
    have rf := frozenOf hpc.res
    clear hpc hva hpl
    have hsz : (s.extract i s.size).size = s.size - i := by simp
    by_cases hlt : i < s.size
    · obtain ⟨g, rfl⟩ : ∃ g, gk = g + 1 := ⟨gk - 1, by omega⟩
      have hlt' : (i : Int) < (s.size : Int) := by omega
      have hle' : (i : Int) ≤ (s.size : Int) := by omega
      have hp := point_in (s.extract i s.size) wr (by omega)
      have hbd := (pt_bytes (s.extract i s.size) (by omega)).1
      by_cases hz : ptB (s.extract i s.size) = 0
      · rw [hz] at hp
        have HVV := Lib.hid (show V = some (l, c) by rw [← HX.out.1]; exact va_bad (by omega) hz l c)
        go_wp2_with fail
        refine hp.mono ?_
        clear hp
        rintro e w1 ⟨rfl, rfl⟩
        go_wp2_with fail
        go_region
        go_wp2_with fail
        have HQ := Lib.hid (setc (setc HP.out.res 0 (.int .i64 l)) 1 (.int .i64 c))
        obtain ⟨q0, q1⟩ := cellsOf2p HQ.out
        rw [HVV.out]
        exact bodyPost_ret (v := .tuple #[.slice none 0 0, .agg #[.int .i64 l, .int .i64 c], .bool true]) (by simp [results, Tryz.results24, go_sem, q0, q1]) rfl ⟨rfl, ((HP.out.below.setCell (Nat.le_refl _) _).setCell (Nat.le_refl _) _).drew⟩
      · obtain ⟨n, hn⟩ : ∃ z, ptB (s.extract i s.size) = z := ⟨_, rfl⟩
        rw [hn] at hp hz hbd
        have hz' : ((n : Int) == 0) = false := by simp; omega
        have HN := Lib.hid hn
        clear hn
        go_wp2_with fail
        refine hp.mono ?_
        clear hp
        rintro e w1 ⟨rfl, rfl⟩
        have HK := Lib.hid (show PcAt w (d ++ List.replicate 0 (l, c)) l c (.slice A2 d.length k2) wr by simpa using HP.out)
        clear a0 a1 af r0 r1 rf
        go_wp2_with fail
        go_loopg [5, 9] n (fun gk2 ov2 kv wy => ∃ k : Nat, kv = .int .i64 (k : Int) ∧ k + gk2 = n ∧ PcAt w (d ++ List.replicate k (l, c)) l c ov2 wy)
        case atStart => exact ⟨0, rfl, by omega, HK.out⟩
        case round =>
          obtain ⟨k, rfl, hkg, hpk⟩ := hrel
          obtain ⟨A3, k3, rfl⟩ := row_form hpk.row
          have HPK := Lib.hid hpk
          obtain ⟨a0, a1⟩ := cellsOf2p hpk.at'
          have af := frozenOf hpk.at'
          have hsl := heap_lt hpk.at'
          clear hpk
          by_cases hk : k < n
          · have hk' : (k : Int) < (n : Int) := by omega
            obtain ⟨g3, rfl⟩ : ∃ g, gk = g + 1 := ⟨gk - 1, by omega⟩
            have hdk : (d ++ List.replicate k (l, c)).length = i + k := by simp [HDL.out]
            generalize hD : d ++ List.replicate k (l, c) = D at *
            have HD := Lib.hid hD
            have HDK := Lib.hid hdk
            clear hD hdk
            go_wp2_with (at_builtin; refine wpList_append_own _ rfl _ _ 70 rfl (w.heap.size + 2) 31 i0 (.agg #[.int .i64 0, .int .i64 0]) 2 16 Tryz.underlying70 hi0 hz0 hz1 hz2 rfl (by decide) (.slice A3 D.length k3) D.length (rowsP D) rfl (HPK.out.row.alloc _) ⟨wr.heap.size, 0, none⟩ 1 1 (posCells (l, c)) rfl rfl ?c2 ?c3 ?c4 ?c5 ?c6 ?_)
            case c2 => exact World.news_of_block (last wr _)
            case c3 => simp [posCells, Value.oneCell']
            case c4 => have := HDK.out; unfold maxLen; omega
            case c5 => have := HDK.out; omega
            case c6 => simp; omega
            intro v' w8 hown hgrow hnil
            have HN2 := Lib.hid (HPK.out.push hown hgrow)
            clear hown hgrow hnil a0 a1 af
            go_wp2_with fail
            go_roundg g3
            case measure => omega
            case rel =>
              refine ⟨k + 1, by first | rfl | go_num, by omega, ?_⟩
              rw [List.replicate_succ', ← List.append_assoc, HD.out]
              exact HN2.out
          · have hk' : ¬ (k : Int) < (n : Int) := by omega
            obtain rfl : k = n := by omega
            have hdk : (d ++ List.replicate k (l, c)).length = i + k := by simp [HDL.out]
            generalize hD : d ++ List.replicate k (l, c) = D at *
            have HD := Lib.hid hD
            have HDK := Lib.hid hdk
            clear hD hdk
            have hsx : (s.extract i s.size).size ≠ 0 := by omega
            have HPC := Lib.hid (pl_cons hsx (by rw [HN.out]; exact hz) l c)
            have HVC := Lib.hid (va_cons hsx (by rw [HN.out]; exact hz) l c)
            have hax : aft (s.extract i s.size) k = s.extract (i + k) s.size := aft_aft s i k
            have h0x : ((s.extract i s.size).get! 0) = s[i]'hlt := (aft_get s i 0).trans (get_eq hlt)
            have hw1 : wrap64 (c + 1) = c + 1 := wrap_in (by omega)
            by_cases h10 : (s[i]'hlt).toNat = 10
            · have h10' : (((s[i]'hlt).toNat : Int) == 10) = true := by simp; omega
              obtain ⟨x1, x2⟩ := next_one (s := s.extract i s.size) (by rw [h0x]; exact h10) l c
              rw [x1, x2, HN.out, hax] at HPC HVC
              have hw2 : wrap64 (l + 1) = l + 1 := wrap_in (by omega)
              go_wp2_with fail
              have HN2 := Lib.hid (((HPK.out.move 1 (.int .i64 (c + 1)) (l' := l) (c' := c + 1) rfl).move 0 (.int .i64 (l + 1)) (l' := l + 1) (c' := c + 1) rfl).move 1 (.int .i64 1) (l' := l + 1) (c' := 1) rfl)
              go_roundg g
              case measure => omega
              case rel =>
                refine ⟨i + k, l + 1, 1, D, by first | rfl | go_num, by omega, by omega, HDK.out, HN2.out, HVC.out.symm.trans HX.out.1, ?_, by omega, by omega, by omega, by omega⟩
                rw [← HD.out, List.append_assoc, ← HPC.out]
                exact HX.out.2
            · have h10' : (((s[i]'hlt).toNat : Int) == 10) = false := by simp; omega
              obtain ⟨x1, x2⟩ := next_go (s := s.extract i s.size) (by rw [h0x]; exact h10) l c
              rw [x1, x2, HN.out, hax] at HPC HVC
              go_wp2_with fail
              have HN2 := Lib.hid (HPK.out.move 1 (.int .i64 (c + 1)) (l' := l) (c' := c + 1) rfl)
              go_roundg g
              case measure => omega
              case rel =>
                refine ⟨i + k, l, c + 1, D, by first | rfl | go_num, by omega, by omega, HDK.out, HN2.out, HVC.out.symm.trans HX.out.1, ?_, by omega, by omega, by omega, by omega⟩
                rw [← HD.out, List.append_assoc, ← HPC.out]
                exact HX.out.2
    · have hlt' : ¬ (i : Int) < (s.size : Int) := by omega
      obtain rfl : i = s.size := by omega
      have h00 : (s.extract s.size s.size).size = 0 := by simp
      have HVN := Lib.hid (show V = none by rw [← HX.out.1]; exact va_nil h00 l c)
      have HPN := Lib.hid (show PL = d ++ [(l, c)] by rw [← HX.out.2, pl_nil h00])
      go_upto_region 16 with fail
      have HNE := Lib.hid (show some (w.heap.size + 1) ≠ (Value.slice A2 d.length k2).ownBlock from fun e => by
        have := (row_lt HP.out.row e.symm).1
        omega)
      have HNR := Lib.hid (show some w.heap.size ≠ (Value.slice A2 d.length k2).ownBlock from fun e => by
        have := (row_lt HP.out.row e.symm).1
        omega)
      have b0 := fun o => (World.cell?_of_block (Below.heap_alloc wr o _ (cell_lt a0))).trans a0
      have b1 := fun o => (World.cell?_of_block (Below.heap_alloc wr o _ (cell_lt a1))).trans a1
      go_region_law (refine step_append_lies _ rfl (.tmp 46) (.tmp 48) 70 rfl (w.heap.size + 2) 31 i0 (.agg #[.int .i64 0, .int .i64 0]) 2 16 Tryz.underlying70 hi0 hz0 hz1 hz2 rfl (by decide) (.slice A2 d.length k2) d.length _ rfl (row_drewa HP.out.row _) _ 1 1 _ rfl rfl (news2d _ _ _ _) (one2 _ _) (by decide) (by have := HDL.out; unfold maxLen; omega) (by have := HDL.out; omega) (by have := HSL.out; show w.heap.size + 2 ≤ (World.alloc _ _).heap.size; simp; omega) _ rfl ?_; intro g' cap' wa hown hgrow hat hlt1; have d0 := far_celld hgrow a0 HNE.out; have d1 := far_celld hgrow a1 HNE.out; have dR := (hgrow.block w.heap.size (by have := HSL.out; show w.heap.size < (World.alloc _ _).heap.size; simp; omega) HNR.out).trans ((Below.heap_alloc _ _ _ (heap_lt HP.out.res)).trans HP.out.res); obtain ⟨d2, d3⟩ := cellsOf2p dR; have d4 := frozenOf dR)
      all_goals
        have HN2 := Lib.hid (HP.out.pushd hown hgrow)
        clear hown hgrow hat hlt1 d0 d1 d2 d3 d4 dR a0 a1 af r0 r1 rf b0 b1
        go_wp2_with fail
        have HQ := Lib.hid (HN2.out.last (.int .i64 l) (.int .i64 c))
        obtain ⟨q0, q1⟩ := cellsOf2p HQ.out.1
        rw [HVN.out, HPN.out]
        exact bodyPost_ret (v := .tuple #[.slice (some ⟨g', 0, none⟩) (d.length + 1) cap', .agg #[.int .i64 l, .int .i64 c], .bool false]) (by simp [results, Tryz.results24, go_sem, q0, q1]) rfl ⟨⟨_, l, c, rfl, by
          have h := HQ.out.2.1
          exact h⟩, HQ.out.2.2⟩
end Go.Proofs.YtinebmfmkgjaaaaGreatDoor
