/- The reference's New: of any number of points, and any pairs. -/
import Derived.Test.YtkcbcdfcpchgcaaDoorRef1
import Derived.Test.YtkcbcdfcpchgcaaDoorRefC
import Derived.Deep.AppendLies
import Derived.Deep.RegionLawGrows
import Derived.Deep.LoopGhost
set_option linter.unusedVariables false
set_option linter.unusedSimpArgs false
namespace Go.Proofs.YtkcbcdfcpchgcaaDoor
open Go.RowKit
open OrdP (inB Rel allB allB_iff)

def rowV (n : Nat) (row : Nat → Nat) (i : Nat) : Value := .slice (some ⟨row i, 0, none⟩) n n
/-- A reference's order in the making: k rows of n truths. -/
structure RefOwn (w : World) (B bo : Nat) (v : Value) (n k : Nat) (rr : Nat → Nat) (R : Rel) : Prop where
  obj : w.heap[bo]? = some (.cells #[.int .i64 n, v] 28)
  rows : w.ownsRow B 34 1 v k ((List.range k).map (rowV n rr))
  row : ∀ i, i < k → w.rowIs (rr i) 4 n (fun j => .bool (R i j))
  inj : ∀ i j, i < k → j < k → rr i = rr j → i = j
  base : ∀ i, i < k → B ≤ rr i

theorem RefOwn.drew {w : World} {B bo : Nat} {v : Value} {n k : Nat} {row : Nat → Nat} {R : Rel} (h : RefOwn w B bo v n k row R) : RefOwn w.drew B bo v n k row R := ⟨h.obj, h.rows, h.row, h.inj, h.base⟩
theorem heap_set (w : World) (b o : Nat) (v : Value) (c : Array Value) (t : TypeId) (h : w.heap[b]? = some (.cells c t)) : (w.setCell ⟨b, o, none⟩ v).heap[b]? = some (.cells (c.setIfInBounds o v) t) := by
  simp only [World.setCell, Array.getElem?_modify, h]; simp
theorem owns_set {w : World} {B : Nat} {e : TypeId} {size n : Nat} {v : Value} {xs : List Value} (h : w.ownsRow B e size v n xs) {b o : Nat} (hb : ∀ g, v.ownBlock = some g → g ≠ b) (u : Value) : (w.setCell ⟨b, o, none⟩ u).ownsRow B e size v n xs := by
  obtain ⟨h1, h2⟩ := h
  refine ⟨h1, ?_⟩
  rcases h2 with h2 | ⟨g, cap, cur, rfl, hg, hh, r⟩
  · exact .inl h2
  · exact .inr ⟨g, cap, cur, rfl, hg, by rw [Below.heap_setCell _ _ _ _ (hb g rfl)]; exact hh, r⟩
theorem owns_elem {w : World} {B : Nat} {e : TypeId} {size n : Nat} {v : Value} {xs : List Value} (h : w.ownsRow B e size v n xs) {g : Nat} (hg : v.ownBlock = some g) : ∃ c, w.heap[g]? = some (.cells c e) := by
  rcases h.2 with ⟨rfl, _⟩ | ⟨g', cap, cur, rfl, _, hh, _⟩
  · cases hg
  · obtain rfl : g' = g := by simpa [Value.ownBlock] using hg
    exact ⟨cur, hh⟩

section
variable {w : World} {B bo : Nat} {v : Value} {n k : Nat} {rr : Nat → Nat} {R : Rel}
theorem RefOwn.far_obj (h : RefOwn w B bo v n k rr R) : v.ownBlock ≠ some bo := fun e => by
  obtain ⟨c, hc⟩ := owns_elem h.rows e
  rw [h.obj] at hc
  simp at hc
theorem RefOwn.far_row (h : RefOwn w B bo v n k rr R) {i : Nat} (hi : i < k) : v.ownBlock ≠ some (rr i) := fun e => by
  obtain ⟨c, hc⟩ := owns_elem h.rows e
  obtain ⟨c', hc', _⟩ := h.row i hi
  rw [hc'] at hc
  simp at hc
theorem RefOwn.obj_row (h : RefOwn w B bo v n k rr R) {i : Nat} (hi : i < k) : rr i ≠ bo := fun e => by
  obtain ⟨c', hc', _⟩ := h.row i hi
  rw [e, h.obj] at hc'
  simp at hc'

theorem RefOwn.row_at {g cp : Nat} (h : RefOwn w B bo (.slice (some ⟨g, 0, none⟩) k cp) n k rr R) {i : Nat} (hi : i < k) : w.cell? ⟨g, i, none⟩ = some (.slice (some ⟨rr i, 0, none⟩) n n) := by
  rw [h.rows.cellAt i (by omega), List.getElem?_map, List.getElem?_range hi]
  rfl
theorem RefOwn.ref_set {g cp z : Nat} {cz : Array Value} (h : RefOwn w B bo (.slice (some ⟨g, 0, none⟩) n cp) n n rr R) (hz : w.heap[z]? = some (.cells cz 28)) (a b : Value) : RefAt ((w.setCell ⟨z, 0, none⟩ a).setCell ⟨z, 1, none⟩ b) g n R := by
  refine ⟨rr, fun i hi => ?_, fun i j hi hj => ?_⟩
  · have hgz : z ≠ g := fun e => by
      obtain ⟨c, hc⟩ := owns_elem h.rows rfl
      rw [← e, hz] at hc
      simp at hc
    rw [cell_set_ne hgz, cell_set_ne hgz]
    exact h.row_at hi
  · have hrz : z ≠ rr i := fun e => by
      obtain ⟨c', hc', _⟩ := h.row i hi
      rw [← e, hz] at hc'
      simp at hc'
    rw [cell_set_ne hrz, cell_set_ne hrz]
    exact (h.row i hi).cell hj
theorem RefOwn.own_ge (h : RefOwn w B bo v n k rr R) : ∀ g, v.ownBlock = some g → B ≤ g := fun g hg => (h.rows.lt g hg).1
/-- A new row, all false. -/
theorem RefOwn.push (h : RefOwn w B bo v n k rr R) (hB : B ≤ w.heap.size) {W2 w1 : World} (hW : ∀ b : Nat, W2.heap[b]? = ((w.alloc (.cells (madeCells #[.bool false] n) 4)).alloc (.cells #[.slice (some ⟨w.heap.size, 0, none⟩) n n] 34)).heap[b]?)
    (hS : W2.heap.size = w.heap.size + 2) {g cap : Nat} (hown : w1.ownsRow B 34 1 (.slice (some ⟨g, 0, none⟩) (k + 1) cap) (k + 1) ((List.range k).map (rowV n rr) ++ [.slice (some ⟨w.heap.size, 0, none⟩) n n])) (hgrow : W2.grownBy w1 v.ownBlock) :
    RefOwn (w1.setCell ⟨bo, 1, none⟩ (.slice (some ⟨g, 0, none⟩) (k + 1) cap)) B bo (.slice (some ⟨g, 0, none⟩) (k + 1) cap) n (k + 1) (fun i => if i = k then w.heap.size else rr i) (fun i j => if i = k then false else R i j) := by
  have old : ∀ (b : Nat) (o : Obj), w.heap[b]? = some o → some b ≠ v.ownBlock → w1.heap[b]? = some o := fun b o hb hne => by
    have hlt : b < w.heap.size := (Array.getElem?_eq_some_iff.1 hb).1
    rw [hgrow.block b (by omega) hne, hW, Below.heap_alloc _ _ _ (by simp; omega), Below.heap_alloc _ _ _ hlt]
    exact hb
  have hobj1 := old bo _ h.obj (fun e => h.far_obj e.symm)
  have hnew : w1.rowIs w.heap.size 4 n (fun _ => .bool false) := by
    have hne : some w.heap.size ≠ v.ownBlock := fun e => by
      obtain ⟨c, hc⟩ := owns_elem h.rows e.symm
      have := (Array.getElem?_eq_some_iff.1 hc).1
      omega
    refine (World.rowIs_made w (.bool false) n 4).of_block ?_
    rw [hgrow.block _ (by omega) hne, hW, Below.heap_alloc _ _ _ (by simp)]
  have hgb : g ≠ bo := fun e => by
    obtain ⟨c, hc⟩ := owns_elem hown rfl
    rw [e, hobj1] at hc
    simp at hc
  refine ⟨?_, ?_, fun i hi => ?_, fun i j hi hj e => ?_, fun i hi => ?_⟩
  · rw [heap_set _ _ _ _ _ _ hobj1]; rfl
  · rw [List.range_succ, List.map_append]
    have e1 : (List.range k).map (rowV n fun i => if i = k then w.heap.size else rr i) = (List.range k).map (rowV n rr) := by
      refine List.map_congr_left fun i hi => ?_
      have : i ≠ k := by have := List.mem_range.1 hi; omega
      simp [rowV, this]
    rw [e1]
    have e2 : [k].map (rowV n fun i => if i = k then w.heap.size else rr i) = [.slice (some ⟨w.heap.size, 0, none⟩) n n] := by simp [rowV]
    rw [e2]
    exact owns_set hown (fun g' hg' => by obtain rfl : g = g' := by simpa [Value.ownBlock] using hg'
                                          exact hgb) _
  · by_cases e : i = k
    · subst e
      simp only [if_true]
      refine hnew.setOther (fun e => ?_) _
      obtain ⟨c, hc, _⟩ := hnew
      have e' : w.heap.size = bo := e
      rw [e', hobj1] at hc
      simp at hc
    · simp only [if_neg e]
      have hik : i < k := by omega
      exact ((h.row i hik).of_block (by obtain ⟨c, hc, _⟩ := h.row i hik; rw [hc]; exact old _ _ hc (fun e => h.far_row hik e.symm))).setOther (h.obj_row hik) _
  · have lt : ∀ i, i < k → rr i < w.heap.size := fun i hi => (h.row i hi).lt
    by_cases e1 : i = k <;> by_cases e2 : j = k
    · omega
    · simp only [if_pos e1, if_neg e2] at e
      have := lt j (by omega); omega
    · simp only [if_neg e1, if_pos e2] at e
      have := lt i (by omega); omega
    · simp only [if_neg e1, if_neg e2] at e
      exact h.inj i j (by omega) (by omega) e
  · by_cases e1 : i = k
    · simp only [if_pos e1]; exact hB
    · simp only [if_neg e1]; exact h.base i (by omega)
theorem RefOwn.congr (h : RefOwn w B bo v n k rr R) {S : Rel} (e : ∀ i j, i < k → j < n → R i j = S i j) : RefOwn w B bo v n k rr S :=
  ⟨h.obj, h.rows, fun i hi => (h.row i hi).congr fun j hj => by rw [e i j hi hj], h.inj, h.base⟩
/-- A truth in a row. -/
theorem RefOwn.set (h : RefOwn w B bo v n k rr R) {i j : Nat} (hi : i < k) (hj : j < n) (b : Bool) : RefOwn (w.setCell ⟨rr i, j, none⟩ (.bool b)) B bo v n k rr (fun i' j' => if i' = i ∧ j' = j then b else R i' j') := by
  refine ⟨?_, owns_set h.rows (fun g hg e => h.far_row hi (by rw [hg, e])) _, fun i' hi' => ?_, h.inj, h.base⟩
  · rw [Below.heap_setCell _ _ _ _ (fun e => h.obj_row hi e.symm)]; exact h.obj
  · by_cases e : i' = i
    · subst e
      refine ((h.row i' hi').set j (.bool b)).congr fun j' hj' => ?_
      by_cases e2 : j' = j
      · simp [e2]
      · simp [e2]
    · have := (h.row i' hi').setOther (a := ⟨rr i, j, none⟩) (fun x => e (h.inj i' i hi' hi x)) (.bool b)
      simpa [e] using this
end

theorem news_one (w : World) (x : Value) (t : TypeId) {b : Nat} (hb : b = w.heap.size) : ∀ j u, [x][j]? = some u → (w.alloc (.cells #[x] t)).cell? ((⟨b, 0, none⟩ : Addr).add j) = some u := by
  subst hb
  intro j u h
  have e : (w.alloc (.cells #[x] t)).heap[w.heap.size]? = some (.cells #[x] t) := by simp only [World.alloc, Array.getElem?_push]; simp
  rcases j with _ | j
  · simp at h; subst h; simp only [World.cell?, Addr.add, if_true, e]; rfl
  · simp at h
theorem far2 {w : World} {b : Nat} {c : Array Value} {t : TypeId} (h : w.heap[b]? = some (.cells c t)) (i : Nat) (v : Value) (hv : c[i]? = some v) {o1 o2 : Obj} : ((w.drew.alloc o1).alloc o2).cell? ⟨b, i, none⟩ = some v := by
  have hc : w.drew.cell? ⟨b, i, none⟩ = some v := by show w.cell? _ = _; simp only [World.cell?, h]; exact hv
  exact cell_alloc (cell_alloc hc _) _
theorem far2f {w : World} {b : Nat} {c : Array Value} {t : TypeId} (h : w.heap[b]? = some (.cells c t)) (i : Nat) {o1 o2 : Obj} : ((w.drew.alloc o1).alloc o2).frozen? ⟨b, i, none⟩ = false := by
  have hlt : b < w.heap.size := (Array.getElem?_eq_some_iff.1 h).1
  have e : ((w.drew.alloc o1).alloc o2).heap[b]? = some (.cells c t) := by
    rw [Below.heap_alloc _ _ _ (by simp; omega), Below.heap_alloc _ _ _ (by simpa using hlt)]; exact h
  simp [World.frozen?, e]
theorem far_cell {w w' : World} {r : Option Nat} {b i : Nat} {v : Value} (hg : w.grownBy w' r) (hr : r ≠ some b) (h : w.cell? ⟨b, i, none⟩ = some v) : w'.cell? ⟨b, i, none⟩ = some v := (World.cell?_of_block (hg.block b (cell_lt h) (fun e => hr e.symm))).trans h
theorem far_frozen {w w' : World} {r : Option Nat} {b i : Nat} {v : Value} (hg : w.grownBy w' r) (hr : r ≠ some b) (h : w.cell? ⟨b, i, none⟩ = some v) (hf : w.frozen? ⟨b, i, none⟩ = false) : w'.frozen? ⟨b, i, none⟩ = false := (World.frozen?_of_block (hg.block b (cell_lt h) (fun e => hr e.symm))).trans hf
theorem info_bools : (Tryd.prog.info? 34).map (fun i => (i.zero, i.size, i.bytes)) = some (some (.slice none 0 0), 1, 24) := by kernel_rfl
theorem info_bool : (Tryd.prog.info? 4).map (fun i => (i.zero, i.size, i.bytes)) = some (some (.bool false), 1, 1) := by kernel_rfl

theorem set_zero {w : World} {b : Nat} {x y : Value} (h0 : w.cell? ⟨b, 0, none⟩ = some x) (h1 : w.cell? ⟨b, 1, none⟩ = some y) (u v : Value) :
    ((w.setCell ⟨b, 0, none⟩ u).setCell ⟨b, 1, none⟩ v).cell? ⟨b, 0, none⟩ = some u ∧ ((w.setCell ⟨b, 0, none⟩ u).setCell ⟨b, 1, none⟩ v).cell? ⟨b, 1, none⟩ = some v := by
  constructor
  · rw [cell_set_off (by omega)]; exact cell_set_same h0
  · exact cell_set_same (x := y) (by rw [cell_set_off (by omega)]; exact h1)
def RefNewPost (w : World) (n : Nat) (l : List (Int × Int)) (e : Ending) (w' : World) : Prop :=
  Below w.heap.size w w' ∧
  ((l.all (okP n) = false ∧ e = .returned (.tuple #[.agg #[.int .i64 0, .slice none 0 0], .bool false])) ∨
   (l.all (okP n) = true ∧ ∃ g cp R, e = .returned (.tuple #[.agg #[.int .i64 n, .slice (some ⟨g, 0, none⟩) n cp], .bool true]) ∧ RefAt w' g n R ∧ OrdP.Clo n (R0 l) R))

set_option maxRecDepth 100000 in
set_option maxHeartbeats 4000000 in
theorem refNew_in (w : World) (n : Nat) (A : Option Addr) (cap : Nat) (l : List (Int × Int)) (h1 : 1 ≤ n) (hn : n ≤ 32) (hl : l.length ≤ 1000) (hp : PairsAt w A l) :
    Calls Tryd.prog 30 #[.int .i64 n, .slice A l.length cap] w (RefNewPost w n l) := by
  obtain ⟨i0, hi, hz0, hz1, hz2⟩ := info_parts info_bools
  have hmk := run_make_row' (P := Tryd.prog) 34 4 (.bool false) 1 Tryd.underlying34 info_bool rfl .i64 .i64 n (by omega) (by omega)
  have HP := Lib.hid hp; clear hp
  go_enter Tryd.func30, Tryd.ntmps30
  go_wp2_with fail
  have hb0 : Below w.heap.size w (w.alloc (.cells #[.int .i64 0, .slice none 0 0] 28)) := (Below.refl _ _).alloc (Nat.le_refl _) _
  have hs0 : (w.alloc (.cells #[.int .i64 0, .slice none 0 0] 28)).heap.size = w.heap.size + 1 := by simp
  have hz0' : (w.alloc (.cells #[.int .i64 0, .slice none 0 0] 28)).heap[w.heap.size]? = some (.cells #[.int .i64 0, .slice none 0 0] 28) := by simp only [World.alloc, Array.getElem?_push]; simp
  generalize w.alloc (.cells #[.int .i64 0, .slice none 0 0] 28) = w0 at *
  have HZ := Lib.hid hz0'; clear hz0'
  have HS0 := Lib.hid hs0; clear hs0
  have HB0 := Lib.hid hb0; clear hb0
  go_loopw [7] (fun i wr => ∃ (k : Nat) (v : Value) (row : Nat → Nat), k ≤ n ∧ i = .int .i64 k ∧ RefOwn wr (w.heap.size + 1) (w.heap.size + 1) v n k row (fun i j => decide (i = j)) ∧ Below (w.heap.size + 1) w0 wr) (fun i _ => n - (intOf i).toNat)
  case atStart =>
    refine ⟨0, .slice none 0 0, fun _ => 0, Nat.zero_le _, rfl, ⟨?_, World.ownsRow_nil _ _ _ _, fun i hi => by omega, fun i j hi => by omega, fun i hi => by omega⟩, ?_⟩
    · rw [← HS0.out]; simp only [World.alloc, Array.getElem?_push]; simp
    · exact (Below.refl _ _).alloc (by rw [HS0.out]; exact Nat.le_refl _) _
  case round =>
    obtain ⟨k, v, rr, hk, rfl, ho, hbel⟩ := hrel
    by_cases hlt : k < n
    · have ho1 := ho.obj
      have hfar := ho.far_obj
      have HO := Lib.hid ho; clear ho
      have co : wr.cell? ⟨w.heap.size + 1, 1, none⟩ = some v := by simp only [World.cell?, ho1]; rfl
      have fo : wr.frozen? ⟨w.heap.size + 1, 1, none⟩ = false := by simp [World.frozen?, ho1]
      have hlo : w.heap.size + 1 < wr.heap.size := (Array.getElem?_eq_some_iff.1 ho1).1
      have hl2 := hbel.size
      rw [HS0.out] at hl2
      have co2 := fun o => cell_alloc co o
      have co3 := fun o o2 => cell_alloc (cell_alloc co o) o2
      have HB := Lib.hid hbel; clear hbel
      have HFAR := Lib.hid hfar; clear hfar
      have HO1 := Lib.hid ho1; clear ho1
      go_wp2_with fail
      go_region_law (refine step_append_lies _ rfl _ _ 26 rfl (w.heap.size + 1) 34 i0 (.slice none 0 0) 1 24 Tryd.underlying26 hi hz0 hz1 hz2 rfl (by decide) v k _ rfl ((HO.out.drew.rows.alloc _).alloc _) ⟨wr.heap.size + 1, 0, none⟩ 1 1 [.slice (some ⟨wr.heap.size, 0, none⟩) n n] rfl rfl (news_one _ _ _ (by simp)) (by simp [Value.oneCell']) (by decide) (by unfold maxLen; omega) (by omega) (by simp; omega) _ rfl ?_; intro g' cap' w1 hown hgrow hat hlt1; have co1 := far_cell hgrow HFAR.out (far2 HO1.out 1 v rfl); have fo1 := far_frozen hgrow HFAR.out (far2 HO1.out 1 v rfl) (far2f HO1.out 1))
      all_goals
        have hN := HO.out.push hl2 (by intro b; rfl) (by simp) hown hgrow
        have hBn : Below (w.heap.size + 1) w0 (w1.setCell ⟨w.heap.size + 1, 1, none⟩ (.slice (some ⟨g', 0, none⟩) (k + 1) cap')) := (((HB.out.drew.alloc (by simpa using hl2) _).alloc (by simp; omega) _).grown hgrow (by simp; omega) (HO.out.own_ge)).setCell (p := ⟨w.heap.size + 1, 1, none⟩) (Nat.le_refl _) _
        generalize w1.setCell ⟨w.heap.size + 1, 1, none⟩ (.slice (some ⟨g', 0, none⟩) (k + 1) cap') = W3 at *
        have d1 : W3.cell? ⟨w.heap.size + 1, 1, none⟩ = some (.slice (some ⟨g', 0, none⟩) (k + 1) cap') := by simp only [World.cell?, hN.obj]; rfl
        have d2 : W3.cell? ⟨g', k, none⟩ = some (.slice (some ⟨wr.heap.size, 0, none⟩) n n) := by
          rw [hN.rows.cellAt k (by omega), List.getElem?_map, List.getElem?_range (by omega)]
          simp [rowV]
        have hrk := hN.row k (by omega)
        simp only [if_true] at hrk
        have d3 := hrk.cell hlt
        have d4 := hrk.frozen k
        have hk1 : (k : Int) < ((k + 1 : Nat) : Int) := by omega
        have hS := hN.set (i := k) (j := k) (by omega) hlt true
        simp only [if_true] at hS
        have HN := Lib.hid hS
        have HBN := Lib.hid (hBn.setCell (p := ⟨wr.heap.size, k, none⟩) (by show w.heap.size + 1 ≤ _; omega) (.bool true))
        clear hN hS hBn hown hgrow hat hlt1 co1 fo1 co fo co2 co3 hrk
        go_wp2_with fail
        go_roundw
        case rel =>
          exact ⟨k + 1, _, _, by omega, by go_num, HN.out.congr (fun i j hi hj => by
            by_cases e : i = k
            · subst e
              by_cases e2 : j = i
              · simp [e2]
              · have e3 : ¬ i = j := fun x => e2 x.symm
                simp [e2, e3]
            · simp [e]), HBN.out⟩
        case measure => simp [intOf]; omega
    · obtain rfl : k = n := by omega
      clear hmk
      have hpe : ∀ i, i < l.length → ∃ bp off, A = some ⟨bp, off, none⟩ ∧ bp < w.heap.size ∧ w.cell? ⟨bp, off + i * 2, none⟩ = some (.int .i64 (l.getD i (0, 0)).1) ∧ w.cell? ⟨bp, off + i * 2 + 1, none⟩ = some (.int .i64 (l.getD i (0, 0)).2) := by
        intro i hi
        rcases HP.out with rfl | ⟨bp, off, hA, hc⟩
        · simp at hi
        · exact ⟨bp, off, hA, cell_lt (hc i hi).1, hc i hi⟩
      have HPE := Lib.hid hpe; clear hpe
      obtain ⟨g, cp, rfl, hg1, hg2⟩ := ho.rows.form (by omega)
      have ho := (show RefOwn wr (w.heap.size + 1) (w.heap.size + 1) (.slice (some ⟨g, 0, none⟩) k cp) k k rr (R0 []) from ho.congr fun i j _ _ => by simp [R0])
      go_wp2_with fail
      go_loopw [5, 8, 9, 10] (fun r2 i sa sb wr => ∃ m : Nat, m ≤ l.length ∧ i = .int .i64 m ∧ RefOwn wr (w.heap.size + 1) (w.heap.size + 1) (.slice (some ⟨g, 0, none⟩) k cp) k k rr (R0 (l.take m)) ∧ (l.take m).all (okP k) = true ∧ Below (w.heap.size + 1) w0 wr) (fun _ i _ _ _ => l.length - (intOf i).toNat)
      case atStart => exact ⟨0, Nat.zero_le _, rfl, by simpa using ho, by simp, hbel⟩
      case round =>
        obtain ⟨m, hm, rfl, ho2, hall, hbel2⟩ := hrel
        by_cases hmt : m < l.length
        · obtain ⟨bp, off, rfl, hbp, c1, c2⟩ := HPE.out m hmt
          have cx := (hbel2.cell (p := ⟨bp, off + m * 2, none⟩) (by show bp < _; omega)).trans ((HB0.out.cell (p := ⟨bp, off + m * 2, none⟩) hbp).trans c1)
          have cy := (hbel2.cell (p := ⟨bp, off + m * 2 + 1, none⟩) (by show bp < _; omega)).trans ((HB0.out.cell (p := ⟨bp, off + m * 2 + 1, none⟩) hbp).trans c2)
          obtain ⟨⟨x, y⟩, hxy⟩ : ∃ xy, xy = l.getD m (0, 0) := ⟨_, rfl⟩
          rw [← hxy] at cx cy
          have HXY := Lib.hid hxy; clear hxy c1 c2
          have hz : wr.heap[w.heap.size]? = some (.cells #[.int .i64 0, .slice none 0 0] 28) := (hbel2.block w.heap.size (Nat.lt_succ_self _)).trans HZ.out
          by_cases hok : 0 ≤ x ∧ 0 ≤ y ∧ x < k ∧ y < k
          · obtain ⟨x0, y0, x1, y1⟩ := hok
            obtain ⟨ix, rfl⟩ := Int.eq_ofNat_of_zero_le x0
            obtain ⟨jy, rfl⟩ := Int.eq_ofNat_of_zero_le y0
            have ix1 : ix < k := by omega
            have jy1 : jy < k := by omega
            have d1 : wr.cell? ⟨w.heap.size + 1, 1, none⟩ = some (.slice (some ⟨g, 0, none⟩) k cp) := by simp only [World.cell?, ho2.obj]; rfl
            have d2 : wr.cell? ⟨g, ix, none⟩ = some (.slice (some ⟨rr ix, 0, none⟩) k k) := ho2.row_at ix1
            have d3 := (ho2.row ix ix1).cell jy1
            have d4 := (ho2.row ix ix1).frozen jy
            have HN := Lib.hid (ho2.set ix1 jy1 true)
            have HB := Lib.hid (hbel2.setCell (p := ⟨rr ix, jy, none⟩) (ho2.base ix ix1) (.bool true))
            have HA := Lib.hid hall; clear hall
            clear ho2 hbel2 hz
            go_wp2_with fail
            go_roundw
            case rel =>
              refine ⟨m + 1, by omega, by go_num, HN.out.congr (fun i j hi hj => ?_), ?_, HB.out⟩
              · rw [getD_take hmt, ← HXY.out, r0_snoc]
                by_cases e : i = ix ∧ j = jy
                · simp [e]
                · have e2 : ¬ (ix = i ∧ jy = j) := fun x => e ⟨x.1.symm, x.2.symm⟩
                  simp only [e, if_false]
                  have e3 : (decide (ix = i) && decide (jy = j)) = false := by simpa using e2
                  rw [e3, Bool.or_false]
              · rw [getD_take hmt, ← HXY.out, List.all_append, HA.out]; simp [okP, OrdP.inB, ix1, jy1]
            case measure => simp [intOf]; omega
          · have hbad : l.all (okP k) = false := all_take hmt (by rw [← HXY.out]; unfold okP OrdP.inB; simp; omega)
            have z1 : wr.cell? ⟨w.heap.size, 0, none⟩ = some (.int .i64 0) := by simp only [World.cell?, hz]; rfl
            have z2 : wr.cell? ⟨w.heap.size, 1, none⟩ = some (.slice none 0 0) := by simp only [World.cell?, hz]; rfl
            have z3 : ∀ i, wr.frozen? ⟨w.heap.size, i, none⟩ = false := fun i => by simp [World.frozen?, hz]
            have HB2 := Lib.hid (HB0.out.trans (hbel2.mono (Nat.le_succ _)))
            clear ho2 hbel2 hz
            have r0 := set_zero z1 z2 (.int .i64 0) (.slice none 0 0)
            have HB3 := Lib.hid ((HB2.out.setCell (p := ⟨w.heap.size, 0, none⟩) (Nat.le_refl _) (.int .i64 0)).setCell (p := ⟨w.heap.size, 1, none⟩) (Nat.le_refl _) (.slice none 0 0))
            obtain ⟨r0, r1⟩ := r0
            by_cases b1 : x < 0
            · go_wp2_with fail
              exact bodyPost_ret (v := .tuple #[.agg #[.int .i64 0, .slice none 0 0], .bool false]) (by simp [results, Tryd.results30, go_sem, r0, r1]) rfl ⟨HB3.out, .inl ⟨hbad, rfl⟩⟩
            · by_cases b2 : y < 0
              · go_wp2_with fail
                exact bodyPost_ret (v := .tuple #[.agg #[.int .i64 0, .slice none 0 0], .bool false]) (by simp [results, Tryd.results30, go_sem, r0, r1]) rfl ⟨HB3.out, .inl ⟨hbad, rfl⟩⟩
              · by_cases b3 : (k : Int) ≤ x
                · go_wp2_with fail
                  exact bodyPost_ret (v := .tuple #[.agg #[.int .i64 0, .slice none 0 0], .bool false]) (by simp [results, Tryd.results30, go_sem, r0, r1]) rfl ⟨HB3.out, .inl ⟨hbad, rfl⟩⟩
                · have b4 : (k : Int) ≤ y := by omega
                  go_wp2_with fail
                  exact bodyPost_ret (v := .tuple #[.agg #[.int .i64 0, .slice none 0 0], .bool false]) (by simp [results, Tryd.results30, go_sem, r0, r1]) rfl ⟨HB3.out, .inl ⟨hbad, rfl⟩⟩
        · obtain rfl : m = l.length := by omega
          rw [List.take_length] at ho2 hall
          have HA := Lib.hid hall; clear hall
          go_wp2_with fail
          go_loopg [11] (cnt k (R0 l) + 1) (fun gk more wr => ∃ (mb : Bool) (R : Rel), more = .bool mb ∧ RefOwn wr (w.heap.size + 1) (w.heap.size + 1) (.slice (some ⟨g, 0, none⟩) k cp) k k rr R ∧ OrdP.Sub k (R0 l) R ∧ (∀ T, OrdP.Trans k T → OrdP.Sub k (R0 l) T → OrdP.Sub k R T) ∧ (mb = false → OrdP.Trans k R) ∧ (if mb then cnt k R + 1 else 0) ≤ gk ∧ Below (w.heap.size + 1) w0 wr)
          case atStart => exact ⟨true, R0 l, rfl, ho2, fun _ _ _ _ h => h, fun T _ h => h, (by intro h; cases h), (by simp), hbel2⟩
          case round =>
            obtain ⟨mb, R1, rfl, ho3, hsub, hleast, htr, hgk, hbel3⟩ := hrel
            cases mb with
            | false =>
              have hz : wr.heap[w.heap.size]? = some (.cells #[.int .i64 0, .slice none 0 0] 28) := (hbel3.block w.heap.size (Nat.lt_succ_self _)).trans HZ.out
              have z1 : wr.cell? ⟨w.heap.size, 0, none⟩ = some (.int .i64 0) := by simp only [World.cell?, hz]; rfl
              have z2 : wr.cell? ⟨w.heap.size, 1, none⟩ = some (.slice none 0 0) := by simp only [World.cell?, hz]; rfl
              have z3 : ∀ i, wr.frozen? ⟨w.heap.size, i, none⟩ = false := fun i => by simp [World.frozen?, hz]
              have d0 : wr.cell? ⟨w.heap.size + 1, 0, none⟩ = some (.int .i64 k) := by simp only [World.cell?, ho3.obj]; rfl
              have d1 : wr.cell? ⟨w.heap.size + 1, 1, none⟩ = some (.slice (some ⟨g, 0, none⟩) k cp) := by simp only [World.cell?, ho3.obj]; rfl
              have HB2 := Lib.hid (HB0.out.trans (hbel3.mono (Nat.le_succ _)))
              obtain ⟨r0, r1⟩ := set_zero z1 z2 (.int .i64 k) (.slice (some ⟨g, 0, none⟩) k cp)
              have HB3 := Lib.hid ((HB2.out.setCell (p := ⟨w.heap.size, 0, none⟩) (Nat.le_refl _) (.int .i64 k)).setCell (p := ⟨w.heap.size, 1, none⟩) (Nat.le_refl _) (.slice (some ⟨g, 0, none⟩) k cp))
              have HR := Lib.hid (ho3.ref_set hz (.int .i64 k) (.slice (some ⟨g, 0, none⟩) k cp))
              have HC := Lib.hid (show OrdP.Clo k (R0 l) R1 from ⟨hsub, htr rfl, hleast⟩)
              clear hsub hleast htr hz hbel3 ho3
              go_wp2_with fail
              exact bodyPost_ret (v := .tuple #[.agg #[.int .i64 k, .slice (some ⟨g, 0, none⟩) k cp], .bool true]) (by simp [results, Tryd.results30, go_sem, r0, r1]) rfl ⟨HB3.out, .inr ⟨HA.out, g, cp, R1, rfl, HR.out, HC.out⟩⟩
            | true =>
              have HG := Lib.hid hgk; clear hgk
              have HM1 := Lib.hid (show MidP k (R0 l) R1 R1 false (DoneA k · 0) from ⟨hsub, hleast, fun _ => ⟨fun _ _ _ _ => rfl, fun a' ha' => by omega⟩, (by intro h; cases h)⟩)
              clear hsub hleast htr
              go_wp2_with fail
              go_loopw [11, 12] (fun more ai wr => ∃ (a : Nat) (mb : Bool) (R : Rel), a ≤ k ∧ ai = .int .i64 a ∧ more = .bool mb ∧ RefOwn wr (w.heap.size + 1) (w.heap.size + 1) (.slice (some ⟨g, 0, none⟩) k cp) k k rr R ∧ MidP k (R0 l) R1 R mb (DoneA k · a) ∧ Below (w.heap.size + 1) w0 wr) (fun _ ai _ => k - (intOf ai).toNat)
              case atStart => exact ⟨0, false, R1, Nat.zero_le _, rfl, rfl, ho3, HM1.out, hbel3⟩
              case round =>
                obtain ⟨a, mb, R2, ha, rfl, rfl, ho4, hmid, hbel4⟩ := hrel
                by_cases hat : a < k
                · have HM2 := Lib.hid hmid.startB; clear hmid
                  go_wp2_with fail
                  go_loopw [11, 13] (fun more bi wr => ∃ (b : Nat) (mb : Bool) (R : Rel), b ≤ k ∧ bi = .int .i64 b ∧ more = .bool mb ∧ RefOwn wr (w.heap.size + 1) (w.heap.size + 1) (.slice (some ⟨g, 0, none⟩) k cp) k k rr R ∧ MidP k (R0 l) R1 R mb (DoneB k · a b) ∧ Below (w.heap.size + 1) w0 wr) (fun _ bi _ => k - (intOf bi).toNat)
                  case atStart => exact ⟨0, mb, R2, Nat.zero_le _, rfl, rfl, ho4, HM2.out, hbel4⟩
                  case round =>
                    obtain ⟨b, mb, R3, hb, rfl, rfl, ho5, hmid, hbel5⟩ := hrel
                    by_cases hbt : b < k
                    · have HM3 := Lib.hid hmid.startC; clear hmid
                      go_wp2_with fail
                      go_loopw [11, 14] (fun more ci wr => ∃ (c : Nat) (mb : Bool) (R : Rel), c ≤ k ∧ ci = .int .i64 c ∧ more = .bool mb ∧ RefOwn wr (w.heap.size + 1) (w.heap.size + 1) (.slice (some ⟨g, 0, none⟩) k cp) k k rr R ∧ MidP k (R0 l) R1 R mb (DoneC k · a b c) ∧ Below (w.heap.size + 1) w0 wr) (fun _ ci _ => k - (intOf ci).toNat)
                      case atStart => exact ⟨0, mb, R3, Nat.zero_le _, rfl, rfl, ho5, HM3.out, hbel5⟩
                      case round =>
                        obtain ⟨c, mb, R, hc, rfl, rfl, ho6, hmid, hbel6⟩ := hrel
                        by_cases hct : c < k
                        · have d1 : wr.cell? ⟨w.heap.size + 1, 1, none⟩ = some (.slice (some ⟨g, 0, none⟩) k cp) := by simp only [World.cell?, ho6.obj]; rfl
                          have d2 : wr.cell? ⟨g, a, none⟩ = some (.slice (some ⟨rr a, 0, none⟩) k k) := ho6.row_at hat
                          have d3 : wr.cell? ⟨g, b, none⟩ = some (.slice (some ⟨rr b, 0, none⟩) k k) := ho6.row_at hbt
                          have q1 := (ho6.row a hat).cell hbt
                          have q2 := (ho6.row b hbt).cell hct
                          have q3 := (ho6.row a hat).cell hct
                          have q4 := (ho6.row a hat).frozen c
                          have ha' : (a : Int) < k := by omega
                          have hb' : (b : Int) < k := by omega
                          have hc' : (c : Int) < k := by omega
                          have HM := Lib.hid hmid; clear hmid
                          have HN := Lib.hid (ho6.set hat hct true)
                          have HB := Lib.hid (hbel6.setCell (p := ⟨rr a, c, none⟩) (ho6.base a hat) (.bool true))
                          have HO := Lib.hid ho6; clear ho6
                          cases v1 : R a b
                          · rw [v1] at q1
                            have V := Lib.hid v1; clear v1
                            go_wp2_with fail
                            go_roundw
                            case rel => exact ⟨c + 1, mb, R, by omega, by go_num, rfl, HO.out, HM.out.skip (by rw [V.out]; simp), hbel6⟩
                            case measure => simp [intOf]; omega
                          · rw [v1] at q1
                            have V1 := Lib.hid v1; clear v1
                            cases v2 : R b c
                            · rw [v2] at q2
                              have V := Lib.hid v2; clear v2
                              go_wp2_with fail
                              go_roundw
                              case rel => exact ⟨c + 1, mb, R, by omega, by go_num, rfl, HO.out, HM.out.skip (by rw [V.out]; simp), hbel6⟩
                              case measure => simp [intOf]; omega
                            · rw [v2] at q2
                              have V2 := Lib.hid v2; clear v2
                              cases v3 : R a c
                              · rw [v3] at q3
                                have V3 := Lib.hid v3; clear v3
                                go_wp2_with fail
                                go_roundw
                                case rel => exact ⟨c + 1, true, _, by omega, by go_num, rfl, HN.out, HM.out.set hat hbt hct V1.out V2.out V3.out, HB.out⟩
                                case measure => simp [intOf]; omega
                              · rw [v3] at q3
                                have V3 := Lib.hid v3; clear v3
                                go_wp2_with fail
                                go_roundw
                                case rel => exact ⟨c + 1, mb, R, by omega, by go_num, rfl, HO.out, HM.out.skip (by rw [V3.out]; simp), hbel6⟩
                                case measure => simp [intOf]; omega
                        · obtain rfl : c = k := by omega
                          have HM := Lib.hid hmid.endC; clear hmid
                          go_wp2_with fail
                          go_roundw
                          case rel => exact ⟨b + 1, mb, R, by omega, by go_num, rfl, ho6, HM.out, hbel6⟩
                          case measure => simp [intOf]; omega
                    · obtain rfl : b = k := by omega
                      have HM := Lib.hid hmid.endB; clear hmid
                      go_wp2_with fail
                      go_roundw
                      case rel => exact ⟨a + 1, mb, R3, by omega, by go_num, rfl, ho5, HM.out, hbel5⟩
                      case measure => simp [intOf]; omega
                · obtain rfl : a = k := by omega
                  have HM := Lib.hid hmid; clear hmid
                  go_wp2_with fail
                  go_roundg (if mb then cnt a R2 + 1 else 0)
                  case measure =>
                    have h := HG.out
                    cases mb with
                    | false => simp at h ⊢; omega
                    | true => have := HM.out.yes rfl; simp at h ⊢; omega
                  case rel => exact ⟨mb, R2, rfl, ho4, HM.out.sub, HM.out.least, fun e => done_trans (HM.out.no e).2, Nat.le_refl _, hbel4⟩

end Go.Proofs.YtkcbcdfcpchgcaaDoor
