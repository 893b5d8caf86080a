/- One more node: by the tree. PRINTED by gentre4.py of this folder. -/
import Derived.Test.YtmeacgmjpjjphaaGreatDoorMTre3
set_option linter.unusedVariables false
set_option linter.unusedSimpArgs false
namespace Go.Proofs.YtmeacgmjpjjphaaGreatDoor.Tr
open Go.RowKit
open TreP (WF nd inT deep places fits)

theorem AddClosure_in {w : World} {bx t : Nat} {A : Option Addr} {n c : Nat} (hb : w.cell? ⟨bx, 0, none⟩ = some (.pointer (some ⟨t, 0, none⟩))) (ht : w.cell? ⟨t, 0, none⟩ = some (.slice A n c)) (k : Int) :
    Calls Tryz.prog 64 #[.int .i64 k, .pointer (some ⟨bx, 0, none⟩)] w fun e w' => e = .returned (.bool (!inT n k)) ∧ w = w' := by
  by_cases h0 : k < 0
  · rw [inT_false (by omega)]
    go_enter Tryz.func64, Tryz.ntmps64
    go_wp2_with fail
    go_ret
    exact ⟨rfl, rfl⟩
  · have h1 : decide (k < 0) = false := decide_eq_false h0
    by_cases h2 : (n : Int) ≤ k
    · rw [inT_false (by omega)]
      go_enter Tryz.func64, Tryz.ntmps64
      go_wp2_with fail
      go_ret
      exact ⟨rfl, rfl⟩
    · have h3 : decide ((n : Int) ≤ k) = false := decide_eq_false h2
      rw [TreP.inT_iff.2 ⟨by omega, by omega⟩]
      go_enter Tryz.func64, Tryz.ntmps64
      go_wp2_with fail
      go_ret
      exact ⟨rfl, rfl⟩

theorem heap_set0 {w : World} {b : Nat} {x : Value} {t : TypeId} (h : w.heap[b]? = some (.cells #[x] t)) (v : Value) : (w.setCell ⟨b, 0, none⟩ v).heap[b]? = some (.cells #[v] t) := by
  simp [World.setCell, Array.getElem?_modify, h]
theorem heap_set5 {w : World} {b : Nat} {x0 x1 x2 x3 x4 x5 : Value} {t : TypeId} (h : w.heap[b]? = some (.cells #[x0, x1, x2, x3, x4, x5] t)) (v : Value) : (w.setCell ⟨b, 5, none⟩ v).heap[b]? = some (.cells #[x0, x1, x2, x3, x4, v] t) := by
  simp [World.setCell, Array.getElem?_modify, h]
theorem far_cell {w w' : World} {r : Option Nat} {b i : Nat} {v : Value} (hg : w.grownBy w' r) (hr : r ≠ some b) (h : w.cell? ⟨b, i, none⟩ = some v) : w'.cell? ⟨b, i, none⟩ = some v := (World.cell?_of_block (hg.block b (cell_lt h) (fun e => hr e.symm))).trans h
theorem far_frozen {w w' : World} {r : Option Nat} {b i : Nat} {v : Value} (hg : w.grownBy w' r) (hr : r ≠ some b) (h : w.cell? ⟨b, i, none⟩ = some v) (hf : w.frozen? ⟨b, i, none⟩ = false) : w'.frozen? ⟨b, i, none⟩ = false := (World.frozen?_of_block (hg.block b (cell_lt h) (fun e => hr e.symm))).trans hf
theorem far1 {w : World} {a : Addr} {v : Value} (h : w.cell? a = some v) {o : Obj} : (w.drew.alloc o).cell? a = some v := cell_alloc (w := w.drew) h o
theorem far1f {w : World} {b : Nat} {c : Array Value} {t : TypeId} (h : w.heap[b]? = some (.cells c t)) (i : Nat) {o : Obj} : (w.drew.alloc o).frozen? ⟨b, i, none⟩ = false := by
  have hlt : b < w.heap.size := heap_lt h
  have e : (w.drew.alloc o).heap[b]? = some (.cells c t) := by
    rw [Below.heap_alloc _ _ _ (by simpa using hlt)]; exact h
  simp [World.frozen?, e]
theorem news_nd (w : World) (x : Nd) (s : Value) (t : TypeId) {b : Nat} (hb : b = w.heap.size) : ∀ j u, (ndCells x s)[j]? = some u → (w.alloc (.cells (ndCells x s).toArray t)).cell? ((⟨b, 0, none⟩ : Addr).add j) = some u := by
  subst hb
  exact news_block (last w _)
theorem TreeAt.far {w : World} {B t : Nat} {v : Value} {ms : List (Nd × Value)} (h : TreeAt w B t v ms) : v.ownBlock ≠ some t := fun e => by
  obtain ⟨c, hc⟩ := owns_elem h.rows e
  rw [h.obj] at hc
  simp at hc
theorem far_block {w : World} {B b : Nat} {e e' : TypeId} {size n : Nat} {v : Value} {xs : List Value} {c : Array Value} (h : w.ownsRow B e size v n xs) (hb : w.heap[b]? = some (.cells c e')) (hne : e ≠ e') : v.ownBlock ≠ some b := fun he => by
  obtain ⟨c', hc⟩ := owns_elem h he
  rw [hb] at hc
  simp at hc
  exact hne hc.2.symm
theorem far_owns {w : World} {B B' : Nat} {e e' : TypeId} {size n size' n' : Nat} {v v' : Value} {xs xs' : List Value} (h : w.ownsRow B e size v n xs) (h' : w.ownsRow B' e' size' v' n' xs') (hne : e ≠ e') {g : Nat} (hg : v'.ownBlock = some g) : v.ownBlock ≠ some g := by
  obtain ⟨c', hc⟩ := owns_elem h' hg
  exact far_block h hc hne
/-- One node more. -/
theorem TreeAt.push {w W2 w1 : World} {B t : Nat} {v s : Value} {ms : List (Nd × Value)} {x : Nd} {o : Obj} (h : TreeAt w B t v ms) (hs : Own w B s x.kids) (hW : ∀ b : Nat, W2.heap[b]? = (w.alloc o).heap[b]?) (hS : W2.heap.size = w.heap.size + 1)
    {g cap : Nat} (hown : w1.ownsRow B 53 6 (.slice (some ⟨g, 0, none⟩) (ms.length + 1) cap) (ms.length + 1) (rowsOf ms ++ ndCells x s)) (hgrow : W2.grownBy w1 v.ownBlock) :
    TreeAt (w1.setCell ⟨t, 0, none⟩ (.slice (some ⟨g, 0, none⟩) (ms.length + 1) cap)) B t (.slice (some ⟨g, 0, none⟩) (ms.length + 1) cap) (ms ++ [(x, s)]) := by
  have old : ∀ (b : Nat) (o : Obj), w.heap[b]? = some o → v.ownBlock ≠ some b → w1.heap[b]? = some o := fun b o hb hne => by
    have hlt : b < w.heap.size := heap_lt hb
    rw [hgrow.block b (by omega) (fun e => hne e.symm), hW, Below.heap_alloc _ _ _ hlt]
    exact hb
  have hobj1 := old t _ h.obj h.far
  have kid1 : ∀ (s' : Value) (l : List Int), Own w B s' l → Own (w1.setCell ⟨t, 0, none⟩ (.slice (some ⟨g, 0, none⟩) (ms.length + 1) cap)) B s' l := fun s' l ho => by
    refine owns_block ho fun g' hg' => ?_
    obtain ⟨c', hc'⟩ := owns_elem ho hg'
    have e1 := old g' _ hc' (far_block h.rows hc' (by decide))
    have hne : g' ≠ t := fun e => by rw [e, h.obj] at hc'; simp at hc'
    rw [Below.heap_setCell _ _ _ _ hne, e1, hc']
  refine ⟨h.base, heap_set0 hobj1 _, ?_, fun p hp => ?_⟩
  · rw [rowsOf_append, rowsOf_one, List.length_append]
    refine owns_block hown fun g' hg' => Below.heap_setCell _ _ _ _ fun e => ?_
    exact far_block hown hobj1 (by decide) (by rw [hg', e])
  · rcases List.mem_append.1 hp with hp | hp
    · exact kid1 _ _ (h.kid p hp)
    · obtain rfl : p = (x, s) := by simpa using hp
      exact kid1 _ _ hs

/-- What the tree's Add does: nothing, or one node more, its parts cloned; of what there was the tree's own blocks alone turn. -/
def AddPost (w : World) (B t : Nat) (v : Value) (ms : List (Nd × Value)) (x : Nd) (e : Ending) (w' : World) : Prop :=
  (fits ms.length x = true ∧ ∃ v' s', e = .returned (.tuple #[.int .i64 ms.length, .int .i64 0]) ∧ TreeAt w' B t v' (ms ++ [(x, s')]) ∧ Below B w w' ∧ w.heap.size ≤ w'.heap.size ∧
      (∀ k, k < w.heap.size → k ≠ t → some k ≠ v.ownBlock → w'.heap[k]? = w.heap[k]?) ∧ (v'.ownBlock = v.ownBlock ∨ ∃ g, v'.ownBlock = some g ∧ w.heap.size ≤ g) ∧ ∀ g, s'.ownBlock = some g → w.heap.size ≤ g) ∨
    (fits ms.length x = false ∧ e = .returned (.tuple #[.int .i64 0, .int .i64 1]) ∧ Below w.heap.size w w')

set_option maxRecDepth 100000 in
set_option maxHeartbeats 8000000 in
theorem Add_in {w : World} {B t : Nat} {v s : Value} {ms : List (Nd × Value)} {x : Nd} (h : TreeAt w B t v ms) (hs : Ints w s x.kids) (hm : ms.length < 4000) (hk : x.kids.length ≤ 70000) (hB : B ≤ w.heap.size) :
    Calls Tryz.prog 36 #[.pointer (some ⟨t, 0, none⟩), ndV x s] w (AddPost w B t v ms x) := by
  obtain ⟨A, c, rfl⟩ := h.nodes.form
  obtain ⟨A0, c0, rfl⟩ := hs.form
  obtain ⟨op, line, col, name, num, kids⟩ := x
  simp only at hs hk
  unfold ndV
  simp only
  have hb0 := ((Below.refl w.heap.size w).alloc (Nat.le_refl _) (.cells #[.pointer (some ⟨t, 0, none⟩)] 23)).alloc (by simp) (.cells #[.string op, .int .i64 line, .int .i64 col, .string name, .int .i64 num, .slice A0 kids.length c0] 53)
  have f0 : ((w.alloc (.cells #[.pointer (some ⟨t, 0, none⟩)] 23)).alloc (.cells #[.string op, .int .i64 line, .int .i64 col, .string name, .int .i64 num, .slice A0 kids.length c0] 53)).heap[w.heap.size]? = some (.cells #[.pointer (some ⟨t, 0, none⟩)] 23) := by rw [Below.heap_alloc _ _ _ (by simp)]; exact last _ _
  have f1 : ((w.alloc (.cells #[.pointer (some ⟨t, 0, none⟩)] 23)).alloc (.cells #[.string op, .int .i64 line, .int .i64 col, .string name, .int .i64 num, .slice A0 kids.length c0] 53)).heap[w.heap.size + 1]? = some (.cells #[.string op, .int .i64 line, .int .i64 col, .string name, .int .i64 num, .slice A0 kids.length c0] 53) := by
    have := last (w.alloc (.cells #[.pointer (some ⟨t, 0, none⟩)] 23)) (.cells #[.string op, .int .i64 line, .int .i64 col, .string name, .int .i64 num, .slice A0 kids.length c0] 53)
    simpa using this
  have hsz : ((w.alloc (.cells #[.pointer (some ⟨t, 0, none⟩)] 23)).alloc (.cells #[.string op, .int .i64 line, .int .i64 col, .string name, .int .i64 num, .slice A0 kids.length c0] 53)).heap.size = w.heap.size + 2 := by simp
  have HS := Lib.hid (hs.below hb0)
  have HT := Lib.hid (h.below hb0)
  have htl := heap_lt h.obj
  have HW := Lib.hid h
  obtain ⟨i0, hi0, hz0, hz1, hz2⟩ := info_parts info_node
  obtain ⟨n0, n1, n2, n3, n4, n5⟩ := cellsOf6 f1
  have e0 := cellOf1 f0
  have e1 := cellOf1 HT.out.obj
  clear hs h
  go_enter Tryz.func36, Tryz.ntmps36
  go_wp2_with fail
  generalize (w.alloc (.cells #[.pointer (some ⟨t, 0, none⟩)] 23)).alloc (.cells #[.string op, .int .i64 line, .int .i64 col, .string name, .int .i64 num, .slice A0 kids.length c0] 53) = W1 at *
  have hcf := ContainsFunc_gen (w := W1) (s := .slice A0 kids.length c0) (l := kids) (g := 64) (lb := #[.pointer (some ⟨w.heap.size, 0, none⟩)])
    (fun k W => W1 = W ∧ ∀ j, j < k → inT ms.length (kids.getD j 0) = true) (fun k W => W1 = W ∧ inT ms.length (kids.getD k 0) = false)
    (enters_of Tryz.func64 (by kernel_rfl) rfl) (by omega) (fun k W hW => hW.1 ▸ HS.out) ⟨rfl, fun j hj => by omega⟩
    (fun k W hkl hW => by
      obtain ⟨rfl, hall⟩ := hW
      refine (AddClosure_in e0 e1 (kids.getD k 0)).mono ?_
      rintro e w' ⟨rfl, rfl⟩
      rcases Bool.eq_false_or_eq_true (inT ms.length (kids.getD k 0)) with hc | hc
      · exact .inl ⟨by rw [hc]; rfl, rfl, fun j hj => by
          by_cases e : j = k
          · rw [e]; exact hc
          · exact hall j (by omega)⟩
      · exact .inr ⟨by rw [hc]; rfl, rfl, hc⟩)
  refine hcf.mono ?_
  clear hcf
  rintro e w2 (⟨rfl, rfl, hall⟩ | ⟨k, hkl, rfl, rfl, hno⟩)
  · have hfit : kids.all (inT ms.length) = true := all_getD hall
    have hfit' : fits ms.length ⟨op, line, col, name, num, kids⟩ = true := hfit
    have HFIT := Lib.hid hfit'
    clear hfit hfit' hall
    have hn4 : decide (4000 ≤ (ms.length : Int)) = false := decide_eq_false (by omega)
    go_wp2_with fail
    refine (Clone_in HS.out (by omega)).mono ?_
    rintro e w3 ⟨s, rfl, hown, hb3⟩
    obtain ⟨A1, c1, rfl⟩ := hown.form
    have hs3 := hb3.size
    have g0 := (hb3.block _ (by omega)).trans f0
    have g1 := (hb3.block _ (by omega)).trans f1
    obtain ⟨n0, n1, n2, n3, n4, n5⟩ := cellsOf6 g1
    have nf := frozenOf g1
    go_wp2_with fail
    have hu1 := heap_set5 g1 (.slice A1 kids.length c1)
    have hu0 : (w3.setCell ⟨w.heap.size + 1, 5, none⟩ (.slice A1 kids.length c1)).heap[w.heap.size]? = some (.cells #[.pointer (some ⟨t, 0, none⟩)] 23) := (Below.heap_setCell _ _ _ _ (by simp)).trans g0
    have hb4 := (hb0.trans (hb3.mono (by omega))).setCell (p := ⟨w.heap.size + 1, 5, none⟩) (by simp) (.slice A1 kids.length c1)
    have hT4 := HW.out.below hb4
    have hO4 : Own (w3.setCell ⟨w.heap.size + 1, 5, none⟩ (.slice A1 kids.length c1)) W1.heap.size (.slice A1 kids.length c1) kids := owns_block hown fun g' hg' => Below.heap_setCell _ _ _ _ (by have := (hown.lt g' hg').1; simp; omega)
    have hs4 : (w3.setCell ⟨w.heap.size + 1, 5, none⟩ (.slice A1 kids.length c1)).heap.size = w3.heap.size := by simp
    clear g0 g1 n0 n1 n2 n3 n4 n5 nf e0 e1 hown hb3 f0 f1 hb0
    generalize w3.setCell ⟨w.heap.size + 1, 5, none⟩ (.slice A1 kids.length c1) = W4 at *
    have HT4 := Lib.hid hT4
    have HSF := Lib.hid (show ∀ g, (Value.slice A1 kids.length c1).ownBlock = some g → w.heap.size ≤ g from fun g hg => by have := (hO4.lt g hg).1; omega)
    have HO4 := Lib.hid (owns_base hO4 (show B ≤ W1.heap.size by omega))
    have HB4 := Lib.hid hb4
    have HF := Lib.hid hT4.far
    have HU0 := Lib.hid hu0
    have HU1 := Lib.hid hu1
    have HTO := Lib.hid hT4.obj
    have HFB : Hid ((Value.slice A ms.length c).ownBlock ≠ some w.heap.size) := Lib.hid (far_block hT4.rows hu0 (by decide))
    have e0 := cellOf1 hu0
    have e1 := cellOf1 hT4.obj
    have ef := frozenOf hT4.obj 0
    obtain ⟨n0, n1, n2, n3, n4, n5⟩ := cellsOf6 hu1
    have e0' := fun o => cell_alloc e0 o
    have e1' := fun o => cell_alloc e1 o
    have hl4 := heap_lt hu1
    have hB4 : B ≤ W4.heap.size := by omega
    have hl5 : w.heap.size + 2 ≤ W4.heap.size := by omega
    clear hT4 hO4 hb4 hu0 hu1 hs4 hsz hs3
    go_wp2_with fail
    go_region_law (go_loud (refine step_append_lies _ rfl _ _ 48 rfl B 53 i0 (.agg #[.string .empty, .int .i64 0, .int .i64 0, .string .empty, .int .i64 0, .slice none 0 0]) 6 80 Tryz.underlying48 hi0 hz0 hz1 hz2 rfl (by decide) (.slice A ms.length c) ms.length _ rfl ((World.ownsRow.drew HT4.out.rows).alloc _) ⟨W4.heap.size, 0, none⟩ 1 1 (ndCells ⟨op, line, col, name, num, kids⟩ (.slice A1 kids.length c1)) rfl rfl (news_nd _ _ _ _ (by simp)) (nd_one _ _ rfl) (by decide) (by unfold maxLen; omega) (by omega) (by simp; omega) _ rfl ?_); intro g' cap' w5 hown hgrow hat hlt1; have co0 := far_cell hgrow HFB.out (far1 (cellOf1 HU0.out)); have co1 := far_cell hgrow HF.out (far1 (cellOf1 HTO.out)); have cf1 := far_frozen hgrow HF.out (far1 (cellOf1 HTO.out)) (far1f HTO.out 0))
    all_goals
      have hN := HT4.out.push (x := ⟨op, line, col, name, num, kids⟩) HO4.out (W2 := W4.drew.alloc (.cells #[.string op, .int .i64 line, .int .i64 col, .string name, .int .i64 num, .slice A1 kids.length c1] 53)) (o := (.cells #[.string op, .int .i64 line, .int .i64 col, .string name, .int .i64 num, .slice A1 kids.length c1] 53)) (by intro b; rfl) (by simp) hown hgrow
      have hbB := (((((HB4.out.mono hB).drew).alloc (by simpa using hB4) (.cells #[.string op, .int .i64 line, .int .i64 col, .string name, .int .i64 num, .slice A1 kids.length c1] 53)).grown hgrow (by simp; omega) (fun k hk => (HT4.out.rows.lt k hk).1)).setCell (p := ⟨t, 0, none⟩) HT4.out.base (.slice (some ⟨g', 0, none⟩) (ms.length + 1) cap'))
      have hfr : ∀ k, k < w.heap.size → k ≠ t → some k ≠ (Value.slice A ms.length c).ownBlock → (w5.setCell ⟨t, 0, none⟩ (.slice (some ⟨g', 0, none⟩) (ms.length + 1) cap')).heap[k]? = w.heap[k]? := fun k h1 h2 h3 =>
        (Below.heap_setCell _ _ _ _ h2).trans ((hgrow.block k (by simp; omega) h3).trans ((Below.heap_alloc W4.drew (.cells #[.string op, .int .i64 line, .int .i64 col, .string name, .int .i64 num, .slice A1 kids.length c1] 53) k (by simp; omega)).trans (HB4.out.block k h1)))
      have hsz5 : W4.heap.size + 1 ≤ w5.heap.size := by have := hgrow.size; simpa using this
      have hown2 : (Value.slice (some ⟨g', 0, none⟩) (ms.length + 1) cap').ownBlock = (Value.slice A ms.length c).ownBlock ∨ ∃ g, (Value.slice (some ⟨g', 0, none⟩) (ms.length + 1) cap').ownBlock = some g ∧ w.heap.size ≤ g := by
        rcases hat with h | h
        · exact .inl (by rw [h]; rfl)
        · exact .inr ⟨g', rfl, by rw [h]; simp; omega⟩
      have d0 : (w5.setCell ⟨t, 0, none⟩ (.slice (some ⟨g', 0, none⟩) (ms.length + 1) cap')).cell? ⟨w.heap.size, 0, none⟩ = some (.pointer (some ⟨t, 0, none⟩)) := (World.cell?_of_block (Below.heap_setCell _ _ _ _ (by simp; omega))).trans co0
      have d1 := cellOf1 hN.obj
      have hsz6 : (w5.setCell ⟨t, 0, none⟩ (.slice (some ⟨g', 0, none⟩) (ms.length + 1) cap')).heap.size = w5.heap.size := by simp
      have HX := Lib.hid (And.intro hN (And.intro hbB (And.intro hfr hown2)))
      clear hN hbB hfr hown2 hown hgrow hat hlt1 co0 co1 cf1 e0 e1 ef n0 n1 n2 n3 n4 n5 e0' e1'
      generalize w5.setCell ⟨t, 0, none⟩ (.slice (some ⟨g', 0, none⟩) (ms.length + 1) cap') = W6 at *
      go_wp2_with fail
      exact bodyPost_ret (v := .tuple #[.int .i64 ms.length, .int .i64 0]) (by simp [results, Tryz.results36, go_sem]) rfl (.inl ⟨HFIT.out, _, _, rfl, HX.out.1, HX.out.2.1, by omega, HX.out.2.2.1, HX.out.2.2.2, HSF.out⟩)
  · have hfit : kids.all (inT ms.length) = false := all_false hkl hno
    have HFIT := Lib.hid hfit
    clear hfit hno
    go_wp2_with fail
    exact bodyPost_ret (v := .tuple #[.int .i64 0, .int .i64 1]) (by simp [results, Tryz.results36, go_sem]) rfl (.inr ⟨HFIT.out, rfl, hb0⟩)
set_option maxRecDepth 100000 in
set_option maxHeartbeats 8000000 in
theorem Add_full {w : World} {B t : Nat} {v s : Value} {ms : List (Nd × Value)} {x : Nd} (h : TreeAt w B t v ms) (hs : Ints w s x.kids) (hm : 4000 ≤ ms.length) (hm2 : ms.length ≤ 1000000) (hk : x.kids.length ≤ 70000) (hfit : fits ms.length x = true) :
    Calls Tryz.prog 36 #[.pointer (some ⟨t, 0, none⟩), ndV x s] w fun e w' => e = .returned (.tuple #[.int .i64 0, .int .i64 6]) ∧ Below w.heap.size w w' := by
  obtain ⟨A, c, rfl⟩ := h.nodes.form
  obtain ⟨A0, c0, rfl⟩ := hs.form
  obtain ⟨op, line, col, name, num, kids⟩ := x
  simp only at hs hk
  have HFIT := Lib.hid (show kids.all (inT ms.length) = true from hfit)
  clear hfit
  unfold ndV
  simp only
  have hb0 := ((Below.refl w.heap.size w).alloc (Nat.le_refl _) (.cells #[.pointer (some ⟨t, 0, none⟩)] 23)).alloc (by simp) (.cells #[.string op, .int .i64 line, .int .i64 col, .string name, .int .i64 num, .slice A0 kids.length c0] 53)
  have f0 : ((w.alloc (.cells #[.pointer (some ⟨t, 0, none⟩)] 23)).alloc (.cells #[.string op, .int .i64 line, .int .i64 col, .string name, .int .i64 num, .slice A0 kids.length c0] 53)).heap[w.heap.size]? = some (.cells #[.pointer (some ⟨t, 0, none⟩)] 23) := by rw [Below.heap_alloc _ _ _ (by simp)]; exact last _ _
  have f1 : ((w.alloc (.cells #[.pointer (some ⟨t, 0, none⟩)] 23)).alloc (.cells #[.string op, .int .i64 line, .int .i64 col, .string name, .int .i64 num, .slice A0 kids.length c0] 53)).heap[w.heap.size + 1]? = some (.cells #[.string op, .int .i64 line, .int .i64 col, .string name, .int .i64 num, .slice A0 kids.length c0] 53) := by
    have := last (w.alloc (.cells #[.pointer (some ⟨t, 0, none⟩)] 23)) (.cells #[.string op, .int .i64 line, .int .i64 col, .string name, .int .i64 num, .slice A0 kids.length c0] 53)
    simpa using this
  have hsz : ((w.alloc (.cells #[.pointer (some ⟨t, 0, none⟩)] 23)).alloc (.cells #[.string op, .int .i64 line, .int .i64 col, .string name, .int .i64 num, .slice A0 kids.length c0] 53)).heap.size = w.heap.size + 2 := by simp
  have HS := Lib.hid (hs.below hb0)
  have HT := Lib.hid (h.below hb0)
  have htl := heap_lt h.obj
  have HW := Lib.hid h
  obtain ⟨i0, hi0, hz0, hz1, hz2⟩ := info_parts info_node
  obtain ⟨n0, n1, n2, n3, n4, n5⟩ := cellsOf6 f1
  have e0 := cellOf1 f0
  have e1 := cellOf1 HT.out.obj
  clear hs h
  go_enter Tryz.func36, Tryz.ntmps36
  go_wp2_with fail
  generalize (w.alloc (.cells #[.pointer (some ⟨t, 0, none⟩)] 23)).alloc (.cells #[.string op, .int .i64 line, .int .i64 col, .string name, .int .i64 num, .slice A0 kids.length c0] 53) = W1 at *
  have hcf := ContainsFunc_gen (w := W1) (s := .slice A0 kids.length c0) (l := kids) (g := 64) (lb := #[.pointer (some ⟨w.heap.size, 0, none⟩)])
    (fun k W => W1 = W ∧ ∀ j, j < k → inT ms.length (kids.getD j 0) = true) (fun k W => W1 = W ∧ inT ms.length (kids.getD k 0) = false)
    (enters_of Tryz.func64 (by kernel_rfl) rfl) (by omega) (fun k W hW => hW.1 ▸ HS.out) ⟨rfl, fun j hj => by omega⟩
    (fun k W hkl hW => by
      obtain ⟨rfl, hall⟩ := hW
      refine (AddClosure_in e0 e1 (kids.getD k 0)).mono ?_
      rintro e w' ⟨rfl, rfl⟩
      rcases Bool.eq_false_or_eq_true (inT ms.length (kids.getD k 0)) with hc | hc
      · exact .inl ⟨by rw [hc]; rfl, rfl, fun j hj => by
          by_cases e : j = k
          · rw [e]; exact hc
          · exact hall j (by omega)⟩
      · exact .inr ⟨by rw [hc]; rfl, rfl, hc⟩)
  refine hcf.mono ?_
  clear hcf
  rintro e w2 (⟨rfl, rfl, hall⟩ | ⟨k, hkl, rfl, rfl, hno⟩)
  · have hn4 : decide (4000 ≤ (ms.length : Int)) = true := decide_eq_true (by omega)
    clear hall
    go_wp2_with fail
    exact bodyPost_ret (v := .tuple #[.int .i64 0, .int .i64 6]) (by simp [results, Tryz.results36, go_sem]) rfl ⟨rfl, hb0⟩
  · exfalso
    have h1 := List.all_eq_true.1 HFIT.out (kids.getD k 0) (by simp [List.getD, hkl])
    rw [hno] at h1
    cases h1
end Go.Proofs.YtmeacgmjpjjphaaGreatDoor.Tr
