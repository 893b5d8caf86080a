/- One type more. -/
import Derived.Test.YtpbiiigacfhbhaaDoorTypT
set_option linter.unusedVariables false
set_option linter.unusedSimpArgs false
namespace Go.Proofs.YtpbiiigacfhbhaaDoor
open Go.RowKit
open TypP (Kd Acy Occ Uni Step)

/-- Nothing turned but t and g. -/
structure Moved (w w' : World) (t g : Nat) : Prop where
  os : w'.os = w.os
  tape : w'.tape = w.tape
  output : w'.output = w.output
  size : w.heap.size ≤ w'.heap.size
  block : ∀ k, k < w.heap.size → k ≠ t → k ≠ g → w'.heap[k]? = w.heap[k]?
theorem Moved.refl (w : World) (t g : Nat) : Moved w w t g := ⟨rfl, rfl, rfl, Nat.le_refl _, fun _ _ _ _ => rfl⟩
theorem Moved.of {w w' : World} {g : Nat} (h : w.grownBy w' (some g)) (t : Nat) : Moved w w' t g := ⟨h.os, h.tape, h.output, h.size, fun k hk _ hg => h.block k hk (by simpa using hg)⟩
theorem Moved.trans {a b c : World} {t g g' : Nat} (h : Moved a b t g) (hg : g' = g ∨ a.heap.size ≤ g') (k : Moved b c t g') : Moved a c t g :=
  ⟨k.os.trans h.os, k.tape.trans h.tape, k.output.trans h.output, Nat.le_trans h.size k.size, fun i hi ht hgi => (k.block i (Nat.lt_of_lt_of_le hi h.size) ht (by omega)).trans (h.block i hi ht hgi)⟩
theorem Moved.below {a b : World} {t g B : Nat} (h : Moved a b t g) (ht : B ≤ t) (hg : B ≤ g) (hB : B ≤ a.heap.size) : Below B a b :=
  ⟨h.os, h.tape, h.output, h.size, fun k hk => h.block k (by omega) (by omega) (by omega)⟩
theorem Sto.moved {ty el : TypeId} {s : Nat} {w w' : World} {B t g cap n : Nat} {c : Nat → List Value} (h : Sto ty el s w B t g cap n c) {t' g' : Nat} (m : Moved w w' t' g') (h1 : t ≠ t') (h2 : t ≠ g') (h3 : g ≠ t') (h4 : g ≠ g') : Sto ty el s w' B t g cap n c :=
  h.keep (m.block t h.lt.1 h1 h2) (m.block g h.lt.2 h3 h4)
theorem heap_set0 {w : World} {b : Nat} {x : Value} {t : TypeId} (h : w.heap[b]? = some (.cells #[x] t)) (v : Value) : (w.setCell ⟨b, 0, none⟩ v).heap[b]? = some (.cells #[v] t) := by
  simp [World.setCell, Array.getElem?_modify, h]

theorem Sto.push {ty el : TypeId} {s : Nat} {w : World} {B t g cap n : Nat} {c : Nat → List Value} (h : Sto ty el s w B t g cap n c) (hne : ty ≠ el) {news : List Value} (hs : news.length = s) {w2 w5 : World} {g' cap' : Nat} (h2 : w.grownBy w2 none)
    (hown : w5.ownsRow B el s (.slice (some ⟨g', 0, none⟩) (n + 1) cap') (n + 1) (rowsN c n ++ news)) (hgrow : w2.grownBy w5 (some g)) (hat : some g = some g' ∨ w.heap.size ≤ g') :
    Sto ty el s (w5.setCell ⟨t, 0, none⟩ (.slice (some ⟨g', 0, none⟩) (n + 1) cap')) B t g' cap' (n + 1) (upd c n news) ∧ Moved w (w5.setCell ⟨t, 0, none⟩ (.slice (some ⟨g', 0, none⟩) (n + 1) cap')) t g ∧ (g' = g ∨ w.heap.size ≤ g') := by
  have htg := h.ne hne
  have hlt := h.lt
  have hat' : g' = g ∨ w.heap.size ≤ g' := by
    rcases hat with e | e
    · exact .inl (by simpa using e.symm)
    · exact .inr e
  have htg' : t ≠ g' := by omega
  have ho : w5.heap[t]? = some (.cells #[.slice (some ⟨g, 0, none⟩) n cap] ty) := by
    rw [hgrow.block t (Nat.lt_of_lt_of_le hlt.1 h2.size) (by simpa using htg), h2.block t hlt.1 (by simp)]
    exact h.obj
  have er : rowsN c n ++ news = rowsN (upd c n news) (n + 1) := by
    rw [rowsN_succ, upd_same]
    congr 1
    exact rowsN_congr fun i hi => (upd_other _ _ (by omega)).symm
  refine ⟨⟨h.base, heap_set0 ho _, ?_, fun i => by unfold upd; split <;> simp [hs, h.len]⟩, ⟨hgrow.os.trans h2.os, hgrow.tape.trans h2.tape, hgrow.output.trans h2.output, ?_, fun k hk ht hg => ?_⟩, hat'⟩
  · rw [← er]
    rcases hown with ⟨hl, ⟨h1, h3⟩ | ⟨g2, cap2, cur, h1, h3, h4, h5⟩⟩
    · cases h1
    · obtain ⟨rfl, rfl⟩ : g' = g2 ∧ cap' = cap2 := by simpa using h1
      exact ⟨hl, .inr ⟨g', cap', cur, rfl, h3, (Below.heap_setCell _ _ _ _ (fun e => htg' e.symm)).trans h4, h5⟩⟩
  · exact Nat.le_trans (Nat.le_trans h2.size hgrow.size) (by simp [World.setCell])
  · rw [Below.heap_setCell _ _ _ _ ht, hgrow.block k (Nat.lt_of_lt_of_le hk h2.size) (by simpa using hg), h2.block k hk (by simp)]

/-- One more: its kind, its parts. -/
def kdPush (K : Nat → Kd) (n : Nat) (k : Kd) : Nat → Kd := fun x => if x = n then k else K x
def rtPush (R : Nat → Nat) (n : Nat) : Nat → Nat := fun x => if x = n then n else R x
theorem acy_push {K : Nat → Kd} {R : Nat → Nat} {n : Nat} {k : Kd} (h : ∃ r, Acy K R n r) (hk : ∀ a b, k = .pair a b → a < n ∧ b < n) : ∃ r, Acy (kdPush K n k) (rtPush R n) (n + 1) r := by
  obtain ⟨r, h⟩ := h
  refine ⟨fun x => if x = n then r (R (Kd.fst k)) + r (R (Kd.snd k)) + 1 else r x, fun x hx => ?_, fun x hx a b hp => ?_⟩
  · unfold rtPush
    by_cases e : x = n
    · simp [e]
    · have := h.root x (by omega)
      simp only [if_neg e]
      exact ⟨by omega, by rw [if_neg (by omega)]; exact this.2⟩
  · unfold kdPush at hp
    by_cases e : x = n
    · rw [if_pos e] at hp
      subst hp
      obtain ⟨h1, h2⟩ := hk a b rfl
      have h3 := h.root a h1
      have h4 := h.root b h2
      subst e
      unfold rtPush
      simp only [Kd.fst, Kd.snd, if_true, if_neg (show a ≠ x by omega), if_neg (show b ≠ x by omega), if_neg (show R a ≠ x by omega), if_neg (show R b ≠ x by omega)]
      exact ⟨trivial, by omega, by omega, by omega, by omega⟩
    · rw [if_neg e] at hp
      obtain ⟨h1, h2, h3, h4, h5⟩ := h.pair x (by omega) a b hp
      have h6 := h.root a h2
      have h7 := h.root b h3
      unfold rtPush
      simp only [if_neg e, if_neg (show a ≠ n by omega), if_neg (show b ≠ n by omega), if_neg (show R a ≠ n by omega), if_neg (show R b ≠ n by omega)]
      exact ⟨h1, by omega, by omega, h4, h5⟩
theorem PS.push {K : Nat → Kd} {R : Nat → Nat} {n : Nat} {d : Nat → Nat} {c : Nat → List Value} (h : PS K R n d c) (k : Kd) : PS (kdPush K n k) (rtPush R n) (n + 1) d (upd c n [.int .i64 (Kd.code k), .int .i64 (Kd.fst k), .int .i64 (Kd.snd k)]) := by
  refine ⟨fun x hx hr => ?_, fun x hx hr => ?_⟩
  · unfold kdPush
    unfold rtPush at hr
    by_cases e : x = n
    · subst e
      rw [upd_same, if_pos rfl]
    · rw [if_neg e] at hr
      rw [upd_other _ _ e, if_neg e]
      exact h.own x (by omega) hr
  · unfold rtPush at hr ⊢
    by_cases e : x = n
    · exact absurd (by rw [if_pos e, e]) hr
    · rw [if_neg e] at hr
      obtain ⟨y, z, h1, h2, h3, h4⟩ := h.lnk x (by omega) hr
      exact ⟨y, z, by rw [upd_other _ _ e, h1], by omega, by rw [if_neg (by omega), if_neg e, h3], h4⟩
theorem RS.push {K : Nat → Kd} {R : Nat → Nat} {n : Nat} {d : Nat → Nat} {c : Nat → List Value} (h : RS K R n d c) (k : Kd) : RS (kdPush K n k) (rtPush R n) (n + 1) d (upd c n [.int .i64 (Kd.code k), .int .i64 (Kd.fst k), .int .i64 (Kd.snd k), .int .i64 (-1)]) := by
  refine ⟨fun x hx hr => ?_, fun x hx hr => ?_⟩
  · unfold kdPush
    unfold rtPush at hr
    by_cases e : x = n
    · subst e
      rw [upd_same, if_pos rfl]
    · rw [if_neg e] at hr
      rw [upd_other _ _ e, if_neg e]
      exact h.own x (by omega) hr
  · unfold rtPush kdPush at *
    by_cases e : x = n
    · exact absurd (by rw [if_pos e, e]) hr
    · rw [if_neg e] at hr
      obtain ⟨y, h1, h2, h3, h4⟩ := h.lnk x (by omega) hr
      exact ⟨y, by rw [upd_other _ _ e, if_neg e, h1], by omega, by rw [if_neg (by omega), if_neg e, h3], h4⟩

theorem info_pnode : (Tryd.prog.info? 59).map (fun i => (i.zero, i.size, i.bytes)) = some (some (.agg #[.int .i64 0, .int .i64 0, .int .i64 0]), 3, 24) := by kernel_rfl
theorem info_term : (Tryd.prog.info? 64).map (fun i => (i.zero, i.size, i.bytes)) = some (some (.agg #[.int .i64 0, .int .i64 0, .int .i64 0, .int .i64 0]), 4, 32) := by kernel_rfl
theorem info_parts {P : Program} {t : TypeId} {z : Value} {s b : Nat} (h : (P.info? t).map (fun i => (i.zero, i.size, i.bytes)) = some (some z, s, b)) : ∃ i, P.info? t = some i ∧ i.zero = some z ∧ i.size = s ∧ i.bytes = b := by
  cases hi : P.info? t with
  | none => rw [hi] at h; cases h
  | some i =>
    rw [hi] at h
    simp at h
    exact ⟨i, rfl, h.1, h.2.1, h.2.2⟩
theorem far_cell {w w' : World} {r : Option Nat} {b i : Nat} {v : Value} (hg : w.grownBy w' r) (hr : r ≠ some b) (h : w.cell? ⟨b, i, none⟩ = some v) : w'.cell? ⟨b, i, none⟩ = some v := (World.cell?_of_block (hg.block b (cell_lt h) (fun e => hr e.symm))).trans h
theorem far_frozen {w w' : World} {r : Option Nat} {b i : Nat} {v : Value} (hg : w.grownBy w' r) (hr : r ≠ some b) (h : w.cell? ⟨b, i, none⟩ = some v) (hf : w.frozen? ⟨b, i, none⟩ = false) : w'.frozen? ⟨b, i, none⟩ = false := (World.frozen?_of_block (hg.block b (cell_lt h) (fun e => hr e.symm))).trans hf
theorem far1 {w : World} {a : Addr} {v : Value} (h : w.cell? a = some v) {o : Obj} : (w.drew.alloc o).cell? a = some v := cell_alloc (w := w.drew) h o
theorem far1f {w : World} {b : Nat} {c : Array Value} {t : TypeId} (h : w.heap[b]? = some (.cells c t)) (i : Nat) {o : Obj} : (w.drew.alloc o).frozen? ⟨b, i, none⟩ = false := by
  have hlt : b < w.heap.size := heap_lt h
  have e : (w.drew.alloc o).heap[b]? = some (.cells c t) := by
    rw [Below.heap_alloc _ _ _ (by simpa using hlt)]; exact h
  simp [World.frozen?, e]
theorem news3 (w : World) (x y z : Value) (t : TypeId) {b : Nat} (hb : b = w.heap.size) : ∀ j u, [x, y, z][j]? = some u → (w.alloc (.cells #[x, y, z] t)).cell? ((⟨b, 0, none⟩ : Addr).add j) = some u := by
  subst hb
  exact World.news_of_block (last w _)
theorem news4 (w : World) (x y z v : Value) (t : TypeId) {b : Nat} (hb : b = w.heap.size) : ∀ j u, [x, y, z, v][j]? = some u → (w.alloc (.cells #[x, y, z, v] t)).cell? ((⟨b, 0, none⟩ : Addr).add j) = some u := by
  subst hb
  exact World.news_of_block (last w _)

def AddPost (w : World) (B t g n : Nat) (c : Nat → List Value) (news : List Value) (e : Ending) (w' : World) : Prop :=
  e = .returned (.int .i64 n) ∧ ∃ g' cap', PSto w' B t g' cap' (n + 1) (upd c n news) ∧ Moved w w' t g ∧ (g' = g ∨ w.heap.size ≤ g')

set_option maxRecDepth 100000 in
set_option maxHeartbeats 8000000 in
theorem add_in {w : World} {B t g cap n : Nat} {c : Nat → List Value} (h : PSto w B t g cap n c) (hn : n < 1000) (k a b : Int) :
    Calls Tryd.prog 22 #[.pointer (some ⟨t, 0, none⟩), .agg #[.int .i64 k, .int .i64 a, .int .i64 b]] w (AddPost w B t g n c [.int .i64 k, .int .i64 a, .int .i64 b]) := by
  obtain ⟨i0, hi0, hz0, hz1, hz2⟩ := info_parts info_pnode
  have hw1 := World.grownBy_alloc w (.cells #[.int .i64 k, .int .i64 a, .int .i64 b] 59) none
  have hl1 := last w (.cells #[.int .i64 k, .int .i64 a, .int .i64 b] 59)
  have h1 := h.alloc (.cells #[.int .i64 k, .int .i64 a, .int .i64 b] 59)
  have hlt := h.lt
  have hB := h.base
  have htg := h.ne (by decide)
  have hq := cellsOf3 hl1
  have hs1 : w.heap.size < (w.alloc (.cells #[.int .i64 k, .int .i64 a, .int .i64 b] 59)).heap.size := by simp
  have HS := Lib.hid h
  go_enter Tryd.func22, Tryd.ntmps22
  clear h
  go_wp2_with fail
  generalize w.alloc (.cells #[.int .i64 k, .int .i64 a, .int .i64 b] 59) = W at *
  have top := h1.top
  have ftop := frozenOf h1.obj 0
  obtain ⟨q0, q1, q2⟩ := hq
  have H1 := Lib.hid h1
  have HW := Lib.hid (And.intro hw1 hl1)
  clear h1 hw1 hl1
  have hlt1 := H1.out.lt
  have HF : Hid ((Value.slice (some ⟨g, 0, none⟩) n cap).ownBlock ≠ some t) := Lib.hid (by simpa [Value.ownBlock] using fun e : g = t => htg e.symm)
  have HF2 : Hid ((Value.slice (some ⟨g, 0, none⟩) n cap).ownBlock ≠ some w.heap.size) := Lib.hid (by simp [Value.ownBlock]; omega)
  go_region_law (go_loud (refine step_append_lies _ rfl _ _ 60 rfl B 59 i0 (.agg #[.int .i64 0, .int .i64 0, .int .i64 0]) 3 24 Tryd.underlying60 hi0 hz0 hz1 hz2 rfl (by decide) (.slice (some ⟨g, 0, none⟩) n cap) n _ rfl ((World.ownsRow.drew H1.out.rows).alloc _) ⟨W.heap.size, 0, none⟩ 1 1 [.int .i64 k, .int .i64 a, .int .i64 b] rfl rfl (news3 _ _ _ _ _ (by simp)) (by simp [Value.oneCell']) (by decide) (by unfold maxLen; omega) (by omega) (by simp; omega) _ rfl ?_); intro g' cap' w5 hown hgrow hat hlt1; have co0 := far_cell hgrow HF2.out (far1 (cellsOf3 HW.out.2).1); have co1 := far_cell hgrow HF.out (far1 H1.out.top); have cf1 := far_frozen hgrow HF.out (far1 H1.out.top) (far1f H1.out.obj 0))
  all_goals
    have hat' : some g = some g' ∨ w.heap.size ≤ g' := by
      rcases hat with e | e
      · exact .inl e
      · right
        have := HW.out.1.size
        simp at e
        omega
    have hp := HS.out.push (by decide) (by simp) (grown_alloc (grown_drew HW.out.1) _) hown hgrow hat'
    have tp := hp.1.top
    have HP := Lib.hid hp
    clear hp hown hgrow hat hat' hlt1 co0 co1 cf1 top ftop q0 q1 q2
    generalize w5.setCell ⟨t, 0, none⟩ (.slice (some ⟨g', 0, none⟩) (n + 1) cap') = W6 at *
    go_wp2_with fail
    go_ret
    exact ⟨by simp, g', cap', HP.out.1, HP.out.2.1, HP.out.2.2⟩

set_option maxRecDepth 100000 in
set_option maxHeartbeats 8000000 in
theorem right_in {w : World} {B t g cap n : Nat} {c : Nat → List Value} (h : PSto w B t g cap n c) (x : Int) :
    Calls Tryd.prog 23 #[.pointer (some ⟨t, 0, none⟩), .int .i64 x] w fun e w' => e = .returned (.bool (decide (0 ≤ x ∧ x < n))) ∧ w = w' := by
  have top := h.top
  clear h
  go_enter Tryd.func23, Tryd.ntmps23
  by_cases h0 : 0 ≤ x
  · by_cases h1 : x < n
    · go_wp2_with fail
      go_ret
      exact ⟨by simp [h0, h1], rfl⟩
    · have h1' : decide (x < (n : Int)) = false := decide_eq_false h1
      go_wp2_with fail
      go_ret
      exact ⟨by simp [h0, h1], rfl⟩
  · have h0' : decide (0 ≤ x) = false := decide_eq_false h0
    go_wp2_with fail
    go_ret
    exact ⟨by simp [h0], rfl⟩

set_option maxRecDepth 100000 in
set_option maxHeartbeats 8000000 in
theorem Var_in {w : World} {B t g cap n : Nat} {c : Nat → List Value} (h : PSto w B t g cap n c) (hn : n < 1000) :
    Calls Tryd.prog 9 #[.pointer (some ⟨t, 0, none⟩)] w (AddPost w B t g n c [.int .i64 0, .int .i64 0, .int .i64 0]) := by
  have hc := add_in h hn 0 0 0
  clear h
  go_enter Tryd.func9, Tryd.ntmps9
  go_wp2_with fail
  refine hc.mono ?_
  clear hc
  rintro e w1 ⟨rfl, h1⟩
  have H1 := Lib.hid h1
  clear h1
  go_wp2_with fail
  go_ret
  exact ⟨rfl, H1.out⟩

set_option maxRecDepth 100000 in
set_option maxHeartbeats 8000000 in
theorem Pair_in {w : World} {B t g cap n : Nat} {c : Nat → List Value} (h : PSto w B t g cap n c) (hn : n < 1000) (x y : Int) :
    Calls Tryd.prog 11 #[.pointer (some ⟨t, 0, none⟩), .int .i64 x, .int .i64 y] w fun e w' =>
      ((0 ≤ x ∧ x < n ∧ 0 ≤ y ∧ y < n) ∧ e = .returned (.tuple #[.int .i64 n, .int .i64 0]) ∧ ∃ g' cap', PSto w' B t g' cap' (n + 1) (upd c n [.int .i64 4, .int .i64 x, .int .i64 y]) ∧ Moved w w' t g ∧ (g' = g ∨ w.heap.size ≤ g')) ∨
      (¬ (0 ≤ x ∧ x < n ∧ 0 ≤ y ∧ y < n) ∧ e = .returned (.tuple #[.int .i64 0, .int .i64 1]) ∧ w = w') := by
  have hx := right_in h x
  have hy := right_in h y
  have hc := add_in h hn 4 x y
  clear h
  go_enter Tryd.func11, Tryd.ntmps11
  go_wp2_with fail
  refine hx.mono ?_
  rintro e w1 ⟨rfl, rfl⟩
  clear hx
  by_cases h1 : 0 ≤ x ∧ x < n
  · have H1 := Lib.hid h1
    rw [decide_eq_true h1]
    clear h1
    go_wp2_with fail
    refine hy.mono ?_
    rintro e w1 ⟨rfl, rfl⟩
    clear hy
    by_cases h2 : 0 ≤ y ∧ y < n
    · have H2 := Lib.hid h2
      rw [decide_eq_true h2]
      clear h2
      go_wp2_with fail
      refine hc.mono ?_
      clear hc
      rintro e w1 ⟨rfl, h1⟩
      have H3 := Lib.hid h1
      clear h1
      go_wp2_with fail
      exact bodyPost_ret (v := .tuple #[.int .i64 n, .int .i64 0]) (by simp [results, Tryd.results11, go_sem]) rfl (.inl ⟨⟨H1.out.1, H1.out.2, H2.out.1, H2.out.2⟩, rfl, H3.out⟩)
    · have H2 := Lib.hid h2
      rw [decide_eq_false h2]
      clear h2
      go_wp2_with fail
      exact bodyPost_ret (v := .tuple #[.int .i64 0, .int .i64 1]) (by simp [results, Tryd.results11, go_sem]) rfl (.inr ⟨fun h => H2.out ⟨h.2.2.1, h.2.2.2⟩, rfl, rfl⟩)
  · have H1 := Lib.hid h1
    rw [decide_eq_false h1]
    clear h1
    go_wp2_with fail
    exact bodyPost_ret (v := .tuple #[.int .i64 0, .int .i64 1]) (by simp [results, Tryd.results11, go_sem]) rfl (.inr ⟨fun h => H1.out ⟨h.1, h.2.1⟩, rfl, rfl⟩)
end Go.Proofs.YtpbiiigacfhbhaaDoor
