/- The texts of several: the program's Show. -/
import Derived.Test.YtpbiiigacfhbhaaDoorTyp8
set_option linter.unusedVariables false
set_option linter.unusedSimpArgs false
namespace Go.Proofs.YtpbiiigacfhbhaaDoor
open Go.RowKit
open TypP (Kd Acy Occ Uni Step Txt TStep Sn Line)

theorem info_string : (Tryd.prog.info? 9).map (fun i => (i.zero, i.size, i.bytes)) = some (some (.string .empty), 1, 16) := by kernel_rfl
/-- A row of texts of one's own. -/
abbrev RowS (w : World) (B : Nat) (v : Value) (S : Nat → ByteArray) (m : Nat) : Prop := w.ownsRow B 9 1 v m ((List.range m).map fun i => .string (S i))
theorem row_form {w : World} {B e s m : Nat} {v : Value} {xs : List Value} (h : w.ownsRow B e s v m xs) : ∃ A cap, v = .slice A m cap := by
  rcases h.2 with ⟨rfl, h0⟩ | ⟨g', cap, cur, rfl, _⟩
  · exact ⟨none, 0, by rw [h0]⟩
  · exact ⟨_, _, rfl⟩
/-- The cells of a row of one cell each. -/
theorem row_cells {w : World} {B e m cap i : Nat} {A : Option Addr} {f : Nat → Value} (h : w.ownsRow B e 1 (.slice A m cap) m ((List.range m).map f)) (hi : i < m) : ∃ o, A = some ⟨o, 0, none⟩ ∧ ∀ j, j < m → w.cell? ⟨o, j, none⟩ = some (f j) := by
  obtain ⟨o, ho⟩ : ∃ o, A = some ⟨o, 0, none⟩ := by
    rcases h.2 with ⟨e, h0⟩ | ⟨g', cap', cur, e, _⟩
    · omega
    · cases e
      exact ⟨g', rfl⟩
  subst ho
  refine ⟨o, rfl, fun j hj => ?_⟩
  have := World.ownsRow.cellAt (g := o) (cap := cap) h j (by simpa using hj)
  rw [this]
  simp [hj]
theorem row_lt {w : World} {B e s m : Nat} {v : Value} {xs : List Value} (h : w.ownsRow B e s v m xs) {k : Nat} (hk : v.ownBlock = some k) : B ≤ k ∧ k < w.heap.size := by
  rcases h.2 with ⟨rfl, h0⟩ | ⟨g', cap, cur, rfl, h1, h2, _⟩
  · cases hk
  · obtain rfl : g' = k := by simpa [Value.ownBlock] using hk
    exact ⟨h1, heap_lt h2⟩
theorem Kept.row {S : Nat → Prop} {w w' : World} (k : Kept S w w') {B e s m : Nat} {v : Value} {xs : List Value} (h : w.ownsRow B e s v m xs) (hn : ∀ k, v.ownBlock = some k → ¬ S k) : w'.ownsRow B e s v m xs :=
  owns_block h fun j hj => k.block j (row_lt h hj).2 (hn j hj)
theorem grown_row {w w' : World} {r : Option Nat} (k : w.grownBy w' r) {B e s m : Nat} {v : Value} {xs : List Value} (h : w.ownsRow B e s v m xs) (hn : ∀ k, v.ownBlock = some k → r ≠ some k) : w'.ownsRow B e s v m xs :=
  owns_block h fun j hj => k.block j (row_lt h hj).2 (fun e => hn j hj e.symm)
theorem far_rows {w : World} {B B' : Nat} {e e' : TypeId} {s s' n n' : Nat} {v v' : Value} {xs xs' : List Value} (h : w.ownsRow B e s v n xs) (h' : w.ownsRow B' e' s' v' n' xs') (hne : e ≠ e') {k : Nat} (hk : v.ownBlock = some k) : v'.ownBlock ≠ some k := fun e1 => by
  obtain ⟨c', hc⟩ := owns_elem h' e1
  exact far_block h hc hne hk

/-- What Show's loop holds: i texts are out, l has come. -/
structure ShowAt (K : Nat → Kd) (R : Nat → Nat) (n : Nat) (d : Nat → Nat) (w : World) (B t g cap : Nat) (l : List Nat) (S : Nat → ByteArray) (i : Nat) (o v : Value) (c : Nat → List Value) (wr : World) : Prop where
  sto : PSto wr B t g cap n c
  ps : PS K R n d c
  seen : Seen wr B w.heap.size v l
  fresh : ∀ k, v.ownBlock = some k → w.heap.size ≤ k
  out : RowS wr w.heap.size o S i
  grown : w.grownBy wr (some g)
section
variable {K : Nat → Kd} {R : Nat → Nat} {n : Nat} {d : Nat → Nat} {w : World} {B t g cap : Nat} {l l' : List Nat} {S : Nat → ByteArray} {i : Nat} {o v v' : Value} {c c' : Nat → List Value} {wr w5 : World}
theorem ShowAt.far (h : ShowAt K R n d w B t g cap l S i o v c wr) : o.ownBlock ≠ some g ∧ o.ownBlock ≠ some t ∧ o.ownBlock ≠ some w.heap.size ∧ ∀ k, o.ownBlock = some k → v.ownBlock ≠ some k := by
  obtain ⟨cur, hg⟩ := PSto.objs h.sto
  exact ⟨far_block h.out hg (by decide), far_block h.out h.sto.obj (by decide), far_block h.out h.seen.obj (by decide), fun k hk => far_rows h.out h.seen.rows (by decide) hk⟩
theorem ShowAt.push (h : ShowAt K R n d w B t g cap l S i o v c wr) {a : Obj} {g' cap' : Nat} (hown : w5.ownsRow w.heap.size 9 1 (.slice (some ⟨g', 0, none⟩) (i + 1) cap') (i + 1) (((List.range i).map fun i => .string (S i)) ++ [.string (S i)])) (hgrow : (wr.alloc a).grownBy w5 o.ownBlock) :
    ShowAt K R n d w B t g cap l S (i + 1) (.slice (some ⟨g', 0, none⟩) (i + 1) cap') v c w5 := by
  obtain ⟨f1, f2, f3, f4⟩ := h.far
  refine ⟨(h.sto.alloc a).grown hgrow f2 f1, h.ps, (h.seen.grown (World.grownBy_alloc wr a none) (by simp) (by simp)).grown hgrow f3 f4, h.fresh, ?_, ?_⟩
  · unfold RowS
    rw [List.range_succ, List.map_append]
    exact hown
  · have g1 := grown_alloc h.grown a
    refine ⟨hgrow.os.trans g1.os, hgrow.tape.trans g1.tape, hgrow.output.trans g1.output, Nat.le_trans g1.size hgrow.size, fun k hk hg => ?_⟩
    refine (hgrow.block k (Nat.lt_of_lt_of_le hk g1.size) (fun e => ?_)).trans (g1.block k hk hg)
    have := (row_lt h.out e.symm).1
    omega
theorem ShowAt.text (h : ShowAt K R n d w B t g cap l S i o v c wr) (hs : PSto w5 B t g cap n c') (hp : PS K R n d c') (hv : Seen w5 B w.heap.size v' l') (hk : Kept (fun k => k = g ∨ k = w.heap.size ∨ v.ownBlock = some k) wr w5) (ho : v'.ownBlock = v.ownBlock ∨ ∃ k, wr.heap.size ≤ k ∧ v'.ownBlock = some k) :
    ShowAt K R n d w B t g cap l' S i o v' c' w5 := by
  obtain ⟨f1, f2, f3, f4⟩ := h.far
  refine ⟨hs, hp, hv, fun k e => ?_, hk.row h.out ?_, ?_⟩
  · rcases ho with e' | ⟨j, hj, e'⟩
    · exact h.fresh k (by rw [← e', e])
    · rw [e] at e'
      obtain rfl : k = j := by simpa using e'
      exact Nat.le_trans h.grown.size hj
  · rintro k e (e' | e' | e')
    · exact f1 (e' ▸ e)
    · exact f3 (e' ▸ e)
    · exact f4 k e e'
  · refine ⟨hk.os.trans h.grown.os, hk.tape.trans h.grown.tape, hk.output.trans h.grown.output, Nat.le_trans h.grown.size hk.size, fun k hkl hg => ?_⟩
    refine (hk.block k (Nat.lt_of_lt_of_le hkl h.grown.size) ?_).trans (h.grown.block k hkl hg)
    rintro (e | e | e)
    · exact hg (by rw [e])
    · omega
    · have := h.fresh k e
      omega
end

set_option maxRecDepth 100000 in
set_option maxHeartbeats 8000000 in
theorem Show_in {K : Nat → Kd} {R : Nat → Nat} {n : Nat} {d r : Nat → Nat} {B Bl t g cap m : Nat} {c : Nat → List Value} {w : World} {zs : Nat → Int} {seq : Nat → List Nat} {S : Nat → ByteArray} {lv : Value} (hA : Acy K R n r) (hn : n ≤ 50) (hl : Line K R n zs m seq S) (hm : m ≤ 100)
    (h : PSto w B t g cap n c) (hp : PS K R n d c) (hrow : w.ownsRow Bl 35 1 lv m ((List.range m).map fun i => .int .i64 (zs i))) :
    Calls Tryd.prog 16 #[.pointer (some ⟨t, 0, none⟩), lv] w fun e w' => ∃ o c', e = .returned o ∧ RowS w' w.heap.size o S m ∧ PSto w' B t g cap n c' ∧ PS K R n d c' ∧ w.grownBy w' (some g) := by
  obtain ⟨i0, hi0, hz0, hz1, hz2⟩ := info_parts info_string
  obtain ⟨A, cl, rfl⟩ := row_form hrow
  have hgl : (Value.slice A m cl).ownBlock ≠ some g := by
    obtain ⟨cur, hg⟩ := PSto.objs h
    exact far_block hrow hg (by decide)
  have HL := Lib.hid (fun k hk => row_lt hrow (k := k) hk)
  have HR := Lib.hid hrow
  have HGL := Lib.hid hgl
  have HLN := Lib.hid hl
  have HA := Lib.hid hA
  have HSN := Lib.hid (hl.sn hA)
  have hlt := h.lt
  have hB : B ≤ w.heap.size := by have := h.base; omega
  have h0 : ShowAt K R n d w B t g cap (seq 0) S 0 (.slice none 0 0) (.slice none 0 0) c (w.alloc (.cells #[.slice none 0 0] 44)) :=
    ⟨h.alloc _, hp, ⟨hB, last _ _, by rw [hl.zero]; exact World.ownsRow_nil _ _ _ _⟩, (fun k e => by cases e), World.ownsRow_nil _ _ _ _, World.grownBy_alloc _ _ _⟩
  have H0 := Lib.hid h0
  clear h hp hrow h0 hl hA hgl
  go_enter Tryd.func16, Tryd.ntmps16
  go_wp2_with fail
  go_loopw [5, 12] (fun ov iv wr => ∃ (i : Nat) (v : Value) (c : Nat → List Value), iv = .int .i64 i ∧ i ≤ m ∧ ShowAt K R n d w B t g cap (seq i) S i ov v c wr) (fun _ iv _ => m - (intOf iv).toNat)
  case atStart => exact ⟨0, _, c, rfl, by omega, H0.out⟩
  case round =>
    obtain ⟨i, v, c1, rfl, hi, hat⟩ := hrel
    clear H0
    have HAT := Lib.hid hat
    clear hat
    by_cases e : i = m
    · subst e
      go_wp2_with fail
      go_ret
      exact ⟨_, _, rfl, HAT.out.out, HAT.out.sto, HAT.out.ps, HAT.out.grown⟩
    · have him : i < m := by omega
      obtain ⟨ol, hol, hcell⟩ := row_cells HR.out him
      subst hol
      have hol2 := HL.out ol rfl
      have cz : wr.cell? ⟨ol, i, none⟩ = some (.int .i64 (zs i)) := (World.cell?_of_block (HAT.out.grown.block ol hol2.2 (by simpa [Value.ownBlock] using HGL.out))).trans (hcell i him)
      have hri := right_in HAT.out.sto (zs i)
      have hst := HLN.out.step i him
      obtain ⟨Ao, co, ho⟩ := row_form HAT.out.out
      subst ho
      clear hcell
      rcases hst with ⟨hz, hS, hseq⟩ | ⟨x, hz, hx, htx⟩
      · have HI := Lib.hid (And.intro hS hseq)
        have hzf := decide_eq_false hz
        rw [hzf] at hri
        generalize zs i = z at *
        have HRO := Lib.hid (HAT.out.out.alloc (.cells #[.string (S i)] 9))
        rw [hS] at HRO
        have hls : w.heap.size ≤ wr.heap.size := HAT.out.grown.size
        clear hS hseq hz hzf
        go_wp2_with fail
        refine hri.mono ?_
        clear hri
        rintro e w1 ⟨rfl, rfl⟩
        go_wp2_with (at_builtin; refine wpList_append_lies _ rfl _ _ 47 rfl w.heap.size 9 i0 (.string .empty) 1 16 Tryd.underlying47 hi0 hz0 hz1 hz2 rfl (by decide) (.slice Ao i co) i _ rfl HRO.out ⟨wr.heap.size, 0, none⟩ 1 1 [.string .empty] rfl rfl (news1 _ _ _ rfl) (by simp [Value.oneCell']) (by decide) (by unfold maxLen; omega) (by omega) (by simp; omega) _ rfl ?_)
        intro g' cap' w5 hown hgrow hat hlt1
        have hpush := HAT.out.push (by rw [HI.out.1]; exact hown) hgrow
        rw [← HI.out.2] at hpush
        have HPU := Lib.hid hpush
        clear hown hgrow hat hlt1 hpush
        go_wp2_with fail
        go_roundw
        case rel => exact ⟨i + 1, v, c1, rfl, by omega, HPU.out⟩
        case measure =>
          simp [intOf]
          omega
      · have hzt : decide (0 ≤ zs i ∧ zs i < (n : Int)) = true := decide_eq_true (by omega)
        rw [hzt] at hri
        rw [hz] at cz hri
        have hct := text_in HA.out hn htx hx (HSN.out i hi) c1 wr v HAT.out.sto HAT.out.ps HAT.out.seen
        have hls : w.heap.size ≤ wr.heap.size := HAT.out.grown.size
        clear hz hzt htx
        go_wp2_with fail
        refine hri.mono ?_
        clear hri
        rintro e w1 ⟨rfl, rfl⟩
        go_wp2_with fail
        refine hct.mono ?_
        clear hct
        rintro e w2 ⟨rfl, c2, v2, hs2, hp2, hv2, hk2, ho2⟩
        have HAT2 := Lib.hid (HAT.out.text hs2 hp2 hv2 hk2 ho2)
        clear hs2 hp2 hv2 hk2 ho2 cz
        have HRO := Lib.hid (HAT2.out.out.alloc (.cells #[.string (S i)] 9))
        have hls2 : w.heap.size ≤ w2.heap.size := HAT2.out.grown.size
        generalize hSi : S i = s at *
        have HSI := Lib.hid hSi
        clear hSi
        go_wp2_with (at_builtin; refine wpList_append_lies _ rfl _ _ 47 rfl w.heap.size 9 i0 (.string .empty) 1 16 Tryd.underlying47 hi0 hz0 hz1 hz2 rfl (by decide) (.slice Ao i co) i _ rfl HRO.out ⟨w2.heap.size, 0, none⟩ 1 1 [.string s] rfl rfl (news1 _ _ _ rfl) (by simp [Value.oneCell']) (by decide) (by unfold maxLen; omega) (by omega) (by simp; omega) _ rfl ?_)
        intro g' cap' w5 hown hgrow hat hlt1
        have hpush := HAT2.out.push (by rw [HSI.out]; exact hown) hgrow
        have HPU := Lib.hid hpush
        clear hown hgrow hat hlt1 hpush
        go_wp2_with fail
        go_roundw
        case rel => exact ⟨i + 1, v2, c2, rfl, by omega, HPU.out⟩
        case measure =>
          simp [intOf]
          omega
end Go.Proofs.YtpbiiigacfhbhaaDoor
