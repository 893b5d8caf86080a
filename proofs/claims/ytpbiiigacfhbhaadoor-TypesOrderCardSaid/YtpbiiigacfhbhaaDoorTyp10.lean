/- The texts of several: the reference's Show. -/
import Derived.Test.YtpbiiigacfhbhaaDoorTyp9
set_option linter.unusedVariables false
set_option linter.unusedSimpArgs false
namespace Go.Proofs.YtpbiiigacfhbhaaDoor
open Go.RowKit
open TypP (Kd Acy Occ Uni Step Txt TStep Sn Line)

/-- What the reference's Show holds in its loop: i texts are out, l has come. -/
structure RShowAt (n : Nat) (w : World) (B t g cap : Nat) (l : List Nat) (S : Nat → ByteArray) (i : Nat) (o v : Value) (c : Nat → List Value) (wr : World) : Prop where
  sto : RSto wr B t g cap n c
  seen : RowI wr B v l
  fresh : ∀ k, v.ownBlock = some k → w.heap.size ≤ k
  out : RowS wr w.heap.size o S i
  grown : w.grownBy wr none
section
variable {n : Nat} {w : World} {B t g cap : Nat} {l l' : List Nat} {S : Nat → ByteArray} {i : Nat} {o v v' : Value} {c c' : Nat → List Value} {wr w5 : World}
theorem RShowAt.far (h : RShowAt n w B t g cap l S i o v c wr) : o.ownBlock ≠ some g ∧ o.ownBlock ≠ some t ∧ ∀ k, o.ownBlock = some k → v.ownBlock ≠ some k := by
  obtain ⟨cur, hg⟩ := PSto.objs h.sto
  exact ⟨far_block h.out hg (by decide), far_block h.out h.sto.obj (by decide), fun k hk => far_rows h.out h.seen (by decide) hk⟩
theorem RShowAt.drew (h : RShowAt n w B t g cap l S i o v c wr) : RShowAt n w B t g cap l S i o v c wr.drew :=
  ⟨h.sto.drew, h.seen.drew, h.fresh, World.ownsRow.drew h.out, grown_drew h.grown⟩
theorem RShowAt.push (h : RShowAt n w B t g cap l S i o v c wr) {a : Obj} {g' cap' : Nat} (hown : w5.ownsRow w.heap.size 9 1 (.slice (some ⟨g', 0, none⟩) (i + 1) cap') (i + 1) (((List.range i).map fun i => .string (S i)) ++ [.string (S i)])) (hgrow : (wr.alloc a).grownBy w5 o.ownBlock) :
    RShowAt n w B t g cap l S (i + 1) (.slice (some ⟨g', 0, none⟩) (i + 1) cap') v c w5 := by
  obtain ⟨f1, f2, f4⟩ := h.far
  refine ⟨(h.sto.alloc a).grown hgrow f2 f1, grown_row hgrow (grown_row (World.grownBy_alloc wr a none) h.seen (fun k e => by simp)) (fun k e e' => f4 k e' e), h.fresh, ?_, ?_⟩
  · unfold RowS
    rw [List.range_succ, List.map_append]
    exact hown
  · have g1 := grown_alloc h.grown a
    refine ⟨hgrow.os.trans g1.os, hgrow.tape.trans g1.tape, hgrow.output.trans g1.output, Nat.le_trans g1.size hgrow.size, fun k hk hg => ?_⟩
    refine (hgrow.block k (Nat.lt_of_lt_of_le hk g1.size) (fun e => ?_)).trans (g1.block k hk hg)
    have := (row_lt h.out e.symm).1
    omega
theorem RShowAt.text (h : RShowAt n w B t g cap l S i o v c wr) (hv : RowI w5 B v' l') (hk : Kept (fun k => v.ownBlock = some k) wr w5) (ho : v'.ownBlock = v.ownBlock ∨ ∃ k, wr.heap.size ≤ k ∧ v'.ownBlock = some k) :
    RShowAt n w B t g cap l' S i o v' c w5 := by
  obtain ⟨f1, f2, f4⟩ := h.far
  obtain ⟨a1, a2⟩ := apartR h.sto h.seen
  refine ⟨h.sto.kept hk a2 a1, hv, fun k e => ?_, hk.row h.out (fun k e e' => f4 k e e'), ?_⟩
  · rcases ho with e' | ⟨j, hj, e'⟩
    · exact h.fresh k (by rw [← e', e])
    · rw [e] at e'
      obtain rfl : k = j := by simpa using e'
      exact Nat.le_trans h.grown.size hj
  · refine ⟨hk.os.trans h.grown.os, hk.tape.trans h.grown.tape, hk.output.trans h.grown.output, Nat.le_trans h.grown.size hk.size, fun k hkl hg => ?_⟩
    refine (hk.block k (Nat.lt_of_lt_of_le hkl h.grown.size) (fun e => ?_)).trans (h.grown.block k hkl hg)
    have := h.fresh k e
    omega
end

set_option maxRecDepth 100000 in
set_option maxHeartbeats 8000000 in
theorem RShow_in {K : Nat → Kd} {R : Nat → Nat} {n : Nat} {d r : Nat → Nat} {B Bl t g cap m : Nat} {c : Nat → List Value} {w : World} {zs : Nat → Int} {seq : Nat → List Nat} {S : Nat → ByteArray} {lv : Value} (hA : Acy K R n r) (hn : n ≤ 50) (hl : Line K R n zs m seq S) (hm : m ≤ 100)
    (h : RSto w B t g cap n c) (hp : RS K R n d c) (hrow : w.ownsRow Bl 3 1 lv m ((List.range m).map fun i => .int .i64 (zs i))) :
    Calls Tryd.prog 17 #[.pointer (some ⟨t, 0, none⟩), lv] w fun e w' => ∃ o, e = .returned o ∧ RowS w' w.heap.size o S m ∧ RSto w' B t g cap n c ∧ w.grownBy w' none := by
  obtain ⟨i0, hi0, hz0, hz1, hz2⟩ := info_parts info_string
  obtain ⟨A, cl, rfl⟩ := row_form hrow
  have HL := Lib.hid (fun k hk => row_lt hrow (k := k) hk)
  have HR := Lib.hid hrow
  have HLN := Lib.hid hl
  have HA := Lib.hid hA
  have HSN := Lib.hid (hl.sn hA)
  have HP := Lib.hid hp
  have hlt := h.lt
  have h0 : RShowAt n w B t g cap (seq 0) S 0 (.slice none 0 0) (.slice none 0 0) c w :=
    ⟨h, (by rw [hl.zero]; exact World.ownsRow_nil _ _ _ _), (fun k e => by cases e), World.ownsRow_nil _ _ _ _, World.grownBy.refl _ _⟩
  have H0 := Lib.hid h0
  clear h hp hrow h0 hl hA
  go_enter Tryd.func17, Tryd.ntmps17
  go_wp2_with fail
  go_loopw [5, 6, 7] (fun ov sv iv wr => ∃ (i : Nat), iv = .int .i64 i ∧ i ≤ m ∧ RShowAt n w B t g cap (seq i) S i ov sv c wr) (fun _ _ iv _ => m - (intOf iv).toNat)
  case atStart => exact ⟨0, rfl, by omega, H0.out⟩
  case round =>
    obtain ⟨i, rfl, hi, hat⟩ := hrel
    clear H0
    have HAT := Lib.hid hat
    clear hat
    by_cases e : i = m
    · subst e
      go_wp2_with fail
      go_ret
      exact ⟨_, rfl, HAT.out.out, HAT.out.sto, HAT.out.grown⟩
    · have him : i < m := by omega
      obtain ⟨ol, hol, hcell⟩ := row_cells HR.out him
      subst hol
      have hol2 := HL.out ol rfl
      have cz : wr.cell? ⟨ol, i, none⟩ = some (.int .i64 (zs i)) := (World.cell?_of_block (HAT.out.grown.block ol hol2.2 (by simp))).trans (hcell i him)
      have top := HAT.out.sto.top
      have hst := HLN.out.step i him
      obtain ⟨Ao, co, ho⟩ := row_form HAT.out.out
      subst ho
      clear hcell
      rcases hst with ⟨hz, hS, hseq⟩ | ⟨x, hz, hx, htx⟩
      · have HI := Lib.hid (And.intro hS hseq)
        generalize zs i = z at *
        have hls : w.heap.size ≤ wr.heap.size := HAT.out.grown.size
        clear hS hseq
        by_cases hzz : 0 ≤ z
        · have hzd : decide (z < (n : Int)) = false := decide_eq_false (by omega)
          clear hz
          go_wp2_with fail
          go_region
          have HATd := Lib.hid HAT.out.drew
          clear HAT cz top
          have hls : w.heap.size ≤ wr.drew.heap.size := hls
          generalize wr.drew = wd at *
          have HRO := Lib.hid (HATd.out.out.alloc (.cells #[.string (S i)] 9))
          rw [HI.out.1] at HRO
          go_wp2_with (at_builtin; refine wpList_append_lies _ rfl _ _ 47 rfl w.heap.size 9 i0 (.string .empty) 1 16 Tryd.underlying47 hi0 hz0 hz1 hz2 rfl (by decide) (.slice Ao i co) i _ rfl HRO.out ⟨wd.heap.size, 0, none⟩ 1 1 [.string .empty] rfl rfl (news1 _ _ _ rfl) (by simp [Value.oneCell']) (by decide) (by unfold maxLen; omega) (by omega) (by simp; omega) _ rfl ?_)
          intro g' cap' w5 hown hgrow hat hlt1
          have hpush := HATd.out.push (by rw [HI.out.1]; exact hown) hgrow
          rw [← HI.out.2] at hpush
          have HPU := Lib.hid hpush
          clear hown hgrow hat hlt1 hpush
          go_wp2_with fail
          go_roundw
          case rel => exact ⟨i + 1, rfl, by omega, HPU.out⟩
          case measure =>
            simp [intOf]
            omega
        · have hzd : decide (0 ≤ z) = false := decide_eq_false hzz
          clear hz
          go_wp2_with fail
          go_region
          have HATd := Lib.hid HAT.out.drew
          clear HAT cz top
          have hls : w.heap.size ≤ wr.drew.heap.size := hls
          generalize wr.drew = wd at *
          have HRO := Lib.hid (HATd.out.out.alloc (.cells #[.string (S i)] 9))
          rw [HI.out.1] at HRO
          go_wp2_with (at_builtin; refine wpList_append_lies _ rfl _ _ 47 rfl w.heap.size 9 i0 (.string .empty) 1 16 Tryd.underlying47 hi0 hz0 hz1 hz2 rfl (by decide) (.slice Ao i co) i _ rfl HRO.out ⟨wd.heap.size, 0, none⟩ 1 1 [.string .empty] rfl rfl (news1 _ _ _ rfl) (by simp [Value.oneCell']) (by decide) (by unfold maxLen; omega) (by omega) (by simp; omega) _ rfl ?_)
          intro g' cap' w5 hown hgrow hat hlt1
          have hpush := HATd.out.push (by rw [HI.out.1]; exact hown) hgrow
          rw [← HI.out.2] at hpush
          have HPU := Lib.hid hpush
          clear hown hgrow hat hlt1 hpush
          go_wp2_with fail
          go_roundw
          case rel => exact ⟨i + 1, rfl, by omega, HPU.out⟩
          case measure =>
            simp [intOf]
            omega
      · rw [hz] at cz
        have hxn : (x : Int) < n := by omega
        have hx0 : (0 : Int) ≤ x := by omega
        have hct := rtext_in HA.out hn HP.out htx hx (HSN.out i hi) wr.drew _ HAT.out.drew.sto HAT.out.drew.seen
        have hls : w.heap.size ≤ wr.heap.size := HAT.out.grown.size
        clear hz htx
        go_wp2_with fail
        go_region
        have cz' : wr.drew.cell? ⟨ol, i, none⟩ = some (.int .i64 x) := cz
        have HATd := Lib.hid HAT.out.drew
        clear cz top HAT
        generalize wr.drew = wd at *
        go_wp2_with fail
        refine hct.mono ?_
        clear hct
        rintro e w2 ⟨v2, rfl, hv2, hk2, ho2⟩
        have HAT2 := Lib.hid (HATd.out.text hv2 hk2 ho2)
        clear hv2 hk2 ho2 cz'
        have HRO := Lib.hid (HAT2.out.out.alloc (.cells #[.string (S i)] 9))
        have hls2 : w.heap.size ≤ w2.heap.size := HAT2.out.grown.size
        generalize hSi : S i = s at *
        have HSI := Lib.hid hSi
        clear hSi
        go_wp2_with (at_builtin; refine wpList_append_lies _ rfl _ _ 47 rfl w.heap.size 9 i0 (.string .empty) 1 16 Tryd.underlying47 hi0 hz0 hz1 hz2 rfl (by decide) (.slice Ao i co) i _ rfl HRO.out ⟨w2.heap.size, 0, none⟩ 1 1 [.string s] rfl rfl (news1 _ _ _ rfl) (by simp [Value.oneCell']) (by decide) (by unfold maxLen; omega) (by omega) (by simp; omega) _ rfl ?_)
        intro g' cap' w5 hown hgrow hat hlt1
        have hpush := HAT2.out.push (by rw [HSI.out]; exact hown) hgrow
        have HPU := Lib.hid hpush
        clear hown hgrow hat hlt1 hpush
        go_wp2_with fail
        go_roundw
        case rel => exact ⟨i + 1, rfl, by omega, HPU.out⟩
        case measure =>
          simp [intOf]
          omega
end Go.Proofs.YtpbiiigacfhbhaaDoor
