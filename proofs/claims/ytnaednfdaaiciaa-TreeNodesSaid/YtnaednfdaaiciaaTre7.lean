/- Are nodes few? PRINTED by gentre7.py of this folder. -/
import Derived.Test.YtnaednfdaaiciaaTre6
set_option linter.unusedVariables false
set_option linter.unusedSimpArgs false
namespace Go.Proofs.Ytnaednfdaaiciaa
open Go.RowKit
open TreP (WF nd inT deep places fits sumK stepS foldS small Inv)

theorem small_no {l : List Nd} {k : Nat} {s : Int × List Int} (hk : k < l.length) (h : foldS (l.take k) (0, []) = some s) (hs : stepS s (l.getD k default) = none) : small l = false := by
  have h1 : foldS (l.take (k + 1)) (0, []) = none := by rw [TreP.getD_take hk, TreP.foldS_snoc, h]; exact hs
  have h2 : l = l.take (k + 1) ++ l.drop (k + 1) := (List.take_append_drop _ _).symm
  unfold small
  rw [h2, TreP.foldS_none _ _ _ h1]
  rfl
theorem fold_next {l : List Nd} {k : Nat} {s s' : Int × List Int} (hk : k < l.length) (h : foldS (l.take k) (0, []) = some s) (hs : stepS s (l.getD k default) = some s') : foldS (l.take (k + 1)) (0, []) = some s' := by
  rw [TreP.getD_take hk, TreP.foldS_snoc, h]; exact hs
theorem getD_fst {ms : List (Nd × Value)} {k : Nat} (hk : k < ms.length) : (ms.map (·.1)).getD k default = ms[k].1 := by simp [List.getD, hk]
theorem own_news1 (w : World) (x : Value) (t : TypeId) {b : Nat} (hb : b = w.heap.size) : ∀ j u, [x][j]? = some u → (w.alloc (.cells #[x] t)).cell? ((⟨b, 0, none⟩ : Addr).add j) = some u := by
  subst hb
  exact news_block (cs := [x]) (last w _)
/-- What came in takes no more than memory has. -/
structure Reach (ms : List (Nd × Value)) : Prop where
  len : ms.length ≤ 140737488355328
  kid : ∀ p ∈ ms, p.1.kids.length ≤ 17592186044416 ∧ p.1.op.size ≤ 140737488355328 ∧ p.1.name.size ≤ 140737488355328

set_option maxRecDepth 100000 in
set_option maxHeartbeats 8000000 in
theorem Small_in {w : World} {V : Value} {ms : List (Nd × Value)} (hV : Nodes w V ms) (hR : Reach ms) :
    Calls Try.prog 5 #[V] w fun e w' => e = .returned (.bool (small (ms.map (·.1)))) ∧ Below w.heap.size w w' := by
  obtain ⟨A, c, rfl⟩ := hV.form
  have HV := Lib.hid hV
  have hml := hR.len
  have HR := Lib.hid hR
  obtain ⟨i0, hi0, hz0, hz1, hz2⟩ := info_parts info_int
  clear hV hR
  go_enter Try.func5, Try.ntmps5
  go_wp2_with fail
  go_loopw [3, 4, 13] (fun nv sv i wr => ∃ (k : Nat) (s : Int × List Int), i = .int .i64 k ∧ k ≤ ms.length ∧ Hid (foldS ((ms.map (·.1)).take k) (0, []) = some s) ∧ nv = .int .i64 s.1 ∧ Own wr w.heap.size sv s.2 ∧ Below w.heap.size w wr) (fun _ _ i _ => ((ms.length : Int) - intOf i).toNat)
  case atStart => exact ⟨0, (0, []), rfl, by omega, Lib.hid rfl, rfl, World.ownsRow_nil _ _ _ _, Below.refl _ _⟩
  case round =>
    obtain ⟨k, s, rfl, hk, HS, rfl, hsv, hr⟩ := hrel
    have hinv := Inv.nil.fold _ HS.out
    have ht := hinv.top
    have hle := hinv.le
    have hbd := hinv.bound
    have HINV := Lib.hid hinv
    clear hinv
    obtain ⟨A2, c2, rfl⟩ := hsv.form
    by_cases hkl : k < ms.length
    · have hki : (k : Int) < ms.length := by omega
      obtain ⟨b, off, c', hv, e0, e1, e2, e3, e4, e5, hI⟩ := (HV.out.below hr).at hkl
      cases hv
      have hrk := HR.out.kid _ (mem_kid hkl)
      have hgd := getD_fst hkl
      have HNO := fun hs => small_no (l := ms.map (·.1)) (by simpa using hkl) HS.out hs
      have HGO := fun s' hs => fold_next (s' := s') (l := ms.map (·.1)) (by simpa using hkl) HS.out hs
      rw [hgd] at HNO HGO
      generalize ms[k] = p at *
      obtain ⟨⟨op, line, col, name, num, kids⟩, s0⟩ := p
      simp only at e0 e1 e2 e3 e4 e5 hI hrk HNO HGO
      obtain ⟨hr1, hr2, hr3⟩ := hrk
      obtain ⟨A0, c0, rfl⟩ := hI.form
      obtain ⟨n0, sz⟩ := s
      simp only at *
      have HSV := Lib.hid hsv
      have HI := Lib.hid hI
      have HN := Lib.hid HNO
      have HG := Lib.hid HGO
      have HBD := Lib.hid hbd
      have hn0 : 0 ≤ n0 := by omega
      clear hsv hI HNO HGO hgd hbd hle
      have hsum : sz.length ≤ 2000 := by have h1 := HINV.out.len; have h2 := HINV.out.le; simp only at h1 h2; omega
      by_cases hbig : 2000 < n0 + (1 + (kids.length : Int) + op.size + name.size)
      · go_wp2_with fail
        go_ret
        exact ⟨by rw [HN.out (by simp only [stepS]; rw [if_pos hbig])]; rfl, hr.alloc hr.size _⟩
      · have f1 := last wr (.cells #[.string op, .int .i64 line, .int .i64 col, .string name, .int .i64 num, .slice A0 kids.length c0] 33)
        have hb1 := (Below.refl wr.heap.size wr).alloc (Nat.le_refl _) (.cells #[.string op, .int .i64 line, .int .i64 col, .string name, .int .i64 num, .slice A0 kids.length c0] 33)
        have HI1 := Lib.hid (HI.out.below hb1)
        have HSV1 := Lib.hid (HSV.out.below hb1)
        have HB1 := Lib.hid (hr.trans (hb1.mono hr.size))
        have hs1 : (wr.alloc (.cells #[.string op, .int .i64 line, .int .i64 col, .string name, .int .i64 num, .slice A0 kids.length c0] 33)).heap.size = wr.heap.size + 1 := by simp
        obtain ⟨z0, z1, z2, z3, z4, z5⟩ := cellsOf6 f1
        have z0' := z0
        clear hb1
        go_wp2_with fail
        generalize wr.alloc (.cells #[.string op, .int .i64 line, .int .i64 col, .string name, .int .i64 num, .slice A0 kids.length c0] 33) = W1 at *
        clear e0 e1 e2 e3 e4 e5 f1
        have HST : ∀ r : Int × Bool, sumK sz kids 1 = r → stepS (n0, sz) ⟨op, line, col, name, num, kids⟩ = if 2000 < r.1 then none else some (n0 + (1 + (kids.length : Int) + op.size + name.size), if r.2 then sz ++ [r.1] else sz) := fun r hr => by
          simp only [stepS]
          rw [if_neg (by omega), hr]
        have HST := Lib.hid HST
        go_loopw [7, 8, 36] (fun av tv jv wq => ∃ (j : Nat) (a : Int), jv = .int .i64 j ∧ j ≤ kids.length ∧ av = .int .i64 a ∧ tv = .bool true ∧ Hid (sumK sz (kids.take j) 1 = (a, true)) ∧ W1 = wq) (fun _ _ jv _ => ((kids.length : Int) - intOf jv).toNat)
        case atStart => exact ⟨0, 1, rfl, by omega, rfl, rfl, Lib.hid rfl, rfl⟩
        case round =>
          obtain ⟨j, a, rfl, hj, rfl, rfl, HA, rfl⟩ := hrel
          have hab := TreP.sumK_bound HBD.out (kids.take j) 1 (by omega)
          rw [HA.out] at hab
          have htl : (kids.take j).length ≤ kids.length := by rw [List.length_take]; omega
          simp only at hab
          by_cases hjl : j < kids.length
          · have hji : (j : Int) < kids.length := by omega
            rcases HI1.out with ⟨_, h2⟩ | ⟨b', off', c'', h1, h2⟩
            · rw [h2] at hjl; simp at hjl
            cases h1
            have e6 := h2 j hjl
            clear h2
            have HSA := Lib.hid (TreP.sumK_append sz (kids.take j) (kids.drop j) 1)
            have hdrop : kids.drop j = kids.getD j 0 :: kids.drop (j + 1) := by rw [List.drop_eq_getElem_cons hjl]; simp [List.getD, hjl]
            have htake : kids.take (j + 1) = kids.take j ++ [kids.getD j 0] := TreP.getD_take hjl
            have HT2 := Lib.hid (And.intro hdrop htake)
            clear hdrop htake
            obtain ⟨y, hy⟩ : ∃ y, kids.getD j 0 = y := ⟨_, rfl⟩
            rw [hy] at e6 HT2
            clear hy
            cases hyin : inT sz.length y with
            | false =>
              have hstop : sumK sz kids 1 = (a, false) := by
                have h1 := HSA.out
                rw [List.take_append_drop, HA.out, HT2.out.1] at h1
                rw [h1]
                simp [sumK, hyin]
              have hst := HST.out _ hstop
              simp only at hst
              by_cases hy0 : y < 0
              · by_cases ha : 2000 < a
                · rw [if_pos ha] at hst
                  have HN2 := Lib.hid (HN.out hst)
                  go_wp2_with fail
                  go_ret
                  exact ⟨by rw [HN2.out]; rfl, HB1.out⟩
                · rw [if_neg ha] at hst
                  have HG2 := Lib.hid (HG.out _ hst)
                  go_wp2_with fail
                  go_roundw
                  case rel => exact ⟨k + 1, _, by simp, by omega, HG2, rfl, HSV1.out, HB1.out⟩
                  case measure => simp [intOf]; omega
              · have hy1 : decide (y < 0) = false := decide_eq_false hy0
                have hyn : (sz.length : Int) ≤ y := by
                  have : ¬ (0 ≤ y ∧ y < sz.length) := fun h => by rw [TreP.inT_iff.2 h] at hyin; cases hyin
                  omega
                by_cases ha : 2000 < a
                · rw [if_pos ha] at hst
                  have HN2 := Lib.hid (HN.out hst)
                  go_wp2_with fail
                  go_ret
                  exact ⟨by rw [HN2.out]; rfl, HB1.out⟩
                · rw [if_neg ha] at hst
                  have HG2 := Lib.hid (HG.out _ hst)
                  go_wp2_with fail
                  go_roundw
                  case rel => exact ⟨k + 1, _, by simp, by omega, HG2, rfl, HSV1.out, HB1.out⟩
                  case measure => simp [intOf]; omega
            | true =>
              have hyb := TreP.inT_iff.1 hyin
              obtain ⟨y', rfl⟩ := Int.eq_ofNat_of_zero_le hyb.1
              have hy' : y' < sz.length := by omega
              have hy0 : decide ((y' : Int) < 0) = false := decide_eq_false (by omega)
              have hyn : decide ((sz.length : Int) ≤ (y' : Int)) = false := decide_eq_false (by omega)
              have hyi : (y' : Int) < sz.length := by omega
              have hzb := HBD.out y'
              rcases HSV1.out.ints with ⟨_, h4⟩ | ⟨b4, off4, c4, h3, h4⟩
              · rw [h4] at hy'; simp at hy'
              cases h3
              have e7 := h4 y' hy'
              clear h4
              have HNX : Hid (sumK sz (kids.take (j + 1)) 1 = (a + sz.getD y' 0, true)) := Lib.hid (by
                rw [HT2.out.2, TreP.sumK_append, HA.out]
                simp [sumK, hyin])
              generalize sz.getD y' 0 = zz at *
              go_wp2_with fail
              go_roundw
              case rel => exact ⟨j + 1, _, by simp, by omega, rfl, rfl, HNX, by simp⟩
              case measure => simp [intOf]; omega
          · have hji : ¬ (j : Int) < kids.length := by omega
            have hje : j = kids.length := by omega
            have hst := HST.out (a, true) (by have := HA.out; rw [hje, List.take_length] at this; exact this)
            simp only [if_true] at hst
            by_cases ha : 2000 < a
            · rw [if_pos ha] at hst
              have HN2 := Lib.hid (HN.out hst)
              go_wp2_with fail
              go_ret
              exact ⟨by rw [HN2.out]; rfl, HB1.out⟩
            · rw [if_neg ha] at hst
              have HG2 := Lib.hid (HG.out _ hst)
              have hb2 := (Below.refl W1.heap.size W1).alloc (Nat.le_refl _) (.cells #[.int .i64 a] 3)
              go_wp2_with (at_builtin; go_loud (refine wpList_append_own _ rfl _ _ 31 rfl w.heap.size 3 i0 (.int .i64 0) 1 8 Try.underlying31 hi0 hz0 hz1 hz2 rfl (by decide) _ sz.length _ rfl (HSV1.out.below hb2) ⟨wr.heap.size + 1, 0, none⟩ 1 1 [.int .i64 a] rfl ?qa1 ?qa2 ?qa3 ?qa4 ?qa5 ?qa6 ?_))
              try (case qa1 => rfl)
              try (case qa2 => first | exact own_news1 W1 (.int .i64 a) _ (by omega) | (simp; done))
              try (case qa3 => first | exact ints_one [a] | rfl)
              try (case qa4 => unfold maxLen; omega)
              try (case qa5 => omega)
              try (case qa6 => have := hr.size; omega)
              intro v' w3 hown hgrow hnil
              obtain ⟨g3, cap3, rfl, _, _⟩ := World.ownsRow.form hown (by omega)
              have hbw := (HB1.out.alloc (by have := hr.size; omega) (.cells #[.int .i64 a] 3)).grown hgrow (by have := hr.size; simp; omega) (fun k hk => (HSV1.out.lt k hk).1)
              have hj2 := Lib.hid (Own.join (k := [a]) hown)
              clear hown hgrow hnil
              go_wp2_with fail
              go_roundw
              case rel => exact ⟨k + 1, _, by simp, by omega, HG2, rfl, hj2.out, hbw⟩
              case measure => simp [intOf]; omega
    · have hki : ¬ (k : Int) < ms.length := by omega
      have hke : k = ms.length := by omega
      have hfin : small (ms.map (·.1)) = true := by
        have := HS.out
        rw [List.take_of_length_le (by simp; omega)] at this
        unfold small
        rw [this]; rfl
      go_wp2_with fail
      go_ret
      exact ⟨rfl, hr⟩
end Go.Proofs.Ytnaednfdaaiciaa
