/- A tree of nodes. PRINTED by gentre8.py of this folder. -/
import Derived.Test.YtnaednfdaaiciaaTre7
set_option linter.unusedVariables false
set_option linter.unusedSimpArgs false
namespace Go.Proofs.Ytnaednfdaaiciaa
open Go.RowKit
open TreP (WF nd inT deep places fits addN small)

theorem fold_take {l : List Nd} {k : Nat} (hk : k < l.length) : (l.take (k + 1)).foldl addN [] = addN ((l.take k).foldl addN []) (l.getD k default) := by
  rw [TreP.getD_take hk, List.foldl_append]; rfl

def OfPost (w : World) (ns : List (Nd × Value)) (e : Ending) (w' : World) : Prop :=
  ∃ (t : Nat) (v V' : Value) (ms ms2 : List (Nd × Value)), e = .returned (.tuple #[.pointer (some ⟨t, 0, none⟩), V', .bool true]) ∧ TreeAt w' w.heap.size t v ms ∧ w'.ownsRow w.heap.size 33 6 V' ms2.length (rowsOf ms2) ∧
    (∀ p ∈ ms2, Ints w p.2 p.1.kids) ∧ ms.map (·.1) = (ns.map (·.1)).foldl addN [] ∧ ms2.map (·.1) = (ns.map (·.1)).foldl addN [] ∧ Below w.heap.size w w'

set_option maxRecDepth 100000 in
set_option maxHeartbeats 8000000 in
theorem Of_in {w : World} {V : Value} {ns : List (Nd × Value)} (hV : Nodes w V ns) (hsm : small (ns.map (·.1)) = true) :
    Calls Try.prog 6 #[V] w (OfPost w ns) := by
  obtain ⟨A, c, rfl⟩ := hV.form
  have HV := Lib.hid hV
  obtain ⟨hl1, hl2⟩ := TreP.small_len hsm
  have hl1 : ns.length ≤ 2000 := by simpa using hl1
  have hl2 : ∀ k (h : k < ns.length), ns[k].1.kids.length ≤ 2000 := fun k h => hl2 _ (List.mem_map.2 ⟨ns[k], List.getElem_mem h, rfl⟩)
  have HL2 := Lib.hid hl2
  clear hV hsm hl2
  have f0 := last w (.cells #[.slice none 0 0] 47)
  have hb0 := (Below.refl w.heap.size w).alloc (Nat.le_refl _) (.cells #[.slice none 0 0] 47)
  have hT0 : TreeAt (w.alloc (.cells #[.slice none 0 0] 47)) w.heap.size w.heap.size (.slice none 0 0) [] := ⟨Nat.le_refl _, f0, World.ownsRow_nil _ _ _ _, (fun p hp => by cases hp)⟩
  have HT0 := Lib.hid hT0
  clear hT0 f0
  go_enter Try.func6, Try.ntmps6
  go_wp2_with fail
  generalize w.alloc (.cells #[.slice none 0 0] 47) = W0 at *
  go_loopw [6, 17] (fun mv i wr => ∃ (k : Nat) (ms ms2 : List (Nd × Value)) (v : Value), i = .int .i64 k ∧ k ≤ ns.length ∧ TreeAt wr w.heap.size w.heap.size v ms ∧ wr.ownsRow w.heap.size 33 6 mv ms2.length (rowsOf ms2) ∧
      (∀ p ∈ ms2, Ints w p.2 p.1.kids) ∧ Hid (ms.map (·.1) = ((ns.map (·.1)).take k).foldl addN [] ∧ ms2.map (·.1) = ((ns.map (·.1)).take k).foldl addN []) ∧ Below w.heap.size w wr ∧ (∀ g, mv.ownBlock = some g → v.ownBlock ≠ some g)) (fun _ i _ => ((ns.length : Int) - intOf i).toNat)
  case atStart => exact ⟨0, [], [], .slice none 0 0, rfl, by omega, HT0.out, World.ownsRow_nil _ _ _ _, (fun p hp => by cases hp), Lib.hid ⟨rfl, rfl⟩, hb0, (fun g hg => by cases hg)⟩
  case round =>
    obtain ⟨k, ms, ms2, v, rfl, hk, hT, hM, hMI, HE, hr, hdis⟩ := hrel
    have hlen : ms.length = ms2.length := by have h1 := congrArg List.length HE.out.1; have h2 := congrArg List.length HE.out.2; simp only [List.length_map] at h1 h2; omega
    have hmk : ms.length ≤ 2000 := by
      have h1 := congrArg List.length HE.out.1
      have h2 := TreP.fold_length ((ns.map (·.1)).take k) []
      simp only [List.length_map, List.length_take, List.length_nil] at h1 h2
      omega
    obtain ⟨A2, c2, rfl⟩ := owns_form hM
    obtain ⟨A1, c1, rfl⟩ := hT.nodes.form
    by_cases hkl : k < ns.length
    · have hki : (k : Int) < ns.length := by omega
      obtain ⟨b, off, c', hv, e0, e1, e2, e3, e4, e5, hI⟩ := (HV.out.below hr).at hkl
      cases hv
      have hIw : Ints w ns[k].2 ns[k].1.kids := HV.out.2 _ (mem_kid hkl)
      have hkl2 := HL2.out k hkl
      have hft := fold_take (l := ns.map (·.1)) (k := k) (by simpa using hkl)
      rw [getD_fst hkl] at hft
      generalize ns[k] = p at *
      obtain ⟨⟨op, line, col, name, num, kids⟩, s0⟩ := p
      simp only at e0 e1 e2 e3 e4 e5 hI hIw hkl2 hft
      obtain ⟨A0, c0, rfl⟩ := hI.form
      have f1 := last wr (.cells #[.string op, .int .i64 line, .int .i64 col, .string name, .int .i64 num, .slice A0 kids.length c0] 33)
      have hb1 := (Below.refl wr.heap.size wr).alloc (Nat.le_refl _) (.cells #[.string op, .int .i64 line, .int .i64 col, .string name, .int .i64 num, .slice A0 kids.length c0] 33)
      have hs1 : (wr.alloc (.cells #[.string op, .int .i64 line, .int .i64 col, .string name, .int .i64 num, .slice A0 kids.length c0] 33)).heap.size = wr.heap.size + 1 := by simp
      obtain ⟨z0, z1, z2, z3, z4, z5⟩ := cellsOf6 f1
      have hAdd := Add_in (x := ⟨op, line, col, name, num, kids⟩) (hT.below hb1) (hI.below hb1) hmk hkl2 (by have := hr.size; omega)
      unfold ndV at hAdd
      simp only at hAdd
      have HX := Lib.hid (And.intro hT (And.intro hM (And.intro hMI (And.intro hIw (And.intro hft hdis)))))
      have HR := Lib.hid hr
      have HF1 := Lib.hid f1
      have HADD := Lib.hid hAdd
      have hwr := hr.size
      have htw := heap_lt hT.obj
      clear hT hM hMI hIw hft hdis hI hr f1 hAdd
      have hal : ∀ g, g < wr.heap.size → (wr.alloc (.cells #[.string op, .int .i64 line, .int .i64 col, .string name, .int .i64 num, .slice A0 kids.length c0] 33)).heap[g]? = wr.heap[g]? := fun g hg => Below.heap_alloc wr (.cells #[.string op, .int .i64 line, .int .i64 col, .string name, .int .i64 num, .slice A0 kids.length c0] 33) g hg
      have hl' : (ms.length : Int) = ms2.length := by omega
      go_wp2_with fail
      refine HADD.out.mono ?_
      rintro e w2 (⟨hfit, v', s', rfl, hT2, hB2, hsz2, hfr, hown2⟩ | ⟨hfit, rfl, hb2⟩)
      · have g1 := (hfr wr.heap.size (by omega) (by omega) (fun e => by have := (HX.out.1.rows.lt _ e.symm).2; omega)).trans HF1.out
        have hM2 : w2.ownsRow w.heap.size 33 6 (.slice A2 ms2.length c2) ms2.length (rowsOf ms2) := owns_block HX.out.2.1 fun g hg => by
          have hgl := (HX.out.2.1.lt g hg).2
          refine (hfr g (by omega) (fun e => ?_) (fun e => HX.out.2.2.2.2.2 g hg e.symm)).trans (hal g hgl)
          exact far_block HX.out.2.1 HX.out.1.obj (by decide) (by rw [hg, e])
        have hbw2 : Below w.heap.size w w2 := (HR.out.trans (hb1.mono hwr)).trans hB2
        have hra := refAdd_in (x := ⟨op, line, col, name, num, kids⟩) (owns_nodes hM2 (fun p hp => (HX.out.2.2.1 p hp).below hbw2)) (HX.out.2.2.2.1.below hbw2) (by omega) hkl2 ⟨_, hM2⟩
        unfold ndV at hra
        simp only at hra
        obtain ⟨z0, z1, z2, z3, z4, z5⟩ := cellsOf6 g1
        have HRA := Lib.hid hra
        have HT2 := Lib.hid hT2
        have HB2 := Lib.hid hbw2
        have HO2 := Lib.hid hown2
        clear hra hM2 hT2 hbw2 hfr hown2 hB2 g1 hal
        go_wp2_with fail
        refine HRA.out.mono ?_
        rintro e w3 ⟨hb3, (⟨hfit2, V', rfl, hV'⟩ | ⟨hfit2, rfl⟩)⟩
        · obtain ⟨A3, c3, rfl⟩ := owns_form hV'
          have HV3 := Lib.hid (And.intro hV' hb3)
          clear hV' hb3
          simp only [List.length_append, List.length_singleton] at HV3
          go_wp2_with fail
          go_roundw
          case rel =>
            refine ⟨k + 1, ms ++ [(⟨op, line, col, name, num, kids⟩, s')], ms2 ++ [(⟨op, line, col, name, num, kids⟩, .slice A0 kids.length c0)], v', by simp, by omega, HT2.out.below HV3.out.2, by rw [List.length_append]; exact owns_base HV3.out.1 (by omega), ?_, Lib.hid ⟨?_, ?_⟩, HB2.out.trans (HV3.out.2.mono HB2.out.size), ?_⟩
            · intro p hp
              rcases List.mem_append.1 hp with hp | hp
              · exact HX.out.2.2.1 p hp
              · obtain rfl : p = (⟨op, line, col, name, num, kids⟩, .slice A0 kids.length c0) := by simpa using hp
                exact HX.out.2.2.2.1
            · rw [HX.out.2.2.2.2.1, ← HE.out.1]
              unfold addN
              rw [if_pos (by simpa using hfit)]
              simp
            · rw [HX.out.2.2.2.2.1, ← HE.out.2]
              unfold addN
              rw [if_pos (by rw [List.length_map, ← hlen]; exact hfit)]
              simp
            · intro g hg e
              have h1 := (HV3.out.1.lt g hg).1
              have h2 := (HT2.out.rows.lt g e).2
              omega
          case measure => simp [intOf]; omega
        · rw [← hlen, hfit] at hfit2; cases hfit2
      · have g1 := (hb2.block wr.heap.size (by omega)).trans HF1.out
        have hb12 : Below wr.heap.size wr w2 := hb1.trans (hb2.mono (by omega))
        have hbw2 : Below w.heap.size w w2 := HR.out.trans (hb12.mono hwr)
        have hra := refAdd_in (x := ⟨op, line, col, name, num, kids⟩) (owns_nodes (owns_below HX.out.2.1 hb12) (fun p hp => (HX.out.2.2.1 p hp).below hbw2)) (HX.out.2.2.2.1.below hbw2) (by omega) hkl2 ⟨_, owns_below HX.out.2.1 hb12⟩
        unfold ndV at hra
        simp only at hra
        obtain ⟨z0, z1, z2, z3, z4, z5⟩ := cellsOf6 g1
        have HRA := Lib.hid hra
        have HB2 := Lib.hid hbw2
        have HB12 := Lib.hid hb12
        clear hra hbw2 hb12 g1 hal
        go_wp2_with fail
        refine HRA.out.mono ?_
        rintro e w3 ⟨hb3, (⟨hfit2, V', rfl, hV'⟩ | ⟨hfit2, rfl⟩)⟩
        · rw [← hlen, hfit] at hfit2; cases hfit2
        · have HB3 := Lib.hid hb3
          clear hb3
          go_wp2_with fail
          go_roundw
          case rel =>
            have hb13 := HB12.out.trans (HB3.out.mono HB12.out.size)
            refine ⟨k + 1, ms, ms2, .slice A1 ms.length c1, by simp, by omega, HX.out.1.below hb13, owns_below HX.out.2.1 hb13, HX.out.2.2.1, Lib.hid ⟨?_, ?_⟩, HR.out.trans (hb13.mono hwr), HX.out.2.2.2.2.2⟩
            · rw [HX.out.2.2.2.2.1, ← HE.out.1]
              unfold addN
              rw [if_neg (by rw [List.length_map, hfit]; simp)]
            · rw [HX.out.2.2.2.2.1, ← HE.out.2]
              unfold addN
              rw [if_neg (by rw [List.length_map, hfit2]; simp)]
          case measure => simp [intOf]; omega
    · have hki : ¬ (k : Int) < ns.length := by omega
      have hke : k = ns.length := by omega
      have hLn := Len_in hT
      have HX := Lib.hid (And.intro hT (And.intro hM (And.intro hMI hr)))
      have hE2 := HE.out
      rw [hke, List.take_of_length_le (by simp)] at hE2
      have HE2 := Lib.hid hE2
      clear hT hM hMI hr hdis hE2
      go_wp2_with (go_at_call 18; refine hLn.mono ?_; rintro e w' ⟨rfl, rfl⟩)
      exact bodyPost_ret (v := .tuple #[.pointer (some ⟨w.heap.size, 0, none⟩), .slice A2 ms2.length c2, .bool true]) (by simp [results, Try.results6, go_sem, hlen]) rfl ⟨w.heap.size, _, _, ms, ms2, rfl, HX.out.1, HX.out.2.1, HX.out.2.2.1, HE2.out.1, HE2.out.2, HX.out.2.2.2⟩
end Go.Proofs.Ytnaednfdaaiciaa
