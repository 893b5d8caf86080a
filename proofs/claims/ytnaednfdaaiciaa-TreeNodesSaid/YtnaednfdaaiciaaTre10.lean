/- TreeNodes' walk. PRINTED by gentre10.py of this folder. -/
import Derived.Test.YtnaednfdaaiciaaTreS
import Derived.Shelf.RegionOpen
set_option linter.unusedVariables false
set_option linter.unusedSimpArgs false
namespace Go.Proofs.Ytnaednfdaaiciaa
open Go.RowKit Go.Shelf
open TreP (WF nd inT deep places fits addN small)
attribute [local go_sem] Oper.semAt_some

theorem fine_of {ns ms : List (Nd × Value)} (hsm : small (ns.map (·.1)) = true) (he : ms.map (·.1) = (ns.map (·.1)).foldl addN []) : Fine ms := by
  obtain ⟨s, hs⟩ := TreP.small_inv hsm
  obtain ⟨hl1, hl2⟩ := TreP.small_len hsm
  rw [← he] at hs
  have hlen : ms.length ≤ 2000 := by have h1 := hs.le; have h2 := hs.top; simp only [List.length_map] at h1; omega
  refine ⟨hs.wf, hlen, fun p hp => ?_, fun k hk => ?_⟩
  · have hm : p.1 ∈ ms.map (·.1) := List.mem_map.2 ⟨p, hp, rfl⟩
    rw [he] at hm
    rcases TreP.fold_mem _ _ _ hm with h | h
    · cases h
    · exact hl2 _ h
  · have h1 := hs.size k (by simpa using hk)
    have h2 := hs.bound k
    rw [h1] at h2
    simp only [List.length_map] at h2
    omega

theorem seen_done {stop : Int} {xs : List Int} (h : stop = 0 ∨ (xs.length : Int) < stop) : TreP.seenOf stop.toNat xs = xs := by
  unfold TreP.seenOf
  rw [if_neg (by omega)]
theorem seen_stop {stop : Int} {q xs : List Int} (hq : q <+: xs) (h0 : 0 < stop) (h : (q.length : Int) = stop) : TreP.seenOf stop.toNat xs = q := by
  obtain ⟨r, rfl⟩ := hq
  unfold TreP.seenOf
  split
  · have : stop.toNat = q.length := by omega
    rw [this, List.take_left]
  · rename_i hn
    have : r = [] := by
      cases r with
      | nil => rfl
      | cons a r => exfalso; apply hn; simp; omega
    rw [this, List.append_nil]
theorem Ints.take {w : World} {g c n : Nat} {l : List Int} (h : Ints w (.slice (some ⟨g, 0, none⟩) l.length c) l) (hn : n ≤ l.length) (c' : Nat) : Ints w (.slice (some ⟨g, 0, none⟩) n c') (l.take n) := by
  have hl : (l.take n).length = n := by rw [List.length_take]; omega
  rcases h with ⟨_, rfl⟩ | ⟨b, off, c'', h1, h2⟩
  · obtain rfl : n = 0 := by simpa using hn
    exact .inl ⟨⟨_, _, rfl⟩, by simp⟩
  · cases h1
    refine .inr ⟨g, 0, c', by rw [hl], fun i hi => ?_⟩
    rw [hl] at hi
    rw [h2 i (by omega)]
    simp [List.getD, List.getElem?_take, hi]
theorem cell_set_ne {w : World} {p q : Addr} {v : Value} (h : p.block ≠ q.block) : (w.setCell p v).cell? q = w.cell? q := World.cell?_of_block (Below.heap_setCell w p v q.block (fun e => h e.symm))
theorem Get_any {w : World} {B t : Nat} {v : Value} {ms : List (Nd × Value)} (hF : Fine ms) (h : TreeAt w B t v ms) (i : Int) :
    Calls Try.prog 7 #[.pointer (some ⟨t, 0, none⟩), .int .i64 i] w fun e w' => (∃ op line col name num A n c, e = .returned (.tuple #[.agg #[.string op, .int .i64 line, .int .i64 col, .string name, .int .i64 num, .slice A n c], .bool (inT ms.length i)])) ∧ Below w.heap.size w w' := by
  cases hc : inT ms.length i with
  | false =>
    refine (Get_miss h hc).mono ?_
    rintro e w' ⟨rfl, hb⟩
    exact ⟨⟨_, _, _, _, _, _, _, _, rfl⟩, hb⟩
  | true =>
    have hc' := TreP.inT_iff.1 hc
    obtain ⟨k, rfl⟩ := Int.eq_ofNat_of_zero_le hc'.1
    have hk : k < ms.length := by omega
    refine (Get_hit h hk (by have := hF.kid _ (mem_kid hk); omega) (by have := hF.len; omega)).mono ?_
    rintro e w' ⟨s, rfl, ho, hb⟩
    obtain ⟨A, c, rfl⟩ := ho.form
    exact ⟨⟨_, _, _, _, _, _, _, _, rfl⟩, hb⟩
theorem owns_cap {w : World} {B n c g : Nat} {e : TypeId} {size : Nat} {xs : List Value} (h : w.ownsRow B e size (.slice (some ⟨g, 0, none⟩) n c) n xs) : n ≤ c := by
  rcases h.2 with ⟨h1, _⟩ | ⟨g', cap, cur, h1, _, _, h4, _⟩
  · cases h1
  · cases h1
    exact h4
theorem two_heap (w : World) (a b : Obj) : ((w.alloc a).alloc b).heap[w.heap.size]? = some a ∧ ((w.alloc a).alloc b).heap[w.heap.size + 1]? = some b ∧ ((w.alloc a).alloc b).heap.size = w.heap.size + 2 := by
  refine ⟨by rw [Below.heap_alloc _ _ _ (by simp)]; exact last _ _, ?_, by simp⟩
  have := last (w.alloc a) b
  simpa using this

set_option maxRecDepth 100000 in
set_option maxHeartbeats 16000000 in
theorem TreeNodes_in {w : World} {V : Value} {ns : List (Nd × Value)} (hV : Nodes w V ns) (hR : Reach ns) (i stop : Int) (i1 : -128 ≤ i) (i2 : i ≤ 127) (s1 : 0 ≤ stop) (s2 : stop ≤ 255) :
    Calls Try.prog 3 #[V, .int .i8 i, .int .u8 stop] w fun e w' => e = .returned (.bool true) ∧ Below w.heap.size w w' := by
  obtain ⟨A, c, rfl⟩ := hV.form
  have hb0 := ((Below.refl w.heap.size w).alloc (Nat.le_refl _) (.cells #[.int .u8 stop] 5)).alloc (by simp) (.cells #[.bool false] 4)
  obtain ⟨f0, f1, fs⟩ := two_heap w (.cells #[.int .u8 stop] 5) (.cells #[.bool false] 4)
  have HV := Lib.hid (hV.below hb0)
  have HR := Lib.hid hR
  clear hV hR
  refine (callsIn_wide (n := 3)).1 ?_
  refine callsIn_of_wp_marks Try.func3 rfl trivial ?_ rfl
  simp only [Try.ntmps3, List.size_toArray, List.length_cons, List.length_nil, Nat.reduceAdd, Nat.reduceSub, Array.replicate_succ, Array.replicate_zero, List.push_toArray, List.append_toArray, List.nil_append, List.cons_append]
  refine wpIn_wide.2 ?_
  go_wp2_with fail
  generalize (w.alloc (.cells #[.int .u8 stop] 5)).alloc (.cells #[.bool false] 4) = W1 at *
  refine (lives_in W1).mono ?_
  rintro e w2 ⟨rfl, hb2⟩
  have hs2 := hb2.size
  have hb02 := hb0.trans (hb2.mono (by omega))
  have HV2 := Lib.hid (HV.out.below hb2)
  cases hsm : small (ns.map (·.1)) with
  | false =>
    have hS := Small_in HV2.out HR.out
    rw [hsm] at hS
    have g1 := (hb2.block _ (by omega)).trans f1
    have HS := Lib.hid hS
    clear hS HV HV2 HR hsm
    go_wp2_with (first
      | (go_at_call 5; refine HS.out.mono ?_; rintro e w3 ⟨rfl, hb3⟩)
      | (go_at_call 4; refine (lives_in w3).mono ?_; rintro e w4 ⟨rfl, hb4⟩; have g4 := (hb4.block _ (by have := hb3.size; omega)).trans ((hb3.block _ (by omega)).trans g1); have c4 := cellOf1 g4; have z4 := frozenOf g4 0))
    have r4 : (w4.setCell ⟨w.heap.size + 1, 0, none⟩ (.bool true)).cell? ⟨w.heap.size + 1, 0, none⟩ = some (.bool true) := cellOf1 (heap_set0 g4 _)
    have hbF := (hb02.trans ((hb3.trans (hb4.mono hb3.size)).mono (by omega))).setCell (p := ⟨w.heap.size + 1, 0, none⟩) (by simp) (.bool true)
    exact ⟨.bool true, by simp [results, Try.results3, go_sem, r4], rfl, hbF⟩
  | true =>
    have hS := Small_in HV2.out HR.out
    rw [hsm] at hS
    have HS := Lib.hid hS
    have HSM := Lib.hid hsm
    clear hS HV hsm
    go_wp2_with (go_at_call 5; refine HS.out.mono ?_; rintro e w3 ⟨rfl, hb3⟩)
    refine (Of_in (HV2.out.below hb3) HSM.out).mono ?_
    rintro e w4 ⟨t, v, V', ms, ms2, rfl, hT, hM, hMI, hE1, hE2, hb4⟩
    have hF1 := fine_of HSM.out hE1
    have hF2 := fine_of HSM.out hE2
    have heq : ms.map (·.1) = ms2.map (·.1) := hE1.trans hE2.symm
    have hlen : ms.length = ms2.length := by simpa using congrArg List.length heq
    have hxx : ∀ k (h : k < ms.length) (h2 : k < ms2.length), ms[k].1 = ms2[k].1 := fun k h h2 => by
      have := congrArg (fun l => l[k]?) heq
      simpa [h, h2] using this
    obtain ⟨A2, c2, rfl⟩ := owns_form hM
    have hb24 : Below w2.heap.size w2 w4 := hb3.trans (hb4.mono hb3.size)
    have gm4 := last w4 (.cells #[.slice A2 ms2.length c2] 22)
    have hbm := (Below.refl w4.heap.size w4).alloc (Nat.le_refl _) (.cells #[.slice A2 ms2.length c2] 22)
    have hs5 : (w4.alloc (.cells #[.slice A2 ms2.length c2] 22)).heap.size = w4.heap.size + 1 := by simp
    have hs4 := hb24.size
    have gr5 := (hbm.block _ (by omega)).trans ((hb24.block _ (by omega)).trans ((hb2.block _ (by omega)).trans f1))
    have gs5 := (hbm.block _ (by omega)).trans ((hb24.block _ (by omega)).trans ((hb2.block _ (by omega)).trans f0))
    have hT5 := hT.below hbm
    have hN5 : Nodes (w4.alloc (.cells #[.slice A2 ms2.length c2] 22)) (.slice A2 ms2.length c2) ms2 := owns_nodes (owns_below hM hbm) (fun p hp => (hMI p hp).below (hb4.trans (hbm.mono hb4.size)))
    have hb05 : Below w.heap.size w (w4.alloc (.cells #[.slice A2 ms2.length c2] 22)) := hb02.trans ((hb24.trans (hbm.mono hb24.size)).mono (by omega))
    have HT5 := Lib.hid hT5
    have HN5 := Lib.hid hN5
    have HB5 := Lib.hid hb05
    have HG5 := Lib.hid (And.intro gm4 (And.intro gr5 gs5))
    have HF := Lib.hid (And.intro hF1 hF2)
    have HXX := Lib.hid hxx
    have HEQ := Lib.hid heq
    have hn1 := hF1.len
    clear hT hM hMI hE1 hE2 hb3 hb4 hb24 hbm hT5 hN5 hb05 hF1 hF2 hxx heq hb2 hb02 hb0 f0 f1 HS HV2
    go_wp2_with fail
    generalize w4.alloc (.cells #[.slice A2 ms2.length c2] 22) = W5 at *
    have cm5 := cellOf1 HG5.out.1
    go_wp2_with fail
    go_loopw [40] (fun iv wr => ∃ k : Nat, iv = .int .i64 k ∧ k ≤ ms2.length ∧ Below W5.heap.size W5 wr) (fun iv _ => ((ms2.length : Int) - intOf iv).toNat)
    case atStart => exact ⟨0, rfl, by omega, Below.refl _ _⟩
    case round =>
      obtain ⟨k, rfl, hk, hr⟩ := hrel
      have hsr := hr.size
      by_cases hkl : k < ms2.length
      · have hki : (k : Int) < ms2.length := by omega
        have hk1 : k < ms.length := by omega
        have hkid := HF.out.2.kid _ (mem_kid hkl)
        have hg := Get_hit (HT5.out.below hr) hk1 (by have := HF.out.1.kid _ (mem_kid hk1); omega) (by omega)
        rw [HXX.out k hk1 hkl] at hg
        have hg2 := fun W (hb : Below W5.heap.size W5 W) => Get_hit (HT5.out.below hb) hk1 (by have := HF.out.1.kid _ (mem_kid hk1); omega) (by omega)
        rw [HXX.out k hk1 hkl] at hg2
        have hat := fun W (hb : Below W5.heap.size W5 W) => (HN5.out.below hb).at hkl
        obtain ⟨b, off, c', hv, _⟩ := HN5.out.at hkl
        cases hv
        generalize ms2[k] = p at *
        obtain ⟨⟨op, line, col, name, num, kids⟩, s0⟩ := p
        obtain ⟨_, _, _, _, _, _, _, _, _, _, hI0⟩ := hat W5 (Below.refl _ _)
        simp only at hI0 hkid hat
        obtain ⟨A0, c0, rfl⟩ := hI0.form
        unfold ndV at hg hg2
        simp only at hg hg2
        have HGET := Lib.hid hg
        have HGET2 := Lib.hid hg2
        have HAT := Lib.hid hat
        clear hg hg2 hat hI0
        go_wp2_with fail
        refine HGET.out.mono ?_
        rintro e w6 ⟨s, rfl, hown, hb6⟩
        obtain ⟨A1, c1, rfl⟩ := hown.form
        have hs6 := hb6.size
        have g7 := last w6 (.cells #[.string op, .int .i64 line, .int .i64 col, .string name, .int .i64 num, .slice A1 kids.length c1] 33)
        have hb67 := (Below.refl w6.heap.size w6).alloc (Nat.le_refl _) (.cells #[.string op, .int .i64 line, .int .i64 col, .string name, .int .i64 num, .slice A1 kids.length c1] 33)
        have hs7 : (w6.alloc (.cells #[.string op, .int .i64 line, .int .i64 col, .string name, .int .i64 num, .slice A1 kids.length c1] 33)).heap.size = w6.heap.size + 1 := by simp
        have hb57 := hr.trans ((hb6.trans (hb67.mono hb6.size)).mono hsr)
        have gm := (hb57.block _ (by omega)).trans HG5.out.1
        have hown7 := hown.below hb67
        obtain ⟨b2, off2, c2', hv2, e0, e1, e2, e3, e4, e5, hI7⟩ := HAT.out _ hb57
        cases hv2
        have m0 := cellsOf6 g7
        go_wp2_with fail
        generalize w6.alloc (.cells #[.string op, .int .i64 line, .int .i64 col, .string name, .int .i64 num, .slice A1 kids.length c1] 33) = W7 at *
        clear m0
        have he : ∀ w', Below W7.heap.size W7 w' → (w'.cell? ⟨w6.heap.size, 0, none⟩ = some (Value.string op) ∧ w'.cell? ⟨w6.heap.size, 1, none⟩ = some (Value.int .i64 line) ∧ w'.cell? ⟨w6.heap.size, 2, none⟩ = some (Value.int .i64 col) ∧ w'.cell? ⟨w6.heap.size, 3, none⟩ = some (Value.string name) ∧ w'.cell? ⟨w6.heap.size, 4, none⟩ = some (Value.int .i64 num) ∧ w'.cell? ⟨w6.heap.size, 5, none⟩ = some (Value.slice A1 kids.length c1)) ∧ w'.cell? ⟨w4.heap.size, 0, none⟩ = some (Value.slice (some ⟨b, off, none⟩) ms2.length c2) ∧ (w'.cell? ⟨b, off + k * 6, none⟩ = some (Value.string op) ∧ w'.cell? ⟨b, off + k * 6 + 1, none⟩ = some (Value.int .i64 line) ∧ w'.cell? ⟨b, off + k * 6 + 2, none⟩ = some (Value.int .i64 col) ∧ w'.cell? ⟨b, off + k * 6 + 3, none⟩ = some (Value.string name) ∧ w'.cell? ⟨b, off + k * 6 + 4, none⟩ = some (Value.int .i64 num) ∧ w'.cell? ⟨b, off + k * 6 + 5, none⟩ = some (Value.slice A0 kids.length c0)) := fun w' hb => ⟨cellsOf6 ((hb.block _ (by omega)).trans g7), cellOf1 ((hb.block _ (by omega)).trans gm), (hb.cell (p := ⟨b, off + k * 6, none⟩) (cell_lt e0)).trans e0, (hb.cell (p := ⟨b, off + k * 6 + 1, none⟩) (cell_lt e1)).trans e1, (hb.cell (p := ⟨b, off + k * 6 + 2, none⟩) (cell_lt e2)).trans e2, (hb.cell (p := ⟨b, off + k * 6 + 3, none⟩) (cell_lt e3)).trans e3, (hb.cell (p := ⟨b, off + k * 6 + 4, none⟩) (cell_lt e4)).trans e4, (hb.cell (p := ⟨b, off + k * 6 + 5, none⟩) (cell_lt e5)).trans e5⟩
        have hnode : ∀ W, Below W7.heap.size W7 W → Calls Try.prog 8 #[.agg #[.string op, .int .i64 line, .int .i64 col, .string name, .int .i64 num, .slice A1 kids.length c1], .agg #[.string op, .int .i64 line, .int .i64 col, .string name, .int .i64 num, .slice A0 kids.length c0]] W fun e w' => e = .returned (.bool true) ∧ Below W7.heap.size W7 w' := fun W hb =>
          (Node_same (x := ⟨op, line, col, name, num, kids⟩) (hown7.ints.below hb) (hI7.below hb) (show kids.length ≤ 1000000 by omega)).mono fun e w' h => ⟨h.1, hb.trans (h.2.mono hb.size)⟩
        clear e0 e1 e2 e3 e4 e5
        obtain ⟨⟨n0, n1, n2, n3, n4, n5⟩, mc, e0, e1, e2, e3, e4, e5⟩ := he W7 (Below.refl _ _)
        have HE := Lib.hid he
        have HNODE := Lib.hid hnode
        clear he hnode
        have hbr7 := (Below.refl W7.heap.size W7).drew
        go_wp2_with fail
        go_region_held3 (fun w' => (w'.cell? ⟨w6.heap.size, 0, none⟩ = some (Value.string op) ∧ w'.cell? ⟨w6.heap.size, 1, none⟩ = some (Value.int .i64 line) ∧ w'.cell? ⟨w6.heap.size, 2, none⟩ = some (Value.int .i64 col) ∧ w'.cell? ⟨w6.heap.size, 3, none⟩ = some (Value.string name) ∧ w'.cell? ⟨w6.heap.size, 4, none⟩ = some (Value.int .i64 num) ∧ w'.cell? ⟨w6.heap.size, 5, none⟩ = some (Value.slice A1 kids.length c1)) ∧ w'.cell? ⟨w4.heap.size, 0, none⟩ = some (Value.slice (some ⟨b, off, none⟩) ms2.length c2) ∧ (w'.cell? ⟨b, off + k * 6, none⟩ = some (Value.string op) ∧ w'.cell? ⟨b, off + k * 6 + 1, none⟩ = some (Value.int .i64 line) ∧ w'.cell? ⟨b, off + k * 6 + 2, none⟩ = some (Value.int .i64 col) ∧ w'.cell? ⟨b, off + k * 6 + 3, none⟩ = some (Value.string name) ∧ w'.cell? ⟨b, off + k * 6 + 4, none⟩ = some (Value.int .i64 num) ∧ w'.cell? ⟨b, off + k * 6 + 5, none⟩ = some (Value.slice A0 kids.length c0))) (first | exact ⟨⟨by assumption, by assumption, by assumption, by assumption, by assumption, by assumption⟩, by assumption, by assumption, by assumption, by assumption, by assumption, by assumption, by assumption⟩)
          (first
            | (go_at_call 8; refine (HNODE.out _ (by assumption)).mono ?_; rintro e w' ⟨rfl, hbx⟩; obtain ⟨⟨n0, n1, n2, n3, n4, n5⟩, mc, e0, e1, e2, e3, e4, e5⟩ := HE.out w' hbx))
        by_cases hk0 : 0 < kids.length
        · obtain ⟨g, cap, hA, hgb, hgl⟩ := World.ownsRow.form hown7 hk0
          have hki0 : (0 : Int) < kids.length := by omega
          cases hA
          have hownx := hown7.below hbx
          have cg : w'.cell? ⟨g, 0, none⟩ = some (.int .i64 (kids.getD 0 0)) := by
            rw [World.ownsRow.cellAt hownx 0 (by omega)]
            simp [List.getD, hk0]
          have fg := World.ownsRow.frozenAt hownx 0
          have hb5x := hb57.trans (hbx.mono (by omega))
          have hb59 := hb5x.setCell (p := ⟨g, 0, none⟩) (by show W5.heap.size ≤ g; omega) (.int .i64 (-5))
          have HG9 := Lib.hid (HGET2.out _ hb59)
          have hs9 : (w'.setCell ⟨g, 0, none⟩ (.int .i64 (-5))).heap.size = w'.heap.size := by simp
          have hsx := hb5x.size
          clear hownx hown7 hI7 hbr7 HE HNODE e0 e1 e2 e3 e4 e5 hown hb67 hb57 g7 gm hb6
          go_wp2_with fail
          generalize w'.setCell ⟨g, 0, none⟩ (.int .i64 (-5)) = W9 at *
          clear n0 n1 n2 n3 n4 n5 mc cg fg hb5x hbx
          refine HG9.out.mono ?_
          rintro e w10 ⟨s', rfl, hown10, hb10⟩
          obtain ⟨A3, c3, rfl⟩ := hown10.form
          have hs10 := hb10.size
          have g7 := last w10 (.cells #[.string op, .int .i64 line, .int .i64 col, .string name, .int .i64 num, .slice A3 kids.length c3] 33)
          have hb67 := (Below.refl w10.heap.size w10).alloc (Nat.le_refl _) (.cells #[.string op, .int .i64 line, .int .i64 col, .string name, .int .i64 num, .slice A3 kids.length c3] 33)
          have hs11 : (w10.alloc (.cells #[.string op, .int .i64 line, .int .i64 col, .string name, .int .i64 num, .slice A3 kids.length c3] 33)).heap.size = w10.heap.size + 1 := by simp
          have hb57 := hb59.trans ((hb10.trans (hb67.mono hb10.size)).mono (by omega))
          have gm := (hb57.block _ (by omega)).trans HG5.out.1
          have hown7 := hown10.below hb67
          obtain ⟨b2, off2, c2', hv2, e0, e1, e2, e3, e4, e5, hI7⟩ := HAT.out _ hb57
          cases hv2
          have m0 := cellsOf6 g7
          go_wp2_with fail
          generalize w10.alloc (.cells #[.string op, .int .i64 line, .int .i64 col, .string name, .int .i64 num, .slice A3 kids.length c3] 33) = W11 at *
          clear m0
          have he : ∀ w', Below W11.heap.size W11 w' → (w'.cell? ⟨w10.heap.size, 0, none⟩ = some (Value.string op) ∧ w'.cell? ⟨w10.heap.size, 1, none⟩ = some (Value.int .i64 line) ∧ w'.cell? ⟨w10.heap.size, 2, none⟩ = some (Value.int .i64 col) ∧ w'.cell? ⟨w10.heap.size, 3, none⟩ = some (Value.string name) ∧ w'.cell? ⟨w10.heap.size, 4, none⟩ = some (Value.int .i64 num) ∧ w'.cell? ⟨w10.heap.size, 5, none⟩ = some (Value.slice A3 kids.length c3)) ∧ w'.cell? ⟨w4.heap.size, 0, none⟩ = some (Value.slice (some ⟨b, off, none⟩) ms2.length c2) ∧ (w'.cell? ⟨b, off + k * 6, none⟩ = some (Value.string op) ∧ w'.cell? ⟨b, off + k * 6 + 1, none⟩ = some (Value.int .i64 line) ∧ w'.cell? ⟨b, off + k * 6 + 2, none⟩ = some (Value.int .i64 col) ∧ w'.cell? ⟨b, off + k * 6 + 3, none⟩ = some (Value.string name) ∧ w'.cell? ⟨b, off + k * 6 + 4, none⟩ = some (Value.int .i64 num) ∧ w'.cell? ⟨b, off + k * 6 + 5, none⟩ = some (Value.slice A0 kids.length c0)) := fun w' hb => ⟨cellsOf6 ((hb.block _ (by omega)).trans g7), cellOf1 ((hb.block _ (by omega)).trans gm), (hb.cell (p := ⟨b, off + k * 6, none⟩) (cell_lt e0)).trans e0, (hb.cell (p := ⟨b, off + k * 6 + 1, none⟩) (cell_lt e1)).trans e1, (hb.cell (p := ⟨b, off + k * 6 + 2, none⟩) (cell_lt e2)).trans e2, (hb.cell (p := ⟨b, off + k * 6 + 3, none⟩) (cell_lt e3)).trans e3, (hb.cell (p := ⟨b, off + k * 6 + 4, none⟩) (cell_lt e4)).trans e4, (hb.cell (p := ⟨b, off + k * 6 + 5, none⟩) (cell_lt e5)).trans e5⟩
          have hnode : ∀ W, Below W11.heap.size W11 W → Calls Try.prog 8 #[.agg #[.string op, .int .i64 line, .int .i64 col, .string name, .int .i64 num, .slice A3 kids.length c3], .agg #[.string op, .int .i64 line, .int .i64 col, .string name, .int .i64 num, .slice A0 kids.length c0]] W fun e w' => e = .returned (.bool true) ∧ Below W11.heap.size W11 w' := fun W hb =>
            (Node_same (x := ⟨op, line, col, name, num, kids⟩) (hown7.ints.below hb) (hI7.below hb) (show kids.length ≤ 1000000 by omega)).mono fun e w' h => ⟨h.1, hb.trans (h.2.mono hb.size)⟩
          clear e0 e1 e2 e3 e4 e5
          obtain ⟨⟨n0, n1, n2, n3, n4, n5⟩, mc, e0, e1, e2, e3, e4, e5⟩ := he W11 (Below.refl _ _)
          have HE := Lib.hid he
          have HNODE := Lib.hid hnode
          clear he hnode
          have hbr7 := (Below.refl W11.heap.size W11).drew
          go_wp2_with fail
          go_region_held3 (fun w' => (w'.cell? ⟨w10.heap.size, 0, none⟩ = some (Value.string op) ∧ w'.cell? ⟨w10.heap.size, 1, none⟩ = some (Value.int .i64 line) ∧ w'.cell? ⟨w10.heap.size, 2, none⟩ = some (Value.int .i64 col) ∧ w'.cell? ⟨w10.heap.size, 3, none⟩ = some (Value.string name) ∧ w'.cell? ⟨w10.heap.size, 4, none⟩ = some (Value.int .i64 num) ∧ w'.cell? ⟨w10.heap.size, 5, none⟩ = some (Value.slice A3 kids.length c3)) ∧ w'.cell? ⟨w4.heap.size, 0, none⟩ = some (Value.slice (some ⟨b, off, none⟩) ms2.length c2) ∧ (w'.cell? ⟨b, off + k * 6, none⟩ = some (Value.string op) ∧ w'.cell? ⟨b, off + k * 6 + 1, none⟩ = some (Value.int .i64 line) ∧ w'.cell? ⟨b, off + k * 6 + 2, none⟩ = some (Value.int .i64 col) ∧ w'.cell? ⟨b, off + k * 6 + 3, none⟩ = some (Value.string name) ∧ w'.cell? ⟨b, off + k * 6 + 4, none⟩ = some (Value.int .i64 num) ∧ w'.cell? ⟨b, off + k * 6 + 5, none⟩ = some (Value.slice A0 kids.length c0))) (first | exact ⟨⟨by assumption, by assumption, by assumption, by assumption, by assumption, by assumption⟩, by assumption, by assumption, by assumption, by assumption, by assumption, by assumption, by assumption⟩)
            (first
              | (go_at_call 8; refine (HNODE.out _ (by assumption)).mono ?_; rintro e w' ⟨rfl, hbx⟩; obtain ⟨⟨n0, n1, n2, n3, n4, n5⟩, mc, e0, e1, e2, e3, e4, e5⟩ := HE.out w' hbx))
          go_wp2_with fail
          go_roundw
          case rel => exact ⟨k + 1, by simp, by omega, hb57.trans (hbx.mono (by omega))⟩
          case measure => simp [intOf]; omega
        · have hki0 : ¬ (0 : Int) < kids.length := by omega
          have hk00 : kids.length = 0 := by omega
          go_wp2_with fail
          go_roundw
          case rel => exact ⟨k + 1, by simp, by omega, hb57.trans (hbx.mono (by omega))⟩
          case measure => simp [intOf]; omega
      · have hki : ¬ (k : Int) < ms2.length := by omega
        go_wp2_with (go_at_call 9; refine (Each_in _ _).mono ?_; rintro e w' ⟨rfl, rfl⟩)
        have q0 : (((wr.alloc (.cells #[.slice none 0 0] 31)).alloc (.cells #[.pointer (some ⟨t, 0, none⟩)] 26)).alloc (.cells #[.int .i64 i] 3)).heap[wr.heap.size]? = some (.cells #[.slice none 0 0] 31) := by rw [Below.heap_alloc _ _ _ (by simp; omega), Below.heap_alloc _ _ _ (by simp)]; exact last _ _
        have q1 : (((wr.alloc (.cells #[.slice none 0 0] 31)).alloc (.cells #[.pointer (some ⟨t, 0, none⟩)] 26)).alloc (.cells #[.int .i64 i] 3)).heap[wr.heap.size + 1]? = some (.cells #[.pointer (some ⟨t, 0, none⟩)] 26) := by
          rw [Below.heap_alloc _ _ _ (by simp)]
          have := last (wr.alloc (.cells #[.slice none 0 0] 31)) (.cells #[.pointer (some ⟨t, 0, none⟩)] 26)
          simpa using this
        have q2 : (((wr.alloc (.cells #[.slice none 0 0] 31)).alloc (.cells #[.pointer (some ⟨t, 0, none⟩)] 26)).alloc (.cells #[.int .i64 i] 3)).heap[wr.heap.size + 1 + 1]? = some (.cells #[.int .i64 i] 3) := by
          have := last ((wr.alloc (.cells #[.slice none 0 0] 31)).alloc (.cells #[.pointer (some ⟨t, 0, none⟩)] 26)) (.cells #[.int .i64 i] 3)
          simpa using this
        have qs : (((wr.alloc (.cells #[.slice none 0 0] 31)).alloc (.cells #[.pointer (some ⟨t, 0, none⟩)] 26)).alloc (.cells #[.int .i64 i] 3)).heap.size = wr.heap.size + 3 := by simp
        have qb := ((((Below.refl wr.heap.size wr).alloc (Nat.le_refl _) (.cells #[.slice none 0 0] 31)).alloc (by simp) (.cells #[.pointer (some ⟨t, 0, none⟩)] 26)).alloc (by simp; omega) (.cells #[.int .i64 i] 3))
        have hbl := hr.trans (qb.mono hsr)
        generalize ((wr.alloc (.cells #[.slice none 0 0] 31)).alloc (.cells #[.pointer (some ⟨t, 0, none⟩)] 26)).alloc (.cells #[.int .i64 i] 3) = WL at *
        have hxs : (places ms.length (ms.map (·.1)) i).length ≤ 2000 := HF.out.1.few' ms.length i (fun h => (TreP.inT_iff.1 h).2)
        obtain ⟨i0, hi0, hz0, hz1, hz2⟩ := info_parts info_int
        generalize wr.heap.size = S at *
        clear qb hr hki hk
        show Code.wp Try.prog _ _ ?act0 _
        refine (wpIn_wide (n := 3)).1 ?_
        refine loop_in (own := ownS S) (W0 := W5) HF.out.1 HT5.out ms.length (by omega) i (fun h => (TreP.inT_iff.1 h).2) (S + 1) (S + 1 + 1) rfl rfl (cellOf1 q1) (cellOf1 q2)
          (fun pre W => Below W5.heap.size W5 W ∧ (stop = 0 ∨ (pre.length : Int) < stop) ∧ SeenAt S pre W)
          (fun c pre W => c = .exit 2 ∧ Below W5.heap.size W5 W ∧ (0 < stop ∧ (pre.length : Int) = stop) ∧ SeenAt S pre W)
          (fun s W => (Below W5.heap.size W5 W ∧ (stop = 0 ∨ (s.1.length : Int) < stop) ∧ SeenAt S s.1 W ∧ s.1.length < 2000) ∧ Kept (fun W k => ownS S W k ∨ k = WL.heap.size + 1) s.2.2.1 W ∧
            ∃ (x : Nd) (sl : Value) (p : Nat), inT ms.length s.2.1 = true ∧ x = nd (ms.map (·.1)) s.2.1 ∧ KidsOut (ownS S) W sl x.kids ∧ W.heap[p]? = some (.cells (ndCells x sl).toArray 33) ∧ S + 3 ≤ p ∧
              s.2.2.2 = { tmps := ((((?act0).tmps.setIfInBounds 86 (.int .i64 s.2.1)).setIfInBounds 87 (ndV x sl)).setIfInBounds 17 (.int .i64 s.2.1)).setIfInBounds 18 (.pointer (some ⟨p, 0, none⟩)), defers := [] })
          (fun pre W h => h.1) (fun pre W k h ho => h.2.2.lt ho) (fun pre W W' h hb => ⟨⟨h.1.trans (hb.mono h.1.size), h.2.1, h.2.2.grow hb⟩, fun k ho => h.2.2.own_grow hb ho⟩)
          (fun s W o o' ho hc h => ⟨below_put h.1 (by omega) _, h.2.1, h.2.2.put ho hc _⟩) (fun k s W o o' ho hc h hp => h (own_put (by omega) _ hp)) (fun c s W o o' ho hc h => ⟨h.1, below_put h.2.1 (by omega) _, h.2.2.1, h.2.2.2.put ho hc _⟩)
          ?mput ⟨hbl, by simp; omega, .slice none 0 0, q0, World.ownsRow_nil _ _ _ _, by omega⟩ ?assign ?body ?done ?stop
        case mput =>
          rintro s W o o' ho hc ⟨⟨h1, h2, h3, h3'⟩, h4, x, sl, p, h5, h6, h7, h8, h9, h10⟩
          refine ⟨⟨below_put h1 (by omega) _, h2, h3.put ho hc _, h3'⟩, ⟨by rw [World.putObj_size]; exact h4.size, fun k hk hno => ?_⟩, x, sl, p, h5, h6, h7.put (by omega) ho hc _, cells_put h8 ho hc _, h9, h10⟩
          obtain ⟨u1, u2⟩ := h4.same k hk hno
          refine ⟨(World.putObj_heap_other (fun e => hno (.inr e))).trans u1, fun hp => u2 (hp.imp (own_put (by omega) _) id)⟩
        case assign =>
          intro l pre i' x s W K hI hpn hin hx hints hK
          obtain ⟨A3, c3, rfl⟩ := hints.1.form
          have hbA := (Below.refl W.heap.size W).alloc (Nat.le_refl _) (.cells (ndCells x (.slice A3 x.kids.length c3)).toArray 33)
          have HK := Lib.hid (hK { tmps := ((((?act0).tmps.setIfInBounds 86 (.int .i64 i')).setIfInBounds 87 (ndV x (.slice A3 x.kids.length c3))).setIfInBounds 17 (.int .i64 i')).setIfInBounds 18 (.pointer (some ⟨W.heap.size, 0, none⟩)), defers := [] } _ (KeepsOthers.alloc W (.cells (ndCells x (.slice A3 x.kids.length c3)).toArray 33))
            ⟨⟨hI.1.trans (hbA.mono hI.1.size), hI.2.1, hI.2.2.grow hbA, Nat.lt_of_lt_of_le hpn hxs⟩, ⟨hbA.size, fun k hk hno => ⟨hbA.block k hk, fun ho => hno (ho.imp (fun h => hI.2.2.own_grow hbA h) id)⟩⟩, x, .slice A3 x.kids.length c3, W.heap.size, hin, hx, ⟨hints.1.below hbA, fun g hg ho => hints.2 g hg (hI.2.2.own_grow hbA ho)⟩, last _ _, hI.2.2.big, rfl⟩)
          clear hK hints
          obtain ⟨op, line, col, name, num, kids⟩ := x
          have hkk := HK.out
          unfold ndV ndCells at hkk
          simp only [List.setIfInBounds_toArray, List.set_cons_zero, List.set_cons_succ] at hkk
          have HKK := Lib.hid hkk
          clear hkk HK hx
          unfold ndV
          gi_wp2
          exact HKK.out
        case body =>
          rintro l pre i' Ws a' W ⟨⟨hB, hst, hS, hpn⟩, hkp, x, sl, p, hin, hx, hko, hp, hSp, hact⟩
          dsimp only at hact hin hx hB hst hS hpn hkp
          clear qs
          subst hact
          have hin' := TreP.inT_iff.1 hin
          obtain ⟨k, rfl⟩ := Int.eq_ofNat_of_zero_le hin'.1
          have hk1 : k < ms.length := by have := hin'.2; simpa using this
          have hkl : k < ms2.length := by omega
          have hki : (k : Int) < ms2.length := by omega
          have hkid := HF.out.2.kid _ (mem_kid hkl)
          have hat2 := fun W (hb : Below W5.heap.size W5 W) => (HN5.out.below hb).at hkl
          rw [show nd (ms.map (·.1)) (k : Int) = ms2[k].1 from (nd_map hk1).trans (HXX.out k hk1 hkl)] at hx
          rw [← hx] at hkid hat2
          clear hx
          obtain ⟨op, line, col, name, num, kids⟩ := x
          simp only at hko hkid hat2
          obtain ⟨b, off, c', hv, _, _, _, _, _, _, hI0⟩ := hat2 W5 (Below.refl _ _)
          cases hv
          obtain ⟨A0, c0, hA0⟩ := hI0.form
          rw [hA0] at hat2
          obtain ⟨A1, c1, rfl⟩ := hko.1.form
          have hS0 := hS
          obtain ⟨sv, hsb, hso, hsz⟩ := hS
          obtain ⟨A3, c3, rfl⟩ := hso.form
          have hbA := (Below.refl W.heap.size W).alloc (Nat.le_refl _) (.cells #[.int .i64 k] 3)
          have ccs := cellOf1 hsb
          have fsb := frozenOf hsb 0
          have ccs' := fun o => cell_alloc ccs o
          have HW := Lib.hid (And.intro hB (And.intro hst (And.intro hS0 (And.intro hkp (And.intro hko hp)))))
          have HQB := Lib.hid (And.intro hsb (And.intro hso hsz))
          have HAT2 := Lib.hid hat2
          have hsA : (W.alloc (.cells #[.int .i64 k] 3)).heap.size = W.heap.size + 1 := by simp
          have hBs := hB.size
          clear hB hst hS0 hkp hko hp hsb hso hat2 hI0 hA0 hin hin'
          unfold ndV
          simp only [List.setIfInBounds_toArray, List.set_cons_zero, List.set_cons_succ]
          gi_wp2_with (gi_at_builtin; go_loud (refine wpListIn_append_own_at _ rfl _ _ 31 rfl (S + 3) 3 i0 (.int .i64 0) 1 8 Try.underlying31 hi0 hz0 hz1 hz2 rfl (by decide) _ pre.length _ rfl (HQB.out.2.1.below hbA) ⟨W.heap.size, 0, none⟩ 1 1 [.int .i64 k] rfl ?ba1 ?ba2 ?ba3 ?ba4 ?ba5 ?ba6 ?_))
          case ba1 => rfl
          case ba2 => exact own_news1 W (.int .i64 k) _ rfl
          case ba3 => exact ints_one [(k : Int)]
          case ba4 => unfold maxLen; omega
          case ba5 => omega
          case ba6 => have := HQB.out.2.2; omega
          intro v' w1 hown hgrow hnil hat
          obtain ⟨g3, cap3, rfl, _, _⟩ := World.ownsRow.form hown (by omega)
          have hSW := HQB.out.2.2
          have hpush := SeenAt.push HQB.out.1 HQB.out.2.1 hSW hown hgrow (by rw [hsA]; exact hat)
          have hS1 : w1.heap[S]? = some (.cells #[.slice A3 pre.length c3] 31) := (hgrow.block S (by omega) (fun e => far_block HQB.out.2.1 HQB.out.1 (by decide) e.symm)).trans ((Below.heap_alloc W _ S (by omega)).trans HQB.out.1)
          have d1 := cellOf1 hS1
          have d2 := frozenOf hS1 0
          have hB3 := (((HW.out.1.alloc hBs (.cells #[.int .i64 k] 3)).grown hgrow (by omega) (fun q hq => by have := (HQB.out.2.1.lt q hq).1; omega)).setCell (p := ⟨S, 0, none⟩) (by show W5.heap.size ≤ S; omega) (.slice (some ⟨g3, 0, none⟩) (pre.length + 1) cap3))
          have gp := (hpush.2.2.2 p (heap_lt HW.out.2.2.2.2.2) (HW.out.2.2.1.not_node HW.out.2.2.2.2.2)).1.trans HW.out.2.2.2.2.2
          unfold ndCells at gp
          have gS := heap_set0 hS1 (.slice (some ⟨g3, 0, none⟩) (pre.length + 1) cap3)
          have gk : Own (w1.setCell ⟨S, 0, none⟩ (.slice (some ⟨g3, 0, none⟩) (pre.length + 1) cap3)) 0 (.slice A1 kids.length c1) kids := owns_block HW.out.2.2.2.2.1.1 (fun g hg => (hpush.2.2.2 g (HW.out.2.2.2.2.1.1.lt g hg).2 (HW.out.2.2.2.2.1.2 g hg)).1)
          have gt := (hB3.block _ (by omega)).trans HG5.out.2.2
          have gm := (hB3.block _ (by omega)).trans HG5.out.1
          have HP := Lib.hid hpush
          clear hpush hS1 hown hgrow hnil hat
          have hq3 : (w1.setCell ⟨S, 0, none⟩ (.slice (some ⟨g3, 0, none⟩) (pre.length + 1) cap3)).heap.size = w1.heap.size := by simp
          have hWL := HP.out.2.2.1
          gi_wp2_with fail
          generalize w1.setCell ⟨S, 0, none⟩ (.slice (some ⟨g3, 0, none⟩) (pre.length + 1) cap3) = W3 at *
          clear d1 d2 ccs ccs' fsb
          obtain ⟨b2, off2, c2', hv2, e0, e1, e2, e3, e4, e5, hI7⟩ := HAT2.out _ hB3
          cases hv2
          have hpl := heap_lt gp
          have hSl := heap_lt gS
          have hB3s := hB3.size
          have he : ∀ w', Below W3.heap.size W3 w' → (w'.cell? ⟨p, 0, none⟩ = some (Value.string op) ∧ w'.cell? ⟨p, 1, none⟩ = some (Value.int .i64 line) ∧ w'.cell? ⟨p, 2, none⟩ = some (Value.int .i64 col) ∧ w'.cell? ⟨p, 3, none⟩ = some (Value.string name) ∧ w'.cell? ⟨p, 4, none⟩ = some (Value.int .i64 num) ∧ w'.cell? ⟨p, 5, none⟩ = some (Value.slice A1 kids.length c1)) ∧ (w'.cell? ⟨w4.heap.size, 0, none⟩ = some (Value.slice (some ⟨b, off, none⟩) ms2.length c2) ∧ w'.cell? ⟨S, 0, none⟩ = some (Value.slice (some ⟨g3, 0, none⟩) (pre.length + 1) cap3) ∧ w'.cell? ⟨w.heap.size, 0, none⟩ = some (Value.int .u8 stop)) ∧ (w'.cell? ⟨b, off + k * 6, none⟩ = some (Value.string op) ∧ w'.cell? ⟨b, off + k * 6 + 1, none⟩ = some (Value.int .i64 line) ∧ w'.cell? ⟨b, off + k * 6 + 2, none⟩ = some (Value.int .i64 col) ∧ w'.cell? ⟨b, off + k * 6 + 3, none⟩ = some (Value.string name) ∧ w'.cell? ⟨b, off + k * 6 + 4, none⟩ = some (Value.int .i64 num) ∧ w'.cell? ⟨b, off + k * 6 + 5, none⟩ = some (Value.slice A0 kids.length c0)) := fun w' hb => ⟨cellsOf6 ((hb.block _ hpl).trans gp), ⟨cellOf1 ((hb.block _ (by omega)).trans gm), cellOf1 ((hb.block _ hSl).trans gS), cellOf1 ((hb.block _ (by omega)).trans gt)⟩, (hb.cell (p := ⟨b, off + k * 6, none⟩) (cell_lt e0)).trans e0, (hb.cell (p := ⟨b, off + k * 6 + 1, none⟩) (cell_lt e1)).trans e1, (hb.cell (p := ⟨b, off + k * 6 + 2, none⟩) (cell_lt e2)).trans e2, (hb.cell (p := ⟨b, off + k * 6 + 3, none⟩) (cell_lt e3)).trans e3, (hb.cell (p := ⟨b, off + k * 6 + 4, none⟩) (cell_lt e4)).trans e4, (hb.cell (p := ⟨b, off + k * 6 + 5, none⟩) (cell_lt e5)).trans e5⟩
          have hnode : ∀ W, Below W3.heap.size W3 W → Calls Try.prog 8 #[.agg #[.string op, .int .i64 line, .int .i64 col, .string name, .int .i64 num, .slice A1 kids.length c1], .agg #[.string op, .int .i64 line, .int .i64 col, .string name, .int .i64 num, .slice A0 kids.length c0]] W fun e w' => e = .returned (.bool true) ∧ Below W3.heap.size W3 w' := fun W hb =>
            (Node_same (x := ⟨op, line, col, name, num, kids⟩) (gk.ints.below hb) (hI7.below hb) (show kids.length ≤ 1000000 by omega)).mono fun e w' h => ⟨h.1, hb.trans (h.2.mono hb.size)⟩
          clear e0 e1 e2 e3 e4 e5
          obtain ⟨⟨n0, n1, n2, n3, n4, n5⟩, ⟨mc, sc, tc⟩, e0, e1, e2, e3, e4, e5⟩ := he W3 (Below.refl _ _)
          have HE := Lib.hid he
          have HNODE := Lib.hid hnode
          clear he hnode
          have HX3 := Lib.hid (And.intro hB3 (And.intro gp (And.intro gS (And.intro gk (And.intro gt (And.intro gm hI7))))))
          clear hB3 gp gS gk gt gm hI7
          have hfin : ∀ w', Below W3.heap.size W3 w' → KeepsOthers W w' ∧ Below W5.heap.size W5 w' ∧ SeenAt S (pre ++ [(k : Int)]) w' ∧ Kept (fun W k => ownS S W k ∨ k = WL.heap.size + 1) Ws w' := fun w' hb =>
            ⟨HP.out.2.1.trans (keeps_below hb), HX3.out.1.trans (hb.mono hB3s), HP.out.1.grow hb, HW.out.2.2.2.1.trans ⟨Nat.le_trans hWL hb.size, fun q hq hno => by
              obtain ⟨u1, u2⟩ := HP.out.2.2.2 q hq (fun h => hno (.inl h))
              exact ⟨(hb.block q (Nat.lt_of_lt_of_le hq hWL)).trans u1, fun h => h.elim (fun h => u2 (HP.out.1.own_grow hb h)) (fun h => hno (.inr h))⟩⟩⟩
          have HFIN := Lib.hid hfin
          have hst := HW.out.2.1
          have hmx : Try.prog.follows Departure.mixedOrders = true := by kernel_rfl
          clear hfin
          gi_region_with_o (refine ⟨trivial, ?_⟩; gi_at_call 8; refine (CallsIn.inRound l (callsIn_wide.2 (HNODE.out _ (by first | exact Below.refl _ _ | exact (Below.refl _ _).drew)))).mono ?_; rintro e w' ⟨rfl, hbx⟩; obtain ⟨⟨n0, n1, n2, n3, n4, n5⟩, ⟨mc, sc, tc⟩, e0, e1, e2, e3, e4, e5⟩ := HE.out w' hbx)
          all_goals
            have HZ := Lib.hid (HFIN.out _ hbx)
            clear n0 n1 n2 n3 n4 n5 mc e0 e1 e2 e3 e4 e5
            by_cases hq : (pre.length : Int) + 1 = stop
            · gi_wp2
              exact ⟨HZ.out.1, rfl, HZ.out.2.1, ⟨by omega, by simp; omega⟩, HZ.out.2.2.1⟩
            · gi_wp2
              exact ⟨HZ.out.1, ⟨HZ.out.2.1, by simp; omega, HZ.out.2.2.1⟩, HZ.out.2.2.2⟩
        case' done =>
          rintro D W hD ⟨hB, hst, hS⟩ hK
          obtain ⟨sq, hsq⟩ : ∃ sq, TreP.seenOf stop.toNat (places ms.length (ms.map (·.1)) i) = sq := ⟨_, rfl⟩
          have hS2 := hS
          rw [← seen_done hst, hsq] at hS2
          clear hst hS
        case' stop =>
          rintro D c q W hD hq ⟨rfl, hB, ⟨hs0, hql⟩, hS⟩ hK
          refine wpIn_wide.2 ?_
          obtain ⟨sq, hsq⟩ : ∃ sq, TreP.seenOf stop.toNat (places ms.length (ms.map (·.1)) i) = sq := ⟨_, rfl⟩
          have hS2 := hS
          rw [← seen_stop hq hs0 hql, hsq] at hS2
          clear hq hs0 hql hS
        all_goals
          have hBs := hB.size
          obtain ⟨sv, hsb, hso, hSW⟩ := hS2
          obtain ⟨A6, c6, rfl⟩ := hso.form
          have gm := (hB.block _ (by omega)).trans HG5.out.1
          have gt := (hB.block _ (by omega)).trans HG5.out.2.2
          have gr := (hB.block _ (by omega)).trans HG5.out.2.1
          have mc := cellOf1 gm
          have tc := cellOf1 gt
          have hPl := Places_in HF.out.2 ms.length (by omega) i W (HN5.out.below hB) (fun h => by have := (TreP.inT_iff.1 h).2; omega)
          rw [← HEQ.out] at hPl
          have HPL := Lib.hid hPl
          have HSO := Lib.hid (And.intro hsb hso)
          have HW := Lib.hid (And.intro hB (And.intro gm (And.intro gt gr)))
          have HK := Lib.hid hK
          have HSQ := Lib.hid hsq
          obtain ⟨xs, hxsE⟩ : ∃ xs, places ms.length (ms.map (·.1)) i = xs := ⟨_, rfl⟩
          rw [hxsE] at HPL HSQ hxs
          have HXS := Lib.hid hxsE
          clear hPl hsb hso hB gm gt gr hK hsq hxsE
          go_wp2_with fail
          refine HPL.out.mono ?_
          rintro e w7 ⟨s7, rfl, ho7, hb7⟩
          obtain ⟨A7, c7, rfl⟩ := ho7.form
          have tc7 := cellOf1 ((hb7.block _ (by omega)).trans HW.out.2.2.1)
          have HO7 := Lib.hid (And.intro ho7 hb7)
          have hs7 := hb7.size
          clear ho7 hb7 mc tc
          by_cases hc : 0 < stop ∧ stop < xs.length
          · obtain ⟨hc1, hc2⟩ := hc
            obtain ⟨n, rfl⟩ := Int.eq_ofNat_of_zero_le s1
            have hn1 : n < xs.length := by omega
            obtain ⟨g7, cap7, hA7, _, _⟩ := World.ownsRow.form HO7.out.1 (by omega)
            cases hA7
            have hcap := owns_cap HO7.out.1
            have hn2 : n ≤ c7 := by omega
            have hn3 : (n : Int) ≤ c7 := by omega
            have hsqE : sq = xs.take n := by
              rw [← HSQ.out]
              unfold TreP.seenOf
              rw [show ((n : Int)).toNat = n from rfl, if_pos ⟨by omega, hn1⟩]
            have HWANT : Hid (∀ c', Ints w7 (.slice (some ⟨g7, 0, none⟩) n c') sq) := Lib.hid (fun c' => by rw [hsqE]; exact HO7.out.1.ints.take (by omega) c')
            clear hsqE hcap
            go_wp2_with fail
            have h57 : Below W5.heap.size W5 w7 := HW.out.1.trans (HO7.out.2.mono hBs)
            obtain ⟨bI, hbI⟩ : ∃ bI, inT ms.length i = bI := ⟨_, rfl⟩
            have hGa := Get_any HF.out.1 (HT5.out.below h57) i
            rw [hbI] at hGa
            refine hGa.mono ?_
            clear hGa
            rintro e w8 ⟨⟨op, line, col, name, num, A8, n8, c8, rfl⟩, hb8⟩
            have hb78 := hb8.alloc hb8.size (.cells #[.string op, .int .i64 line, .int .i64 col, .string name, .int .i64 num, .slice A8 n8 c8] 33)
            have hW8 : Below W.heap.size W (w8.alloc (.cells #[.string op, .int .i64 line, .int .i64 col, .string name, .int .i64 num, .slice A8 n8 c8] 33)) := HO7.out.2.trans (hb78.mono hs7)
            have HWN : Hid (Ints (w8.alloc (.cells #[.string op, .int .i64 line, .int .i64 col, .string name, .int .i64 num, .slice A8 n8 c8] 33)) (.slice (some ⟨g7, 0, none⟩) n c7) sq) := Lib.hid ((HWANT.out c7).below hb78)
            have h58 := HW.out.1.trans (hW8.mono hBs)
            have gS := (hW8.block _ (by omega)).trans HSO.out.1
            have gO := (HSO.out.2.below hW8).ints
            have gm := (hW8.block _ (by omega)).trans HW.out.2.1
            have gr := (hW8.block _ (by omega)).trans HW.out.2.2.2
            have gD := (hW8.block _ (heap_lt HK.out)).trans HK.out
            have sc := cellOf1 gS
            have mc := cellOf1 gm
            have rc := cellOf1 gr
            have rf := frozenOf gr 0
            clear hb78 hb8 hW8 h57 tc7 hs7
            go_wp2_with fail
            generalize w8.alloc (.cells #[.string op, .int .i64 line, .int .i64 col, .string name, .int .i64 num, .slice A8 n8 c8] 33) = W8 at *
            have hl1 := heap_lt gS
            have hl2 := heap_lt gm
            have hl3 := heap_lt gr
            have hl4 := heap_lt gD
            have he : ∀ w', Below W8.heap.size W8 w' → (w'.cell? ⟨S, 0, none⟩ = some (Value.slice A6 sq.length c6) ∧ w'.cell? ⟨w4.heap.size, 0, none⟩ = some (Value.slice A2 ms2.length c2)) ∧ w'.cell? ⟨w.heap.size + 1, 0, none⟩ = some (Value.bool false) ∧ w'.frozen? ⟨w.heap.size + 1, 0, none⟩ = false := fun w' hb => ⟨⟨cellOf1 ((hb.block _ hl1).trans gS), cellOf1 ((hb.block _ hl2).trans gm)⟩, cellOf1 ((hb.block _ hl3).trans gr), frozenOf ((hb.block _ hl3).trans gr) 0⟩
            obtain ⟨Dv, hDv⟩ : ∃ Dv, deep ms.length (ms.map (·.1)) i = Dv := ⟨_, rfl⟩
            have hsql : sq.length ≤ 1000000 := by
              rw [← HSQ.out]
              unfold TreP.seenOf
              split
              · rw [List.length_take]; omega
              · omega
            have kEq : ∀ W, Below W8.heap.size W8 W → Calls Try.prog 11 #[.slice A6 sq.length c6, .slice (some ⟨g7, 0, none⟩) n c7] W fun e w' => e = .returned (.bool true) ∧ Below W8.heap.size W8 w' := fun W hb => (Equal_same (gO.below hb) (HWN.out.below hb) hsql).mono fun e w' h => ⟨h.1, hb.trans (h.2.mono hb.size)⟩
            have kSz : ∀ W, Below W8.heap.size W8 W → Calls Try.prog 12 #[.pointer (some ⟨t, 0, none⟩), .int .i64 i] W fun e w' => e = .returned (.int .i64 xs.length) ∧ Below W8.heap.size W8 w' := fun W hb => by
              have h1 := Size_in HF.out.1 (HT5.out.below (h58.trans (hb.mono h58.size))) ms.length (by omega) i (fun h => (TreP.inT_iff.1 h).2)
              rw [HXS.out, countW_eq (by omega)] at h1
              exact h1.mono fun e w' h => ⟨h.1, hb.trans (h.2.mono hb.size)⟩
            have kPl : ∀ W, Below W8.heap.size W8 W → Calls Try.prog 10 #[.slice A2 ms2.length c2, .int .i64 i] W fun e w' => (∃ A c, e = .returned (.slice A xs.length c)) ∧ Below W8.heap.size W8 w' := fun W hb => by
              have h1 := Places_in HF.out.2 ms.length (by omega) i W (HN5.out.below (h58.trans (hb.mono h58.size))) (fun h => by have := (TreP.inT_iff.1 h).2; omega)
              rw [← HEQ.out, HXS.out] at h1
              refine h1.mono ?_
              rintro e w' ⟨s, rfl, ho, hb'⟩
              obtain ⟨A, c, rfl⟩ := ho.form
              exact ⟨⟨A, c, rfl⟩, hb.trans (hb'.mono hb.size)⟩
            have kDt : ∀ W, Below W8.heap.size W8 W → Calls Try.prog 13 #[.pointer (some ⟨t, 0, none⟩), .int .i64 i] W fun e w' => e = .returned (.int .i64 Dv) ∧ Below W8.heap.size W8 w' := fun W hb => by
              have h1 := Deep_in HF.out.1 ms.length (by omega) i W (HT5.out.below (h58.trans (hb.mono h58.size))) (fun h => (TreP.inT_iff.1 h).2)
              rw [hDv] at h1
              exact h1.mono fun e w' h => ⟨h.1, hb.trans (h.2.mono hb.size)⟩
            have kDr : ∀ W, Below W8.heap.size W8 W → Calls Try.prog 14 #[.slice A2 ms2.length c2, .int .i64 i] W fun e w' => e = .returned (.int .i64 Dv) ∧ Below W8.heap.size W8 w' := fun W hb => by
              have h1 := refDeep_in HF.out.2 ms.length (by omega) i W (HN5.out.below (h58.trans (hb.mono h58.size))) (fun h => by have := (TreP.inT_iff.1 h).2; omega)
              rw [← HEQ.out, hDv] at h1
              exact h1.mono fun e w' h => ⟨h.1, hb.trans (h.2.mono hb.size)⟩
            have kIn : ∀ W, Below W8.heap.size W8 W → Calls Try.prog 15 #[.slice A2 ms2.length c2, .int .i64 i] W fun e w' => e = .returned (.bool bI) ∧ Below W8.heap.size W8 w' := fun W hb => by
              have h1 := In_in (w := W) A2 ms2.length c2 i
              rw [← hlen, hbI, hlen] at h1
              refine h1.mono ?_
              rintro e w' ⟨rfl, rfl⟩
              exact ⟨rfl, hb⟩
            obtain ⟨⟨sc, mc⟩, rc, rf⟩ := he W8 (Below.refl _ _)
            have HE := Lib.hid he
            have KK := Lib.hid (And.intro kEq (And.intro kSz (And.intro kPl (And.intro kDt (And.intro kDr kIn)))))
            have HG8 := Lib.hid (And.intro gr (And.intro gD h58))
            have hD8 : Below W8.heap.size W8 W8.drew := (Below.refl _ _).drew
            have hne1 : w.heap.size + 1 ≠ S := by omega
            have hne2 : w.heap.size + 1 ≠ w4.heap.size := by omega
            clear he kEq kSz kPl kDt kDr kIn gS gO gm gr gD h58 hDv hbI
            go_wp2_with fail
            go_region_held3 (fun w' => (w'.cell? ⟨S, 0, none⟩ = some (Value.slice A6 sq.length c6) ∧ w'.cell? ⟨w4.heap.size, 0, none⟩ = some (Value.slice A2 ms2.length c2))) (first | exact ⟨by assumption, by assumption⟩ | exact ⟨by (rw [cell_set_ne hne1]; assumption), by (rw [cell_set_ne hne2]; assumption)⟩)
              (first
                | (go_at_call 11; refine (KK.out.1 _ (by assumption)).mono ?_; rintro e w' ⟨rfl, hbx⟩; obtain ⟨⟨sc, mc⟩, rc, rf⟩ := HE.out w' hbx)
                | (go_at_call 12; refine (KK.out.2.1 _ (by assumption)).mono ?_; rintro e w' ⟨rfl, hbx⟩; obtain ⟨⟨sc, mc⟩, rc, rf⟩ := HE.out w' hbx)
                | (go_at_call 10; refine (KK.out.2.2.1 _ (by assumption)).mono ?_; rintro e w' ⟨⟨A9, c9, rfl⟩, hbx⟩; obtain ⟨⟨sc, mc⟩, rc, rf⟩ := HE.out w' hbx)
                | (go_at_call 13; refine (KK.out.2.2.2.1 _ (by assumption)).mono ?_; rintro e w' ⟨rfl, hbx⟩; obtain ⟨⟨sc, mc⟩, rc, rf⟩ := HE.out w' hbx)
                | (go_at_call 14; refine (KK.out.2.2.2.2.1 _ (by assumption)).mono ?_; rintro e w' ⟨rfl, hbx⟩; obtain ⟨⟨sc, mc⟩, rc, rf⟩ := HE.out w' hbx)
                | (go_at_call 15; refine (KK.out.2.2.2.2.2 _ (by assumption)).mono ?_; rintro e w' ⟨rfl, hbx⟩; obtain ⟨⟨sc, mc⟩, rc, rf⟩ := HE.out w' hbx))
            all_goals
              have gr9 := (hbx.block _ hl3).trans HG8.out.1
              have r9 := heap_set0 gr9 (.bool true)
              have gD9 : (w'.setCell ⟨w.heap.size + 1, 0, none⟩ (.bool true)).heap[D]? = some (.deferred (some [])) := (Below.heap_setCell _ _ _ _ (by simp; omega)).trans ((hbx.block D hl4).trans HG8.out.2.1)
              have h59 := HG8.out.2.2.trans (hbx.mono HG8.out.2.2.size)
              have hbF := (HB5.out.trans (h59.mono (by omega))).setCell (p := ⟨w.heap.size + 1, 0, none⟩) (by simp) (.bool true)
              clear sc mc rc rf
              generalize w'.setCell ⟨w.heap.size + 1, 0, none⟩ (.bool true) = W9 at *
              have c10 := cellOf1 (cells_put r9 gD9 rfl (.deferred none))
              go_wp2_with fail
              refine ⟨by simp, .inl ⟨_, _, rfl, run_takeDeferred gD9, ?_⟩⟩
              exact ⟨.bool true, by simp [results, Try.results3, go_sem, c10], rfl, below_put hbF (by omega) _⟩
          · have hsqE : sq = xs := by
              rw [← HSQ.out]
              unfold TreP.seenOf
              rw [if_neg (by omega)]
            have HWANT : Hid (Ints w7 (.slice A7 xs.length c7) sq) := Lib.hid (by rw [hsqE]; exact HO7.out.1.ints)
            clear hsqE
            by_cases hc1 : 0 < stop
            · have hc2 : (xs.length : Int) ≤ stop := by omega
              clear hc
              go_wp2_with fail
              have h57 : Below W5.heap.size W5 w7 := HW.out.1.trans (HO7.out.2.mono hBs)
              obtain ⟨bI, hbI⟩ : ∃ bI, inT ms.length i = bI := ⟨_, rfl⟩
              have hGa := Get_any HF.out.1 (HT5.out.below h57) i
              rw [hbI] at hGa
              refine hGa.mono ?_
              clear hGa
              rintro e w8 ⟨⟨op, line, col, name, num, A8, n8, c8, rfl⟩, hb8⟩
              have hb78 := hb8.alloc hb8.size (.cells #[.string op, .int .i64 line, .int .i64 col, .string name, .int .i64 num, .slice A8 n8 c8] 33)
              have hW8 : Below W.heap.size W (w8.alloc (.cells #[.string op, .int .i64 line, .int .i64 col, .string name, .int .i64 num, .slice A8 n8 c8] 33)) := HO7.out.2.trans (hb78.mono hs7)
              have HWN : Hid (Ints (w8.alloc (.cells #[.string op, .int .i64 line, .int .i64 col, .string name, .int .i64 num, .slice A8 n8 c8] 33)) (.slice A7 xs.length c7) sq) := Lib.hid (HWANT.out.below hb78)
              have h58 := HW.out.1.trans (hW8.mono hBs)
              have gS := (hW8.block _ (by omega)).trans HSO.out.1
              have gO := (HSO.out.2.below hW8).ints
              have gm := (hW8.block _ (by omega)).trans HW.out.2.1
              have gr := (hW8.block _ (by omega)).trans HW.out.2.2.2
              have gD := (hW8.block _ (heap_lt HK.out)).trans HK.out
              have sc := cellOf1 gS
              have mc := cellOf1 gm
              have rc := cellOf1 gr
              have rf := frozenOf gr 0
              clear hb78 hb8 hW8 h57 tc7 hs7
              go_wp2_with fail
              generalize w8.alloc (.cells #[.string op, .int .i64 line, .int .i64 col, .string name, .int .i64 num, .slice A8 n8 c8] 33) = W8 at *
              have hl1 := heap_lt gS
              have hl2 := heap_lt gm
              have hl3 := heap_lt gr
              have hl4 := heap_lt gD
              have he : ∀ w', Below W8.heap.size W8 w' → (w'.cell? ⟨S, 0, none⟩ = some (Value.slice A6 sq.length c6) ∧ w'.cell? ⟨w4.heap.size, 0, none⟩ = some (Value.slice A2 ms2.length c2)) ∧ w'.cell? ⟨w.heap.size + 1, 0, none⟩ = some (Value.bool false) ∧ w'.frozen? ⟨w.heap.size + 1, 0, none⟩ = false := fun w' hb => ⟨⟨cellOf1 ((hb.block _ hl1).trans gS), cellOf1 ((hb.block _ hl2).trans gm)⟩, cellOf1 ((hb.block _ hl3).trans gr), frozenOf ((hb.block _ hl3).trans gr) 0⟩
              obtain ⟨Dv, hDv⟩ : ∃ Dv, deep ms.length (ms.map (·.1)) i = Dv := ⟨_, rfl⟩
              have hsql : sq.length ≤ 1000000 := by
                rw [← HSQ.out]
                unfold TreP.seenOf
                split
                · rw [List.length_take]; omega
                · omega
              have kEq : ∀ W, Below W8.heap.size W8 W → Calls Try.prog 11 #[.slice A6 sq.length c6, .slice A7 xs.length c7] W fun e w' => e = .returned (.bool true) ∧ Below W8.heap.size W8 w' := fun W hb => (Equal_same (gO.below hb) (HWN.out.below hb) hsql).mono fun e w' h => ⟨h.1, hb.trans (h.2.mono hb.size)⟩
              have kSz : ∀ W, Below W8.heap.size W8 W → Calls Try.prog 12 #[.pointer (some ⟨t, 0, none⟩), .int .i64 i] W fun e w' => e = .returned (.int .i64 xs.length) ∧ Below W8.heap.size W8 w' := fun W hb => by
                have h1 := Size_in HF.out.1 (HT5.out.below (h58.trans (hb.mono h58.size))) ms.length (by omega) i (fun h => (TreP.inT_iff.1 h).2)
                rw [HXS.out, countW_eq (by omega)] at h1
                exact h1.mono fun e w' h => ⟨h.1, hb.trans (h.2.mono hb.size)⟩
              have kPl : ∀ W, Below W8.heap.size W8 W → Calls Try.prog 10 #[.slice A2 ms2.length c2, .int .i64 i] W fun e w' => (∃ A c, e = .returned (.slice A xs.length c)) ∧ Below W8.heap.size W8 w' := fun W hb => by
                have h1 := Places_in HF.out.2 ms.length (by omega) i W (HN5.out.below (h58.trans (hb.mono h58.size))) (fun h => by have := (TreP.inT_iff.1 h).2; omega)
                rw [← HEQ.out, HXS.out] at h1
                refine h1.mono ?_
                rintro e w' ⟨s, rfl, ho, hb'⟩
                obtain ⟨A, c, rfl⟩ := ho.form
                exact ⟨⟨A, c, rfl⟩, hb.trans (hb'.mono hb.size)⟩
              have kDt : ∀ W, Below W8.heap.size W8 W → Calls Try.prog 13 #[.pointer (some ⟨t, 0, none⟩), .int .i64 i] W fun e w' => e = .returned (.int .i64 Dv) ∧ Below W8.heap.size W8 w' := fun W hb => by
                have h1 := Deep_in HF.out.1 ms.length (by omega) i W (HT5.out.below (h58.trans (hb.mono h58.size))) (fun h => (TreP.inT_iff.1 h).2)
                rw [hDv] at h1
                exact h1.mono fun e w' h => ⟨h.1, hb.trans (h.2.mono hb.size)⟩
              have kDr : ∀ W, Below W8.heap.size W8 W → Calls Try.prog 14 #[.slice A2 ms2.length c2, .int .i64 i] W fun e w' => e = .returned (.int .i64 Dv) ∧ Below W8.heap.size W8 w' := fun W hb => by
                have h1 := refDeep_in HF.out.2 ms.length (by omega) i W (HN5.out.below (h58.trans (hb.mono h58.size))) (fun h => by have := (TreP.inT_iff.1 h).2; omega)
                rw [← HEQ.out, hDv] at h1
                exact h1.mono fun e w' h => ⟨h.1, hb.trans (h.2.mono hb.size)⟩
              have kIn : ∀ W, Below W8.heap.size W8 W → Calls Try.prog 15 #[.slice A2 ms2.length c2, .int .i64 i] W fun e w' => e = .returned (.bool bI) ∧ Below W8.heap.size W8 w' := fun W hb => by
                have h1 := In_in (w := W) A2 ms2.length c2 i
                rw [← hlen, hbI, hlen] at h1
                refine h1.mono ?_
                rintro e w' ⟨rfl, rfl⟩
                exact ⟨rfl, hb⟩
              obtain ⟨⟨sc, mc⟩, rc, rf⟩ := he W8 (Below.refl _ _)
              have HE := Lib.hid he
              have KK := Lib.hid (And.intro kEq (And.intro kSz (And.intro kPl (And.intro kDt (And.intro kDr kIn)))))
              have HG8 := Lib.hid (And.intro gr (And.intro gD h58))
              have hD8 : Below W8.heap.size W8 W8.drew := (Below.refl _ _).drew
              have hne1 : w.heap.size + 1 ≠ S := by omega
              have hne2 : w.heap.size + 1 ≠ w4.heap.size := by omega
              clear he kEq kSz kPl kDt kDr kIn gS gO gm gr gD h58 hDv hbI
              go_wp2_with fail
              go_region_held3 (fun w' => (w'.cell? ⟨S, 0, none⟩ = some (Value.slice A6 sq.length c6) ∧ w'.cell? ⟨w4.heap.size, 0, none⟩ = some (Value.slice A2 ms2.length c2))) (first | exact ⟨by assumption, by assumption⟩ | exact ⟨by (rw [cell_set_ne hne1]; assumption), by (rw [cell_set_ne hne2]; assumption)⟩)
                (first
                  | (go_at_call 11; refine (KK.out.1 _ (by assumption)).mono ?_; rintro e w' ⟨rfl, hbx⟩; obtain ⟨⟨sc, mc⟩, rc, rf⟩ := HE.out w' hbx)
                  | (go_at_call 12; refine (KK.out.2.1 _ (by assumption)).mono ?_; rintro e w' ⟨rfl, hbx⟩; obtain ⟨⟨sc, mc⟩, rc, rf⟩ := HE.out w' hbx)
                  | (go_at_call 10; refine (KK.out.2.2.1 _ (by assumption)).mono ?_; rintro e w' ⟨⟨A9, c9, rfl⟩, hbx⟩; obtain ⟨⟨sc, mc⟩, rc, rf⟩ := HE.out w' hbx)
                  | (go_at_call 13; refine (KK.out.2.2.2.1 _ (by assumption)).mono ?_; rintro e w' ⟨rfl, hbx⟩; obtain ⟨⟨sc, mc⟩, rc, rf⟩ := HE.out w' hbx)
                  | (go_at_call 14; refine (KK.out.2.2.2.2.1 _ (by assumption)).mono ?_; rintro e w' ⟨rfl, hbx⟩; obtain ⟨⟨sc, mc⟩, rc, rf⟩ := HE.out w' hbx)
                  | (go_at_call 15; refine (KK.out.2.2.2.2.2 _ (by assumption)).mono ?_; rintro e w' ⟨rfl, hbx⟩; obtain ⟨⟨sc, mc⟩, rc, rf⟩ := HE.out w' hbx))
              all_goals
                have gr9 := (hbx.block _ hl3).trans HG8.out.1
                have r9 := heap_set0 gr9 (.bool true)
                have gD9 : (w'.setCell ⟨w.heap.size + 1, 0, none⟩ (.bool true)).heap[D]? = some (.deferred (some [])) := (Below.heap_setCell _ _ _ _ (by simp; omega)).trans ((hbx.block D hl4).trans HG8.out.2.1)
                have h59 := HG8.out.2.2.trans (hbx.mono HG8.out.2.2.size)
                have hbF := (HB5.out.trans (h59.mono (by omega))).setCell (p := ⟨w.heap.size + 1, 0, none⟩) (by simp) (.bool true)
                clear sc mc rc rf
                generalize w'.setCell ⟨w.heap.size + 1, 0, none⟩ (.bool true) = W9 at *
                have c10 := cellOf1 (cells_put r9 gD9 rfl (.deferred none))
                go_wp2_with fail
                refine ⟨by simp, .inl ⟨_, _, rfl, run_takeDeferred gD9, ?_⟩⟩
                exact ⟨.bool true, by simp [results, Try.results3, go_sem, c10], rfl, below_put hbF (by omega) _⟩
            · have hc2 : stop ≤ 0 := by omega
              clear hc
              go_wp2_with fail
              have h57 : Below W5.heap.size W5 w7 := HW.out.1.trans (HO7.out.2.mono hBs)
              obtain ⟨bI, hbI⟩ : ∃ bI, inT ms.length i = bI := ⟨_, rfl⟩
              have hGa := Get_any HF.out.1 (HT5.out.below h57) i
              rw [hbI] at hGa
              refine hGa.mono ?_
              clear hGa
              rintro e w8 ⟨⟨op, line, col, name, num, A8, n8, c8, rfl⟩, hb8⟩
              have hb78 := hb8.alloc hb8.size (.cells #[.string op, .int .i64 line, .int .i64 col, .string name, .int .i64 num, .slice A8 n8 c8] 33)
              have hW8 : Below W.heap.size W (w8.alloc (.cells #[.string op, .int .i64 line, .int .i64 col, .string name, .int .i64 num, .slice A8 n8 c8] 33)) := HO7.out.2.trans (hb78.mono hs7)
              have HWN : Hid (Ints (w8.alloc (.cells #[.string op, .int .i64 line, .int .i64 col, .string name, .int .i64 num, .slice A8 n8 c8] 33)) (.slice A7 xs.length c7) sq) := Lib.hid (HWANT.out.below hb78)
              have h58 := HW.out.1.trans (hW8.mono hBs)
              have gS := (hW8.block _ (by omega)).trans HSO.out.1
              have gO := (HSO.out.2.below hW8).ints
              have gm := (hW8.block _ (by omega)).trans HW.out.2.1
              have gr := (hW8.block _ (by omega)).trans HW.out.2.2.2
              have gD := (hW8.block _ (heap_lt HK.out)).trans HK.out
              have sc := cellOf1 gS
              have mc := cellOf1 gm
              have rc := cellOf1 gr
              have rf := frozenOf gr 0
              clear hb78 hb8 hW8 h57 tc7 hs7
              go_wp2_with fail
              generalize w8.alloc (.cells #[.string op, .int .i64 line, .int .i64 col, .string name, .int .i64 num, .slice A8 n8 c8] 33) = W8 at *
              have hl1 := heap_lt gS
              have hl2 := heap_lt gm
              have hl3 := heap_lt gr
              have hl4 := heap_lt gD
              have he : ∀ w', Below W8.heap.size W8 w' → (w'.cell? ⟨S, 0, none⟩ = some (Value.slice A6 sq.length c6) ∧ w'.cell? ⟨w4.heap.size, 0, none⟩ = some (Value.slice A2 ms2.length c2)) ∧ w'.cell? ⟨w.heap.size + 1, 0, none⟩ = some (Value.bool false) ∧ w'.frozen? ⟨w.heap.size + 1, 0, none⟩ = false := fun w' hb => ⟨⟨cellOf1 ((hb.block _ hl1).trans gS), cellOf1 ((hb.block _ hl2).trans gm)⟩, cellOf1 ((hb.block _ hl3).trans gr), frozenOf ((hb.block _ hl3).trans gr) 0⟩
              obtain ⟨Dv, hDv⟩ : ∃ Dv, deep ms.length (ms.map (·.1)) i = Dv := ⟨_, rfl⟩
              have hsql : sq.length ≤ 1000000 := by
                rw [← HSQ.out]
                unfold TreP.seenOf
                split
                · rw [List.length_take]; omega
                · omega
              have kEq : ∀ W, Below W8.heap.size W8 W → Calls Try.prog 11 #[.slice A6 sq.length c6, .slice A7 xs.length c7] W fun e w' => e = .returned (.bool true) ∧ Below W8.heap.size W8 w' := fun W hb => (Equal_same (gO.below hb) (HWN.out.below hb) hsql).mono fun e w' h => ⟨h.1, hb.trans (h.2.mono hb.size)⟩
              have kSz : ∀ W, Below W8.heap.size W8 W → Calls Try.prog 12 #[.pointer (some ⟨t, 0, none⟩), .int .i64 i] W fun e w' => e = .returned (.int .i64 xs.length) ∧ Below W8.heap.size W8 w' := fun W hb => by
                have h1 := Size_in HF.out.1 (HT5.out.below (h58.trans (hb.mono h58.size))) ms.length (by omega) i (fun h => (TreP.inT_iff.1 h).2)
                rw [HXS.out, countW_eq (by omega)] at h1
                exact h1.mono fun e w' h => ⟨h.1, hb.trans (h.2.mono hb.size)⟩
              have kPl : ∀ W, Below W8.heap.size W8 W → Calls Try.prog 10 #[.slice A2 ms2.length c2, .int .i64 i] W fun e w' => (∃ A c, e = .returned (.slice A xs.length c)) ∧ Below W8.heap.size W8 w' := fun W hb => by
                have h1 := Places_in HF.out.2 ms.length (by omega) i W (HN5.out.below (h58.trans (hb.mono h58.size))) (fun h => by have := (TreP.inT_iff.1 h).2; omega)
                rw [← HEQ.out, HXS.out] at h1
                refine h1.mono ?_
                rintro e w' ⟨s, rfl, ho, hb'⟩
                obtain ⟨A, c, rfl⟩ := ho.form
                exact ⟨⟨A, c, rfl⟩, hb.trans (hb'.mono hb.size)⟩
              have kDt : ∀ W, Below W8.heap.size W8 W → Calls Try.prog 13 #[.pointer (some ⟨t, 0, none⟩), .int .i64 i] W fun e w' => e = .returned (.int .i64 Dv) ∧ Below W8.heap.size W8 w' := fun W hb => by
                have h1 := Deep_in HF.out.1 ms.length (by omega) i W (HT5.out.below (h58.trans (hb.mono h58.size))) (fun h => (TreP.inT_iff.1 h).2)
                rw [hDv] at h1
                exact h1.mono fun e w' h => ⟨h.1, hb.trans (h.2.mono hb.size)⟩
              have kDr : ∀ W, Below W8.heap.size W8 W → Calls Try.prog 14 #[.slice A2 ms2.length c2, .int .i64 i] W fun e w' => e = .returned (.int .i64 Dv) ∧ Below W8.heap.size W8 w' := fun W hb => by
                have h1 := refDeep_in HF.out.2 ms.length (by omega) i W (HN5.out.below (h58.trans (hb.mono h58.size))) (fun h => by have := (TreP.inT_iff.1 h).2; omega)
                rw [← HEQ.out, hDv] at h1
                exact h1.mono fun e w' h => ⟨h.1, hb.trans (h.2.mono hb.size)⟩
              have kIn : ∀ W, Below W8.heap.size W8 W → Calls Try.prog 15 #[.slice A2 ms2.length c2, .int .i64 i] W fun e w' => e = .returned (.bool bI) ∧ Below W8.heap.size W8 w' := fun W hb => by
                have h1 := In_in (w := W) A2 ms2.length c2 i
                rw [← hlen, hbI, hlen] at h1
                refine h1.mono ?_
                rintro e w' ⟨rfl, rfl⟩
                exact ⟨rfl, hb⟩
              obtain ⟨⟨sc, mc⟩, rc, rf⟩ := he W8 (Below.refl _ _)
              have HE := Lib.hid he
              have KK := Lib.hid (And.intro kEq (And.intro kSz (And.intro kPl (And.intro kDt (And.intro kDr kIn)))))
              have HG8 := Lib.hid (And.intro gr (And.intro gD h58))
              have hD8 : Below W8.heap.size W8 W8.drew := (Below.refl _ _).drew
              have hne1 : w.heap.size + 1 ≠ S := by omega
              have hne2 : w.heap.size + 1 ≠ w4.heap.size := by omega
              clear he kEq kSz kPl kDt kDr kIn gS gO gm gr gD h58 hDv hbI
              go_wp2_with fail
              go_region_held3 (fun w' => (w'.cell? ⟨S, 0, none⟩ = some (Value.slice A6 sq.length c6) ∧ w'.cell? ⟨w4.heap.size, 0, none⟩ = some (Value.slice A2 ms2.length c2))) (first | exact ⟨by assumption, by assumption⟩ | exact ⟨by (rw [cell_set_ne hne1]; assumption), by (rw [cell_set_ne hne2]; assumption)⟩)
                (first
                  | (go_at_call 11; refine (KK.out.1 _ (by assumption)).mono ?_; rintro e w' ⟨rfl, hbx⟩; obtain ⟨⟨sc, mc⟩, rc, rf⟩ := HE.out w' hbx)
                  | (go_at_call 12; refine (KK.out.2.1 _ (by assumption)).mono ?_; rintro e w' ⟨rfl, hbx⟩; obtain ⟨⟨sc, mc⟩, rc, rf⟩ := HE.out w' hbx)
                  | (go_at_call 10; refine (KK.out.2.2.1 _ (by assumption)).mono ?_; rintro e w' ⟨⟨A9, c9, rfl⟩, hbx⟩; obtain ⟨⟨sc, mc⟩, rc, rf⟩ := HE.out w' hbx)
                  | (go_at_call 13; refine (KK.out.2.2.2.1 _ (by assumption)).mono ?_; rintro e w' ⟨rfl, hbx⟩; obtain ⟨⟨sc, mc⟩, rc, rf⟩ := HE.out w' hbx)
                  | (go_at_call 14; refine (KK.out.2.2.2.2.1 _ (by assumption)).mono ?_; rintro e w' ⟨rfl, hbx⟩; obtain ⟨⟨sc, mc⟩, rc, rf⟩ := HE.out w' hbx)
                  | (go_at_call 15; refine (KK.out.2.2.2.2.2 _ (by assumption)).mono ?_; rintro e w' ⟨rfl, hbx⟩; obtain ⟨⟨sc, mc⟩, rc, rf⟩ := HE.out w' hbx))
              all_goals
                have gr9 := (hbx.block _ hl3).trans HG8.out.1
                have r9 := heap_set0 gr9 (.bool true)
                have gD9 : (w'.setCell ⟨w.heap.size + 1, 0, none⟩ (.bool true)).heap[D]? = some (.deferred (some [])) := (Below.heap_setCell _ _ _ _ (by simp; omega)).trans ((hbx.block D hl4).trans HG8.out.2.1)
                have h59 := HG8.out.2.2.trans (hbx.mono HG8.out.2.2.size)
                have hbF := (HB5.out.trans (h59.mono (by omega))).setCell (p := ⟨w.heap.size + 1, 0, none⟩) (by simp) (.bool true)
                clear sc mc rc rf
                generalize w'.setCell ⟨w.heap.size + 1, 0, none⟩ (.bool true) = W9 at *
                have c10 := cellOf1 (cells_put r9 gD9 rfl (.deferred none))
                go_wp2_with fail
                refine ⟨by simp, .inl ⟨_, _, rfl, run_takeDeferred gD9, ?_⟩⟩
                exact ⟨.bool true, by simp [results, Try.results3, go_sem, c10], rfl, below_put hbF (by omega) _⟩
end Go.Proofs.Ytnaednfdaaiciaa
