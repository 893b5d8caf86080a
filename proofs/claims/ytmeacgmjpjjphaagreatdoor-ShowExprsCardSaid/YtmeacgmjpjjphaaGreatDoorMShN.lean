/- The law on texts of expressions. -/
import Derived.Test.YtmeacgmjpjjphaaGreatDoorMShK
import Derived.Test.YtmeacgmjpjjphaaGreatDoorMExZ
import Derived.Test.YtmeacgmjpjjphaaGreatDoorMShP
set_option linter.unusedVariables false
set_option linter.unusedSimpArgs false
namespace Go.Proofs.YtmeacgmjpjjphaaGreatDoor
open Go.RowKit Go.Shelf
open Tr (Nd TreeAt Ints Fine ndV)
open Tr.TreP (WF fits places nd inT)

/-- What is read has a place. -/
theorem parse_there {s : ByteArray} {i : Int} {l : List Tok} {m : List Nd} (h : parseP s = .ok i l m) : inT m.length i = true := by
  unfold parseP at h
  cases ht : tokensB s with
  | bad e a b =>
    rw [ht] at h
    cases h
  | good ts =>
    rw [ht] at h
    have hok := allT_ok (itemP_ok 64) ts [] (toks_pre ht)
    unfold exprP at h
    simp only at h
    cases ha : allT (itemP 64) ts [] with
    | bad c a b =>
      rw [ha] at h
      cases h
    | ok j l' m' =>
      rw [ha] at h hok
      have hp : Fit ts [] j l' m' := hok
      simp only [Out.bind] at h
      split at h
      · cases h
        have := hp.2.there i (by simp)
        rw [Tr.TreP.inT_iff]
        exact this
      · cases h
theorem shown_of {l : List Tok} {ms : List (Nd × Value)} (h : Pre l (ms.map (·.1))) : Shown ms := by
  have hn := fun p (hp : p ∈ ms) => h.nodes p.1 (List.mem_map.2 ⟨p, hp, rfl⟩)
  exact ⟨fine_of h, fun p hp => by have := (hn p hp).op; omega, fun p hp => by have := (hn p hp).name; omega, fun p hp => by have := (hn p hp).lo; omega, fun p hp => by have := (hn p hp).hi; omega⟩
def rgt (m : List Nd) (j : Int) : Bool := rightB (nd m j).op (nd m j).kids.length
theorem all_flat {α β : Type} (f : α → List β) (p : β → Bool) : ∀ (l : List α), (l.flatMap f).all p = l.all fun x => (f x).all p
  | [] => rfl
  | x :: l => by simp
theorem all_congr' {α : Type} {p q : α → Bool} : ∀ {l : List α}, (∀ x ∈ l, p x = q x) → l.all p = l.all q
  | [], _ => rfl
  | x :: l, h => by rw [List.all_cons, List.all_cons, h x (by simp), all_congr' fun y hy => h y (by simp [hy])]
theorem right_places {m : List Nd} (h : WF m) : ∀ (f : Nat) (i : Int), inT m.length i = true → i < f → rightT (tm m i) = (places f m i).all (rgt m)
  | 0, i, hi, hf => by rw [Tr.TreP.inT_iff] at hi; omega
  | f + 1, i, hi, hf => by
    rw [tm_eq h hi]
    simp only [rightT, List.length_map, rightL_all, List.all_map, places, hi, if_true, List.all_cons, all_flat]
    congr 1
    refine all_congr' fun x hx => ?_
    have hk := h.kid hi hx
    refine right_places h f x ?_ (by omega)
    rw [Tr.TreP.inT_iff] at hi ⊢
    omega
end Go.Proofs.YtmeacgmjpjjphaaGreatDoor
namespace Go.Proofs.YtmeacgmjpjjphaaGreatDoor
open Go.RowKit Go.Shelf
open Tr (Nd TreeAt Ints Fine ndV ndCells Kept KidsOut loop_in postQ below_put)
open Tr.TreP (WF fits places nd inT)
attribute [local go_sem] Oper.semAt_some

theorem keeps_below {W W' : World} (hb : Below W.heap.size W W') : KeepsOthers W W' := ⟨hb.size, fun k o h _ => (hb.block k (Tr.heap_lt h)).trans h⟩
theorem cells_put {W : World} {L b : Nat} {o : Obj} {cs : Array Value} {t : TypeId} (h : W.heap[b]? = some (.cells cs t)) (ho : W.heap[L]? = some o) (hc : o.isCells = false) (o' : Obj) : (W.putObj L o').heap[b]? = some (.cells cs t) :=
  (World.putObj_heap_other (fun e => by rw [← e, h] at ho; cases ho; cases hc)).trans h
/-- How show's Expr ends. -/
def PostS (o : Option ByteArray) (e : Ending) : Prop := match o with
  | some s => e = .returned (.tuple #[.string s, .int .i64 0])
  | none => e = .returned (.tuple #[.string ⟨#[]⟩, .int .i64 1])
set_option maxRecDepth 100000 in
set_option maxHeartbeats 8000000 in
theorem ShowExpr_in (hP : ParseC) {w : World} {B t : Nat} {v : Value} {ms : List (Nd × Value)} (hS : Shown ms) (hT : TreeAt w B t v ms) {k : Nat} (hk : k < ms.length) (henv : Env w) (hg : ErrTy w) (htab : TabOk w) :
    Calls Tryz.prog 14 #[.pointer (some ⟨t, 0, none⟩), .int .i64 k] w fun e w' => PostS (showT (tm (ms.map (·.1)) k)) e ∧ Below w.heap.size w w' := by
  have HP := Lib.hid hP
  have HE := Lib.hid (And.intro henv (And.intro hg htab))
  have HS := Lib.hid hS
  have HT := Lib.hid hT
  have hbr := ((Below.refl w.heap.size w).alloc (Nat.le_refl _) (.cells #[.string ⟨#[]⟩] 9)).alloc (by simp) (.cells #[.int .i64 0] 39)
  have hr1 := (Below.heap_alloc (w.alloc (.cells #[.string ⟨#[]⟩] 9)) (.cells #[.int .i64 0] 39) w.heap.size (by simp)).trans (Tr.last w (.cells #[.string ⟨#[]⟩] 9))
  have hr2 := Tr.last (w.alloc (.cells #[.string ⟨#[]⟩] 9)) (.cells #[.int .i64 0] 39)
  rw [show (w.alloc (.cells #[.string ⟨#[]⟩] 9)).heap.size = w.heap.size + 1 by simp] at hr2
  have HR := Lib.hid (And.intro hr1 hr2)
  have HB := Lib.hid hbr
  have HG := Lib.hid (Tr.Get_hit (hT.below hbr) hk (by have := hS.fine.kid _ (List.getElem_mem hk); omega) (by have := hS.fine.len; omega))
  clear hP henv hg htab hS hT hbr hr1 hr2
  generalize hR : showT (tm (ms.map (·.1)) k) = R
  have HRR := Lib.hid hR
  clear hR
  refine (callsIn_wide (n := 3)).1 ?_
  refine callsIn_of_wp_marks Tryz.func14 rfl trivial ?_ rfl
  refine wpIn_wide.2 ?_
  simp only [Tryz.ntmps14, List.size_toArray, List.length_cons, List.length_nil, Nat.reduceAdd, Nat.reduceSub, Array.replicate_succ, Array.replicate_zero, List.push_toArray, List.append_toArray, List.nil_append, List.cons_append]
  go_wp2_with fail
  refine HG.out.mono ?_
  rintro e w2 ⟨s, rfl, hs, hb2⟩
  obtain ⟨A, c, rfl⟩ := hs.form
  unfold ndV
  generalize ms[k].1 = x at *
  obtain ⟨op, line, col, name, num, kids⟩ := x
  simp only
  go_upto_region 2 with fail
  have hbn := hb2.alloc hb2.size (.cells #[.string op, .int .i64 line, .int .i64 col, .string name, .int .i64 num, .slice A kids.length c] 53)
  have hb3 := HB.out.trans (hbn.mono HB.out.size)
  have g1 := (hbn.block _ (Tr.heap_lt HR.out.1)).trans HR.out.1
  have g2 := (hbn.block _ (Tr.heap_lt HR.out.2)).trans HR.out.2
  generalize w2.alloc (.cells #[.string op, .int .i64 line, .int .i64 col, .string name, .int .i64 num, .slice A kids.length c] 53) = w3 at *
  clear hbn hb2 hs
  have q1 : ((w3.alloc (.cells #[.pointer (some ⟨t, 0, none⟩)] 23)).alloc (.cells #[.int .i64 k] 3)).heap[w3.heap.size]? = some (.cells #[.pointer (some ⟨t, 0, none⟩)] 23) := (Below.heap_alloc _ _ _ (by simp)).trans (Tr.last _ _)
  have q2 : ((w3.alloc (.cells #[.pointer (some ⟨t, 0, none⟩)] 23)).alloc (.cells #[.int .i64 k] 3)).heap[w3.heap.size + 1]? = some (.cells #[.int .i64 k] 3) := by
    have := Tr.last (w3.alloc (.cells #[.pointer (some ⟨t, 0, none⟩)] 23)) (.cells #[.int .i64 k] 3)
    simpa using this
  have qb := (((Below.refl w3.heap.size w3).alloc (Nat.le_refl _) (.cells #[.pointer (some ⟨t, 0, none⟩)] 23)).alloc (by simp) (.cells #[.int .i64 k] 3))
  go_wp2_with (go_at_call 31; refine (Tr.Each_in _ _).mono ?_; rintro e w' ⟨rfl, rfl⟩)
  generalize (w3.alloc (.cells #[.pointer (some ⟨t, 0, none⟩)] 23)).alloc (.cells #[.int .i64 k] 3) = WL at *
  have hbL := hb3.trans (qb.mono hb3.size)
  have g1' := (qb.block _ (Tr.heap_lt g1)).trans g1
  have g2' := (qb.block _ (Tr.heap_lt g2)).trans g2
  have hw1 : w.heap.size + 1 < WL.heap.size := Tr.heap_lt g2'
  have HG12 := Lib.hid (And.intro g1' g2')
  have HBL := Lib.hid hbL
  have HTL := Lib.hid (HT.out.below hbL)
  have hlen := HS.out.fine.len
  clear g1 g2 g1' g2' hb3 qb hbL
  show Code.wp Tryz.prog _ _ ?act0 _
  refine (wpIn_wide (n := 3)).1 ?_
  refine loop_in (own := fun _ _ => False) (W0 := WL) HS.out.fine HTL.out ms.length (by omega) (k : Int) (fun h => by omega) w3.heap.size (w3.heap.size + 1) rfl rfl (Tr.cellOf1 q1) (Tr.cellOf1 q2)
    (fun pre W => Below WL.heap.size WL W ∧ ∀ j ∈ pre, rgt (ms.map (·.1)) j = true)
    (fun c q W => c = .ret ∧ Below w.heap.size w W ∧ W.heap[w.heap.size]? = some (.cells #[.string ⟨#[]⟩] 9) ∧ W.heap[w.heap.size + 1]? = some (.cells #[.int .i64 1] 39) ∧ ∃ j ∈ q, rgt (ms.map (·.1)) j = false)
    (fun s W => (Below WL.heap.size WL W ∧ ∀ j ∈ s.1, rgt (ms.map (·.1)) j = true) ∧ Kept (fun _ b => False ∨ b = WL.heap.size + 1) s.2.2.1 W ∧
      ∃ (x : Nd) (A : Option Addr) (c p : Nat), inT ms.length s.2.1 = true ∧ x = nd (ms.map (·.1)) s.2.1 ∧ W.heap[p]? = some (.cells (ndCells x (.slice A x.kids.length c)).toArray 53) ∧
        s.2.2.2 = { tmps := ((((?act0).tmps.setIfInBounds 25 (.int .i64 s.2.1)).setIfInBounds 26 (ndV x (.slice A x.kids.length c))).setIfInBounds 9 (.pointer (some ⟨p, 0, none⟩))), defers := [] })
    (fun pre W h => h.1) (fun pre W k h ho => ho.elim) (fun pre W W' h hb => ⟨⟨h.1.trans (hb.mono h.1.size), h.2⟩, fun k ho => ho⟩)
    (fun s W o o' ho hc h => ⟨below_put h.1 (by omega) _, h.2⟩) (fun k s W o o' ho hc h hp => h hp)
    (fun c s W o o' ho hc h => ⟨h.1, below_put h.2.1 (by omega) _, cells_put h.2.2.1 ho hc _, cells_put h.2.2.2.1 ho hc _, h.2.2.2.2⟩)
    ?mput ⟨Below.refl _ _, fun j hj => by simp at hj⟩ ?assign ?body ?done ?stop
  case mput =>
    rintro s W o o' ho hc ⟨⟨h1, h2⟩, h4, x, A, c, p, h5, h6, h7, h8⟩
    refine ⟨⟨below_put h1 (by omega) _, h2⟩, ⟨by rw [World.putObj_size]; exact h4.size, fun b hb hno => ?_⟩, x, A, c, p, h5, h6, cells_put h7 ho hc _, h8⟩
    obtain ⟨u1, u2⟩ := h4.same b hb hno
    exact ⟨(World.putObj_heap_other (fun e => hno (.inr e))).trans u1, u2⟩
  case assign =>
    intro l pre i' x s W K hI hpn hin hx hints hK
    obtain ⟨A3, c3, rfl⟩ := hints.1.form
    have hbA := (Below.refl W.heap.size W).alloc (Nat.le_refl _) (.cells (ndCells x (.slice A3 x.kids.length c3)).toArray 53)
    have HK := Lib.hid (hK { tmps := ((((?act0).tmps.setIfInBounds 25 (.int .i64 i')).setIfInBounds 26 (ndV x (.slice A3 x.kids.length c3))).setIfInBounds 9 (.pointer (some ⟨W.heap.size, 0, none⟩))), defers := [] } _ (KeepsOthers.alloc W (.cells (ndCells x (.slice A3 x.kids.length c3)).toArray 53))
      ⟨⟨hI.1.trans (hbA.mono hI.1.size), hI.2⟩, ⟨hbA.size, fun b hb hno => ⟨hbA.block b hb, hno⟩⟩, x, A3, c3, W.heap.size, hin, hx, Tr.last _ _, rfl⟩)
    clear hK hints
    obtain ⟨op, line, col, name, num, kids⟩ := x
    have hkk := HK.out
    unfold ndV ndCells at hkk
    simp only [List.setIfInBounds_toArray, List.set_cons_zero, List.set_cons_succ] at hkk
    have HKK := Lib.hid hkk
    clear hkk HK hx
    unfold ndV
    gi_wp2
    exact HKK.out
  case body =>
    rintro l pre i' Ws a' W ⟨⟨hB, hall⟩, hkp, x, A1, c1, p, hin, hx, hp, hact⟩
    dsimp only at hact hin hx hB hall hkp
    subst hact
    have hkl : x.kids.length ≤ 70000 := by
      obtain ⟨q, hq, rfl, hnd⟩ := nd_there hin
      rw [hx, hnd]
      exact HS.out.fine.kid _ (List.getElem_mem hq)
    have HRG := Lib.hid (show rgt (ms.map (·.1)) i' = rightB x.op x.kids.length by unfold rgt; rw [hx])
    clear hx hin
    obtain ⟨op, line, col, name, num, kids⟩ := x
    simp only at hkl HRG
    unfold ndCells at hp
    obtain ⟨n0, n1, n2, n3, n4, n5⟩ := Tr.cellsOf6 hp
    have HRI := Lib.hid (right_in op name line col num A1 kids.length c1 W (by omega))
    have HBB := Lib.hid (And.intro hB (And.intro hall hkp))
    clear hB hall hkp hp
    unfold ndV
    simp only [List.setIfInBounds_toArray, List.set_cons_zero, List.set_cons_succ]
    generalize rightB op kids.length = rb at *
    cases rb with
    | true =>
      gi_wp2_with (refine ⟨trivial, ?_⟩; gi_at_call 32; refine (CallsIn.inRound l (callsIn_wide.2 HRI.out)).mono ?_; rintro e w' ⟨rfl, hbx⟩)
      refine ⟨keeps_below hbx, ⟨HBB.out.1.trans (hbx.mono HBB.out.1.size), fun j hj => ?_⟩, HBB.out.2.2.trans ⟨hbx.size, fun b hb hno => ⟨hbx.block b hb, hno⟩⟩⟩
      rcases List.mem_append.1 hj with hj | hj
      · exact HBB.out.2.1 j hj
      · rw [List.mem_singleton.1 hj]
        exact HRG.out
    | false =>
      have HRC := Lib.hid (show ∀ W', Below W.heap.size W W' → W'.heap[w.heap.size]? = some (.cells #[.string ⟨#[]⟩] 9) ∧ W'.heap[w.heap.size + 1]? = some (.cells #[.int .i64 0] 39) from fun W' hb => by
        have h := HBB.out.1.trans (hb.mono HBB.out.1.size)
        exact ⟨(h.block _ (Tr.heap_lt HG12.out.1)).trans HG12.out.1, (h.block _ (Tr.heap_lt HG12.out.2)).trans HG12.out.2⟩)
      gi_wp2_with (refine ⟨trivial, ?_⟩; gi_at_call 32; refine (CallsIn.inRound l (callsIn_wide.2 HRI.out)).mono ?_; rintro e w' ⟨rfl, hbx⟩; have x1 := cell1 (HRC.out w' hbx).1; have x2 := frozenOf (HRC.out w' hbx).1 0; have x3 := cell1 (HRC.out w' hbx).2; have x4 := frozenOf (HRC.out w' hbx).2 0)
      obtain ⟨r1, r2⟩ := HRC.out w' hbx
      refine ⟨((keeps_below hbx).trans (KeepsOthers.setCell _ _ _)).trans (KeepsOthers.setCell _ _ _), rfl, ((HBL.out.trans (HBB.out.1.mono HBL.out.size)).trans (hbx.mono (Nat.le_trans HBL.out.size HBB.out.1.size))).setCell (by simp) _ |>.setCell (by simp) _, ?_, ?_, i', by simp, HRG.out⟩
      · exact (Below.heap_setCell _ _ _ _ (by simp)).trans (setc r1 0 _)
      · exact setc ((Below.heap_setCell _ _ _ _ (by simp)).trans r2) 0 _
  case' done =>
    rintro D W hD ⟨hB, hall⟩ hK
    have hbw := HBL.out.trans (hB.mono HBL.out.size)
    have hr : rightT (tm (ms.map (·.1)) k) = true := by
      rw [right_places HS.out.fine.wf ms.length k (by rw [Tr.TreP.inT_iff]; simp; omega) (by omega)]
      exact List.all_eq_true.2 hall
    have HRT := Lib.hid hr
    have HKC := Lib.hid ((kid_in (B := B) (t := t) (v := v) HS.out ms.length k hk hk hr).call W (HT.out.below hbw) (HE.out.2.2.under hbw) 0 (by decide) (by decide))
    rw [atB_zero] at HKC
    have HBW := Lib.hid hbw
    have HBI := Lib.hid hB
    have HKD := Lib.hid hK
    have hDl := Tr.heap_lt hK
    clear hB hall hbw hr hK
    have HSZ := Lib.hid (text_small HS.out hk)
    have HSH := Lib.hid (show R = match parseP (textT (tm (ms.map (·.1)) k)) with
      | .bad _ _ _ => none
      | .ok j _ m' => if eqT (tm (ms.map (·.1)) k) (tm m' j) then some (textT (tm (ms.map (·.1)) k)) else none by rw [← HRR.out]; unfold showT; rw [HRT.out, if_pos rfl]; rfl)
    have HRC := Lib.hid (show ∀ W', Below W.heap.size W W' → (W'.heap[w.heap.size]? = some (.cells #[.string ⟨#[]⟩] 9) ∧ W'.heap[w.heap.size + 1]? = some (.cells #[.int .i64 0] 39)) ∧ W'.heap[D]? = some (.deferred (some [])) from fun W' hb => by
      have h := HBI.out.trans (hb.mono HBI.out.size)
      exact ⟨⟨(h.block _ (Tr.heap_lt HG12.out.1)).trans HG12.out.1, (h.block _ (Tr.heap_lt HG12.out.2)).trans HG12.out.2⟩, (hb.block _ hDl).trans HKD.out⟩)
  case' stop =>
    rintro D c q W hD hq ⟨rfl, hB, h1, h2, hbad⟩ hK
    refine wpIn_wide.2 ?_
    have HRN := Lib.hid (show R = none by
      rw [← HRR.out]
      unfold showT
      rw [if_neg]
      rw [right_places HS.out.fine.wf ms.length k (by rw [Tr.TreP.inT_iff]; simp; omega) (by omega)]
      obtain ⟨j, hj, hjf⟩ := hbad
      intro h
      have := List.all_eq_true.1 h j (hq.subset hj)
      rw [hjf] at this
      cases this)
    have e1 := cell1 (cells_put h1 hK rfl (.deferred none))
    have e2 := cell1 (cells_put h2 hK rfl (.deferred none))
    go_wp2_with fail
    refine ⟨by simp, .inl ⟨_, _, rfl, run_takeDeferred hK, ?_⟩⟩
    refine ⟨.tuple #[.string ⟨#[]⟩, .int .i64 1], by simp [results, Tryz.results14, go_sem, e1, e2], ?_, below_put hB (by omega) _⟩
    rw [HRN.out]
    rfl
  case done =>
    have hwl : w.heap.size + 1 < D := by omega
    go_wp2_with fail
    refine HKC.out.mono ?_
    rintro e w4 ⟨rfl, hb4⟩
    have HB4 := Lib.hid hb4
    have hw4 := HBW.out.trans (hb4.mono HBW.out.size)
    have HBW4 := Lib.hid hw4
    have HPA := Lib.hid (HP.out (textT (tm (ms.map (·.1)) k)) w4 (HE.out.1.below hw4) (by have := HSZ.out; omega) (HE.out.2.1.below hw4))
    clear hb4 hw4
    generalize hTX : textT (tm (ms.map (·.1)) k) = tx at *
    generalize hPX : parseP tx = px at *
    go_wp2_with fail
    refine HPA.out.mono ?_
    intro e w5 hp
    cases px with
    | bad c a b =>
      obtain ⟨rfl, hb5⟩ := hp
      have hb5' := HB4.out.trans (hb5.mono HB4.out.size)
      obtain ⟨⟨r1, r2⟩, rd⟩ := HRC.out w5 hb5'
      have x1 := cell1 r1
      have x2 := frozenOf r1 0
      have x3 := cell1 r2
      have x4 := frozenOf r2 0
      have HB5 := Lib.hid hb5'
      clear hb5 hb5'
      unfold diagV
      go_wp2_with fail
      have f1 : ((w5.setCell ⟨w.heap.size, 0, none⟩ (.string ⟨#[]⟩)).setCell ⟨w.heap.size + 1, 0, none⟩ (.int .i64 1)).heap[w.heap.size]? = some (.cells #[.string ⟨#[]⟩] 9) := (Below.heap_setCell _ _ _ _ (by simp)).trans (setc r1 0 _)
      have f2 : ((w5.setCell ⟨w.heap.size, 0, none⟩ (.string ⟨#[]⟩)).setCell ⟨w.heap.size + 1, 0, none⟩ (.int .i64 1)).heap[w.heap.size + 1]? = some (.cells #[.int .i64 1] 39) := setc ((Below.heap_setCell _ _ _ _ (by simp)).trans r2) 0 _
      have fD : ((w5.setCell ⟨w.heap.size, 0, none⟩ (.string ⟨#[]⟩)).setCell ⟨w.heap.size + 1, 0, none⟩ (.int .i64 1)).heap[D]? = some (.deferred (some [])) := (Below.heap_setCell _ _ _ _ (by simp; omega)).trans ((Below.heap_setCell _ _ _ _ (by simp; omega)).trans rd)
      have fB : Below w.heap.size w ((w5.setCell ⟨w.heap.size, 0, none⟩ (.string ⟨#[]⟩)).setCell ⟨w.heap.size + 1, 0, none⟩ (.int .i64 1)) := ((HBW.out.trans (HB5.out.mono HBW.out.size)).setCell (by simp) _).setCell (by simp) _
      clear x1 x2 x3 x4
      generalize ((w5.setCell ⟨w.heap.size, 0, none⟩ (.string ⟨#[]⟩)).setCell ⟨w.heap.size + 1, 0, none⟩ (.int .i64 1)) = wf at *
      have e1 := cell1 (cells_put f1 fD rfl (.deferred none))
      have e2 := cell1 (cells_put f2 fD rfl (.deferred none))
      refine ⟨by simp, .inl ⟨_, _, rfl, run_takeDeferred fD, ?_⟩⟩
      refine ⟨.tuple #[.string ⟨#[]⟩, .int .i64 1], by simp [results, Tryz.results14, go_sem, e1, e2], ?_, below_put fB (by omega) _⟩
      rw [HSH.out]
      rfl
    | ok j l m' =>
      obtain ⟨t2, v2, ms2, rfl, rfl, hT2, hpre, hb5⟩ := hp
      have hb5' := HB4.out.trans (hb5.mono HB4.out.size)
      have hin := parse_there hPX
      obtain ⟨q, hq, rfl, _⟩ := nd_there (ms := ms2) (by simpa using hin)
      have hTW := HT.out.below (HBW.out.trans (hb5'.mono HBW.out.size))
      have HSA := Lib.hid (Same_in HS.out.fine (fine_of hpre) ms.length k q hk hq hk w5 hTW hT2)
      have HB5 := Lib.hid hb5'
      clear hb5 hb5' hT2 hpre hin hTW
      simp only at HSH
      generalize hZ : eqT (tm (ms.map (·.1)) k) (tm (ms2.map (·.1)) q) = Z at *
      cases Z with
      | true =>
        go_wp2_with (go_at_call 15; refine HSA.out.mono ?_; rintro e w6 ⟨rfl, hb6⟩; have hb6' := HB5.out.trans (hb6.mono HB5.out.size); have x1 := cell1 (HRC.out w6 hb6').1.1; have x2 := frozenOf (HRC.out w6 hb6').1.1 0; have x3 := cell1 (HRC.out w6 hb6').1.2; have x4 := frozenOf (HRC.out w6 hb6').1.2 0)
        obtain ⟨⟨r1, r2⟩, rd⟩ := HRC.out w6 hb6'
        have f1 : ((w6.setCell ⟨w.heap.size, 0, none⟩ (.string tx)).setCell ⟨w.heap.size + 1, 0, none⟩ (.int .i64 0)).heap[w.heap.size]? = some (.cells #[.string tx] 9) := (Below.heap_setCell _ _ _ _ (by simp)).trans (setc r1 0 _)
        have f2 : ((w6.setCell ⟨w.heap.size, 0, none⟩ (.string tx)).setCell ⟨w.heap.size + 1, 0, none⟩ (.int .i64 0)).heap[w.heap.size + 1]? = some (.cells #[.int .i64 0] 39) := setc ((Below.heap_setCell _ _ _ _ (by simp)).trans r2) 0 _
        have fD : ((w6.setCell ⟨w.heap.size, 0, none⟩ (.string tx)).setCell ⟨w.heap.size + 1, 0, none⟩ (.int .i64 0)).heap[D]? = some (.deferred (some [])) := (Below.heap_setCell _ _ _ _ (by simp; omega)).trans ((Below.heap_setCell _ _ _ _ (by simp; omega)).trans rd)
        have fB : Below w.heap.size w ((w6.setCell ⟨w.heap.size, 0, none⟩ (.string tx)).setCell ⟨w.heap.size + 1, 0, none⟩ (.int .i64 0)) := ((HBW.out.trans (hb6'.mono HBW.out.size)).setCell (by simp) _).setCell (by simp) _
        clear x1 x2 x3 x4
        generalize ((w6.setCell ⟨w.heap.size, 0, none⟩ (.string tx)).setCell ⟨w.heap.size + 1, 0, none⟩ (.int .i64 0)) = wf at *
        have e1 := cell1 (cells_put f1 fD rfl (.deferred none))
        have e2 := cell1 (cells_put f2 fD rfl (.deferred none))
        refine ⟨by simp, .inl ⟨_, _, rfl, run_takeDeferred fD, ?_⟩⟩
        refine ⟨.tuple #[.string tx, .int .i64 0], by simp [results, Tryz.results14, go_sem, e1, e2], ?_, below_put fB (by omega) _⟩
        rw [HSH.out]
        rfl
      | false =>
        go_wp2_with (go_at_call 15; refine HSA.out.mono ?_; rintro e w6 ⟨rfl, hb6⟩; have hb6' := HB5.out.trans (hb6.mono HB5.out.size); have x1 := cell1 (HRC.out w6 hb6').1.1; have x2 := frozenOf (HRC.out w6 hb6').1.1 0; have x3 := cell1 (HRC.out w6 hb6').1.2; have x4 := frozenOf (HRC.out w6 hb6').1.2 0)
        obtain ⟨⟨r1, r2⟩, rd⟩ := HRC.out w6 hb6'
        have f1 : ((w6.setCell ⟨w.heap.size, 0, none⟩ (.string ⟨#[]⟩)).setCell ⟨w.heap.size + 1, 0, none⟩ (.int .i64 1)).heap[w.heap.size]? = some (.cells #[.string ⟨#[]⟩] 9) := (Below.heap_setCell _ _ _ _ (by simp)).trans (setc r1 0 _)
        have f2 : ((w6.setCell ⟨w.heap.size, 0, none⟩ (.string ⟨#[]⟩)).setCell ⟨w.heap.size + 1, 0, none⟩ (.int .i64 1)).heap[w.heap.size + 1]? = some (.cells #[.int .i64 1] 39) := setc ((Below.heap_setCell _ _ _ _ (by simp)).trans r2) 0 _
        have fD : ((w6.setCell ⟨w.heap.size, 0, none⟩ (.string ⟨#[]⟩)).setCell ⟨w.heap.size + 1, 0, none⟩ (.int .i64 1)).heap[D]? = some (.deferred (some [])) := (Below.heap_setCell _ _ _ _ (by simp; omega)).trans ((Below.heap_setCell _ _ _ _ (by simp; omega)).trans rd)
        have fB : Below w.heap.size w ((w6.setCell ⟨w.heap.size, 0, none⟩ (.string ⟨#[]⟩)).setCell ⟨w.heap.size + 1, 0, none⟩ (.int .i64 1)) := ((HBW.out.trans (hb6'.mono HBW.out.size)).setCell (by simp) _).setCell (by simp) _
        clear x1 x2 x3 x4
        generalize ((w6.setCell ⟨w.heap.size, 0, none⟩ (.string ⟨#[]⟩)).setCell ⟨w.heap.size + 1, 0, none⟩ (.int .i64 1)) = wf at *
        have e1 := cell1 (cells_put f1 fD rfl (.deferred none))
        have e2 := cell1 (cells_put f2 fD rfl (.deferred none))
        refine ⟨by simp, .inl ⟨_, _, rfl, run_takeDeferred fD, ?_⟩⟩
        refine ⟨.tuple #[.string ⟨#[]⟩, .int .i64 1], by simp [results, Tryz.results14, go_sem, e1, e2], ?_, below_put fB (by omega) _⟩
        rw [HSH.out]
        rfl
end Go.Proofs.YtmeacgmjpjjphaaGreatDoor
namespace Go.Proofs.YtmeacgmjpjjphaaGreatDoor
open Go.RowKit Go.Shelf
open Tr (Nd TreeAt Ints Fine ndV)
open Tr.TreP (WF fits places nd inT)

theorem show_text {t : Tm} {s : ByteArray} (h : showT t = some s) : s = textT t := by
  unfold showT at h
  split at h
  · split at h
    · cases h
    · split at h
      · cases h
        rfl
      · cases h
  · cases h
theorem lst_eq (l : List UInt8) : ((bs l).toList == l) = true := by
  rw [ByteArray.toList_eq]
  simp [bs]
set_option maxRecDepth 100000 in
set_option maxHeartbeats 4000000 in
theorem lives8_in (hP : ParseC) {w : World} (henv : Env w) (hg : ErrTy w) (ht : TabOk w) : Calls Tryz.prog 13 #[] w fun e w' => e = .returned (.bool true) ∧ Below w.heap.size w w' := by
  obtain ⟨i, l, m, hp, hsh⟩ := lives8_parse
  have hc := hP (bs [40, 40, 97, 59, 32, 98, 41, 41, 32, 42, 32, 45, 40, 102, 40, 49, 44, 120, 41, 41]) w henv (by decide) hg
  rw [hp] at hc
  have HC := Lib.hid hc
  have HE := Lib.hid (And.intro henv (And.intro hg ht))
  have HP := Lib.hid hP
  have HPP := Lib.hid hp
  clear hc henv hg ht hP hp
  unfold bs at HC
  go_enter Tryz.func13, Tryz.ntmps13
  go_wp2_with fail
  refine HC.out.mono ?_
  rintro e w1 ⟨t, v, ms, rfl, rfl, hT, hpre, hb⟩
  have hin := parse_there HPP.out
  obtain ⟨k, hk, rfl, _⟩ := nd_there (ms := ms) (by simpa using hin)
  have hS := shown_of hpre
  have HSH := Lib.hid (ShowExpr_in HP.out hS hT hk (HE.out.1.below hb) (HE.out.2.1.below hb) (HE.out.2.2.under hb))
  unfold showP at hsh
  rw [hin, if_pos rfl] at hsh
  rw [hsh] at HSH
  have HB := Lib.hid hb
  clear hb hT hpre hS hin hsh
  unfold bs at HSH
  have hl := lst_eq [40, 97, 59, 32, 98, 41, 32, 42, 32, 45, 32, 102, 40, 49, 44, 32, 120, 41]
  unfold bs at hl
  go_wp2_with fail
  refine HSH.out.mono ?_
  rintro e w2 ⟨he, hb2⟩
  have he : e = .returned (.tuple #[.string ⟨[40, 97, 59, 32, 98, 41, 32, 42, 32, 45, 32, 102, 40, 49, 44, 32, 120, 41].toArray⟩, .int .i64 0]) := he
  subst he
  have HB2 := Lib.hid (HB.out.trans (hb2.mono HB.out.size))
  clear hb2
  go_wp2_with fail
  go_ret
  exact ⟨rfl, HB2.out⟩
set_option maxRecDepth 100000 in
set_option maxHeartbeats 8000000 in
theorem ShowExprs_in (hP : ParseC) (s : ByteArray) {w : World} (henv : Env w) (hg : ErrTy w) (ht : TabOk w) : Calls Tryz.prog 4 #[.string s] w fun e w' => e = .returned (.bool true) ∧ Below w.heap.size w w' := by
  have HP := Lib.hid hP
  have HE := Lib.hid (show ∀ W, Below w.heap.size w W → Env W ∧ ErrTy W ∧ TabOk W from fun W hb => ⟨henv.below hb, hg.below hb, ht.under hb⟩)
  have HL := Lib.hid (show ∀ W, Below w.heap.size w W → Calls Tryz.prog 13 #[] W fun e w' => e = .returned (.bool true) ∧ Below W.heap.size W w' from fun W hb => lives8_in hP (henv.below hb) (hg.below hb) (ht.under hb))
  clear hP henv hg ht
  by_cases h5 : 5000 < s.size
  · have h5' : (5000 : Int) < (s.size : Int) := by omega
    go_enter Tryz.func4, Tryz.ntmps4
    go_wp2_with fail
    refine (HL.out w (Below.refl _ _)).mono ?_
    rintro e w1 ⟨rfl, hb⟩
    have HB := Lib.hid hb
    clear hb
    go_wp2_with fail
    refine (HL.out w1 HB.out).mono ?_
    rintro e w2 ⟨rfl, hb⟩
    have HB2 := Lib.hid (chain HB.out hb)
    clear hb
    go_wp2_with fail
    go_ret
    exact ⟨rfl, HB2.out⟩
  · have h5' : ¬ (5000 : Int) < (s.size : Int) := by omega
    go_enter Tryz.func4, Tryz.ntmps4
    go_wp2_with fail
    refine (HL.out w (Below.refl _ _)).mono ?_
    rintro e w1 ⟨rfl, hb⟩
    have HB := Lib.hid hb
    have HC := Lib.hid (HP.out s w1 (HE.out w1 hb).1 (by omega) (HE.out w1 hb).2.1)
    clear hb
    go_wp2_with fail
    refine HC.out.mono ?_
    intro e w2 hp
    cases hpp : parseP s with
    | bad c a b =>
      rw [hpp] at hp
      obtain ⟨rfl, hb⟩ := hp
      have HB2 := Lib.hid (chain HB.out hb)
      clear hb hpp
      unfold diagV
      go_wp2_with fail
      go_ret
      exact ⟨rfl, HB2.out⟩
    | ok i l m =>
      rw [hpp] at hp
      obtain ⟨t, v, ms, rfl, rfl, hT, hpre, hb⟩ := hp
      have hin := parse_there hpp
      obtain ⟨k, hk, rfl, _⟩ := nd_there (ms := ms) (by simpa using hin)
      have hb2 := chain HB.out hb
      have hS := shown_of hpre
      have HSW := Lib.hid (ShowExpr_in HP.out hS hT hk (HE.out w2 hb2).1 (HE.out w2 hb2).2.1 (HE.out w2 hb2).2.2)
      have HST := Lib.hid (And.intro hS hT)
      have HB2 := Lib.hid hb2
      clear hb hb2 hS hT hpre hpp hin HC
      go_wp2_with fail
      refine HSW.out.mono ?_
      clear HSW
      rintro e w3 ⟨he, hb⟩
      have HB3 := Lib.hid hb
      have hb3 := chain HB2.out hb
      have HBW3 := Lib.hid hb3
      clear hb
      cases hsh : showT (tm (ms.map (·.1)) k) with
      | none =>
        rw [hsh] at he
        have he : e = .returned (.tuple #[.string ⟨#[]⟩, .int .i64 1]) := he
        subst he
        clear hsh hb3
        go_wp2_with fail
        go_ret
        exact ⟨rfl, HBW3.out⟩
      | some x =>
        rw [hsh] at he
        have he : e = .returned (.tuple #[.string x, .int .i64 0]) := he
        subst he
        obtain ⟨k2, l2, m2, hp2, heq, hsh2⟩ := show_again hsh
        have hxs : x.size ≤ 1099511627776 := by
          rw [show_text hsh]
          exact text_small HST.out.1 hk
        have hc2 := HP.out x w3 (HE.out w3 hb3).1 (by omega) (HE.out w3 hb3).2.1
        rw [hp2] at hc2
        have HC2 := Lib.hid hc2
        have HX := Lib.hid (And.intro hp2 (And.intro heq hsh2))
        clear hc2 hb3 hsh hp2 heq hsh2
        go_wp2_with fail
        refine HC2.out.mono ?_
        clear HC2
        rintro e w4 ⟨t4, v4, ms4, rfl, rfl, hT4, hpre4, hb4⟩
        have hin4 := parse_there HX.out.1
        obtain ⟨k4, hk4, rfl, _⟩ := nd_there (ms := ms4) (by simpa using hin4)
        have hS4 := shown_of hpre4
        have hb4' := chain HBW3.out hb4
        have HSW := Lib.hid (ShowExpr_in HP.out hS4 hT4 hk4 (HE.out w4 hb4').1 (HE.out w4 hb4').2.1 (HE.out w4 hb4').2.2)
        rw [HX.out.2.2] at HSW
        have HST4 := Lib.hid (And.intro hS4 hT4)
        have HB4 := Lib.hid (chain HB3.out hb4)
        have HBW4 := Lib.hid hb4'
        clear hin4 hS4 hb4' hT4 hpre4 hb4
        go_wp2_with fail
        refine HSW.out.mono ?_
        clear HSW
        rintro e w5 ⟨he, hb5⟩
        have he : e = .returned (.tuple #[.string x, .int .i64 0]) := he
        subst he
        have hT5 := HST.out.2.below (chain HB4.out hb5)
        have hT5' := HST4.out.2.below hb5
        have HSA := Lib.hid (Same_in HST.out.1.fine HST4.out.1.fine ms.length k k4 hk hk4 hk w5 hT5 hT5')
        have HBW5 := Lib.hid (chain HBW4.out hb5)
        rw [(eqT_iff _ _).2 HX.out.2.1] at HSA
        clear hT5 hT5' hb5
        go_wp2_with fail
        refine HSA.out.mono ?_
        clear HSA
        rintro e w6 ⟨rfl, hb6⟩
        have HBW6 := Lib.hid (chain HBW5.out hb6)
        clear hb6
        have hxx : (x.toList == x.toList) = true := by simp
        go_wp2_with fail
        go_ret
        exact ⟨rfl, HBW6.out⟩
end Go.Proofs.YtmeacgmjpjjphaaGreatDoor
