/- Items with ; between. PRINTED by genexs.py of this folder. -/
import Derived.Test.YtmeacgmjpjjphaaGreatDoorMExL
import Derived.Deep.AppendLies
import Derived.Deep.DrawnRows
set_option linter.unusedVariables false
set_option linter.unusedSimpArgs false
namespace Go.Proofs.YtmeacgmjpjjphaaGreatDoor
open Go.RowKit Go.Shelf
open Tr (Nd TreeAt Own Ints)
attribute [local go_sem] Oper.semAt_some

/-- What all does behind its first loop. -/
noncomputable def restC : Code := match Tryz.f26.body with
  | some (.seq _ (.seq _ (.seq _ (.seq _ r)))) => r
  | _ => .skip
theorem own_get {w : World} {B : Nat} {s : Value} {js : List Int} (h : Tr.Own w B s js) (h0 : 0 < js.length) : ∃ g c, s = .slice (some ⟨g, 0, none⟩) js.length c ∧ ∀ i, i < js.length → w.cell? ⟨g, i, none⟩ = some (.int .i64 (js.getD i 0)) := by
  have h' := h
  rcases h.2 with ⟨e, h1⟩ | ⟨g, cap, cur, rfl, _⟩
  · omega
  · refine ⟨g, cap, rfl, fun i hi => ?_⟩
    rw [World.ownsRow.cellAt h' i (by omega)]
    simp [List.getD, hi]
theorem fold_zip2 (t : Array Value) (a b : Tmp) (x y : Value) : ((#[a, b] : Array Tmp).zip #[x, y]).foldl (fun t (p, v) => t.setIfInBounds p v) t = (t.setIfInBounds a x).setIfInBounds b y := by
  rw [List.zip_toArray, List.foldl_toArray]
  rfl
theorem Bad.put {b t : Nat} {tv v : Value} {w w' : World} (h : Bad b t tv v w w') (hb : b < w.heap.size) {r : Nat} (hr : w.heap.size ≤ r) (o : Obj) : Bad b t tv v w (w'.putObj r o) :=
  let ⟨v2, n, d', h1, h2⟩ := h; ⟨v2, n, d', (World.putObj_heap_other (by omega)).trans h1, h2.put hr o⟩
theorem AllAt.set {w0 : World} {B b t : Nat} {tv : Value} {ts l : List Tok} {d : Int} {v : Value} {ms : List (Nd × Value)} {q3 : Nat} {js : List Int} {mks : List Tok} {lv mv : Value} {v' : Value} {ms' : List (Nd × Value)} {wr : World} (h : AllAt w0 B b t tv ts l d v ms q3 js mks lv mv v' ms' wr) {r : Nat} {c : Array Value} {x : Value} (hr : w0.heap.size < r) (hc : wr.heap[r]? = some (.cells c 3)) (hf : Free ms' r) (h3 : q3 ≠ r) (hl : lv.ownBlock ≠ some r) : AllAt w0 B b t tv ts l d v ms q3 js mks lv mv v' ms' (wr.setCell ⟨r, 0, none⟩ x) := by
  obtain ⟨a1, a2⟩ := h.turned (w2 := wr.setCell ⟨r, 0, none⟩ x) hr hc (by decide) (by decide) (by decide) (fun e => by have := h.old r e; omega) hf (by simp [World.setCell]) rfl rfl rfl (fun k _ hk => Below.heap_setCell _ _ _ _ hk)
  refine ⟨a1, a2, h.old, heap_far h.box (by omega) _ _, h.qlt, heap_far h.lvar h3 _ _, Tr.owns_block h.lrow fun g hg => Below.heap_setCell _ _ _ _ fun (e : g = r) => hl (by rw [← e]; exact hg), h.lfree, Tr.owns_block h.mrow fun g hg => Below.heap_setCell _ _ _ _ fun e => ?_⟩
  obtain ⟨c', hc'⟩ := own_at h.mrow hg
  rw [e, hc] at hc'
  simp at hc'
theorem st_drop {st : List (Int × Tok)} {k : Nat} (hk : k < st.length) : ∃ p, st.drop (st.length - (k + 1)) = p :: st.drop (st.length - k) ∧ (∀ a : Int, ((st.reverse.map (·.1)) ++ [a]).getD k 0 = p.1) ∧ (st.reverse.map (·.2)).getD k zTok = p.2 ∧ p ∈ st := by
  have hi : st.length - 1 - k < st.length := by omega
  refine ⟨st[st.length - 1 - k], ?_, fun a => ?_, ?_, List.getElem_mem hi⟩
  · have h1 := List.drop_eq_getElem_cons hi
    rw [show st.length - (k + 1) = st.length - 1 - k by omega, h1, show st.length - 1 - k + 1 = st.length - k by omega]
  · rw [List.getD, List.getElem?_append_left (by simp; omega), List.getElem?_map, List.getElem?_reverse hk, List.getElem?_eq_getElem hi]
    rfl
  · rw [List.getD, List.getElem?_map, List.getElem?_reverse hk, List.getElem?_eq_getElem hi]
    rfl
/-- What the loads of a round read. -/
def SAll (b q1 q3 r7 g3 n c3 k : Nat) (a0 : Int) (x : Tok) (W : World) : Prop := W.cell? ⟨q1, 0, none⟩ = some (.pointer (some ⟨b, 0, none⟩)) ∧ W.cell? ⟨q3, 0, none⟩ = some (.slice (some ⟨g3, 0, none⟩) n c3) ∧ W.cell? ⟨g3, k, none⟩ = some (.int .i64 a0) ∧
  W.cell? ⟨r7, 0, none⟩ = some (.int .i64 x.kind) ∧ W.cell? ⟨r7, 1, none⟩ = some (.string x.text) ∧ W.cell? ⟨r7, 2, none⟩ = some (.int .i64 x.num) ∧ W.cell? ⟨r7, 3, none⟩ = some (.int .i64 x.line) ∧ W.cell? ⟨r7, 4, none⟩ = some (.int .i64 x.col)
theorem AllAt.sall {w0 : World} {B b t : Nat} {tv : Value} {ts l : List Tok} {d : Int} {v : Value} {ms : List (Nd × Value)} {q3 g3 n c3 k r7 : Nat} {js : List Int} {mks : List Tok} {mv : Value} {v' : Value} {ms' : List (Nd × Value)} {wr : World} {x : Tok} (h : AllAt w0 B b t tv ts l d v ms q3 js mks (.slice (some ⟨g3, 0, none⟩) n c3) mv v' ms' wr) (hk : k < js.length) (hn : js.length = n) (hr : wr.heap[r7]? = some (.cells #[.int .i64 x.kind, .string x.text, .int .i64 x.num, .int .i64 x.line, .int .i64 x.col] 35)) : SAll b w0.heap.size q3 r7 g3 n c3 k (js.getD k 0) x wr := by
  subst hn
  obtain ⟨t0, t1, t2, t3, t4⟩ := cellsOf5 hr
  refine ⟨Tr.cellOf1 h.box, Tr.cellOf1 h.lvar, ?_, t0, t1, t2, t3, t4⟩
  have hl := h.lrow
  rw [World.ownsRow.cellAt hl k (by omega)]
  simp [List.getD, hk]
section
variable (w : World) (B b t : Nat) (tv : Value) (ts l0 l1 : List Tok) (d : Int) (v : Value) (ms : List (Nd × Value)) (q3 q5 q51 : Nat) (st : List (Int × Tok)) (a : Int) (lv mv : Value) (m0 : List Nd) (R : Out Int)
/-- Where it stands with k of them still to be put. -/
def JAll (k : Nat) (W : World) : Prop := ∃ (o : Int) (v' : Value) (ms' : List (Nd × Value)), AllAt w B b t tv ts l1 d v ms q3 ((st.reverse.map (·.1)) ++ [a]) (st.reverse.map (·.2)) lv mv v' ms' W ∧ W.heap[q5]? = some (.cells #[.int .i64 o] 3) ∧ Free ms' q5 ∧ W.heap[q51]? = some (.cells #[mv] 67) ∧
  foldP (st.drop (st.length - k)) o l1 (ms'.map (·.1)) = R ∧ Adv l0 m0 l1 (ms'.map (·.1)) ∧ Paid m0 (((st.drop (st.length - k)).reverse.map (·.1)) ++ [o]) (ms'.map (·.1))
def MidAll (k : Nat) (a' : Act) (W : World) : Prop := ∃ (x : Tok) (r7 : Nat) (u8 u9 u10 u11 u12 u13 u14 u15 u16 u17 u18 u19 u20 u21 u22 u23 u24 u25 u26 u27 u28 u29 u30 u31 u32 u33 u34 u35 u36 u37 u38 u39 u40 u41 u42 u43 u44 u45 u46 u47 u48 u49 u50 u51 u52 u53 u54 u55 u56 u57 u58 u59 u60 u61 u62 u63 : Value), a' = { tmps := #[Value.pointer (some ⟨b, 0, none⟩), Value.pointer (some ⟨w.heap.size, 0, none⟩), Value.int .i64 0, Value.pointer (some ⟨q3, 0, none⟩), mv, Value.pointer (some ⟨q5, 0, none⟩), Value.int .i64 (k : Int), Value.pointer (some ⟨r7, 0, none⟩), u8, u9, u10, u11, u12, u13, u14, u15, u16, u17, u18, u19, u20, u21, u22, u23, u24, u25, u26, u27, u28, u29, u30, u31, u32, u33, u34, u35, u36, u37, u38, u39, u40, u41, u42, u43, u44, u45, u46, u47, u48, u49, u50, u51, u52, u53, u54, u55, u56, u57, u58, u59, u60, u61, u62, u63], defers := [] } ∧ JAll w B b t tv ts l0 l1 d v ms q3 q5 q51 st a lv mv m0 R (k + 1) W ∧ k < st.length ∧ x = (st.reverse.map (·.2)).getD k zTok ∧ W.heap[r7]? = some (.cells #[.int .i64 x.kind, .string x.text, .int .i64 x.num, .int .i64 x.line, .int .i64 x.col] 35)
end
section
variable {w : World} {B b t : Nat} {tv : Value} {ts l0 l1 : List Tok} {d : Int} {v : Value} {ms : List (Nd × Value)} {q3 q5 q51 : Nat} {st : List (Int × Tok)} {a : Int} {lv mv : Value} {m0 : List Nd} {R : Out Int}
theorem JAll.put {k : Nat} {W : World} {r : Nat} {o : Obj} (h : JAll w B b t tv ts l0 l1 d v ms q3 q5 q51 st a lv mv m0 R k W) (hr : w.heap.size ≤ r) (ho : W.heap[r]? = some o) (hc : o.isCells = false) (o' : Obj) : JAll w B b t tv ts l0 l1 d v ms q3 q5 q51 st a lv mv m0 R k (W.putObj r o') := by
  obtain ⟨o1, v', ms', h1, h2, h3, h4, h5⟩ := h
  exact ⟨o1, v', ms', h1.put hr ho hc o', (World.putObj_heap_other (cells_ne ho hc h2)).trans h2, h3, (World.putObj_heap_other (cells_ne ho hc h4)).trans h4, h5⟩
theorem JAll.under {k : Nat} {W W' : World} (h : JAll w B b t tv ts l0 l1 d v ms q3 q5 q51 st a lv mv m0 R k W) (hb : Below W.heap.size W W') : JAll w B b t tv ts l0 l1 d v ms q3 q5 q51 st a lv mv m0 R k W' := by
  obtain ⟨o1, v', ms', h1, h2, h3, h4, h5⟩ := h
  exact ⟨o1, v', ms', h1.under hb, (hb.block _ (heap_lt h2)).trans h2, h3, (hb.block _ (heap_lt h4)).trans h4, h5⟩
set_option maxRecDepth 100000 in
set_option maxHeartbeats 16000000 in
theorem all_tail {v1 : Value} {ms1 : List (Nd × Value)} {W : World} {Q : Exit → Act → World → Prop} (u5 u6 u7 u8 u9 u10 u11 u12 u13 u14 u15 u16 u17 u18 u19 u20 u21 u22 u23 u24 u25 u26 u27 u28 u29 u30 u31 u32 u33 u34 u35 u36 u37 u38 u39 u40 u41 u42 u43 u44 u45 u46 u47 u48 u49 u50 u51 u52 u53 u54 u55 u56 u57 u58 u59 u60 u61 u62 u63 : Value)
    (hqp : ∀ ch tmps D W, W.heap[D]? = some (.deferred (some [])) → PostG intV B b t tv ts d v ms w R (.panicked ch) (W.putObj D (.deferred none)) → Q (.panic ch) { tmps := tmps, defers := [{ target := .collected D, args := #[] }] } W)
    (hqr : ∀ tmps D W i, (tmps : Array Value).getD 2 undef = .int .i64 i → W.heap[D]? = some (.deferred (some [])) → PostG intV B b t tv ts d v ms w R (.returned (.int .i64 i)) (W.putObj D (.deferred none)) → Q .ret { tmps := tmps, defers := [{ target := .collected D, args := #[] }] } W)
    (hat : AllAt w B b t tv ts l1 d v ms q3 ((st.reverse.map (·.1)) ++ [a]) (st.reverse.map (·.2)) lv mv v1 ms1 W) (hf : foldP st a l1 (ms1.map (·.1)) = R) (hadv : Adv l0 m0 l1 (ms1.map (·.1))) (hpd : Paid m0 ((st.reverse.map (·.1)) ++ [a]) (ms1.map (·.1))) (htk : ∀ p ∈ st, TkOk p.2) (hlen : st.length ≤ 65540) (hbw0 : b < w.heap.size) :
    wpAt 26 Tryz.prog restC Q { tmps := #[Value.pointer (some ⟨b, 0, none⟩), Value.pointer (some ⟨w.heap.size, 0, none⟩), Value.int .i64 0, Value.pointer (some ⟨q3, 0, none⟩), mv, u5, u6, u7, u8, u9, u10, u11, u12, u13, u14, u15, u16, u17, u18, u19, u20, u21, u22, u23, u24, u25, u26, u27, u28, u29, u30, u31, u32, u33, u34, u35, u36, u37, u38, u39, u40, u41, u42, u43, u44, u45, u46, u47, u48, u49, u50, u51, u52, u53, u54, u55, u56, u57, u58, u59, u60, u61, u62, u63], defers := [] } W := by
  have hjl : ((st.reverse.map (·.1)) ++ [a]).length = st.length + 1 := by simp
  have hml : (st.reverse.map (·.2)).length = st.length := by simp
  have HML := Lib.hid hml
  obtain ⟨A4, c4, hmv⟩ := row_form hat.mrow
  rw [hml] at hmv
  subst hmv
  have hq5 : JAll w B b t tv ts l0 l1 d v ms q3 W.heap.size (W.heap.size + 1) st a lv (.slice A4 st.length c4) m0 R st.length ((W.alloc (.cells #[.int .i64 a] 3)).alloc (.cells #[.slice A4 st.length c4] 67)) := by
    have hb1 := (Below.refl W.heap.size W).alloc (Nat.le_refl _) (.cells #[.int .i64 a] 3)
    have hb2 := (Below.refl _ (W.alloc (.cells #[.int .i64 a] 3))).alloc (Nat.le_refl _) (.cells #[.slice A4 st.length c4] 67)
    refine ⟨a, v1, ms1, hat.under (chain hb1 hb2), (hb2.block _ (by simp)).trans (last W _), TreeAt.free hat.rd.tree (Nat.le_refl _), lastk _ _ (by simp), ?_, hadv, ?_⟩
    · rw [Nat.sub_self, List.drop_zero]; exact hf
    · rw [Nat.sub_self, List.drop_zero]; exact hpd
  obtain ⟨g3, c3, hlv, hc3⟩ := own_get hat.lrow (by omega)
  rw [hjl] at hc3 hlv
  subst hlv
  have q1 := Tr.cellOf1 hat.box
  have k3 := Tr.cellOf1 hat.lvar
  have ka := hc3 st.length (by omega)
  rw [show ((st.reverse.map (·.1)) ++ [a]).getD st.length 0 = a by simp [List.getD]] at ka
  have HAT := Lib.hid hat
  have HJL := Lib.hid hjl
  have HB := Lib.hid hbw0
  have HQ5 := Lib.hid (heap_lt hat.box)
  have HQ35 := Lib.hid (heap_lt hat.lvar)
  have HG3 := Lib.hid (hat.lrow.lt g3 rfl).2
  have HJ := Lib.hid hq5
  have HTK := Lib.hid htk
  have HQP := Lib.hid hqp
  have HQR := Lib.hid hqr
  clear hat hf hadv hpd htk hc3 hq5 hqp hqr hml hjl hbw0
  unfold restC Tryz.f26
  dsimp only
  refine wpAt_seq (wpAt_of_wp ?_)
  go_wp2_with fail
  clear q1 k3 ka
  have hbw := Backward_in A4 st.length c4 (W.alloc (.cells #[.int .i64 a] 3))
  have hs5 : (W.alloc (.cells #[.int .i64 a] 3)).heap.size = W.heap.size + 1 := by simp
  rw [hs5] at hbw
  refine wpAt_seq ?_
  refine wpAt_seq (wpAt_of_wp ?_)
  go_wp2_with fail
  refine hbw.mono ?_
  clear hbw hs5
  rintro e w2 ⟨rfl, rfl⟩
  go_wp2_with fail
  refine wpAt_block ?_
  generalize W.heap.size = q5 at *
  generalize (W.alloc (.cells #[.int .i64 a] 3)).alloc (.cells #[.slice A4 st.length c4] 67) = W1 at *
  have hsz : w.heap.size ≤ W1.heap.size := by
    obtain ⟨o1, v', ms', h1, h2, h3, h4, h5⟩ := HJ.out
    exact h1.moved.size
  refine back_at Tryz.func26 (q := q5 + 1) (A := A4) (n := st.length) (cap := c4) (mks := st.reverse.map (·.2)) rfl rfl HML.out (by omega) (JAll w B b t tv ts l0 l1 d v ms q3 q5 (q5 + 1) st a (.slice (some ⟨g3, 0, none⟩) (st.length + 1) c3) (.slice A4 st.length c4) m0 R) (fun ch W => ∀ o', PostG intV B b t tv ts d v ms w R (.panicked ch) (W.putObj W1.heap.size o')) (MidAll w B b t tv ts l0 l1 d v ms q3 q5 (q5 + 1) st a (.slice (some ⟨g3, 0, none⟩) (st.length + 1) c3) (.slice A4 st.length c4) m0 R) ?hJ ?hM ?hg ?hq ?ht HJ.out ?assign ?body ?done ?pan
  case hJ => exact fun k W' o o' ho hc h => h.put (by omega) ho hc o'
  case hM =>
    rintro k a' W' o o' ho hc ⟨x, r7, u8, u9, u10, u11, u12, u13, u14, u15, u16, u17, u18, u19, u20, u21, u22, u23, u24, u25, u26, u27, u28, u29, u30, u31, u32, u33, u34, u35, u36, u37, u38, u39, u40, u41, u42, u43, u44, u45, u46, u47, u48, u49, u50, u51, u52, u53, u54, u55, u56, u57, u58, u59, u60, u61, u62, u63, ha, hj, hk, hx, hr⟩
    exact ⟨x, r7, u8, u9, u10, u11, u12, u13, u14, u15, u16, u17, u18, u19, u20, u21, u22, u23, u24, u25, u26, u27, u28, u29, u30, u31, u32, u33, u34, u35, u36, u37, u38, u39, u40, u41, u42, u43, u44, u45, u46, u47, u48, u49, u50, u51, u52, u53, u54, u55, u56, u57, u58, u59, u60, u61, u62, u63, ha, hj.put (by omega) ho hc o', hk, hx, (World.putObj_heap_other (cells_ne ho hc hr)).trans hr⟩
  case hg => exact fun k W' o h => h.under ((Below.refl _ W').alloc (Nat.le_refl _) o)
  case hq =>
    rintro k W' ⟨o, v', ms', _, _, _, h4, _⟩
    exact Tr.cellOf1 h4
  case ht =>
    rintro k W' ⟨o, v', ms', h1, _⟩ hk
    have hm := h1.mrow
    rcases h1.mrow.2 with ⟨_, h0⟩ | ⟨g, cap, cur, e, _⟩
    · rw [HML.out] at h0
      omega
    · have eA : A4 = some ⟨g, 0, none⟩ := by
        injection e
      rw [eA, HML.out] at hm
      have c : ∀ j, j < 5 → W'.cell? ⟨g, k * 5 + j, none⟩ = (tokCells ((st.reverse.map (·.2)).getD k zTok))[j]? := fun j hj => by
        rw [World.ownsRow.cellAt hm (k * 5 + j) (by omega), rowsT_at _ k j (by rw [HML.out]; exact hk) hj]
      exact ⟨g, eA, c 0 (by omega), c 1 (by omega), c 2 (by omega), c 3 (by omega), c 4 (by omega)⟩
  case assign =>
    intro l k W' K hk hj hK
    unfold tokV
    generalize hx : (st.reverse.map (·.2)).getD k zTok = x at *
    have HJ1 := Lib.hid hj
    have HX := Lib.hid hx
    have HK := Lib.hid hK
    clear hj hx hK
    rw [fold_zip2]
    clear HAT HJ HTK HQP HQR HML hsz
    gi_wp2
    refine HK.out _ _ (KeepsOthers.alloc _ _) ⟨x, W'.heap.size, _, _, _, _, _, _, _, _, _, _, _, _, _, _, _, _, _, _, _, _, _, _, _, _, _, _, _, _, _, _, _, _, _, _, _, _, _, _, _, _, _, _, _, _, _, _, _, _, _, _, _, _, _, _, _, _, rfl, ?_, hk, ?_, ?_⟩
    · exact HJ1.out.under ((Below.refl _ W').alloc (Nat.le_refl _) _)
    · exact HX.out.symm
    · exact lastk _ _ (by simp)
  case done =>
    intro W' hj hd
    obtain ⟨o, v', ms', h1, h2, h3, h4, hf, hadv, hpd⟩ := hj
    have o5 := Tr.cellOf1 h2
    have hp : PostG intV B b t tv ts d v ms w R (.returned (.int .i64 o)) (W'.putObj W1.heap.size (.deferred none)) := by
      rw [Nat.sub_zero, List.drop_length] at hf
      rw [← hf]
      have h5 := h1.put hsz hd rfl (.deferred none)
      exact ⟨rfl, v', ms', rfl, h5.rd, h5.moved⟩
    have HP := Lib.hid hp
    have HD := Lib.hid hd
    clear hp h1 h2 h3 h4 hf hadv hpd hd
    clear HAT HJ HTK HML hsz
    refine wpAt_of_wp ?_
    go_wp2_with fail
    exact HQR.out _ _ _ _ rfl HD.out HP.out
  case pan => exact fun ch W' hp hd => HQP.out ch _ _ _ hd (hp _)
  case body =>
    rintro l k a' W' ⟨x, r7, u8, u9, u10, u11, u12, u13, u14, u15, u16, u17, u18, u19, u20, u21, u22, u23, u24, u25, u26, u27, u28, u29, u30, u31, u32, u33, u34, u35, u36, u37, u38, u39, u40, u41, u42, u43, u44, u45, u46, u47, u48, u49, u50, u51, u52, u53, u54, u55, u56, u57, u58, u59, u60, u61, u62, u63, rfl, hj, hk, hx, hr7⟩
    obtain ⟨o, v', ms', h1, h2, hfr, h4, hf, hadv, hpd⟩ := hj
    obtain ⟨p, hp1, hp2, hp3, hp4⟩ := st_drop hk
    rw [hp1] at hf hpd
    have hxp : x = p.2 := hx.trans hp3
    have htk := HTK.out p hp4
    rw [← hxp] at htk
    have hpd' : Paid m0 (((st.drop (st.length - k)).reverse.map (·.1)) ++ [p.1, o]) (ms'.map (·.1)) := by simpa using hpd
    have hno := node_ok2 (op := nSeq) (name := nNil) hadv.pre (by decide) htk (by decide) (by simp) hpd'
    replace hf : ((nodeP nSeq x nNil [p.1, o] l1 (ms'.map (·.1))).bind fun c l m => foldP (st.drop (st.length - k)) c l m) = R := by rw [hxp]; exact hf
    have hbd := (Below.refl W'.heap.size W').drew
    have h1d := h1.under hbd
    have hsall := h1d.sall (k := k) (by rw [HJL.out]; omega) HJL.out hr7
    have h2d : W'.drew.heap[q5]? = some (.cells #[.int .i64 o] 3) := h2
    have hr7d : W'.drew.heap[r7]? = some (.cells #[.int .i64 x.kind, .string x.text, .int .i64 x.num, .int .i64 x.line, .int .i64 x.col] 35) := hr7
    have h4d : W'.drew.heap[q5 + 1]? = some (.cells #[.slice A4 st.length c4] 67) := h4
    rw [hp2 a] at hsall
    have hko : KeepsOthers W' W'.drew := KeepsOthers.drew W'
    have hba := (Below.refl W'.drew.heap.size W'.drew).alloc (Nat.le_refl _) (.cells #[.int .i64 p.1, .int .i64 o] 3)
    have h1a := h1d.under hba
    have hnode : Calls Tryz.prog 49 #[.pointer (some ⟨b, 0, none⟩), .string ⟨#[115, 101, 113]⟩, tokV x, .string ⟨#[]⟩, .slice (some ⟨W'.drew.heap.size, 0, none⟩) 2 2] (W'.drew.alloc (.cells #[.int .i64 p.1, .int .i64 o] 3)) fun e w' => PostG intV B b t tv ts d v' ms' (W'.drew.alloc (.cells #[.int .i64 p.1, .int .i64 o] 3)) (nodeP nSeq x nNil [p.1, o] l1 (ms'.map (·.1))) e w' :=
      node_in h1a.rd (by have := h1a.rd.base; have := h1a.rd.lt; omega) nSeq x nNil (ints_two W'.drew p.1 o) (by simp) (fun i hi => by
        have := hpd'.there i (List.mem_append_right _ hi)
        simpa using this) (hno.mono fun i l' m' h => h.1.pre)
    unfold tokV at hnode
    generalize nodeP nSeq x nNil [p.1, o] l1 (ms'.map (·.1)) = Rn at *
    have HSZ := Lib.hid hsz
    have HADV := Lib.hid hadv
    have o5 := Tr.cellOf1 h2d
    have f5 : W'.drew.frozen? ⟨q5, 0, none⟩ = false := frozenOf h2d 0
    have H1A := Lib.hid h1a
    have HF := Lib.hid hf
    have HNO := Lib.hid hno
    have HNODE := Lib.hid hnode
    have HFR := Lib.hid hfr
    have HKO := Lib.hid hko
    have H2A := Lib.hid ((hba.block _ (heap_lt h2d)).trans h2d)
    have H4A := Lib.hid ((hba.block _ (heap_lt h4d)).trans h4d)
    have HR7A := Lib.hid ((hba.block _ (heap_lt hr7d)).trans hr7d)
    have HSA := Lib.hid (show SAll b w.heap.size q3 r7 g3 (st.length + 1) c3 k p.1 x (W'.drew.alloc (.cells #[.int .i64 p.1, .int .i64 o] 3)) from (by have h := h1a.sall (k := k) (by rw [HJL.out]; omega) HJL.out ((hba.block _ (heap_lt hr7d)).trans hr7d); rw [hp2 a] at h; exact h))
    have HP2 := Lib.hid (hp2 a)
    have HK := Lib.hid hk
    have hkz : (0 : Int) ≤ (k : Int) := by omega
    have hkn : (k : Int) < (st.length : Int) + 1 := by omega
    clear h1 h2 hfr h4 hf hadv hpd hp1 hp2 hp3 hp4 hx hr7 hxp htk hpd' hno hbd h1d h2d hr7d h4d hko hba h1a hnode hk
    clear HAT HJ HTK HQP HQR HML hsz
    refine wpIn_block ?_
    refine region_round (S := SAll b w.heap.size q3 r7 g3 (st.length + 1) c3 k p.1 x) rfl ?nod ?nol hsall ?_
    case nod =>
      intro i o ho c he
      have hm := Array.mem_of_getElem? ho
      simp only [List.mem_toArray, List.mem_cons, List.not_mem_nil, or_false] at hm
      rcases hm with rfl | rfl | rfl | rfl | rfl | rfl | rfl | rfl | rfl | rfl <;> cases he
    case nol => exact fun ⟨a, w, h⟩ => h
    intro hHeld
    refine' wpAnyH_take (i := 0) (oi := { dst := some 54, op := Go.Op.load 28 (Go.Operand.tmp 1), type := 28, pos := "expr.go:165", after := #[], guard := none }) (v := ?v0) rfl (by kernel_rfl) (by kernel_rfl) (by kernel_rfl) (fun c a w h => h) (Or.inl ⟨by rfl, ?hy0⟩) hHeld ?rest0
    case hy0 =>
      rintro W0 ⟨s0, s1, s2, s3, s4, s5, s6, s7⟩
      (go_simp) <;> (try with_reducible rfl)
    case rest0 =>
    try simp only [Act.put, List.setIfInBounds_toArray, List.set_cons_zero, List.set_cons_succ]
    refine' wpAnyH_take (i := 1) (oi := { dst := some 55, op := Go.Op.load 35 (Go.Operand.tmp 7), type := 35, pos := "expr.go:165", after := #[], guard := none }) (v := ?v1) rfl (by kernel_rfl) (by kernel_rfl) (by kernel_rfl) (fun c a w h => h) (Or.inl ⟨by rfl, ?hy1⟩) hHeld ?rest1
    case hy1 =>
      rintro W0 ⟨s0, s1, s2, s3, s4, s5, s6, s7⟩
      (go_simp) <;> (try with_reducible rfl)
    case rest1 =>
    try simp only [Act.put, List.setIfInBounds_toArray, List.set_cons_zero, List.set_cons_succ]
    refine' wpAnyH_take (i := 2) (oi := { dst := some 56, op := Go.Op.load 51 (Go.Operand.tmp 3), type := 51, pos := "expr.go:165", after := #[], guard := none }) (v := ?v2) rfl (by kernel_rfl) (by kernel_rfl) (by kernel_rfl) (fun c a w h => h) (Or.inl ⟨by rfl, ?hy2⟩) hHeld ?rest2
    case hy2 =>
      rintro W0 ⟨s0, s1, s2, s3, s4, s5, s6, s7⟩
      (go_simp) <;> (try with_reducible rfl)
    case rest2 =>
    try simp only [Act.put, List.setIfInBounds_toArray, List.set_cons_zero, List.set_cons_succ]
    refine' wpAnyH_take (i := 3) (oi := { dst := some 57, op := Go.Op.move (Go.Operand.tmp 6), type := 3, pos := "expr.go:165", after := #[], guard := none }) (v := ?v3) rfl (by kernel_rfl) (by kernel_rfl) (by kernel_rfl) (fun c a w h => h) (Or.inl ⟨by rfl, ?hy3⟩) hHeld ?rest3
    case hy3 =>
      rintro W0 ⟨s0, s1, s2, s3, s4, s5, s6, s7⟩
      (go_simp) <;> (try with_reducible rfl)
    case rest3 =>
    try simp only [Act.put, List.setIfInBounds_toArray, List.set_cons_zero, List.set_cons_succ]
    refine' wpAnyH_take (i := 4) (oi := { dst := some 58, op := Go.Op.indexAddr 51 (Go.Operand.tmp 56) (Go.Operand.tmp 57), type := 0, pos := "expr.go:165", after := #[{ on := 2, ground := Go.Ground.data }, { on := 3, ground := Go.Ground.data }], guard := none }) (v := ?v4) rfl (by kernel_rfl) (by kernel_rfl) (by kernel_rfl) (fun c a w h => h) (Or.inl ⟨by rfl, ?hy4⟩) hHeld ?rest4
    case hy4 =>
      rintro W0 ⟨s0, s1, s2, s3, s4, s5, s6, s7⟩
      (go_simp) <;> (try with_reducible rfl)
    case rest4 =>
    try simp only [Act.put, List.setIfInBounds_toArray, List.set_cons_zero, List.set_cons_succ]
    refine' wpAnyH_take (i := 5) (oi := { dst := some 59, op := Go.Op.load 3 (Go.Operand.tmp 58), type := 3, pos := "expr.go:165", after := #[{ on := 4, ground := Go.Ground.data }], guard := none }) (v := ?v5) rfl (by kernel_rfl) (by kernel_rfl) (by kernel_rfl) (fun c a w h => h) (Or.inl ⟨by rfl, ?hy5⟩) hHeld ?rest5
    case hy5 =>
      rintro W0 ⟨s0, s1, s2, s3, s4, s5, s6, s7⟩
      (go_simp) <;> (try with_reducible rfl)
    case rest5 =>
    try simp only [Act.put, List.setIfInBounds_toArray, List.set_cons_zero, List.set_cons_succ]
    refine wpAnyH_ready (rs := [6]) (by kernel_rfl) (by simp) ?_
    refine AllReadyH.cons (o := { dst := some 60, op := Go.Op.load 3 (Go.Operand.tmp 5), type := 3, pos := "expr.go:165", after := #[], guard := none }) rfl (fun K hK => ?_) AllReadyH.nil
    go_simp
    refine hK.out _ _ hHeld (fun _ => ?_)
    clear hK K
    try simp only [Act.put, List.setIfInBounds_toArray, List.set_cons_zero, List.set_cons_succ]
    refine wpAnyH_ready (rs := [7]) (by kernel_rfl) (by simp) ?_
    refine AllReadyH.cons (o := { dst := some 61, op := Go.Op.buildSlice 51 2 #[(0, Go.Operand.tmp 59), (1, Go.Operand.tmp 60)], type := 51, pos := "expr.go:165", after := #[{ on := 5, ground := Go.Ground.data }, { on := 6, ground := Go.Ground.data }], guard := none }) rfl (fun K hK => ?_) AllReadyH.nil
    go_simp
    refine hK.out _ _ HSA.out (fun hHeld => ?_)
    clear o5 f5 hsall
    clear hK K
    try simp only [Act.put, List.setIfInBounds_toArray, List.set_cons_zero, List.set_cons_succ]
    refine wpAnyH_ready (rs := [8]) (by kernel_rfl) (by simp) ?_
    refine AllReadyH.cons (o := { dst := some 62, op := Go.Op.call { callee := Go.Callee.value (Go.Operand.func 49), args := #[Go.Operand.tmp 54, Go.Operand.const (Go.Value.string { data := #[115, 101, 113] }), Go.Operand.tmp 55, Go.Operand.const (Go.Value.string { data := #[] }), Go.Operand.tmp 61], argTypes := #[28, 9, 35, 9, 51] }, type := 3, pos := "expr.go:165", after := #[{ on := 0, ground := Go.Ground.data }, { on := 1, ground := Go.Ground.data }, { on := 7, ground := Go.Ground.data }], guard := none }) rfl (fun K hK => ?_) AllReadyH.nil
    go_simp
    refine HNODE.out.mono ?_
    intro e w10 hp
    cases Rn with
    | bad c ln cl =>
      obtain ⟨rfl, hbd⟩ := hp
      have hq : R = .bad c ln cl := HF.out.symm
      subst hq
      have HPN := Lib.hid (And.intro ((HKO.out.trans (KeepsOthers.alloc _ _)).trans (let ⟨_, _, _, _, m⟩ := hbd; m.others H1A.out.rd)) (fun o' => (hbd.after H1A.out.moved.toMv).put HB.out HSZ.out o'))
      clear hbd hK
      go_simp
      exact ⟨rfl, HPN.out.1, fun o' => ⟨rfl, HPN.out.2 o'⟩⟩
    | ok c l3 m3 =>
      obtain ⟨rfl, v2, ms2, rfl, hr10, hm10⟩ := hp
      obtain ⟨hadv3, hpd3, rfl⟩ := HNO.out
      have hall := H1A.out.move hr10 hm10
      have h2t := hm10.keep H1A.out.rd H2A.out (by decide) (by decide) (by decide)
      have h4t := hm10.keep H1A.out.rd H4A.out (by decide) (by decide) (by decide)
      have h7t := hm10.keep H1A.out.rd HR7A.out (by decide) (by decide) (by decide)
      have hfrt := HFR.out.move hm10.kn (heap_lt H2A.out)
      have hst := hall.sall (k := k) (by rw [HJL.out]; have := HK.out; omega) HJL.out h7t
      rw [HP2.out] at hst
      have hallu := hall.set (x := .int .i64 c) HQ5.out h2t hfrt (by have := HQ35.out; omega) (fun e => by have := HG3.out; have h6 : g3 = q5 := Option.some.inj e; omega)
      have h2u : (w10.setCell ⟨q5, 0, none⟩ (.int .i64 c)).heap[q5]? = some (.cells #[.int .i64 c] 3) := (setc h2t 0 _).trans rfl
      have h4u := heap_far h4t (show q5 + 1 ≠ q5 by omega) 0 (.int .i64 c)
      have h7u := heap_far h7t (k := q5) (fun e => by rw [e, h2t] at h7t; simp at h7t) 0 (.int .i64 c)
      have hsu := hallu.sall (k := k) (by rw [HJL.out]; have := HK.out; omega) HJL.out h7u
      rw [HP2.out] at hsu
      have HKN := Lib.hid (((HKO.out.trans (KeepsOthers.alloc _ _)).trans (hm10.toMv.others H1A.out.rd)).trans (KeepsOthers.setCell w10 ⟨q5, 0, none⟩ (.int .i64 c)))
      have HJN := Lib.hid (show JAll w B b t tv ts l0 l3 d v ms q3 q5 (q5 + 1) st a (.slice (some ⟨g3, 0, none⟩) (st.length + 1) c3) (.slice A4 st.length c4) m0 R k (w10.setCell ⟨q5, 0, none⟩ (.int .i64 c)) from ⟨c, v2, ms2, hallu, h2u, hfrt, h4u, HF.out, HADV.out.trans hadv3, hpd3⟩)
      have HSU := Lib.hid hsu
      have o5 := Tr.cellOf1 h2t
      have f5 : w10.frozen? ⟨q5, 0, none⟩ = false := frozenOf h2t 0
      unfold intV
      go_simp
      refine hK.out _ _ hst (fun _ => ?_)
      clear hr10 hm10 hadv3 hpd3 hall h2t h4t h7t hfrt hst hallu h2u h4u h7u hsu
      clear hK K
      try simp only [Act.put, List.setIfInBounds_toArray, List.set_cons_zero, List.set_cons_succ]
      refine wpAnyH_ready (rs := [9]) (by kernel_rfl) (by simp) ?_
      refine AllReadyH.cons (o := { dst := none, op := Go.Op.store 3 (Go.Operand.tmp 5) (Go.Operand.tmp 62), type := 0, pos := "expr.go:165", after := #[{ on := 8, ground := Go.Ground.data }, { on := 8, ground := Go.Ground.chain }, { on := 0, ground := Go.Ground.phase }, { on := 1, ground := Go.Ground.phase }, { on := 2, ground := Go.Ground.phase }, { on := 3, ground := Go.Ground.phase }, { on := 4, ground := Go.Ground.phase }, { on := 5, ground := Go.Ground.phase }, { on := 6, ground := Go.Ground.phase }, { on := 7, ground := Go.Ground.phase }, { on := 8, ground := Go.Ground.phase }], guard := none }) rfl (fun K hK => ?_) AllReadyH.nil
      go_simp
      refine hK.out _ _ HSU.out (fun _ => ?_)
      refine wpAnyH_done (by kernel_rfl) ?_ _
      exact ⟨HKN.out, HJN.out⟩
end
end Go.Proofs.YtmeacgmjpjjphaaGreatDoor
namespace Go.Proofs.YtmeacgmjpjjphaaGreatDoor
open Go.RowKit Go.Shelf
open Tr (Nd TreeAt Own Ints)

section
variable {w0 : World} {B b t : Nat} {tv : Value} {ts l l' : List Tok} {d d' : Int} {v : Value} {ms : List (Nd × Value)} {q3 : Nat} {js : List Int} {mks : List Tok} {lv mv : Value} {v' v'' : Value} {ms' ms'' : List (Nd × Value)} {wr w2 : World}
/-- Blocks of all's own alone have turned. -/
theorem AllAt.far (h : AllAt w0 B b t tv ts l d v ms q3 js mks lv mv v' ms' wr) {S : Nat → Prop} (hS : ∀ r, S r → w0.heap.size < r ∧ (∃ c0 e0, wr.heap[r]? = some (.cells c0 e0) ∧ e0 ≠ 69 ∧ e0 ≠ 88 ∧ e0 ≠ 53) ∧ tv.ownBlock ≠ some r ∧ Free ms' r)
    (hs : wr.heap.size ≤ w2.heap.size) (ho : w2.os = wr.os) (ht : w2.tape = wr.tape) (hp : w2.output = wr.output) (hk : ∀ k, k < wr.heap.size → ¬ S k → w2.heap[k]? = wr.heap[k]?) :
    RdrAt B b t tv ts l d v' ms' w2 ∧ Mw b t v ms w0 v' ms' w2 ∧ w2.heap[w0.heap.size]? = some (.cells #[.pointer (some ⟨b, 0, none⟩)] 28) := by
  have kp : ∀ {k : Nat} {c : Array Value} {e : TypeId}, wr.heap[k]? = some (.cells c e) → ¬ S k → w2.heap[k]? = some (.cells c e) := fun hk' hn => (hk _ (heap_lt hk') hn).trans hk'
  have ne : ∀ {k : Nat} {c : Array Value} {e : TypeId}, wr.heap[k]? = some (.cells c e) → (e = 69 ∨ e = 88 ∨ e = 53) → ¬ S k := fun hk' he e' => by
    obtain ⟨_, ⟨c0, e0, h0, h1, h2, h3⟩, _⟩ := hS _ e'
    rw [h0] at hk'
    simp at hk'
    obtain ⟨_, rfl⟩ := hk'
    rcases he with he | he | he
    · exact h1 he
    · exact h2 he
    · exact h3 he
  have row : ∀ {B' e s m : Nat} {u : Value} {xs : List Value}, wr.ownsRow B' e s u m xs → (∀ r, u.ownBlock = some r → ¬ S r) → w2.ownsRow B' e s u m xs := fun hr' hn => Tr.owns_block hr' fun g hg => by
    obtain ⟨c, hc⟩ := own_at hr' hg
    rw [kp hc (hn g hg), hc]
  obtain ⟨n, g1, g2⟩ := h.rd.obj
  refine ⟨⟨h.rd.base, ⟨n, g1, kp g2 (ne g2 (.inl rfl))⟩, h.rd.suf, row h.rd.toks fun r hr hs => (hS r hs).2.2.1 hr, ⟨h.rd.tree.base, kp h.rd.tree.obj (ne h.rd.tree.obj (.inr (.inl rfl))), row h.rd.tree.rows fun r e => ?_, fun p hp => row (h.rd.tree.kid p hp) fun r hr hs => (hS r hs).2.2.2 p hp hr⟩, h.rd.pre, h.rd.few⟩, ⟨⟨ho.trans h.moved.os, ht.trans h.moved.tape, hp.trans h.moved.output, Nat.le_trans h.moved.size hs, fun k hk' a1 a2 a3 => ?_, h.moved.own⟩, h.moved.kn⟩, kp h.box fun hs => ?_⟩
  · obtain ⟨c, hc⟩ := own_at h.rd.tree.rows e
    exact ne hc (.inr (.inr rfl))
  · exact (hk k (Nat.lt_of_lt_of_le hk' h.moved.size) fun hs => by have := (hS k hs).1; omega).trans (h.moved.block k hk' a1 a2 a3)
  · have := (hS _ hs).1
    omega
theorem row_type {w : World} {B e s m : Nat} {u : Value} {xs : List Value} (h : w.ownsRow B e s u m xs) {k : Nat} (hk : u.ownBlock = some k) {c : Array Value} {e' : TypeId} (hc : w.heap[k]? = some (.cells c e')) : e = e' := by
  obtain ⟨c', hc'⟩ := own_at h hk
  rw [hc] at hc'
  simp at hc'
  exact hc'.2.symm
theorem AllAt.beyond (h : AllAt w0 B b t tv ts l d v ms q3 js mks lv mv v' ms' wr) {e s m : Nat} {u : Value} {xs : List Value} (hr : wr.ownsRow w0.heap.size e s u m xs) (he : e ≠ 28) {r : Nat} (hu : u.ownBlock = some r) : w0.heap.size < r := by
  have h1 := (row_lt hr hu).1
  rcases Nat.lt_or_eq_of_le h1 with h2 | h2
  · exact h2
  · exact absurd (row_type hr hu (h2 ▸ h.box)) he
/-- One token more. -/
theorem AllAt.pushM (h : AllAt w0 B b t tv ts l d v ms q3 js mks lv mv v' ms' wr) {o : Obj} {x : Tok} {nv : Value} (hown : w2.ownsRow w0.heap.size 35 5 nv (mks.length + 1) (rowsT mks ++ tokCells x)) (hgrow : (wr.alloc o).grownBy w2 mv.ownBlock) :
    AllAt w0 B b t tv ts l d v ms q3 js (mks ++ [x]) lv nv v' ms' w2 := by
  have ha := h.under ((Below.refl _ wr).alloc (Nat.le_refl _) o)
  have hst : ∀ r, mv.ownBlock = some r → w0.heap.size < r ∧ (∃ c0 e0, (wr.alloc o).heap[r]? = some (.cells c0 e0) ∧ e0 ≠ 69 ∧ e0 ≠ 88 ∧ e0 ≠ 53) ∧ tv.ownBlock ≠ some r ∧ Free ms' r := fun r hr => by
    have hb := ha.beyond ha.mrow (by decide) hr
    obtain ⟨c, hc⟩ := own_at ha.mrow hr
    exact ⟨hb, ⟨c, _, hc, by decide, by decide, by decide⟩, fun e => by have := ha.old r e; omega, fun p hp e => absurd (row_type (ha.rd.tree.kid p hp) e hc) (by decide)⟩
  obtain ⟨h1, h2, h3⟩ := ha.far (w2 := w2) (S := fun r => mv.ownBlock = some r) hst hgrow.size hgrow.os hgrow.tape hgrow.output (fun k hk hn => hgrow.block k hk fun e => hn e.symm)
  have kp : ∀ {k : Nat} {c : Array Value} {e : TypeId}, (wr.alloc o).heap[k]? = some (.cells c e) → e ≠ 35 → w2.heap[k]? = some (.cells c e) := fun hk' he => (hgrow.block _ (heap_lt hk') fun e => he (row_type ha.mrow e.symm hk').symm).trans hk'
  refine ⟨h1, h2, ha.old, h3, ha.qlt, kp ha.lvar (by decide), Tr.owns_block ha.lrow fun g hg => ?_, ha.lfree, ?_⟩
  · obtain ⟨c, hc⟩ := own_at ha.lrow hg
    rw [kp hc (by decide), hc]
  · rw [rowsT_append, List.length_append]
    simpa [rowsT] using hown
/-- One item more. -/
theorem AllAt.pushL (h : AllAt w0 B b t tv ts l d v ms q3 js mks lv mv v' ms' wr) {o : Obj} {a : Int} {g cap n : Nat} {w3 : World} (hown : w3.ownsRow w0.heap.size 3 1 (.slice (some ⟨g, 0, none⟩) n cap) (js.length + 1) (js.map (.int .i64) ++ [.int .i64 a])) (hgrow : (wr.alloc o).grownBy w3 lv.ownBlock) (hat : lv.ownBlock = some g ∨ g = (wr.alloc o).heap.size) :
    AllAt w0 B b t tv ts l d v ms q3 (js ++ [a]) mks (.slice (some ⟨g, 0, none⟩) n cap) mv v' ms' (w3.setCell ⟨q3, 0, none⟩ (.slice (some ⟨g, 0, none⟩) n cap)) := by
  have ha := h.under ((Below.refl _ wr).alloc (Nat.le_refl _) o)
  have hq3 := ha.lvar
  have hl3 : lv.ownBlock ≠ some q3 := fun e => absurd (row_type ha.lrow e hq3) (by decide)
  have hw3 : w3.heap[q3]? = some (.cells #[lv] 51) := (hgrow.block _ (heap_lt hq3) fun e => hl3 e.symm).trans hq3
  have hst : ∀ r, (r = q3 ∨ lv.ownBlock = some r) → w0.heap.size < r ∧ (∃ c0 e0, (wr.alloc o).heap[r]? = some (.cells c0 e0) ∧ e0 ≠ 69 ∧ e0 ≠ 88 ∧ e0 ≠ 53) ∧ tv.ownBlock ≠ some r ∧ Free ms' r := fun r hr => by
    rcases hr with rfl | hr
    · exact ⟨ha.qlt, ⟨_, _, hq3, by decide, by decide, by decide⟩, fun e => by have := ha.old r e; have := ha.qlt; omega, fun p hp e => absurd (row_type (ha.rd.tree.kid p hp) e hq3) (by decide)⟩
    · have hb := ha.beyond ha.lrow (by decide) hr
      obtain ⟨c, hc⟩ := own_at ha.lrow hr
      exact ⟨hb, ⟨c, _, hc, by decide, by decide, by decide⟩, fun e => by have := ha.old r e; omega, ha.lfree r hr⟩
  have hsz : (w3.setCell ⟨q3, 0, none⟩ (.slice (some ⟨g, 0, none⟩) n cap)).heap.size = w3.heap.size := by simp [World.setCell]
  obtain ⟨h1, h2, h3⟩ := ha.far (w2 := w3.setCell ⟨q3, 0, none⟩ (.slice (some ⟨g, 0, none⟩) n cap)) (S := fun r => r = q3 ∨ lv.ownBlock = some r) hst (by rw [hsz]; exact hgrow.size) hgrow.os hgrow.tape hgrow.output
    (fun k hk hn => (Below.heap_setCell _ _ _ _ (show k ≠ q3 from fun e => hn (.inl e))).trans (hgrow.block k hk fun e => hn (.inr e.symm)))
  have hg3 : g ≠ q3 := fun e => absurd (row_type hown (k := q3) (by rw [← e]; rfl) hw3) (by decide)
  refine ⟨h1, h2, ha.old, h3, ha.qlt, (setc hw3 0 _).trans rfl, Tr.owns_block (show Tr.Own w3 w0.heap.size _ (js ++ [a]) from ?_) fun g' hg' => Below.heap_setCell _ _ _ _ (show g' ≠ q3 from fun e => hg3 (by rw [← e]; exact Option.some.inj hg')), fun g' hg' => ?_, Tr.owns_block ha.mrow fun g' hg' => ?_⟩
  · show w3.ownsRow _ _ _ _ (js ++ [a]).length ((js ++ [a]).map _)
    rw [List.length_append, List.map_append]
    exact hown
  · obtain rfl : g = g' := Option.some.inj hg'
    rcases hat with e | e
    · exact ha.lfree g e
    · exact TreeAt.free ha.rd.tree (Nat.le_of_eq e.symm)
  · obtain ⟨c, hc⟩ := own_at ha.mrow hg'
    rw [Below.heap_setCell _ _ _ _ (show g' ≠ q3 from fun e => absurd (row_type ha.mrow hg' (e ▸ hq3)) (by decide)), hgrow.block g' (heap_lt hc) fun e => absurd (row_type ha.lrow e.symm hc) (by decide)]
end
end Go.Proofs.YtmeacgmjpjjphaaGreatDoor
namespace Go.Proofs.YtmeacgmjpjjphaaGreatDoor
open Go.RowKit Go.Shelf
open Tr (Nd TreeAt Own Ints)

/-- Where all's loop stands. -/
structure GoAll (item : Ps Int) (R : Out Int) (w : World) (B b t : Nat) (tv : Value) (ts l : List Tok) (d : Int) (v : Value) (ms : List (Nd × Value)) (q3 gk : Nat) (mv : Value) (a : Int) (st : List (Int × Tok)) (l1 : List Tok) (lv v1 : Value) (ms1 : List (Nd × Value)) (wr : World) : Prop where
  at' : AllAt w B b t tv ts l1 d v ms q3 ((st.reverse.map (·.1)) ++ [a]) (st.reverse.map (·.2)) lv mv v1 ms1 wr
  goes : goesP item gk st a l1 (ms1.map (·.1)) = R
  adv : Adv l (ms.map (·.1)) l1 (ms1.map (·.1))
  paid : Paid (ms.map (·.1)) ((st.reverse.map (·.1)) ++ [a]) (ms1.map (·.1))
  toks : ∀ p ∈ st, TkOk p.2
  few : l1.length ≤ gk + 1
  many : st.length + l1.length ≤ l.length
attribute [local go_sem ↓] Go.wp_at_zero Go.wp_at_succ
theorem goes_no {item : Ps Int} {n : Nat} {st : List (Int × Tok)} {a : Int} {l : List Tok} {m : List Nd} {R : Out Int} (h : goesP item n st a l m = R) (hc : (isT kSemi (hdT l) && startsT (hdT l.tail)) = false) : foldP st a l m = R := by
  unfold goesP at h
  rw [hc] at h
  exact h
theorem one_int (a : Int) : ∀ u ∈ [Value.int .i64 a], u.oneCell' = true := by simp [Value.oneCell']
theorem AllAt.grown3 {w0 : World} {B b t : Nat} {tv : Value} {ts l : List Tok} {d : Int} {v : Value} {ms : List (Nd × Value)} {q3 : Nat} {js : List Int} {mks : List Tok} {lv mv : Value} {v' : Value} {ms' : List (Nd × Value)} {wr w3 : World} {o : Obj} (h : AllAt w0 B b t tv ts l d v ms q3 js mks lv mv v' ms' wr) (hgrow : (wr.alloc o).grownBy w3 lv.ownBlock) : w3.cell? ⟨q3, 0, none⟩ = some lv ∧ w3.frozen? ⟨q3, 0, none⟩ = false := by
  have ha := h.under ((Below.refl _ wr).alloc (Nat.le_refl _) o)
  have hw3 : w3.heap[q3]? = some (.cells #[lv] 51) := (hgrow.block _ (heap_lt ha.lvar) fun e => absurd (row_type ha.lrow e.symm ha.lvar) (by decide)).trans ha.lvar
  exact ⟨Tr.cellOf1 hw3, frozenOf hw3 0⟩
theorem goes_yes {item : Ps Int} {n : Nat} {st : List (Int × Tok)} {a : Int} {l : List Tok} {m : List Nd} {R : Out Int} (h : goesP item (n + 1) st a l m = R) (hc : (isT kSemi (hdT l) && startsT (hdT l.tail)) = true) : ((item l.tail m).bind fun a' l' m' => goesP item n ((a, hdT l) :: st) a' l' m') = R := by
  unfold goesP at h
  rw [if_pos hc, cont_all] at h
  exact h
set_option maxRecDepth 100000 in
set_option maxHeartbeats 16000000 in
theorem all_in {d : Int} {item : Ps Int} (hg : GoodP item) (hs : FnC 46 d item) : FnC 26 d (allT item) := by
  intro B b t tv ts l v ms w h
  obtain ⟨i0, hi0, hz0, hz1, hz2⟩ := info_parts Tr.info_int
  obtain ⟨j0, hj0, hy0, hy1, hy2⟩ := info_parts info_tok
  have hb0 := (Below.refl w.heap.size w).alloc (Nat.le_refl _) (.cells #[.pointer (some ⟨b, 0, none⟩)] 28)
  have HB0 := Lib.hid hb0
  have HR0 := Lib.hid h
  have HR := Lib.hid (h.under hb0)
  have HL := Lib.hid (last w (.cells #[.pointer (some ⟨b, 0, none⟩)] 28))
  have HS := Lib.hid hs
  have HGD := Lib.hid hg
  obtain ⟨R, hR⟩ : ∃ R, allT item l (ms.map (·.1)) = R := ⟨_, rfl⟩
  rw [hR]
  obtain ⟨nl, hnl⟩ : ∃ n, l.length = n + 1 := by
    obtain ⟨x, r, rfl⟩ := h.pre.ends.cons
    exact ⟨r.length, rfl⟩
  have HNL := Lib.hid hnl
  have HQ := Lib.hid ((all_goes item l (ms.map (·.1)) hnl).symm.trans hR)
  have HG0 := Lib.hid (hg l (ms.map (·.1)) h.pre)
  have hc := hs B b t tv ts l v ms _ HR.out
  have q1 := Tr.cellOf1 HL.out
  have HLT := Lib.hid h.lt
  have HFEW := Lib.hid (show l.length ≤ 65540 from Nat.le_trans h.suf.length_le h.few)
  clear hs hg h hb0 hR hnl
  refine calls_of_wpAt Tryz.func26 rfl ?_
  simp only [Tryz.ntmps26, List.size_toArray, List.length_cons, List.length_nil, Nat.reduceAdd, Nat.reduceSub, Array.replicate_succ, Array.replicate_zero, List.push_toArray, List.append_toArray, List.nil_append, List.cons_append]
  obtain ⟨Q, hQ⟩ : ∃ Q, bodyPostM Fence.wide 3 Tryz.prog Tryz.f26 (fun e w' => PostG intV B b t tv ts d v ms w R e w') = Q := ⟨_, rfl⟩
  rw [hQ]
  have HQ0 := Lib.hid (show ∀ ch tmps W, PostG intV B b t tv ts d v ms w R (.panicked ch) W → Q (.panic ch) { tmps := tmps, defers := [] } W from fun ch tmps W hp => by
    rw [← hQ]
    exact m_panic hp)
  have HQP := Lib.hid (show ∀ ch tmps D W, W.heap[D]? = some (.deferred (some [])) → PostG intV B b t tv ts d v ms w R (.panicked ch) (W.putObj D (.deferred none)) → Q (.panic ch) { tmps := tmps, defers := [{ target := .collected D, args := #[] }] } W from fun ch tmps D W hD hp => by
    rw [← hQ]
    exact ⟨by simp, .inl ⟨_, _, rfl, run_takeDeferred hD, hp⟩⟩)
  have HQR := Lib.hid (show ∀ tmps D W i, (tmps : Array Value).getD 2 undef = .int .i64 i → W.heap[D]? = some (.deferred (some [])) → PostG intV B b t tv ts d v ms w R (.returned (.int .i64 i)) (W.putObj D (.deferred none)) → Q .ret { tmps := tmps, defers := [{ target := .collected D, args := #[] }] } W from fun tmps D W i hi hD hp => by
    rw [← hQ]
    refine ⟨by simp, .inl ⟨_, _, rfl, run_takeDeferred hD, .int .i64 i, ?_, hp⟩⟩
    simp [results, Tryz.results26, go_sem]
    simpa using hi)
  clear hQ
  refine wpAt_seq (wpAt_of_wp ?_)
  go_wp2_with fail
  refine wpAt_seq (wpAt_of_wp ?_)
  go_wp2_with fail
  refine hc.mono ?_
  clear hc
  intro e w2 hp
  have hbx := hp.keep HR.out HL.out (by decide) (by decide) (by decide)
  have hp := PostG.mv (Mw.of HB0.out) hp
  cases ho : item l (ms.map (·.1)) with
  | bad c ln cl =>
    rw [ho] at hp
    have hq := HQ.out
    rw [ho] at hq
    have hq : R = .bad c ln cl := hq.symm
    subst hq
    obtain ⟨rfl, hbd⟩ := hp
    have HX := Lib.hid hbd
    clear hbd ho
    go_wp2_with fail
    exact HQ0.out _ _ _ ⟨rfl, HX.out⟩
  | ok a l1 m1 =>
    rw [ho] at hp
    have hq := HQ.out
    have hgs := HG0.out
    rw [ho] at hq hgs
    obtain ⟨rfl, v1, ms1, rfl, hr1, hmv1⟩ := hp
    have hgs : Fit l (ms.map (·.1)) a l1 (ms1.map (·.1)) := hgs
    have hs2 := hmv1.size
    have h4 : AllAt w B b t tv ts l1 d v ms (w2.heap.size + 1) [a] [] (.slice (some ⟨w2.heap.size, 0, none⟩) 1 1) (.slice none 0 0) v1 ms1 ((w2.alloc (.cells #[.int .i64 a] 3)).alloc (.cells #[.slice (some ⟨w2.heap.size, 0, none⟩) 1 1] 51)) := by
      have hb1 := (Below.refl w2.heap.size w2).alloc (Nat.le_refl _) (.cells #[.int .i64 a] 3)
      have hb2 := (Below.refl (w2.alloc (.cells #[.int .i64 a] 3)).heap.size (w2.alloc (.cells #[.int .i64 a] 3))).alloc (Nat.le_refl _) (.cells #[.slice (some ⟨w2.heap.size, 0, none⟩) 1 1] 51)
      have hb3 := chain hb1 hb2
      refine ⟨hr1.under hb3, hmv1.then hb3, fun g hg => ?_, (hb3.block _ (heap_lt hbx)).trans hbx, by omega, lastk _ _ (by simp), Tr.owns_below (own_one (by omega) a) hb2, fun g hg => ?_, World.ownsRow_nil _ _ _ _⟩
      · obtain ⟨c, hc⟩ := own_at HR0.out.toks hg
        exact heap_lt hc
      · obtain rfl : w2.heap.size = g := Option.some.inj hg
        exact TreeAt.free hr1.tree (Nat.le_refl _)
    have hln := hgs.1.shorter
    have H4 := Lib.hid (show GoAll item R w B b t tv ts l d v ms (w2.heap.size + 1) nl (.slice none 0 0) a [] l1 (.slice (some ⟨w2.heap.size, 0, none⟩) 1 1) v1 ms1 _ from ⟨h4, hq, hgs.1, hgs.2, fun p hp => by simp at hp, by have := HNL.out; omega, by simpa using hln⟩)
    clear h4 hr1 hmv1 hbx hq hgs ho q1 hs2 hln
    unfold intV
    go_wp2_with fail
    refine wpAt_seq (wpAt_of_wp ?_)
    go_wp2_with fail
    generalize (w2.alloc (.cells #[.int .i64 a] 3)).alloc (.cells #[.slice (some ⟨w2.heap.size, 0, none⟩) 1 1] 51) = w4 at *
    generalize w2.heap.size + 1 = q3 at *
    generalize Value.slice (some ⟨w2.heap.size, 0, none⟩) 1 1 = lv0 at *
    refine wpAt_seq (wpAt_of_wp ?_)
    go_upto_region 3 with fail
    go_loopg [4] nl (fun gk iv wr => ∃ (a : Int) (st : List (Int × Tok)) (l1 : List Tok) (lv v1 : Value) (ms1 : List (Nd × Value)), GoAll item R w B b t tv ts l d v ms q3 gk iv a st l1 lv v1 ms1 wr)
    case atStart => exact ⟨a, [], l1, lv0, v1, ms1, H4.out⟩
    case round =>
      clear H4 HQ HG0
      obtain ⟨a, st, l1, lv, v1, ms1, hA⟩ := hrel
      have HA := Lib.hid hA
      have q1 := Tr.cellOf1 hA.at'.box
      have hbw := (Below.refl wr.heap.size wr).drew
      have hbx := hA.at'.box
      have HBX := Lib.hid hbx
      have hst : st.length ≤ 65540 := by have := hA.many; have := HFEW.out; omega
      have HST := Lib.hid hst
      obtain ⟨A4, c4, hmv⟩ := row_form hA.at'.mrow
      rw [List.length_map, List.length_reverse] at hmv
      subst hmv
      clear hbx hst
      cases hI : isT kSemi (hdT l1) with
      | false =>
        have hI0 : ∀ W, Below wr.heap.size wr W → Calls Tryz.prog 12 #[.pointer (some ⟨b, 0, none⟩), .string ⟨#[59]⟩] W fun e w' => e = .returned (.bool false) ∧ Below wr.heap.size wr w' ∧ w'.cell? ⟨w.heap.size, 0, none⟩ = some (.pointer (some ⟨b, 0, none⟩)) := fun W hb => by
          have := Is_in (HA.out.at'.rd.under hb) kSemi
          rw [hI] at this
          refine this.mono fun e w' ⟨h1, h2⟩ => ?_
          have hb2 := chain hb h2
          exact ⟨h1, hb2, Tr.cellOf1 ((hb2.block _ (heap_lt HBX.out)).trans HBX.out)⟩
        have HI := Lib.hid hI0
        have HF := Lib.hid (goes_no hA.goes (by rw [hI]; rfl))
        clear hA hI hI0
        go_upto_region 3 with fail
        refine wp_region_noPanic ?_
        refine wp_region_held_drew (S := fun W => W.cell? ⟨w.heap.size, 0, none⟩ = some (.pointer (some ⟨b, 0, none⟩))) (by kernel_rfl) (show wr.drew.cell? ⟨w.heap.size, 0, none⟩ = _ from q1) (fun hHeld => ?_)
        refine' wpAnyH_take (i := 0) (oi := { dst := some 11, op := Go.Op.load 28 (Go.Operand.tmp 1), type := 28, pos := "expr.go:158", after := #[], guard := none }) (v := ?v0) rfl (by kernel_rfl) (by kernel_rfl) (by kernel_rfl) (fun c a w h => h) (Or.inl ⟨by rfl, ?hy0⟩) hHeld ?rest0
        case hy0 =>
          intro W0 s0
          (go_simp) <;> (try with_reducible rfl)
        case rest0 =>
        try simp only [Act.put, List.setIfInBounds_toArray, List.set_cons_zero, List.set_cons_succ]
        refine wpAnyH_ready (rs := [1]) (by kernel_rfl) (by simp) ?_
        refine AllReadyH.cons (o := { dst := some 12, op := Go.Op.call { callee := Go.Callee.value (Go.Operand.func 12), args := #[Go.Operand.tmp 11, Go.Operand.const (Go.Value.string { data := #[59] })], argTypes := #[28, 9] }, type := 4, pos := "expr.go:158", after := #[{ on := 0, ground := Go.Ground.data }], guard := none }) rfl (fun K hK => ?_) AllReadyH.nil
        go_simp
        refine (HI.out _ (by with_reducible assumption)).mono ?_
        rintro e w5 ⟨rfl, hb5, y0⟩
        go_simp
        refine hK.out _ _ y0 (fun hHeld => ?_)
        clear hK K
        try simp only [Act.put, List.setIfInBounds_toArray, List.set_cons_zero, List.set_cons_succ]
        refine' wpAnyH_take (i := 2) (oi := { dst := some 13, op := Go.Op.move (Go.Operand.tmp 12), type := 4, pos := "expr.go:158", after := #[{ on := 1, ground := Go.Ground.data }, { on := 1, ground := Go.Ground.chain }], guard := none }) (v := ?v2) rfl (by kernel_rfl) (by kernel_rfl) (by kernel_rfl) (fun c a w h => h) (Or.inl ⟨by rfl, ?hy2⟩) hHeld ?rest2
        case hy2 =>
          intro W0 s0
          (go_simp) <;> (try with_reducible rfl)
        case rest2 =>
        try simp only [Act.put, List.setIfInBounds_toArray, List.set_cons_zero, List.set_cons_succ]
        refine wpAnyH_take (i := 3) (oi := { dst := some 14, op := Go.Op.load 28 (Go.Operand.tmp 1), type := 28, pos := "expr.go:158", after := #[{ on := 2, ground := Go.Ground.guard }], guard := some (2, true) }) (v := undef) rfl (by kernel_rfl) (by kernel_rfl) (by kernel_rfl) (fun c a w h => h) (Or.inr ⟨by rfl, rfl⟩) hHeld ?_
        try simp only [Act.put, List.setIfInBounds_toArray, List.set_cons_zero, List.set_cons_succ]
        refine wpAnyH_take (i := 4) (oi := { dst := some 15, op := Go.Op.nilCheck (Go.Operand.tmp 14), type := 0, pos := "expr.go:158", after := #[{ on := 3, ground := Go.Ground.data }, { on := 2, ground := Go.Ground.guard }], guard := some (2, true) }) (v := undef) rfl (by kernel_rfl) (by kernel_rfl) (by kernel_rfl) (fun c a w h => h) (Or.inr ⟨by rfl, rfl⟩) hHeld ?_
        try simp only [Act.put, List.setIfInBounds_toArray, List.set_cons_zero, List.set_cons_succ]
        refine wpAnyH_take (i := 5) (oi := { dst := some 16, op := Go.Op.fieldAddr 69 (Go.Operand.tmp 15) 1, type := 0, pos := "expr.go:158", after := #[{ on := 4, ground := Go.Ground.data }, { on := 2, ground := Go.Ground.guard }], guard := some (2, true) }) (v := undef) rfl (by kernel_rfl) (by kernel_rfl) (by kernel_rfl) (fun c a w h => h) (Or.inr ⟨by rfl, rfl⟩) hHeld ?_
        try simp only [Act.put, List.setIfInBounds_toArray, List.set_cons_zero, List.set_cons_succ]
        refine wpAnyH_take (i := 6) (oi := { dst := some 17, op := Go.Op.load 67 (Go.Operand.tmp 16), type := 67, pos := "expr.go:158", after := #[{ on := 5, ground := Go.Ground.data }, { on := 2, ground := Go.Ground.guard }], guard := some (2, true) }) (v := undef) rfl (by kernel_rfl) (by kernel_rfl) (by kernel_rfl) (fun c a w h => h) (Or.inr ⟨by rfl, rfl⟩) hHeld ?_
        try simp only [Act.put, List.setIfInBounds_toArray, List.set_cons_zero, List.set_cons_succ]
        refine wpAnyH_take (i := 7) (oi := { dst := some 18, op := Go.Op.load 28 (Go.Operand.tmp 1), type := 28, pos := "expr.go:158", after := #[{ on := 2, ground := Go.Ground.guard }], guard := some (2, true) }) (v := undef) rfl (by kernel_rfl) (by kernel_rfl) (by kernel_rfl) (fun c a w h => h) (Or.inr ⟨by rfl, rfl⟩) hHeld ?_
        try simp only [Act.put, List.setIfInBounds_toArray, List.set_cons_zero, List.set_cons_succ]
        refine wpAnyH_take (i := 8) (oi := { dst := some 19, op := Go.Op.nilCheck (Go.Operand.tmp 18), type := 0, pos := "expr.go:158", after := #[{ on := 7, ground := Go.Ground.data }, { on := 2, ground := Go.Ground.guard }], guard := some (2, true) }) (v := undef) rfl (by kernel_rfl) (by kernel_rfl) (by kernel_rfl) (fun c a w h => h) (Or.inr ⟨by rfl, rfl⟩) hHeld ?_
        try simp only [Act.put, List.setIfInBounds_toArray, List.set_cons_zero, List.set_cons_succ]
        refine wpAnyH_take (i := 9) (oi := { dst := some 20, op := Go.Op.fieldAddr 69 (Go.Operand.tmp 19) 2, type := 0, pos := "expr.go:158", after := #[{ on := 8, ground := Go.Ground.data }, { on := 2, ground := Go.Ground.guard }], guard := some (2, true) }) (v := undef) rfl (by kernel_rfl) (by kernel_rfl) (by kernel_rfl) (fun c a w h => h) (Or.inr ⟨by rfl, rfl⟩) hHeld ?_
        try simp only [Act.put, List.setIfInBounds_toArray, List.set_cons_zero, List.set_cons_succ]
        refine wpAnyH_take (i := 10) (oi := { dst := some 21, op := Go.Op.load 3 (Go.Operand.tmp 20), type := 3, pos := "expr.go:158", after := #[{ on := 9, ground := Go.Ground.data }, { on := 2, ground := Go.Ground.guard }], guard := some (2, true) }) (v := undef) rfl (by kernel_rfl) (by kernel_rfl) (by kernel_rfl) (fun c a w h => h) (Or.inr ⟨by rfl, rfl⟩) hHeld ?_
        try simp only [Act.put, List.setIfInBounds_toArray, List.set_cons_zero, List.set_cons_succ]
        refine wpAnyH_take (i := 11) (oi := { dst := some 22, op := Go.Op.binOp Go.BinOp.add 3 (Go.Operand.tmp 21) (Go.Operand.const (Go.Value.int Go.IntKind.i64 1)) 3, type := 3, pos := "expr.go:158", after := #[{ on := 10, ground := Go.Ground.data }, { on := 2, ground := Go.Ground.guard }], guard := some (2, true) }) (v := undef) rfl (by kernel_rfl) (by kernel_rfl) (by kernel_rfl) (fun c a w h => h) (Or.inr ⟨by rfl, rfl⟩) hHeld ?_
        try simp only [Act.put, List.setIfInBounds_toArray, List.set_cons_zero, List.set_cons_succ]
        refine wpAnyH_take (i := 12) (oi := { dst := some 23, op := Go.Op.indexAddr 67 (Go.Operand.tmp 17) (Go.Operand.tmp 22), type := 0, pos := "expr.go:158", after := #[{ on := 6, ground := Go.Ground.data }, { on := 11, ground := Go.Ground.data }, { on := 2, ground := Go.Ground.guard }], guard := some (2, true) }) (v := undef) rfl (by kernel_rfl) (by kernel_rfl) (by kernel_rfl) (fun c a w h => h) (Or.inr ⟨by rfl, rfl⟩) hHeld ?_
        try simp only [Act.put, List.setIfInBounds_toArray, List.set_cons_zero, List.set_cons_succ]
        refine wpAnyH_take (i := 13) (oi := { dst := some 24, op := Go.Op.load 35 (Go.Operand.tmp 23), type := 35, pos := "expr.go:158", after := #[{ on := 12, ground := Go.Ground.data }, { on := 2, ground := Go.Ground.guard }], guard := some (2, true) }) (v := undef) rfl (by kernel_rfl) (by kernel_rfl) (by kernel_rfl) (fun c a w h => h) (Or.inr ⟨by rfl, rfl⟩) hHeld ?_
        try simp only [Act.put, List.setIfInBounds_toArray, List.set_cons_zero, List.set_cons_succ]
        refine wpAnyH_take (i := 14) (oi := { dst := some 25, op := Go.Op.call { callee := Go.Callee.value (Go.Operand.func 47), args := #[Go.Operand.tmp 24], argTypes := #[35] }, type := 4, pos := "expr.go:158", after := #[{ on := 13, ground := Go.Ground.data }, { on := 2, ground := Go.Ground.chain }, { on := 2, ground := Go.Ground.guard }], guard := some (2, true) }) (v := undef) rfl (by kernel_rfl) (by kernel_rfl) (by kernel_rfl) (fun c a w h => h) (Or.inr ⟨by rfl, rfl⟩) hHeld ?_
        try simp only [Act.put, List.setIfInBounds_toArray, List.set_cons_zero, List.set_cons_succ]
        refine' wpAnyH_take (i := 15) (oi := { dst := some 26, op := Go.Op.pick (Go.Operand.tmp 13) (Go.Operand.tmp 25) (Go.Operand.const (Go.Value.bool false)), type := 4, pos := "expr.go:158", after := #[{ on := 2, ground := Go.Ground.data }, { on := 14, ground := Go.Ground.data }], guard := none }) (v := ?v15) rfl (by kernel_rfl) (by kernel_rfl) (by kernel_rfl) (fun c a w h => h) (Or.inl ⟨by rfl, ?hy15⟩) hHeld ?rest15
        case hy15 =>
          intro W0 s0
          (go_simp) <;> (try with_reducible rfl)
        case rest15 =>
        try simp only [Act.put, List.setIfInBounds_toArray, List.set_cons_zero, List.set_cons_succ]
        refine wpAnyH_done (by kernel_rfl) ?_ _
        refine NoPanic.normal ?_
        clear hbw
        go_wp2_with fail
        exact all_tail (Q := Q) _ _ _ _ _ _ _ _ _ _ _ _ _ _ _ _ _ _ _ _ _ _ _ _ _ _ _ _ _ _ _ _ _ _ _ _ _ _ _ _ _ _ _ _ _ _ _ _ _ _ _ _ _ _ _ _ _ _ _ HQP.out HQR.out (HA.out.at'.under hb5) HF.out HA.out.adv HA.out.paid HA.out.toks HST.out HLT.out
      | true =>
        have hkd := isT_kind hI
        have hadv2 := hA.adv.pre.tail hkd
        obtain ⟨x0, r0, hl1⟩ := hA.adv.pre.ends.cons
        obtain ⟨x1, r1, hl2⟩ := hadv2.pre.ends.cons
        have hlen2 : 2 ≤ l1.length := by
          rw [hl1] at hl2 ⊢
          simp only [List.tail_cons] at hl2
          rw [hl2]
          simp
        have hgd1 : l1.getD 1 zTok = hdT l1.tail := by
          rw [hl1]
          cases r0 <;> rfl
        clear hl1 hl2 x0 r0 x1 r1
        obtain ⟨gq, rfl⟩ : ∃ g, gk = g + 1 := ⟨gk - 1, by have := hA.few; omega⟩
        obtain ⟨n, g, cap, hn, hcap, ⟨b0, b1, b2, b3⟩, hc⟩ := hA.at'.rd.tok
        subst hcap
        obtain ⟨k0, k1, k2, k3, k4⟩ := hc 1 (by omega)
        rw [hgd1] at k0 k1 k2 k3 k4
        have hS0 : ∀ W, Below wr.heap.size wr W → W.cell? ⟨w.heap.size, 0, none⟩ = some (.pointer (some ⟨b, 0, none⟩)) ∧ W.cell? ⟨b, 1, none⟩ = some (.slice (some ⟨g, 0, none⟩) ts.length cap) ∧ W.cell? ⟨b, 2, none⟩ = some (.int .i64 (n : Int)) ∧ W.cell? ⟨g, (n + 1) * 5, none⟩ = some (.int .i64 (hdT l1.tail).kind) ∧ W.cell? ⟨g, (n + 1) * 5 + 1, none⟩ = some (.string (hdT l1.tail).text) ∧ W.cell? ⟨g, (n + 1) * 5 + 2, none⟩ = some (.int .i64 (hdT l1.tail).num) ∧ W.cell? ⟨g, (n + 1) * 5 + 3, none⟩ = some (.int .i64 (hdT l1.tail).line) ∧ W.cell? ⟨g, (n + 1) * 5 + 4, none⟩ = some (.int .i64 (hdT l1.tail).col) := fun W hb => by
          have h1 := hA.at'.under hb
          clear b0 b1 b2 b3 k0 k1 k2 k3 k4 hc
          obtain ⟨n', g', cap', hn', hcap', ⟨b0, b1, b2, b3⟩, hc⟩ := h1.rd.tok
          have hcap' : Value.slice (some ⟨g, 0, none⟩) ts.length cap = .slice (some ⟨g', 0, none⟩) ts.length cap' := hcap'
          obtain ⟨rfl, rfl⟩ : g = g' ∧ cap = cap' := by
            injection hcap' with e1 e2 e3
            injection e1 with e1
            injection e1 with e1
            exact ⟨e1, e3⟩
          obtain rfl : n' = n := by omega
          obtain ⟨k0, k1, k2, k3, k4⟩ := hc 1 (by omega)
          rw [hgd1] at k0 k1 k2 k3 k4
          exact ⟨Tr.cellOf1 h1.box, b1, b2, k0, k1, k2, k3, k4⟩
        have HS0 := Lib.hid hS0
        have hI0 : ∀ W, Below wr.heap.size wr W → Calls Tryz.prog 12 #[.pointer (some ⟨b, 0, none⟩), .string ⟨#[59]⟩] W fun e w' => e = .returned (.bool true) ∧ Below wr.heap.size wr w' := fun W hb => by
          have := Is_in (HA.out.at'.rd.under hb) kSemi
          rw [hI] at this
          exact this.mono fun e w' ⟨h1, h2⟩ => ⟨h1, chain hb h2⟩
        have HI := Lib.hid hI0
        have hwr : IntKind.i64.wrap ((n : Int) + 1) = (n : Int) + 1 := IntWalk.i64_in _ ⟨by omega, by have := HA.out.at'.rd.few; omega⟩
        have hn1 : (0 : Int) ≤ (n : Int) + 1 := by omega
        have hn2 : (n : Int) + 1 < (ts.length : Int) := by omega
        cases hS : startsT (hdT l1.tail) with
        | false =>
          have hZ0 : ∀ W, Below wr.heap.size wr W → Calls Tryz.prog 47 #[.agg #[.int .i64 (hdT l1.tail).kind, .string (hdT l1.tail).text, .int .i64 (hdT l1.tail).num, .int .i64 (hdT l1.tail).line, .int .i64 (hdT l1.tail).col]] W fun e w' => e = .returned (.bool false) ∧ Below wr.heap.size wr w' := fun W hb => by
            have := starts_in (hdT l1.tail) W
            rw [hS] at this
            exact this.mono fun e w' ⟨h1, h2⟩ => ⟨h1, chain hb h2⟩
          have HZ := Lib.hid hZ0
          have HF := Lib.hid (goes_no hA.goes (by rw [hI, hS]; rfl))
          clear hA hI hI0 hS hZ0 hS0 hc hgd1 hadv2 hkd
          go_upto_region 3 with fail
          go_region_held3 (fun W => W.cell? ⟨w.heap.size, 0, none⟩ = some (.pointer (some ⟨b, 0, none⟩)) ∧ W.cell? ⟨b, 1, none⟩ = some (.slice (some ⟨g, 0, none⟩) ts.length cap) ∧ W.cell? ⟨b, 2, none⟩ = some (.int .i64 (n : Int)) ∧ W.cell? ⟨g, (n + 1) * 5, none⟩ = some (.int .i64 (hdT l1.tail).kind) ∧ W.cell? ⟨g, (n + 1) * 5 + 1, none⟩ = some (.string (hdT l1.tail).text) ∧ W.cell? ⟨g, (n + 1) * 5 + 2, none⟩ = some (.int .i64 (hdT l1.tail).num) ∧ W.cell? ⟨g, (n + 1) * 5 + 3, none⟩ = some (.int .i64 (hdT l1.tail).line) ∧ W.cell? ⟨g, (n + 1) * 5 + 4, none⟩ = some (.int .i64 (hdT l1.tail).col)) (exact HS0.out _ (by with_reducible assumption))
            (first | (go_at_call 12; refine (HI.out _ (by with_reducible assumption)).mono ?_; rintro e w5 ⟨rfl, hb5⟩) | (go_at_call 47; refine (HZ.out _ (by with_reducible assumption)).mono ?_; rintro e w6 ⟨rfl, hb6⟩))
          clear hbw
          go_wp2_with fail
          exact all_tail (Q := Q) _ _ _ _ _ _ _ _ _ _ _ _ _ _ _ _ _ _ _ _ _ _ _ _ _ _ _ _ _ _ _ _ _ _ _ _ _ _ _ _ _ _ _ _ _ _ _ _ _ _ _ _ _ _ _ _ _ _ _ HQP.out HQR.out (HA.out.at'.under hb6) HF.out HA.out.adv HA.out.paid HA.out.toks HST.out HLT.out
        | true =>
          have hZ0 : ∀ W, Below wr.heap.size wr W → Calls Tryz.prog 47 #[.agg #[.int .i64 (hdT l1.tail).kind, .string (hdT l1.tail).text, .int .i64 (hdT l1.tail).num, .int .i64 (hdT l1.tail).line, .int .i64 (hdT l1.tail).col]] W fun e w' => e = .returned (.bool true) ∧ Below wr.heap.size wr w' := fun W hb => by
            have := starts_in (hdT l1.tail) W
            rw [hS] at this
            exact this.mono fun e w' ⟨h1, h2⟩ => ⟨h1, chain hb h2⟩
          have HZ := Lib.hid hZ0
          have HF := Lib.hid (goes_yes hA.goes (by rw [hI, hS]; rfl))
          have HKD := Lib.hid hkd
          have HAD := Lib.hid hadv2
          clear hA hI hI0 hS hZ0 hS0 hc hgd1 hadv2 hkd
          go_upto_region 3 with fail
          go_region_held3 (fun W => W.cell? ⟨w.heap.size, 0, none⟩ = some (.pointer (some ⟨b, 0, none⟩)) ∧ W.cell? ⟨b, 1, none⟩ = some (.slice (some ⟨g, 0, none⟩) ts.length cap) ∧ W.cell? ⟨b, 2, none⟩ = some (.int .i64 (n : Int)) ∧ W.cell? ⟨g, (n + 1) * 5, none⟩ = some (.int .i64 (hdT l1.tail).kind) ∧ W.cell? ⟨g, (n + 1) * 5 + 1, none⟩ = some (.string (hdT l1.tail).text) ∧ W.cell? ⟨g, (n + 1) * 5 + 2, none⟩ = some (.int .i64 (hdT l1.tail).num) ∧ W.cell? ⟨g, (n + 1) * 5 + 3, none⟩ = some (.int .i64 (hdT l1.tail).line) ∧ W.cell? ⟨g, (n + 1) * 5 + 4, none⟩ = some (.int .i64 (hdT l1.tail).col)) (exact HS0.out _ (by with_reducible assumption))
            (first | (go_at_call 12; refine (HI.out _ (by with_reducible assumption)).mono ?_; rintro e w5 ⟨rfl, hb5⟩) | (go_at_call 47; refine (HZ.out _ (by with_reducible assumption)).mono ?_; rintro e w6 ⟨rfl, hb6⟩))
          have HA6 := Lib.hid (HA.out.at'.under hb6)
          have q1 := Tr.cellOf1 HA6.out.box
          have HN := Lib.hid (Next_in HA6.out.rd)
          clear hbw hb5 hb6 b0 b1 b2 b3 k0 k1 k2 k3 k4 HI HZ HS0
          go_wp2_with fail
          refine HN.out.mono ?_
          rintro e w7 ⟨rfl, hb7⟩
          have HA7 := Lib.hid (HA6.out.under hb7)
          clear hb7 HN
          unfold tokV
          have hrow7 : (w7.alloc (.cells #[.int .i64 (hdT l1).kind, .string (hdT l1).text, .int .i64 (hdT l1).num, .int .i64 (hdT l1).line, .int .i64 (hdT l1).col] 35)).ownsRow w.heap.size 35 5 (.slice A4 st.length c4) st.length (rowsT (st.reverse.map (·.2))) := by
            have h := HA7.out.mrow
            rw [List.length_map, List.length_reverse] at h
            exact h.alloc _
          have hst := HST.out
          have htop7 : w.heap.size ≤ w7.heap.size := HA7.out.moved.size
          go_wp2_with (at_builtin; refine wpList_append_lies _ rfl _ _ 67 rfl w.heap.size 35 j0 (.agg #[.int .i64 0, .string ⟨#[]⟩, .int .i64 0, .int .i64 0, .int .i64 0]) 5 48 Tryz.underlying67 hj0 hy0 hy1 hy2 rfl (by decide) (.slice A4 st.length c4) st.length (rowsT (st.reverse.map (·.2))) rfl hrow7 ⟨w7.heap.size, 0, none⟩ 1 1 (tokCells (hdT l1)) rfl rfl ?c2 ?c3 (by decide) ?c4 ?c5 ?c6 (w7.alloc (.cells #[.int .i64 (hdT l1).kind, .string (hdT l1).text, .int .i64 (hdT l1).num, .int .i64 (hdT l1).line, .int .i64 (hdT l1).col] 35)).heap.size ?c7 ?_)
          case c2 => first | exact fun j u h => h | exact World.news_of_block (last _ _)
          case c3 => simp [tokCells, Value.oneCell']
          case c4 => unfold maxLen; omega
          case c5 => omega
          case c6 => first | omega | (simp; omega)
          case c7 => first | rfl | simp
          intro g' cap' wa hown hgrow hat hlt1
          have HAa := Lib.hid (HA7.out.pushM (x := hdT l1) (nv := .slice (some ⟨g', 0, none⟩) (st.length + 1) cap') (by rw [List.length_map, List.length_reverse]; rw [← List.map_reverse] at hown; exact hown) hgrow)
          clear hown hgrow hat hlt1 hrow7
          have q1 := Tr.cellOf1 HAa.out.box
          obtain ⟨n5, g5, cap5, hn5, hcap5, ⟨b0, b1, b2, b3⟩, hc5⟩ := HAa.out.rd.tok
          obtain rfl : n = n5 := by omega
          have hfz := HAa.out.rd.frozen 2
          clear hc5 hcap5 b0 b1 b3
          go_upto_region 6 with fail
          have HAb := Lib.hid (HAa.out.step HKD.out hn)
          clear q1 b2 hfz
          generalize wa.setCell ⟨b, 2, none⟩ (.int .i64 ((n : Int) + 1)) = wb at *
          have q1 := Tr.cellOf1 HAb.out.box
          have q3c := Tr.cellOf1 HAb.out.lvar
          have hbw := (Below.refl wb.heap.size wb).drew
          cases ho2 : item l1.tail (ms1.map (·.1)) with
          | bad c ln cl =>
            have hq := HF.out
            rw [ho2] at hq
            have hq : R = .bad c ln cl := hq.symm
            subst hq
            have hsx : ∀ W, Below wb.heap.size wb W → Calls Tryz.prog 46 #[.pointer (some ⟨b, 0, none⟩)] W fun e w' => e = .panicked (panicV c ln cl) ∧ Bad b t (.slice (some ⟨g, 0, none⟩) ts.length cap) v w w' := fun W hb => by
              have := HS.out B b t _ ts l1.tail v1 ms1 W (HAb.out.rd.under hb)
              rw [ho2] at this
              exact this.mono fun e w' ⟨h1, h2⟩ => ⟨h1, h2.after ((HAb.out.moved.then hb).toMv)⟩
            have HZ := Lib.hid hsx
            clear hsx ho2
            go_region_with
              (first | (go_at_call 46; refine (HZ.out _ (by with_reducible assumption)).mono ?_; rintro e w9 ⟨rfl, hbd⟩; refine dead (P := Tryz.prog) (w := w9) (HQ0.out _ _ _ ⟨rfl, hbd⟩) ?_))
            all_goals trivial
          | ok a2 l2 m2 =>
            have hfs := HGD.out l1.tail (ms1.map (·.1)) HAD.out.pre
            have hq := HF.out
            rw [ho2] at hq hfs
            have hfs : Fit l1.tail (ms1.map (·.1)) a2 l2 m2 := hfs
            have hq : goesP item gq ((a, hdT l1) :: st) a2 l2 m2 = R := hq
            have hsx : ∀ W, Below wb.heap.size wb W → Calls Tryz.prog 46 #[.pointer (some ⟨b, 0, none⟩)] W fun e w' => e = .returned (.int .i64 a2) ∧ (∃ v2 ms2, ms2.map (·.1) = m2 ∧ AllAt w B b t (.slice (some ⟨g, 0, none⟩) ts.length cap) ts l2 d v ms q3 ((st.reverse.map (·.1)) ++ [a]) (st.reverse.map (·.2) ++ [hdT l1]) lv (.slice (some ⟨g', 0, none⟩) (st.length + 1) cap') v2 ms2 w') ∧ w'.cell? ⟨w.heap.size, 0, none⟩ = some (.pointer (some ⟨b, 0, none⟩)) ∧ w'.cell? ⟨q3, 0, none⟩ = some lv := fun W hb => by
              have := HS.out B b t _ ts l1.tail v1 ms1 W (HAb.out.rd.under hb)
              rw [ho2] at this
              refine this.mono fun e w' ⟨h1, v2, ms2, h2, h3, h4⟩ => ?_
              have h5 := (HAb.out.under hb).move h3 h4
              exact ⟨h1, ⟨v2, ms2, h2, h5⟩, Tr.cellOf1 h5.box, Tr.cellOf1 h5.lvar⟩
            have HZ := Lib.hid hsx
            have hjl : ((st.reverse.map (·.1)) ++ [a]).length ≤ 65541 := by
              have := HST.out
              simp
              omega
            have hpa := HA.out.paid.app hfs.2 hfs.1.ext hfs.1.pre.wf
            have hshort := hfs.1.shorter
            have HFI := Lib.hid (And.intro hq (And.intro ((HA.out.adv.trans HAD.out).trans hfs.1) (And.intro hpa (And.intro (show l2.length ≤ gq + 1 by have := HA.out.few; simp at hshort; omega) (show ((a, hdT l1) :: st).length + l2.length ≤ l.length by have := HA.out.many; simp at hshort ⊢; omega)))))
            clear hsx ho2 hq hfs hpa hshort
            go_region_law (first
              | (refine step_append_lies _ rfl _ _ 51 rfl w.heap.size 3 i0 (.int .i64 0) 1 8 Tryz.underlying51 hi0 hz0 hz1 hz2 rfl (by decide) lv ((st.reverse.map (·.1)) ++ [a]).length _ rfl (hA9.lrow.alloc _) ⟨w9.heap.size, 0, none⟩ 1 1 [.int .i64 a2] rfl rfl (World.news_of_block (last _ _)) (one_int a2) (by decide) (by unfold maxLen; omega) (by omega) (by have := hA9.moved.size; simp; omega) _ rfl ?_; intro g2 cap2 wc hown hgrow hat hlt1; obtain ⟨d1, d2⟩ := hA9.grown3 hgrow)
              | (go_simp; go_at_call 46; refine (HZ.out _ (by with_reducible assumption)).mono ?_; rintro e w9 ⟨rfl, ⟨v2, ms2, hm2, hA9⟩, y0, y1⟩; have y1' := fun o => cellA y1 o))
            all_goals
              have hpl := hA9.pushL hown hgrow hat
              rw [show ((st.reverse.map (·.1)) ++ [a]).length + 1 = st.length + 1 + 1 by simp] at hpl
              have HP := Lib.hid hpl
              clear hpl
              clear hown hgrow hat hlt1 d1 d2 hA9 y0 y1 y1'
              subst hm2
              go_wp2_with fail
              go_roundg gq
              case measure => omega
              case rel =>
                refine ⟨a2, (a, hdT l1) :: st, l2, .slice (some ⟨g2, 0, none⟩) (st.length + 1 + 1) cap2, v2, ms2, ?_, HFI.out.1, HFI.out.2.1, ?_, ?_, HFI.out.2.2.2.1, HFI.out.2.2.2.2⟩
                · rw [List.reverse_cons, List.map_append, List.map_append]
                  exact HP.out
                · rw [List.reverse_cons, List.map_append]
                  exact HFI.out.2.2.1
                · rintro p hp
                  rcases List.mem_cons.1 hp with rfl | hp
                  · exact HA.out.adv.pre.hd
                  · exact HA.out.toks p hp
end Go.Proofs.YtmeacgmjpjjphaaGreatDoor
