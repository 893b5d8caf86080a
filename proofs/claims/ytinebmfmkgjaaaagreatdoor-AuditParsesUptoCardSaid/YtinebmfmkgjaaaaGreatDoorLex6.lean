/- A text's tokens: the tree's Tokens. -/
import Derived.Test.YtinebmfmkgjaaaaGreatDoorLex5
set_option linter.unusedVariables false
set_option linter.unusedSimpArgs false
namespace Go.Proofs.YtinebmfmkgjaaaaGreatDoor
open Go.RowKit

theorem blanksB_size : ∀ (N : Nat) (s : ByteArray) (l c : Int), (blanksB N s l c).1.size ≤ s.size
  | 0, s, l, c => Nat.le_refl _
  | N + 1, s, l, c => by
    unfold blanksB
    split
    · exact Nat.le_refl _
    · split
      · exact Nat.le_trans (blanksB_size N _ _ _) (by rw [aft_size]; omega)
      · split
        · exact Nat.le_trans (blanksB_size N _ _ _) (by rw [aft_size]; omega)
        · split
          · exact Nat.le_trans (blanksB_size N _ _ _) (by rw [aft_size]; omega)
          · exact Nat.le_refl _
/-- What is left, behind blanks. -/
def headB (N : Nat) (t : ByteArray) (l c : Int) : Lexed :=
  if t.size = 0 then .good [⟨0, bs [], 0, l, c⟩] else match readB t with
    | .bad e => .bad e l c
    | .tok k n v => match toksB N (aft t n) l (c + Lib.runeCount (fore t n)) with
      | .bad e a b => .bad e a b
      | .good r => .good (⟨k, fore t n, v, l, c⟩ :: r)
theorem toksB_succ (N : Nat) (s : ByteArray) (l c : Int) : toksB (N + 1) s l c = headB N (blanksB s.size s l c).1 (blanksB s.size s l c).2.1 (blanksB s.size s l c).2.2 := by
  rw [toksB]
  rfl
/-- Behind tokens that were read. -/
def addL (d : List Tok) : Lexed → Lexed
  | .bad e l c => .bad e l c
  | .good r => .good (d ++ r)
def tokCells (t : Tok) : List Value := [.int .i64 t.kind, .string t.text, .int .i64 t.num, .int .i64 t.line, .int .i64 t.col]
def rowsT (l : List Tok) : List Value := l.flatMap tokCells
theorem rowsT_length (l : List Tok) : (rowsT l).length = l.length * 5 := by
  induction l with
  | nil => rfl
  | cons a l ih =>
    simp only [rowsT, List.flatMap_cons, List.length_append, List.length_cons] at *
    rw [ih]
    simp [tokCells]
    omega
theorem rowsT_append (a b : List Tok) : rowsT (a ++ b) = rowsT a ++ rowsT b := by simp [rowsT]
theorem info_parts {P : Program} {t : TypeId} {z : Value} {s b : Nat} (h : (P.info? t).map (fun i => (i.zero, i.size, i.bytes)) = some (some z, s, b)) : ∃ i, P.info? t = some i ∧ i.zero = some z ∧ i.size = s ∧ i.bytes = b := by
  cases hi : P.info? t with
  | none => rw [hi] at h; cases h
  | some i =>
    rw [hi] at h
    simp at h
    exact ⟨i, rfl, h.1, h.2.1, h.2.2⟩
theorem info_tok : (Tryz.prog.info? 63).map (fun i => (i.zero, i.size, i.bytes)) = some (some (.agg #[.int .i64 0, .string ⟨#[]⟩, .int .i64 0, .int .i64 0, .int .i64 0]), 5, 48) := by kernel_rfl
theorem owns_block {w w' : World} {B : Nat} {e : TypeId} {s n : Nat} {v : Value} {xs : List Value} (h : w.ownsRow B e s v n xs) (hk : ∀ g, v.ownBlock = some g → w'.heap[g]? = w.heap[g]?) : w'.ownsRow B e s v n xs := by
  refine ⟨h.1, ?_⟩
  rcases h.2 with h0 | ⟨g', cap, cur, rfl, h2, h3, h4⟩
  · exact .inl h0
  · exact .inr ⟨g', cap, cur, rfl, h2, (hk g' rfl).trans h3, h4⟩
theorem row_form {w : World} {B e s m : Nat} {v : Value} {xs : List Value} (h : w.ownsRow B e s v m xs) : ∃ A cap, v = .slice A m cap := by
  rcases h.2 with ⟨rfl, h0⟩ | ⟨g', cap, cur, rfl, _⟩
  · exact ⟨none, 0, by rw [h0]⟩
  · exact ⟨_, _, rfl⟩
theorem row_lt {w : World} {B e s m : Nat} {v : Value} {xs : List Value} (h : w.ownsRow B e s v m xs) {k : Nat} (hk : v.ownBlock = some k) : B ≤ k ∧ k < w.heap.size := by
  rcases h.2 with ⟨rfl, h0⟩ | ⟨g', cap, cur, rfl, h1, h2, _⟩
  · cases hk
  · obtain rfl : g' = k := by simpa [Value.ownBlock] using hk
    exact ⟨h1, heap_lt h2⟩
theorem row_base {W : World} {B B' e s m : Nat} {v : Value} {xs : List Value} (h : W.ownsRow B e s v m xs) (hB : B' ≤ B) : W.ownsRow B' e s v m xs := by
  refine ⟨h.1, ?_⟩
  rcases h.2 with h0 | ⟨g', cap', cur, e, hb, hr⟩
  · exact .inl h0
  · exact .inr ⟨g', cap', cur, e, Nat.le_trans hB hb, hr⟩
theorem row_turn {w w' : World} {b B e s n : Nat} {v : Value} {xs : List Value} (h : w.ownsRow B e s v n xs) (hb : b < B) (ht : Turn b w w') : w'.ownsRow B e s v n xs :=
  owns_block h fun g hg => ht.block g (row_lt h hg).2 (by have := (row_lt h hg).1; omega)
/-- Where Tokens stands: the reader in b, behind blanks, and what was read. -/
structure LxAt (w : World) (b : Nat) (t : ByteArray) (l c : Int) (d : List Tok) (rv : Value) (wr : World) : Prop where
  below : Below w.heap.size w wr
  rd : Rd wr b t l c
  row : wr.ownsRow (b + 1) 63 5 rv d.length (rowsT d)
theorem LxAt.turn {w : World} {b : Nat} {t t' : ByteArray} {l c l' c' : Int} {d : List Tok} {rv : Value} {wr w' : World} (h : LxAt w b t l c d rv wr) (hbw : w.heap.size ≤ b) (ht : Turn b wr w') (hr : Rd w' b t' l' c') : LxAt w b t' l' c' d rv w' :=
  ⟨h.below.trans (ht.below hbw h.below.size), hr, row_turn h.row (by omega) ht⟩
theorem LxAt.push {w : World} {b : Nat} {t t' : ByteArray} {l c l' c' : Int} {d : List Tok} {A2 : Option Addr} {k2 : Nat} {wr w5 wa : World} {o1 o2 : Obj} {x : Tok} {v' : Value} (h : LxAt w b t l c d (.slice A2 d.length k2) wr) (hbw : w.heap.size ≤ b) (hgm : 3 < b)
    (ht5 : Turn b wr w5) (hr5 : Rd w5 b t' l' c') (hown : wa.ownsRow (b + 1) 63 5 v' (d.length + 1) (rowsT d ++ tokCells x)) (hgrow : ((w5.alloc o1).alloc o2).grownBy wa (Value.slice A2 d.length k2).ownBlock) :
    LxAt w b t' l' c' (d ++ [x]) v' wa := by
  have h5 := h.turn hbw ht5 hr5
  have hbl := heap_lt hr5.at'
  have hb7 : Below w.heap.size w ((w5.alloc o1).alloc o2) := (h5.below.alloc (by omega) o1).alloc (by simp; omega) o2
  have hk : ∀ k, k ≤ b → wa.heap[k]? = w5.heap[k]? := fun k hk => by
    rw [hgrow.block k (by simp; omega) (fun e => by
      have := (row_lt h.row e.symm).1
      omega), Below.heap_alloc _ _ _ (by simp; omega), Below.heap_alloc _ _ _ (by omega)]
  refine ⟨hb7.grown hgrow (by simp; omega) fun k hk => ?_, ⟨(hk b (Nat.le_refl _)).trans hr5.at', hr5.max.same (hk _ (by omega)), hr5.ne, hr5.line, hr5.col⟩, ?_⟩
  · have := (row_lt h.row hk).1
    omega
  · rw [rowsT_append, List.length_append]
    simpa [rowsT] using hown
theorem headB_step {N : Nat} {t : ByteArray} {l c : Int} {d : List Tok} {R : Lexed} {k : Int} {n : Nat} {v : Int} (h0 : t.size ≠ 0) (hr : readB t = .tok k n v) (h : addL d (headB (N + 1) t l c) = R) :
    addL (d ++ [⟨k, fore t n, v, l, c⟩]) (headB N (blanksB (aft t n).size (aft t n) l (c + Lib.runeCount (fore t n))).1 (blanksB (aft t n).size (aft t n) l (c + Lib.runeCount (fore t n))).2.1 (blanksB (aft t n).size (aft t n) l (c + Lib.runeCount (fore t n))).2.2) = R := by
  rw [← h]
  conv => rhs; rw [headB]
  rw [if_neg h0, hr]
  simp only
  rw [toksB_succ]
  cases headB N (blanksB (aft t n).size (aft t n) l (c + Lib.runeCount (fore t n))).1 (blanksB (aft t n).size (aft t n) l (c + Lib.runeCount (fore t n))).2.1 (blanksB (aft t n).size (aft t n) l (c + Lib.runeCount (fore t n))).2.2 with
  | bad e a b => rfl
  | good r => simp [addL]
theorem news5 (w : World) (x : Tok) (t : TypeId) {b : Nat} (hb : b = w.heap.size) : ∀ j u, (tokCells x)[j]? = some u → (w.alloc (.cells (tokCells x).toArray t)).cell? ((⟨b, 0, none⟩ : Addr).add j) = some u := by
  subst hb
  exact World.news_of_block (last w _)
/-- How Tokens ends. -/
def ToksEnd (w : World) (R : Lexed) (e : Ending) (w' : World) : Prop :=
  match R with
  | .bad x l c => e = .returned (.tuple #[.slice none 0 0, diagV x l c]) ∧ Below w.heap.size w w'
  | .good l => (∃ rv, e = .returned (.tuple #[rv, .nilIface]) ∧ w'.ownsRow w.heap.size 63 5 rv l.length (rowsT l)) ∧ Below w.heap.size w w'

set_option maxRecDepth 100000 in
set_option maxHeartbeats 16000000 in
theorem Tokens_in (s : ByteArray) (w : World) (henv : Env w) (hmax : s.size ≤ 140737488355328) :
    Calls Tryz.prog 7 #[.string s] w fun e w' => ToksEnd w (tokensB s) e w' := by
  obtain ⟨i0, hi0, hz0, hz1, hz2⟩ := info_parts info_tok
  obtain ⟨R, hR⟩ : ∃ z, tokensB s = z := ⟨_, rfl⟩
  rw [hR]
  have HR := Lib.hid hR
  clear hR
  have HE := Lib.hid henv
  clear henv
  by_cases h65 : (65536 : Int) < (s.size : Int)
  · have HRR := Lib.hid (show R = .bad 6 1 1 by
      rw [← HR.out]
      unfold tokensB
      rw [if_pos (by omega)])
    go_enter Tryz.func7, Tryz.ntmps7
    go_wp2_with fail
    rw [HRR.out]
    exact bodyPost_ret (v := .tuple #[.slice none 0 0, diagV 6 1 1]) (by simp [results, Tryz.results7, go_sem]; rfl) rfl ⟨rfl, Below.refl _ _⟩
  · have hs : s.size ≤ 65536 := by omega
    have hc := valid_in s HE.out (by omega)
    go_enter Tryz.func7, Tryz.ntmps7
    cases hv : validB s.size s 1 1 with
    | some p =>
      obtain ⟨l, c⟩ := p
      rw [hv] at hc
      have HRR := Lib.hid (show R = .bad 3 l c by
        rw [← HR.out]
        unfold tokensB
        rw [if_neg (by omega), hv])
      clear hv
      unfold errV diagV at hc
      go_wp2_with fail
      refine hc.mono ?_
      clear hc
      rintro e w2 ⟨rfl, hb2⟩
      have HB2 := Lib.hid hb2
      clear hb2
      go_wp2_with fail
      rw [HRR.out]
      exact bodyPost_ret (v := .tuple #[.slice none 0 0, diagV 3 l c]) (by simp [results, Tryz.results7, go_sem]; rfl) rfl ⟨rfl, HB2.out⟩
    | none =>
      rw [hv] at hc
      have HRR := Lib.hid (show toksB (s.size + 1) s 1 1 = R by
        rw [← HR.out]
        unfold tokensB
        rw [if_neg (by omega), hv])
      clear hv
      unfold errV at hc
      go_wp2_with fail
      refine hc.mono ?_
      clear hc
      rintro e w2 ⟨rfl, hb2⟩
      have HB2 := Lib.hid (hb2.trans ((Below.refl w2.heap.size w2 |>.alloc (Nat.le_refl _) (.cells #[.string s, .int .i64 1, .int .i64 1] 67)).mono hb2.size))
      have hrd : Rd (w2.alloc (.cells #[.string s, .int .i64 1, .int .i64 1] 67)) w2.heap.size s 1 1 := by
        have hgl := HE.out.max.lt
        have h2 := hb2.size
        refine ⟨last _ _, (HE.out.below HB2.out).max, by omega, by omega, by omega⟩
      have hbw : w.heap.size ≤ w2.heap.size := hb2.size
      have hc := blanks_in hrd
      rw [toksB_succ] at HRR
      have hbz := blanksB_size s.size s 1 1
      clear hb2 hrd
      generalize (blanksB s.size s 1 1).1 = t0 at *
      generalize (blanksB s.size s 1 1).2.1 = l0 at *
      generalize (blanksB s.size s 1 1).2.2 = c0 at *
      go_wp2_with fail
      generalize w2.alloc (.cells #[.string s, .int .i64 1, .int .i64 1] 67) = w3 at *
      refine hc.mono ?_
      clear hc
      rintro e w4 ⟨rfl, hrd4, ht4⟩
      generalize w2.heap.size = b at *
      have H4 := Lib.hid (show LxAt w b t0 l0 c0 [] (.slice none 0 0) w4 from ⟨HB2.out.trans (ht4.below hbw HB2.out.size), hrd4, World.ownsRow_nil _ _ _ _⟩)
      clear hrd4 ht4
      go_wp2_with fail
      go_loopg [6] s.size (fun gk rv wr => ∃ (t : ByteArray) (l c : Int) (d : List Tok), LxAt w b t l c d rv wr ∧ addL d (headB gk t l c) = R ∧ t.size ≤ gk ∧ d.length + t.size ≤ s.size)
      case atStart =>
        refine ⟨t0, l0, c0, [], H4.out, ?_, hbz, by simpa using hbz⟩
        rw [← HRR.out]
        cases headB s.size t0 l0 c0 <;> rfl
      case round =>
        obtain ⟨t, l, c, d, hlx, hR, hgk, hdn⟩ := hrel
        obtain ⟨A2, k2, rfl⟩ := row_form hlx.row
        have H1 := Lib.hid (And.intro hlx hR)
        obtain ⟨a0, a1, a2⟩ := hlx.rd.at'.cells
        have hbl := heap_lt hlx.rd.at'
        clear hlx hR
        by_cases h0 : t.size = 0
        · have he := empty_of h0
          go_wp2_with (at_builtin; refine wpList_append_own _ rfl _ _ 23 rfl (b + 1) 63 i0 (.agg #[.int .i64 0, .string ⟨#[]⟩, .int .i64 0, .int .i64 0, .int .i64 0]) 5 48 Tryz.underlying23 hi0 hz0 hz1 hz2 rfl (by decide) (.slice A2 d.length k2) d.length (rowsT d) rfl (H1.out.1.row.alloc _) ⟨wr.heap.size, 0, none⟩ 1 1 (tokCells ⟨0, bs [], 0, l, c⟩) rfl rfl ?c2 ?c3 ?c4 ?c5 ?c6 ?_)
          case c2 => exact news5 _ _ _ rfl
          case c3 => simp [tokCells, Value.oneCell']
          case c4 => unfold maxLen; omega
          case c5 => omega
          case c6 => simp; omega
          intro v' w1 hown hgrow hnil
          have hrr : R = .good (d ++ [⟨0, bs [], 0, l, c⟩]) := by
            rw [← H1.out.2]
            unfold headB
            rw [if_pos h0]
            rfl
          have HF := Lib.hid (show Below w.heap.size w w1 from (H1.out.1.below.alloc (by omega) _).grown hgrow (by simp; omega) fun k hk => by have := (row_lt H1.out.1.row hk).1; omega)
          have HO := Lib.hid (row_base hown (show w.heap.size ≤ b + 1 by omega))
          clear hown hgrow hnil a0 a1 a2
          go_wp2_with fail
          rw [hrr]
          refine bodyPost_ret (v := .tuple #[v', .nilIface]) (by simp [results, Tryz.results7, go_sem]) rfl ⟨⟨v', rfl, ?_⟩, HF.out⟩
          rw [rowsT_append, List.length_append]
          simpa [rowsT] using HO.out
        · have he := full_of h0
          have hpos : 0 < t.size := by omega
          obtain ⟨N, rfl⟩ : ∃ N, gk = N + 1 := ⟨gk - 1, by omega⟩
          have hc := token_in H1.out.1.rd hpos
          cases hr : readB t with
          | bad x =>
            rw [hr] at hc
            replace hc : Calls Tryz.prog _ _ wr fun e w' => e = .returned (.tuple #[.agg #[.int .i64 0, .string ⟨#[]⟩, .int .i64 0, .int .i64 0, .int .i64 0], .iface 33 (.agg #[.int .i64 x, .int .i64 l, .int .i64 c, .string ⟨#[]⟩])]) ∧ Rd w' b t l c ∧ Below wr.heap.size wr w' := hc
            have hrr : R = .bad x l c := by
              rw [← H1.out.2]
              unfold headB
              rw [if_neg h0, hr]
              rfl
            have HRX := Lib.hid hrr
            clear hr hrr
            go_wp2_with fail
            refine hc.mono ?_
            clear hc
            rintro e w5 ⟨rfl, _, hb5⟩
            have HF := Lib.hid ((chain H1.out.1.below hb5).alloc (by have := (chain H1.out.1.below hb5).size; omega) (.cells #[.int .i64 0, .string ⟨#[]⟩, .int .i64 0, .int .i64 0, .int .i64 0] 63))
            clear hb5 a0 a1 a2
            go_wp2_with fail
            rw [HRX.out]
            exact bodyPost_ret (v := .tuple #[.slice none 0 0, diagV x l c]) (by simp [results, Tryz.results7, go_sem]; rfl) rfl ⟨rfl, HF.out⟩
          | tok k n v =>
            rw [hr] at hc
            replace hc : Calls Tryz.prog _ _ wr fun e w' => e = .returned (.tuple #[.agg #[.int .i64 k, .string (fore t n), .int .i64 v, .int .i64 l, .int .i64 c], .nilIface]) ∧ Rd w' b (aft t n) l (c + Lib.runeCount (fore t n)) ∧ Turn b wr w' := hc
            have hnn := readB_n hpos hr
            have HST := Lib.hid (headB_step h0 hr H1.out.2)
            clear hr
            go_wp2_with fail
            refine hc.mono ?_
            clear hc
            rintro e w5 ⟨rfl, hrd5, ht5⟩
            have hbl5 := heap_lt hrd5.at'
            have hrow5 := row_turn H1.out.1.row (by omega) ht5
            have H5 := Lib.hid (And.intro hrd5 ht5)
            clear hrd5 ht5 a0 a1 a2
            go_wp2_with (at_builtin; refine wpList_append_own _ rfl _ _ 23 rfl (b + 1) 63 i0 (.agg #[.int .i64 0, .string ⟨#[]⟩, .int .i64 0, .int .i64 0, .int .i64 0]) 5 48 Tryz.underlying23 hi0 hz0 hz1 hz2 rfl (by decide) (.slice A2 d.length k2) d.length (rowsT d) rfl ((hrow5.alloc _).alloc _) ⟨w5.heap.size + 1, 0, none⟩ 1 1 (tokCells ⟨k, fore t n, v, l, c⟩) rfl rfl ?c2 ?c3 ?c4 ?c5 ?c6 ?_)
            case c2 => exact news5 _ _ _ (by simp)
            case c3 => simp [tokCells, Value.oneCell']
            case c4 => unfold maxLen; omega
            case c5 => omega
            case c6 => simp; omega
            intro v' w8 hown hgrow hnil
            have HGM := Lib.hid HE.out.max.lt
            have HP := Lib.hid (H1.out.1.push (x := ⟨k, fore t n, v, l, c⟩) hbw (Nat.lt_of_lt_of_le HGM.out hbw) H5.out.2 H5.out.1 hown hgrow)
            have hc := blanks_in HP.out.rd
            clear hown hgrow hnil hrow5 hbl5
            go_wp2_with fail
            refine hc.mono ?_
            clear hc
            rintro e w9 ⟨rfl, hrd9, ht9⟩
            have HX := Lib.hid (HP.out.turn hbw ht9 hrd9)
            clear hrd9 ht9
            go_wp2_with fail
            go_roundg N
            case measure => omega
            case rel =>
              have hbz := blanksB_size (aft t n).size (aft t n) l (c + Lib.runeCount (fore t n))
              have hbz := Nat.le_trans hbz (Nat.le_of_eq (aft_size t n))
              refine ⟨_, _, _, _, HX.out, HST.out, by omega, ?_⟩
              rw [List.length_append]
              simp only [List.length_cons, List.length_nil]
              omega
end Go.Proofs.YtinebmfmkgjaaaaGreatDoor
