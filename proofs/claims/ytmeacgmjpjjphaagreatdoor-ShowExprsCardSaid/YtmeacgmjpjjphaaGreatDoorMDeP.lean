/- Brackets, signs and sums, so many, as texts: plain. -/
import Derived.Test.YtmeacgmjpjjphaaGreatDoorMExP
set_option linter.unusedVariables false
set_option linter.unusedSimpArgs false
namespace Go.Proofs.YtmeacgmjpjjphaaGreatDoor
open Tr (Nd)

theorem bs_size (l : List UInt8) : (bs l).size = l.length := by simp [bs, ByteArray.size]
theorem bs_list (l : List UInt8) : (bs l).data.toList = l := by simp [bs]
theorem aft_bs (a r : List UInt8) : aft (bs (a ++ r)) a.length = bs r := by
  apply ByteArray.ext
  apply Array.ext'
  simp [aft, bs, ByteArray.data_extract, ByteArray.size]
theorem fore_bs (a r : List UInt8) : fore (bs (a ++ r)) a.length = bs a := by
  apply ByteArray.ext
  apply Array.ext'
  simp [fore, bs, ByteArray.data_extract, ByteArray.size]
theorem aft_one (c : UInt8) (r : List UInt8) : aft (bs (c :: r)) 1 = bs r := aft_bs [c] r
theorem fore_one (c : UInt8) (r : List UInt8) : fore (bs (c :: r)) 1 = bs [c] := fore_bs [c] r
theorem hd_bs (c : UInt8) (r : List UInt8) : hd (bs (c :: r)) = c := rfl
theorem dec_bs (c : UInt8) (r : List UInt8) (h : c.toNat < 128) : Lib.decodeGo (bs (c :: r)) = (c.toNat, 1) := by
  unfold Lib.decodeGo
  rw [if_neg (by simp [bs_size]), Lib.decode_at]
  have e : ((bs (c :: r)).get! 0) = c := rfl
  simp only [Nat.sub_zero]
  rw [e]
  unfold Lib.decodeN
  rw [if_pos h]
theorem valid_bs : ∀ (N : Nat) (l : List UInt8) (a b : Int), (∀ c ∈ l, c.toNat < 128) → validB N (bs l) a b = none
  | 0, _, _, _, _ => rfl
  | N + 1, [], a, b, _ => rfl
  | N + 1, c :: r, a, b, h => by
    have hc := h c (by simp)
    have hr := fun x hx => h x (List.mem_cons_of_mem _ hx)
    unfold validB
    rw [dec_bs c r hc]
    rw [if_neg (by simp [bs_size]), if_neg (by simp; omega)]
    simp only [aft_one]
    split
    · exact valid_bs N r _ _ hr
    · exact valid_bs N r _ _ hr
/-- A text's tokens are such ones. -/
def TokL (l : List UInt8) (S : List Tok → Prop) : Prop := ∀ (N : Nat) (a b : Int), l.length < N → ∃ ts, toksB N (bs l) a b = .good ts ∧ S ts
theorem TokL.tokens {l : List UInt8} {S : List Tok → Prop} (h : TokL l S) (ha : ∀ c ∈ l, c.toNat < 128) (hs : l.length ≤ 65536) : ∃ ts, tokensB (bs l) = .good ts ∧ S ts := by
  unfold tokensB
  rw [bs_size, if_neg (by omega), valid_bs _ _ _ _ ha]
  exact h _ _ _ (by omega)
theorem TokL.mono {l : List UInt8} {S R : List Tok → Prop} (h : TokL l S) (hs : ∀ ts, S ts → R ts) : TokL l R := fun N a b hN =>
  let ⟨ts, h1, h2⟩ := h N a b hN; ⟨ts, h1, hs ts h2⟩
/-- The end. -/
theorem tok_end : TokL [] fun ts => ∃ t, ts = [t] ∧ t.kind = 0 ∧ t.text = bs [] := by
  intro N a b hN
  obtain ⟨M, rfl⟩ : ∃ M, N = M + 1 := ⟨N - 1, by simp at hN; omega⟩
  exact ⟨_, rfl, _, rfl, rfl, rfl⟩
def stay (c : UInt8) : Bool := !(decide (c.toNat = 10) || decide (c.toNat = 35) || decide (c.toNat = 32) || decide (c.toNat = 9) || decide (c.toNat = 13))
theorem blanks_stay (c : UInt8) (r : List UInt8) (h : stay c = true) (N : Nat) (a b : Int) : blanksB N (bs (c :: r)) a b = (bs (c :: r), a, b) := by
  simp [stay] at h
  cases N with
  | zero => rfl
  | succ N =>
    unfold blanksB
    rw [hd_bs, if_neg (by simp [bs_size])]
    simp [h]
/-- A blank. -/
theorem tok_blank {r : List UInt8} {S : List Tok → Prop} (h : TokL r S) : TokL (32 :: r) S := by
  intro N a b hN
  obtain ⟨M, rfl⟩ : ∃ M, N = M + 1 := ⟨N - 1, by simp at hN; omega⟩
  obtain ⟨ts, h1, h2⟩ := h (M + 1) a (b + Lib.runeCount (fore (bs (32 :: r)) 1)) (by simp at hN; omega)
  refine ⟨ts, ?_, h2⟩
  rw [← h1]
  have e : blanksB (bs (32 :: r)).size (bs (32 :: r)) a b = blanksB (bs r).size (bs r) a (b + Lib.runeCount (fore (bs (32 :: r)) 1)) := by
    rw [bs_size, bs_size]
    show blanksB (r.length + 1) _ _ _ = _
    rw [blanksB, hd_bs, if_neg (by simp [bs_size]), aft_one]
    simp
  rw [toksB, e, ← toksB]
/-- A token of one byte. -/
theorem tok_one {c : UInt8} {k n : Int} {r : List UInt8} {S : List Tok → Prop} (hs : stay c = true) (hr : readB (bs (c :: r)) = .tok k 1 n) (h : TokL r S) : TokL (c :: r) fun ts => ∃ t l, ts = t :: l ∧ t.kind = k ∧ t.text = bs [c] ∧ S l := by
  intro N a b hN
  obtain ⟨M, rfl⟩ : ∃ M, N = M + 1 := ⟨N - 1, by simp at hN; omega⟩
  obtain ⟨ts, h1, h2⟩ := h M a (b + Lib.runeCount (fore (bs (c :: r)) 1)) (by simp at hN; omega)
  refine ⟨⟨k, bs [c], n, a, b⟩ :: ts, ?_, _, _, rfl, rfl, rfl, h2⟩
  rw [toksB, blanks_stay c r hs]
  simp only
  rw [if_neg (by simp [bs_size]), hr]
  simp only
  rw [aft_one, h1, fore_one]
theorem read_mark {c : UInt8} {r : List UInt8} (h1 : letB c = false) (h2 : digB c = false) (h : markB (bs (c :: r)) = 1) : readB (bs (c :: r)) = .tok 4 1 0 := by
  unfold readB
  rw [hd_bs, h1, h2, h]
  rfl
def noDig : List UInt8 → Bool
  | [] => true
  | c :: _ => !digB c
theorem read_dig {r : List UInt8} (h : noDig r = true) : readB (bs (49 :: r)) = .tok 3 1 1 := by
  have e : cntB digB (bs (49 :: r)) = 1 := by
    unfold cntB
    rw [bs_list]
    cases r with
    | nil => rfl
    | cons c r =>
      simp [noDig] at h
      simp [List.takeWhile_cons, h, show digB 49 = true from rfl]
  unfold readB
  rw [hd_bs, show letB 49 = false from rfl, show digB 49 = true from rfl, e, fore_one]
  rfl
theorem mark_lp (r : List UInt8) : markB (bs (40 :: r)) = 1 := by
  unfold markB marks
  simp [bs, Lib.hasPrefix, List.find?]
  rfl
end Go.Proofs.YtmeacgmjpjjphaaGreatDoor
namespace Go.Proofs.YtmeacgmjpjjphaaGreatDoor
open Tr (Nd)

def Mk (s : ByteArray) (t : Tok) : Prop := t.kind = 4 ∧ t.text = s
def Nm (t : Tok) : Prop := t.kind = 3
/-- A token behind which nothing goes on. -/
def Stop (t : Tok) : Prop := ∀ n, opT n t = none
theorem Mk.is {s s' : ByteArray} {t : Tok} (h : Mk s t) : isT s' t = decide (s = s') := by
  simp [isT, h.1, h.2]
theorem Nm.is {s : ByteArray} {t : Tok} (h : Nm t) : isT s t = false := by
  unfold Nm at h
  simp [isT, h]
theorem opT_none {t : Tok} (h : ∀ s ∈ [kOr, kAnd, kEq, kLt, kPlus, kMinus, kStar], isT s t = false) : Stop t := by
  simp at h
  obtain ⟨h1, h2, h3, h4, h5, h6, h7⟩ := h
  intro n
  unfold opT opsB
  rcases n with _ | _ | _ | _ | n <;> simp [*]
theorem stop_end {t : Tok} (h : t.kind = 0) : Stop t := opT_none fun s _ => by simp [isT, h]
theorem stop_mk {s : ByteArray} {t : Tok} (h : Mk s t) (hs : [kOr, kAnd, kEq, kLt, kPlus, kMinus, kStar].all (fun x => !decide (s = x)) = true) : Stop t := opT_none fun s' hs' => by
  rw [h.is]
  simpa using List.all_eq_true.1 hs s' hs'
/-- How a reading ends, by a flag: rightly, so many nodes on; or too deep. -/
def Ends2 (b : Bool) (n : Nat) (r : List Tok) (m : List Nd) (o : Out Int) : Prop :=
  if b then ∃ i m', o = .ok i r m' ∧ m'.length = m.length + n else ∃ x y, o = .bad 6 x y
theorem lop_stop {sub : Ps Int} {n f : Nat} {a : Int} {l : List Tok} {m : List Nd} (h : Stop (hdT l)) : lopP sub n (f + 1) a l m = .ok a l m := by
  unfold lopP
  rw [h n]
theorem lev_stop {un : Ps Int} {b : Bool} {n : Nat} {l r : List Tok} {m : List Nd} (h : Ends2 b n r m (un l m)) (hr : r ≠ []) (hs : Stop (hdT r)) : ∀ j, Ends2 b n r m (levP un j l m)
  | 0 => h
  | j + 1 => by
    have ih := lev_stop h hr hs j
    unfold Ends2 at ih ⊢
    cases b with
    | false =>
      obtain ⟨x, y, e⟩ := ih
      refine ⟨x, y, ?_⟩
      show (levP un j l m).bind _ = _
      rw [e]
      rfl
    | true =>
      obtain ⟨i, m', e, hm⟩ := ih
      refine ⟨i, m', ?_, hm⟩
      show (levP un j l m).bind _ = _
      rw [e]
      show lopP _ _ r.length i r m' = _
      obtain ⟨q, hq⟩ : ∃ q, r.length = q + 1 := ⟨r.length - 1, by have := List.length_pos_iff.2 hr; omega⟩
      rw [hq, lop_stop hs]
theorem all_stop {item : Ps Int} {b : Bool} {n f : Nat} {l r : List Tok} {m : List Nd} (h : Ends2 b n r m (item l m)) (hs : isT kSemi (hdT r) = false) : Ends2 b n r m (allP item (f + 1) l m) := by
  unfold Ends2 at h ⊢
  cases b with
  | false =>
    obtain ⟨x, y, e⟩ := h
    exact ⟨x, y, by rw [allP, e]; rfl⟩
  | true =>
    obtain ⟨i, m', e, hm⟩ := h
    refine ⟨i, m', ?_, hm⟩
    rw [allP, e]
    show (if isT kSemi (hdT r) && startsT (hdT r.tail) then _ else _) = _
    rw [hs]
    rfl
/-- An item that begins with none of the words is an expression of the lowest level. -/
theorem item_lev {item un : Ps Int} {l : List Tok} {m : List Nd} (h : ∀ s ∈ [kLet, kIf, kTry, kRaise, kOut], isT s (hdT l) = false) (hk : (hdT l).kind ≠ 1) : itemB item un l m = levP un 5 l m := by
  simp at h
  obtain ⟨h1, h2, h3, h4, h5⟩ := h
  unfold itemB
  simp [h1, h2, h3, h4, h5, hk]
theorem un_num {item un : Ps Int} {t : Tok} {r : List Tok} {m : List Nd} (h : Nm t) (hm : m.length < 4000) : ∃ i x, unB item un (t :: r) m = .ok i r (m ++ [x]) := by
  have h3 : t.kind = 3 := h
  refine ⟨m.length, ⟨nInt, t.line, t.col, nNil, t.num, []⟩, ?_⟩
  unfold unB
  simp [show hdT (t :: r) = t from rfl, h.is, h3, nodeP]
  omega
theorem item_num {k : Nat} {t : Tok} {l : List Tok} {m : List Nd} (h : Nm t) : itemP (k + 1) (t :: l) m = levP (unP k) 5 (t :: l) m := by
  refine item_lev (fun s _ => h.is) ?_
  unfold Nm at h
  simp [hdT, h]

/-! ### Signs -/
def SignsT : Nat → List Tok → List Tok → Prop
  | 0, l, r => ∃ t, l = t :: r ∧ Nm t
  | n + 1, l, r => ∃ t l', l = t :: l' ∧ Mk kMinus t ∧ SignsT n l' r
theorem signs_un : ∀ (n k : Nat) (l r : List Tok) (m : List Nd), SignsT n l r → m.length + n < 4000 → Ends2 (decide (n < k)) (n + 1) r m (unP k l m)
  | n, 0, l, r, m, _, _ => by
    rw [show decide (n < 0) = false by simp]
    exact ⟨_, _, rfl⟩
  | 0, k + 1, l, r, m, ⟨t, e, ht⟩, hm => by
    subst e
    rw [show decide (0 < k + 1) = true by simp]
    obtain ⟨i, x, h⟩ := un_num (item := itemP k) (un := unP k) (r := r) ht (by omega : m.length < 4000)
    exact ⟨i, _, h, by simp⟩
  | n + 1, k + 1, l, r, m, ⟨t, l', e, ht, hl⟩, hm => by
    subst e
    have ih := signs_un n k l' r m hl (by omega)
    have e : unP (k + 1) (t :: l') m = ((unP k) l' m).bind fun a l m => nodeP nNeg t nNil [a] l m := by
      show unB (itemP k) (unP k) _ _ = _
      unfold unB
      simp [hdT, ht.is]
    rw [e, show decide (n + 1 < k + 1) = decide (n < k) by simp]
    unfold Ends2 at ih ⊢
    cases hb : decide (n < k) with
    | false =>
      rw [hb] at ih
      obtain ⟨x, y, e⟩ := ih
      exact ⟨x, y, by rw [e]; rfl⟩
    | true =>
      rw [hb] at ih
      obtain ⟨i, m', e, hm'⟩ := ih
      rw [e]
      refine ⟨m'.length, m' ++ [⟨nNeg, t.line, t.col, nNil, t.num, [i]⟩], ?_, by simp; omega⟩
      show nodeP nNeg t nNil [i] r m' = _
      unfold nodeP
      rw [if_neg (by omega)]
theorem signs_hd : ∀ {n : Nat} {l r : List Tok}, SignsT n l r → (Nm (hdT l) ∨ Mk kMinus (hdT l)) ∧ l ≠ []
  | 0, _, _, ⟨t, e, h⟩ => by subst e; exact ⟨.inl h, by simp⟩
  | n + 1, _, _, ⟨t, l', e, h, _⟩ => by subst e; exact ⟨.inr h, by simp⟩
theorem exprP_of {b : Bool} {n : Nat} {l r : List Tok} (h : Ends2 b n r [] (allT (itemP 64) l [])) (hr : (hdT r).kind = 0) : if b then ∃ i m, exprP l [] = .ok i r m else ∃ x y, exprP l [] = .bad 6 x y := by
  unfold Ends2 at h
  unfold exprP
  cases b with
  | false =>
    obtain ⟨x, y, e⟩ := h
    exact ⟨x, y, by rw [e]; rfl⟩
  | true =>
    obtain ⟨i, m', e, _⟩ := h
    refine ⟨i, m', ?_⟩
    rw [e]
    show (if (hdT r).kind = 0 then _ else _) = _
    rw [if_pos hr]
theorem kend {t : Tok} (h : t.kind = 0) (s : ByteArray) : isT s t = false := by simp [isT, h]
theorem signs_all {n : Nat} {l r : List Tok} (h : SignsT n l r) (hn : n ≤ 255) (hr : r ≠ []) (h0 : (hdT r).kind = 0) : Ends2 (decide (n < 63)) (n + 1) r [] (allT (itemP 64) l []) := by
  have hh := signs_hd h
  have e : itemP 64 l [] = levP (unP 63) 5 l [] := by
    refine item_lev (fun s hs => ?_) ?_
    · rcases hh.1 with h1 | h1
      · exact h1.is
      · rw [h1.is]
        revert s
        decide
    · rcases hh.1 with h1 | h1
      · unfold Nm at h1
        omega
      · have := h1.1
        omega
  have hu := signs_un n 63 l r [] h (by simp; omega)
  have hi : Ends2 (decide (n < 63)) (n + 1) r [] (itemP 64 l []) := by
    rw [e]
    exact lev_stop hu hr (stop_end h0) 5
  unfold allT
  obtain ⟨q, hq⟩ : ∃ q, l.length = q + 1 := ⟨l.length - 1, by have := List.length_pos_iff.2 hh.2; omega⟩
  rw [hq]
  exact all_stop hi (kend h0 _)

/-! ### Brackets -/
def OpenT : Nat → List Tok → List Tok → Prop
  | 0, l, r => ∃ t, l = t :: r ∧ Nm t
  | n + 1, l, r => ∃ t t' l', l = t :: l' ∧ Mk kLp t ∧ Mk kRp t' ∧ OpenT n l' (t' :: r)
theorem open_hd : ∀ {n : Nat} {l r : List Tok}, OpenT n l r → (Nm (hdT l) ∨ Mk kLp (hdT l)) ∧ l ≠ []
  | 0, _, _, ⟨t, e, h⟩ => by subst e; exact ⟨.inl h, by simp⟩
  | n + 1, _, _, ⟨t, t', l', e, h, _, _⟩ => by subst e; exact ⟨.inr h, by simp⟩
theorem open_item {n k : Nat} {l r : List Tok} {m : List Nd} (h : OpenT n l r) : itemP (k + 1) l m = levP (unP k) 5 l m := by
  have hh := (open_hd h).1
  refine item_lev (fun s hs => ?_) ?_
  · rcases hh with h1 | h1
    · exact h1.is
    · rw [h1.is]
      revert s
      decide
  · rcases hh with h1 | h1
    · unfold Nm at h1
      omega
    · have := h1.1
      omega
theorem open_all {n k : Nat} {l r : List Tok} {m : List Nd} (h : OpenT n l r) (hr : r ≠ []) (hs : Stop (hdT r)) (hs2 : isT kSemi (hdT r) = false) (hu : Ends2 (decide (2 * n < k)) 1 r m (unP k l m)) : Ends2 (decide (2 * n < k)) 1 r m (allT (itemP (k + 1)) l m) := by
  have hi : Ends2 (decide (2 * n < k)) 1 r m (itemP (k + 1) l m) := by
    rw [open_item h]
    exact lev_stop hu hr hs 5
  unfold allT
  obtain ⟨q, hq⟩ : ∃ q, l.length = q + 1 := ⟨l.length - 1, by have := List.length_pos_iff.2 (open_hd h).2; omega⟩
  rw [hq]
  exact all_stop hi hs2
theorem all_zero {l : List Tok} {m : List Nd} (h : l ≠ []) : ∃ x y, allT (itemP 0) l m = .bad 6 x y := by
  unfold allT
  obtain ⟨q, hq⟩ : ∃ q, l.length = q + 1 := ⟨l.length - 1, by have := List.length_pos_iff.2 h; omega⟩
  rw [hq]
  exact ⟨_, _, rfl⟩
theorem open_un : ∀ (n k : Nat) (l r : List Tok) (m : List Nd), OpenT n l r → r ≠ [] → m.length < 4000 → Ends2 (decide (2 * n < k)) 1 r m (unP k l m)
  | n, 0, l, r, m, _, _, _ => by
    rw [show decide (2 * n < 0) = false by simp]
    exact ⟨_, _, rfl⟩
  | 0, k + 1, l, r, m, ⟨t, e, ht⟩, hr, hm => by
    subst e
    rw [show decide (2 * 0 < k + 1) = true by simp]
    obtain ⟨i, x, h⟩ := un_num (item := itemP k) (un := unP k) (r := r) ht hm
    exact ⟨i, _, h, by simp⟩
  | n + 1, k + 1, l, r, m, ⟨t, t', l', e, ht, ht', hl⟩, hr, hm => by
    subst e
    have hne := (open_hd hl).2
    have hkr : isT kRp (hdT l') = false := by
      rcases (open_hd hl).1 with h1 | h1
      · exact h1.is
      · rw [h1.is]
        decide
    have e : unP (k + 1) (t :: l') m = insP (itemP k) t l' m := by
      show unB (itemP k) (unP k) _ _ = _
      unfold unB
      have q1 : decide (kLp = kMinus) = false := by decide
      have q2 : decide (kLp = kNot) = false := by decide
      have q3 : decide (kLp = kFst) = false := by decide
      have q4 : decide (kLp = kSnd) = false := by decide
      have q5 : decide (kLp = kBang) = false := by decide
      have q6 : decide (kLp = kTrue) = false := by decide
      have q7 : decide (kLp = kFalse) = false := by decide
      have q8 : decide (kLp = kHole) = false := by decide
      have q9 : decide (kLp = kRelease) = false := by decide
      simp only [hdT, List.headD_cons, List.tail_cons, ht.is, q1, q2, q3, q4, q5, q6, q7, q8, q9, Bool.or_self, Bool.false_eq_true, if_false, decide_true, if_true]
    have e2 : insP (itemP k) t l' m = (allT (itemP k) l' m).bind fun a l m => if isT kRp (hdT l) then .ok a l.tail m
        else (mustP kComma l m).bind fun _ l m => (allT (itemP k) l m).bind fun b l m => (mustP kRp l m).bind fun _ l m => nodeP nPair t nNil [a, b] l m := by
      unfold insP
      rw [hkr]
      rfl
    rw [e, e2]
    cases k with
    | zero =>
      rw [show decide (2 * (n + 1) < 0 + 1) = false by simp]
      obtain ⟨x, y, h⟩ := all_zero (m := m) hne
      exact ⟨x, y, by rw [h]; rfl⟩
    | succ k =>
      have ih := open_all hl (by simp) (stop_mk (s := kRp) ht' (by decide)) (by show isT kSemi t' = false; rw [ht'.is]; decide) (open_un n k l' (t' :: r) m hl (by simp) hm)
      rw [show decide (2 * (n + 1) < k + 1 + 1) = decide (2 * n < k) by congr 1; exact propext (by omega)]
      unfold Ends2 at ih ⊢
      cases hb : decide (2 * n < k) with
      | false =>
        rw [hb] at ih
        obtain ⟨x, y, e⟩ := ih
        exact ⟨x, y, by rw [e]; rfl⟩
      | true =>
        rw [hb] at ih
        obtain ⟨i, m', e, hm'⟩ := ih
        refine ⟨i, m', ?_, hm'⟩
        rw [e]
        show (if isT kRp t' then Out.ok i r m' else _) = _
        rw [ht'.is]
        rfl

/-! ### Sums -/
def SumT : Nat → List Tok → List Tok → Prop
  | 0, l, r => l = r
  | n + 1, l, r => ∃ t t' l', l = t :: t' :: l' ∧ Mk kPlus t ∧ Nm t' ∧ SumT n l' r
theorem sum_hd : ∀ {n : Nat} {l r : List Tok}, SumT n l r → (r = l ∨ Mk kPlus (hdT l)) ∧ (r ≠ [] → l ≠ [])
  | 0, _, _, e => by cases e; exact ⟨.inl rfl, id⟩
  | n + 1, _, _, ⟨t, t', l', e, h, _, _⟩ => by subst e; exact ⟨.inr h, fun _ => by simp⟩
theorem sum_len : ∀ {n : Nat} {l r : List Tok}, SumT n l r → l.length = 2 * n + r.length
  | 0, _, _, e => by cases e; simp
  | n + 1, _, _, ⟨t, t', l', e, h, _, hl⟩ => by subst e; have := sum_len hl; simp; omega
theorem no_star {n : Nat} {l r : List Tok} (h : SumT n l r) (h0 : (hdT r).kind = 0) : opT 4 (hdT l) = none := by
  rcases (sum_hd h).1 with rfl | h1
  · exact stop_end h0 4
  · unfold opT opsB
    simp only [List.find?, h1.is]
    rw [show decide (kPlus = kStar) = false by decide]
theorem lev1_num {k : Nat} {t : Tok} {l : List Tok} {m : List Nd} (h : Nm t) (hl : l ≠ []) (hs : opT 4 (hdT l) = none) (hm : m.length < 4000) : ∃ i x, levP (unP (k + 1)) 1 (t :: l) m = .ok i l (m ++ [x]) := by
  obtain ⟨i, x, e⟩ := un_num (item := itemP k) (un := unP k) (r := l) h hm
  refine ⟨i, x, ?_⟩
  show (unP (k + 1) (t :: l) m).bind _ = _
  rw [show unP (k + 1) (t :: l) m = _ from e]
  show lopP _ 4 l.length i l _ = _
  obtain ⟨q, hq⟩ : ∃ q, l.length = q + 1 := ⟨l.length - 1, by have := List.length_pos_iff.2 hl; omega⟩
  rw [hq, lopP, hs]
theorem sum_lop {k : Nat} : ∀ (n f : Nat) (l r : List Tok) (m : List Nd) (a : Int), SumT n l r → r ≠ [] → (hdT r).kind = 0 → m.length + 2 * n < 4000 → n < f → ∃ i m', lopP (levP (unP (k + 1)) 1) 3 f a l m = .ok i r m' ∧ m'.length = m.length + 2 * n
  | n, 0, l, r, m, a, h, hr, h0, hm, hf => absurd hf (by omega)
  | 0, f + 1, l, r, m, a, e, hr, h0, hm, hf => by
    cases e
    exact ⟨a, m, lop_stop (stop_end h0), rfl⟩
  | n + 1, f + 1, l, r, m, a, ⟨t, t', l', e, ht, ht', hl⟩, hr, h0, hm, hf => by
    subst e
    have ho : opT 3 t = some kPlus := by
      unfold opT opsB
      simp only [List.find?, ht.is]
      simp
    obtain ⟨i, x, e1⟩ := lev1_num (k := k) (l := l') (m := m) ht' ((sum_hd hl).2 hr) (no_star hl h0) (by omega)
    unfold lopP
    simp only [hdT, List.headD_cons, ho, List.tail_cons, e1]
    obtain ⟨j, m', e2, hm'⟩ := sum_lop n f l' r ((m ++ [x]) ++ [⟨kPlus, t.line, t.col, nNil, t.num, [a, i]⟩]) ((m ++ [x]).length : Int) hl hr h0 (by simp; omega) (by omega)
    refine ⟨j, m', ?_, by rw [hm']; simp; omega⟩
    show (Out.bind (nodeP kPlus t nNil [a, i] l' (m ++ [x])) fun c l2 m2 => if 3 = 2 then Out.ok c l2 m2 else lopP (levP (unP (k + 1)) 1) 3 f c l2 m2) = _
    unfold nodeP
    rw [if_neg (by simp; omega)]
    exact e2
theorem sum_all {n : Nat} {t : Tok} {l r : List Tok} (ht : Nm t) (h : SumT n l r) (hn : n ≤ 255) (hr : r ≠ []) (h0 : (hdT r).kind = 0) : Ends2 true (2 * n + 1) r [] (allT (itemP 64) (t :: l) []) := by
  obtain ⟨i, x, e1⟩ := lev1_num (k := 62) (l := l) (m := []) ht ((sum_hd h).2 hr) (no_star h h0) (by simp)
  have hrl := List.length_pos_iff.2 hr
  obtain ⟨j, m', e2, hm'⟩ := sum_lop (k := 62) n l.length l r ([] ++ [x]) i h hr h0 (by simp; omega) (by have := sum_len h; omega)
  have h2 : Ends2 true (2 * n + 1) r [] (levP (unP 63) 2 (t :: l) []) := by
    refine ⟨j, m', ?_, by rw [hm']; simp; omega⟩
    show (levP (unP 63) 1 (t :: l) []).bind _ = _
    rw [e1]
    exact e2
  have up : ∀ j, Ends2 true (2 * n + 1) r [] (levP (unP 63) j (t :: l) []) → Ends2 true (2 * n + 1) r [] (levP (unP 63) (j + 1) (t :: l) []) := by
    rintro j ⟨i, m', e, hm⟩
    refine ⟨i, m', ?_, hm⟩
    show (levP (unP 63) j (t :: l) []).bind _ = _
    rw [e]
    show lopP _ _ r.length i r m' = _
    obtain ⟨q, hq⟩ : ∃ q, r.length = q + 1 := ⟨r.length - 1, by omega⟩
    rw [hq, lop_stop (stop_end h0)]
  have h5 := up 4 (up 3 (up 2 h2))
  have hi : Ends2 true (2 * n + 1) r [] (itemP 64 (t :: l) []) := by
    rw [item_num ht]
    exact h5
  unfold allT
  exact all_stop hi (kend h0 _)

/-! ### Sequences -/
def SeqT : Nat → List Tok → List Tok → Prop
  | 0, l, r => ∃ t, l = t :: r ∧ Nm t
  | n + 1, l, r => ∃ t t' l', l = t :: t' :: l' ∧ Nm t ∧ Mk kSemi t' ∧ SeqT n l' r
theorem seq_hd : ∀ {n : Nat} {l r : List Tok}, SeqT n l r → Nm (hdT l) ∧ 2 * n < l.length
  | 0, _, _, ⟨t, e, h⟩ => by subst e; exact ⟨h, by simp⟩
  | n + 1, _, _, ⟨t, t', l', e, h, _, hl⟩ => by subst e; have := (seq_hd hl).2; exact ⟨h, by simp; omega⟩
theorem item_one {k : Nat} {t : Tok} {l : List Tok} {m : List Nd} (h : Nm t) (hl : l ≠ []) (hs : Stop (hdT l)) (hm : m.length < 4000) : Ends2 true 1 l m (itemP (k + 2) (t :: l) m) := by
  rw [item_num h]
  obtain ⟨i, x, e⟩ := un_num (item := itemP k) (un := unP k) (r := l) h hm
  have hu : Ends2 true 1 l m (unP (k + 1) (t :: l) m) := by
    unfold Ends2
    exact ⟨i, m ++ [x], e, by simp⟩
  exact lev_stop hu hl hs 5
theorem seq_all {k : Nat} : ∀ (n f : Nat) (l r : List Tok) (m : List Nd), SeqT n l r → r ≠ [] → (hdT r).kind = 0 → m.length + 2 * n + 1 < 4000 → n < f → Ends2 true (2 * n + 1) r m (allP (itemP (k + 2)) f l m)
  | n, 0, l, r, m, h, hr, h0, hm, hf => absurd hf (by omega)
  | 0, f + 1, l, r, m, ⟨t, e, ht⟩, hr, h0, hm, hf => by
    subst e
    exact all_stop (item_one ht hr (stop_end h0) (by omega)) (kend h0 _)
  | n + 1, f + 1, l, r, m, ⟨t, t', l', e, ht, ht', hl⟩, hr, h0, hm, hf => by
    subst e
    obtain ⟨i, m1, e1, hm1⟩ := item_one (k := k) (l := t' :: l') (m := m) ht (by simp) (stop_mk (s := kSemi) ht' (by decide)) (by omega)
    obtain ⟨j, m2, e2, hm2⟩ := seq_all n f l' r m1 hl hr h0 (by omega) (by omega)
    have hst : startsT (hdT l') = true := by
      have h1 := (seq_hd hl).1
      unfold Nm at h1
      simp [startsT, h1]
    refine ⟨m2.length, m2 ++ [⟨nSeq, t'.line, t'.col, nNil, t'.num, [i, j]⟩], ?_, by simp; omega⟩
    rw [allP, e1]
    show (if isT kSemi t' && startsT (hdT l') then (allP (itemP (k + 2)) f l' m1).bind fun b l2 m2 => nodeP nSeq t' nNil [i, b] l2 m2 else _) = _
    rw [ht'.is, hst, e2]
    show nodeP nSeq t' nNil [i, j] r m2 = _
    unfold nodeP
    rw [if_neg (by omega)]
end Go.Proofs.YtmeacgmjpjjphaaGreatDoor
namespace Go.Proofs.YtmeacgmjpjjphaaGreatDoor
open Tr (Nd)

def rp (u : List UInt8) (n : Nat) : List UInt8 := (List.replicate n u).flatten
theorem rp_zero (u : List UInt8) : rp u 0 = [] := rfl
theorem rp_succ (u : List UInt8) (n : Nat) : rp u (n + 1) = u ++ rp u n := by simp [rp, List.replicate_succ]
theorem rp_snoc (u : List UInt8) (n : Nat) : rp u (n + 1) = rp u n ++ u := by simp [rp, List.replicate_succ']
theorem rp_len (u : List UInt8) (n : Nat) : (rp u n).length = n * u.length := by simp [rp]
theorem rp_mem {u : List UInt8} {n : Nat} {c : UInt8} (h : c ∈ rp u n) : c ∈ u := by
  obtain ⟨l, hl, hc⟩ := List.mem_flatten.1 h
  rwa [List.eq_of_mem_replicate hl] at hc
theorem mark_rp (r : List UInt8) : markB (bs (41 :: r)) = 1 := by
  unfold markB marks
  simp [bs, Lib.hasPrefix, List.find?]
  rfl
theorem mark_plus (r : List UInt8) : markB (bs (43 :: r)) = 1 := by
  unfold markB marks
  simp [bs, Lib.hasPrefix, List.find?]
  rfl
theorem mark_semi (r : List UInt8) : markB (bs (59 :: r)) = 1 := by
  unfold markB marks
  simp [bs, Lib.hasPrefix, List.find?]
  rfl
theorem mark_minus (r : List UInt8) : markB (bs (45 :: 32 :: r)) = 1 := by
  unfold markB marks
  simp [bs, Lib.hasPrefix, List.find?]
  rfl
def EndT (r : List Tok) : Prop := ∃ e, r = [e] ∧ e.kind = 0
theorem tok_end' : TokL [] EndT := tok_end.mono fun ts ⟨t, h, k, _⟩ => ⟨t, h, k⟩
theorem EndT.ne {r : List Tok} (h : EndT r) : r ≠ [] := by obtain ⟨e, rfl, _⟩ := h; simp
theorem EndT.hd {r : List Tok} (h : EndT r) : (hdT r).kind = 0 := by obtain ⟨e, rfl, h⟩ := h; exact h
theorem tok_mk {c : UInt8} {r : List UInt8} {S : List Tok → Prop} (hs : stay c = true) (h1 : letB c = false) (h2 : digB c = false) (hm : markB (bs (c :: r)) = 1) (h : TokL r S) : TokL (c :: r) fun ts => ∃ t l, ts = t :: l ∧ Mk (bs [c]) t ∧ S l :=
  (tok_one hs (read_mark h1 h2 hm) h).mono fun ts ⟨t, l, e, hk, ht, hl⟩ => ⟨t, l, e, ⟨hk, ht⟩, hl⟩
theorem tok_nm {r : List UInt8} {S : List Tok → Prop} (hd : noDig r = true) (h : TokL r S) : TokL (49 :: r) fun ts => ∃ t l, ts = t :: l ∧ Nm t ∧ S l :=
  (tok_one (by decide) (read_dig hd) h).mono fun ts ⟨t, l, e, hk, ht, hl⟩ => ⟨t, l, e, hk, hl⟩
theorem ascii_rp {u v w : List UInt8} {n : Nat} (hu : ∀ c ∈ u, c.toNat < 128) (hv : ∀ c ∈ v, c.toNat < 128) (hw : ∀ c ∈ w, c.toNat < 128) : ∀ c ∈ v ++ rp u n ++ w, c.toNat < 128 := by
  intro c hc
  rcases List.mem_append.1 hc with hc | hc
  · rcases List.mem_append.1 hc with hc | hc
    · exact hv c hc
    · exact hu c (rp_mem hc)
  · exact hw c hc

/-! ### Signs -/
theorem signs_tok : ∀ n, TokL (rp [45, 32] n ++ [49]) fun ts => ∃ r, SignsT n ts r ∧ EndT r
  | 0 => (tok_nm (r := []) rfl tok_end').mono fun ts ⟨t, l, e, h, hl⟩ => ⟨l, ⟨t, e, h⟩, hl⟩
  | n + 1 => by
    rw [rp_succ]
    exact (tok_mk (c := 45) (by decide) (by decide) (by decide) (mark_minus _) (tok_blank (signs_tok n))).mono fun ts ⟨t, l, e, h, r, hl, hr⟩ => ⟨r, ⟨t, l, e, h, hl⟩, hr⟩
theorem signs_parse (n : Nat) (hn : n ≤ 255) : if n ≤ 62 then ∃ i l m, parseP (bs (rp [45, 32] n ++ [49])) = .ok i l m else ∃ x y, parseP (bs (rp [45, 32] n ++ [49])) = .bad 6 x y := by
  obtain ⟨ts, h1, r, h2, h3⟩ := (signs_tok n).tokens (by simpa using ascii_rp (u := [45, 32]) (v := []) (w := [49]) (n := n) (by decide) (by decide) (by decide)) (by simp [rp_len]; omega)
  have h := exprP_of (signs_all h2 hn h3.ne h3.hd) h3.hd
  unfold parseP
  rw [h1]
  simp only
  by_cases hc : n ≤ 62
  · rw [if_pos hc]
    rw [decide_eq_true (by omega), if_pos rfl] at h
    obtain ⟨i, m, h⟩ := h
    exact ⟨i, _, m, h⟩
  · rw [if_neg hc]
    rw [decide_eq_false (by omega), if_neg (by simp)] at h
    exact h

/-! ### Brackets -/
theorem open_tok : ∀ (n : Nat) (R : List UInt8) (S : List Tok → Prop), noDig R = true → TokL R S → TokL (rp [40] n ++ 49 :: (rp [41] n ++ R)) fun ts => ∃ r, OpenT n ts r ∧ S r
  | 0, R, S, hd, h => (tok_nm hd h).mono fun ts ⟨t, l, e, h, hl⟩ => ⟨l, ⟨t, e, h⟩, hl⟩
  | n + 1, R, S, hd, h => by
    have e : rp [40] (n + 1) ++ 49 :: (rp [41] (n + 1) ++ R) = 40 :: (rp [40] n ++ 49 :: (rp [41] n ++ (41 :: R))) := by
      rw [rp_succ, rp_snoc [41]]
      simp
    rw [e]
    have ih := open_tok n (41 :: R) _ rfl (tok_mk (c := 41) (by decide) (by decide) (by decide) (mark_rp R) h)
    exact (tok_mk (c := 40) (by decide) (by decide) (by decide) (mark_lp _) ih).mono fun ts ⟨t, l, e, h, r, hl, t', r', e', h', hr⟩ => by
      subst e'
      exact ⟨r', ⟨t, t', l, e, h, h', hl⟩, hr⟩
theorem open_parse (n : Nat) (hn : n ≤ 255) : if n ≤ 31 then ∃ i l m, parseP (bs (rp [40] n ++ 49 :: rp [41] n)) = .ok i l m else ∃ x y, parseP (bs (rp [40] n ++ 49 :: rp [41] n)) = .bad 6 x y := by
  obtain ⟨ts, h1, r, h2, h3⟩ := (open_tok n [] EndT rfl tok_end').tokens (fun c hc => by
    simp only [List.append_nil, List.mem_append, List.mem_cons] at hc
    rcases hc with hc | hc | hc
    · rw [List.mem_singleton.1 (rp_mem hc)]; decide
    · rw [hc]; decide
    · rw [List.mem_singleton.1 (rp_mem hc)]; decide) (by simp [rp_len]; omega)
  rw [List.append_nil] at h1
  have h := exprP_of (open_all (k := 63) h2 h3.ne (stop_end h3.hd) (kend h3.hd _) (open_un n 63 ts r [] h2 h3.ne (by decide))) h3.hd
  unfold parseP
  rw [h1]
  simp only
  by_cases hc : n ≤ 31
  · rw [if_pos hc]
    rw [decide_eq_true (by omega), if_pos rfl] at h
    obtain ⟨i, m, h⟩ := h
    exact ⟨i, _, m, h⟩
  · rw [if_neg hc]
    rw [decide_eq_false (by omega), if_neg (by simp)] at h
    exact h

/-! ### Sums -/
theorem sum_tok : ∀ n, TokL (rp [43, 49] n) fun ts => ∃ r, SumT n ts r ∧ EndT r
  | 0 => tok_end'.mono fun ts h => ⟨ts, rfl, h⟩
  | n + 1 => by
    rw [rp_succ]
    have hd : noDig (rp [43, 49] n) = true := by cases n with
      | zero => rfl
      | succ n => rw [rp_succ]; rfl
    exact (tok_mk (c := 43) (by decide) (by decide) (by decide) (mark_plus _) (tok_nm hd (sum_tok n))).mono fun ts ⟨t, l, e, h, t', l', e', h', r, hl, hr⟩ => by
      subst e'
      exact ⟨r, ⟨t, t', l', e, h, h', hl⟩, hr⟩
theorem sum_parse (n : Nat) (hn : n ≤ 255) : ∃ i l m, parseP (bs (49 :: rp [43, 49] n)) = .ok i l m := by
  have hd : noDig (rp [43, 49] n) = true := by cases n with
    | zero => rfl
    | succ n => rw [rp_succ]; rfl
  obtain ⟨ts, h1, t, l, e, ht, r, h2, h3⟩ := (tok_nm hd (sum_tok n)).tokens (by simpa using ascii_rp (u := [43, 49]) (v := [49]) (w := []) (n := n) (by decide) (by decide) (by decide)) (by simp [rp_len]; omega)
  subst e
  have h := exprP_of (sum_all ht h2 hn h3.ne h3.hd) h3.hd
  rw [if_pos rfl] at h
  obtain ⟨i, m, h⟩ := h
  unfold parseP
  rw [h1]
  exact ⟨i, _, m, h⟩

/-! ### Sequences -/
theorem seq_tok : ∀ n, TokL (49 :: rp [59, 49] n) fun ts => ∃ r, SeqT n ts r ∧ EndT r
  | 0 => (tok_nm rfl tok_end').mono fun ts ⟨t, l, e, h, hl⟩ => ⟨l, ⟨t, e, h⟩, hl⟩
  | n + 1 => by
    rw [rp_succ]
    exact (tok_nm (r := 59 :: 49 :: rp [59, 49] n) rfl (tok_mk (c := 59) (by decide) (by decide) (by decide) (mark_semi _) (seq_tok n))).mono fun ts ⟨t, l, e, h, t', l', e', h', r, hl, hr⟩ => by
      subst e'
      exact ⟨r, ⟨t, t', l', e, h, h', hl⟩, hr⟩
theorem seq_parse (n : Nat) (hn : n ≤ 255) : ∃ i l m, parseP (bs (49 :: rp [59, 49] n)) = .ok i l m := by
  obtain ⟨ts, h1, r, h2, h3⟩ := (seq_tok n).tokens (by simpa using ascii_rp (u := [59, 49]) (v := [49]) (w := []) (n := n) (by decide) (by decide) (by decide)) (by simp [rp_len]; omega)
  have hl := (seq_hd h2).2
  have h := exprP_of (n := 2 * n + 1) (b := true) (seq_all (k := 62) n ts.length ts r [] h2 h3.ne h3.hd (by simp; omega) (by omega)) h3.hd
  rw [if_pos rfl] at h
  obtain ⟨i, m, h⟩ := h
  unfold parseP
  rw [h1]
  exact ⟨i, _, m, h⟩

/-! ### The chapter's example -/
theorem lives5_parse : ∃ i l m, parseP (bs [49, 32, 43, 32, 50, 32, 42, 32, 120]) = .ok i l m ∧ Tr.TreP.inT m.length i = true ∧ (Tr.TreP.nd m i).op = kPlus ∧ m.length = 5 ∧ (Tr.TreP.places 4000 m i).length = 5 := by
  have h : (match parseP (bs [49, 32, 43, 32, 50, 32, 42, 32, 120]) with
    | .bad _ _ _ => false
    | .ok i l m => Tr.TreP.inT m.length i && decide ((Tr.TreP.nd m i).op = kPlus) && decide (m.length = 5) && decide ((Tr.TreP.places 4000 m i).length = 5)) = true := by kernel_rfl
  split at h
  · cases h
  · rename_i i l m e
    simp only [Bool.and_eq_true, decide_eq_true_eq] at h
    exact ⟨i, l, m, e, h.1.1.1, h.1.1.2, h.1.2, h.2⟩
end Go.Proofs.YtmeacgmjpjjphaaGreatDoor
