/- What a reading leaves, whole; plain. -/
import Derived.Test.YtmeacgmjpjjphaaGreatDoorMExP
set_option linter.unusedVariables false
set_option linter.unusedSimpArgs false
namespace Go.Proofs.YtmeacgmjpjjphaaGreatDoor
open Tr (Nd)
open Tr.TreP (WF fits places nd inT)

def cost (m : List Nd) (i : Int) : Nat := (places m.length m i).length
/-- Tokens of which the last one is the end. -/
def Ends : List Tok → Prop
  | [] => False
  | [t] => t.kind = 0
  | _ :: b :: r => Ends (b :: r)
theorem Ends.tail {t : Tok} {r : List Tok} (h : Ends (t :: r)) (hk : t.kind ≠ 0) : Ends r := by
  cases r with
  | nil => exact absurd h hk
  | cons b r => exact h
theorem Ends.cons {l : List Tok} (h : Ends l) : ∃ t r, l = t :: r := by
  cases l with
  | nil => exact h.elim
  | cons t r => exact ⟨t, r, rfl⟩
structure TkOk (t : Tok) : Prop where
  text : t.text.size ≤ 65536
  lo : 0 ≤ t.num
  hi : t.num < 1000000000000000000
structure NdOk (x : Nd) : Prop where
  op : x.op.size ≤ 65536
  name : x.name.size ≤ 65536
  lo : 0 ≤ x.num
  hi : x.num < 1000000000000000000
  kids : x.kids.length ≤ 65540
structure Pre (l : List Tok) (m : List Nd) : Prop where
  ends : Ends l
  wf : WF m
  len : m.length ≤ 4000
  nodes : ∀ x ∈ m, NdOk x
  toks : ∀ t ∈ l, TkOk t
  few : l.length ≤ 65540
  cheap : ∀ k : Nat, k < m.length → cost m (k : Int) ≤ 4000
structure Adv (l : List Tok) (m : List Nd) (l' : List Tok) (m' : List Nd) : Prop where
  pre : Pre l' m'
  suf : l' <:+ l
  ext : m <+: m'
theorem Adv.refl {l : List Tok} {m : List Nd} (h : Pre l m) : Adv l m l m := ⟨h, List.suffix_refl _, List.prefix_refl _⟩
theorem Adv.trans {l l' l'' : List Tok} {m m' m'' : List Nd} (h : Adv l m l' m') (k : Adv l' m' l'' m'') : Adv l m l'' m'' := ⟨k.pre, k.suf.trans h.suf, h.ext.trans k.ext⟩
theorem Adv.shorter {l l' : List Tok} {m m' : List Nd} (h : Adv l m l' m') : l'.length ≤ l.length := h.suf.length_le
theorem Pre.tail {l : List Tok} {m : List Nd} (h : Pre l m) (hk : (hdT l).kind ≠ 0) : Adv l m l.tail m := by
  obtain ⟨t, r, rfl⟩ := h.ends.cons
  exact ⟨⟨h.ends.tail hk, h.wf, h.len, h.nodes, fun x hx => h.toks x (List.mem_cons_of_mem _ hx), by have := h.few; simp at this ⊢; omega, h.cheap⟩, ⟨[t], rfl⟩, List.prefix_refl _⟩
theorem Pre.hd {l : List Tok} {m : List Nd} (h : Pre l m) : TkOk (hdT l) := by
  obtain ⟨t, r, rfl⟩ := h.ends.cons
  exact h.toks t (by simp)
theorem isT_kind {s : ByteArray} {t : Tok} (h : isT s t = true) : t.kind ≠ 0 := by
  unfold isT at h
  simp only [Bool.and_eq_true, Bool.or_eq_true, decide_eq_true_eq] at h
  rcases h.1 with h | h <;> rw [h] <;> decide
theorem opT_kind {n : Nat} {t : Tok} {op : ByteArray} (h : opT n t = some op) : t.kind ≠ 0 ∧ op.size ≤ 3 := by
  unfold opT at h
  refine ⟨isT_kind (s := op) (by simpa using List.find?_some h), ?_⟩
  have := List.mem_of_find?_eq_some h
  revert this
  unfold opsB
  split <;> intro this <;> simp only [List.mem_cons, List.not_mem_nil, or_false] at this <;> (try rcases this with rfl | rfl) <;> (try subst this) <;> decide

theorem wf_pre {m r : List Nd} (h : WF (m ++ r)) : WF m := fun k hk x hx => by
  refine h k (by simp; omega) x ?_
  rwa [Tr.TreP.getD_append _ _ _ _ hk]
theorem places_ext : ∀ (r m : List Nd), WF (m ++ r) → ∀ f i, inT m.length i = true → places f (m ++ r) i = places f m i := by
  intro r
  induction r with
  | nil => intro m h f i hi; rw [List.append_nil]
  | cons x r ih =>
    intro m h f i hi
    have e : m ++ x :: r = (m ++ [x]) ++ r := by simp
    rw [e] at h ⊢
    rw [ih (m ++ [x]) h f i (by rw [Tr.TreP.inT_iff] at hi ⊢; simp; omega)]
    exact Tr.TreP.places_append (wf_pre (r := [x]) (wf_pre h)) f i hi
theorem cost_ext {m m' : List Nd} (h : m <+: m') (hw : WF m') {i : Int} (h0 : 0 ≤ i) (h1 : i < m.length) : cost m' i = cost m i := by
  obtain ⟨r, rfl⟩ := h
  have hi : inT m.length i = true := Tr.TreP.inT_iff.2 ⟨h0, h1⟩
  have hwm : WF m := wf_pre hw
  unfold cost
  rw [places_ext r m hw _ i hi, Tr.TreP.places_fuel hwm (m ++ r).length m.length i (fun _ => ⟨by simp; omega, by omega⟩)]
/-- Parts that were put since m0, and what they cost. -/
structure Paid (m0 : List Nd) (ks : List Int) (m : List Nd) : Prop where
  there : ∀ k ∈ ks, 0 ≤ k ∧ k < m.length
  cost : (ks.map (cost m)).sum + m0.length ≤ m.length
theorem Paid.nil (m : List Nd) : Paid m [] m := ⟨fun k hk => by simp at hk, by simp⟩
theorem map_cost {m m' : List Nd} (h : m <+: m') (hw : WF m') : ∀ {ks : List Int}, (∀ k ∈ ks, 0 ≤ k ∧ k < m.length) → ks.map (Go.Proofs.YtmeacgmjpjjphaaGreatDoor.cost m') = ks.map (Go.Proofs.YtmeacgmjpjjphaaGreatDoor.cost m)
  | [], _ => rfl
  | a :: ks, hk => by
    rw [List.map_cons, List.map_cons, cost_ext h hw (hk a (by simp)).1 (hk a (by simp)).2, map_cost h hw (fun k hk' => hk k (by simp [hk']))]
theorem Paid.app {m0 m m' : List Nd} {ks js : List Int} (h : Paid m0 ks m) (k : Paid m js m') (he : m <+: m') (hw : WF m') : Paid m0 (ks ++ js) m' := by
  have hl := he.length_le
  refine ⟨fun x hx => ?_, ?_⟩
  · rcases List.mem_append.1 hx with hx | hx
    · have := h.there x hx; omega
    · exact k.there x hx
  · rw [List.map_append, List.sum_append, map_cost he hw h.there]
    have := h.cost
    have := k.cost
    omega

def Ok' {α : Type} (Q : α → List Tok → List Nd → Prop) : Out α → Prop
  | .bad c _ _ => c = 5 ∨ c = 6
  | .ok a l m => Q a l m
theorem Ok'.bind {α β : Type} {Q : α → List Tok → List Nd → Prop} {R : β → List Tok → List Nd → Prop} {o : Out α} {f : α → List Tok → List Nd → Out β} (h : Ok' Q o) (hf : ∀ a l m, Q a l m → Ok' R (f a l m)) : Ok' R (o.bind f) := by
  cases o with
  | bad c l k => exact h
  | ok a l m => exact hf a l m h
theorem Ok'.mono {α : Type} {Q R : α → List Tok → List Nd → Prop} {o : Out α} (h : Ok' Q o) (hf : ∀ a l m, Q a l m → R a l m) : Ok' R o := by
  cases o with
  | bad c l k => exact h
  | ok a l m => exact hf a l m h
/-- From l and m on: one expression, put since m0. -/
def Fit (l0 : List Tok) (m0 : List Nd) (i : Int) (l : List Tok) (m : List Nd) : Prop := Adv l0 m0 l m ∧ Paid m0 [i] m
def GoodP (p : Ps Int) : Prop := ∀ l m, Pre l m → Ok' (Fit l m) (p l m)
theorem kind_ok {l : List Tok} {m : List Nd} (h : Pre l m) {k : Int} (hk : k ≠ 0) : Ok' (fun t l' m' => Adv l m l' m' ∧ m' = m ∧ TkOk t ∧ l'.length < l.length) (kindP k l m) := by
  unfold kindP
  split
  · rename_i he
    have ha := h.tail (by rw [he]; exact hk)
    obtain ⟨t, r, rfl⟩ := h.ends.cons
    exact ⟨ha, rfl, h.hd, by simp⟩
  · exact .inl rfl
theorem must_ok {l : List Tok} {m : List Nd} (h : Pre l m) (s : ByteArray) : Ok' (fun _ l' m' => Adv l m l' m' ∧ m' = m ∧ l'.length < l.length) (mustP s l m) := by
  unfold mustP
  split
  · rename_i he
    have ha := h.tail (isT_kind he)
    obtain ⟨t, r, rfl⟩ := h.ends.cons
    exact ⟨ha, rfl, by simp⟩
  · exact .inl rfl
theorem node_ok {m0 : List Nd} {l : List Tok} {m : List Nd} (h : Pre l m) {op : ByteArray} {t : Tok} {name : ByteArray} {ks : List Int} (ho : op.size ≤ 65536) (ht : TkOk t) (hn : name.size ≤ 65536) (hk : ks.length ≤ 65540) (hp : Paid m0 ks m) :
    Ok' (fun i l' m' => Adv l m l' m' ∧ Paid m0 [i] m' ∧ l' = l) (nodeP op t name ks l m) := by
  unfold nodeP
  split
  · exact .inr rfl
  · rename_i hlt
    have hf : fits m.length ⟨op, t.line, t.col, name, t.num, ks⟩ = true := List.all_eq_true.2 fun k hk => Tr.TreP.inT_iff.2 (hp.there k hk)
    have hw := h.wf.add hf
    have hpre : m <+: m ++ [(⟨op, t.line, t.col, name, t.num, ks⟩ : Nd)] := ⟨_, rfl⟩
    have hlen : (m ++ [(⟨op, t.line, t.col, name, t.num, ks⟩ : Nd)]).length = m.length + 1 := by simp
    have hcost := hp.cost
    have hc : cost (m ++ [(⟨op, t.line, t.col, name, t.num, ks⟩ : Nd)]) (m.length : Nat) = 1 + (ks.map (cost m)).sum := by
      unfold cost
      have hi : inT (m ++ [(⟨op, t.line, t.col, name, t.num, ks⟩ : Nd)]).length (m.length : Nat) = true := Tr.TreP.inT_iff.2 ⟨by omega, by omega⟩
      have hnd : nd (m ++ [(⟨op, t.line, t.col, name, t.num, ks⟩ : Nd)]) (m.length : Nat) = ⟨op, t.line, t.col, name, t.num, ks⟩ := by simp [nd, List.getD]
      rw [hlen] at hi ⊢
      simp only [places]
      rw [hlen, hi, if_pos rfl, hnd]
      simp only [List.length_cons, List.length_flatMap]
      rw [Nat.add_comm]
      congr 2
      refine List.map_congr_left fun k hk' => ?_
      have := hp.there k hk'
      rw [Tr.TreP.places_append h.wf m.length k (Tr.TreP.inT_iff.2 this)]
    refine ⟨⟨⟨h.ends, hw, by omega, fun x hx => ?_, h.toks, h.few, fun k hk => ?_⟩, List.suffix_refl _, hpre⟩, ⟨fun k hk => ?_, ?_⟩, rfl⟩
    · rcases List.mem_append.1 hx with hx | hx
      · exact h.nodes x hx
      · obtain rfl := List.mem_singleton.1 hx
        exact ⟨ho, hn, ht.lo, ht.hi, hk⟩
    · by_cases he : k < m.length
      · rw [cost_ext hpre hw (by omega) (by omega)]
        exact h.cheap k he
      · obtain rfl : k = m.length := by omega
        rw [hc]
        omega
    · obtain rfl := List.mem_singleton.1 hk
      omega
    · simp only [List.map_cons, List.map_nil, List.sum_cons, List.sum_nil, hc]
      omega
end Go.Proofs.YtmeacgmjpjjphaaGreatDoor
namespace Go.Proofs.YtmeacgmjpjjphaaGreatDoor
open Tr (Nd)
open Tr.TreP (WF fits places nd inT)

theorem Paid.one {m m' : List Nd} {a : Int} {l l' : List Tok} (h : Fit l m a l' m') : Paid m [a] m' := h.2
theorem Fit.of {m0 m m' : List Nd} {l0 l l' : List Tok} {i : Int} (h : Adv l0 m0 l m) (k : Adv l m l' m') (p : Paid m0 [i] m') : Fit l0 m0 i l' m' := ⟨h.trans k, p⟩
theorem small (x : ByteArray) (h : x.size ≤ 8) : x.size ≤ 65536 := Nat.le_trans h (by decide)
theorem all_ok {item : Ps Int} (hi : GoodP item) : ∀ (n : Nat) (l : List Tok) (m : List Nd), Pre l m → l.length ≤ n → Ok' (Fit l m) (allP item n l m)
  | 0, l, m, h, hn => by
    obtain ⟨t, r, rfl⟩ := h.ends.cons
    simp at hn
  | n + 1, l, m, h, hn => by
    unfold allP
    refine (hi l m h).bind fun a l1 m1 h1 => ?_
    split
    · rename_i hs
      simp only [Bool.and_eq_true] at hs
      have ht := h1.1.pre.tail (isT_kind hs.1)
      have hlt : l1.tail.length < l1.length := by
        obtain ⟨t, r, rfl⟩ := h1.1.pre.ends.cons
        simp
      have := h1.1.shorter
      refine (all_ok hi n l1.tail m1 ht.pre (by omega)).bind fun b l2 m2 h2 => ?_
      refine (node_ok h2.1.pre (small _ (by decide)) h1.1.pre.hd (by decide) (by simp) (h1.2.app h2.2 h2.1.ext h2.1.pre.wf)).mono fun i l3 m3 h3 => ?_
      exact ⟨((h1.1.trans ht).trans h2.1).trans h3.1, h3.2.1⟩
    · exact h1
theorem allT_ok {item : Ps Int} (hi : GoodP item) : GoodP (allT item) := fun l m h => all_ok hi l.length l m h (Nat.le_refl _)
theorem lop_ok {sub : Ps Int} (hs : GoodP sub) (n : Nat) : ∀ (f : Nat) (a : Int) (l : List Tok) (m : List Nd) (l0 : List Tok) (m0 : List Nd), Adv l0 m0 l m → Paid m0 [a] m → l.length ≤ f → Ok' (Fit l0 m0) (lopP sub n f a l m)
  | 0, a, l, m, l0, m0, h, hp, hn => by
    obtain ⟨t, r, rfl⟩ := h.pre.ends.cons
    simp at hn
  | f + 1, a, l, m, l0, m0, h, hp, hn => by
    unfold lopP
    cases ho : opT n (hdT l) with
    | none => exact ⟨h, hp⟩
    | some op =>
      obtain ⟨hk, hsz⟩ := opT_kind ho
      have ht := h.pre.tail hk
      have hlt : l.tail.length < l.length := by
        obtain ⟨t, r, rfl⟩ := h.pre.ends.cons
        simp
      refine (hs l.tail m ht.pre).bind fun b l1 m1 h1 => ?_
      refine (node_ok h1.1.pre (by omega) h.pre.hd (by decide) (by simp) (hp.app h1.2 h1.1.ext h1.1.pre.wf)).bind fun c l2 m2 h2 => ?_
      obtain ⟨ha2, hp2, rfl⟩ := h2
      have hA := ((h.trans ht).trans h1.1).trans ha2
      split
      · exact ⟨hA, hp2⟩
      · exact lop_ok hs n f c l2 m2 l0 m0 hA hp2 (by have := h1.1.shorter; omega)
theorem lev_ok {un : Ps Int} (hu : GoodP un) : ∀ j, GoodP (levP un j)
  | 0 => hu
  | j + 1 => fun l m h => by
    refine (lev_ok hu j l m h).bind fun a l1 m1 h1 => ?_
    exact lop_ok (lev_ok hu j) (4 - j) l1.length a l1 m1 l m h1.1 h1.2 (Nat.le_refl _)
theorem arg_ok {item : Ps Int} (hi : GoodP item) : ∀ (f : Nat) (acc : List Int) (l : List Tok) (m : List Nd) (l0 : List Tok) (m0 : List Nd), Adv l0 m0 l m → Paid m0 acc m → acc.length + l.length ≤ 65540 → l.length ≤ f →
    Ok' (fun ks l' m' => Adv l0 m0 l' m' ∧ Paid m0 ks m' ∧ ks.length ≤ 65540) (argP item f acc l m)
  | 0, acc, l, m, l0, m0, h, hp, hc, hn => by
    obtain ⟨t, r, rfl⟩ := h.pre.ends.cons
    simp at hn
  | f + 1, acc, l, m, l0, m0, h, hp, hc, hn => by
    unfold argP
    refine (allT_ok hi l m h.pre).bind fun a l1 m1 h1 => ?_
    have hs1 := h1.1.shorter
    have hP := hp.app h1.2 h1.1.ext h1.1.pre.wf
    have hlt : l1.tail.length < l1.length := by
      obtain ⟨t, r, rfl⟩ := h1.1.pre.ends.cons
      simp
    split
    · rename_i hk
      have ht := h1.1.pre.tail (isT_kind hk)
      exact arg_ok hi f (acc ++ [a]) l1.tail m1 l0 m0 ((h.trans h1.1).trans ht) hP (by simp; omega) (by omega)
    · refine (must_ok h1.1.pre kRp).bind fun _ l2 m2 h2 => ?_
      obtain ⟨ha2, rfl, _⟩ := h2
      exact ⟨(h.trans h1.1).trans ha2, hP, by simp; omega⟩
theorem args_ok {item : Ps Int} (hi : GoodP item) {l : List Tok} {m : List Nd} (h : Pre l m) : Ok' (fun ks l' m' => Adv l m l' m' ∧ Paid m ks m' ∧ ks.length ≤ 65540) (argsP item l m) := by
  unfold argsP
  split
  · rename_i hk
    exact ⟨h.tail (isT_kind hk), Paid.nil m, by decide⟩
  · exact arg_ok hi l.length [] l m l m (Adv.refl h) (Paid.nil m) (by have := h.few; simpa using this) (Nat.le_refl _)
theorem ins_ok {item : Ps Int} (hi : GoodP item) {l : List Tok} {m : List Nd} (h : Pre l m) {t : Tok} (ht : TkOk t) : Ok' (Fit l m) (insP item t l m) := by
  unfold insP
  split
  · rename_i hk
    have ha := h.tail (isT_kind hk)
    exact (node_ok ha.pre (by decide) ht (by decide) (by simp) (Paid.nil m)).mono fun i l3 m3 h3 => ⟨ha.trans h3.1, h3.2.1⟩
  · refine (allT_ok hi l m h).bind fun a l1 m1 h1 => ?_
    split
    · rename_i hk
      exact ⟨h1.1.trans (h1.1.pre.tail (isT_kind hk)), h1.2⟩
    · refine (must_ok h1.1.pre kComma).bind fun _ l2 m2 h2 => ?_
      obtain ⟨ha2, rfl, _⟩ := h2
      refine (allT_ok hi l2 m2 ha2.pre).bind fun b l3 m3 h3 => ?_
      refine (must_ok h3.1.pre kRp).bind fun _ l4 m4 h4 => ?_
      obtain ⟨ha4, rfl, _⟩ := h4
      refine (node_ok ha4.pre (by decide) ht (by decide) (by simp) (h1.2.app h3.2 h3.1.ext h3.1.pre.wf)).mono fun i l5 m5 h5 => ?_
      exact ⟨(((h1.1.trans ha2).trans h3.1).trans ha4).trans h5.1, h5.2.1⟩
theorem item_ok {item un : Ps Int} (hi : GoodP item) (hu : GoodP un) : GoodP (itemB item un) := fun l m h => by
  have ht := h.hd
  unfold itemB
  simp only
  split
  · rename_i hk
    have ha := h.tail (isT_kind hk)
    refine (kind_ok ha.pre (by decide)).bind fun n l1 m1 h1 => ?_
    obtain ⟨a1, rfl, hn, _⟩ := h1
    refine (must_ok a1.pre kEq).bind fun _ l2 m2 h2 => ?_
    obtain ⟨a2, rfl, _⟩ := h2
    refine (allT_ok hi l2 m2 a2.pre).bind fun a l3 m3 h3 => ?_
    refine (must_ok h3.1.pre kIn).bind fun _ l4 m4 h4 => ?_
    obtain ⟨a4, rfl, _⟩ := h4
    refine (allT_ok hi l4 m4 a4.pre).bind fun b l5 m5 h5 => ?_
    refine (node_ok h5.1.pre (by decide) ht hn.text (by simp) (h3.2.app h5.2 h5.1.ext h5.1.pre.wf)).mono fun i l6 m6 h6 => ?_
    exact ⟨(((((ha.trans a1).trans a2).trans h3.1).trans a4).trans h5.1).trans h6.1, h6.2.1⟩
  split
  · rename_i hk
    have ha := h.tail (isT_kind hk)
    refine (allT_ok hi l.tail m ha.pre).bind fun c l1 m1 h1 => ?_
    refine (must_ok h1.1.pre kThen).bind fun _ l2 m2 h2 => ?_
    obtain ⟨a2, rfl, _⟩ := h2
    refine (hi l2 m2 a2.pre).bind fun a l3 m3 h3 => ?_
    refine (must_ok h3.1.pre kElse).bind fun _ l4 m4 h4 => ?_
    obtain ⟨a4, rfl, _⟩ := h4
    refine (hi l4 m4 a4.pre).bind fun b l5 m5 h5 => ?_
    refine (node_ok h5.1.pre (by decide) ht (by decide) (by simp) ((h1.2.app h3.2 h3.1.ext h3.1.pre.wf).app h5.2 h5.1.ext h5.1.pre.wf)).mono fun i l6 m6 h6 => ?_
    exact ⟨(((((ha.trans h1.1).trans a2).trans h3.1).trans a4).trans h5.1).trans h6.1, h6.2.1⟩
  split
  · rename_i hk
    have ha := h.tail (isT_kind hk)
    refine (allT_ok hi l.tail m ha.pre).bind fun a l1 m1 h1 => ?_
    refine (must_ok h1.1.pre kWith).bind fun _ l2 m2 h2 => ?_
    obtain ⟨a2, rfl, _⟩ := h2
    refine (kind_ok a2.pre (by decide)).bind fun n l3 m3 h3 => ?_
    obtain ⟨a3, rfl, hn, _⟩ := h3
    refine (must_ok a3.pre kArrow).bind fun _ l4 m4 h4 => ?_
    obtain ⟨a4, rfl, _⟩ := h4
    refine (hi l4 m4 a4.pre).bind fun b l5 m5 h5 => ?_
    refine (node_ok h5.1.pre (by decide) ht hn.text (by simp) (h1.2.app h5.2 h5.1.ext h5.1.pre.wf)).mono fun i l6 m6 h6 => ?_
    exact ⟨(((((ha.trans h1.1).trans a2).trans a3).trans a4).trans h5.1).trans h6.1, h6.2.1⟩
  split
  · rename_i hk
    have ha := h.tail (isT_kind hk)
    refine (kind_ok ha.pre (by decide)).bind fun n l1 m1 h1 => ?_
    obtain ⟨a1, rfl, hn, _⟩ := h1
    exact (node_ok a1.pre (by decide) ht hn.text (by simp) (Paid.nil m1)).mono fun i l6 m6 h6 => ⟨(ha.trans a1).trans h6.1, h6.2.1⟩
  split
  · rename_i hk
    have ha := h.tail (isT_kind hk)
    refine (kind_ok ha.pre (by decide)).bind fun n l1 m1 h1 => ?_
    obtain ⟨a1, rfl, hn, _⟩ := h1
    refine (lev_ok hu 5 l1 m1 a1.pre).bind fun a l2 m2 h2 => ?_
    exact (node_ok h2.1.pre (by decide) ht hn.text (by simp) h2.2).mono fun i l6 m6 h6 => ⟨((ha.trans a1).trans h2.1).trans h6.1, h6.2.1⟩
  split
  · rename_i hk
    have ha := h.tail (by rw [hk.1]; decide)
    have hb := ha.pre.tail (by rw [hk.2.1]; decide)
    refine (lev_ok hu 5 l.tail.tail m hb.pre).bind fun a l2 m2 h2 => ?_
    exact (node_ok h2.1.pre (by decide) ht ht.text (by simp) h2.2).mono fun i l6 m6 h6 => ⟨((ha.trans hb).trans h2.1).trans h6.1, h6.2.1⟩
  · exact lev_ok hu 5 l m h
theorem un_ok {item un : Ps Int} (hi : GoodP item) (hu : GoodP un) : GoodP (unB item un) := fun l m h => by
  have ht := h.hd
  unfold unB
  simp only
  split
  · rename_i hk
    have ha := h.tail (isT_kind hk)
    refine (hu l.tail m ha.pre).bind fun a l2 m2 h2 => ?_
    exact (node_ok h2.1.pre (by decide) ht (by decide) (by simp) h2.2).mono fun i l6 m6 h6 => ⟨(ha.trans h2.1).trans h6.1, h6.2.1⟩
  split
  · rename_i hk
    have ha := h.tail (by
      simp only [Bool.or_eq_true] at hk
      rcases hk with (hk | hk) | hk <;> exact isT_kind hk)
    refine (hu l.tail m ha.pre).bind fun a l2 m2 h2 => ?_
    exact (node_ok h2.1.pre ht.text ht (by decide) (by simp) h2.2).mono fun i l6 m6 h6 => ⟨(ha.trans h2.1).trans h6.1, h6.2.1⟩
  split
  · rename_i hk
    have ha := h.tail (isT_kind hk)
    refine (kind_ok ha.pre (by decide)).bind fun n l1 m1 h1 => ?_
    obtain ⟨a1, rfl, hn, _⟩ := h1
    exact (node_ok a1.pre (by decide) ht hn.text (by simp) (Paid.nil m1)).mono fun i l6 m6 h6 => ⟨(ha.trans a1).trans h6.1, h6.2.1⟩
  split
  · rename_i hk
    have ha := h.tail (by
      simp only [Bool.or_eq_true] at hk
      rcases hk with hk | hk <;> exact isT_kind hk)
    exact (node_ok ha.pre ht.text ht (by decide) (by simp) (Paid.nil m)).mono fun i l6 m6 h6 => ⟨ha.trans h6.1, h6.2.1⟩
  split
  · rename_i hk
    have ha := h.tail (isT_kind hk)
    refine (kind_ok ha.pre (by decide)).bind fun n l1 m1 h1 => ?_
    obtain ⟨a1, rfl, hn, _⟩ := h1
    exact (node_ok a1.pre (by decide) ht hn.text (by simp) (Paid.nil m1)).mono fun i l6 m6 h6 => ⟨(ha.trans a1).trans h6.1, h6.2.1⟩
  split
  · rename_i hk
    have ha := h.tail (isT_kind hk)
    refine (kind_ok ha.pre (by decide)).bind fun n l1 m1 h1 => ?_
    obtain ⟨a1, rfl, hn, _⟩ := h1
    refine (must_ok a1.pre kLp).bind fun _ l2 m2 h2 => ?_
    obtain ⟨a2, rfl, _⟩ := h2
    refine (allT_ok hi l2 m2 a2.pre).bind fun a l3 m3 h3 => ?_
    refine (must_ok h3.1.pre kRp).bind fun _ l4 m4 h4 => ?_
    obtain ⟨a4, rfl, _⟩ := h4
    exact (node_ok a4.pre (by decide) ht hn.text (by simp) h3.2).mono fun i l6 m6 h6 => ⟨((((ha.trans a1).trans a2).trans h3.1).trans a4).trans h6.1, h6.2.1⟩
  split
  · rename_i hk
    have ha := h.tail (isT_kind hk)
    exact (ins_ok hi ha.pre ht).mono fun i l6 m6 h6 => ⟨ha.trans h6.1, h6.2⟩
  split
  · rename_i hk
    have ha := h.tail (by rw [hk]; decide)
    exact (node_ok ha.pre (by decide) ht (by decide) (by simp) (Paid.nil m)).mono fun i l6 m6 h6 => ⟨ha.trans h6.1, h6.2.1⟩
  · refine (kind_ok h (by decide)).bind fun n l1 m1 h1 => ?_
    obtain ⟨a1, rfl, hn, _⟩ := h1
    split
    · rename_i hk
      have ha := a1.pre.tail (isT_kind hk)
      refine (args_ok hi ha.pre).bind fun ks l2 m2 h2 => ?_
      exact (node_ok h2.1.pre (by decide) ht ht.text h2.2.2 h2.2.1).mono fun i l6 m6 h6 => ⟨((a1.trans ha).trans h2.1).trans h6.1, h6.2.1⟩
    · exact (node_ok a1.pre (by decide) ht ht.text (by simp) (Paid.nil m1)).mono fun i l6 m6 h6 => ⟨a1.trans h6.1, h6.2.1⟩
theorem deep_ok : ∀ k, GoodP (deepP k).1 ∧ GoodP (deepP k).2
  | 0 => ⟨fun l m h => .inr rfl, fun l m h => .inr rfl⟩
  | k + 1 => ⟨item_ok (deep_ok k).1 (deep_ok k).2, un_ok (deep_ok k).1 (deep_ok k).2⟩
theorem itemP_ok (k : Nat) : GoodP (itemP k) := (deep_ok k).1
theorem unP_ok (k : Nat) : GoodP (unP k) := (deep_ok k).2
end Go.Proofs.YtmeacgmjpjjphaaGreatDoor
