/- What TreeNodes says, with no program in sight. -/
namespace Go.Proofs.Ytnaednfdaaiciaa

/-- A node: its word, its place, its name, its number, its parts. -/
structure Nd where
  op : ByteArray
  line : Int
  col : Int
  name : ByteArray
  num : Int
  kids : List Int
instance : Inhabited Nd := ⟨⟨.empty, 0, 0, .empty, 0, []⟩⟩

namespace TreP

theorem getD_take {α : Type} {l : List α} {k : Nat} {d : α} (h : k < l.length) : l.take (k + 1) = l.take k ++ [l.getD k d] := by
  rw [List.take_add_one, List.getElem?_eq_getElem h]
  simp [List.getD, h]
theorem getD_append {α : Type} (l k : List α) (d : α) (n : Nat) (h : n < l.length) : (l ++ k).getD n d = l.getD n d := by
  simp [List.getD, List.getElem?_append_left h]
theorem getD_default {α : Type} (l : List α) (d : α) (n : Nat) (h : l.length ≤ n) : l.getD n d = d := by
  simp [List.getD, List.getElem?_eq_none h]

def inT (n : Nat) (i : Int) : Bool := decide (0 ≤ i) && decide (i < n)
def fits (n : Nat) (x : Nd) : Bool := x.kids.all (inT n)
def addN (m : List Nd) (x : Nd) : List Nd := if fits m.length x then m ++ [x] else m
def nd (m : List Nd) (i : Int) : Nd := m.getD i.toNat default
def places : Nat → List Nd → Int → List Int
  | 0, _, _ => []
  | f + 1, m, i => if inT m.length i then i :: (nd m i).kids.flatMap (places f m) else []
def deep : Nat → List Nd → Int → Nat
  | 0, _, _ => 0
  | f + 1, m, i => if inT m.length i then ((nd m i).kids.map (deep f m)).foldl max 0 + 1 else 0
def WF (m : List Nd) : Prop := ∀ k, k < m.length → ∀ x ∈ (m.getD k default).kids, 0 ≤ x ∧ x < k

theorem inT_iff {n : Nat} {i : Int} : inT n i = true ↔ 0 ≤ i ∧ i < n := by simp [inT]
theorem inT_nat {n i : Nat} : inT n i = decide (i < n) := by simp [inT]

theorem places_le (f : Nat) : ∀ (m : List Nd) (i : Int), inT m.length i = false → places f m i = [] := by
  cases f with
  | zero => intros; rfl
  | succ f => intro m i h; simp [places, h]
theorem deep_le (f : Nat) : ∀ (m : List Nd) (i : Int), inT m.length i = false → deep f m i = 0 := by
  cases f with
  | zero => intros; rfl
  | succ f => intro m i h; simp [deep, h]

theorem WF.kid {m : List Nd} (h : WF m) {i x : Int} (hi : inT m.length i = true) (hx : x ∈ (nd m i).kids) : 0 ≤ x ∧ x < i := by
  rw [inT_iff] at hi
  have := h i.toNat (by omega) x hx
  omega

theorem flatMap_congr' {α β : Type} {l : List α} {f g : α → List β} (h : ∀ x ∈ l, f x = g x) : l.flatMap f = l.flatMap g := by
  induction l with
  | nil => rfl
  | cons a l ih =>
    rw [List.flatMap_cons, List.flatMap_cons, h a (by simp), ih (fun x hx => h x (by simp [hx]))]

theorem places_fuel {m : List Nd} (h : WF m) : ∀ (f f' : Nat) (i : Int), (inT m.length i = true → i < f ∧ i < f') → places f m i = places f' m i
  | 0, f', i, hi => by
    cases hc : inT m.length i with
    | false => rw [places_le _ _ _ hc, places_le _ _ _ hc]
    | true => have := hi hc; rw [inT_iff] at hc; omega
  | f + 1, 0, i, hi => by
    cases hc : inT m.length i with
    | false => rw [places_le _ _ _ hc, places_le _ _ _ hc]
    | true => have := hi hc; rw [inT_iff] at hc; omega
  | f + 1, f' + 1, i, hi => by
    cases hc : inT m.length i with
    | false => rw [places_le _ _ _ hc, places_le _ _ _ hc]
    | true =>
      have h1 := hi hc
      simp only [places, hc, if_true]
      congr 1
      refine flatMap_congr' fun x hx => places_fuel h f f' x fun _ => ?_
      have := h.kid hc hx
      omega

theorem nd_append {m : List Nd} {x : Nd} {i : Int} (h : inT m.length i = true) : nd (m ++ [x]) i = nd m i := by
  rw [inT_iff] at h
  unfold nd
  rw [getD_append _ _ _ _ (by omega)]

theorem places_append {m : List Nd} {x : Nd} (h : WF m) : ∀ (f : Nat) (i : Int), inT m.length i = true → places f (m ++ [x]) i = places f m i
  | 0, _, _ => rfl
  | f + 1, i, hi => by
    have h2 : inT (m ++ [x]).length i = true := by rw [inT_iff] at hi ⊢; simp; omega
    simp only [places, hi, h2, if_true, nd_append hi]
    congr 1
    refine flatMap_congr' fun y hy => places_append h f y ?_
    have := h.kid hi hy
    rw [inT_iff] at hi ⊢
    omega

theorem WF.add {m : List Nd} {x : Nd} (h : WF m) (hf : fits m.length x = true) : WF (m ++ [x]) := by
  intro k hk y hy
  simp at hk
  by_cases hkm : k < m.length
  · rw [getD_append _ _ _ _ hkm] at hy
    exact h k hkm y hy
  · obtain rfl : k = m.length := by omega
    have e : (m ++ [x]).getD m.length default = x := by simp [List.getD]
    rw [e] at hy
    have := List.all_eq_true.1 hf y hy
    rw [inT_iff] at this
    exact this
theorem WF.addN {m : List Nd} (h : WF m) (x : Nd) : WF (addN m x) := by
  unfold TreP.addN
  cases hf : fits m.length x with
  | false => simpa using h
  | true => simpa using h.add hf
theorem WF.nil : WF [] := fun k hk => by simp at hk

theorem foldl_max (l : List Nat) : ∀ a b : Nat, a ≤ b → (∀ x ∈ l, x ≤ b) → l.foldl max a ≤ b := by
  induction l with
  | nil => intro a b h _; exact h
  | cons x l ih => intro a b h hx; exact ih _ _ (by have := hx x (by simp); omega) (fun y hy => hx y (by simp [hy]))
theorem deep_bound : ∀ (f : Nat) (m : List Nd) (i : Int), deep f m i ≤ f
  | 0, _, _ => Nat.le_refl _
  | f + 1, m, i => by
    unfold deep
    split
    · have := foldl_max (((nd m i).kids.map (deep f m))) 0 f (by omega) (fun x hx => by
        obtain ⟨y, _, rfl⟩ := List.mem_map.1 hx
        exact deep_bound f m y)
      omega
    · omega

/-! ### Small -/
def sumK (sz : List Int) : List Int → Int → Int × Bool
  | [], a => (a, true)
  | k :: ks, a => if inT sz.length k then sumK sz ks (a + sz.getD k.toNat 0) else (a, false)
def stepS (s : Int × List Int) (x : Nd) : Option (Int × List Int) :=
  if 2000 < s.1 + (1 + (x.kids.length : Int) + x.op.size + x.name.size) then none
  else if 2000 < (sumK s.2 x.kids 1).1 then none
  else some (s.1 + (1 + (x.kids.length : Int) + x.op.size + x.name.size), if (sumK s.2 x.kids 1).2 then s.2 ++ [(sumK s.2 x.kids 1).1] else s.2)
def foldS : List Nd → Int × List Int → Option (Int × List Int)
  | [], s => some s
  | x :: l, s => (stepS s x).bind (foldS l)
def small (l : List Nd) : Bool := (foldS l (0, [])).isSome

theorem foldS_snoc (l : List Nd) (x : Nd) : ∀ s, foldS (l ++ [x]) s = (foldS l s).bind fun s' => stepS s' x := by
  induction l with
  | nil => intro s; simp [foldS]
  | cons y l ih =>
    intro s
    simp only [List.cons_append, foldS]
    cases stepS s y with
    | none => rfl
    | some s' => simpa using ih s'
theorem foldS_none (l k : List Nd) : ∀ s, foldS l s = none → foldS (l ++ k) s = none := by
  induction l with
  | nil => intro s h; simp [foldS] at h
  | cons y l ih =>
    intro s h
    simp only [List.cons_append, foldS] at h ⊢
    cases hs : stepS s y with
    | none => rfl
    | some s' => rw [hs] at h; simpa using ih s' (by simpa using h)

theorem sumK_append (sz p q : List Int) : ∀ a, sumK sz (p ++ q) a = if (sumK sz p a).2 then sumK sz q (sumK sz p a).1 else sumK sz p a := by
  induction p with
  | nil => intro a; simp [sumK]
  | cons x p ih =>
    intro a
    simp only [List.cons_append, sumK]
    by_cases hc : inT sz.length x = true
    · simp only [if_pos hc]; exact ih _
    · simp only [if_neg hc]; simp
theorem sumK_bound {sz : List Int} (h0 : ∀ k, 0 ≤ sz.getD k 0 ∧ sz.getD k 0 ≤ 2000) (p : List Int) : ∀ a, 0 ≤ a → a ≤ (sumK sz p a).1 ∧ (sumK sz p a).1 ≤ a + 2000 * p.length := by
  induction p with
  | nil => intro a _; simp [sumK]
  | cons x p ih =>
    intro a ha
    simp only [sumK]
    cases hc : inT sz.length x with
    | false => simp; omega
    | true =>
      have h1 := h0 x.toNat
      have := ih (a + sz.getD x.toNat 0) (by omega)
      simp only [if_true, List.length_cons]
      omega
theorem sumK_fits {sz : List Int} (p : List Int) : ∀ a, (sumK sz p a).2 = p.all (inT sz.length) := by
  induction p with
  | nil => intro a; rfl
  | cons x p ih =>
    intro a
    simp only [sumK, List.all_cons]
    cases hc : inT sz.length x with
    | false => simp
    | true => simpa using ih _
theorem sumK_sum {sz : List Int} (p : List Int) : ∀ a, (sumK sz p a).2 = true → (sumK sz p a).1 = a + (p.map fun k => sz.getD k.toNat 0).sum := by
  induction p with
  | nil => intro a _; simp [sumK]
  | cons x p ih =>
    intro a
    simp only [sumK]
    cases hc : inT sz.length x with
    | false => simp
    | true =>
      intro h
      simp only [if_true] at h ⊢
      rw [ih _ h]
      simp
      omega

/-- What is known behind some nodes. -/
structure Inv (m : List Nd) (s : Int × List Int) : Prop where
  wf : WF m
  len : s.2.length = m.length
  le : (m.length : Int) ≤ s.1
  top : s.1 ≤ 2000
  size : ∀ k, k < m.length → s.2.getD k 0 = ((places m.length m k).length : Int)
  bound : ∀ k, 0 ≤ s.2.getD k 0 ∧ s.2.getD k 0 ≤ 2000

theorem Inv.nil : Inv [] (0, []) := ⟨WF.nil, rfl, by simp, by simp, fun k hk => by simp at hk, fun k => by simp⟩

theorem length_flatMap' {α β : Type} (l : List α) (f : α → List β) : ((l.flatMap f).length : Int) = (l.map fun x => ((f x).length : Int)).sum := by
  induction l with
  | nil => rfl
  | cons a l ih => rw [List.flatMap_cons, List.length_append, List.map_cons, List.sum_cons, ← ih]; omega

theorem sum_congr {l : List Int} {f g : Int → Int} (h : ∀ x ∈ l, f x = g x) : (l.map f).sum = (l.map g).sum := by
  rw [List.map_congr_left h]

theorem Inv.step {m : List Nd} {s s' : Int × List Int} {x : Nd} (h : Inv m s) (hs : stepS s x = some s') : Inv (addN m x) s' := by
  unfold stepS at hs
  split at hs
  · cases hs
  · rename_i h1
    split at hs
    · cases hs
    · rename_i h2
      cases hs
      have hfit : (sumK s.2 x.kids 1).2 = fits m.length x := by rw [sumK_fits, h.len]; rfl
      have hb := sumK_bound h.bound x.kids 1 (by omega)
      unfold addN
      rw [hfit]
      cases hf : fits m.length x with
      | false =>
        simp only [Bool.false_eq_true, if_false]
        exact ⟨h.wf, h.len, by have := h.le; simp only []; omega, by simp only []; omega, h.size, h.bound⟩
      | true =>
        simp only [if_true]
        have hw := h.wf.add hf
        have hsum := sumK_sum x.kids 1 (by rw [hfit]; exact hf)
        have hold : ∀ i : Int, inT m.length i = true → (places m.length m i).length = (places (m ++ [x]).length (m ++ [x]) i).length := fun i hi => by
          rw [places_fuel hw (m ++ [x]).length m.length i (fun _ => by rw [inT_iff] at hi; simp; omega), places_append h.wf _ _ hi]
        have hnew : ((places (m ++ [x]).length (m ++ [x]) m.length).length : Int) = (sumK s.2 x.kids 1).1 := by
          rw [hsum]
          have e : (m ++ [x]).length = m.length + 1 := by simp
          rw [e]
          have hin : inT (m ++ [x]).length (m.length : Int) = true := by rw [inT_iff]; simp; omega
          have hnd : nd (m ++ [x]) (m.length : Int) = x := by simp [nd, List.getD]
          simp only [places, hin, if_true, hnd, List.length_cons]
          rw [Int.natCast_add, length_flatMap']
          have : (x.kids.map fun y => ((places m.length (m ++ [x]) y).length : Int)).sum = (x.kids.map fun k => s.2.getD k.toNat 0).sum := sum_congr fun y hy => by
            have hy' := List.all_eq_true.1 hf y hy
            rw [places_append h.wf _ _ hy']
            rw [inT_iff] at hy'
            rw [h.size y.toNat (by omega)]
            congr 3
            omega
          rw [this]
          omega
        refine ⟨hw, by simp [h.len], by have := h.le; simp only [List.length_append, List.length_singleton]; omega, by simp only []; omega, fun k hk => ?_, fun k => ?_⟩
        · simp at hk
          by_cases hkm : k < m.length
          · rw [getD_append _ _ _ _ (by rw [h.len]; exact hkm), h.size k hkm, ← hold k (by rw [inT_iff]; omega)]
          · obtain rfl : k = m.length := by omega
            rw [hnew, ← h.len]
            simp [List.getD]
        · by_cases hkm : k < m.length
          · rw [getD_append _ _ _ _ (by rw [h.len]; exact hkm)]; exact h.bound k
          · by_cases hk2 : k = m.length
            · subst hk2
              have : (s.2 ++ [(sumK s.2 x.kids 1).1]).getD m.length 0 = (sumK s.2 x.kids 1).1 := by rw [← h.len]; simp [List.getD]
              rw [this]
              omega
            · have : (s.2 ++ [(sumK s.2 x.kids 1).1]).getD k 0 = 0 := by
                rw [getD_default]
                simp [h.len]; omega
              rw [this]; omega

theorem Inv.fold (l : List Nd) : ∀ {m : List Nd} {s s' : Int × List Int}, Inv m s → foldS l s = some s' → Inv (l.foldl addN m) s' := by
  induction l with
  | nil => intro m s s' h e; cases e; exact h
  | cons x l ih =>
    intro m s s' h e
    simp only [foldS] at e
    cases hs : stepS s x with
    | none => rw [hs] at e; cases e
    | some s1 => rw [hs] at e; exact ih (h.step hs) e

/-- Small nodes: what can be added is few, and each has few. -/
theorem small_inv {l : List Nd} (h : small l = true) : ∃ s, Inv (l.foldl addN []) s := by
  unfold small at h
  obtain ⟨s, hs⟩ := Option.isSome_iff_exists.1 h
  exact ⟨s, Inv.nil.fold l hs⟩
theorem foldS_le : ∀ (l : List Nd) (s s' : Int × List Int), foldS l s = some s' → s.1 + l.length ≤ s'.1 ∧ ∀ x ∈ l, s.1 + (1 + (x.kids.length : Int) + x.op.size + x.name.size) ≤ s'.1
  | [], s, s', e => by cases e; simp
  | x :: l, s, s', e => by
    simp only [foldS] at e
    cases hs : stepS s x with
    | none => rw [hs] at e; cases e
    | some s1 =>
      rw [hs] at e
      have ih := foldS_le l s1 s' e
      have h1 : s1.1 = s.1 + (1 + (x.kids.length : Int) + x.op.size + x.name.size) := by
        unfold stepS at hs
        split at hs
        · cases hs
        · split at hs
          · cases hs
          · cases hs; rfl
      refine ⟨by simp only [List.length_cons]; omega, fun y hy => ?_⟩
      rcases List.mem_cons.1 hy with rfl | hy
      · omega
      · have := ih.2 y hy; omega
theorem foldS_top : ∀ (l : List Nd) (s s' : Int × List Int), s.1 ≤ 2000 → foldS l s = some s' → s'.1 ≤ 2000
  | [], s, s', h, e => by cases e; exact h
  | x :: l, s, s', h, e => by
    simp only [foldS] at e
    cases hs : stepS s x with
    | none => rw [hs] at e; cases e
    | some s1 =>
      rw [hs] at e
      refine foldS_top l s1 s' ?_ e
      unfold stepS at hs
      split at hs
      · cases hs
      · split at hs
        · cases hs
        · cases hs; simp only []; omega
theorem small_len {l : List Nd} (h : small l = true) : l.length ≤ 2000 ∧ ∀ x ∈ l, x.kids.length ≤ 2000 := by
  unfold small at h
  obtain ⟨s, hs⟩ := Option.isSome_iff_exists.1 h
  have h1 := foldS_le l _ _ hs
  have h2 := foldS_top l (0, []) s (by simp) hs
  simp at h1
  refine ⟨by omega, fun x hx => ?_⟩
  have := h1.2 x hx
  omega
theorem addN_length (m : List Nd) (x : Nd) : (addN m x).length ≤ m.length + 1 ∧ m.length ≤ (addN m x).length := by unfold addN; split <;> simp
theorem fold_length (l : List Nd) : ∀ m : List Nd, (l.foldl addN m).length ≤ m.length + l.length := by
  induction l with
  | nil => intro m; simp
  | cons x l ih => intro m; have := ih (addN m x); have := addN_length m x; simp only [List.foldl_cons, List.length_cons]; omega
theorem fold_mem (l : List Nd) : ∀ (m : List Nd) (x : Nd), x ∈ l.foldl addN m → x ∈ m ∨ x ∈ l := by
  induction l with
  | nil => intro m x h; exact .inl h
  | cons y l ih =>
    intro m x h
    rcases ih _ x h with h | h
    · unfold addN at h
      split at h
      · rcases List.mem_append.1 h with h | h
        · exact .inl h
        · right; simp at h; simp [h]
      · exact .inl h
    · right; simp [h]

/-- What a walk that stops where it is told has seen. -/
def seenOf (stop : Nat) (l : List Int) : List Int := if 0 < stop ∧ stop < l.length then l.take stop else l
end TreP
end Go.Proofs.Ytnaednfdaaiciaa
