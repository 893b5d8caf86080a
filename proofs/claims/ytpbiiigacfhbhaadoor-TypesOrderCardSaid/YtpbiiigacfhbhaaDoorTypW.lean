/- Types' texts, with no program in sight. -/
import Derived.Test.YtpbiiigacfhbhaaDoorTypQ
import Derived.Test.YtpbiiigacfhbhaaDoorTyp6
namespace Go.Proofs.YtpbiiigacfhbhaaDoor.TypP
open Go.Proofs.YtpbiiigacfhbhaaDoor (num num_size)

def sInt : ByteArray := ⟨#[105, 110, 116]⟩
def sBool : ByteArray := ⟨#[98, 111, 111, 108]⟩
def sUnit : ByteArray := ⟨#[117, 110, 105, 116]⟩
def sOpen : ByteArray := ⟨#[40]⟩
def sComma : ByteArray := ⟨#[44, 32]⟩
def sShut : ByteArray := ⟨#[41]⟩
def sTick : ByteArray := ⟨#[39]⟩

/-- A type's text; what isn't known is numbered as it comes. -/
inductive Txt (K : Nat → Kd) (R : Nat → Nat) : List Nat → Nat → ByteArray → List Nat → Prop
  | int {seen : List Nat} {x : Nat} : K (R x) = .int → Txt K R seen x sInt seen
  | bool {seen : List Nat} {x : Nat} : K (R x) = .bool → Txt K R seen x sBool seen
  | unit {seen : List Nat} {x : Nat} : K (R x) = .unit → Txt K R seen x sUnit seen
  | pair {seen seen1 seen2 : List Nat} {x a b : Nat} {s s' : ByteArray} : K (R x) = .pair a b → Txt K R seen a s seen1 → Txt K R seen1 b s' seen2 → Txt K R seen x (sOpen ++ s ++ sComma ++ s' ++ sShut) seen2
  | old {seen : List Nat} {x i : Nat} : K (R x) = .opn → seen[i]? = some (R x) → (∀ j : Nat, j < i → seen[j]? ≠ some (R x)) → Txt K R seen x (sTick ++ num i) seen
  | new {seen : List Nat} {x : Nat} : K (R x) = .opn → (∀ j : Nat, seen[j]? ≠ some (R x)) → Txt K R seen x (sTick ++ num seen.length) (seen ++ [R x])

/-- One step of Txt, where what it calls for is known to hold by P. -/
inductive TStep (K : Nat → Kd) (R : Nat → Nat) (P : List Nat → Nat → ByteArray → List Nat → Prop) : List Nat → Nat → ByteArray → List Nat → Prop
  | int {seen : List Nat} {x : Nat} : K (R x) = .int → TStep K R P seen x sInt seen
  | bool {seen : List Nat} {x : Nat} : K (R x) = .bool → TStep K R P seen x sBool seen
  | unit {seen : List Nat} {x : Nat} : K (R x) = .unit → TStep K R P seen x sUnit seen
  | pair {seen seen1 seen2 : List Nat} {x a b : Nat} {s s' : ByteArray} : K (R x) = .pair a b → Txt K R seen a s seen1 ∧ P seen a s seen1 → Txt K R seen1 b s' seen2 ∧ P seen1 b s' seen2 → TStep K R P seen x (sOpen ++ s ++ sComma ++ s' ++ sShut) seen2
  | old {seen : List Nat} {x i : Nat} : K (R x) = .opn → seen[i]? = some (R x) → (∀ j : Nat, j < i → seen[j]? ≠ some (R x)) → TStep K R P seen x (sTick ++ num i) seen
  | new {seen : List Nat} {x : Nat} : K (R x) = .opn → (∀ j : Nat, seen[j]? ≠ some (R x)) → TStep K R P seen x (sTick ++ num seen.length) (seen ++ [R x])
theorem txt_ind {K : Nat → Kd} {R : Nat → Nat} {P : List Nat → Nat → ByteArray → List Nat → Prop} (h : ∀ seen x s seen', TStep K R P seen x s seen' → P seen x s seen') {seen : List Nat} {x : Nat} {s : ByteArray} {seen' : List Nat} (t : Txt K R seen x s seen') : P seen x s seen' := by
  induction t with
  | int hk => exact h _ _ _ _ (.int hk)
  | bool hk => exact h _ _ _ _ (.bool hk)
  | unit hk => exact h _ _ _ _ (.unit hk)
  | pair hk t1 t2 i1 i2 => exact h _ _ _ _ (.pair hk ⟨t1, i1⟩ ⟨t2, i2⟩)
  | old hk h1 h2 => exact h _ _ _ _ (.old hk h1 h2)
  | new hk h1 => exact h _ _ _ _ (.new hk h1)

theorem first_at {v : Nat} : ∀ (l : List Nat), (∃ i : Nat, l[i]? = some v ∧ ∀ j : Nat, j < i → l[j]? ≠ some v) ∨ ∀ j : Nat, l[j]? ≠ some v
  | [] => .inr fun j h => by simp at h
  | a :: l => by
    by_cases e : a = v
    · exact .inl ⟨0, by simp [e], fun j hj => by omega⟩
    · rcases first_at l with ⟨i, h1, h2⟩ | h
      · refine .inl ⟨i + 1, by simpa using h1, fun j hj => ?_⟩
        match j with
        | 0 => simpa using e
        | j + 1 => simpa using h2 j (by omega)
      · refine .inr fun j => ?_
        match j with
        | 0 => simpa using e
        | j + 1 => simpa using h j

/-- What has come: roots of types, none twice. -/
def Sn (n : Nat) (l : List Nat) : Prop := l.Nodup ∧ ∀ y ∈ l, y < n
theorem nodup_le : ∀ (n : Nat) (l : List Nat), Sn n l → l.length ≤ n
  | 0, l, h => by
    match l with
    | [] => simp
    | a :: l => exact absurd (h.2 a (by simp)) (by omega)
  | n + 1, l, h => by
    by_cases e : n ∈ l
    · have h1 := nodup_le n (l.erase n) ⟨h.1.erase n, fun y hy => by
        have h2 := (h.1.mem_erase_iff).1 hy
        have h3 := h.2 y h2.2
        omega⟩
      rw [List.length_erase_of_mem e] at h1
      omega
    · have h1 := nodup_le n l ⟨h.1, fun y hy => by
        have h3 := h.2 y hy
        have : y ≠ n := fun e' => e (e' ▸ hy)
        omega⟩
      omega
theorem Sn.push {n x : Nat} {l : List Nat} (h : Sn n l) (hx : x < n) (hn : ∀ j : Nat, l[j]? ≠ some x) : Sn n (l ++ [x]) := by
  have hm : x ∉ l := fun hm => by
    obtain ⟨j, hj⟩ := List.getElem?_of_mem hm
    exact hn j hj
  refine ⟨List.nodup_append.2 ⟨h.1, by simp, fun a ha b hb => ?_⟩, fun y hy => ?_⟩
  · rw [List.mem_singleton.1 hb]
    exact fun e => hm (e ▸ ha)
  · rcases List.mem_append.1 hy with hy | hy
    · exact h.2 y hy
    · rw [List.mem_singleton.1 hy]
      exact hx
theorem txt_sn {K : Nat → Kd} {R : Nat → Nat} {n : Nat} {r : Nat → Nat} (hA : Acy K R n r) {seen seen' : List Nat} {x : Nat} {s : ByteArray} (h : Txt K R seen x s seen') : x < n → Sn n seen → Sn n seen' := by
  induction h with
  | pair hk h1 h2 ih1 ih2 =>
    intro hx hs
    obtain ⟨_, ha, hb, _⟩ := hA.pair _ (hA.root _ hx).1 _ _ hk
    exact ih2 hb (ih1 ha hs)
  | new hk hn => exact fun hx hs => hs.push (hA.root _ hx).1 hn
  | _ => exact fun _ h => h
theorem txt_total {K : Nat → Kd} {R : Nat → Nat} {n : Nat} {r : Nat → Nat} (hA : Acy K R n r) : ∀ (m : Nat) (seen : List Nat) (x : Nat), r (R x) ≤ m → x < n → ∃ s seen', Txt K R seen x s seen' := by
  intro m
  induction m using Nat.strongRecOn with
  | ind m ih =>
    intro seen x hm hx
    have hr := (hA.root _ hx).1
    cases hk : K (R x) with
    | int => exact ⟨_, _, .int hk⟩
    | bool => exact ⟨_, _, .bool hk⟩
    | unit => exact ⟨_, _, .unit hk⟩
    | opn =>
      rcases first_at (v := R x) seen with ⟨i, h1, h2⟩ | h
      · exact ⟨_, _, .old hk h1 h2⟩
      · exact ⟨_, _, .new hk h⟩
    | pair a b =>
      obtain ⟨_, ha, hb, h1, h2⟩ := hA.pair _ hr _ _ hk
      obtain ⟨s, l, h3⟩ := ih (r (R a)) (by omega) seen a (Nat.le_refl _) ha
      obtain ⟨s', l', h4⟩ := ih (r (R b)) (by omega) l b (Nat.le_refl _) hb
      exact ⟨_, _, .pair hk h3 h4⟩
/-- Ranks below n will do. -/
def low (n : Nat) (r : Nat → Nat) (x : Nat) : Nat := (List.range n).countP fun y => decide (r y < r x)
theorem low_le (n : Nat) (r : Nat → Nat) (x : Nat) : low n r x ≤ n := by
  have := List.countP_le_length (p := fun y => decide (r y < r x)) (l := List.range n)
  simpa [low] using this
theorem acy_low {K : Nat → Kd} {R : Nat → Nat} {n : Nat} {r : Nat → Nat} (hA : Acy K R n r) : Acy K R n (low n r) := by
  have lt : ∀ a x, a < n → r a < r x → low n r a < low n r x := fun a x ha h => by
    unfold low
    refine countP_lt' _ (fun y _ hy => ?_) (List.mem_range.2 ha) (by simpa using h) (by simp)
    simp only [decide_eq_true_eq] at hy ⊢
    omega
  refine ⟨hA.root, fun x hx a b hk => ?_⟩
  obtain ⟨h1, h2, h3, h4, h5⟩ := hA.pair x hx a b hk
  exact ⟨h1, h2, h3, lt _ _ (hA.root _ h2).1 h4, lt _ _ (hA.root _ h3).1 h5⟩
theorem txt_size {K : Nat → Kd} {R : Nat → Nat} {n : Nat} {r : Nat → Nat} (hA : Acy K R n r) (hn : n < 100) {seen seen' : List Nat} {x : Nat} {s : ByteArray} (h : Txt K R seen x s seen') : x < n → Sn n seen → s.size + 4 ≤ 8 * 2 ^ r (R x) := by
  have one : ∀ k, 8 ≤ 8 * 2 ^ k := fun k => by
    have := Nat.one_le_two_pow (n := k)
    omega
  induction h with
  | int hk => exact fun _ _ => Nat.le_trans (by decide) (one _)
  | bool hk => exact fun _ _ => Nat.le_trans (by decide) (one _)
  | unit hk => exact fun _ _ => Nat.le_trans (by decide) (one _)
  | old hk h1 h2 =>
    intro hx hs
    have h3 := nodup_le _ _ hs
    have h4 := (List.getElem?_eq_some_iff.1 h1).1
    have h5 := num_size _ (show _ < 100 from Nat.lt_of_lt_of_le h4 (by omega))
    refine Nat.le_trans ?_ (one _)
    rw [ByteArray.size_append]
    have : sTick.size = 1 := rfl
    omega
  | @new seen x hk hn' =>
    intro hx hs
    have h3 := nodup_le _ _ hs
    have h5 := num_size seen.length (by omega)
    refine Nat.le_trans ?_ (one _)
    rw [ByteArray.size_append]
    have : sTick.size = 1 := rfl
    omega
  | @pair seen seen1 seen2 x a b s s' hk t1 t2 ih1 ih2 =>
    intro hx hs
    obtain ⟨_, ha, hb, h1, h2⟩ := hA.pair _ (hA.root _ hx).1 _ _ hk
    have i1 := ih1 ha hs
    have i2 := ih2 hb (txt_sn hA t1 ha hs)
    have p1 : 2 ^ r (R a) ≤ 2 ^ (r (R x) - 1) := Nat.pow_le_pow_right (by omega) (by omega)
    have p2 : 2 ^ r (R b) ≤ 2 ^ (r (R x) - 1) := Nat.pow_le_pow_right (by omega) (by omega)
    have p3 : 2 ^ r (R x) = 2 * 2 ^ (r (R x) - 1) := by
      have : r (R x) = (r (R x) - 1) + 1 := by omega
      rw [this, Nat.pow_succ, Nat.mul_comm]
      simp
    rw [ByteArray.size_append, ByteArray.size_append, ByteArray.size_append, ByteArray.size_append]
    have e1 : sOpen.size = 1 := rfl
    have e2 : sComma.size = 2 := rfl
    have e3 : sShut.size = 1 := rfl
    rw [p3]
    omega
/-- No text is very long. -/
theorem txt_small {K : Nat → Kd} {R : Nat → Nat} {n : Nat} (hA : ∃ r, Acy K R n r) (hn : n ≤ 50) {seen seen' : List Nat} {x : Nat} {s : ByteArray} (h : Txt K R seen x s seen') (hx : x < n) (hs : Sn n seen) : s.size ≤ 9007199254740992 := by
  obtain ⟨r, hA⟩ := hA
  have h1 := txt_size (acy_low hA) (by omega) h hx hs
  have h2 := low_le n r (R x)
  have h3 : 2 ^ low n r (R x) ≤ 2 ^ 50 := Nat.pow_le_pow_right (by omega) (by omega)
  have : (2 : Nat) ^ 50 = 1125899906842624 := by decide
  omega

/-- The texts of several, one behind the other. -/
structure Line (K : Nat → Kd) (R : Nat → Nat) (n : Nat) (zs : Nat → Int) (m : Nat) (seq : Nat → List Nat) (S : Nat → ByteArray) : Prop where
  zero : seq 0 = []
  step : ∀ i, i < m → (¬ (0 ≤ zs i ∧ zs i < n) ∧ S i = ByteArray.empty ∧ seq (i + 1) = seq i) ∨ (∃ x : Nat, zs i = x ∧ x < n ∧ Txt K R (seq i) x (S i) (seq (i + 1)))
theorem Line.sn {K : Nat → Kd} {R : Nat → Nat} {n : Nat} {r : Nat → Nat} (hA : Acy K R n r) {zs : Nat → Int} {m : Nat} {seq : Nat → List Nat} {S : Nat → ByteArray} (h : Line K R n zs m seq S) : ∀ i, i ≤ m → Sn n (seq i)
  | 0, _ => by
    rw [h.zero]
    exact ⟨List.nodup_nil, fun y hy => by cases hy⟩
  | i + 1, hi => by
    have ih := h.sn hA i (by omega)
    rcases h.step i (by omega) with ⟨_, _, e⟩ | ⟨x, _, hx, t⟩
    · rw [e]; exact ih
    · exact txt_sn hA t hx ih
open Classical in
noncomputable def next (K : Nat → Kd) (R : Nat → Nat) (n : Nat) (seen : List Nat) (z : Int) : ByteArray × List Nat :=
  if h : (0 ≤ z ∧ z < n) ∧ ∃ p : ByteArray × List Nat, Txt K R seen z.toNat p.1 p.2 then Classical.choose h.2 else (ByteArray.empty, seen)
noncomputable def seqOf (K : Nat → Kd) (R : Nat → Nat) (n : Nat) (zs : Nat → Int) : Nat → List Nat
  | 0 => []
  | i + 1 => (next K R n (seqOf K R n zs i) (zs i)).2
theorem next_spec {K : Nat → Kd} {R : Nat → Nat} {n : Nat} {r : Nat → Nat} (hA : Acy K R n r) (seen : List Nat) (z : Int) :
    (¬ (0 ≤ z ∧ z < n) ∧ (next K R n seen z).1 = ByteArray.empty ∧ (next K R n seen z).2 = seen) ∨ (∃ x : Nat, z = x ∧ x < n ∧ Txt K R seen x (next K R n seen z).1 (next K R n seen z).2) := by
  unfold next
  by_cases h0 : 0 ≤ z ∧ z < n
  · right
    have h1 : ∃ p : ByteArray × List Nat, Txt K R seen z.toNat p.1 p.2 := by
      obtain ⟨s, l, h⟩ := txt_total hA (r (R z.toNat)) seen z.toNat (Nat.le_refl _) (by omega)
      exact ⟨(s, l), h⟩
    rw [dif_pos ⟨h0, h1⟩]
    exact ⟨z.toNat, by omega, by omega, Classical.choose_spec h1⟩
  · left
    rw [dif_neg (fun h => h0 h.1)]
    exact ⟨h0, rfl, rfl⟩
theorem line_total {K : Nat → Kd} {R : Nat → Nat} {n : Nat} (hA : ∃ r, Acy K R n r) (zs : Nat → Int) (m : Nat) : ∃ seq S, Line K R n zs m seq S := by
  obtain ⟨r, hA⟩ := hA
  exact ⟨seqOf K R n zs, fun i => (next K R n (seqOf K R n zs i) (zs i)).1, rfl, fun i hi => next_spec hA _ _⟩
end Go.Proofs.YtpbiiigacfhbhaaDoor.TypP
