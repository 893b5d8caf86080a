/- Plain facts on relations over the numbers below n: closures by Warshall's rounds, least points of some, lattices. No program in sight. -/
namespace Go.Proofs.YtkcbcdfcpchgcaaDoor.OrdP

/-- A relation over numbers. -/
abbrev Rel := Nat → Nat → Bool

def Sub (n : Nat) (R S : Rel) : Prop := ∀ i j, i < n → j < n → R i j = true → S i j = true
def Trans (n : Nat) (R : Rel) : Prop := ∀ i j k, i < n → j < n → k < n → R i j = true → R j k = true → R i k = true
/-- R is the least transitive relation over R0. -/
structure Clo (n : Nat) (R0 R : Rel) : Prop where
  sub : Sub n R0 R
  trans : Trans n R
  least : ∀ T, Trans n T → Sub n R0 T → Sub n R T

theorem Clo.unique {n : Nat} {R0 R S : Rel} (h : Clo n R0 R) (k : Clo n R0 S) : ∀ i j, i < n → j < n → R i j = S i j := by
  intro i j hi hj
  have a := h.least S k.trans k.sub i j hi hj
  have b := k.least R h.trans h.sub i j hi hj
  cases hr : R i j <;> cases hs : S i j <;> simp_all

/-- One round of Warshall's. -/
def wround (R : Rel) (k : Nat) : Rel := fun i j => R i j || (R i k && R k j)
def warshall (R : Rel) : Nat → Rel
  | 0 => R
  | k + 1 => wround (warshall R k) k

theorem warshall_sub (n : Nat) (R : Rel) : ∀ k, Sub n R (warshall R k)
  | 0 => fun _ _ _ _ h => h
  | k + 1 => fun i j hi hj h => by
    have := warshall_sub n R k i j hi hj h
    simp [warshall, wround, this]

theorem warshall_least (n : Nat) (R : Rel) (T : Rel) (hT : Trans n T) (hR : Sub n R T) : ∀ k, k ≤ n → Sub n (warshall R k) T
  | 0, _ => hR
  | k + 1, hk => fun i j hi hj h => by
    have ih := warshall_least n R T hT hR k (by omega)
    simp [warshall, wround] at h
    rcases h with h | ⟨h1, h2⟩
    · exact ih i j hi hj h
    · exact hT i k j hi (by omega) hj (ih i k hi (by omega) h1) (ih k j (by omega) hj h2)

theorem warshall_trans (n : Nat) (R : Rel) : ∀ k, k ≤ n → ∀ m, m < k → ∀ i j, i < n → j < n → warshall R k i m = true → warshall R k m j = true → warshall R k i j = true
  | 0, _ => fun m hm => by omega
  | k + 1, hk => fun m hm i j hi hj h1 h2 => by
    have ih := warshall_trans n R k (by omega)
    have ihk : ∀ a b, a < n → b < n → ∀ m, m < k → warshall R k a m = true → warshall R k m b = true → warshall R k a b = true := fun a b ha hb m hm => ih m hm a b ha hb
    simp only [warshall, wround, Bool.or_eq_true, Bool.and_eq_true] at *
    by_cases hmk : m = k
    · subst hmk
      rcases h1 with h1 | ⟨h1, _⟩ <;> rcases h2 with h2 | ⟨_, h2⟩ <;> exact .inr ⟨h1, h2⟩
    · have hm' : m < k := by omega
      rcases h1 with h1 | ⟨h1, h1'⟩ <;> rcases h2 with h2 | ⟨h2, h2'⟩
      · exact .inl (ihk i j hi hj m hm' h1 h2)
      · exact .inr ⟨ihk i k hi (by omega) m hm' h1 h2, h2'⟩
      · exact .inr ⟨h1, ihk k j (by omega) hj m hm' h1' h2⟩
      · exact .inr ⟨h1, h2'⟩

theorem warshall_clo (n : Nat) (R : Rel) : Clo n R (warshall R n) :=
  ⟨warshall_sub n R n, fun i m j hi hm hj => warshall_trans n R n (Nat.le_refl _) m hm i j hi hj, fun T hT hR => warshall_least n R T hT hR n (Nat.le_refl _)⟩

/-- The first c from i on, of d many, with p; -1: none. -/
def firstFrom (p : Nat → Bool) : Nat → Nat → Int
  | 0, _ => -1
  | d + 1, i => if p i then (i : Int) else firstFrom p d (i + 1)
def first (n : Nat) (p : Nat → Bool) : Int := firstFrom p n 0

theorem firstFrom_congr {p q : Nat → Bool} : ∀ (d i : Nat), (∀ j, i ≤ j → j < i + d → p j = q j) → firstFrom p d i = firstFrom q d i
  | 0, _, _ => rfl
  | d + 1, i, h => by
    simp only [firstFrom]
    rw [h i (Nat.le_refl _) (by omega), firstFrom_congr d (i + 1) (fun j h1 h2 => h j (by omega) (by omega))]
theorem first_congr {n : Nat} {p q : Nat → Bool} (h : ∀ j, j < n → p j = q j) : first n p = first n q := firstFrom_congr n 0 (fun j _ hj => h j (by omega))

theorem firstFrom_spec (p : Nat → Bool) : ∀ (d i : Nat), (firstFrom p d i = -1 ∧ ∀ j, i ≤ j → j < i + d → p j = false) ∨ ∃ c, i ≤ c ∧ c < i + d ∧ firstFrom p d i = (c : Int) ∧ p c = true
  | 0, i => .inl ⟨rfl, fun j h1 h2 => by omega⟩
  | d + 1, i => by
    simp only [firstFrom]
    cases hp : p i with
    | true => exact .inr ⟨i, Nat.le_refl _, by omega, by simp, hp⟩
    | false =>
      simp only [Bool.false_eq_true, if_false]
      rcases firstFrom_spec p d (i + 1) with ⟨h, hn⟩ | ⟨c, h1, h2, h3, h4⟩
      · refine .inl ⟨h, fun j hj1 hj2 => ?_⟩
        by_cases e : j = i
        · subst e; exact hp
        · exact hn j (by omega) (by omega)
      · exact .inr ⟨c, by omega, by omega, h3, h4⟩
theorem first_spec (n : Nat) (p : Nat → Bool) : (first n p = -1 ∧ ∀ j, j < n → p j = false) ∨ ∃ c, c < n ∧ first n p = (c : Int) ∧ p c = true := by
  rcases firstFrom_spec p n 0 with ⟨h, hn⟩ | ⟨c, h1, h2, h3, h4⟩
  · exact .inl ⟨h, fun j hj => hn j (Nat.zero_le _) (by omega)⟩
  · exact .inr ⟨c, by omega, h3, h4⟩

def allB (n : Nat) (p : Nat → Bool) : Bool := (List.range n).all p
theorem allB_iff {n : Nat} {p : Nat → Bool} : allB n p = true ↔ ∀ i, i < n → p i = true := by simp [allB]
theorem allB_congr {n : Nat} {p q : Nat → Bool} (h : ∀ i, i < n → p i = q i) : allB n p = allB n q := by
  rw [Bool.eq_iff_iff, allB_iff, allB_iff]
  exact ⟨fun k i hi => by rw [← h i hi]; exact k i hi, fun k i hi => by rw [h i hi]; exact k i hi⟩

/-- the least of those in 'some', by R -/
def least (n : Nat) (R : Rel) (some : Nat → Bool) : Int := first n fun c => some c && allB n fun d => !some d || R c d
def join (n : Nat) (R : Rel) (a b : Nat) : Int := least n R fun c => R a c && R b c
def flip (R : Rel) : Rel := fun i j => R j i
def meet (n : Nat) (R : Rel) (a b : Nat) : Int := join n (flip R) a b
def bottom (n : Nat) (R : Rel) : Int := least n R fun _ => true
def top (n : Nat) (R : Rel) : Int := bottom n (flip R)
/-- no two below one another, and each two have a join and a meet -/
def lattice (n : Nat) (R : Rel) : Bool := allB n fun a => (allB n fun b => !(decide (a ≠ b) && R a b && R b a)) && allB a fun b => decide (0 ≤ join n R a b) && decide (0 ≤ meet n R a b)
def latticeRef (n : Nat) (R : Rel) : Bool := allB n fun a => allB n fun b => !((decide (a ≠ b) && R a b && R b a) || decide (join n R a b < 0) || decide (meet n R a b < 0))

theorem least_congr {n : Nat} {R S : Rel} {s t : Nat → Bool} (h : ∀ i j, i < n → j < n → R i j = S i j) (hs : ∀ i, i < n → s i = t i) : least n R s = least n S t := by
  unfold least
  refine first_congr fun c hc => ?_
  rw [hs c hc, allB_congr fun d hd => by rw [hs d hd, h c d hc hd]]
theorem join_congr {n : Nat} {R S : Rel} (h : ∀ i j, i < n → j < n → R i j = S i j) {a b : Nat} (ha : a < n) (hb : b < n) : join n R a b = join n S a b :=
  least_congr h fun c hc => by rw [h a c ha hc, h b c hb hc]
theorem meet_congr {n : Nat} {R S : Rel} (h : ∀ i j, i < n → j < n → R i j = S i j) {a b : Nat} (ha : a < n) (hb : b < n) : meet n R a b = meet n S a b :=
  join_congr (fun i j hi hj => h j i hj hi) ha hb
theorem bottom_congr {n : Nat} {R S : Rel} (h : ∀ i j, i < n → j < n → R i j = S i j) : bottom n R = bottom n S := least_congr h fun _ _ => rfl
theorem top_congr {n : Nat} {R S : Rel} (h : ∀ i j, i < n → j < n → R i j = S i j) : top n R = top n S := bottom_congr fun i j hi hj => h j i hj hi

theorem join_comm (n : Nat) (R : Rel) (a b : Nat) : join n R a b = join n R b a := by
  unfold join; congr 1; funext c; exact Bool.and_comm _ _

theorem least_spec (n : Nat) (R : Rel) (s : Nat → Bool) : (least n R s = -1 ∧ ∀ c, c < n → s c = true → ∃ d, d < n ∧ s d = true ∧ R c d = false) ∨ ∃ c, c < n ∧ least n R s = (c : Int) ∧ s c = true ∧ ∀ d, d < n → s d = true → R c d = true := by
  unfold least
  rcases first_spec n fun c => s c && allB n fun d => !s d || R c d with ⟨h, hn⟩ | ⟨c, h1, h2, h3⟩
  · refine .inl ⟨h, fun c hc hs => ?_⟩
    have := hn c hc
    simp only [hs, Bool.true_and] at this
    have h' : ¬ ∀ d, d < n → (!s d || R c d) = true := fun k => by rw [← allB_iff] at k; simp [k] at this
    have ⟨d, hd⟩ := Classical.not_forall.1 h'
    have ⟨hd1, hd2⟩ := Classical.not_imp.1 hd
    refine ⟨d, hd1, ?_⟩
    cases hs : s d <;> cases hr : R c d <;> simp_all
  · simp only [Bool.and_eq_true, allB_iff] at h3
    exact .inr ⟨c, h1, h2, h3.1, fun d hd hs => by have := h3.2 d hd; simpa [hs] using this⟩

/-- a lattice: reflexive, transitive, no two below one another, all joins and meets are there -/
structure Lat (n : Nat) (R : Rel) : Prop where
  refl : ∀ i, i < n → R i i = true
  trans : Trans n R
  anti : ∀ i j, i < n → j < n → R i j = true → R j i = true → i = j
  join : ∀ a b, a < n → b < n → 0 ≤ join n R a b
  meet : ∀ a b, a < n → b < n → 0 ≤ meet n R a b

theorem join_self {n : Nat} {R : Rel} (hr : ∀ i, i < n → R i i = true) {a : Nat} (ha : a < n) : 0 ≤ join n R a a := by
  rcases least_spec n R fun c => R a c && R a c with ⟨_, hn⟩ | ⟨c, _, h, _⟩
  · obtain ⟨d, hd, hs, hf⟩ := hn a ha (by simp [hr a ha])
    simp at hs; simp [hs] at hf
  · unfold join; rw [h]; omega

theorem lattice_iff {n : Nat} {R : Rel} (hr : ∀ i, i < n → R i i = true) (ht : Trans n R) : lattice n R = true ↔ Lat n R := by
  unfold lattice
  rw [allB_iff]
  constructor
  · intro h
    have h1 : ∀ a b, a < n → b < a → 0 ≤ join n R a b ∧ 0 ≤ meet n R a b := fun a b ha hb => by
      have := h a ha
      simp only [Bool.and_eq_true, allB_iff] at this
      simpa using this.2 b hb
    refine ⟨hr, ht, fun i j hi hj h1 h2 => ?_, fun a b ha hb => ?_, fun a b ha hb => ?_⟩
    · have := h i hi
      simp only [Bool.and_eq_true, allB_iff] at this
      have := this.1 j hj
      simp [h1, h2] at this
      exact this
    · rcases Nat.lt_trichotomy a b with k | k | k
      · rw [join_comm]; exact (h1 b a hb k).1
      · subst k; exact join_self hr ha
      · exact (h1 a b ha k).1
    · rcases Nat.lt_trichotomy a b with k | k | k
      · unfold meet; rw [join_comm]; exact (h1 b a hb k).2
      · subst k; exact join_self (R := flip R) hr ha
      · exact (h1 a b ha k).2
  · intro h a ha
    simp only [Bool.and_eq_true, allB_iff]
    refine ⟨fun b hb => ?_, fun b hb => by simp [h.join a b ha (by omega), h.meet a b ha (by omega)]⟩
    cases h1 : R a b <;> cases h2 : R b a <;> simp
    exact h.anti a b ha hb h1 h2

theorem latticeRef_iff {n : Nat} {R : Rel} (hr : ∀ i, i < n → R i i = true) (ht : Trans n R) : latticeRef n R = true ↔ Lat n R := by
  unfold latticeRef
  rw [allB_iff]
  constructor
  · intro h
    have h1 : ∀ a b, a < n → b < n → ¬ (a ≠ b ∧ R a b = true ∧ R b a = true) ∧ 0 ≤ join n R a b ∧ 0 ≤ meet n R a b := fun a b ha hb => by
      have := allB_iff.1 (h a ha) b hb
      simp only [Bool.not_eq_true', Bool.or_eq_false_iff, decide_eq_false_iff_not] at this
      obtain ⟨⟨h1, h2⟩, h3⟩ := this
      refine ⟨fun ⟨k1, k2, k3⟩ => by simp [k1, k2, k3] at h1, by omega, by omega⟩
    refine ⟨hr, ht, fun i j hi hj k1 k2 => ?_, fun a b ha hb => (h1 a b ha hb).2.1, fun a b ha hb => (h1 a b ha hb).2.2⟩
    apply Classical.byContradiction; intro e
    exact (h1 i j hi hj).1 ⟨e, k1, k2⟩
  · intro h a ha
    rw [allB_iff]
    intro b hb
    have j := h.join a b ha hb
    have m := h.meet a b ha hb
    have a1 := h.anti a b ha hb
    simp only [Bool.not_eq_true', Bool.or_eq_false_iff, decide_eq_false_iff_not]
    refine ⟨⟨?_, by omega⟩, by omega⟩
    cases h1 : R a b <;> cases h2 : R b a <;> simp
    exact a1 h1 h2

namespace Lat
variable {n : Nat} {R : Rel} (h : Lat n R)
include h
theorem flip : Lat n (OrdP.flip R) := ⟨h.refl, fun i j k hi hj hk a b => h.trans k j i hk hj hi b a, fun i j hi hj a b => h.anti i j hi hj b a, h.meet, h.join⟩
/-- the join as a number, and what it is -/
theorem join_is {a b : Nat} (ha : a < n) (hb : b < n) : ∃ c, c < n ∧ OrdP.join n R a b = (c : Int) ∧ R a c = true ∧ R b c = true ∧ ∀ d, d < n → R a d = true → R b d = true → R c d = true := by
  have := h.join a b ha hb
  rcases least_spec n R fun c => R a c && R b c with ⟨e, _⟩ | ⟨c, hc, e, hs, hl⟩
  · unfold OrdP.join at this; omega
  · simp at hs
    exact ⟨c, hc, e, hs.1, hs.2, fun d hd h1 h2 => hl d hd (by simp [h1, h2])⟩
theorem join_eq {a b c : Nat} (ha : a < n) (hb : b < n) (hc : c < n) (h1 : R a c = true) (h2 : R b c = true) (h3 : ∀ d, d < n → R a d = true → R b d = true → R c d = true) : OrdP.join n R a b = (c : Int) := by
  obtain ⟨e, he, he', k1, k2, k3⟩ := h.join_is ha hb
  rw [he', h.anti e c he hc (k3 c hc h1 h2) (h3 e he k1 k2)]
theorem meet_is {a b : Nat} (ha : a < n) (hb : b < n) : ∃ c, c < n ∧ OrdP.meet n R a b = (c : Int) ∧ R c a = true ∧ R c b = true ∧ ∀ d, d < n → R d a = true → R d b = true → R d c = true := h.flip.join_is ha hb
end Lat

/-- as the calls have them: with whatever numbers -/
def inB (n : Nat) (a : Int) : Bool := decide (0 ≤ a) && decide (a < n)
def belowI (n : Nat) (R : Rel) (a b : Int) : Bool := inB n a && inB n b && R a.toNat b.toNat
def joinI (n : Nat) (R : Rel) (a b : Int) : Int := if inB n a && inB n b then join n R a.toNat b.toNat else -1
def meetI (n : Nat) (R : Rel) (a b : Int) : Int := if inB n a && inB n b then meet n R a.toNat b.toNat else -1
theorem inB_nat {n a : Nat} (h : a < n) : inB n (a : Int) = true := by simp [inB, h]
theorem joinI_nat {n : Nat} {R : Rel} {a b : Nat} (ha : a < n) (hb : b < n) : joinI n R a b = join n R a b := by simp [joinI, inB_nat ha, inB_nat hb]
theorem meetI_nat {n : Nat} {R : Rel} {a b : Nat} (ha : a < n) (hb : b < n) : meetI n R a b = meet n R a b := by simp [meetI, inB_nat ha, inB_nat hb]
theorem belowI_nat {n : Nat} {R : Rel} {a b : Nat} (ha : a < n) (hb : b < n) : belowI n R a b = R a b := by simp [belowI, inB_nat ha, inB_nat hb]

def bracketsI (n : Nat) (R : Rel) (x y z : Int) : Bool := joinI n R (joinI n R x y) z == joinI n R x (joinI n R y z) && meetI n R (meetI n R x y) z == meetI n R x (meetI n R y z)
def plainI (n : Nat) (R : Rel) (x y : Int) : Bool := joinI n R x x == x && meetI n R x x == x && joinI n R x y == joinI n R y x && meetI n R x y == meetI n R y x
def bothI (n : Nat) (R : Rel) (x y : Int) : Bool := joinI n R x (meetI n R x y) == x && meetI n R x (joinI n R x y) == x

namespace Lat
variable {n : Nat} {R : Rel} (h : Lat n R)
include h
theorem assoc {x y z : Nat} (hx : x < n) (hy : y < n) (hz : z < n) : joinI n R (joinI n R x y) z = joinI n R x (joinI n R y z) := by
  obtain ⟨a, ha, ea, a1, a2, a3⟩ := h.join_is hx hy
  obtain ⟨b, hb, eb, b1, b2, b3⟩ := h.join_is hy hz
  rw [joinI_nat hx hy, joinI_nat hy hz, ea, eb, joinI_nat ha hz, joinI_nat hx hb]
  obtain ⟨c, hc, ec, c1, c2, c3⟩ := h.join_is hx hb
  rw [ec]
  refine h.join_eq ha hz hc (a3 c hc c1 (h.trans y b c hy hb hc b1 c2)) (h.trans z b c hz hb hc b2 c2) fun d hd h1 h2 => ?_
  exact c3 d hd (h.trans x a d hx ha hd a1 h1) (b3 d hd (h.trans y a d hy ha hd a2 h1) h2)
theorem idem {x : Nat} (hx : x < n) : joinI n R x x = x := by
  rw [joinI_nat hx hx]; exact h.join_eq hx hx hx (h.refl x hx) (h.refl x hx) fun d _ k _ => k
theorem absorb {x y : Nat} (hx : x < n) (hy : y < n) : joinI n R x (meetI n R x y) = x := by
  obtain ⟨c, hc, ec, c1, c2, c3⟩ := h.meet_is hx hy
  rw [meetI_nat hx hy, ec, joinI_nat hx hc]
  exact h.join_eq hx hc hx (h.refl x hx) c1 fun d _ k _ => k
omit h in
theorem joinI_comm {x y : Nat} (hx : x < n) (hy : y < n) : joinI n R x y = joinI n R y x := by rw [joinI_nat hx hy, joinI_nat hy hx, join_comm]
theorem below_join {x y : Nat} (hx : x < n) (hy : y < n) : belowI n R x y = (joinI n R x y == (y : Int)) := by
  rw [belowI_nat hx hy, joinI_nat hx hy]
  obtain ⟨c, hc, ec, c1, c2, c3⟩ := h.join_is hx hy
  rw [ec, Bool.eq_iff_iff]
  constructor
  · intro k
    have := h.anti c y hc hy (c3 y hy k (h.refl y hy)) c2
    simp [this]
  · intro k
    have e : c = y := Int.ofNat_inj.1 (beq_iff_eq.1 k)
    rw [← e]; exact c1
omit h in
theorem meetI_flip (x y : Int) : meetI n R x y = joinI n (OrdP.flip R) x y := rfl
omit h in
theorem belowI_flip (x y : Int) : belowI n (OrdP.flip R) x y = belowI n R y x := by simp [belowI, OrdP.flip, Bool.and_comm]
theorem below_meet {x y : Nat} (hx : x < n) (hy : y < n) : belowI n R x y = (meetI n R x y == (x : Int)) := by
  have := h.flip.below_join hy hx
  rw [belowI_flip, ← meetI_flip] at this
  rw [this, meetI_flip, meetI_flip, joinI_comm hy hx]
/-- the join of the first k points, for each k -/
theorem upper : ∀ k, 0 < k → k ≤ n → ∃ c, c < n ∧ ∀ i, i < k → R i c = true
  | 0, h0, _ => by omega
  | 1, _, hk => ⟨0, by omega, fun i hi => by obtain rfl : i = 0 := by omega
                                             exact h.refl 0 (by omega)⟩
  | k + 2, _, hk => by
    obtain ⟨c, hc, h1⟩ := upper (k + 1) (by omega) (by omega)
    obtain ⟨e, he, _, e1, e2, _⟩ := h.join_is hc (show k + 1 < n by omega)
    refine ⟨e, he, fun i hi => ?_⟩
    by_cases hik : i = k + 1
    · subst hik; exact e2
    · exact h.trans i c e (by omega) hc he (h1 i (by omega)) e1
theorem top_is (hn : 0 < n) : ∃ c, c < n ∧ OrdP.top n R = (c : Int) ∧ ∀ i, i < n → R i c = true := by
  obtain ⟨c, hc, h1⟩ := h.upper n hn (Nat.le_refl _)
  unfold OrdP.top OrdP.bottom
  rcases least_spec n (OrdP.flip R) fun _ => true with ⟨_, hno⟩ | ⟨e, he, ee, _, hl⟩
  · obtain ⟨d, hd, _, hf⟩ := hno c hc rfl
    have := h1 d hd
    simp [OrdP.flip, this] at hf
  · exact ⟨e, he, ee, fun i hi => hl i hi rfl⟩
theorem bottom_is (hn : 0 < n) : ∃ c, c < n ∧ OrdP.bottom n R = (c : Int) ∧ ∀ i, i < n → R c i = true := h.flip.top_is hn
theorem laws {x y z : Nat} (hx : x < n) (hy : y < n) (hz : z < n) :
    (bracketsI n R x y z && plainI n R x y && bothI n R x y && (belowI n R x y == (joinI n R x y == (y : Int))) && (belowI n R x y == (meetI n R x y == (x : Int))) && belowI n R (bottom n R) x && belowI n R x (top n R)) = true := by
  obtain ⟨b, hb, eb, b1⟩ := h.bottom_is (by omega)
  obtain ⟨t, ht, et, t1⟩ := h.top_is (by omega)
  have m1 : meetI n R x x = x := h.flip.idem hx
  have m2 : meetI n R x y = meetI n R y x := joinI_comm hx hy
  have m3 : meetI n R (meetI n R x y) z = meetI n R x (meetI n R y z) := h.flip.assoc hx hy hz
  have m4 : meetI n R x (joinI n R x y) = x := h.flip.absorb hx hy
  rw [eb, et, belowI_nat hb hx, belowI_nat hx ht, b1 x hx, t1 x hx, ← h.below_join hx hy, ← h.below_meet hx hy]
  simp only [bracketsI, plainI, bothI]
  rw [beq_iff_eq.2 (h.assoc hx hy hz), beq_iff_eq.2 m3, beq_iff_eq.2 (h.idem hx), beq_iff_eq.2 m1, beq_iff_eq.2 (joinI_comm hx hy), beq_iff_eq.2 m2, beq_iff_eq.2 (h.absorb hx hy), beq_iff_eq.2 m4]
  simp
end Lat

end Go.Proofs.YtkcbcdfcpchgcaaDoor.OrdP
