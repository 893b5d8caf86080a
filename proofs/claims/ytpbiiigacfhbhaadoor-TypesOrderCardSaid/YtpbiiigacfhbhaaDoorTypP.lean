/- Types that are made one, with no program in sight: kinds, each type's root, and an order that shows that no type stands in itself. -/
namespace Go.Proofs.YtpbiiigacfhbhaaDoor.TypP

/-- What a type is, where it is no other one. -/
inductive Kd where
  | opn
  | int
  | bool
  | unit
  | pair (a b : Nat)

/-- An open root v stands in what has root x. -/
inductive Occ (K : Nat → Kd) (R : Nat → Nat) (v : Nat) : Nat → Prop
  | here : Occ K R v v
  | left {x a b : Nat} : K x = .pair a b → Occ K R v (R a) → Occ K R v x
  | right {x a b : Nat} : K x = .pair a b → Occ K R v (R b) → Occ K R v x

/-- n types; R: the root of each; r: an order of roots, by which parts stand below their pairs. -/
structure Acy (K : Nat → Kd) (R : Nat → Nat) (n : Nat) (r : Nat → Nat) : Prop where
  root : ∀ x, x < n → R x < n ∧ R (R x) = R x
  pair : ∀ x, x < n → ∀ a b, K x = .pair a b → R x = x ∧ a < n ∧ b < n ∧ r (R a) < r x ∧ r (R b) < r x

/-- The root v becomes one with the root t. -/
def bind (R : Nat → Nat) (v t : Nat) : Nat → Nat := fun x => if R x = v then t else R x

theorem Acy.bind {K : Nat → Kd} {R : Nat → Nat} {n : Nat} {r : Nat → Nat} (h : Acy K R n r) {v t : Nat} (ht : t < n) (rt : R t = t) (ko : K v = .opn) (hno : ¬ Occ K R v t) :
    ∃ r', Acy K (bind R v t) n r' := by
  have hvt : v ≠ t := fun e => hno (e ▸ .here)
  classical
  refine ⟨fun x => if Occ K R v x then r x + r t + 1 else r x, fun x hx => ?_, fun x hx a b hk => ?_⟩
  · unfold TypP.bind
    obtain ⟨h1, h2⟩ := h.root x hx
    by_cases e : R x = v
    · rw [if_pos e]
      exact ⟨ht, by rw [if_neg (by rw [rt]; exact fun e => hvt e.symm)]; exact rt⟩
    · rw [if_neg e]
      exact ⟨h1, by rw [if_neg (by rw [h2]; exact e)]; exact h2⟩
  · obtain ⟨h1, h2, h3, h4, h5⟩ := h.pair x hx a b hk
    have hxv : x ≠ v := fun e => by rw [e, ko] at hk; cases hk
    have part : ∀ c, (Occ K R v (R c) → Occ K R v x) → r (R c) < r x →
        (if Occ K R v (TypP.bind R v t c) then r (TypP.bind R v t c) + r t + 1 else r (TypP.bind R v t c)) < (if Occ K R v x then r x + r t + 1 else r x) := by
      intro c hc hr
      unfold TypP.bind
      by_cases e : R c = v
      · rw [if_pos e, if_neg hno, if_pos (hc (e ▸ .here))]
        omega
      · rw [if_neg e]
        by_cases ho : Occ K R v (R c)
        · rw [if_pos ho, if_pos (hc ho)]
          omega
        · rw [if_neg ho]
          split <;> omega
    refine ⟨?_, h2, h3, part a (fun ho => .left hk ho) h4, part b (fun ho => .right hk ho) h5⟩
    unfold TypP.bind
    rw [h1, if_neg hxv]

/-- Two become one: how it goes, as both the program and the reference do it. -/
inductive Uni (K : Nat → Kd) : (Nat → Nat) → Nat → Nat → Bool → (Nat → Nat) → Prop
  | same {R : Nat → Nat} {a b : Nat} : R a = R b → Uni K R a b true R
  | tie {R : Nat → Nat} {a b : Nat} : R a ≠ R b → K (R a) = .opn → ¬ Occ K R (R a) (R b) → Uni K R a b true (bind R (R a) (R b))
  | loop {R : Nat → Nat} {a b : Nat} : R a ≠ R b → K (R a) = .opn → Occ K R (R a) (R b) → Uni K R a b false R
  | turn {R R' : Nat → Nat} {a b : Nat} {ok : Bool} : R a ≠ R b → K (R a) ≠ .opn → K (R b) = .opn → Uni K R (R b) (R a) ok R' → Uni K R a b ok R'
  | clash {R : Nat → Nat} {a b : Nat} : R a ≠ R b → K (R a) ≠ .opn → K (R b) ≠ .opn → (∀ c d e f, ¬ (K (R a) = .pair c d ∧ K (R b) = .pair e f)) → K (R a) ≠ K (R b) → Uni K R a b false R
  | plain {R : Nat → Nat} {a b : Nat} : R a ≠ R b → K (R a) ≠ .opn → (∀ c d, K (R a) ≠ .pair c d) → K (R a) = K (R b) → Uni K R a b true R
  | first {R R' : Nat → Nat} {a b c d e f : Nat} : R a ≠ R b → K (R a) = .pair c d → K (R b) = .pair e f → Uni K R c e false R' → Uni K R a b false R'
  | both {R R' R'' : Nat → Nat} {a b c d e f : Nat} {ok : Bool} : R a ≠ R b → K (R a) = .pair c d → K (R b) = .pair e f → Uni K R c e true R' → Uni K R' d f ok R'' → Uni K R a b ok R''

def Kd.isOpn : Kd → Bool
  | .opn => true
  | _ => false
theorem Kd.isOpn_iff {k : Kd} : k.isOpn = true ↔ k = .opn := by cases k <;> simp [Kd.isOpn]
/-- How many open roots there are. -/
def opens (K : Nat → Kd) (R : Nat → Nat) (n : Nat) : Nat := (List.range n).countP fun x => decide (R x = x) && (K x).isOpn

theorem countP_le' {p q : Nat → Bool} (l : List Nat) (h : ∀ x ∈ l, q x = true → p x = true) : l.countP q ≤ l.countP p := by
  induction l with
  | nil => simp
  | cons a l ih =>
    have h1 := ih fun x hx => h x (by simp [hx])
    have h2 := h a (by simp)
    rw [List.countP_cons, List.countP_cons]
    cases hq : q a with
    | false => split <;> simp_all <;> omega
    | true => rw [h2 hq]; simp; omega
theorem countP_lt' {p q : Nat → Bool} (l : List Nat) (h : ∀ x ∈ l, q x = true → p x = true) {v : Nat} (hv : v ∈ l) (hp : p v = true) (hq : q v = false) : l.countP q < l.countP p := by
  induction l with
  | nil => cases hv
  | cons a l ih =>
    have h1 := countP_le' l fun x hx => h x (by simp [hx])
    rw [List.countP_cons, List.countP_cons]
    by_cases e : a = v
    · subst e
      rw [hp, hq]
      simp
      omega
    · have hv' : v ∈ l := by
        rcases List.mem_cons.1 hv with h | h
        · exact absurd h.symm e
        · exact h
      have h2 := ih (fun x hx => h x (by simp [hx])) hv'
      have h3 := h a (by simp)
      cases hqa : q a with
      | false => split <;> simp_all <;> omega
      | true => rw [h3 hqa]; simp; omega
theorem opens_bind {K : Nat → Kd} {R : Nat → Nat} {n v t : Nat} (hv : v < n) (rv : R v = v) (ko : K v = .opn) (hvt : v ≠ t) (rt : R t = t) : opens K (bind R v t) n < opens K R n := by
  unfold opens
  refine countP_lt' _ (fun x _ hq => ?_) (List.mem_range.2 hv) (by simp [rv, ko, Kd.isOpn]) ?_
  · simp only [Bool.and_eq_true, decide_eq_true_eq] at hq ⊢
    refine ⟨?_, hq.2⟩
    have h1 := hq.1
    unfold bind at h1
    by_cases e : R x = v
    · rw [if_pos e] at h1
      rw [← h1]; exact rt
    · rw [if_neg e] at h1
      exact h1
  · have : bind R v t v ≠ v := by unfold bind; rw [if_pos rv]; exact fun e => hvt e.symm
    simp [this]

/-- It always comes to an end: two can be made one, or can't; the order stays, or there are fewer open roots. -/
theorem uni_total {K : Nat → Kd} {n : Nat} : ∀ (m s : Nat) (R : Nat → Nat) (r : Nat → Nat) (a b : Nat), Acy K R n r → opens K R n ≤ m → a < n → b < n → r (R a) + r (R b) ≤ s →
    ∃ ok R', Uni K R a b ok R' ∧ (∃ r', Acy K R' n r') ∧ (R' = R ∨ opens K R' n < opens K R n) := by
  intro m
  induction m using Nat.strongRecOn with
  | ind m ihm =>
    intro s
    induction s using Nat.strongRecOn with
    | ind s ihs =>
      intro R r a b hA hm ha hb hs
      classical
      obtain ⟨ha1, ha2⟩ := hA.root a ha
      obtain ⟨hb1, hb2⟩ := hA.root b hb
      have tied : ∀ x y, x < n → y < n → R x ≠ R y → K (R x) = .opn → ∃ ok R', Uni K R x y ok R' ∧ (∃ r', Acy K R' n r') ∧ (R' = R ∨ opens K R' n < opens K R n) := by
        intro x y hx hy hne ho
        obtain ⟨hx1, hx2⟩ := hA.root x hx
        obtain ⟨hy1, hy2⟩ := hA.root y hy
        by_cases hc : Occ K R (R x) (R y)
        · exact ⟨_, _, .loop hne ho hc, ⟨r, hA⟩, .inl rfl⟩
        · exact ⟨_, _, .tie hne ho hc, hA.bind hy1 hy2 ho hc, .inr (opens_bind hx1 hx2 ho hne hy2)⟩
      by_cases e : R a = R b
      · exact ⟨_, _, .same e, ⟨r, hA⟩, .inl rfl⟩
      by_cases oa : K (R a) = .opn
      · exact tied a b ha hb e oa
      by_cases ob : K (R b) = .opn
      · obtain ⟨ok, R', h1, h2, h3⟩ := tied (R b) (R a) hb1 ha1 (by rw [ha2, hb2]; exact fun x => e x.symm) (by rw [hb2]; exact ob)
        exact ⟨ok, R', .turn e oa ob h1, h2, h3⟩
      by_cases hp : ∃ c d f g, K (R a) = .pair c d ∧ K (R b) = .pair f g
      · obtain ⟨c, d, f, g, k1, k2⟩ := hp
        obtain ⟨_, c1, d1, c2, d2⟩ := hA.pair _ ha1 c d k1
        obtain ⟨_, f1, g1, f2, g2⟩ := hA.pair _ hb1 f g k2
        obtain ⟨ok, R1, u1, ⟨r1, A1⟩, s1⟩ := ihs (r (R c) + r (R f)) (by omega) R r c f hA hm c1 f1 (Nat.le_refl _)
        cases ok with
        | false => exact ⟨_, _, .first e k1 k2 u1, ⟨r1, A1⟩, s1⟩
        | true =>
          rcases s1 with rfl | s1
          · obtain ⟨ok, R2, u2, A2, s2⟩ := ihs (r (R1 d) + r (R1 g)) (by omega) R1 r d g hA hm d1 g1 (Nat.le_refl _)
            exact ⟨_, _, .both e k1 k2 u1 u2, A2, s2⟩
          · obtain ⟨ok, R2, u2, A2, s2⟩ := ihm (opens K R1 n) (by omega) (r1 (R1 d) + r1 (R1 g)) R1 r1 d g A1 (Nat.le_refl _) d1 g1 (Nat.le_refl _)
            refine ⟨_, _, .both e k1 k2 u1 u2, A2, .inr ?_⟩
            rcases s2 with rfl | s2
            · exact s1
            · omega
      · have hnp : ∀ c d f g, ¬ (K (R a) = .pair c d ∧ K (R b) = .pair f g) := fun c d f g h => hp ⟨c, d, f, g, h⟩
        by_cases ek : K (R a) = K (R b)
        · exact ⟨_, _, .plain e oa (fun c d h => hnp c d c d ⟨h, ek ▸ h⟩) ek, ⟨r, hA⟩, .inl rfl⟩
        · exact ⟨_, _, .clash e oa ob hnp ek, ⟨r, hA⟩, .inl rfl⟩
end Go.Proofs.YtpbiiigacfhbhaaDoor.TypP
