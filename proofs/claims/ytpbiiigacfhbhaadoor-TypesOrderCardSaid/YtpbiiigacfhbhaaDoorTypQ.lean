/- How two types are made one, step by step; that the order stays. -/
import Derived.Test.YtpbiiigacfhbhaaDoorTypP
namespace Go.Proofs.YtpbiiigacfhbhaaDoor.TypP

/-- One step of Uni, where what it calls for is known to hold by P. -/
inductive Step (K : Nat → Kd) (P : (Nat → Nat) → Nat → Nat → Bool → (Nat → Nat) → Prop) : (Nat → Nat) → Nat → Nat → Bool → (Nat → Nat) → Prop
  | same {R : Nat → Nat} {a b : Nat} : R a = R b → Step K P R a b true R
  | tie {R : Nat → Nat} {a b : Nat} : R a ≠ R b → K (R a) = .opn → ¬ Occ K R (R a) (R b) → Step K P R a b true (bind R (R a) (R b))
  | loop {R : Nat → Nat} {a b : Nat} : R a ≠ R b → K (R a) = .opn → Occ K R (R a) (R b) → Step K P R a b false R
  | turn {R R' : Nat → Nat} {a b : Nat} {ok : Bool} : R a ≠ R b → K (R a) ≠ .opn → K (R b) = .opn → P R (R b) (R a) ok R' → Step K P R a b ok R'
  | clash {R : Nat → Nat} {a b : Nat} : R a ≠ R b → K (R a) ≠ .opn → K (R b) ≠ .opn → (∀ c d e f, ¬ (K (R a) = .pair c d ∧ K (R b) = .pair e f)) → K (R a) ≠ K (R b) → Step K P R a b false R
  | plain {R : Nat → Nat} {a b : Nat} : R a ≠ R b → K (R a) ≠ .opn → (∀ c d, K (R a) ≠ .pair c d) → K (R a) = K (R b) → Step K P R a b true R
  | first {R R' : Nat → Nat} {a b c d e f : Nat} : R a ≠ R b → K (R a) = .pair c d → K (R b) = .pair e f → P R c e false R' → Step K P R a b false R'
  | both {R R' R'' : Nat → Nat} {a b c d e f : Nat} {ok : Bool} : R a ≠ R b → K (R a) = .pair c d → K (R b) = .pair e f → P R c e true R' → P R' d f ok R'' → Step K P R a b ok R''

theorem uni_ind {K : Nat → Kd} {P : (Nat → Nat) → Nat → Nat → Bool → (Nat → Nat) → Prop}
    (h : ∀ R a b ok R', Step K (fun R a b ok R' => Uni K R a b ok R' ∧ P R a b ok R') R a b ok R' → P R a b ok R')
    {R : Nat → Nat} {a b : Nat} {ok : Bool} {R' : Nat → Nat} (u : Uni K R a b ok R') : P R a b ok R' := by
  induction u with
  | same h1 => exact h _ _ _ _ _ (.same h1)
  | tie h1 h2 h3 => exact h _ _ _ _ _ (.tie h1 h2 h3)
  | loop h1 h2 h3 => exact h _ _ _ _ _ (.loop h1 h2 h3)
  | turn h1 h2 h3 u ih => exact h _ _ _ _ _ (.turn h1 h2 h3 ⟨u, ih⟩)
  | clash h1 h2 h3 h4 h5 => exact h _ _ _ _ _ (.clash h1 h2 h3 h4 h5)
  | plain h1 h2 h3 h4 => exact h _ _ _ _ _ (.plain h1 h2 h3 h4)
  | first h1 h2 h3 u ih => exact h _ _ _ _ _ (.first h1 h2 h3 ⟨u, ih⟩)
  | both h1 h2 h3 u v ih ih' => exact h _ _ _ _ _ (.both h1 h2 h3 ⟨u, ih⟩ ⟨v, ih'⟩)

theorem uni_acy {K : Nat → Kd} {n : Nat} {R : Nat → Nat} {a b : Nat} {ok : Bool} {R' : Nat → Nat} (u : Uni K R a b ok R') :
    a < n → b < n → (∃ r, Acy K R n r) → ∃ r, Acy K R' n r := by
  induction u with
  | same h1 => exact fun _ _ h => h
  | tie h1 h2 h3 =>
    rintro ha hb ⟨r, h⟩
    exact h.bind (h.root _ hb).1 (h.root _ hb).2 h2 h3
  | loop h1 h2 h3 => exact fun _ _ h => h
  | turn h1 h2 h3 u ih =>
    rintro ha hb ⟨r, h⟩
    exact ih (h.root _ hb).1 (h.root _ ha).1 ⟨r, h⟩
  | clash h1 h2 h3 h4 h5 => exact fun _ _ h => h
  | plain h1 h2 h3 h4 => exact fun _ _ h => h
  | first h1 h2 h3 u ih =>
    rintro ha hb ⟨r, h⟩
    obtain ⟨_, h4, h5, _⟩ := h.pair _ (h.root _ ha).1 _ _ h2
    obtain ⟨_, h6, h7, _⟩ := h.pair _ (h.root _ hb).1 _ _ h3
    exact ih h4 h6 ⟨r, h⟩
  | both h1 h2 h3 u v ih ih' =>
    rintro ha hb ⟨r, h⟩
    obtain ⟨_, h4, h5, _⟩ := h.pair _ (h.root _ ha).1 _ _ h2
    obtain ⟨_, h6, h7, _⟩ := h.pair _ (h.root _ hb).1 _ _ h3
    exact ih' h5 h7 (ih h4 h6 ⟨r, h⟩)
/-- What the outside of a bound root becomes. -/
theorem bind_at {R : Nat → Nat} {v t x : Nat} (h : R x = v) : bind R v t x = t := if_pos h
theorem bind_off {R : Nat → Nat} {v t x : Nat} (h : R x ≠ v) : bind R v t x = R x := if_neg h
end Go.Proofs.YtpbiiigacfhbhaaDoor.TypP
