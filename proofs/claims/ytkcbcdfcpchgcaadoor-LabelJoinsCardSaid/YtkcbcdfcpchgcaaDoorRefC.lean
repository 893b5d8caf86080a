/- Counting what is not yet there. -/
import Derived.Test.YtkcbcdfcpchgcaaDoorOrdP
set_option linter.unusedVariables false
set_option linter.unusedSimpArgs false
namespace Go.Proofs.YtkcbcdfcpchgcaaDoor
open OrdP (Rel Trans Sub)

def cntP (p : Nat → Bool) : Nat → Nat
  | 0 => 0
  | n + 1 => cntP p n + if p n then 1 else 0
theorem cntP_le {p q : Nat → Bool} : ∀ n, (∀ m, m < n → q m = true → p m = true) → cntP q n ≤ cntP p n
  | 0, _ => Nat.le_refl _
  | n + 1, h => by
    have ih := cntP_le n (fun m hm => h m (by omega))
    have := h n (by omega)
    simp only [cntP]
    cases hq : q n <;> cases hp : p n <;> simp_all <;> omega
theorem cntP_lt {p q : Nat → Bool} : ∀ n, (∀ m, m < n → q m = true → p m = true) → ∀ m, m < n → p m = true → q m = false → cntP q n < cntP p n
  | 0, _, m, hm, _, _ => by omega
  | n + 1, h, m, hm, hp, hq => by
    simp only [cntP]
    by_cases e : m = n
    · subst e
      have ih := cntP_le m (fun m' hm' => h m' (by omega))
      simp [hp, hq]; omega
    · have ih := cntP_lt n (fun m' hm' => h m' (by omega)) m (by omega) hp hq
      have := h n (by omega)
      cases hq' : q n <;> cases hp' : p n <;> simp_all <;> omega
/-- How many pairs are not in R. -/
def cnt (k : Nat) (R : Rel) : Nat := cntP (fun m => !R (m / k) (m % k)) (k * k)
theorem div_lt {m k : Nat} (h : m < k * k) : m / k < k ∧ m % k < k := by
  have hk : 0 < k := by rcases Nat.eq_zero_or_pos k with e | e; subst e; omega; exact e
  exact ⟨Nat.div_lt_of_lt_mul h, Nat.mod_lt _ hk⟩
theorem cnt_congr {k : Nat} {R S : Rel} (h : ∀ i j, i < k → j < k → R i j = S i j) : cnt k R = cnt k S := by
  apply Nat.le_antisymm
  · exact cntP_le _ fun m hm e => by rw [← h _ _ (div_lt hm).1 (div_lt hm).2]; exact e
  · exact cntP_le _ fun m hm e => by rw [h _ _ (div_lt hm).1 (div_lt hm).2]; exact e
theorem cnt_set {k : Nat} {R : Rel} {a c : Nat} (ha : a < k) (hc : c < k) (h : R a c = false) : cnt k (fun i j => if i = a ∧ j = c then true else R i j) < cnt k R := by
  have hm : a * k + c < k * k := by
    have : (a + 1) * k ≤ k * k := Nat.mul_le_mul_right k ha
    rw [Nat.add_mul] at this; omega
  have e1 : (a * k + c) / k = a := by
    rw [Nat.mul_comm, Nat.mul_add_div (by omega), Nat.div_eq_of_lt hc]; rfl
  have e2 : (a * k + c) % k = c := by rw [Nat.mul_comm, Nat.mul_add_mod, Nat.mod_eq_of_lt hc]
  refine cntP_lt _ (fun m hm e => ?_) (a * k + c) hm ?_ ?_
  · by_cases e3 : m / k = a ∧ m % k = c
    · simp [e3] at e
    · simpa [e3] using e
  · simp [e1, e2, h]
  · simp [e1, e2]

def Tri (R : Rel) (a b c : Nat) : Prop := R a b = true → R b c = true → R a c = true
def DoneA (k : Nat) (R : Rel) (a : Nat) : Prop := ∀ a', a' < a → ∀ b c, b < k → c < k → Tri R a' b c
def DoneB (k : Nat) (R : Rel) (a b : Nat) : Prop := DoneA k R a ∧ ∀ b', b' < b → ∀ c, c < k → Tri R a b' c
def DoneC (k : Nat) (R : Rel) (a b c : Nat) : Prop := DoneB k R a b ∧ ∀ c', c' < c → Tri R a b c'
/-- Within a round that began at R1. -/
structure MidP (k : Nat) (R0 R1 R : Rel) (mb : Bool) (P : Rel → Prop) : Prop where
  sub : Sub k R0 R
  least : ∀ T, Trans k T → Sub k R0 T → Sub k R T
  no : mb = false → (∀ i j, i < k → j < k → R i j = R1 i j) ∧ P R
  yes : mb = true → cnt k R < cnt k R1

theorem MidP.mono {k : Nat} {R0 R1 R : Rel} {mb : Bool} {P Q : Rel → Prop} (h : MidP k R0 R1 R mb P) (hq : P R → Q R) : MidP k R0 R1 R mb Q := ⟨h.sub, h.least, fun e => ⟨(h.no e).1, hq (h.no e).2⟩, h.yes⟩
theorem MidP.set {k : Nat} {R0 R1 R : Rel} {mb : Bool} {P Q : Rel → Prop} (h : MidP k R0 R1 R mb P) {a b c : Nat} (ha : a < k) (hb : b < k) (hc : c < k) (h1 : R a b = true) (h2 : R b c = true) (h3 : R a c = false) :
    MidP k R0 R1 (fun i j => if i = a ∧ j = c then true else R i j) true Q := by
  refine ⟨fun i j hi hj e => ?_, fun T hT h0 i j hi hj e => ?_, fun e => by (cases e), fun _ => ?_⟩
  · have := h.sub i j hi hj e
    simp [this]
  · have hR := h.least T hT h0
    by_cases e2 : i = a ∧ j = c
    · obtain ⟨rfl, rfl⟩ := e2
      exact hT i b j hi hb hj (hR i b hi hb h1) (hR b j hb hj h2)
    · simp only [e2, if_false] at e
      exact hR i j hi hj e
  · have hlt := cnt_set ha hc h3
    cases mb with
    | false => rw [← cnt_congr (h.no rfl).1]; exact hlt
    | true => have := h.yes rfl; omega
theorem MidP.skip {k : Nat} {R0 R1 R : Rel} {mb : Bool} {a b c : Nat} (h : MidP k R0 R1 R mb (DoneC k · a b c)) (hn : ¬ (R a b = true ∧ R b c = true ∧ R a c = false)) : MidP k R0 R1 R mb (DoneC k · a b (c + 1)) :=
  h.mono fun ⟨hB, hC⟩ => ⟨hB, fun c' hc' => by
    by_cases e : c' = c
    · subst e
      intro h1 h2
      cases h3 : R a c' with
      | true => rfl
      | false => exact absurd ⟨h1, h2, h3⟩ hn
    · exact hC c' (by omega)⟩
theorem MidP.endC {k : Nat} {R0 R1 R : Rel} {mb : Bool} {a b : Nat} (h : MidP k R0 R1 R mb (DoneC k · a b k)) : MidP k R0 R1 R mb (DoneB k · a (b + 1)) :=
  h.mono fun ⟨⟨hA, hB⟩, hC⟩ => ⟨hA, fun b' hb' c hc => by
    by_cases e : b' = b
    · subst e; exact hC c hc
    · exact hB b' (by omega) c hc⟩
theorem MidP.endB {k : Nat} {R0 R1 R : Rel} {mb : Bool} {a : Nat} (h : MidP k R0 R1 R mb (DoneB k · a k)) : MidP k R0 R1 R mb (DoneA k · (a + 1)) :=
  h.mono fun ⟨hA, hB⟩ a' ha' b c hb hc => by
    by_cases e : a' = a
    · subst e; exact hB b hb c hc
    · exact hA a' (by omega) b c hb hc
theorem MidP.startC {k : Nat} {R0 R1 R : Rel} {mb : Bool} {a b : Nat} (h : MidP k R0 R1 R mb (DoneB k · a b)) : MidP k R0 R1 R mb (DoneC k · a b 0) := h.mono fun hB => ⟨hB, fun c hc => by omega⟩
theorem MidP.startB {k : Nat} {R0 R1 R : Rel} {mb : Bool} {a : Nat} (h : MidP k R0 R1 R mb (DoneA k · a)) : MidP k R0 R1 R mb (DoneB k · a 0) := h.mono fun hA => ⟨hA, fun b hb => by omega⟩
theorem done_trans {k : Nat} {R : Rel} (h : DoneA k R k) : Trans k R := fun i j m hi hj hm h1 h2 => h i hi j m hj hm h1 h2

end Go.Proofs.YtkcbcdfcpchgcaaDoor
