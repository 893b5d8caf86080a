/- The order in which types are made one tells in nothing: whether they can be, nor in their texts. -/
import Derived.Test.YtpbiiigacfhbhaaDoorTypW
namespace Go.Proofs.YtpbiiigacfhbhaaDoor.TypP
open Go.Proofs.YtpbiiigacfhbhaaDoor (num)

/-- What a type may stand for. -/
inductive Tm where
  | var (v : Nat)
  | int
  | bool
  | unit
  | pair (a b : Tm)
def Tm.size : Tm → Nat
  | .pair a b => a.size + b.size + 1
  | _ => 0
/-- All types stand for what their kinds say. -/
structure Mod (K : Nat → Kd) (n : Nat) (T : Nat → Tm) : Prop where
  int : ∀ x, x < n → K x = .int → T x = .int
  bool : ∀ x, x < n → K x = .bool → T x = .bool
  unit : ∀ x, x < n → K x = .unit → T x = .unit
  pair : ∀ x, x < n → ∀ a b, K x = .pair a b → T x = .pair (T a) (T b)
theorem Mod.opn {K : Nat → Kd} {n : Nat} {T : Nat → Tm} (h : Mod K n T) {x v : Nat} (hx : x < n) (e : T x = .var v) : K x = .opn := by
  cases hk : K x with
  | opn => rfl
  | int => rw [h.int x hx hk] at e; cases e
  | bool => rw [h.bool x hx hk] at e; cases e
  | unit => rw [h.unit x hx hk] at e; cases e
  | pair a b => rw [h.pair x hx a b hk] at e; cases e
def Fits (R : Nat → Nat) (n : Nat) (T : Nat → Tm) : Prop := ∀ x, x < n → T (R x) = T x

theorem occ_size {K : Nat → Kd} {R : Nat → Nat} {n v : Nat} {r : Nat → Nat} {T : Nat → Tm} (hA : Acy K R n r) (hm : Mod K n T) (hf : Fits R n T) {x : Nat} (h : Occ K R v x) : x < n → (T v).size ≤ (T x).size ∧ (x ≠ v → (T v).size < (T x).size) := by
  induction h with
  | here => exact fun _ => ⟨Nat.le_refl _, fun e => absurd rfl e⟩
  | left hk ho ih =>
    intro hx
    obtain ⟨_, ha, hb, _⟩ := hA.pair _ hx _ _ hk
    have h1 := ih (hA.root _ ha).1
    rw [hf _ ha] at h1
    rw [hm.pair _ hx _ _ hk]
    simp only [Tm.size]
    exact ⟨by omega, fun _ => by omega⟩
  | right hk ho ih =>
    intro hx
    obtain ⟨_, ha, hb, _⟩ := hA.pair _ hx _ _ hk
    have h1 := ih (hA.root _ hb).1
    rw [hf _ hb] at h1
    rw [hm.pair _ hx _ _ hk]
    simp only [Tm.size]
    exact ⟨by omega, fun _ => by omega⟩

/-- What two that must be one stand for, they stand for when they are one; and they can be. -/
theorem uni_sound {K : Nat → Kd} {n : Nat} {T : Nat → Tm} (hm : Mod K n T) {R : Nat → Nat} {a b : Nat} {ok : Bool} {R' : Nat → Nat} (u : Uni K R a b ok R') :
    a < n → b < n → (∃ r, Acy K R n r) → Fits R n T → T a = T b → ok = true ∧ Fits R' n T := by
  induction u with
  | same h1 => exact fun _ _ _ h _ => ⟨rfl, h⟩
  | @tie R a b h1 h2 h3 =>
    intro ha hb hA hf e
    refine ⟨rfl, fun x hx => ?_⟩
    by_cases hr : R x = R a
    · rw [bind_at hr, hf b hb, ← e, ← hf a ha, ← hr, hf x hx]
    · rw [bind_off hr, hf x hx]
  | @loop R a b h1 h2 h3 =>
    rintro ha hb ⟨r, hA⟩ hf e
    have := (occ_size hA hm hf h3 (hA.root b hb).1).2 (fun e => h1 e.symm)
    rw [hf a ha, hf b hb, e] at this
    omega
  | turn h1 h2 h3 u ih =>
    rintro ha hb ⟨r, hA⟩ hf e
    exact ih (hA.root _ hb).1 (hA.root _ ha).1 ⟨r, hA⟩ hf (by rw [hf _ hb, hf _ ha, e])
  | @clash R a b h1 h2 h3 h4 h5 =>
    rintro ha hb ⟨r, hA⟩ hf e
    have hra := (hA.root a ha).1
    have hrb := (hA.root b hb).1
    have e' : T (R a) = T (R b) := by rw [hf _ ha, hf _ hb, e]
    exfalso
    cases ka : K (R a) with
    | opn => exact h2 ka
    | int =>
      rw [hm.int _ hra ka] at e'
      cases kb : K (R b) with
      | opn => exact h3 kb
      | int => exact h5 (ka.trans kb.symm)
      | bool => rw [hm.bool _ hrb kb] at e'; cases e'
      | unit => rw [hm.unit _ hrb kb] at e'; cases e'
      | pair c d => rw [hm.pair _ hrb _ _ kb] at e'; cases e'
    | bool =>
      rw [hm.bool _ hra ka] at e'
      cases kb : K (R b) with
      | opn => exact h3 kb
      | int => rw [hm.int _ hrb kb] at e'; cases e'
      | bool => exact h5 (ka.trans kb.symm)
      | unit => rw [hm.unit _ hrb kb] at e'; cases e'
      | pair c d => rw [hm.pair _ hrb _ _ kb] at e'; cases e'
    | unit =>
      rw [hm.unit _ hra ka] at e'
      cases kb : K (R b) with
      | opn => exact h3 kb
      | int => rw [hm.int _ hrb kb] at e'; cases e'
      | bool => rw [hm.bool _ hrb kb] at e'; cases e'
      | unit => exact h5 (ka.trans kb.symm)
      | pair c d => rw [hm.pair _ hrb _ _ kb] at e'; cases e'
    | pair c d =>
      rw [hm.pair _ hra _ _ ka] at e'
      cases kb : K (R b) with
      | opn => exact h3 kb
      | int => rw [hm.int _ hrb kb] at e'; cases e'
      | bool => rw [hm.bool _ hrb kb] at e'; cases e'
      | unit => rw [hm.unit _ hrb kb] at e'; cases e'
      | pair e f => exact h4 c d e f ⟨ka, kb⟩
  | plain h1 h2 h3 h4 => exact fun _ _ _ h _ => ⟨rfl, h⟩
  | first h1 h2 h3 u ih =>
    rintro ha hb ⟨r, hA⟩ hf e
    obtain ⟨_, h4, h5, _⟩ := hA.pair _ (hA.root _ ha).1 _ _ h2
    obtain ⟨_, h6, h7, _⟩ := hA.pair _ (hA.root _ hb).1 _ _ h3
    rw [← hf _ ha, ← hf _ hb, hm.pair _ (hA.root _ ha).1 _ _ h2, hm.pair _ (hA.root _ hb).1 _ _ h3] at e
    injection e with e1 e2
    exact ih h4 h6 ⟨r, hA⟩ hf e1
  | both h1 h2 h3 u v ih ih' =>
    rintro ha hb ⟨r, hA⟩ hf e
    obtain ⟨_, h4, h5, _⟩ := hA.pair _ (hA.root _ ha).1 _ _ h2
    obtain ⟨_, h6, h7, _⟩ := hA.pair _ (hA.root _ hb).1 _ _ h3
    rw [← hf _ ha, ← hf _ hb, hm.pair _ (hA.root _ ha).1 _ _ h2, hm.pair _ (hA.root _ hb).1 _ _ h3] at e
    injection e with e1 e2
    obtain ⟨_, hf'⟩ := ih h4 h6 ⟨r, hA⟩ hf e1
    exact ih' h5 h7 (uni_acy u h4 h6 ⟨r, hA⟩) hf' e2

/-- What stands for roots that are one stands for both; it stood for what was before. -/
theorem uni_made {K : Nat → Kd} {n : Nat} {T : Nat → Tm} (hm : Mod K n T) {R : Nat → Nat} {a b : Nat} {ok : Bool} {R' : Nat → Nat} (u : Uni K R a b ok R') :
    a < n → b < n → (∃ r, Acy K R n r) → ok = true → Fits R' n T → Fits R n T ∧ T a = T b := by
  induction u with
  | @same R a b h1 => exact fun ha hb _ _ h => ⟨h, by rw [← h a ha, ← h b hb, h1]⟩
  | @tie R a b h1 h2 h3 =>
    rintro ha hb ⟨r, hA⟩ _ hf
    obtain ⟨ha1, ha2⟩ := hA.root a ha
    obtain ⟨hb1, hb2⟩ := hA.root b hb
    have e1 : T (R b) = T (R a) := by
      have := hf (R a) ha1
      rwa [bind_at (by rw [ha2])] at this
    have h4 : Fits R n T := fun x hx => by
      have := hf x hx
      by_cases hr : R x = R a
      · rw [bind_at hr, e1, ← hr] at this
        exact this
      · rw [bind_off hr] at this
        exact this
    exact ⟨h4, by rw [← h4 a ha, ← h4 b hb, e1]⟩
  | loop h1 h2 h3 => exact fun _ _ _ h => by cases h
  | turn h1 h2 h3 u ih =>
    rintro ha hb ⟨r, hA⟩ hok hf
    obtain ⟨h4, h5⟩ := ih (hA.root _ hb).1 (hA.root _ ha).1 ⟨r, hA⟩ hok hf
    rw [h4 _ hb, h4 _ ha] at h5
    exact ⟨h4, h5.symm⟩
  | clash h1 h2 h3 h4 h5 => exact fun _ _ _ h => by cases h
  | @plain R a b h1 h2 h3 h4 =>
    rintro ha hb ⟨r, hA⟩ _ hf
    have hra := (hA.root a ha).1
    have hrb := (hA.root b hb).1
    refine ⟨hf, ?_⟩
    rw [← hf a ha, ← hf b hb]
    cases ka : K (R a) with
    | opn => exact absurd ka h2
    | int => rw [hm.int _ hra ka, hm.int _ hrb (h4 ▸ ka)]
    | bool => rw [hm.bool _ hra ka, hm.bool _ hrb (h4 ▸ ka)]
    | unit => rw [hm.unit _ hra ka, hm.unit _ hrb (h4 ▸ ka)]
    | pair c d => exact absurd ka (h3 c d)
  | first h1 h2 h3 u ih => exact fun _ _ _ h => by cases h
  | both h1 h2 h3 u v ih ih' =>
    rintro ha hb ⟨r, hA⟩ hok hf
    obtain ⟨_, h4, h5, _⟩ := hA.pair _ (hA.root _ ha).1 _ _ h2
    obtain ⟨_, h6, h7, _⟩ := hA.pair _ (hA.root _ hb).1 _ _ h3
    obtain ⟨f1, e2⟩ := ih' h5 h7 (uni_acy u h4 h6 ⟨r, hA⟩) hok hf
    obtain ⟨f2, e1⟩ := ih h4 h6 ⟨r, hA⟩ rfl f1
    refine ⟨f2, ?_⟩
    rw [← f2 _ ha, ← f2 _ hb, hm.pair _ (hA.root _ ha).1 _ _ h2, hm.pair _ (hA.root _ hb).1 _ _ h3, e1, e2]

/-- What isn't open is its own root. -/
def Fixed (K : Nat → Kd) (R : Nat → Nat) (n : Nat) : Prop := ∀ x, x < n → K x ≠ .opn → R x = x
theorem uni_fix {K : Nat → Kd} {n : Nat} {R : Nat → Nat} {a b : Nat} {ok : Bool} {R' : Nat → Nat} (u : Uni K R a b ok R') : Fixed K R n → Fixed K R' n := by
  induction u with
  | @tie R a b h1 h2 h3 =>
    intro h x hx hk
    have hr := h x hx hk
    rw [bind_off (by rw [hr]; exact fun e => hk (by rw [e]; exact h2)), hr]
  | turn h1 h2 h3 u ih => exact ih
  | first h1 h2 h3 u ih => exact ih
  | both h1 h2 h3 u v ih ih' => exact fun h => ih' (ih h)
  | _ => exact fun h => h

/-- What a type is, written out. -/
def unf (K : Nat → Kd) (R : Nat → Nat) : Nat → Nat → Tm
  | 0, _ => .var 0
  | f + 1, x => match K (R x) with
    | .opn => .var (R x)
    | .int => .int
    | .bool => .bool
    | .unit => .unit
    | .pair a b => .pair (unf K R f a) (unf K R f b)
theorem unf_stay {K : Nat → Kd} {R : Nat → Nat} {n : Nat} {r : Nat → Nat} (hA : Acy K R n r) : ∀ (f f' x : Nat), x < n → r (R x) < f → r (R x) < f' → unf K R f x = unf K R f' x
  | 0, _, _, _, h, _ => by omega
  | _ + 1, 0, _, _, _, h => by omega
  | f + 1, f' + 1, x, hx, h, h' => by
    unfold unf
    cases hk : K (R x) with
    | pair a b =>
      obtain ⟨_, ha, hb, h1, h2⟩ := hA.pair _ (hA.root _ hx).1 _ _ hk
      simp only
      rw [unf_stay hA f f' a ha (by omega) (by omega), unf_stay hA f f' b hb (by omega) (by omega)]
    | _ => rfl
theorem unf_mod {K : Nat → Kd} {R : Nat → Nat} {n : Nat} {r : Nat → Nat} (hA : Acy K R n r) (hF : Fixed K R n) :
    ∃ T, Mod K n T ∧ Fits R n T ∧ ∀ x, x < n → K (R x) = .opn → T x = .var (R x) := by
  refine ⟨fun x => unf K R (r (R x) + 1) x, ⟨fun x hx hk => ?_, fun x hx hk => ?_, fun x hx hk => ?_, fun x hx a b hk => ?_⟩, fun x hx => ?_, fun x hx hk => ?_⟩
  · have := hF x hx (by rw [hk]; exact fun e => by cases e)
    simp only [unf, this, hk]
  · have := hF x hx (by rw [hk]; exact fun e => by cases e)
    simp only [unf, this, hk]
  · have := hF x hx (by rw [hk]; exact fun e => by cases e)
    simp only [unf, this, hk]
  · obtain ⟨h0, ha, hb, h1, h2⟩ := hA.pair x hx a b hk
    simp only [unf, h0, hk]
    rw [unf_stay hA (r x) (r (R a) + 1) a ha h1 (by omega), unf_stay hA (r x) (r (R b) + 1) b hb h2 (by omega)]
    rfl
  · have h0 := (hA.root x hx).2
    simp only [unf, h0]
  · simp only [unf, hk]

/-- Several, one behind the other. -/
inductive Unis (K : Nat → Kd) : (Nat → Nat) → List (Nat × Nat) → Bool → (Nat → Nat) → Prop
  | nil {R : Nat → Nat} : Unis K R [] true R
  | stop {R R' : Nat → Nat} {a b : Nat} {l : List (Nat × Nat)} : Uni K R a b false R' → Unis K R ((a, b) :: l) false R'
  | next {R R' R'' : Nat → Nat} {a b : Nat} {l : List (Nat × Nat)} {ok : Bool} : Uni K R a b true R' → Unis K R' l ok R'' → Unis K R ((a, b) :: l) ok R''
theorem unis_acy {K : Nat → Kd} {n : Nat} {R : Nat → Nat} {l : List (Nat × Nat)} {ok : Bool} {R' : Nat → Nat} (u : Unis K R l ok R') :
    (∀ p ∈ l, p.1 < n ∧ p.2 < n) → (∃ r, Acy K R n r) → Fixed K R n → (∃ r, Acy K R' n r) ∧ Fixed K R' n := by
  induction u with
  | nil => exact fun _ h k => ⟨h, k⟩
  | stop u => exact fun hl h k => ⟨uni_acy u (hl _ List.mem_cons_self).1 (hl _ List.mem_cons_self).2 h, uni_fix u k⟩
  | next u v ih => exact fun hl h k => ih (fun p hp => hl p (by simp [hp])) (uni_acy u (hl _ List.mem_cons_self).1 (hl _ List.mem_cons_self).2 h) (uni_fix u k)
theorem unis_total {K : Nat → Kd} {n : Nat} : ∀ (l : List (Nat × Nat)) (R : Nat → Nat), (∀ p ∈ l, p.1 < n ∧ p.2 < n) → (∃ r, Acy K R n r) → ∃ ok R', Unis K R l ok R'
  | [], R, _, _ => ⟨true, R, .nil⟩
  | (a, b) :: l, R, hl, ⟨r, hA⟩ => by
    obtain ⟨h1, h2⟩ := hl (a, b) (by simp)
    obtain ⟨ok, R', u, hA', _⟩ := uni_total (K := K) (n := n) _ _ R r a b hA (Nat.le_refl _) h1 h2 (Nat.le_refl _)
    cases ok with
    | false => exact ⟨_, _, .stop u⟩
    | true =>
      obtain ⟨ok, R'', v⟩ := unis_total l R' (fun p hp => hl p (by simp [hp])) hA'
      exact ⟨_, _, .next u v⟩
theorem unis_sound {K : Nat → Kd} {n : Nat} {T : Nat → Tm} (hm : Mod K n T) {R : Nat → Nat} {l : List (Nat × Nat)} {ok : Bool} {R' : Nat → Nat} (u : Unis K R l ok R') :
    (∀ p ∈ l, p.1 < n ∧ p.2 < n) → (∃ r, Acy K R n r) → Fits R n T → (∀ p ∈ l, T p.1 = T p.2) → ok = true ∧ Fits R' n T := by
  induction u with
  | nil => exact fun _ _ h _ => ⟨rfl, h⟩
  | stop u => exact fun hl hA h he => uni_sound hm u (hl _ List.mem_cons_self).1 (hl _ List.mem_cons_self).2 hA h (he _ List.mem_cons_self)
  | next u v ih =>
    intro hl hA h he
    obtain ⟨_, h'⟩ := uni_sound hm u (hl _ List.mem_cons_self).1 (hl _ List.mem_cons_self).2 hA h (he _ List.mem_cons_self)
    exact ih (fun p hp => hl p (by simp [hp])) (uni_acy u (hl _ List.mem_cons_self).1 (hl _ List.mem_cons_self).2 hA) h' (fun p hp => he p (by simp [hp]))
theorem unis_made {K : Nat → Kd} {n : Nat} {T : Nat → Tm} (hm : Mod K n T) {R : Nat → Nat} {l : List (Nat × Nat)} {ok : Bool} {R' : Nat → Nat} (u : Unis K R l ok R') :
    (∀ p ∈ l, p.1 < n ∧ p.2 < n) → (∃ r, Acy K R n r) → ok = true → Fits R' n T → Fits R n T ∧ ∀ p ∈ l, T p.1 = T p.2 := by
  induction u with
  | nil => exact fun _ _ _ h => ⟨h, fun p hp => by cases hp⟩
  | stop u => exact fun _ _ h => by cases h
  | next u v ih =>
    intro hl hA hok h
    obtain ⟨h1, h2⟩ := ih (fun p hp => hl p (by simp [hp])) (uni_acy u (hl _ List.mem_cons_self).1 (hl _ List.mem_cons_self).2 hA) hok h
    obtain ⟨h3, h4⟩ := uni_made hm u (hl _ List.mem_cons_self).1 (hl _ List.mem_cons_self).2 hA rfl h1
    refine ⟨h3, fun p hp => ?_⟩
    rcases List.mem_cons.1 hp with rfl | hp
    · exact h4
    · exact h2 p hp

/-- Two ways to make the same types one. -/
structure Alike (K : Nat → Kd) (n : Nat) (R1 R2 : Nat → Nat) (T1 T2 : Nat → Tm) : Prop where
  m1 : Mod K n T1
  m2 : Mod K n T2
  r1 : ∀ x, x < n → R1 x < n ∧ R1 (R1 x) = R1 x
  r2 : ∀ x, x < n → R2 x < n ∧ R2 (R2 x) = R2 x
  f11 : Fits R1 n T1
  f12 : Fits R1 n T2
  f21 : Fits R2 n T1
  f22 : Fits R2 n T2
  o1 : ∀ x, x < n → K (R1 x) = .opn → T1 x = .var (R1 x)
  o2 : ∀ x, x < n → K (R2 x) = .opn → T2 x = .var (R2 x)
  parts : ∀ x, x < n → ∀ a b, K x = .pair a b → a < n ∧ b < n
section
variable {K : Nat → Kd} {n : Nat} {R1 R2 : Nat → Nat} {T1 T2 : Nat → Tm}
theorem Alike.opn (h : Alike K n R1 R2 T1 T2) {v : Nat} (hv : v < n) (hr : R1 v = v) (hk : K v = .opn) : K (R2 v) = .opn :=
  h.m1.opn (h.r2 v hv).1 (v := v) (by rw [h.f21 v hv, h.o1 v hv (by rw [hr]; exact hk), hr])
theorem Alike.inj (h : Alike K n R1 R2 T1 T2) {v v' : Nat} (hv : v < n) (hr : R1 v = v) (hk : K v = .opn) (hv' : v' < n) (hr' : R1 v' = v') (hk' : K v' = .opn) (e : R2 v = R2 v') : v = v' := by
  have h1 := h.o1 v hv (by rw [hr]; exact hk)
  have h2 := h.o1 v' hv' (by rw [hr']; exact hk')
  rw [← h.f21 v hv, e, h.f21 v' hv', h2, hr, hr'] at h1
  injection h1 with h3
  exact h3.symm
/-- All are open roots. -/
def OpnAll (K : Nat → Kd) (n : Nat) (R : Nat → Nat) (l : List Nat) : Prop := ∀ v ∈ l, v < n ∧ R v = v ∧ K v = .opn
theorem Alike.txt (h : Alike K n R1 R2 T1 T2) {seen : List Nat} {x : Nat} {s : ByteArray} {seen' : List Nat} (t : Txt K R1 seen x s seen') :
    ∀ y, x < n → y < n → OpnAll K n R1 seen → T1 x = T1 y → T2 x = T2 y → Txt K R2 (seen.map R2) y s (seen'.map R2) ∧ OpnAll K n R1 seen' := by
  have shut : ∀ {x y : Nat}, x < n → y < n → T1 x = T1 y → T2 x = T2 y → (K (R1 x) = .int → K (R2 y) = .int) ∧ (K (R1 x) = .bool → K (R2 y) = .bool) ∧ (K (R1 x) = .unit → K (R2 y) = .unit) ∧ ∀ a b, K (R1 x) = .pair a b → ∃ c d, K (R2 y) = .pair c d := by
    intro x y hx hy e1 e2
    have hx1 := (h.r1 x hx).1
    have hy2 := (h.r2 y hy).1
    have g : T2 (R1 x) = T2 (R2 y) := by rw [h.f12 x hx, h.f22 y hy, e2]
    have ho : K (R2 y) = .opn → T2 (R2 y) = .var (R2 y) := fun hk => by rw [h.f22 y hy, h.o2 y hy hk]
    refine ⟨fun hk => ?_, fun hk => ?_, fun hk => ?_, fun a b hk => ?_⟩
    · rw [h.m2.int _ hx1 hk] at g
      cases hk2 : K (R2 y) with
      | int => rfl
      | opn => rw [ho hk2] at g; cases g
      | bool => rw [h.m2.bool _ hy2 hk2] at g; cases g
      | unit => rw [h.m2.unit _ hy2 hk2] at g; cases g
      | pair c d => rw [h.m2.pair _ hy2 _ _ hk2] at g; cases g
    · rw [h.m2.bool _ hx1 hk] at g
      cases hk2 : K (R2 y) with
      | bool => rfl
      | opn => rw [ho hk2] at g; cases g
      | int => rw [h.m2.int _ hy2 hk2] at g; cases g
      | unit => rw [h.m2.unit _ hy2 hk2] at g; cases g
      | pair c d => rw [h.m2.pair _ hy2 _ _ hk2] at g; cases g
    · rw [h.m2.unit _ hx1 hk] at g
      cases hk2 : K (R2 y) with
      | unit => rfl
      | opn => rw [ho hk2] at g; cases g
      | int => rw [h.m2.int _ hy2 hk2] at g; cases g
      | bool => rw [h.m2.bool _ hy2 hk2] at g; cases g
      | pair c d => rw [h.m2.pair _ hy2 _ _ hk2] at g; cases g
    · rw [h.m2.pair _ hx1 _ _ hk] at g
      cases hk2 : K (R2 y) with
      | pair c d => exact ⟨c, d, rfl⟩
      | opn => rw [ho hk2] at g; cases g
      | int => rw [h.m2.int _ hy2 hk2] at g; cases g
      | bool => rw [h.m2.bool _ hy2 hk2] at g; cases g
      | unit => rw [h.m2.unit _ hy2 hk2] at g; cases g
  have root : ∀ {x y : Nat}, x < n → y < n → T1 x = T1 y → T2 x = T2 y → K (R1 x) = .opn → K (R2 y) = .opn ∧ R2 y = R2 (R1 x) := by
    intro x y hx hy e1 e2 hk
    have hx1 := (h.r1 x hx).1
    have k2 : K (R2 y) = .opn := h.m1.opn (h.r2 y hy).1 (v := R1 x) (by rw [h.f21 y hy, ← e1, h.o1 x hx hk])
    refine ⟨k2, ?_⟩
    have k3 := h.opn hx1 (h.r1 x hx).2 hk
    have g1 := h.o2 (R1 x) hx1 k3
    have g2 := h.o2 y hy k2
    rw [h.f12 x hx, e2, g2] at g1
    injection g1
  induction t with
  | int hk => exact fun y hx hy hs e1 e2 => ⟨.int ((shut hx hy e1 e2).1 hk), hs⟩
  | bool hk => exact fun y hx hy hs e1 e2 => ⟨.bool ((shut hx hy e1 e2).2.1 hk), hs⟩
  | unit hk => exact fun y hx hy hs e1 e2 => ⟨.unit ((shut hx hy e1 e2).2.2.1 hk), hs⟩
  | @pair seen seen1 seen2 x a b s s' hk t1 t2 ih1 ih2 =>
    intro y hx hy hs e1 e2
    have hx1 := (h.r1 x hx).1
    have hy2 := (h.r2 y hy).1
    obtain ⟨c, d, hk2⟩ := (shut hx hy e1 e2).2.2.2 a b hk
    obtain ⟨ha, hb⟩ := h.parts _ hx1 a b hk
    obtain ⟨hc, hd⟩ := h.parts _ hy2 c d hk2
    have g1 : T1 (R1 x) = T1 (R2 y) := by rw [h.f11 x hx, h.f21 y hy, e1]
    have g2 : T2 (R1 x) = T2 (R2 y) := by rw [h.f12 x hx, h.f22 y hy, e2]
    rw [h.m1.pair _ hx1 _ _ hk, h.m1.pair _ hy2 _ _ hk2] at g1
    rw [h.m2.pair _ hx1 _ _ hk, h.m2.pair _ hy2 _ _ hk2] at g2
    injection g1 with p1 p2
    injection g2 with q1 q2
    obtain ⟨u1, s1⟩ := ih1 c ha hc hs p1 q1
    obtain ⟨u2, s2⟩ := ih2 d hb hd s1 p2 q2
    exact ⟨.pair hk2 u1 u2, s2⟩
  | @old seen x i hk h1 h2 =>
    intro y hx hy hs e1 e2
    obtain ⟨k2, er⟩ := root hx hy e1 e2 hk
    refine ⟨.old k2 (by rw [List.getElem?_map, h1, er]; rfl) (fun j hj => ?_), hs⟩
    rw [List.getElem?_map]
    cases hjv : seen[j]? with
    | none => simp
    | some v =>
      simp only [Option.map_some]
      intro e
      injection e with e
      obtain ⟨v1, v2, v3⟩ := hs v (List.mem_of_getElem? hjv)
      have := h.inj v1 v2 v3 (h.r1 x hx).1 (h.r1 x hx).2 hk (by rw [e, er])
      exact h2 j hj (by rw [hjv, this])
  | @new seen x hk h1 =>
    intro y hx hy hs e1 e2
    obtain ⟨k2, er⟩ := root hx hy e1 e2 hk
    have hnew : ∀ j : Nat, (seen.map R2)[j]? ≠ some (R2 y) := fun j => by
      rw [List.getElem?_map]
      cases hjv : seen[j]? with
      | none => simp
      | some v =>
        simp only [Option.map_some]
        intro e
        injection e with e
        obtain ⟨v1, v2, v3⟩ := hs v (List.mem_of_getElem? hjv)
        have := h.inj v1 v2 v3 (h.r1 x hx).1 (h.r1 x hx).2 hk (by rw [e, er])
        exact h1 j (by rw [hjv, this])
    have t := Txt.new (K := K) (R := R2) (seen := seen.map R2) (x := y) k2 hnew
    rw [List.length_map, er] at t
    refine ⟨by rw [List.map_append]; exact t, fun v hv => ?_⟩
    rcases List.mem_append.1 hv with hv | hv
    · exact hs v hv
    · rw [List.mem_singleton.1 hv]
      exact ⟨(h.r1 x hx).1, (h.r1 x hx).2, hk⟩
theorem Alike.line (h : Alike K n R1 R2 T1 T2) {zs : Nat → Int} {m : Nat} {seq : Nat → List Nat} {S : Nat → ByteArray} (l : Line K R1 n zs m seq S) : ∃ seq', Line K R2 n zs m seq' S := by
  have hs : ∀ i, i ≤ m → OpnAll K n R1 (seq i) := fun i => by
    induction i with
    | zero => intro _; rw [l.zero]; exact fun v hv => by cases hv
    | succ i ih =>
      intro hi
      rcases l.step i (by omega) with ⟨_, _, e⟩ | ⟨x, _, hx, t⟩
      · rw [e]; exact ih (by omega)
      · exact (h.txt t x hx hx (ih (by omega)) rfl rfl).2
  refine ⟨fun i => (seq i).map R2, by simp [l.zero], fun i hi => ?_⟩
  rcases l.step i hi with ⟨h1, h2, e⟩ | ⟨x, h1, hx, t⟩
  · exact .inl ⟨h1, h2, by simp only [e]⟩
  · exact .inr ⟨x, h1, hx, (h.txt t x hx hx (hs i (by omega)) rfl rfl).1⟩
end

/-- No order tells. -/
theorem order_law {K : Nat → Kd} {n : Nat} {l l' : List (Nat × Nat)} (hl : ∀ p ∈ l, p.1 < n ∧ p.2 < n) (he : ∀ p, p ∈ l' ↔ p ∈ l) {r : Nat → Nat} (hA : Acy K (fun x => x) n r) {ok1 ok2 : Bool} {R1 R2 : Nat → Nat} (u1 : Unis K (fun x => x) l ok1 R1) (u2 : Unis K (fun x => x) l' ok2 R2) :
    ok1 = ok2 ∧ (ok1 = true → ∀ zs m seq S, Line K R1 n zs m seq S → ∃ seq', Line K R2 n zs m seq' S) := by
  have hl' : ∀ p ∈ l', p.1 < n ∧ p.2 < n := fun p hp => hl p ((he p).1 hp)
  have hF : Fixed K (fun x => x) n := fun _ _ _ => rfl
  obtain ⟨⟨r1, A1⟩, F1⟩ := unis_acy u1 hl ⟨r, hA⟩ hF
  obtain ⟨⟨r2, A2⟩, F2⟩ := unis_acy u2 hl' ⟨r, hA⟩ hF
  obtain ⟨T1, m1, f11, o1⟩ := unf_mod A1 F1
  obtain ⟨T2, m2, f22, o2⟩ := unf_mod A2 F2
  have to2 : ok1 = true → ok2 = true ∧ Fits R2 n T1 := fun h => by
    obtain ⟨a, b⟩ := unis_made m1 u1 hl ⟨r, hA⟩ h f11
    exact unis_sound m1 u2 hl' ⟨r, hA⟩ a (fun p hp => b p ((he p).1 hp))
  have to1 : ok2 = true → ok1 = true ∧ Fits R1 n T2 := fun h => by
    obtain ⟨a, b⟩ := unis_made m2 u2 hl' ⟨r, hA⟩ h f22
    exact unis_sound m2 u1 hl ⟨r, hA⟩ a (fun p hp => b p ((he p).2 hp))
  refine ⟨?_, fun h zs m seq S line => ?_⟩
  · cases h1 : ok1 with
    | true => exact (to2 h1).1.symm
    | false =>
      cases h2 : ok2 with
      | false => rfl
      | true =>
        have := (to1 h2).1
        rw [h1] at this
        cases this
  · have al : Alike K n R1 R2 T1 T2 := ⟨m1, m2, A1.root, A2.root, f11, (to1 (to2 h).1).2, (to2 h).2, f22, o1, o2, fun x hx a b hk => ⟨(hA.pair x hx a b hk).2.1, (hA.pair x hx a b hk).2.2.1⟩⟩
    exact al.line line
end Go.Proofs.YtpbiiigacfhbhaaDoor.TypP
