/- Types that are made for TypesOrder: their kinds, and the list of all. -/
import Derived.Test.YtpbiiigacfhbhaaDoorTypM
import Derived.Test.YtpbiiigacfhbhaaDoorTyp12
set_option linter.unusedVariables false
set_option linter.unusedSimpArgs false
namespace Go.Proofs.YtpbiiigacfhbhaaDoor
open Go.RowKit
open TypP (Kd Acy Occ Uni Step Txt TStep Sn Line Unis)

/-- The i-th of all types, k of them open. -/
def al (k i : Nat) : Nat := if i < k then 3 + i else if i = k then 0 else if i = k + 1 then 1 else 3 + k + (i - (k + 2))
def Kv : Nat → Nat → Kd
  | 0 => K0
  | i + 1 => kdPush (Kv i) (3 + i) .opn
def Kp (k : Nat) : Nat → Nat → Kd
  | 0 => Kv k
  | i + 1 => kdPush (Kp k i) (3 + k + i) (.pair (al k i) (al k (i + 1)))
theorem rtPush_id (n : Nat) : rtPush (fun x => x) n = fun x => x := by
  funext x
  unfold rtPush
  split <;> simp_all
theorem acyV (i : Nat) : ∃ r, Acy (Kv i) (fun x => x) (3 + i) r := by
  induction i with
  | zero => exact ⟨_, acy0⟩
  | succ i ih =>
    have := acy_push (k := .opn) ih (fun a b e => by cases e)
    rw [rtPush_id] at this
    exact this
theorem al_lt {k i j : Nat} (h : i ≤ k + 1 + j) : al k i < 3 + k + j := by
  unfold al
  split
  · omega
  · split
    · omega
    · split
      · omega
      · omega
theorem al_first {k i : Nat} (h : i < k) : al k i = 3 + i := if_pos h
theorem al_at0 (k : Nat) : al k k = 0 := by unfold al; rw [if_neg (by omega), if_pos rfl]
theorem al_at1 (k : Nat) : al k (k + 1) = 1 := by unfold al; rw [if_neg (by omega), if_neg (by omega), if_pos rfl]
theorem al_more (k i : Nat) : al k (k + 2 + i) = 3 + k + i := by
  unfold al
  rw [if_neg (by omega), if_neg (by omega), if_neg (by omega)]
  omega
theorem acyP (k i : Nat) (hi : i ≤ k + 1) : ∃ r, Acy (Kp k i) (fun x => x) (3 + k + i) r := by
  induction i with
  | zero => exact acyV k
  | succ i ih =>
    have h1 := al_lt (k := k) (i := i) (j := i) (by omega)
    have h2 := al_lt (k := k) (i := i + 1) (j := i) (by omega)
    have := acy_push (k := .pair (al k i) (al k (i + 1))) (ih (by omega)) (fun a b e => by cases e; exact ⟨h1, h2⟩)
    rw [rtPush_id] at this
    exact this

set_option maxRecDepth 100000 in
set_option maxHeartbeats 8000000 in
theorem Unify_of {K : Nat → Kd} {R : Nat → Nat} {n : Nat} {d : Nat → Nat} {c : Nat → List Value} {w : World} {B t g cap : Nat} (hA : ∃ r, Acy K R n r) (h : PSto w B t g cap n c) (hp : PS K R n d c) {a b : Nat} {ok : Bool} {R' : Nat → Nat} (hu : Uni K R a b ok R') (ha : a < n) (hb : b < n) :
    Calls Tryd.prog 13 #[.pointer (some ⟨t, 0, none⟩), .int .i64 a, .int .i64 b] w fun e w' => e = .returned (.int .i64 (if ok then 0 else 10)) ∧ ∃ d' c', PSto w' B t g cap n c' ∧ PS K R' n d' c' ∧ w.grownBy w' (some g) := by
  have hx := right_in h a
  have hy := right_in h b
  have hc := one_in (B := B) (t := t) (g := g) (cap := cap) hu ha hb hA d c w h hp
  rw [decide_eq_true (by omega)] at hx
  rw [decide_eq_true (by omega)] at hy
  clear h hp hu hA
  go_enter Tryd.func13, Tryd.ntmps13
  go_wp2_with fail
  refine hx.mono ?_
  rintro e w1 ⟨rfl, rfl⟩
  clear hx
  go_wp2_with fail
  refine hy.mono ?_
  rintro e w1 ⟨rfl, rfl⟩
  clear hy
  go_wp2_with fail
  refine hc.mono ?_
  rintro e w1 ⟨rfl, hs⟩
  clear hc
  have HS := Lib.hid hs
  clear hs
  cases ok <;> go_wp2_with fail
  all_goals go_ret
  all_goals exact ⟨rfl, HS.out⟩

/-- Pairs of bytes that came in. -/
def PairsU (w : World) (A : Option Addr) (l : List (Int × Int)) : Prop :=
  l = [] ∨ ∃ b off, A = some ⟨b, off, none⟩ ∧ ∀ i, i < l.length → w.cell? ⟨b, off + i * 2, none⟩ = some (.int .u8 (l.getD i (0, 0)).1) ∧ w.cell? ⟨b, off + i * 2 + 1, none⟩ = some (.int .u8 (l.getD i (0, 0)).2)
theorem PairsU.below {w w' : World} {A : Option Addr} {l : List (Int × Int)} (h : PairsU w A l) (hb : Below w.heap.size w w') : PairsU w' A l := by
  rcases h with h | ⟨b, off, e, h⟩
  · exact .inl h
  · refine .inr ⟨b, off, e, fun i hi => ?_⟩
    obtain ⟨h1, h2⟩ := h i hi
    exact ⟨(World.cell?_of_block (hb.block b (cell_lt h1))).trans h1, (World.cell?_of_block (hb.block b (cell_lt h2))).trans h2⟩

/-- The types, k of them open, that two numbers name. -/
def nodes2 (k : Nat) (p : Int × Int) : Nat × Nat := (al k (p.1 % ((2 * k + 3 : Nat) : Int)).toNat, al k (p.2 % ((2 * k + 3 : Nat) : Int)).toNat)
theorem nodes2_lt (k : Nat) (p : Int × Int) : (nodes2 k p).1 < 2 * k + 4 ∧ (nodes2 k p).2 < 2 * k + 4 := by
  have h1 : 0 ≤ p.1 % ((2 * k + 3 : Nat) : Int) ∧ p.1 % ((2 * k + 3 : Nat) : Int) < ((2 * k + 3 : Nat) : Int) := ⟨Int.emod_nonneg _ (by omega), Int.emod_lt_of_pos _ (by omega)⟩
  have h2 : 0 ≤ p.2 % ((2 * k + 3 : Nat) : Int) ∧ p.2 % ((2 * k + 3 : Nat) : Int) < ((2 * k + 3 : Nat) : Int) := ⟨Int.emod_nonneg _ (by omega), Int.emod_lt_of_pos _ (by omega)⟩
  have e1 := al_lt (k := k) (i := (p.1 % ((2 * k + 3 : Nat) : Int)).toNat) (j := k + 1) (by omega)
  have e2 := al_lt (k := k) (i := (p.2 % ((2 * k + 3 : Nat) : Int)).toNat) (j := k + 1) (by omega)
  exact ⟨by unfold nodes2; simp only; omega, by unfold nodes2; simp only; omega⟩

theorem Moved.row {w w' : World} {t g : Nat} (k : Moved w w' t g) {B e s m : Nat} {v : Value} {xs : List Value} (h : w.ownsRow B e s v m xs) (h1 : v.ownBlock ≠ some t) (h2 : v.ownBlock ≠ some g) : w'.ownsRow B e s v m xs :=
  owns_block h fun j hj => k.block j (row_lt h hj).2 (fun e => h1 (e ▸ hj)) (fun e => h2 (e ▸ hj))
/-- A row of types lies apart from the types. -/
theorem row_apart {w : World} {B B' t g cap n m : Nat} {c : Nat → List Value} {v : Value} {xs : List Value} (h : PSto w B t g cap n c) (hr : w.ownsRow B' 35 1 v m xs) : v.ownBlock ≠ some t ∧ v.ownBlock ≠ some g := by
  obtain ⟨cur, hg⟩ := PSto.objs h
  exact ⟨far_block hr h.obj (by decide), far_block hr hg (by decide)⟩
theorem news2 (w : World) (x y : Value) (t : TypeId) {b : Nat} (hb : b = w.heap.size) : ∀ j u, [x, y][j]? = some u → (w.alloc (.cells #[x, y] t)).cell? ((⟨b, 0, none⟩ : Addr).add j) = some u := by
  subst hb
  exact World.news_of_block (last w _)
/-- An append to a row of types leaves the types as they are. -/
theorem row_grow {w wz wa : World} {B m t g cap n : Nat} {c : Nat → List Value} {o : Value} {xs : List Value} (hs : PSto wz B t g cap n c) (hr : wz.ownsRow B 35 1 o m xs) (hb : Below B w wz) (hB : B ≤ wz.heap.size) {a : Obj}
    (hgrow : (wz.alloc a).grownBy wa o.ownBlock) : PSto wa B t g cap n c ∧ Below B w wa := by
  obtain ⟨h1, h2⟩ := row_apart hs hr
  refine ⟨(hs.alloc a).grown hgrow h1 h2, hb.trans ?_⟩
  have g1 := World.grownBy_alloc wz a none
  refine ⟨hgrow.os.trans g1.os, hgrow.tape.trans g1.tape, hgrow.output.trans g1.output, Nat.le_trans g1.size hgrow.size, fun k hk => ?_⟩
  refine (hgrow.block k (Nat.lt_of_lt_of_le (Nat.lt_of_lt_of_le hk hB) g1.size) (fun e => ?_)).trans (g1.block k (by omega) (by simp))
  have := (row_lt hr e.symm).1
  omega
theorem row_lower {w : World} {B B' e s m : Nat} {v : Value} {xs : List Value} (h : w.ownsRow B e s v m xs) (hb : B' ≤ B) : w.ownsRow B' e s v m xs := by
  refine ⟨h.1, ?_⟩
  rcases h.2 with h0 | ⟨g', cap, cur, rfl, h2, h3, h4⟩
  · exact .inl h0
  · exact .inr ⟨g', cap, cur, rfl, by omega, h3, h4⟩
theorem cellsOf2 {w : World} {b : Nat} {x0 x1 : Value} {t : TypeId} (h : w.heap[b]? = some (.cells #[x0, x1] t)) : w.cell? ⟨b, 0, none⟩ = some x0 ∧ w.cell? ⟨b, 1, none⟩ = some x1 := by
  refine ⟨?_, ?_⟩ <;> simp only [World.cell?, h] <;> rfl
end Go.Proofs.YtpbiiigacfhbhaaDoor
