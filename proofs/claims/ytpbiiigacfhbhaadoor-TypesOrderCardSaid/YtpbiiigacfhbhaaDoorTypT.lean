/- What makes two types one, in memory: lemmas. -/
import Derived.Test.YtpbiiigacfhbhaaDoorTyp1
import Derived.Test.YtpbiiigacfhbhaaDoorTypQ
set_option linter.unusedVariables false
set_option linter.unusedSimpArgs false
namespace Go.Proofs.YtpbiiigacfhbhaaDoor
open Go.RowKit
open TypP (Kd Acy Occ Uni Step)

theorem PS.tie {K : Nat → Kd} {R : Nat → Nat} {n : Nat} {d : Nat → Nat} {c : Nat → List Value} (h : PS K R n d c) {v t : Nat} (hv : v < n) (rv : R v = v) (ht : t < n) (rt : R t = t) (hvt : v ≠ t) {c' : Nat → List Value}
    (h1 : c' v = [.int .i64 5, .int .i64 t, .int .i64 t]) (h2 : ∀ x, x ≠ v → c' x = c x) :
    PS K (TypP.bind R v t) n (fun x => if R x = v then d x + d t + 1 else d x) c' := by
  have htv : R t ≠ v := by rw [rt]; exact fun e => hvt e.symm
  refine ⟨fun x hx rx => ?_, fun x hx rx => ?_⟩
  · by_cases e : R x = v
    · rw [TypP.bind_at e] at rx
      subst rx
      exact absurd e htv
    · rw [TypP.bind_off e] at rx
      rw [h2 x (fun e' => e (by rw [e', rv]))]
      exact h.own x hx rx
  · by_cases e : R x = v
    · rw [TypP.bind_at e] at rx ⊢
      by_cases ex : x = v
      · subst ex
        refine ⟨t, t, h1, ht, by rw [TypP.bind_off htv, rt], ?_⟩
        simp only [if_neg htv, if_pos e]
        omega
      · obtain ⟨y, z, k1, k2, k3, k4⟩ := h.lnk x hx (fun e' => ex (by rw [← e', e]))
        refine ⟨y, z, by rw [h2 x ex, k1], k2, TypP.bind_at (k3.trans e), ?_⟩
        simp only [if_pos e, if_pos (k3.trans e)]
        omega
    · rw [TypP.bind_off e] at rx ⊢
      have ex : x ≠ v := fun e' => e (by rw [e', rv])
      obtain ⟨y, z, k1, k2, k3, k4⟩ := h.lnk x hx rx
      refine ⟨y, z, by rw [h2 x ex, k1], k2, by rw [TypP.bind_off (by rw [k3]; exact e), k3], ?_⟩
      simp only [if_neg e, if_neg (show R y ≠ v by rw [k3]; exact e)]
      exact k4
theorem RS.tie {K : Nat → Kd} {R : Nat → Nat} {n : Nat} {d : Nat → Nat} {c : Nat → List Value} (h : RS K R n d c) {v t : Nat} (hv : v < n) (rv : R v = v) (ht : t < n) (rt : R t = t) (hvt : v ≠ t) {c' : Nat → List Value}
    (h1 : c' v = [.int .i64 (Kd.code (K v)), .int .i64 (Kd.fst (K v)), .int .i64 (Kd.snd (K v)), .int .i64 t]) (h2 : ∀ x, x ≠ v → c' x = c x) :
    RS K (TypP.bind R v t) n (fun x => if R x = v then d x + d t + 1 else d x) c' := by
  have htv : R t ≠ v := by rw [rt]; exact fun e => hvt e.symm
  refine ⟨fun x hx rx => ?_, fun x hx rx => ?_⟩
  · by_cases e : R x = v
    · rw [TypP.bind_at e] at rx
      subst rx
      exact absurd e htv
    · rw [TypP.bind_off e] at rx
      rw [h2 x (fun e' => e (by rw [e', rv]))]
      exact h.own x hx rx
  · by_cases e : R x = v
    · rw [TypP.bind_at e] at rx ⊢
      by_cases ex : x = v
      · subst ex
        refine ⟨t, h1, ht, by rw [TypP.bind_off htv, rt], ?_⟩
        simp only [if_neg htv, if_pos e]
        omega
      · obtain ⟨y, k1, k2, k3, k4⟩ := h.lnk x hx (fun e' => ex (by rw [← e', e]))
        refine ⟨y, by rw [h2 x ex, k1], k2, TypP.bind_at (k3.trans e), ?_⟩
        simp only [if_pos e, if_pos (k3.trans e)]
        omega
    · rw [TypP.bind_off e] at rx ⊢
      have ex : x ≠ v := fun e' => e (by rw [e', rv])
      obtain ⟨y, k1, k2, k3, k4⟩ := h.lnk x hx rx
      refine ⟨y, by rw [h2 x ex, k1], k2, by rw [TypP.bind_off (by rw [k3]; exact e), k3], ?_⟩
      simp only [if_neg e, if_neg (show R y ≠ v by rw [k3]; exact e)]
      exact k4

/-- Two things of one's own lie apart from g. -/
structure Two (w W : World) (g pa pb : Nat) (xs ys : Array Value) : Prop where
  grown : w.grownBy W none
  oa : W.heap[pa]? = some (.cells xs 59)
  ob : W.heap[pb]? = some (.cells ys 59)
  na : pa ≠ g
  nb : pb ≠ g
theorem last' (W : World) (o o' : Obj) : ((W.alloc o).alloc o').heap[W.heap.size]? = some o := (Below.heap_alloc _ o' _ (by simp)).trans (last W o)
theorem two1 {w : World} {g : Nat} (hg : g < w.heap.size) (xs ys : Array Value) : Two w ((w.alloc (.cells xs 59)).alloc (.cells ys 59)).drew g w.heap.size (w.heap.size + 1) xs ys :=
  ⟨grown_drew (grown_alloc (World.grownBy_alloc w _ none) _), last' w _ _, by have := last (w.alloc (.cells xs 59)) (.cells ys 59); simpa [World.drew] using this, by omega, by omega⟩
theorem two2 {w : World} {g : Nat} (hg : g < w.heap.size) (xs ys : Array Value) : Two w ((w.alloc (.cells ys 59)).alloc (.cells xs 59)).drew g (w.heap.size + 1) w.heap.size xs ys :=
  ⟨(two1 hg ys xs).grown, (two1 hg ys xs).ob, (two1 hg ys xs).oa, (two1 hg ys xs).nb, (two1 hg ys xs).na⟩
theorem Two.step {w W w' : World} {g pa pb : Nat} {xs ys : Array Value} (h : Two w W g pa pb xs ys) (hg : W.grownBy w' (some g)) : w'.heap[pa]? = some (.cells xs 59) ∧ w'.heap[pb]? = some (.cells ys 59) :=
  ⟨(hg.block pa (heap_lt h.oa) (by simpa using h.na)).trans h.oa, (hg.block pb (heap_lt h.ob) (by simpa using h.nb)).trans h.ob⟩
theorem grown_up {a b : World} (h : a.grownBy b none) (g : Nat) : a.grownBy b (some g) := ⟨h.os, h.tape, h.output, h.size, fun k hk _ => h.block k hk (by simp)⟩
theorem Kd.code_inj {k k' : Kd} (h : ∀ a b c d, ¬ (k = .pair a b ∧ k' = .pair c d)) (hn : k ≠ k') : ((Kd.code k : Nat) : Int) ≠ ((Kd.code k' : Nat) : Int) := by
  cases k with
  | pair a b =>
    cases k' with
    | pair c d => exact absurd ⟨rfl, rfl⟩ (h a b c d)
    | _ => simp [Kd.code]
  | _ => cases k' <;> simp [Kd.code] at *
theorem Kd.code_opn {k : Kd} (h : k ≠ .opn) : ((Kd.code k : Nat) : Int) ≠ 0 := by
  cases k <;> simp [Kd.code] at *
end Go.Proofs.YtpbiiigacfhbhaaDoor
