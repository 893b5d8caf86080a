/- The chapter's example. -/
import Derived.Test.YtnaednfdaaiciaaTre8
set_option linter.unusedVariables false
set_option linter.unusedSimpArgs false
namespace Go.Proofs.Ytnaednfdaaiciaa
open Go.RowKit
open TreP (WF nd inT deep places fits addN small)

theorem wrap64_small {n : Int} (h0 : 0 ≤ n) (h1 : n < 9223372036854775808) : wrap64 n = n := by unfold wrap64; omega
theorem countW_from (l : List Int) : ∀ a : Int, 0 ≤ a → a + l.length < 9223372036854775808 → l.foldl (fun s _ => wrap64 (s + 1)) a = a + l.length := by
  induction l with
  | nil => intro a _ _; simp
  | cons x l ih =>
    intro a h0 h1
    simp only [List.length_cons] at h1
    rw [List.foldl_cons, wrap64_small (by omega) (by omega), ih _ (by omega) (by omega)]
    simp only [List.length_cons]
    omega
theorem countW_eq {l : List Int} (h : l.length ≤ 4000) : countW l = l.length := by
  unfold countW
  rw [countW_from l 0 (by omega) (by omega)]
  omega
def x1 : Nd := ⟨⟨#[105, 110, 116]⟩, 0, 0, ⟨#[]⟩, 1, []⟩
def x2 : Nd := ⟨⟨#[105, 110, 116]⟩, 0, 0, ⟨#[]⟩, 2, []⟩
def x3 : Nd := ⟨⟨#[43]⟩, 0, 0, ⟨#[]⟩, 0, [0, 1]⟩
theorem fine3 (s1 s2 s3 : Value) : Fine [(x1, s1), (x2, s2), (x3, s3)] := by
  refine ⟨?_, by simp, ?_, ?_⟩
  · intro k hk
    match k, hk with
    | 0, _ => intro x hx; cases hx
    | 1, _ => intro x hx; cases hx
    | 2, _ => intro x hx; simp [x3, List.getD] at hx; rcases hx with rfl | rfl <;> omega
    | k + 3, h => exact absurd (show k + 3 < 3 from h) (by omega)
  · intro p hp
    simp only [List.mem_cons, List.not_mem_nil, or_false] at hp
    rcases hp with rfl | rfl | rfl <;> simp [x1, x2, x3]
  · intro k hk
    match k, hk with
    | 0, _ => show (places 3 [x1, x2, x3] 0).length ≤ 2000; decide
    | 1, _ => show (places 3 [x1, x2, x3] 1).length ≤ 2000; decide
    | 2, _ => show (places 3 [x1, x2, x3] 2).length ≤ 2000; decide
    | k + 3, h => exact absurd (show k + 3 < 3 from h) (by omega)
theorem add_ok {w : World} {B t : Nat} {v : Value} {ms : List (Nd × Value)} {x : Nd} {e : Ending} {w' : World} (h : AddPost w B t v ms x e w') (hf : fits ms.length x = true) :
    ∃ v' s', e = .returned (.tuple #[.int .i64 ms.length, .int .i64 0]) ∧ TreeAt w' B t v' (ms ++ [(x, s')]) ∧ Below B w w' := by
  rcases h with ⟨_, v', s', h1, h2, h3, _⟩ | ⟨h1, _⟩
  · exact ⟨v', s', h1, h2, h3⟩
  · rw [hf] at h1; cases h1

set_option maxRecDepth 100000 in
set_option maxHeartbeats 4000000 in
theorem lives_in (w : World) : Calls Try.prog 4 #[] w fun e w' => e = .returned (.bool true) ∧ Below w.heap.size w w' := by
  have f0 := last w (.cells #[.slice none 0 0] 47)
  have hb0 := (Below.refl w.heap.size w).alloc (Nat.le_refl _) (.cells #[.slice none 0 0] 47)
  have hT0 : TreeAt (w.alloc (.cells #[.slice none 0 0] 47)) w.heap.size w.heap.size (.slice none 0 0) [] := ⟨Nat.le_refl _, f0, World.ownsRow_nil _ _ _ _, (fun p hp => by cases hp)⟩
  have h1 := Add_in (x := x1) (s := .slice none 0 0) hT0 (.inl ⟨⟨none, 0, rfl⟩, rfl⟩) (by simp) (by simp [x1]) hb0.size
  unfold ndV x1 at h1
  simp only at h1
  have H1 := Lib.hid h1
  clear hT0 f0 h1
  go_enter Try.func4, Try.ntmps4
  go_wp2_with fail
  refine H1.out.mono ?_
  intro e w1 hp
  obtain ⟨v1, s1, rfl, hT1, hb1⟩ := add_ok hp rfl
  have hB1 := hb0.trans hb1
  have h2 := Add_in (x := x2) (s := .slice none 0 0) hT1 (.inl ⟨⟨none, 0, rfl⟩, rfl⟩) (by simp) (by simp [x2]) hB1.size
  unfold ndV x2 at h2
  simp only at h2
  have H2 := Lib.hid h2
  clear hp hb1 hb0 H1 hT1 h2
  go_wp2_with fail
  refine H2.out.mono ?_
  intro e w2 hp
  obtain ⟨v2, s2, rfl, hT2, hb2⟩ := add_ok hp rfl
  have hB2 := hB1.trans hb2
  have f3 := last w2 (.cells #[.int .i64 0, .int .i64 1] 3)
  have hb3 := (Below.refl w2.heap.size w2).alloc (Nat.le_refl _) (.cells #[.int .i64 0, .int .i64 1] 3)
  have hI3 : Ints (w2.alloc (.cells #[.int .i64 0, .int .i64 1] 3)) (.slice (some ⟨w2.heap.size, 0, none⟩) 2 2) x3.kids := .inr ⟨w2.heap.size, 0, 2, rfl, fun i hi => by
    match i, hi with
    | 0, _ => simp only [World.cell?, f3]; rfl
    | 1, _ => simp only [World.cell?, f3]; rfl
    | i + 2, h => exact absurd (show i + 2 < 2 from h) (by omega)⟩
  have h3 := Add_in (x := x3) (hT2.below hb3) hI3 (by simp) (by simp [x3]) (by have := hB2.size; simp; omega)
  unfold ndV x3 at h3
  simp only at h3
  have H3 := Lib.hid h3
  have HB3 := Lib.hid (hB2.trans (hb3.mono hB2.size))
  clear hp hb2 hB1 H2 hT2 h3 hI3 f3 hb3
  go_wp2_with fail
  refine H3.out.mono ?_
  intro e w3 hp
  obtain ⟨v3, s3, rfl, hT3, hb3⟩ := add_ok hp rfl
  have hB3 := HB3.out.trans hb3
  have hS := Size_in (fine3 s1 s2 s3) hT3 3 (by omega) 2 (fun _ => by omega)
  have hD := fun W (hb : Below w3.heap.size w3 W) => Deep_in (fine3 s1 s2 s3) 3 (by omega) 2 W (hT3.below hb) (fun _ => by omega)
  have e0 : ([(x1, s1), (x2, s2), (x3, s3)].map (·.1)) = [x1, x2, x3] := rfl
  have e1 : countW (places 3 [x1, x2, x3] 2) = 3 := by rw [countW_eq (by decide)]; decide
  have e2 : (deep 3 [x1, x2, x3] 2 : Nat) = 2 := by decide
  rw [e0, e1] at hS
  rw [e0, e2] at hD
  have HS := Lib.hid hS
  have HD := Lib.hid hD
  clear hp hS hD hT3 hb3 e0 e1 e2 H3
  go_wp2_with (first
    | (go_at_call 12; refine HS.out.mono ?_; rintro e w4 ⟨rfl, hb4⟩)
    | (go_at_call 13; refine (HD.out _ hb4).mono ?_; rintro e w5 ⟨rfl, hb5⟩))
  go_ret
  exact ⟨rfl, hB3.trans ((hb4.trans (hb5.mono hb4.size)).mono hB3.size)⟩
end Go.Proofs.Ytnaednfdaaiciaa
