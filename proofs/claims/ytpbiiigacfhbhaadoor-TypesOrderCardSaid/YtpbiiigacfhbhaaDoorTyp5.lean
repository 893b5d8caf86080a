/- One type more, the reference's; types that are new. -/
import Derived.Test.YtpbiiigacfhbhaaDoorTyp4
set_option linter.unusedVariables false
set_option linter.unusedSimpArgs false
namespace Go.Proofs.YtpbiiigacfhbhaaDoor
open Go.RowKit
open TypP (Kd Acy Occ Uni Step)

def RAddPost (w : World) (B t g n : Nat) (c : Nat → List Value) (news : List Value) (e : Ending) (w' : World) : Prop :=
  e = .returned (.int .i64 n) ∧ ∃ g' cap', RSto w' B t g' cap' (n + 1) (upd c n news) ∧ Moved w w' t g ∧ (g' = g ∨ w.heap.size ≤ g')

set_option maxRecDepth 100000 in
set_option maxHeartbeats 8000000 in
theorem RVar_in {w : World} {B t g cap n : Nat} {c : Nat → List Value} (h : RSto w B t g cap n c) (hn : n < 1000) :
    Calls Tryd.prog 10 #[.pointer (some ⟨t, 0, none⟩)] w (RAddPost w B t g n c [.int .i64 0, .int .i64 0, .int .i64 0, .int .i64 (-1)]) := by
  obtain ⟨i0, hi0, hz0, hz1, hz2⟩ := info_parts info_term
  have hlt := h.lt
  have hB := h.base
  have htg := h.ne (by decide)
  have top := h.top
  have ftop := frozenOf h.obj 0
  have HS := Lib.hid h
  have HW := Lib.hid (World.grownBy_alloc w (.cells #[.int .i64 0, .int .i64 0, .int .i64 0, .int .i64 (-1)] 64) none)
  have HF : Hid ((Value.slice (some ⟨g, 0, none⟩) n cap).ownBlock ≠ some t) := Lib.hid (by simpa [Value.ownBlock] using fun e : g = t => htg e.symm)
  clear h
  go_enter Tryd.func10, Tryd.ntmps10
  go_wp2_with (at_builtin; refine wpList_append_lies _ rfl _ _ 32 rfl B 64 i0 (.agg #[.int .i64 0, .int .i64 0, .int .i64 0, .int .i64 0]) 4 32 Tryd.underlying32 hi0 hz0 hz1 hz2 rfl (by decide) (.slice (some ⟨g, 0, none⟩) n cap) n _ rfl (HS.out.rows.alloc _) ⟨w.heap.size, 0, none⟩ 1 1 [.int .i64 0, .int .i64 0, .int .i64 0, .int .i64 (-1)] rfl rfl (news4 _ _ _ _ _ _ rfl) (by simp [Value.oneCell']) (by decide) (by unfold maxLen; omega) (by omega) (by simp; omega) _ rfl ?_)
  intro g' cap' w5 hown hgrow hat hlt1
  have co1 := far_cell hgrow HF.out (cell_alloc HS.out.top (.cells #[.int .i64 0, .int .i64 0, .int .i64 0, .int .i64 (-1)] 64))
  have hp := HS.out.push (by decide) (by simp) HW.out hown hgrow (by
    rcases hat with e | e
    · exact .inl e
    · exact .inr (by omega))
  have cf1 := far_frozen hgrow HF.out (cell_alloc HS.out.top (.cells #[.int .i64 0, .int .i64 0, .int .i64 0, .int .i64 (-1)] 64)) (frozenOf (HS.out.alloc (.cells #[.int .i64 0, .int .i64 0, .int .i64 0, .int .i64 (-1)] 64)).obj 0)
  have tp := hp.1.top
  have HP := Lib.hid hp
  clear hp hown hgrow hat hlt1 top ftop
  go_wp2_with fail
  go_ret
  exact ⟨rfl, g', cap', HP.out.1, HP.out.2.1, HP.out.2.2⟩

set_option maxRecDepth 100000 in
set_option maxHeartbeats 8000000 in
theorem RPair_in {w : World} {B t g cap n : Nat} {c : Nat → List Value} (h : RSto w B t g cap n c) (hn : n < 1000) (x y : Int) :
    Calls Tryd.prog 12 #[.pointer (some ⟨t, 0, none⟩), .int .i64 x, .int .i64 y] w (RAddPost w B t g n c [.int .i64 4, .int .i64 x, .int .i64 y, .int .i64 (-1)]) := by
  obtain ⟨i0, hi0, hz0, hz1, hz2⟩ := info_parts info_term
  have hlt := h.lt
  have hB := h.base
  have htg := h.ne (by decide)
  have top := h.top
  have ftop := frozenOf h.obj 0
  have HS := Lib.hid h
  have HW := Lib.hid (World.grownBy_alloc w (.cells #[.int .i64 4, .int .i64 x, .int .i64 y, .int .i64 (-1)] 64) none)
  have HF : Hid ((Value.slice (some ⟨g, 0, none⟩) n cap).ownBlock ≠ some t) := Lib.hid (by simpa [Value.ownBlock] using fun e : g = t => htg e.symm)
  clear h
  go_enter Tryd.func12, Tryd.ntmps12
  go_wp2_with (at_builtin; refine wpList_append_lies _ rfl _ _ 32 rfl B 64 i0 (.agg #[.int .i64 0, .int .i64 0, .int .i64 0, .int .i64 0]) 4 32 Tryd.underlying32 hi0 hz0 hz1 hz2 rfl (by decide) (.slice (some ⟨g, 0, none⟩) n cap) n _ rfl (HS.out.rows.alloc _) ⟨w.heap.size, 0, none⟩ 1 1 [.int .i64 4, .int .i64 x, .int .i64 y, .int .i64 (-1)] rfl rfl (news4 _ _ _ _ _ _ rfl) (by simp [Value.oneCell']) (by decide) (by unfold maxLen; omega) (by omega) (by simp; omega) _ rfl ?_)
  intro g' cap' w5 hown hgrow hat hlt1
  have co1 := far_cell hgrow HF.out (cell_alloc HS.out.top (.cells #[.int .i64 4, .int .i64 x, .int .i64 y, .int .i64 (-1)] 64))
  have hp := HS.out.push (by decide) (by simp) HW.out hown hgrow (by
    rcases hat with e | e
    · exact .inl e
    · exact .inr (by omega))
  have cf1 := far_frozen hgrow HF.out (cell_alloc HS.out.top (.cells #[.int .i64 4, .int .i64 x, .int .i64 y, .int .i64 (-1)] 64)) (frozenOf (HS.out.alloc (.cells #[.int .i64 4, .int .i64 x, .int .i64 y, .int .i64 (-1)] 64)).obj 0)
  have tp := hp.1.top
  have HP := Lib.hid hp
  clear hp hown hgrow hat hlt1 top ftop
  go_wp2_with fail
  go_ret
  exact ⟨rfl, g', cap', HP.out.1, HP.out.2.1, HP.out.2.2⟩

/-- Int, bool and unit. -/
def K0 : Nat → Kd
  | 0 => .int
  | 1 => .bool
  | 2 => .unit
  | _ => .opn
def c0 (x : Nat) : List Value := [.int .i64 (Kd.code (K0 x)), .int .i64 (Kd.fst (K0 x)), .int .i64 (Kd.snd (K0 x))]
def r0 (x : Nat) : List Value := [.int .i64 (Kd.code (K0 x)), .int .i64 (Kd.fst (K0 x)), .int .i64 (Kd.snd (K0 x)), .int .i64 (-1)]
theorem acy0 : Acy K0 (fun x => x) 3 (fun _ => 0) := by
  refine ⟨fun x hx => ⟨hx, rfl⟩, fun x hx a b h => ?_⟩
  match x, hx with
  | 0, _ => cases h
  | 1, _ => cases h
  | 2, _ => cases h
theorem ps0 : PS K0 (fun x => x) 3 (fun _ => 0) c0 := ⟨fun _ _ _ => rfl, fun _ _ h => absurd rfl h⟩
theorem rs0 : RS K0 (fun x => x) 3 (fun _ => 0) r0 := ⟨fun _ _ _ => rfl, fun _ _ h => absurd rfl h⟩

set_option maxRecDepth 100000 in
set_option maxHeartbeats 8000000 in
theorem New_in {w : World} {B : Nat} (hB : B ≤ w.heap.size) :
    Calls Tryd.prog 7 #[] w fun e w' => ∃ t g, e = .returned (.pointer (some ⟨t, 0, none⟩)) ∧ PSto w' B t g 3 3 c0 ∧ Below w.heap.size w w' ∧ w.heap.size ≤ t ∧ w.heap.size ≤ g := by
  have hb := ((Below.refl w.heap.size w).alloc (Nat.le_refl _) (.cells #[.int .i64 1, .int .i64 0, .int .i64 0, .int .i64 2, .int .i64 0, .int .i64 0, .int .i64 3, .int .i64 0, .int .i64 0] 59)).alloc (by simp) (.cells #[.slice (some ⟨w.heap.size, 0, none⟩) 3 3] 62)
  have h1 := last' w (.cells #[.int .i64 1, .int .i64 0, .int .i64 0, .int .i64 2, .int .i64 0, .int .i64 0, .int .i64 3, .int .i64 0, .int .i64 0] 59) (.cells #[.slice (some ⟨w.heap.size, 0, none⟩) 3 3] 62)
  have h2 := last (w.alloc (.cells #[.int .i64 1, .int .i64 0, .int .i64 0, .int .i64 2, .int .i64 0, .int .i64 0, .int .i64 3, .int .i64 0, .int .i64 0] 59)) (.cells #[.slice (some ⟨w.heap.size, 0, none⟩) 3 3] 62)
  have hs : (w.alloc (.cells #[.int .i64 1, .int .i64 0, .int .i64 0, .int .i64 2, .int .i64 0, .int .i64 0, .int .i64 3, .int .i64 0, .int .i64 0] 59)).heap.size = w.heap.size + 1 := by simp
  have HH := Lib.hid (And.intro hb (And.intro h1 (hs ▸ h2)))
  clear hb h1 h2 hs
  go_enter Tryd.func7, Tryd.ntmps7
  go_wp2_with fail
  go_ret
  refine ⟨w.heap.size + 1, w.heap.size, rfl, ⟨by omega, HH.out.2.2, ⟨by rfl, .inr ⟨w.heap.size, 3, _, rfl, hB, HH.out.2.1, by decide, by decide, by rfl, by rfl⟩⟩, fun _ => rfl⟩, HH.out.1, by omega, Nat.le_refl _⟩

set_option maxRecDepth 100000 in
set_option maxHeartbeats 8000000 in
theorem RNew_in {w : World} {B : Nat} (hB : B ≤ w.heap.size) :
    Calls Tryd.prog 8 #[] w fun e w' => ∃ t g, e = .returned (.pointer (some ⟨t, 0, none⟩)) ∧ RSto w' B t g 3 3 r0 ∧ Below w.heap.size w w' ∧ w.heap.size ≤ t ∧ w.heap.size ≤ g := by
  have hb := ((Below.refl w.heap.size w).alloc (Nat.le_refl _) (.cells #[.int .i64 1, .int .i64 0, .int .i64 0, .int .i64 (-1), .int .i64 2, .int .i64 0, .int .i64 0, .int .i64 (-1), .int .i64 3, .int .i64 0, .int .i64 0, .int .i64 (-1)] 64)).alloc (by simp) (.cells #[.slice (some ⟨w.heap.size, 0, none⟩) 3 3] 34)
  have h1 := last' w (.cells #[.int .i64 1, .int .i64 0, .int .i64 0, .int .i64 (-1), .int .i64 2, .int .i64 0, .int .i64 0, .int .i64 (-1), .int .i64 3, .int .i64 0, .int .i64 0, .int .i64 (-1)] 64) (.cells #[.slice (some ⟨w.heap.size, 0, none⟩) 3 3] 34)
  have h2 := last (w.alloc (.cells #[.int .i64 1, .int .i64 0, .int .i64 0, .int .i64 (-1), .int .i64 2, .int .i64 0, .int .i64 0, .int .i64 (-1), .int .i64 3, .int .i64 0, .int .i64 0, .int .i64 (-1)] 64)) (.cells #[.slice (some ⟨w.heap.size, 0, none⟩) 3 3] 34)
  have hs : (w.alloc (.cells #[.int .i64 1, .int .i64 0, .int .i64 0, .int .i64 (-1), .int .i64 2, .int .i64 0, .int .i64 0, .int .i64 (-1), .int .i64 3, .int .i64 0, .int .i64 0, .int .i64 (-1)] 64)).heap.size = w.heap.size + 1 := by simp
  have HH := Lib.hid (And.intro hb (And.intro h1 (hs ▸ h2)))
  clear hb h1 h2 hs
  go_enter Tryd.func8, Tryd.ntmps8
  go_wp2_with fail
  go_ret
  refine ⟨w.heap.size + 1, w.heap.size, rfl, ⟨by omega, HH.out.2.2, ⟨by rfl, .inr ⟨w.heap.size, 3, _, rfl, hB, HH.out.2.1, by decide, by decide, by rfl, by rfl⟩⟩, fun _ => rfl⟩, HH.out.1, by omega, Nat.le_refl _⟩
end Go.Proofs.YtpbiiigacfhbhaaDoor
