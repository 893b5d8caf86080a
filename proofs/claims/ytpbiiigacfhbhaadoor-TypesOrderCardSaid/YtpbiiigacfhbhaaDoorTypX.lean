/- What no types at all answer. -/
import Derived.Test.YtpbiiigacfhbhaaDoorTypO
import Derived.Test.YtpbiiigacfhbhaaDoorTypV
set_option linter.unusedVariables false
set_option linter.unusedSimpArgs false
namespace Go.Proofs.YtpbiiigacfhbhaaDoor
open Go.RowKit
open TypP (Kd Acy Occ Uni Step Txt TStep Sn Line Unis)

theorem row_below {w w' : World} {B e s m : Nat} {v : Value} {xs : List Value} (h : w.ownsRow B e s v m xs) (hb : Below w.heap.size w w') : w'.ownsRow B e s v m xs :=
  owns_block h fun j hj => hb.block j (row_lt h hj).2

set_option maxRecDepth 100000 in
set_option maxHeartbeats 8000000 in
theorem right_nil (w : World) (x : Int) : Calls Tryd.prog 23 #[.pointer none, .int .i64 x] w fun e w' => e = .returned (.bool false) ∧ w = w' := by
  go_enter Tryd.func23, Tryd.ntmps23
  go_wp2_with fail
  go_ret
  exact ⟨rfl, rfl⟩
set_option maxRecDepth 100000 in
set_option maxHeartbeats 8000000 in
theorem Var_nil (w : World) : Calls Tryd.prog 9 #[.pointer none] w fun e w' => e = .returned (.int .i64 0) ∧ w = w' := by
  go_enter Tryd.func9, Tryd.ntmps9
  go_wp2_with fail
  go_ret
  exact ⟨rfl, rfl⟩
set_option maxRecDepth 100000 in
set_option maxHeartbeats 8000000 in
theorem Pair_nil (w : World) : Calls Tryd.prog 11 #[.pointer none, .int .i64 0, .int .i64 0] w fun e w' => e = .returned (.tuple #[.int .i64 0, .int .i64 1]) ∧ w = w' := by
  have hc := right_nil w 0
  go_enter Tryd.func11, Tryd.ntmps11
  go_wp2_with fail
  refine hc.mono ?_
  rintro e w1 ⟨rfl, rfl⟩
  clear hc
  go_wp2_with fail
  exact bodyPost_ret (v := .tuple #[.int .i64 0, .int .i64 1]) (by simp [results, Tryd.results11, go_sem]) rfl ⟨rfl, rfl⟩
set_option maxRecDepth 100000 in
set_option maxHeartbeats 8000000 in
theorem Unify_nil (w : World) : Calls Tryd.prog 13 #[.pointer none, .int .i64 0, .int .i64 0] w fun e w' => e = .returned (.int .i64 1) ∧ w = w' := by
  have hc := right_nil w 0
  go_enter Tryd.func13, Tryd.ntmps13
  go_wp2_with fail
  refine hc.mono ?_
  rintro e w1 ⟨rfl, rfl⟩
  clear hc
  go_wp2_with fail
  go_ret
  exact ⟨rfl, rfl⟩
set_option maxRecDepth 100000 in
set_option maxHeartbeats 8000000 in
theorem Show_nil {w : World} {lb : Nat} (h : w.cell? ⟨lb, 0, none⟩ = some (.int .i64 0)) : Calls Tryd.prog 16 #[.pointer none, .slice (some ⟨lb, 0, none⟩) 1 1] w fun e w' => ∃ o, e = .returned o ∧ RowS w' w.heap.size o (fun _ => ByteArray.empty) 1 ∧ w.grownBy w' none := by
  obtain ⟨i0, hi0, hz0, hz1, hz2⟩ := info_parts info_string
  have hlb := cell_lt h
  have hg0 := World.grownBy_alloc w (.cells #[.slice none 0 0] 44) none
  have HG0 := Lib.hid hg0
  clear hg0
  go_enter Tryd.func16, Tryd.ntmps16
  go_wp2_with fail
  go_loopg [5, 12] 1 (fun gk ov iv wr => (iv = .int .i64 0 ∧ ov = .slice none 0 0 ∧ wr = w.alloc (.cells #[.slice none 0 0] 44) ∧ gk = 1) ∨ (iv = .int .i64 1 ∧ RowS wr w.heap.size ov (fun _ => ByteArray.empty) 1 ∧ w.grownBy wr none ∧ gk = 0))
  case atStart => exact .inl ⟨rfl, rfl, rfl, rfl⟩
  case round =>
    rcases hrel with ⟨rfl, rfl, rfl, rfl⟩ | ⟨rfl, hr, hg, rfl⟩
    · have hc := right_nil (w.alloc (.cells #[.slice none 0 0] 44)) 0
      have hbs : w.heap.size ≤ (w.alloc (.cells #[.slice none 0 0] 44)).heap.size := by simp
      have h' : (w.alloc (.cells #[.slice none 0 0] 44)).cell? ⟨lb, 0, none⟩ = some (.int .i64 0) := cell_alloc h _
      generalize w.alloc (.cells #[.slice none 0 0] 44) = W at *
      have HRO := Lib.hid ((World.ownsRow_nil W w.heap.size 9 1).alloc (.cells #[.string .empty] 9))
      go_wp2_with fail
      refine hc.mono ?_
      rintro e w1 ⟨rfl, rfl⟩
      clear hc h
      go_wp2_with (at_builtin; refine wpList_append_lies _ rfl _ _ 47 rfl w.heap.size 9 i0 (.string .empty) 1 16 Tryd.underlying47 hi0 hz0 hz1 hz2 rfl (by decide) (.slice none 0 0) 0 _ rfl HRO.out ⟨W.heap.size, 0, none⟩ 1 1 [.string .empty] rfl rfl (news1 _ _ _ rfl) (by simp [Value.oneCell']) (by decide) (by decide) (by decide) (by simp; omega) _ rfl ?_)
      intro g' cap' w5 hown hgrow hat hlt1
      have hg5 : w.grownBy w5 none := by
        have g1 := grown_alloc HG0.out (.cells #[.string .empty] 9)
        exact grown_trans g1 hgrow
      have H5 := Lib.hid (And.intro hown hg5)
      clear hown hgrow hat hlt1 hg5
      go_wp2_with fail
      go_roundg 0
      case measure => omega
      case rel => exact .inr ⟨rfl, H5.out.1, H5.out.2, rfl⟩
    · have H5 := Lib.hid (And.intro hr hg)
      clear hr hg
      go_wp2_with fail
      go_ret
      exact ⟨_, rfl, H5.out.1, H5.out.2⟩
end Go.Proofs.YtpbiiigacfhbhaaDoor
