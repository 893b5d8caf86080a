/- ValueShows answers true for every two values and every pair of numbers, where what it reads is of bulk at most 1048576; nothing that was there turns. -/
import Derived.Test.YtofijodndilmbaaDoorValRow2
import Derived.Test.YtofijodndilmbaaDoorVal22
import Derived.SevenTiedAt
set_option linter.unusedVariables false
set_option linter.unusedSimpArgs false
namespace Go.Proofs.YtofijodndilmbaaDoor.valueShows
open Go.ChangeShapes Go.WideShapes Go.ChangeAt Go.RowKit Go.Deep

theorem contract (H : Type) (enc : TypeId × Value → H) (W : World) (base : Nat) (args : Array Value) (ds gs : List (DataW H)) (before : List MemPlace)
    (hval : ∀ (j : Nat) t v, Tryd.f3.params[j]? = some t → args[j]? = some v → Value.okWide Tryd.prog W .any base t v)
    (hW : DataW.Whole enc Tryd.prog Tryd.f3.params.toList Rows.valueShowsSpec.vars false W args.toList ds gs before) (ts : List TypeId) (hsz : (DataW.weightsEach Tryd.prog (Tryd.f3.params.toList ++ ts) (ds ++ gs)).all (fun x => decide (x ≤ reachBytes)) = true)
    (hk : Rows.uptoSmall H (ds ++ gs) = true) (hL : laidMetH Tryd.prog Rows.valueShowsUptoRow.laid W) :
    Calls Tryd.prog 3 args W fun e W' => ∃ v, e = .returned v ∧ Rows.valueShowsSpec.post enc Tryd.prog Tryd.f3 false true false false W args v W' := by
  have hW' := hW
  obtain ⟨p, q, hA0, hV, rfl, hfz, hnd⟩ := hW
  have hA : DataW.TrodAll enc Tryd.prog W 0 (fun _ => true) true Tryd.f3.params.toList args.toList ds p := hA0
  rw [Tryd.params3] at hA hval hsz
  obtain ⟨v0, vs0, d0, ds0, p0, q0, hargs, rfl, rfl, h0, r0⟩ := trodAll_cons hA
  obtain ⟨v1, vs1, d1, ds1, p1, q1, rfl, rfl, rfl, h1, r1⟩ := trodAll_cons r0
  obtain ⟨v2, vs2, d2, ds2, p2, q2, rfl, rfl, rfl, h2, r2⟩ := trodAll_cons r1
  obtain ⟨rfl, rfl, rfl⟩ := trodAll_nil r2
  obtain rfl : args = #[v0, v1, v2] := by cases args; simp_all
  have hw0 : ∀ k ∈ d0.weights Tryd.prog 24, k ≤ reachBytes := fun k hk => by
    have := List.all_eq_true.1 hsz k (DataW.weights_mem_each (j := 0) rfl rfl k hk)
    simpa using this
  have hw1 : ∀ k ∈ d1.weights Tryd.prog 24, k ≤ reachBytes := fun k hk => by
    have := List.all_eq_true.1 hsz k (DataW.weights_mem_each (j := 1) rfl rfl k hk)
    simpa using this
  have hbulk : Rows.uptoBulk d0 ≤ 1048576 ∧ Rows.uptoBulk d1 ≤ 1048576 := by
    have h := of_decide_eq_true hk
    simp only [List.cons_append, Rows.uptoBulkAll] at h
    exact ⟨by omega, by omega⟩
  obtain ⟨va, sa, rfl, ha, hra, hca⟩ := open_value (hval 0 _ v0 rfl rfl) h0 hw0
  obtain ⟨vb, sb, rfl, hb, hrb, hcb⟩ := open_value (hval 1 _ v1 rfl rfl) h1 hw1
  obtain ⟨n, m, rfl, hn⟩ := open_two (hval 2 _ v2 rfl rfl) h2
  have ht : TabOk W := tab_of_laid hL
  refine (ValueShows_in va vb sa sb n m W hn.1 hn.2 ha hb (by omega) (by omega) hra hrb ht).mono fun e W' ⟨he, hb⟩ => ?_
  subst he
  exact ⟨_, rfl, law_post (tb := 4) Tryd.underlying4 (by kernel_rfl) rfl (by
    rw [Tryd.params3]
    intro t ht
    simp at ht
    rcases ht with rfl | rfl
    · exact ⟨by kernel_rfl, of_decide_eq_true (by kernel_rfl)⟩
    · exact ⟨by kernel_rfl, of_decide_eq_true (by kernel_rfl)⟩) hW' (fun hg => by subst hg; rfl) hb⟩

/-- A listed table, filled. -/
def fill (cs : Array Value) : Obj → Obj
  | .cells _ t frozen => .cells cs t frozen
  | o => o
noncomputable def laidWorld (os : Os) : World :=
  { World.holding Tryd.prog os ⟨#[], #[], []⟩ with heap := (((World.holding Tryd.prog os ⟨#[], #[], []⟩).heap.modify 1 (fill #[(Value.int .u8 0), (Value.int .u8 1), (Value.int .u8 28), (Value.int .u8 2), (Value.int .u8 29), (Value.int .u8 14), (Value.int .u8 24), (Value.int .u8 3), (Value.int .u8 30), (Value.int .u8 22), (Value.int .u8 20), (Value.int .u8 15), (Value.int .u8 25), (Value.int .u8 17), (Value.int .u8 4), (Value.int .u8 8), (Value.int .u8 31), (Value.int .u8 27), (Value.int .u8 13), (Value.int .u8 23), (Value.int .u8 21), (Value.int .u8 19), (Value.int .u8 16), (Value.int .u8 7), (Value.int .u8 26), (Value.int .u8 12), (Value.int .u8 18), (Value.int .u8 6), (Value.int .u8 11), (Value.int .u8 5), (Value.int .u8 10), (Value.int .u8 9)])).modify 2 (fill #[(Value.int .u8 0), (Value.int .u8 1), (Value.int .u8 56), (Value.int .u8 2), (Value.int .u8 57), (Value.int .u8 49), (Value.int .u8 28), (Value.int .u8 3), (Value.int .u8 61), (Value.int .u8 58), (Value.int .u8 42), (Value.int .u8 50), (Value.int .u8 38), (Value.int .u8 29), (Value.int .u8 17), (Value.int .u8 4), (Value.int .u8 62), (Value.int .u8 47), (Value.int .u8 59), (Value.int .u8 36), (Value.int .u8 45), (Value.int .u8 43), (Value.int .u8 51), (Value.int .u8 22), (Value.int .u8 53), (Value.int .u8 39), (Value.int .u8 33), (Value.int .u8 30), (Value.int .u8 24), (Value.int .u8 18), (Value.int .u8 12), (Value.int .u8 5), (Value.int .u8 63), (Value.int .u8 55), (Value.int .u8 48), (Value.int .u8 27), (Value.int .u8 60), (Value.int .u8 41), (Value.int .u8 37), (Value.int .u8 16), (Value.int .u8 46), (Value.int .u8 35), (Value.int .u8 44), (Value.int .u8 21), (Value.int .u8 52), (Value.int .u8 32), (Value.int .u8 23), (Value.int .u8 11), (Value.int .u8 54), (Value.int .u8 26), (Value.int .u8 40), (Value.int .u8 15), (Value.int .u8 34), (Value.int .u8 20), (Value.int .u8 31), (Value.int .u8 10), (Value.int .u8 25), (Value.int .u8 14), (Value.int .u8 19), (Value.int .u8 9), (Value.int .u8 13), (Value.int .u8 8), (Value.int .u8 7), (Value.int .u8 6)])).modify 0 (fill #[(Value.int .u64 1), (Value.int .u64 10), (Value.int .u64 100), (Value.int .u64 1000), (Value.int .u64 10000), (Value.int .u64 100000), (Value.int .u64 1000000), (Value.int .u64 10000000), (Value.int .u64 100000000), (Value.int .u64 1000000000), (Value.int .u64 10000000000), (Value.int .u64 100000000000), (Value.int .u64 1000000000000), (Value.int .u64 10000000000000), (Value.int .u64 100000000000000), (Value.int .u64 1000000000000000), (Value.int .u64 10000000000000000), (Value.int .u64 100000000000000000), (Value.int .u64 1000000000000000000), (Value.int .u64 10000000000000000000)]) }
def args0 : Array Value := #[.agg #[.string ⟨#[]⟩, .int .i64 0, .slice none 0 0], .agg #[.string ⟨#[]⟩, .int .i64 0, .slice none 0 0], .agg #[.int .i64 0, .int .i64 0]]
theorem laid_met (os : Os) : laidMet Tryd.prog Rows.valueShowsUptoRow.laid ((laidWorld os).forCall (fun _ _ => 0) ⟨#[], args0, []⟩).memory :=
  laidMet_of_run' 8 (by kernel_rfl) (by kernel_rfl)
theorem reads (os : Os) {H : Type} (enc : TypeId × Value → H) : ∃ places, DataW.whole enc Tryd.prog ((laidWorld os).forCall (fun _ _ => 0) ⟨#[], args0, []⟩).memory Tryd.f3.params.toList Rows.valueShowsSpec.vars false args0.toList 8 = some ([.agg [.lit (.string []), .lit (.int .i64 0), .nil], .agg [.lit (.string []), .lit (.int .i64 0), .nil], .agg [.lit (.int .i64 0), .lit (.int .i64 0)]], [], places) :=
  ⟨[], by kernel_rfl⟩

set_option maxRecDepth 100000 in
theorem lifted (os : Os) (started : os.Started) (H : Type) (enc : TypeId × Value → H) (F : Stop.Interp) :
    ReturnsInHanded {} Tryd.checked os 3 .any ((Rows.OpenSpec.upto Rows.valueShowsSpec).preRow enc Tryd.prog Tryd.f3 Rows.valueShowsUptoRow.domain false Rows.valueShowsUptoRow.laid) (((Rows.OpenSpec.upto Rows.valueShowsSpec).at F).post enc Tryd.prog Tryd.f3 false true false false) := by
  obtain ⟨places, hx⟩ := reads os enc
  refine returnsInHanded_of_row (C := Tryd.checked) (s := Rows.OpenSpec.upto Rows.valueShowsSpec) frame_own started (by kernel_rfl) Tryd.func3
    (witness_row_at (enc := enc) (C := Tryd.checked) false (laidWorld os) args0 rfl (by kernel_rfl) (by kernel_rfl) (by kernel_rfl)
      (OpenSpec.preRow_of_cond 8 hx (by kernel_rfl) (fun k hk => by cases hk; kernel_rfl) (by kernel_rfl) (laid_met os))) ?_
  intro W base args ds gs before hval hW _ hk hsz hL _ _
  exact contract H enc W base args ds gs before hval hW _ hsz (hk _ rfl) hL

theorem said : Rows.ValueShowsUptoSaid :=
  OpenClaim.holds_of_cond 3 Tryd.f3 rfl rfl rfl rfl rfl rfl rfl ⟨rfl, rfl, rfl, rfl, rfl⟩ rfl rfl rfl rfl rfl (by kernel_rfl) Tryd.func3 (by kernel_rfl)
    (of_decide_eq_true (by kernel_rfl)) (by unfold Func.isWrapper; first | (rw [if_pos (by decide +kernel)]; kernel_rfl) | (rw [if_neg (by decide +kernel)]; exact ⟨rfl, rfl⟩))
    (fun os started H enc _ F => by rw [OpenClaim.pre_eq_preRow]; exact lifted os started H enc F)

theorem plain (f : FuncId) (fn : Func) (hf : Tryd.pinned.checked.prog.funcNamed "whisper/whisperlaw12.ValueShows" = some f) (hfn : Tryd.pinned.checked.prog.funcs[f]? = some fn) :
    false = Tryd.pinned.checked.prog.looks [] ∧ ∀ (j : Nat) t, fn.params[j]? = some t → Tryd.pinned.checked.prog.wantsStandIn t = false := by
  obtain rfl : f = 3 := Option.some.inj ((show Tryd.prog.funcNamed "whisper/whisperlaw12.ValueShows" = some 3 by kernel_rfl).symm.trans hf) |>.symm
  obtain rfl : fn = Tryd.f3 := (Option.some.inj (Tryd.func3.symm.trans hfn)).symm
  refine ⟨by kernel_rfl, fun j t ht => ?_⟩
  rw [Tryd.params3] at ht
  have hm := Array.mem_of_getElem? ht
  simp at hm
  rcases hm with rfl | rfl
  · exact (show Tryd.prog.wantsStandIn 24 = false by kernel_rfl)
  · exact (show Tryd.prog.wantsStandIn 25 = false by kernel_rfl)

theorem card : Rows.ValueShowsUptoCardSaid :=
  Claim7.holds_tied_plain_at .later [] _ _ _ _ said (fun _ h => by cases h) (by kernel_rfl) (fun _ h => by cases h) valueShowsUpto_row_tie rfl ⟨rfl, rfl⟩ (by kernel_rfl) rfl plain (by kernel_rfl)

end Go.Proofs.YtofijodndilmbaaDoor.valueShows
