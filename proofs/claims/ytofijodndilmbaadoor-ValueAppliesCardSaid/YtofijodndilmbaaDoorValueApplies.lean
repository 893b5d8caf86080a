/- ValueApplies answers true for every op and every list of values; nothing that was there turns. No condition beyond the row's own. -/
import Derived.Test.YtofijodndilmbaaDoorValRow3
import Derived.Test.YtofijodndilmbaaDoorVal24
import Derived.SevenTiedAt
set_option linter.unusedVariables false
set_option linter.unusedSimpArgs false
namespace Go.Proofs.YtofijodndilmbaaDoor.valueApplies
open Go.ChangeShapes Go.WideShapes Go.ChangeAt Go.RowKit Go.Deep

theorem contract (H : Type) (enc : TypeId × Value → H) (W : World) (base : Nat) (args : Array Value) (ds gs : List (DataW H)) (before : List MemPlace)
    (hval : ∀ (j : Nat) t v, Tryd.f4.params[j]? = some t → args[j]? = some v → Value.okWide Tryd.prog W .any base t v)
    (hW : DataW.Whole enc Tryd.prog Tryd.f4.params.toList Rows.valueAppliesSpec.vars false W args.toList ds gs before) (ts : List TypeId) (hsz : (DataW.weightsEach Tryd.prog (Tryd.f4.params.toList ++ ts) (ds ++ gs)).all (fun x => decide (x ≤ reachBytes)) = true)
    (hL : laidMetH Tryd.prog Rows.valueAppliesRow.laid W) :
    Calls Tryd.prog 4 args W fun e W' => ∃ v, e = .returned v ∧ Rows.valueAppliesSpec.post enc Tryd.prog Tryd.f4 false true false false W args v W' := by
  have hW' := hW
  obtain ⟨p, q, hA0, hV, rfl, hfz, hnd⟩ := hW
  have hA : DataW.TrodAll enc Tryd.prog W 0 (fun _ => true) true Tryd.f4.params.toList args.toList ds p := hA0
  rw [Tryd.params4] at hA hval hsz
  obtain ⟨v0, vs0, d0, ds0, p0, q0, hargs, rfl, rfl, h0, r0⟩ := trodAll_cons hA
  obtain ⟨v1, vs1, d1, ds1, p1, q1, rfl, rfl, rfl, h1, r1⟩ := trodAll_cons r0
  obtain ⟨rfl, rfl, rfl⟩ := trodAll_nil r1
  obtain rfl : args = #[v0, v1] := by cases args; simp_all
  have hw1 : ∀ k ∈ d1.weights Tryd.prog 22, k ≤ reachBytes := fun k hk => by
    have := List.all_eq_true.1 hsz k (DataW.weights_mem_each (j := 1) rfl rfl k hk)
    simpa using this
  obtain ⟨op, rfl⟩ := okWide_string Tryd.underlying9 (hval 0 _ v0 rfl rfl)
  obtain ⟨ks, A, cap, ss, rfl, hmax, hl⟩ := open_values (hval 1 _ v1 rfl rfl) h1 hw1
  have ht : TabOk W := tab_of hL
  refine (ValueApplies_in op ks A cap ss W hmax hl ht).mono fun e W' ⟨he, hb⟩ => ?_
  subst he
  exact ⟨_, rfl, law_post (tb := 4) Tryd.underlying4 (by kernel_rfl) rfl (by
    rw [Tryd.params4]
    intro t ht
    simp at ht
    rcases ht with rfl | rfl
    · exact ⟨by kernel_rfl, of_decide_eq_true (by kernel_rfl)⟩
    · exact ⟨by kernel_rfl, of_decide_eq_true (by kernel_rfl)⟩) hW' (fun hg => by subst hg; rfl) hb⟩

/-- A listed table, filled. -/
def fill (cs : Array Value) : Obj → Obj
  | .cells _ t frozen => .cells cs t frozen
  | o => o
noncomputable def laidWorld (os : Os) : World :=
  { World.holding Tryd.prog os ⟨#[], #[], []⟩ with heap := (((World.holding Tryd.prog os ⟨#[], #[], []⟩).heap.modify 1 (fill #[(Value.int .u8 0), (Value.int .u8 1), (Value.int .u8 28), (Value.int .u8 2), (Value.int .u8 29), (Value.int .u8 14), (Value.int .u8 24), (Value.int .u8 3), (Value.int .u8 30), (Value.int .u8 22), (Value.int .u8 20), (Value.int .u8 15), (Value.int .u8 25), (Value.int .u8 17), (Value.int .u8 4), (Value.int .u8 8), (Value.int .u8 31), (Value.int .u8 27), (Value.int .u8 13), (Value.int .u8 23), (Value.int .u8 21), (Value.int .u8 19), (Value.int .u8 16), (Value.int .u8 7), (Value.int .u8 26), (Value.int .u8 12), (Value.int .u8 18), (Value.int .u8 6), (Value.int .u8 11), (Value.int .u8 5), (Value.int .u8 10), (Value.int .u8 9)])).modify 2 (fill #[(Value.int .u8 0), (Value.int .u8 1), (Value.int .u8 56), (Value.int .u8 2), (Value.int .u8 57), (Value.int .u8 49), (Value.int .u8 28), (Value.int .u8 3), (Value.int .u8 61), (Value.int .u8 58), (Value.int .u8 42), (Value.int .u8 50), (Value.int .u8 38), (Value.int .u8 29), (Value.int .u8 17), (Value.int .u8 4), (Value.int .u8 62), (Value.int .u8 47), (Value.int .u8 59), (Value.int .u8 36), (Value.int .u8 45), (Value.int .u8 43), (Value.int .u8 51), (Value.int .u8 22), (Value.int .u8 53), (Value.int .u8 39), (Value.int .u8 33), (Value.int .u8 30), (Value.int .u8 24), (Value.int .u8 18), (Value.int .u8 12), (Value.int .u8 5), (Value.int .u8 63), (Value.int .u8 55), (Value.int .u8 48), (Value.int .u8 27), (Value.int .u8 60), (Value.int .u8 41), (Value.int .u8 37), (Value.int .u8 16), (Value.int .u8 46), (Value.int .u8 35), (Value.int .u8 44), (Value.int .u8 21), (Value.int .u8 52), (Value.int .u8 32), (Value.int .u8 23), (Value.int .u8 11), (Value.int .u8 54), (Value.int .u8 26), (Value.int .u8 40), (Value.int .u8 15), (Value.int .u8 34), (Value.int .u8 20), (Value.int .u8 31), (Value.int .u8 10), (Value.int .u8 25), (Value.int .u8 14), (Value.int .u8 19), (Value.int .u8 9), (Value.int .u8 13), (Value.int .u8 8), (Value.int .u8 7), (Value.int .u8 6)])).modify 0 (fill #[(Value.int .u64 1), (Value.int .u64 10), (Value.int .u64 100), (Value.int .u64 1000), (Value.int .u64 10000), (Value.int .u64 100000), (Value.int .u64 1000000), (Value.int .u64 10000000), (Value.int .u64 100000000), (Value.int .u64 1000000000), (Value.int .u64 10000000000), (Value.int .u64 100000000000), (Value.int .u64 1000000000000), (Value.int .u64 10000000000000), (Value.int .u64 100000000000000), (Value.int .u64 1000000000000000), (Value.int .u64 10000000000000000), (Value.int .u64 100000000000000000), (Value.int .u64 1000000000000000000), (Value.int .u64 10000000000000000000)]) }
def args0 : Array Value := #[.string ⟨#[]⟩, .slice none 0 0]
theorem laid_met (os : Os) : laidMet Tryd.prog Rows.valueAppliesRow.laid ((laidWorld os).forCall (fun _ _ => 0) ⟨#[], args0, []⟩).memory :=
  laidMet_of_run' 8 (by kernel_rfl) (by kernel_rfl)
theorem reads (os : Os) {H : Type} (enc : TypeId × Value → H) : ∃ places, DataW.whole enc Tryd.prog ((laidWorld os).forCall (fun _ _ => 0) ⟨#[], args0, []⟩).memory Tryd.f4.params.toList Rows.valueAppliesSpec.vars false args0.toList 8 = some ([.lit (.string []), .nil], [], places) :=
  ⟨[], by kernel_rfl⟩

set_option maxRecDepth 100000 in
theorem lifted (os : Os) (started : os.Started) (H : Type) (enc : TypeId × Value → H) (F : Stop.Interp) :
    ReturnsInHanded {} Tryd.checked os 4 .any ((OpenSpec.ofChange Rows.valueAppliesSpec).preRow enc Tryd.prog Tryd.f4 Rows.valueAppliesRow.domain false Rows.valueAppliesRow.laid) (((OpenSpec.ofChange Rows.valueAppliesSpec).at F).post enc Tryd.prog Tryd.f4 false true false false) := by
  obtain ⟨places, hx⟩ := reads os enc
  refine returnsInHanded_of_row (C := Tryd.checked) (s := OpenSpec.ofChange Rows.valueAppliesSpec) frame_own started (by kernel_rfl) Tryd.func4
    (witness_row_at (enc := enc) (C := Tryd.checked) false (laidWorld os) args0 rfl (by kernel_rfl) (by kernel_rfl) (by kernel_rfl)
      (OpenSpec.preRow_of_cond 8 hx (by kernel_rfl) (fun k hk => by cases hk) (by kernel_rfl) (laid_met os))) ?_
  intro W base args ds gs before hval hW _ _ hsz hL _ _
  exact contract H enc W base args ds gs before hval hW _ hsz hL

theorem said : Rows.ValueAppliesSaid :=
  OpenClaim.holds_of_cond 4 Tryd.f4 rfl rfl rfl rfl rfl rfl rfl ⟨rfl, rfl, rfl, rfl, rfl⟩ rfl rfl rfl rfl rfl (by kernel_rfl) Tryd.func4 (by kernel_rfl)
    (of_decide_eq_true (by kernel_rfl)) (by unfold Func.isWrapper; first | (rw [if_pos (by decide +kernel)]; kernel_rfl) | (rw [if_neg (by decide +kernel)]; exact ⟨rfl, rfl⟩))
    (fun os started H enc _ F => by rw [OpenClaim.pre_eq_preRow]; exact lifted os started H enc F)

theorem plain (f : FuncId) (fn : Func) (hf : Tryd.pinned.checked.prog.funcNamed "whisper/whisperlaw12.ValueApplies" = some f) (hfn : Tryd.pinned.checked.prog.funcs[f]? = some fn) :
    false = Tryd.pinned.checked.prog.looks [] ∧ ∀ (j : Nat) t, fn.params[j]? = some t → Tryd.pinned.checked.prog.wantsStandIn t = false := by
  obtain rfl : f = 4 := Option.some.inj ((show Tryd.prog.funcNamed "whisper/whisperlaw12.ValueApplies" = some 4 by kernel_rfl).symm.trans hf) |>.symm
  obtain rfl : fn = Tryd.f4 := (Option.some.inj (Tryd.func4.symm.trans hfn)).symm
  refine ⟨by kernel_rfl, fun j t ht => ?_⟩
  rw [Tryd.params4] at ht
  have hm := Array.mem_of_getElem? ht
  simp at hm
  rcases hm with rfl | rfl
  · exact (show Tryd.prog.wantsStandIn 9 = false by kernel_rfl)
  · exact (show Tryd.prog.wantsStandIn 22 = false by kernel_rfl)

theorem card : Rows.ValueAppliesCardSaid :=
  Claim7.holds_tied_plain_at .later [] _ _ _ _ said (fun _ h => by cases h) (by kernel_rfl) (fun _ h => by cases h) valueApplies_row_tie rfl ⟨rfl, rfl⟩ (by kernel_rfl) rfl plain (by kernel_rfl)

end Go.Proofs.YtofijodndilmbaaDoor.valueApplies
