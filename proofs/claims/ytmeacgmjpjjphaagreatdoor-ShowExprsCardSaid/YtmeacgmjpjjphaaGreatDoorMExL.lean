/- Items with ; between: where all stands. -/
import Derived.Test.YtmeacgmjpjjphaaGreatDoorMExF
import Derived.Test.YtmeacgmjpjjphaaGreatDoorMLex
import Derived.Test.YtmeacgmjpjjphaaGreatDoorMExR
import Derived.RangeFuncIn
import Derived.RangeFuncSeq
import Derived.RangeFuncLeaves
import Derived.OrdersIn
import Derived.Deep.RegionHeld3
import Derived.RangeFuncNested
import Derived.RangeFuncBound
import Derived.RangeFuncCalls
import Derived.Shelf.Abstract
import Derived.OwnWalkIn
import Derived.TacticsInMore
import Derived.LoopNIn
import Derived.LoopIn
set_option linter.unusedVariables false
set_option linter.unusedSimpArgs false
namespace Go.Proofs.YtmeacgmjpjjphaaGreatDoor
open Go.RowKit
open Tr (Nd TreeAt Own Ints)

theorem begs_cells (w : World) : ∀ j, j < begs.length → (w.alloc (.cells (begs.map Value.string).toArray 9)).cell? ⟨w.heap.size, 0 + j, none⟩ = some (.string (begs.getD j ByteArray.empty)) := fun j hj => by
  have h := last w (.cells (begs.map Value.string).toArray 9)
  simp only [World.cell?, h, Nat.zero_add]
  simp [List.getD, hj]
theorem begs_len : begs.length = 15 := rfl
set_option maxRecDepth 100000 in
set_option maxHeartbeats 4000000 in
theorem starts_in (x : Tok) (w : World) : Calls Tryz.prog 47 #[tokV x] w fun e w' => e = .returned (.bool (startsT x)) ∧ Below w.heap.size w w' := by
  obtain ⟨k, tx, nm, ln, cl⟩ := x
  unfold tokV
  simp only
  have hb0 := (Below.refl w.heap.size w).alloc (Nat.le_refl _) (.cells #[.int .i64 k, .string tx, .int .i64 nm, .int .i64 ln, .int .i64 cl] 35)
  have hl0 := last w (.cells #[.int .i64 k, .string tx, .int .i64 nm, .int .i64 ln, .int .i64 cl] 35)
  obtain ⟨t0, t1, t2, t3, t4⟩ := cellsOf5 hl0
  by_cases h1 : k = 1
  · subst h1
    rw [show startsT ⟨1, tx, nm, ln, cl⟩ = true from rfl]
    go_enter Tryz.func47, Tryz.ntmps47
    go_wp2_with fail
    go_ret
    exact ⟨rfl, hb0⟩
  by_cases h3 : k = 3
  · subst h3
    rw [show startsT ⟨3, tx, nm, ln, cl⟩ = true from rfl]
    go_enter Tryz.func47, Tryz.ntmps47
    go_wp2_with fail
    go_ret
    exact ⟨rfl, hb0⟩
  have e1 : (k == 1) = false := by simp [h1]
  have e3 : (k == 3) = false := by simp [h3]
  by_cases h24 : k = 2 ∨ k = 4
  · have hst : startsT ⟨k, tx, nm, ln, cl⟩ = Lib.containsS begs tx := by
      unfold startsT
      rw [if_neg (by rintro (h | h) <;> contradiction), if_pos h24]
    rw [hst]
    have hcon := Tryz.slices_Contains_string _ 0 15 15 begs tx _ (by rw [begs_len]; omega) (by decide) (begs_cells (w.alloc (.cells #[.int .i64 k, .string tx, .int .i64 nm, .int .i64 ln, .int .i64 cl] 35)))
    have ht : begs.take 15 = begs := rfl
    have hs1 : (w.alloc (.cells #[.int .i64 k, .string tx, .int .i64 nm, .int .i64 ln, .int .i64 cl] 35)).heap.size = w.heap.size + 1 := by simp
    rw [ht, hs1] at hcon
    have HC := Lib.hid hcon
    have HB := Lib.hid hb0
    clear hs1
    clear hst hcon hb0 h1 h3
    rcases h24 with rfl | rfl
    all_goals
      go_enter Tryz.func47, Tryz.ntmps47
      go_wp2_with fail
      refine (show Calls Tryz.prog _ _ ((w.alloc _).alloc (.cells (begs.map Value.string).toArray 9)) _ from HC.out).mono ?_
      rintro e w' ⟨rfl, rfl⟩
      have HF := Lib.hid (HB.out.alloc HB.out.size (.cells (begs.map Value.string).toArray 9))
      go_wp2_with fail
      go_ret
      exact ⟨rfl, HF.out⟩
  · have e2 : (k == 2) = false := by simp; omega
    have e4 : (k == 4) = false := by simp; omega
    have hst : startsT ⟨k, tx, nm, ln, cl⟩ = false := by
      unfold startsT
      rw [if_neg (by rintro (h | h) <;> contradiction), if_neg h24]
    rw [hst]
    clear hst h1 h3 h24
    go_enter Tryz.func47, Tryz.ntmps47
    go_wp2_with fail
    go_ret
    exact ⟨rfl, hb0⟩
end Go.Proofs.YtmeacgmjpjjphaaGreatDoor
namespace Go.Proofs.YtmeacgmjpjjphaaGreatDoor
open Tr (Nd)
open Tr.TreP (WF fits places nd inT)

theorem node_ok2 {m0 : List Nd} {l : List Tok} {m : List Nd} (h : Pre l m) {op : ByteArray} {t : Tok} {name : ByteArray} {ks1 ks : List Int} (ho : op.size ≤ 65536) (ht : TkOk t) (hn : name.size ≤ 65536) (hk : ks.length ≤ 65540) (hp : Paid m0 (ks1 ++ ks) m) :
    Ok' (fun i l' m' => Adv l m l' m' ∧ Paid m0 (ks1 ++ [i]) m' ∧ l' = l) (nodeP op t name ks l m) := by
  have hcs : (ks1.map (cost m)).sum + (ks.map (cost m)).sum + m0.length ≤ m.length := by
    have := hp.cost
    rwa [List.map_append, List.sum_append] at this
  have hp' : Paid (m.take (m.length - (ks.map (cost m)).sum)) ks m := ⟨fun k hk' => hp.there k (List.mem_append_right _ hk'), by rw [List.length_take]; omega⟩
  have h1 := node_ok h ho ht hn hk hp'
  unfold nodeP at h1 ⊢
  split
  · exact .inr rfl
  · rename_i hlt
    rw [if_neg hlt] at h1
    obtain ⟨ha, hq, _⟩ := h1
    refine ⟨ha, ⟨fun k hk' => ?_, ?_⟩, rfl⟩
    · rcases List.mem_append.1 hk' with h2 | h2
      · have := hp.there k (List.mem_append_left _ h2)
        rw [List.length_append]
        simp only [List.length_cons, List.length_nil]
        omega
      · exact hq.there k h2
    · have h3 := hq.cost
      rw [List.map_append, List.sum_append, map_cost ha.ext ha.pre.wf (fun k hk' => hp.there k (List.mem_append_left _ hk'))]
      rw [List.length_take] at h3
      have h4 : (m ++ [(⟨op, t.line, t.col, name, t.num, ks⟩ : Nd)]).length = m.length + 1 := by simp
      rw [h4] at h3 ⊢
      omega

/-- From the end: what came last stands first in st. -/
def foldP : List (Int × Tok) → Int → Ps Int
  | [], out => fun l m => .ok out l m
  | (a, t) :: st, out => fun l m => (nodeP nSeq t nNil [a, out] l m).bind fun c l m => foldP st c l m
def contP (st : List (Int × Tok)) (o : Out Int) : Out Int := o.bind fun a l m => foldP st a l m
theorem bind_assoc {α β γ : Type} (o : Out α) (f : α → List Tok → List Nd → Out β) (g : β → List Tok → List Nd → Out γ) : (o.bind f).bind g = o.bind fun a l m => (f a l m).bind g := by
  cases o <;> rfl
/-- Behind an item. -/
def goesP (item : Ps Int) (n : Nat) (st : List (Int × Tok)) (a : Int) : Ps Int := fun l m =>
  if isT kSemi (hdT l) && startsT (hdT l.tail) then contP ((a, hdT l) :: st) (allP item n l.tail m) else foldP st a l m
theorem cont_all (item : Ps Int) (n : Nat) (st : List (Int × Tok)) (l : List Tok) (m : List Nd) : contP st (allP item (n + 1) l m) = (item l m).bind fun a l m => goesP item n st a l m := by
  unfold contP
  rw [allP, bind_assoc]
  cases item l m with
  | bad c x y => rfl
  | ok a l1 m1 =>
    show Out.bind (if isT kSemi (hdT l1) && startsT (hdT l1.tail) then _ else _) _ = goesP item n st a l1 m1
    unfold goesP
    by_cases hc : (isT kSemi (hdT l1) && startsT (hdT l1.tail)) = true
    · rw [if_pos hc, if_pos hc]
      unfold contP
      rw [bind_assoc]
      rfl
    · rw [if_neg hc, if_neg hc]
      rfl
theorem all_goes (item : Ps Int) (l : List Tok) (m : List Nd) {n : Nat} (h : l.length = n + 1) : allT item l m = (item l m).bind fun a l m => goesP item n [] a l m := by
  have := cont_all item n [] l m
  unfold allT
  rw [h, ← this]
  unfold contP
  cases allP item (n + 1) l m <;> rfl
end Go.Proofs.YtmeacgmjpjjphaaGreatDoor
namespace Go.Proofs.YtmeacgmjpjjphaaGreatDoor
open Go
variable {F : Fence} {n : Nat} {P : Program}

/-- What is asked at a round's end; a panic goes up. -/
def roundPostP (P : Program) (l : Nat) (R : Ending → World → Prop) : Exit → Act → World → Prop
  | .normal, _, w => ∃ v w', (Instr.endRound l none).run P w = .ok v w' ∧ R (.returned v) w'
  | .ret, _, w => ∃ v w', (Instr.endRound l (some .ret)).run P w = .ok v w' ∧ R (.returned v) w'
  | .exit id, _, w => ∃ v w', (Instr.endRound l (some (.exit id))).run P w = .ok v w' ∧ R (.returned v) w'
  | .goto t, _, w => ∃ v w', (Instr.endRound l (some (.goto t))).run P w = .ok v w' ∧ R (.returned v) w'
  | .panic chain, a, w => a.defers = [] ∧ R (.panicked chain) w
  | .outgrown, _, _ => False

theorem roundIn_of_wpInP {l : Nat} {f : FuncId} {fn : Func} {tmps : Array Value} {assign body : Code} {w : World} {R : Ending → World → Prop} (hF : F.fn f) (hfn : P.funcs[f]? = some fn)
    (h : assign.wpIn (F.inRound l) n P (Exit.then (fun a₁ w₁ => ∃ w₂, (Instr.beginRound l).run P w₁ = .ok () w₂ ∧ body.wpIn (F.inRound l) n P (roundPostP P l R) a₁ w₂) (fun _ _ _ => False))
      { tmps := tmps, defers := [] } w) :
    RoundIn F n P l f tmps assign body w R := by
  refine ⟨hF, fun c cs hr => ?_⟩
  let b : Frame := { (default : Frame) with fn := f, kind := .normal, roundOf := some l }
  have hb0 : Frame.round l f tmps assign body .normal = b.atR { tmps := tmps, defers := [] } [.code assign, .beginRound, .code body] := by
    simp [Frame.round, Frame.atR, b]
  have hr' : (F.inRound l).room ((c :: cs).length + 1 + n) := hr
  have hF' : (F.inRound l).fn b.fn := hF
  obtain ⟨e, a₁, w₁, hq, harr⟩ := h b [.beginRound, .code body] (c :: cs) rfl hF' hr'
  rw [← hb0] at harr
  cases e with
  | normal =>
    obtain ⟨w₂, hbr, hbody⟩ := hq
    have s1 : StepsIn (Machine.fenced P (F.inRound l)) P (lone (b.atR a₁ [.beginRound, .code body]) (c :: cs) w₁) (lone (b.atR a₁ [.code body]) (c :: cs) w₂) :=
      .one (fenced_calm (fr := b.atR a₁ [.beginRound, .code body]) hF' hr' rfl) (stepR_beginRound rfl hbr)
    obtain ⟨e₂, a₂, w₃, hq₂, harr₂⟩ := hbody b [] (c :: cs) rfl hF' hr'
    cases e₂ with
    | normal =>
      obtain ⟨v, w₄, hend, hR⟩ := hq₂
      exact ⟨.returned v, w₄, hR, (StepsIn.trans harr s1).trans (StepsIn.trans harr₂ (.one (fenced_calm (fr := b.atR a₂ []) hF' hr' rfl) (stepR_round_end rfl rfl hend)))⟩
    | ret =>
      obtain ⟨v, w₄, hend, hR⟩ := hq₂
      obtain ⟨k₁, hs⟩ := harr₂.2 rfl
      exact ⟨.returned v, w₄, hR, (StepsIn.trans harr s1).trans (StepsIn.trans hs (.one (fenced_calm (fr := b.atR a₂ (.code .ret :: k₁)) hF' hr' rfl) (stepR_round_ret rfl rfl hend)))⟩
    | exit id =>
      obtain ⟨v, w₄, hend, hR⟩ := hq₂
      obtain ⟨k₁, hk, hs⟩ := harr₂.2 rfl rfl
      exact ⟨.returned v, w₄, hR, (StepsIn.trans harr s1).trans (StepsIn.trans hs (.one (fenced_calm (fr := b.atR a₂ (.code (.exit id) :: k₁)) hF' hr' rfl) (stepR_round_exit rfl rfl hk hend)))⟩
    | goto t =>
      obtain ⟨v, w₄, hend, hR⟩ := hq₂
      obtain ⟨k₁, hk, hs⟩ := harr₂.2 rfl rfl
      exact ⟨.returned v, w₄, hR, (StepsIn.trans harr s1).trans (StepsIn.trans hs (.one (fenced_calm (fr := b.atR a₂ (.code (.goto t) :: k₁)) hF' hr' rfl) (stepR_round_goto rfl rfl hk hend)))⟩
    | panic chain =>
      obtain ⟨hd, hR⟩ := hq₂
      obtain ⟨todo, hs⟩ := harr₂
      have hl : ({ b.atR a₂ todo with mode := .panicking chain } : Frame).leaving P w₃ (.panicked chain) := ⟨rfl, hd, fn, hfn⟩
      exact ⟨.panicked chain, w₃, hR, (StepsIn.trans harr s1).trans (StepsIn.trans hs (.one (fenced_leaving hF' hr' hl) (step_leave_panicked hl)))⟩
    | outgrown => exact hq₂.elim
  | exit id => exact hq.elim
  | goto t => exact hq.elim
  | ret => exact hq.elim
  | panic chain => exact hq.elim
  | outgrown => exact hq.elim

/-- A code's walk, in the activation of function f alone. -/
def wpAt (f : FuncId) (P : Program) (c : Code) (Q : Exit → Act → World → Prop) (a : Act) (w : World) : Prop :=
  ∀ (b : Frame) (k : List Item) (cs : List Frame), b.roundOf = none → b.fn = f →
    ∃ e a' w', Q e a' w' ∧ ArrivesIn (Machine.fenced P Fence.wide) P (lone (b.atR a (.code c :: k)) cs w) b k cs e a' w'
section
variable {f : FuncId} {Q : Exit → Act → World → Prop} {a : Act} {w : World}
theorem wpAt_of_wp {c : Code} (h : c.wp P Q a w) : wpAt f P c Q a w := fun b k cs hro hb => (wpIn_wide (n := 3)).2 h b k cs hro trivial (room_wide _)
theorem wpAt_seq {x y : Code} (h : wpAt f P x (Exit.then (fun a w => wpAt f P y Q a w) Q) a w) : wpAt f P (Code.seq x y) Q a w := by
  intro b k cs hro hb
  have h0 : (lone (b.atR a (.code (.seq x y) :: k)) cs w).fenced P Fence.wide := fenced_calm (n := 3) trivial (room_wide _) rfl
  obtain ⟨e, a₁, w₁, hq, harr⟩ := h b (.code y :: k) cs hro hb
  cases e with
  | normal =>
    obtain ⟨e₂, a₂, w₂, hq₂, harr₂⟩ := hq b k cs hro hb
    exact ⟨e₂, a₂, w₂, hq₂, .of_steps (.head h0 stepR_seq harr) harr₂⟩
  | exit id => exact ⟨_, a₁, w₁, hq, .of_steps (.one h0 stepR_seq) (.pass (x := .code y) rfl (fun _ _ => .inl (by simp)) harr)⟩
  | goto l => exact ⟨_, a₁, w₁, hq, .of_steps (.one h0 stepR_seq) (.pass (x := .code y) rfl (fun _ _ => .inl (by simp)) harr)⟩
  | ret => exact ⟨_, a₁, w₁, hq, .of_steps (.one h0 stepR_seq) (.pass (x := .code y) rfl (fun _ _ => .inl (by simp)) harr)⟩
  | panic ch => exact ⟨_, a₁, w₁, hq, .of_steps (.one h0 stepR_seq) (.pass (x := .code y) rfl (fun _ _ => .inl (by simp)) harr)⟩
  | outgrown => exact ⟨_, a₁, w₁, hq, .of_steps (.one h0 stepR_seq) (.pass (x := .code y) rfl (fun _ _ => .inl (by simp)) harr)⟩
/-- A block that is left at its end, or by a panic. -/
theorem wpAt_block {id : Nat} {c : Code} (h : wpAt f P c (fun e a w => match e with | .normal => Q .normal a w | .panic ch => Q (.panic ch) a w | _ => False) a w) : wpAt f P (Code.block id c) Q a w := by
  intro b k cs hro hb
  have h0 : (lone (b.atR a (.code (.block id c) :: k)) cs w).fenced P Fence.wide := fenced_calm (n := 3) trivial (room_wide _) rfl
  obtain ⟨e, a₁, w₁, hq, harr⟩ := h b (.inBlock id :: k) cs hro hb
  cases e with
  | normal => exact ⟨.normal, a₁, w₁, hq, .head h0 stepR_block (StepsIn.trans harr (.one (fenced_calm (n := 3) trivial (room_wide _) rfl) stepR_inBlock))⟩
  | panic ch => exact ⟨.panic ch, a₁, w₁, hq, .of_steps (.one h0 stepR_block) harr⟩
  | exit id' => exact hq.elim
  | goto l => exact hq.elim
  | ret => exact hq.elim
  | outgrown => exact hq.elim
/-- The statement 'for .. := range g', in that activation alone. -/
theorem wpAt_rangeFunc {g : Operand} {ps : Array Tmp} {assign body : Code} (n : Nat)
    (h : ∃ (l : Nat) (mark : List Deferred) (w₁ : World) (d : Deferred) (w₁' : World) (f' : FuncId) (args : Array Value) (w₂ : World),
      (Instr.enterLoop f a.tmps ps assign body none).run P w = .ok (l, mark) w₁ ∧
      (resolve a.eval (rangeCall g l) 0).run P w₁ = .ok d w₁' ∧
      (invoke d.target d.args).run P w₁' = .ok (.enter f' args) w₂ ∧
      CallsIn Fence.wide n P f' args w₂ (fun e w₃ => match e with
        | .returned _ => ∃ w₄, (Instr.endLoop l).run P w₃ = .ok none w₄ ∧ Q .normal { a with defers := mark ++ a.defers } w₄
        | .panicked chain => Q (.panic chain) { a with defers := mark ++ a.defers } w₃
        | .outgrown => False)) : wpAt f P (Code.rangeFunc g ps assign body) Q a w := by
  intro b k cs hro hb
  obtain ⟨l, mark, w₁, d, w₁', f', args, w₂, he, hres, hinv, hF, hcall⟩ := h
  have h0 : (lone (b.atR a (.code (.rangeFunc g ps assign body) :: k)) cs w).fenced P Fence.wide := fenced_lone (.inl trivial) (fun f' hf' => trivial) (room_wide _)
  have henter := stepR_rangeFunc (P := P) (b := b) (a := a) (k := k) (cs := cs) (w := w) (by rw [hro, hb]; exact he) hres hinv
  obtain ⟨e, w₃, fr, hR, hsteps, hfn, hleave⟩ := hcall (b.atR { a with defers := mark ++ a.defers } (.inRangeFunc l :: k) :: cs) (room_wide _)
  cases e with
  | outgrown => exact hR.elim
  | returned v =>
    have hl : (lone fr (b.atR { a with defers := mark ++ a.defers } (.inRangeFunc l :: k) :: cs) w₃).fenced P Fence.wide := fenced_leaving (n := 3) trivial (room_wide _) hleave
    obtain ⟨w₄, hend, hj⟩ := hR
    refine ⟨.normal, _, w₄, hj, ?_⟩
    refine .head h0 henter (StepsIn.trans hsteps (.head hl ?_ (.one (fenced_calm (n := 3) (fr := b.atR { a with defers := mark ++ a.defers } (.endRangeFunc l :: k)) trivial (room_wide _) rfl) (stepR_endRangeFunc hend))))
    rw [← finish_atR_inRangeFunc l v]; exact step_leave_returned hleave
  | panicked chain =>
    have hl : (lone fr (b.atR { a with defers := mark ++ a.defers } (.inRangeFunc l :: k) :: cs) w₃).fenced P Fence.wide := fenced_leaving (n := 3) trivial (room_wide _) hleave
    refine ⟨.panic chain, _, w₃, hR, .inRangeFunc l :: k, .head h0 henter (StepsIn.trans hsteps (.one hl ?_))⟩
    rw [← Frame.raise_atR]; exact step_leave_panicked hleave
theorem calls_of_wpAt {fn : Func} {c : Code} {args : Array Value} {R : Ending → World → Prop} (hf : P.funcs[f]? = some fn) (hb : fn.body = some c)
    (h : wpAt f P c (bodyPostM Fence.wide 3 P fn R) { tmps := args ++ Array.replicate (fn.ntmps - args.size) undef, defers := [] } w) : Calls P f args w R := by
  refine (callsIn_wide (n := 3)).1 ⟨trivial, fun cs hr => ?_⟩
  let b : Frame := { (default : Frame) with fn := f, kind := .normal, roundOf := none }
  have henter : Frame.enter P f args .normal =
      b.atR { tmps := args ++ Array.replicate (fn.ntmps - args.size) undef, defers := [] } [.code c] := by
    simp [Frame.enter, Frame.atR, hf, hb, b]
  obtain ⟨e, a', w', hq, harr⟩ := h b [] cs rfl rfl
  rw [← henter] at harr
  cases e with
  | normal =>
    obtain ⟨e', w'', fr', hR, hs, hfn, hl⟩ := leaves_stepsInM a'.defers .returning w' { b.atR a' [] with mode := .returning } cs rfl rfl rfl hf rfl trivial hr hq
    exact ⟨e', w'', fr', hR, ComesIn.of_steps (StepsIn.trans harr (.one (fenced_calm (fr := b.atR a' []) trivial hr rfl) (stepR_end rfl))) hs, hfn, hl⟩
  | ret =>
    obtain ⟨todo, hs₀⟩ := harr.1 rfl
    obtain ⟨e', w'', fr', hR, hs, hfn, hl⟩ := leaves_stepsInM a'.defers .returning w' { b.atR a' todo with mode := .returning } cs rfl rfl rfl hf rfl trivial hr hq
    exact ⟨e', w'', fr', hR, ComesIn.of_steps hs₀ hs, hfn, hl⟩
  | panic chain =>
    obtain ⟨todo, hs₀⟩ := harr
    obtain ⟨e', w'', fr', hR, hs, hfn, hl⟩ := leaves_stepsInM a'.defers (.panicking chain) w' { b.atR a' todo with mode := .panicking chain } cs rfl rfl rfl hf rfl trivial hr hq
    exact ⟨e', w'', fr', hR, ComesIn.of_steps hs₀ hs, hfn, hl⟩
  | exit id => exact hq.elim
  | goto l => exact hq.elim
  | outgrown => exact ⟨.outgrown, w', b, hq, harr.resolve_left (by simp [b]), rfl, trivial⟩
end
/-- A region in a round, by the plain walk. -/
theorem wpOpIn_of {l n : Nat} {P : Program} {ops : Array Oper} {Q : Exit → Act → World → Prop} (hd : ∀ (i : Nat) (o : Oper), ops[i]? = some o → ∀ c, o.op ≠ .defer c) (hlo : ¬ LetsOut Q) {i : Nat} {K K' : Act → World → Prop} (hK : ∀ a w, K a w → K' a w) {a : Act} {w : World} (h : wpOp P ops Q i K a w) : wpOpIn (Fence.wide.inRound l) n P ops Q i K' a w := by
  unfold wpOp at h
  unfold wpOpIn
  cases ho : ops[i]? with
  | none =>
    simp only [ho] at h ⊢
    exact hK _ _ h
  | some o =>
    simp only [ho] at h ⊢
    by_cases hw : Region.wanted o (yielded ops a.tmps) = true
    · simp only [hw, if_true] at h ⊢
      rcases h with h | ⟨_, hl⟩
      · refine ⟨fun f hf => trivial, ?_⟩
        rw [Oper.semAt_eq _ _ _ (hd i o ho)]
        unfold Oper.wp at h
        generalize (execOp a.eval o).run P w = r at *
        cases r with
        | ok x w' =>
          cases x <;> simp only [Oper.upon, Oper.uponIn] at h ⊢
          case value u => exact hK _ _ h
          case skip => exact hK _ _ h
          case defer d => exact hK _ _ h
          case enter f args =>
            refine ⟨fun hx => (by cases hx), (callsIn_wide (n := n - 1)).2 (h.mono fun e w'' he => ?_)⟩
            cases e with
            | returned u => exact hK _ _ he
            | panicked c => exact he
            | outgrown => exact he
          case row row args => exact ⟨fun hx => (by cases hx), fun c cs _ => let ⟨v, w2, hr, hs⟩ := h c cs; ⟨v, w2, hK _ _ hr, stepsIn_wide.2 hs⟩⟩
        | halt x w' => cases x <;> simp only [Oper.upon, Oper.uponIn] at h ⊢ <;> exact h
      · exact absurd hl hlo
    · simp only [hw] at h ⊢
      exact ⟨fun f hf => trivial, hK _ _ h⟩
theorem wpAnyIn_of {l n : Nat} {P : Program} {md : Region.Mode} {ops : Array Oper} {Q : Exit → Act → World → Prop} (hd : ∀ (i : Nat) (o : Oper), ops[i]? = some o → ∀ c, o.op ≠ .defer c) (hlo : ¬ LetsOut Q) : ∀ (fuel : Nat) (listed : Array Bool) (a : Act) (w : World), wpAny P md ops Q fuel listed a w → wpAnyIn (Fence.wide.inRound l) n P md ops Q fuel listed a w
  | 0, listed, a, w, h => h
  | fuel + 1, listed, a, w, h => ⟨h.1, fun i hi => wpOpIn_of hd hlo (fun a w h => wpAnyIn_of hd hlo fuel _ a w h) (h.2 i hi)⟩
theorem region_round {l n id : Nat} {P : Program} {ops : Array Oper} {Q : Exit → Act → World → Prop} {S : World → Prop} {a : Act} {w : World} (hm : P.follows .mixedOrders = true) (hd : ∀ (i : Nat) (o : Oper), ops[i]? = some o → ∀ c, o.op ≠ .defer c) (hlo : ¬ LetsOut Q)
    (hS : S w.drew) (h : S w.drew → wpAnyH P .any ops Q S ops.size (Array.replicate ops.size false) a w.drew) : (Code.region id ops true).wpIn (Fence.wide.inRound l) n P Q a w :=
  wpIn_region_any hm (wpAnyIn_of hd hlo _ _ _ _ (wpAny_of_held _ _ _ _ (h hS)))
end Go.Proofs.YtmeacgmjpjjphaaGreatDoor
namespace Go.Proofs.YtmeacgmjpjjphaaGreatDoor
open Go.RowKit Go.Shelf
open Tr (Nd TreeAt Own Ints)
attribute [local go_sem] Oper.semAt_some

set_option maxRecDepth 100000 in
set_option maxHeartbeats 4000000 in
theorem Backward_in (A : Option Addr) (n c : Nat) (w : World) : Calls Tryz.prog 48 #[.slice A n c] w fun e w' => e = .returned (.func (.func 79) #[] #[.pointer (some ⟨w.heap.size, 0, none⟩)]) ∧ w' = w.alloc (.cells #[.slice A n c] 67) := by
  have hmf : ∀ (fn : Fn) (first cap : Array Value) (w : World), (Instr.makeFunc fn first cap).run Tryz.prog w = .ok (.func fn first cap) w := fun _ _ _ _ => rfl
  go_enter Tryz.func48, Tryz.ntmps48
  go_wp2_with fail
  go_ret
  exact ⟨rfl, rfl⟩
set_option maxRecDepth 100000 in
set_option maxHeartbeats 4000000 in
theorem back1_in {J : Nat → World → Prop} {X : List PanicEntry → World → Prop} {l q : Nat} {A : Option Addr} {n cap : Nat} {mks : List Tok} {w : World} (hn : mks.length = n) (hn2 : n ≤ 70000)
    (hq : ∀ k W, J k W → W.cell? ⟨q, 0, none⟩ = some (.slice A n cap))
    (ht : ∀ k W, J (k + 1) W → k < n → ∃ g, A = some ⟨g, 0, none⟩ ∧ W.cell? ⟨g, k * 5, none⟩ = some (.int .i64 (mks.getD k zTok).kind) ∧ W.cell? ⟨g, k * 5 + 1, none⟩ = some (.string (mks.getD k zTok).text) ∧ W.cell? ⟨g, k * 5 + 2, none⟩ = some (.int .i64 (mks.getD k zTok).num) ∧ W.cell? ⟨g, k * 5 + 3, none⟩ = some (.int .i64 (mks.getD k zTok).line) ∧ W.cell? ⟨g, k * 5 + 4, none⟩ = some (.int .i64 (mks.getD k zTok).col))
    (hY : ∀ (m k : Nat) (W : World), k < n → J (k + 1) W → YieldAt Fence.wide m Tryz.prog l #[.int .i64 (k : Int), tokV (mks.getD k zTok)] W fun e W' => (e = .returned (.bool true) ∧ J k W') ∨ ∃ ch, e = .panicked ch ∧ X ch W')
    (h0 : J n w) :
    CallsIn Fence.wide 2 Tryz.prog 79 #[.func (.yield l) #[] #[], .pointer (some ⟨q, 0, none⟩)] w fun e W' => ((∃ v, e = .returned v) ∧ J 0 W') ∨ ∃ ch, e = .panicked ch ∧ X ch W' := by
  have HQ := Lib.hid hq
  have HT := Lib.hid ht
  have HY := Lib.hid hY
  have q0 := hq n w h0
  clear hq ht hY
  refine callsIn_of_wp Tryz.func79 rfl trivial ?_ rfl
  simp only [Tryz.ntmps79, List.size_toArray, List.length_cons, List.length_nil, Nat.reduceAdd, Nat.reduceSub, Array.replicate_succ, Array.replicate_zero, List.push_toArray, List.append_toArray, List.nil_append, List.cons_append]
  gi_wp2_with fail
  gi_loopw [3] (fun iv wr => ∃ k : Nat, k ≤ n ∧ iv = .int .i64 ((k : Int) - 1) ∧ J k wr) (fun iv _ => (intOf iv + 1).toNat)
  case atStart => exact ⟨n, Nat.le_refl _, rfl, h0⟩
  case round =>
    obtain ⟨k, hk, rfl, hj⟩ := hrel
    have q1 := HQ.out k wr hj
    clear q0 h0
    by_cases hk0 : k = 0
    · subst hk0
      gi_wp2_with fail
      go_end0
      exact .inl ⟨⟨_, rfl⟩, hj⟩
    · obtain ⟨j, rfl⟩ : ∃ j, k = j + 1 := ⟨k - 1, by omega⟩
      have hi0 : (0 : Int) ≤ (j : Int) := by omega
      obtain ⟨g, rfl, c0, c1, c2, c3, c4⟩ := HT.out j wr hj (by omega)
      obtain ⟨fn, tmps, assign, body, hy, hR⟩ := HY.out 1 j wr (by omega) hj
      have e1 : ((j + 1 : Nat) : Int) - 1 = (j : Int) := by omega
      have hjn : (j : Int) < (n : Int) := by omega
      rw [e1]
      unfold tokV at hy
      generalize mks.getD j zTok = x at *
      have HR := Lib.hid hR
      clear hR e1 hk0
      gi_wp2_with fail
      clear hy hj c0 c1 c2 c3 c4 q1
      refine HR.out.mono ?_
      rintro e W4 (⟨rfl, hj4⟩ | ⟨ch, rfl, hx⟩)
      · gi_wp2_with fail
        exact ⟨⟨j, by omega, rfl, hj4⟩, by simp [intOf]⟩
      · gi_wp2_with fail
        exact ⟨rfl, .inr ⟨ch, rfl, hx⟩⟩
/-- How a round may be left. -/
def postB (J : Nat → World → Prop) (X : List PanicEntry → World → Prop) (k : Nat) (W : World) : Exit → Act → World → Prop
  | .normal, _, W' => KeepsOthers W W' ∧ J k W'
  | .panic ch, a, W' => a.defers = [] ∧ KeepsOthers W W' ∧ X ch W'
  | _, _, _ => False
theorem yield_any {m m' : Nat} {P : Program} {l : Nat} {args : Array Value} {W : World} {R : Ending → World → Prop} (h : YieldAt Fence.wide m P l args W R) : YieldAt Fence.wide m' P l args W R := by
  obtain ⟨fn, tmps, assign, body, hy, hR⟩ := h
  exact ⟨fn, tmps, assign, body, hy, hR.1, fun c cs _ => hR.2 c cs (room_wide _)⟩
set_option maxHeartbeats 4000000 in
/-- A range over tokens, from the end. -/
theorem back_at {f : FuncId} {fn0 : Func} (hf : Tryz.prog.funcs[f]? = some fn0) {g : Operand} {ps : Array Tmp} {assign body : Code} {Q : Exit → Act → World → Prop} {a : Act} {w : World} {q n cap : Nat} {A : Option Addr} {mks : List Tok}
    (hg : a.eval g = .func (.func 79) #[] #[.pointer (some ⟨q, 0, none⟩)]) (hps : ps.size = 2) (hn : mks.length = n) (hn2 : n ≤ 70000)
    (J : Nat → World → Prop) (X : List PanicEntry → World → Prop) (Mid : Nat → Act → World → Prop)
    (hJ : ∀ k W o o', W.heap[w.heap.size + 1]? = some o → o.isCells = false → J k W → J k (W.putObj (w.heap.size + 1) o')) (hM : ∀ k a W o o', W.heap[w.heap.size + 1]? = some o → o.isCells = false → Mid k a W → Mid k a (W.putObj (w.heap.size + 1) o'))
    (hgrow : ∀ k W o, J k W → J k (W.alloc o))
    (hq : ∀ k W, J k W → W.cell? ⟨q, 0, none⟩ = some (.slice A n cap))
    (ht : ∀ k W, J (k + 1) W → k < n → ∃ g, A = some ⟨g, 0, none⟩ ∧ W.cell? ⟨g, k * 5, none⟩ = some (.int .i64 (mks.getD k zTok).kind) ∧ W.cell? ⟨g, k * 5 + 1, none⟩ = some (.string (mks.getD k zTok).text) ∧ W.cell? ⟨g, k * 5 + 2, none⟩ = some (.int .i64 (mks.getD k zTok).num) ∧ W.cell? ⟨g, k * 5 + 3, none⟩ = some (.int .i64 (mks.getD k zTok).line) ∧ W.cell? ⟨g, k * 5 + 4, none⟩ = some (.int .i64 (mks.getD k zTok).col))
    (h0 : J n w)
    (hassign : ∀ (l k : Nat) (W : World) (K : Act → World → Prop), k < n → J (k + 1) W → (∀ a' W', KeepsOthers W W' → Mid k a' W' → K a' W') →
      assign.wpIn (Fence.wide.inRound l) 1 Tryz.prog (Exit.then K (fun _ _ _ => False)) { tmps := (ps.zip #[.int .i64 (k : Int), tokV (mks.getD k zTok)]).foldl (fun t (p, v) => t.setIfInBounds p v) a.tmps, defers := [] } W)
    (hbody : ∀ (l k : Nat) (a' : Act) (W : World), Mid k a' W → body.wpIn (Fence.wide.inRound l) 1 Tryz.prog (postB J X k W) a' W)
    (hdone : ∀ W, J 0 W → W.heap[w.heap.size]? = some (.deferred (some [])) → Q .normal { a with defers := { target := .collected w.heap.size, args := #[] } :: a.defers } W)
    (hpan : ∀ ch W, X ch W → W.heap[w.heap.size]? = some (.deferred (some [])) → Q (.panic ch) { a with defers := { target := .collected w.heap.size, args := #[] } :: a.defers } W) :
    wpAt f Tryz.prog (Code.rangeFunc g ps assign body) Q a w := by
  obtain ⟨rec, hrec⟩ : ∃ rec : LoopState → Option Code → Loop, rec = fun st pe => { state := st, pending := pe, fn := f, tmps := a.tmps, params := ps, assign, body, defers := w.heap.size } := ⟨_, rfl⟩
  obtain ⟨W1, hW1⟩ : ∃ W1, (w.alloc (.deferred (some []))).alloc (.loop (rec .ready none)) = W1 := ⟨_, rfl⟩
  have hL1 : W1.heap[w.heap.size + 1]? = some (.loop (rec .ready none)) := by
    rw [← hW1]; have := last (w.alloc (.deferred (some []))) (.loop (rec .ready none)); simpa using this
  have hK1 : W1.heap[w.heap.size]? = some (.deferred (some [])) := by
    rw [← hW1, Below.heap_alloc _ _ _ (by simp)]; exact last w _
  have hj1 : J n W1 := by rw [← hW1]; exact hgrow _ _ _ (hgrow _ _ _ h0)
  have eg := enters_of Tryz.func79 (by kernel_rfl) rfl
  refine wpAt_rangeFunc 2 ⟨w.heap.size + 1, [{ target := .collected w.heap.size, args := #[] }], W1, { target := .fn (.func 79) #[.pointer (some ⟨q, 0, none⟩)], args := #[.func (.yield (w.heap.size + 1)) #[] #[]] }, W1, 79,
    #[.func (.yield (w.heap.size + 1)) #[] #[]] ++ #[.pointer (some ⟨q, 0, none⟩)], W1, ?_, ?_, ?_, ?_⟩
  · rw [← hW1, hrec]; exact run_enterLoop_outer _ _ _ _ _
  · simp only [resolve, hg]
    simp [go_sem]
  · simp [invoke, go_sem, eg]
  · refine (back1_in (J := fun k W => J k W ∧ W.heap[w.heap.size + 1]? = some (.loop (rec .ready none)) ∧ W.heap[w.heap.size]? = some (.deferred (some []))) (X := fun ch W => X ch W ∧ W.heap[w.heap.size]? = some (.deferred (some []))) hn hn2 (fun k W h => hq k W h.1) (fun k W h hk => ht k W h.1 hk) ?_ ⟨hj1, hL1, hK1⟩).mono ?_
    · -- a round
      rintro m k W hk ⟨hj, hl, hd⟩
      have hy := run_yield (P := Tryz.prog) (args := #[.int .i64 (k : Int), tokV (mks.getD k zTok)]) hl (by rw [hrec]; exact hps.symm)
      rw [hrec] at hy
      refine yield_any (m := 1) ⟨f, _, assign, body, hy, roundIn_of_wpInP trivial hf (hassign _ k W _ hk hj ?_)⟩
      clear hy
      intro a' Wa hka hmid
      have hl := hka.same _ _ hl rfl
      have hd := hka.same _ _ hd rfl
      refine ⟨_, run_beginRound hl (by rw [hrec]), ?_⟩
      have hl2 : (Wa.putObj (w.heap.size + 1) (.loop { rec .ready none with state := .busy })).heap[w.heap.size + 1]? = some (.loop { rec .ready none with state := .busy }) := World.putObj_heap_same (heap_lt hl)
      have hd2 : (Wa.putObj (w.heap.size + 1) (.loop { rec .ready none with state := .busy })).heap[w.heap.size]? = some (.deferred (some [])) := (World.putObj_heap_other (by omega)).trans hd
      refine wpIn_mono (hbody _ k a' _ (hM _ _ _ _ _ hl rfl hmid)) ?_
      rintro e a3 W3 hp
      cases e with
      | normal =>
        obtain ⟨hk3, hj3⟩ := hp
        have hl3 := hk3.same _ _ hl2 rfl
        have he := run_endRound (P := Tryz.prog) none hl3
        rw [hrec] at he
        refine ⟨_, _, he, .inl ⟨rfl, hJ _ _ _ _ hl3 rfl hj3, ?_, ?_⟩⟩
        · rw [hrec]
          exact World.putObj_heap_same (heap_lt hl3)
        · exact (World.putObj_heap_other (by omega)).trans (hk3.same _ _ hd2 rfl)
      | panic ch =>
        obtain ⟨hdf, hk3, hx3⟩ := hp
        exact ⟨hdf, .inr ⟨ch, rfl, hx3, hk3.same _ _ hd2 rfl⟩⟩
      | ret => exact hp.elim
      | exit id => exact hp.elim
      | goto t => exact hp.elim
      | outgrown => exact hp.elim
    · rintro e W2 (⟨⟨v, rfl⟩, hj, hl, hd⟩ | ⟨ch, rfl, hx, hd⟩)
      · have he := run_endLoop (P := Tryz.prog) hl (by rw [hrec]; simp)
        rw [hrec] at he
        exact ⟨_, he, hdone _ (hJ _ _ _ _ hl rfl hj) ((World.putObj_heap_other (by omega)).trans hd)⟩
      · exact hpan ch W2 hx hd
end Go.Proofs.YtmeacgmjpjjphaaGreatDoor
namespace Go.Proofs.YtmeacgmjpjjphaaGreatDoor
open Go.RowKit Go.Shelf
open Tr (Nd TreeAt Own Ints)

theorem own_one {w : World} {B : Nat} (hb : B ≤ w.heap.size) (a : Int) : Tr.Own (w.alloc (.cells #[.int .i64 a] 3)) B (.slice (some ⟨w.heap.size, 0, none⟩) 1 1) [a] :=
  ⟨rfl, .inr ⟨w.heap.size, 1, #[.int .i64 a], rfl, hb, heap_alloc_new w _, Nat.le_refl _, by decide, rfl, rfl⟩⟩
theorem cells_ne {W : World} {r k : Nat} {o : Obj} {c : Array Value} {e : TypeId} (h : W.heap[r]? = some o) (hc : o.isCells = false) (hk : W.heap[k]? = some (.cells c e)) : k ≠ r := fun e' => by
  rw [e', h] at hk
  have := Option.some.inj hk
  rw [this] at hc
  cases hc
theorem Mv.others {b t : Nat} {v v' : Value} {w w' : World} {B : Nat} {tv : Value} {ts l : List Tok} {d : Int} {ms : List (Nd × Value)} (m : Mv b t v w v' w') (hr : RdrAt B b t tv ts l d v ms w) : KeepsOthers w w' :=
  ⟨m.size, fun k o hk hc => (m.block k (heap_lt hk) (fun e => by obtain ⟨c, hb⟩ := hr.blk; exact cells_ne hk hc hb e.symm) (fun e => cells_ne hk hc hr.tree.obj e.symm) (fun e => by obtain ⟨c, hb⟩ := own_at hr.tree.rows e; exact cells_ne hk hc hb rfl)).trans hk⟩
theorem RdrAt.kept {B b t : Nat} {tv : Value} {ts l : List Tok} {d : Int} {v : Value} {ms : List (Nd × Value)} {w w' : World} (h : RdrAt B b t tv ts l d v ms w) (hk : ∀ (k : Nat) (c : Array Value) (e : TypeId), w.heap[k]? = some (Obj.cells c e) → w'.heap[k]? = some (Obj.cells c e)) : RdrAt B b t tv ts l d v ms w' := by
  obtain ⟨n, h1, h2⟩ := h.obj
  have row : ∀ {B' e s m : Nat} {u : Value} {xs : List Value}, w.ownsRow B' e s u m xs → w'.ownsRow B' e s u m xs := fun hr => Tr.owns_block hr fun g hg => by
    obtain ⟨c, hc⟩ := own_at hr hg
    rw [hk g c _ hc, hc]
  exact ⟨h.base, ⟨n, h1, hk _ _ _ h2⟩, h.suf, row h.toks, ⟨h.tree.base, hk _ _ _ h.tree.obj, row h.tree.rows, fun p hp => row (h.tree.kid p hp)⟩, h.pre, h.few⟩
theorem Mv.put {b t : Nat} {v v' : Value} {w w' : World} (m : Mv b t v w v' w') {r : Nat} (hr : w.heap.size ≤ r) (o : Obj) : Mv b t v w v' (w'.putObj r o) :=
  ⟨m.os, m.tape, m.output, by rw [World.putObj_size]; exact m.size, fun k hk h1 h2 h3 => (World.putObj_heap_other (by omega)).trans (m.block k hk h1 h2 h3), m.own⟩
/-- No part of a node lies in block g. -/
def Free (ms : List (Nd × Value)) (g : Nat) : Prop := ∀ p ∈ ms, p.2.ownBlock ≠ some g
theorem Free.move {ms ms' : List (Nd × Value)} {w : World} {g : Nat} (h : Free ms g) (k : Kn ms w ms') (hg : g < w.heap.size) : Free ms' g := fun p hp e => by
  rcases k p hp with h1 | h1
  · obtain ⟨p', hp', e'⟩ := List.mem_map.1 h1
    exact h p' hp' (by rw [e']; exact e)
  · have := h1 g e
    omega
theorem TreeAt.free {w : World} {B t : Nat} {v : Value} {ms : List (Nd × Value)} (h : TreeAt w B t v ms) {g : Nat} (hg : w.heap.size ≤ g) : Free ms g := fun p hp e => by
  have := ((h.kid p hp).lt g e).2
  omega
/-- Where all stands: its blocks, what it has collected. -/
structure AllAt (w0 : World) (B b t : Nat) (tv : Value) (ts l : List Tok) (d : Int) (v : Value) (ms : List (Nd × Value)) (q3 : Nat) (js : List Int) (mks : List Tok) (lv mv : Value) (v' : Value) (ms' : List (Nd × Value)) (wr : World) : Prop where
  rd : RdrAt B b t tv ts l d v' ms' wr
  moved : Mw b t v ms w0 v' ms' wr
  old : ∀ g, tv.ownBlock = some g → g < w0.heap.size
  box : wr.heap[w0.heap.size]? = some (.cells #[.pointer (some ⟨b, 0, none⟩)] 28)
  qlt : w0.heap.size < q3
  lvar : wr.heap[q3]? = some (.cells #[lv] 51)
  lrow : Tr.Own wr w0.heap.size lv js
  lfree : ∀ g, lv.ownBlock = some g → Free ms' g
  mrow : wr.ownsRow w0.heap.size 35 5 mv mks.length (rowsT mks)
section
variable {w0 : World} {B b t : Nat} {tv : Value} {ts l l' : List Tok} {d d' : Int} {v : Value} {ms : List (Nd × Value)} {q3 : Nat} {js : List Int} {mks : List Tok} {lv mv : Value} {v' v'' : Value} {ms' ms'' : List (Nd × Value)} {wr w2 : World}
theorem AllAt.move (h : AllAt w0 B b t tv ts l d v ms q3 js mks lv mv v' ms' wr) (hr : RdrAt B b t tv ts l' d' v'' ms'' w2) (hm : Mw b t v' ms' wr v'' ms'' w2) : AllAt w0 B b t tv ts l' d' v ms q3 js mks lv mv v'' ms'' w2 :=
  ⟨hr, h.moved.trans hm, h.old, hm.keep h.rd h.box (by decide) (by decide) (by decide), h.qlt, hm.keep h.rd h.lvar (by decide) (by decide) (by decide), hm.row h.rd h.lrow (by decide) (by decide) (by decide), fun g hg => (h.lfree g hg).move hm.kn (h.lrow.lt g hg).2, hm.row h.rd h.mrow (by decide) (by decide) (by decide)⟩
theorem AllAt.under (h : AllAt w0 B b t tv ts l d v ms q3 js mks lv mv v' ms' wr) (hb : Below wr.heap.size wr w2) : AllAt w0 B b t tv ts l d v ms q3 js mks lv mv v' ms' w2 := h.move (h.rd.under hb) (Mw.of hb)
theorem AllAt.step (h : AllAt w0 B b t tv ts l d v ms q3 js mks lv mv v' ms' wr) (hk : (hdT l).kind ≠ 0) {n : Nat} (hn : n + l.length = ts.length) : AllAt w0 B b t tv ts l.tail d v ms q3 js mks lv mv v' ms' (wr.setCell ⟨b, 2, none⟩ (.int .i64 ((n : Int) + 1))) :=
  h.move (h.rd.step hk hn) (Mw.same ((Mv.refl b t v' wr).set 2 _))
theorem AllAt.put (h : AllAt w0 B b t tv ts l d v ms q3 js mks lv mv v' ms' wr) {r : Nat} {o : Obj} (hr : w0.heap.size ≤ r) (ho : wr.heap[r]? = some o) (hc : o.isCells = false) (o' : Obj) : AllAt w0 B b t tv ts l d v ms q3 js mks lv mv v' ms' (wr.putObj r o') := by
  have hk : ∀ (k : Nat) (c : Array Value) (e : TypeId), wr.heap[k]? = some (Obj.cells c e) → (wr.putObj r o').heap[k]? = some (Obj.cells c e) := fun k c e hk => (World.putObj_heap_other (cells_ne ho hc hk)).trans hk
  have row : ∀ {B' e s m : Nat} {u : Value} {xs : List Value}, wr.ownsRow B' e s u m xs → (wr.putObj r o').ownsRow B' e s u m xs := fun hr => Tr.owns_block hr fun g hg => by
    obtain ⟨c, hc⟩ := own_at hr hg
    rw [hk g c _ hc, hc]
  exact ⟨h.rd.kept hk, ⟨h.moved.toMv.put hr o', h.moved.kn⟩, h.old, hk _ _ _ h.box, h.qlt, hk _ _ _ h.lvar, row h.lrow, h.lfree, row h.mrow⟩
/-- What lies elsewhere lies on. -/
theorem AllAt.turned (h : AllAt w0 B b t tv ts l d v ms q3 js mks lv mv v' ms' wr) {r : Nat} {c0 : Array Value} {e0 : TypeId} (hr : w0.heap.size < r) (hc0 : wr.heap[r]? = some (.cells c0 e0)) (h1 : e0 ≠ 69) (h2 : e0 ≠ 88) (h3 : e0 ≠ 53) (h4 : tv.ownBlock ≠ some r) (hf : Free ms' r)
    (hs : wr.heap.size ≤ w2.heap.size) (ho : w2.os = wr.os) (ht : w2.tape = wr.tape) (hp : w2.output = wr.output) (hk : ∀ k, k < wr.heap.size → k ≠ r → w2.heap[k]? = wr.heap[k]?) :
    RdrAt B b t tv ts l d v' ms' w2 ∧ Mw b t v ms w0 v' ms' w2 := by
  have kp : ∀ {k : Nat} {c : Array Value} {e : TypeId}, wr.heap[k]? = some (.cells c e) → k ≠ r → w2.heap[k]? = some (.cells c e) := fun hk' hn => (hk _ (heap_lt hk') hn).trans hk'
  have ne : ∀ {k : Nat} {c : Array Value} {e : TypeId}, wr.heap[k]? = some (.cells c e) → e ≠ e0 → k ≠ r := fun hk' he e' => by
    rw [e', hc0] at hk'
    simp at hk'
    exact he hk'.2.symm
  have row : ∀ {B' e s m : Nat} {u : Value} {xs : List Value}, wr.ownsRow B' e s u m xs → u.ownBlock ≠ some r → w2.ownsRow B' e s u m xs := fun hr' hn => Tr.owns_block hr' fun g hg => by
    obtain ⟨c, hc⟩ := own_at hr' hg
    rw [kp hc (fun e => hn (e ▸ hg)), hc]
  obtain ⟨n, g1, g2⟩ := h.rd.obj
  refine ⟨⟨h.rd.base, ⟨n, g1, kp g2 (ne g2 h1.symm)⟩, h.rd.suf, row h.rd.toks h4, ⟨h.rd.tree.base, kp h.rd.tree.obj (ne h.rd.tree.obj h2.symm), row h.rd.tree.rows fun e => ?_, fun p hp => row (h.rd.tree.kid p hp) (hf p hp)⟩, h.rd.pre, h.rd.few⟩, ⟨⟨ho.trans h.moved.os, ht.trans h.moved.tape, hp.trans h.moved.output, Nat.le_trans h.moved.size hs, fun k hk' a1 a2 a3 => ?_, h.moved.own⟩, h.moved.kn⟩⟩
  · obtain ⟨c, hc⟩ := own_at h.rd.tree.rows e
    rw [hc0] at hc
    simp at hc
    exact h3 hc.2
  · exact (hk k (Nat.lt_of_lt_of_le hk' h.moved.size) (by omega)).trans (h.moved.block k hk' a1 a2 a3)
end
theorem m_panic {F : Fence} {n : Nat} {P : Program} {fn : Func} {R : Ending → World → Prop} {ch : List PanicEntry} {tmps : Array Value} {w : World} (h : R (.panicked ch) w) : bodyPostM F n P fn R (.panic ch) { tmps := tmps, defers := [] } w := h
end Go.Proofs.YtmeacgmjpjjphaaGreatDoor
