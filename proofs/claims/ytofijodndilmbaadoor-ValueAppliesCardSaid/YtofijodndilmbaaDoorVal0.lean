/- Values, and how they lie in memory. -/
import Derived.Test.YtofijodndilmbaaDoorProg
import Derived.WalkKit
import Derived.WalkLawsBesides
import Derived.WalkSpells
import Derived.Deep.QuietTactic
import Derived.BigQuiet
import Derived.BigRegion
import Derived.RegionTactic
import Derived.Deep.RegionWith
import Derived.Deep.RegionHeld3
import Derived.Deep.AppendLies
import Derived.Deep.RegionLawGrows
import Derived.Deep.LoopGhost
import Derived.Deep.DeepCutAuto
import Derived.Deep.OwnRows
import Derived.StillTailTactics
import Derived.Lib.Hide
set_option linter.unusedVariables false
set_option linter.unusedSimpArgs false
namespace Go.Proofs.YtofijodndilmbaaDoor
open Go.RowKit

theorem add_at {b off n : Nat} : (⟨b, off, none⟩ : Addr).add n = ⟨b, off + n, none⟩ := by
  unfold Addr.add; split
  · rename_i h; subst h; rfl
  · rfl
theorem cell_lt {w : World} {a : Addr} {v : Value} (h : w.cell? a = some v) : a.block < w.heap.size := by
  unfold World.cell? at h
  cases hh : w.heap[a.block]? with
  | none => rw [hh] at h; cases h
  | some o => exact (Array.getElem?_eq_some_iff.1 hh).1
theorem heap_lt {w : World} {b : Nat} {o : Obj} (h : w.heap[b]? = some o) : b < w.heap.size := (Array.getElem?_eq_some_iff.1 h).1
theorem frozenOf {w : World} {b : Nat} {cs : Array Value} {t : TypeId} (h : w.heap[b]? = some (.cells cs t)) (i : Nat) : w.frozen? ⟨b, i, none⟩ = false := by simp [World.frozen?, h]
theorem last (W : World) (o : Obj) : (W.alloc o).heap[W.heap.size]? = some o := by simp only [World.alloc, Array.getElem?_push]; simp
theorem cell_alloc {w : World} {a : Addr} {v : Value} (h : w.cell? a = some v) (o : Obj) : (w.alloc o).cell? a = some v := (World.cell?_of_block (Below.heap_alloc w o a.block (cell_lt h))).trans h
theorem cellsOf3 {w : World} {b : Nat} {x0 x1 x2 : Value} {t : TypeId} (h : w.heap[b]? = some (.cells #[x0, x1, x2] t)) : w.cell? ⟨b, 0, none⟩ = some x0 ∧ w.cell? ⟨b, 1, none⟩ = some x1 ∧ w.cell? ⟨b, 2, none⟩ = some x2 := by
  refine ⟨?_, ?_, ?_⟩ <;> simp only [World.cell?, h] <;> rfl

/-- A value: its op, its number, its parts. -/
inductive V where
  | mk (op : ByteArray) (num : Int) (kids : List V)
instance : Inhabited V := ⟨.mk ByteArray.empty 0 []⟩
def V.op : V → ByteArray
  | .mk o _ _ => o
def V.num : V → Int
  | .mk _ n _ => n
def V.kids : V → List V
  | .mk _ _ k => k
theorem V.kid_lt (v : V) {i : Nat} (hi : i < v.kids.length) : SizeOf.sizeOf (v.kids.getD i default) < SizeOf.sizeOf v := by
  cases v with
  | mk o n k =>
    simp only [V.kids] at *
    have hm : k.getD i default ∈ k := by
      simp only [List.getD, List.getElem?_eq_getElem hi, Option.getD_some]
      exact List.getElem_mem hi
    have := List.sizeOf_lt_of_mem hm
    simp only [V.mk.sizeOf_spec]
    omega
/-- A value's parts lie where the slice s says. -/
inductive At (w : World) : V → Value → Prop
  | leaf {o : ByteArray} {n : Int} {A : Option Addr} {cap : Nat} : At w (.mk o n []) (.slice A 0 cap)
  | node {o : ByteArray} {n : Int} {ks : List V} {b off cap : Nat} (ss : Nat → Value) :
      ks.length ≤ 2932031007317 → (∀ i, i < ks.length → w.cell? ⟨b, off + i * 3, none⟩ = some (.string (ks.getD i default).op) ∧ w.cell? ⟨b, off + i * 3 + 1, none⟩ = some (.int .i64 (ks.getD i default).num) ∧ w.cell? ⟨b, off + i * 3 + 2, none⟩ = some (ss i)) →
      (∀ i, i < ks.length → At w (ks.getD i default) (ss i)) → At w (.mk o n ks) (.slice (some ⟨b, off, none⟩) ks.length cap)
/-- A value as it is handed on. -/
def aggV (v : V) (s : Value) : Value := .agg #[.string v.op, .int .i64 v.num, s]
theorem At.inv {w : World} {v : V} {s : Value} (h : At w v s) : ∃ A cap, s = .slice A v.kids.length cap ∧ v.kids.length ≤ 2932031007317 ∧
    ∀ i, i < v.kids.length → ∃ b off si, A = some ⟨b, off, none⟩ ∧ (w.cell? ⟨b, off + i * 3, none⟩ = some (.string (v.kids.getD i default).op) ∧ w.cell? ⟨b, off + i * 3 + 1, none⟩ = some (.int .i64 (v.kids.getD i default).num) ∧ w.cell? ⟨b, off + i * 3 + 2, none⟩ = some si) ∧ At w (v.kids.getD i default) si := by
  cases h with
  | leaf => exact ⟨_, _, rfl, by simp [V.kids], fun i hi => by simp [V.kids] at hi⟩
  | node ss h0 h1 h2 => exact ⟨_, _, rfl, h0, fun i hi => ⟨_, _, ss i, rfl, h1 i hi, h2 i hi⟩⟩
theorem At.same {w w' : World} {v : V} {s : Value} (h : At w v s) (hb : ∀ k, k < w.heap.size → w'.heap[k]? = w.heap[k]?) : At w' v s := by
  induction h with
  | leaf => exact .leaf
  | node ss h0 h1 h2 ih =>
    refine .node ss h0 (fun i hi => ?_) (fun i hi => ih i hi)
    obtain ⟨a, b, c⟩ := h1 i hi
    exact ⟨(World.cell?_of_block (hb _ (cell_lt a))).trans a, (World.cell?_of_block (hb _ (cell_lt b))).trans b, (World.cell?_of_block (hb _ (cell_lt c))).trans c⟩
theorem At.under {w w' : World} {v : V} {s : Value} (h : At w v s) (hb : Below w.heap.size w w') : At w' v s := h.same hb.block
theorem At.alloc {w : World} {v : V} {s : Value} (h : At w v s) (o : Obj) : At (w.alloc o) v s := h.same fun k hk => Below.heap_alloc w o k hk

abbrev lI : List UInt8 := [105, 110, 116]
abbrev lT : List UInt8 := [116, 114, 117, 101]
abbrev lF : List UInt8 := [102, 97, 108, 115, 101]
abbrev lU : List UInt8 := [117, 110, 105, 116]
abbrev lP : List UInt8 := [112, 97, 105, 114]
theorem int_eq (L k : Nat) : ((L : Int) == (k : Int)) = decide (L = k) := by
  by_cases h : L = k
  · subst h; simp
  · rw [decide_eq_false h]
    have : ¬ (L : Int) = k := by omega
    simpa using this
theorem int_eq0 (L : Nat) : ((L : Int) == 0) = decide (L = 0) := int_eq L 0
/-- Whether a value is right, N deep. -/
def rightF : Nat → V → Bool
  | 0, _ => false
  | N + 1, v => if v.op.toList == lI then decide (v.kids.length = 0) else if v.op.toList == lT || v.op.toList == lF || v.op.toList == lU then decide (v.num = 0) && decide (v.kids.length = 0) else
      if v.op.toList == lP then decide (v.num = 0) && decide (v.kids.length = 2) && rightF N (v.kids.getD 0 default) && rightF N (v.kids.getD 1 default) else false

set_option maxRecDepth 100000 in
set_option maxHeartbeats 8000000 in
theorem Right_in : ∀ (N : Nat) (w : World) (v : V) (s : Value), SizeOf.sizeOf v ≤ N → At w v s →
    Calls Tryd.prog 15 #[aggV v s] w fun e w' => e = .returned (.bool (rightF N v)) ∧ Below w.heap.size w w' := by
  intro N
  induction N with
  | zero =>
    intro w v s h
    cases v
    simp only [V.mk.sizeOf_spec] at h
    omega
  | succ N ih =>
    intro w v s hN h
    obtain ⟨A, cap, rfl, _, hk⟩ := h.inv
    have hb0 := (Below.refl w.heap.size w).alloc (Nat.le_refl _) (.cells #[.string v.op, .int .i64 v.num, .slice A v.kids.length cap] 24)
    have HB := Lib.hid hb0
    have hl0 := last w (.cells #[.string v.op, .int .i64 v.num, .slice A v.kids.length cap] 24)
    have HL := Lib.hid hl0
    have HK := Lib.hid hk
    have IH := Lib.hid ih
    have HS := Lib.hid (fun (i : Nat) (hi : i < v.kids.length) => v.kid_lt hi)
    have HN := Lib.hid hN
    clear hk ih hN h hb0 hl0
    unfold aggV rightF
    generalize hop : v.op = op at *
    generalize hnum : v.num = num at *
    generalize hkl : v.kids.length = L at *
    have HO := Lib.hid (And.intro hop (And.intro hnum hkl))
    clear hop hnum hkl
    go_enter Tryd.func15, Tryd.ntmps15
    cases h1 : (op.toList == lI) with
    | true =>
      simp only [if_true]
      go_wp2_with fail
      go_ret
      exact ⟨by simp [int_eq0], HB.out⟩
    | false =>
      cases h2 : (op.toList == lT) with
      | true =>
        simp only [Bool.true_or, if_true, Bool.false_eq_true, if_false]
        by_cases hn : num = 0
        · subst hn
          go_wp2_with fail
          go_ret
          exact ⟨by simp [int_eq0], HB.out⟩
        · have hn' : decide (num = 0) = false := decide_eq_false hn
          go_wp2_with fail
          go_ret
          exact ⟨by simp [hn, int_eq0], HB.out⟩
      | false =>
        cases h3 : (op.toList == lF) with
        | true =>
          simp only [Bool.true_or, Bool.or_true, Bool.false_or, if_true, Bool.false_eq_true, if_false]
          by_cases hn : num = 0
          · subst hn
            go_wp2_with fail
            go_ret
            exact ⟨by simp [int_eq0], HB.out⟩
          · have hn' : decide (num = 0) = false := decide_eq_false hn
            go_wp2_with fail
            go_ret
            exact ⟨by simp [hn, int_eq0], HB.out⟩
        | false =>
          cases h4 : (op.toList == lU) with
          | true =>
            simp only [Bool.true_or, Bool.or_true, Bool.false_or, if_true, Bool.false_eq_true, if_false]
            by_cases hn : num = 0
            · subst hn
              go_wp2_with fail
              go_ret
              exact ⟨by simp [int_eq0], HB.out⟩
            · have hn' : decide (num = 0) = false := decide_eq_false hn
              go_wp2_with fail
              go_ret
              exact ⟨by simp [hn, int_eq0], HB.out⟩
          | false =>
            cases h5 : (op.toList == lP) with
            | true =>
              simp only [Bool.or_self, if_true, Bool.false_eq_true, if_false]
              by_cases hn : num = 0
              · subst hn
                by_cases hL : L = 2
                · subst hL
                  obtain ⟨b, off, s0, hA, ⟨a1, a2, a3⟩, hat0⟩ := HK.out 0 (by decide)
                  obtain ⟨b', off', s1, hA', ⟨c1, c2, c3⟩, hat1⟩ := HK.out 1 (by decide)
                  subst hA
                  obtain ⟨rfl, rfl⟩ : b' = b ∧ off' = off := by
                    have := hA'.symm
                    simpa using this
                  have hs0 := HS.out 0 (by decide)
                  have hs1 := HS.out 1 (by decide)
                  have hN' := HN.out
                  have hbl := cell_lt a1
                  simp only [Nat.zero_mul, Nat.add_zero, Nat.one_mul] at a1 a2 a3 c1 c2 c3
                  have hc0 := IH.out (w.alloc (.cells #[.string op, .int .i64 0, .slice (some ⟨b', off', none⟩) 2 cap] 24)) (v.kids.getD 0 default) s0 (by omega) (hat0.alloc _)
                  have HC1 := Lib.hid (fun w' (hb : Below w.heap.size w w') => IH.out w' (v.kids.getD 1 default) s1 (by omega) (hat1.same hb.block))
                  have HCC := Lib.hid (And.intro c1 (And.intro c2 c3))
                  clear hA' hs0 hs1 hN' hat0 hat1
                  unfold aggV at hc0
                  generalize v.kids.getD 0 default = k0 at *
                  generalize v.kids.getD 1 default = k1 at *
                  generalize hr0 : rightF N k0 = r0 at *
                  generalize hr1 : rightF N k1 = r1 at *
                  clear hr0 hr1
                  go_wp2_with fail
                  refine hc0.mono ?_
                  clear hc0
                  rintro e w3 ⟨rfl, hb3⟩
                  have hB3 := HB.out.trans (hb3.mono (by simp))
                  have hl3 := (hb3.block _ (by simp)).trans HL.out
                  obtain ⟨p0, p1, p2⟩ := cellsOf3 hl3
                  have hc1 := HC1.out w3 hB3
                  unfold aggV at hc1
                  have d1 := (World.cell?_of_block (hB3.block _ hbl)).trans c1
                  have d2 := (World.cell?_of_block (hB3.block _ hbl)).trans c2
                  have d3 := (World.cell?_of_block (hB3.block _ hbl)).trans c3
                  have HB3 := Lib.hid hB3
                  clear hb3 hB3 hl3 a1 a2 a3 c1 c2 c3
                  cases r0 with
                  | false =>
                    go_wp2_with fail
                    go_ret
                    exact ⟨by simp, HB3.out⟩
                  | true =>
                    go_wp2_with fail
                    refine hc1.mono ?_
                    clear hc1
                    rintro e w4 ⟨rfl, hb4⟩
                    have HB4 := Lib.hid (HB3.out.trans (hb4.mono HB3.out.size))
                    clear hb4
                    go_wp2_with fail
                    go_ret
                    exact ⟨by simp, HB4.out⟩
                · have hL' : ((L : Int) == 2) = false := by
                    rw [show (2 : Int) = ((2 : Nat) : Int) from rfl, int_eq]
                    exact decide_eq_false hL
                  go_wp2_with fail
                  go_ret
                  exact ⟨by simp [hL], HB.out⟩
              · have hn' : decide (num = 0) = false := decide_eq_false hn
                go_wp2_with fail
                go_ret
                exact ⟨by simp [hn], HB.out⟩
            | false =>
              simp only [Bool.or_self, if_true, Bool.false_eq_true, if_false]
              go_wp2_with fail
              go_ret
              exact ⟨by simp, HB.out⟩
end Go.Proofs.YtofijodndilmbaaDoor
