/- How types lie in memory: the program's, and the reference's; what finds a type's root. -/
import Derived.Test.YtpbiiigacfhbhaaDoorProg
import Derived.Test.YtpbiiigacfhbhaaDoorTypP
import Derived.WalkKit
import Derived.WalkLawsBesides
import Derived.WalkSpells
import Derived.Deep.QuietTactic
import Derived.BigQuiet
import Derived.BigRegion
import Derived.RegionTactic
import Derived.Deep.RegionWith
import Derived.Deep.RegionHeld3
import Derived.Deep.AppendLies
import Derived.Deep.RegionLawGrows
import Derived.Deep.LoopGhost
import Derived.Deep.OwnRows
import Derived.Lib.Hide
set_option linter.unusedVariables false
set_option linter.unusedSimpArgs false
namespace Go.Proofs.YtpbiiigacfhbhaaDoor
open Go.RowKit
open TypP (Kd Acy Occ Uni)

theorem add_at {b off n : Nat} : (⟨b, off, none⟩ : Addr).add n = ⟨b, off + n, none⟩ := by
  unfold Addr.add; split
  · rename_i h; subst h; rfl
  · rfl
theorem cell_lt {w : World} {a : Addr} {v : Value} (h : w.cell? a = some v) : a.block < w.heap.size := by
  unfold World.cell? at h
  cases hh : w.heap[a.block]? with
  | none => rw [hh] at h; cases h
  | some o => exact (Array.getElem?_eq_some_iff.1 hh).1
theorem heap_lt {w : World} {b : Nat} {o : Obj} (h : w.heap[b]? = some o) : b < w.heap.size := (Array.getElem?_eq_some_iff.1 h).1
theorem frozenOf {w : World} {b : Nat} {cs : Array Value} {t : TypeId} (h : w.heap[b]? = some (.cells cs t)) (i : Nat) : w.frozen? ⟨b, i, none⟩ = false := by simp [World.frozen?, h]
theorem last (W : World) (o : Obj) : (W.alloc o).heap[W.heap.size]? = some o := by simp only [World.alloc, Array.getElem?_push]; simp
theorem cellOf1 {w : World} {b : Nat} {x : Value} {t : TypeId} (h : w.heap[b]? = some (.cells #[x] t)) : w.cell? ⟨b, 0, none⟩ = some x := by simp only [World.cell?, h]; rfl
theorem cell_alloc {w : World} {a : Addr} {v : Value} (h : w.cell? a = some v) (o : Obj) : (w.alloc o).cell? a = some v := (World.cell?_of_block (Below.heap_alloc w o a.block (cell_lt h))).trans h
theorem grown_trans {a b c : World} {r : Option Nat} (h : a.grownBy b r) (k : b.grownBy c r) : a.grownBy c r :=
  ⟨k.os.trans h.os, k.tape.trans h.tape, k.output.trans h.output, Nat.le_trans h.size k.size, fun i hi hr => (k.block i (Nat.lt_of_lt_of_le hi h.size) hr).trans (h.block i hi hr)⟩
theorem grown_set (w : World) (g i : Nat) (v : Value) : w.grownBy (w.setCell ⟨g, i, none⟩ v) (some g) :=
  ⟨rfl, rfl, rfl, by simp [World.setCell], fun k _ hr => Below.heap_setCell _ _ _ _ (fun e => hr (by rw [e]))⟩
theorem grown_drew {a b : World} {r : Option Nat} (h : a.grownBy b r) : a.grownBy b.drew r := ⟨h.os, h.tape, h.output, h.size, h.block⟩
theorem grown_drewN {a b : World} {r : Option Nat} (h : a.grownBy b r) (q : Nat) : a.grownBy (b.drewN q) r := ⟨h.os, h.tape, h.output, h.size, h.block⟩

/-- The cells of n things, one behind the other. -/
def rowsN (c : Nat → List Value) (n : Nat) : List Value := (List.range n).flatMap c
theorem rowsN_succ (c : Nat → List Value) (n : Nat) : rowsN c (n + 1) = rowsN c n ++ c n := by simp [rowsN, List.range_succ]
theorem rowsN_length {c : Nat → List Value} {s : Nat} (hc : ∀ i, (c i).length = s) (n : Nat) : (rowsN c n).length = n * s := by
  induction n with
  | zero => simp [rowsN]
  | succ n ih => rw [rowsN_succ, List.length_append, ih, hc, Nat.succ_mul]
theorem rowsN_get {c : Nat → List Value} {s : Nat} (hc : ∀ i, (c i).length = s) {n i j : Nat} (hi : i < n) (hj : j < s) : (rowsN c n)[i * s + j]? = (c i)[j]? := by
  induction n with
  | zero => omega
  | succ n ih =>
    rw [rowsN_succ]
    have hl := rowsN_length hc n
    by_cases e : i = n
    · subst e
      rw [List.getElem?_append_right (by omega), hl, Nat.add_sub_cancel_left]
    · have : i * s + j < n * s := by
        have h1 : (i + 1) * s ≤ n * s := Nat.mul_le_mul_right s (by omega)
        rw [Nat.add_mul] at h1
        omega
      rw [List.getElem?_append_left (by omega), ih (by omega)]
theorem rowsN_congr {c c' : Nat → List Value} {n : Nat} (h : ∀ i, i < n → c i = c' i) : rowsN c n = rowsN c' n := by
  induction n with
  | zero => rfl
  | succ n ih => rw [rowsN_succ, rowsN_succ, ih (fun i hi => h i (by omega)), h n (by omega)]
def upd (c : Nat → List Value) (i : Nat) (l : List Value) : Nat → List Value := fun k => if k = i then l else c k
theorem upd_same (c : Nat → List Value) (i : Nat) (l : List Value) : upd c i l i = l := by simp [upd]
theorem upd_other (c : Nat → List Value) {i k : Nat} (l : List Value) (h : k ≠ i) : upd c i l k = c k := by simp [upd, h]
theorem rowsN_set {c : Nat → List Value} {s : Nat} (hc : ∀ i, (c i).length = s) {n i j : Nat} (hi : i < n) (hj : j < s) (u : Value) : (rowsN c n).set (i * s + j) u = rowsN (upd c i ((c i).set j u)) n := by
  have hc' : ∀ k, (upd c i ((c i).set j u) k).length = s := fun k => by unfold upd; split <;> simp [hc]
  apply List.ext_getElem?
  intro k
  by_cases hk : k < n * s
  · have hs : 0 < s := by omega
    have e : k = k / s * s + k % s := by rw [Nat.mul_comm]; exact (Nat.div_add_mod k s).symm
    have h1 : k / s < n := (Nat.div_lt_iff_lt_mul hs).2 hk
    have h2 : k % s < s := Nat.mod_lt _ hs
    generalize k / s = a at *
    generalize k % s = b at *
    subst e
    rw [List.getElem?_set, rowsN_length hc, rowsN_get hc h1 h2, rowsN_get hc' h1 h2]
    by_cases ea : a = i
    · subst ea
      rw [upd_same, List.getElem?_set, hc]
      by_cases eb : j = b
      · subst eb; simp [hk, hj]
      · rw [if_neg (by omega), if_neg eb]
    · rw [upd_other _ _ ea, if_neg]
      intro h
      have h3 := congrArg (· / s) h
      simp only [Nat.mul_comm i s, Nat.mul_comm a s, Nat.mul_add_div hs, Nat.div_eq_of_lt hj, Nat.div_eq_of_lt h2] at h3
      omega
  · rw [List.getElem?_eq_none (by rw [List.length_set, rowsN_length hc]; omega), List.getElem?_eq_none (by rw [rowsN_length hc']; omega)]

/-- Things of s cells each in one row of their own, behind a place t. -/
structure Sto (ty el : TypeId) (s : Nat) (w : World) (B t g cap n : Nat) (c : Nat → List Value) : Prop where
  base : B ≤ t
  obj : w.heap[t]? = some (.cells #[.slice (some ⟨g, 0, none⟩) n cap] ty)
  rows : w.ownsRow B el s (.slice (some ⟨g, 0, none⟩) n cap) n (rowsN c n)
  len : ∀ i, (c i).length = s
section
variable {ty el : TypeId} {s : Nat} {w : World} {B t g cap n : Nat} {c : Nat → List Value}
theorem Sto.cell (h : Sto ty el s w B t g cap n c) {i j : Nat} (hi : i < n) {u : Value} (hu : (c i)[j]? = some u) : w.cell? ⟨g, i * s + j, none⟩ = some u := by
  have hj : j < s := by have := (List.getElem?_eq_some_iff.1 hu).1; rwa [h.len] at this
  have hk : i * s + j < n * s := by
    have h1 : (i + 1) * s ≤ n * s := Nat.mul_le_mul_right s (by omega)
    rw [Nat.add_mul] at h1
    omega
  rw [World.ownsRow.cellAt h.rows _ hk, rowsN_get h.len hi hj, hu]
theorem Sto.cell0 (h : Sto ty el s w B t g cap n c) {i : Nat} (hi : i < n) {u : Value} (hu : (c i)[0]? = some u) : w.cell? ⟨g, i * s, none⟩ = some u := h.cell (j := 0) hi hu
theorem Sto.row (h : Sto ty el s w B t g cap n c) : B ≤ g ∧ ∃ cur, w.heap[g]? = some (.cells cur el) ∧ n ≤ cap ∧ cap ≤ maxLen ∧ cur.size = cap * s ∧ cur.toList.take (n * s) = rowsN c n := by
  rcases h.rows.2 with ⟨h1, _⟩ | ⟨g', cap', cur, h1, h2, h3, h4, h5, h6, h7⟩
  · cases h1
  · cases h1
    exact ⟨h2, cur, h3, h4, h5, h6, h7⟩
theorem Sto.ne (h : Sto ty el s w B t g cap n c) (hne : ty ≠ el) : t ≠ g := fun e => by
  obtain ⟨_, cur, h3, _⟩ := h.row
  rw [← e, h.obj] at h3
  simp at h3
  exact hne h3.2
theorem Sto.free (h : Sto ty el s w B t g cap n c) (i : Nat) : w.frozen? ⟨g, i, none⟩ = false := by
  obtain ⟨_, cur, h3, _⟩ := h.row
  exact frozenOf h3 i
theorem Sto.top (h : Sto ty el s w B t g cap n c) : w.cell? ⟨t, 0, none⟩ = some (.slice (some ⟨g, 0, none⟩) n cap) := cellOf1 h.obj
theorem Sto.set (h : Sto ty el s w B t g cap n c) (hne : ty ≠ el) {i j : Nat} (hi : i < n) (hj : j < s) (u : Value) : Sto ty el s (w.setCell ⟨g, i * s + j, none⟩ u) B t g cap n (upd c i ((c i).set j u)) := by
  have htg := h.ne hne
  obtain ⟨h2, cur, h3, h4, h5, h6, h7⟩ := h.row
  refine ⟨h.base, (Below.heap_setCell _ _ _ _ htg).trans h.obj, ?_, fun k => by unfold upd; split <;> simp [h.len]⟩
  refine ⟨rowsN_length (fun k => by unfold upd; split <;> simp [h.len]) n, .inr ⟨g, cap, cur.setIfInBounds (i * s + j) u, rfl, h2, ?_, h4, h5, by simp [h6], ?_⟩⟩
  · simp [World.setCell, Array.getElem?_modify, h3]
  · rw [Array.toList_setIfInBounds, List.take_set, h7, rowsN_set h.len hi hj]
theorem Sto.keep (h : Sto ty el s w B t g cap n c) {w' : World} (ht : w'.heap[t]? = w.heap[t]?) (hg : w'.heap[g]? = w.heap[g]?) : Sto ty el s w' B t g cap n c := by
  obtain ⟨h2, cur, h3, h4⟩ := h.row
  exact ⟨h.base, ht.trans h.obj, ⟨h.rows.1, .inr ⟨g, cap, cur, rfl, h2, hg.trans h3, h4⟩⟩, h.len⟩
theorem Sto.lt (h : Sto ty el s w B t g cap n c) : t < w.heap.size ∧ g < w.heap.size := by
  obtain ⟨h2, cur, h3, h4⟩ := h.row
  exact ⟨heap_lt h.obj, heap_lt h3⟩
theorem Sto.grown (h : Sto ty el s w B t g cap n c) {w' : World} {r : Option Nat} (hg : w.grownBy w' r) (ht : r ≠ some t) (hr : r ≠ some g) : Sto ty el s w' B t g cap n c :=
  h.keep (hg.block t h.lt.1 (fun e => ht e.symm)) (hg.block g h.lt.2 (fun e => hr e.symm))
theorem Sto.alloc (h : Sto ty el s w B t g cap n c) (o : Obj) : Sto ty el s (w.alloc o) B t g cap n c := h.grown (World.grownBy_alloc w o none) (by simp) (by simp)
theorem Sto.drew (h : Sto ty el s w B t g cap n c) : Sto ty el s w.drew B t g cap n c := h.keep rfl rfl
theorem Sto.drewN (h : Sto ty el s w B t g cap n c) (q : Nat) : Sto ty el s (w.drewN q) B t g cap n c := h.keep rfl rfl
theorem Sto.congr (h : Sto ty el s w B t g cap n c) {c' : Nat → List Value} (hc : c = c') : Sto ty el s w B t g cap n c' := hc ▸ h
end

abbrev PSto := Sto 62 59 3
abbrev RSto := Sto 34 64 4

def Kd.code : Kd → Nat
  | .opn => 0
  | .int => 1
  | .bool => 2
  | .unit => 3
  | .pair _ _ => 4
def Kd.fst : Kd → Nat
  | .pair a _ => a
  | _ => 0
def Kd.snd : Kd → Nat
  | .pair _ b => b
  | _ => 0
theorem Kd.code_ne5 (k : Kd) : ((Kd.code k : Nat) : Int) ≠ 5 := by cases k <;> simp [Kd.code]
/-- The program's types: a root has its kind; another one leads on to what has its root. -/
structure PS (K : Nat → Kd) (R : Nat → Nat) (n : Nat) (d : Nat → Nat) (c : Nat → List Value) : Prop where
  own : ∀ x, x < n → R x = x → c x = [.int .i64 (Kd.code (K x)), .int .i64 (Kd.fst (K x)), .int .i64 (Kd.snd (K x))]
  lnk : ∀ x, x < n → R x ≠ x → ∃ y z : Nat, c x = [.int .i64 5, .int .i64 y, .int .i64 z] ∧ y < n ∧ R y = R x ∧ d y < d x
/-- The reference's types. -/
structure RS (K : Nat → Kd) (R : Nat → Nat) (n : Nat) (d : Nat → Nat) (c : Nat → List Value) : Prop where
  own : ∀ x, x < n → R x = x → c x = [.int .i64 (Kd.code (K x)), .int .i64 (Kd.fst (K x)), .int .i64 (Kd.snd (K x)), .int .i64 (-1)]
  lnk : ∀ x, x < n → R x ≠ x → ∃ y : Nat, c x = [.int .i64 (Kd.code (K x)), .int .i64 (Kd.fst (K x)), .int .i64 (Kd.snd (K x)), .int .i64 y] ∧ y < n ∧ R y = R x ∧ d y < d x

theorem PS.halve {K : Nat → Kd} {R : Nat → Nat} {n : Nat} {d : Nat → Nat} {c : Nat → List Value} (h : PS K R n d c) {x y y' z z' : Nat} (hx : x < n) (hr : R x ≠ x) (hc : c x = [.int .i64 5, .int .i64 y, .int .i64 z]) (hy : y < n) (hry : R y ≠ y) (hc' : c y = [.int .i64 5, .int .i64 y', .int .i64 z']) :
    PS K R n d (upd c x ((c x).set 1 (.int .i64 y'))) ∧ y' < n ∧ R y' = R x ∧ d y' < d x := by
  obtain ⟨a, b, h1, h2, h3, h4⟩ := h.lnk x hx hr
  obtain ⟨a', b', h1', h2', h3', h4'⟩ := h.lnk y hy hry
  rw [hc] at h1
  rw [hc'] at h1'
  simp at h1 h1'
  have ea : y = a := by omega
  have ea' : y' = a' := by omega
  subst ea ea'
  refine ⟨⟨fun k hk rk => ?_, fun k hk rk => ?_⟩, h2', by omega, by omega⟩
  · have : k ≠ x := fun e => hr (e ▸ rk)
    rw [upd_other _ _ this]
    exact h.own k hk rk
  · by_cases e : k = x
    · subst e
      rw [upd_same, hc]
      exact ⟨y', z, rfl, h2', by omega, by omega⟩
    · rw [upd_other _ _ e]
      exact h.lnk k hk rk

set_option maxRecDepth 100000 in
set_option maxHeartbeats 4000000 in
theorem find_in {K : Nat → Kd} {R : Nat → Nat} {n : Nat} {d : Nat → Nat} {c : Nat → List Value} {w : World} {B t g cap x : Nat} (h : PSto w B t g cap n c) (hp : PS K R n d c) (hx : x < n) :
    Calls Tryd.prog 30 #[.pointer (some ⟨t, 0, none⟩), .int .i64 x] w fun e w' => e = .returned (.int .i64 (R x)) ∧ ∃ c', PSto w' B t g cap n c' ∧ PS K R n d c' ∧ w.grownBy w' (some g) := by
  have H0 := Lib.hid (And.intro h hp)
  clear h hp
  go_enter Tryd.func30, Tryd.ntmps30
  go_wp2_with fail
  go_loopw [1, 5] (fun xv _ wr => ∃ (y : Nat) (c' : Nat → List Value), xv = .int .i64 y ∧ y < n ∧ R y = R x ∧ PSto wr B t g cap n c' ∧ PS K R n d c' ∧ w.grownBy wr (some g)) (fun xv _ _ => d (intOf xv).toNat)
  case atStart => exact ⟨x, c, rfl, hx, rfl, H0.out.1, H0.out.2, World.grownBy.refl _ _⟩
  case round =>
    obtain ⟨y, c', rfl, hy, hry, hs, hp, hg⟩ := hrel
    have HH := Lib.hid (And.intro hs (And.intro hp hg))
    have HR := Lib.hid hry
    have top := hs.top
    have fr := hs.free
    by_cases hr : R y = y
    · have e0 := hp.own y hy hr
      have c0 := hs.cell0 hy (by rw [e0]; rfl)
      have hk := Kd.code_ne5 (K y)
      clear hs hp hg hry e0 H0
      generalize ((Kd.code (K y) : Nat) : Int) = kd at *
      have hk' : decide (kd = 5) = false := decide_eq_false hk
      go_wp2_with fail
      go_ret
      refine ⟨?_, _, HH.out.1, HH.out.2.1, HH.out.2.2⟩
      rw [← HR.out, hr]
      rfl
    · obtain ⟨z, u, e0, hz, hrz, hd⟩ := hp.lnk y hy hr
      have c0 := hs.cell0 hy (by rw [e0]; rfl)
      have c1 := hs.cell (j := 1) hy (by rw [e0]; rfl)
      by_cases hr2 : R z = z
      · have e1 := hp.own z hz hr2
        have d0 := hs.cell0 hz (by rw [e1]; rfl)
        have hk := Kd.code_ne5 (K z)
        clear hs hp hg hry e0 e1 H0
        generalize ((Kd.code (K z) : Nat) : Int) = kd at *
        have hk' : decide (kd = 5) = false := decide_eq_false hk
        have HD := Lib.hid (And.intro hrz hd)
        clear hrz hd
        go_wp2_with fail
        go_roundw
        case rel => exact ⟨z, c', rfl, hz, by rw [HD.out.1, HR.out], HH.out.1, HH.out.2.1, HH.out.2.2⟩
        case measure => simp [intOf]; exact HD.out.2
      · obtain ⟨z', u', e1, hz', hrz', hd'⟩ := hp.lnk z hz hr2
        have d0 := hs.cell0 hz (by rw [e1]; rfl)
        have d1 := hs.cell (j := 1) hz (by rw [e1]; rfl)
        have hh := hp.halve hy hr e0 hz hr2 e1
        have hs' := hs.set (by decide) hy (j := 1) (by decide) (.int .i64 z')
        have top' := hs'.top
        have c1' := hs'.cell (j := 1) hy (by rw [upd_same, e0]; rfl)
        have HH2 := Lib.hid (And.intro hs' hh)
        clear hs hp hg hry e0 e1 H0 hs' hh hrz hd hrz' hd'
        go_wp2_with fail
        go_region
        all_goals go_wp2_with fail
        all_goals go_roundw
        case rel => exact ⟨z', _, rfl, HH2.out.2.2.1, by rw [HH2.out.2.2.2.1, HR.out], by first | exact HH2.out.1 | exact HH2.out.1.drew | exact HH2.out.1.drewN _, HH2.out.2.1, by first | exact grown_trans HH.out.2.2 (grown_set _ _ _ _) | exact grown_drew (grown_trans HH.out.2.2 (grown_set _ _ _ _)) | exact grown_drewN (grown_trans HH.out.2.2 (grown_set _ _ _ _)) _⟩
        case measure => simp only [intOf, Int.toNat_natCast]; exact HH2.out.2.2.2.2

theorem grown_alloc {a b : World} {r : Option Nat} (h : a.grownBy b r) (o : Obj) : a.grownBy (b.alloc o) r :=
  ⟨h.os, h.tape, h.output, Nat.le_trans h.size (by simp), fun k hk hr => (Below.heap_alloc b o k (Nat.lt_of_lt_of_le hk h.size)).trans (h.block k hk hr)⟩
theorem grown_fresh {a b : World} {r : Option Nat} (h : a.grownBy b r) {k : Nat} (hk : a.heap.size ≤ k) (i : Nat) (v : Value) : a.grownBy (b.setCell ⟨k, i, none⟩ v) r :=
  ⟨h.os, h.tape, h.output, Nat.le_trans h.size (by simp [World.setCell]), fun j hj hr => (Below.heap_setCell _ _ _ _ (by simp; omega)).trans (h.block j hj hr)⟩

set_option maxRecDepth 100000 in
set_option maxHeartbeats 4000000 in
theorem Find_in {K : Nat → Kd} {R : Nat → Nat} {n : Nat} {d : Nat → Nat} {c : Nat → List Value} {w : World} {B t g cap x : Nat} (h : RSto w B t g cap n c) (hp : RS K R n d c) (hx : x < n) :
    Calls Tryd.prog 25 #[.pointer (some ⟨t, 0, none⟩), .int .i64 x] w fun e w' => e = .returned (.int .i64 (R x)) ∧ w = w' := by
  have H0 := Lib.hid (And.intro h hp)
  clear h hp
  go_enter Tryd.func25, Tryd.ntmps25
  go_wp2_with fail
  go_loopw [1] (fun xv wr => ∃ y : Nat, xv = .int .i64 y ∧ y < n ∧ R y = R x ∧ w = wr) (fun xv _ => d (intOf xv).toNat)
  case atStart => exact ⟨x, rfl, hx, rfl, rfl⟩
  case round =>
    obtain ⟨y, rfl, hy, hry, rfl⟩ := hrel
    have HR := Lib.hid hry
    have top := H0.out.1.top
    by_cases hr : R y = y
    · have e0 := H0.out.2.own y hy hr
      have c3 := H0.out.1.cell (j := 3) hy (by rw [e0]; rfl)
      clear hry e0
      go_wp2_with fail
      go_ret
      refine ⟨?_, rfl⟩
      rw [← HR.out, hr]
      rfl
    · obtain ⟨z, e0, hz, hrz, hd⟩ := H0.out.2.lnk y hy hr
      have c3 := H0.out.1.cell (j := 3) hy (by rw [e0]; rfl)
      have HD := Lib.hid (And.intro hrz hd)
      clear hry e0 hrz hd
      go_wp2_with fail
      go_roundw
      case rel => exact ⟨z, rfl, hz, by rw [HD.out.1, HR.out], by first | trivial | rfl⟩
      case measure => simp only [intOf, Int.toNat_natCast]; exact HD.out.2
end Go.Proofs.YtpbiiigacfhbhaaDoor
