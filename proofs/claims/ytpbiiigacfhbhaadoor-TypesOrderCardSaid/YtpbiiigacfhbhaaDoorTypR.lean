/- Lists of pairs of bytes: cloned, concatenated, turned round. -/
import Derived.Test.YtpbiiigacfhbhaaDoorTypN
import Derived.Lib.AppendZeros
import Derived.StillTailTactics
import Derived.Deep.LoopGhost
import Derived.Deep.DeepCutAuto
set_option linter.unusedVariables false
set_option linter.unusedSimpArgs false
namespace Go.Proofs.YtpbiiigacfhbhaaDoor
open Go.RowKit

def cellsP (l : List (Int × Int)) : List Value := l.flatMap fun p => [.int .u8 p.1, .int .u8 p.2]
theorem cellsP_length (l : List (Int × Int)) : (cellsP l).length = l.length * 2 := by
  induction l with
  | nil => rfl
  | cons a l ih => simp [cellsP] at *; omega
theorem cellsP_append (a b : List (Int × Int)) : cellsP (a ++ b) = cellsP a ++ cellsP b := by simp [cellsP]
theorem cellsP_drop (l : List (Int × Int)) (k : Nat) : cellsP (l.drop k) = (cellsP l).drop (k * 2) := by
  induction k generalizing l with
  | zero => simp
  | succ k ih =>
    cases l with
    | nil => simp [cellsP]
    | cons a l =>
      rw [List.drop_succ_cons, ih, show (k + 1) * 2 = k * 2 + 2 by omega]
      simp [cellsP]
theorem cellsP_take (l : List (Int × Int)) (k : Nat) : cellsP (l.take k) = (cellsP l).take (k * 2) := by
  induction k generalizing l with
  | zero => simp [cellsP]
  | succ k ih =>
    cases l with
    | nil => simp [cellsP]
    | cons a l =>
      have := ih l
      rw [List.take_succ_cons, show (k + 1) * 2 = k * 2 + 2 by omega]
      simp only [cellsP, List.flatMap_cons] at *
      rw [this]
      simp
theorem cellsP_get (l : List (Int × Int)) {i : Nat} (hi : i < l.length) : (cellsP l)[i * 2]? = some (.int .u8 (l.getD i (0, 0)).1) ∧ (cellsP l)[i * 2 + 1]? = some (.int .u8 (l.getD i (0, 0)).2) := by
  induction l generalizing i with
  | nil => simp at hi
  | cons a l ih =>
    cases i with
    | zero => simp [cellsP]
    | succ i =>
      have := ih (i := i) (by simpa using hi)
      rw [show (i + 1) * 2 = i * 2 + 1 + 1 by omega, show i * 2 + 1 + 1 + 1 = i * 2 + 1 + 1 + 1 by rfl]
      simp only [cellsP, List.flatMap_cons] at *
      simpa using this
theorem cellsP_one (l : List (Int × Int)) : ∀ u ∈ cellsP l, u.oneCell' = true := by
  intro u hu
  simp only [cellsP, List.mem_flatMap] at hu
  obtain ⟨p, _, hu⟩ := hu
  simp at hu
  rcases hu with rfl | rfl <;> rfl
abbrev RowP (w : World) (B : Nat) (v : Value) (l : List (Int × Int)) : Prop := w.ownsRow B 51 2 v l.length (cellsP l)
theorem RowP.pairs {w : World} {B cap n : Nat} {A : Option Addr} {l : List (Int × Int)} (h : RowP w B (.slice A n cap) l) : PairsU w A l := by
  by_cases h0 : l = []
  · exact .inl h0
  · have hl : 0 < l.length := List.length_pos_iff.2 h0
    obtain ⟨g, cp, e, _⟩ := World.ownsRow.form h hl
    cases e
    refine .inr ⟨g, 0, rfl, fun i hi => ?_⟩
    obtain ⟨h1, h2⟩ := cellsP_get l hi
    rw [Nat.zero_add]
    exact ⟨(World.ownsRow.cellAt h (i * 2) (by omega)).trans h1, (World.ownsRow.cellAt h (i * 2 + 1) (by omega)).trans h2⟩
theorem PairsU.news {w : World} {b off : Nat} {l : List (Int × Int)} (h : ∀ i, i < l.length → w.cell? ⟨b, off + i * 2, none⟩ = some (.int .u8 (l.getD i (0, 0)).1) ∧ w.cell? ⟨b, off + i * 2 + 1, none⟩ = some (.int .u8 (l.getD i (0, 0)).2)) :
    ∀ j u, (cellsP l)[j]? = some u → w.cell? ((⟨b, off, none⟩ : Addr).add j) = some u := by
  intro j u hu
  rw [add_at]
  have hj : j < l.length * 2 := by
    have := (List.getElem?_eq_some_iff.1 hu).1
    rwa [cellsP_length] at this
  have hi : j / 2 < l.length := by omega
  obtain ⟨h1, h2⟩ := h (j / 2) hi
  obtain ⟨k1, k2⟩ := cellsP_get l hi
  rcases Nat.mod_two_eq_zero_or_one j with e | e
  · have ej : j = j / 2 * 2 := by omega
    rw [ej, k1] at hu
    rw [ej, h1, ← hu]
  · have ej : j = j / 2 * 2 + 1 := by omega
    rw [ej, k2] at hu
    rw [ej, ← Nat.add_assoc, h2, ← hu]
theorem RowP.news {w : World} {B g n cap : Nat} {l : List (Int × Int)} (h : RowP w B (.slice (some ⟨g, 0, none⟩) n cap) l) {W : World} (hW : W.heap[g]? = w.heap[g]?) (k : Nat) :
    ∀ j u, (cellsP (l.drop k))[j]? = some u → W.cell? ((⟨g, k * 2, none⟩ : Addr).add j) = some u := by
  intro j u hu
  rw [cellsP_drop, List.getElem?_drop] at hu
  have hj := (List.getElem?_eq_some_iff.1 hu).1
  rw [cellsP_length] at hj
  obtain rfl : n = l.length := by
    rcases h.2 with ⟨e, h0⟩ | ⟨g', cap', cur, e, _⟩
    · cases e
    · cases e
      rfl
  rw [add_at]
  exact (World.cell?_of_block (a := ⟨g, k * 2 + j, none⟩) hW).trans ((World.ownsRow.cellAt h (k * 2 + j) hj).trans hu)
theorem RowP.news' {w : World} {B g n cap : Nat} {l : List (Int × Int)} (h : RowP w B (.slice (some ⟨g, 0, none⟩) n cap) l) {W : World} (hW : W.heap[g]? = w.heap[g]?) (k : Nat) :
    ∀ j u, (cellsP (l.take k))[j]? = some u → W.cell? ((⟨g, 0, none⟩ : Addr).add j) = some u := by
  intro j u hu
  have hn := h.news hW 0 j u
  rw [List.drop_zero, Nat.zero_mul] at hn
  apply hn
  rw [cellsP_take, List.getElem?_take] at hu
  split at hu
  · exact hu
  · cases hu

theorem info_p2 : (Tryd.prog.info? 51).map (fun i => (i.zero, i.size, i.bytes)) = some (some (.agg #[.int .u8 0, .int .u8 0]), 2, 2) := by kernel_rfl
theorem nil_eq (w : World) (a : Option Addr) (n c : Nat) : (binOp .eql 50 (.slice a n c) (.slice none 0 0)).run Tryd.prog w = .ok (.bool a.isNone) w := by
  first | exact Lib.run_eql_slice_nil w _ _ a n c Tryd.underlying50 | exact Lib.run_eql_slice_nil w _ _ a n c 0 0 Tryd.underlying50

set_option maxRecDepth 100000 in
set_option maxHeartbeats 8000000 in
/-- slices.Clone at pairs. -/
theorem Clone_in {w : World} {A : Option Addr} {c : Nat} {l : List (Int × Int)} (hs : PairsU w A l) (hl : l.length ≤ 100) :
    Calls Tryd.prog 19 #[.slice A l.length c] w fun e w' => ∃ s', e = .returned s' ∧ RowP w' w.heap.size s' l ∧ Below w.heap.size w w' := by
  obtain ⟨i0, hi, hz0, hz1, hz2⟩ := info_parts info_p2
  have q22 := nil_eq
  cases A with
  | none =>
    have h0 : l = [] := by
      rcases hs with h | ⟨_, _, e, _⟩
      · exact h
      · cases e
    subst h0
    go_enter Tryd.func19, Tryd.ntmps19
    go_wp2_with fail
    go_ret
    exact ⟨_, rfl, World.ownsRow_nil _ _ _ _, Below.refl _ _⟩
  | some ad =>
    have hnews : ∀ j u, (cellsP l)[j]? = some u → w.cell? (ad.add j) = some u := by
      rcases hs with h | ⟨b, off, e, h⟩
      · subst h
        intro j u hu
        simp [cellsP] at hu
      · cases e
        exact PairsU.news h
    have hn := Lib.hid hnews
    clear hs hnews
    go_enter Tryd.func19, Tryd.ntmps19
    go_wp2_with (at_builtin; refine wpList_append_own _ rfl _ _ 50 rfl w.heap.size 51 i0 (.agg #[.int .u8 0, .int .u8 0]) 2 2 Tryd.underlying50 hi hz0 hz1 hz2 rfl (by decide) _ 0 [] rfl (World.ownsRow_made w #[] 0 (Nat.le_refl _) (Nat.zero_le _) (by simp)) ad l.length c (cellsP l) rfl ?qc1 ?qc2 ?qc3 ?qc4 ?qc5 ?qc6 ?_)
    case qc1 => exact cellsP_length l
    case qc2 => exact fun j u hu => (((Below.refl w.heap.size w).alloc (Nat.le_refl _) _).cell (cell_lt (hn.out j u hu))).trans (hn.out j u hu)
    case qc3 => exact cellsP_one l
    case qc4 => unfold maxLen; omega
    case qc5 => omega
    case qc6 => simp
    intro v' w1 hown hgrow hnil
    try rw [Nat.zero_add, List.nil_append] at hown
    have hB : Below w.heap.size w w1 := ((Below.refl w.heap.size w).alloc (Nat.le_refl _) (.cells #[] 51)).grown hgrow (by simp) (fun k hk => Nat.le_of_eq (by simpa [Value.ownBlock] using hk))
    go_wp2_with fail
    go_ret
    exact ⟨_, rfl, hown, hB⟩
end Go.Proofs.YtpbiiigacfhbhaaDoor
