/- Whether two expressions are one: Same. -/
import Derived.Test.YtmeacgmjpjjphaaGreatDoorMShH4
import Derived.Test.YtmeacgmjpjjphaaGreatDoorMShH9
set_option linter.unusedVariables false
set_option linter.unusedSimpArgs false
namespace Go.Proofs.YtmeacgmjpjjphaaGreatDoor
open Go.RowKit Go.Shelf
open Tr (Nd TreeAt Ints Fine ndV)
open Tr.TreP (WF fits places nd inT)

theorem own_at' {w : World} {b0 n cap : Nat} {A : Option Addr} {l : List Int} (h : Tr.Own w b0 (.slice A n cap) l) (hl : 0 < l.length) : ∃ g, A = some ⟨g, 0, none⟩ ∧ ∀ j, j < l.length → w.cell? ⟨g, j, none⟩ = some (.int .i64 (l.getD j 0)) := by
  obtain ⟨b, off, c, e, hc⟩ := ints_at h.ints hl
  rcases h.2 with ⟨h0, _⟩ | ⟨g, cap', cur, e', _⟩
  · rw [h0] at e
    cases e
  · rw [e'] at e
    cases e
    cases e'
    exact ⟨_, rfl, fun j hj => by have := hc j hj; simpa using this⟩
theorem textT_mk (op name : ByteArray) (num : Int) (ts : List Tm) : textT (.mk op name num ts) = nodeB (.mk op name num ts) (ts.map textT) := by
  simp only [textT, textL_map]
set_option maxHeartbeats 2000000 in
/-- A node's text. -/
theorem text_in {B t : Nat} {v : Value} {ms : List (Nd × Value)} (x : Nd) (ts : List Tm) (hl : ts.length = x.kids.length) (hkl : x.kids.length ≤ 70000) (hr : rightB x.op x.kids.length = true) (ho : x.op.size ≤ 2097152) (hn : x.name.size ≤ 2097152) (hu0 : -9223372036854775808 ≤ x.num) (hu1 : x.num ≤ 9223372036854775807)
    (hz : (textT (.mk x.op x.name x.num ts)).size ≤ 1099511627776) (hK : ∀ j, j < x.kids.length → KidC B t v ms (x.kids.getD j 0) (ts.getD j Tm.none)) (hO : ∀ j, j < x.kids.length → OpenC B t v ms (x.kids.getD j 0) (ts.getD j Tm.none)) : TextK B t v ms x (.mk x.op x.name x.num ts) := by
  intro W A cap b0 hT ht hown
  rw [textT_mk] at hz ⊢
  obtain ⟨op, line, col, name, num, kids⟩ := x
  simp only at hl hkl hr ho hn hu0 hu1 hz hK hO hown ⊢
  by_cases e0 : op = nSeq
  · rw [e0] at hr
    have hc' : kids.length = 2 := of_decide_eq_true hr
    obtain ⟨k0, k1, rfl⟩ : ∃ k0 k1, kids = [k0, k1] := by
      match kids, hc' with
      | [a, b], _ => exact ⟨a, b, rfl⟩
    obtain ⟨t0, t1, rfl⟩ : ∃ t0 t1, ts = [t0, t1] := by
      match ts, hl with
      | [a, b], _ => exact ⟨a, b, rfl⟩
    obtain ⟨g, rfl, hc⟩ := own_at' hown (by simp)
    exact tx_seq op name line col num k0 k1 t0 t1 g 0 cap e0 W hT ht (hc 0 (by simp)) (hc 1 (by simp)) hn (hK 0 (by simp)) (hK 1 (by simp)) (hO 0 (by simp))
  by_cases e1 : op = kLet
  · rw [e1] at hr
    have hc' : kids.length = 2 := of_decide_eq_true hr
    obtain ⟨k0, k1, rfl⟩ : ∃ k0 k1, kids = [k0, k1] := by
      match kids, hc' with
      | [a, b], _ => exact ⟨a, b, rfl⟩
    obtain ⟨t0, t1, rfl⟩ : ∃ t0 t1, ts = [t0, t1] := by
      match ts, hl with
      | [a, b], _ => exact ⟨a, b, rfl⟩
    obtain ⟨g, rfl, hc⟩ := own_at' hown (by simp)
    exact tx_let op name line col num k0 k1 t0 t1 g 0 cap e1 W hT ht (hc 0 (by simp)) (hc 1 (by simp)) hn (hK 0 (by simp)) (hK 1 (by simp))
  by_cases e2 : op = kIf
  · rw [e2] at hr
    have hc' : kids.length = 3 := of_decide_eq_true hr
    obtain ⟨k0, k1, k2, rfl⟩ : ∃ k0 k1 k2, kids = [k0, k1, k2] := by
      match kids, hc' with
      | [a, b, c], _ => exact ⟨a, b, c, rfl⟩
    obtain ⟨t0, t1, t2, rfl⟩ : ∃ t0 t1 t2, ts = [t0, t1, t2] := by
      match ts, hl with
      | [a, b, c], _ => exact ⟨a, b, c, rfl⟩
    obtain ⟨g, rfl, hc⟩ := own_at' hown (by simp)
    exact tx_if op name line col num k0 k1 k2 t0 t1 t2 g 0 cap e2 W hT ht (hc 0 (by simp)) (hc 1 (by simp)) (hc 2 (by simp)) hn (hK 0 (by simp)) (hK 1 (by simp)) (hK 2 (by simp))
  by_cases e3 : op = kTry
  · rw [e3] at hr
    have hc' : kids.length = 2 := of_decide_eq_true hr
    obtain ⟨k0, k1, rfl⟩ : ∃ k0 k1, kids = [k0, k1] := by
      match kids, hc' with
      | [a, b], _ => exact ⟨a, b, rfl⟩
    obtain ⟨t0, t1, rfl⟩ : ∃ t0 t1, ts = [t0, t1] := by
      match ts, hl with
      | [a, b], _ => exact ⟨a, b, rfl⟩
    obtain ⟨g, rfl, hc⟩ := own_at' hown (by simp)
    exact tx_try op name line col num k0 k1 t0 t1 g 0 cap e3 W hT ht (hc 0 (by simp)) (hc 1 (by simp)) hn (hK 0 (by simp)) (hK 1 (by simp))
  by_cases e4 : op = kOut
  · rw [e4] at hr
    have hc' : kids.length = 1 := of_decide_eq_true hr
    obtain ⟨k0, rfl⟩ : ∃ k0, kids = [k0] := by
      match kids, hc' with
      | [a], _ => exact ⟨a, rfl⟩
    obtain ⟨t0, rfl⟩ : ∃ t0, ts = [t0] := by
      match ts, hl with
      | [a], _ => exact ⟨a, rfl⟩
    obtain ⟨g, rfl, hc⟩ := own_at' hown (by simp)
    exact tx_out op name line col num k0 t0 g 0 cap e4 W hT ht (hc 0 (by simp)) hn (hK 0 (by simp))
  by_cases e5 : op = nSet
  · rw [e5] at hr
    have hc' : kids.length = 1 := of_decide_eq_true hr
    obtain ⟨k0, rfl⟩ : ∃ k0, kids = [k0] := by
      match kids, hc' with
      | [a], _ => exact ⟨a, rfl⟩
    obtain ⟨t0, rfl⟩ : ∃ t0, ts = [t0] := by
      match ts, hl with
      | [a], _ => exact ⟨a, rfl⟩
    obtain ⟨g, rfl, hc⟩ := own_at' hown (by simp)
    exact tx_set op name line col num k0 t0 g 0 cap e5 W hT ht (hc 0 (by simp)) hn (hK 0 (by simp))
  by_cases e6 : op = nNeg
  · rw [e6] at hr
    have hc' : kids.length = 1 := of_decide_eq_true hr
    obtain ⟨k0, rfl⟩ : ∃ k0, kids = [k0] := by
      match kids, hc' with
      | [a], _ => exact ⟨a, rfl⟩
    obtain ⟨t0, rfl⟩ : ∃ t0, ts = [t0] := by
      match ts, hl with
      | [a], _ => exact ⟨a, rfl⟩
    obtain ⟨g, rfl, hc⟩ := own_at' hown (by simp)
    exact tx_neg op name line col num k0 t0 g 0 cap e6 W hT ht (hc 0 (by simp)) hn (hK 0 (by simp))
  by_cases e7 : op = kNot
  · rw [e7] at hr
    have hc' : kids.length = 1 := of_decide_eq_true hr
    obtain ⟨k0, rfl⟩ : ∃ k0, kids = [k0] := by
      match kids, hc' with
      | [a], _ => exact ⟨a, rfl⟩
    obtain ⟨t0, rfl⟩ : ∃ t0, ts = [t0] := by
      match ts, hl with
      | [a], _ => exact ⟨a, rfl⟩
    obtain ⟨g, rfl, hc⟩ := own_at' hown (by simp)
    exact tx_not op name line col num k0 t0 g 0 cap e7 W hT ht (hc 0 (by simp)) hn (hK 0 (by simp))
  by_cases e8 : op = kFst
  · rw [e8] at hr
    have hc' : kids.length = 1 := of_decide_eq_true hr
    obtain ⟨k0, rfl⟩ : ∃ k0, kids = [k0] := by
      match kids, hc' with
      | [a], _ => exact ⟨a, rfl⟩
    obtain ⟨t0, rfl⟩ : ∃ t0, ts = [t0] := by
      match ts, hl with
      | [a], _ => exact ⟨a, rfl⟩
    obtain ⟨g, rfl, hc⟩ := own_at' hown (by simp)
    exact tx_fst op name line col num k0 t0 g 0 cap e8 W hT ht (hc 0 (by simp)) hn (hK 0 (by simp))
  by_cases e9 : op = kSnd
  · rw [e9] at hr
    have hc' : kids.length = 1 := of_decide_eq_true hr
    obtain ⟨k0, rfl⟩ : ∃ k0, kids = [k0] := by
      match kids, hc' with
      | [a], _ => exact ⟨a, rfl⟩
    obtain ⟨t0, rfl⟩ : ∃ t0, ts = [t0] := by
      match ts, hl with
      | [a], _ => exact ⟨a, rfl⟩
    obtain ⟨g, rfl, hc⟩ := own_at' hown (by simp)
    exact tx_snd op name line col num k0 t0 g 0 cap e9 W hT ht (hc 0 (by simp)) hn (hK 0 (by simp))
  by_cases e10 : op = kOr
  · rw [e10] at hr
    have hc' : kids.length = 2 := of_decide_eq_true hr
    obtain ⟨k0, k1, rfl⟩ : ∃ k0 k1, kids = [k0, k1] := by
      match kids, hc' with
      | [a, b], _ => exact ⟨a, b, rfl⟩
    obtain ⟨t0, t1, rfl⟩ : ∃ t0 t1, ts = [t0, t1] := by
      match ts, hl with
      | [a, b], _ => exact ⟨a, b, rfl⟩
    obtain ⟨g, rfl, hc⟩ := own_at' hown (by simp)
    exact tx_or op name line col num k0 k1 t0 t1 g 0 cap e10 W hT ht (hc 0 (by simp)) (hc 1 (by simp)) hn (hK 0 (by simp)) (hK 1 (by simp))
  by_cases e11 : op = kAnd
  · rw [e11] at hr
    have hc' : kids.length = 2 := of_decide_eq_true hr
    obtain ⟨k0, k1, rfl⟩ : ∃ k0 k1, kids = [k0, k1] := by
      match kids, hc' with
      | [a, b], _ => exact ⟨a, b, rfl⟩
    obtain ⟨t0, t1, rfl⟩ : ∃ t0 t1, ts = [t0, t1] := by
      match ts, hl with
      | [a, b], _ => exact ⟨a, b, rfl⟩
    obtain ⟨g, rfl, hc⟩ := own_at' hown (by simp)
    exact tx_and op name line col num k0 k1 t0 t1 g 0 cap e11 W hT ht (hc 0 (by simp)) (hc 1 (by simp)) hn (hK 0 (by simp)) (hK 1 (by simp))
  by_cases e12 : op = kEq
  · rw [e12] at hr
    have hc' : kids.length = 2 := of_decide_eq_true hr
    obtain ⟨k0, k1, rfl⟩ : ∃ k0 k1, kids = [k0, k1] := by
      match kids, hc' with
      | [a, b], _ => exact ⟨a, b, rfl⟩
    obtain ⟨t0, t1, rfl⟩ : ∃ t0 t1, ts = [t0, t1] := by
      match ts, hl with
      | [a, b], _ => exact ⟨a, b, rfl⟩
    obtain ⟨g, rfl, hc⟩ := own_at' hown (by simp)
    exact tx_eq op name line col num k0 k1 t0 t1 g 0 cap e12 W hT ht (hc 0 (by simp)) (hc 1 (by simp)) hn (hK 0 (by simp)) (hK 1 (by simp))
  by_cases e13 : op = kLt
  · rw [e13] at hr
    have hc' : kids.length = 2 := of_decide_eq_true hr
    obtain ⟨k0, k1, rfl⟩ : ∃ k0 k1, kids = [k0, k1] := by
      match kids, hc' with
      | [a, b], _ => exact ⟨a, b, rfl⟩
    obtain ⟨t0, t1, rfl⟩ : ∃ t0 t1, ts = [t0, t1] := by
      match ts, hl with
      | [a, b], _ => exact ⟨a, b, rfl⟩
    obtain ⟨g, rfl, hc⟩ := own_at' hown (by simp)
    exact tx_lt op name line col num k0 k1 t0 t1 g 0 cap e13 W hT ht (hc 0 (by simp)) (hc 1 (by simp)) hn (hK 0 (by simp)) (hK 1 (by simp))
  by_cases e14 : op = kPlus
  · rw [e14] at hr
    have hc' : kids.length = 2 := of_decide_eq_true hr
    obtain ⟨k0, k1, rfl⟩ : ∃ k0 k1, kids = [k0, k1] := by
      match kids, hc' with
      | [a, b], _ => exact ⟨a, b, rfl⟩
    obtain ⟨t0, t1, rfl⟩ : ∃ t0 t1, ts = [t0, t1] := by
      match ts, hl with
      | [a, b], _ => exact ⟨a, b, rfl⟩
    obtain ⟨g, rfl, hc⟩ := own_at' hown (by simp)
    exact tx_plus op name line col num k0 k1 t0 t1 g 0 cap e14 W hT ht (hc 0 (by simp)) (hc 1 (by simp)) hn (hK 0 (by simp)) (hK 1 (by simp))
  by_cases e15 : op = kMinus
  · rw [e15] at hr
    have hc' : kids.length = 2 := of_decide_eq_true hr
    obtain ⟨k0, k1, rfl⟩ : ∃ k0 k1, kids = [k0, k1] := by
      match kids, hc' with
      | [a, b], _ => exact ⟨a, b, rfl⟩
    obtain ⟨t0, t1, rfl⟩ : ∃ t0 t1, ts = [t0, t1] := by
      match ts, hl with
      | [a, b], _ => exact ⟨a, b, rfl⟩
    obtain ⟨g, rfl, hc⟩ := own_at' hown (by simp)
    exact tx_minus op name line col num k0 k1 t0 t1 g 0 cap e15 W hT ht (hc 0 (by simp)) (hc 1 (by simp)) hn (hK 0 (by simp)) (hK 1 (by simp))
  by_cases e16 : op = kStar
  · rw [e16] at hr
    have hc' : kids.length = 2 := of_decide_eq_true hr
    obtain ⟨k0, k1, rfl⟩ : ∃ k0 k1, kids = [k0, k1] := by
      match kids, hc' with
      | [a, b], _ => exact ⟨a, b, rfl⟩
    obtain ⟨t0, t1, rfl⟩ : ∃ t0 t1, ts = [t0, t1] := by
      match ts, hl with
      | [a, b], _ => exact ⟨a, b, rfl⟩
    obtain ⟨g, rfl, hc⟩ := own_at' hown (by simp)
    exact tx_star op name line col num k0 k1 t0 t1 g 0 cap e16 W hT ht (hc 0 (by simp)) (hc 1 (by simp)) hn (hK 0 (by simp)) (hK 1 (by simp))
  by_cases e17 : op = kRelease
  · rw [e17] at hr
    have hc' : kids.length = 1 := of_decide_eq_true hr
    obtain ⟨k0, rfl⟩ : ∃ k0, kids = [k0] := by
      match kids, hc' with
      | [a], _ => exact ⟨a, rfl⟩
    obtain ⟨t0, rfl⟩ : ∃ t0, ts = [t0] := by
      match ts, hl with
      | [a], _ => exact ⟨a, rfl⟩
    obtain ⟨g, rfl, hc⟩ := own_at' hown (by simp)
    exact tx_release op name line col num k0 t0 g 0 cap e17 W hT ht (hc 0 (by simp)) hn (hK 0 (by simp))
  by_cases e18 : op = nCall
  · by_cases hp : 0 < kids.length
    · obtain ⟨g, rfl, hc⟩ := own_at' hown hp
      have hJ : (joinL (ts.map textT)).size ≤ 140737488355328 := by
        rw [show nodeB (.mk op name num ts) (ts.map textT) = name ++ ⟨#[40]⟩ ++ joinL (ts.map textT) ++ ⟨#[41]⟩ by rw [e18]; kernel_rfl] at hz
        simp only [ByteArray.size_append] at hz
        omega
      exact tx_callM op name line col num g cap W e18 hT ht hn kids ts hl hkl hp b0 hown hK hJ
    · obtain rfl := List.eq_nil_of_length_eq_zero (show kids.length = 0 by omega)
      obtain rfl := List.eq_nil_of_length_eq_zero (show ts.length = 0 by rw [hl]; rfl)
      rcases hown.2 with ⟨h0, _⟩ | ⟨g, cap', cur, e', _⟩
      · cases h0
        exact tx_callN op name line col num W e18 hT ht hn
      · cases e'
        exact tx_callS op name line col num g cap W e18 hT ht hn
  by_cases e19 : op = nPair
  · rw [e19] at hr
    have hc' : kids.length = 2 := of_decide_eq_true hr
    obtain ⟨k0, k1, rfl⟩ : ∃ k0 k1, kids = [k0, k1] := by
      match kids, hc' with
      | [a, b], _ => exact ⟨a, b, rfl⟩
    obtain ⟨t0, t1, rfl⟩ : ∃ t0 t1, ts = [t0, t1] := by
      match ts, hl with
      | [a, b], _ => exact ⟨a, b, rfl⟩
    obtain ⟨g, rfl, hc⟩ := own_at' hown (by simp)
    have hJ : (joinL [textT t0, textT t1]).size ≤ 140737488355328 := by
      have e : nodeB (.mk op name num [t0, t1]) [textT t0, textT t1] = ⟨#[40]⟩ ++ joinL [textT t0, textT t1] ++ ⟨#[41]⟩ := by rw [e19]; kernel_rfl
      rw [show ([t0, t1] : List Tm).map textT = [textT t0, textT t1] from rfl, e] at hz
      simp only [ByteArray.size_append] at hz
      omega
    exact tx_pair op name line col num k0 k1 t0 t1 g 0 cap e19 W hT ht (hc 0 (by simp)) (hc 1 (by simp)) hn (hK 0 (by simp)) (hK 1 (by simp)) hJ
  have h0 : kids.length = 0 := by
    have e : rightB op kids.length = if op = kRaise ∨ op = kHole ∨ op = nGet ∨ op = nUnit ∨ op = nInt ∨ op = nVar ∨ op = kTrue ∨ op = kFalse then decide (kids.length = 0) else false := by
      simp [rightB, e0, e1, e2, e3, e4, e5, e6, e7, e8, e9, e10, e11, e12, e13, e14, e15, e16, e17, e18, e19]
    rw [e] at hr
    split at hr
    · exact of_decide_eq_true hr
    · cases hr
  obtain rfl := List.eq_nil_of_length_eq_zero h0
  obtain rfl := List.eq_nil_of_length_eq_zero (show ts.length = 0 by rw [hl]; rfl)
  rcases hown.2 with ⟨h0, _⟩ | ⟨g, cap', cur, e', _⟩
  · cases h0
    exact tx_leafN op name line col num W hT ht ho hn hu0 hu1 e0 e1 e2 e3 e4 e5 e6 e7 e8 e9 e10 e11 e12 e13 e14 e15 e16 e17 e18 e19
  · cases e'
    exact tx_leafS op name line col num g cap W hT ht ho hn hu0 hu1 e0 e1 e2 e3 e4 e5 e6 e7 e8 e9 e10 e11 e12 e13 e14 e15 e16 e17 e18 e19
theorem ok_of {ms : List (Nd × Value)} (hS : Shown ms) : ∀ x ∈ ms.map (·.1), x.op.size ≤ 2097152 ∧ x.name.size ≤ 2097152 ∧ (-9223372036854775808 ≤ x.num ∧ x.num ≤ 9223372036854775807) := fun x hx => by
  obtain ⟨p, hp, rfl⟩ := List.mem_map.1 hx
  exact ⟨hS.op p hp, hS.name p hp, hS.lo p hp, hS.hi p hp⟩
/-- An expression's text is not too long. -/
theorem text_small {ms : List (Nd × Value)} (hS : Shown ms) {k : Nat} (hk : k < ms.length) : (textT (tm (ms.map (·.1)) k)).size ≤ 1099511627776 := by
  have hi : inT (ms.map (·.1)).length (k : Int) = true := by rw [Tr.TreP.inT_iff]; simp; omega
  have h1 := text_le _ (ok_tm hS.fine.wf (ok_of hS) ms.length k hi (by omega))
  have h2 := nodes_places hS.fine.wf ms.length k hi (by omega)
  have h3 := hS.fine.few k hk
  rw [h2] at h1
  generalize (places ms.length (ms.map (·.1)) k).length = q at h1 h3
  generalize (textT (tm (ms.map (·.1)) k)).size = z at h1 ⊢
  omega
theorem kid_in {B t : Nat} {v : Value} {ms : List (Nd × Value)} (hS : Shown ms) (f : Nat) : ∀ (k : Nat) (hk : k < ms.length), k < f → rightT (tm (ms.map (·.1)) k) = true → KidC B t v ms k (tm (ms.map (·.1)) k) := by
  induction f with
  | zero => intro k hk hf; omega
  | succ f ih =>
    intro k hk hf hr
    have hm := List.getElem_mem hk
    have hsz := text_small hS hk
    have hat := tm_at hS.fine hk
    have hz : (textT (.mk ms[k].1.op ms[k].1.name ms[k].1.num (ms[k].1.kids.map (tm (ms.map (·.1)))))).size ≤ 1099511627776 := by
      rw [← hat]
      exact hsz
    have hr2 := right_at hS.fine hk hr
    have hl2 : (ms[k].1.kids.map (tm (ms.map (·.1)))).length = ms[k].1.kids.length := List.length_map _
    have h1 := hS.fine.kid _ hm
    have h2 := hS.op _ hm
    have h3 := hS.name _ hm
    have h4 := hS.lo _ hm
    have h5 := hS.hi _ hm
    have hX : TextK B t v ms ms[k].1 (.mk ms[k].1.op ms[k].1.name ms[k].1.num (ms[k].1.kids.map (tm (ms.map (·.1))))) := by
      refine text_in _ _ hl2 h1 hr2 h2 h3 h4 h5 hz (fun j hj => ?_) (fun j hj => ?_)
      · obtain ⟨q, hq, hlt, e1, e2⟩ := kid_of hS.fine hk hj
        have hrk := right_kid hS.fine hk hr hj
        rw [e2]
        rw [e1] at hrk ⊢
        exact ih q hq (by omega) hrk
      · obtain ⟨q, hq, hlt, e1, e2⟩ := kid_of hS.fine hk hj
        have hrk := right_kid hS.fine hk hr hj
        rw [e2]
        rw [e1] at hrk ⊢
        exact fun W hW => open_in hS ms.length q hq hq hrk W hW
    rw [← hat] at hX
    exact at_in hS.fine hk (by rw [hat]; rfl) hsz hX
end Go.Proofs.YtmeacgmjpjjphaaGreatDoor
namespace Go.Proofs.YtmeacgmjpjjphaaGreatDoor
open Go.RowKit Go.Shelf
open Tr (Nd TreeAt Ints Fine ndV)
open Tr.TreP (WF fits places nd inT)

theorem eqL_all : ∀ (l r : List Tm), eqL l r = (decide (l.length = r.length) && (List.range l.length).all fun j => eqT (l.getD j Tm.none) (r.getD j Tm.none))
  | [], [] => by simp [eqL]
  | [], y :: r => by simp [eqL]
  | x :: l, [] => by simp [eqL]
  | x :: l, y :: r => by
    rw [eqL, eqL_all l r]
    simp only [List.length_cons, List.range_succ_eq_map, List.all_cons, List.getD_cons_zero, List.all_map, Function.comp_def, List.getD_cons_succ, Nat.add_right_cancel_iff]
    cases eqT x y <;> simp
set_option maxRecDepth 100000 in
set_option maxHeartbeats 4000000 in
/-- slices.EqualFunc at numbers, with a function that answers by E. -/
theorem EqualFunc_in {W : World} {l r : List Int} {A B : Option Addr} {ca cb : Nat} {g : Nat} {lb : Array Value} (E : Nat → Bool) (eg : ∀ args w, (callFunc g args).run Tryz.prog w = .ok (.enter g args) w) (hl : l.length ≤ 1000000) (hr : r.length ≤ 1000000) (h1 : Ints W (.slice A l.length ca) l) (h2 : Ints W (.slice B r.length cb) r)
    (hstep : ∀ k W', k < l.length → k < r.length → Below W.heap.size W W' → Calls Tryz.prog g (#[.int .i64 (l.getD k 0), .int .i64 (r.getD k 0)] ++ lb) W' fun e W'' => e = .returned (.bool (E k)) ∧ Below W'.heap.size W' W'') :
    Calls Tryz.prog 34 #[.slice A l.length ca, .slice B r.length cb, .func (.func g) #[] lb] W fun e W' => e = .returned (.bool (decide (l.length = r.length) && (List.range l.length).all E)) ∧ Below W.heap.size W W' := by
  have HA := Lib.hid h1
  have HB := Lib.hid h2
  have HS := Lib.hid hstep
  clear h1 h2 hstep
  by_cases hlr : l.length = r.length
  · rw [decide_eq_true hlr, Bool.true_and]
    have HLR := Lib.hid hlr
    rw [← hlr]
    clear hlr
    go_enter Tryz.func34, Tryz.ntmps34
    go_wp2_with fail
    go_loopg [7, 8, 9, 17] l.length (fun gk _ _ _ iv wr => ∃ i : Nat, iv = .int .i64 i ∧ i + gk = l.length ∧ Below W.heap.size W wr ∧ ∀ j, j < i → E j = true)
    case atStart => exact ⟨0, rfl, by omega, Below.refl _ _, fun j hj => by omega⟩
    case round =>
      obtain ⟨i, rfl, hi, hbe, hall⟩ := hrel
      have H2 := Lib.hid (And.intro hbe hall)
      clear hbe hall
      by_cases hil : i < l.length
      · obtain ⟨gq, rfl⟩ : ∃ g, gk = g + 1 := ⟨gk - 1, by omega⟩
        have hlt' : (i : Int) < (l.length : Int) := by omega
        obtain ⟨b1, o1, c1, e1, hc1⟩ := ints_at HA.out (by omega)
        obtain ⟨b2, o2, c2, e2, hc2⟩ := ints_at HB.out (by have := HLR.out; omega)
        cases e1
        cases e2
        have p1 := (H2.out.1.cell (p := ⟨b1, o1 + i, none⟩) (Tr.cell_lt (hc1 i hil))).trans (hc1 i hil)
        have p2 := (H2.out.1.cell (p := ⟨b2, o2 + i, none⟩) (Tr.cell_lt (hc2 i (by have := HLR.out; omega)))).trans (hc2 i (by have := HLR.out; omega))
        have HC := Lib.hid (HS.out i wr hil (by have := HLR.out; omega) H2.out.1)
        clear hc1 hc2
        generalize l.getD i 0 = x at *
        generalize r.getD i 0 = y at *
        cases hz : E i with
        | true =>
          rw [hz] at HC
          have HZ := Lib.hid hz
          clear hz
          go_wp2_with (go_at_fn g; refine HC.out.mono ?_; rintro e w3 ⟨rfl, hb3⟩)
          have HB3 := Lib.hid (H2.out.1.trans (hb3.mono H2.out.1.size))
          clear hb3 p1 p2
          go_roundg gq
          case measure => omega
          case rel =>
            refine ⟨i + 1, by first | rfl | go_num, by omega, HB3.out, fun j hj => ?_⟩
            by_cases ej : j = i
            · subst ej
              exact HZ.out
            · exact H2.out.2 j (by omega)
        | false =>
          rw [hz] at HC
          have HZ := Lib.hid hz
          clear hz
          go_wp2_with (go_at_fn g; refine HC.out.mono ?_; rintro e w3 ⟨rfl, hb3⟩)
          have HB3 := Lib.hid (H2.out.1.trans (hb3.mono H2.out.1.size))
          clear hb3 p1 p2
          go_ret
          refine ⟨congrArg (fun x => Ending.returned (Value.bool x)) ?_, HB3.out⟩
          symm
          rw [List.all_eq_false]
          exact ⟨i, List.mem_range.2 hil, by rw [HZ.out]; simp⟩
      · have hlt' : ¬ (i : Int) < (l.length : Int) := by omega
        go_wp2_with fail
        go_ret
        refine ⟨congrArg (fun x => Ending.returned (Value.bool x)) ?_, H2.out.1⟩
        exact (List.all_eq_true.2 fun j hj => H2.out.2 j (by have := List.mem_range.1 hj; omega)).symm
  · have hl' : ¬ ((l.length : Int) = (r.length : Int)) := by omega
    rw [decide_eq_false hlr, Bool.false_and]
    go_enter Tryz.func34, Tryz.ntmps34
    go_wp2_with fail
    go_ret
    exact ⟨rfl, Below.refl _ _⟩
end Go.Proofs.YtmeacgmjpjjphaaGreatDoor
namespace Go.Proofs.YtmeacgmjpjjphaaGreatDoor
open Go.RowKit Go.Shelf
open Tr (Nd TreeAt Ints Fine ndV)
open Tr.TreP (WF fits places nd inT)

theorem txt_eq (a b : ByteArray) : (a.toList == b.toList) = decide (a = b) := by
  by_cases h : a = b
  · subst h
    simp
  · rw [decide_eq_false h]
    cases hb : (a.toList == b.toList) with
    | false => rfl
    | true =>
      refine absurd ?_ h
      rw [ByteArray.toList_eq, ByteArray.toList_eq] at hb
      have hb := eq_of_beq hb
      apply ByteArray.ext
      apply Array.ext'
      exact hb
set_option maxRecDepth 100000 in
set_option maxHeartbeats 4000000 in
theorem Same1_in {W : World} {b1 b2 : Nat} {p1 p2 : Option Addr} {x y : Int} {z : Bool} (c1 : W.cell? ⟨b1, 0, none⟩ = some (.pointer p1)) (c2 : W.cell? ⟨b2, 0, none⟩ = some (.pointer p2))
    (hS : Calls Tryz.prog 15 #[.pointer p1, .int .i64 x, .pointer p2, .int .i64 y] W fun e W' => e = .returned (.bool z) ∧ Below W.heap.size W W') :
    Calls Tryz.prog 35 #[.int .i64 x, .int .i64 y, .pointer (some ⟨b1, 0, none⟩), .pointer (some ⟨b2, 0, none⟩)] W fun e W' => e = .returned (.bool z) ∧ Below W.heap.size W W' := by
  have HS := Lib.hid hS
  clear hS
  go_enter Tryz.func35, Tryz.ntmps35
  go_wp2_with fail
  refine HS.out.mono ?_
  rintro e w2 ⟨rfl, hb⟩
  have HB := Lib.hid hb
  clear hb
  go_wp2_with fail
  go_ret
  exact ⟨rfl, HB.out⟩
def nodeC (x : Nd) (A : Option Addr) (c : Nat) : Obj := .cells #[.string x.op, .int .i64 x.line, .int .i64 x.col, .string x.name, .int .i64 x.num, .slice A x.kids.length c] 53
set_option maxRecDepth 100000 in
set_option maxHeartbeats 8000000 in
theorem Same_in {B1 t1 B2 t2 : Nat} {v1 v2 : Value} {ms1 ms2 : List (Nd × Value)} (hF1 : Fine ms1) (hF2 : Fine ms2) (f : Nat) : ∀ (i k : Nat) (hi : i < ms1.length) (hk : k < ms2.length), i < f → ∀ W, TreeAt W B1 t1 v1 ms1 → TreeAt W B2 t2 v2 ms2 →
    Calls Tryz.prog 15 #[.pointer (some ⟨t1, 0, none⟩), .int .i64 i, .pointer (some ⟨t2, 0, none⟩), .int .i64 k] W fun e W' => e = .returned (.bool (eqT (tm (ms1.map (·.1)) i) (tm (ms2.map (·.1)) k))) ∧ Below W.heap.size W W' := by
  induction f with
  | zero => intro i k hi hk hf; omega
  | succ f ih =>
  intro i k hi hk hf W hT1 hT2
  have hb := ((Below.refl W.heap.size W).alloc (Nat.le_refl _) (.cells #[.pointer (some ⟨t1, 0, none⟩)] 23)).alloc (by simp) (.cells #[.pointer (some ⟨t2, 0, none⟩)] 23)
  have hk1 := (Below.heap_alloc (W.alloc (.cells #[.pointer (some ⟨t1, 0, none⟩)] 23)) (.cells #[.pointer (some ⟨t2, 0, none⟩)] 23) W.heap.size (by simp)).trans (Tr.last W (.cells #[.pointer (some ⟨t1, 0, none⟩)] 23))
  have hk2 := Tr.last (W.alloc (.cells #[.pointer (some ⟨t1, 0, none⟩)] 23)) (.cells #[.pointer (some ⟨t2, 0, none⟩)] 23)
  rw [show (W.alloc (.cells #[.pointer (some ⟨t1, 0, none⟩)] 23)).heap.size = W.heap.size + 1 by simp] at hk2
  have HT := Lib.hid (And.intro (hT1.below hb) (hT2.below hb))
  have HB := Lib.hid hb
  have HK := Lib.hid (And.intro hk1 hk2)
  have HG1 := Lib.hid (fun w (h : TreeAt w B1 t1 v1 ms1) => Tr.Get_hit h hi (by have := hF1.kid _ (List.getElem_mem hi); omega) (by have := hF1.len; omega))
  have HG2 := Lib.hid (fun w (h : TreeAt w B2 t2 v2 ms2) => Tr.Get_hit h hk (by have := hF2.kid _ (List.getElem_mem hk); omega) (by have := hF2.len; omega))
  have HIH := Lib.hid (show ∀ j, j < ms1[i].1.kids.length → j < ms2[k].1.kids.length → ∀ W, TreeAt W B1 t1 v1 ms1 → TreeAt W B2 t2 v2 ms2 → Calls Tryz.prog 15 #[.pointer (some ⟨t1, 0, none⟩), .int .i64 (ms1[i].1.kids.getD j 0), .pointer (some ⟨t2, 0, none⟩), .int .i64 (ms2[k].1.kids.getD j 0)] W fun e W' => e = .returned (.bool (eqT ((ms1[i].1.kids.map (tm (ms1.map (·.1)))).getD j Tm.none) ((ms2[k].1.kids.map (tm (ms2.map (·.1)))).getD j Tm.none))) ∧ Below W.heap.size W W' from fun j h1 h2 W a1 a2 => by
    obtain ⟨q1, hq1, hlt1, e1, e1'⟩ := kid_of hF1 hi h1
    obtain ⟨q2, hq2, hlt2, e2, e2'⟩ := kid_of hF2 hk h2
    rw [e1', e2', e1, e2]
    exact ih q1 q2 hq1 hq2 (by omega) W a1 a2)
  have hkl1 := hF1.kid _ (List.getElem_mem hi)
  have hkl2 := hF2.kid _ (List.getElem_mem hk)
  rw [tm_at hF1 hi, tm_at hF2 hk]
  clear ih hT1 hT2 hb hk1 hk2 hF1 hF2 hf
  generalize ms1[i].1 = x at *
  generalize ms2[k].1 = y at *
  obtain ⟨op, line, col, name, num, kids⟩ := x
  obtain ⟨op', line', col', name', num', kids'⟩ := y
  unfold ndV at HG1 HG2
  simp only at HG1 HG2 HIH hkl1 hkl2 ⊢
  obtain ⟨r, hr⟩ : ∃ r, eqT (.mk op name num (kids.map (tm (ms1.map (·.1))))) (.mk op' name' num' (kids'.map (tm (ms2.map (·.1))))) = r := ⟨_, rfl⟩
  rw [hr]
  simp only [eqT, eqL_all, List.length_map] at hr
  generalize hts1 : kids.map (tm (ms1.map (·.1))) = ts1 at *
  generalize hts2 : kids'.map (tm (ms2.map (·.1))) = ts2 at *
  have HR := Lib.hid hr
  clear hr hts1 hts2
  go_enter Tryz.func15, Tryz.ntmps15
  go_upto_region 1 with fail
  generalize (W.alloc (.cells #[.pointer (some ⟨t1, 0, none⟩)] 23)).alloc (.cells #[.pointer (some ⟨t2, 0, none⟩)] 23) = w1 at *
  have d1 := cell1 HK.out.1
  have d2 := cell1 HK.out.2
  go_wp2_with fail
  refine (HG1.out w1 HT.out.1).mono ?_
  rintro e w2 ⟨s1, rfl, hs1, hb2⟩
  obtain ⟨A1, c1, rfl⟩ := hs1.form
  have hbn := (Below.refl w2.heap.size w2).alloc (Nat.le_refl _) (.cells #[.string op, .int .i64 line, .int .i64 col, .string name, .int .i64 num, .slice A1 kids.length c1] 53)
  have HB3 := Lib.hid (chain hb2 hbn)
  have HI1 := Lib.hid (hs1.below hbn)
  have HN1 := Lib.hid (Tr.last w2 (.cells #[.string op, .int .i64 line, .int .i64 col, .string name, .int .i64 num, .slice A1 kids.length c1] 53))
  clear hs1 hb2 hbn
  go_upto_region 2 with fail
  generalize w2.alloc (.cells #[.string op, .int .i64 line, .int .i64 col, .string name, .int .i64 num, .slice A1 kids.length c1] 53) = w3 at *
  generalize w2.heap.size = n1 at *
  have d1 := (HB3.out.cell (p := ⟨W.heap.size, 0, none⟩) (Tr.cell_lt d1)).trans d1
  have d2 := (HB3.out.cell (p := ⟨W.heap.size + 1, 0, none⟩) (Tr.cell_lt d2)).trans d2
  go_wp2_with fail
  refine (HG2.out w3 (HT.out.2.below HB3.out)).mono ?_
  rintro e w4 ⟨s2, rfl, hs2, hb4⟩
  obtain ⟨A2, c2, rfl⟩ := hs2.form
  have hbn := (Below.refl w4.heap.size w4).alloc (Nat.le_refl _) (.cells #[.string op', .int .i64 line', .int .i64 col', .string name', .int .i64 num', .slice A2 kids'.length c2] 53)
  have hb5 := chain hb4 hbn
  have HB5 := Lib.hid (chain HB3.out hb5)
  have HI2 := Lib.hid (hs2.below hbn)
  have HI1' := Lib.hid (HI1.out.below hb5)
  have HN1' := Lib.hid ((hb5.block _ (Tr.heap_lt HN1.out)).trans HN1.out)
  have HN2 := Lib.hid (Tr.last w4 (.cells #[.string op', .int .i64 line', .int .i64 col', .string name', .int .i64 num', .slice A2 kids'.length c2] 53))
  have HD := Lib.hid (And.intro ((hb5.cell (p := ⟨W.heap.size, 0, none⟩) (Tr.cell_lt d1)).trans d1) ((hb5.cell (p := ⟨W.heap.size + 1, 0, none⟩) (Tr.cell_lt d2)).trans d2))
  clear hs2 hb4 hbn hb5 d1 d2
  go_upto_region 3 with fail
  generalize w4.alloc (.cells #[.string op', .int .i64 line', .int .i64 col', .string name', .int .i64 num', .slice A2 kids'.length c2] 53) = w5 at *
  generalize w4.heap.size = n2 at *
  have HBW := Lib.hid (chain HB.out (HB5.out))
  obtain ⟨a0, a1, a2, a3, a4, a5⟩ := Tr.cellsOf6 HN1'.out
  obtain ⟨b0, b1, b2, b3, b4, b5⟩ := Tr.cellsOf6 HN2.out
  have HEQ := Lib.hid (EqualFunc_in (W := w5) (l := kids) (r := kids') (A := A1) (B := A2) (ca := c1) (cb := c2) (g := 35) (lb := #[.pointer (some ⟨W.heap.size, 0, none⟩), .pointer (some ⟨W.heap.size + 1, 0, none⟩)]) (fun j => eqT (ts1.getD j Tm.none) (ts2.getD j Tm.none)) (enters_of Tryz.func35 (by kernel_rfl) rfl) (by omega) (by omega) HI1'.out.ints HI2.out.ints (fun j W' h1 h2 hb => by
    have hc := HIH.out j h1 h2 W' ((HT.out.1.below HB5.out).below hb) ((HT.out.2.below HB5.out).below hb)
    exact Same1_in ((hb.cell (p := ⟨W.heap.size, 0, none⟩) (Tr.cell_lt HD.out.1)).trans HD.out.1) ((hb.cell (p := ⟨W.heap.size + 1, 0, none⟩) (Tr.cell_lt HD.out.2)).trans HD.out.2) hc))
  generalize hZ : (decide (kids.length = kids'.length) && (List.range kids.length).all fun j => eqT (ts1.getD j Tm.none) (ts2.getD j Tm.none)) = Z at *
  clear hZ
  have HQ := Lib.hid (And.intro (txt_eq op op') (txt_eq name name'))
  by_cases e1 : op = op'
  · have h1 : (op.toList == op'.toList) = true := HQ.out.1.trans (decide_eq_true e1)
    rw [decide_eq_true e1] at HR
    clear e1
    by_cases e2 : name = name'
    · have h2 : (name.toList == name'.toList) = true := HQ.out.2.trans (decide_eq_true e2)
      rw [decide_eq_true e2] at HR
      clear e2
      by_cases e3 : num = num'
      · subst e3
        have HRZ := Lib.hid (show Z = r by have := HR.out; simpa using this)
        clear HR
        go_wp2_with fail
        refine HEQ.out.mono ?_
        rintro e w6 ⟨rfl, hb6⟩
        have HB6 := Lib.hid (chain HBW.out hb6)
        clear hb6
        go_wp2_with fail
        go_ret
        exact ⟨by rw [← HRZ.out]; rfl, HB6.out⟩
      · rw [decide_eq_false e3] at HR
        have HRZ := Lib.hid (show r = false by have := HR.out; simpa using this.symm)
        have e3' : decide (num = num') = false := decide_eq_false e3
        have e3'' : (num == num') = false := by simpa using e3
        clear HR
        go_wp2_with fail
        go_ret
        exact ⟨by rw [HRZ.out]; first | rfl | simp [e3], HBW.out⟩
    · have h2 : (name.toList == name'.toList) = false := HQ.out.2.trans (decide_eq_false e2)
      rw [decide_eq_false e2] at HR
      have HRZ := Lib.hid (show r = false by have := HR.out; simpa using this.symm)
      clear HR e2
      go_wp2_with fail
      go_ret
      exact ⟨by rw [HRZ.out]; rfl, HBW.out⟩
  · have h1 : (op.toList == op'.toList) = false := HQ.out.1.trans (decide_eq_false e1)
    rw [decide_eq_false e1] at HR
    have HRZ := Lib.hid (show r = false by have := HR.out; simpa using this.symm)
    clear HR e1
    go_wp2_with fail
    go_ret
    exact ⟨by rw [HRZ.out]; rfl, HBW.out⟩
end Go.Proofs.YtmeacgmjpjjphaaGreatDoor
