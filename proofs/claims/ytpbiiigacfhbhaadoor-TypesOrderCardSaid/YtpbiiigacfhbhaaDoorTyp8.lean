/- A type's text: the reference's. -/
import Derived.Test.YtpbiiigacfhbhaaDoorTyp7
set_option linter.unusedVariables false
set_option linter.unusedSimpArgs false
namespace Go.Proofs.YtpbiiigacfhbhaaDoor
open Go.RowKit
open TypP (Kd Acy Occ Uni Step Txt TStep Sn)

/-- A row of numbers of one's own. -/
abbrev RowI (w : World) (B : Nat) (v : Value) (l : List Nat) : Prop := w.ownsRow B 3 1 v l.length (l.map fun y => .int .i64 (y : Nat))
theorem rowI_form {w : World} {B : Nat} {v : Value} {l : List Nat} (h : RowI w B v l) : ∃ A cap, v = .slice A l.length cap := by
  rcases h.2 with ⟨rfl, h0⟩ | ⟨g', cap, cur, rfl, _⟩
  · exact ⟨none, 0, by rw [h0]⟩
  · exact ⟨_, _, rfl⟩
theorem rowI_cells {w : World} {B m cap i : Nat} {A : Option Addr} {l : List Nat} (h : RowI w B (.slice A m cap) l) (hi : i < l.length) : ∃ o, A = some ⟨o, 0, none⟩ ∧ ∀ j, j < l.length → w.cell? ⟨o, j, none⟩ = some (.int .i64 ((l.getD j 0 : Nat) : Int)) := by
  obtain ⟨o, ho⟩ : ∃ o, A = some ⟨o, 0, none⟩ := by
    rcases h.2 with ⟨e, h0⟩ | ⟨g', cap', cur, e, _⟩
    · omega
    · cases e
      exact ⟨g', rfl⟩
  subst ho
  refine ⟨o, rfl, fun j hj => ?_⟩
  obtain rfl : m = l.length := by
    rcases h.2 with ⟨e, h0⟩ | ⟨g', cap', cur, e, _⟩
    · cases e
    · cases e
      rfl
  have := World.ownsRow.cellAt (g := o) (cap := cap) h j (by simpa using hj)
  rw [this]
  simp [List.getD, hj]
theorem apartR {w : World} {B t g cap n : Nat} {v : Value} {l : List Nat} {c : Nat → List Value} (h : RSto w B t g cap n c) (k : RowI w B v l) : v.ownBlock ≠ some g ∧ v.ownBlock ≠ some t := by
  obtain ⟨cur, hg⟩ := PSto.objs h
  exact ⟨far_block k hg (by decide), far_block k h.obj (by decide)⟩
theorem Sto.kept {ty el : TypeId} {s : Nat} {w w' : World} {B t g cap n : Nat} {c : Nat → List Value} {S : Nat → Prop} (h : Sto ty el s w B t g cap n c) (k : Kept S w w') (h1 : ¬ S t) (h2 : ¬ S g) : Sto ty el s w' B t g cap n c :=
  h.keep (k.block t h.lt.1 h1) (k.block g h.lt.2 h2)

theorem info_int : (Tryd.prog.info? 3).map (fun i => (i.zero, i.size, i.bytes)) = some (some (.int .i64 0), 1, 8) := by kernel_rfl

def RTextC (K : Nat → Kd) (R : Nat → Nat) (n : Nat) (d : Nat → Nat) (B t g cap : Nat) (c : Nat → List Value) (seen : List Nat) (x : Nat) (s : ByteArray) (seen' : List Nat) : Prop :=
  x < n → Sn n seen → ∀ (w : World) (v : Value), RSto w B t g cap n c → RowI w B v seen →
    Calls Tryd.prog 28 #[.pointer (some ⟨t, 0, none⟩), .int .i64 x, v] w fun e w' => ∃ v', e = .returned (.tuple #[.string s, v']) ∧ RowI w' B v' seen' ∧
      Kept (fun k => v.ownBlock = some k) w w' ∧ (v'.ownBlock = v.ownBlock ∨ ∃ k, w.heap.size ≤ k ∧ v'.ownBlock = some k)

set_option maxRecDepth 100000 in
set_option maxHeartbeats 8000000 in
theorem rtext_in {K : Nat → Kd} {R : Nat → Nat} {n : Nat} {d r : Nat → Nat} {B t g cap : Nat} {c : Nat → List Value} (hA : Acy K R n r) (hn : n ≤ 50) (hp : RS K R n d c) {seen : List Nat} {x : Nat} {s : ByteArray} {seen' : List Nat} (ht : Txt K R seen x s seen') : RTextC K R n d B t g cap c seen x s seen' := by
  refine TypP.txt_ind ?_ ht
  clear ht seen x s seen'
  intro seen x s seen' hst hx hsn w v h hv
  obtain ⟨hy, hry⟩ := hA.root x hx
  have hf := Find_in h hp hx
  obtain ⟨A, cv, rfl⟩ := rowI_form hv
  have HV := Lib.hid hv
  have HST := Lib.hid hst
  have HA := Lib.hid hA
  have HSN := Lib.hid hsn
  have HAP := Lib.hid (apartR h hv)
  have HS := Lib.hid h
  have HP := Lib.hid hp
  clear h hp hst hsn hv hA
  go_enter Tryd.func28, Tryd.ntmps28
  go_wp2_with fail
  refine hf.mono ?_
  clear hf
  rintro e w1 ⟨rfl, rfl⟩
  generalize hRX : R x = y at *
  have HRX := Lib.hid hRX
  clear hRX
  have e0 := HP.out.own y hy hry
  have n0 := HS.out.cell0 hy (by rw [e0]; rfl)
  have n1 := HS.out.cell (j := 1) hy (by rw [e0]; rfl)
  have n2 := HS.out.cell (j := 2) hy (by rw [e0]; rfl)
  have top := HS.out.top
  clear hry e0
  have hcs := HST.out
  clear HST
  cases hcs with
  | int hk =>
    rw [HRX.out] at hk
    rw [hk] at n0 n1 n2
    simp only [Kd.code, Kd.fst, Kd.snd] at n0 n1 n2
    clear hk
    go_wp2_with fail
    exact bodyPost_ret (v := .tuple #[.string TypP.sInt, .slice A seen.length cv]) (by simp [results, Tryd.results28, go_sem]; rfl) rfl ⟨_, rfl, HV.out, Kept.refl _ _, .inl rfl⟩
  | bool hk =>
    rw [HRX.out] at hk
    rw [hk] at n0 n1 n2
    simp only [Kd.code, Kd.fst, Kd.snd] at n0 n1 n2
    clear hk
    go_wp2_with fail
    exact bodyPost_ret (v := .tuple #[.string TypP.sBool, .slice A seen.length cv]) (by simp [results, Tryd.results28, go_sem]; rfl) rfl ⟨_, rfl, HV.out, Kept.refl _ _, .inl rfl⟩
  | unit hk =>
    rw [HRX.out] at hk
    rw [hk] at n0 n1 n2
    simp only [Kd.code, Kd.fst, Kd.snd] at n0 n1 n2
    clear hk
    go_wp2_with fail
    exact bodyPost_ret (v := .tuple #[.string TypP.sUnit, .slice A seen.length cv]) (by simp [results, Tryd.results28, go_sem]; rfl) rfl ⟨_, rfl, HV.out, Kept.refl _ _, .inl rfl⟩
  | @pair seen1 _ _ a b s s' hk t1 t2 =>
    rw [HRX.out] at hk
    obtain ⟨_, ha, hb, _⟩ := HA.out.pair y hy _ _ hk
    rw [hk] at n0 n1 n2
    simp only [Kd.code, Kd.fst, Kd.snd] at n0 n1 n2
    clear hk
    have hsn1 := TypP.txt_sn HA.out t1.1 ha HSN.out
    have z1 := TypP.txt_small ⟨r, HA.out⟩ hn t1.1 ha HSN.out
    have z2 := TypP.txt_small ⟨r, HA.out⟩ hn t2.1 hb hsn1
    have hc1 := t1.2 ha HSN.out w _ HS.out HV.out
    have HT2 := Lib.hid (fun w v => t2.2 hb hsn1 w v)
    clear t1 t2 hsn1
    go_wp2_with fail
    refine hc1.mono ?_
    clear hc1
    rintro e w2 ⟨v2, rfl, hv2, hk2, ho2⟩
    have hs2 := HS.out.kept hk2 HAP.out.2 HAP.out.1
    have m2 : w2.cell? ⟨g, y * 4 + 2, none⟩ = some (.int .i64 b) := (World.cell?_of_block (hk2.block g HS.out.lt.2 HAP.out.1)).trans n2
    have top2 := hs2.top
    have hc2 := HT2.out w2 v2 hs2 hv2
    obtain ⟨A2, cv2, rfl⟩ := rowI_form hv2
    have H2 := Lib.hid (And.intro hk2 ho2)
    clear hs2 hv2 hk2 ho2 HT2 n0 n1 n2 top
    go_wp2_with fail
    refine hc2.mono ?_
    clear hc2
    rintro e w3 ⟨v3, rfl, hv3, hk3, ho3⟩
    have H3 := Lib.hid (And.intro hv3 (And.intro hk3 ho3))
    clear hv3 hk3 ho3
    go_wp2_with fail
    refine bodyPost_ret (v := .tuple #[.string (TypP.sOpen ++ s ++ TypP.sComma ++ s' ++ TypP.sShut), v3]) (by simp [results, Tryd.results28, go_sem]; rfl) rfl ⟨_, rfl, H3.out.1, ?_, ?_⟩
    · refine H2.out.1.trans H3.out.2.1 ?_
      intro j hj e
      rcases H2.out.2 with e' | ⟨k, hk, e'⟩
      · rw [← e', e]
      · rw [e] at e'
        obtain rfl : j = k := by simpa using e'
        omega
    · have := H2.out.1.size
      rcases H3.out.2.2 with e | ⟨k, hk, e⟩
      · rcases H2.out.2 with e' | ⟨k, hk, e'⟩
        · exact .inl (e.trans e')
        · exact .inr ⟨k, hk, e.trans e'⟩
      · exact .inr ⟨k, by omega, e⟩
  | @old _ i0 hk h1 h2 =>
    rw [HRX.out] at hk
    rw [HRX.out] at h1
    rw [HRX.out] at h2
    rw [hk] at n0 n1 n2
    simp only [Kd.code, Kd.fst, Kd.snd] at n0 n1 n2
    clear hk
    have hil := (List.getElem?_eq_some_iff.1 h1).1
    have hnl := TypP.nodup_le _ _ HSN.out
    have hz := num_size i0 (by omega)
    have HL := Lib.hid (And.intro h1 h2)
    clear h1 h2
    obtain ⟨o, ho, hcell⟩ := rowI_cells HV.out hil
    subst ho
    have HC := Lib.hid hcell
    clear hcell
    go_wp2_with fail
    go_loopw [12] (fun iv wr => ∃ i : Nat, iv = .int .i64 i ∧ i ≤ i0 ∧ wr = w) (fun iv _ => i0 - (intOf iv).toNat)
    case atStart => exact ⟨0, rfl, by omega, rfl⟩
    case round =>
      obtain ⟨i, rfl, hi, rfl⟩ := hrel
      have c0 := HC.out i (by omega)
      by_cases e : i = i0
      · subst e
        have hy0 : seen.getD i 0 = y := by simp [List.getD, HL.out.1]
        rw [hy0] at c0
        have hci := fun W => digits_in (w := W) (i := i) (by omega)
        clear hy0
        go_wp2_with fail
        refine (hci _).mono ?_
        clear hci
        rintro e w3 ⟨rfl, rfl⟩
        go_wp2_with fail
        exact bodyPost_ret (v := .tuple #[.string (TypP.sTick ++ num i), .slice (some ⟨o, 0, none⟩) seen.length cv]) (by simp [results, Tryd.results28, go_sem]; rfl) rfl ⟨_, rfl, HV.out, Kept.refl _ _, .inl rfl⟩
      · have hne : ¬ seen.getD i 0 = y := fun e' => HL.out.2 i (by omega) (by
          have hi' : i < seen.length := by omega
          rw [← e']
          simp [List.getD, hi'])
        have hlt : i < seen.length := by omega
        generalize seen.getD i 0 = z at *
        go_wp2_with fail
        go_roundw
        case rel => exact ⟨i + 1, rfl, by omega, by first | trivial | rfl⟩
        case measure =>
          simp [intOf]
          omega
  | @new _ hk h1 =>
    rw [HRX.out] at hk
    rw [HRX.out] at h1
    rw [hk] at n0 n1 n2
    simp only [Kd.code, Kd.fst, Kd.snd] at n0 n1 n2
    clear hk
    have hnl := TypP.nodup_le _ _ HSN.out
    have hz := num_size seen.length (by omega)
    have HL := Lib.hid h1
    clear h1
    obtain ⟨i0', hi0, hz0, hz1, hz2⟩ := info_parts info_int
    go_wp2_with fail
    go_loopw [12] (fun iv wr => ∃ i : Nat, iv = .int .i64 i ∧ i ≤ seen.length ∧ wr = w) (fun iv _ => seen.length - (intOf iv).toNat)
    case atStart => exact ⟨0, rfl, by omega, rfl⟩
    case round =>
      obtain ⟨i, rfl, hi, rfl⟩ := hrel
      by_cases e : i = seen.length
      · subst e
        have hci := fun W => digits_in (w := W) (i := seen.length) (by omega)
        have HRO := Lib.hid (HV.out.alloc (.cells #[.int .i64 y] 3))
        have hBl : B ≤ wr.heap.size := Nat.le_trans HS.out.base (Nat.le_of_lt HS.out.lt.1)
        go_wp2_with fail
        refine (hci _).mono ?_
        clear hci
        rintro e w3 ⟨rfl, rfl⟩
        go_wp2_with (at_builtin; refine wpList_append_lies _ rfl _ _ 45 rfl B 3 i0' (.int .i64 0) 1 8 Tryd.underlying45 hi0 hz0 hz1 hz2 rfl (by decide) (.slice A seen.length cv) seen.length _ rfl HRO.out ⟨wr.heap.size, 0, none⟩ 1 1 [.int .i64 y] rfl rfl (news1 _ _ _ rfl) (by simp [Value.oneCell']) (by decide) (by unfold maxLen; omega) (by omega) (by simp; omega) _ rfl ?_)
        intro g' cap' w5 hown hgrow hat hlt1
        have HO := Lib.hid (And.intro hown (And.intro hgrow hat))
        clear hown hgrow hat hlt1
        go_wp2_with fail
        refine bodyPost_ret (v := .tuple #[.string (TypP.sTick ++ num seen.length), .slice (some ⟨g', 0, none⟩) (seen.length + 1) cap']) (by simp [results, Tryd.results28, go_sem]; rfl) rfl ⟨_, rfl, ?_, ?_, ?_⟩
        · rw [HRX.out]
          unfold RowI
          rw [List.map_append, List.length_append]
          exact HO.out.1
        · exact (Kept.of (World.grownBy_alloc _ _ none) (fun k e => by cases e) : Kept (fun k => (Value.slice A seen.length cv).ownBlock = some k) wr _).trans (Kept.of HO.out.2.1 (fun k e => e)) (fun _ _ e => e)
        · rcases HO.out.2.2 with e | e
          · exact .inl e.symm
          · exact .inr ⟨g', by omega, rfl⟩
      · obtain ⟨o, ho, hcell⟩ := rowI_cells (i := i) HV.out (by omega)
        subst ho
        have c0 := hcell i (by omega)
        have hne : ¬ seen.getD i 0 = y := fun e' => HL.out i (by
          have hi' : i < seen.length := by omega
          rw [← e']
          simp [List.getD, hi'])
        have hlt : i < seen.length := by omega
        clear hcell
        generalize seen.getD i 0 = z at *
        go_wp2_with fail
        go_roundw
        case rel => exact ⟨i + 1, rfl, by omega, by first | trivial | rfl⟩
        case measure =>
          simp [intOf]
          omega
end Go.Proofs.YtpbiiigacfhbhaaDoor
