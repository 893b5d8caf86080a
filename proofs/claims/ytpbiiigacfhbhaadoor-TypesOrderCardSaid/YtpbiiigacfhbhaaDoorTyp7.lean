/- A type's text: the program's. -/
import Derived.Test.YtpbiiigacfhbhaaDoorTypW
set_option linter.unusedVariables false
set_option linter.unusedSimpArgs false
namespace Go.Proofs.YtpbiiigacfhbhaaDoor
open Go.RowKit
open TypP (Kd Acy Occ Uni Step Txt TStep Sn)

/-- Nothing turned but what S tells of. -/
structure Kept (S : Nat → Prop) (a b : World) : Prop where
  os : b.os = a.os
  tape : b.tape = a.tape
  output : b.output = a.output
  size : a.heap.size ≤ b.heap.size
  block : ∀ k, k < a.heap.size → ¬ S k → b.heap[k]? = a.heap[k]?
theorem Kept.refl (S : Nat → Prop) (w : World) : Kept S w w := ⟨rfl, rfl, rfl, Nat.le_refl _, fun _ _ _ => rfl⟩
theorem Kept.trans {S S' : Nat → Prop} {a b c : World} (h : Kept S a b) (k : Kept S' b c) (hs : ∀ j, j < a.heap.size → S' j → S j) : Kept S a c :=
  ⟨k.os.trans h.os, k.tape.trans h.tape, k.output.trans h.output, Nat.le_trans h.size k.size, fun i hi hn => (k.block i (Nat.lt_of_lt_of_le hi h.size) (fun e => hn (hs i hi e))).trans (h.block i hi hn)⟩
theorem Kept.of {S : Nat → Prop} {a b : World} {r : Option Nat} (h : a.grownBy b r) (hs : ∀ k, r = some k → S k) : Kept S a b :=
  ⟨h.os, h.tape, h.output, h.size, fun k hk hn => h.block k hk (fun e => hn (hs k e.symm))⟩
theorem Kept.alloc {S : Nat → Prop} {a b : World} (h : Kept S a b) (o : Obj) : Kept S a (b.alloc o) :=
  h.trans (Kept.of (World.grownBy_alloc b o none) (fun k e => by cases e) : Kept S b _) (fun _ _ e => e)
theorem Kept.far {S : Nat → Prop} {a b : World} (h : Kept S a b) {k : Nat} {o : Obj} (hk : a.heap[k]? = some o) (hn : ¬ S k) : b.heap[k]? = some o := (h.block k (heap_lt hk) hn).trans hk

theorem owns_elem {w : World} {B : Nat} {e : TypeId} {s n : Nat} {v : Value} {xs : List Value} (h : w.ownsRow B e s v n xs) {g : Nat} (hg : v.ownBlock = some g) : ∃ c, w.heap[g]? = some (.cells c e) := by
  rcases h.2 with ⟨rfl, _⟩ | ⟨g', cap, cur, rfl, _, h3, _⟩
  · cases hg
  · obtain rfl : g' = g := by simpa [Value.ownBlock] using hg
    exact ⟨cur, h3⟩
theorem far_block {w : World} {B b : Nat} {e e' : TypeId} {size n : Nat} {v : Value} {xs : List Value} {c : Array Value} (h : w.ownsRow B e size v n xs) (hb : w.heap[b]? = some (.cells c e')) (hne : e ≠ e') : v.ownBlock ≠ some b := fun he => by
  obtain ⟨c', hc⟩ := owns_elem h he
  rw [hb] at hc
  simp at hc
  exact hne hc.2.symm
theorem owns_block {w w' : World} {B : Nat} {e : TypeId} {s n : Nat} {v : Value} {xs : List Value} (h : w.ownsRow B e s v n xs) (hk : ∀ g, v.ownBlock = some g → w'.heap[g]? = w.heap[g]?) : w'.ownsRow B e s v n xs := by
  refine ⟨h.1, ?_⟩
  rcases h.2 with h0 | ⟨g', cap, cur, rfl, h2, h3, h4⟩
  · exact .inl h0
  · exact .inr ⟨g', cap, cur, rfl, h2, (hk g' rfl).trans h3, h4⟩

/-- What has come: a slice of numbers behind a place. -/
structure Seen (w : World) (B q : Nat) (v : Value) (l : List Nat) : Prop where
  base : B ≤ q
  obj : w.heap[q]? = some (.cells #[v] 44)
  rows : w.ownsRow B 35 1 v l.length (l.map fun y => .int .i64 (y : Nat))
theorem Seen.keep {w w' : World} {B q : Nat} {v : Value} {l : List Nat} (h : Seen w B q v l) (h1 : w'.heap[q]? = w.heap[q]?) (h2 : ∀ k, v.ownBlock = some k → w'.heap[k]? = w.heap[k]?) : Seen w' B q v l :=
  ⟨h.base, h1.trans h.obj, owns_block h.rows h2⟩
theorem Seen.own_lt {w : World} {B q : Nat} {v : Value} {l : List Nat} (h : Seen w B q v l) {k : Nat} (hk : v.ownBlock = some k) : k < w.heap.size := by
  obtain ⟨c, hc⟩ := owns_elem h.rows hk
  exact heap_lt hc
theorem Seen.grown {w w' : World} {B q : Nat} {v : Value} {l : List Nat} (h : Seen w B q v l) {r : Option Nat} (hg : w.grownBy w' r) (h1 : r ≠ some q) (h2 : ∀ k, r = some k → v.ownBlock ≠ some k) : Seen w' B q v l :=
  h.keep (hg.block q (heap_lt h.obj) (fun e => h1 e.symm)) fun k hk => hg.block k (h.own_lt hk) (fun e => h2 k e.symm hk)
theorem Seen.form {w : World} {B q : Nat} {v : Value} {l : List Nat} (h : Seen w B q v l) : ∃ A cap, v = .slice A l.length cap := by
  rcases h.rows.2 with ⟨rfl, h0⟩ | ⟨g', cap, cur, rfl, _⟩
  · exact ⟨none, 0, by rw [h0]⟩
  · exact ⟨_, _, rfl⟩
theorem Seen.cells {w : World} {B q m cap i : Nat} {A : Option Addr} {l : List Nat} (h : Seen w B q (.slice A m cap) l) (hi : i < l.length) : ∃ o, A = some ⟨o, 0, none⟩ ∧ ∀ j, j < l.length → w.cell? ⟨o, j, none⟩ = some (.int .i64 ((l.getD j 0 : Nat) : Int)) := by
  obtain ⟨o, ho⟩ : ∃ o, A = some ⟨o, 0, none⟩ := by
    rcases h.rows.2 with ⟨e, h0⟩ | ⟨g', cap', cur, e, _⟩
    · omega
    · cases e
      exact ⟨g', rfl⟩
  subst ho
  refine ⟨o, rfl, fun j hj => ?_⟩
  obtain rfl : m = l.length := by
    rcases h.rows.2 with ⟨e, h0⟩ | ⟨g', cap', cur, e, _⟩
    · cases e
    · cases e
      rfl
  have := World.ownsRow.cellAt (g := o) (cap := cap) h.rows j (by simpa using hj)
  rw [this]
  simp [List.getD, hj]
theorem PSto.objs {ty el : TypeId} {s : Nat} {w : World} {B t g cap n : Nat} {c : Nat → List Value} (h : Sto ty el s w B t g cap n c) : ∃ cur, w.heap[g]? = some (.cells cur el) := by
  obtain ⟨_, cur, h3, _⟩ := h.row
  exact ⟨cur, h3⟩
/-- The types lie apart from what has come. -/
theorem apart {w : World} {B q t g cap n : Nat} {v : Value} {l : List Nat} {c : Nat → List Value} (h : PSto w B t g cap n c) (k : Seen w B q v l) : q ≠ g ∧ q ≠ t ∧ v.ownBlock ≠ some g ∧ v.ownBlock ≠ some t ∧ v.ownBlock ≠ some q := by
  obtain ⟨cur, hg⟩ := PSto.objs h
  refine ⟨fun e => ?_, fun e => ?_, far_block k.rows hg (by decide), far_block k.rows h.obj (by decide), far_block k.rows k.obj (by decide)⟩
  · rw [← e, k.obj] at hg
    simp at hg
  · have := h.obj
    rw [← e, k.obj] at this
    simp at this

theorem info_type : (Tryd.prog.info? 35).map (fun i => (i.zero, i.size, i.bytes)) = some (some (.int .i64 0), 1, 8) := by kernel_rfl
theorem news1 (w : World) (x : Value) (t : TypeId) {b : Nat} (hb : b = w.heap.size) : ∀ j u, [x][j]? = some u → (w.alloc (.cells #[x] t)).cell? ((⟨b, 0, none⟩ : Addr).add j) = some u := by
  subst hb
  exact World.news_of_block (last w _)
theorem Seen.push {w w2 w5 : World} {B q y g' cap' : Nat} {v : Value} {l : List Nat} (h : Seen w B q v l) (h2 : w.grownBy w2 none)
    (hown : w5.ownsRow B 35 1 (.slice (some ⟨g', 0, none⟩) (l.length + 1) cap') (l.length + 1) ((l.map fun y => .int .i64 (y : Nat)) ++ [.int .i64 y])) (hgrow : w2.grownBy w5 v.ownBlock) (hat : v.ownBlock = some g' ∨ w.heap.size ≤ g') :
    Seen (w5.setCell ⟨q, 0, none⟩ (.slice (some ⟨g', 0, none⟩) (l.length + 1) cap')) B q (.slice (some ⟨g', 0, none⟩) (l.length + 1) cap') (l ++ [y]) ∧ Kept (fun k => k = q ∨ v.ownBlock = some k) w (w5.setCell ⟨q, 0, none⟩ (.slice (some ⟨g', 0, none⟩) (l.length + 1) cap')) ∧
      ((Value.slice (some ⟨g', 0, none⟩) (l.length + 1) cap').ownBlock = v.ownBlock ∨ ∃ k, w.heap.size ≤ k ∧ (Value.slice (some ⟨g', 0, none⟩) (l.length + 1) cap').ownBlock = some k) := by
  have hql := heap_lt h.obj
  have hvq : v.ownBlock ≠ some q := far_block h.rows h.obj (by decide)
  have hqg : q ≠ g' := by
    rcases hat with e | e
    · exact fun e' => hvq (by rw [e, e'])
    · omega
  have ho : w5.heap[q]? = some (.cells #[v] 44) := by
    rw [hgrow.block q (Nat.lt_of_lt_of_le hql h2.size) (fun e => hvq e.symm), h2.block q hql (by simp)]
    exact h.obj
  refine ⟨⟨h.base, heap_set0 ho _, ?_⟩, ⟨hgrow.os.trans h2.os, hgrow.tape.trans h2.tape, hgrow.output.trans h2.output, ?_, fun k hk hn => ?_⟩, ?_⟩
  · rw [List.map_append, List.length_append]
    exact owns_block hown fun k hk => Below.heap_setCell _ _ _ _ (by
      have : g' = k := by simpa [Value.ownBlock] using hk
      simp
      omega)
  · exact Nat.le_trans (Nat.le_trans h2.size hgrow.size) (by simp [World.setCell])
  · rw [Below.heap_setCell _ _ _ _ (fun e => hn (.inl e)), hgrow.block k (Nat.lt_of_lt_of_le hk h2.size) (fun e => hn (.inr e.symm)), h2.block k hk (by simp)]
  · rcases hat with e | e
    · exact .inl e.symm
    · exact .inr ⟨g', e, rfl⟩

def TextC (K : Nat → Kd) (R : Nat → Nat) (n : Nat) (d : Nat → Nat) (B t g cap q : Nat) (seen : List Nat) (x : Nat) (s : ByteArray) (seen' : List Nat) : Prop :=
  x < n → Sn n seen → ∀ (c : Nat → List Value) (w : World) (v : Value), PSto w B t g cap n c → PS K R n d c → Seen w B q v seen →
    Calls Tryd.prog 27 #[.pointer (some ⟨t, 0, none⟩), .int .i64 x, .pointer (some ⟨q, 0, none⟩)] w fun e w' => e = .returned (.string s) ∧ ∃ c' v', PSto w' B t g cap n c' ∧ PS K R n d c' ∧ Seen w' B q v' seen' ∧
      Kept (fun k => k = g ∨ k = q ∨ v.ownBlock = some k) w w' ∧ (v'.ownBlock = v.ownBlock ∨ ∃ k, w.heap.size ≤ k ∧ v'.ownBlock = some k)

set_option maxRecDepth 100000 in
set_option maxHeartbeats 8000000 in
theorem text_in {K : Nat → Kd} {R : Nat → Nat} {n : Nat} {d r : Nat → Nat} {B t g cap q : Nat} (hA : Acy K R n r) (hn : n ≤ 50) {seen : List Nat} {x : Nat} {s : ByteArray} {seen' : List Nat} (ht : Txt K R seen x s seen') : TextC K R n d B t g cap q seen x s seen' := by
  refine TypP.txt_ind ?_ ht
  clear ht seen x s seen'
  intro seen x s seen' hst hx hsn c w v h hp hv
  obtain ⟨hy, hry⟩ := hA.root x hx
  have hf := find_in h hp hx
  obtain ⟨a1, a2, a3, a4, a5⟩ := apart h hv
  obtain ⟨A, cv, rfl⟩ := hv.form
  have HV := Lib.hid hv
  have HST := Lib.hid hst
  have HA := Lib.hid hA
  have HSN := Lib.hid hsn
  have HAP := Lib.hid (And.intro a1 (And.intro a2 (And.intro a3 (And.intro a4 a5))))
  clear h hp hst hsn hv hA a1 a2 a3 a4 a5
  go_enter Tryd.func27, Tryd.ntmps27
  go_wp2_with fail
  refine hf.mono ?_
  clear hf
  rintro e w1 ⟨rfl, c1, hs1, hp1, hg1⟩
  have hv1 := HV.out.grown hg1 (by simpa using fun e => HAP.out.1 e.symm) (fun k hk => by rw [← hk]; exact HAP.out.2.2.1)
  have hk1 : Kept (fun k => k = g ∨ k = q ∨ (Value.slice A seen.length cv).ownBlock = some k) w w1 := .of hg1 fun k hk => .inl (by simpa using hk.symm)
  generalize hRX : R x = y at *
  have HRX := Lib.hid hRX
  clear hRX
  have e0 := hp1.own y hy hry
  have n0 := hs1.cell0 hy (by rw [e0]; rfl)
  have n1 := hs1.cell (j := 1) hy (by rw [e0]; rfl)
  have n2 := hs1.cell (j := 2) hy (by rw [e0]; rfl)
  have top := hs1.top
  have hgs := hs1.lt.2
  have H1 := Lib.hid (And.intro hs1 (And.intro hp1 (And.intro hv1 hk1)))
  clear hs1 hp1 hg1 hry e0 hv1 hk1
  have hcs := HST.out
  clear HST
  cases hcs with
  | int hk =>
    rw [HRX.out] at hk
    rw [hk] at n0 n1 n2
    simp only [Kd.code, Kd.fst, Kd.snd] at n0 n1 n2
    clear hk
    go_wp2_with fail
    go_ret
    exact ⟨rfl, _, _, H1.out.1.alloc _, H1.out.2.1, H1.out.2.2.1.grown (World.grownBy_alloc _ _ none) (by simp) (by simp), H1.out.2.2.2.alloc _, .inl rfl⟩
  | bool hk =>
    rw [HRX.out] at hk
    rw [hk] at n0 n1 n2
    simp only [Kd.code, Kd.fst, Kd.snd] at n0 n1 n2
    clear hk
    go_wp2_with fail
    go_ret
    exact ⟨rfl, _, _, H1.out.1.alloc _, H1.out.2.1, H1.out.2.2.1.grown (World.grownBy_alloc _ _ none) (by simp) (by simp), H1.out.2.2.2.alloc _, .inl rfl⟩
  | unit hk =>
    rw [HRX.out] at hk
    rw [hk] at n0 n1 n2
    simp only [Kd.code, Kd.fst, Kd.snd] at n0 n1 n2
    clear hk
    go_wp2_with fail
    go_ret
    exact ⟨rfl, _, _, H1.out.1.alloc _, H1.out.2.1, H1.out.2.2.1.grown (World.grownBy_alloc _ _ none) (by simp) (by simp), H1.out.2.2.2.alloc _, .inl rfl⟩
  | @pair seen1 _ _ a b s s' hk t1 t2 =>
    rw [HRX.out] at hk
    obtain ⟨_, ha, hb, _⟩ := HA.out.pair y hy _ _ hk
    rw [hk] at n0 n1 n2
    simp only [Kd.code, Kd.fst, Kd.snd] at n0 n1 n2
    clear hk
    have hsn1 := TypP.txt_sn HA.out t1.1 ha HSN.out
    have z1 := TypP.txt_small ⟨r, HA.out⟩ hn t1.1 ha HSN.out
    have z2 := TypP.txt_small ⟨r, HA.out⟩ hn t2.1 hb hsn1
    have hl := last w1 (.cells #[.int .i64 ((4 : Nat) : Int), .int .i64 (a : Nat), .int .i64 (b : Nat)] 59)
    have hW := World.grownBy_alloc w1 (.cells #[.int .i64 ((4 : Nat) : Int), .int .i64 (a : Nat), .int .i64 (b : Nat)] 59) none
    have hc1 := t1.2 ha HSN.out c1 _ _ (H1.out.1.alloc (.cells #[.int .i64 ((4 : Nat) : Int), .int .i64 (a : Nat), .int .i64 (b : Nat)] 59)) H1.out.2.1 (H1.out.2.2.1.grown hW (by simp) (by simp))
    have HT2 := Lib.hid (fun c w v => t2.2 hb hsn1 c w v)
    have HW := Lib.hid (And.intro hW hl)
    clear t1 t2 hsn1 hl hW
    go_wp2_with fail
    refine hc1.mono ?_
    clear hc1
    rintro e w2 ⟨rfl, c2, v2, hs2, hp2, hv2, hk2, ho2⟩
    have hng : ¬ (w1.heap.size = g ∨ w1.heap.size = q ∨ (Value.slice A seen.length cv).ownBlock = some w1.heap.size) := by
      rintro (e | e | e)
      · have := H1.out.1.lt.2
        omega
      · have := heap_lt H1.out.2.2.1.obj
        omega
      · have := H1.out.2.2.1.own_lt e
        omega
    have hl2 := hk2.far HW.out.2 hng
    have hq := cellsOf3 hl2
    obtain ⟨q0, q1, q2⟩ := hq
    have hc2 := HT2.out c2 w2 v2 hs2 hp2 hv2
    have H2 := Lib.hid (And.intro hk2 ho2)
    clear hs2 hp2 hv2 hk2 ho2 hl2 hng HT2
    go_wp2_with fail
    refine hc2.mono ?_
    clear hc2
    rintro e w3 ⟨rfl, c3, v3, hs3, hp3, hv3, hk3, ho3⟩
    have H3 := Lib.hid (And.intro hs3 (And.intro hp3 (And.intro hv3 (And.intro hk3 ho3))))
    clear hs3 hp3 hv3 hk3 ho3
    go_wp2_with fail
    go_ret
    have hsz : w.heap.size ≤ w2.heap.size := Nat.le_trans (H1.out.2.2.2.alloc _).size H2.out.1.size
    refine ⟨rfl, _, _, H3.out.1, H3.out.2.1, H3.out.2.2.1, ?_, ?_⟩
    · refine ((H1.out.2.2.2.alloc _).trans H2.out.1 (fun _ _ e => e)).trans H3.out.2.2.2.1 ?_
      rintro j hj (e | e | e)
      · exact .inl e
      · exact .inr (.inl e)
      · rcases H2.out.2 with e' | ⟨k, hk, e'⟩
        · exact .inr (.inr (by rw [← e', e]))
        · rw [e] at e'
          obtain rfl : j = k := by simpa using e'
          have h5 := H1.out.2.2.2.size
          simp at hk
          omega
    · rcases H3.out.2.2.2.2 with e | ⟨k, hk, e⟩
      · rcases H2.out.2 with e' | ⟨k, hk, e'⟩
        · exact .inl (e.trans e')
        · have h5 := H1.out.2.2.2.size
          simp at hk
          exact .inr ⟨k, by omega, e.trans e'⟩
      · exact .inr ⟨k, by omega, e⟩
  | @old _ i0 hk h1 h2 =>
    rw [HRX.out] at hk
    rw [HRX.out] at h1
    rw [HRX.out] at h2
    rw [hk] at n0 n1 n2
    simp only [Kd.code, Kd.fst, Kd.snd] at n0 n1 n2
    clear hk
    have hil := (List.getElem?_eq_some_iff.1 h1).1
    have hnl := TypP.nodup_le _ _ HSN.out
    have hz := num_size i0 (by omega)
    have HL := Lib.hid (And.intro h1 h2)
    clear h1 h2
    obtain ⟨o, ho, hcell⟩ := H1.out.2.2.1.cells hil
    subst ho
    have hW := World.grownBy_alloc w1 (.cells #[.int .i64 ((0 : Nat) : Int), .int .i64 ((0 : Nat) : Int), .int .i64 ((0 : Nat) : Int)] 59) none
    have hvq := cellOf1 H1.out.2.2.1.obj
    have hql := heap_lt H1.out.2.2.1.obj
    have hol := H1.out.2.2.1.own_lt (k := o) rfl
    have HC := Lib.hid hcell
    clear hcell
    go_wp2_with fail
    go_loopw [50] (fun iv wr => ∃ i : Nat, iv = .int .i64 i ∧ i ≤ i0 ∧ (∀ j, j < i → seen[j]? ≠ some y) ∧ wr = w1.alloc (.cells #[.int .i64 0, .int .i64 0, .int .i64 0] 59)) (fun iv _ => i0 - (intOf iv).toNat)
    case atStart => exact ⟨0, rfl, by omega, fun j hj => by omega, rfl⟩
    case round =>
      obtain ⟨i, rfl, hi, hno, rfl⟩ := hrel
      have c0 := HC.out i (by omega)
      have HN := Lib.hid hno
      clear hno
      by_cases e : i = i0
      · subst e
        have hy0 : seen.getD i 0 = y := by simp [List.getD, HL.out.1]
        rw [hy0] at c0
        have hci := fun W => Itoa_in (w := W) (i := i) (by omega)
        clear hy0
        go_wp2_with fail
        refine (hci _).mono ?_
        clear hci
        rintro e w3 ⟨rfl, rfl⟩
        go_wp2_with fail
        go_ret
        exact ⟨rfl, _, _, H1.out.1.alloc _, H1.out.2.1, H1.out.2.2.1.grown (World.grownBy_alloc _ _ none) (by simp) (by simp), H1.out.2.2.2.alloc _, .inl rfl⟩
      · have hne : ¬ y = seen.getD i 0 := fun e' => HL.out.2 i (by omega) (by
          have hi' : i < seen.length := by omega
          rw [e']
          simp [List.getD, hi'])
        generalize seen.getD i 0 = z at *
        go_wp2_with fail
        go_roundw
        case rel =>
          refine ⟨i + 1, rfl, by omega, fun j hj => ?_, by first | trivial | rfl⟩
          exact HL.out.2 j (by omega)
        case measure =>
          simp [intOf]
          omega
  | @new _ hk h1 =>
    rw [HRX.out] at hk
    rw [HRX.out] at h1
    rw [hk] at n0 n1 n2
    simp only [Kd.code, Kd.fst, Kd.snd] at n0 n1 n2
    clear hk
    have hnl := TypP.nodup_le _ _ HSN.out
    have hz := num_size seen.length (by omega)
    have HL := Lib.hid h1
    clear h1
    have hW := World.grownBy_alloc w1 (.cells #[.int .i64 ((0 : Nat) : Int), .int .i64 ((0 : Nat) : Int), .int .i64 ((0 : Nat) : Int)] 59) none
    have hvq := cellOf1 H1.out.2.2.1.obj
    have hql := heap_lt H1.out.2.2.1.obj
    obtain ⟨i0', hi0, hz0, hz1, hz2⟩ := info_parts info_type
    go_wp2_with fail
    go_loopw [50] (fun iv wr => ∃ i : Nat, iv = .int .i64 i ∧ i ≤ seen.length ∧ wr = w1.alloc (.cells #[.int .i64 0, .int .i64 0, .int .i64 0] 59)) (fun iv _ => seen.length - (intOf iv).toNat)
    case atStart => exact ⟨0, rfl, by omega, rfl⟩
    case round =>
      obtain ⟨i, rfl, hi, rfl⟩ := hrel
      by_cases e : i = seen.length
      · subst e
        have hro := (H1.out.2.2.1.grown hW (by simp) (by simp)).rows.alloc (.cells #[.int .i64 y] 35)
        have hBl : B ≤ w1.heap.size := Nat.le_trans H1.out.2.2.1.base (Nat.le_of_lt hql)
        have HRO := Lib.hid hro
        have HQ : Hid ((Value.slice A seen.length cv).ownBlock ≠ some q) := Lib.hid HAP.out.2.2.2.2
        clear hro
        go_wp2_with (at_builtin; refine wpList_append_lies _ rfl _ _ 44 rfl B 35 i0' (.int .i64 0) 1 8 Tryd.underlying44 hi0 hz0 hz1 hz2 rfl (by decide) (.slice A seen.length cv) seen.length _ rfl HRO.out ⟨w1.heap.size + 1, 0, none⟩ 1 1 [.int .i64 y] rfl rfl (news1 _ _ _ (by simp)) (by simp [Value.oneCell']) (by decide) (by unfold maxLen; omega) (by omega) (by simp; omega) _ rfl ?_)
        intro g' cap' w5 hown hgrow hat hlt1
        have co1 := far_cell hgrow HQ.out (cell_alloc (cell_alloc hvq (.cells #[.int .i64 ((0 : Nat) : Int), .int .i64 ((0 : Nat) : Int), .int .i64 ((0 : Nat) : Int)] 59)) (.cells #[.int .i64 y] 35))
        have hv2 := (H1.out.2.2.1.grown hW (by simp) (by simp)).grown (World.grownBy_alloc _ (.cells #[.int .i64 y] 35) none) (by simp) (by simp)
        have cf1 := far_frozen hgrow HQ.out (cellOf1 hv2.obj) (frozenOf hv2.obj 0)
        have hp := H1.out.2.2.1.push (grown_alloc hW (.cells #[.int .i64 y] 35)) hown hgrow (hat.imp_right (fun e => by omega))
        have hps := H1.out.1.keep (w' := w5.setCell ⟨q, 0, none⟩ (.slice (some ⟨g', 0, none⟩) (seen.length + 1) cap')) (hp.2.1.block t H1.out.1.lt.1 (by
          rintro (e | e)
          · exact HAP.out.2.1 e.symm
          · exact HAP.out.2.2.2.1 e)) (hp.2.1.block g H1.out.1.lt.2 (by
          rintro (e | e)
          · exact HAP.out.1 e.symm
          · exact HAP.out.2.2.1 e))
        have tp := cellOf1 hp.1.obj
        have HP := Lib.hid (And.intro hp hps)
        have hci := fun W => Itoa_in (w := W) (i := seen.length) (by omega)
        clear hp hps hown hgrow hat hlt1 hv2 hvq
        go_wp2_with fail
        refine (hci _).mono ?_
        clear hci
        rintro e w3 ⟨rfl, rfl⟩
        go_wp2_with fail
        go_ret
        rw [HRX.out]
        refine ⟨rfl, _, _, HP.out.2, H1.out.2.1, HP.out.1.1, H1.out.2.2.2.trans HP.out.1.2.1 (fun _ _ e => .inr e), ?_⟩
        rcases HP.out.1.2.2 with e | ⟨k, hk, e⟩
        · exact .inl e
        · exact .inr ⟨k, Nat.le_trans H1.out.2.2.2.size hk, e⟩
      · obtain ⟨o, ho, hcell⟩ := H1.out.2.2.1.cells (i := i) (by omega)
        subst ho
        have hol := H1.out.2.2.1.own_lt (k := o) rfl
        have c0 := hcell i (by omega)
        have hne : ¬ y = seen.getD i 0 := fun e' => HL.out i (by
          have hi' : i < seen.length := by omega
          rw [e']
          simp [List.getD, hi'])
        have hlt : i < seen.length := by omega
        clear hcell
        generalize seen.getD i 0 = z at *
        go_wp2_with fail
        go_roundw
        case rel => exact ⟨i + 1, rfl, by omega, by first | trivial | rfl⟩
        case measure =>
          simp [intOf]
          omega
end Go.Proofs.YtpbiiigacfhbhaaDoor
