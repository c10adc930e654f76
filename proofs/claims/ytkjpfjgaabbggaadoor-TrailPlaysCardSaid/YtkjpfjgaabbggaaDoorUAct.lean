/- muntinlaw21.act: an act on both sides. -/
import Derived.Test.YtkjpfjgaabbggaaDoorUDuo
import Derived.Test.YtkjpfjgaabbggaaDoorUKept
import Derived.Test.YtkjpfjgaabbggaaDoorUFrom
import Derived.Test.YtkjpfjgaabbggaaDoorTSmall
import Derived.Test.YtkjpfjgaabbggaaDoorTMergeAll
set_option linter.unusedVariables false
set_option linter.unusedSimpArgs false
namespace Go.Proofs.YtkjpfjgaabbggaaDoor
open Go.RowKit

theorem below_trans {B : Nat} {a b c : World} (h : Below B a b) (k : Below B b c) : Below B a c := ⟨k.os.trans h.os, k.tape.trans h.tape, k.output.trans h.output, Nat.le_trans h.size k.size, fun i hi => (k.block i hi).trans (h.block i hi)⟩
theorem errT_keep {base : Nat} {w w' : World} (hE : ErrT w) (hb : 0 < base) (b : Below base w w') : ErrT w' := (World.cell?_of_block (w := w) (b.block 0 hb)).trans hE
theorem TO.stepF {w w' : World} {base p : Nat} {i t : Int} {v : Value} {es : List Ent} {Ds : List Value} (h : TO w base p i t v es Ds) (hp : w'.heap[p]? = w.heap[p]?) (hk : ∀ k, OwnT v Ds k → w'.heap[k]? = w.heap[k]?) : TO w' base p i t v es Ds :=
  ⟨h.1, hp.trans h.2.1, h.2.2.step (fun k e => hk k (.inl e)) (fun D hD k e => hk k (.inr ⟨D, hD, e⟩))⟩
theorem RTO.stepF {w w' : World} {base p : Nat} {i t : Int} {v : Value} {es : List Ent} {Ds : List Value} (h : RTO w base p i t v es Ds) (hp : w'.heap[p]? = w.heap[p]?) (hk : ∀ k, OwnT v Ds k → w'.heap[k]? = w.heap[k]?) : RTO w' base p i t v es Ds :=
  ⟨h.1, hp.trans h.2.1, h.2.2.step (fun k e => hk k (.inl e)) (fun D hD k e => hk k (.inr ⟨D, hD, e⟩))⟩
theorem TO.own {w : World} {base p : Nat} {i t : Int} {v : Value} {es : List Ent} {Ds : List Value} (h : TO w base p i t v es Ds) {k : Nat} (o : OwnT v Ds k) : base ≤ k ∧ k < w.heap.size := o.elim (fun e => h.2.2.2.1.lt k e) (fun ⟨D, hD, e⟩ => h.2.2.dlt D hD k e)
theorem RTO.own {w : World} {base p : Nat} {i t : Int} {v : Value} {es : List Ent} {Ds : List Value} (h : RTO w base p i t v es Ds) {k : Nat} (o : OwnT v Ds k) : base ≤ k ∧ k < w.heap.size := o.elim (fun e => h.2.2.2.1.lt k e) (fun ⟨D, hD, e⟩ => h.2.2.dlt D hD k e)
/-- one entry on both sides -/
theorem same_one (w : World) (E : Ent) (De Du : Value) (h1 : RD w De E.d) (h2 : RD w Du E.d) :
    Calls Tryd.prog 13 #[.slice (some ⟨w.heap.size, 0, none⟩) 1 1, .slice (some ⟨w.heap.size + 1, 0, none⟩) 1 1] ((w.alloc (.cells #[.int .i64 E.i, .int .i64 E.t, .int .i64 E.k, De] 44)).alloc (.cells #[.int .i64 E.i, .int .i64 E.t, .int .i64 E.k, Du] 44))
      fun e w' => e = .returned (.bool true) ∧ ∃ m, w' = ((w.alloc (.cells #[.int .i64 E.i, .int .i64 E.t, .int .i64 E.k, De] 44)).alloc (.cells #[.int .i64 E.i, .int .i64 E.t, .int .i64 E.k, Du] 44)).drewN m := by
  have b1 := below_alloc w (.cells #[.int .i64 E.i, .int .i64 E.t, .int .i64 E.k, De] 44)
  have b2 := below_alloc (w.alloc (.cells #[.int .i64 E.i, .int .i64 E.t, .int .i64 E.k, De] 44)) (.cells #[.int .i64 E.i, .int .i64 E.t, .int .i64 E.k, Du] 44)
  have hz : (w.alloc (.cells #[.int .i64 E.i, .int .i64 E.t, .int .i64 E.k, De] 44)).heap.size = w.heap.size + 1 := by simp
  have k1 := (b2.block w.heap.size (by omega)).trans (heap_alloc_new w (.cells #[.int .i64 E.i, .int .i64 E.t, .int .i64 E.k, De] 44))
  have k2 := heap_alloc_new (w.alloc (.cells #[.int .i64 E.i, .int .i64 E.t, .int .i64 E.k, De] 44)) (.cells #[.int .i64 E.i, .int .i64 E.t, .int .i64 E.k, Du] 44)
  rw [hz] at k2
  exact same_any _ _ 1 1 1 [E] [De] [Du] _ (RE.block k1 rfl (by simp [ecells]) (fun i h h' => by
    obtain rfl : i = 0 := by simp at h; omega
    exact (h1.below b1).below b2)) (RE.block k2 rfl (by simp [ecells]) (fun i h h' => by
    obtain rfl : i = 0 := by simp at h; omega
    exact (h2.below b1).below b2)) rfl (by omega)
/-- what an act leaves -/
def ActP (base p q : Nat) (i : Int) (es : List Ent) (w : World) (e : Ending) (w' : World) : Prop :=
  e = .returned (.bool true) ∧ ∃ i' t' v' u' es' Ds' Fs', Duo w' base p q i' t' v' u' es' Ds' Fs' ∧ Below base w w' ∧ ((i' + (es'.length : Nat) : Int) ≤ i + es.length + 1 ∨ (i' + (es'.length : Nat) : Int) ≤ 4031542635093)

theorem rmerge_any (base q : Nat) (i t : Int) (v : Value) (es : List Ent) (Ds : List Value) (A : Option Addr) (len ca : Nat) (l : List Ent) (Dl : List Value) (prev term : Int) (w : World) (h : RTO w base q i t v es Ds) (hfo : follows i t es = true)
    (hrl : RE w A l Dl) (hl : l.length = len) (hlc : len ≤ ca) (h0 : 0 ≤ i) (h1 : i ≤ 10000000000000) (h2 : es.length ≤ 4200000000000) (h3 : len * 48 ≤ 140737488355328) (hbase : base ≤ w.heap.size) (wp : (Lit.int .i64 prev).wf = true) :
    Calls Tryd.prog 45 #[.pointer (some ⟨q, 0, none⟩), .int .i64 prev, .int .i64 term, .slice A len ca] w (RMergePost w base q i t v Ds (mergeT i t es prev term l)) := by
  cases hok : okNew prev term l with
  | true =>
    refine rmerge_ok base q i t v es Ds A len ca l Dl prev term w h hfo hrl hl hlc (fun e => ?_) h0 h1 h2 h3 hbase hok
    rcases Nat.eq_zero_or_pos len with h | h
    · exact h
    · obtain ⟨_, _, e2, _⟩ := hrl.addr (by omega)
      rw [e] at e2
      cases e2
  | false =>
    have e : mergeT i t es prev term l = (1, 0, es, []) := by unfold mergeT; rw [if_pos hok]
    rw [e]
    refine (rmerge_bad q A len ca l Dl prev term w hrl hl (by omega) wp hok).mono ?_
    rintro e w' ⟨rfl, hw⟩
    subst hw
    exact ⟨_, v, Ds, [], rfl, ⟨rfl, rfl, rfl, Nat.le_refl _, fun _ _ _ => rfl⟩, h, OE.nil _ _, fun k h => .inl h⟩
theorem merge_more {i t : Int} {es : List Ent} {prev term : Int} {l : List Ent} : (mergeT i t es prev term l).2.2.2.length ≤ l.length := by
  unfold mergeT
  repeat' split
  all_goals simp
theorem OE.keepU {w w' : World} {base : Nat} {v : Value} {es : List Ent} {Ds : List Value} (h : OE w base v es Ds) (hk : ∀ k, base ≤ k → k < w.heap.size → w'.heap[k]? = w.heap[k]?) : OE w' base v es Ds := h.keep hk
set_option maxRecDepth 100000 in
set_option maxHeartbeats 8000000 in
theorem act_add (base p q : Nat) (i t : Int) (v u : Value) (es : List Ent) (Ds Fs : List Value) (d n m k : Int) (B : Option Addr) (cb : Nat) (bs : List UInt8) (L : Option Addr) (cl : Nat) (ls : List Ent) (Ls : List Value) (w : World) (D : Duo w base p q i t v u es Ds Fs) (hb : base ≤ w.heap.size) (hE : ErrT w) (hE0 : 0 < base)
    (hrB : ∀ w', Below base w w' → RD w' (.slice B bs.length cb) bs) (hrL : ∀ w', Below base w w' → RE w' L ls Ls) (hlc : ls.length ≤ cl) (hcl : ls.length * 48 ≤ 140737488351232) (wn : (Lit.int .i64 n).wf = true) (hi : i + es.length ≤ 4100000000000) (hd : d = 0) (hx1 : endT t es ≤ m) (hx2 : 0 ≤ k) :
    Calls Tryd.prog 27 #[.pointer (some ⟨p, 0, none⟩), .pointer (some ⟨q, 0, none⟩), .agg #[.int .i64 d, .int .i64 n, .int .i64 m, .int .i64 k, .slice B bs.length cb, .slice L ls.length cl]] w (ActP base p q i es w) := by
  have bA := below_alloc w (.cells #[.int .i64 d, .int .i64 n, .int .i64 m, .int .i64 k, .slice B bs.length cb, .slice L ls.length cl] 73)
  have HBX := Lib.hid (heap_alloc_new w (.cells #[.int .i64 d, .int .i64 n, .int .i64 m, .int .i64 k, .slice B bs.length cb, .slice L ls.length cl] 73))
  have h0 := D.i0
  have HL0 := Lib.hid (show (∀ z, OwnT v Ds z → z < w.heap.size) ∧ (∀ z, OwnT u Fs z → z < w.heap.size) ∧ p < w.heap.size ∧ q < w.heap.size ∧ base ≤ p ∧ base ≤ q from ⟨fun z o => (D.tt.own o).2, fun z o => (D.rt.own o).2, D.tt.lt, D.rt.lt, D.tt.1, D.rt.1⟩)
  have D1 := Lib.hid (D.below bA)
  have HB1 := Lib.hid (bA.mono hb)
  have HE := Lib.hid fun (w' : World) (h : Below base w w') => errT_keep hE hE0 h
  have HRB := Lib.hid hrB
  have HRL := Lib.hid hrL
  have HBD := Lib.hid (show ∀ w', Below base w w' → RB w' B bs from fun w' h => by
    obtain ⟨B1, c1, e1, h1, -⟩ := hrB w' h
    cases e1
    exact h1)
  have hdl : bs.length ≤ 140737488351232 := by
    obtain ⟨_, _, _, _, _, h, _⟩ := hrB w (Below.refl _ _)
    exact h
  obtain ⟨W, hW⟩ : ∃ W, W = w.alloc (.cells #[.int .i64 d, .int .i64 n, .int .i64 m, .int .i64 k, .slice B bs.length cb, .slice L ls.length cl] 73) := ⟨_, rfl⟩
  have HWZ := Lib.hid (show W.heap.size = w.heap.size + 1 by rw [hW]; simp)
  rw [← hW] at HBX D1 HB1
  have HW := Lib.hid hW
  have b0 := cellU HBX.out 0
  have b1 := cellU HBX.out 1
  have b2 := cellU HBX.out 2
  have b3 := cellU HBX.out 3
  have b4 := cellU HBX.out 4
  have b5 := cellU HBX.out 5
  simp only [List.getElem?_toArray, List.getElem?_cons_zero, List.getElem?_cons_succ] at b0 b1 b2 b3 b4 b5
  clear D hE hrB hrL bA hW
  subst d
  have HLN := Lib.hid (lent_at B cb bs W hdl (HBD.out W HB1.out))
  go_enter Tryd.func27, Tryd.ntmps27
  go_wp2_with fail
  rw [← HW.out]
  go_wp2_with fail
  refine HLN.out.mono ?_
  rintro e w2 ⟨g, rfl, h77, od2, b2w⟩
  have z2 := b2w.size
  have D2 := Lib.hid (D1.out.below b2w)
  have B2 := Lib.hid (show Below base w w2 from below_trans HB1.out (b2w.mono (by have := HWZ.out; omega)))
  have hbx2 := (b2w.block w.heap.size (by have := HWZ.out; omega)).trans HBX.out
  have HG := Lib.hid (show W.heap.size ≤ g ∧ g < w2.heap.size from od2.1.lt g rfl)
  have x2 := below_cell b2w b2
  have x3 := below_cell b2w b3
  have HOD2 := Lib.hid od2
  have H77 := Lib.hid h77
  have HBX2 := Lib.hid hbx2
  clear b2w hbx2 h77 od2
  have HAD := Lib.hid (addw_ok base p i t v es Ds m k (.slice (some ⟨g, 0, none⟩) bs.length (bs.length + 1)) bs w2 D2.out.tt HOD2.out.rd h0 (by omega) (by omega) (by omega) (by have := HWZ.out; omega) hx1 hx2)
  go_wp2_with fail
  refine HAD.out.mono ?_
  rintro e w3 ⟨De, v3, Ds3, rfl, od3, to3, f3, kr3, fr3, ap3⟩
  obtain ⟨DA, dac, hDe, -⟩ := od3.rd
  subst hDe
  have rt3 := D2.out.rt.added D2.out.tt f3 kr3
  have hl0 := HL0.out
  have hg := HG.out
  have hwz := HWZ.out
  have hgp : ¬ (g = p ∨ v.ownBlock = some g) := by
    rintro (e | e)
    · omega
    · have := hl0.1 g (.inl e); omega
  have hin3 : w3.heap[g]? = w2.heap[g]? := f3.block g hg.2 hgp
  have hxp : ¬ (w.heap.size = p ∨ v.ownBlock = some w.heap.size) := by
    rintro (e | e)
    · omega
    · have := hl0.1 _ (.inl e); omega
  have hbx3 := (f3.block w.heap.size (by omega) hxp).trans HBX2.out
  have z3 := f3.size
  have B3 : Below base w w3 := below_trans B2.out ⟨f3.os, f3.tape, f3.output, f3.size, fun z hz => f3.block z (by omega) (by
    rintro (e | e)
    · omega
    · have := D2.out.tt.own (.inl e); omega)⟩
  have bE := below_alloc w3 (.cells #[.int .i64 (i + (es.length : Int) + 1), .int .i64 m, .int .i64 k, .slice DA bs.length dac] 44)
  have hE3 := heap_alloc_new w3 (.cells #[.int .i64 (i + (es.length : Int) + 1), .int .i64 m, .int .i64 k, .slice DA bs.length dac] 44)
  obtain ⟨W3, hW3⟩ : ∃ W3, W3 = w3.alloc (.cells #[.int .i64 (i + (es.length : Int) + 1), .int .i64 m, .int .i64 k, .slice DA bs.length dac] 44) := ⟨_, rfl⟩
  have hw3z : W3.heap.size = w3.heap.size + 1 := by rw [hW3]; simp
  rw [← hW3] at bE hE3
  have HW3 := Lib.hid hW3
  have B3' := Lib.hid (below_then B3 (by omega) bE)
  have T3 := Lib.hid (to3.below bE)
  have R3 := Lib.hid (rt3.below bE)
  have hbx3' := (bE.block w.heap.size (by omega)).trans hbx3
  have x2 := cellU hbx3' 2
  have x3 := cellU hbx3' 3
  have x4 := cellU hbx3' 4
  simp only [List.getElem?_toArray, List.getElem?_cons_zero, List.getElem?_cons_succ] at x2 x3 x4
  have HRA := Lib.hid (radd_ok base q i t u es Fs m k (.slice B bs.length cb) bs W3 R3.out D1.out.fo (HRB.out W3 B3'.out) h0 (by omega) (by omega) (by omega) hx1 hx2)
  have HBX3 := Lib.hid hbx3'
  have HE3 := Lib.hid hE3
  have HIN3 := Lib.hid ((bE.block g (by omega)).trans hin3)
  have HO3 := Lib.hid (show OD W3 w2.heap.size (.slice DA bs.length dac) bs from ⟨own_below od3.1 bE, od3.2⟩)
  have HLT3 := Lib.hid (show ∀ z, Value.ownBlock (.slice DA bs.length dac) = some z → w2.heap.size ≤ z ∧ z < w3.heap.size from od3.1.lt)
  have HAP3 := Lib.hid ap3
  have HFR3 := Lib.hid fr3
  have HZ3 := Lib.hid (And.intro hw3z z3)
  clear od3 to3 f3 kr3 fr3 ap3 rt3 hgp hin3 hxp hbx3 B3 bE hE3 hW3 hbx3' hl0 hg hwz
  go_upto_region 5 with (fail)
  rw [← HW3.out]
  go_wp2_with fail
  refine HRA.out.mono ?_
  rintro e w4 ⟨Du, u4, Fs4, rfl, od4, rt4, g4, fr4⟩
  obtain ⟨UA, uac, hDu, -⟩ := od4.rd
  subst hDu
  have hl0 := HL0.out
  have hg := HG.out
  have hwz := HWZ.out
  have hz3 := HZ3.out
  have T4 := T3.out.growq R3.out g4
  have hin4 := (g4.block g (by omega) (fun e => by have e : g = q := Option.some.inj e; omega)).trans HIN3.out
  have hbx4 := (g4.block w.heap.size (by omega) (fun e => by have e : w.heap.size = q := Option.some.inj e; omega)).trans HBX3.out
  have hE4 := (g4.block w3.heap.size (by omega) (fun e => by have e : w3.heap.size = q := Option.some.inj e; omega)).trans HE3.out
  have hO4 : OD w4 w2.heap.size (.slice DA bs.length dac) bs := ⟨own_step HO3.out.1 fun z hz => g4.block z (by have := HLT3.out z hz; omega) (fun e => by have e : z = q := Option.some.inj e; have := HLT3.out z hz; omega), hdl⟩
  have B4 : Below base w w4 := below_trans B3'.out ⟨g4.os, g4.tape, g4.output, g4.size, fun z hz => g4.block z (by omega) (fun e => by have e : z = q := Option.some.inj e; omega)⟩
  have HTO := Lib.hid (show ∀ z, OwnT v3 Ds3 z → z ≠ g ∧ Value.ownBlock (.slice DA bs.length dac) ≠ some z from fun z oz => ⟨fun e => by
    rcases HFR3.out z oz with h | h
    · have := hl0.1 z h; omega
    · omega, fun e => HAP3.out z e oz⟩)
  have HRO := Lib.hid (show ∀ z, OwnT u4 Fs4 z → z ≠ g ∧ Value.ownBlock (.slice DA bs.length dac) ≠ some z from fun z oz => ⟨fun e => by have := fr4 z oz; omega, fun e => by have := fr4 z oz; have := HLT3.out z e; omega⟩)
  have hdp : Value.ownBlock (.slice DA bs.length dac) ≠ some p ∧ Value.ownBlock (.slice DA bs.length dac) ≠ some q ∧ Value.ownBlock (.slice DA bs.length dac) ≠ some g := ⟨fun e => by have := HLT3.out _ e; omega, fun e => by have := HLT3.out _ e; omega, fun e => by have := HLT3.out _ e; omega⟩
  have hfo4 : follows i t (es ++ [⟨i + es.length + 1, m, k, bs⟩]) = true := follows_snoc D1.out.fo hx1 hx2
  have hbd : (i + ((es ++ [(⟨i + es.length + 1, m, k, bs⟩ : Ent)]).length : Nat) : Int) ≤ i + es.length + 1 := by simp; omega
  have hrdE : RD w4 (.slice DA bs.length dac) bs := hO4.rd
  have hrdU : RD w4 (.slice UA bs.length uac) bs := od4.rd
  have hroom : Room w4 (.slice DA bs.length dac) False 0 := Room.own hO4.1
  have hz4 := g4.size
  have HG4 := Lib.hid (show g < w4.heap.size ∧ w3.heap.size < w4.heap.size by omega)
  have R4 := rt4
  have HDB := Lib.hid (show ∀ z, Value.ownBlock (.slice DA bs.length dac) = some z → w2.heap.size ≤ z from fun z e => (HLT3.out z e).1)
  clear rt4 od4 g4 fr4 hO4 hl0 hg hwz hz3 hz4
  have bU := below_alloc w4 (.cells #[.int .i64 (i + (es.length : Int) + 1), .int .i64 m, .int .i64 k, (.slice UA bs.length uac)] 44)
  have hU4 := heap_alloc_new w4 (.cells #[.int .i64 (i + (es.length : Int) + 1), .int .i64 m, .int .i64 k, (.slice UA bs.length uac)] 44)
  obtain ⟨W4, hW4⟩ : ∃ W4, W4 = w4.alloc (.cells #[.int .i64 (i + (es.length : Int) + 1), .int .i64 m, .int .i64 k, (.slice UA bs.length uac)] 44) := ⟨_, rfl⟩
  rw [← hW4] at bU hU4
  have HW4 := Lib.hid hW4
  have hw4z : W4.heap.size = w4.heap.size + 1 := by rw [hW4]; simp
  clear hW4
  have T5 := Lib.hid (T4.below bU)
  have R5 := Lib.hid (R4.below bU)
  have B5 := Lib.hid (below_then B4 (by have := B4.size; omega) bU)
  have hin5 := (bU.block g HG4.out.1).trans hin4
  have hbx5 := (bU.block w.heap.size (by have := HG4.out; have := HG.out; have := HWZ.out; omega)).trans hbx4
  have y4 := cellU hbx5 4
  have hE5 := (bU.block w3.heap.size (by have := HG4.out; omega)).trans hE4
  obtain ⟨e0, e1, e2, e3, -⟩ := cells_at hE5
  obtain ⟨u0, u1, u2, u3, -⟩ := cells_at hU4
  have bV := below_alloc W4 (.cells #[.int .i64 (i + (es.length : Int) + 1), .int .i64 m, .int .i64 k, (.slice DA bs.length dac)] 44)
  have v0 := below_cell bV u0
  have v1 := below_cell bV u1
  have v2 := below_cell bV u2
  have v3' := below_cell bV u3
  have HRM := Lib.hid (show Room W4 (.slice DA bs.length dac) False 0 from hroom.step (fun z hz => bU.block z (hroom.lt z hz)) id)
  have HODI := Lib.hid (HOD2.out.1)
  have hOI : OD W4 W.heap.size (.slice (some ⟨g, 0, none⟩) bs.length (bs.length + 1)) bs := ⟨own_step HOD2.out.1 fun z hz => by
    have hz : g = z := Option.some.inj hz
    subst hz
    exact hin5, hdl⟩
  have h77 : W4.cell? ⟨g, bs.length, none⟩ = some (.int .u8 77) := (World.cell?_of_block (w := w2) hin5).trans H77.out
  have HKP := Lib.hid (kept_any (some ⟨g, 0, none⟩) B (bs.length + 1) cb bs W4 g rfl (RB.own hOI.1) (HBD.out W4 B5.out) (Nat.le_refl _) hdl h77)
  have HSM := Lib.hid (same_one W4 ⟨(i + (es.length : Int) + 1), m, k, bs⟩ (.slice DA bs.length dac) (.slice UA bs.length uac) (hrdE.below bU) (hrdU.below bU))
  have HOI := Lib.hid hOI
  have HE5 := Lib.hid hE5
  have HTO5 := HTO
  have HDP := Lib.hid hdp
  have HFO4 := Lib.hid hfo4
  have HBD4 := Lib.hid hbd
  clear bV T4 R4 B4 hin4 hbx4 hE4 hin5 hbx5 hE5 hU4 bU hroom hOI h77 hdp hfo4 hbd hrdE hrdU hw4z
  simp only [List.getElem?_toArray, List.getElem?_cons_zero, List.getElem?_cons_succ] at y4
  go_upto_region 6 with (fail)
  rw [← HW4.out]
  go_wp2_with fail
  refine HKP.out.mono ?_
  rintro e w5 ⟨rfl, hw5⟩
  rw [hw5]
  clear hw5 w5
  go_wp2_with fail
  refine HSM.out.mono ?_
  rintro e w6 ⟨rfl, m6, hw6⟩
  have b6 : Below W4.heap.size W4 w6 := by
    rw [hw6]
    exact below_drawn' (below_then (below_alloc W4 _) (below_alloc W4 _).size (below_alloc _ _))
  clear hw6
  have hE6 := (b6.block w3.heap.size (Array.getElem?_eq_some_iff.1 HE5.out).1).trans HE5.out
  have e3 := (cells_at hE6).2.2.2.1
  have HO6 := Lib.hid (owned_lit [.slice (some ⟨g, 0, none⟩) bs.length (bs.length + 1), (.slice DA bs.length dac)] #[.slice (some ⟨g, 0, none⟩) bs.length (bs.length + 1), (.slice DA bs.length dac)] 2 w6 rfl rfl (by omega)
    (fun x hx => by
      simp only [List.mem_cons, List.not_mem_nil, or_false] at hx
      rcases hx with rfl | rfl
      · exact Room.own (own_below HOI.out.1 b6)
      · exact HRM.out.step (fun z hz => b6.block z (HRM.out.lt z hz)) id)
    (by
      simp only [List.pairwise_cons, List.mem_singleton, forall_eq, List.not_mem_nil, false_implies, implies_true, List.Pairwise.nil, and_true]
      intro z h1 h2
      have h1 : g = z := Option.some.inj h1
      subst h1
      exact HDP.out.2.2 h2))
  have T6 := Lib.hid (T5.out.below b6)
  have R6 := Lib.hid (R5.out.below b6)
  have B6 := Lib.hid (below_then B5.out (by have := B5.out.size; omega) b6)
  clear b6 hE6 e0 e1 e2 u0 u1 u2 u3 v0 v1 v2 v3'
  go_wp2_with fail
  refine HO6.out.mono ?_
  rintro e w7 ⟨rfl, o7, -⟩
  have bL := below_alloc w6 (.cells #[.slice (some ⟨g, 0, none⟩) bs.length (bs.length + 1), (.slice DA bs.length dac)] 42)
  have hot : ∀ z, z ≠ g → Value.ownBlock (.slice DA bs.length dac) ≠ some z → z < w6.heap.size → w7.heap[z]? = w6.heap[z]? := fun z h1 h2 h3 => (o7.block z fun ⟨x, hx, hz⟩ => by
    simp only [List.mem_cons, List.not_mem_nil, or_false] at hx
    rcases hx with rfl | rfl
    · exact h1 (Option.some.inj hz).symm
    · exact h2 hz).trans (bL.block z h3)
  have hl0 := HL0.out
  have hg := HG.out
  have hwz := HWZ.out
  have T7 := Lib.hid (T6.out.stepF (hot p (by omega) HDP.out.1 T6.out.lt) (fun z oz => hot z (HTO.out z oz).1 (HTO.out z oz).2 (T6.out.own oz).2))
  have R7 := Lib.hid (R6.out.stepF (hot q (by omega) HDP.out.2.1 R6.out.lt) (fun z oz => hot z (HRO.out z oz).1 (HRO.out z oz).2 (R6.out.own oz).2))
  have B7 := Lib.hid (show Below base w w7 from ⟨o7.os.trans (bL.os.trans B6.out.os), o7.tape.trans (bL.tape.trans B6.out.tape), o7.output.trans (bL.output.trans B6.out.output), by rw [o7.size]; exact Nat.le_trans B6.out.size bL.size, fun z hz => (hot z (by omega) (fun e => by have := HDB.out z e; omega) (by have := B6.out.size; omega)).trans (B6.out.block z hz)⟩)
  have HCD := Lib.hid (code_any 0 w7 (HE.out w7 B7.out))
  clear o7 bL hot hl0 hg hwz
  rw [errV_zero] at HCD
  go_wp2_with fail
  refine HCD.out.mono ?_
  rintro e w8 ⟨rfl, b8⟩
  go_wp2_with fail
  go_ret
  exact ⟨rfl, i, t, _, _, _, _, _, ⟨T7.out.below b8, R7.out.below b8, HFO4.out, h0⟩, below_trans B7.out (b8.mono (by have := B7.out.size; omega)), .inl HBD4.out⟩
set_option maxRecDepth 100000 in
set_option maxHeartbeats 8000000 in
theorem act_addbad (base p q : Nat) (i t : Int) (v u : Value) (es : List Ent) (Ds Fs : List Value) (d n m k : Int) (B : Option Addr) (cb : Nat) (bs : List UInt8) (L : Option Addr) (cl : Nat) (ls : List Ent) (Ls : List Value) (w : World) (D : Duo w base p q i t v u es Ds Fs) (hb : base ≤ w.heap.size) (hE : ErrT w) (hE0 : 0 < base)
    (hrB : ∀ w', Below base w w' → RD w' (.slice B bs.length cb) bs) (hrL : ∀ w', Below base w w' → RE w' L ls Ls) (hlc : ls.length ≤ cl) (hcl : ls.length * 48 ≤ 140737488351232) (wn : (Lit.int .i64 n).wf = true) (hi : i + es.length ≤ 4100000000000) (hd : d = 0) (hx : m < endT t es ∨ k < 0) :
    Calls Tryd.prog 27 #[.pointer (some ⟨p, 0, none⟩), .pointer (some ⟨q, 0, none⟩), .agg #[.int .i64 d, .int .i64 n, .int .i64 m, .int .i64 k, .slice B bs.length cb, .slice L ls.length cl]] w (ActP base p q i es w) := by
  have bA := below_alloc w (.cells #[.int .i64 d, .int .i64 n, .int .i64 m, .int .i64 k, .slice B bs.length cb, .slice L ls.length cl] 73)
  have HBX := Lib.hid (heap_alloc_new w (.cells #[.int .i64 d, .int .i64 n, .int .i64 m, .int .i64 k, .slice B bs.length cb, .slice L ls.length cl] 73))
  have h0 := D.i0
  have HL0 := Lib.hid (show (∀ z, OwnT v Ds z → z < w.heap.size) ∧ (∀ z, OwnT u Fs z → z < w.heap.size) ∧ p < w.heap.size ∧ q < w.heap.size ∧ base ≤ p ∧ base ≤ q from ⟨fun z o => (D.tt.own o).2, fun z o => (D.rt.own o).2, D.tt.lt, D.rt.lt, D.tt.1, D.rt.1⟩)
  have D1 := Lib.hid (D.below bA)
  have HB1 := Lib.hid (bA.mono hb)
  have HE := Lib.hid fun (w' : World) (h : Below base w w') => errT_keep hE hE0 h
  have HRB := Lib.hid hrB
  have HRL := Lib.hid hrL
  have HBD := Lib.hid (show ∀ w', Below base w w' → RB w' B bs from fun w' h => by
    obtain ⟨B1, c1, e1, h1, -⟩ := hrB w' h
    cases e1
    exact h1)
  have hdl : bs.length ≤ 140737488351232 := by
    obtain ⟨_, _, _, _, _, h, _⟩ := hrB w (Below.refl _ _)
    exact h
  obtain ⟨W, hW⟩ : ∃ W, W = w.alloc (.cells #[.int .i64 d, .int .i64 n, .int .i64 m, .int .i64 k, .slice B bs.length cb, .slice L ls.length cl] 73) := ⟨_, rfl⟩
  have HWZ := Lib.hid (show W.heap.size = w.heap.size + 1 by rw [hW]; simp)
  rw [← hW] at HBX D1 HB1
  have HW := Lib.hid hW
  have b0 := cellU HBX.out 0
  have b1 := cellU HBX.out 1
  have b2 := cellU HBX.out 2
  have b3 := cellU HBX.out 3
  have b4 := cellU HBX.out 4
  have b5 := cellU HBX.out 5
  simp only [List.getElem?_toArray, List.getElem?_cons_zero, List.getElem?_cons_succ] at b0 b1 b2 b3 b4 b5
  clear D hE hrB hrL bA hW
  subst d
  have HLN := Lib.hid (lent_at B cb bs W hdl (HBD.out W HB1.out))
  go_enter Tryd.func27, Tryd.ntmps27
  go_wp2_with fail
  rw [← HW.out]
  go_wp2_with fail
  refine HLN.out.mono ?_
  rintro e w2 ⟨g, rfl, h77, od2, b2w⟩
  have z2 := b2w.size
  have D2 := Lib.hid (D1.out.below b2w)
  have B2 := Lib.hid (show Below base w w2 from below_trans HB1.out (b2w.mono (by have := HWZ.out; omega)))
  have hbx2 := (b2w.block w.heap.size (by have := HWZ.out; omega)).trans HBX.out
  have HG := Lib.hid (show W.heap.size ≤ g ∧ g < w2.heap.size from od2.1.lt g rfl)
  have x2 := below_cell b2w b2
  have x3 := below_cell b2w b3
  have HOD2 := Lib.hid od2
  have H77 := Lib.hid h77
  have HBX2 := Lib.hid hbx2
  clear b2w hbx2 h77 od2
  have HAD := Lib.hid (add_bad base p i t v es Ds m k (.slice (some ⟨g, 0, none⟩) bs.length (bs.length + 1)) w2 D2.out.tt h0 (by omega) (by omega) hx)
  go_wp2_with fail
  refine HAD.out.mono ?_
  rintro e w3 ⟨rfl, b3w⟩
  have hl0 := HL0.out
  have hg := HG.out
  have hwz := HWZ.out
  have z3 := b3w.size
  have bE := below_alloc w3 (.cells #[.int .i64 0, .int .i64 0, .int .i64 0, .slice none 0 0] 44)
  have hE3 := heap_alloc_new w3 (.cells #[.int .i64 0, .int .i64 0, .int .i64 0, .slice none 0 0] 44)
  obtain ⟨W3, hW3⟩ : ∃ W3, W3 = w3.alloc (.cells #[.int .i64 0, .int .i64 0, .int .i64 0, .slice none 0 0] 44) := ⟨_, rfl⟩
  have hw3z : W3.heap.size = w3.heap.size + 1 := by rw [hW3]; simp
  rw [← hW3] at bE hE3
  have HW3 := Lib.hid hW3
  have b23 : Below w2.heap.size w2 W3 := below_then b3w b3w.size bE
  have B3' := Lib.hid (below_then B2.out (by omega) b23)
  have D3 := Lib.hid (D2.out.below b23)
  have hbx3' := (b23.block w.heap.size (by omega)).trans HBX2.out
  have x2 := cellU hbx3' 2
  have x3 := cellU hbx3' 3
  have x4 := cellU hbx3' 4
  simp only [List.getElem?_toArray, List.getElem?_cons_zero, List.getElem?_cons_succ] at x2 x3 x4
  have HRA := Lib.hid (radd_bad base q i t u es Fs m k (.slice B bs.length cb) W3 D3.out.rt D1.out.fo h0 (by omega) (by omega) hx)
  have HBX3 := Lib.hid hbx3'
  have HE3 := Lib.hid hE3
  have HIN3 := Lib.hid (b23.block g hg.2)
  have HZ3 := Lib.hid (And.intro hw3z z3)
  clear b3w bE hE3 hW3 hbx3' hl0 hg hwz b23 hx
  go_upto_region 5 with (fail)
  rw [← HW3.out]
  go_wp2_with fail
  refine HRA.out.mono ?_
  rintro e w4 ⟨rfl, b4w⟩
  have hl0 := HL0.out
  have hg := HG.out
  have hwz := HWZ.out
  have hz3 := HZ3.out
  have T4 := D3.out.tt.below b4w
  have R4 := D3.out.rt.below b4w
  have hin4 := (b4w.block g (by omega)).trans HIN3.out
  have hbx4 := (b4w.block w.heap.size (by omega)).trans HBX3.out
  have hE4 := (b4w.block w3.heap.size (by omega)).trans HE3.out
  have B4 : Below base w w4 := below_then B3'.out (by have := B3'.out.size; omega) b4w
  have HTO := Lib.hid (show ∀ z, OwnT v Ds z → z ≠ g ∧ Value.ownBlock (.slice none 0 0) ≠ some z from fun z oz => ⟨fun e => by have := hl0.1 z oz; omega, fun e => by cases e⟩)
  have HRO := Lib.hid (show ∀ z, OwnT u Fs z → z ≠ g ∧ Value.ownBlock (.slice none 0 0) ≠ some z from fun z oz => ⟨fun e => by have := hl0.2.1 z oz; omega, fun e => by cases e⟩)
  have hdp : Value.ownBlock (.slice none 0 0) ≠ some p ∧ Value.ownBlock (.slice none 0 0) ≠ some q ∧ Value.ownBlock (.slice none 0 0) ≠ some g := ⟨(fun e => by cases e), (fun e => by cases e), (fun e => by cases e)⟩
  have hfo4 : follows i t es = true := D1.out.fo
  have hbd : (i + (es.length : Nat) : Int) ≤ i + es.length + 1 := by omega
  have hrdE : RD w4 (.slice none 0 0) [] := RD.nil w4
  have hrdU : RD w4 (.slice none 0 0) [] := RD.nil w4
  have hroom : Room w4 (.slice none 0 0) False 0 := .inl rfl
  have hz4 := b4w.size
  have HG4 := Lib.hid (show g < w4.heap.size ∧ w3.heap.size < w4.heap.size by omega)
  have HDB := Lib.hid (show ∀ z, Value.ownBlock (.slice none 0 0) = some z → w2.heap.size ≤ z from fun z e => by cases e)
  clear b4w hl0 hg hwz hz3 hz4
  have bU := below_alloc w4 (.cells #[.int .i64 0, .int .i64 0, .int .i64 0, (.slice none 0 0)] 44)
  have hU4 := heap_alloc_new w4 (.cells #[.int .i64 0, .int .i64 0, .int .i64 0, (.slice none 0 0)] 44)
  obtain ⟨W4, hW4⟩ : ∃ W4, W4 = w4.alloc (.cells #[.int .i64 0, .int .i64 0, .int .i64 0, (.slice none 0 0)] 44) := ⟨_, rfl⟩
  rw [← hW4] at bU hU4
  have HW4 := Lib.hid hW4
  have hw4z : W4.heap.size = w4.heap.size + 1 := by rw [hW4]; simp
  clear hW4
  have T5 := Lib.hid (T4.below bU)
  have R5 := Lib.hid (R4.below bU)
  have B5 := Lib.hid (below_then B4 (by have := B4.size; omega) bU)
  have hin5 := (bU.block g HG4.out.1).trans hin4
  have hbx5 := (bU.block w.heap.size (by have := HG4.out; have := HG.out; have := HWZ.out; omega)).trans hbx4
  have y4 := cellU hbx5 4
  have hE5 := (bU.block w3.heap.size (by have := HG4.out; omega)).trans hE4
  obtain ⟨e0, e1, e2, e3, -⟩ := cells_at hE5
  obtain ⟨u0, u1, u2, u3, -⟩ := cells_at hU4
  have bV := below_alloc W4 (.cells #[.int .i64 0, .int .i64 0, .int .i64 0, (.slice none 0 0)] 44)
  have v0 := below_cell bV u0
  have v1 := below_cell bV u1
  have v2 := below_cell bV u2
  have v3' := below_cell bV u3
  have HRM := Lib.hid (show Room W4 (.slice none 0 0) False 0 from hroom.step (fun z hz => bU.block z (hroom.lt z hz)) id)
  have HODI := Lib.hid (HOD2.out.1)
  have hOI : OD W4 W.heap.size (.slice (some ⟨g, 0, none⟩) bs.length (bs.length + 1)) bs := ⟨own_step HOD2.out.1 fun z hz => by
    have hz : g = z := Option.some.inj hz
    subst hz
    exact hin5, hdl⟩
  have h77 : W4.cell? ⟨g, bs.length, none⟩ = some (.int .u8 77) := (World.cell?_of_block (w := w2) hin5).trans H77.out
  have HKP := Lib.hid (kept_any (some ⟨g, 0, none⟩) B (bs.length + 1) cb bs W4 g rfl (RB.own hOI.1) (HBD.out W4 B5.out) (Nat.le_refl _) hdl h77)
  have HSM := Lib.hid (same_one W4 ⟨0, 0, 0, []⟩ (.slice none 0 0) (.slice none 0 0) (hrdE.below bU) (hrdU.below bU))
  have HOI := Lib.hid hOI
  have HE5 := Lib.hid hE5
  have HTO5 := HTO
  have HDP := Lib.hid hdp
  have HFO4 := Lib.hid hfo4
  have HBD4 := Lib.hid hbd
  clear bV T4 R4 B4 hin4 hbx4 hE4 hin5 hbx5 hE5 hU4 bU hroom hOI h77 hdp hfo4 hbd hrdE hrdU hw4z
  simp only [List.getElem?_toArray, List.getElem?_cons_zero, List.getElem?_cons_succ] at y4
  go_upto_region 6 with (fail)
  rw [← HW4.out]
  go_wp2_with fail
  refine HKP.out.mono ?_
  rintro e w5 ⟨rfl, hw5⟩
  rw [hw5]
  clear hw5 w5
  go_wp2_with fail
  refine HSM.out.mono ?_
  rintro e w6 ⟨rfl, m6, hw6⟩
  have b6 : Below W4.heap.size W4 w6 := by
    rw [hw6]
    exact below_drawn' (below_then (below_alloc W4 _) (below_alloc W4 _).size (below_alloc _ _))
  clear hw6
  have hE6 := (b6.block w3.heap.size (Array.getElem?_eq_some_iff.1 HE5.out).1).trans HE5.out
  have e3 := (cells_at hE6).2.2.2.1
  have HO6 := Lib.hid (owned_lit [.slice (some ⟨g, 0, none⟩) bs.length (bs.length + 1), (.slice none 0 0)] #[.slice (some ⟨g, 0, none⟩) bs.length (bs.length + 1), (.slice none 0 0)] 2 w6 rfl rfl (by omega)
    (fun x hx => by
      simp only [List.mem_cons, List.not_mem_nil, or_false] at hx
      rcases hx with rfl | rfl
      · exact Room.own (own_below HOI.out.1 b6)
      · exact HRM.out.step (fun z hz => b6.block z (HRM.out.lt z hz)) id)
    (by
      simp only [List.pairwise_cons, List.mem_singleton, forall_eq, List.not_mem_nil, false_implies, implies_true, List.Pairwise.nil, and_true]
      intro z h1 h2
      have h1 : g = z := Option.some.inj h1
      subst h1
      exact HDP.out.2.2 h2))
  have T6 := Lib.hid (T5.out.below b6)
  have R6 := Lib.hid (R5.out.below b6)
  have B6 := Lib.hid (below_then B5.out (by have := B5.out.size; omega) b6)
  clear b6 hE6 e0 e1 e2 u0 u1 u2 u3 v0 v1 v2 v3'
  go_wp2_with fail
  refine HO6.out.mono ?_
  rintro e w7 ⟨rfl, o7, -⟩
  have bL := below_alloc w6 (.cells #[.slice (some ⟨g, 0, none⟩) bs.length (bs.length + 1), (.slice none 0 0)] 42)
  have hot : ∀ z, z ≠ g → Value.ownBlock (.slice none 0 0) ≠ some z → z < w6.heap.size → w7.heap[z]? = w6.heap[z]? := fun z h1 h2 h3 => (o7.block z fun ⟨x, hx, hz⟩ => by
    simp only [List.mem_cons, List.not_mem_nil, or_false] at hx
    rcases hx with rfl | rfl
    · exact h1 (Option.some.inj hz).symm
    · exact h2 hz).trans (bL.block z h3)
  have hl0 := HL0.out
  have hg := HG.out
  have hwz := HWZ.out
  have T7 := Lib.hid (T6.out.stepF (hot p (by omega) HDP.out.1 T6.out.lt) (fun z oz => hot z (HTO.out z oz).1 (HTO.out z oz).2 (T6.out.own oz).2))
  have R7 := Lib.hid (R6.out.stepF (hot q (by omega) HDP.out.2.1 R6.out.lt) (fun z oz => hot z (HRO.out z oz).1 (HRO.out z oz).2 (R6.out.own oz).2))
  have B7 := Lib.hid (show Below base w w7 from ⟨o7.os.trans (bL.os.trans B6.out.os), o7.tape.trans (bL.tape.trans B6.out.tape), o7.output.trans (bL.output.trans B6.out.output), by rw [o7.size]; exact Nat.le_trans B6.out.size bL.size, fun z hz => (hot z (by omega) (fun e => by have := HDB.out z e; omega) (by have := B6.out.size; omega)).trans (B6.out.block z hz)⟩)
  have HCD := Lib.hid (code_any 1 w7 (HE.out w7 B7.out))
  clear o7 bL hot hl0 hg hwz
  go_wp2_with fail
  refine HCD.out.mono ?_
  rintro e w8 ⟨rfl, b8⟩
  go_wp2_with fail
  go_ret
  exact ⟨rfl, i, t, _, _, _, _, _, ⟨T7.out.below b8, R7.out.below b8, HFO4.out, h0⟩, below_trans B7.out (b8.mono (by have := B7.out.size; omega)), .inl HBD4.out⟩
set_option maxRecDepth 100000 in
set_option maxHeartbeats 8000000 in
theorem act_merge (base p q : Nat) (i t : Int) (v u : Value) (es : List Ent) (Ds Fs : List Value) (d n m k : Int) (B : Option Addr) (cb : Nat) (bs : List UInt8) (L : Option Addr) (cl : Nat) (ls : List Ent) (Ls : List Value) (w : World) (D : Duo w base p q i t v u es Ds Fs) (hb : base ≤ w.heap.size) (hE : ErrT w) (hE0 : 0 < base)
    (hrB : ∀ w', Below base w w' → RD w' (.slice B bs.length cb) bs) (hrL : ∀ w', Below base w w' → RE w' L ls Ls) (hlc : ls.length ≤ cl) (hcl : ls.length * 48 ≤ 140737488351232) (wn : (Lit.int .i64 n).wf = true) (hi : i + es.length ≤ 4100000000000) (hd : d = 1) :
    Calls Tryd.prog 27 #[.pointer (some ⟨p, 0, none⟩), .pointer (some ⟨q, 0, none⟩), .agg #[.int .i64 d, .int .i64 n, .int .i64 m, .int .i64 k, .slice B bs.length cb, .slice L ls.length cl]] w (ActP base p q i es w) := by
  have bA := below_alloc w (.cells #[.int .i64 d, .int .i64 n, .int .i64 m, .int .i64 k, .slice B bs.length cb, .slice L ls.length cl] 73)
  have HBX := Lib.hid (heap_alloc_new w (.cells #[.int .i64 d, .int .i64 n, .int .i64 m, .int .i64 k, .slice B bs.length cb, .slice L ls.length cl] 73))
  have h0 := D.i0
  have HL0 := Lib.hid (show (∀ z, OwnT v Ds z → z < w.heap.size) ∧ (∀ z, OwnT u Fs z → z < w.heap.size) ∧ p < w.heap.size ∧ q < w.heap.size ∧ base ≤ p ∧ base ≤ q from ⟨fun z o => (D.tt.own o).2, fun z o => (D.rt.own o).2, D.tt.lt, D.rt.lt, D.tt.1, D.rt.1⟩)
  have D1 := Lib.hid (D.below bA)
  have HB1 := Lib.hid (bA.mono hb)
  have HE := Lib.hid fun (w' : World) (h : Below base w w') => errT_keep hE hE0 h
  have HRB := Lib.hid hrB
  have HRL := Lib.hid hrL
  have HBD := Lib.hid (show ∀ w', Below base w w' → RB w' B bs from fun w' h => by
    obtain ⟨B1, c1, e1, h1, -⟩ := hrB w' h
    cases e1
    exact h1)
  have hdl : bs.length ≤ 140737488351232 := by
    obtain ⟨_, _, _, _, _, h, _⟩ := hrB w (Below.refl _ _)
    exact h
  obtain ⟨W, hW⟩ : ∃ W, W = w.alloc (.cells #[.int .i64 d, .int .i64 n, .int .i64 m, .int .i64 k, .slice B bs.length cb, .slice L ls.length cl] 73) := ⟨_, rfl⟩
  have HWZ := Lib.hid (show W.heap.size = w.heap.size + 1 by rw [hW]; simp)
  rw [← hW] at HBX D1 HB1
  have HW := Lib.hid hW
  have b0 := cellU HBX.out 0
  have b1 := cellU HBX.out 1
  have b2 := cellU HBX.out 2
  have b3 := cellU HBX.out 3
  have b4 := cellU HBX.out 4
  have b5 := cellU HBX.out 5
  simp only [List.getElem?_toArray, List.getElem?_cons_zero, List.getElem?_cons_succ] at b0 b1 b2 b3 b4 b5
  clear D hE hrB hrL bA hW
  subst d
  have HLN := Lib.hid (lents_any L ls.length cl ls Ls W (HRL.out W HB1.out) rfl hcl)
  go_enter Tryd.func27, Tryd.ntmps27
  go_wp2_with fail
  rw [← HW.out]
  go_wp2_with fail
  refine HLN.out.mono ?_
  rintro e w2 ⟨v2, Dn, rfl, le2, b2w⟩
  obtain ⟨A2, c2, hv2, re2, hlc2, -, hA2⟩ := le2.oe.re
  subst hv2
  have hl0 := HL0.out
  have hwz := HWZ.out
  have z2 := b2w.size
  have D2 := Lib.hid (D1.out.below b2w)
  have B2 := Lib.hid (show Below base w w2 from below_trans HB1.out (b2w.mono (by omega)))
  have hbx2 := (b2w.block w.heap.size (by omega)).trans HBX.out
  have x1 := below_cell b2w b1
  have x2 := below_cell b2w b2
  have HIN := Lib.hid (show ∀ z, OwnT (.slice A2 ls.length c2) Dn z → W.heap.size ≤ z ∧ z < w2.heap.size from fun z oz => oz.elim (fun e => le2.oe.2.1.lt z e) (fun ⟨x, hx, e⟩ => le2.oe.dlt x hx z e))
  have HLE := Lib.hid le2
  have HBX2 := Lib.hid hbx2
  obtain ⟨R, hR⟩ : ∃ R, Hid (R = mergeT i t es n m ls) := ⟨_, Lib.hid rfl⟩
  have HMG := Lib.hid (merge_wideW base p i t v es Ds A2 ls.length c2 ls Dn n m w2 D2.out.tt re2 rfl hlc2 (fun e => by have := hA2 e; omega) h0 (by omega) (by omega) (by omega) (by omega))
  rw [← hR.out] at HMG
  clear le2 b2w hbx2 re2 hlc2 hA2 hl0 hwz
  go_wp2_with fail
  refine HMG.out.mono ?_
  rintro e w3 ⟨M3, v3, Ds3, Dm3, rfl, g3, to3, om3, fr3, ap3⟩
  obtain ⟨MA, mc, hM3, -⟩ := om3.re
  subst hM3
  have hl0 := HL0.out
  have hwz := HWZ.out
  have z3 := g3.size
  have rt3 := D2.out.rt.growp D2.out.tt g3
  have hbx3 := (g3.block w.heap.size (by omega) (fun e => by have e : w.heap.size = p := Option.some.inj e; omega)).trans HBX2.out
  have B3 := Lib.hid (show Below base w w3 from below_trans B2.out ⟨g3.os, g3.tape, g3.output, g3.size, fun z hz => g3.block z (by omega) (fun e => by have e : z = p := Option.some.inj e; omega)⟩)
  have le3 := HLE.out.keep (w' := w3) fun z h1 h2 => g3.block z h2 (fun e => by have e : z = p := Option.some.inj e; omega)
  have x1 := cellU hbx3 1
  have x2 := cellU hbx3 2
  have x5 := cellU hbx3 5
  simp only [List.getElem?_toArray, List.getElem?_cons_zero, List.getElem?_cons_succ] at x1 x2 x5
  have HRM := Lib.hid (rmerge_any base q i t u es Fs L ls.length cl ls Ls n m w3 rt3 D1.out.fo (HRL.out w3 B3.out) rfl hlc h0 (by omega) (by omega) (by omega) (by have := B3.out.size; omega) wn)
  rw [← hR.out] at HRM
  have HM3 := Lib.hid om3
  have HT3 := Lib.hid to3
  have HR3 := Lib.hid rt3
  have HFR3 := Lib.hid fr3
  have HAP3 := Lib.hid ap3
  have HLE3 := Lib.hid le3
  have HBX3 := Lib.hid hbx3
  have HZ3 := Lib.hid z3
  clear g3 to3 om3 fr3 ap3 rt3 hbx3 le3 hl0 hwz z3
  go_wp2_with fail
  refine HRM.out.mono ?_
  rintro e w4 ⟨K4, u4, Fs4, Dk4, rfl, g4, rt4, ok4, fr4⟩
  obtain ⟨KA, kc, hK4, -⟩ := ok4.re
  subst hK4
  have hl0 := HL0.out
  have hwz := HWZ.out
  have z3 := HZ3.out
  have z4 := g4.size
  have T4 := Lib.hid (HT3.out.growq HR3.out g4)
  have hq4 : ∀ z, w.heap.size ≤ z → z < w3.heap.size → w4.heap[z]? = w3.heap[z]? := fun z h1 h2 => g4.block z h2 (fun e => by have e : z = q := Option.some.inj e; omega)
  have hbx4 := (hq4 w.heap.size (Nat.le_refl _) (by omega)).trans HBX3.out
  have B4 := Lib.hid (show Below base w w4 from below_trans B3.out ⟨g4.os, g4.tape, g4.output, g4.size, fun z hz => g4.block z (by have := B3.out.size; omega) (fun e => by have e : z = q := Option.some.inj e; omega)⟩)
  have le4 := HLE3.out.keep (w' := w4) fun z h1 h2 => hq4 z (by omega) h2
  have om4 := HM3.out.keep (w' := w4) fun z h1 h2 => hq4 z (by omega) h2
  have x5 := cellU hbx4 5
  simp only [List.getElem?_toArray, List.getElem?_cons_zero, List.getElem?_cons_succ] at x5
  have HKP := Lib.hid (kepts_any W.heap.size A2 ls.length c2 L cl ls Dn Ls w4 le4 (fun w' h => HRL.out w' (below_trans B4.out (h.mono (by omega)))) rfl (by omega) (by omega))
  have HR4 := Lib.hid rt4
  have HK4 := Lib.hid ok4
  have HM4 := Lib.hid om4
  have HFR4 := Lib.hid fr4
  have HZ4 := Lib.hid z4
  clear g4 rt4 ok4 fr4 le4 om4 hq4 hbx4 hl0 hwz z3 z4
  go_wp2_with fail
  refine HKP.out.mono ?_
  rintro e w5 ⟨rfl, f5⟩
  have hl0 := HL0.out
  have hwz := HWZ.out
  have z3 := HZ3.out
  have z4 := HZ4.out
  have hin := HIN.out
  have T5 := Lib.hid (T4.out.stepF (f5.block p (by omega) (fun o => by have := hin p o; omega)) (fun z oz => f5.block z (T4.out.own oz).2 (fun o => by
    have h1 := hin z o
    rcases HFR3.out z oz with h | h
    · have := hl0.1 z h; omega
    · omega)))
  have R5 := Lib.hid (HR4.out.stepF (f5.block q (by omega) (fun o => by have := hin q o; omega)) (fun z oz => f5.block z (HR4.out.own oz).2 (fun o => by
    have h1 := hin z o
    rcases HFR4.out z oz with h | h
    · have := hl0.2.1 z h; omega
    · omega)))
  have M5 := Lib.hid (HM4.out.keep fun z h1 h2 => f5.block z h2 (fun o => by have := hin z o; omega))
  have K5 := HK4.out.keep fun z h1 h2 => f5.block z h2 (fun o => by have := hin z o; omega)
  have B5 := Lib.hid (show Below base w w5 from below_trans B4.out (f5.below (by omega) fun z o => by have := hin z o; omega))
  obtain ⟨MA', mc', hM', re5, -⟩ := M5.out.re
  injection hM' with e1 _ e3
  subst e1
  subst e3
  obtain ⟨KA', kc', hK', rk5, -⟩ := K5.re
  injection hK' with e1 _ e3
  subst e1
  subst e3
  have hml := Lib.hid (show R.2.2.2.length ≤ ls.length from by rw [hR.out]; exact merge_more)
  have HSM := Lib.hid (same_any MA KA R.2.2.2.length mc kc R.2.2.2 Dm3 Dk4 w5 re5 rk5 rfl (by have := hml.out; omega))
  have HZ45 := Lib.hid f5.size
  clear f5 K5 re5 rk5 hl0 hwz z3 z4 hin
  go_wp2_with fail
  refine HSM.out.mono ?_
  rintro e w6 ⟨rfl, m6, hw6⟩
  have b6 : Below w5.heap.size w5 w6 := by rw [hw6]; exact below_drawn' (Below.refl _ _)
  clear hw6
  have M6 := M5.out.below b6
  have HOW := Lib.hid (own_any w2.heap.size MA R.2.2.2.length mc R.2.2.2 Dm3 w6 M6 rfl (by have := hml.out; omega) (by have := b6.size; have := HZ3.out; have := HZ4.out; have := B5.out.size; exact Nat.le_trans (Nat.le_trans (Nat.le_trans HZ3.out HZ4.out) HZ45.out) b6.size))
  have T6 := Lib.hid (T5.out.below b6)
  have R6 := Lib.hid (R5.out.below b6)
  have B6 := Lib.hid (below_trans B5.out (b6.mono (by have := B5.out.size; omega)))
  have HM6 := Lib.hid (show ∀ z, OwnT (.slice MA R.2.2.2.length mc) Dm3 z → w2.heap.size ≤ z ∧ z < w3.heap.size from fun z oz => oz.elim (fun e => HM3.out.2.1.lt z e) (fun ⟨x, hx, e⟩ => HM3.out.dlt x hx z e))
  clear b6 M6
  go_wp2_with fail
  refine HOW.out.mono ?_
  rintro e w7 ⟨rfl, f7⟩
  have hl0 := HL0.out
  have hwz := HWZ.out
  have z3 := HZ3.out
  have hm6 := HM6.out
  have T7 := Lib.hid (T6.out.stepF (f7.block p T6.out.lt (fun o => by have := hm6 p o; omega)) (fun z oz => f7.block z (T6.out.own oz).2 (fun o => HAP3.out z o oz)))
  have R7 := Lib.hid (R6.out.stepF (f7.block q R6.out.lt (fun o => by have := hm6 q o; omega)) (fun z oz => f7.block z (R6.out.own oz).2 (fun o => by
    have h1 := hm6 z o
    rcases HFR4.out z oz with h | h
    · have := hl0.2.1 z h; omega
    · omega)))
  have B7 := Lib.hid (show Below base w w7 from below_trans B6.out (f7.below (by have := B6.out.size; omega) fun z o => by have := hm6 z o; omega))
  have HCD := Lib.hid (code_any R.1 w7 (HE.out w7 B7.out))
  have hkn := Lib.hid (merge_keeps (prev := n) (term := m) (l := ls) D1.out.fo)
  rw [← hR.out] at hkn
  have hnn : (R.2.1 == R.2.1) = true := by simp
  have hcc : ((R.1 : Int) == (R.1 : Int)) = true := by simp
  clear f7 hl0 hwz z3 hm6
  go_wp2_with fail
  refine HCD.out.mono ?_
  rintro e w8 ⟨rfl, b8⟩
  go_wp2_with fail
  go_ret
  exact ⟨rfl, i, t, _, _, _, _, _, ⟨T7.out.below b8, R7.out.below b8, hkn.out.1, h0⟩, below_trans B7.out (b8.mono (by have := B7.out.size; omega)), by rcases hkn.out.2 with h | h <;> omega⟩
set_option maxRecDepth 100000 in
set_option maxHeartbeats 8000000 in
theorem act_compact (base p q : Nat) (i t : Int) (v u : Value) (es : List Ent) (Ds Fs : List Value) (d n m k : Int) (B : Option Addr) (cb : Nat) (bs : List UInt8) (L : Option Addr) (cl : Nat) (ls : List Ent) (Ls : List Value) (w : World) (D : Duo w base p q i t v u es Ds Fs) (hb : base ≤ w.heap.size) (hE : ErrT w) (hE0 : 0 < base)
    (hrB : ∀ w', Below base w w' → RD w' (.slice B bs.length cb) bs) (hrL : ∀ w', Below base w w' → RE w' L ls Ls) (hlc : ls.length ≤ cl) (hcl : ls.length * 48 ≤ 140737488351232) (wn : (Lit.int .i64 n).wf = true) (hi : i + es.length ≤ 4100000000000) (hd0 : ¬ d = 0) (hd1 : ¬ d = 1) :
    Calls Tryd.prog 27 #[.pointer (some ⟨p, 0, none⟩), .pointer (some ⟨q, 0, none⟩), .agg #[.int .i64 d, .int .i64 n, .int .i64 m, .int .i64 k, .slice B bs.length cb, .slice L ls.length cl]] w (ActP base p q i es w) := by
  have bA := below_alloc w (.cells #[.int .i64 d, .int .i64 n, .int .i64 m, .int .i64 k, .slice B bs.length cb, .slice L ls.length cl] 73)
  have HBX := Lib.hid (heap_alloc_new w (.cells #[.int .i64 d, .int .i64 n, .int .i64 m, .int .i64 k, .slice B bs.length cb, .slice L ls.length cl] 73))
  have h0 := D.i0
  have HL0 := Lib.hid (show (∀ z, OwnT v Ds z → z < w.heap.size) ∧ (∀ z, OwnT u Fs z → z < w.heap.size) ∧ p < w.heap.size ∧ q < w.heap.size ∧ base ≤ p ∧ base ≤ q from ⟨fun z o => (D.tt.own o).2, fun z o => (D.rt.own o).2, D.tt.lt, D.rt.lt, D.tt.1, D.rt.1⟩)
  have D1 := Lib.hid (D.below bA)
  have HB1 := Lib.hid (bA.mono hb)
  have HE := Lib.hid fun (w' : World) (h : Below base w w') => errT_keep hE hE0 h
  have HRB := Lib.hid hrB
  have HRL := Lib.hid hrL
  have HBD := Lib.hid (show ∀ w', Below base w w' → RB w' B bs from fun w' h => by
    obtain ⟨B1, c1, e1, h1, -⟩ := hrB w' h
    cases e1
    exact h1)
  have hdl : bs.length ≤ 140737488351232 := by
    obtain ⟨_, _, _, _, _, h, _⟩ := hrB w (Below.refl _ _)
    exact h
  obtain ⟨W, hW⟩ : ∃ W, W = w.alloc (.cells #[.int .i64 d, .int .i64 n, .int .i64 m, .int .i64 k, .slice B bs.length cb, .slice L ls.length cl] 73) := ⟨_, rfl⟩
  have HWZ := Lib.hid (show W.heap.size = w.heap.size + 1 by rw [hW]; simp)
  rw [← hW] at HBX D1 HB1
  have HW := Lib.hid hW
  have b0 := cellU HBX.out 0
  have b1 := cellU HBX.out 1
  have b2 := cellU HBX.out 2
  have b3 := cellU HBX.out 3
  have b4 := cellU HBX.out 4
  have b5 := cellU HBX.out 5
  simp only [List.getElem?_toArray, List.getElem?_cons_zero, List.getElem?_cons_succ] at b0 b1 b2 b3 b4 b5
  clear D hE hrB hrL bA hW
  have hd0b : (d == 0) = false := by simpa using hd0
  have hd1b : (d == 1) = false := by simpa using hd1
  have D0 := Lib.hid hd0
  have D1' := Lib.hid hd1
  clear hd0 hd1
  obtain ⟨R, hR⟩ : ∃ R, Hid (R = compactT i t es n) := ⟨_, Lib.hid rfl⟩
  have hS0 : W.drew.cell? ⟨w.heap.size, 1, none⟩ = some (.int .i64 n) := b1
  have HC1 := Lib.hid (compact_any base p i t v es Ds n W.drew (D1.out.tt.below (below_drawn' (Below.refl _ _) (m := 1))) h0 (by omega) (by omega) (by show base ≤ W.heap.size; have := HWZ.out; omega))
  rw [← hR.out] at HC1
  go_enter Tryd.func27, Tryd.ntmps27
  go_wp2_with fail
  rw [← HW.out]
  go_wp2_with fail
  refine wp_region_Z (fun w' => w'.cell? ⟨w.heap.size, 1, none⟩ = some (.int .i64 n)) 10 (by kernel_rfl) hS0 (fun hHeld => ?_)
  refine wpAnyZ_take (i := 0) (v := ?_) rfl (by kernel_rfl) (by kernel_rfl) (by kernel_rfl) (by kernel_rfl) (by decide) (fun _ _ _ h => h) (by rfl) ?_ (by assumption) ?_
  rotate_left
  · (intro w hSw; (try dsimp only at hSw); go_simp) <;> with_reducible rfl
  try simp only [Act.put, List.getElem_toArray, List.getElem_cons_zero, List.getElem_cons_succ, List.setIfInBounds_toArray, List.set_cons_zero, List.set_cons_succ]
  refine wpAnyZ_take (i := 1) (v := ?_) rfl (by kernel_rfl) (by kernel_rfl) (by kernel_rfl) (by kernel_rfl) (by decide) (fun _ _ _ h => h) (by rfl) ?_ (by assumption) ?_
  rotate_left
  · (intro w hSw; (try dsimp only at hSw); go_simp) <;> with_reducible rfl
  try simp only [Act.put, List.getElem_toArray, List.getElem_cons_zero, List.getElem_cons_succ, List.setIfInBounds_toArray, List.set_cons_zero, List.set_cons_succ]
  refine wpAnyZ_take (i := 2) (v := ?_) rfl (by kernel_rfl) (by kernel_rfl) (by kernel_rfl) (by kernel_rfl) (by decide) (fun _ _ _ h => h) (by rfl) ?_ (by assumption) ?_
  rotate_left
  · (intro w hSw; (try dsimp only at hSw); go_simp) <;> with_reducible rfl
  try simp only [Act.put, List.getElem_toArray, List.getElem_cons_zero, List.getElem_cons_succ, List.setIfInBounds_toArray, List.set_cons_zero, List.set_cons_succ]
  refine wpAnyZ_take (i := 5) (v := ?_) rfl (by kernel_rfl) (by kernel_rfl) (by kernel_rfl) (by kernel_rfl) (by decide) (fun _ _ _ h => h) (by rfl) ?_ (by assumption) ?_
  rotate_left
  · (intro w hSw; (try dsimp only at hSw); go_simp) <;> with_reducible rfl
  try simp only [Act.put, List.getElem_toArray, List.getElem_cons_zero, List.getElem_cons_succ, List.setIfInBounds_toArray, List.set_cons_zero, List.set_cons_succ]
  refine wpAnyZ_take (i := 6) (v := ?_) rfl (by kernel_rfl) (by kernel_rfl) (by kernel_rfl) (by kernel_rfl) (by decide) (fun _ _ _ h => h) (by rfl) ?_ (by assumption) ?_
  rotate_left
  · (intro w hSw; (try dsimp only at hSw); go_simp) <;> with_reducible rfl
  try simp only [Act.put, List.getElem_toArray, List.getElem_cons_zero, List.getElem_cons_succ, List.setIfInBounds_toArray, List.set_cons_zero, List.set_cons_succ]
  refine wpAnyZ_take (i := 7) (v := ?_) rfl (by kernel_rfl) (by kernel_rfl) (by kernel_rfl) (by kernel_rfl) (by decide) (fun _ _ _ h => h) (by rfl) ?_ (by assumption) ?_
  rotate_left
  · (intro w hSw; (try dsimp only at hSw); go_simp) <;> with_reducible rfl
  try simp only [Act.put, List.getElem_toArray, List.getElem_cons_zero, List.getElem_cons_succ, List.setIfInBounds_toArray, List.set_cons_zero, List.set_cons_succ]
  refine wpAnyZ_step (i := 3) rfl (by kernel_rfl) (fun K hK => ?_)
  go_simp
  refine HC1.out.mono ?_
  rintro e w3 ⟨rfl, g3, v3, Ds3, to3⟩
  have hl0 := HL0.out
  have hwz := HWZ.out
  have z3 : W.heap.size ≤ w3.heap.size := g3.size
  have rt3 := (D1.out.rt.below (below_drawn' (Below.refl _ _) (m := 1))).growp (D1.out.tt.below (below_drawn' (Below.refl _ _) (m := 1))) g3
  have hbx3 : w3.heap[w.heap.size]? = _ := (g3.block w.heap.size (show w.heap.size < W.heap.size by omega) (fun e => by have e : w.heap.size = p := Option.some.inj e; omega)).trans (show W.drew.heap[w.heap.size]? = _ from HBX.out)
  have B3 := Lib.hid (show Below base w w3 from below_trans HB1.out ⟨g3.os, g3.tape, g3.output, g3.size, fun z hz => g3.block z (show z < W.heap.size by omega) (fun e => by have e : z = p := Option.some.inj e; omega)⟩)
  have hc3 : w3.cell? ⟨w.heap.size, 1, none⟩ = some (.int .i64 n) := cellU hbx3 1
  have HCD := Lib.hid (code_any R.1 w3 (HE.out w3 B3.out))
  refine hK.out _ _ (fun _ => hc3) ?_
  clear hK K
  try simp only [Act.put, List.getElem_toArray, List.getElem_cons_zero, List.getElem_cons_succ, List.setIfInBounds_toArray, List.set_cons_zero, List.set_cons_succ]
  refine wpAnyZ_step (i := 4) rfl (by kernel_rfl) (fun K hK => ?_)
  go_simp
  refine HCD.out.mono ?_
  rintro e w4 ⟨rfl, b4⟩
  have T4 := to3.below b4
  have R4 := Lib.hid (rt3.below b4)
  have B4 := Lib.hid (below_trans B3.out (b4.mono (by omega)))
  have hc4 := below_cell b4 hc3
  have HC2 := Lib.hid (rcompact_any base q i t u es Fs n w4 R4.out h0 (by omega) (by omega) (by have := b4.size; omega))
  rw [← hR.out] at HC2
  have HT4 := Lib.hid T4
  have hbx4 := (b4.block w.heap.size (by omega)).trans hbx3
  have HBX4 := Lib.hid hbx4
  have HZ4 := Lib.hid b4.size
  refine hK.out _ _ (fun _ => hc4) ?_
  clear hK K
  try simp only [Act.put, List.getElem_toArray, List.getElem_cons_zero, List.getElem_cons_succ, List.setIfInBounds_toArray, List.set_cons_zero, List.set_cons_succ]
  refine wpAnyZ_step (i := 8) rfl (by kernel_rfl) (fun K hK => ?_)
  go_simp
  refine HC2.out.mono ?_
  rintro e w5 ⟨rfl, g5, u5, Fs5, rt5⟩
  have T5 := Lib.hid (HT4.out.growq R4.out g5)
  have R5 := Lib.hid rt5
  have B5 := Lib.hid (show Below base w w5 from below_trans B4.out ⟨g5.os, g5.tape, g5.output, g5.size, fun z hz => g5.block z (by have := HZ4.out; omega) (fun e => by have e : z = q := Option.some.inj e; omega)⟩)
  have hbx5 := (g5.block w.heap.size (by have := HZ4.out; omega) (fun e => by have e : w.heap.size = q := Option.some.inj e; omega)).trans HBX4.out
  have hc5 : w5.cell? ⟨w.heap.size, 1, none⟩ = some (.int .i64 n) := cellU hbx5 1
  have hcc : ((R.1 : Int) == (R.1 : Int)) = true := by simp
  refine hK.out _ _ (fun _ => hc5) ?_
  clear hK K
  try simp only [Act.put, List.getElem_toArray, List.getElem_cons_zero, List.getElem_cons_succ, List.setIfInBounds_toArray, List.set_cons_zero, List.set_cons_succ]
  refine wpAnyZ_take (i := 9) (v := ?_) rfl (by kernel_rfl) (by kernel_rfl) (by kernel_rfl) (by kernel_rfl) (by decide) (fun _ _ _ h => h) (by rfl) ?_ (by assumption) ?_
  rotate_left
  · (intro w hSw; (try dsimp only at hSw); go_simp) <;> with_reducible rfl
  try simp only [Act.put, List.getElem_toArray, List.getElem_cons_zero, List.getElem_cons_succ, List.setIfInBounds_toArray, List.set_cons_zero, List.set_cons_succ]
  refine wpAnyZ_step (i := 10) rfl (by kernel_rfl) (fun K hK => ?_)
  go_simp
  refine hK.out _ _ (fun h => absurd rfl h) ?_
  clear hK K
  try simp only [Act.put, List.getElem_toArray, List.getElem_cons_zero, List.getElem_cons_succ, List.setIfInBounds_toArray, List.set_cons_zero, List.set_cons_succ]
  refine wpAnyZ_done (by kernel_rfl) ?_
  refine NoPanic.normal ?_
  have hkn := compact_keeps (x := n) D1.out.fo h0
  rw [← hR.out] at hkn
  have HKN := Lib.hid hkn
  clear hkn
  go_wp2_with fail
  go_ret
  exact ⟨rfl, _, _, _, _, _, _, _, ⟨T5.out, R5.out, HKN.out.1, HKN.out.2.1⟩, B5.out, .inl (by have := HKN.out.2.2; omega)⟩
theorem act_any (base p q : Nat) (i t : Int) (v u : Value) (es : List Ent) (Ds Fs : List Value) (d n m k : Int) (B : Option Addr) (cb : Nat) (bs : List UInt8) (L : Option Addr) (cl : Nat) (ls : List Ent) (Ls : List Value) (w : World) (D : Duo w base p q i t v u es Ds Fs) (hb : base ≤ w.heap.size) (hE : ErrT w) (hE0 : 0 < base)
    (hrB : ∀ w', Below base w w' → RD w' (.slice B bs.length cb) bs) (hrL : ∀ w', Below base w w' → RE w' L ls Ls) (hlc : ls.length ≤ cl) (hcl : ls.length * 48 ≤ 140737488351232) (wn : (Lit.int .i64 n).wf = true) (hi : i + es.length ≤ 4100000000000) :
    Calls Tryd.prog 27 #[.pointer (some ⟨p, 0, none⟩), .pointer (some ⟨q, 0, none⟩), .agg #[.int .i64 d, .int .i64 n, .int .i64 m, .int .i64 k, .slice B bs.length cb, .slice L ls.length cl]] w (ActP base p q i es w) := by
  by_cases h0 : d = 0
  · by_cases hx : m < endT t es ∨ k < 0
    · exact act_addbad base p q i t v u es Ds Fs d n m k B cb bs L cl ls Ls w D hb hE hE0 hrB hrL hlc hcl wn hi h0 hx
    · exact act_add base p q i t v u es Ds Fs d n m k B cb bs L cl ls Ls w D hb hE hE0 hrB hrL hlc hcl wn hi h0 (by omega) (by omega)
  · by_cases h1 : d = 1
    · exact act_merge base p q i t v u es Ds Fs d n m k B cb bs L cl ls Ls w D hb hE hE0 hrB hrL hlc hcl wn hi h1
    · exact act_compact base p q i t v u es Ds Fs d n m k B cb bs L cl ls Ls w D hb hE hE0 hrB hrL hlc hcl wn hi h0 h1
end Go.Proofs.YtkjpfjgaabbggaaDoor
