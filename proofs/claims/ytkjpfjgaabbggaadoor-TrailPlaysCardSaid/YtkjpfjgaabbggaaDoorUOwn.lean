/- muntinlaw21.own, muntinlaw19.Kept: the contracts. -/
import Derived.Test.YtkjpfjgaabbggaaDoorULent
import Derived.BigQuiet
set_option linter.unusedVariables false
set_option linter.unusedSimpArgs false
namespace Go.Proofs.YtkjpfjgaabbggaaDoor
open Go.RowKit

theorem own1 {D : Value} {k : Nat} (h : OwnB [D] k) : D.ownBlock = some k := by
  obtain ⟨v, hv, e⟩ := h
  rw [List.mem_singleton.1 hv] at e
  exact e
theorem owned1 {w : World} {D : Value} (h : Room w D False 0) :
    Calls Tryd.prog 43 #[.slice (some ⟨w.heap.size, 0, none⟩) 1 1] (w.alloc (.cells #[D] 42)) fun e w' => e = .returned (.bool true) ∧ Out (OwnB [D]) (w.alloc (.cells #[D] 42)) w' ∧ Room w' D False 0 :=
  (owned_lit [D] #[D] 1 w rfl rfl (by omega) (fun v hv => by rw [List.mem_singleton.1 hv]; exact h) (by simp)).mono fun _ _ h => ⟨h.1, h.2.1, (h.2.2 0 (by simp)).zero (by simp)⟩
theorem room_ne {w : World} {base n g : Nat} {D : Value} {xs : List Value} {m : Prop} {b : Int} {c : Nat} (h : Room w D m b) (hr : w.ownsRow base 44 4 (.slice (some ⟨g, 0, none⟩) n c) n xs) : D.ownBlock ≠ some g := by
  intro hk
  rcases h with rfl | ⟨g', n', cap, cur, rfl, hg, _⟩
  · cases hk
  · have hk : g' = g := Option.some.inj hk
    subst hk
    rcases hr.2 with ⟨e, _⟩ | ⟨g2, cap2, cur2, e, _, hg2, _⟩
    · cases e
    · cases e
      rw [hg] at hg2
      injection hg2 with h1
      injection h1 with _ h3
      exact absurd h3 (by decide)
theorem own4 {w3 : World} {base g n c i : Nat} {xs : List Value} (h : w3.ownsRow base 44 4 (.slice (some ⟨g, 0, none⟩) n c) n xs) (hi : i < n) (u0 u1 u2 u3 : Value) :
    ((((w3.setCell ⟨g, i * 4, none⟩ u0).setCell ⟨g, i * 4 + 1, none⟩ u1).setCell ⟨g, i * 4 + 2, none⟩ u2).setCell ⟨g, i * 4 + 3, none⟩ u3).ownsRow base 44 4 (.slice (some ⟨g, 0, none⟩) n c) n ((((xs.set (i * 4) u0).set (i * 4 + 1) u1).set (i * 4 + 2) u2).set (i * 4 + 3) u3) :=
  own_set (own_set (own_set (own_set h _ u0 (by omega)) _ u1 (by omega)) _ u2 (by omega)) _ u3 (by omega)
theorem get4 {xs : List Value} {i k : Nat} (u0 u1 u2 u3 : Value) (hk : i < k) : ((((xs.set (i * 4) u0).set (i * 4 + 1) u1).set (i * 4 + 2) u2).set (i * 4 + 3) u3)[k * 4 + 3]? = xs[k * 4 + 3]? := by
  rw [List.getElem?_set_ne (by omega), List.getElem?_set_ne (by omega), List.getElem?_set_ne (by omega), List.getElem?_set_ne (by omega)]
/-- two of the data that share a block have its capacity -/
def CapEq (Ds : List Value) : Prop := ∀ a ∈ Ds, ∀ b ∈ Ds, ∀ g n c n' c', a = .slice (some ⟨g, 0, none⟩) n c → b = .slice (some ⟨g, 0, none⟩) n' c' → c = c'
theorem OE.capEq {w : World} {base : Nat} {v : Value} {es : List Ent} {Ds : List Value} (h : OE w base v es Ds) : CapEq Ds := by
  intro a ha b hb g n c n' c' ea eb
  obtain ⟨i, hi, rfl⟩ := List.getElem_of_mem ha
  obtain ⟨j, hj, rfl⟩ := List.getElem_of_mem hb
  have o1 := (h.2.2 i (by rw [← h.1]; exact hi) hi).1.2
  have o2 := (h.2.2 j (by rw [← h.1]; exact hj) hj).1.2
  rw [ea] at o1
  rw [eb] at o2
  rcases o1 with ⟨e, _⟩ | ⟨g1, c1, cur1, e1, _, h1, _, _, z1, _⟩
  · cases e
  rcases o2 with ⟨e, _⟩ | ⟨g2, c2, cur2, e2, _, h2, _, _, z2, _⟩
  · cases e
  cases e1
  cases e2
  rw [h1] at h2
  injection h2 with h3
  injection h3 with h4
  rw [h4] at z1
  omega
theorem room_after {w w' : World} {D D' : Value} {Ds : List Value} (hc : CapEq Ds) (h1 : D ∈ Ds) (h2 : D' ∈ Ds) (hr : Room w D' False 0) (o : Out (OwnB [D]) w w') (ho : Room w' D False 0) : Room w' D' False 0 := by
  by_cases hs : ∃ k, D'.ownBlock = some k ∧ D.ownBlock = some k
  · obtain ⟨k, e1, e2⟩ := hs
    rcases hr with rfl | ⟨g', n', cap', cur', rfl, hg', r1', r2', r3', _⟩
    · cases e1
    · rcases ho with rfl | ⟨g, n, cap, cur, rfl, hg, r1, r2, r3, _⟩
      · cases e2
      · have e1 : g' = k := Option.some.inj e1
        have e2 : g = k := Option.some.inj e2
        subst e1
        subst e2
        have := hc _ h1 _ h2 _ _ _ _ _ rfl rfl
        exact .inr ⟨g, n', cap', cur, rfl, hg, r1', r2', by omega, fun h => h.elim⟩
  · exact hr.step (fun k hk => o.block k fun h => hs ⟨k, hk, own1 h⟩) id
theorem Frm.outD {S : Nat → Prop} {w a b : World} {D : Value} (h : Frm S w a) (o : Out (OwnB [D]) a b) (hs : ∀ k, OwnB [D] k → S k) : Frm S w b :=
  ⟨o.os.trans h.os, o.tape.trans h.tape, o.output.trans h.output, by rw [o.size]; exact h.size, fun k hk hk2 => (o.block k fun hc => hk2 (hs k hc)).trans (h.block k hk hk2)⟩
theorem below_transB {B : Nat} {a b c : World} (h : Below B a b) (k : Below b.heap.size b c) (hB : B ≤ a.heap.size) : Below B a c := below_then h (Nat.le_trans hB h.size) k
theorem room_lt {w : World} {v : Value} {m : Prop} {b : Int} (h : Room w v m b) : ∀ k, v.ownBlock = some k → k < w.heap.size := h.lt
/-- the loop over rows that their owner writes over -/
structure WL (w : World) (base : Nat) (V : Option Addr) (n c : Nat) (Ds : List Value) (wr : World) (i : Nat) (xs : List Value) : Prop where
  own : wr.ownsRow base 44 4 (.slice V n c) n xs
  rest : ∀ k (h : k < Ds.length), i ≤ k → xs[k * 4 + 3]? = some Ds[k]
  rooms : ∀ k (h : k < Ds.length), i ≤ k → Room wr Ds[k] False 0
  bel : Frm (OwnT (.slice V n c) Ds) w wr

set_option maxRecDepth 100000 in
set_option maxHeartbeats 4000000 in
theorem own_any (base : Nat) (V : Option Addr) (n c : Nat) (es : List Ent) (Ds : List Value) (w : World) (h : OE w base (.slice V n c) es Ds) (hl : es.length = n) (hn : n ≤ 10000000000000) (hb : base ≤ w.heap.size) :
    Calls Tryd.prog 46 #[.slice V n c] w fun e w' => e = .returned (.tuple #[]) ∧ Frm (OwnT (.slice V n c) Ds) w w' := by
  have HCE := Lib.hid h.capEq
  have HDL := Lib.hid (show Ds.length = n by rw [h.1]; exact hl)
  have HB0 := Lib.hid (show ∀ D ∈ Ds, ∀ k, D.ownBlock = some k → base ≤ k from fun D hD k hk => (h.dlt D hD k hk).1)
  have H0 := Lib.hid (show WL w base V n c Ds w 0 (ecells es Ds) from ⟨by have := h.2.1; rwa [hl] at this, fun k hk _ => (ecells_get h.1 k (by rw [← h.1]; exact hk) hk).2.2.2, fun k hk _ => Room.own (h.2.2 k (by rw [← h.1]; exact hk) hk).1, Frm.refl _ _⟩)
  clear h hl
  go_enter Tryd.func46, Tryd.ntmps46
  go_wp2_with fail
  go_loopg [2] n (fun mm ti wr => ∃ (i : Nat) (xs : List Value), mm = n - i ∧ i ≤ n ∧ ti = .int .i64 i ∧ WL w base V n c Ds wr i xs)
  case atStart => exact ⟨0, _, by omega, by omega, rfl, H0.out⟩
  case round =>
    obtain ⟨i, xs, hm, hi, rfl, O⟩ := hrel
    have HO := Lib.hid O
    clear O H0
    by_cases hin : i < n
    · have hin1 : (i : Int) < (n : Int) := by omega
      have hil : i < Ds.length := by rw [HDL.out]; exact hin
      obtain ⟨g, cap, hve, hcap, hg, hgl⟩ := own_head HO.out.own (by omega)
      injection hve with hv1 _ hv3
      subst hv1
      subst hv3
      obtain ⟨D, hD⟩ : ∃ D, Hid (D = Ds[i]) := ⟨_, Lib.hid rfl⟩
      have c3 : wr.cell? ⟨g, i * 4 + 3, none⟩ = some D := by rw [hD.out]; exact (own_cell HO.out.own _ _ (HO.out.rest i hil (Nat.le_refl _))).1
      have hDm := Lib.hid (show D ∈ Ds by rw [hD.out]; exact List.getElem_mem hil)
      have HRM := Lib.hid (show Room wr D False 0 by rw [hD.out]; exact HO.out.rooms i hil (Nat.le_refl _))
      have hbk : ∃ cur, wr.heap[g]? = some (.cells cur 44 (0, 0)) ∧ cur.size = c * 4 := by
        rcases HO.out.own.2 with ⟨e, _⟩ | ⟨g2, cap2, cur2, e, _, hg2, _, _, z2, _⟩
        · cases e
        · cases e; exact ⟨cur2, hg2, z2⟩
      obtain ⟨cur, hbk, h3⟩ := hbk
      obtain ⟨DA, dn, dc, hDs⟩ : ∃ A n c, D = .slice A n c := by
        rcases HRM.out with e | ⟨g2, n2, cap2, _, e, _⟩
        · exact ⟨_, _, _, e⟩
        · exact ⟨_, _, _, e⟩
      subst hDs
      have HOW := Lib.hid (owned1 HRM.out)
      have HBK := Lib.hid hbk
      have HCZ := Lib.hid h3
      clear hbk h3
      go_wp2_with fail
      refine HOW.out.mono ?_
      rintro e w3 ⟨rfl, o3, hr3⟩
      have bA := below_alloc wr (.cells #[.slice DA dn dc] 42)
      have hgz := (Array.getElem?_eq_some_iff.1 HBK.out).1
      have hno : ¬ OwnB [.slice DA dn dc] g := fun h => room_ne HRM.out HO.out.own (own1 h)
      have hk0 : w3.heap[g]? = some (.cells cur 44 (0, 0)) := (o3.block g hno).trans ((bA.block g hgz).trans HBK.out)
      have B3 := Lib.hid (show Frm (OwnT (.slice (some ⟨g, 0, none⟩) n c) Ds) w w3 from (HO.out.bel.trans (Frm.of_below bA)).outD o3 fun k h => .inr ⟨_, hDm.out, own1 h⟩)
      have O3 := Lib.hid (show w3.ownsRow base 44 4 (.slice (some ⟨g, 0, none⟩) n c) n xs from own_step HO.out.own fun k hk => by
        have hk : g = k := Option.some.inj hk
        subst hk
        exact hk0.trans HBK.out.symm)
      have R3 := Lib.hid (show ∀ k (h : k < Ds.length), i + 1 ≤ k → Room w3 Ds[k] False 0 from fun k h hik =>
        room_after HCE.out hDm.out (List.getElem_mem h) ((HO.out.rooms k h (by omega)).step (fun j hj => bA.block j (room_lt (HO.out.rooms k h (by omega)) j hj)) id) o3 hr3)
      have hcz := HCZ.out
      have hk1 := heap_setCell_same _ g (i * 4) _ _ (.int .i64 (-7)) hk0
      have hk2 := heap_setCell_same _ g (i * 4 + 1) _ _ (.int .i64 0) hk1
      have hk3 := heap_setCell_same _ g (i * 4 + 2) _ _ (.int .i64 0) hk2
      obtain ⟨u0, hu0⟩ : ∃ u, w3.cell? ⟨g, i * 4, none⟩ = some u := by rw [cellU hk0, Array.getElem?_eq_getElem (by omega)]; exact ⟨_, rfl⟩
      obtain ⟨u1, hu1⟩ : ∃ u, (w3.setCell ⟨g, i * 4, none⟩ (.int .i64 (-7))).cell? ⟨g, i * 4 + 1, none⟩ = some u := by rw [cellU hk1, Array.getElem?_eq_getElem (by simp; omega)]; exact ⟨_, rfl⟩
      obtain ⟨u2, hu2⟩ : ∃ u, ((w3.setCell ⟨g, i * 4, none⟩ (.int .i64 (-7))).setCell ⟨g, i * 4 + 1, none⟩ (.int .i64 0)).cell? ⟨g, i * 4 + 2, none⟩ = some u := by rw [cellU hk2, Array.getElem?_eq_getElem (by simp; omega)]; exact ⟨_, rfl⟩
      obtain ⟨u3, hu3⟩ : ∃ u, (((w3.setCell ⟨g, i * 4, none⟩ (.int .i64 (-7))).setCell ⟨g, i * 4 + 1, none⟩ (.int .i64 0)).setCell ⟨g, i * 4 + 2, none⟩ (.int .i64 0)).cell? ⟨g, i * 4 + 3, none⟩ = some u := by rw [cellU hk3, Array.getElem?_eq_getElem (by simp; omega)]; exact ⟨_, rfl⟩
      have hz0 := frozen_of hk0 (i * 4)
      have hz1 := frozen_of hk1 (i * 4 + 1)
      have hz2 := frozen_of hk2 (i * 4 + 2)
      have hz3 := frozen_of hk3 (i * 4 + 3)
      have HN2 := Lib.hid (show WL w base (some ⟨g, 0, none⟩) n c Ds ((((w3.setCell ⟨g, i * 4, none⟩ (.int .i64 (-7))).setCell ⟨g, i * 4 + 1, none⟩ (.int .i64 0)).setCell ⟨g, i * 4 + 2, none⟩ (.int .i64 0)).setCell ⟨g, i * 4 + 3, none⟩ (.slice none 0 0)) (i + 1) ((((xs.set (i * 4) (.int .i64 (-7))).set (i * 4 + 1) (.int .i64 0)).set (i * 4 + 2) (.int .i64 0)).set (i * 4 + 3) (.slice none 0 0)) from by
        refine ⟨own4 O3.out hin _ _ _ _, fun k h hik => by rw [get4 _ _ _ _ (by omega)]; exact HO.out.rest k h (by omega), fun k h hik => ?_, ?_⟩
        · refine (R3.out k h hik).step (fun j hj => ?_) id
          have hne : j ≠ g := fun e => room_ne (R3.out k h hik) O3.out (by rw [hj, e])
          rw [heap_setCell_other _ _ _ _ hne, heap_setCell_other _ _ _ _ hne, heap_setCell_other _ _ _ _ hne, heap_setCell_other _ _ _ _ hne]
        · have hOg : OwnT (.slice (some ⟨g, 0, none⟩) n c) Ds g := .inl rfl
          exact Frm.setCell (Frm.setCell (Frm.setCell (Frm.setCell B3.out ⟨g, i * 4, none⟩ _ (.inl hOg)) ⟨g, i * 4 + 1, none⟩ _ (.inl hOg)) ⟨g, i * 4 + 2, none⟩ _ (.inl hOg)) ⟨g, i * 4 + 3, none⟩ _ (.inl hOg))
      clear o3 hk0 hk1 hk2 hk3 hno bA hr3 hcz
      go_wp2_with fail
      go_roundg (n - (i + 1))
      case measure => omega
      case rel => exact ⟨i + 1, _, by omega, by omega, by go_num, HN2.out⟩
    · obtain rfl : i = n := by omega
      have hin1 : ¬ (i : Int) < (i : Int) := by omega
      go_wp2_with fail
      refine bodyPost_end (results_none rfl _ _ _) rfl ?_
      exact ⟨rfl, HO.out.bel⟩
end Go.Proofs.YtkjpfjgaabbggaaDoor
