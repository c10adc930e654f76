/- muntinlaw16.tells: two tables that hold the same tell the same. -/
import Derived.Test.YtbdokphemdkhmaaDoorSessionAgain
import Derived.Test.YtbdokphemdkhmaaDoorSRef5
import Derived.Test.YtbdokphemdkhmaaDoorSOwnedLit
set_option linter.unusedVariables false
set_option linter.unusedSimpArgs false
namespace Go.Proofs.YtbdokphemdkhmaaDoor
open Go.RowKit

theorem core_ris {a b : List SV} (h : a.map core = b.map core) (hr : risS a) : risS b := by
  have h1 : (a.map core).Pairwise (fun x y => x.1 < y.1) := List.pairwise_map.2 hr
  rw [h] at h1
  exact (List.pairwise_map (f := core) (R := fun x y => x.1 < y.1)).1 h1
/-- the table and the document's, side by side -/
structure Two (w : World) (base p b q : Nat) (v : Value) (clock : Int) (ss ls : List SV) : Prop where
  tb : TB w base p b clock ss
  rt : RT w base q v clock ls
  same : ss.map core = ls.map core
  inv : Inv clock ss
theorem Two.invr {w : World} {base p b q : Nat} {v : Value} {clock : Int} {ss ls : List SV} (h : Two w base p b q v clock ss ls) : Inv clock ls := h.inv.same (core_ris h.same h.inv.ris) h.same
theorem Two.len {w : World} {base p b q : Nat} {v : Value} {clock : Int} {ss ls : List SV} (h : Two w base p b q v clock ss ls) : ss.length = ls.length := core_len h.same
theorem Two.below {w w' : World} {base p b q : Nat} {v : Value} {clock : Int} {ss ls : List SV} (h : Two w base p b q v clock ss ls) (hb : Below w.heap.size w w') : Two w' base p b q v clock ss ls :=
  ⟨h.tb.below hb, h.rt.below hb, h.same, h.inv⟩
/-- the loop of tells, under way -/
structure TL (w : World) (A : Option Addr) (n c : Nat) (ls : List SV) (wr : World) (i : Nat) (m : List SV) : Prop where
  len : m.length = n
  own : wr.ownsRow w.heap.size 44 4 (.slice A n c) n (scells m)
  rest : ∀ k (h : k < ls.length), i ≤ k → m[k]? = some ls[k]
  ods : ∀ k (h : k < ls.length), i ≤ k → OD wr w.heap.size ls[k].D ls[k].r
  bel : Below w.heap.size w wr
theorem owned1 {w : World} {base : Nat} {D : Value} {d : List UInt8} (h : OD w base D d) :
    Calls Tryd.prog 31 #[.slice (some ⟨w.heap.size, 0, none⟩) 1 1] (w.alloc (.cells #[D] 28)) fun e w' => e = .returned (.bool true) ∧ Out (OwnB [D]) (w.alloc (.cells #[D] 28)) w' :=
  (owned_lit [D] #[D] 1 w rfl rfl (by omega) (fun v hv => by rw [List.mem_singleton.1 hv]; exact Room.own h.1) (by simp)).mono fun _ _ h => ⟨h.1, h.2.1⟩
theorem own1 {D : Value} {k : Nat} (h : OwnB [D] k) : D.ownBlock = some k := by
  obtain ⟨v, hv, e⟩ := h
  rw [List.mem_singleton.1 hv] at e
  exact e

set_option maxRecDepth 100000 in
set_option maxHeartbeats 8000000 in
theorem tells_any (base p b q : Nat) (v : Value) (clock : Int) (ss ls : List SV) (w : World) (t : Two w base p b q v clock ss ls) :
    Calls Tryd.prog 19 #[.pointer (some ⟨p, 0, none⟩), .pointer (some ⟨q, 0, none⟩)] w fun e w' => e = .returned (.bool true) ∧ Below w.heap.size w w' := by
  have hlen := t.len
  have HI := Lib.hid t.inv.len
  have T := Lib.hid t
  have HL := Lib.hid (list_any base p b clock ss w t.tb (by have := t.inv.len; omega))
  obtain ⟨n, hn⟩ : ∃ n, Hid (ls.length = n) := ⟨_, Lib.hid rfl⟩
  have HN := Lib.hid (show ss.length = n by rw [hlen]; exact hn.out)
  obtain ⟨AR, cR, hv, hRS, -⟩ := t.rt.shape
  subst hv
  rw [hn.out] at T
  have HRS := Lib.hid hRS
  clear t hlen hRS
  go_enter Tryd.func19, Tryd.ntmps19
  go_wp2_with fail
  refine HL.out.mono ?_
  rintro e w1 ⟨v1, l1, rfl, lo, b1⟩
  obtain ⟨A1, c1, rfl, -⟩ := lo.shape
  rw [HN.out] at lo ⊢
  have hl1 : l1.length = n := by rw [lo.len]; exact HN.out
  have x0 : w1.cell? ⟨q, 0, none⟩ = some (.slice AR n cR) := (T.out.rt.below b1).c0
  have HSM := Lib.hid (same_any A1 AR n n c1 cR l1 ls w1 (lo.rs hl1) (HRS.out.below b1) hl1 hn.out (by rw [lo.same]; exact T.out.same) (by have := HI.out; have := HN.out; omega))
  have HB1 := Lib.hid b1
  have HLO := Lib.hid lo
  have HL1 := Lib.hid hl1
  clear b1 lo hl1
  go_wp2_with fail
  refine HSM.out.mono ?_
  rintro e w2 ⟨rfl, qd, rfl⟩
  have H0 := Lib.hid (show TL w A1 n c1 l1 (w1.drewN qd) 0 l1 from ⟨HL1.out, own_step (w := w1) (by have h := HLO.out.own; rw [HL1.out] at h; exact h) (fun _ _ => rfl), fun k h _ => List.getElem?_eq_getElem h, fun k h _ => (HLO.out.ods _ (List.getElem_mem h)).step (fun _ _ => rfl), below_drawn HB1.out qd⟩)
  clear x0 HSM
  go_wp2_with fail
  go_loopg [7] n (fun mm ti wr => ∃ (i : Nat) (m : List SV), mm = n - i ∧ i ≤ n ∧ ti = .int .i64 i ∧ TL w A1 n c1 l1 wr i m)
  case atStart => exact ⟨0, _, by omega, by omega, rfl, H0.out⟩
  case round =>
    obtain ⟨i, m, hm, hi, rfl, O⟩ := hrel
    have HO := Lib.hid O
    clear O H0
    by_cases hin : i < n
    · have hin1 : (i : Int) < (n : Int) := by omega
      have hn8 : n ≤ 8 := by have := HI.out; have := HN.out; omega
      have hil : i < l1.length := by rw [HL1.out]; exact hin
      have him : i < m.length := by rw [HO.out.len]; exact hin
      obtain ⟨g, c', cur, hve, hg, hbk, hlc, hcm, h3, h4⟩ := row_at HO.out.own HO.out.len (by omega)
      injection hve with hv1 _ hv3
      subst hv1
      subst hv3
      obtain ⟨y, hy⟩ : ∃ y, Hid (y = l1[i]) := ⟨_, Lib.hid rfl⟩
      have hmi : m[i] = y := by
        have h := HO.out.rest i hil (Nat.le_refl _)
        rw [List.getElem?_eq_getElem him] at h
        rw [hy.out]
        exact Option.some.inj h
      have c3 : wr.cell? ⟨g, i * 4 + 3, none⟩ = some y.D := by
        rw [← hmi]
        exact row_cells HO.out.own HO.out.len _ _ (scells_get m i him).2.2.2
      have HOD := Lib.hid (show OD wr w.heap.size y.D y.r by rw [hy.out]; exact HO.out.ods i hil (Nat.le_refl _))
      obtain ⟨D, hD⟩ : ∃ D, Hid (D = y.D) := ⟨_, Lib.hid rfl⟩
      rw [← hD.out] at c3 HOD
      have HOW := Lib.hid (owned1 HOD.out)
      have HBK := Lib.hid hbk
      have HH := Lib.hid (And.intro h3 h4)
      obtain ⟨DA, dn, dc, hDs⟩ : ∃ A n c, D = .slice A n c := by obtain ⟨a, c, e⟩ := HOD.out.one; exact ⟨_, _, _, e⟩
      subst hDs
      clear hbk hmi h3 h4
      go_wp2_with fail
      refine HOW.out.mono ?_
      rintro e w3 ⟨rfl, o3⟩
      have bA := below_alloc wr (.cells #[.slice DA dn dc] 28)
      have hgz := (Array.getElem?_eq_some_iff.1 HBK.out).1
      have hno : ¬ OwnB [.slice DA dn dc] g := fun h => row_types HOD.out.1 HO.out.own (by decide) g (own1 h) rfl
      have hk0 : w3.heap[g]? = some (.cells cur 44 (0, 0)) := (o3.block g hno).trans ((bA.block g hgz).trans HBK.out)
      have B3 := Lib.hid (show Below w.heap.size w w3 from o3.below (below_then HO.out.bel HO.out.bel.size bA) fun k h => (HOD.out.1.lt k (own1 h)).1)
      have O3 := Lib.hid (show w3.ownsRow w.heap.size 44 4 (.slice (some ⟨g, 0, none⟩) n c1) n (scells m) from own_step HO.out.own fun k hk => by
        have hk : g = k := Option.some.inj hk
        subst hk
        exact hk0.trans HBK.out.symm)
      have D3 := Lib.hid (show ∀ k (h : k < l1.length), i + 1 ≤ k → OD w3 w.heap.size l1[k].D l1[k].r from fun k h hik => by
        have od := HO.out.ods k h (by omega)
        refine od.step fun j hj => ?_
        have hjz := (od.1.lt j hj).2
        refine (o3.block j fun hc => ?_).trans (bA.block j hjz)
        have e := own1 hc
        rw [hD.out, hy.out] at e
        exact (List.pairwise_iff_getElem.1 HLO.out.apart i k hil h (by omega)) j e hj)
      have hk1 := heap_setCell_same _ g (i * 4) _ _ (.int .i64 (-7)) hk0
      have hk2 := heap_setCell_same _ g (i * 4 + 1) _ _ (.int .i64 0) hk1
      have hk3 := heap_setCell_same _ g (i * 4 + 2) _ _ (.int .i64 0) hk2
      have hcz : cur.size = c1 * 4 := HH.out.1
      obtain ⟨u0, hu0⟩ : ∃ u, w3.cell? ⟨g, i * 4, none⟩ = some u := by rw [cell_of hk0, Array.getElem?_eq_getElem (by omega)]; exact ⟨_, rfl⟩
      obtain ⟨u1, hu1⟩ : ∃ u, (w3.setCell ⟨g, i * 4, none⟩ (.int .i64 (-7))).cell? ⟨g, i * 4 + 1, none⟩ = some u := by rw [cell_of hk1, Array.getElem?_eq_getElem (by simp; omega)]; exact ⟨_, rfl⟩
      obtain ⟨u2, hu2⟩ : ∃ u, ((w3.setCell ⟨g, i * 4, none⟩ (.int .i64 (-7))).setCell ⟨g, i * 4 + 1, none⟩ (.int .i64 0)).cell? ⟨g, i * 4 + 2, none⟩ = some u := by rw [cell_of hk2, Array.getElem?_eq_getElem (by simp; omega)]; exact ⟨_, rfl⟩
      obtain ⟨u3, hu3⟩ : ∃ u, (((w3.setCell ⟨g, i * 4, none⟩ (.int .i64 (-7))).setCell ⟨g, i * 4 + 1, none⟩ (.int .i64 0)).setCell ⟨g, i * 4 + 2, none⟩ (.int .i64 0)).cell? ⟨g, i * 4 + 3, none⟩ = some u := by rw [cell_of hk3, Array.getElem?_eq_getElem (by simp; omega)]; exact ⟨_, rfl⟩
      have hz0 := frozen_of hk0 (i * 4)
      have hz1 := frozen_of hk1 (i * 4 + 1)
      have hz2 := frozen_of hk2 (i * 4 + 2)
      have hz3 := frozen_of hk3 (i * 4 + 3)
      have HN2 := Lib.hid (show TL w (some ⟨g, 0, none⟩) n c1 l1 ((((w3.setCell ⟨g, i * 4, none⟩ (.int .i64 (-7))).setCell ⟨g, i * 4 + 1, none⟩ (.int .i64 0)).setCell ⟨g, i * 4 + 2, none⟩ (.int .i64 0)).setCell ⟨g, i * 4 + 3, none⟩ (.slice none 0 0)) (i + 1) (m.set i ⟨-7, 0, 0, none, 0, []⟩) from by
        refine ⟨by rw [List.length_set]; exact HO.out.len, row_set O3.out HO.out.len hin ⟨-7, 0, 0, none, 0, []⟩, fun k h hik => ?_, fun k h hik => ?_, ?_⟩
        · rw [List.getElem?_set_ne (by omega)]; exact HO.out.rest k h (by omega)
        · refine (D3.out k h hik).step fun j hj => ?_
          have hne : j ≠ g := fun e => by subst e; exact row_types (D3.out k h hik).1 O3.out (by decide) _ hj rfl
          rw [heap_setCell_other _ _ _ _ hne, heap_setCell_other _ _ _ _ hne, heap_setCell_other _ _ _ _ hne, heap_setCell_other _ _ _ _ hne]
        · have hgb := (HO.out.own.lt g rfl).1
          exact (((B3.out.setCell hgb _).setCell hgb _).setCell hgb _).setCell hgb _)
      clear o3 hk0 hk1 hk2 hk3 hno bA c3
      go_wp2_with fail
      go_roundg (n - (i + 1))
      case measure => omega
      case rel =>
        exact ⟨i + 1, _, by omega, by omega, by go_num, HN2.out⟩
    · obtain rfl : i = n := by omega
      have hin1 : ¬ (i : Int) < (i : Int) := by omega
      have B2 := Lib.hid HO.out.bel
      have T2 := Lib.hid (T.out.below HO.out.bel)
      have HL2 := Lib.hid (list_any base p b clock ss wr.drew (T.out.below (below_drawn HO.out.bel 1)).tb (by have := HI.out; omega))
      have HLX := Lib.hid fun (w' : World) (h : Below wr.drew.heap.size wr.drew w') => (T.out.below (below_then (below_drawn HO.out.bel 1) (below_drawn HO.out.bel 1).size h))
      have hS0 : wr.drew.cell? ⟨q, 0, none⟩ = some (.slice AR i cR) ∧ wr.drew.cell? ⟨q, 1, none⟩ = some (.int .i64 clock) := ⟨T2.out.rt.c0, T2.out.rt.c1⟩
      clear hin
      go_wp2_with fail
      refine wp_region_Z (fun w' => w'.cell? ⟨q, 0, none⟩ = some (.slice AR i cR) ∧ w'.cell? ⟨q, 1, none⟩ = some (.int .i64 clock)) 19 (by kernel_rfl) hS0 (fun hHeld => ?_)
      refine wpAnyZ_take (i := 0) (v := ?_) rfl (by kernel_rfl) (by kernel_rfl) (by kernel_rfl) (by kernel_rfl) (by decide) (fun _ _ _ h => h) (by rfl) ?_ (by assumption) ?_
      rotate_left
      · (intro w hSw; (try dsimp only at hSw); go_simp) <;> with_reducible rfl
      try simp only [Act.put, List.getElem_toArray, List.getElem_cons_zero, List.getElem_cons_succ, List.setIfInBounds_toArray, List.set_cons_zero, List.set_cons_succ]
      refine wpAnyZ_take (i := 1) (v := ?_) rfl (by kernel_rfl) (by kernel_rfl) (by kernel_rfl) (by kernel_rfl) (by decide) (fun _ _ _ h => h) (by rfl) ?_ (by assumption) ?_
      rotate_left
      · (intro w hSw; (try dsimp only at hSw); go_simp) <;> with_reducible rfl
      try simp only [Act.put, List.getElem_toArray, List.getElem_cons_zero, List.getElem_cons_succ, List.setIfInBounds_toArray, List.set_cons_zero, List.set_cons_succ]
      refine wpAnyZ_take (i := 2) (v := ?_) rfl (by kernel_rfl) (by kernel_rfl) (by kernel_rfl) (by kernel_rfl) (by decide) (fun _ _ _ h => h) (by rfl) ?_ (by assumption) ?_
      rotate_left
      · (intro w hSw; (try dsimp only at hSw); go_simp) <;> with_reducible rfl
      try simp only [Act.put, List.getElem_toArray, List.getElem_cons_zero, List.getElem_cons_succ, List.setIfInBounds_toArray, List.set_cons_zero, List.set_cons_succ]
      refine wpAnyZ_take (i := 4) (v := ?_) rfl (by kernel_rfl) (by kernel_rfl) (by kernel_rfl) (by kernel_rfl) (by decide) (fun _ _ _ h => h) (by rfl) ?_ (by assumption) ?_
      rotate_left
      · (intro w hSw; (try dsimp only at hSw); go_simp) <;> with_reducible rfl
      try simp only [Act.put, List.getElem_toArray, List.getElem_cons_zero, List.getElem_cons_succ, List.setIfInBounds_toArray, List.set_cons_zero, List.set_cons_succ]
      refine wpAnyZ_take (i := 5) (v := ?_) rfl (by kernel_rfl) (by kernel_rfl) (by kernel_rfl) (by kernel_rfl) (by decide) (fun _ _ _ h => h) (by rfl) ?_ (by assumption) ?_
      rotate_left
      · (intro w hSw; (try dsimp only at hSw); go_simp) <;> with_reducible rfl
      try simp only [Act.put, List.getElem_toArray, List.getElem_cons_zero, List.getElem_cons_succ, List.setIfInBounds_toArray, List.set_cons_zero, List.set_cons_succ]
      refine wpAnyZ_take (i := 6) (v := ?_) rfl (by kernel_rfl) (by kernel_rfl) (by kernel_rfl) (by kernel_rfl) (by decide) (fun _ _ _ h => h) (by rfl) ?_ (by assumption) ?_
      rotate_left
      · (intro w hSw; (try dsimp only at hSw); go_simp) <;> with_reducible rfl
      try simp only [Act.put, List.getElem_toArray, List.getElem_cons_zero, List.getElem_cons_succ, List.setIfInBounds_toArray, List.set_cons_zero, List.set_cons_succ]
      refine wpAnyZ_take (i := 7) (v := ?_) rfl (by kernel_rfl) (by kernel_rfl) (by kernel_rfl) (by kernel_rfl) (by decide) (fun _ _ _ h => h) (by rfl) ?_ (by assumption) ?_
      rotate_left
      · (intro w hSw; (try dsimp only at hSw); go_simp) <;> with_reducible rfl
      try simp only [Act.put, List.getElem_toArray, List.getElem_cons_zero, List.getElem_cons_succ, List.setIfInBounds_toArray, List.set_cons_zero, List.set_cons_succ]
      refine wpAnyZ_step (i := 3) rfl (by kernel_rfl) (fun K hK => ?_)
      go_simp
      refine HL2.out.mono ?_
      rintro e w4 ⟨v4, l4, rfl, lo4, b4⟩
      obtain ⟨A4, c4, rfl, -⟩ := lo4.shape
      rw [HN.out] at lo4 ⊢
      have hl4 : l4.length = i := by rw [lo4.len]; exact HN.out
      have T4 := HLX.out _ b4
      have HSM4 := Lib.hid (same_any A4 AR i i c4 cR l4 ls w4 (lo4.rs hl4) (HRS.out.below (below_then (below_drawn B2.out 1) (below_drawn B2.out 1).size b4)) hl4 hn.out (by rw [lo4.same]; exact T.out.same) (by have := HI.out; have := HN.out; omega))
      refine hK.out _ _ (fun _ => ⟨T4.rt.c0, T4.rt.c1⟩) ?_
      clear hK K
      try simp only [Act.put, List.getElem_toArray, List.getElem_cons_zero, List.getElem_cons_succ, List.setIfInBounds_toArray, List.set_cons_zero, List.set_cons_succ]
      refine wpAnyZ_step (i := 8) rfl (by kernel_rfl) (fun K hK => ?_)
      go_simp
      refine HSM4.out.mono ?_
      rintro e w5 ⟨rfl, q5, rfl⟩
      have x5 : (w4.drewN q5).cell? ⟨q, 0, none⟩ = some (.slice AR i cR) ∧ (w4.drewN q5).cell? ⟨q, 1, none⟩ = some (.int .i64 clock) := ⟨T4.rt.c0, T4.rt.c1⟩
      refine hK.out _ _ (fun _ => x5) ?_
      clear hK K
      try simp only [Act.put, List.getElem_toArray, List.getElem_cons_zero, List.getElem_cons_succ, List.setIfInBounds_toArray, List.set_cons_zero, List.set_cons_succ]
      refine wpAnyZ_take (i := 9) (v := ?_) rfl (by kernel_rfl) (by kernel_rfl) (by kernel_rfl) (by kernel_rfl) (by decide) (fun _ _ _ h => h) (by rfl) ?_ (by assumption) ?_
      rotate_left
      · (intro w hSw; (try dsimp only at hSw); go_simp) <;> with_reducible rfl
      try simp only [Act.put, List.getElem_toArray, List.getElem_cons_zero, List.getElem_cons_succ, List.setIfInBounds_toArray, List.set_cons_zero, List.set_cons_succ]
      refine wpAnyZ_take (i := 10) (v := ?_) rfl (by kernel_rfl) (by kernel_rfl) (by kernel_rfl) (by kernel_rfl) (by decide) (fun _ _ _ h => h) (by rfl) ?_ (by assumption) ?_
      rotate_left
      · (intro w hSw; (try dsimp only at hSw); go_simp) <;> with_reducible rfl
      try simp only [Act.put, List.getElem_toArray, List.getElem_cons_zero, List.getElem_cons_succ, List.setIfInBounds_toArray, List.set_cons_zero, List.set_cons_succ]
      refine wpAnyZ_take (i := 11) (v := ?_) rfl (by kernel_rfl) (by kernel_rfl) (by kernel_rfl) (by kernel_rfl) (by decide) (fun _ _ _ h => h) (by rfl) ?_ (by assumption) ?_
      rotate_left
      · (intro w hSw; (try dsimp only at hSw); go_simp) <;> with_reducible rfl
      try simp only [Act.put, List.getElem_toArray, List.getElem_cons_zero, List.getElem_cons_succ, List.setIfInBounds_toArray, List.set_cons_zero, List.set_cons_succ]
      refine wpAnyZ_take (i := 13) (v := ?_) rfl (by kernel_rfl) (by kernel_rfl) (by kernel_rfl) (by kernel_rfl) (by decide) (fun _ _ _ h => h) (by rfl) ?_ (by assumption) ?_
      rotate_left
      · (intro w hSw; (try dsimp only at hSw); go_simp) <;> with_reducible rfl
      try simp only [Act.put, List.getElem_toArray, List.getElem_cons_zero, List.getElem_cons_succ, List.setIfInBounds_toArray, List.set_cons_zero, List.set_cons_succ]
      refine wpAnyZ_take (i := 14) (v := ?_) rfl (by kernel_rfl) (by kernel_rfl) (by kernel_rfl) (by kernel_rfl) (by decide) (fun _ _ _ h => h) (by rfl) ?_ (by assumption) ?_
      rotate_left
      · (intro w hSw; (try dsimp only at hSw); go_simp) <;> with_reducible rfl
      try simp only [Act.put, List.getElem_toArray, List.getElem_cons_zero, List.getElem_cons_succ, List.setIfInBounds_toArray, List.set_cons_zero, List.set_cons_succ]
      refine wpAnyZ_take (i := 15) (v := ?_) rfl (by kernel_rfl) (by kernel_rfl) (by kernel_rfl) (by kernel_rfl) (by decide) (fun _ _ _ h => h) (by rfl) ?_ (by assumption) ?_
      rotate_left
      · (intro w hSw; (try dsimp only at hSw); go_simp) <;> with_reducible rfl
      try simp only [Act.put, List.getElem_toArray, List.getElem_cons_zero, List.getElem_cons_succ, List.setIfInBounds_toArray, List.set_cons_zero, List.set_cons_succ]
      refine wpAnyZ_take (i := 16) (v := ?_) rfl (by kernel_rfl) (by kernel_rfl) (by kernel_rfl) (by kernel_rfl) (by decide) (fun _ _ _ h => h) (by rfl) ?_ (by assumption) ?_
      rotate_left
      · (intro w hSw; (try dsimp only at hSw); go_simp) <;> with_reducible rfl
      try simp only [Act.put, List.getElem_toArray, List.getElem_cons_zero, List.getElem_cons_succ, List.setIfInBounds_toArray, List.set_cons_zero, List.set_cons_succ]
      refine wpAnyZ_step (i := 12) rfl (by kernel_rfl) (fun K hK => ?_)
      go_simp
      refine (clock_any base p b clock ss _ (show TB (w4.drewN q5) base p b clock ss from T4.tb.step fun _ _ => rfl)).mono ?_
      rintro e w6 ⟨rfl, rfl⟩
      refine hK.out _ _ (fun _ => x5) ?_
      clear hK K
      try simp only [Act.put, List.getElem_toArray, List.getElem_cons_zero, List.getElem_cons_succ, List.setIfInBounds_toArray, List.set_cons_zero, List.set_cons_succ]
      refine wpAnyZ_take (i := 17) (v := ?_) rfl (by kernel_rfl) (by kernel_rfl) (by kernel_rfl) (by kernel_rfl) (by decide) (fun _ _ _ h => h) (by rfl) ?_ (by assumption) ?_
      rotate_left
      · (intro w hSw; (try dsimp only at hSw); go_simp) <;> with_reducible rfl
      try simp only [Act.put, List.getElem_toArray, List.getElem_cons_zero, List.getElem_cons_succ, List.setIfInBounds_toArray, List.set_cons_zero, List.set_cons_succ]
      refine wpAnyZ_take (i := 18) (v := ?_) rfl (by kernel_rfl) (by kernel_rfl) (by kernel_rfl) (by kernel_rfl) (by decide) (fun _ _ _ h => h) (by rfl) ?_ (by assumption) ?_
      rotate_left
      · (intro w hSw; (try dsimp only at hSw); go_simp) <;> with_reducible rfl
      try simp only [Act.put, List.getElem_toArray, List.getElem_cons_zero, List.getElem_cons_succ, List.setIfInBounds_toArray, List.set_cons_zero, List.set_cons_succ]
      refine wpAnyZ_step (i := 19) rfl (by kernel_rfl) (fun K hK => ?_)
      go_simp
      refine hK.out _ _ (fun h => absurd rfl h) ?_
      clear hK K
      try simp only [Act.put, List.getElem_toArray, List.getElem_cons_zero, List.getElem_cons_succ, List.setIfInBounds_toArray, List.set_cons_zero, List.set_cons_succ]
      refine wpAnyZ_done (by kernel_rfl) ?_
      refine NoPanic.normal ?_
      go_wp2_with fail
      go_ret
      exact ⟨rfl, below_drawn (below_then (below_drawn B2.out 1) (below_drawn B2.out 1).size b4) _⟩
end Go.Proofs.YtbdokphemdkhmaaDoor
