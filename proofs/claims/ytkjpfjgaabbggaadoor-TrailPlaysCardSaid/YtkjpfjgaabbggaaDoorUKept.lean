/- muntinlaw19.Kept: the contract. -/
import Derived.Test.YtkjpfjgaabbggaaDoorUOwn
import Derived.Test.YtkjpfjgaabbggaaDoorURead
set_option linter.unusedVariables false
set_option linter.unusedSimpArgs false
namespace Go.Proofs.YtkjpfjgaabbggaaDoor
open Go.RowKit

theorem Frm.drawnU {S : Nat → Prop} {w w' : World} (h : Frm S w w') {m : Nat} : Frm S w (w'.drewN m) := ⟨h.os, h.tape, h.output, h.size, h.block⟩
theorem WL.drew {w : World} {base : Nat} {V : Option Addr} {n c : Nat} {Ds : List Value} {wr : World} {i : Nat} {xs : List Value} (h : WL w base V n c Ds wr i xs) : WL w base V n c Ds wr.drew i xs :=
  ⟨own_step h.own fun _ _ => rfl, h.rest, fun k h1 h2 => (h.rooms k h1 h2).step (fun _ _ => rfl) id, h.bel.drawnU (m := 1)⟩

set_option maxRecDepth 100000 in
set_option maxHeartbeats 4000000 in
theorem kepts_any (base : Nat) (V : Option Addr) (n c : Nat) (A : Option Addr) (ca : Nat) (es : List Ent) (Ds Dl : List Value) (w : World) (h : LE w base (.slice V n c) es Ds) (hr : ∀ w', Below base w w' → RE w' A es Dl) (hl : es.length = n) (hn : n ≤ 10000000000000) (hb : base ≤ w.heap.size) :
    Calls Tryd.prog 26 #[.slice V n c, .slice A n ca] w fun e w' => e = .returned (.bool true) ∧ Frm (OwnT (.slice V n c) Ds) w w' := by
  have HCE := Lib.hid h.oe.capEq
  have HDL := Lib.hid (show Ds.length = n by rw [h.oe.1]; exact hl)
  have HL := Lib.hid hl
  have HAP := Lib.hid h.ap
  have HRE := Lib.hid fun (w' : World) (f : Frm (OwnT (.slice V n c) Ds) w w') => hr w' (f.below hb fun z oz => oz.elim (fun e => (h.oe.2.1.lt z e).1) (fun ⟨D, hD, e⟩ => (h.oe.dlt D hD z e).1))
  have HB0 := Lib.hid (show ∀ D ∈ Ds, ∀ k, D.ownBlock = some k → base ≤ k from fun D hD k hk => (h.oe.dlt D hD k hk).1)
  have H0 := Lib.hid (show WL w base V n c Ds w 0 (ecells es Ds) ∧ ∀ k (h1 : k < es.length) (h2 : k < Ds.length), 0 ≤ k → LD w base Ds[k] es[k].d from ⟨⟨by have := h.oe.2.1; rwa [hl] at this, fun k hk _ => (ecells_get h.oe.1 k (by rw [← h.oe.1]; exact hk) hk).2.2.2, fun k hk _ => Room.own (h.oe.2.2 k (by rw [← h.oe.1]; exact hk) hk).1, Frm.refl _ _⟩, fun k h1 h2 _ => h.ld k h1 h2⟩)
  obtain ⟨VA, vc, hv, hre, -⟩ := h.oe.re
  injection hv with hv1 hv2 hv3
  subst hv1
  have HSM := Lib.hid (same_any V A n c ca es Ds Dl w hre (hr w (Below.refl _ _)) hl hn)
  clear h hl hr hre hv2 hv3
  go_enter Tryd.func26, Tryd.ntmps26
  go_wp2_with fail
  refine HSM.out.mono ?_
  rintro e w0 ⟨rfl, m0, rfl⟩
  have H1 := Lib.hid (show WL w base V n c Ds (w.drewN m0) 0 (ecells es Ds) ∧ ∀ k (h1 : k < es.length) (h2 : k < Ds.length), 0 ≤ k → LD (w.drewN m0) base Ds[k] es[k].d from
    ⟨⟨own_step H0.out.1.own fun _ _ => rfl, H0.out.1.rest, fun k h1 h2 => (H0.out.1.rooms k h1 h2).step (fun _ _ => rfl) id, H0.out.1.bel.drawnU⟩, fun k h1 h2 h3 => (H0.out.2 k h1 h2 h3).keep fun _ _ => rfl⟩)
  clear H0
  go_wp2_with fail
  go_loopg [6] n (fun mm ti wr => ∃ (i : Nat) (xs : List Value), mm = n - i ∧ i ≤ n ∧ ti = .int .i64 i ∧ Hid (WL w base V n c Ds wr i xs ∧ ∀ k (h1 : k < es.length) (h2 : k < Ds.length), i ≤ k → LD wr base Ds[k] es[k].d))
  case atStart => exact ⟨0, _, by omega, by omega, rfl, H1⟩
  case round =>
    obtain ⟨i, xs, hm, hi, rfl, HO1⟩ := hrel
    clear H1
    by_cases hin : i < n
    · have hin1 : (i : Int) < (n : Int) := by omega
      have hil : i < Ds.length := by rw [HDL.out]; exact hin
      have hie : i < es.length := by rw [HL.out]; exact hin
      obtain ⟨g, cap, hve, hcap, hg, hgl⟩ := own_head HO1.out.1.own (by omega)
      injection hve with hv1 _ hv3
      subst hv1
      subst hv3
      obtain ⟨D, hD⟩ : ∃ D, Hid (D = Ds[i]) := ⟨_, Lib.hid rfl⟩
      have c3 : wr.cell? ⟨g, i * 4 + 3, none⟩ = some D := by rw [hD.out]; exact (own_cell HO1.out.1.own _ _ (HO1.out.1.rest i hil (Nat.le_refl _))).1
      have hDm := Lib.hid (show D ∈ Ds by rw [hD.out]; exact List.getElem_mem hil)
      have hLD : LD wr base D (es[i]).d := by rw [hD.out]; exact HO1.out.2 i hie hil (Nat.le_refl _)
      obtain ⟨d, hdd⟩ : ∃ d, Hid (d = (es[i]).d) := ⟨_, Lib.hid rfl⟩
      rw [← hdd.out] at hLD
      have HRM := Lib.hid (show Room wr.drew D False 0 by rw [hD.out]; exact (HO1.out.1.drew.rooms i hil (Nat.le_refl _)))
      obtain ⟨gd, rfl, hod, h77⟩ := hLD
      have HRW := HRE.out wr HO1.out.1.bel
      obtain ⟨g', o', hA', hg', -⟩ := HRW.addr (by omega)
      cases hA'
      obtain ⟨-, -, -, r3, hrd⟩ := HRW.at i hie
      rw [← hdd.out] at hrd
      obtain ⟨D2, hD2⟩ : ∃ D2, D2 = Dl[i]'(by rw [HRW.1]; exact hie) := ⟨_, rfl⟩
      rw [← hD2] at r3 hrd
      obtain ⟨B, cb, rfl, hrb, hdc, hdl, hBn⟩ := hrd
      have HKP := Lib.hid (kept_any (some ⟨gd, 0, none⟩) B (d.length + 1) cb d wr.drew gd rfl ((RB.own hod.1).drewN 1) (hrb.drewN 1) (Nat.le_refl _) hdl h77)
      have HO := Lib.hid HO1.out.1.drew
      have HLD := Lib.hid (show ∀ k (h1 : k < es.length) (h2 : k < Ds.length), i ≤ k → LD wr.drew base Ds[k] es[k].d from fun k h1 h2 h3 => (HO1.out.2 k h1 h2 h3).keep fun _ _ => rfl)
      have hS0 : wr.drew.cell? ⟨g, i * 4 + 3, none⟩ = some (.slice (some ⟨gd, 0, none⟩) d.length (d.length + 1)) ∧ wr.drew.cell? ⟨g', o' + i * 4 + 3, none⟩ = some (.slice B d.length cb) := ⟨c3, r3⟩
      clear hod h77 HRW hrb hD2 HO1 c3 r3
      go_wp2_with fail
      refine wp_region_Z (fun w' => w'.cell? ⟨g, i * 4 + 3, none⟩ = some (.slice (some ⟨gd, 0, none⟩) d.length (d.length + 1)) ∧ w'.cell? ⟨g', o' + i * 4 + 3, none⟩ = some (.slice B d.length cb)) 11 (by kernel_rfl) hS0 (fun hHeld => ?_)
      refine wpAnyZ_take (i := 0) (v := ?_) rfl (by kernel_rfl) (by kernel_rfl) (by kernel_rfl) (by kernel_rfl) (by decide) (fun _ _ _ h => h) (by rfl) ?_ (by assumption) ?_
      rotate_left
      · (intro w hSw; (try dsimp only at hSw); go_simp) <;> with_reducible rfl
      try simp only [Act.put, List.getElem_toArray, List.getElem_cons_zero, List.getElem_cons_succ, List.setIfInBounds_toArray, List.set_cons_zero, List.set_cons_succ]
      refine wpAnyZ_take (i := 1) (v := ?_) rfl (by kernel_rfl) (by kernel_rfl) (by kernel_rfl) (by kernel_rfl) (by decide) (fun _ _ _ h => h) (by rfl) ?_ (by assumption) ?_
      rotate_left
      · (intro w hSw; (try dsimp only at hSw); go_simp) <;> with_reducible rfl
      try simp only [Act.put, List.getElem_toArray, List.getElem_cons_zero, List.getElem_cons_succ, List.setIfInBounds_toArray, List.set_cons_zero, List.set_cons_succ]
      refine wpAnyZ_take (i := 2) (v := ?_) rfl (by kernel_rfl) (by kernel_rfl) (by kernel_rfl) (by kernel_rfl) (by decide) (fun _ _ _ h => h) (by rfl) ?_ (by assumption) ?_
      rotate_left
      · (intro w hSw; (try dsimp only at hSw); go_simp) <;> with_reducible rfl
      try simp only [Act.put, List.getElem_toArray, List.getElem_cons_zero, List.getElem_cons_succ, List.setIfInBounds_toArray, List.set_cons_zero, List.set_cons_succ]
      refine wpAnyZ_take (i := 3) (v := ?_) rfl (by kernel_rfl) (by kernel_rfl) (by kernel_rfl) (by kernel_rfl) (by decide) (fun _ _ _ h => h) (by rfl) ?_ (by assumption) ?_
      rotate_left
      · (intro w hSw; (try dsimp only at hSw); go_simp) <;> with_reducible rfl
      try simp only [Act.put, List.getElem_toArray, List.getElem_cons_zero, List.getElem_cons_succ, List.setIfInBounds_toArray, List.set_cons_zero, List.set_cons_succ]
      refine wpAnyZ_take (i := 4) (v := ?_) rfl (by kernel_rfl) (by kernel_rfl) (by kernel_rfl) (by kernel_rfl) (by decide) (fun _ _ _ h => h) (by rfl) ?_ (by assumption) ?_
      rotate_left
      · (intro w hSw; (try dsimp only at hSw); go_simp) <;> with_reducible rfl
      try simp only [Act.put, List.getElem_toArray, List.getElem_cons_zero, List.getElem_cons_succ, List.setIfInBounds_toArray, List.set_cons_zero, List.set_cons_succ]
      refine wpAnyZ_take (i := 5) (v := ?_) rfl (by kernel_rfl) (by kernel_rfl) (by kernel_rfl) (by kernel_rfl) (by decide) (fun _ _ _ h => h) (by rfl) ?_ (by assumption) ?_
      rotate_left
      · (intro w hSw; (try dsimp only at hSw); go_simp) <;> with_reducible rfl
      try simp only [Act.put, List.getElem_toArray, List.getElem_cons_zero, List.getElem_cons_succ, List.setIfInBounds_toArray, List.set_cons_zero, List.set_cons_succ]
      refine wpAnyZ_take (i := 6) (v := ?_) rfl (by kernel_rfl) (by kernel_rfl) (by kernel_rfl) (by kernel_rfl) (by decide) (fun _ _ _ h => h) (by rfl) ?_ (by assumption) ?_
      rotate_left
      · (intro w hSw; (try dsimp only at hSw); go_simp) <;> with_reducible rfl
      try simp only [Act.put, List.getElem_toArray, List.getElem_cons_zero, List.getElem_cons_succ, List.setIfInBounds_toArray, List.set_cons_zero, List.set_cons_succ]
      refine wpAnyZ_take (i := 7) (v := ?_) rfl (by kernel_rfl) (by kernel_rfl) (by kernel_rfl) (by kernel_rfl) (by decide) (fun _ _ _ h => h) (by rfl) ?_ (by assumption) ?_
      rotate_left
      · (intro w hSw; (try dsimp only at hSw); go_simp) <;> with_reducible rfl
      try simp only [Act.put, List.getElem_toArray, List.getElem_cons_zero, List.getElem_cons_succ, List.setIfInBounds_toArray, List.set_cons_zero, List.set_cons_succ]
      refine wpAnyZ_take (i := 8) (v := ?_) rfl (by kernel_rfl) (by kernel_rfl) (by kernel_rfl) (by kernel_rfl) (by decide) (fun _ _ _ h => h) (by rfl) ?_ (by assumption) ?_
      rotate_left
      · (intro w hSw; (try dsimp only at hSw); go_simp) <;> with_reducible rfl
      try simp only [Act.put, List.getElem_toArray, List.getElem_cons_zero, List.getElem_cons_succ, List.setIfInBounds_toArray, List.set_cons_zero, List.set_cons_succ]
      refine wpAnyZ_take (i := 9) (v := ?_) rfl (by kernel_rfl) (by kernel_rfl) (by kernel_rfl) (by kernel_rfl) (by decide) (fun _ _ _ h => h) (by rfl) ?_ (by assumption) ?_
      rotate_left
      · (intro w hSw; (try dsimp only at hSw); go_simp) <;> with_reducible rfl
      try simp only [Act.put, List.getElem_toArray, List.getElem_cons_zero, List.getElem_cons_succ, List.setIfInBounds_toArray, List.set_cons_zero, List.set_cons_succ]
      refine wpAnyZ_step (i := 10) rfl (by kernel_rfl) (fun K hK => ?_)
      go_simp
      refine HKP.out.mono ?_
      rintro e w2 ⟨rfl, hw2⟩
      rw [hw2]
      clear hw2 w2
      refine hK.out _ _ (fun _ => hS0) ?_
      clear hK K
      try simp only [Act.put, List.getElem_toArray, List.getElem_cons_zero, List.getElem_cons_succ, List.setIfInBounds_toArray, List.set_cons_zero, List.set_cons_succ]
      refine wpAnyZ_step (i := 11) rfl (by kernel_rfl) (fun K hK => ?_)
      go_simp
      refine hK.out _ _ (fun h => absurd rfl h) ?_
      clear hK K
      try simp only [Act.put, List.getElem_toArray, List.getElem_cons_zero, List.getElem_cons_succ, List.setIfInBounds_toArray, List.set_cons_zero, List.set_cons_succ]
      refine wpAnyZ_done (by kernel_rfl) ?_
      refine NoPanic.normal ?_
      obtain ⟨wq, hwq⟩ : ∃ wq, wq = wr.drew := ⟨_, rfl⟩
      rw [← hwq] at HO HRM HLD hS0 ⊢
      clear hwq HKP hHeld
      have c3 := hS0.1
      clear hS0
      have hbk : ∃ cur, wq.heap[g]? = some (.cells cur 44 (0, 0)) ∧ cur.size = c * 4 := by
        rcases HO.out.own.2 with ⟨e, _⟩ | ⟨g2, cap2, cur2, e, _, hg2, _, _, z2, _⟩
        · cases e
        · cases e; exact ⟨cur2, hg2, z2⟩
      obtain ⟨cur, hbk, h3⟩ := hbk
      have HOW := Lib.hid (owned1 HRM.out)
      have HBK := Lib.hid hbk
      have HCZ := Lib.hid h3
      clear hbk h3
      go_wp2_with fail
      refine HOW.out.mono ?_
      rintro e w3 ⟨rfl, o3, hr3⟩
      have bA := below_alloc wq (.cells #[.slice (some ⟨gd, 0, none⟩) d.length (d.length + 1)] 42)
      have L3 := Lib.hid (show ∀ k (h1 : k < es.length) (h2 : k < Ds.length), i + 1 ≤ k → LD w3 base Ds[k] es[k].d from fun k h1 h2 h3 => by
        have hl := HLD.out k h1 h2 (by omega)
        refine hl.keep fun z hz => (o3.block z fun hc => ?_).trans (bA.block z (hl.lt z hz).2)
        have e := own1 hc
        rw [hD.out] at e
        exact (List.pairwise_iff_getElem.1 HAP.out i k hil h2 (by omega)) z e hz)
      have hgz := (Array.getElem?_eq_some_iff.1 HBK.out).1
      have hno : ¬ OwnB [.slice (some ⟨gd, 0, none⟩) d.length (d.length + 1)] g := fun h => room_ne HRM.out HO.out.own (own1 h)
      have hk0 : w3.heap[g]? = some (.cells cur 44 (0, 0)) := (o3.block g hno).trans ((bA.block g hgz).trans HBK.out)
      have B3 := Lib.hid (show Frm (OwnT (.slice (some ⟨g, 0, none⟩) n c) Ds) w w3 from (HO.out.bel.trans (Frm.of_below bA)).outD o3 fun k h => .inr ⟨_, hDm.out, own1 h⟩)
      have O3 := Lib.hid (show w3.ownsRow base 44 4 (.slice (some ⟨g, 0, none⟩) n c) n xs from own_step HO.out.own fun k hk => by
        have hk : g = k := Option.some.inj hk
        subst hk
        exact hk0.trans HBK.out.symm)
      have R3 := Lib.hid (show ∀ k (h : k < Ds.length), i + 1 ≤ k → Room w3 Ds[k] False 0 from fun k h hik =>
        room_after HCE.out hDm.out (List.getElem_mem h) ((HO.out.rooms k h (by omega)).step (fun j hj => bA.block j (room_lt (HO.out.rooms k h (by omega)) j hj)) id) o3 hr3)
      have hcz := HCZ.out
      have hk1 := heap_setCell_same _ g (i * 4) _ _ (.int .i64 (-7)) hk0
      have hk2 := heap_setCell_same _ g (i * 4 + 1) _ _ (.int .i64 0) hk1
      have hk3 := heap_setCell_same _ g (i * 4 + 2) _ _ (.int .i64 0) hk2
      obtain ⟨u0, hu0⟩ : ∃ u, w3.cell? ⟨g, i * 4, none⟩ = some u := by rw [cellU hk0, Array.getElem?_eq_getElem (by omega)]; exact ⟨_, rfl⟩
      obtain ⟨u1, hu1⟩ : ∃ u, (w3.setCell ⟨g, i * 4, none⟩ (.int .i64 (-7))).cell? ⟨g, i * 4 + 1, none⟩ = some u := by rw [cellU hk1, Array.getElem?_eq_getElem (by simp; omega)]; exact ⟨_, rfl⟩
      obtain ⟨u2, hu2⟩ : ∃ u, ((w3.setCell ⟨g, i * 4, none⟩ (.int .i64 (-7))).setCell ⟨g, i * 4 + 1, none⟩ (.int .i64 0)).cell? ⟨g, i * 4 + 2, none⟩ = some u := by rw [cellU hk2, Array.getElem?_eq_getElem (by simp; omega)]; exact ⟨_, rfl⟩
      obtain ⟨u3, hu3⟩ : ∃ u, (((w3.setCell ⟨g, i * 4, none⟩ (.int .i64 (-7))).setCell ⟨g, i * 4 + 1, none⟩ (.int .i64 0)).setCell ⟨g, i * 4 + 2, none⟩ (.int .i64 0)).cell? ⟨g, i * 4 + 3, none⟩ = some u := by rw [cellU hk3, Array.getElem?_eq_getElem (by simp; omega)]; exact ⟨_, rfl⟩
      have hz0 := frozen_of hk0 (i * 4)
      have hz1 := frozen_of hk1 (i * 4 + 1)
      have hz2 := frozen_of hk2 (i * 4 + 2)
      have hz3 := frozen_of hk3 (i * 4 + 3)
      have HN2 := Lib.hid (show WL w base (some ⟨g, 0, none⟩) n c Ds ((((w3.setCell ⟨g, i * 4, none⟩ (.int .i64 (-7))).setCell ⟨g, i * 4 + 1, none⟩ (.int .i64 0)).setCell ⟨g, i * 4 + 2, none⟩ (.int .i64 0)).setCell ⟨g, i * 4 + 3, none⟩ (.slice none 0 0)) (i + 1) ((((xs.set (i * 4) (.int .i64 (-7))).set (i * 4 + 1) (.int .i64 0)).set (i * 4 + 2) (.int .i64 0)).set (i * 4 + 3) (.slice none 0 0)) from by
        refine ⟨own4 O3.out hin _ _ _ _, fun k h hik => by rw [get4 _ _ _ _ (by omega)]; exact HO.out.rest k h (by omega), fun k h hik => ?_, ?_⟩
        · refine (R3.out k h hik).step (fun j hj => ?_) id
          have hne : j ≠ g := fun e => room_ne (R3.out k h hik) O3.out (by rw [hj, e])
          rw [heap_setCell_other _ _ _ _ hne, heap_setCell_other _ _ _ _ hne, heap_setCell_other _ _ _ _ hne, heap_setCell_other _ _ _ _ hne]
        · have hOg : OwnT (.slice (some ⟨g, 0, none⟩) n c) Ds g := .inl rfl
          exact Frm.setCell (Frm.setCell (Frm.setCell (Frm.setCell B3.out ⟨g, i * 4, none⟩ _ (.inl hOg)) ⟨g, i * 4 + 1, none⟩ _ (.inl hOg)) ⟨g, i * 4 + 2, none⟩ _ (.inl hOg)) ⟨g, i * 4 + 3, none⟩ _ (.inl hOg))
      clear o3 hk0 hk1 hk2 hk3 hno bA hr3 hcz
      have LN := Lib.hid (show ∀ k (h1 : k < es.length) (h2 : k < Ds.length), i + 1 ≤ k → LD ((((w3.setCell ⟨g, i * 4, none⟩ (.int .i64 (-7))).setCell ⟨g, i * 4 + 1, none⟩ (.int .i64 0)).setCell ⟨g, i * 4 + 2, none⟩ (.int .i64 0)).setCell ⟨g, i * 4 + 3, none⟩ (.slice none 0 0)) base Ds[k] es[k].d from fun k h1 h2 h3 => by
        refine (L3.out k h1 h2 h3).keep fun z hz => ?_
        have hne : z ≠ g := fun e => room_ne (R3.out k h2 h3) O3.out (by rw [hz, e])
        rw [heap_setCell_other _ _ _ _ hne, heap_setCell_other _ _ _ _ hne, heap_setCell_other _ _ _ _ hne, heap_setCell_other _ _ _ _ hne])
      go_wp2_with fail
      go_roundg (n - (i + 1))
      case measure => omega
      case rel => exact ⟨i + 1, _, by omega, by omega, by go_num, Lib.hid ⟨HN2.out, LN.out⟩⟩
    · obtain rfl : i = n := by omega
      have hin1 : ¬ (i : Int) < (i : Int) := by omega
      go_wp2_with fail
      go_ret
      exact ⟨rfl, HO1.out.1.bel⟩
end Go.Proofs.YtkjpfjgaabbggaaDoor
