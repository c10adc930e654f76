/- muntinlaw21.tells: both tell the same. -/
import Derived.Test.YtkjpfjgaabbggaaDoorUAct
import Derived.Test.YtkjpfjgaabbggaaDoorTFromHi
import Derived.Test.YtkjpfjgaabbggaaDoorTBack
set_option linter.unusedVariables false
set_option linter.unusedSimpArgs false
namespace Go.Proofs.YtkjpfjgaabbggaaDoor
open Go.RowKit

theorem OD.nil (w : World) (base : Nat) : OD w base (.slice none 0 0) [] := ⟨by simpa [bv] using World.ownsRow_nil w base _ _, by simp⟩
theorem from_any (base p : Nat) (i t : Int) (v : Value) (es : List Ent) (Ds : List Value) (x most : Int) (w : World) (h : TO w base p i t v es Ds) (h0 : 0 ≤ i) (h1 : i ≤ 10000000000000) (h2 : es.length ≤ 4200000000000) (wx : (Lit.int .i64 x).wf = true) :
    Calls Tryd.prog 14 #[.pointer (some ⟨p, 0, none⟩), .int .i64 x, .int .i64 most] w (FromPost w (fromT i es x most)) := by
  by_cases hm : most < 1
  · exact from_none base p i t v es Ds x most w h h0 h1 (by omega) wx hm
  · by_cases hf : es.length ≤ (if x ≤ i then 0 else (x - i - 1).toNat)
    · exact from_far base p i t v es Ds x most w h h0 h1 (by omega) wx (by omega) hf
    · obtain ⟨q, rfl⟩ : ∃ q : Nat, most = q := ⟨most.toNat, by omega⟩
      by_cases hx : x ≤ i
      · rw [if_pos hx] at hf
        have e : fromT i es x q = List.take q (List.drop 0 es) := by unfold fromT; rw [if_pos hx]; simp
        rw [e]
        exact from_lo base p i t v es Ds x q 0 w h h0 h1 h2 wx (by omega) ⟨hx, rfl⟩ (by omega)
      · rw [if_neg hx] at hf
        have e : fromT i es x q = List.take q (List.drop (x - i - 1).toNat es) := by unfold fromT; rw [if_neg hx]; simp
        rw [e]
        exact from_hi base p i t v es Ds x q (x - i - 1).toNat w h h0 h1 h2 wx (by omega) ⟨by omega, by omega⟩ (by omega)
/-- what At tells -/
def atE (i : Int) (es : List Ent) (x : Int) : Ent := if i < x then (match es[(x - i - 1).toNat]? with | some e => e | none => ⟨0, 0, 0, []⟩) else ⟨0, 0, 0, []⟩
theorem atE_no {i : Int} {es : List Ent} {x : Int} (h : x ≤ i ∨ i + es.length < x) : atE i es x = ⟨0, 0, 0, []⟩ ∧ inA i es x = false := by
  refine ⟨?_, decide_eq_false (by omega)⟩
  unfold atE
  split
  · rw [List.getElem?_eq_none (by omega)]
  · rfl
theorem atE_yes {i : Int} {es : List Ent} {x : Int} (j : Nat) (hj : j < es.length) (hx : x = i + 1 + j) : atE i es x = es[j] ∧ inA i es x = true := by
  refine ⟨?_, decide_eq_true (by omega)⟩
  unfold atE
  rw [if_pos (by omega), show (x - i - 1).toNat = j by omega, List.getElem?_eq_getElem hj]
def AtP (w : World) (i : Int) (es : List Ent) (x : Int) (e : Ending) (w' : World) : Prop :=
  ∃ B c, e = .returned (.tuple #[.agg #[.int .i64 (atE i es x).i, .int .i64 (atE i es x).t, .int .i64 (atE i es x).k, .slice B (atE i es x).d.length c], .bool (inA i es x)]) ∧ OD w' w.heap.size (.slice B (atE i es x).d.length c) (atE i es x).d ∧ Below w.heap.size w w'
theorem at_u (base p : Nat) (i t : Int) (v : Value) (es : List Ent) (Ds : List Value) (x : Int) (w : World) (h : TO w base p i t v es Ds) (h0 : 0 ≤ i) (h1 : i ≤ 10000000000000) (h2 : es.length ≤ 10000000000000) :
    Calls Tryd.prog 20 #[.pointer (some ⟨p, 0, none⟩), .int .i64 x] w (AtP w i es x) := by
  by_cases hx : x ≤ i ∨ i + es.length < x
  · refine (at_no base p i t v es Ds x w h h0 h1 h2 hx).mono ?_
    rintro e w' ⟨rfl, b⟩
    unfold AtP
    rw [(atE_no hx).1, (atE_no hx).2]
    exact ⟨none, 0, rfl, OD.nil _ _, b⟩
  · refine (at_yes base p i t v es Ds (x - i - 1).toNat x w h h0 h1 h2 (by omega) (by omega)).mono ?_
    rintro e w' ⟨D, rfl, od, b⟩
    obtain ⟨B, c, rfl, -⟩ := od.rd
    have hy := atE_yes (i := i) (es := es) (x := x) (x - i - 1).toNat (by omega) (by omega)
    unfold AtP
    rw [hy.1, hy.2]
    exact ⟨B, c, rfl, od, b⟩
theorem rat_u (base p : Nat) (i t : Int) (v : Value) (es : List Ent) (Ds : List Value) (x : Int) (w : World) (h : RTO w base p i t v es Ds) (h0 : 0 ≤ i) (h1 : i ≤ 10000000000000) (h2 : es.length ≤ 10000000000000) :
    Calls Tryd.prog 49 #[.pointer (some ⟨p, 0, none⟩), .int .i64 x] w (AtP w i es x) := by
  by_cases hx : x ≤ i ∨ i + es.length < x
  · refine (rat_no base p i t v es Ds x w h h0 h1 h2 hx).mono ?_
    rintro e w' ⟨rfl, b⟩
    unfold AtP
    rw [(atE_no hx).1, (atE_no hx).2]
    exact ⟨none, 0, rfl, OD.nil _ _, b⟩
  · refine (rat_yes base p i t v es Ds (x - i - 1).toNat x w h h0 h1 h2 (by omega) (by omega)).mono ?_
    rintro e w' ⟨D, rfl, od, b⟩
    obtain ⟨B, c, rfl, -⟩ := od.rd
    have hy := atE_yes (i := i) (es := es) (x := x) (x - i - 1).toNat (by omega) (by omega)
    unfold AtP
    rw [hy.1, hy.2]
    exact ⟨B, c, rfl, od, b⟩

set_option maxRecDepth 100000 in
set_option maxHeartbeats 8000000 in
theorem tells_any (base p q : Nat) (i t : Int) (v u : Value) (es : List Ent) (Ds Fs : List Value) (x y most : Int) (w : World) (D : Duo w base p q i t v u es Ds Fs) (hi : i + es.length ≤ 4100000000000) (wx : (Lit.int .i64 x).wf = true) :
    Calls Tryd.prog 29 #[.pointer (some ⟨p, 0, none⟩), .pointer (some ⟨q, 0, none⟩), .int .i64 x, .int .i64 y, .int .i64 most] w fun e w' => e = .returned (.bool true) ∧ Below w.heap.size w w' := by
  obtain ⟨L, c, hv, hre, -⟩ := D.tt.2.2.re
  subst hv
  obtain ⟨U, uc, hu, hru, -⟩ := D.rt.2.2.re
  subst hu
  have h0 := D.i0
  have hfo := D.fo
  have HD := Lib.hid fun (w1 : World) (b : Below w.heap.size w w1) => D.below b
  have HBA := Lib.hid fun (w1 : World) (b : Below w.heap.size w w1) => base_any p i t _ w1 (D.below b).tt.tr
  have HLA := Lib.hid fun (w1 : World) (b : Below w.heap.size w w1) => last_any p i t L c es Ds w1 (D.below b).tt.tr (hre.below b) h0 (by omega) (by omega)
  have HLR := Lib.hid fun (w1 : World) (b : Below w.heap.size w w1) => rlast_any q i t U uc es Fs w1 (D.below b).rt.tr (hru.below b) hfo h0 (by omega) (by omega)
  have HTA := Lib.hid fun (w1 : World) (b : Below w.heap.size w w1) => term_any p i t L c es Ds x w1 (D.below b).tt.tr (hre.below b) h0 (by omega) (by omega)
  have HTR := Lib.hid fun (w1 : World) (b : Below w.heap.size w w1) => rterm_any q i t U uc es Fs x w1 (D.below b).rt.tr (hru.below b) h0 (by omega) (by omega)
  have HAA := Lib.hid fun (w1 : World) (b : Below w.heap.size w w1) => at_u base p i t _ es Ds x w1 (D.below b).tt h0 (by omega) (by omega)
  have HAR := Lib.hid fun (w1 : World) (b : Below w.heap.size w w1) => rat_u base q i t _ es Fs x w1 (D.below b).rt h0 (by omega) (by omega)
  have HFA := Lib.hid fun (w1 : World) (b : Below w.heap.size w w1) => from_any base p i t _ es Ds x most w1 (D.below b).tt h0 (by omega) (by omega) wx
  have HFR := Lib.hid fun (w1 : World) (b : Below w.heap.size w w1) => rfrom_any base q i t _ es Fs x most w1 (D.below b).rt hfo h0 (by omega) (by omega)
  have HKA := Lib.hid fun (w1 : World) (b : Below w.heap.size w w1) => back_any p i t L c es Ds x w1 (D.below b).tt.tr (hre.below b) h0 (by omega) (by omega)
  have HKR := Lib.hid fun (w1 : World) (b : Below w.heap.size w w1) => rback_any q i t U uc es Fs x w1 (D.below b).rt.tr (hru.below b) hfo h0 (by omega) (by omega)
  have HNA := Lib.hid fun (w1 : World) (b : Below w.heap.size w w1) => newer_any p i t L c es Ds x y w1 (D.below b).tt.tr (hre.below b) h0 (by omega) (by omega)
  have HNR := Lib.hid fun (w1 : World) (b : Below w.heap.size w w1) => rnewer_any q i t U uc es Fs x y w1 (D.below b).rt.tr (hru.below b) hfo h0 (by omega) (by omega)
  obtain ⟨FL, hFL⟩ : ∃ FL, Hid (FL = fromT i es x most) := ⟨_, Lib.hid rfl⟩
  have hfl := Lib.hid (show FL.length ≤ 4200000000000 from by
    rw [hFL.out]
    unfold fromT
    rw [List.length_take, List.length_drop]
    omega)
  rw [← hFL.out] at HFA HFR
  generalize endT t es = ET at HLA HLR
  generalize termT i t es x = TX at HTA HTR
  generalize inT i es x = IX at HTA HTR
  obtain ⟨AE, hAE⟩ : ∃ AE, AE = atE i es x := ⟨_, rfl⟩
  unfold AtP at HAA HAR
  rw [← hAE] at HAA HAR
  generalize inA i es x = IA at HAA HAR
  generalize backT i t es x = BX at HKA HKR
  generalize newerT i t es x y = NX at HNA HNR
  clear hAE hFL
  obtain ⟨ai, at_, ak, ad⟩ := AE
  simp only at HAA HAR
  generalize hlen : i + (es.length : Int) = LN at HLA HLR
  clear D hre hru hfo
  go_enter Tryd.func29, Tryd.ntmps29
  go_wp2_with fail
  refine (HBA.out w (Below.refl _ _)).mono ?_
  rintro e w1 ⟨rfl, m1, rfl⟩
  have b1 : Below w.heap.size w (w.drewN m1) := draws_below
  go_wp2_with fail
  refine (HLA.out _ b1).mono ?_
  rintro e w2 ⟨rfl, m2, hw2⟩
  have B2 := Lib.hid (show Below w.heap.size w w2 by rw [hw2]; exact below_drawn' b1)
  clear hw2 b1
  go_wp2_with fail
  refine (HLR.out w2 B2.out).mono ?_
  rintro e w3 ⟨rfl, b3⟩
  have B3 := Lib.hid (below_transB B2.out b3 (Nat.le_refl _))
  clear b3
  go_wp2_with fail
  refine (HTA.out w3 B3.out).mono ?_
  rintro e w4 ⟨rfl, m4, hw4⟩
  have B4 := Lib.hid (show Below w.heap.size w w4 by rw [hw4]; exact below_drawn' B3.out)
  clear hw4
  go_wp2_with fail
  refine (HTR.out w4 B4.out).mono ?_
  rintro e w5 ⟨rfl, m5, hw5⟩
  have B5 := Lib.hid (show Below w.heap.size w w5 by rw [hw5]; exact below_drawn' B4.out)
  clear hw5
  go_wp2_with fail
  refine (HAA.out w5 B5.out).mono ?_
  rintro e w6 ⟨A6, c6, rfl, od6, b6⟩
  have bE := below_alloc w6 (.cells #[.int .i64 ai, .int .i64 at_, .int .i64 ak, .slice A6 ad.length c6] 44)
  have hE := heap_alloc_new w6 (.cells #[.int .i64 ai, .int .i64 at_, .int .i64 ak, .slice A6 ad.length c6] 44)
  obtain ⟨W6, hW6⟩ : ∃ W6, W6 = w6.alloc (.cells #[.int .i64 ai, .int .i64 at_, .int .i64 ak, .slice A6 ad.length c6] 44) := ⟨_, rfl⟩
  rw [← hW6] at bE hE
  have HW6 := Lib.hid hW6
  have B6 := Lib.hid (below_transB (below_transB B5.out b6 (Nat.le_refl _)) bE (Nat.le_refl _))
  have E6 := Lib.hid hE
  have O6 := Lib.hid (show OD W6 w.heap.size (.slice A6 ad.length c6) ad from ⟨own_lower (own_below od6.1 bE) B5.out.size, od6.2⟩)
  clear b6 bE hE hW6 od6
  go_upto_region 7 with (fail)
  rw [← HW6.out]
  go_wp2_with fail
  refine (HAR.out W6 B6.out).mono ?_
  rintro e w7 ⟨A7, c7, rfl, od7, b7⟩
  have bE := below_alloc w7 (.cells #[.int .i64 ai, .int .i64 at_, .int .i64 ak, .slice A7 ad.length c7] 44)
  have hE := heap_alloc_new w7 (.cells #[.int .i64 ai, .int .i64 at_, .int .i64 ak, .slice A7 ad.length c7] 44)
  obtain ⟨W7, hW7⟩ : ∃ W7, W7 = w7.alloc (.cells #[.int .i64 ai, .int .i64 at_, .int .i64 ak, .slice A7 ad.length c7] 44) := ⟨_, rfl⟩
  rw [← hW7] at bE hE
  have HW7 := Lib.hid hW7
  have b67 := below_then b7 b7.size bE
  have B7 := Lib.hid (below_transB B6.out b67 (Nat.le_refl _))
  have E7 := Lib.hid hE
  have E67 := Lib.hid ((b67.block _ (Array.getElem?_eq_some_iff.1 E6.out).1).trans E6.out)
  have O67 := Lib.hid (show OD W7 w.heap.size (.slice A6 ad.length c6) ad from ⟨own_below O6.out.1 b67, O6.out.2⟩)
  have O7 := Lib.hid (show OD W7 w.heap.size (.slice A7 ad.length c7) ad from ⟨own_lower (own_below od7.1 bE) B6.out.size, od7.2⟩)
  clear b7 bE hE hW7 od7 b67
  go_upto_region 8 with (fail)
  rw [← HW7.out]
  go_wp2_with fail
  refine (HFA.out W7 B7.out).mono ?_
  rintro e w8 ⟨v8, D8, rfl, oe8, b8⟩
  obtain ⟨A8, c8, hv8, -⟩ := oe8.re
  subst hv8
  have B8 := Lib.hid (below_transB B7.out b8 (Nat.le_refl _))
  have HB8 := Lib.hid b8
  have HO8 := Lib.hid oe8
  clear b8 oe8
  go_wp2_with fail
  refine (HFR.out w8 B8.out).mono ?_
  rintro e w9 ⟨v9, D9, rfl, oe9, b9⟩
  obtain ⟨A9, c9, hv9, hr9, -⟩ := oe9.re
  subst hv9
  have B9 := Lib.hid (below_transB B8.out b9 (Nat.le_refl _))
  have b79 := below_then HB8.out HB8.out.size b9
  have HZ89 := Lib.hid b9.size
  obtain ⟨k0, k1, -⟩ := (HD.out w9 B9.out).rt.tr
  have HO9 := Lib.hid (HO8.out.below b9)
  have E69 := (b79.block _ (Array.getElem?_eq_some_iff.1 E67.out).1).trans E67.out
  have E79 := (b79.block _ (Array.getElem?_eq_some_iff.1 E7.out).1).trans E7.out
  obtain ⟨e0, e1, e2, e3, -⟩ := cells_at E69
  obtain ⟨u0, u1, u2, u3, -⟩ := cells_at E79
  have bV := below_alloc w9 (.cells #[.int .i64 ai, .int .i64 at_, .int .i64 ak, .slice A6 ad.length c6] 44)
  have v0 := below_cell bV u0
  have v1 := below_cell bV u1
  have v2 := below_cell bV u2
  have v3 := below_cell bV u3
  have O69 := Lib.hid (show OD w9 w.heap.size (.slice A6 ad.length c6) ad from ⟨own_below O67.out.1 b79, O67.out.2⟩)
  have O79 := Lib.hid (show OD w9 w.heap.size (.slice A7 ad.length c7) ad from ⟨own_below O7.out.1 b79, O7.out.2⟩)
  have HS1 := Lib.hid (same_one w9 ⟨ai, at_, ak, ad⟩ (.slice A6 ad.length c6) (.slice A7 ad.length c7) O69.out.rd O79.out.rd)
  have HE69 := Lib.hid E69
  have HR9 := Lib.hid hr9
  clear bV b9 b79 E69 E79 oe9 hr9
  go_wp2_with fail
  refine HS1.out.mono ?_
  rintro e w10 ⟨rfl, m10, hw10⟩
  have b10 : Below w9.heap.size w9 w10 := by
    rw [hw10]
    exact below_drawn' (below_then (below_alloc w9 _) (below_alloc w9 _).size (below_alloc _ _))
  clear hw10
  obtain ⟨A8', c8', hv8, hr8, -⟩ := (HO9.out.below b10).re
  injection hv8 with x1 _ x3
  subst x1
  subst x3
  have HS2 := Lib.hid (same_any A8 A9 FL.length c8 c9 FL D8 D9 w10 hr8 (HR9.out.below b10) rfl (by have := hfl.out; omega))
  have B10 := Lib.hid (below_transB B9.out b10 (Nat.le_refl _))
  have HZ810 := Lib.hid (Nat.le_trans HZ89.out b10.size)
  have O10 := Lib.hid (HO9.out.below b10)
  have E10 := Lib.hid ((b10.block _ (Array.getElem?_eq_some_iff.1 HE69.out).1).trans HE69.out)
  have OD10 := Lib.hid (show OD w10 w.heap.size (.slice A6 ad.length c6) ad from ⟨own_below O69.out.1 b10, O69.out.2⟩)
  clear b10 hr8 e0 e1 e2 e3 u0 u1 u2 u3 v0 v1 v2 v3 k0 k1
  go_wp2_with fail
  refine HS2.out.mono ?_
  rintro e w11 ⟨rfl, m11, hw11⟩
  have b11 : Below w10.heap.size w10 w11 := by rw [hw11]; exact draws_below
  clear hw11
  have B11 := Lib.hid (below_transB B10.out b11 (Nat.le_refl _))
  have HOW := Lib.hid (own_any W7.heap.size A8 FL.length c8 FL D8 w11 (O10.out.below b11) rfl (by have := hfl.out; omega) (Nat.le_trans (Nat.le_trans HB8.out.size (show w8.heap.size ≤ w10.heap.size from HZ810.out)) b11.size))
  have E11 := Lib.hid ((b11.block _ (Array.getElem?_eq_some_iff.1 E10.out).1).trans E10.out)
  have OD11 := Lib.hid (show OD w11 w.heap.size (.slice A6 ad.length c6) ad from ⟨own_below OD10.out.1 b11, OD10.out.2⟩)
  have O11 := Lib.hid (O10.out.below b11)
  clear b11
  go_wp2_with fail
  refine HOW.out.mono ?_
  rintro e w12 ⟨rfl, f12⟩
  have hge : ∀ z, OwnT (.slice A8 FL.length c8) D8 z → W7.heap.size ≤ z := fun z o => o.elim (fun e => (O11.out.2.1.lt z e).1) (fun ⟨D, hD, e⟩ => (O11.out.dlt D hD z e).1)
  have hw6l := (Array.getElem?_eq_some_iff.1 E67.out).1
  have E12 := (f12.block w6.heap.size (Array.getElem?_eq_some_iff.1 E11.out).1 (fun o => by have := hge _ o; omega)).trans E11.out
  have e3 := (cells_at E12).2.2.2.1
  have HRM := Lib.hid (show Room w12 (.slice A6 ad.length c6) False 0 from Room.own (own_step OD11.out.1 fun z hz => f12.block z (OD11.out.1.lt z hz).2 (fun o => by have h1 := hge _ o; have h2 := (O67.out.1.lt z hz).2; omega)))
  have B12 := Lib.hid (below_trans B11.out (f12.below (show w.heap.size ≤ w11.heap.size from B11.out.size) fun z o => Nat.le_trans B7.out.size (hge z o)))
  have HO2 := Lib.hid (owned1 HRM.out)
  clear f12 hge hw6l E12
  go_wp2_with fail
  refine HO2.out.mono ?_
  rintro e w13 ⟨rfl, o13, -⟩
  have bL := below_alloc w12 (.cells #[.slice A6 ad.length c6] 42)
  have B13 := Lib.hid (show Below w.heap.size w w13 from o13.below (below_transB B12.out bL (Nat.le_refl _)) fun z hz => (OD11.out.1.lt z (own1 hz)).1)
  clear o13 bL e3
  go_wp2_with fail
  refine (HKA.out w13 B13.out).mono ?_
  rintro e w14 ⟨rfl, m14, hw14⟩
  have B14 := Lib.hid (show Below w.heap.size w w14 by rw [hw14]; exact below_drawn' B13.out)
  clear hw14
  go_wp2_with fail
  refine (HKR.out w14 B14.out).mono ?_
  rintro e w15 ⟨rfl, b15⟩
  have B15 := Lib.hid (below_transB B14.out b15 (Nat.le_refl _))
  clear b15
  go_wp2_with fail
  refine (HNA.out w15 B15.out).mono ?_
  rintro e w16 ⟨rfl, m16, hw16⟩
  have B16 := Lib.hid (show Below w.heap.size w w16 by rw [hw16]; exact below_drawn' B15.out)
  clear hw16
  go_wp2_with fail
  refine (HNR.out w16 B16.out).mono ?_
  rintro e w17 ⟨rfl, b17⟩
  go_wp2_with fail
  go_ret
  exact ⟨rfl, below_transB B16.out b17 (Nat.le_refl _)⟩
end Go.Proofs.YtkjpfjgaabbggaaDoor
