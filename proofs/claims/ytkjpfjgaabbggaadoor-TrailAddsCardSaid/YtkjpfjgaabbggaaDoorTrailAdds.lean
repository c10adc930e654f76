/- muntinlaw21.TrailAdds is true, whatever the input: the law's own walk. -/
import Derived.Test.YtkjpfjgaabbggaaDoorTSmall
import Derived.Test.YtkjpfjgaabbggaaDoorTAdd
import Derived.Test.YtkjpfjgaabbggaaDoorTSame
import Derived.Outline
import Derived.OpenShut
set_option linter.unusedVariables false
set_option linter.unusedSimpArgs false
namespace Go.Proofs.YtkjpfjgaabbggaaDoor
open Go.RowKit

theorem endT_snoc (es : List Ent) (E : Ent) (t : Int) : endT t (es ++ [E]) = E.t := by rw [endT_append]; rfl
theorem cells4 {w : World} {a : Nat} {x y z u : Value} {T : TypeId} (h : w.heap[a]? = some (.cells #[x, y, z, u] T (0, 0))) : w.cell? ⟨a, 0, none⟩ = some x ∧ w.cell? ⟨a, 1, none⟩ = some y ∧ w.cell? ⟨a, 2, none⟩ = some z ∧ w.cell? ⟨a, 3, none⟩ = some u := by
  refine ⟨?_, ?_, ?_, ?_⟩ <;> simp [World.cell?, h]

/-- two entries on either side, the same -/
theorem same_pair (w : World) (a b c : Int) (d : List UInt8) (D1 D2 D3 : Value) (h1 : RD w D1 d) (h2 : RD w D2 d) (h3 : RD w D3 d) :
    Calls Tryd.prog 13 #[.slice (some ⟨w.heap.size + 1 + 1, 0, none⟩) 2 2, .slice (some ⟨w.heap.size + 1 + 1 + 1, 0, none⟩) 2 2] ((((w.alloc (.cells #[.int .i64 a, .int .i64 b, .int .i64 c, D2] 44)).alloc (.cells #[.int .i64 a, .int .i64 b, .int .i64 c, D3] 44)).alloc (.cells #[.int .i64 a, .int .i64 b, .int .i64 c, D1, .int .i64 a, .int .i64 b, .int .i64 c, D2] 44)).alloc (.cells #[.int .i64 a, .int .i64 b, .int .i64 c, D3, .int .i64 a, .int .i64 b, .int .i64 c, D3] 44))
      fun e w' => e = .returned (.bool true) ∧ Below w.heap.size w w' := by
  obtain ⟨w2, hw2⟩ : ∃ w2, w2 = (w.alloc (.cells #[.int .i64 a, .int .i64 b, .int .i64 c, D2] 44)).alloc (.cells #[.int .i64 a, .int .i64 b, .int .i64 c, D3] 44) := ⟨_, rfl⟩
  have b2 : Below w.heap.size w w2 := by rw [hw2]; exact below_then (below_alloc _ _) (by simp) (below_alloc _ _)
  have e2 : w.heap.size + 1 + 1 = w2.heap.size := by rw [hw2]; simp
  rw [← hw2, e2]
  obtain ⟨w3, hw3⟩ : ∃ w3, w3 = w2.alloc (.cells #[.int .i64 a, .int .i64 b, .int .i64 c, D1, .int .i64 a, .int .i64 b, .int .i64 c, D2] 44) := ⟨_, rfl⟩
  have b3 : Below w2.heap.size w2 w3 := by rw [hw3]; exact below_alloc _ _
  have e3 : w2.heap.size + 1 = w3.heap.size := by rw [hw3]; simp
  have r3 : w3.heap[w2.heap.size]? = some (.cells #[.int .i64 a, .int .i64 b, .int .i64 c, D1, .int .i64 a, .int .i64 b, .int .i64 c, D2] 44 (0, 0)) := by rw [hw3]; exact heap_alloc_new _ _
  rw [← hw3, e3]
  have b4 := below_alloc w3 (.cells #[.int .i64 a, .int .i64 b, .int .i64 c, D3, .int .i64 a, .int .i64 b, .int .i64 c, D3] 44)
  have r4 := heap_alloc_new w3 (.cells #[.int .i64 a, .int .i64 b, .int .i64 c, D3, .int .i64 a, .int .i64 b, .int .i64 c, D3] 44)
  have r3' := (b4.block _ (Array.getElem?_eq_some_iff.1 r3).1).trans r3
  have bel := below_then (below_then b2 b2.size b3) (below_then b2 b2.size b3).size b4
  refine (same_any _ _ 2 2 2 [⟨a, b, c, d⟩, ⟨a, b, c, d⟩] [D1, D2] [D3, D3] _ (RE.block r3' rfl rfl fun i h h' => ?_) (RE.block r4 rfl rfl fun i h h' => ?_) rfl (by omega)).mono ?_
  · match i, h with
    | 0, _ => exact h1.below bel
    | 1, _ => exact h2.below bel
  · match i, h with
    | 0, _ => exact h3.below bel
    | 1, _ => exact h3.below bel
  · rintro e w' ⟨rfl, m, rfl⟩
    exact ⟨rfl, below_draws bel m⟩

set_option maxRecDepth 100000 in
set_option maxHeartbeats 4000000 in
theorem trailAdds_walk (i t : Int) (A : Option Addr) (c : Nat) (es : List Ent) (Ds : List Value) (x k : Int) (B : Option Addr) (cb : Nat) (bs : List UInt8) (w : World) (wi : (Lit.int .i64 i).wf = true) (wt : (Lit.int .i64 t).wf = true) (hlc : es.length ≤ c) (hc : c * 48 ≤ 140737488351232) (hre : RE w A es Ds) (hA : A = none → c = 0)
    (wx : (Lit.int .i64 x).wf = true) (wk : (Lit.int .i64 k).wf = true) (hlb : bs.length ≤ cb) (hcb : cb ≤ 140737488351232) (hrb : RB w B bs) (hB : B = none → cb = 0) (hE : ErrT w) :
    Calls Tryd.prog 6 #[.int .i64 i, .int .i64 t, .slice A es.length c, .int .i64 x, .int .i64 k, .slice B bs.length cb] w fun e w' => e = .returned (.bool true) ∧ Below w.heap.size w w' := by
  have HS := Lib.hid (small_any w hE)
  obtain ⟨n, hn⟩ : ∃ n, n = es.length := ⟨_, rfl⟩
  have hnl : es.length = n := hn.symm
  rw [hnl] at hlc ⊢
  by_cases hok : okNew i t es = false
  · have HN := Lib.hid (fun w1 (b : Below w.heap.size w w1) => new_bad A n c es Ds i t w1 (hre.below b) hnl (by omega) hok)
    rw [errV_pos 1 (by decide)] at HN
    clear hre hn hnl hok
    go_enter Tryd.func6, Tryd.ntmps6
    go_wp2_with fail
    refine HS.out.mono ?_
    rintro e w1 ⟨rfl, b1⟩
    go_wp2_with fail
    refine (HN.out w1 b1).mono ?_
    rintro e w2 ⟨rfl, b2⟩
    go_wp2_with fail
    go_ret
    exact ⟨rfl, below_then b1 b1.size b2⟩
  · have hok' : okNew i t es = true := by cases h : okNew i t es with | true => rfl | false => exact absurd h hok
    have HN := Lib.hid (fun w1 (b : Below w.heap.size w w1) => new_ok A n c es Ds i t w1 (hre.below b) hnl (by omega) (by omega) (fun h => by have := hA h; omega) hok')
    have hi := hok'
    simp only [okNew, Bool.and_eq_true, decide_eq_true_eq] at hi
    obtain ⟨⟨hi1, hi2, hi3⟩, -⟩ := hi
    have HRB := Lib.hid (fun w1 (b : Below w.heap.size w w1) => (⟨B, cb, rfl, hrb.below b, hlb, by omega, hB⟩ : RD w1 (.slice B bs.length cb) bs))
    clear hre hok hok' hn hrb
    have HNL := Lib.hid hnl
    clear hnl
    obtain ⟨T, hT⟩ : ∃ T, T = endT t es := ⟨_, rfl⟩
    have HTT := Lib.hid hT
    have HLA := Lib.hid (fun p L c Ds w1 (hT : TR w1 p i t (.slice L es.length c)) (hr : RE w1 L es Ds) => last_any p i t L c es Ds w1 hT hr hi1 (by omega) (by have := HNL.out; omega))
    rw [← hT, HNL.out] at HLA
    clear hT
    by_cases hbad : x < T ∨ k < 0
    · have HAB := Lib.hid (fun base p v Ds B w1 (h : TO w1 base p i t v es Ds) => add_bad base p i t v es Ds x k B w1 h hi1 (by omega) (by have := HNL.out; omega) (by rw [← HTT.out]; exact hbad))
      rw [errV_pos 1 (by decide)] at HAB
      by_cases hx : x < T
      all_goals
        first | have d1 : decide (x < T) = true := decide_eq_true hx | (have d1 : decide (x < T) = false := decide_eq_false hx; have d2 : decide (k < 0) = true := decide_eq_true (by omega))
        clear hbad
        go_enter Tryd.func6, Tryd.ntmps6
        go_wp2_with fail
        refine HS.out.mono ?_
        rintro e w1 ⟨rfl, b1⟩
        go_wp2_with fail
        refine (HN.out w1 b1).mono ?_
        rintro e w2 ⟨p, v, Ds2, rfl, hTO, b2⟩
        rw [errV_zero]
        have bel := below_then b1 b1.size b2
        obtain ⟨L, c2, hv, hre, -⟩ := hTO.2.2.re
        rw [HNL.out] at hv
        subst hv
        go_wp2_with fail
        refine (HLA.out p L c2 Ds2 w2 hTO.tr hre).mono ?_
        rintro e w3 ⟨rfl, m, rfl⟩
        go_wp2_with fail
        refine (HAB.out _ p _ Ds2 _ (w2.drewN m) hTO).mono ?_
        rintro e w4 ⟨rfl, b4d⟩
        have b4 := below_of_drew b4d
        have hTO4 := (hTO.below b4).below (below_alloc w4 (.cells #[.int .i64 0, .int .i64 0, .int .i64 0, .slice none 0 0] 44))
        have hre4 := (hre.below b4).below (below_alloc w4 (.cells #[.int .i64 0, .int .i64 0, .int .i64 0, .slice none 0 0] 44))
        have bel4 := below_then (below_then bel bel.size b4) (below_then bel bel.size b4).size (below_alloc w4 (.cells #[.int .i64 0, .int .i64 0, .int .i64 0, .slice none 0 0] 44))
        go_wp2_with fail
        refine (HLA.out p L c2 Ds2 _ hTO4.tr hre4).mono ?_
        rintro e w5 ⟨rfl, m5, rfl⟩
        have hE5 := hE.below bel4
        have HC := Lib.hid (code_any 1 _ (show ErrT ((w4.alloc (.cells #[.int .i64 0, .int .i64 0, .int .i64 0, .slice none 0 0] 44)).drewN m5) from hE5))
        rw [errV_pos 1 (by decide)] at HC
        go_wp2_with fail
        refine HC.out.mono ?_
        rintro e w6 ⟨rfl, b6⟩
        go_wp2_with fail
        go_ret
        exact ⟨rfl, below_then (below_draws bel4 m5) (below_draws bel4 m5).size b6⟩
    · have hx1 : T ≤ x := by omega
      have hk1 : 0 ≤ k := by omega
      clear hbad
      have HAO := Lib.hid (fun base p v Ds Bv w1 (h : TO w1 base p i t v es Ds) (hB : RD w1 Bv bs) (hb : base ≤ w1.heap.size) => add_ok base p i t v es Ds x k Bv bs w1 h hB hi1 (by omega) (by have := HNL.out; omega) (by have := HNL.out; omega) hb (by rw [← HTT.out]; exact hx1) hk1)
      rw [HNL.out] at HAO
      have hs : i + (n : Int) + 1 = i + ((n + 1 : Nat) : Int) := by omega
      obtain ⟨es2, hes2⟩ : ∃ es2, es2 = es ++ [(⟨i + (n : Int) + 1, x, k, bs⟩ : Ent)] := ⟨_, rfl⟩
      have hlen : es2.length = n + 1 := by rw [hes2]; simp [HNL.out]
      have hgo : es2[n]? = some ⟨i + (n : Int) + 1, x, k, bs⟩ := by
        have := HNL.out; subst this; rw [hes2]; simp
      have hget : es2[n]'(by rw [hlen]; omega) = ⟨i + (n : Int) + 1, x, k, bs⟩ := by
        rw [List.getElem?_eq_getElem (by rw [hlen]; omega)] at hgo; exact Option.some.inj hgo
      have hend : endT t es2 = x := by rw [hes2]; exact endT_snoc _ _ _
      have HLA2 := Lib.hid (fun p L c Ds w1 (hT : TR w1 p i t (.slice L es2.length c)) (hr : RE w1 L es2 Ds) => last_any p i t L c es2 Ds w1 hT hr hi1 (by omega) (by rw [hlen]; omega))
      have HNW := Lib.hid (fun p L c Ds X Y w1 (hT : TR w1 p i t (.slice L es2.length c)) (hr : RE w1 L es2 Ds) => newer_any p i t L c es2 Ds X Y w1 hT hr hi1 (by omega) (by rw [hlen]; omega))
      have hnw1 : newerT i t es2 (i + (n : Int) + 1) x = true := by
        unfold newerT; rw [hend, hlen]; exact decide_eq_true (.inr ⟨rfl, by omega⟩)
      have hnw2 : newerT i t es2 (i + (n : Int)) T = false := by
        unfold newerT; rw [hend, hlen]; exact decide_eq_false (by omega)
      have HAT := Lib.hid (fun base p v Ds w1 (h : TO w1 base p i t v es2 Ds) => at_yes base p i t v es2 Ds n (i + (n : Int) + 1) w1 h hi1 (by omega) (by rw [hlen]; omega) (by rw [hlen]; omega) (by omega))
      rw [hget] at HAT
      rw [hend, hlen] at HLA2
      have e1 : i + ((n + 1 : Nat) : Int) = i + (n : Int) + 1 := by omega
      rw [e1] at HLA2
      have HES := Lib.hid hes2
      have HLN := Lib.hid hlen
      have HW1 := Lib.hid hnw1
      have HW2 := Lib.hid hnw2
      clear hs hget hgo hend hlen hes2 hnw1 hnw2 e1
      go_enter Tryd.func6, Tryd.ntmps6
      go_wp2_with fail
      refine HS.out.mono ?_
      rintro e w1 ⟨rfl, b1⟩
      go_wp2_with fail
      refine (HN.out w1 b1).mono ?_
      rintro e w2 ⟨p, v, Ds2, rfl, hTO0, b2⟩
      rw [errV_zero]
      have bel := below_then b1 b1.size b2
      have hTO := hTO0.lower (b' := w.heap.size) b1.size
      obtain ⟨L, c2, hv, hre, -⟩ := hTO.2.2.re
      rw [HNL.out] at hv
      subst hv
      clear hTO0 b1 b2
      go_wp2_with fail
      refine (HLA.out p L c2 Ds2 w2 hTO.tr hre).mono ?_
      rintro e w3 ⟨rfl, m, hw3⟩
      have bel3 : Below w.heap.size w w3 := by rw [hw3]; exact below_draws bel m
      have hTO3 : TO w3 w.heap.size p i t (.slice L n c2) es Ds2 := by rw [hw3]; exact hTO
      clear hw3 bel hTO hre
      go_wp2_with fail
      refine (HAO.out _ p _ Ds2 _ w3 hTO3 (HRB.out w3 bel3) bel3.size).mono ?_
      rintro e w4 ⟨D, v4, Ds4, rfl, od4, hTO4, hF4, -⟩
      rw [errV_zero]
      obtain ⟨DB, dc, hD, -⟩ := own_shape od4.1
      subst hD
      rw [← HES.out] at hTO4
      obtain ⟨L4, c4, hv4, hre4, -⟩ := hTO4.2.2.re
      rw [HLN.out] at hv4
      subst hv4
      have bel4 : Below w.heap.size w w4 := bel3.trans (hF4.below bel3.size (fun q hq => by rcases hq with rfl | hq; exact hTO3.1; exact (hTO3.2.2.2.1.lt q hq).1))
      clear hF4 bel3 hTO3
      have b5 := below_alloc w4 (.cells #[.int .i64 (i + (n : Int) + 1), .int .i64 x, .int .i64 k, .slice DB bs.length dc] 44)
      have hx5 := heap_alloc_new w4 (.cells #[.int .i64 (i + (n : Int) + 1), .int .i64 x, .int .i64 k, .slice DB bs.length dc] 44)
      have hTO5 := hTO4.below b5
      have hre5 := hre4.below b5
      have bel5 := below_then bel4 bel4.size b5
      have od5 := own_below od4.1 b5
      clear hTO4 hre4 b5 od4
      go_wp2_with fail
      refine (HLA2.out p L4 c4 Ds4 _ hTO5.tr hre5).mono ?_
      rintro e w6 ⟨rfl, m6, hw6⟩
      have bel6 : Below w.heap.size w w6 := by rw [hw6]; exact below_draws bel5 m6
      have hTO6 : TO w6 w.heap.size p i t (.slice L4 (n + 1) c4) es2 Ds4 := by rw [hw6]; exact hTO5
      have hx6 : w6.heap[w4.heap.size]? = some (.cells #[.int .i64 (i + (n : Int) + 1), .int .i64 x, .int .i64 k, .slice DB bs.length dc] 44 (0, 0)) := by rw [hw6]; exact hx5
      have od6 : w6.ownsRow w3.heap.size 5 1 (.slice DB bs.length dc) bs.length (bv bs) := by rw [hw6]; exact od5
      clear hw6 bel5 hTO5 hx5 od5 hre5
      go_wp2_with fail
      refine (HAT.out _ p _ Ds4 w6 hTO6).mono ?_
      rintro e w7 ⟨D2, rfl, od7, b7⟩
      obtain ⟨DB2, dc2, hD2, -⟩ := own_shape od7.1
      simp only at hD2 od7
      subst hD2
      have bel7 := below_then bel6 bel6.size b7
      have hTO7 := hTO6.below b7
      have hx7 := (b7.block _ (Array.getElem?_eq_some_iff.1 hx6).1).trans hx6
      have od67 := own_below od6 b7
      have y1 := below_alloc w7 (.cells #[.int .i64 (i + (n : Int) + 1), .int .i64 x, .int .i64 k, .slice DB2 bs.length dc2] 44)
      have y2 := below_alloc (w7.alloc (.cells #[.int .i64 (i + (n : Int) + 1), .int .i64 x, .int .i64 k, .slice DB2 bs.length dc2] 44)) (.cells #[.int .i64 (i + (n : Int) + 1), .int .i64 x, .int .i64 k, .slice B bs.length cb] 44)
      have y12 := below_then y1 y1.size y2
      have hx8 := (y12.block _ (Array.getElem?_eq_some_iff.1 hx7).1).trans hx7
      obtain ⟨x0, x1, x2, x3⟩ := cells4 hx8
      clear hTO6 b7 hx6 hx7 od6 bel6
      go_wp2_with fail
      refine (same_pair w7 (i + (n : Int) + 1) x k bs _ _ _ (OD.rd ⟨od67, by omega⟩) (OD.rd od7) (HRB.out w7 bel7)).mono ?_
      rintro e w8 ⟨rfl, b8⟩
      have bel8 := below_then bel7 bel7.size b8
      have hTO8 := hTO7.below b8
      obtain ⟨L8, c8, hv8, hre8, -⟩ := hTO8.2.2.re
      rw [HLN.out] at hv8
      cases hv8
      clear x0 x1 x2 x3 hx8 y1 y2 y12 od67 od7 hTO7
      go_wp2_with fail
      refine (HNW.out p _ _ Ds4 (i + (n : Int) + 1) x w8 (by rw [HLN.out]; exact hTO8.tr) hre8).mono ?_
      rw [HW1.out]
      rintro e w9 ⟨rfl, m9, rfl⟩
      go_wp2_with fail
      refine (HNW.out p _ _ Ds4 (i + (n : Int)) T _ (by rw [HLN.out]; exact hTO8.tr.drewN) hre8.drewN).mono ?_
      rw [HW2.out]
      rintro e w10 ⟨rfl, m10, rfl⟩
      go_wp2_with fail
      go_ret
      exact ⟨rfl, below_draws bel8 _⟩
end Go.Proofs.YtkjpfjgaabbggaaDoor
