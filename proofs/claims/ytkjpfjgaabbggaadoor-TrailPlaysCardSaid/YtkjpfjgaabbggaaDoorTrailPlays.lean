/- muntinlaw21.TrailPlays: the walk. -/
import Derived.Test.YtkjpfjgaabbggaaDoorUTells
import Derived.Test.YtkjpfjgaabbggaaDoorUOpen
set_option linter.unusedVariables false
set_option linter.unusedSimpArgs false
namespace Go.Proofs.YtkjpfjgaabbggaaDoor
open Go.RowKit

theorem TO.lowerU {w : World} {base b' p : Nat} {i t : Int} {v : Value} {es : List Ent} {Ds : List Value} (h : TO w base p i t v es Ds) (hb : b' ≤ base) : TO w b' p i t v es Ds := ⟨Nat.le_trans hb h.1, h.2.1, h.2.2.lower hb⟩

set_option maxRecDepth 100000 in
set_option maxHeartbeats 8000000 in
theorem trailPlays_walk (i t : Int) (A : Option Addr) (c : Nat) (ls : List Ent) (Ls : List Value) (A2 : Option Addr) (n2 c2 : Nat) (av : List AW) (x y most : Int) (w : World) (hE : ErrT w) (wi : (Lit.int .i64 i).wf = true) (hre : RE w A ls Ls) (hlc : ls.length ≤ c) (hc : ls.length * 48 ≤ 140737488351232)
    (hr2 : RW w A2 av) (hl2 : av.length = n2) (hn2 : n2 ≤ 10000000000000) (wx : (Lit.int .i64 x).wf = true) :
    Calls Tryd.prog 7 #[.int .i64 i, .int .i64 t, .slice A ls.length c, .slice A2 n2 c2, .int .i64 x, .int .i64 y, .int .i64 most] w fun e w' => e = .returned (.bool true) ∧ Below w.heap.size w w' := by
  have HS := Lib.hid (small_any w hE)
  have HRE := Lib.hid hre
  have HR2 := Lib.hid hr2
  have HL2 := Lib.hid hl2
  have HE := Lib.hid hE
  have hw0 := Lib.hid (Nat.lt_of_le_of_lt (Nat.zero_le _) (World.block_lt_of_cell? _ _ hE))
  have HEB := Lib.hid fun (w' : World) (b : Below w.heap.size w w') => hE.below b
  clear hre hr2 hl2 hE
  cases hok : okNew i t ls with
  | false =>
    have HOK := Lib.hid hok
    clear hok
    go_enter Tryd.func7, Tryd.ntmps7
    go_wp2_with fail
    refine HS.out.mono ?_
    rintro e w1 ⟨rfl, b1⟩
    have B1 := Lib.hid b1
    clear b1
    go_wp2_with fail
    refine (lents_any A ls.length c ls Ls w1 (HRE.out.below B1.out) rfl hc).mono ?_
    rintro e w2 ⟨v2, Dn, rfl, le2, b2⟩
    obtain ⟨A3, c3, hv2, re2, hlc3, -, hA3⟩ := le2.oe.re
    subst hv2
    have B2 := Lib.hid (below_transB B1.out b2 (Nat.le_refl _))
    have HLE := Lib.hid le2
    have HZ12 := Lib.hid b2.size
    clear b2 le2
    have HNB := Lib.hid (new_bad A3 ls.length c3 ls Dn i t w2 re2 rfl (by omega) HOK.out)
    clear re2 hA3
    go_wp2_with fail
    refine HNB.out.mono ?_
    rintro e w3 ⟨rfl, b3⟩
    have B3 := Lib.hid (below_transB B2.out b3 (Nat.le_refl _))
    have le3 := HLE.out.below b3
    have HRN := Lib.hid (rnew_bad A ls.length c ls Ls i t w3 (HRE.out.below B3.out) rfl (by omega) wi HOK.out)
    have HKP := Lib.hid (kepts_any w1.heap.size A3 ls.length c3 A c ls Dn Ls w3 le3 (fun w' h => HRE.out.below (below_trans B3.out (h.mono B1.out.size))) rfl (by omega) (Nat.le_trans HZ12.out b3.size))
    have HIN := Lib.hid (show ∀ z, OwnT (.slice A3 ls.length c3) Dn z → w1.heap.size ≤ z from fun z o => o.elim (fun e => (le3.oe.2.1.lt z e).1) (fun ⟨D, hD, e⟩ => (le3.oe.dlt D hD z e).1))
    clear b3 le3
    go_wp2_with fail
    refine HRN.out.mono ?_
    rintro e w3' ⟨rfl, hw3⟩
    rw [hw3]
    clear hw3 w3'
    go_wp2_with fail
    refine HKP.out.mono ?_
    rintro e w4 ⟨rfl, f4⟩
    have B4 := Lib.hid (show Below w.heap.size w w4 from below_trans B3.out (f4.below B3.out.size fun z o => Nat.le_trans B1.out.size (HIN.out z o)))
    have HCD := Lib.hid (code_any 1 w4 (HEB.out w4 B4.out))
    clear f4
    go_wp2_with fail
    refine HCD.out.mono ?_
    rintro e w5 ⟨rfl, b5⟩
    go_wp2_with fail
    go_ret
    exact ⟨rfl, below_transB B4.out b5 (Nat.le_refl _)⟩
  | true =>
    have HOK := Lib.hid hok
    clear hok
    go_enter Tryd.func7, Tryd.ntmps7
    go_wp2_with fail
    refine HS.out.mono ?_
    rintro e w1 ⟨rfl, b1⟩
    have B1 := Lib.hid b1
    clear b1
    go_wp2_with fail
    refine (lents_any A ls.length c ls Ls w1 (HRE.out.below B1.out) rfl hc).mono ?_
    rintro e w2 ⟨v2, Dn, rfl, le2, b2⟩
    obtain ⟨A3, c3, hv2, re2, hlc3, -, hA3⟩ := le2.oe.re
    subst hv2
    have B2 := Lib.hid (below_transB B1.out b2 (Nat.le_refl _))
    have HLE := Lib.hid le2
    have HZ12 := Lib.hid b2.size
    clear b2 le2
    have hof := okNew_follows HOK.out
    have h0 : 0 ≤ i ∧ i ≤ 1099511627776 := ⟨hof.1, hof.2.2.1⟩
    have HFO := Lib.hid hof.2.2.2
    have HNB := Lib.hid (new_ok A3 ls.length c3 ls Dn i t w2 re2 rfl (by omega) (by omega) (fun e => by have := hA3 e; omega) HOK.out)
    clear re2 hA3 hof
    go_wp2_with fail
    refine HNB.out.mono ?_
    rintro e w3 ⟨p, v, Ds, rfl, to3, b3⟩
    obtain ⟨VA, vc, hv, -⟩ := to3.2.2.re
    subst hv
    have B3 := Lib.hid (below_transB B2.out b3 (Nat.le_refl _))
    have le3 := HLE.out.below b3
    have HRN := Lib.hid (rnew_ok A ls.length c ls Ls i t w3 (HRE.out.below B3.out) rfl (by omega) HOK.out)
    have HT3 := Lib.hid to3
    have HLE3 := Lib.hid le3
    have HZ23 := Lib.hid b3.size
    clear b3 le3 to3
    go_wp2_with fail
    refine HRN.out.mono ?_
    rintro e w4 ⟨q, u, Fs, rfl, rt4, b4⟩
    have B4 := Lib.hid (below_transB B3.out b4 (Nat.le_refl _))
    have le4 := HLE3.out.below b4
    have T4 := Lib.hid (HT3.out.below b4)
    have R4 := Lib.hid rt4
    have HZ34 := Lib.hid b4.size
    have HKP := Lib.hid (kepts_any w1.heap.size A3 ls.length c3 A c ls Dn Ls w4 le4 (fun w' h => HRE.out.below (below_trans B4.out (h.mono B1.out.size))) rfl (by omega) (Nat.le_trans HZ12.out (Nat.le_trans HZ23.out HZ34.out)))
    have HIN := Lib.hid (show ∀ z, OwnT (.slice A3 ls.length c3) Dn z → w1.heap.size ≤ z ∧ z < w2.heap.size from fun z o => o.elim (fun e => HLE.out.oe.2.1.lt z e) (fun ⟨D, hD, e⟩ => HLE.out.oe.dlt D hD z e))
    clear b4 le4 rt4
    go_wp2_with fail
    refine HKP.out.mono ?_
    rintro e w5 ⟨rfl, f5⟩
    have B5 := Lib.hid (show Below w.heap.size w w5 from below_trans B4.out (f5.below B4.out.size fun z o => Nat.le_trans B1.out.size (HIN.out z o).1))
    have hp2 := HT3.out.1
    have hq3 := R4.out.1
    have hz23 := HZ23.out
    have T5 := T4.out.stepF (f5.block p T4.out.lt (fun o => by have := (HIN.out p o).2; omega)) (fun z oz => f5.block z (T4.out.own oz).2 (fun o => by have h1 := (HIN.out z o).2; have h2 := (T4.out.own oz).1; omega))
    have R5 := R4.out.stepF (f5.block q R4.out.lt (fun o => by have := (HIN.out q o).2; omega)) (fun z oz => f5.block z (R4.out.own oz).2 (fun o => by have h1 := (HIN.out z o).2; have h2 := (R4.out.own oz).1; omega))
    have HD5 := Lib.hid (show Duo w5 w.heap.size p q i t (.slice VA ls.length vc) u ls Ds Fs from ⟨T5.lowerU B2.out.size, R5.lower B3.out.size, HFO.out, h0.1⟩)
    have HCD := Lib.hid (code_any 0 w5 (HEB.out w5 B5.out))
    clear f5 hp2 hq3 hz23 T5 R5
    go_wp2_with fail
    refine HCD.out.mono ?_
    rintro e w6 ⟨rfl, b6⟩
    have B6 := Lib.hid (below_transB B5.out b6 (Nat.le_refl _))
    have H0 := Lib.hid (show Duo w6 w.heap.size p q i t (.slice VA ls.length vc) u ls Ds Fs ∧ i + ls.length ≤ 4031542635093 + ((0 : Nat) : Int) ∧ Below w.heap.size w w6 from ⟨HD5.out.below b6, by omega, B6.out⟩)
    clear b6
    go_wp2_with fail
    go_loopg [22] 100 (fun gq ki wr => ∃ (k : Nat) (i t : Int) (v u : Value) (es : List Ent) (Ds Fs : List Value), gq = 100 - k ∧ k ≤ 100 ∧ ki = .int .i64 k ∧ Hid (Duo wr w.heap.size p q i t v u es Ds Fs ∧ i + es.length ≤ 4031542635093 + (k : Int) ∧ Below w.heap.size w wr))
    case atStart => exact ⟨0, _, _, _, _, _, _, _, rfl, by omega, rfl, H0⟩
    case round =>
      obtain ⟨k, i, t, v, u, es, Ds, Fs, hq, hk, rfl, HO⟩ := hrel
      clear H0
      by_cases hkn : k < n2 ∧ k < 100
      · obtain ⟨hk1, hk2⟩ := hkn
        have hk1i : (k : Int) < (n2 : Int) := by omega
        have hk2i : (k : Int) < 100 := by omega
        have hka : k < av.length := by rw [HL2.out]; exact hk1
        obtain ⟨g, o, rfl, hg, hcs⟩ := HR2.out.addr (by omega)
        obtain ⟨d0, d1, d2, d3, d4, d5⟩ := hcs k hka
        obtain ⟨_, -, -, -, -, -, -, -, hrd, hrl, hac, hacl, hwn⟩ := HR2.out k hka
        obtain ⟨a, ha⟩ : ∃ a, a = av[k] := ⟨_, rfl⟩
        rw [← ha] at d0 d1 d2 d3 d4 d5 hrd hrl hac hacl hwn
        obtain ⟨ad, an, am, ak, aB, acb, abs, aL, acl, als, aLs⟩ := a
        simp only at d0 d1 d2 d3 d4 d5 hrd hrl hac hacl hwn
        have HD1 := Lib.hid d1
        have hAC := Lib.hid (act_any w.heap.size p q i t v u es Ds Fs ad an am ak aB acb abs aL acl als aLs wr HO.out.1 HO.out.2.2.size (HEB.out wr HO.out.2.2) hw0.out (fun w' h => hrd.below (below_trans HO.out.2.2 h)) (fun w' h => hrl.below (below_trans HO.out.2.2 h)) hac (by omega) hwn (by have := HO.out.2.1; omega))
        have f0 := below_cell HO.out.2.2 d0
        have f1 := below_cell HO.out.2.2 d1
        have f2 := below_cell HO.out.2.2 d2
        have f3 := below_cell HO.out.2.2 d3
        have f4 := below_cell HO.out.2.2 d4
        have f5 := below_cell HO.out.2.2 d5
        have HWN := Lib.hid hwn
        clear hcs d0 d1 d2 d3 d4 d5 hrd hrl hac hacl ha hwn
        go_wp2_with fail
        refine hAC.out.mono ?_
        rintro e w7 ⟨rfl, i', t', v', u', es', Ds', Fs', D7, b7, hb7⟩
        have B7 := Lib.hid (below_trans HO.out.2.2 b7)
        have HD7 := Lib.hid D7
        have HBD := Lib.hid (show i' + (es'.length : Int) ≤ 4031542635093 + ((k + 1 : Nat) : Int) from by have := HO.out.2.1; rcases hb7 with h | h <;> omega)
        obtain ⟨UA, uc, hu', hru, -⟩ := D7.rt.2.2.re
        subst hu'
        have HLR := Lib.hid (rlast_any q i' t' UA uc es' Fs' w7 D7.rt.tr hru D7.fo D7.i0 (by have := HBD.out; have := D7.i0; omega) (by have := HBD.out; have := D7.i0; omega))
        obtain ⟨ET, hET⟩ : ∃ ET, ET = endT t' es' := ⟨_, rfl⟩
        rw [← hET] at HLR
        clear D7 b7 hb7 hru hET f0 f1 f2 f3 f4 f5
        go_wp2_with fail
        refine HLR.out.mono ?_
        rintro e w8 ⟨rfl, b8⟩
        have B8 := Lib.hid (below_transB B7.out b8 (Nat.le_refl _))
        have HD8 := Lib.hid (HD7.out.below b8)
        clear b8
        go_wp2_with fail
        refine (tells_any w.heap.size p q i' t' v' _ es' Ds' Fs' x y most w8 HD8.out (by have := HBD.out; omega) wx).mono ?_
        rintro e w9 ⟨rfl, b9⟩
        have B9 := Lib.hid (below_transB B8.out b9 (Nat.le_refl _))
        have HD9 := Lib.hid (HD8.out.below b9)
        have f1 := below_cell B9.out HD1.out
        clear b9
        go_wp2_with fail
        refine (tells_any w.heap.size p q i' t' v' _ es' Ds' Fs' an ET 3 w9 HD9.out (by have := HBD.out; omega) HWN.out).mono ?_
        rintro e w10 ⟨rfl, b10⟩
        have B10 := Lib.hid (below_transB B9.out b10 (Nat.le_refl _))
        have HD10 := Lib.hid (HD9.out.below b10)
        clear b10 f1
        go_wp2_with fail
        refine (from_any w.heap.size p i' t' v' es' Ds' 0 1000 w10 HD10.out.tt HD10.out.i0 (by have := HBD.out; omega) (by have := HBD.out; have := HD10.out.i0; omega) rfl).mono ?_
        rintro e w11 ⟨v11, D11, rfl, oe11, b11⟩
        obtain ⟨A11, c11, hv11, -⟩ := oe11.re
        subst hv11
        have B11 := Lib.hid (below_transB B10.out b11 (Nat.le_refl _))
        have HD11 := Lib.hid (HD10.out.below b11)
        have HO11 := Lib.hid oe11
        clear b11 oe11
        go_wp2_with fail
        refine (rfrom_any w.heap.size q i' t' _ es' Fs' 0 1000 w11 HD11.out.rt HD11.out.fo HD11.out.i0 (by have := HBD.out; omega) (by have := HBD.out; have := HD11.out.i0; omega)).mono ?_
        rintro e w12 ⟨v12, D12, rfl, oe12, b12⟩
        obtain ⟨A12, c12, hv12, hr12, -⟩ := oe12.re
        subst hv12
        have B12 := Lib.hid (below_transB B11.out b12 (Nat.le_refl _))
        have HD12 := Lib.hid (HD11.out.below b12)
        obtain ⟨A11', c11', hv11, hr11, -⟩ := (HO11.out.below b12).re
        injection hv11 with x1 _ x3
        subst x1
        subst x3
        have HSM := Lib.hid (same_any A11 A12 (fromT i' es' 0 1000).length c11 c12 (fromT i' es' 0 1000) D11 D12 w12 hr11 hr12 rfl (by
          unfold fromT
          rw [List.length_take]
          omega))
        clear b12 oe12 hr11 hr12
        go_wp2_with fail
        refine HSM.out.mono ?_
        rintro e w13 ⟨rfl, m13, hw13⟩
        have b13 : Below w12.heap.size w12 w13 := by rw [hw13]; exact draws_below
        have HN := Lib.hid (And.intro (HD12.out.below b13) (And.intro HBD.out (below_transB B12.out b13 (Nat.le_refl _))))
        clear hw13 b13
        go_wp2_with fail
        go_roundg (100 - (k + 1))
        case measure => omega
        case rel => exact ⟨k + 1, i', t', v', _, es', Ds', Fs', rfl, by omega, by go_num, HN⟩
      · have HTE := Lib.hid (tells_any w.heap.size p q i t v u es Ds Fs x y most wr HO.out.1 (by have := HO.out.2.1; omega) wx)
        by_cases hk1 : k < n2
        · have hk1i : (k : Int) < (n2 : Int) := by omega
          have hk2i : ¬ (k : Int) < 100 := by omega
          clear hkn
          go_wp2_with fail
          refine HTE.out.mono ?_
          rintro e w7 ⟨rfl, b7⟩
          go_wp2_with fail
          go_ret
          exact ⟨rfl, below_transB HO.out.2.2 b7 (Nat.le_refl _)⟩
        · have hk1i : ¬ (k : Int) < (n2 : Int) := by omega
          clear hkn
          go_wp2_with fail
          refine HTE.out.mono ?_
          rintro e w7 ⟨rfl, b7⟩
          go_wp2_with fail
          go_ret
          exact ⟨rfl, below_transB HO.out.2.2 b7 (Nat.le_refl _)⟩
theorem trailPlays_row (i t : Int) (A : Option Addr) (c : Nat) (ls : List Ent) (Ls : List Value) (A2 : Option Addr) (c2 : Nat) (av : List AW) (x y most : Int) (w : World) (wi : (Lit.int .i64 i).wf = true) (wt : (Lit.int .i64 t).wf = true) (hlc : ls.length ≤ c) (hc : c * 48 ≤ 140737488351232) (hre : RE w A ls Ls) (hA : A = none → c = 0)
    (hl2 : av.length ≤ c2) (hn2 : c2 * 80 ≤ 140737488351232) (hr2 : RW w A2 av) (wx : (Lit.int .i64 x).wf = true) (wy : (Lit.int .i64 y).wf = true) (wm : (Lit.int .i64 most).wf = true) (hE : ErrT w) :
    Calls Tryd.prog 7 #[.int .i64 i, .int .i64 t, .slice A ls.length c, .slice A2 av.length c2, .int .i64 x, .int .i64 y, .int .i64 most] w fun e w' => e = .returned (.bool true) ∧ Below w.heap.size w w' :=
  trailPlays_walk i t A c ls Ls A2 _ c2 av x y most w hE wi hre hlc (by omega) hr2 rfl (by omega) wx
end Go.Proofs.YtkjpfjgaabbggaaDoor
