/- muntinlaw21.TrailMerged is true, whatever the input: the law's own walk. -/
import Derived.Test.YtkjpfjgaabbggaaDoorTSmall
import Derived.Test.YtkjpfjgaabbggaaDoorTMergeAll
import Derived.Test.YtkjpfjgaabbggaaDoorTFrom
import Derived.Test.YtkjpfjgaabbggaaDoorTSame
import Derived.Outline
import Derived.OpenShut
set_option linter.unusedVariables false
set_option linter.unusedSimpArgs false
namespace Go.Proofs.YtkjpfjgaabbggaaDoor
open Go.RowKit

set_option maxRecDepth 100000 in
set_option maxHeartbeats 2000000 in
theorem firsts_any (A : Option Addr) (n c : Nat) (q : Nat) (w : World) (hnc : n ≤ c) :
    Calls Tryd.prog 15 #[.slice A n c, .int .i64 (q : Int)] w fun e w' => e = .returned (.slice A (min n q) c) ∧ w' = w := by
  have hnc1 : (n : Int) ≤ (c : Int) := by omega
  by_cases h : q < n
  · have e1 : min n q = q := by omega
    have hq : (q : Int) ≤ (c : Int) := by omega
    rw [e1]
    go_enter Tryd.func15, Tryd.ntmps15
    go_wp2_with fail
    go_ret
    exact ⟨rfl, rfl⟩
  · have e1 : min n q = n := by omega
    rw [e1]
    go_enter Tryd.func15, Tryd.ntmps15
    go_wp2_with fail
    go_ret
    exact ⟨rfl, rfl⟩

theorem from_first (base p : Nat) (i t : Int) (v : Value) (es : List Ent) (Ds : List Value) (w : World) (h : TO w base p i t v es Ds) (h0 : 0 ≤ i) (h1 : i ≤ 10000000000000) (h2 : es.length ≤ 2932031007402) :
    Calls Tryd.prog 14 #[.pointer (some ⟨p, 0, none⟩), .int .i64 0, .int .i64 1000] w (FromPost w (es.take 1000)) := by
  by_cases hl : es.length = 0
  · have := from_far base p i t v es Ds 0 1000 w h h0 h1 (by omega) rfl (by omega) (by rw [if_pos h0]; omega)
    have e : fromT i es 0 1000 = es.take 1000 := by
      rw [List.eq_nil_of_length_eq_zero hl]; simp [fromT]
    rwa [e] at this
  · exact from_lo base p i t v es Ds 0 1000 0 w h h0 h1 h2 rfl (by omega) ⟨h0, rfl⟩ (by omega)
theorem OE.grownp {w w' : World} {base p : Nat} {v : Value} {es : List Ent} {Ds : List Value} (h : OE w base v es Ds) (hg : w.grownBy w' (some p)) (hp : p < base) : OE w' base v es Ds :=
  h.step (fun k hk => hg.block k (h.2.1.lt k hk).2 (by have := (h.2.1.lt k hk).1; simp; omega)) (fun D hD k hk => hg.block k (h.dlt D hD k hk).2 (by have := (h.dlt D hD k hk).1; simp; omega))

set_option maxRecDepth 100000 in
set_option maxHeartbeats 4000000 in
theorem trailMerged_err (i t : Int) (A : Option Addr) (c n : Nat) (es : List Ent) (Ds : List Value) (prev of : Int) (B : Option Addr) (cb k : Nat) (m : List Ent) (Dm : List Value) (w : World) (hnl : es.length = n) (hlc : n ≤ c) (hc : c * 48 ≤ 140737488351232) (hre : RE w A es Ds) (hA : A = none → c = 0)
    (hml : m.length = k) (hlb : k ≤ cb) (hcb : cb * 48 ≤ 140737488351232) (hrm : RE w B m Dm) (hB : B = none → cb = 0) (hE : ErrT w) (hok : okNew i t es = true) (hp0 : 0 ≤ prev) (hp1 : prev ≤ 1099511627776) (e : Nat) (he : e ≠ 0) (hM : mergeT i t es prev of m = (e, 0, es, [])) :
    Calls Tryd.prog 4 #[.int .i64 i, .int .i64 t, .slice A n c, .int .i64 prev, .int .i64 of, .slice B k cb] w fun e w' => e = .returned (.bool true) ∧ Below w.heap.size w w' := by
  have HS := Lib.hid (small_any w hE)
  have HN := Lib.hid (fun w1 (b : Below w.heap.size w w1) => new_ok A n c es Ds i t w1 (hre.below b) hnl (by omega) (by omega) (fun h => by have := hA h; omega) hok)
  simp only [okNew, Bool.and_eq_true, decide_eq_true_eq] at hok
  obtain ⟨⟨hi1, hi2, hi3⟩, -⟩ := hok
  have HM := Lib.hid (fun base p v Ds w1 (h : TO w1 base p i t v es Ds) (b : Below w.heap.size w w1) (hb : base ≤ w1.heap.size) => merge_any base p i t v es Ds B k cb m Dm prev of w1 h (hrm.below b) hml hlb (by omega) (fun h => by have := hB h; omega) hi1 (by omega) (by omega) (by omega) hb)
  rw [hM] at HM
  unfold MergePost at HM
  simp only [errV_pos e he] at HM
  have d1 : decide (prev < 0) = false := decide_eq_false (by omega)
  have d2 : decide (1099511627776 < prev) = false := decide_eq_false (by omega)
  have HRE := Lib.hid hre
  have HNL := Lib.hid hnl
  have hmn : min n 1000 = (es.take 1000).length := by rw [List.length_take, hnl]; omega
  have HMN := Lib.hid hmn
  clear hre hnl hml hrm hM hA hB hmn
  go_enter Tryd.func4, Tryd.ntmps4
  go_wp2_with fail
  refine HS.out.mono ?_
  rintro e w1 ⟨rfl, b1⟩
  go_wp2_with fail
  refine (HN.out w1 b1).mono ?_
  rintro e w2 ⟨p, v, Ds2, rfl, hTO0, b2⟩
  rw [errV_zero]
  have bel := below_then b1 b1.size b2
  have hTO := hTO0.lower (b' := w.heap.size) b1.size
  clear hTO0 b1 b2
  go_wp2_with fail
  refine (HM.out w.heap.size p v Ds2 w2 hTO bel bel.size).mono ?_
  rintro e w3 ⟨M, v3, Ds3, Dm3, rfl, hg3, hT3, om3⟩
  have hre3 := (HRE.out.below bel).grown hTO hg3
  have bel3 : Below w.heap.size w w3 := bel.grown hg3 bel.size (fun q hq => by cases hq; exact hTO.1)
  obtain ⟨MA, mc, hMv, -⟩ := om3.re
  subst hMv
  clear om3 hg3 hTO bel
  go_wp2_with fail
  refine (from_first w.heap.size p i t v3 es Ds3 w3 hT3 hi1 (by omega) (by have := HNL.out; omega)).mono ?_
  rintro e w4 ⟨v4, Ds4, rfl, om4, b4⟩
  obtain ⟨MA4, mc4, hMv4, hre4, -⟩ := om4.re
  rw [← HMN.out] at hMv4
  subst hMv4
  have hre34 := (hre3.below b4).take 1000
  have bel4 := below_then bel3 bel3.size b4
  clear om4 hre3 b4 bel3 hT3
  go_wp2_with fail
  refine (firsts_any A n c 1000 w4 hlc).mono ?_
  rintro e w5 ⟨rfl, rfl⟩
  go_wp2_with fail
  refine (same_any MA4 A (min n 1000) mc4 c (es.take 1000) Ds4 (Ds.take 1000) w5 hre4 hre34 HMN.out.symm (by omega)).mono ?_
  rintro e w6 ⟨rfl, m6, rfl⟩
  go_wp2_with fail
  go_ret
  exact ⟨rfl, below_draws bel4 m6⟩

set_option maxRecDepth 100000 in
set_option maxHeartbeats 4000000 in
theorem trailMerged_ok (i t : Int) (A : Option Addr) (c n : Nat) (es : List Ent) (Ds : List Value) (prev of : Int) (B : Option Addr) (cb k : Nat) (m : List Ent) (Dm : List Value) (w : World) (hnl : es.length = n) (hlc : n ≤ c) (hc : c * 48 ≤ 140737488351232) (hre : RE w A es Ds) (hA : A = none → c = 0)
    (hml : m.length = k) (hlb : k ≤ cb) (hcb : cb * 48 ≤ 140737488351232) (hrm : RE w B m Dm) (hB : B = none → cb = 0) (hE : ErrT w) (hok : okNew i t es = true) (hp0 : 0 ≤ prev) (hp1 : prev ≤ 1099511627776) (N : Int) (es2 more : List Ent) (hM : mergeT i t es prev of m = (0, N, es2, more)) :
    Calls Tryd.prog 4 #[.int .i64 i, .int .i64 t, .slice A n c, .int .i64 prev, .int .i64 of, .slice B k cb] w fun e w' => e = .returned (.bool true) ∧ Below w.heap.size w w' := by
  have HS := Lib.hid (small_any w hE)
  have HN := Lib.hid (fun w1 (b : Below w.heap.size w w1) => new_ok A n c es Ds i t w1 (hre.below b) hnl (by omega) (by omega) (fun h => by have := hA h; omega) hok)
  simp only [okNew, Bool.and_eq_true, decide_eq_true_eq] at hok
  obtain ⟨⟨hi1, hi2, hi3⟩, -⟩ := hok
  have hmd := merged_of hM
  have hes2 : es2.length ≤ 10000000000000 := by rcases hmd.size with h | h <;> omega
  have HM := Lib.hid (fun base p v Ds w1 (h : TO w1 base p i t v es Ds) (b : Below w.heap.size w w1) (hb : base ≤ w1.heap.size) => merge_any base p i t v es Ds B k cb m Dm prev of w1 h (hrm.below b) hml hlb (by omega) (fun h => by have := hB h; omega) hi1 (by omega) (by omega) (by omega) hb)
  rw [hM] at HM
  unfold MergePost at HM
  simp only [errV_zero] at HM
  have HM2 := Lib.hid (fun base p v Ds w1 (h : TO w1 base p i t v es2 Ds) (hr : RE w1 B m Dm) (hb : base ≤ w1.heap.size) => merge_any base p i t v es2 Ds B k cb m Dm prev of w1 h hr hml hlb (by omega) (fun h => by have := hB h; omega) hi1 (by omega) hes2 (by omega) hb)
  rw [merged_again hmd] at HM2
  unfold MergePost at HM2
  simp only [errV_zero] at HM2
  have HT := Lib.hid (fun p L c Ds w1 (hT : TR w1 p i t (.slice L es2.length c)) (hr : RE w1 L es2 Ds) => term_any p i t L c es2 Ds N w1 hT hr hi1 (by omega) hes2)
  have d1 : decide (prev < 0) = false := decide_eq_false (by omega)
  have d2 : decide (1099511627776 < prev) = false := decide_eq_false (by omega)
  have hN : N = prev + (k : Int) := by rw [hmd.num, hml]
  obtain ⟨r, hr⟩ : ∃ r, r = more.length := ⟨_, rfl⟩
  have hrk : r ≤ k := by have := hmd.news.2; omega
  have hnews : more = m.drop (k - r) := by have := hmd.news.1; rw [hml, ← hr] at this; exact this
  have hlast := merged_last hmd
  obtain ⟨lst, hls⟩ : ∃ lst, lst = endT of m := ⟨_, rfl⟩
  rw [← hls] at hlast
  have HLS := Lib.hid hls
  have HLA := Lib.hid hlast
  have HRM := Lib.hid hrm
  have HML := Lib.hid hml
  have HR := Lib.hid hr
  have HNW := Lib.hid hnews
  have hres : i ≤ N ∨ N < i := by omega
  clear hre hnl hml hrm hM hA hmd hlast hls hr hnews
  have hNk : N - prev = (k : Int) := by omega
  have HNN := Lib.hid hN
  clear hN
  have hcases : (N < i ∧ decide (N < i) = true) ∨ (decide (N < i) = false ∧ inT i es2 N = true ∧ termT i t es2 N = lst) := by
    by_cases h : N < i
    · exact .inl ⟨h, decide_eq_true h⟩
    · exact .inr ⟨decide_eq_false h, (HLA.out (by omega)).1, (HLA.out (by omega)).2⟩
  clear hres
  have hll : (lst == lst) = true := by simp
  by_cases hk : k = 0
  · subst hk
    have hNk0 : N - prev = 0 := by omega
    clear hNk
    have hlst : lst = of := by rw [HLS.out, List.eq_nil_of_length_eq_zero HML.out]; rfl
    obtain rfl : r = 0 := by omega
    subst hlst
    rcases hcases with ⟨hlt, dN⟩ | ⟨dN, e1, e2⟩
    · obtain ⟨e1, e2⟩ := termT_out i t es2 N (.inl hlt)
      rw [e1, e2] at HT
      clear e1 e2
      go_enter Tryd.func4, Tryd.ntmps4
      go_wp2_with fail
      refine HS.out.mono ?_
      rintro e w1 ⟨rfl, b1⟩
      go_wp2_with fail
      refine (HN.out w1 b1).mono ?_
      rintro e w2 ⟨p, v, Ds2, rfl, hTO0, b2⟩
      rw [errV_zero]
      have bel := below_then b1 b1.size b2
      have hTO := hTO0.lower (b' := w.heap.size) b1.size
      clear hTO0 b1 b2
      go_wp2_with fail
      refine (HM.out w.heap.size p v Ds2 w2 hTO bel bel.size).mono ?_
      rintro e w3 ⟨M, v3, Ds3, Dm3, rfl, hg3, hT3, om3⟩
      have hrm3 := (HRM.out.below bel).grown hTO hg3
      have bel3 : Below w.heap.size w w3 := bel.grown hg3 bel.size (fun q hq => by cases hq; exact hTO.1)
      obtain ⟨MA, mc, hMv, -⟩ := om3.re
      rw [← HR.out] at hMv
      subst hMv
      have hp2 := hTO.lt
      clear hg3 hTO bel
      go_wp2_with fail
      refine (HM2.out w.heap.size p v3 Ds3 w3 hT3 hrm3 bel3.size).mono ?_
      rintro e w4 ⟨M4, v4, Ds4, Dm4, rfl, hg4, hT4, om4⟩
      have hrm4 := hrm3.grown hT3 hg4
      have bel4 : Below w.heap.size w w4 := bel3.grown hg4 bel3.size (fun q hq => by cases hq; exact hT3.1)
      have om34 := om3.grownp hg4 hp2
      obtain ⟨MA4, mc4, hMv4, -⟩ := om4.re
      subst hMv4
      obtain ⟨L4, c4, hv4, hre4, -⟩ := hT4.2.2.re
      subst hv4
      clear om4 hg4 om3 hT3 bel3 hrm3
      go_wp2_with fail
      refine (HT.out p L4 c4 Ds4 w4 hT4.tr hre4).mono ?_
      rintro e w5 ⟨rfl, m5, rfl⟩
      go_wp2_with fail
      refine (same_any MA B 0 mc cb [] [] [] _ (RE.nil _ _) (RE.nil _ _) rfl (by omega)).mono ?_
      rintro e w6 ⟨rfl, m6, rfl⟩
      go_wp2_with fail
      go_ret
      exact ⟨rfl, below_draws bel4 _⟩
    · rw [e1, e2] at HT
      clear e1 e2
      go_enter Tryd.func4, Tryd.ntmps4
      go_wp2_with fail
      refine HS.out.mono ?_
      rintro e w1 ⟨rfl, b1⟩
      go_wp2_with fail
      refine (HN.out w1 b1).mono ?_
      rintro e w2 ⟨p, v, Ds2, rfl, hTO0, b2⟩
      rw [errV_zero]
      have bel := below_then b1 b1.size b2
      have hTO := hTO0.lower (b' := w.heap.size) b1.size
      clear hTO0 b1 b2
      go_wp2_with fail
      refine (HM.out w.heap.size p v Ds2 w2 hTO bel bel.size).mono ?_
      rintro e w3 ⟨M, v3, Ds3, Dm3, rfl, hg3, hT3, om3⟩
      have hrm3 := (HRM.out.below bel).grown hTO hg3
      have bel3 : Below w.heap.size w w3 := bel.grown hg3 bel.size (fun q hq => by cases hq; exact hTO.1)
      obtain ⟨MA, mc, hMv, -⟩ := om3.re
      rw [← HR.out] at hMv
      subst hMv
      have hp2 := hTO.lt
      clear hg3 hTO bel
      go_wp2_with fail
      refine (HM2.out w.heap.size p v3 Ds3 w3 hT3 hrm3 bel3.size).mono ?_
      rintro e w4 ⟨M4, v4, Ds4, Dm4, rfl, hg4, hT4, om4⟩
      have hrm4 := hrm3.grown hT3 hg4
      have bel4 : Below w.heap.size w w4 := bel3.grown hg4 bel3.size (fun q hq => by cases hq; exact hT3.1)
      have om34 := om3.grownp hg4 hp2
      obtain ⟨MA4, mc4, hMv4, -⟩ := om4.re
      subst hMv4
      obtain ⟨L4, c4, hv4, hre4, -⟩ := hT4.2.2.re
      subst hv4
      clear om4 hg4 om3 hT3 bel3 hrm3
      go_wp2_with fail
      refine (HT.out p L4 c4 Ds4 w4 hT4.tr hre4).mono ?_
      rintro e w5 ⟨rfl, m5, rfl⟩
      go_wp2_with fail
      refine (same_any MA B 0 mc cb [] [] [] _ (RE.nil _ _) (RE.nil _ _) rfl (by omega)).mono ?_
      rintro e w6 ⟨rfl, m6, rfl⟩
      go_wp2_with fail
      go_ret
      exact ⟨rfl, below_draws bel4 _⟩
  · obtain ⟨k', rfl⟩ : ∃ k', k = k' + 1 := ⟨k - 1, by omega⟩
    have hNk1 : N - prev = (k' : Int) + 1 := by omega
    clear hNk
    have hlk : k' < m.length := by rw [HML.out]; omega
    have hle : lst = m[k'].t := by rw [HLS.out, ← termN_end, HML.out, termN_succ _ _ _ hlk]
    have HLE := Lib.hid hle
    obtain ⟨g, o, rfl, hg, -⟩ := HRM.out.addr (by omega)
    obtain ⟨lo, hlo⟩ : ∃ lo : Nat, k' + 1 - r = lo := ⟨_, rfl⟩
    have hlo1 : (k' : Int) + 1 - (r : Int) = (lo : Int) := by omega
    have hlo2 : k' + 1 - lo = r := by omega
    have hlo3 : (lo : Int) ≤ (k' : Int) + 1 := by omega
    have hlo4 : (0 : Int) ≤ (lo : Int) := by omega
    have hrk1 : (r : Int) ≤ (k' : Int) + 1 := by omega
    obtain ⟨Aq, hAq⟩ : ∃ Aq : Option Addr, (if cb = lo then some ⟨g, o, none⟩ else some ⟨g, o + lo * 4, none⟩) = Aq := ⟨_, rfl⟩
    have HAQ := Lib.hid (fun w1 (h : RE w1 (some ⟨g, o, none⟩) m Dm) => show RE w1 Aq more (Dm.drop lo) by
      have hn := HNW.out
      rw [hlo] at hn
      by_cases hcc : cb = lo
      · have h1 : more = [] := List.eq_nil_of_length_eq_zero (by rw [← HR.out]; omega)
        have h2 : Dm.drop lo = [] := List.eq_nil_of_length_eq_zero (by rw [List.length_drop, HRM.out.1, HML.out]; omega)
        rw [h1, h2]
        exact RE.nil _ _
      · rw [if_neg hcc] at hAq
        rw [← hAq, hn]
        exact h.drop lo)
    clear hle
    rcases hcases with ⟨hlt, dN⟩ | ⟨dN, e1, e2⟩
    · obtain ⟨e1, e2⟩ := termT_out i t es2 N (.inl hlt)
      rw [e1, e2] at HT
      clear e1 e2
      go_enter Tryd.func4, Tryd.ntmps4
      go_wp2_with fail
      refine HS.out.mono ?_
      rintro e w1 ⟨rfl, b1⟩
      go_wp2_with fail
      refine (HN.out w1 b1).mono ?_
      rintro e w2 ⟨p, v, Ds2, rfl, hTO0, b2⟩
      rw [errV_zero]
      have bel := below_then b1 b1.size b2
      have hTO := hTO0.lower (b' := w.heap.size) b1.size
      clear hTO0 b1 b2
      go_wp2_with fail
      refine (HM.out w.heap.size p v Ds2 w2 hTO bel bel.size).mono ?_
      rintro e w3 ⟨M, v3, Ds3, Dm3, rfl, hg3, hT3, om3⟩
      have hrm3 := (HRM.out.below bel).grown hTO hg3
      have bel3 : Below w.heap.size w w3 := bel.grown hg3 bel.size (fun q hq => by cases hq; exact hTO.1)
      obtain ⟨MA, mc, hMv, hMre, -⟩ := om3.re
      rw [← HR.out] at hMv
      subst hMv
      have hp2 := hTO.lt
      clear hg3 hTO bel
      go_wp2_with fail
      refine (HM2.out w.heap.size p v3 Ds3 w3 hT3 hrm3 bel3.size).mono ?_
      rintro e w4 ⟨M4, v4, Ds4, Dm4, rfl, hg4, hT4, om4⟩
      have hrm4 := hrm3.grown hT3 hg4
      have bel4 : Below w.heap.size w w4 := bel3.grown hg4 bel3.size (fun q hq => by cases hq; exact hT3.1)
      have om34 := om3.grownp hg4 hp2
      obtain ⟨MA', mc', hMv', om34', -⟩ := om34.re
      rw [← HR.out] at hMv'
      cases hMv'
      obtain ⟨MA4, mc4, hMv4, -⟩ := om4.re
      subst hMv4
      obtain ⟨L4, c4, hv4, hre4, -⟩ := hT4.2.2.re
      subst hv4
      clear om4 hg4 om3 hT3 bel3 hrm3
      have hc4 := (hrm4.at k' (by rw [HML.out]; omega)).2.1
      rw [← HLE.out] at hc4
      go_wp2_with fail
      refine (HT.out p L4 c4 Ds4 w4 hT4.tr hre4).mono ?_
      rintro e w5 ⟨rfl, m5, rfl⟩
      go_wp2_with fail
      refine (same_any MA Aq r mc (cb - lo) more Dm3 (Dm.drop lo) _ om34'.drewN (HAQ.out _ hrm4).drewN HR.out.symm (by omega)).mono ?_
      rintro e w6 ⟨rfl, m6, rfl⟩
      go_wp2_with fail
      go_ret
      exact ⟨rfl, below_draws bel4 _⟩
    · rw [e1, e2] at HT
      clear e1 e2
      go_enter Tryd.func4, Tryd.ntmps4
      go_wp2_with fail
      refine HS.out.mono ?_
      rintro e w1 ⟨rfl, b1⟩
      go_wp2_with fail
      refine (HN.out w1 b1).mono ?_
      rintro e w2 ⟨p, v, Ds2, rfl, hTO0, b2⟩
      rw [errV_zero]
      have bel := below_then b1 b1.size b2
      have hTO := hTO0.lower (b' := w.heap.size) b1.size
      clear hTO0 b1 b2
      go_wp2_with fail
      refine (HM.out w.heap.size p v Ds2 w2 hTO bel bel.size).mono ?_
      rintro e w3 ⟨M, v3, Ds3, Dm3, rfl, hg3, hT3, om3⟩
      have hrm3 := (HRM.out.below bel).grown hTO hg3
      have bel3 : Below w.heap.size w w3 := bel.grown hg3 bel.size (fun q hq => by cases hq; exact hTO.1)
      obtain ⟨MA, mc, hMv, hMre, -⟩ := om3.re
      rw [← HR.out] at hMv
      subst hMv
      have hp2 := hTO.lt
      clear hg3 hTO bel
      go_wp2_with fail
      refine (HM2.out w.heap.size p v3 Ds3 w3 hT3 hrm3 bel3.size).mono ?_
      rintro e w4 ⟨M4, v4, Ds4, Dm4, rfl, hg4, hT4, om4⟩
      have hrm4 := hrm3.grown hT3 hg4
      have bel4 : Below w.heap.size w w4 := bel3.grown hg4 bel3.size (fun q hq => by cases hq; exact hT3.1)
      have om34 := om3.grownp hg4 hp2
      obtain ⟨MA', mc', hMv', om34', -⟩ := om34.re
      rw [← HR.out] at hMv'
      cases hMv'
      obtain ⟨MA4, mc4, hMv4, -⟩ := om4.re
      subst hMv4
      obtain ⟨L4, c4, hv4, hre4, -⟩ := hT4.2.2.re
      subst hv4
      clear om4 hg4 om3 hT3 bel3 hrm3
      have hc4 := (hrm4.at k' (by rw [HML.out]; omega)).2.1
      rw [← HLE.out] at hc4
      go_wp2_with fail
      refine (HT.out p L4 c4 Ds4 w4 hT4.tr hre4).mono ?_
      rintro e w5 ⟨rfl, m5, rfl⟩
      go_wp2_with fail
      refine (same_any MA Aq r mc (cb - lo) more Dm3 (Dm.drop lo) _ om34'.drewN (HAQ.out _ hrm4).drewN HR.out.symm (by omega)).mono ?_
      rintro e w6 ⟨rfl, m6, rfl⟩
      go_wp2_with fail
      go_ret
      exact ⟨rfl, below_draws bel4 _⟩

set_option maxRecDepth 100000 in
set_option maxHeartbeats 4000000 in
theorem trailMerged_walk (i t : Int) (A : Option Addr) (c : Nat) (es : List Ent) (Ds : List Value) (prev of : Int) (B : Option Addr) (cb : Nat) (m : List Ent) (Dm : List Value) (w : World) (wi : (Lit.int .i64 i).wf = true) (wt : (Lit.int .i64 t).wf = true) (hlc : es.length ≤ c) (hc : c * 48 ≤ 140737488351232) (hre : RE w A es Ds) (hA : A = none → c = 0)
    (wp : (Lit.int .i64 prev).wf = true) (wo : (Lit.int .i64 of).wf = true) (hlb : m.length ≤ cb) (hcb : cb * 48 ≤ 140737488351232) (hrm : RE w B m Dm) (hB : B = none → cb = 0) (hE : ErrT w) :
    Calls Tryd.prog 4 #[.int .i64 i, .int .i64 t, .slice A es.length c, .int .i64 prev, .int .i64 of, .slice B m.length cb] w fun e w' => e = .returned (.bool true) ∧ Below w.heap.size w w' := by
  cases hok : okNew i t es with
  | false =>
    have HS := Lib.hid (small_any w hE)
    obtain ⟨n, hn⟩ : ∃ n, n = es.length := ⟨_, rfl⟩
    obtain ⟨k, hk⟩ : ∃ k, k = m.length := ⟨_, rfl⟩
    rw [← hn] at hlc ⊢
    rw [← hk]
    have HN := Lib.hid (fun w1 (b : Below w.heap.size w w1) => new_bad A n c es Ds i t w1 (hre.below b) hn.symm (by omega) hok)
    rw [errV_pos 1 (by decide)] at HN
    clear hre hn hk hok hrm
    go_enter Tryd.func4, Tryd.ntmps4
    go_wp2_with fail
    refine HS.out.mono ?_
    rintro e w1 ⟨rfl, b1⟩
    go_wp2_with fail
    refine (HN.out w1 b1).mono ?_
    rintro e w2 ⟨rfl, b2⟩
    go_wp2_with fail
    go_ret
    exact ⟨rfl, below_then b1 b1.size b2⟩
  | true =>
    by_cases hp : prev < 0 ∨ 1099511627776 < prev
    · have HS := Lib.hid (small_any w hE)
      obtain ⟨n, hn⟩ : ∃ n, n = es.length := ⟨_, rfl⟩
      obtain ⟨k, hk⟩ : ∃ k, k = m.length := ⟨_, rfl⟩
      rw [← hn] at hlc ⊢
      rw [← hk]
      have HN := Lib.hid (fun w1 (b : Below w.heap.size w w1) => new_ok A n c es Ds i t w1 (hre.below b) hn.symm (by omega) (by omega) (fun h => by have := hA h; omega) hok)
      clear hre hn hk hok hrm
      by_cases hp1 : prev < 0
      all_goals
        first | have d1 : decide (prev < 0) = true := decide_eq_true hp1 | (have d1 : decide (prev < 0) = false := decide_eq_false hp1; have d2 : decide (1099511627776 < prev) = true := decide_eq_true (by omega))
        clear hp
        go_enter Tryd.func4, Tryd.ntmps4
        go_wp2_with fail
        refine HS.out.mono ?_
        rintro e w1 ⟨rfl, b1⟩
        go_wp2_with fail
        refine (HN.out w1 b1).mono ?_
        rintro e w2 ⟨p, v, Ds2, rfl, hTO0, b2⟩
        rw [errV_zero]
        go_wp2_with fail
        go_ret
        exact ⟨rfl, below_then b1 b1.size b2⟩
    · obtain ⟨⟨e, N, es2, more⟩, hM⟩ : ∃ R, mergeT i t es prev of m = R := ⟨_, rfl⟩
      by_cases he : e = 0
      · subst he
        exact trailMerged_ok i t A c es.length es Ds prev of B cb m.length m Dm w rfl hlc hc hre hA rfl hlb hcb hrm hB hE hok (by omega) (by omega) N es2 more hM
      · obtain ⟨rfl, rfl, rfl⟩ := merge_err hM he
        exact trailMerged_err i t A c es2.length es2 Ds prev of B cb m.length m Dm w rfl hlc hc hre hA rfl hlb hcb hrm hB hE hok (by omega) (by omega) e he hM
end Go.Proofs.YtkjpfjgaabbggaaDoor
