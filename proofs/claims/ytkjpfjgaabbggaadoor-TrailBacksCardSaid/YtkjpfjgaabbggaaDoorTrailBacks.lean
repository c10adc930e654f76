/- muntinlaw21.TrailBacks is true, whatever the input: the law's own walk. -/
import Derived.Test.YtkjpfjgaabbggaaDoorTSmall
import Derived.Deep.LoopGhost
import Derived.Outline
import Derived.OpenShut
set_option linter.unusedVariables false
set_option linter.unusedSimpArgs false
namespace Go.Proofs.YtkjpfjgaabbggaaDoor
open Go.RowKit

set_option maxRecDepth 100000 in
set_option maxHeartbeats 4000000 in
theorem trailBacks_walk (i t : Int) (A : Option Addr) (c : Nat) (es : List Ent) (Ds : List Value) (x : Int) (w : World) (wi : (Lit.int .i64 i).wf = true) (wt : (Lit.int .i64 t).wf = true) (hlc : es.length ≤ c) (hc : c * 48 ≤ 140737488351232) (hre : RE w A es Ds) (hA : A = none → c = 0) (wx : (Lit.int .i64 x).wf = true) (hE : ErrT w) :
    Calls Tryd.prog 3 #[.int .i64 i, .int .i64 t, .slice A es.length c, .int .i64 x] w fun e w' => e = .returned (.bool true) ∧ Below w.heap.size w w' := by
  have HS := Lib.hid (small_any w hE)
  obtain ⟨n, hn⟩ : ∃ n, n = es.length := ⟨_, rfl⟩
  have hnl : es.length = n := hn.symm
  rw [hnl] at hlc ⊢
  by_cases hok : okNew i t es = false
  · have HN := Lib.hid (fun w1 (b : Below w.heap.size w w1) => new_bad A n c es Ds i t w1 (hre.below b) hnl (by omega) hok)
    rw [errV_pos 1 (by decide)] at HN
    clear hre hn hnl hok
    go_enter Tryd.func3, Tryd.ntmps3
    go_wp2_with fail
    refine HS.out.mono ?_
    rintro e w1 ⟨rfl, b1⟩
    go_wp2_with fail
    refine (HN.out w1 b1).mono ?_
    rintro e w2 ⟨rfl, b2⟩
    go_wp2_with fail
    go_ret
    exact ⟨rfl, below_then b1 b1.size b2⟩
  · have hok' : okNew i t es = true := by cases h : okNew i t es with | true => rfl | false => exact absurd h hok
    have HN := Lib.hid (fun w1 (b : Below w.heap.size w w1) => new_ok A n c es Ds i t w1 (hre.below b) hnl (by omega) (by omega) (fun h => by have := hA h; omega) hok')
    have hi := hok'
    simp only [okNew, Bool.and_eq_true, decide_eq_true_eq] at hi
    obtain ⟨⟨hi1, hi2, hi3⟩, -⟩ := hi
    clear hre hok hok'
    obtain ⟨B1, B2, B3, B4, B5⟩ := backT_bounds i t es x
    rw [hnl] at B2 B3 B4
    have HB := Lib.hid (fun p L c Ds y w1 (hT : TR w1 p i t (.slice L es.length c)) (hr : RE w1 L es Ds) => back_any p i t L c es Ds y w1 hT hr hi1 (by omega) (by omega))
    have HBx := Lib.hid (fun p L c Ds w1 hT hr => HB.out p L c Ds x w1 hT hr)
    obtain ⟨at0, hat⟩ : ∃ at0, at0 = backT i t es x := ⟨_, rfl⟩
    rw [← hat] at HBx B1 B2 B3 B4 B5
    have HNL := Lib.hid hnl
    clear hat hn hnl B4 B5
    have hlast : (x > i + n → at0 = i + n) := B3
    have HL := Lib.hid hlast
    clear hlast B3
    have hmain : ∀ (b1 b2 : Bool), b1 = decide (i + n < x) → b2 = (at0 != i + n) → (b1 && b2) = false := by
      intro b1 b2 e1 e2
      by_cases h : i + n < x
      · rw [e2, HL.out h]; simp
      · rw [e1, decide_eq_false h]; rfl
    have h1 : decide (at0 < i) = false := decide_eq_false (by omega)
    have h2 : decide (i + n < at0) = false := decide_eq_false (by omega)
    by_cases hx : i + n < x
    all_goals
      first | (have h3 := decide_eq_true hx; have h4 : (at0 != i + (n : Int)) = false := by rw [HL.out hx]; simp) | (have h3 := decide_eq_false hx)
      clear hmain
      go_enter Tryd.func3, Tryd.ntmps3
      go_wp2_with fail
      refine HS.out.mono ?_
      rintro e w1 ⟨rfl, b1⟩
      go_wp2_with fail
      refine (HN.out w1 b1).mono ?_
      rintro e w2 ⟨p, v, Ds2, rfl, hT, b2⟩
      rw [errV_zero]
      have bel := below_then b1 b1.size b2
      obtain ⟨L, c2, hv, hre, -⟩ := hT.2.2.re
      subst hv
      have hTR := hT.tr
      clear hT
      go_wp2_with fail
      refine (last_any p i t L c2 es Ds2 w2 hTR hre hi1 (by omega) (by have := HNL.out; omega)).mono ?_
      rw [HNL.out]
      rintro e w3 ⟨rfl, m, rfl⟩
      go_wp2_with fail
      refine (HBx.out p L c2 Ds2 _ hTR.drewN hre.drewN).mono ?_
      rintro e w3 ⟨rfl, m2, rfl⟩
      go_wp2_with fail
      have hB0 : Below w.heap.size w w2 := bel
      clear bel b1 b2
      obtain ⟨a0, rfl⟩ : ∃ a0 : Nat, at0 = i + a0 := ⟨(at0 - i).toNat, by omega⟩
      go_loopg [14, 15] a0 (fun mm at1 ki wr => ∃ (a k : Nat), mm = a ∧ a + k ≤ n ∧ at1 = .int .i64 (i + a) ∧ ki = .int .i64 k ∧ ∃ q, wr = w2.drewN q)
      case atStart => exact ⟨a0, 0, rfl, by omega, rfl, rfl, _, rfl⟩
      case round =>
        obtain ⟨a, k, hm, hk, rfl, rfl, q, rfl⟩ := hrel
        obtain ⟨C1, C2, C3, C4, C5⟩ := backT_bounds i t es (i + a)
        rw [HNL.out] at C2 C3 C4
        have HB1 := Lib.hid (HB.out p L c2 Ds2 (i + a) (w2.drewN q) hTR.drewN hre.drewN)
        obtain ⟨nx, hnx⟩ : ∃ nx, nx = backT i t es (i + a) := ⟨_, rfl⟩
        rw [← hnx] at HB1 C1 C2 C3 C4 C5
        clear hnx
        have hk1 : (k : Int) ≤ (n : Int) := by omega
        by_cases ha : a = 0
        · subst ha
          have e0 : i + ((0 : Nat) : Int) = i := by omega
          have hnx : nx = i := C5 (by omega)
          rw [hnx, e0] at HB1
          clear C1 C2 C3 C4 C5 hnx hk
          rw [e0]
          clear e0
          go_wp2_with fail
          refine HB1.out.mono ?_
          rintro e w5 ⟨rfl, m5, rfl⟩
          go_wp2_with fail
          go_ret
          exact ⟨rfl, below_draws hB0 _⟩
        · have hgt : i < i + (a : Int) := by omega
          have hlt : nx < i + (a : Int) := C4 hgt (by omega)
          have d1 : decide (i + (a : Int) ≤ nx) = false := decide_eq_false (by omega)
          have d2 : decide (nx < i) = false := decide_eq_false (by omega)
          obtain ⟨b, rfl⟩ : ∃ b : Nat, nx = i + b := ⟨(nx - i).toNat, by omega⟩
          clear C1 C2 C3 C4 C5
          go_wp2_with fail
          refine HB1.out.mono ?_
          rintro e w5 ⟨rfl, m5, rfl⟩
          go_wp2_with fail
          go_roundg b
          case measure => omega
          case rel => exact ⟨b, k + 1, rfl, by omega, rfl, by go_num, _, rfl⟩
end Go.Proofs.YtkjpfjgaabbggaaDoor
