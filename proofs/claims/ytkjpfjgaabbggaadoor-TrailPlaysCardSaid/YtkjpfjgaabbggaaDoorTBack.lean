/- trail.Back: the contract. -/
import Derived.Test.YtkjpfjgaabbggaaDoorTRead
import Derived.Deep.LoopGhost
import Derived.Outline
set_option linter.unusedVariables false
set_option linter.unusedSimpArgs false
namespace Go.Proofs.YtkjpfjgaabbggaaDoor
open Go.RowKit

theorem termT_in (i t : Int) (es : List Ent) (k : Nat) (h : k ≤ es.length) : termT i t es (i + k) = termN t es k ∧ inT i es (i + k) = true := by
  have hi : inT i es (i + k) = true := decide_eq_true (by omega)
  refine ⟨?_, hi⟩
  unfold termT
  rw [if_pos hi, show (i + (k : Int) - i).toNat = k by omega]

set_option maxRecDepth 100000 in
set_option maxHeartbeats 1000000 in
theorem back_any (p : Nat) (i t : Int) (L : Option Addr) (c : Nat) (es : List Ent) (Ds : List Value) (x : Int) (w : World) (h : TR w p i t (.slice L es.length c)) (hre : RE w L es Ds) (h0 : 0 ≤ i) (h1 : i ≤ 10000000000000) (h2 : es.length ≤ 10000000000000) :
    Calls Tryd.prog 11 #[.pointer (some ⟨p, 0, none⟩), .int .i64 x] w fun e w' => e = .returned (.int .i64 (backT i t es x)) ∧ ∃ m, w' = w.drewN m := by
  have HT := Lib.hid (fun x w => term_any p i t L c es Ds x w)
  have HE := Lib.hid (end_any p i t L es.length c)
  have HH := Lib.hid h
  have HR := Lib.hid hre
  have c0 := h.1
  by_cases hx1 : i + es.length < x
  · obtain ⟨e1, e2⟩ := termT_out i t es x (.inr hx1)
    have e3 := (backT_bounds i t es x).2.2.1 hx1
    rw [e3]
    have HT1 := HT.out x w h hre h0 h1 h2
    rw [e1, e2] at HT1
    clear e1 e2 e3 h hre
    go_enter Tryd.func11, Tryd.ntmps11
    go_wp2_with fail
    refine HT1.mono ?_
    rintro e w1 ⟨rfl, m, rfl⟩
    clear HT1
    go_wp2_with fail
    refine (HE.out _ HH.out.drewN h0 h1 h2).mono ?_
    rintro e w1 ⟨rfl, m2, rfl⟩
    go_wp2_with fail
    refine (HE.out _ HH.out.drewN h0 h1 h2).mono ?_
    rintro e w1 ⟨rfl, m3, rfl⟩
    go_wp2_with fail
    go_ret
    exact ⟨rfl, _, rfl⟩
  · by_cases hx2 : x < i
    · obtain ⟨e1, e2⟩ := termT_out i t es x (.inl hx2)
      have e3 := (backT_bounds i t es x).2.2.2.2 (by omega)
      rw [e3]
      have HT1 := HT.out x w h hre h0 h1 h2
      rw [e1, e2] at HT1
      clear e1 e2 e3 h hre
      go_enter Tryd.func11, Tryd.ntmps11
      go_wp2_with fail
      refine HT1.mono ?_
      rintro e w1 ⟨rfl, m, rfl⟩
      clear HT1
      go_wp2_with fail
      refine (HE.out _ HH.out.drewN h0 h1 h2).mono ?_
      rintro e w1 ⟨rfl, m2, rfl⟩
      go_wp2_with fail
      go_ret
      exact ⟨rfl, _, rfl⟩
    · obtain ⟨n, rfl⟩ : ∃ n : Nat, x = i + n := ⟨(x - i).toNat, by omega⟩
      have hn : n ≤ es.length := by omega
      obtain ⟨e1, e2⟩ := termT_in i t es n hn
      have e3 : backT i t es (i + n) = i + backN t es (termN t es n) n := by
        unfold backT
        rw [if_neg (by omega), if_neg (by omega), e1, show (i + (n : Int) - i).toNat = n by omega]
      rw [e3]
      have HT1 := HT.out (i + n) w h hre h0 h1 h2
      rw [e1, e2] at HT1
      obtain ⟨T, hT⟩ : ∃ T, T = termN t es n := ⟨_, rfl⟩
      rw [← hT] at HT1
      rw [← hT]
      clear e1 e2 e3 h hre hT
      go_enter Tryd.func11, Tryd.ntmps11
      go_wp2_with fail
      refine HT1.mono ?_
      rintro e w1 ⟨rfl, m, rfl⟩
      clear HT1
      go_wp2_with fail
      go_loopg [1] n (fun m ti wr => ∃ k : Nat, m = k ∧ k ≤ n ∧ ti = .int .i64 (i + k) ∧ Hid (backN t es T n = backN t es T k) ∧ ∃ q, wr = w.drewN q)
      case atStart => exact ⟨n, rfl, Nat.le_refl _, rfl, Lib.hid rfl, m, rfl⟩
      case round =>
        obtain ⟨k, hm, hk, rfl, HB, q, rfl⟩ := hrel
        cases k with
        | zero =>
          have e4 : i + ((0 : Nat) : Int) = i := by omega
          go_wp2_with fail
          go_ret
          exact ⟨by rw [HB.out]; simp [backN], _, rfl⟩
        | succ k =>
          obtain ⟨e1, e2⟩ := termT_in i t es k (by omega)
          have HT2 := HT.out (i + k) (w.drewN q) HH.out.drewN HR.out.drewN h0 h1 h2
          rw [e1, e2] at HT2
          have e4 : i + ((k + 1 : Nat) : Int) = i + k + 1 := by omega
          obtain ⟨U, hU⟩ : ∃ U, U = termN t es k := ⟨_, rfl⟩
          rw [← hU] at HT2
          have HU := Lib.hid hU
          have hgt : i < i + k + 1 := by omega
          clear e1 e2 hU
          rw [e4]
          clear e4
          by_cases hUT : U = T
          · have hb : (U != T) = false := by simp [hUT]
            have HUT := Lib.hid hUT
            clear hUT
            go_wp2_with fail
            refine HT2.mono ?_
            rintro e w1 ⟨rfl, m2, rfl⟩
            clear HT2
            go_wp2_with fail
            go_roundg k
            case measure => omega
            case rel =>
              refine ⟨k, rfl, by omega, rfl, ?_, _, rfl⟩
              have : backN t es T (k + 1) = backN t es T k := by simp only [backN]; rw [if_pos (by rw [← HU.out]; exact HUT.out)]
              exact HB.out.trans this
          · have hb : (U != T) = true := by simp [hUT]
            have HUT := Lib.hid hUT
            clear hUT
            go_wp2_with fail
            refine HT2.mono ?_
            rintro e w1 ⟨rfl, m2, rfl⟩
            clear HT2
            go_wp2_with fail
            go_ret
            refine ⟨?_, _, rfl⟩
            have : backN t es T (k + 1) = k := by simp only [backN]; rw [if_neg (by rw [← HU.out]; exact HUT.out)]
            rw [HB.out, this]
            rfl
end Go.Proofs.YtkjpfjgaabbggaaDoor
