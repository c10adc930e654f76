/- muntinlaw01.WireTurned is true, whatever the bytes, the place and the change: the law's own walk. -/
import Derived.Test.YtocjfiahkdpicaaTurnedPlain
import Derived.OpenShut
set_option linter.unusedVariables false
set_option linter.unusedSimpArgs false
namespace Go.Proofs.Ytocjfiahkdpicaa
open Go.RowKit

set_option maxHeartbeats 1000000 in
theorem wireTurned_walk (A : Option Addr) (c : Nat) (bs : List UInt8) (k y : Int) (w : World) (hl : bs.length ≤ c) (hc : c ≤ 140737488351232) (hr : RB w A bs) (wk : (Lit.int .i64 k).wf = true) (wy : (Lit.int .u8 y).wf = true) :
    Calls Try.prog 5 #[.slice A bs.length c, .int .i64 k, .int .u8 y] w fun e w' => e = .returned (.bool true) ∧ Below w.heap.size w w' := by
  have by_ := bounds_u8 wy
  have bk := Lib.hid (bounds_i64 wk)
  clear wk wy
  obtain ⟨y, rfl⟩ : ∃ z : UInt8, y = (z.toNat : Int) := ⟨UInt8.ofNat y.toNat, by simp; omega⟩
  clear by_
  by_cases hlong : 1048576 < bs.length
  · have hdl : decide ((1048576 : Int) < (bs.length : Int)) = true := decide_eq_true (by omega)
    go_enter Try.func5, Try.ntmps5
    go_wp2_with fail
    refine (frame_long A bs.length c w hlong (by omega)).mono ?_
    rintro e w' ⟨rfl, rfl⟩
    go_wp2_with fail
    go_ret
    exact ⟨rfl, Below.refl _ _⟩
  · have hlen := frame_length bs
    obtain ⟨F, hF⟩ : ∃ F, F = frame bs := ⟨_, rfl⟩
    have HF := Lib.hid hF
    rw [← hF] at hlen
    by_cases hk0 : k < 0
    · go_enter Try.func5, Try.ntmps5
      go_wp2_with fail
      refine (frame_any A c bs w (by omega) hr).mono ?_
      rw [← hF, hlen]
      clear hF
      rintro e w1 ⟨rfl, g1, b1⟩
      clear g1 hlen
      go_wp2_with fail
      go_ret
      exact ⟨rfl, b1⟩
    · by_cases hy : y = 0
      · subst hy
        go_enter Try.func5, Try.ntmps5
        go_wp2_with fail
        refine (frame_any A c bs w (by omega) hr).mono ?_
        rw [← hF, hlen]
        clear hF
        rintro e w1 ⟨rfl, g1, b1⟩
        clear g1 hlen
        go_wp2_with fail
        go_ret
        exact ⟨rfl, b1⟩
      · obtain ⟨k, rfl⟩ := Int.eq_ofNat_of_zero_le (show 0 ≤ k by omega)
        obtain ⟨j, hj⟩ : ∃ j, j = k % F.length := ⟨_, rfl⟩
        have hjl : j < F.length := by rw [hj]; exact Nat.mod_lt _ (by omega)
        have hy0 : ((y.toNat : Int) == 0) = false := by
          rw [beq_eq_false_iff_ne]
          intro h
          exact hy (UInt8.toNat_inj.1 (by simpa using h))
        have hxor := bits_xor_u8 F[j] y
        have hne : F[j] ^^^ y ≠ F[j] := by
          intro h
          apply hy
          have h2 : F[j] ^^^ (F[j] ^^^ y) = F[j] ^^^ F[j] := by rw [h]
          simpa [← UInt8.xor_assoc] using h2
        obtain ⟨x, hx⟩ : ∃ x, x = F[j] ^^^ y := ⟨_, rfl⟩
        rw [← hx] at hne hxor
        have ht := turned bs (by omega) j (by rw [← hF]; exact hjl) x (by subst hF; exact hne)
        rw [← hF, hlen] at ht
        have HT := Lib.hid ht
        have HJ := Lib.hid hj
        clear ht hj hx hne
        rw [hlen] at hjl
        have hmod : ((k : Int) % ((bs.length : Int) + 8)) = (j : Int) := by
          have := HJ.out
          rw [hlen] at this
          rw [this]
          simp
        go_enter Try.func5, Try.ntmps5
        go_wp2_with fail
        refine (frame_any A c bs w (by omega) hr).mono ?_
        rw [← hF, hlen]
        clear hF
        rintro e w1 ⟨rfl, g1, b1⟩
        have c1 : w1.cell? ⟨w.heap.size, j, none⟩ = some (.int .u8 F[j].toNat) := by rw [cell_of_mem g1, bv_get]
        have f1 : w1.frozen? ⟨w.heap.size, j, none⟩ = false := unfrozen_of_mem g1 j
        have G1 := Lib.hid g1
        have HL := Lib.hid hlen
        clear g1 hlen
        go_wp2_with fail
        rw [setCell_mem G1.out]
        have e1 : (bv F).set j (.int .u8 x.toNat) = bv (F.set j x) := by simp [bv, List.map_set]
        have g2 := row_heap G1.out (bv (F.set j x))
        have b2 : Below w.heap.size w (w1.setRow w.heap.size (mem (bv (F.set j x)))) := below_setRow b1 (Nat.le_refl _) _
        rw [e1]
        obtain ⟨w2, hw2⟩ : ∃ w2, w2 = w1.setRow w.heap.size (mem (bv (F.set j x))) := ⟨_, rfl⟩
        rw [← hw2] at g2 b2 ⊢
        have r2 : RB w2 (some ⟨w.heap.size, 0, none⟩) (F.set j x) := RB.block g2 (by rw [mem_toList, List.take_of_length_le (by simp)])
        clear g2 e1 hw2 G1 b1 c1 f1
        refine (open_any _ (bs.length + 8) _ (F.set j x) w2 (by simp [HL.out]) (Nat.le_refl _) (by omega) r2).mono ?_
        rintro e w3 ⟨v, rfl, own, b3⟩
        have b4 := below_then b2 b2.size b3
        obtain ⟨B, c', rfl, _⟩ := own_shape own
        clear r2 b2 b3
        by_cases hE : openE (F.set j x) = 0
        · rcases HT.out with h1 | ⟨h1, h2⟩
          · exact absurd hE h1
          · rw [hE, errV_zero]
            obtain ⟨N, hN⟩ : ∃ N, N = openN (F.set j x) := ⟨_, rfl⟩
            rw [← hN] at h2 ⊢
            clear own hE hN
            have h3 : (j : Int) < 4 := by omega
            have h4 : (N : Int) < (bs.length : Int) + 8 := by omega
            go_wp2_with fail
            go_ret
            exact ⟨rfl, b4⟩
        · have e2 : openP (F.set j x) = [] := by simp [openP, hE]
          have e3 : openN (F.set j x) = 0 := by simp [openN, hE]
          rw [errV_pos _ hE, e2, e3]
          clear own e2 e3
          obtain ⟨E, hE2⟩ : ∃ E, E = openE (F.set j x) := ⟨_, rfl⟩
          rw [← hE2]
          clear hE2 hE
          go_wp2_with fail
          go_ret
          exact ⟨rfl, b4⟩
end Go.Proofs.Ytocjfiahkdpicaa
