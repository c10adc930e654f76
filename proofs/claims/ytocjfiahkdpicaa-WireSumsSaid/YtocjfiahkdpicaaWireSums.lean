/- muntinlaw01.WireSums is true, whatever the bytes: the law's own walk. -/
import Derived.Test.YtocjfiahkdpicaaSum
import Derived.Test.YtocjfiahkdpicaaSumRef
set_option linter.unusedVariables false
set_option linter.unusedSimpArgs false
namespace Go.Proofs.Ytocjfiahkdpicaa
open Go.RowKit

theorem crc_digits : crc [49, 50, 51, 52, 53, 54, 55, 56, 57] = 3808858755 := by decide +kernel

set_option maxHeartbeats 400000 in
theorem wireSums_walk (A : Option Addr) (c : Nat) (bs : List UInt8) (w : World) (hl : bs.length ≤ c) (hc : c ≤ 140737488351232) (hr : RB w A bs) :
    Calls Try.prog 3 #[.slice A bs.length c] w fun e w' => e = .returned (.bool true) ∧ Below w.heap.size w w' := by
  have hn : bs.length ≤ 140737488351232 := by omega
  go_enter Try.func3, Try.ntmps3
  go_wp2_with fail
  refine (lent_any A c bs w hn hr).mono ?_
  rintro e w1 ⟨rfl, hw1⟩
  have b1 : Below w.heap.size w w1 := by rw [hw1]; exact below_alloc _ _
  have r1 : RB w1 (some ⟨w.heap.size, 0, none⟩) bs := by rw [hw1]; exact RB.new _ _ _ _
  have c1 : w1.cell? ⟨w.heap.size, bs.length, none⟩ = some (.int .u8 77) := by rw [hw1]; exact cell_new _ _ _ _ _ (by simp)
  clear hw1
  have k1 := Lib.hid c1
  clear c1
  go_wp2_with fail
  refine (sum_any _ _ bs w1 hn r1).mono ?_
  rintro e w2 ⟨rfl, b2⟩
  have b2' := below_then b1 b1.size b2
  have r2 := r1.below b2
  have k2 := below_cell b2 k1.out
  have K2 := Lib.hid k2
  clear k1 k2 b2 r1 
  go_wp2_with fail
  refine (kept_any _ _ _ c bs w2 _ rfl r2 (hr.below b2') (Nat.le_refl _) hn K2.out).mono ?_
  rintro e w' ⟨rfl, rfl⟩
  go_wp2_with fail
  refine (refsum_any _ c bs _ hn (hr.below b2')).mono ?_
  rintro e w' ⟨rfl, rfl⟩
  go_wp2_with fail
  refine (sum_any _ _ [49, 50, 51, 52, 53, 54, 55, 56, 57] _ (by decide) (RB.block (heap_alloc_new _ _) rfl)).mono ?_
  rintro e w3 ⟨rfl, b3⟩
  rw [crc_digits]
  go_wp2_with fail
  go_ret
  exact ⟨rfl, below_then (b2'.trans ((below_alloc _ _).mono b2'.size)) (by simp; have := b2'.size; omega) b3⟩
end Go.Proofs.Ytocjfiahkdpicaa
