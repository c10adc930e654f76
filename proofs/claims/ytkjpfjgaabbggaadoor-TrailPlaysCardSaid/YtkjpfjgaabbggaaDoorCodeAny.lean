/- api.Code: the contract. -/
import Derived.Test.YtkjpfjgaabbggaaDoorCode
set_option linter.unusedVariables false
set_option linter.unusedSimpArgs false
namespace Go.Proofs.YtkjpfjgaabbggaaDoor
open Go.RowKit

set_option maxHeartbeats 1000000 in
theorem code_any (k : Nat) (w : World) (hg : ErrT w) :
    Calls Tryd.prog 22 #[errV k] w fun e w' => e = .returned (.int .i64 k) ∧ Below w.heap.size w w' := by
  by_cases hk : k = 0
  · subst hk
    rw [errV_zero]
    go_enter Tryd.func22, Tryd.ntmps22
    go_wp2_with fail
    go_ret
    exact ⟨rfl, by first | exact Below.refl _ _ | exact below_alloc _ _⟩
  · rw [errV_pos _ hk]
    have hlt : 0 < w.heap.size := World.block_lt_of_cell? _ _ hg
    have hg1 := hg.below (below_alloc w (.cells #[.int .i64 0] 62))
    go_enter Tryd.func22, Tryd.ntmps22
    go_wp2_with fail
    refine (as_hit k ⟨w.heap.size, 0, none⟩ (.int .i64 0) _ hg1 (by simp) (by simp)).mono ?_
    rintro e w1 ⟨rfl, hw1⟩
    have b1 : Below w.heap.size w w1 := by
      rw [hw1]
      exact (((((below_alloc w _).alloc (by simp) _).alloc (by simp; omega) _).alloc (by simp; omega) _).alloc (by simp; omega) _).setCell (Nat.le_refl _) _
    have hc : w1.cell? ⟨w.heap.size, 0, none⟩ = some (.int .i64 k) := by
      rw [hw1]
      refine World.cell?_setCell_same _ _ _ (u := .int .i64 0) ?_
      rw [World.cell?_alloc_lt _ _ ⟨w.heap.size, 0, none⟩ (by simp; omega), World.cell?_alloc_lt _ _ ⟨w.heap.size, 0, none⟩ (by simp; omega), World.cell?_alloc_lt _ _ ⟨w.heap.size, 0, none⟩ (by simp; omega), World.cell?_alloc_lt _ _ ⟨w.heap.size, 0, none⟩ (by simp)]
      simp
    clear hw1
    go_wp2_with fail
    go_ret
    exact ⟨rfl, b1⟩
end Go.Proofs.YtkjpfjgaabbggaaDoor
