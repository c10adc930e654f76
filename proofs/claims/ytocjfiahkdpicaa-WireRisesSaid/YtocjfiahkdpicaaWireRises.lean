/- muntinlaw01.WireRises is true, whatever the two numbers: the law's own walk. -/
import Derived.Test.YtocjfiahkdpicaaNum
import Derived.Test.YtocjfiahkdpicaaRisesPlain
import Derived.OpenShut
set_option linter.unusedVariables false
set_option linter.unusedSimpArgs false
namespace Go.Proofs.Ytocjfiahkdpicaa
open Go.RowKit

set_option maxHeartbeats 1000000 in
theorem wireRises_walk (n m : Int) (w : World) (wn : (Lit.int .i64 n).wf = true) (wm : (Lit.int .i64 m).wf = true) :
    Calls Try.prog 4 #[.int .i64 n, .int .i64 m] w fun e w' => e = .returned (.bool true) ∧ Below w.heap.size w w' := by
  have bn := Lib.hid (bounds_i64 wn)
  have bm := Lib.hid (bounds_i64 wm)
  clear wn wm
  by_cases hn : n < 0
  · by_cases hm : m < 0
    · go_enter Try.func4, Try.ntmps4
      go_wp2_with fail
      refine (num_neg n _ hn).mono ?_
      rintro e w' ⟨rfl, rfl⟩
      go_wp2_with fail
      refine (num_neg m _ hm).mono ?_
      rintro e w' ⟨rfl, rfl⟩
      go_wp2_with fail
      go_ret
      exact ⟨rfl, Below.refl _ _⟩
    · obtain ⟨m, rfl⟩ := Int.eq_ofNat_of_zero_le (show 0 ≤ m by omega)
      go_enter Try.func4, Try.ntmps4
      go_wp2_with fail
      refine (num_neg n _ hn).mono ?_
      rintro e w' ⟨rfl, rfl⟩
      go_wp2_with fail
      refine (num_any m _ (Lib.hid (by have := bm.out; omega))).mono ?_
      rintro e w2 ⟨rfl, rfl⟩
      go_wp2_with fail
      go_ret
      exact ⟨rfl, below_alloc _ _⟩
  · obtain ⟨n, rfl⟩ := Int.eq_ofNat_of_zero_le (show 0 ≤ n by omega)
    by_cases hm : m < 0
    · go_enter Try.func4, Try.ntmps4
      go_wp2_with fail
      refine (num_any n _ (Lib.hid (by have := bn.out; omega))).mono ?_
      rintro e w2 ⟨rfl, rfl⟩
      go_wp2_with fail
      refine (num_neg m _ hm).mono ?_
      rintro e w' ⟨rfl, rfl⟩
      go_wp2_with fail
      go_ret
      exact ⟨rfl, below_alloc _ _⟩
    · obtain ⟨m, rfl⟩ := Int.eq_ofNat_of_zero_le (show 0 ≤ m by omega)
      obtain ⟨h1, h2⟩ := numb_less n m (by have := bn.out; omega) (by have := bm.out; omega)
      go_enter Try.func4, Try.ntmps4
      go_wp2_with fail
      refine (num_any n _ (Lib.hid (by have := bn.out; omega))).mono ?_
      rintro e w2 ⟨rfl, hw2⟩
      have b2 : Below w.heap.size w w2 := by rw [hw2]; exact below_alloc _ _
      have r2 : RB w2 (some ⟨w.heap.size, 0, none⟩) (numb n) := by rw [hw2]; exact RB.new0 _ _ _
      clear hw2
      go_wp2_with fail
      refine (num_any m _ (Lib.hid (by have := bm.out; omega))).mono ?_
      rintro e w3 ⟨rfl, hw3⟩
      have b3 : Below w2.heap.size w2 w3 := by rw [hw3]; exact below_alloc _ _
      have r3 : RB w3 (some ⟨w2.heap.size, 0, none⟩) (numb m) := by rw [hw3]; exact RB.new0 _ _ _
      clear hw3
      have s1 := run_str w3 _ (numb n) (numb n).length (r2.below b3) 9 Try.underlying9
      have s2 := run_str w3 _ (numb m) (numb m).length r3 9 Try.underlying9
      have b4 := below_then b2 b2.size b3
      clear b2 b3 r2 r3
      go_wp2_with fail
      go_ret
      refine ⟨?_, b4⟩
      have e1 : (((n : Int) == (m : Int)) == decide (n = m)) = true := by
        by_cases e : n = m
        · subst e; simp
        · have : ¬ ((n : Int) = (m : Int)) := by omega
          simp [e, this]
      show Ending.returned (Value.bool _) = _
      rw [e1]
end Go.Proofs.Ytocjfiahkdpicaa
