/- Frames one behind another, in plain Lean. -/
import Derived.Test.YtocjfiahkdpicaaDoorTurnedPlain
set_option linter.unusedVariables false
set_option linter.unusedSimpArgs false
namespace Go.Proofs.YtocjfiahkdpicaaDoor

theorem openN_pos (b : List UInt8) (h : openE b = 0) : 8 ≤ openN b ∧ openN b ≤ b.length := by
  unfold openN
  rw [if_pos h]
  unfold openE at h
  split at h
  · cases h
  · split at h
    · cases h
    · split at h
      · cases h
      · omega
/-- the frames that bytes begin with, where they end, and what is there -/
def scan (b : List UInt8) : List (List UInt8) × Nat × Nat :=
  if hb : b = [] then ([], 0, 0) else if he : openE b = 0 then
    (openP b :: (scan (b.drop (openN b))).1, openN b + (scan (b.drop (openN b))).2.1, (scan (b.drop (openN b))).2.2)
  else ([], 0, openE b)
termination_by b.length
decreasing_by
  all_goals
    have h1 := openN_pos b he
    have h2 : 0 < b.length := by rcases Nat.eq_zero_or_pos b.length with h | h; exact absurd (List.eq_nil_of_length_eq_zero h) hb; exact h
    simp only [List.length_drop]
    omega
theorem scan_nil : scan [] = ([], 0, 0) := by rw [scan]; simp
theorem scan_err (b : List UInt8) (hb : b ≠ []) (h : openE b ≠ 0) : scan b = ([], 0, openE b) := by rw [scan]; simp [hb, h]
theorem scan_ok (b : List UInt8) (hb : b ≠ []) (h : openE b = 0) : scan b = (openP b :: (scan (b.drop (openN b))).1, openN b + (scan (b.drop (openN b))).2.1, (scan (b.drop (openN b))).2.2) := by
  rw [scan]; simp [hb, h]
theorem scan_count (b : List UInt8) : 8 * (scan b).1.length ≤ (scan b).2.1 ∧ (scan b).2.1 ≤ b.length := by
  have key : ∀ m (b : List UInt8), b.length ≤ m → 8 * (scan b).1.length ≤ (scan b).2.1 ∧ (scan b).2.1 ≤ b.length := by
    intro m
    induction m with
    | zero => intro b h; have : b = [] := List.eq_nil_of_length_eq_zero (by omega)
              subst this; simp [scan_nil]
    | succ m ih =>
      intro b h
      by_cases hb : b = []
      · subst hb; simp [scan_nil]
      · by_cases he : openE b = 0
        · have h1 := openN_pos b he
          have h2 := ih (b.drop (openN b)) (by simp; omega)
          rw [scan_ok b hb he]
          simp only [List.length_cons]
          simp only [List.length_drop] at h2
          omega
        · rw [scan_err b hb he]; simp
  exact key _ b (Nat.le_refl _)
end Go.Proofs.YtocjfiahkdpicaaDoor
