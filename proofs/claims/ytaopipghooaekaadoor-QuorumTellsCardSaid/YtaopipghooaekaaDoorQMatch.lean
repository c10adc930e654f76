/- What a slice of matches reads as; slices.IndexFunc at them with Agreed's own test. -/
import Derived.Test.YtaopipghooaekaaDoorQChangeGood
set_option linter.unusedVariables false
set_option linter.unusedSimpArgs false
namespace Go.Proofs.YtaopipghooaekaaDoor
open Go.RowKit

/-- A slice's address reads as matches: nodes and indexes. -/
def RM (w : World) (A : Option Addr) (ms : List (Int × Int)) : Prop :=
  ∀ i (h : i < ms.length), ∃ a, A = some a ∧ w.cell? (a.add (i * 2)) = some (.int .i64 ms[i].1) ∧ w.cell? (a.add (i * 2 + 1)) = some (.int .i64 ms[i].2)
theorem RM.nil (w : World) (A : Option Addr) : RM w A [] := fun i h => absurd h (by simp)
theorem RM.addr {w : World} {A : Option Addr} {ms : List (Int × Int)} (h : RM w A ms) (h0 : 0 < ms.length) :
    ∃ b o, A = some ⟨b, o, none⟩ ∧ b < w.heap.size ∧ ∀ i (hi : i < ms.length), w.cell? ⟨b, o + i * 2, none⟩ = some (.int .i64 ms[i].1) ∧ w.cell? ⟨b, o + i * 2 + 1, none⟩ = some (.int .i64 ms[i].2) := by
  obtain ⟨⟨b, o, s⟩, rfl, hc, -⟩ := h 0 h0
  have hs : s = none := by
    cases s with
    | none => rfl
    | some x => simp [World.cell?, Addr.add] at hc; split at hc <;> simp_all
  subst hs
  refine ⟨b, o, rfl, ?_, fun i hi => ?_⟩
  · have := World.block_lt_of_cell? _ _ hc
    simpa [Addr.add] using this
  · obtain ⟨a, ha, hc, hd⟩ := h i hi
    obtain rfl := Option.some.inj ha
    rw [Addr.add_lit] at hc hd
    exact ⟨hc, by rw [Nat.add_assoc]; exact hd⟩
theorem RM.mk' {w : World} {b o : Nat} {ms : List (Int × Int)} (h : ∀ i (hi : i < ms.length), w.cell? ⟨b, o + i * 2, none⟩ = some (.int .i64 ms[i].1) ∧ w.cell? ⟨b, o + i * 2 + 1, none⟩ = some (.int .i64 ms[i].2)) : RM w (some ⟨b, o, none⟩) ms :=
  fun i hi => ⟨_, rfl, by rw [Addr.add_lit]; exact (h i hi).1, by rw [Addr.add_lit, ← Nat.add_assoc]; exact (h i hi).2⟩
theorem RM.below {w w' : World} {A : Option Addr} {ms : List (Int × Int)} (h : RM w A ms) (hb : Below w.heap.size w w') : RM w' A ms := by
  by_cases h0 : 0 < ms.length
  · obtain ⟨b, o, rfl, hlt, hc⟩ := h.addr h0
    exact RM.mk' fun i hi => ⟨by rw [hb.cell (by exact hlt)]; exact (hc i hi).1, by rw [hb.cell (by exact hlt)]; exact (hc i hi).2⟩
  · intro i hi
    omega

theorem test_any (a b v : Int) (q : Addr) (w : World) (hq : w.cell? q = some (.int .i64 v)) (hlt : q.block < w.heap.size) (hs : q.spot = none) :
    Calls Tryd.prog 45 #[.agg #[.int .i64 a, .int .i64 b], .pointer (some q)] w fun e w' => e = .returned (.bool (decide (a = v))) ∧ Below w.heap.size w w' := by
  obtain ⟨g, o, s⟩ := q
  simp only at hs hlt
  subst hs
  have b1 := below_alloc w (.cells #[.int .i64 a, .int .i64 b] 57)
  have hq2 : (w.alloc (.cells #[.int .i64 a, .int .i64 b] 57)).cell? ⟨g, o, none⟩ = some (.int .i64 v) := by
    rw [b1.cell (by exact hlt)]; exact hq
  have he : ((a : Int) == v) = decide (a = v) := by rw [Bool.eq_iff_iff]; simp
  go_enter Tryd.func45, Tryd.ntmps45
  go_wp2_with fail
  go_ret
  refine ⟨?_, b1⟩
  first | rfl | (rw [← he]; rfl)
end Go.Proofs.YtaopipghooaekaaDoor
