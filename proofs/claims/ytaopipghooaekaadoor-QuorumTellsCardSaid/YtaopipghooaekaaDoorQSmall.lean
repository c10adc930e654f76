/- muntinlaw22.conf, .small: the contracts. -/
import Derived.Test.YtaopipghooaekaaDoorQAgreed
set_option linter.unusedVariables false
set_option linter.unusedSimpArgs false
namespace Go.Proofs.YtaopipghooaekaaDoor
open Go.RowKit

theorem conf_any (A : Option Addr) (n c : Nat) (w : World) :
    Calls Tryd.prog 28 #[.slice A n c] w fun e w' => e = .returned (.agg #[.slice A n c]) ∧ Below w.heap.size w w' := by
  have b := below_alloc w (.cells #[.slice A n c] 24)
  go_enter Tryd.func28, Tryd.ntmps28
  go_wp2_with fail
  exact bodyPost_ret (v := .agg #[.slice A n c]) (by simp [results, Tryd.results28, go_sem]) rfl ⟨rfl, b⟩

theorem change123 (A : Option Addr) (c : Nat) (w : World) (hr : RI w A [1, 2, 3]) :
    Calls Tryd.prog 7 #[.agg #[.slice A 3 c], .int .i64 2, .int .i64 3] w fun e w' => ∃ A6 c6, e = .returned (.tuple #[.agg #[.slice A6 2 c6], .nilIface]) ∧ RI w' A6 [1, 2] ∧ Below w.heap.size w w' := by
  refine (change_any A 3 c [1, 2, 3] 2 3 w hr rfl (by omega)).mono ?_
  rw [show changeT [1, 2, 3] 2 3 = (0, [1, 2]) by decide]
  rintro e w' ⟨V, rfl, ⟨A6, c6, rfl, h, -⟩, b⟩
  exact ⟨A6, c6, rfl, h, b⟩
theorem won123a : wonB [1, 2, 3] [1, 3, 3] = true := by decide
theorem won123b : wonB [1, 2, 3] [1, 1, 4] = false := by decide
theorem meet123 : meetB [1, 2, 3] [1, 2] = true := by decide
theorem sorted957 : sorted [9, 5, 7] = [5, 7, 9] := by
  simp [sorted, List.mergeSort, List.MergeSort.Internal.splitInTwo, List.merge]
theorem agreed123 : agreedT [1, 2, 3] [(1, 9), (2, 5), (3, 7)] = 7 := by
  rw [agreedT_ok (by decide), show [1, 2, 3].map (idxOf [(1, 9), (2, 5), (3, 7)]) = [9, 5, 7] by decide, sorted957]
  rfl

/-- what small's variables hold -/
structure Sm (B0 B1 B2 B3 : Nat) (A6 : Option Addr) (c6 : Nat) (w : World) : Prop where
  c1 : w.cell? ⟨B1, 0, none⟩ = some (.slice (some ⟨B0, 0, none⟩) 3 3)
  c2 : w.cell? ⟨B2, 0, none⟩ = some (.slice A6 2 c6)
  h1 : B1 < w.heap.size
  h2 : B2 < w.heap.size
  r1 : RI w (some ⟨B0, 0, none⟩) [1, 2, 3]
  r2 : RI w A6 [1, 2]
  r3 : RM w (some ⟨B3, 0, none⟩) [(1, 9), (2, 5), (3, 7)]
theorem Sm.below {B0 B1 B2 B3 : Nat} {A6 : Option Addr} {c6 : Nat} {w w' : World} (h : Sm B0 B1 B2 B3 A6 c6 w) (b : Below w.heap.size w w') : Sm B0 B1 B2 B3 A6 c6 w' :=
  ⟨by rw [b.cell (by exact h.h1)]; exact h.c1, by rw [b.cell (by exact h.h2)]; exact h.c2, Nat.lt_of_lt_of_le h.h1 b.size, Nat.lt_of_lt_of_le h.h2 b.size, h.r1.below b, h.r2.below b, h.r3.below b⟩
theorem new3 (w : World) (a b c : Int) (t : TypeId) : RI (w.alloc (.cells #[.int .i64 a, .int .i64 b, .int .i64 c] t)) (some ⟨w.heap.size, 0, none⟩) [a, b, c] := range_RI (alloc_range w (iv [a, b, c]) #[] t)
theorem new_m (w : World) (t : TypeId) : RM (w.alloc (.cells #[.int .i64 1, .int .i64 9, .int .i64 2, .int .i64 5, .int .i64 3, .int .i64 7] t)) (some ⟨w.heap.size, 0, none⟩) [(1, 9), (2, 5), (3, 7)] := by
  refine RM.mk' fun i hi => ?_
  rw [World.cell?_alloc_at _ _ _ _ rfl, World.cell?_alloc_at _ _ _ _ rfl]
  have : i = 0 ∨ i = 1 ∨ i = 2 := by simp at hi; omega
  rcases this with rfl | rfl | rfl <;> exact ⟨rfl, rfl⟩
theorem sm_new (w w1 w2 : World) (A6 : Option Addr) (c6 : Nat) (t te : TypeId) (hr1 : RI w2 (some ⟨w.heap.size, 0, none⟩) [1, 2, 3]) (hr2 : RI w2 A6 [1, 2]) (b : Below (w1.alloc (.cells #[.slice (some ⟨w.heap.size, 0, none⟩) 3 3] t)).heap.size (w1.alloc (.cells #[.slice (some ⟨w.heap.size, 0, none⟩) 3 3] t)) w2) :
    Sm w.heap.size w1.heap.size w2.heap.size (w2.heap.size + 1) A6 c6 ((w2.alloc (.cells #[.slice A6 2 c6] t)).alloc (.cells #[.int .i64 1, .int .i64 9, .int .i64 2, .int .i64 5, .int .i64 3, .int .i64 7] te)) := by
  have hs : w1.heap.size < w2.heap.size := by have := b.size; simp at this; omega
  refine ⟨?_, ?_, by simp; omega, by simp; omega, (hr1.alloc _).alloc _, (hr2.alloc _).alloc _, ?_⟩
  · rw [World.cell?_alloc_lt _ _ _ (by simp; omega), World.cell?_alloc_lt _ _ _ (by exact hs)]
    exact box_cell b
  · rw [World.cell?_alloc_lt _ _ _ (by simp), World.cell?_alloc_at _ _ _ _ rfl]
    rfl
  · have := new_m (w2.alloc (.cells #[.slice A6 2 c6] t)) te
    simpa using this

set_option maxRecDepth 100000 in
set_option maxHeartbeats 2000000 in
theorem small_any (w : World) :
    Calls Tryd.prog 5 #[] w fun e w' => e = .returned (.bool true) ∧ Below w.heap.size w w' := by
  go_enter Tryd.func5, Tryd.ntmps5
  go_wp2_with (first
    | (go_at_call 28; refine (conf_any _ _ _ _).mono ?_; rintro e w1 ⟨rfl, b1⟩; have r1 := (new3 w 1 2 3 3).below b1; have B1 := below_then (below_alloc w _) (below_alloc w _).size b1)
    | (go_at_call 7; refine (change123 _ _ _ (r1.alloc _)).mono ?_; rintro e w2 ⟨A6, c6, rfl, r2, b2⟩; have r12 := (r1.alloc _).below b2; have B2 := below_then (B1.alloc B1.size _) (B1.alloc B1.size _).size b2; have sm := sm_new w w1 w2 A6 c6 _ 57 r12 r2 b2; have q1 := box_cell b2; (have hs : w1.heap.size < w2.heap.size := by have := b2.size; simp at this; omega); (have hs2 : w1.heap.size < w2.heap.size + 1 := by omega); have B3 := (B2.alloc B2.size (.cells #[.slice A6 2 c6] 24)).alloc (B2.alloc B2.size (.cells #[.slice A6 2 c6] 24)).size (.cells #[.int .i64 1, .int .i64 9, .int .i64 2, .int .i64 5, .int .i64 3, .int .i64 7] 57))
    | (go_at_call 21; refine (won_any _ 3 3 [1, 2, 3] _ 3 3 [1, 3, 3] _ (sm.r1.alloc _) rfl (by omega) (by have := new3 ((w2.alloc (.cells #[.slice A6 2 c6] 24)).alloc (.cells #[.int .i64 1, .int .i64 9, .int .i64 2, .int .i64 5, .int .i64 3, .int .i64 7] 57)) 1 3 3 3; simpa using this) rfl (by omega)).mono ?_; rw [won123a]; rintro e w4 ⟨rfl, b4⟩; (have sm4 := (sm.below (below_alloc _ _)).below b4); have B4 := below_then (B3.alloc B3.size _) (B3.alloc B3.size _).size b4; clear sm B3 q1 hs hs2; have q1 := sm4.c1; have q2 := sm4.c2)
    | (go_at_call 21; refine (won_any _ 3 3 [1, 2, 3] _ 3 3 [1, 1, 4] _ (sm4.r1.alloc _) rfl (by omega) (new3 w4 1 1 4 3) rfl (by omega)).mono ?_; rw [won123b]; rintro e w5 ⟨rfl, b5⟩; (have sm5 := (sm4.below (below_alloc _ _)).below b5); have B5 := below_then (B4.alloc B4.size _) (B4.alloc B4.size _).size b5; clear q1 q2; have q1 := sm5.c1; have q2 := sm5.c2)
    | (go_at_call 25; refine (agreed_any _ 3 3 [1, 2, 3] _ 3 3 [(1, 9), (2, 5), (3, 7)] w5 sm5.r1 rfl (by omega) sm5.r3 rfl (by omega)).mono ?_; rw [agreed123]; rintro e w6 ⟨rfl, b6⟩; have sm6 := sm5.below b6; have B6 := below_then B5 B5.size b6; clear q1 q2; have q1 := sm6.c1; have q2 := sm6.c2)
    | (go_at_call 11; refine (meet_any _ 3 3 [1, 2, 3] _ 2 c6 [1, 2] w6 sm6.r1 rfl (by omega) sm6.r2 rfl (by omega)).mono ?_; rw [meet123]; rintro e w7 ⟨rfl, b7⟩; have B7 := below_then B6 B6.size b7))
  go_ret
  exact ⟨rfl, B7⟩
end Go.Proofs.YtaopipghooaekaaDoor
