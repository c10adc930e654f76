/- (*muntinref21.Trail).At: the contract. -/
import Derived.Test.YtkjpfjgaabbggaaDoorUNew
import Derived.Test.YtkjpfjgaabbggaaDoorTAt
import Derived.Deep.CutRange
set_option linter.unusedVariables false
set_option linter.unusedSimpArgs false
namespace Go.Proofs.YtkjpfjgaabbggaaDoor
open Go.RowKit

set_option maxRecDepth 100000 in
set_option maxHeartbeats 4000000 in
theorem rat_no (base q : Nat) (i t : Int) (v : Value) (es : List Ent) (Ds : List Value) (x : Int) (w : World) (h : RTO w base q i t v es Ds) (h0 : 0 ≤ i) (h1 : i ≤ 10000000000000) (h2 : es.length ≤ 10000000000000) (hx : x ≤ i ∨ i + es.length < x) :
    Calls Tryd.prog 49 #[.pointer (some ⟨q, 0, none⟩), .int .i64 x] w fun e w' => e = .returned (.tuple #[.agg #[.int .i64 0, .int .i64 0, .int .i64 0, .slice none 0 0], .bool false]) ∧ Below w.heap.size w w' := by
  obtain ⟨L, c, rfl, hre, -⟩ := h.2.2.re
  obtain ⟨n, hn⟩ : ∃ n, Hid (es.length = n) := ⟨_, Lib.hid rfl⟩
  rw [hn.out] at h h2 hx
  have HT := Lib.hid h.tr
  have hb0 := below_alloc w (.cells #[.int .i64 0, .int .i64 0, .int .i64 0, .slice none 0 0] 44)
  have hr0 := heap_alloc_new w (.cells #[.int .i64 0, .int .i64 0, .int .i64 0, .slice none 0 0] 44)
  clear h hre
  by_cases hx1 : x ≤ i
  · have d1 : decide (x ≤ i) = true := decide_eq_true hx1
    go_enter Tryd.func49, Tryd.ntmps49
    go_wp2_with fail
    obtain ⟨W0, hW0⟩ : ∃ W0, W0 = w.alloc (.cells #[.int .i64 0, .int .i64 0, .int .i64 0, .slice none 0 0] 44) := ⟨_, rfl⟩
    rw [← hW0] at hb0 hr0 ⊢
    obtain ⟨k0, k1, k2⟩ := HT.out.below hb0
    have c0 : ∀ m, (W0.drewN m).cell? ⟨q, 0, none⟩ = some (.int .i64 i) := fun m => k0
    have c2 : ∀ m, (W0.drewN m).cell? ⟨q, 2, none⟩ = some (.slice L n c) := fun m => k2
    have z0 : ∀ m, (W0.drewN m).cell? ⟨w.heap.size, 0, none⟩ = some (.int .i64 0) := fun m => (cells_at hr0).1
    have z1 : ∀ m, (W0.drewN m).cell? ⟨w.heap.size, 1, none⟩ = some (.int .i64 0) := fun m => (cells_at hr0).2.1
    have z2 : ∀ m, (W0.drewN m).cell? ⟨w.heap.size, 2, none⟩ = some (.int .i64 0) := fun m => (cells_at hr0).2.2.1
    have z3 : ∀ m, (W0.drewN m).cell? ⟨w.heap.size, 3, none⟩ = some (.slice none 0 0) := fun m => (cells_at hr0).2.2.2.1
    have zf : ∀ m k, (W0.drewN m).frozen? ⟨w.heap.size, k, none⟩ = false := fun m => (cells_at hr0).2.2.2.2
    have HB := Lib.hid hb0
    clear hW0 hr0 hb0 k0 k1 k2
    go_big_quiet (fail)
    go_wp2_with fail
    exact bodyPost_ret (v := .tuple #[.agg #[.int .i64 0, .int .i64 0, .int .i64 0, .slice none 0 0], .bool false]) (by simp [results, Tryd.results49, go_sem, z0, z1, z2, z3]) rfl ⟨rfl, setE_below (below_drawn' HB.out) (Nat.le_refl _) _ _ _ _⟩
  · have hx2 : i + (n : Int) < x := by omega
    have d1 : decide (x ≤ i) = false := decide_eq_false hx1
    have d2 : decide (i + (n : Int) < x) = true := decide_eq_true hx2
    go_enter Tryd.func49, Tryd.ntmps49
    go_wp2_with fail
    obtain ⟨W0, hW0⟩ : ∃ W0, W0 = w.alloc (.cells #[.int .i64 0, .int .i64 0, .int .i64 0, .slice none 0 0] 44) := ⟨_, rfl⟩
    rw [← hW0] at hb0 hr0 ⊢
    obtain ⟨k0, k1, k2⟩ := HT.out.below hb0
    have c0 : ∀ m, (W0.drewN m).cell? ⟨q, 0, none⟩ = some (.int .i64 i) := fun m => k0
    have c2 : ∀ m, (W0.drewN m).cell? ⟨q, 2, none⟩ = some (.slice L n c) := fun m => k2
    have z0 : ∀ m, (W0.drewN m).cell? ⟨w.heap.size, 0, none⟩ = some (.int .i64 0) := fun m => (cells_at hr0).1
    have z1 : ∀ m, (W0.drewN m).cell? ⟨w.heap.size, 1, none⟩ = some (.int .i64 0) := fun m => (cells_at hr0).2.1
    have z2 : ∀ m, (W0.drewN m).cell? ⟨w.heap.size, 2, none⟩ = some (.int .i64 0) := fun m => (cells_at hr0).2.2.1
    have z3 : ∀ m, (W0.drewN m).cell? ⟨w.heap.size, 3, none⟩ = some (.slice none 0 0) := fun m => (cells_at hr0).2.2.2.1
    have zf : ∀ m k, (W0.drewN m).frozen? ⟨w.heap.size, k, none⟩ = false := fun m => (cells_at hr0).2.2.2.2
    have HB := Lib.hid hb0
    clear hW0 hr0 hb0 k0 k1 k2 hx
    go_big_quiet (fail)
    go_wp2_with fail
    exact bodyPost_ret (v := .tuple #[.agg #[.int .i64 0, .int .i64 0, .int .i64 0, .slice none 0 0], .bool false]) (by simp [results, Tryd.results49, go_sem, z0, z1, z2, z3]) rfl ⟨rfl, setE_below (below_drawn' HB.out) (Nat.le_refl _) _ _ _ _⟩

set_option maxRecDepth 100000 in
set_option maxHeartbeats 4000000 in
theorem rat_yes (base q : Nat) (i t : Int) (v : Value) (es : List Ent) (Ds : List Value) (j : Nat) (x : Int) (w : World) (h : RTO w base q i t v es Ds) (h0 : 0 ≤ i) (h1 : i ≤ 10000000000000) (h2 : es.length ≤ 10000000000000) (hj : j < es.length) (hx : x = i + 1 + j) :
    Calls Tryd.prog 49 #[.pointer (some ⟨q, 0, none⟩), .int .i64 x] w (AtYes w es[j]) := by
  obtain ⟨L, c, rfl, hre, -⟩ := h.2.2.re
  obtain ⟨n, hn⟩ : ∃ n, Hid (es.length = n) := ⟨_, Lib.hid rfl⟩
  obtain ⟨g, o, rfl, hg, -⟩ := hre.addr (by omega)
  have hjD : j < Ds.length := by rw [hre.1]; exact hj
  obtain ⟨D, hD⟩ : ∃ D, D = Ds[j] := ⟨_, rfl⟩
  obtain ⟨E, hE⟩ : ∃ E, E = es[j] := ⟨_, rfl⟩
  obtain ⟨g0, g1, g2, g3, grd⟩ := hre.at j hj
  rw [← hD] at g3 grd
  rw [← hE] at g0 g1 g2 grd ⊢
  obtain ⟨ei, et, ek, ed⟩ := E
  simp only at g0 g1 g2 grd ⊢
  obtain ⟨DB, dc, rfl, hrb, hdc, hdl, hDn⟩ := grd
  have hjn : j < n := by rw [← hn.out]; exact hj
  rw [hn.out] at h h2
  have HT := Lib.hid h.tr
  have hb0 := below_alloc w (.cells #[.int .i64 0, .int .i64 0, .int .i64 0, .slice none 0 0] 44)
  have hr0 := heap_alloc_new w (.cells #[.int .i64 0, .int .i64 0, .int .i64 0, .slice none 0 0] 44)
  have d1 : decide (x ≤ i) = false := decide_eq_false (by omega)
  have d2 : decide (i + (n : Int) < x) = false := decide_eq_false (by omega)
  have s1 : IntKind.i64.wrap (x - i) = ((j + 1 : Nat) : Int) := (IntWalk.i64_in (x - i) (by omega)).trans (by omega)
  have s2 : IntKind.i64.wrap (((j + 1 : Nat) : Int) - 1) = (j : Int) := (IntWalk.i64_in (((j + 1 : Nat) : Int) - 1) (by omega)).trans (by omega)
  have s3 : IntKind.i64.wrap (j : Int) = (j : Int) := IntWalk.i64_in _ (by omega)
  have hj1 : (j : Int) < (n : Int) := by omega
  have HX := Lib.hid hx
  have hxa : ¬ x ≤ i := by omega
  have hxb : ¬ i + (n : Int) < x := by omega
  clear h hre hD hE hj hx
  go_enter Tryd.func49, Tryd.ntmps49
  go_wp2_with fail
  obtain ⟨W0, hW0⟩ : ∃ W0, W0 = w.alloc (.cells #[.int .i64 0, .int .i64 0, .int .i64 0, .slice none 0 0] 44) := ⟨_, rfl⟩
  rw [← hW0] at hb0 hr0 ⊢
  obtain ⟨k0, k1, k2⟩ := HT.out.below hb0
  have c0 : ∀ m, (W0.drewN m).cell? ⟨q, 0, none⟩ = some (.int .i64 i) := fun m => k0
  have c2 : ∀ m, (W0.drewN m).cell? ⟨q, 2, none⟩ = some (.slice (some ⟨g, o, none⟩) n c) := fun m => k2
  have hS : W0.cell? ⟨q, 0, none⟩ = some (.int .i64 i) ∧ W0.cell? ⟨q, 2, none⟩ = some (.slice (some ⟨g, o, none⟩) n c) ∧ W0.cell? ⟨g, o + j * 4, none⟩ = some (.int .i64 ei) ∧ W0.cell? ⟨g, o + j * 4 + 1, none⟩ = some (.int .i64 et) ∧ W0.cell? ⟨g, o + j * 4 + 2, none⟩ = some (.int .i64 ek) ∧ W0.cell? ⟨g, o + j * 4 + 3, none⟩ = some (.slice DB ed.length dc) := ⟨k0, k2, below_cell hb0 g0, below_cell hb0 g1, below_cell hb0 g2, below_cell hb0 g3⟩
  have HB := Lib.hid hb0
  have HR0 := Lib.hid hr0
  have HRB := Lib.hid (hrb.below hb0)
  have HWZ := Lib.hid (show W0.heap.size = w.heap.size + 1 by rw [hW0]; simp)
  clear hW0 hr0 hb0 k0 k1 k2 g0 g1 g2 g3 hrb
  go_big_quiet (fail)
  go_wp2_with fail
  obtain ⟨W1, hW1⟩ : ∃ W1, W1 = W0.drewN nq := ⟨_, rfl⟩
  rw [← hW1]
  have hS1 : W1.drew.cell? ⟨q, 0, none⟩ = some (.int .i64 i) ∧ W1.drew.cell? ⟨q, 2, none⟩ = some (.slice (some ⟨g, o, none⟩) n c) ∧ W1.drew.cell? ⟨g, o + j * 4, none⟩ = some (.int .i64 ei) ∧ W1.drew.cell? ⟨g, o + j * 4 + 1, none⟩ = some (.int .i64 et) ∧ W1.drew.cell? ⟨g, o + j * 4 + 2, none⟩ = some (.int .i64 ek) ∧ W1.drew.cell? ⟨g, o + j * 4 + 3, none⟩ = some (.slice DB ed.length dc) := by rw [hW1]; exact hS
  have HB1 := Lib.hid (show Below w.heap.size w W1 by rw [hW1]; exact below_drawn' HB.out)
  have HR1 := Lib.hid (show W1.heap[w.heap.size]? = some (.cells #[.int .i64 0, .int .i64 0, .int .i64 0, .slice none 0 0] 44 (0, 0)) by rw [hW1]; exact HR0.out)
  have HRB1 := Lib.hid (show RB W1 DB ed by rw [hW1]; exact HRB.out.drewN _)
  have HWZ1 := Lib.hid (show W1.heap.size = w.heap.size + 1 by rw [hW1]; exact HWZ.out)
  clear hW1 hS c0 c2
  refine wp_region_Z (fun w' => w'.cell? ⟨q, 0, none⟩ = some (.int .i64 i) ∧ w'.cell? ⟨q, 2, none⟩ = some (.slice (some ⟨g, o, none⟩) n c) ∧ w'.cell? ⟨g, o + j * 4, none⟩ = some (.int .i64 ei) ∧ w'.cell? ⟨g, o + j * 4 + 1, none⟩ = some (.int .i64 et) ∧ w'.cell? ⟨g, o + j * 4 + 2, none⟩ = some (.int .i64 ek) ∧ w'.cell? ⟨g, o + j * 4 + 3, none⟩ = some (.slice DB ed.length dc)) 14 (by kernel_rfl) hS1 (fun hHeld => ?_)
  refine wpAnyZ_take (i := 0) (v := ?_) rfl (by kernel_rfl) (by kernel_rfl) (by kernel_rfl) (by kernel_rfl) (by decide) (fun _ _ _ h => h) (by rfl) ?_ (by assumption) ?_
  rotate_left
  · (intro w hSw; (try dsimp only at hSw); go_simp) <;> with_reducible rfl
  try simp only [Act.put, List.getElem_toArray, List.getElem_cons_zero, List.getElem_cons_succ, List.setIfInBounds_toArray, List.set_cons_zero, List.set_cons_succ]
  refine wpAnyZ_take (i := 1) (v := ?_) rfl (by kernel_rfl) (by kernel_rfl) (by kernel_rfl) (by kernel_rfl) (by decide) (fun _ _ _ h => h) (by rfl) ?_ (by assumption) ?_
  rotate_left
  · (intro w hSw; (try dsimp only at hSw); go_simp) <;> with_reducible rfl
  try simp only [Act.put, List.getElem_toArray, List.getElem_cons_zero, List.getElem_cons_succ, List.setIfInBounds_toArray, List.set_cons_zero, List.set_cons_succ]
  refine wpAnyZ_take (i := 2) (v := ?_) rfl (by kernel_rfl) (by kernel_rfl) (by kernel_rfl) (by kernel_rfl) (by decide) (fun _ _ _ h => h) (by rfl) ?_ (by assumption) ?_
  rotate_left
  · (intro w hSw; (try dsimp only at hSw); go_simp) <;> with_reducible rfl
  try simp only [Act.put, List.getElem_toArray, List.getElem_cons_zero, List.getElem_cons_succ, List.setIfInBounds_toArray, List.set_cons_zero, List.set_cons_succ]
  refine wpAnyZ_take (i := 3) (v := ?_) rfl (by kernel_rfl) (by kernel_rfl) (by kernel_rfl) (by kernel_rfl) (by decide) (fun _ _ _ h => h) (by rfl) ?_ (by assumption) ?_
  rotate_left
  · (intro w hSw; (try dsimp only at hSw); go_simp) <;> with_reducible rfl
  try simp only [Act.put, List.getElem_toArray, List.getElem_cons_zero, List.getElem_cons_succ, List.setIfInBounds_toArray, List.set_cons_zero, List.set_cons_succ]
  refine wpAnyZ_take (i := 4) (v := ?_) rfl (by kernel_rfl) (by kernel_rfl) (by kernel_rfl) (by kernel_rfl) (by decide) (fun _ _ _ h => h) (by rfl) ?_ (by assumption) ?_
  rotate_left
  · (intro w hSw; (try dsimp only at hSw); go_simp) <;> with_reducible rfl
  try simp only [Act.put, List.getElem_toArray, List.getElem_cons_zero, List.getElem_cons_succ, List.setIfInBounds_toArray, List.set_cons_zero, List.set_cons_succ]
  refine wpAnyZ_take (i := 5) (v := ?_) rfl (by kernel_rfl) (by kernel_rfl) (by kernel_rfl) (by kernel_rfl) (by decide) (fun _ _ _ h => h) (by rfl) ?_ (by assumption) ?_
  rotate_left
  · (intro w hSw; (try dsimp only at hSw); go_simp) <;> with_reducible rfl
  try simp only [Act.put, List.getElem_toArray, List.getElem_cons_zero, List.getElem_cons_succ, List.setIfInBounds_toArray, List.set_cons_zero, List.set_cons_succ]
  refine wpAnyZ_take (i := 6) (v := ?_) rfl (by kernel_rfl) (by kernel_rfl) (by kernel_rfl) (by kernel_rfl) (by decide) (fun _ _ _ h => h) (by rfl) ?_ (by assumption) ?_
  rotate_left
  · (intro w hSw; (try dsimp only at hSw); go_simp) <;> with_reducible rfl
  try simp only [Act.put, List.getElem_toArray, List.getElem_cons_zero, List.getElem_cons_succ, List.setIfInBounds_toArray, List.set_cons_zero, List.set_cons_succ]
  refine wpAnyZ_take (i := 7) (v := ?_) rfl (by kernel_rfl) (by kernel_rfl) (by kernel_rfl) (by kernel_rfl) (by decide) (fun _ _ _ h => h) (by rfl) ?_ (by assumption) ?_
  rotate_left
  · (intro w hSw; (try dsimp only at hSw); go_simp) <;> with_reducible rfl
  try simp only [Act.put, List.getElem_toArray, List.getElem_cons_zero, List.getElem_cons_succ, List.setIfInBounds_toArray, List.set_cons_zero, List.set_cons_succ]
  refine wpAnyZ_take (i := 8) (v := ?_) rfl (by kernel_rfl) (by kernel_rfl) (by kernel_rfl) (by kernel_rfl) (by decide) (fun _ _ _ h => h) (by rfl) ?_ (by assumption) ?_
  rotate_left
  · (intro w hSw; (try dsimp only at hSw); go_simp) <;> with_reducible rfl
  try simp only [Act.put, List.getElem_toArray, List.getElem_cons_zero, List.getElem_cons_succ, List.setIfInBounds_toArray, List.set_cons_zero, List.set_cons_succ]
  refine wpAnyZ_take (i := 9) (v := ?_) rfl (by kernel_rfl) (by kernel_rfl) (by kernel_rfl) (by kernel_rfl) (by decide) (fun _ _ _ h => h) (by rfl) ?_ (by assumption) ?_
  rotate_left
  · (intro w hSw; (try dsimp only at hSw); go_simp) <;> with_reducible rfl
  try simp only [Act.put, List.getElem_toArray, List.getElem_cons_zero, List.getElem_cons_succ, List.setIfInBounds_toArray, List.set_cons_zero, List.set_cons_succ]
  refine wpAnyZ_take (i := 10) (v := ?_) rfl (by kernel_rfl) (by kernel_rfl) (by kernel_rfl) (by kernel_rfl) (by decide) (fun _ _ _ h => h) (by rfl) ?_ (by assumption) ?_
  rotate_left
  · (intro w hSw; (try dsimp only at hSw); go_simp) <;> with_reducible rfl
  try simp only [Act.put, List.getElem_toArray, List.getElem_cons_zero, List.getElem_cons_succ, List.setIfInBounds_toArray, List.set_cons_zero, List.set_cons_succ]
  refine wpAnyZ_take (i := 11) (v := ?_) rfl (by kernel_rfl) (by kernel_rfl) (by kernel_rfl) (by kernel_rfl) (by decide) (fun _ _ _ h => h) (by rfl) ?_ (by assumption) ?_
  rotate_left
  · (intro w hSw; (try dsimp only at hSw); go_simp) <;> with_reducible rfl
  try simp only [Act.put, List.getElem_toArray, List.getElem_cons_zero, List.getElem_cons_succ, List.setIfInBounds_toArray, List.set_cons_zero, List.set_cons_succ]
  refine wpAnyZ_take (i := 12) (v := ?_) rfl (by kernel_rfl) (by kernel_rfl) (by kernel_rfl) (by kernel_rfl) (by decide) (fun _ _ _ h => h) (by rfl) ?_ (by assumption) ?_
  rotate_left
  · (intro w hSw; (try dsimp only at hSw); go_simp) <;> with_reducible rfl
  try simp only [Act.put, List.getElem_toArray, List.getElem_cons_zero, List.getElem_cons_succ, List.setIfInBounds_toArray, List.set_cons_zero, List.set_cons_succ]
  refine wpAnyZ_step (i := 13) rfl (by kernel_rfl) (fun K hK => ?_)
  go_simp
  have bA := below_alloc W1.drew (.cells #[.int .i64 0, .int .i64 0, .int .i64 0, .slice none 0 0] 44)
  have hblk := heap_alloc_new W1.drew (.cells #[.int .i64 0, .int .i64 0, .int .i64 0, .slice none 0 0] 44)
  obtain ⟨r0, r1, r2, r3, f0⟩ := cells_at hblk
  refine hK.out _ _ (fun _ => ⟨below_cell bA hS1.1, below_cell bA hS1.2.1, below_cell bA hS1.2.2.1, below_cell bA hS1.2.2.2.1, below_cell bA hS1.2.2.2.2.1, below_cell bA hS1.2.2.2.2.2⟩) ?_
  clear hK K
  try simp only [Act.put, List.getElem_toArray, List.getElem_cons_zero, List.getElem_cons_succ, List.setIfInBounds_toArray, List.set_cons_zero, List.set_cons_succ]
  refine wpAnyZ_step (i := 14) rfl (by kernel_rfl) (fun K hK => ?_)
  go_simp
  have hb8 : Below W1.heap.size W1 (W1.alloc (.cells #[.int .i64 ei, .int .i64 et, .int .i64 ek, .slice DB ed.length dc] 44)).drew := below_drawn' (below_alloc W1 (.cells #[.int .i64 ei, .int .i64 et, .int .i64 ek, .slice DB ed.length dc] 44)) (m := 1)
  have hk8 : (W1.alloc (.cells #[.int .i64 ei, .int .i64 et, .int .i64 ek, .slice DB ed.length dc] 44)).drew.heap[W1.heap.size]? = some (.cells #[.int .i64 ei, .int .i64 et, .int .i64 ek, .slice DB ed.length dc] 44 (0, 0)) := heap_alloc_new W1 (.cells #[.int .i64 ei, .int .i64 et, .int .i64 ek, .slice DB ed.length dc] 44)
  obtain ⟨W4, hW4⟩ : ∃ W4, W4 = (W1.alloc (.cells #[.int .i64 ei, .int .i64 et, .int .i64 ek, .slice DB ed.length dc] 44)).drew := ⟨_, rfl⟩
  rw [← hW4] at hb8 hk8 ⊢
  refine hK.out _ _ (fun h => absurd rfl h) ?_
  clear hK K r0 r1 r2 r3 f0 hblk hW4 bA hS1
  try simp only [Act.put, List.getElem_toArray, List.getElem_cons_zero, List.getElem_cons_succ, List.setIfInBounds_toArray, List.set_cons_zero, List.set_cons_succ]
  refine wpAnyZ_done (by kernel_rfl) ?_
  refine NoPanic.normal ?_
  have bB := below_alloc W4 (.cells #[] 5)
  obtain ⟨v6, w6, run6, own6, g6⟩ := run_append_bytes (w := W4.alloc (.cells #[] 5)) W4.heap.size (.slice (some ⟨W4.heap.size, 0, none⟩) 0 0) 0 [] ed DB ed.length dc (World.ownsRow_made W4 #[] 0 (Nat.le_refl _) (by unfold maxLen; omega) rfl) ((HRB1.out.below hb8).below bB) rfl hDn (by omega) bB.size
  obtain ⟨B2, cb2, rfl, -, -⟩ := own_shape own6
  rw [Nat.zero_add] at run6 own6
  rw [List.nil_append] at own6
  have b46 : Below W4.heap.size W4 w6 := bB.grown g6 bB.size (fun k hk => by
    have hk : W4.heap.size = k := Option.some.inj hk
    subst hk
    exact Nat.le_refl _)
  have hz41 : W1.heap.size < W4.heap.size := (Array.getElem?_eq_some_iff.1 hk8).1
  have hbx6 := (b46.block _ hz41).trans hk8
  have hrx6 := ((b46.block w.heap.size (by have := HWZ1.out; omega)).trans (hb8.block _ (by have := HWZ1.out; omega))).trans HR1.out
  obtain ⟨k0, k1, k2, k3, kf⟩ := cells_at hbx6
  have kf3 := kf 3
  have kW := (cells_at hk8).2.2.2.1
  have kWB := below_cell bB kW
  have hne : w.heap.size ≠ W1.heap.size := by have := HWZ1.out; omega
  have hk7 := heap_setCell_same w6 W1.heap.size 3 _ _ (.slice B2 ed.length cb2) hbx6
  have hr7 : (w6.setCell ⟨W1.heap.size, 3, none⟩ (.slice B2 ed.length cb2)).heap[w.heap.size]? = some (.cells #[.int .i64 0, .int .i64 0, .int .i64 0, .slice none 0 0] 44 (0, 0)) := (heap_setCell_other _ _ _ _ hne).trans hrx6
  have bw7 : Below w.heap.size w (w6.setCell ⟨W1.heap.size, 3, none⟩ (.slice B2 ed.length cb2)) := (below_then (below_then HB1.out HB1.out.size hb8) (by have := HWZ1.out; omega) b46).setCell (show w.heap.size ≤ W1.heap.size by have := HWZ1.out; omega) _
  have O7 : OD (w6.setCell ⟨W1.heap.size, 3, none⟩ (.slice B2 ed.length cb2)) W4.heap.size (.slice B2 ed.length cb2) ed := ⟨own_step own6 fun k hk => heap_setCell_other _ _ _ _ fun e => by
    have := (own6.lt k hk).1
    have e : k = W1.heap.size := e
    omega, hdl⟩
  have HZ4 := Lib.hid (show w.heap.size < W4.heap.size by have := HWZ1.out; omega)
  obtain ⟨y0, y1, y2, y3, yf⟩ := cells_at hr7
  have hk7' : (w6.setCell ⟨W1.heap.size, 3, none⟩ (.slice B2 ed.length cb2)).heap[W1.heap.size]? = some (.cells #[.int .i64 ei, .int .i64 et, .int .i64 ek, .slice B2 ed.length cb2] 44 (0, 0)) := hk7
  obtain ⟨x0, x1, x2, x3, -⟩ := cells_at hk7'
  have HB7 := Lib.hid bw7
  have HO7 := Lib.hid O7
  have HR7 := Lib.hid hr7
  have yf0 := yf 0
  have yf1 := yf 1
  have yf2 := yf 2
  have yf3 := yf 3
  clear own6 g6 b46 bB hb8 hk8 hbx6 hrx6 hk7 hk7' hr7 bw7 O7 kf yf hne hz41
  go_wp2_with (at_builtin; refine wpList_append_run rfl (.tmp 41) (.tmp 43) 42 rfl rfl _ _ rfl rfl _ _ run6 ?_)
  refine bodyPost_ret (v := .tuple #[.agg #[.int .i64 ei, .int .i64 et, .int .i64 ek, .slice B2 ed.length cb2], .bool true]) (by simp [results, Tryd.results49, go_sem, y0, y1, y2, y3]) rfl ⟨_, rfl, ?_, setE_below HB7.out (Nat.le_refl _) _ _ _ _⟩
  refine ⟨own_lower (own_step HO7.out.1 fun k hk => ?_) (Nat.le_of_lt HZ4.out), hdl⟩
  have hne : k ≠ w.heap.size := by have := (HO7.out.1.lt k hk).1; have := HZ4.out; omega
  rw [heap_setCell_other _ _ _ _ hne, heap_setCell_other _ _ _ _ hne, heap_setCell_other _ _ _ _ hne, heap_setCell_other _ _ _ _ hne]
end Go.Proofs.YtkjpfjgaabbggaaDoor
