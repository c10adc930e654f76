/- muntinref21: Last, Term, Newer, Back: the contracts. -/
import Derived.Test.YtkjpfjgaabbggaaDoorTBack
import Derived.Test.YtkjpfjgaabbggaaDoorTNew
import Derived.Test.YtkjpfjgaabbggaaDoorHeldZ
import Derived.Deep.LoopGhost
import Derived.BigQuiet
import Derived.Outline
set_option linter.unusedVariables false
set_option linter.unusedSimpArgs false
namespace Go.Proofs.YtkjpfjgaabbggaaDoor
open Go.RowKit

theorem endT_last (es : List Ent) (t : Int) (j : Nat) (h : es.length = j + 1) : endT t es = (es[j]'(by omega)).t := by
  have e := termN_end es t
  rw [← e]
  have e2 : termN t es es.length = termN t es (j + 1) := by rw [h]
  rw [e2]
  simp only [termN]
  rw [List.getElem?_eq_getElem (by omega)]
theorem draws_below {w : World} {m : Nat} : Below w.heap.size w (w.drewN m) := ⟨rfl, rfl, rfl, Nat.le_refl _, fun _ _ => rfl⟩
theorem below_drawn' {B : Nat} {w w' : World} (h : Below B w w') {m : Nat} : Below B w (w'.drewN m) := ⟨h.os, h.tape, h.output, h.size, h.block⟩
def setE (w : World) (r : Nat) (a b c d : Value) : World := (((w.setCell ⟨r, 0, none⟩ a).setCell ⟨r, 1, none⟩ b).setCell ⟨r, 2, none⟩ c).setCell ⟨r, 3, none⟩ d
theorem setE_below {B : Nat} {x w : World} (h : Below B x w) {r : Nat} (hr : B ≤ r) (a b c d : Value) : Below B x (setE w r a b c d) :=
  (((h.setCell hr _).setCell hr _).setCell hr _).setCell hr _
theorem setE_same {w : World} {r : Nat} {x y z u : Value} {t : TypeId} (h : w.heap[r]? = some (.cells #[x, y, z, u] t (0, 0))) (a b c d : Value) : (setE w r a b c d).heap[r]? = some (.cells #[a, b, c, d] t (0, 0)) := by
  unfold setE
  rw [heap_setCell_same _ _ _ _ _ _ (heap_setCell_same _ _ _ _ _ _ (heap_setCell_same _ _ _ _ _ _ (heap_setCell_same _ _ _ _ _ _ h)))]
  rfl
theorem cells_at {w : World} {r : Nat} {x y z u : Value} {t : TypeId} (h : w.heap[r]? = some (.cells #[x, y, z, u] t (0, 0))) : w.cell? ⟨r, 0, none⟩ = some x ∧ w.cell? ⟨r, 1, none⟩ = some y ∧ w.cell? ⟨r, 2, none⟩ = some z ∧ w.cell? ⟨r, 3, none⟩ = some u ∧ ∀ k, w.frozen? ⟨r, k, none⟩ = false := by
  refine ⟨?_, ?_, ?_, ?_, fun k => ?_⟩ <;> simp [World.cell?, World.frozen?, h]

set_option maxRecDepth 100000 in
set_option maxHeartbeats 4000000 in
theorem rlast_any (p : Nat) (i t : Int) (L : Option Addr) (c : Nat) (es : List Ent) (Ds : List Value) (w : World) (h : TR w p i t (.slice L es.length c)) (hre : RE w L es Ds) (hfo : follows i t es = true) (h0 : 0 ≤ i) (h1 : i ≤ 10000000000000) (h2 : es.length ≤ 10000000000000) :
    Calls Tryd.prog 28 #[.pointer (some ⟨p, 0, none⟩)] w fun e w' => e = .returned (.tuple #[.int .i64 (i + es.length), .int .i64 (endT t es)]) ∧ Below w.heap.size w w' := by
  obtain ⟨k0, k1, k2⟩ := h
  have c0 : ∀ m, (w.drewN m).cell? ⟨p, 0, none⟩ = some (.int .i64 i) := fun m => k0
  have c1 : ∀ m, (w.drewN m).cell? ⟨p, 1, none⟩ = some (.int .i64 t) := fun m => k1
  have c2 : ∀ m, (w.drewN m).cell? ⟨p, 2, none⟩ = some (.slice L es.length c) := fun m => k2
  rcases Nat.eq_zero_or_pos es.length with hz | hz
  · obtain rfl : es = [] := List.eq_nil_of_length_eq_zero hz
    simp only [List.length_nil] at *
    have e1 : i + ((0 : Nat) : Int) = i := by omega
    rw [e1]
    clear e1 hfo hre h2 hz k0 k1
    go_enter Tryd.func28, Tryd.ntmps28
    go_wp2_with fail
    go_big_quiet (fail)
    go_wp2_with fail
    go_ret2
    exact ⟨rfl, draws_below⟩
  · obtain ⟨j, hj⟩ : ∃ j, es.length = j + 1 := ⟨es.length - 1, by omega⟩
    have hjl : j < es.length := by omega
    obtain ⟨b, o, rfl, hb, -⟩ := hre.addr (by omega)
    obtain ⟨g0, g1, g2, g3, grd⟩ := hre.at j hjl
    have hE1 : es[j].i = i + es.length := by rw [follows_get hfo j hjl]; omega
    rw [← hE1, endT_last es t j hj]
    obtain ⟨n, hn⟩ : ∃ n, Hid (es.length = n) := ⟨_, Lib.hid rfl⟩
    have HN := hn.out
    rw [HN] at k2 c2 hj hjl h2
    obtain ⟨D, hD⟩ : ∃ D, D = Ds[j]'(by rw [hre.1]; omega) := ⟨_, rfl⟩
    rw [← hD] at g3 grd
    obtain ⟨E, hE⟩ : ∃ E, E = es[j] := ⟨_, rfl⟩
    rw [← hE] at g0 g1 g2 grd ⊢
    obtain ⟨ei, et, ek, ed⟩ := E
    simp only at g0 g1 g2 grd ⊢
    obtain ⟨DB, dc, rfl, -⟩ := grd
    have q0 : ∀ m, (w.drewN m).cell? ⟨b, o + j * 4, none⟩ = some (.int .i64 ei) := fun m => g0
    have q1 : ∀ m, (w.drewN m).cell? ⟨b, o + j * 4 + 1, none⟩ = some (.int .i64 et) := fun m => g1
    have q2 : ∀ m, (w.drewN m).cell? ⟨b, o + j * 4 + 2, none⟩ = some (.int .i64 ek) := fun m => g2
    have q3 : ∀ m, (w.drewN m).cell? ⟨b, o + j * 4 + 3, none⟩ = some (.slice DB ed.length dc) := fun m => g3
    have hnz : ((n : Int) == 0) = false := beq_eq_false_iff_ne.2 (by omega)
    have s1 : IntKind.i64.wrap ((n : Int) - 1) = (j : Int) := (IntWalk.i64_in _ (by omega)).trans (by omega)
    have hjn : (j : Int) < (n : Int) := by omega
    have hS0 : w.drew.cell? ⟨p, 2, none⟩ = some (.slice (some ⟨b, o, none⟩) n c) ∧ w.drew.cell? ⟨b, o + j * 4, none⟩ = some (.int .i64 ei) ∧ w.drew.cell? ⟨b, o + j * 4 + 1, none⟩ = some (.int .i64 et) ∧ w.drew.cell? ⟨b, o + j * 4 + 2, none⟩ = some (.int .i64 ek) ∧ w.drew.cell? ⟨b, o + j * 4 + 3, none⟩ = some (.slice DB ed.length dc) := ⟨k2, g0, g1, g2, g3⟩
    have HJ := Lib.hid hj
    clear hj hre hfo hE1 hD hE hn HN k0 k1 g0 g1 g2 g3 q0 q1 q2 q3
    go_enter Tryd.func28, Tryd.ntmps28
    go_wp2_with fail
    refine wp_region_Z (fun w' => w'.cell? ⟨p, 2, none⟩ = some (.slice (some ⟨b, o, none⟩) n c) ∧ w'.cell? ⟨b, o + j * 4, none⟩ = some (.int .i64 ei) ∧ w'.cell? ⟨b, o + j * 4 + 1, none⟩ = some (.int .i64 et) ∧ w'.cell? ⟨b, o + j * 4 + 2, none⟩ = some (.int .i64 ek) ∧ w'.cell? ⟨b, o + j * 4 + 3, none⟩ = some (.slice DB ed.length dc)) 13 (by kernel_rfl) hS0 (fun hHeld => ?_)
    refine wpAnyZ_take (i := 0) (v := ?_) rfl (by kernel_rfl) (by kernel_rfl) (by kernel_rfl) (by kernel_rfl) (by decide) (fun _ _ _ h => h) (by rfl) ?_ (by assumption) ?_
    rotate_left
    · (intro w hSw; (try dsimp only at hSw); go_simp) <;> with_reducible rfl
    try simp only [Act.put, List.getElem_toArray, List.getElem_cons_zero, List.getElem_cons_succ, List.setIfInBounds_toArray, List.set_cons_zero, List.set_cons_succ]
    refine wpAnyZ_take (i := 1) (v := ?_) rfl (by kernel_rfl) (by kernel_rfl) (by kernel_rfl) (by kernel_rfl) (by decide) (fun _ _ _ h => h) (by rfl) ?_ (by assumption) ?_
    rotate_left
    · (intro w hSw; (try dsimp only at hSw); go_simp) <;> with_reducible rfl
    try simp only [Act.put, List.getElem_toArray, List.getElem_cons_zero, List.getElem_cons_succ, List.setIfInBounds_toArray, List.set_cons_zero, List.set_cons_succ]
    refine wpAnyZ_take (i := 2) (v := ?_) rfl (by kernel_rfl) (by kernel_rfl) (by kernel_rfl) (by kernel_rfl) (by decide) (fun _ _ _ h => h) (by rfl) ?_ (by assumption) ?_
    rotate_left
    · (intro w hSw; (try dsimp only at hSw); go_simp) <;> with_reducible rfl
    try simp only [Act.put, List.getElem_toArray, List.getElem_cons_zero, List.getElem_cons_succ, List.setIfInBounds_toArray, List.set_cons_zero, List.set_cons_succ]
    refine wpAnyZ_take (i := 3) (v := ?_) rfl (by kernel_rfl) (by kernel_rfl) (by kernel_rfl) (by kernel_rfl) (by decide) (fun _ _ _ h => h) (by rfl) ?_ (by assumption) ?_
    rotate_left
    · (intro w hSw; (try dsimp only at hSw); go_simp) <;> with_reducible rfl
    try simp only [Act.put, List.getElem_toArray, List.getElem_cons_zero, List.getElem_cons_succ, List.setIfInBounds_toArray, List.set_cons_zero, List.set_cons_succ]
    refine wpAnyZ_take (i := 4) (v := ?_) rfl (by kernel_rfl) (by kernel_rfl) (by kernel_rfl) (by kernel_rfl) (by decide) (fun _ _ _ h => h) (by rfl) ?_ (by assumption) ?_
    rotate_left
    · (intro w hSw; (try dsimp only at hSw); go_simp) <;> with_reducible rfl
    try simp only [Act.put, List.getElem_toArray, List.getElem_cons_zero, List.getElem_cons_succ, List.setIfInBounds_toArray, List.set_cons_zero, List.set_cons_succ]
    refine wpAnyZ_take (i := 5) (v := ?_) rfl (by kernel_rfl) (by kernel_rfl) (by kernel_rfl) (by kernel_rfl) (by decide) (fun _ _ _ h => h) (by rfl) ?_ (by assumption) ?_
    rotate_left
    · (intro w hSw; (try dsimp only at hSw); go_simp) <;> with_reducible rfl
    try simp only [Act.put, List.getElem_toArray, List.getElem_cons_zero, List.getElem_cons_succ, List.setIfInBounds_toArray, List.set_cons_zero, List.set_cons_succ]
    refine wpAnyZ_take (i := 6) (v := ?_) rfl (by kernel_rfl) (by kernel_rfl) (by kernel_rfl) (by kernel_rfl) (by decide) (fun _ _ _ h => h) (by rfl) ?_ (by assumption) ?_
    rotate_left
    · (intro w hSw; (try dsimp only at hSw); go_simp) <;> with_reducible rfl
    try simp only [Act.put, List.getElem_toArray, List.getElem_cons_zero, List.getElem_cons_succ, List.setIfInBounds_toArray, List.set_cons_zero, List.set_cons_succ]
    refine wpAnyZ_take (i := 7) (v := ?_) rfl (by kernel_rfl) (by kernel_rfl) (by kernel_rfl) (by kernel_rfl) (by decide) (fun _ _ _ h => h) (by rfl) ?_ (by assumption) ?_
    rotate_left
    · (intro w hSw; (try dsimp only at hSw); go_simp) <;> with_reducible rfl
    try simp only [Act.put, List.getElem_toArray, List.getElem_cons_zero, List.getElem_cons_succ, List.setIfInBounds_toArray, List.set_cons_zero, List.set_cons_succ]
    refine wpAnyZ_take (i := 8) (v := ?_) rfl (by kernel_rfl) (by kernel_rfl) (by kernel_rfl) (by kernel_rfl) (by decide) (fun _ _ _ h => h) (by rfl) ?_ (by assumption) ?_
    rotate_left
    · (intro w hSw; (try dsimp only at hSw); go_simp) <;> with_reducible rfl
    try simp only [Act.put, List.getElem_toArray, List.getElem_cons_zero, List.getElem_cons_succ, List.setIfInBounds_toArray, List.set_cons_zero, List.set_cons_succ]
    refine wpAnyZ_take (i := 9) (v := ?_) rfl (by kernel_rfl) (by kernel_rfl) (by kernel_rfl) (by kernel_rfl) (by decide) (fun _ _ _ h => h) (by rfl) ?_ (by assumption) ?_
    rotate_left
    · (intro w hSw; (try dsimp only at hSw); go_simp) <;> with_reducible rfl
    try simp only [Act.put, List.getElem_toArray, List.getElem_cons_zero, List.getElem_cons_succ, List.setIfInBounds_toArray, List.set_cons_zero, List.set_cons_succ]
    refine wpAnyZ_take (i := 10) (v := ?_) rfl (by kernel_rfl) (by kernel_rfl) (by kernel_rfl) (by kernel_rfl) (by decide) (fun _ _ _ h => h) (by rfl) ?_ (by assumption) ?_
    rotate_left
    · (intro w hSw; (try dsimp only at hSw); go_simp) <;> with_reducible rfl
    try simp only [Act.put, List.getElem_toArray, List.getElem_cons_zero, List.getElem_cons_succ, List.setIfInBounds_toArray, List.set_cons_zero, List.set_cons_succ]
    refine wpAnyZ_take (i := 11) (v := ?_) rfl (by kernel_rfl) (by kernel_rfl) (by kernel_rfl) (by kernel_rfl) (by decide) (fun _ _ _ h => h) (by rfl) ?_ (by assumption) ?_
    rotate_left
    · (intro w hSw; (try dsimp only at hSw); go_simp) <;> with_reducible rfl
    try simp only [Act.put, List.getElem_toArray, List.getElem_cons_zero, List.getElem_cons_succ, List.setIfInBounds_toArray, List.set_cons_zero, List.set_cons_succ]
    refine wpAnyZ_step (i := 12) rfl (by kernel_rfl) (fun K hK => ?_)
    go_simp
    have bA := below_alloc w.drew (.cells #[.int .i64 0, .int .i64 0, .int .i64 0, .slice none 0 0] 44)
    have hblk := heap_alloc_new w.drew (.cells #[.int .i64 0, .int .i64 0, .int .i64 0, .slice none 0 0] 44)
    obtain ⟨r0, r1, r2, r3, f0⟩ := cells_at hblk
    refine hK.out _ _ (fun _ => ⟨below_cell bA hS0.1, below_cell bA hS0.2.1, below_cell bA hS0.2.2.1, below_cell bA hS0.2.2.2.1, below_cell bA hS0.2.2.2.2⟩) ?_
    clear hK K
    try simp only [Act.put, List.getElem_toArray, List.getElem_cons_zero, List.getElem_cons_succ, List.setIfInBounds_toArray, List.set_cons_zero, List.set_cons_succ]
    refine wpAnyZ_step (i := 13) rfl (by kernel_rfl) (fun K hK => ?_)
    go_simp
    have hb8 : Below w.heap.size w (w.alloc (.cells #[.int .i64 ei, .int .i64 et, .int .i64 ek, .slice DB ed.length dc] 44)).drew := below_drawn' (below_alloc w (.cells #[.int .i64 ei, .int .i64 et, .int .i64 ek, .slice DB ed.length dc] 44)) (m := 1)
    have hk8 : (w.alloc (.cells #[.int .i64 ei, .int .i64 et, .int .i64 ek, .slice DB ed.length dc] 44)).drew.heap[w.heap.size]? = some (.cells #[.int .i64 ei, .int .i64 et, .int .i64 ek, .slice DB ed.length dc] 44 (0, 0)) := heap_alloc_new w (.cells #[.int .i64 ei, .int .i64 et, .int .i64 ek, .slice DB ed.length dc] 44)
    obtain ⟨w8, hw8⟩ : ∃ w8, w8 = (w.alloc (.cells #[.int .i64 ei, .int .i64 et, .int .i64 ek, .slice DB ed.length dc] 44)).drew := ⟨_, rfl⟩
    rw [← hw8] at hb8 hk8 ⊢
    have z0 : ∀ m, (w8.drewN m).cell? ⟨w.heap.size, 0, none⟩ = some (.int .i64 ei) := fun m => (cells_at hk8).1
    have z1 : ∀ m, (w8.drewN m).cell? ⟨w.heap.size, 1, none⟩ = some (.int .i64 et) := fun m => (cells_at hk8).2.1
    refine hK.out _ _ (fun h => absurd rfl h) ?_
    clear hK K r0 r1 r2 r3 f0 hblk hk8 hw8
    try simp only [Act.put, List.getElem_toArray, List.getElem_cons_zero, List.getElem_cons_succ, List.setIfInBounds_toArray, List.set_cons_zero, List.set_cons_succ]
    refine wpAnyZ_done (by kernel_rfl) ?_
    refine NoPanic.normal ?_
    go_wp2_with fail
    go_big_quiet (fail)
    go_wp2_with fail
    go_ret2
    exact ⟨rfl, below_drawn' hb8⟩

set_option maxRecDepth 100000 in
set_option maxHeartbeats 4000000 in
theorem rterm_any (p : Nat) (i t : Int) (L : Option Addr) (c : Nat) (es : List Ent) (Ds : List Value) (x : Int) (w : World) (h : TR w p i t (.slice L es.length c)) (hre : RE w L es Ds) (h0 : 0 ≤ i) (h1 : i ≤ 10000000000000) (h2 : es.length ≤ 10000000000000) :
    Calls Tryd.prog 48 #[.pointer (some ⟨p, 0, none⟩), .int .i64 x] w fun e w' => e = .returned (.tuple #[.int .i64 (termT i t es x), .bool (inT i es x)]) ∧ ∃ m, w' = w.drewN m := by
  have c0 : ∀ m, (w.drewN m).cell? ⟨p, 0, none⟩ = some (.int .i64 i) := fun m => h.1
  have c1 : ∀ m, (w.drewN m).cell? ⟨p, 1, none⟩ = some (.int .i64 t) := fun m => h.2.1
  have c2 : ∀ m, (w.drewN m).cell? ⟨p, 2, none⟩ = some (.slice L es.length c) := fun m => h.2.2
  have c0' := h.1
  have c1' := h.2.1
  by_cases hx3 : x = i
  · subst hx3
    obtain ⟨e1, e2⟩ := termT_base x t es
    rw [e1, e2]
    clear e1 e2 h
    go_enter Tryd.func48, Tryd.ntmps48
    go_wp2_with fail
    go_ret2
    exact ⟨rfl, 0, rfl⟩
  · have hne : (x == i) = false := beq_eq_false_iff_ne.2 hx3
    by_cases hx1 : x < i
    · obtain ⟨e1, e2⟩ := termT_out i t es x (.inl hx1)
      have d1 : decide (x < i) = true := decide_eq_true hx1
      rw [e1, e2]
      clear e1 e2 h hx3
      go_enter Tryd.func48, Tryd.ntmps48
      go_wp2_with fail
      go_big_quiet (fail)
      go_wp2_with fail
      go_ret2
      exact ⟨rfl, _, rfl⟩
    · have d1 : decide (x < i) = false := decide_eq_false hx1
      by_cases hx2 : i + es.length < x
      · obtain ⟨e1, e2⟩ := termT_out i t es x (.inr hx2)
        have d2 : decide (i + (es.length : Int) < x) = true := decide_eq_true hx2
        rw [e1, e2]
        clear e1 e2 h hx3
        go_enter Tryd.func48, Tryd.ntmps48
        go_wp2_with fail
        go_big_quiet (fail)
        go_wp2_with fail
        go_ret2
        exact ⟨rfl, _, rfl⟩
      · have d2 : decide (i + (es.length : Int) < x) = false := decide_eq_false hx2
        obtain ⟨j, hj⟩ : ∃ j : Nat, x = i + 1 + j := ⟨(x - i - 1).toNat, by omega⟩
        have hjl : j < es.length := by omega
        obtain ⟨e1, e2⟩ := termT_at i t es j hjl
        rw [← hj] at e1 e2
        rw [e1, e2]
        obtain ⟨b, o, rfl, hb, -⟩ := hre.addr (by omega)
        obtain ⟨-, g1, -⟩ := hre.at j hjl
        have cc : ∀ m, (w.drewN m).cell? ⟨b, o + j * 4 + 1, none⟩ = some (.int .i64 es[j].t) := fun m => g1
        have s1 : IntKind.i64.wrap (x - i) = ((j + 1 : Nat) : Int) := (IntWalk.i64_in (x - i) (by omega)).trans (by omega)
        have s2 : IntKind.i64.wrap (((j + 1 : Nat) : Int) - 1) = (j : Int) := (IntWalk.i64_in (((j + 1 : Nat) : Int) - 1) (by omega)).trans (by omega)
        have hjl1 : (j : Int) < (es.length : Int) := by omega
        clear e1 e2 h hre g1 hj hx3
        go_enter Tryd.func48, Tryd.ntmps48
        go_wp2_with fail
        go_big_quiet (fail)
        go_wp2_with fail
        go_big_quiet (fail)
        go_wp2_with fail
        go_ret2
        exact ⟨rfl, _, World.drewN_drewN ..⟩
set_option maxRecDepth 100000 in
theorem rnewer_any (p : Nat) (i t : Int) (L : Option Addr) (c : Nat) (es : List Ent) (Ds : List Value) (x y : Int) (w : World) (h : TR w p i t (.slice L es.length c)) (hre : RE w L es Ds) (hfo : follows i t es = true) (h0 : 0 ≤ i) (h1 : i ≤ 10000000000000) (h2 : es.length ≤ 10000000000000) :
    Calls Tryd.prog 51 #[.pointer (some ⟨p, 0, none⟩), .int .i64 x, .int .i64 y] w fun e w' => e = .returned (.bool (newerT i t es x y)) ∧ Below w.heap.size w w' := by
  have HL := Lib.hid (rlast_any p i t L c es Ds w h hre hfo h0 h1 h2)
  clear h hre hfo
  by_cases a1 : endT t es < y
  · have e1 : newerT i t es x y = true := decide_eq_true (.inl a1)
    rw [e1]
    clear e1
    go_enter Tryd.func51, Tryd.ntmps51
    go_wp2_with fail
    refine HL.out.mono ?_
    rintro e w1 ⟨rfl, b1⟩
    go_wp2_with fail
    go_ret
    exact ⟨rfl, b1⟩
  · by_cases a2 : y = endT t es
    · have e0 : newerT i t es x y = decide (i + es.length ≤ x) := by unfold newerT; congr 1; apply propext; omega
      by_cases a3 : i + es.length ≤ x
      all_goals
        first | (have e1 := e0.trans (decide_eq_true a3); rw [e1]; clear e1; have d3 := decide_eq_true a3) | (have e1 := e0.trans (decide_eq_false a3); rw [e1]; clear e1; have d3 := decide_eq_false a3)
        have d1 := decide_eq_false a1
        have hb : (y == endT t es) = true := beq_iff_eq.2 a2
        have H2 := Lib.hid a2
        clear e0 a2
        go_enter Tryd.func51, Tryd.ntmps51
        go_wp2_with fail
        refine HL.out.mono ?_
        rintro e w1 ⟨rfl, b1⟩
        go_wp2_with fail
        go_ret
        exact ⟨rfl, b1⟩
    · have e1 : newerT i t es x y = false := decide_eq_false (by rintro (h | h); exact a1 h; exact a2 h.1)
      rw [e1]
      have hb : (y == endT t es) = false := beq_eq_false_iff_ne.2 a2
      have d1 := decide_eq_false a1
      clear e1
      go_enter Tryd.func51, Tryd.ntmps51
      go_wp2_with fail
      refine HL.out.mono ?_
      rintro e w1 ⟨rfl, b1⟩
      go_wp2_with fail
      go_ret
      exact ⟨rfl, b1⟩
theorem TR.below {w w' : World} {p : Nat} {i t : Int} {v : Value} (h : TR w p i t v) (b : Below w.heap.size w w') : TR w' p i t v := ⟨below_cell b h.1, below_cell b h.2.1, below_cell b h.2.2⟩
set_option maxRecDepth 100000 in
set_option maxHeartbeats 2000000 in
theorem rback_any (p : Nat) (i t : Int) (L : Option Addr) (c : Nat) (es : List Ent) (Ds : List Value) (x : Int) (w : World) (h : TR w p i t (.slice L es.length c)) (hre : RE w L es Ds) (hfo : follows i t es = true) (h0 : 0 ≤ i) (h1 : i ≤ 10000000000000) (h2 : es.length ≤ 10000000000000) :
    Calls Tryd.prog 50 #[.pointer (some ⟨p, 0, none⟩), .int .i64 x] w fun e w' => e = .returned (.int .i64 (backT i t es x)) ∧ Below w.heap.size w w' := by
  have HL := Lib.hid (rlast_any p i t L c es Ds w h hre hfo h0 h1 h2)
  have HT := Lib.hid fun (x : Int) (w1 : World) (b : Below w.heap.size w w1) => rterm_any p i t L c es Ds x w1 (h.below b) (hre.below b) h0 h1 h2
  have HH := Lib.hid h
  clear h hre
  by_cases hx1 : i + es.length < x
  · rw [(backT_bounds i t es x).2.2.1 hx1]
    go_enter Tryd.func50, Tryd.ntmps50
    go_wp2_with fail
    refine HL.out.mono ?_
    rintro e w1 ⟨rfl, b1⟩
    go_wp2_with fail
    go_ret
    exact ⟨rfl, b1⟩
  · by_cases hx2 : x ≤ i
    · rw [(backT_bounds i t es x).2.2.2.2 hx2]
      go_enter Tryd.func50, Tryd.ntmps50
      go_wp2_with fail
      refine HL.out.mono ?_
      rintro e w1 ⟨rfl, b1⟩
      have c0 := (HH.out.below b1).1
      go_wp2_with fail
      go_ret
      exact ⟨rfl, b1⟩
    · obtain ⟨n, rfl⟩ : ∃ n : Nat, x = i + 1 + n := ⟨(x - i - 1).toNat, by omega⟩
      have hn : n + 1 ≤ es.length := by omega
      obtain ⟨e1, -⟩ := termT_in i t es (n + 1) hn
      have e3 : backT i t es (i + 1 + n) = i + backN t es (termN t es (n + 1)) (n + 1) := by
        unfold backT
        rw [if_neg (by omega), if_neg (by omega), show i + 1 + (n : Int) = i + ((n + 1 : Nat) : Int) by omega, e1, show (i + ((n + 1 : Nat) : Int) - i).toNat = n + 1 by omega]
      rw [e3]
      have e4 : termT i t es (i + 1 + n) = termN t es (n + 1) := by rw [show i + 1 + (n : Int) = i + ((n + 1 : Nat) : Int) by omega]; exact e1
      obtain ⟨T, hT⟩ : ∃ T, T = termN t es (n + 1) := ⟨_, rfl⟩
      rw [← hT] at e4 ⊢
      have E4 := Lib.hid e4
      have wn : IntKind.i64.wrap (i + 1 + (n : Int) - 1) = i + (n : Int) := (IntWalk.i64_in _ (by omega)).trans (by omega)
      clear e1 e3 e4 hT
      go_enter Tryd.func50, Tryd.ntmps50
      go_wp2_with fail
      refine HL.out.mono ?_
      rintro e w1 ⟨rfl, b1⟩
      have c0 := (HH.out.below b1).1
      have HT1 := HT.out (i + 1 + n) w1 b1
      rw [E4.out] at HT1
      generalize inT i es (i + 1 + n) = ii at HT1
      go_wp2_with fail
      refine HT1.mono ?_
      rintro e w2 ⟨rfl, m, rfl⟩
      clear HT1
      have B2 := Lib.hid (below_drawn' (m := m) b1)
      clear b1 c0
      go_wp2_with fail
      go_loopg [9] (n + 1) (fun m ti wr => ∃ k : Nat, m = k + 1 ∧ k ≤ n ∧ ti = .int .i64 (i + k) ∧ Hid (backN t es T (n + 1) = backN t es T (k + 1)) ∧ Below w.heap.size w wr)
      case atStart => exact ⟨n, rfl, Nat.le_refl _, rfl, Lib.hid rfl, B2.out⟩
      case round =>
        obtain ⟨k, hm, hk, rfl, HB, bel⟩ := hrel
        have c0 := (HH.out.below bel).1
        cases k with
        | zero =>
          have e4 : i + ((0 : Nat) : Int) = i := by omega
          rw [e4]
          go_wp2_with fail
          go_ret
          exact ⟨by rw [HB.out]; simp [backN], bel⟩
        | succ k =>
          obtain ⟨e1, -⟩ := termT_in i t es (k + 1) (by omega)
          have e4 : i + ((k + 1 : Nat) : Int) = i + k + 1 := by omega
          have HT2 := HT.out (i + k + 1) wr bel
          rw [e4] at e1
          rw [e1] at HT2
          generalize inT i es (i + k + 1) = ii at HT2
          obtain ⟨U, hU⟩ : ∃ U, U = termN t es (k + 1) := ⟨_, rfl⟩
          rw [← hU] at HT2
          have HU := Lib.hid hU
          have BEL := Lib.hid bel
          have hgt : i < i + k + 1 := by omega
          have wk : IntKind.i64.wrap (i + (k : Int) + 1 - 1) = i + (k : Int) := (IntWalk.i64_in _ (by omega)).trans (by omega)
          clear e1 hU
          rw [e4]
          clear e4
          by_cases hUT : U = T
          · have hb : (U != T) = false := by simp [hUT]
            have HUT := Lib.hid hUT
            clear hUT
            go_wp2_with fail
            refine HT2.mono ?_
            rintro e w1 ⟨rfl, m2, rfl⟩
            clear HT2
            go_wp2_with fail
            go_roundg (k + 1)
            case measure => omega
            case rel =>
              refine ⟨k, rfl, by omega, rfl, ?_, below_drawn' BEL.out⟩
              have : backN t es T (k + 1 + 1) = backN t es T (k + 1) := by simp only [backN]; rw [if_pos (by rw [← HU.out]; exact HUT.out)]
              exact Lib.hid (HB.out.trans this)
          · have hb : (U != T) = true := by simp [hUT]
            have HUT := Lib.hid hUT
            clear hUT
            go_wp2_with fail
            refine HT2.mono ?_
            rintro e w1 ⟨rfl, m2, rfl⟩
            clear HT2
            go_wp2_with fail
            go_ret
            refine ⟨?_, below_drawn' BEL.out⟩
            have : backN t es T (k + 1 + 1) = k + 1 := by simp only [backN]; rw [if_neg (by rw [← HU.out]; exact HUT.out)]
            rw [HB.out, this, show i + (k : Int) + 1 = i + ((k + 1 : Nat) : Int) by omega]
            rfl
end Go.Proofs.YtkjpfjgaabbggaaDoor
