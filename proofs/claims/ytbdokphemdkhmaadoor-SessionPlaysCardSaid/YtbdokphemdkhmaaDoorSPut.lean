/- (*session.Table).put: the contract. -/
import Derived.Test.YtbdokphemdkhmaaDoorSTab
import Derived.Test.YtbdokphemdkhmaaDoorHeldZ
set_option linter.unusedVariables false
set_option linter.unusedSimpArgs false
namespace Go.Proofs.YtbdokphemdkhmaaDoor
open Go.RowKit

set_option maxRecDepth 100000 in
set_option maxHeartbeats 1000000 in
theorem put_any (base p b : Nat) (clock : Int) (ss : List SV) (i l u0 : Int) (A : Option Addr) (c : Nat) (r : List UInt8) (w : World) (h : TB w base p b clock ss) (hb : base ≤ w.heap.size) (ho : OD w base (.slice A r.length c) r) (wi : (Lit.int .i64 i).wf = true) (hc0 : 0 ≤ clock) (hc1 : clock ≤ 4611686018427400000) (hn : ss.length ≤ 1000000) :
    Calls Tryd.prog 24 #[.pointer (some ⟨p, 0, none⟩), .agg #[.int .i64 i, .int .i64 l, .int .i64 u0, .slice A r.length c]] w fun e w' => e = .returned (.tuple #[]) ∧ TB w' base p b (clock + 1) (putS ⟨i, l, clock + 1, A, c, r⟩ ss) ∧ Frm (fun k => k = p ∨ k = b) w w' := by
  have c0 := h.cm
  have c1 := h.cc
  have hpl := h.plt
  have b0 := below_alloc w (.cells #[.int .i64 i, .int .i64 l, .int .i64 u0, .slice A r.length c] 44)
  have c0b := below_cell b0 c0
  have c1b := below_cell b0 c1
  have f1b : (w.alloc (.cells #[.int .i64 i, .int .i64 l, .int .i64 u0, .slice A r.length c] 44)).frozen? ⟨p, 1, none⟩ = false := frozen_of ((b0.block p hpl).trans h.2.2.1) 1
  have hpne : p ≠ w.heap.size := by omega
  have hw1 : IntKind.i64.wrap (clock + 1) = clock + 1 := IntWalk.i64_in _ (by omega)
  have s1 : (w.setCell ⟨p, 1, none⟩ (.int .i64 (clock + 1))).cell? ⟨p, 1, none⟩ = some (.int .i64 (clock + 1)) := World.cell?_setCell_same _ _ _ c1
  have s0 : (w.setCell ⟨p, 1, none⟩ (.int .i64 (clock + 1))).cell? ⟨p, 0, none⟩ = some (.map (some b)) := by rw [World.cell?_setCell_other _ _ _ _ (by simp)]; exact c0
  have H := Lib.hid h
  have HO := Lib.hid ho
  clear h ho c0 c1
  go_enter Tryd.func24, Tryd.ntmps24
  go_wp2_with fail
  obtain ⟨w2, hw2⟩ : ∃ w2, w2 = (w.setCell ⟨p, 1, none⟩ (.int .i64 (clock + 1))).alloc (.cells #[.int .i64 i, .int .i64 l, .int .i64 (clock + 1), .slice A r.length c] 44) := ⟨_, rfl⟩
  rw [← hw2]
  have hs0 : (w.setCell ⟨p, 1, none⟩ (.int .i64 (clock + 1))).heap.size = w.heap.size := World.size_setCell _ _ _
  have bA := below_alloc (w.setCell ⟨p, 1, none⟩ (.int .i64 (clock + 1))) (.cells #[.int .i64 i, .int .i64 l, .int .i64 (clock + 1), .slice A r.length c] 44)
  rw [← hw2] at bA
  have hp2 : w2.heap[p]? = some (.cells #[.map (some b), .int .i64 (clock + 1)] 62 (0, 0)) := by
    rw [bA.block p (by omega), heap_setCell_same _ _ _ _ _ _ H.out.2.2.1]; rfl
  have hx2 : w2.heap[w.heap.size]? = some (.cells #[.int .i64 i, .int .i64 l, .int .i64 (clock + 1), .slice A r.length c] 44 (0, 0)) := by
    rw [hw2, ← hs0]; exact heap_alloc_new _ _
  have ho2 : ∀ k, k < w.heap.size → k ≠ p → w2.heap[k]? = w.heap[k]? := fun k hk hkp => by
    rw [bA.block k (by omega), heap_setCell_other _ _ _ _ (by simpa using hkp)]
  have hz2 : w2.heap.size = w.heap.size + 1 := by rw [hw2]; simp [hs0]
  have hF2 : Frm (fun k => k = p ∨ k = b) w w2 := by
    rw [hw2]
    exact ((Frm.refl _ w).setCell _ _ (.inl (.inl rfl))).trans (Frm.of_below (below_alloc _ _))
  have hIM : IM w2.drew b (sI ss) := H.out.2.2.2.1.step (ho2 b H.out.2.2.2.1.lt (fun e => H.out.ne e.symm))
  obtain ⟨w3, hrun, im3, g3, z3⟩ := hIM.store Tryd.underlying60 (by unfold sI maxLen; simp; omega) wi (.agg #[.int .i64 i, .int .i64 l, .int .i64 (clock + 1), .slice A r.length c])
  have HS : w2.drew.cell? ⟨p, 0, none⟩ = some (.map (some b)) ∧ w2.drew.cell? ⟨w.heap.size, 0, none⟩ = some (.int .i64 i) ∧ w2.drew.cell? ⟨w.heap.size, 1, none⟩ = some (.int .i64 l) ∧ w2.drew.cell? ⟨w.heap.size, 2, none⟩ = some (.int .i64 (clock + 1)) ∧ w2.drew.cell? ⟨w.heap.size, 3, none⟩ = some (.slice A r.length c) :=
    ⟨by rw [cell_of (w := w2.drew) hp2]; rfl, by rw [cell_of (w := w2.drew) hx2]; rfl, by rw [cell_of (w := w2.drew) hx2]; rfl, by rw [cell_of (w := w2.drew) hx2]; rfl, by rw [cell_of (w := w2.drew) hx2]; rfl⟩
  have HP2 := Lib.hid hp2
  have HZ2 := Lib.hid hz2
  have HO2 := Lib.hid ho2
  clear hp2 hx2 ho2 hw2 bA hs0 s1 s0 f1b c0b c1b b0 hw1 hz2
  refine wp_region_Z (fun w' => w'.cell? ⟨p, 0, none⟩ = some (.map (some b)) ∧ w'.cell? ⟨w.heap.size, 0, none⟩ = some (.int .i64 i) ∧ w'.cell? ⟨w.heap.size, 1, none⟩ = some (.int .i64 l) ∧ w'.cell? ⟨w.heap.size, 2, none⟩ = some (.int .i64 (clock + 1)) ∧ w'.cell? ⟨w.heap.size, 3, none⟩ = some (.slice A r.length c)) 7 (by kernel_rfl) HS (fun hHeld => ?_)
  refine wpAnyZ_take (i := 0) (v := ?_) rfl (by kernel_rfl) (by kernel_rfl) (by kernel_rfl) (by kernel_rfl) (by decide) (fun _ _ _ h => h) (by rfl) ?_ (by assumption) ?_
  rotate_left
  · (intro w hSw; (try dsimp only at hSw); go_simp) <;> with_reducible rfl
  try simp only [Act.put, List.getElem_toArray, List.getElem_cons_zero, List.getElem_cons_succ, List.setIfInBounds_toArray, List.set_cons_zero, List.set_cons_succ]
  refine wpAnyZ_take (i := 1) (v := ?_) rfl (by kernel_rfl) (by kernel_rfl) (by kernel_rfl) (by kernel_rfl) (by decide) (fun _ _ _ h => h) (by rfl) ?_ (by assumption) ?_
  rotate_left
  · (intro w hSw; (try dsimp only at hSw); go_simp) <;> with_reducible rfl
  try simp only [Act.put, List.getElem_toArray, List.getElem_cons_zero, List.getElem_cons_succ, List.setIfInBounds_toArray, List.set_cons_zero, List.set_cons_succ]
  refine wpAnyZ_take (i := 2) (v := ?_) rfl (by kernel_rfl) (by kernel_rfl) (by kernel_rfl) (by kernel_rfl) (by decide) (fun _ _ _ h => h) (by rfl) ?_ (by assumption) ?_
  rotate_left
  · (intro w hSw; (try dsimp only at hSw); go_simp) <;> with_reducible rfl
  try simp only [Act.put, List.getElem_toArray, List.getElem_cons_zero, List.getElem_cons_succ, List.setIfInBounds_toArray, List.set_cons_zero, List.set_cons_succ]
  refine wpAnyZ_take (i := 3) (v := ?_) rfl (by kernel_rfl) (by kernel_rfl) (by kernel_rfl) (by kernel_rfl) (by decide) (fun _ _ _ h => h) (by rfl) ?_ (by assumption) ?_
  rotate_left
  · (intro w hSw; (try dsimp only at hSw); go_simp) <;> with_reducible rfl
  try simp only [Act.put, List.getElem_toArray, List.getElem_cons_zero, List.getElem_cons_succ, List.setIfInBounds_toArray, List.set_cons_zero, List.set_cons_succ]
  refine wpAnyZ_take (i := 4) (v := ?_) rfl (by kernel_rfl) (by kernel_rfl) (by kernel_rfl) (by kernel_rfl) (by decide) (fun _ _ _ h => h) (by rfl) ?_ (by assumption) ?_
  rotate_left
  · (intro w hSw; (try dsimp only at hSw); go_simp) <;> with_reducible rfl
  try simp only [Act.put, List.getElem_toArray, List.getElem_cons_zero, List.getElem_cons_succ, List.setIfInBounds_toArray, List.set_cons_zero, List.set_cons_succ]
  refine wpAnyZ_take (i := 5) (v := ?_) rfl (by kernel_rfl) (by kernel_rfl) (by kernel_rfl) (by kernel_rfl) (by decide) (fun _ _ _ h => h) (by rfl) ?_ (by assumption) ?_
  rotate_left
  · (intro w hSw; (try dsimp only at hSw); go_simp) <;> with_reducible rfl
  try simp only [Act.put, List.getElem_toArray, List.getElem_cons_zero, List.getElem_cons_succ, List.setIfInBounds_toArray, List.set_cons_zero, List.set_cons_succ]
  refine wpAnyZ_take (i := 6) (v := ?_) rfl (by kernel_rfl) (by kernel_rfl) (by kernel_rfl) (by kernel_rfl) (by decide) (fun _ _ _ h => h) (by rfl) ?_ (by assumption) ?_
  rotate_left
  · (intro w hSw; (try dsimp only at hSw); go_simp) <;> with_reducible rfl
  try simp only [Act.put, List.getElem_toArray, List.getElem_cons_zero, List.getElem_cons_succ, List.setIfInBounds_toArray, List.set_cons_zero, List.set_cons_succ]
  refine wpAnyZ_step (i := 7) rfl (by kernel_rfl) (fun K hK => ?_)
  go_simp
  refine hK.out _ _ (fun h => absurd rfl h) ?_
  clear hK K
  try simp only [Act.put, List.getElem_toArray, List.getElem_cons_zero, List.getElem_cons_succ, List.setIfInBounds_toArray, List.set_cons_zero, List.set_cons_succ]
  refine wpAnyZ_done (by kernel_rfl) ?_
  refine NoPanic.normal ?_
  go_end0
  have hF3 : Frm (fun k => k = p ∨ k = b) w w3 := hF2.trans (Frm.grown (w := w2) ⟨g3.os, g3.tape, g3.output, g3.size, g3.block⟩ fun k e => .inr (Option.some.inj e).symm)
  have hk3 : ∀ k, k < w.heap.size → k ≠ p → k ≠ b → w3.heap[k]? = w.heap[k]? := fun k h1 h2 h3 => hF3.block k h1 (by rintro (e | e); exact h2 e; exact h3 e)
  refine ⟨rfl, ⟨H.out.1, H.out.2.1, ?_, ?_, ?_⟩, hF3⟩
  · have := g3.block p (by have := HZ2.out; show p < w2.heap.size; omega) (fun e => H.out.ne (Option.some.inj e))
    exact this.trans HP2.out
  · rw [← sI_put]; exact im3
  · intro s hs
    rcases mem_putS.1 hs with rfl | ⟨hs, -⟩
    · exact (HO.out.step fun k hk => hk3 k (HO.out.1.lt k hk).2 (fun e => H.out.nep HO.out (by rw [← e]; exact hk)) (fun e => H.out.neb HO.out (by rw [← e]; exact hk)))
    · have o := H.out.2.2.2.2 s hs
      exact o.step fun k hk => hk3 k (o.1.lt k hk).2 (fun e => H.out.nep o (by rw [← e]; exact hk)) (fun e => H.out.neb o (by rw [← e]; exact hk))
end Go.Proofs.YtbdokphemdkhmaaDoor
