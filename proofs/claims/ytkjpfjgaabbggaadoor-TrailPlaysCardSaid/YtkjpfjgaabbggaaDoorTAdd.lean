/- trail.Add: the contract. -/
import Derived.Test.YtkjpfjgaabbggaaDoorTAt
import Derived.Deep.AppendLies
import Derived.Outline
set_option linter.unusedVariables false
set_option linter.unusedSimpArgs false
namespace Go.Proofs.YtkjpfjgaabbggaaDoor
open Go.RowKit

theorem cell_of {w : World} {g : Nat} {cur : Array Value} {t : TypeId} {fr : Nat × Nat} (h : w.heap[g]? = some (.cells cur t fr)) (k : Nat) : w.cell? ⟨g, k, none⟩ = cur[k]? := by
  simp [World.cell?, h]
theorem frozen_of {w : World} {g : Nat} {cur : Array Value} {t : TypeId} (h : w.heap[g]? = some (.cells cur t (0, 0))) (k : Nat) : w.frozen? ⟨g, k, none⟩ = false := by
  simp [World.frozen?, h]
/-- what two worlds share outside some blocks, but for new ones -/
structure Frm (S : Nat → Prop) (w w' : World) : Prop where
  os : w'.os = w.os
  tape : w'.tape = w.tape
  output : w'.output = w.output
  size : w.heap.size ≤ w'.heap.size
  block : ∀ k, k < w.heap.size → ¬ S k → w'.heap[k]? = w.heap[k]?
theorem Frm.refl (S : Nat → Prop) (w : World) : Frm S w w := ⟨rfl, rfl, rfl, Nat.le_refl _, fun _ _ _ => rfl⟩
theorem Frm.trans {S : Nat → Prop} {a b c : World} (h : Frm S a b) (k : Frm S b c) : Frm S a c :=
  ⟨k.os.trans h.os, k.tape.trans h.tape, k.output.trans h.output, Nat.le_trans h.size k.size, fun i hi hs => (k.block i (Nat.lt_of_lt_of_le hi h.size) hs).trans (h.block i hi hs)⟩
theorem Frm.of_below {S : Nat → Prop} {w w' : World} (h : Below w.heap.size w w') : Frm S w w' := ⟨h.os, h.tape, h.output, h.size, fun k hk _ => h.block k hk⟩
theorem Frm.below {S : Nat → Prop} {B : Nat} {w w' : World} (h : Frm S w w') (hB : B ≤ w.heap.size) (hS : ∀ k, S k → B ≤ k) : Below B w w' :=
  ⟨h.os, h.tape, h.output, h.size, fun k hk => h.block k (by omega) fun s => by have := hS k s; omega⟩
theorem Frm.mono {S T : Nat → Prop} {w w' : World} (h : Frm S w w') (hs : ∀ k, S k → T k) : Frm T w w' := ⟨h.os, h.tape, h.output, h.size, fun k hk ht => h.block k hk fun s => ht (hs k s)⟩
theorem Frm.grown {S : Nat → Prop} {w w' : World} {r : Option Nat} (h : w.grownBy w' r) (hs : ∀ k, r = some k → S k) : Frm S w w' :=
  ⟨h.os, h.tape, h.output, h.size, fun k hk hn => h.block k hk fun e => hn (hs k e.symm)⟩
theorem Frm.setCell {S : Nat → Prop} {w w' : World} (h : Frm S w w') (a : Addr) (v : Value) (ha : S a.block ∨ w.heap.size ≤ a.block) : Frm S w (w'.setCell a v) :=
  ⟨h.os, h.tape, h.output, by rw [World.size_setCell]; exact h.size, fun k hk hn => by
    rw [heap_setCell_other _ _ _ _ (fun e => by rcases ha with s | s; exact hn (by rw [e]; exact s); omega)]; exact h.block k hk hn⟩

set_option maxRecDepth 100000 in
set_option maxHeartbeats 2000000 in
theorem add_bad (base p : Nat) (i t : Int) (v : Value) (es : List Ent) (Ds : List Value) (x k : Int) (B : Value) (w : World) (h : TO w base p i t v es Ds) (h0 : 0 ≤ i) (h1 : i ≤ 10000000000000) (h2 : es.length ≤ 10000000000000) (hx : x < endT t es ∨ k < 0) :
    Calls Tryd.prog 21 #[.pointer (some ⟨p, 0, none⟩), .int .i64 x, .int .i64 k, B] w fun e w' => e = .returned (.tuple #[.agg #[.int .i64 0, .int .i64 0, .int .i64 0, .slice none 0 0], errV 1]) ∧ Below w.heap.size w w' := by
  have b := below_alloc w (.cells #[.int .i64 0, .int .i64 0, .int .i64 0, .slice none 0 0] 44)
  obtain ⟨L, c, hv, hre, -⟩ := h.2.2.re
  subst hv
  have HL := Lib.hid (last_any p i t L c es Ds _ (h.below b).tr (hre.below b) h0 h1 h2)
  obtain ⟨T, hT⟩ : ∃ T, T = endT t es := ⟨_, rfl⟩
  rw [← hT] at HL hx
  clear h hre hT
  by_cases hx1 : x < T
  all_goals
    first | have d1 : decide (x < T) = true := decide_eq_true hx1 | (have d1 : decide (x < T) = false := decide_eq_false hx1; have d2 : decide (k < 0) = true := decide_eq_true (by omega))
    clear hx
    go_enter Tryd.func21, Tryd.ntmps21
    go_wp2_with fail
    refine HL.out.mono ?_
    rintro e w1 ⟨rfl, m, rfl⟩
    go_wp2_with fail
    exact bodyPost_ret (v := .tuple #[.agg #[.int .i64 0, .int .i64 0, .int .i64 0, .slice none 0 0], errV 1]) (by simp [results, Tryd.results21, go_sem, errV]) rfl ⟨rfl, set4_below (below_draws b m) (Nat.le_refl _) _ _ _ _⟩
/-- what Add makes -/
def AddOk (w : World) (base p : Nat) (i t : Int) (v : Value) (es : List Ent) (E : Ent) (e : Ending) (w' : World) : Prop :=
  ∃ D v' Ds', e = .returned (.tuple #[.agg #[.int .i64 E.i, .int .i64 E.t, .int .i64 E.k, D], errV 0]) ∧ OD w' w.heap.size D E.d ∧ TO w' base p i t v' (es ++ [E]) Ds' ∧ Frm (fun k => k = p ∨ v.ownBlock = some k) w w' ∧
    (v'.ownBlock = v.ownBlock ∨ ∀ k, v'.ownBlock = some k → w.heap.size ≤ k)
theorem TO.own_ne {w : World} {base p : Nat} {i t : Int} {v : Value} {es : List Ent} {Ds : List Value} (h : TO w base p i t v es Ds) : v.ownBlock ≠ some p := by
  intro hv
  rcases h.2.2.2.1.2 with ⟨e, _⟩ | ⟨g, cap, cur, e, _, hg, _⟩
  · rw [e] at hv; simp [Value.ownBlock] at hv
  · rw [e] at hv
    simp [Value.ownBlock] at hv
    subst hv
    rw [h.2.1] at hg
    injection hg with hg
    injection hg with _ ht
    exact absurd ht (by decide)
theorem TO.poke {w w' : World} {base p : Nat} {i t : Int} {v : Value} {es : List Ent} {Ds : List Value} {r : Nat} {cs : Array Value} (h : TO w base p i t v es Ds) (hr : w.heap[r]? = some (.cells cs 44 (0, 0))) (hv : v.ownBlock ≠ some r)
    (ho : ∀ k, k ≠ r → w'.heap[k]? = w.heap[k]?) : TO w' base p i t v es Ds := by
  refine ⟨h.1, ?_, h.2.2.step (fun k hk => ho k fun e => hv (by rw [hk, e])) fun D hD k hk => ho k fun e => ?_⟩
  · rw [ho p ?_]; exact h.2.1
    intro e
    subst e
    rw [h.2.1] at hr
    injection hr with hr
    injection hr with _ ht
    exact absurd ht (by decide)
  · subst e
    obtain ⟨j, hj, rfl⟩ := List.getElem_of_mem hD
    have o := (h.2.2.2.2 j (by rw [← h.2.2.1]; exact hj) hj).1
    rcases o.2 with ⟨e, _⟩ | ⟨g, cap, cur, e, _, hg, _⟩
    · rw [e] at hk; simp [Value.ownBlock] at hk
    · rw [e] at hk
      simp [Value.ownBlock] at hk
      subst hk
      rw [hr] at hg
      injection hg with hg
      injection hg with _ ht
      exact absurd ht (by decide)
theorem TO.d_ne {w : World} {base p : Nat} {i t : Int} {v : Value} {es : List Ent} {Ds : List Value} (h : TO w base p i t v es Ds) : ∀ D ∈ Ds, D.ownBlock ≠ some p := by
  intro D hD hv
  obtain ⟨j, hj, rfl⟩ := List.getElem_of_mem hD
  have o := (h.2.2.2.2 j (by rw [← h.2.2.1]; exact hj) hj).1
  rcases o.2 with ⟨e, _⟩ | ⟨g, cap, cur, e, _, hg, _⟩
  · rw [e] at hv; simp [Value.ownBlock] at hv
  · rw [e] at hv
    simp [Value.ownBlock] at hv
    subst hv
    rw [h.2.1] at hg
    injection hg with hg
    injection hg with _ ht
    exact absurd ht (by decide)

set_option maxRecDepth 100000 in
set_option maxHeartbeats 4000000 in
theorem add_ok (base p : Nat) (i t : Int) (v : Value) (es : List Ent) (Ds : List Value) (x k : Int) (B : Value) (d : List UInt8) (w : World) (h : TO w base p i t v es Ds) (hB : RD w B d) (h0 : 0 ≤ i) (h1 : i ≤ 10000000000000) (h2 : es.length ≤ 10000000000000) (hmem : (es.length + 1) * 48 ≤ 140737488355328) (hbase : base ≤ w.heap.size) (hx1 : endT t es ≤ x) (hx2 : 0 ≤ k) :
    Calls Tryd.prog 21 #[.pointer (some ⟨p, 0, none⟩), .int .i64 x, .int .i64 k, B] w (AddOk w base p i t v es ⟨i + es.length + 1, x, k, d⟩) := by
  have b := below_alloc w (.cells #[.int .i64 0, .int .i64 0, .int .i64 0, .slice none 0 0] 44)
  obtain ⟨L, c, hv, hre, -⟩ := h.2.2.re
  subst hv
  have HL := Lib.hid (last_any p i t L c es Ds _ (h.below b).tr (hre.below b) h0 h1 h2)
  have HT := Lib.hid h
  have hpl := h.lt
  have hp2 := below_cell b h.tr.2.2
  have HC := Lib.hid (fun w1 (b1 : Below w.heap.size w w1) => cloneb_any B d w1 (hB.below b1))
  obtain ⟨T, hT⟩ : ∃ T, T = endT t es := ⟨_, rfl⟩
  obtain ⟨N, hN⟩ : ∃ N, N = es.length := ⟨_, rfl⟩
  rw [← hT] at HL hx1
  rw [← hN] at HL hp2 h2 hmem
  have HNN := Lib.hid hN
  have d1 : decide (x < T) = false := decide_eq_false (by omega)
  have d2 : decide (k < 0) = false := decide_eq_false (by omega)
  have s1 : IntKind.i64.wrap (i + (N : Int) + 1) = i + (N : Int) + 1 := IntWalk.i64_in _ (by omega)
  obtain ⟨i0, hi, hz0, hz1, hz2⟩ := info_parts info_entry
  have HI := Lib.hid hi
  obtain ⟨B0, bc, rfl, -⟩ := hB
  clear h hre hT hi
  rw [← hN]
  clear hN
  go_enter Tryd.func21, Tryd.ntmps21
  go_wp2_with fail
  refine HL.out.mono ?_
  rintro e w1 ⟨rfl, m, rfl⟩
  go_wp2_with fail
  refine wp_region_Z (fun w' => w'.cell? ⟨p, 2, none⟩ = some (.slice L N c)) 18 (by kernel_rfl) hp2 (fun hHeld => ?_)
  refine wpAnyZ_take (i := 0) (v := ?_) rfl (by kernel_rfl) (by kernel_rfl) (by kernel_rfl) (by kernel_rfl) (by decide) (fun _ _ _ h => h) (by rfl) ?_ (by assumption) ?_
  rotate_left
  · (intro w hSw; (try dsimp only at hSw); go_simp) <;> with_reducible rfl
  try simp only [Act.put, List.setIfInBounds_toArray, List.set_cons_zero, List.set_cons_succ]
  refine wpAnyZ_take (i := 1) (v := ?_) rfl (by kernel_rfl) (by kernel_rfl) (by kernel_rfl) (by kernel_rfl) (by decide) (fun _ _ _ h => h) (by rfl) ?_ (by assumption) ?_
  rotate_left
  · (intro w hSw; (try dsimp only at hSw); go_simp) <;> with_reducible rfl
  try simp only [Act.put, List.setIfInBounds_toArray, List.set_cons_zero, List.set_cons_succ]
  refine wpAnyZ_take (i := 2) (v := ?_) rfl (by kernel_rfl) (by kernel_rfl) (by kernel_rfl) (by kernel_rfl) (by decide) (fun _ _ _ h => h) (by rfl) ?_ (by assumption) ?_
  rotate_left
  · (intro w hSw; (try dsimp only at hSw); go_simp) <;> with_reducible rfl
  try simp only [Act.put, List.setIfInBounds_toArray, List.set_cons_zero, List.set_cons_succ]
  refine wpAnyZ_take (i := 3) (v := ?_) rfl (by kernel_rfl) (by kernel_rfl) (by kernel_rfl) (by kernel_rfl) (by decide) (fun _ _ _ h => h) (by rfl) ?_ (by assumption) ?_
  rotate_left
  · (intro w hSw; (try dsimp only at hSw); go_simp) <;> with_reducible rfl
  try simp only [Act.put, List.setIfInBounds_toArray, List.set_cons_zero, List.set_cons_succ]
  refine wpAnyZ_take (i := 4) (v := ?_) rfl (by kernel_rfl) (by kernel_rfl) (by kernel_rfl) (by kernel_rfl) (by decide) (fun _ _ _ h => h) (by rfl) ?_ (by assumption) ?_
  rotate_left
  · (intro w hSw; (try dsimp only at hSw); go_simp) <;> with_reducible rfl
  try simp only [Act.put, List.setIfInBounds_toArray, List.set_cons_zero, List.set_cons_succ]
  refine wpAnyZ_take (i := 5) (v := ?_) rfl (by kernel_rfl) (by kernel_rfl) (by kernel_rfl) (by kernel_rfl) (by decide) (fun _ _ _ h => h) (by rfl) ?_ (by assumption) ?_
  rotate_left
  · (intro w hSw; (try dsimp only at hSw); go_simp) <;> with_reducible rfl
  try simp only [Act.put, List.setIfInBounds_toArray, List.set_cons_zero, List.set_cons_succ]
  refine wpAnyZ_take (i := 6) (v := ?_) rfl (by kernel_rfl) (by kernel_rfl) (by kernel_rfl) (by kernel_rfl) (by decide) (fun _ _ _ h => h) (by rfl) ?_ (by assumption) ?_
  rotate_left
  · (intro w hSw; (try dsimp only at hSw); go_simp) <;> with_reducible rfl
  try simp only [Act.put, List.setIfInBounds_toArray, List.set_cons_zero, List.set_cons_succ]
  refine wpAnyZ_take (i := 7) (v := ?_) rfl (by kernel_rfl) (by kernel_rfl) (by kernel_rfl) (by kernel_rfl) (by decide) (fun _ _ _ h => h) (by rfl) ?_ (by assumption) ?_
  rotate_left
  · (intro w hSw; (try dsimp only at hSw); go_simp) <;> with_reducible rfl
  try simp only [Act.put, List.setIfInBounds_toArray, List.set_cons_zero, List.set_cons_succ]
  refine wpAnyZ_take (i := 8) (v := ?_) rfl (by kernel_rfl) (by kernel_rfl) (by kernel_rfl) (by kernel_rfl) (by decide) (fun _ _ _ h => h) (by rfl) ?_ (by assumption) ?_
  rotate_left
  · (intro w hSw; (try dsimp only at hSw); go_simp) <;> with_reducible rfl
  try simp only [Act.put, List.setIfInBounds_toArray, List.set_cons_zero, List.set_cons_succ]
  refine wpAnyZ_take (i := 9) (v := ?_) rfl (by kernel_rfl) (by kernel_rfl) (by kernel_rfl) (by kernel_rfl) (by decide) (fun _ _ _ h => h) (by rfl) ?_ (by assumption) ?_
  rotate_left
  · (intro w hSw; (try dsimp only at hSw); go_simp) <;> with_reducible rfl
  try simp only [Act.put, List.setIfInBounds_toArray, List.set_cons_zero, List.set_cons_succ]
  refine wpAnyZ_take (i := 10) (v := ?_) rfl (by kernel_rfl) (by kernel_rfl) (by kernel_rfl) (by kernel_rfl) (by decide) (fun _ _ _ h => h) (by rfl) ?_ (by assumption) ?_
  rotate_left
  · (intro w hSw; (try dsimp only at hSw); go_simp) <;> with_reducible rfl
  try simp only [Act.put, List.setIfInBounds_toArray, List.set_cons_zero, List.set_cons_succ]
  refine wpAnyZ_step (i := 11) rfl (by kernel_rfl) (fun K hK => ?_)
  go_simp
  refine (HC.out _ (below_draws b _)).mono ?_
  rintro e w5 ⟨Dv, rfl, od, b5d⟩
  have b5 := below_of_drew b5d
  obtain ⟨DB, dc, hDv, -⟩ := own_shape od.1
  subst hDv
  have hp52 := below_cell b5 hp2
  refine hK.out _ _ (fun _ => hp52) ?_
  clear hK K
  try simp only [Act.put, List.setIfInBounds_toArray, List.set_cons_zero, List.set_cons_succ]
  refine wpAnyZ_take (i := 12) (v := ?_) rfl (by kernel_rfl) (by kernel_rfl) (by kernel_rfl) (by kernel_rfl) (by decide) (fun _ _ _ h => h) (by rfl) ?_ (by assumption) ?_
  rotate_left
  · (intro w hSw; (try dsimp only at hSw); go_simp) <;> with_reducible rfl
  try simp only [Act.put, List.setIfInBounds_toArray, List.set_cons_zero, List.set_cons_succ]
  refine wpAnyZ_step (i := 13) rfl (by kernel_rfl) (fun K hK => ?_)
  go_simp
  have b6 := below_alloc w5 (.cells #[.int .i64 (i + (N : Int) + 1), .int .i64 x, .int .i64 k, .slice DB d.length dc] 44)
  have hp62 := below_cell b6 hp52
  refine hK.out _ _ (fun _ => hp62) ?_
  clear hK K
  try simp only [Act.put, List.setIfInBounds_toArray, List.set_cons_zero, List.set_cons_succ]
  have bw5 := below_then b b.size b5
  have bw6 := below_then bw5 bw5.size b6
  have own6 := own_below HT.out.2.2.2.1 bw6
  rw [← HNN.out] at own6
  refine wpAnyZ_step (i := 14) rfl (by kernel_rfl) (fun K hK => ?_)
  refine step_append_lies _ (by rfl) _ _ _ (by rfl) base 44 i0 _ 4 48 Tryd.underlying22 HI.out hz0 hz1 hz2 rfl (by omega) (.slice L N c) N (ecells es Ds) (by rfl) own6 ⟨w5.heap.size, 0, none⟩ 1 1 [.int .i64 (i + (N : Int) + 1), .int .i64 x, .int .i64 k, .slice DB d.length dc] (by rfl) (by rfl) (World.news_of_block (cs := #[.int .i64 (i + (N : Int) + 1), .int .i64 x, .int .i64 k, .slice DB d.length dc]) (t := 44) (fr := (0, 0)) (heap_alloc_new w5 _)) (by simp [Value.oneCell']) (by omega) (by unfold maxLen; omega) hmem (by have := bw6.size; omega) (w5.heap.size + 1) (by simp) ?_
  intro gg cap w7 own7 hg7 hat hlt
  have hone := HT.out.own_ne
  rw [← HNN.out] at hone
  have hS7 := hg7.cell hp62 (by simpa using fun e => hone e.symm)
  have hpb7 : w7.heap[p]? = some (.cells #[.int .i64 i, .int .i64 t, .slice L N c] 34 (0, 0)) := by
    rw [hg7.block p (by have := bw6.size; omega) (fun e => hone e.symm), bw6.block p hpl, HNN.out]; exact HT.out.2.1
  have hf7 : w7.frozen? ⟨p, 2, none⟩ = false := by simp [World.frozen?, hpb7]
  refine hK.out _ _ (fun _ => hS7) ?_
  clear hK K
  try simp only [Act.put, List.setIfInBounds_toArray, List.set_cons_zero, List.set_cons_succ]
  refine wpAnyZ_take (i := 15) (v := ?_) rfl (by kernel_rfl) (by kernel_rfl) (by kernel_rfl) (by kernel_rfl) (by decide) (fun _ _ _ h => h) (by rfl) ?_ (by assumption) ?_
  rotate_left
  · (intro w hSw; (try dsimp only at hSw); go_simp) <;> with_reducible rfl
  try simp only [Act.put, List.setIfInBounds_toArray, List.set_cons_zero, List.set_cons_succ]
  refine wpAnyZ_take (i := 16) (v := ?_) rfl (by kernel_rfl) (by kernel_rfl) (by kernel_rfl) (by kernel_rfl) (by decide) (fun _ _ _ h => h) (by rfl) ?_ (by assumption) ?_
  rotate_left
  · (intro w hSw; (try dsimp only at hSw); go_simp) <;> with_reducible rfl
  try simp only [Act.put, List.setIfInBounds_toArray, List.set_cons_zero, List.set_cons_succ]
  refine wpAnyZ_take (i := 17) (v := ?_) rfl (by kernel_rfl) (by kernel_rfl) (by kernel_rfl) (by kernel_rfl) (by decide) (fun _ _ _ h => h) (by rfl) ?_ (by assumption) ?_
  rotate_left
  · (intro w hSw; (try dsimp only at hSw); go_simp) <;> with_reducible rfl
  try simp only [Act.put, List.setIfInBounds_toArray, List.set_cons_zero, List.set_cons_succ]
  refine wpAnyZ_step (i := 18) rfl (by kernel_rfl) (fun K hK => ?_)
  go_simp
  refine hK.out _ _ (fun h => absurd rfl h) ?_
  clear hK K
  try simp only [Act.put, List.setIfInBounds_toArray, List.set_cons_zero, List.set_cons_succ]
  refine wpAnyZ_done (by kernel_rfl) ?_
  refine NoPanic.normal ?_
  obtain ⟨w8, hw8⟩ : ∃ w8, w8 = w7.setCell ⟨p, 2, none⟩ (.slice (some ⟨gg, 0, none⟩) (N + 1) cap) := ⟨_, rfl⟩
  rw [← hw8]
  have ho8 : ∀ k, k ≠ p → w8.heap[k]? = w7.heap[k]? := fun k hk => by rw [hw8]; exact heap_setCell_other _ _ _ _ hk
  have hs8 : w8.heap.size = w7.heap.size := by rw [hw8]; exact World.size_setCell _ _ _
  have hpb8 : w8.heap[p]? = some (.cells #[.int .i64 i, .int .i64 t, .slice (some ⟨gg, 0, none⟩) (N + 1) cap] 34 (0, 0)) := by rw [hw8]; exact heap_setCell_same _ _ _ _ _ _ hpb7
  have hw7o : ∀ k, k < w.heap.size → k ≠ p → Value.ownBlock (.slice L N c) ≠ some k → w8.heap[k]? = w.heap[k]? := fun k hk h1 h2 => by
    rw [ho8 k h1, hg7.block k (by have := bw6.size; omega) (fun e => h2 e.symm), bw6.block k hk]
  have hE1 : (es ++ [(⟨i + (N : Int) + 1, x, k, d⟩ : Ent)]).length = N + 1 := by simp [HNN.out]
  have hT8 : TO w8 base p i t (.slice (some ⟨gg, 0, none⟩) (N + 1) cap) (es ++ [(⟨i + (N : Int) + 1, x, k, d⟩ : Ent)]) (Ds ++ [.slice DB d.length dc]) := by
    refine ⟨HT.out.1, hpb8, by simp [HT.out.2.2.1], ?_, fun j h1 h2 => ?_⟩
    · rw [hE1, ecells_append _ _ HT.out.2.2.1]
      refine own_step own7 fun q hq => ho8 q fun e => ?_
      subst e
      simp [Value.ownBlock] at hq
      rcases hat with h | h
      · exact hone (by rw [h, hq])
      · have := bw5.size; omega
    · by_cases hj : j < es.length
      · have e1 : (es ++ [(⟨i + (N : Int) + 1, x, k, d⟩ : Ent)])[j] = es[j] := List.getElem_append_left hj
        have e2 : (Ds ++ [.slice DB d.length dc])[j] = Ds[j]'(by rw [HT.out.2.2.1]; exact hj) := List.getElem_append_left (by rw [HT.out.2.2.1]; exact hj)
        rw [e1, e2]
        have o := HT.out.2.2.2.2 j hj (by rw [HT.out.2.2.1]; exact hj)
        have hmem := List.getElem_mem (l := Ds) (n := j) (by rw [HT.out.2.2.1]; exact hj)
        refine ⟨own_step o.1 fun q hq => hw7o q (o.1.lt q hq).2 (fun e => HT.out.d_ne _ hmem (by rw [hq, e])) (fun e => HT.out.2.2.apart _ hmem q hq (by rw [HNN.out] at e; exact e)), o.2⟩
      · have hjj : j = es.length := by simp at h1; omega
        subst hjj
        have e2 : (Ds ++ [.slice DB d.length dc])[es.length] = .slice DB d.length dc := by
          rw [List.getElem_append_right (by rw [HT.out.2.2.1]; omega)]; simp [HT.out.2.2.1]
        rw [e2]
        simp only [List.getElem_concat_length]
        refine ⟨own_lower (own_step od.1 fun q hq => ?_) (by simp; omega), od.2⟩
        have hq1 := od.1.lt q hq
        simp only [World.heap_drewN] at hq1
        have hqp : q ≠ p := by have := hq1.1; simp at this; omega
        rw [ho8 q hqp, hg7.block q (by have := b6.size; omega) (fun e => ?_), b6.block q hq1.2]
        have := (own6.lt q e.symm).1
        have hh := (HT.out.2.2.2.1.lt q (by rw [HNN.out] at e; exact e.symm)).2
        have := hq1.1
        simp at this
        omega
  have hF8 : Frm (fun q => q = p ∨ Value.ownBlock (.slice L N c) = some q) w w8 := by
    rw [hw8]
    refine Frm.setCell ?_ _ _ (.inl (.inl rfl))
    exact (Frm.of_below bw6).trans (Frm.grown hg7 fun q e => .inr e)
  have hr8 : w8.heap[w.heap.size]? = some (.cells #[.int .i64 0, .int .i64 0, .int .i64 0, .slice none 0 0] 44 (0, 0)) := by
    rw [ho8 _ (by omega), hg7.block _ (by have := b6.size; have := b5.size; simp at this; omega) (fun e => by have hh := (HT.out.2.2.2.1.lt w.heap.size (by rw [HNN.out] at e; exact e.symm)).2; omega), b6.block _ (by have := b5.size; simp at this; omega), b5.block _ (by simp)]
    exact heap_alloc_new w _
  have hA := Lib.hid (at_yes base p i t _ _ _ N (i + (N : Int) + 1) w8 hT8 h0 h1 (by rw [hE1]; omega) (by rw [hE1]; omega) (by omega))
  have hEE : (es ++ [(⟨i + (N : Int) + 1, x, k, d⟩ : Ent)])[N]'(by rw [hE1]; omega) = ⟨i + (N : Int) + 1, x, k, d⟩ := by
    have := HNN.out
    subst this
    simp
  rw [hEE] at hA
  have hs78 : w.heap.size < w8.heap.size := (Array.getElem?_eq_some_iff.1 hr8).1
  have HH := Lib.hid hT8
  have HF := Lib.hid hF8
  have HAT := Lib.hid hat
  clear hEE hT8 hpb8 hpb7 ho8 hw8 hf7 hS7 hp62 hp52 hp2 hw7o hE1 hat hF8
  go_wp2_with fail
  refine hA.out.mono ?_
  rintro e w9 ⟨D, rfl, od9, b9⟩
  obtain ⟨DC, dcc, hDv, -⟩ := own_shape od9.1
  subst hDv
  have hr9 : w9.heap[w.heap.size]? = some (.cells #[.int .i64 0, .int .i64 0, .int .i64 0, .slice none 0 0] 44 (0, 0)) := (b9.block _ hs78).trans hr8
  have hr10 : (w9.alloc (.cells #[.int .i64 (i + (N : Int) + 1), .int .i64 x, .int .i64 k, .slice DC d.length dcc] 44)).heap[w.heap.size]? = some (.cells #[.int .i64 0, .int .i64 0, .int .i64 0, .slice none 0 0] 44 (0, 0)) := ((below_alloc w9 _).block _ (Array.getElem?_eq_some_iff.1 hr9).1).trans hr9
  have r0 := cell_of hr10 0
  have r1 := cell_of hr10 1
  have r2 := cell_of hr10 2
  have r3 := cell_of hr10 3
  have f0 := frozen_of hr10 0
  have f1 := frozen_of hr10 1
  have f2 := frozen_of hr10 2
  have f3 := frozen_of hr10 3
  simp at r0 r1 r2 r3
  go_wp2_with fail
  obtain ⟨w11, hw11⟩ : ∃ w11, w11 = set4 (w9.alloc (.cells #[.int .i64 (i + (N : Int) + 1), .int .i64 x, .int .i64 k, .slice DC d.length dcc] 44)) w.heap.size (.int .i64 (i + (N : Int) + 1)) (.int .i64 x) (.int .i64 k) (.slice DC d.length dcc) := ⟨_, rfl⟩
  have e11 : ((((w9.alloc (.cells #[.int .i64 (i + (N : Int) + 1), .int .i64 x, .int .i64 k, .slice DC d.length dcc] 44)).setCell ⟨w.heap.size, 0, none⟩ (.int .i64 (i + (N : Int) + 1))).setCell ⟨w.heap.size, 1, none⟩ (.int .i64 x)).setCell ⟨w.heap.size, 2, none⟩ (.int .i64 k)).setCell ⟨w.heap.size, 3, none⟩ (.slice DC d.length dcc) = w11 := hw11.symm
  rw [e11]
  have hrb11 : w11.heap[w.heap.size]? = some (.cells #[.int .i64 (i + (N : Int) + 1), .int .i64 x, .int .i64 k, .slice DC d.length dcc] 44 (0, 0)) := by rw [hw11]; exact set4_same hr10 _ _ _ _
  have q0 : w11.cell? ⟨w.heap.size, 0, none⟩ = some (.int .i64 (i + (N : Int) + 1)) := by simp [World.cell?, hrb11]
  have q1 : w11.cell? ⟨w.heap.size, 1, none⟩ = some (.int .i64 x) := by simp [World.cell?, hrb11]
  have q2 : w11.cell? ⟨w.heap.size, 2, none⟩ = some (.int .i64 k) := by simp [World.cell?, hrb11]
  have q3 : w11.cell? ⟨w.heap.size, 3, none⟩ = some (.slice DC d.length dcc) := by simp [World.cell?, hrb11]
  have ho11 : ∀ q, q ≠ w.heap.size → w11.heap[q]? = (w9.alloc (.cells #[.int .i64 (i + (N : Int) + 1), .int .i64 x, .int .i64 k, .slice DC d.length dcc] 44)).heap[q]? := fun q hq => by rw [hw11]; exact set4_other _ _ _ _ _ _ _ hq
  have b10 := below_then b9 b9.size (below_alloc w9 (.cells #[.int .i64 (i + (N : Int) + 1), .int .i64 x, .int .i64 k, .slice DC d.length dcc] 44))
  have hge : (∀ q, Value.ownBlock (.slice (some ⟨gg, 0, none⟩) (N + 1) cap) = some q → q ≠ w.heap.size) ∧ (Value.ownBlock (.slice (some ⟨gg, 0, none⟩) (N + 1) cap) = Value.ownBlock (.slice L N c) ∨ ∀ q, Value.ownBlock (.slice (some ⟨gg, 0, none⟩) (N + 1) cap) = some q → w.heap.size ≤ q) := by
    have h5 := b5.size
    simp at h5
    rcases HAT.out with h | h
    · have hh := (HT.out.2.2.2.1.lt gg (by rw [HNN.out] at h; exact h)).2
      exact ⟨fun q hq => by simp [Value.ownBlock] at hq; omega, .inl h.symm⟩
    · exact ⟨fun q hq => by simp [Value.ownBlock] at hq; omega, .inr fun q hq => by simp [Value.ownBlock] at hq; omega⟩
  have hT11 := (HH.out.below b10).poke hr10 (fun e => (hge.1 _ e) rfl) ho11
  have hod11 : OD w11 w.heap.size (.slice DC d.length dcc) d := by
    refine ⟨own_lower (own_step od9.1 fun q hq => ?_) (by omega), od9.2⟩
    have hq1 := od9.1.lt q hq
    rw [ho11 q (by omega)]
    exact (below_alloc w9 _).block q hq1.2
  have hF11 : Frm (fun q => q = p ∨ Value.ownBlock (.slice L N c) = some q) w w11 := by
    have hF10 := HF.out.trans (Frm.of_below b10)
    exact ⟨by rw [hw11]; exact hF10.os, by rw [hw11]; exact hF10.tape, by rw [hw11]; exact hF10.output, by rw [hw11]; simpa [set4, World.size_setCell] using hF10.size, fun q hq hn => by rw [ho11 q (by omega)]; exact hF10.block q hq hn⟩
  exact bodyPost_ret (v := .tuple #[.agg #[.int .i64 (i + (N : Int) + 1), .int .i64 x, .int .i64 k, .slice DC d.length dcc], errV 0]) (by simp [results, Tryd.results21, go_sem, q0, q1, q2, q3, errV]) rfl ⟨_, _, _, rfl, hod11, hT11, hF11, hge.2⟩
end Go.Proofs.YtkjpfjgaabbggaaDoor
