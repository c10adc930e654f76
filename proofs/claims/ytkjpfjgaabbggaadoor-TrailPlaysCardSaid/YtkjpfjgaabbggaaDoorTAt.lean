/- trail.At and trail.From: the contracts. -/
import Derived.Test.YtkjpfjgaabbggaaDoorTMerge
import Derived.Test.YtkjpfjgaabbggaaDoorHeldZ
import Derived.Outline
set_option linter.unusedVariables false
set_option linter.unusedSimpArgs false
namespace Go.Proofs.YtkjpfjgaabbggaaDoor
open Go.RowKit

/-- four stores into one block -/
def set4 (w : World) (r : Nat) (a b c d : Value) : World := (((w.setCell ⟨r, 0, none⟩ a).setCell ⟨r, 1, none⟩ b).setCell ⟨r, 2, none⟩ c).setCell ⟨r, 3, none⟩ d
theorem set4_below {B : Nat} {x w : World} (h : Below B x w) {r : Nat} (hr : B ≤ r) (a b c d : Value) : Below B x (set4 w r a b c d) :=
  (((h.setCell (p := ⟨r, 0, none⟩) hr a).setCell (p := ⟨r, 1, none⟩) hr b).setCell (p := ⟨r, 2, none⟩) hr c).setCell (p := ⟨r, 3, none⟩) hr d
theorem set4_other (w : World) (r : Nat) (a b c d : Value) (k : Nat) (hk : k ≠ r) : (set4 w r a b c d).heap[k]? = w.heap[k]? := by
  unfold set4
  rw [heap_setCell_other _ _ _ _ hk, heap_setCell_other _ _ _ _ hk, heap_setCell_other _ _ _ _ hk, heap_setCell_other _ _ _ _ hk]
theorem set4_same {w : World} {r : Nat} {x y z u : Value} {t : TypeId} (h : w.heap[r]? = some (.cells #[x, y, z, u] t (0, 0))) (a b c d : Value) : (set4 w r a b c d).heap[r]? = some (.cells #[a, b, c, d] t (0, 0)) := by
  unfold set4
  have h0 := heap_setCell_same w r 0 _ _ a h
  have h1 := heap_setCell_same _ r 1 _ _ b h0
  have h2 := heap_setCell_same _ r 2 _ _ c h1
  exact heap_setCell_same _ r 3 _ _ d h2

/-- is the index an entry's? -/
def inA (i : Int) (es : List Ent) (x : Int) : Bool := decide (i < x ∧ x ≤ i + es.length)

set_option maxRecDepth 100000 in
set_option maxHeartbeats 2000000 in
theorem at_no (base p : Nat) (i t : Int) (v : Value) (es : List Ent) (Ds : List Value) (x : Int) (w : World) (h : TO w base p i t v es Ds) (h0 : 0 ≤ i) (h1 : i ≤ 10000000000000) (h2 : es.length ≤ 10000000000000) (hx : x ≤ i ∨ i + es.length < x) :
    Calls Tryd.prog 20 #[.pointer (some ⟨p, 0, none⟩), .int .i64 x] w fun e w' => e = .returned (.tuple #[.agg #[.int .i64 0, .int .i64 0, .int .i64 0, .slice none 0 0], .bool false]) ∧ Below w.heap.size w w' := by
  have hp0 := h.tr.1
  have b := below_alloc w (.cells #[.int .i64 0, .int .i64 0, .int .i64 0, .slice none 0 0] 44)
  have hp0' := below_cell b hp0
  obtain ⟨L, c, hv, hre, -⟩ := h.2.2.re
  subst hv
  have HE := Lib.hid (end_any p i t L es.length c _ (h.below b).tr h0 h1 h2)
  clear h hre hp0
  by_cases hx1 : x ≤ i
  · have hd := decide_eq_true hx1
    go_enter Tryd.func20, Tryd.ntmps20
    go_wp2_with fail
    exact bodyPost_ret (v := .tuple #[.agg #[.int .i64 0, .int .i64 0, .int .i64 0, .slice none 0 0], .bool false]) (by simp [results, Tryd.results20, go_sem]) rfl ⟨rfl, b⟩
  · have hx2 : i + es.length < x := by omega
    have hd := decide_eq_false hx1
    have hd2 := decide_eq_true hx2
    clear hx
    go_enter Tryd.func20, Tryd.ntmps20
    go_wp2_with fail
    refine HE.out.mono ?_
    rintro e w1 ⟨rfl, m, rfl⟩
    go_wp2_with fail
    exact bodyPost_ret (v := .tuple #[.agg #[.int .i64 0, .int .i64 0, .int .i64 0, .slice none 0 0], .bool false]) (by simp [results, Tryd.results20, go_sem]) rfl ⟨rfl, set4_below (below_draws b m) (Nat.le_refl _) _ _ _ _⟩
/-- what At answers where there is an entry -/
def AtYes (w : World) (E : Ent) (e : Ending) (w' : World) : Prop :=
  ∃ D, e = .returned (.tuple #[.agg #[.int .i64 E.i, .int .i64 E.t, .int .i64 E.k, D], .bool true]) ∧ OD w' w.heap.size D E.d ∧ Below w.heap.size w w'

set_option maxRecDepth 100000 in
set_option maxHeartbeats 4000000 in
theorem at_yes (base p : Nat) (i t : Int) (v : Value) (es : List Ent) (Ds : List Value) (j : Nat) (x : Int) (w : World) (h : TO w base p i t v es Ds) (h0 : 0 ≤ i) (h1 : i ≤ 10000000000000) (h2 : es.length ≤ 10000000000000) (hj : j < es.length) (hx : x = i + 1 + j) :
    Calls Tryd.prog 20 #[.pointer (some ⟨p, 0, none⟩), .int .i64 x] w (AtYes w es[j]) := by
  have b := below_alloc w (.cells #[.int .i64 0, .int .i64 0, .int .i64 0, .slice none 0 0] 44)
  obtain ⟨L, c, hv, hre, hLc, hcm, -⟩ := h.2.2.re
  subst hv
  have HT := Lib.hid h
  have HE := Lib.hid (end_any p i t L es.length c _ (h.below b).tr h0 h1 h2)
  obtain ⟨g, o, rfl, hg, -⟩ := hre.addr (by omega)
  have hp0 := below_cell b h.tr.1
  have hp2 := below_cell b h.tr.2.2
  have hpl := h.lt
  have d1 : decide (x ≤ i) = false := decide_eq_false (by omega)
  have d2 : decide (i + es.length < x) = false := decide_eq_false (by omega)
  have s1 : IntKind.i64.wrap (x - i) = (j : Int) + 1 := (IntWalk.i64_in (x - i) (by omega)).trans (by omega)
  have s2 : IntKind.i64.wrap ((j : Int) + 1 - 1) = (j : Int) := (IntWalk.i64_in ((j : Int) + 1 - 1) (by omega)).trans (by omega)
  have s3 : IntKind.i64.wrap (j : Int) = (j : Int) := IntWalk.i64_in (j : Int) (by omega)
  have hn0 : (0 : Int) ≤ (j : Int) := by omega
  have hn1 : (j : Int) ≤ (j : Int) + 1 := by omega
  have hn2 : (j : Int) + 1 ≤ (c : Int) := by omega
  have hn3 : ((j : Int) + 1).toNat = j + 1 := by omega
  have hn4 : j + 1 - j = 1 := by omega
  have hck : ¬ c = j := by omega
  have hdt : (es.drop j).take 1 = [es[j]] := by rw [List.drop_eq_getElem_cons hj]; rfl
  have HC0 := fun w1 (b1 : Below w.heap.size w w1) => copied_any (some ⟨g, o + j * 4, none⟩) 1 (c - j) ((es.drop j).take 1) ((Ds.drop j).take 1) w1 (((hre.below b1).drop j).take 1) (by rw [hdt]; rfl) (fun h => by cases h) (by omega)
  rw [hdt] at HC0
  have HC := Lib.hid HC0
  obtain ⟨E, hE⟩ : ∃ E, E = es[j] := ⟨_, rfl⟩
  rw [← hE] at HC
  rw [← hE]
  have HX := Lib.hid hx
  clear hE hdt HC0 h hre hx
  obtain ⟨ei, et, ek, ed⟩ := E
  go_enter Tryd.func20, Tryd.ntmps20
  go_wp2_with fail
  refine HE.out.mono ?_
  rintro e w1 ⟨rfl, m, rfl⟩
  go_wp2_with fail
  refine wp_region_Z (fun w' => w'.cell? ⟨p, 0, none⟩ = some (.int .i64 i) ∧ w'.cell? ⟨p, 2, none⟩ = some (.slice (some ⟨g, o, none⟩) es.length c)) 22 (by kernel_rfl) ⟨hp0, hp2⟩ (fun hHeld => ?_)
  refine wpAnyZ_take (i := 0) (v := ?_) rfl (by kernel_rfl) (by kernel_rfl) (by kernel_rfl) (by kernel_rfl) (by decide) (fun _ _ _ h => h) (by rfl) ?_ (by assumption) ?_
  rotate_left
  · (intro w hSw; (try dsimp only at hSw); go_simp) <;> with_reducible rfl
  try simp only [Act.put, List.setIfInBounds_toArray, List.set_cons_zero, List.set_cons_succ]
  refine wpAnyZ_take (i := 1) (v := ?_) rfl (by kernel_rfl) (by kernel_rfl) (by kernel_rfl) (by kernel_rfl) (by decide) (fun _ _ _ h => h) (by rfl) ?_ (by assumption) ?_
  rotate_left
  · (intro w hSw; (try dsimp only at hSw); go_simp) <;> with_reducible rfl
  try simp only [Act.put, List.setIfInBounds_toArray, List.set_cons_zero, List.set_cons_succ]
  refine wpAnyZ_take (i := 2) (v := ?_) rfl (by kernel_rfl) (by kernel_rfl) (by kernel_rfl) (by kernel_rfl) (by decide) (fun _ _ _ h => h) (by rfl) ?_ (by assumption) ?_
  rotate_left
  · (intro w hSw; (try dsimp only at hSw); go_simp) <;> with_reducible rfl
  try simp only [Act.put, List.setIfInBounds_toArray, List.set_cons_zero, List.set_cons_succ]
  refine wpAnyZ_take (i := 3) (v := ?_) rfl (by kernel_rfl) (by kernel_rfl) (by kernel_rfl) (by kernel_rfl) (by decide) (fun _ _ _ h => h) (by rfl) ?_ (by assumption) ?_
  rotate_left
  · (intro w hSw; (try dsimp only at hSw); go_simp) <;> with_reducible rfl
  try simp only [Act.put, List.setIfInBounds_toArray, List.set_cons_zero, List.set_cons_succ]
  refine wpAnyZ_take (i := 4) (v := ?_) rfl (by kernel_rfl) (by kernel_rfl) (by kernel_rfl) (by kernel_rfl) (by decide) (fun _ _ _ h => h) (by rfl) ?_ (by assumption) ?_
  rotate_left
  · (intro w hSw; (try dsimp only at hSw); go_simp) <;> with_reducible rfl
  try simp only [Act.put, List.setIfInBounds_toArray, List.set_cons_zero, List.set_cons_succ]
  refine wpAnyZ_take (i := 5) (v := ?_) rfl (by kernel_rfl) (by kernel_rfl) (by kernel_rfl) (by kernel_rfl) (by decide) (fun _ _ _ h => h) (by rfl) ?_ (by assumption) ?_
  rotate_left
  · (intro w hSw; (try dsimp only at hSw); go_simp) <;> with_reducible rfl
  try simp only [Act.put, List.setIfInBounds_toArray, List.set_cons_zero, List.set_cons_succ]
  refine wpAnyZ_take (i := 6) (v := ?_) rfl (by kernel_rfl) (by kernel_rfl) (by kernel_rfl) (by kernel_rfl) (by decide) (fun _ _ _ h => h) (by rfl) ?_ (by assumption) ?_
  rotate_left
  · (intro w hSw; (try dsimp only at hSw); go_simp) <;> with_reducible rfl
  try simp only [Act.put, List.setIfInBounds_toArray, List.set_cons_zero, List.set_cons_succ]
  refine wpAnyZ_take (i := 7) (v := ?_) rfl (by kernel_rfl) (by kernel_rfl) (by kernel_rfl) (by kernel_rfl) (by decide) (fun _ _ _ h => h) (by rfl) ?_ (by assumption) ?_
  rotate_left
  · (intro w hSw; (try dsimp only at hSw); go_simp) <;> with_reducible rfl
  try simp only [Act.put, List.setIfInBounds_toArray, List.set_cons_zero, List.set_cons_succ]
  refine wpAnyZ_take (i := 8) (v := ?_) rfl (by kernel_rfl) (by kernel_rfl) (by kernel_rfl) (by kernel_rfl) (by decide) (fun _ _ _ h => h) (by rfl) ?_ (by assumption) ?_
  rotate_left
  · (intro w hSw; (try dsimp only at hSw); go_simp) <;> with_reducible rfl
  try simp only [Act.put, List.setIfInBounds_toArray, List.set_cons_zero, List.set_cons_succ]
  refine wpAnyZ_take (i := 9) (v := ?_) rfl (by kernel_rfl) (by kernel_rfl) (by kernel_rfl) (by kernel_rfl) (by decide) (fun _ _ _ h => h) (by rfl) ?_ (by assumption) ?_
  rotate_left
  · (intro w hSw; (try dsimp only at hSw); go_simp) <;> with_reducible rfl
  try simp only [Act.put, List.setIfInBounds_toArray, List.set_cons_zero, List.set_cons_succ]
  refine wpAnyZ_take (i := 10) (v := ?_) rfl (by kernel_rfl) (by kernel_rfl) (by kernel_rfl) (by kernel_rfl) (by decide) (fun _ _ _ h => h) (by rfl) ?_ (by assumption) ?_
  rotate_left
  · (intro w hSw; (try dsimp only at hSw); go_simp) <;> with_reducible rfl
  try simp only [Act.put, List.setIfInBounds_toArray, List.set_cons_zero, List.set_cons_succ]
  refine wpAnyZ_take (i := 11) (v := ?_) rfl (by kernel_rfl) (by kernel_rfl) (by kernel_rfl) (by kernel_rfl) (by decide) (fun _ _ _ h => h) (by rfl) ?_ (by assumption) ?_
  rotate_left
  · (intro w hSw; (try dsimp only at hSw); go_simp) <;> with_reducible rfl
  try simp only [Act.put, List.setIfInBounds_toArray, List.set_cons_zero, List.set_cons_succ]
  refine wpAnyZ_take (i := 12) (v := ?_) rfl (by kernel_rfl) (by kernel_rfl) (by kernel_rfl) (by kernel_rfl) (by decide) (fun _ _ _ h => h) (by rfl) ?_ (by assumption) ?_
  rotate_left
  · (intro w hSw; (try dsimp only at hSw); go_simp) <;> with_reducible rfl
  try simp only [Act.put, List.setIfInBounds_toArray, List.set_cons_zero, List.set_cons_succ]
  refine wpAnyZ_take (i := 13) (v := ?_) rfl (by kernel_rfl) (by kernel_rfl) (by kernel_rfl) (by kernel_rfl) (by decide) (fun _ _ _ h => h) (by rfl) ?_ (by assumption) ?_
  rotate_left
  · (intro w hSw; (try dsimp only at hSw); go_simp) <;> with_reducible rfl
  try simp only [Act.put, List.setIfInBounds_toArray, List.set_cons_zero, List.set_cons_succ]
  refine wpAnyZ_take (i := 14) (v := ?_) rfl (by kernel_rfl) (by kernel_rfl) (by kernel_rfl) (by kernel_rfl) (by decide) (fun _ _ _ h => h) (by rfl) ?_ (by assumption) ?_
  rotate_left
  · (intro w hSw; (try dsimp only at hSw); go_simp) <;> with_reducible rfl
  try simp only [Act.put, List.setIfInBounds_toArray, List.set_cons_zero, List.set_cons_succ]
  refine wpAnyZ_take (i := 15) (v := ?_) rfl (by kernel_rfl) (by kernel_rfl) (by kernel_rfl) (by kernel_rfl) (by decide) (fun _ _ _ h => h) (by rfl) ?_ (by assumption) ?_
  rotate_left
  · (intro w hSw; (try dsimp only at hSw); go_simp) <;> with_reducible rfl
  try simp only [Act.put, List.setIfInBounds_toArray, List.set_cons_zero, List.set_cons_succ]
  refine wpAnyZ_take (i := 16) (v := ?_) rfl (by kernel_rfl) (by kernel_rfl) (by kernel_rfl) (by kernel_rfl) (by decide) (fun _ _ _ h => h) (by rfl) ?_ (by assumption) ?_
  rotate_left
  · (intro w hSw; (try dsimp only at hSw); go_simp) <;> with_reducible rfl
  try simp only [Act.put, List.setIfInBounds_toArray, List.set_cons_zero, List.set_cons_succ]
  refine wpAnyZ_take (i := 17) (v := ?_) rfl (by kernel_rfl) (by kernel_rfl) (by kernel_rfl) (by kernel_rfl) (by decide) (fun _ _ _ h => h) (by rfl) ?_ (by assumption) ?_
  rotate_left
  · (intro w hSw; (try dsimp only at hSw); go_simp) <;> with_reducible rfl
  try simp only [Act.put, List.setIfInBounds_toArray, List.set_cons_zero, List.set_cons_succ]
  refine wpAnyZ_step (i := 18) rfl (by kernel_rfl) (fun K hK => ?_)
  go_simp
  refine (HC.out _ (below_draws b _)).mono ?_
  rintro e w5 ⟨vM, Dm, rfl, om, b5d⟩
  have b5 := below_of_drew b5d
  obtain ⟨gm, cm, rfl, rm, hcm2, hgm1, hgm2⟩ := om.head (by simp)
  obtain ⟨a0, a1, a2, a3, ard⟩ := rm.at 0 (by simp)
  simp only [Nat.zero_mul, Nat.zero_add, List.getElem_cons_zero] at a0 a1 a2 a3 ard
  have hod := om.2.2 0 (by simp) (by rw [om.1]; simp)
  simp only [List.getElem_cons_zero] at hod
  obtain ⟨D, hDe⟩ : ∃ D, D = Dm[0]'(by rw [om.1]; simp) := ⟨_, rfl⟩
  rw [← hDe] at a3 ard hod
  obtain ⟨DB, dc, rfl, -⟩ := ard
  have hp50 := below_cell b5 hp0
  have hp52 := below_cell b5 hp2
  have hrb : w5.heap[w.heap.size]? = some (.cells #[.int .i64 0, .int .i64 0, .int .i64 0, .slice none 0 0] 44 (0, 0)) := (b5.block w.heap.size (by simp)).trans (heap_alloc_new w _)
  have r0 : w5.cell? ⟨w.heap.size, 0, none⟩ = some (.int .i64 0) := by simp [World.cell?, hrb]
  have r1 : w5.cell? ⟨w.heap.size, 1, none⟩ = some (.int .i64 0) := by simp [World.cell?, hrb]
  have r2 : w5.cell? ⟨w.heap.size, 2, none⟩ = some (.int .i64 0) := by simp [World.cell?, hrb]
  have r3 : w5.cell? ⟨w.heap.size, 3, none⟩ = some (.slice none 0 0) := by simp [World.cell?, hrb]
  have f0 : ∀ k, w5.frozen? ⟨w.heap.size, k, none⟩ = false := fun k => by simp [World.frozen?, hrb]
  have hpw : p ≠ w.heap.size := by omega
  have bel5 := below_then b b.size b5
  have HOD := Lib.hid hod
  have HB := Lib.hid hgm1
  have HRB := Lib.hid hrb
  clear om rm hod hrb b5 b5d hDe hp0 hp2
  refine hK.out _ _ (fun _ => ⟨hp50, hp52⟩) ?_
  clear hK K
  try simp only [Act.put, List.setIfInBounds_toArray, List.set_cons_zero, List.set_cons_succ]
  refine wpAnyZ_step (i := 19) rfl (by kernel_rfl) (fun K hK => ?_)
  go_simp
  refine hK.out _ _ (fun _ => ⟨hp50, hp52⟩) ?_
  clear hK K
  try simp only [Act.put, List.setIfInBounds_toArray, List.set_cons_zero, List.set_cons_succ]
  refine wpAnyZ_step (i := 20) rfl (by kernel_rfl) (fun K hK => ?_)
  go_simp
  refine hK.out _ _ (fun _ => ⟨hp50, hp52⟩) ?_
  clear hK K
  try simp only [Act.put, List.setIfInBounds_toArray, List.set_cons_zero, List.set_cons_succ]
  refine wpAnyZ_step (i := 21) rfl (by kernel_rfl) (fun K hK => ?_)
  go_simp
  obtain ⟨w8, hw8⟩ : ∃ w8, w8 = set4 w5 w.heap.size (.int .i64 ei) (.int .i64 et) (.int .i64 ek) (.slice DB ed.length dc) := ⟨_, rfl⟩
  have hrb8 : w8.heap[w.heap.size]? = some (.cells #[.int .i64 ei, .int .i64 et, .int .i64 ek, .slice DB ed.length dc] 44 (0, 0)) := by rw [hw8]; exact set4_same HRB.out _ _ _ _
  have ho8 : ∀ k, k ≠ w.heap.size → w8.heap[k]? = w5.heap[k]? := fun k hk => by rw [hw8]; exact set4_other _ _ _ _ _ _ _ hk
  have hb8 : Below w.heap.size w w8 := by rw [hw8]; exact set4_below bel5 (Nat.le_refl _) _ _ _ _
  have hod8 := Lib.hid (show OD w8 w.heap.size (.slice DB ed.length dc) ed from ⟨own_lower (own_step HOD.out.1 fun k hk => ho8 k (by have := (HOD.out.1.lt k hk).1; simp at this; omega)) (by simp), HOD.out.2⟩)
  have hS8 : w8.cell? ⟨p, 0, none⟩ = some (.int .i64 i) ∧ w8.cell? ⟨p, 2, none⟩ = some (.slice (some ⟨g, o, none⟩) es.length c) :=
    ⟨(World.cell?_of_block (w := w5) (ho8 p hpw)).trans hp50, (World.cell?_of_block (w := w5) (ho8 p hpw)).trans hp52⟩
  have q0 : w8.cell? ⟨w.heap.size, 0, none⟩ = some (.int .i64 ei) := by simp [World.cell?, hrb8]
  have q1 : w8.cell? ⟨w.heap.size, 1, none⟩ = some (.int .i64 et) := by simp [World.cell?, hrb8]
  have q2 : w8.cell? ⟨w.heap.size, 2, none⟩ = some (.int .i64 ek) := by simp [World.cell?, hrb8]
  have q3 : w8.cell? ⟨w.heap.size, 3, none⟩ = some (.slice DB ed.length dc) := by simp [World.cell?, hrb8]
  have e8 : (((w5.setCell ⟨w.heap.size, 0, none⟩ (.int .i64 ei)).setCell ⟨w.heap.size, 1, none⟩ (.int .i64 et)).setCell ⟨w.heap.size, 2, none⟩ (.int .i64 ek)).setCell ⟨w.heap.size, 3, none⟩ (.slice DB ed.length dc) = w8 := hw8.symm
  rw [e8]
  clear e8 hw8
  refine hK.out _ w8 (fun _ => hS8) ?_
  clear hK K hp50 hp52 r0 r1 r2 r3 f0 hrb8
  try simp only [Act.put, List.setIfInBounds_toArray, List.set_cons_zero, List.set_cons_succ]
  refine wpAnyZ_step (i := 22) rfl (by kernel_rfl) (fun K hK => ?_)
  go_simp
  refine hK.out _ _ (fun h => absurd rfl h) ?_
  clear hK K
  try simp only [Act.put, List.setIfInBounds_toArray, List.set_cons_zero, List.set_cons_succ]
  refine wpAnyZ_done (by kernel_rfl) ?_
  refine NoPanic.normal ?_
  go_wp2_with fail
  exact bodyPost_ret (v := .tuple #[.agg #[.int .i64 ei, .int .i64 et, .int .i64 ek, .slice DB ed.length dc], .bool true]) (by simp [results, Tryd.results20, go_sem, q0, q1, q2, q3]) rfl ⟨_, rfl, hod8.out, hb8⟩
end Go.Proofs.YtkjpfjgaabbggaaDoor
