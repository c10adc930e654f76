/- (*muntinref21.Trail).Add: the contract. -/
import Derived.Test.YtkjpfjgaabbggaaDoorUAt
import Derived.Test.YtkjpfjgaabbggaaDoorUCompact
import Derived.Test.YtkjpfjgaabbggaaDoorTAdd
set_option linter.unusedVariables false
set_option linter.unusedSimpArgs false
namespace Go.Proofs.YtkjpfjgaabbggaaDoor
open Go.RowKit

section
variable {P : Program} {ops : Array Oper} {Q : Exit → Act → World → Prop} {md : Region.Mode} {S : World → Prop} {z : Nat}
/-- two that may come up -/
theorem wpAnyZ_two {i j : Nat} {oi oj : Oper} {fuel : Nat} {listed : Array Bool} {a : Act} {w : World} (hi : ops[i]? = some oi) (hj : ops[j]? = some oj) (hr : Region.ready md ops listed = [i, j])
    (h1 : ∀ K : Act → World → Prop, Shut (∀ a' w', (i ≠ z → S w') → wpAnyZ P md ops Q S z fuel (listed.setIfInBounds i true) a' w' → K a' w') → if Region.wanted oi (yielded ops a.tmps) = true then Oper.wp P oi a w K Q else K (a.put oi.dst undef) w)
    (h2 : ∀ K : Act → World → Prop, Shut (∀ a' w', (j ≠ z → S w') → wpAnyZ P md ops Q S z fuel (listed.setIfInBounds j true) a' w' → K a' w') → if Region.wanted oj (yielded ops a.tmps) = true then Oper.wp P oj a w K Q else K (a.put oj.dst undef) w) :
    wpAnyZ P md ops Q S z (fuel + 1) listed a w := by
  refine ⟨(fun h0 => by rw [hr] at h0; cases h0), fun n hn => ?_⟩
  rw [hr] at hn
  have go : ∀ (n : Nat) (o : Oper), ops[n]? = some o → (∀ K : Act → World → Prop, Shut (∀ a' w', (n ≠ z → S w') → wpAnyZ P md ops Q S z fuel (listed.setIfInBounds n true) a' w' → K a' w') → if Region.wanted o (yielded ops a.tmps) = true then Oper.wp P o a w K Q else K (a.put o.dst undef) w) →
      wpOp P ops Q n (fun a' w' => (n ≠ z → S w') ∧ wpAnyZ P md ops Q S z fuel (listed.setIfInBounds n true) a' w') a w := fun n o ho h => by
    have h1 := h (fun a' w' => (n ≠ z → S w') ∧ wpAnyZ P md ops Q S z fuel (listed.setIfInBounds n true) a' w') (fun a' w' hS hA => ⟨hS, hA⟩)
    unfold wpOp
    simp only [ho]
    split
    · rename_i hw
      rw [if_pos hw] at h1
      exact .inl h1
    · rename_i hw
      rw [if_neg hw] at h1
      exact h1
  rcases List.mem_cons.1 hn with rfl | hn
  · exact go _ _ hi h1
  · obtain rfl := List.mem_singleton.1 hn
    exact go _ _ hj h2
end
theorem below_transU {a b c : World} (h : Below a.heap.size a b) (k : Below b.heap.size b c) : Below a.heap.size a c := below_then h h.size k
theorem OE.keep {w w' : World} {base : Nat} {v : Value} {es : List Ent} {Ds : List Value} (h : OE w base v es Ds) (hk : ∀ k, base ≤ k → k < w.heap.size → w'.heap[k]? = w.heap[k]?) : OE w' base v es Ds :=
  h.step (fun k e => hk k (h.2.1.lt k e).1 (h.2.1.lt k e).2) (fun D hD k e => hk k (h.dlt D hD k e).1 (h.dlt D hD k e).2)
theorem setE_other (w : World) (r : Nat) (a b c d : Value) (k : Nat) (hk : k ≠ r) : (setE w r a b c d).heap[k]? = w.heap[k]? := by
  unfold setE
  rw [heap_setCell_other _ _ _ _ hk, heap_setCell_other _ _ _ _ hk, heap_setCell_other _ _ _ _ hk, heap_setCell_other _ _ _ _ hk]
/-- what Add hands back -/
def RAddOk (w : World) (base q : Nat) (i t : Int) (es : List Ent) (E : Ent) (e : Ending) (w' : World) : Prop :=
  ∃ D v' Ds', e = .returned (.tuple #[.agg #[.int .i64 E.i, .int .i64 E.t, .int .i64 E.k, D], .int .i64 0]) ∧ OD w' (w.heap.size + 1) D E.d ∧ RTO w' base q i t v' (es ++ [E]) Ds' ∧ w.grownBy w' (some q) ∧ ∀ k, OwnT v' Ds' k → w.heap.size ≤ k

set_option maxRecDepth 100000 in
set_option maxHeartbeats 4000000 in
theorem radd_bad (base q : Nat) (i t : Int) (v : Value) (es : List Ent) (Ds : List Value) (x k : Int) (B : Value) (w : World) (h : RTO w base q i t v es Ds) (hfo : follows i t es = true) (h0 : 0 ≤ i) (h1 : i ≤ 10000000000000) (h2 : es.length ≤ 10000000000000) (hx : x < endT t es ∨ k < 0) :
    Calls Tryd.prog 44 #[.pointer (some ⟨q, 0, none⟩), .int .i64 x, .int .i64 k, B] w fun e w' => e = .returned (.tuple #[.agg #[.int .i64 0, .int .i64 0, .int .i64 0, .slice none 0 0], .int .i64 1]) ∧ Below w.heap.size w w' := by
  have hb0 := below_alloc w (.cells #[.int .i64 0, .int .i64 0, .int .i64 0, .slice none 0 0] 44)
  have hr0 := heap_alloc_new w (.cells #[.int .i64 0, .int .i64 0, .int .i64 0, .slice none 0 0] 44)
  obtain ⟨L, c, hv, hre, -⟩ := h.2.2.re
  subst hv
  have HL := Lib.hid (rlast_any q i t L c es Ds _ (h.below hb0).tr (hre.below hb0) hfo h0 h1 h2)
  obtain ⟨T, hT⟩ : ∃ T, T = endT t es := ⟨_, rfl⟩
  rw [← hT] at HL hx
  clear h hre hfo hT
  obtain ⟨W0, hW0⟩ : ∃ W0, W0 = w.alloc (.cells #[.int .i64 0, .int .i64 0, .int .i64 0, .slice none 0 0] 44) := ⟨_, rfl⟩
  rw [← hW0] at hb0 hr0 HL
  have HW := Lib.hid hW0
  clear hW0
  have HB := Lib.hid hb0
  have HR := Lib.hid hr0
  clear hb0 hr0
  by_cases a1 : x < T
  · clear hx
    go_enter Tryd.func44, Tryd.ntmps44
    go_wp2_with fail
    rw [← HW.out]
    refine HL.out.mono ?_
    rintro e w1 ⟨rfl, b1⟩
    have hk1 := (b1.block w.heap.size (Array.getElem?_eq_some_iff.1 HR.out).1).trans HR.out
    obtain ⟨z0, z1, z2, z3, zf⟩ := cells_at hk1
    have B1 := Lib.hid (below_then HB.out HB.out.size b1)
    clear hk1 b1
    go_wp2_with fail
    exact bodyPost_ret (v := .tuple #[.agg #[.int .i64 0, .int .i64 0, .int .i64 0, .slice none 0 0], .int .i64 1]) (by simp [results, Tryd.results44, go_sem, z0, z1, z2, z3]) rfl ⟨rfl, setE_below B1.out (Nat.le_refl _) _ _ _ _⟩
  · have a2 : k < 0 := by omega
    clear hx
    go_enter Tryd.func44, Tryd.ntmps44
    go_wp2_with fail
    rw [← HW.out]
    refine HL.out.mono ?_
    rintro e w1 ⟨rfl, b1⟩
    have hk1 := (b1.block w.heap.size (Array.getElem?_eq_some_iff.1 HR.out).1).trans HR.out
    obtain ⟨z0, z1, z2, z3, zf⟩ := cells_at hk1
    have B1 := Lib.hid (below_then HB.out HB.out.size b1)
    clear hk1 b1
    go_wp2_with fail
    exact bodyPost_ret (v := .tuple #[.agg #[.int .i64 0, .int .i64 0, .int .i64 0, .slice none 0 0], .int .i64 1]) (by simp [results, Tryd.results44, go_sem, z0, z1, z2, z3]) rfl ⟨rfl, setE_below B1.out (Nat.le_refl _) _ _ _ _⟩

set_option maxRecDepth 100000 in
set_option maxHeartbeats 8000000 in
theorem radd_ok (base q : Nat) (i t : Int) (v : Value) (es : List Ent) (Ds : List Value) (x k : Int) (B : Value) (d : List UInt8) (w : World) (h : RTO w base q i t v es Ds) (hfo : follows i t es = true) (hB : RD w B d) (h0 : 0 ≤ i) (h1 : i ≤ 10000000000000) (h2 : es.length + 1 ≤ 4200000000000) (hbase : base ≤ w.heap.size) (hx1 : endT t es ≤ x) (hx2 : 0 ≤ k) :
    Calls Tryd.prog 44 #[.pointer (some ⟨q, 0, none⟩), .int .i64 x, .int .i64 k, B] w (RAddOk w base q i t es ⟨i + es.length + 1, x, k, d⟩) := by
  have hb0 := below_alloc w (.cells #[.int .i64 0, .int .i64 0, .int .i64 0, .slice none 0 0] 44)
  have hr0 := heap_alloc_new w (.cells #[.int .i64 0, .int .i64 0, .int .i64 0, .slice none 0 0] 44)
  obtain ⟨L, c, hv, hre, -⟩ := h.2.2.re
  subst hv
  obtain ⟨BA, bc, rfl, hrb, hbc, hdl, hBn⟩ := hB
  have HL := Lib.hid (rlast_any q i t L c es Ds _ (h.below hb0).tr (hre.below hb0) hfo h0 h1 (by omega))
  obtain ⟨T, hT⟩ : ∃ T, T = endT t es := ⟨_, rfl⟩
  obtain ⟨N, hn⟩ : ∃ N, Hid (es.length = N) := ⟨_, Lib.hid rfl⟩
  rw [← hT] at HL hx1
  rw [hn.out] at HL h h2 ⊢
  have HH := Lib.hid h
  have HRE := Lib.hid hre
  have HFO := Lib.hid hfo
  have hql := h.lt
  have HRB0 := Lib.hid (hrb.below hb0)
  have a1 : ¬ x < T := by omega
  have a2 : ¬ k < 0 := by omega
  clear h hre hfo hT hrb
  obtain ⟨W0, hW0⟩ : ∃ W0, W0 = w.alloc (.cells #[.int .i64 0, .int .i64 0, .int .i64 0, .slice none 0 0] 44) := ⟨_, rfl⟩
  rw [← hW0] at hb0 hr0 HL HRB0
  have HW := Lib.hid hW0
  have HWZ := Lib.hid (show W0.heap.size = w.heap.size + 1 by rw [hW0]; simp)
  clear hW0
  have HB := Lib.hid hb0
  have HR := Lib.hid hr0
  clear hb0 hr0
  go_enter Tryd.func44, Tryd.ntmps44
  go_wp2_with fail
  rw [← HW.out]
  refine HL.out.mono ?_
  rintro e w1 ⟨rfl, b1⟩
  have B1 := Lib.hid (below_then HB.out HB.out.size b1)
  have z1 := Lib.hid (show w.heap.size + 1 ≤ w1.heap.size by have := b1.size; have := HWZ.out; omega)
  have R1 := Lib.hid ((b1.block w.heap.size (Array.getElem?_eq_some_iff.1 HR.out).1).trans HR.out)
  have bB := below_alloc w1 (.cells #[] 5)
  obtain ⟨v6, w6, run6, own6, g6⟩ := run_append_bytes (w := w1.alloc (.cells #[] 5)) w1.heap.size (.slice (some ⟨w1.heap.size, 0, none⟩) 0 0) 0 [] d BA d.length bc (World.ownsRow_made w1 #[] 0 (Nat.le_refl _) (by unfold maxLen; omega) rfl) ((HRB0.out.below b1).below bB) rfl hBn (by omega) bB.size
  obtain ⟨B2, cb2, rfl, -, -⟩ := own_shape own6
  rw [Nat.zero_add] at run6 own6
  rw [List.nil_append] at own6
  have b6 : Below w1.heap.size w1 w6 := bB.grown g6 bB.size (fun j hj => by
    have hj : w1.heap.size = j := Option.some.inj hj
    subst hj
    exact Nat.le_refl _)
  have bE := below_alloc w6 (.cells #[.int .i64 (i + (N : Int) + 1), .int .i64 x, .int .i64 k, .slice B2 d.length cb2] 44)
  have hbE := heap_alloc_new w6 (.cells #[.int .i64 (i + (N : Int) + 1), .int .i64 x, .int .i64 k, .slice B2 d.length cb2] 44)
  have HO6 := Lib.hid (show OD (w6.alloc (.cells #[.int .i64 (i + (N : Int) + 1), .int .i64 x, .int .i64 k, .slice B2 d.length cb2] 44)) (w.heap.size + 1) (.slice B2 d.length cb2) d from ⟨own_lower (own_below own6 bE) z1.out, hdl⟩)
  have wN : IntKind.i64.wrap (i + (N : Int) + 1) = i + (N : Int) + 1 := IntWalk.i64_in _ (by omega)
  have B6 := Lib.hid (below_then B1.out B1.out.size b6)
  have R6 := Lib.hid ((b6.block w.heap.size (by have := z1.out; omega)).trans R1.out)
  clear own6 g6 bB b6 b1
  go_wp2_with (at_builtin; refine wpList_append_run rfl (.tmp 32) (.tmp 33) 42 rfl rfl _ _ rfl rfl _ _ run6 ?_)
  obtain ⟨e0, he0⟩ : ∃ e0, e0 = w6.heap.size := ⟨_, rfl⟩
  obtain ⟨w7, hw7⟩ : ∃ w7, w7 = w6.alloc (.cells #[.int .i64 (i + (N : Int) + 1), .int .i64 x, .int .i64 k, .slice B2 d.length cb2] 44) := ⟨_, rfl⟩
  rw [← he0] at hbE ⊢
  rw [← hw7] at bE hbE HO6 ⊢
  have B7 := Lib.hid (below_then B6.out B6.out.size bE)
  have R7 := Lib.hid ((bE.block w.heap.size (Array.getElem?_eq_some_iff.1 R6.out).1).trans R6.out)
  have HE7 := Lib.hid hbE
  have he7 := Lib.hid (show e0 < w7.heap.size from (Array.getElem?_eq_some_iff.1 hbE).1)
  have he1 := Lib.hid (show w.heap.size < e0 by rw [he0]; exact (Array.getElem?_eq_some_iff.1 R6.out).1)
  have H7 := Lib.hid (HH.out.below B7.out)
  have hS7 : w7.drew.cell? ⟨q, 2, none⟩ = some (.slice L N c) ∧ w7.drew.cell? ⟨e0, 0, none⟩ = some (.int .i64 (i + (N : Int) + 1)) ∧ w7.drew.cell? ⟨e0, 1, none⟩ = some (.int .i64 x) ∧ w7.drew.cell? ⟨e0, 2, none⟩ = some (.int .i64 k) ∧ w7.drew.cell? ⟨e0, 3, none⟩ = some (.slice B2 d.length cb2) := by
    obtain ⟨y0, y1, y2, y3, -⟩ := cells_at hbE
    exact ⟨H7.out.tr.2.2, y0, y1, y2, y3⟩
  have HRC := Lib.hid fun (w8 : World) (b8 : Below w7.heap.size w7 w8) => rcopied_any L N c es Ds w8 ((HRE.out.below B7.out).below b8) hn.out (by omega)
  clear hw7 bE hbE he0
  refine wp_region_Z (fun w' => w'.cell? ⟨q, 2, none⟩ = some (.slice L N c) ∧ w'.cell? ⟨e0, 0, none⟩ = some (.int .i64 (i + (N : Int) + 1)) ∧ w'.cell? ⟨e0, 1, none⟩ = some (.int .i64 x) ∧ w'.cell? ⟨e0, 2, none⟩ = some (.int .i64 k) ∧ w'.cell? ⟨e0, 3, none⟩ = some (.slice B2 d.length cb2)) 11 (by kernel_rfl) hS7 (fun hHeld => ?_)
  refine wpAnyZ_take (i := 0) (v := ?_) rfl (by kernel_rfl) (by kernel_rfl) (by kernel_rfl) (by kernel_rfl) (by decide) (fun _ _ _ h => h) (by rfl) ?_ (by assumption) ?_
  rotate_left
  · (intro w hSw; (try dsimp only at hSw); go_simp) <;> with_reducible rfl
  try simp only [Act.put, List.getElem_toArray, List.getElem_cons_zero, List.getElem_cons_succ, List.setIfInBounds_toArray, List.set_cons_zero, List.set_cons_succ]
  refine wpAnyZ_take (i := 1) (v := ?_) rfl (by kernel_rfl) (by kernel_rfl) (by kernel_rfl) (by kernel_rfl) (by decide) (fun _ _ _ h => h) (by rfl) ?_ (by assumption) ?_
  rotate_left
  · (intro w hSw; (try dsimp only at hSw); go_simp) <;> with_reducible rfl
  try simp only [Act.put, List.getElem_toArray, List.getElem_cons_zero, List.getElem_cons_succ, List.setIfInBounds_toArray, List.set_cons_zero, List.set_cons_succ]
  refine wpAnyZ_take (i := 2) (v := ?_) rfl (by kernel_rfl) (by kernel_rfl) (by kernel_rfl) (by kernel_rfl) (by decide) (fun _ _ _ h => h) (by rfl) ?_ (by assumption) ?_
  rotate_left
  · (intro w hSw; (try dsimp only at hSw); go_simp) <;> with_reducible rfl
  try simp only [Act.put, List.getElem_toArray, List.getElem_cons_zero, List.getElem_cons_succ, List.setIfInBounds_toArray, List.set_cons_zero, List.set_cons_succ]
  refine wpAnyZ_take (i := 3) (v := ?_) rfl (by kernel_rfl) (by kernel_rfl) (by kernel_rfl) (by kernel_rfl) (by decide) (fun _ _ _ h => h) (by rfl) ?_ (by assumption) ?_
  rotate_left
  · (intro w hSw; (try dsimp only at hSw); go_simp) <;> with_reducible rfl
  try simp only [Act.put, List.getElem_toArray, List.getElem_cons_zero, List.getElem_cons_succ, List.setIfInBounds_toArray, List.set_cons_zero, List.set_cons_succ]
  refine wpAnyZ_take (i := 4) (v := ?_) rfl (by kernel_rfl) (by kernel_rfl) (by kernel_rfl) (by kernel_rfl) (by decide) (fun _ _ _ h => h) (by rfl) ?_ (by assumption) ?_
  rotate_left
  · (intro w hSw; (try dsimp only at hSw); go_simp) <;> with_reducible rfl
  try simp only [Act.put, List.getElem_toArray, List.getElem_cons_zero, List.getElem_cons_succ, List.setIfInBounds_toArray, List.set_cons_zero, List.set_cons_succ]
  refine wpAnyZ_take (i := 6) (v := ?_) rfl (by kernel_rfl) (by kernel_rfl) (by kernel_rfl) (by kernel_rfl) (by decide) (fun _ _ _ h => h) (by rfl) ?_ (by assumption) ?_
  rotate_left
  · (intro w hSw; (try dsimp only at hSw); go_simp) <;> with_reducible rfl
  try simp only [Act.put, List.getElem_toArray, List.getElem_cons_zero, List.getElem_cons_succ, List.setIfInBounds_toArray, List.set_cons_zero, List.set_cons_succ]
  refine wpAnyZ_two (i := 5) (j := 7) rfl rfl (by kernel_rfl) (fun K hK => ?_) (fun K hK => ?_)
  · go_simp
    refine (HRC.out _ (below_drawn' (Below.refl _ _) (m := 1))).mono ?_
    rintro e w8 ⟨v8, D8, rfl, oe8, b8⟩
    obtain ⟨A8, c8, rfl, -⟩ := oe8.re
    rw [hn.out]
    have hS8 : w8.cell? ⟨q, 2, none⟩ = some (.slice L N c) ∧ w8.cell? ⟨e0, 0, none⟩ = some (.int .i64 (i + (N : Int) + 1)) ∧ w8.cell? ⟨e0, 1, none⟩ = some (.int .i64 x) ∧ w8.cell? ⟨e0, 2, none⟩ = some (.int .i64 k) ∧ w8.cell? ⟨e0, 3, none⟩ = some (.slice B2 d.length cb2) := ⟨below_cell b8 hS7.1, below_cell b8 hS7.2.1, below_cell b8 hS7.2.2.1, below_cell b8 hS7.2.2.2.1, below_cell b8 hS7.2.2.2.2⟩
    refine hK.out _ _ (fun _ => hS8) ?_
    clear hK K
    try simp only [Act.put, List.getElem_toArray, List.getElem_cons_zero, List.getElem_cons_succ, List.setIfInBounds_toArray, List.set_cons_zero, List.set_cons_succ]
    refine wpAnyZ_step (i := 7) rfl (by kernel_rfl) (fun K hK => ?_)
    go_simp
    have bF := below_alloc w8 (.cells #[.int .i64 (i + (N : Int) + 1), .int .i64 x, .int .i64 k, .slice B2 d.length cb2] 44)
    refine hK.out _ _ (fun _ => ⟨below_cell bF hS8.1, below_cell bF hS8.2.1, below_cell bF hS8.2.2.1, below_cell bF hS8.2.2.2.1, below_cell bF hS8.2.2.2.2⟩) ?_
    clear hK K
    try simp only [Act.put, List.getElem_toArray, List.getElem_cons_zero, List.getElem_cons_succ, List.setIfInBounds_toArray, List.set_cons_zero, List.set_cons_succ]
    have b8' : Below w7.heap.size w7 w8 := below_transU (below_drawn' (Below.refl _ _) (m := 1)) b8
    have b9 : Below w7.heap.size w7 (w8.alloc (.cells #[.int .i64 (i + (N : Int) + 1), .int .i64 x, .int .i64 k, .slice B2 d.length cb2] 44)) := below_then b8' b8'.size bF
    have oe9 := oe8.below bF
    have hl8 : w7.heap.size ≤ w8.heap.size := b8'.size
    obtain ⟨v10, w10, run10, own10, g10, -⟩ := run_append_ent (w := w8.alloc (.cells #[.int .i64 (i + (N : Int) + 1), .int .i64 x, .int .i64 k, .slice B2 d.length cb2] 44)) (w.heap.size + 1) (.slice A8 es.length c8) N es D8 oe8.1 hn.out (by have := own_lower oe9.2.1 (show w.heap.size + 1 ≤ w7.heap.size by have := he1.out; have := he7.out; omega); rwa [hn.out] at this ⊢) ⟨w8.heap.size, 0, none⟩ 1 1 [⟨i + (N : Int) + 1, x, k, d⟩] [.slice B2 d.length cb2] rfl rfl (ent_news w8 ⟨i + (N : Int) + 1, x, k, d⟩ _) (ecells_one rfl (fun D hD => by rw [List.mem_singleton.1 hD]; rfl)) (by omega) (fun _ => by omega) (by have := he1.out; have := he7.out; have := bF.size; omega)
    have oe10 := (oe9.lower (show w.heap.size + 1 ≤ w7.heap.size by have := he1.out; have := he7.out; omega)).snoc hn.out own10 g10 ⟨own_below HO6.out.1 b9, hdl⟩
    have b10 : Below w7.heap.size w7 w10 := b9.grown g10 b9.size fun j hj => (oe8.2.1.lt j hj).1
    rw [hn.out] at run10
    clear own10 g10 oe9 oe8 bF b8 b9 b8'
    have hlen : (es ++ [(⟨i + (N : Int) + 1, x, k, d⟩ : Ent)]).length = N + 1 := by simp [hn.out]
    obtain ⟨V10, c10, hv10, -⟩ := oe10.re
    rw [hlen] at hv10
    subst hv10
    refine wpAnyZ_step (i := 8) rfl (by kernel_rfl) (fun K hK => ?_)
    refine step_append_run rfl (.tmp 41) (.tmp 43) 22 rfl rfl _ _ rfl rfl _ _ run10 ?_
    have hq10 := (b10.block q (by have := H7.out.lt; omega)).trans H7.out.2.1
    have hE10 := (b10.block e0 he7.out).trans HE7.out
    have hr10 := (b10.block w.heap.size (by have := he1.out; have := he7.out; omega)).trans R7.out
    obtain ⟨y0, y1, y2, y3, -⟩ := cells_at hE10
    have hS10 : w10.cell? ⟨q, 2, none⟩ = some (.slice L N c) ∧ w10.cell? ⟨e0, 0, none⟩ = some (.int .i64 (i + (N : Int) + 1)) ∧ w10.cell? ⟨e0, 1, none⟩ = some (.int .i64 x) ∧ w10.cell? ⟨e0, 2, none⟩ = some (.int .i64 k) ∧ w10.cell? ⟨e0, 3, none⟩ = some (.slice B2 d.length cb2) := ⟨cellU hq10 2, y0, y1, y2, y3⟩
    refine hK.out _ _ (fun _ => hS10) ?_
    clear hK K
    try simp only [Act.put, List.getElem_toArray, List.getElem_cons_zero, List.getElem_cons_succ, List.setIfInBounds_toArray, List.set_cons_zero, List.set_cons_succ]
    refine wpAnyZ_take (i := 9) (v := ?_) rfl (by kernel_rfl) (by kernel_rfl) (by kernel_rfl) (by kernel_rfl) (by decide) (fun _ _ _ h => h) (by rfl) ?_ (by assumption) ?_
    rotate_left
    · (intro w hSw; (try dsimp only at hSw); go_simp) <;> with_reducible rfl
    try simp only [Act.put, List.getElem_toArray, List.getElem_cons_zero, List.getElem_cons_succ, List.setIfInBounds_toArray, List.set_cons_zero, List.set_cons_succ]
    refine wpAnyZ_take (i := 10) (v := ?_) rfl (by kernel_rfl) (by kernel_rfl) (by kernel_rfl) (by kernel_rfl) (by decide) (fun _ _ _ h => h) (by rfl) ?_ (by assumption) ?_
    rotate_left
    · (intro w hSw; (try dsimp only at hSw); go_simp) <;> with_reducible rfl
    try simp only [Act.put, List.getElem_toArray, List.getElem_cons_zero, List.getElem_cons_succ, List.setIfInBounds_toArray, List.set_cons_zero, List.set_cons_succ]
    have hf10 : w10.frozen? ⟨q, 2, none⟩ = false := by simp [World.frozen?, hq10]
    have hc10 := cellU hq10 2
    refine wpAnyZ_step (i := 11) rfl (by kernel_rfl) (fun K hK => ?_)
    go_simp
    refine hK.out _ _ (fun h => absurd rfl h) ?_
    clear hK K
    try simp only [Act.put, List.getElem_toArray, List.getElem_cons_zero, List.getElem_cons_succ, List.setIfInBounds_toArray, List.set_cons_zero, List.set_cons_succ]
    refine wpAnyZ_done (by kernel_rfl) ?_
    refine NoPanic.normal ?_
    obtain ⟨w11, hw11⟩ : ∃ w11, w11 = w10.setCell ⟨q, 2, none⟩ (.slice V10 (N + 1) c10) := ⟨_, rfl⟩
    have hq11 : w11.heap[q]? = some (.cells #[.int .i64 i, .int .i64 t, .slice V10 (N + 1) c10] 85 (0, 0)) := by rw [hw11]; exact heap_setCell_same _ _ _ _ _ _ hq10
    have ho11 : ∀ j, j ≠ q → w11.heap[j]? = w10.heap[j]? := fun j hj => by rw [hw11]; exact heap_setCell_other _ _ _ _ hj
    have hz11 : w11.heap.size = w10.heap.size := by rw [hw11]; exact World.size_setCell _ _ _
    have hos11 : w11.os = w10.os ∧ w11.tape = w10.tape ∧ w11.output = w10.output := by rw [hw11]; exact ⟨rfl, rfl, rfl⟩
    have oe11 : OE w11 (w.heap.size + 1) (.slice V10 (N + 1) c10) (es ++ [⟨i + (N : Int) + 1, x, k, d⟩]) _ := oe10.keep fun j hj _ => ho11 j (by omega)
    rw [← hw11]
    have hE11 := (ho11 e0 (by have := he1.out; omega)).trans hE10
    have hr11 := (ho11 w.heap.size (by omega)).trans hr10
    have x0 := (cells_at hE11).1
    have T11 : RTO w11 base q i t (.slice V10 (N + 1) c10) (es ++ [⟨i + (N : Int) + 1, x, k, d⟩]) _ := ⟨HH.out.1, hq11, oe11.lower (by omega)⟩
    have HAT := Lib.hid (rat_yes base q i t _ _ _ N (i + (N : Int) + 1) w11 T11 h0 h1 (by rw [hlen]; omega) (by rw [hlen]; omega) (by omega))
    have hget : (es ++ [(⟨i + (N : Int) + 1, x, k, d⟩ : Ent)])[N]'(by rw [hlen]; omega) = ⟨i + (N : Int) + 1, x, k, d⟩ := by
      rw [List.getElem_append_right (by rw [hn.out]; exact Nat.le_refl _)]
      simp [hn.out]
    rw [hget] at HAT
    have HO11 := Lib.hid oe11
    have HQ11 := Lib.hid hq11
    have HR11 := Lib.hid hr11
    have HG := Lib.hid (show ∀ j, j < w.heap.size → j ≠ q → w11.heap[j]? = w.heap[j]? from fun j hj hq => (ho11 j hq).trans ((b10.block j (by have := he1.out; have := he7.out; omega)).trans (B7.out.block j hj)))
    have HZ := Lib.hid (show w.heap.size < w11.heap.size from (Array.getElem?_eq_some_iff.1 hr11).1)
    have HOS := Lib.hid (show w11.os = w.os ∧ w11.tape = w.tape ∧ w11.output = w.output from ⟨hos11.1.trans (b10.os.trans B7.out.os), hos11.2.1.trans (b10.tape.trans B7.out.tape), hos11.2.2.trans (b10.output.trans B7.out.output)⟩)
    have HLEN := Lib.hid hlen
    clear hw11 hq11 ho11 hz11 hos11 oe11 hE11 hr11 T11 hget hlen hq10 hE10 hr10 y0 y1 y2 y3 b10 oe10 hf10 hc10 run10
    go_wp2_with fail
    refine HAT.out.mono ?_
    rintro e w12 ⟨D12, rfl, od12, b12⟩
    obtain ⟨DB, dc, rfl, -⟩ := od12.rd
    have hr12 := (b12.block w.heap.size HZ.out).trans HR11.out
    have bL := below_alloc w12 (.cells #[.int .i64 (i + (N : Int) + 1), .int .i64 x, .int .i64 k, .slice DB d.length dc] 44)
    have hl12 := heap_alloc_new w12 (.cells #[.int .i64 (i + (N : Int) + 1), .int .i64 x, .int .i64 k, .slice DB d.length dc] 44)
    obtain ⟨w13, hw13⟩ : ∃ w13, w13 = w12.alloc (.cells #[.int .i64 (i + (N : Int) + 1), .int .i64 x, .int .i64 k, .slice DB d.length dc] 44) := ⟨_, rfl⟩
    rw [← hw13] at bL hl12
    have hr13 := (bL.block w.heap.size (Array.getElem?_eq_some_iff.1 hr12).1).trans hr12
    obtain ⟨y0, y1, y2, y3, -⟩ := cells_at hl12
    obtain ⟨u0, u1, u2, u3, uf⟩ := cells_at hr13
    have HW13 := Lib.hid hw13
    have HBL := Lib.hid (below_then b12 b12.size bL)
    have HOD := Lib.hid (show OD w13 w11.heap.size (.slice DB d.length dc) d from ⟨own_below od12.1 bL, hdl⟩)
    clear hr12 bL hl12 hw13 hr13 od12 b12
    go_upto_region 7 with (fail)
    rw [← HW13.out]
    go_wp2_with fail
    have ho : ∀ j, j ≠ w.heap.size → (setE w13 w.heap.size (.int .i64 (i + (N : Int) + 1)) (.int .i64 x) (.int .i64 k) (.slice DB d.length dc)).heap[j]? = w13.heap[j]? := fun j hj => setE_other _ _ _ _ _ _ _ hj
    have hfin : RAddOk w base q i t es ⟨i + (N : Int) + 1, x, k, d⟩ (.returned (.tuple #[.agg #[.int .i64 (i + (N : Int) + 1), .int .i64 x, .int .i64 k, .slice DB d.length dc], .int .i64 0])) (setE w13 w.heap.size (.int .i64 (i + (N : Int) + 1)) (.int .i64 x) (.int .i64 k) (.slice DB d.length dc)) := by
      refine ⟨_, .slice V10 (N + 1) c10, D8 ++ [.slice B2 d.length cb2], rfl, ⟨own_lower (own_step HOD.out.1 fun j hj => ho j ?_) (by have := HZ.out; omega), hdl⟩, ⟨HH.out.1, ?_, ?_⟩, ⟨?_, ?_, ?_, ?_, ?_⟩, fun z hz => ?_⟩
      · have := (HOD.out.1.lt j hj).1; have := HZ.out; omega
      · exact (ho q (by omega)).trans ((HBL.out.block q (Array.getElem?_eq_some_iff.1 HQ11.out).1).trans HQ11.out)
      · exact ((HO11.out.below HBL.out).keep fun j hj _ => ho j (by omega)).lower (by omega)
      · exact HBL.out.os.trans HOS.out.1
      · exact HBL.out.tape.trans HOS.out.2.1
      · exact HBL.out.output.trans HOS.out.2.2
      · have h1 : (setE w13 w.heap.size (.int .i64 (i + (N : Int) + 1)) (.int .i64 x) (.int .i64 k) (.slice DB d.length dc)).heap.size = w13.heap.size := by unfold setE; simp only [World.size_setCell]
        rw [h1]
        have := HBL.out.size
        have := HZ.out
        omega
      · intro j hj hq
        have hjq : j ≠ q := fun e => hq (by rw [e])
        exact (ho j (by omega)).trans ((HBL.out.block j (by have := HZ.out; omega)).trans (HG.out j hj hjq))
      · rcases hz with h | ⟨D, hD, h⟩
        · have := (HO11.out.2.1.lt z h).1; omega
        · have := (HO11.out.dlt D hD z h).1; omega
    exact bodyPost_ret (v := .tuple #[.agg #[.int .i64 (i + (N : Int) + 1), .int .i64 x, .int .i64 k, .slice DB d.length dc], .int .i64 0]) (by simp [results, Tryd.results44, go_sem, u0, u1, u2, u3]) rfl hfin
  · go_simp
    have bF := below_alloc w7.drew (.cells #[.int .i64 (i + (N : Int) + 1), .int .i64 x, .int .i64 k, .slice B2 d.length cb2] 44)
    refine hK.out _ _ (fun _ => ⟨below_cell bF hS7.1, below_cell bF hS7.2.1, below_cell bF hS7.2.2.1, below_cell bF hS7.2.2.2.1, below_cell bF hS7.2.2.2.2⟩) ?_
    clear hK K
    try simp only [Act.put, List.getElem_toArray, List.getElem_cons_zero, List.getElem_cons_succ, List.setIfInBounds_toArray, List.set_cons_zero, List.set_cons_succ]
    refine wpAnyZ_step (i := 5) rfl (by kernel_rfl) (fun K hK => ?_)
    go_simp
    have bF' : Below w7.heap.size w7 (w7.drew.alloc (.cells #[.int .i64 (i + (N : Int) + 1), .int .i64 x, .int .i64 k, .slice B2 d.length cb2] 44)) := below_transU (below_drawn' (Below.refl _ _) (m := 1)) bF
    refine (HRC.out _ bF').mono ?_
    rintro e w8 ⟨v8, D8, rfl, oe8, b8⟩
    obtain ⟨A8, c8, rfl, -⟩ := oe8.re
    rw [hn.out]
    have b9 : Below w7.heap.size w7 w8 := below_then bF' bF'.size b8
    refine hK.out _ _ (fun _ => ⟨below_cell b9 hS7.1, below_cell b9 hS7.2.1, below_cell b9 hS7.2.2.1, below_cell b9 hS7.2.2.2.1, below_cell b9 hS7.2.2.2.2⟩) ?_
    clear hK K
    try simp only [Act.put, List.getElem_toArray, List.getElem_cons_zero, List.getElem_cons_succ, List.setIfInBounds_toArray, List.set_cons_zero, List.set_cons_succ]
    have hz78 : w7.heap.size ≤ (w7.drew.alloc (.cells #[.int .i64 (i + (N : Int) + 1), .int .i64 x, .int .i64 k, .slice B2 d.length cb2] 44)).heap.size := bF'.size
    have hnew : ∀ j u, (ecells [(⟨i + (N : Int) + 1, x, k, d⟩ : Ent)] [.slice B2 d.length cb2])[j]? = some u → w8.cell? ((⟨w7.heap.size, 0, none⟩ : Addr).add j) = some u := fun j u hj => by
      have := ent_news w7.drew ⟨i + (N : Int) + 1, x, k, d⟩ (.slice B2 d.length cb2) j u hj
      rw [Addr.add_lit] at this ⊢
      exact below_cell b8 this
    obtain ⟨v10, w10, run10, own10, g10, -⟩ := run_append_ent (w := w8) (w.heap.size + 1) (.slice A8 es.length c8) N es D8 oe8.1 hn.out (by have := own_lower oe8.2.1 (show w.heap.size + 1 ≤ (w7.drew.alloc (.cells #[.int .i64 (i + (N : Int) + 1), .int .i64 x, .int .i64 k, .slice B2 d.length cb2] 44)).heap.size by have := he1.out; have := he7.out; omega); rwa [hn.out] at this ⊢) ⟨w7.heap.size, 0, none⟩ 1 1 [⟨i + (N : Int) + 1, x, k, d⟩] [.slice B2 d.length cb2] rfl rfl hnew (ecells_one rfl (fun D hD => by rw [List.mem_singleton.1 hD]; rfl)) (by omega) (fun _ => by omega) (by have := he1.out; have := he7.out; have := b9.size; omega)
    have oe10 := (oe8.lower (show w.heap.size + 1 ≤ (w7.drew.alloc (.cells #[.int .i64 (i + (N : Int) + 1), .int .i64 x, .int .i64 k, .slice B2 d.length cb2] 44)).heap.size by have := he1.out; have := he7.out; omega)).snoc hn.out own10 g10 ⟨own_below HO6.out.1 b9, hdl⟩
    have b10 : Below w7.heap.size w7 w10 := b9.grown g10 b9.size fun j hj => by have := (oe8.2.1.lt j hj).1; omega
    rw [hn.out] at run10
    clear own10 g10 oe8 bF b8 b9 bF' hnew
    have hlen : (es ++ [(⟨i + (N : Int) + 1, x, k, d⟩ : Ent)]).length = N + 1 := by simp [hn.out]
    obtain ⟨V10, c10, hv10, -⟩ := oe10.re
    rw [hlen] at hv10
    subst hv10
    refine wpAnyZ_step (i := 8) rfl (by kernel_rfl) (fun K hK => ?_)
    refine step_append_run rfl (.tmp 41) (.tmp 43) 22 rfl rfl _ _ rfl rfl _ _ run10 ?_
    have hq10 := (b10.block q (by have := H7.out.lt; omega)).trans H7.out.2.1
    have hE10 := (b10.block e0 he7.out).trans HE7.out
    have hr10 := (b10.block w.heap.size (by have := he1.out; have := he7.out; omega)).trans R7.out
    obtain ⟨y0, y1, y2, y3, -⟩ := cells_at hE10
    have hS10 : w10.cell? ⟨q, 2, none⟩ = some (.slice L N c) ∧ w10.cell? ⟨e0, 0, none⟩ = some (.int .i64 (i + (N : Int) + 1)) ∧ w10.cell? ⟨e0, 1, none⟩ = some (.int .i64 x) ∧ w10.cell? ⟨e0, 2, none⟩ = some (.int .i64 k) ∧ w10.cell? ⟨e0, 3, none⟩ = some (.slice B2 d.length cb2) := ⟨cellU hq10 2, y0, y1, y2, y3⟩
    refine hK.out _ _ (fun _ => hS10) ?_
    clear hK K
    try simp only [Act.put, List.getElem_toArray, List.getElem_cons_zero, List.getElem_cons_succ, List.setIfInBounds_toArray, List.set_cons_zero, List.set_cons_succ]
    refine wpAnyZ_take (i := 9) (v := ?_) rfl (by kernel_rfl) (by kernel_rfl) (by kernel_rfl) (by kernel_rfl) (by decide) (fun _ _ _ h => h) (by rfl) ?_ (by assumption) ?_
    rotate_left
    · (intro w hSw; (try dsimp only at hSw); go_simp) <;> with_reducible rfl
    try simp only [Act.put, List.getElem_toArray, List.getElem_cons_zero, List.getElem_cons_succ, List.setIfInBounds_toArray, List.set_cons_zero, List.set_cons_succ]
    refine wpAnyZ_take (i := 10) (v := ?_) rfl (by kernel_rfl) (by kernel_rfl) (by kernel_rfl) (by kernel_rfl) (by decide) (fun _ _ _ h => h) (by rfl) ?_ (by assumption) ?_
    rotate_left
    · (intro w hSw; (try dsimp only at hSw); go_simp) <;> with_reducible rfl
    try simp only [Act.put, List.getElem_toArray, List.getElem_cons_zero, List.getElem_cons_succ, List.setIfInBounds_toArray, List.set_cons_zero, List.set_cons_succ]
    have hf10 : w10.frozen? ⟨q, 2, none⟩ = false := by simp [World.frozen?, hq10]
    have hc10 := cellU hq10 2
    refine wpAnyZ_step (i := 11) rfl (by kernel_rfl) (fun K hK => ?_)
    go_simp
    refine hK.out _ _ (fun h => absurd rfl h) ?_
    clear hK K
    try simp only [Act.put, List.getElem_toArray, List.getElem_cons_zero, List.getElem_cons_succ, List.setIfInBounds_toArray, List.set_cons_zero, List.set_cons_succ]
    refine wpAnyZ_done (by kernel_rfl) ?_
    refine NoPanic.normal ?_
    obtain ⟨w11, hw11⟩ : ∃ w11, w11 = w10.setCell ⟨q, 2, none⟩ (.slice V10 (N + 1) c10) := ⟨_, rfl⟩
    have hq11 : w11.heap[q]? = some (.cells #[.int .i64 i, .int .i64 t, .slice V10 (N + 1) c10] 85 (0, 0)) := by rw [hw11]; exact heap_setCell_same _ _ _ _ _ _ hq10
    have ho11 : ∀ j, j ≠ q → w11.heap[j]? = w10.heap[j]? := fun j hj => by rw [hw11]; exact heap_setCell_other _ _ _ _ hj
    have hz11 : w11.heap.size = w10.heap.size := by rw [hw11]; exact World.size_setCell _ _ _
    have hos11 : w11.os = w10.os ∧ w11.tape = w10.tape ∧ w11.output = w10.output := by rw [hw11]; exact ⟨rfl, rfl, rfl⟩
    have oe11 : OE w11 (w.heap.size + 1) (.slice V10 (N + 1) c10) (es ++ [⟨i + (N : Int) + 1, x, k, d⟩]) _ := oe10.keep fun j hj _ => ho11 j (by omega)
    rw [← hw11]
    have hE11 := (ho11 e0 (by have := he1.out; omega)).trans hE10
    have hr11 := (ho11 w.heap.size (by omega)).trans hr10
    have x0 := (cells_at hE11).1
    have T11 : RTO w11 base q i t (.slice V10 (N + 1) c10) (es ++ [⟨i + (N : Int) + 1, x, k, d⟩]) _ := ⟨HH.out.1, hq11, oe11.lower (by omega)⟩
    have HAT := Lib.hid (rat_yes base q i t _ _ _ N (i + (N : Int) + 1) w11 T11 h0 h1 (by rw [hlen]; omega) (by rw [hlen]; omega) (by omega))
    have hget : (es ++ [(⟨i + (N : Int) + 1, x, k, d⟩ : Ent)])[N]'(by rw [hlen]; omega) = ⟨i + (N : Int) + 1, x, k, d⟩ := by
      rw [List.getElem_append_right (by rw [hn.out]; exact Nat.le_refl _)]
      simp [hn.out]
    rw [hget] at HAT
    have HO11 := Lib.hid oe11
    have HQ11 := Lib.hid hq11
    have HR11 := Lib.hid hr11
    have HG := Lib.hid (show ∀ j, j < w.heap.size → j ≠ q → w11.heap[j]? = w.heap[j]? from fun j hj hq => (ho11 j hq).trans ((b10.block j (by have := he1.out; have := he7.out; omega)).trans (B7.out.block j hj)))
    have HZ := Lib.hid (show w.heap.size < w11.heap.size from (Array.getElem?_eq_some_iff.1 hr11).1)
    have HOS := Lib.hid (show w11.os = w.os ∧ w11.tape = w.tape ∧ w11.output = w.output from ⟨hos11.1.trans (b10.os.trans B7.out.os), hos11.2.1.trans (b10.tape.trans B7.out.tape), hos11.2.2.trans (b10.output.trans B7.out.output)⟩)
    have HLEN := Lib.hid hlen
    clear hw11 hq11 ho11 hz11 hos11 oe11 hE11 hr11 T11 hget hlen hq10 hE10 hr10 y0 y1 y2 y3 b10 oe10 hf10 hc10 run10
    go_wp2_with fail
    refine HAT.out.mono ?_
    rintro e w12 ⟨D12, rfl, od12, b12⟩
    obtain ⟨DB, dc, rfl, -⟩ := od12.rd
    have hr12 := (b12.block w.heap.size HZ.out).trans HR11.out
    have bL := below_alloc w12 (.cells #[.int .i64 (i + (N : Int) + 1), .int .i64 x, .int .i64 k, .slice DB d.length dc] 44)
    have hl12 := heap_alloc_new w12 (.cells #[.int .i64 (i + (N : Int) + 1), .int .i64 x, .int .i64 k, .slice DB d.length dc] 44)
    obtain ⟨w13, hw13⟩ : ∃ w13, w13 = w12.alloc (.cells #[.int .i64 (i + (N : Int) + 1), .int .i64 x, .int .i64 k, .slice DB d.length dc] 44) := ⟨_, rfl⟩
    rw [← hw13] at bL hl12
    have hr13 := (bL.block w.heap.size (Array.getElem?_eq_some_iff.1 hr12).1).trans hr12
    obtain ⟨y0, y1, y2, y3, -⟩ := cells_at hl12
    obtain ⟨u0, u1, u2, u3, uf⟩ := cells_at hr13
    have HW13 := Lib.hid hw13
    have HBL := Lib.hid (below_then b12 b12.size bL)
    have HOD := Lib.hid (show OD w13 w11.heap.size (.slice DB d.length dc) d from ⟨own_below od12.1 bL, hdl⟩)
    clear hr12 bL hl12 hw13 hr13 od12 b12
    go_upto_region 7 with (fail)
    rw [← HW13.out]
    go_wp2_with fail
    have ho : ∀ j, j ≠ w.heap.size → (setE w13 w.heap.size (.int .i64 (i + (N : Int) + 1)) (.int .i64 x) (.int .i64 k) (.slice DB d.length dc)).heap[j]? = w13.heap[j]? := fun j hj => setE_other _ _ _ _ _ _ _ hj
    have hfin : RAddOk w base q i t es ⟨i + (N : Int) + 1, x, k, d⟩ (.returned (.tuple #[.agg #[.int .i64 (i + (N : Int) + 1), .int .i64 x, .int .i64 k, .slice DB d.length dc], .int .i64 0])) (setE w13 w.heap.size (.int .i64 (i + (N : Int) + 1)) (.int .i64 x) (.int .i64 k) (.slice DB d.length dc)) := by
      refine ⟨_, .slice V10 (N + 1) c10, D8 ++ [.slice B2 d.length cb2], rfl, ⟨own_lower (own_step HOD.out.1 fun j hj => ho j ?_) (by have := HZ.out; omega), hdl⟩, ⟨HH.out.1, ?_, ?_⟩, ⟨?_, ?_, ?_, ?_, ?_⟩, fun z hz => ?_⟩
      · have := (HOD.out.1.lt j hj).1; have := HZ.out; omega
      · exact (ho q (by omega)).trans ((HBL.out.block q (Array.getElem?_eq_some_iff.1 HQ11.out).1).trans HQ11.out)
      · exact ((HO11.out.below HBL.out).keep fun j hj _ => ho j (by omega)).lower (by omega)
      · exact HBL.out.os.trans HOS.out.1
      · exact HBL.out.tape.trans HOS.out.2.1
      · exact HBL.out.output.trans HOS.out.2.2
      · have h1 : (setE w13 w.heap.size (.int .i64 (i + (N : Int) + 1)) (.int .i64 x) (.int .i64 k) (.slice DB d.length dc)).heap.size = w13.heap.size := by unfold setE; simp only [World.size_setCell]
        rw [h1]
        have := HBL.out.size
        have := HZ.out
        omega
      · intro j hj hq
        have hjq : j ≠ q := fun e => hq (by rw [e])
        exact (ho j (by omega)).trans ((HBL.out.block j (by have := HZ.out; omega)).trans (HG.out j hj hjq))
      · rcases hz with h | ⟨D, hD, h⟩
        · have := (HO11.out.2.1.lt z h).1; omega
        · have := (HO11.out.dlt D hD z h).1; omega
    exact bodyPost_ret (v := .tuple #[.agg #[.int .i64 (i + (N : Int) + 1), .int .i64 x, .int .i64 k, .slice DB d.length dc], .int .i64 0]) (by simp [results, Tryd.results44, go_sem, u0, u1, u2, u3]) rfl hfin
end Go.Proofs.YtkjpfjgaabbggaaDoor
