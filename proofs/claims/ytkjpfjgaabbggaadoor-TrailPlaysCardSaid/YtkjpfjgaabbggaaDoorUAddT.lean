/- (*trail.Trail).Add: the contract, with no bound on bytes (printed by gen/uaddt.py out of XTAdd). -/
import Derived.Test.YtkjpfjgaabbggaaDoorTAdd
import Derived.Test.YtkjpfjgaabbggaaDoorUCopied
set_option linter.unusedVariables false
set_option linter.unusedSimpArgs false
namespace Go.Proofs.YtkjpfjgaabbggaaDoor
open Go.RowKit

/-- the rows of at most N entries stand as they did -/
def KeepRow (w w' : World) (N : Nat) : Prop := ∀ b2 V n c ys, n ≤ N → w.ownsRow b2 44 4 (.slice V n c) n ys → w'.ownsRow b2 44 4 (.slice V n c) n ys
theorem keep_none {w w' : World} {N : Nat} (g : w.grownBy w' none) : KeepRow w w' N := fun _ _ _ _ _ _ h => own_step h fun k hk => g.block k (h.lt k hk).2 (by simp)
theorem keep_spare {w w' : World} {base g n cap m : Nat} {xs news : List Value} (h : w.ownsRow base 44 4 (.slice (some ⟨g, 0, none⟩) n cap) n xs) (h' : w'.ownsRow base 44 4 (.slice (some ⟨g, 0, none⟩) (n + m) cap) (n + m) (xs ++ news)) (gr : w.grownBy w' (some g)) : KeepRow w w' n := by
  intro b2 V n2 c2 ys hn2 hu
  rcases hu.2 with ⟨e, n0⟩ | ⟨g2, cap2, cur2, e, hb2, hh2, a1, a2, a3, a4⟩
  · exact ⟨hu.1, .inl ⟨e, n0⟩⟩
  · cases e
    by_cases hg : g2 = g
    · subst hg
      rcases h.2 with ⟨e, _⟩ | ⟨g3, cap3, cur3, e3, _, hh3, d1, d2, d3, d4⟩
      · cases e
      cases e3
      rw [hh2] at hh3
      injection hh3 with hh4
      injection hh4 with hh5
      subst hh5
      rcases h'.2 with ⟨e, _⟩ | ⟨g4, cap4, cur4, e4, _, hh6, f1, f2, f3, f4⟩
      · cases e
      cases e4
      have hcap : c2 = cap := by omega
      subst hcap
      refine ⟨hu.1, .inr ⟨g2, c2, cur4, rfl, hb2, hh6, a1, a2, f3, ?_⟩⟩
      have e1 : cur4.toList.take (n2 * 4) = (cur4.toList.take ((n + m) * 4)).take (n2 * 4) := by rw [List.take_take, Nat.min_eq_left (by omega)]
      have e2 : cur2.toList.take (n2 * 4) = (cur2.toList.take (n * 4)).take (n2 * 4) := by rw [List.take_take, Nat.min_eq_left (by omega)]
      rw [e1, f4, List.take_append_of_le_length (by rw [h.1]; omega), ← d4, ← e2, a4]
    · exact own_step hu fun k hk => gr.block k (hu.lt k hk).2 (by
        have hk : g2 = k := Option.some.inj hk
        intro e
        exact hg (hk.trans (Option.some.inj e)))
theorem own_ne_cellsT {w : World} {base n q : Nat} {e T : TypeId} {s : Nat} {v : Value} {xs : List Value} {cs : Array Value} {fr : Nat × Nat} (h : w.ownsRow base e s v n xs) (hq : w.heap[q]? = some (.cells cs T fr)) (hne : e ≠ T) : v.ownBlock ≠ some q := by
  intro hk
  rcases h.2 with ⟨rfl, _⟩ | ⟨g, cap, cur, rfl, _, hh, _⟩
  · cases hk
  · have hk : g = q := Option.some.inj hk
    subst hk
    rw [hh] at hq
    cases hq
    exact hne rfl
def AddOkW (w : World) (base p : Nat) (i t : Int) (v : Value) (Ds : List Value) (es : List Ent) (E : Ent) (e : Ending) (w' : World) : Prop := 
  ∃ D v' Ds', e = .returned (.tuple #[.agg #[.int .i64 E.i, .int .i64 E.t, .int .i64 E.k, D], errV 0]) ∧ OD w' w.heap.size D E.d ∧ TO w' base p i t v' (es ++ [E]) Ds' ∧ Frm (fun k => k = p ∨ v.ownBlock = some k) w w' ∧ KeepRow w w' es.length ∧
    (∀ k, OwnT v' Ds' k → OwnT v Ds k ∨ w.heap.size ≤ k) ∧ ∀ k, D.ownBlock = some k → ¬ OwnT v' Ds' k
/-- one row of entries behind another -/
theorem run_append_ent2 {w : World} (base : Nat) (v : Value) (n : Nat) (es : List Ent) (Ds : List Value) (hD : Ds.length = es.length) (hl : es.length = n) (hown : w.ownsRow base 44 4 v n (ecells es Ds)) (a : Addr) (m c : Nat) (fs : List Ent) (Fs : List Value) (hF : Fs.length = fs.length) (hm : fs.length = m)
    (hnews : ∀ j u, (ecells fs Fs)[j]? = some u → w.cell? (a.add j) = some u) (h1 : ∀ u ∈ ecells fs Fs, u.oneCell' = true) (hn : n + m ≤ 4200000000000) (h0 : v = .slice none 0 0 → m * 48 ≤ 140737488355328) (hbase : base ≤ w.heap.size) :
    ∃ v' w', (Builtin.append_ #[22, 22] 22 #[v, .slice (some a) m c]).run Tryd.prog w = .ok v' w' ∧ w'.ownsRow base 44 4 v' (n + m) (ecells (es ++ fs) (Ds ++ Fs)) ∧ w.grownBy w' v.ownBlock ∧ (v'.ownBlock = v.ownBlock ∨ ∀ k, v'.ownBlock = some k → w.heap.size ≤ k) ∧ (v' = .slice none 0 0 → v = .slice none 0 0) ∧ KeepRow w w' n := by
  obtain ⟨i0, hi, hz0, hz1, hz2⟩ := info_parts info_entry
  rw [ecells_append fs Fs hD]
  have hlf : (ecells fs Fs).length = m * 4 := by rw [ecells_length hF, hm]
  rcases hown.2 with ⟨rfl, rfl⟩ | ⟨g, cap, cur, rfl, hg, hh, r1, r2, r3, r4⟩
  · obtain rfl : es = [] := List.eq_nil_of_length_eq_zero hl
    obtain rfl : Ds = [] := List.eq_nil_of_length_eq_zero hD
    obtain ⟨v', w', hrun, q1, q2, _⟩ := run_append_own (P := Tryd.prog) w w.heap.size 22 22 44 i0 _ 4 48 Tryd.underlying22 hi hz0 hz1 hz2 rfl (by decide) (.slice none 0 0) 0 [] (World.ownsRow_nil w _ 44 4) a m c (ecells fs Fs) hlf hnews h1 (by unfold maxLen; omega) (by have := h0 rfl; omega) (Nat.le_refl _)
    exact ⟨v', w', hrun, ⟨by simpa [ecells] using q1.1, by
      rcases q1.2 with ⟨e1, e2⟩ | ⟨g, cap, cur, e1, e2, e3, e4, e5, e6, e7⟩
      · exact .inl ⟨e1, e2⟩
      · exact .inr ⟨g, cap, cur, e1, Nat.le_trans hbase e2, e3, e4, e5, e6, by simpa [ecells] using e7⟩⟩, q2, .inr fun k hk => (q1.lt k hk).1, fun _ => rfl, keep_none q2⟩
  · by_cases hroom : n + m ≤ cap
    · obtain ⟨w', hrun, q1, q2⟩ := run_append_own_spare (P := Tryd.prog) w base 22 22 44 i0 4 Tryd.underlying22 hi hz1 g n cap (ecells es Ds) hown a m c (ecells fs Fs) hlf hnews h1 hroom
      exact ⟨_, w', hrun, q1, q2, .inl rfl, (fun h => by cases h), keep_spare hown q1 q2⟩
    · have hq := nextslicecap_q (need := n + m) (old := cap) (by omega)
      obtain ⟨v', w', hrun, q1, q2⟩ := append_grows_fit (P := Tryd.prog) w 22 22 44 i0 _ 4 48 Tryd.underlying22 hi hz0 hz1 hz2 rfl (by decide) (some ⟨g, 0, none⟩) n cap (ecells es Ds) (fun h => by cases h) hown.1 (fun b hb j u hu => by
        cases hb
        rw [Addr.add_lit, Nat.zero_add]
        exact (own_cell hown j u hu).1) a m c (ecells fs Fs) hlf hnews h1 (by omega) (by omega) (by omega) (fun h => by cases h)
      exact ⟨v', w', hrun, own_lower q1 hbase, ⟨q2.os, q2.tape, q2.output, q2.size, fun k hk _ => q2.block k hk (by simp)⟩, .inr fun k hk => (q1.lt k hk).1, (fun h => by
        rcases q1.2 with ⟨_, e2⟩ | ⟨_, _, _, e1, _⟩
        · omega
        · rw [h] at e1; cases e1), keep_none q2⟩
set_option maxRecDepth 100000 in
set_option maxHeartbeats 4000000 in
theorem addw_ok (base p : Nat) (i t : Int) (v : Value) (es : List Ent) (Ds : List Value) (x k : Int) (B : Value) (d : List UInt8) (w : World) (h : TO w base p i t v es Ds) (hB : RD w B d) (h0 : 0 ≤ i) (h1 : i ≤ 10000000000000) (h2 : es.length ≤ 10000000000000) (hmem : es.length + 1 ≤ 4200000000000) (hbase : base ≤ w.heap.size) (hx1 : endT t es ≤ x) (hx2 : 0 ≤ k) :
    Calls Tryd.prog 21 #[.pointer (some ⟨p, 0, none⟩), .int .i64 x, .int .i64 k, B] w (AddOkW w base p i t v Ds es ⟨i + es.length + 1, x, k, d⟩) := by
  have b := below_alloc w (.cells #[.int .i64 0, .int .i64 0, .int .i64 0, .slice none 0 0] 44)
  obtain ⟨L, c, hv, hre, -⟩ := h.2.2.re
  subst hv
  have HL := Lib.hid (last_any p i t L c es Ds _ (h.below b).tr (hre.below b) h0 h1 h2)
  have HT := Lib.hid h
  have hpl := h.lt
  have hp2 := below_cell b h.tr.2.2
  have HC := Lib.hid (fun w1 (b1 : Below w.heap.size w w1) => cloneb_any B d w1 (hB.below b1))
  obtain ⟨T, hT⟩ : ∃ T, T = endT t es := ⟨_, rfl⟩
  obtain ⟨N, hN⟩ : ∃ N, N = es.length := ⟨_, rfl⟩
  rw [← hT] at HL hx1
  rw [← hN] at HL hp2 h2 hmem
  have HNN := Lib.hid hN
  have d1 : decide (x < T) = false := decide_eq_false (by omega)
  have d2 : decide (k < 0) = false := decide_eq_false (by omega)
  have s1 : IntKind.i64.wrap (i + (N : Int) + 1) = i + (N : Int) + 1 := IntWalk.i64_in _ (by omega)
  obtain ⟨i0, hi, hz0, hz1, hz2⟩ := info_parts info_entry
  have HI := Lib.hid hi
  obtain ⟨B0, bc, rfl, -⟩ := hB
  clear h hre hT hi
  rw [← hN]
  clear hN
  go_enter Tryd.func21, Tryd.ntmps21
  go_wp2_with fail
  refine HL.out.mono ?_
  rintro e w1 ⟨rfl, m, rfl⟩
  go_wp2_with fail
  refine wp_region_Z (fun w' => w'.cell? ⟨p, 2, none⟩ = some (.slice L N c)) 18 (by kernel_rfl) hp2 (fun hHeld => ?_)
  refine wpAnyZ_take (i := 0) (v := ?_) rfl (by kernel_rfl) (by kernel_rfl) (by kernel_rfl) (by kernel_rfl) (by decide) (fun _ _ _ h => h) (by rfl) ?_ (by assumption) ?_
  rotate_left
  · (intro w hSw; (try dsimp only at hSw); go_simp) <;> with_reducible rfl
  try simp only [Act.put, List.setIfInBounds_toArray, List.set_cons_zero, List.set_cons_succ]
  refine wpAnyZ_take (i := 1) (v := ?_) rfl (by kernel_rfl) (by kernel_rfl) (by kernel_rfl) (by kernel_rfl) (by decide) (fun _ _ _ h => h) (by rfl) ?_ (by assumption) ?_
  rotate_left
  · (intro w hSw; (try dsimp only at hSw); go_simp) <;> with_reducible rfl
  try simp only [Act.put, List.setIfInBounds_toArray, List.set_cons_zero, List.set_cons_succ]
  refine wpAnyZ_take (i := 2) (v := ?_) rfl (by kernel_rfl) (by kernel_rfl) (by kernel_rfl) (by kernel_rfl) (by decide) (fun _ _ _ h => h) (by rfl) ?_ (by assumption) ?_
  rotate_left
  · (intro w hSw; (try dsimp only at hSw); go_simp) <;> with_reducible rfl
  try simp only [Act.put, List.setIfInBounds_toArray, List.set_cons_zero, List.set_cons_succ]
  refine wpAnyZ_take (i := 3) (v := ?_) rfl (by kernel_rfl) (by kernel_rfl) (by kernel_rfl) (by kernel_rfl) (by decide) (fun _ _ _ h => h) (by rfl) ?_ (by assumption) ?_
  rotate_left
  · (intro w hSw; (try dsimp only at hSw); go_simp) <;> with_reducible rfl
  try simp only [Act.put, List.setIfInBounds_toArray, List.set_cons_zero, List.set_cons_succ]
  refine wpAnyZ_take (i := 4) (v := ?_) rfl (by kernel_rfl) (by kernel_rfl) (by kernel_rfl) (by kernel_rfl) (by decide) (fun _ _ _ h => h) (by rfl) ?_ (by assumption) ?_
  rotate_left
  · (intro w hSw; (try dsimp only at hSw); go_simp) <;> with_reducible rfl
  try simp only [Act.put, List.setIfInBounds_toArray, List.set_cons_zero, List.set_cons_succ]
  refine wpAnyZ_take (i := 5) (v := ?_) rfl (by kernel_rfl) (by kernel_rfl) (by kernel_rfl) (by kernel_rfl) (by decide) (fun _ _ _ h => h) (by rfl) ?_ (by assumption) ?_
  rotate_left
  · (intro w hSw; (try dsimp only at hSw); go_simp) <;> with_reducible rfl
  try simp only [Act.put, List.setIfInBounds_toArray, List.set_cons_zero, List.set_cons_succ]
  refine wpAnyZ_take (i := 6) (v := ?_) rfl (by kernel_rfl) (by kernel_rfl) (by kernel_rfl) (by kernel_rfl) (by decide) (fun _ _ _ h => h) (by rfl) ?_ (by assumption) ?_
  rotate_left
  · (intro w hSw; (try dsimp only at hSw); go_simp) <;> with_reducible rfl
  try simp only [Act.put, List.setIfInBounds_toArray, List.set_cons_zero, List.set_cons_succ]
  refine wpAnyZ_take (i := 7) (v := ?_) rfl (by kernel_rfl) (by kernel_rfl) (by kernel_rfl) (by kernel_rfl) (by decide) (fun _ _ _ h => h) (by rfl) ?_ (by assumption) ?_
  rotate_left
  · (intro w hSw; (try dsimp only at hSw); go_simp) <;> with_reducible rfl
  try simp only [Act.put, List.setIfInBounds_toArray, List.set_cons_zero, List.set_cons_succ]
  refine wpAnyZ_take (i := 8) (v := ?_) rfl (by kernel_rfl) (by kernel_rfl) (by kernel_rfl) (by kernel_rfl) (by decide) (fun _ _ _ h => h) (by rfl) ?_ (by assumption) ?_
  rotate_left
  · (intro w hSw; (try dsimp only at hSw); go_simp) <;> with_reducible rfl
  try simp only [Act.put, List.setIfInBounds_toArray, List.set_cons_zero, List.set_cons_succ]
  refine wpAnyZ_take (i := 9) (v := ?_) rfl (by kernel_rfl) (by kernel_rfl) (by kernel_rfl) (by kernel_rfl) (by decide) (fun _ _ _ h => h) (by rfl) ?_ (by assumption) ?_
  rotate_left
  · (intro w hSw; (try dsimp only at hSw); go_simp) <;> with_reducible rfl
  try simp only [Act.put, List.setIfInBounds_toArray, List.set_cons_zero, List.set_cons_succ]
  refine wpAnyZ_take (i := 10) (v := ?_) rfl (by kernel_rfl) (by kernel_rfl) (by kernel_rfl) (by kernel_rfl) (by decide) (fun _ _ _ h => h) (by rfl) ?_ (by assumption) ?_
  rotate_left
  · (intro w hSw; (try dsimp only at hSw); go_simp) <;> with_reducible rfl
  try simp only [Act.put, List.setIfInBounds_toArray, List.set_cons_zero, List.set_cons_succ]
  refine wpAnyZ_step (i := 11) rfl (by kernel_rfl) (fun K hK => ?_)
  go_simp
  refine (HC.out _ (below_draws b _)).mono ?_
  rintro e w5 ⟨Dv, rfl, od, b5d⟩
  have b5 := below_of_drew b5d
  obtain ⟨DB, dc, hDv, -⟩ := own_shape od.1
  subst hDv
  have hp52 := below_cell b5 hp2
  refine hK.out _ _ (fun _ => hp52) ?_
  clear hK K
  try simp only [Act.put, List.setIfInBounds_toArray, List.set_cons_zero, List.set_cons_succ]
  refine wpAnyZ_take (i := 12) (v := ?_) rfl (by kernel_rfl) (by kernel_rfl) (by kernel_rfl) (by kernel_rfl) (by decide) (fun _ _ _ h => h) (by rfl) ?_ (by assumption) ?_
  rotate_left
  · (intro w hSw; (try dsimp only at hSw); go_simp) <;> with_reducible rfl
  try simp only [Act.put, List.setIfInBounds_toArray, List.set_cons_zero, List.set_cons_succ]
  refine wpAnyZ_step (i := 13) rfl (by kernel_rfl) (fun K hK => ?_)
  go_simp
  have b6 := below_alloc w5 (.cells #[.int .i64 (i + (N : Int) + 1), .int .i64 x, .int .i64 k, .slice DB d.length dc] 44)
  have hp62 := below_cell b6 hp52
  refine hK.out _ _ (fun _ => hp62) ?_
  clear hK K
  try simp only [Act.put, List.setIfInBounds_toArray, List.set_cons_zero, List.set_cons_succ]
  have bw5 := below_then b b.size b5
  have bw6 := below_then bw5 bw5.size b6
  have own6 := own_below HT.out.2.2.2.1 bw6
  rw [← HNN.out] at own6
  refine wpAnyZ_step (i := 14) rfl (by kernel_rfl) (fun K hK => ?_)
  obtain ⟨v7, w7, run7, own7, hg7, hat0, -, KR7⟩ := run_append_ent2 (w := w5.alloc (.cells #[.int .i64 (i + (N : Int) + 1), .int .i64 x, .int .i64 k, .slice DB d.length dc] 44)) base (.slice L N c) N es Ds HT.out.2.2.1 HNN.out.symm own6 ⟨w5.heap.size, 0, none⟩ 1 1 [⟨i + (N : Int) + 1, x, k, d⟩] [.slice DB d.length dc] rfl rfl (ent_news w5 ⟨i + (N : Int) + 1, x, k, d⟩ _) (ecells_one rfl (fun D hD => by rw [List.mem_singleton.1 hD]; rfl)) (by omega) (fun _ => by omega) (by have := bw6.size; omega)
  obtain ⟨gg, cap, rfl, -⟩ := own_head own7 (by omega)
  have hat : Value.ownBlock (.slice L N c) = some gg ∨ w5.heap.size + 1 ≤ gg := by
    rcases hat0 with h | h
    · exact .inl h.symm
    · have := h gg rfl
      simp at this
      exact .inr this
  rw [ecells_append _ _ HT.out.2.2.1] at own7
  refine step_append_run rfl (.tmp 35) (.tmp 43) 22 rfl rfl _ _ rfl rfl _ _ run7 ?_
  have hone := HT.out.own_ne
  rw [← HNN.out] at hone
  have hS7 := hg7.cell hp62 (by simpa using fun e => hone e.symm)
  have hpb7 : w7.heap[p]? = some (.cells #[.int .i64 i, .int .i64 t, .slice L N c] 34 (0, 0)) := by
    rw [hg7.block p (by have := bw6.size; omega) (fun e => hone e.symm), bw6.block p hpl, HNN.out]; exact HT.out.2.1
  have hf7 : w7.frozen? ⟨p, 2, none⟩ = false := by simp [World.frozen?, hpb7]
  refine hK.out _ _ (fun _ => hS7) ?_
  clear hK K
  try simp only [Act.put, List.setIfInBounds_toArray, List.set_cons_zero, List.set_cons_succ]
  refine wpAnyZ_take (i := 15) (v := ?_) rfl (by kernel_rfl) (by kernel_rfl) (by kernel_rfl) (by kernel_rfl) (by decide) (fun _ _ _ h => h) (by rfl) ?_ (by assumption) ?_
  rotate_left
  · (intro w hSw; (try dsimp only at hSw); go_simp) <;> with_reducible rfl
  try simp only [Act.put, List.setIfInBounds_toArray, List.set_cons_zero, List.set_cons_succ]
  refine wpAnyZ_take (i := 16) (v := ?_) rfl (by kernel_rfl) (by kernel_rfl) (by kernel_rfl) (by kernel_rfl) (by decide) (fun _ _ _ h => h) (by rfl) ?_ (by assumption) ?_
  rotate_left
  · (intro w hSw; (try dsimp only at hSw); go_simp) <;> with_reducible rfl
  try simp only [Act.put, List.setIfInBounds_toArray, List.set_cons_zero, List.set_cons_succ]
  refine wpAnyZ_take (i := 17) (v := ?_) rfl (by kernel_rfl) (by kernel_rfl) (by kernel_rfl) (by kernel_rfl) (by decide) (fun _ _ _ h => h) (by rfl) ?_ (by assumption) ?_
  rotate_left
  · (intro w hSw; (try dsimp only at hSw); go_simp) <;> with_reducible rfl
  try simp only [Act.put, List.setIfInBounds_toArray, List.set_cons_zero, List.set_cons_succ]
  refine wpAnyZ_step (i := 18) rfl (by kernel_rfl) (fun K hK => ?_)
  go_simp
  refine hK.out _ _ (fun h => absurd rfl h) ?_
  clear hK K
  try simp only [Act.put, List.setIfInBounds_toArray, List.set_cons_zero, List.set_cons_succ]
  refine wpAnyZ_done (by kernel_rfl) ?_
  refine NoPanic.normal ?_
  obtain ⟨w8, hw8⟩ : ∃ w8, w8 = w7.setCell ⟨p, 2, none⟩ (.slice (some ⟨gg, 0, none⟩) (N + 1) cap) := ⟨_, rfl⟩
  rw [← hw8]
  have ho8 : ∀ k, k ≠ p → w8.heap[k]? = w7.heap[k]? := fun k hk => by rw [hw8]; exact heap_setCell_other _ _ _ _ hk
  have hs8 : w8.heap.size = w7.heap.size := by rw [hw8]; exact World.size_setCell _ _ _
  have hpb8 : w8.heap[p]? = some (.cells #[.int .i64 i, .int .i64 t, .slice (some ⟨gg, 0, none⟩) (N + 1) cap] 34 (0, 0)) := by rw [hw8]; exact heap_setCell_same _ _ _ _ _ _ hpb7
  have hw7o : ∀ k, k < w.heap.size → k ≠ p → Value.ownBlock (.slice L N c) ≠ some k → w8.heap[k]? = w.heap[k]? := fun k hk h1 h2 => by
    rw [ho8 k h1, hg7.block k (by have := bw6.size; omega) (fun e => h2 e.symm), bw6.block k hk]
  have hE1 : (es ++ [(⟨i + (N : Int) + 1, x, k, d⟩ : Ent)]).length = N + 1 := by simp [HNN.out]
  have hT8 : TO w8 base p i t (.slice (some ⟨gg, 0, none⟩) (N + 1) cap) (es ++ [(⟨i + (N : Int) + 1, x, k, d⟩ : Ent)]) (Ds ++ [.slice DB d.length dc]) := by
    refine ⟨HT.out.1, hpb8, by simp [HT.out.2.2.1], ?_, fun j h1 h2 => ?_⟩
    · rw [hE1, ecells_append _ _ HT.out.2.2.1]
      refine own_step own7 fun q hq => ho8 q fun e => ?_
      subst e
      simp [Value.ownBlock] at hq
      rcases hat with h | h
      · exact hone (by rw [h, hq])
      · have := bw5.size; omega
    · by_cases hj : j < es.length
      · have e1 : (es ++ [(⟨i + (N : Int) + 1, x, k, d⟩ : Ent)])[j] = es[j] := List.getElem_append_left hj
        have e2 : (Ds ++ [.slice DB d.length dc])[j] = Ds[j]'(by rw [HT.out.2.2.1]; exact hj) := List.getElem_append_left (by rw [HT.out.2.2.1]; exact hj)
        rw [e1, e2]
        have o := HT.out.2.2.2.2 j hj (by rw [HT.out.2.2.1]; exact hj)
        have hmem := List.getElem_mem (l := Ds) (n := j) (by rw [HT.out.2.2.1]; exact hj)
        refine ⟨own_step o.1 fun q hq => hw7o q (o.1.lt q hq).2 (fun e => HT.out.d_ne _ hmem (by rw [hq, e])) (fun e => HT.out.2.2.apart _ hmem q hq (by rw [HNN.out] at e; exact e)), o.2⟩
      · have hjj : j = es.length := by simp at h1; omega
        subst hjj
        have e2 : (Ds ++ [.slice DB d.length dc])[es.length] = .slice DB d.length dc := by
          rw [List.getElem_append_right (by rw [HT.out.2.2.1]; omega)]; simp [HT.out.2.2.1]
        rw [e2]
        simp only [List.getElem_concat_length]
        refine ⟨own_lower (own_step od.1 fun q hq => ?_) (by simp; omega), od.2⟩
        have hq1 := od.1.lt q hq
        simp only [World.heap_drewN] at hq1
        have hqp : q ≠ p := by have := hq1.1; simp at this; omega
        rw [ho8 q hqp, hg7.block q (by have := b6.size; omega) (fun e => ?_), b6.block q hq1.2]
        have := (own6.lt q e.symm).1
        have hh := (HT.out.2.2.2.1.lt q (by rw [HNN.out] at e; exact e.symm)).2
        have := hq1.1
        simp at this
        omega
  have hF8 : Frm (fun q => q = p ∨ Value.ownBlock (.slice L N c) = some q) w w8 := by
    rw [hw8]
    refine Frm.setCell ?_ _ _ (.inl (.inl rfl))
    exact (Frm.of_below bw6).trans (Frm.grown hg7 fun q e => .inr e)
  have HK8 := Lib.hid (show KeepRow w w8 N from fun b2 V2 n2 c2 ys hn2 hu => by
    have h7 := KR7 _ _ _ _ _ hn2 (own_below hu bw6)
    exact own_step h7 fun z hz => ho8 z fun e => own_ne_cellsT h7 hpb7 (by decide) (by rw [hz, e]))
  have hr8 : w8.heap[w.heap.size]? = some (.cells #[.int .i64 0, .int .i64 0, .int .i64 0, .slice none 0 0] 44 (0, 0)) := by
    rw [ho8 _ (by omega), hg7.block _ (by have := b6.size; have := b5.size; simp at this; omega) (fun e => by have hh := (HT.out.2.2.2.1.lt w.heap.size (by rw [HNN.out] at e; exact e.symm)).2; omega), b6.block _ (by have := b5.size; simp at this; omega), b5.block _ (by simp)]
    exact heap_alloc_new w _
  have hA := Lib.hid (at_yes base p i t _ _ _ N (i + (N : Int) + 1) w8 hT8 h0 h1 (by rw [hE1]; omega) (by rw [hE1]; omega) (by omega))
  have hEE : (es ++ [(⟨i + (N : Int) + 1, x, k, d⟩ : Ent)])[N]'(by rw [hE1]; omega) = ⟨i + (N : Int) + 1, x, k, d⟩ := by
    have := HNN.out
    subst this
    simp
  rw [hEE] at hA
  have HFR := Lib.hid (show ∀ z, OwnT (.slice (some ⟨gg, 0, none⟩) (N + 1) cap) (Ds ++ [.slice DB d.length dc]) z → OwnT (.slice L N c) Ds z ∨ w.heap.size ≤ z from fun z hz => by
    rcases hz with h | ⟨D, hD, h⟩
    · rcases hat with e | e
      · exact .inl (.inl (by rw [e]; exact h))
      · have h5 := b5.size
        simp at h5
        have h : gg = z := Option.some.inj h
        exact .inr (by omega)
    · rcases List.mem_append.1 hD with hD | hD
      · exact .inl (.inr ⟨D, hD, h⟩)
      · rw [List.mem_singleton.1 hD] at h
        have := (od.1.lt z h).1
        simp at this
        exact .inr (by omega))
  have HAPD := Lib.hid (show ∀ z, w8.heap.size ≤ z → ¬ OwnT (.slice (some ⟨gg, 0, none⟩) (N + 1) cap) (Ds ++ [.slice DB d.length dc]) z from fun z hz hc => by
    rcases hc with h | ⟨D, hD, h⟩
    · have := (hT8.2.2.2.1.lt z h).2; omega
    · have := (hT8.2.2.dlt D hD z h).2; omega)
  have hs78 : w.heap.size < w8.heap.size := (Array.getElem?_eq_some_iff.1 hr8).1
  have HH := Lib.hid hT8
  have HF := Lib.hid hF8
  have HAT := Lib.hid hat
  clear hEE hT8 hpb8 hpb7 ho8 hw8 hf7 hS7 hp62 hp52 hp2 hw7o hE1 hat hF8
  go_wp2_with fail
  refine hA.out.mono ?_
  rintro e w9 ⟨D, rfl, od9, b9⟩
  obtain ⟨DC, dcc, hDv, -⟩ := own_shape od9.1
  subst hDv
  have hr9 : w9.heap[w.heap.size]? = some (.cells #[.int .i64 0, .int .i64 0, .int .i64 0, .slice none 0 0] 44 (0, 0)) := (b9.block _ hs78).trans hr8
  have hr10 : (w9.alloc (.cells #[.int .i64 (i + (N : Int) + 1), .int .i64 x, .int .i64 k, .slice DC d.length dcc] 44)).heap[w.heap.size]? = some (.cells #[.int .i64 0, .int .i64 0, .int .i64 0, .slice none 0 0] 44 (0, 0)) := ((below_alloc w9 _).block _ (Array.getElem?_eq_some_iff.1 hr9).1).trans hr9
  have r0 := cell_of hr10 0
  have r1 := cell_of hr10 1
  have r2 := cell_of hr10 2
  have r3 := cell_of hr10 3
  have f0 := frozen_of hr10 0
  have f1 := frozen_of hr10 1
  have f2 := frozen_of hr10 2
  have f3 := frozen_of hr10 3
  simp at r0 r1 r2 r3
  go_wp2_with fail
  obtain ⟨w11, hw11⟩ : ∃ w11, w11 = set4 (w9.alloc (.cells #[.int .i64 (i + (N : Int) + 1), .int .i64 x, .int .i64 k, .slice DC d.length dcc] 44)) w.heap.size (.int .i64 (i + (N : Int) + 1)) (.int .i64 x) (.int .i64 k) (.slice DC d.length dcc) := ⟨_, rfl⟩
  have e11 : ((((w9.alloc (.cells #[.int .i64 (i + (N : Int) + 1), .int .i64 x, .int .i64 k, .slice DC d.length dcc] 44)).setCell ⟨w.heap.size, 0, none⟩ (.int .i64 (i + (N : Int) + 1))).setCell ⟨w.heap.size, 1, none⟩ (.int .i64 x)).setCell ⟨w.heap.size, 2, none⟩ (.int .i64 k)).setCell ⟨w.heap.size, 3, none⟩ (.slice DC d.length dcc) = w11 := hw11.symm
  rw [e11]
  have hrb11 : w11.heap[w.heap.size]? = some (.cells #[.int .i64 (i + (N : Int) + 1), .int .i64 x, .int .i64 k, .slice DC d.length dcc] 44 (0, 0)) := by rw [hw11]; exact set4_same hr10 _ _ _ _
  have q0 : w11.cell? ⟨w.heap.size, 0, none⟩ = some (.int .i64 (i + (N : Int) + 1)) := by simp [World.cell?, hrb11]
  have q1 : w11.cell? ⟨w.heap.size, 1, none⟩ = some (.int .i64 x) := by simp [World.cell?, hrb11]
  have q2 : w11.cell? ⟨w.heap.size, 2, none⟩ = some (.int .i64 k) := by simp [World.cell?, hrb11]
  have q3 : w11.cell? ⟨w.heap.size, 3, none⟩ = some (.slice DC d.length dcc) := by simp [World.cell?, hrb11]
  have ho11 : ∀ q, q ≠ w.heap.size → w11.heap[q]? = (w9.alloc (.cells #[.int .i64 (i + (N : Int) + 1), .int .i64 x, .int .i64 k, .slice DC d.length dcc] 44)).heap[q]? := fun q hq => by rw [hw11]; exact set4_other _ _ _ _ _ _ _ hq
  have b10 := below_then b9 b9.size (below_alloc w9 (.cells #[.int .i64 (i + (N : Int) + 1), .int .i64 x, .int .i64 k, .slice DC d.length dcc] 44))
  have hge : (∀ q, Value.ownBlock (.slice (some ⟨gg, 0, none⟩) (N + 1) cap) = some q → q ≠ w.heap.size) ∧ (Value.ownBlock (.slice (some ⟨gg, 0, none⟩) (N + 1) cap) = Value.ownBlock (.slice L N c) ∨ ∀ q, Value.ownBlock (.slice (some ⟨gg, 0, none⟩) (N + 1) cap) = some q → w.heap.size ≤ q) := by
    have h5 := b5.size
    simp at h5
    rcases HAT.out with h | h
    · have hh := (HT.out.2.2.2.1.lt gg (by rw [HNN.out] at h; exact h)).2
      exact ⟨fun q hq => by simp [Value.ownBlock] at hq; omega, .inl h.symm⟩
    · exact ⟨fun q hq => by simp [Value.ownBlock] at hq; omega, .inr fun q hq => by simp [Value.ownBlock] at hq; omega⟩
  have hT11 := (HH.out.below b10).poke hr10 (fun e => (hge.1 _ e) rfl) ho11
  have hod11 : OD w11 w.heap.size (.slice DC d.length dcc) d := by
    refine ⟨own_lower (own_step od9.1 fun q hq => ?_) (by omega), od9.2⟩
    have hq1 := od9.1.lt q hq
    rw [ho11 q (by omega)]
    exact (below_alloc w9 _).block q hq1.2
  have hF11 : Frm (fun q => q = p ∨ Value.ownBlock (.slice L N c) = some q) w w11 := by
    have hF10 := HF.out.trans (Frm.of_below b10)
    exact ⟨by rw [hw11]; exact hF10.os, by rw [hw11]; exact hF10.tape, by rw [hw11]; exact hF10.output, by rw [hw11]; simpa [set4, World.size_setCell] using hF10.size, fun q hq hn => by rw [ho11 q (by omega)]; exact hF10.block q hq hn⟩
  exact bodyPost_ret (v := .tuple #[.agg #[.int .i64 (i + (N : Int) + 1), .int .i64 x, .int .i64 k, .slice DC d.length dcc], errV 0]) (by simp [results, Tryd.results21, go_sem, q0, q1, q2, q3, errV]) rfl ⟨_, _, _, rfl, hod11, hT11, hF11, fun b2 V2 n2 c2 ys hn2 hu => own_step (HK8.out _ _ _ _ _ (by rw [HNN.out]; exact hn2) hu) fun z hz => (ho11 z (by have := (hu.lt z hz).2; omega)).trans (b10.block z (by have := (hu.lt z hz).2; omega)), HFR.out, fun z hz => HAPD.out z (od9.1.lt z hz).1⟩
end Go.Proofs.YtkjpfjgaabbggaaDoor
