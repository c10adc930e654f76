/- (*muntinref21.Trail).Compact: the contract. -/
import Derived.Test.YtkjpfjgaabbggaaDoorUNew
import Derived.Test.YtkjpfjgaabbggaaDoorTCompact
set_option linter.unusedVariables false
set_option linter.unusedSimpArgs false
namespace Go.Proofs.YtkjpfjgaabbggaaDoor
open Go.RowKit

theorem own_ne_cells {w : World} {base n q : Nat} {e T : TypeId} {s : Nat} {v : Value} {xs : List Value} {cs : Array Value} {fr : Nat × Nat} (h : w.ownsRow base e s v n xs) (hq : w.heap[q]? = some (.cells cs T fr)) (hne : e ≠ T) : v.ownBlock ≠ some q := by
  intro hk
  rcases h.2 with ⟨rfl, _⟩ | ⟨g, cap, cur, rfl, _, hh, _⟩
  · cases hk
  · have hk : g = q := Option.some.inj hk
    subst hk
    rw [hh] at hq
    cases hq
    exact hne rfl
def RCompactPost (w : World) (base q : Nat) (R : Nat × Int × Int × List Ent) (e : Ending) (w' : World) : Prop :=
  e = .returned (.int .i64 R.1) ∧ w.grownBy w' (some q) ∧ ∃ v' Ds', RTO w' base q R.2.1 R.2.2.1 v' R.2.2.2 Ds'
theorem drawn_grown {w : World} {m : Nat} (r : Option Nat) : w.grownBy (w.drewN m) r := ⟨rfl, rfl, rfl, Nat.le_refl _, fun _ _ _ => rfl⟩

set_option maxRecDepth 100000 in
set_option maxHeartbeats 4000000 in
theorem rcompact_no (base q : Nat) (i t : Int) (v : Value) (es : List Ent) (Ds : List Value) (x : Int) (w : World) (h : RTO w base q i t v es Ds) (h0 : 0 ≤ i) (h1 : i ≤ 10000000000000) (h2 : es.length ≤ 10000000000000) (hx : inT i es x = false) :
    Calls Tryd.prog 47 #[.pointer (some ⟨q, 0, none⟩), .int .i64 x] w (RCompactPost w base q (92, i, t, es)) := by
  obtain ⟨L, c, rfl, hre, -⟩ := h.2.2.re
  have HT := Lib.hid (rterm_any q i t L c es Ds x w h.tr hre h0 h1 h2)
  rw [hx] at HT
  have HH := Lib.hid h
  clear h hre hx
  go_enter Tryd.func47, Tryd.ntmps47
  go_wp2_with fail
  refine HT.out.mono ?_
  rintro e w1 ⟨rfl, m, rfl⟩
  go_wp2_with fail
  go_ret
  exact ⟨rfl, drawn_grown _, _, Ds, HH.out.below draws_below⟩

set_option maxRecDepth 100000 in
set_option maxHeartbeats 4000000 in
theorem rcompact_yes (base q : Nat) (i t : Int) (v : Value) (es : List Ent) (Ds : List Value) (x : Int) (n : Nat) (w : World) (h : RTO w base q i t v es Ds) (h0 : 0 ≤ i) (h1 : i ≤ 10000000000000) (h2 : es.length ≤ 4200000000000) (hbase : base ≤ w.heap.size) (hx : x = i + n) (hn : n ≤ es.length) :
    Calls Tryd.prog 47 #[.pointer (some ⟨q, 0, none⟩), .int .i64 x] w (RCompactPost w base q (0, x, termT i t es x, es.drop n)) := by
  obtain ⟨L, c, hv, hre, hlc, hcm, hL0⟩ := h.2.2.re
  subst hv
  have hin : inT i es x = true := decide_eq_true (by omega)
  have HT := Lib.hid (rterm_any q i t L c es Ds x w h.tr hre h0 h1 (by omega))
  rw [hin] at HT
  have hp0 := h.tr.1
  have hp2 := h.tr.2.2
  have HPB := Lib.hid h.2.1
  have hpl := h.lt
  obtain ⟨N, hN⟩ : ∃ N, N = es.length := ⟨_, rfl⟩
  have s1 : IntKind.i64.wrap (x - i) = (n : Int) := (IntWalk.i64_in (x - i) (by omega)).trans (by omega)
  have hn0 : (0 : Int) ≤ (n : Int) := by omega
  have hn1 : (n : Int) ≤ (N : Int) := by omega
  have hn3 : ((n : Int)).toNat = n := by omega
  have hn5 : (N : Int) ≤ (c : Int) := by omega
  obtain ⟨T, hT⟩ : ∃ T, T = termT i t es x := ⟨_, rfl⟩
  rw [← hT] at HT
  rw [← hT]
  have HC := Lib.hid fun (w1 : World) (hw : Below w.heap.size w w1) (A : Option Addr) (hA : A = if c = n then L else L.map (·.add (n * 4))) => (show Calls Tryd.prog 41 #[.slice A (N - n) (c - n)] w1 fun e w' => ∃ v Ds', e = .returned v ∧ OE w' w1.heap.size v (es.drop n) Ds' ∧ Below w1.heap.size w1 w' from by
    have hre1 := hre.below hw
    have hre2 : RE w1 A (es.drop n) (Ds.drop n) := by
      by_cases hcn : c = n
      · rw [List.drop_of_length_le (by omega), List.drop_of_length_le (by rw [hre.1]; omega)]
        exact RE.nil _ _
      · by_cases h00 : 0 < es.length
        · obtain ⟨g, o, rfl, -⟩ := hre1.addr h00
          rw [hA, if_neg hcn]
          have := hre1.drop n
          simp only [Option.map_some, Addr.add_lit]
          exact this
        · rw [List.drop_of_length_le (by omega), List.drop_of_length_le (by rw [hre.1]; omega)]
          exact RE.nil _ _
    exact rcopied_any A (N - n) (c - n) (es.drop n) (Ds.drop n) w1 hre2 (by rw [hN]; simp) (by omega))
  have HH := Lib.hid h
  have HN := Lib.hid hN
  have HX := Lib.hid hx
  have HB := Lib.hid hbase
  clear h hre hx hin hL0 hT
  rw [← hN] at hp2
  clear hN
  go_enter Tryd.func47, Tryd.ntmps47
  go_wp2_with fail
  refine HT.out.mono ?_
  rintro e w1 ⟨rfl, m, rfl⟩
  go_wp2_with fail
  refine wp_region_Z (fun w' => w'.cell? ⟨q, 0, none⟩ = some (.int .i64 i) ∧ w'.cell? ⟨q, 2, none⟩ = some (.slice L N c)) 15 (by kernel_rfl) ⟨hp0, hp2⟩ (fun hHeld => ?_)
  refine wpAnyZ_take (i := 0) (v := ?_) rfl (by kernel_rfl) (by kernel_rfl) (by kernel_rfl) (by kernel_rfl) (by decide) (fun _ _ _ h => h) (by rfl) ?_ (by assumption) ?_
  rotate_left
  · (intro w hSw; (try dsimp only at hSw); go_simp) <;> with_reducible rfl
  try simp only [Act.put, List.getElem_toArray, List.getElem_cons_zero, List.getElem_cons_succ, List.setIfInBounds_toArray, List.set_cons_zero, List.set_cons_succ]
  refine wpAnyZ_take (i := 1) (v := ?_) rfl (by kernel_rfl) (by kernel_rfl) (by kernel_rfl) (by kernel_rfl) (by decide) (fun _ _ _ h => h) (by rfl) ?_ (by assumption) ?_
  rotate_left
  · (intro w hSw; (try dsimp only at hSw); go_simp) <;> with_reducible rfl
  try simp only [Act.put, List.getElem_toArray, List.getElem_cons_zero, List.getElem_cons_succ, List.setIfInBounds_toArray, List.set_cons_zero, List.set_cons_succ]
  refine wpAnyZ_take (i := 2) (v := ?_) rfl (by kernel_rfl) (by kernel_rfl) (by kernel_rfl) (by kernel_rfl) (by decide) (fun _ _ _ h => h) (by rfl) ?_ (by assumption) ?_
  rotate_left
  · (intro w hSw; (try dsimp only at hSw); go_simp) <;> with_reducible rfl
  try simp only [Act.put, List.getElem_toArray, List.getElem_cons_zero, List.getElem_cons_succ, List.setIfInBounds_toArray, List.set_cons_zero, List.set_cons_succ]
  refine wpAnyZ_take (i := 3) (v := ?_) rfl (by kernel_rfl) (by kernel_rfl) (by kernel_rfl) (by kernel_rfl) (by decide) (fun _ _ _ h => h) (by rfl) ?_ (by assumption) ?_
  rotate_left
  · (intro w hSw; (try dsimp only at hSw); go_simp) <;> with_reducible rfl
  try simp only [Act.put, List.getElem_toArray, List.getElem_cons_zero, List.getElem_cons_succ, List.setIfInBounds_toArray, List.set_cons_zero, List.set_cons_succ]
  refine wpAnyZ_take (i := 4) (v := ?_) rfl (by kernel_rfl) (by kernel_rfl) (by kernel_rfl) (by kernel_rfl) (by decide) (fun _ _ _ h => h) (by rfl) ?_ (by assumption) ?_
  rotate_left
  · (intro w hSw; (try dsimp only at hSw); go_simp) <;> with_reducible rfl
  try simp only [Act.put, List.getElem_toArray, List.getElem_cons_zero, List.getElem_cons_succ, List.setIfInBounds_toArray, List.set_cons_zero, List.set_cons_succ]
  refine wpAnyZ_take (i := 5) (v := ?_) rfl (by kernel_rfl) (by kernel_rfl) (by kernel_rfl) (by kernel_rfl) (by decide) (fun _ _ _ h => h) (by rfl) ?_ (by assumption) ?_
  rotate_left
  · (intro w hSw; (try dsimp only at hSw); go_simp) <;> with_reducible rfl
  try simp only [Act.put, List.getElem_toArray, List.getElem_cons_zero, List.getElem_cons_succ, List.setIfInBounds_toArray, List.set_cons_zero, List.set_cons_succ]
  refine wpAnyZ_take (i := 6) (v := ?_) rfl (by kernel_rfl) (by kernel_rfl) (by kernel_rfl) (by kernel_rfl) (by decide) (fun _ _ _ h => h) (by rfl) ?_ (by assumption) ?_
  rotate_left
  · (intro w hSw; (try dsimp only at hSw); go_simp) <;> with_reducible rfl
  try simp only [Act.put, List.getElem_toArray, List.getElem_cons_zero, List.getElem_cons_succ, List.setIfInBounds_toArray, List.set_cons_zero, List.set_cons_succ]
  refine wpAnyZ_take (i := 7) (v := ?_) rfl (by kernel_rfl) (by kernel_rfl) (by kernel_rfl) (by kernel_rfl) (by decide) (fun _ _ _ h => h) (by rfl) ?_ (by assumption) ?_
  rotate_left
  · (intro w hSw; (try dsimp only at hSw); go_simp) <;> with_reducible rfl
  try simp only [Act.put, List.getElem_toArray, List.getElem_cons_zero, List.getElem_cons_succ, List.setIfInBounds_toArray, List.set_cons_zero, List.set_cons_succ]
  refine wpAnyZ_take (i := 8) (v := ?_) rfl (by kernel_rfl) (by kernel_rfl) (by kernel_rfl) (by kernel_rfl) (by decide) (fun _ _ _ h => h) (by rfl) ?_ (by assumption) ?_
  rotate_left
  · (intro w hSw; (try dsimp only at hSw); go_simp) <;> with_reducible rfl
  try simp only [Act.put, List.getElem_toArray, List.getElem_cons_zero, List.getElem_cons_succ, List.setIfInBounds_toArray, List.set_cons_zero, List.set_cons_succ]
  refine wpAnyZ_take (i := 9) (v := ?_) rfl (by kernel_rfl) (by kernel_rfl) (by kernel_rfl) (by kernel_rfl) (by decide) (fun _ _ _ h => h) (by rfl) ?_ (by assumption) ?_
  rotate_left
  · (intro w hSw; (try dsimp only at hSw); go_simp) <;> with_reducible rfl
  try simp only [Act.put, List.getElem_toArray, List.getElem_cons_zero, List.getElem_cons_succ, List.setIfInBounds_toArray, List.set_cons_zero, List.set_cons_succ]
  refine wpAnyZ_take (i := 10) (v := ?_) rfl (by kernel_rfl) (by kernel_rfl) (by kernel_rfl) (by kernel_rfl) (by decide) (fun _ _ _ h => h) (by rfl) ?_ (by assumption) ?_
  rotate_left
  · (intro w hSw; (try dsimp only at hSw); go_simp) <;> with_reducible rfl
  try simp only [Act.put, List.getElem_toArray, List.getElem_cons_zero, List.getElem_cons_succ, List.setIfInBounds_toArray, List.set_cons_zero, List.set_cons_succ]
  refine wpAnyZ_take (i := 11) (v := ?_) rfl (by kernel_rfl) (by kernel_rfl) (by kernel_rfl) (by kernel_rfl) (by decide) (fun _ _ _ h => h) (by rfl) ?_ (by assumption) ?_
  rotate_left
  · (intro w hSw; (try dsimp only at hSw); go_simp) <;> with_reducible rfl
  try simp only [Act.put, List.getElem_toArray, List.getElem_cons_zero, List.getElem_cons_succ, List.setIfInBounds_toArray, List.set_cons_zero, List.set_cons_succ]
  refine wpAnyZ_step (i := 12) rfl (by kernel_rfl) (fun K hK => ?_)
  go_simp
  refine (HC.out _ (below_draws (Below.refl _ _) _) _ rfl).mono ?_
  rintro e w3 ⟨v3, D3, rfl, own3, b3d⟩
  have b3 := below_of_drew b3d
  obtain ⟨A3, c3, rfl, -⟩ := own3.re
  have hS3 : w3.cell? ⟨q, 0, none⟩ = some (.int .i64 i) ∧ w3.cell? ⟨q, 2, none⟩ = some (.slice L N c) := ⟨below_cell b3 hp0, below_cell b3 hp2⟩
  refine hK.out _ _ (fun _ => hS3) ?_
  clear hK K
  try simp only [Act.put, List.getElem_toArray, List.getElem_cons_zero, List.getElem_cons_succ, List.setIfInBounds_toArray, List.set_cons_zero, List.set_cons_succ]
  refine wpAnyZ_take (i := 13) (v := ?_) rfl (by kernel_rfl) (by kernel_rfl) (by kernel_rfl) (by kernel_rfl) (by decide) (fun _ _ _ h => h) (by rfl) ?_ (by assumption) ?_
  rotate_left
  · (intro w hSw; (try dsimp only at hSw); go_simp) <;> with_reducible rfl
  try simp only [Act.put, List.getElem_toArray, List.getElem_cons_zero, List.getElem_cons_succ, List.setIfInBounds_toArray, List.set_cons_zero, List.set_cons_succ]
  refine wpAnyZ_take (i := 14) (v := ?_) rfl (by kernel_rfl) (by kernel_rfl) (by kernel_rfl) (by kernel_rfl) (by decide) (fun _ _ _ h => h) (by rfl) ?_ (by assumption) ?_
  rotate_left
  · (intro w hSw; (try dsimp only at hSw); go_simp) <;> with_reducible rfl
  try simp only [Act.put, List.getElem_toArray, List.getElem_cons_zero, List.getElem_cons_succ, List.setIfInBounds_toArray, List.set_cons_zero, List.set_cons_succ]
  have hpb3 : w3.heap[q]? = some (.cells #[.int .i64 i, .int .i64 t, .slice L N c] 85 (0, 0)) := by
    rw [b3.block q hpl, HN.out]; exact HPB.out
  have hf3 : w3.frozen? ⟨q, 2, none⟩ = false := by simp [World.frozen?, hpb3]
  refine wpAnyZ_step (i := 15) rfl (by kernel_rfl) (fun K hK => ?_)
  go_simp
  refine hK.out _ _ (fun h => absurd rfl h) ?_
  clear hK K
  try simp only [Act.put, List.getElem_toArray, List.getElem_cons_zero, List.getElem_cons_succ, List.setIfInBounds_toArray, List.set_cons_zero, List.set_cons_succ]
  refine wpAnyZ_done (by kernel_rfl) ?_
  refine NoPanic.normal ?_
  obtain ⟨v4, hv4⟩ : ∃ v, v = Value.slice A3 (es.length - n) c3 := ⟨_, rfl⟩
  have hlen4 : (es.drop n).length = es.length - n := List.length_drop
  (try simp only [hlen4] at *)
  obtain ⟨w4, hw4⟩ : ∃ w4, w4 = w3.setCell ⟨q, 2, none⟩ v4 := ⟨_, rfl⟩
  rw [← hv4, ← hw4]
  have hpb4 : w4.heap[q]? = some (.cells #[.int .i64 i, .int .i64 t, v4] 85 (0, 0)) := by rw [hw4]; exact heap_setCell_same _ _ _ _ _ _ hpb3
  have hq0 : w4.cell? ⟨q, 0, none⟩ = some (.int .i64 i) := by simp [World.cell?, hpb4]
  have hf4 : w4.frozen? ⟨q, 0, none⟩ = false := by simp [World.frozen?, hpb4]
  have hpb5 : (w4.setCell ⟨q, 0, none⟩ (.int .i64 x)).heap[q]? = some (.cells #[.int .i64 x, .int .i64 t, v4] 85 (0, 0)) := heap_setCell_same _ _ _ _ _ _ hpb4
  have hq1 : (w4.setCell ⟨q, 0, none⟩ (.int .i64 x)).cell? ⟨q, 1, none⟩ = some (.int .i64 t) := by simp [World.cell?, hpb5]
  have hf5 : (w4.setCell ⟨q, 0, none⟩ (.int .i64 x)).frozen? ⟨q, 1, none⟩ = false := by simp [World.frozen?, hpb5]
  have hpb6 : ((w4.setCell ⟨q, 0, none⟩ (.int .i64 x)).setCell ⟨q, 1, none⟩ (.int .i64 T)).heap[q]? = some (.cells #[.int .i64 x, .int .i64 T, v4] 85 (0, 0)) := heap_setCell_same _ _ _ _ _ _ hpb5
  have hot : ∀ k, k ≠ q → ((w4.setCell ⟨q, 0, none⟩ (.int .i64 x)).setCell ⟨q, 1, none⟩ (.int .i64 T)).heap[k]? = w3.heap[k]? := fun k hk => by
    rw [heap_setCell_other _ _ _ _ hk, heap_setCell_other _ _ _ _ hk, hw4, heap_setCell_other _ _ _ _ hk]
  have hsz : ((w4.setCell ⟨q, 0, none⟩ (.int .i64 x)).setCell ⟨q, 1, none⟩ (.int .i64 T)).heap.size = w3.heap.size := by rw [World.size_setCell, World.size_setCell, hw4, World.size_setCell]
  have HOT := Lib.hid hot
  have HSZ := Lib.hid hsz
  have HPB6 := Lib.hid hpb6
  have HV4 := Lib.hid hv4
  have HW4 := Lib.hid hw4
  have HL4 := Lib.hid hlen4
  clear hot hsz hpb6 hv4 hw4 hpb5 hpb4 hpb3 hf3 hS3 hHeld hlen4
  go_wp2_with fail
  all_goals
    go_ret
    refine ⟨rfl, ⟨?_, ?_, ?_, by rw [HSZ.out]; exact b3.size, fun k hk hp => by rw [HOT.out k (by simpa using fun e => hp (by rw [e])), b3.block k hk]⟩, v4, D3, HH.out.1, HPB6.out, ?_⟩
    · show w4.os = _; rw [HW4.out]; exact b3.os
    · show w4.tape = _; rw [HW4.out]; exact b3.tape
    · show w4.output = _; rw [HW4.out]; exact b3.output
    · rw [HV4.out]
      refine OE.lower (own3.step (fun k hk => HOT.out k fun e => ?_) (fun D hD k hk => HOT.out k fun e => ?_)) (by simpa using HB.out)
      · have := (own3.2.1.lt k hk).1
        simp at this
        omega
      · have := (own3.dlt D hD k hk).1
        simp at this
        omega
theorem rcompact_any (base q : Nat) (i t : Int) (v : Value) (es : List Ent) (Ds : List Value) (x : Int) (w : World) (h : RTO w base q i t v es Ds) (h0 : 0 ≤ i) (h1 : i ≤ 10000000000000) (h2 : es.length ≤ 4200000000000) (hbase : base ≤ w.heap.size) :
    Calls Tryd.prog 47 #[.pointer (some ⟨q, 0, none⟩), .int .i64 x] w (RCompactPost w base q (compactT i t es x)) := by
  cases hx : inT i es x with
  | false =>
    rw [show compactT i t es x = (92, i, t, es) by unfold compactT; rw [if_neg (by rw [hx]; decide)]]
    exact rcompact_no base q i t v es Ds x w h h0 h1 (by omega) hx
  | true =>
    have hx2 := of_decide_eq_true hx
    rw [show compactT i t es x = (0, x, termT i t es x, es.drop (x - i).toNat) by unfold compactT; rw [if_pos hx]]
    exact rcompact_yes base q i t v es Ds x (x - i).toNat w h h0 h1 h2 hbase (by omega) (by omega)
end Go.Proofs.YtkjpfjgaabbggaaDoor
