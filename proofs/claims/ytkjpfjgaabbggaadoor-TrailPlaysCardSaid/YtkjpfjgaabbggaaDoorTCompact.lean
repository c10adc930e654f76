/- trail.Compact: the contract (printed by wip/gen/compact.py). -/
import Derived.Test.YtkjpfjgaabbggaaDoorTAdd
import Derived.Test.YtkjpfjgaabbggaaDoorTBack
import Derived.Outline
set_option linter.unusedVariables false
set_option linter.unusedSimpArgs false
namespace Go.Proofs.YtkjpfjgaabbggaaDoor
open Go.RowKit

/-- what letting entries go leaves -/
def compactT (i t : Int) (es : List Ent) (x : Int) : Nat × Int × Int × List Ent := if inT i es x = true then (0, x, termT i t es x, es.drop (x - i).toNat) else (92, i, t, es)
def CompactPost (w : World) (base p : Nat) (R : Nat × Int × Int × List Ent) (e : Ending) (w' : World) : Prop :=
  e = .returned (errV R.1) ∧ w.grownBy w' (some p) ∧ ∃ v' Ds', TO w' base p R.2.1 R.2.2.1 v' R.2.2.2 Ds'
theorem OE.drop {w : World} {base b' : Nat} {v v' : Value} {es : List Ent} {Ds : List Value} (h : OE w base v es Ds) (n : Nat) (hr : w.ownsRow b' 44 4 v' (es.drop n).length (ecells (es.drop n) (Ds.drop n))) (hb : base ≤ b') : OE w base v' (es.drop n) (Ds.drop n) :=
  ⟨by simp [h.1], own_lower hr hb, fun i h1 h2 => by simp only [List.getElem_drop]; exact h.2.2 (n + i) (by simp at h1; omega) (by simp at h2; omega)⟩

set_option maxRecDepth 100000 in
set_option maxHeartbeats 1000000 in
theorem compact_no (base p : Nat) (i t : Int) (v : Value) (es : List Ent) (Ds : List Value) (x : Int) (w : World) (h : TO w base p i t v es Ds) (h0 : 0 ≤ i) (h1 : i ≤ 10000000000000) (h2 : es.length ≤ 10000000000000) (hx : inT i es x = false) :
    Calls Tryd.prog 18 #[.pointer (some ⟨p, 0, none⟩), .int .i64 x] w (CompactPost w base p (92, i, t, es)) := by
  obtain ⟨L, c, hv, hre, -⟩ := h.2.2.re
  subst hv
  have HT := Lib.hid (term_any p i t L c es Ds x w h.tr hre h0 h1 h2)
  rw [hx] at HT
  have HH := Lib.hid h
  clear h hre hx
  go_enter Tryd.func18, Tryd.ntmps18
  go_wp2_with fail
  refine HT.out.mono ?_
  rintro e w1 ⟨rfl, m, rfl⟩
  go_wp2_with fail
  go_ret
  exact ⟨rfl, ⟨rfl, rfl, rfl, Nat.le_refl _, fun _ _ _ => rfl⟩, _, Ds, HH.out⟩

set_option maxRecDepth 100000 in
set_option maxHeartbeats 2000000 in
theorem compact_yes (base p : Nat) (i t : Int) (v : Value) (es : List Ent) (Ds : List Value) (x : Int) (n : Nat) (w : World) (h : TO w base p i t v es Ds) (h0 : 0 ≤ i) (h1 : i ≤ 10000000000000) (h2 : es.length ≤ 4200000000000) (hbase : base ≤ w.heap.size) (hx : x = i + n) (hn : n ≤ es.length) :
    Calls Tryd.prog 18 #[.pointer (some ⟨p, 0, none⟩), .int .i64 x] w (CompactPost w base p (0, x, termT i t es x, es.drop n)) := by
  obtain ⟨L, c, hv, hre, hlc, hcm, hL0⟩ := h.2.2.re
  subst hv
  have hin : inT i es x = true := decide_eq_true (by omega)
  have HT := Lib.hid (term_any p i t L c es Ds x w h.tr hre h0 h1 (by omega))
  rw [hin] at HT
  have hp0 := h.tr.1
  have hp2 := h.tr.2.2
  have HPB := Lib.hid h.2.1
  have hpl := h.lt
  obtain ⟨N, hN⟩ : ∃ N, N = es.length := ⟨_, rfl⟩
  have s1 : IntKind.i64.wrap (x - i) = (n : Int) := (IntWalk.i64_in (x - i) (by omega)).trans (by omega)
  have hn0 : (0 : Int) ≤ (n : Int) := by omega
  have hn1 : (n : Int) ≤ (N : Int) := by omega
  have hn3 : ((n : Int)).toNat = n := by omega
  have hn5 : (N : Int) ≤ (c : Int) := by omega
  obtain ⟨T, hT⟩ : ∃ T, T = termT i t es x := ⟨_, rfl⟩
  rw [← hT] at HT
  rw [← hT]
  have HC := Lib.hid fun (w1 : World) (hw : Below w.heap.size w w1) (A : Option Addr) (hA : A = if c = n then L else L.map (·.add (n * 4))) => (show Calls Tryd.prog 36 #[.slice A (N - n) (c - n)] w1 fun e w' => ∃ v, e = .returned v ∧ w'.ownsRow w1.heap.size 44 4 v (es.drop n).length (ecells (es.drop n) (Ds.drop n)) ∧ Below w1.heap.size w1 w' by
    have hre1 := hre.below hw
    have hre2 : RE w1 A (es.drop n) (Ds.drop n) := by
      by_cases hcn : c = n
      · rw [List.drop_of_length_le (by omega), List.drop_of_length_le (by rw [hre.1]; omega)]
        exact RE.nil _ _
      · by_cases h00 : 0 < es.length
        · obtain ⟨g, o, rfl, -⟩ := hre1.addr h00
          rw [hA, if_neg hcn]
          have := hre1.drop n
          simp only [Option.map_some, Addr.add_lit]
          exact this
        · rw [List.drop_of_length_le (by omega), List.drop_of_length_le (by rw [hre.1]; omega)]
          exact RE.nil _ _
    refine (clonee_any A (N - n) (c - n) (es.drop n) (Ds.drop n) w1 hre2 (by rw [hN]; simp) (fun hA0 => ?_) (by omega)).mono fun e w' ⟨v, h1, h2, h3, _⟩ => ⟨v, h1, by rw [List.length_drop, ← hN]; exact h2, h3⟩
    by_cases hcn : c = n
    · omega
    · rw [hA, if_neg hcn] at hA0
      cases L with
      | none => have := hL0 rfl; omega
      | some a => simp at hA0)
  have HH := Lib.hid h
  have HN := Lib.hid hN
  have HX := Lib.hid hx
  have HB := Lib.hid hbase
  clear h hre hx hin hL0 hT
  rw [← hN] at hp2
  clear hN
  go_enter Tryd.func18, Tryd.ntmps18
  go_wp2_with fail
  refine HT.out.mono ?_
  rintro e w1 ⟨rfl, m, rfl⟩
  go_wp2_with fail
  refine wp_region_Z (fun w' => w'.cell? ⟨p, 0, none⟩ = some (.int .i64 i) ∧ w'.cell? ⟨p, 2, none⟩ = some (.slice L N c)) 18 (by kernel_rfl) ⟨hp0, hp2⟩ (fun hHeld => ?_)
  refine wpAnyZ_take (i := 0) (v := ?_) rfl (by kernel_rfl) (by kernel_rfl) (by kernel_rfl) (by kernel_rfl) (by decide) (fun _ _ _ h => h) (by rfl) ?_ (by assumption) ?_
  rotate_left
  · (intro w hSw; (try dsimp only at hSw); go_simp) <;> with_reducible rfl
  try simp only [Act.put, List.getElem_toArray, List.getElem_cons_zero, List.getElem_cons_succ, List.setIfInBounds_toArray, List.set_cons_zero, List.set_cons_succ]
  refine wpAnyZ_take (i := 1) (v := ?_) rfl (by kernel_rfl) (by kernel_rfl) (by kernel_rfl) (by kernel_rfl) (by decide) (fun _ _ _ h => h) (by rfl) ?_ (by assumption) ?_
  rotate_left
  · (intro w hSw; (try dsimp only at hSw); go_simp) <;> with_reducible rfl
  try simp only [Act.put, List.getElem_toArray, List.getElem_cons_zero, List.getElem_cons_succ, List.setIfInBounds_toArray, List.set_cons_zero, List.set_cons_succ]
  refine wpAnyZ_take (i := 2) (v := ?_) rfl (by kernel_rfl) (by kernel_rfl) (by kernel_rfl) (by kernel_rfl) (by decide) (fun _ _ _ h => h) (by rfl) ?_ (by assumption) ?_
  rotate_left
  · (intro w hSw; (try dsimp only at hSw); go_simp) <;> with_reducible rfl
  try simp only [Act.put, List.getElem_toArray, List.getElem_cons_zero, List.getElem_cons_succ, List.setIfInBounds_toArray, List.set_cons_zero, List.set_cons_succ]
  refine wpAnyZ_take (i := 3) (v := ?_) rfl (by kernel_rfl) (by kernel_rfl) (by kernel_rfl) (by kernel_rfl) (by decide) (fun _ _ _ h => h) (by rfl) ?_ (by assumption) ?_
  rotate_left
  · (intro w hSw; (try dsimp only at hSw); go_simp) <;> with_reducible rfl
  try simp only [Act.put, List.getElem_toArray, List.getElem_cons_zero, List.getElem_cons_succ, List.setIfInBounds_toArray, List.set_cons_zero, List.set_cons_succ]
  refine wpAnyZ_take (i := 4) (v := ?_) rfl (by kernel_rfl) (by kernel_rfl) (by kernel_rfl) (by kernel_rfl) (by decide) (fun _ _ _ h => h) (by rfl) ?_ (by assumption) ?_
  rotate_left
  · (intro w hSw; (try dsimp only at hSw); go_simp) <;> with_reducible rfl
  try simp only [Act.put, List.getElem_toArray, List.getElem_cons_zero, List.getElem_cons_succ, List.setIfInBounds_toArray, List.set_cons_zero, List.set_cons_succ]
  refine wpAnyZ_take (i := 5) (v := ?_) rfl (by kernel_rfl) (by kernel_rfl) (by kernel_rfl) (by kernel_rfl) (by decide) (fun _ _ _ h => h) (by rfl) ?_ (by assumption) ?_
  rotate_left
  · (intro w hSw; (try dsimp only at hSw); go_simp) <;> with_reducible rfl
  try simp only [Act.put, List.getElem_toArray, List.getElem_cons_zero, List.getElem_cons_succ, List.setIfInBounds_toArray, List.set_cons_zero, List.set_cons_succ]
  refine wpAnyZ_take (i := 6) (v := ?_) rfl (by kernel_rfl) (by kernel_rfl) (by kernel_rfl) (by kernel_rfl) (by decide) (fun _ _ _ h => h) (by rfl) ?_ (by assumption) ?_
  rotate_left
  · (intro w hSw; (try dsimp only at hSw); go_simp) <;> with_reducible rfl
  try simp only [Act.put, List.getElem_toArray, List.getElem_cons_zero, List.getElem_cons_succ, List.setIfInBounds_toArray, List.set_cons_zero, List.set_cons_succ]
  refine wpAnyZ_take (i := 7) (v := ?_) rfl (by kernel_rfl) (by kernel_rfl) (by kernel_rfl) (by kernel_rfl) (by decide) (fun _ _ _ h => h) (by rfl) ?_ (by assumption) ?_
  rotate_left
  · (intro w hSw; (try dsimp only at hSw); go_simp) <;> with_reducible rfl
  try simp only [Act.put, List.getElem_toArray, List.getElem_cons_zero, List.getElem_cons_succ, List.setIfInBounds_toArray, List.set_cons_zero, List.set_cons_succ]
  refine wpAnyZ_take (i := 8) (v := ?_) rfl (by kernel_rfl) (by kernel_rfl) (by kernel_rfl) (by kernel_rfl) (by decide) (fun _ _ _ h => h) (by rfl) ?_ (by assumption) ?_
  rotate_left
  · (intro w hSw; (try dsimp only at hSw); go_simp) <;> with_reducible rfl
  try simp only [Act.put, List.getElem_toArray, List.getElem_cons_zero, List.getElem_cons_succ, List.setIfInBounds_toArray, List.set_cons_zero, List.set_cons_succ]
  refine wpAnyZ_take (i := 9) (v := ?_) rfl (by kernel_rfl) (by kernel_rfl) (by kernel_rfl) (by kernel_rfl) (by decide) (fun _ _ _ h => h) (by rfl) ?_ (by assumption) ?_
  rotate_left
  · (intro w hSw; (try dsimp only at hSw); go_simp) <;> with_reducible rfl
  try simp only [Act.put, List.getElem_toArray, List.getElem_cons_zero, List.getElem_cons_succ, List.setIfInBounds_toArray, List.set_cons_zero, List.set_cons_succ]
  refine wpAnyZ_take (i := 10) (v := ?_) rfl (by kernel_rfl) (by kernel_rfl) (by kernel_rfl) (by kernel_rfl) (by decide) (fun _ _ _ h => h) (by rfl) ?_ (by assumption) ?_
  rotate_left
  · (intro w hSw; (try dsimp only at hSw); go_simp) <;> with_reducible rfl
  try simp only [Act.put, List.getElem_toArray, List.getElem_cons_zero, List.getElem_cons_succ, List.setIfInBounds_toArray, List.set_cons_zero, List.set_cons_succ]
  refine wpAnyZ_take (i := 11) (v := ?_) rfl (by kernel_rfl) (by kernel_rfl) (by kernel_rfl) (by kernel_rfl) (by decide) (fun _ _ _ h => h) (by rfl) ?_ (by assumption) ?_
  rotate_left
  · (intro w hSw; (try dsimp only at hSw); go_simp) <;> with_reducible rfl
  try simp only [Act.put, List.getElem_toArray, List.getElem_cons_zero, List.getElem_cons_succ, List.setIfInBounds_toArray, List.set_cons_zero, List.set_cons_succ]
  refine wpAnyZ_take (i := 12) (v := ?_) rfl (by kernel_rfl) (by kernel_rfl) (by kernel_rfl) (by kernel_rfl) (by decide) (fun _ _ _ h => h) (by rfl) ?_ (by assumption) ?_
  rotate_left
  · (intro w hSw; (try dsimp only at hSw); go_simp) <;> with_reducible rfl
  try simp only [Act.put, List.getElem_toArray, List.getElem_cons_zero, List.getElem_cons_succ, List.setIfInBounds_toArray, List.set_cons_zero, List.set_cons_succ]
  refine wpAnyZ_take (i := 13) (v := ?_) rfl (by kernel_rfl) (by kernel_rfl) (by kernel_rfl) (by kernel_rfl) (by decide) (fun _ _ _ h => h) (by rfl) ?_ (by assumption) ?_
  rotate_left
  · (intro w hSw; (try dsimp only at hSw); go_simp) <;> with_reducible rfl
  try simp only [Act.put, List.getElem_toArray, List.getElem_cons_zero, List.getElem_cons_succ, List.setIfInBounds_toArray, List.set_cons_zero, List.set_cons_succ]
  refine wpAnyZ_step (i := 14) rfl (by kernel_rfl) (fun K hK => ?_)
  go_simp
  refine (HC.out _ (below_draws (Below.refl _ _) _) _ rfl).mono ?_
  rintro e w3 ⟨v3, rfl, own3, b3d⟩
  have b3 := below_of_drew b3d
  obtain ⟨A3, c3, rfl, -⟩ := own_shape own3
  have hS3 : w3.cell? ⟨p, 0, none⟩ = some (.int .i64 i) ∧ w3.cell? ⟨p, 2, none⟩ = some (.slice L N c) := ⟨below_cell b3 hp0, below_cell b3 hp2⟩
  refine hK.out _ _ (fun _ => hS3) ?_
  clear hK K
  try simp only [Act.put, List.getElem_toArray, List.getElem_cons_zero, List.getElem_cons_succ, List.setIfInBounds_toArray, List.set_cons_zero, List.set_cons_succ]
  refine wpAnyZ_take (i := 15) (v := ?_) rfl (by kernel_rfl) (by kernel_rfl) (by kernel_rfl) (by kernel_rfl) (by decide) (fun _ _ _ h => h) (by rfl) ?_ (by assumption) ?_
  rotate_left
  · (intro w hSw; (try dsimp only at hSw); go_simp) <;> with_reducible rfl
  try simp only [Act.put, List.getElem_toArray, List.getElem_cons_zero, List.getElem_cons_succ, List.setIfInBounds_toArray, List.set_cons_zero, List.set_cons_succ]
  refine wpAnyZ_take (i := 16) (v := ?_) rfl (by kernel_rfl) (by kernel_rfl) (by kernel_rfl) (by kernel_rfl) (by decide) (fun _ _ _ h => h) (by rfl) ?_ (by assumption) ?_
  rotate_left
  · (intro w hSw; (try dsimp only at hSw); go_simp) <;> with_reducible rfl
  try simp only [Act.put, List.getElem_toArray, List.getElem_cons_zero, List.getElem_cons_succ, List.setIfInBounds_toArray, List.set_cons_zero, List.set_cons_succ]
  refine wpAnyZ_take (i := 17) (v := ?_) rfl (by kernel_rfl) (by kernel_rfl) (by kernel_rfl) (by kernel_rfl) (by decide) (fun _ _ _ h => h) (by rfl) ?_ (by assumption) ?_
  rotate_left
  · (intro w hSw; (try dsimp only at hSw); go_simp) <;> with_reducible rfl
  try simp only [Act.put, List.getElem_toArray, List.getElem_cons_zero, List.getElem_cons_succ, List.setIfInBounds_toArray, List.set_cons_zero, List.set_cons_succ]
  have hpb3 : w3.heap[p]? = some (.cells #[.int .i64 i, .int .i64 t, .slice L N c] 34 (0, 0)) := by
    rw [b3.block p hpl, HN.out]; exact HPB.out
  have hf3 : w3.frozen? ⟨p, 2, none⟩ = false := by simp [World.frozen?, hpb3]
  refine wpAnyZ_step (i := 18) rfl (by kernel_rfl) (fun K hK => ?_)
  go_simp
  refine hK.out _ _ (fun h => absurd rfl h) ?_
  clear hK K
  try simp only [Act.put, List.getElem_toArray, List.getElem_cons_zero, List.getElem_cons_succ, List.setIfInBounds_toArray, List.set_cons_zero, List.set_cons_succ]
  refine wpAnyZ_done (by kernel_rfl) ?_
  refine NoPanic.normal ?_
  obtain ⟨v4, hv4⟩ : ∃ v, v = Value.slice A3 (es.length - n) c3 := ⟨_, rfl⟩
  have hlen4 : (es.drop n).length = es.length - n := List.length_drop
  obtain ⟨w4, hw4⟩ : ∃ w4, w4 = w3.setCell ⟨p, 2, none⟩ v4 := ⟨_, rfl⟩
  rw [← hv4, ← hw4]
  have hpb4 : w4.heap[p]? = some (.cells #[.int .i64 i, .int .i64 t, v4] 34 (0, 0)) := by rw [hw4]; exact heap_setCell_same _ _ _ _ _ _ hpb3
  have hq0 : w4.cell? ⟨p, 0, none⟩ = some (.int .i64 i) := by simp [World.cell?, hpb4]
  have hf4 : w4.frozen? ⟨p, 0, none⟩ = false := by simp [World.frozen?, hpb4]
  have hpb5 : (w4.setCell ⟨p, 0, none⟩ (.int .i64 x)).heap[p]? = some (.cells #[.int .i64 x, .int .i64 t, v4] 34 (0, 0)) := heap_setCell_same _ _ _ _ _ _ hpb4
  have hq1 : (w4.setCell ⟨p, 0, none⟩ (.int .i64 x)).cell? ⟨p, 1, none⟩ = some (.int .i64 t) := by simp [World.cell?, hpb5]
  have hf5 : (w4.setCell ⟨p, 0, none⟩ (.int .i64 x)).frozen? ⟨p, 1, none⟩ = false := by simp [World.frozen?, hpb5]
  have hpb6 : ((w4.setCell ⟨p, 0, none⟩ (.int .i64 x)).setCell ⟨p, 1, none⟩ (.int .i64 T)).heap[p]? = some (.cells #[.int .i64 x, .int .i64 T, v4] 34 (0, 0)) := heap_setCell_same _ _ _ _ _ _ hpb5
  have hot : ∀ k, k ≠ p → ((w4.setCell ⟨p, 0, none⟩ (.int .i64 x)).setCell ⟨p, 1, none⟩ (.int .i64 T)).heap[k]? = w3.heap[k]? := fun k hk => by
    rw [heap_setCell_other _ _ _ _ hk, heap_setCell_other _ _ _ _ hk, hw4, heap_setCell_other _ _ _ _ hk]
  have hsz : ((w4.setCell ⟨p, 0, none⟩ (.int .i64 x)).setCell ⟨p, 1, none⟩ (.int .i64 T)).heap.size = w3.heap.size := by rw [World.size_setCell, World.size_setCell, hw4, World.size_setCell]
  have HOT := Lib.hid hot
  have HSZ := Lib.hid hsz
  have HPB6 := Lib.hid hpb6
  have HV4 := Lib.hid hv4
  have HW4 := Lib.hid hw4
  clear hot hsz hpb6 hv4 hw4 hpb5 hpb4 hpb3 hf3 hS3 hHeld hlen4
  go_wp2_with fail
  all_goals
    go_ret
    have hpn : ∀ k, k < w.heap.size → k ≠ p → ((w4.setCell ⟨p, 0, none⟩ (.int .i64 x)).setCell ⟨p, 1, none⟩ (.int .i64 T)).heap[k]? = w.heap[k]? := fun k hk hp => by rw [HOT.out k hp, b3.block k hk]
    refine ⟨rfl, ⟨?_, ?_, ?_, by rw [HSZ.out]; exact b3.size, fun k hk hp => hpn k hk (by simpa using hp)⟩, v4, Ds.drop n, HH.out.1, HPB6.out, ?_⟩
    · show w4.os = _; rw [HW4.out]; exact b3.os
    · show w4.tape = _; rw [HW4.out]; exact b3.tape
    · show w4.output = _; rw [HW4.out]; exact b3.output
    · have oe : OE ((w4.setCell ⟨p, 0, none⟩ (.int .i64 x)).setCell ⟨p, 1, none⟩ (.int .i64 T)) base (.slice L es.length c) es Ds :=
        HH.out.2.2.step (fun k hk => hpn k (HH.out.2.2.2.1.lt k hk).2 (fun e => HH.out.own_ne (by rw [hk, e]))) (fun D hD k hk => hpn k (HH.out.2.2.dlt D hD k hk).2 (fun e => HH.out.d_ne D hD (by rw [hk, e])))
      rw [HV4.out]
      have e1 : es.length - n = (es.drop n).length := by simp
      rw [e1]
      refine oe.drop n (own_step own3 fun k hk => HOT.out k fun e => ?_) (by simpa using HB.out)
      have := (own3.lt k hk).1
      simp at this
      omega

theorem compact_any (base p : Nat) (i t : Int) (v : Value) (es : List Ent) (Ds : List Value) (x : Int) (w : World) (h : TO w base p i t v es Ds) (h0 : 0 ≤ i) (h1 : i ≤ 10000000000000) (h2 : es.length ≤ 4200000000000) (hbase : base ≤ w.heap.size) :
    Calls Tryd.prog 18 #[.pointer (some ⟨p, 0, none⟩), .int .i64 x] w (CompactPost w base p (compactT i t es x)) := by
  cases hx : inT i es x with
  | false =>
    rw [show compactT i t es x = (92, i, t, es) by unfold compactT; rw [if_neg (by rw [hx]; decide)]]
    exact compact_no base p i t v es Ds x w h h0 h1 (by omega) hx
  | true =>
    have hx2 := of_decide_eq_true hx
    rw [show compactT i t es x = (0, x, termT i t es x, es.drop (x - i).toNat) by unfold compactT; rw [if_pos hx]]
    exact compact_yes base p i t v es Ds x (x - i).toNat w h h0 h1 h2 hbase (by omega) (by omega)
end Go.Proofs.YtkjpfjgaabbggaaDoor
