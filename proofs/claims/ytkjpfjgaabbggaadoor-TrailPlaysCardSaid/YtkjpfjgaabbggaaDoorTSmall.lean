/- muntinlaw21.small: the contract. -/
import Derived.Test.YtkjpfjgaabbggaaDoorTMergeHi
import Derived.Test.YtkjpfjgaabbggaaDoorTBack
import Derived.Test.YtkjpfjgaabbggaaDoorCodeAny
import Derived.Outline
set_option linter.unusedVariables false
set_option linter.unusedSimpArgs false
namespace Go.Proofs.YtkjpfjgaabbggaaDoor
open Go.RowKit

/-- a block of entries that stands whole -/
theorem RE.block {w : World} {g : Nat} {cs : Array Value} {t : TypeId} {fr : Nat × Nat} {es : List Ent} {Ds : List Value} (h : w.heap[g]? = some (.cells cs t fr)) (hl : Ds.length = es.length) (hc : cs.toList.take (es.length * 4) = ecells es Ds)
    (hd : ∀ i (h : i < es.length) (h' : i < Ds.length), RD w Ds[i] es[i].d) : RE w (some ⟨g, 0, none⟩) es Ds := by
  refine ⟨hl, fun j u hj => ⟨_, rfl, ?_⟩, hd⟩
  rw [Addr.add_lit]
  have hlt := (List.getElem?_eq_some_iff.1 hj).1
  rw [ecells_length hl] at hlt
  rw [← hc, List.getElem?_take_of_lt hlt] at hj
  simp only [World.cell?, h, Option.isSome_none, Bool.false_eq_true, ↓reduceIte, Nat.zero_add]
  simpa using hj
theorem RD.nil (w : World) : RD w (.slice none 0 0) [] := ⟨none, 0, rfl, RB.nil _ _, by simp, by simp, fun _ => rfl⟩

theorem TO.lower {w : World} {base b' p : Nat} {i t : Int} {v : Value} {es : List Ent} {Ds : List Value} (h : TO w base p i t v es Ds) (hb : b' ≤ base) : TO w b' p i t v es Ds :=
  ⟨Nat.le_trans hb h.1, h.2.1, h.2.2.lower hb⟩
def sm0 : List Ent := [⟨3, 1, 0, []⟩, ⟨4, 2, 0, []⟩, ⟨5, 2, 0, []⟩]
def sm1 : List Ent := [⟨5, 3, 0, []⟩, ⟨6, 3, 0, []⟩]
def sm2 : List Ent := [⟨3, 1, 0, []⟩, ⟨4, 2, 0, []⟩, ⟨5, 3, 0, []⟩, ⟨6, 3, 0, []⟩]
theorem sm_ok0 : okNew 2 1 sm0 = true := by decide
theorem sm_ok1 : okNew 4 2 sm1 = true := by decide
theorem sm_ok2 : okNew 4 1 [] = true := by decide
theorem sm_b1 : backT 2 1 sm0 9 = 5 := by decide
theorem sm_b2 : backT 2 1 sm0 5 = 3 := by decide
theorem sm_m1 : mergeT 2 1 sm0 4 2 sm1 = (0, 6, sm2, sm1) := by rfl
theorem sm_m2 : mergeT 2 1 sm2 4 1 [] = (92, 0, sm2, []) := by rfl
theorem sm_e : endT 1 sm2 = 3 := by rfl
theorem sm_re0 (w : World) : RE (w.alloc (.cells #[.int .i64 3, .int .i64 1, .int .i64 0, .slice none 0 0, .int .i64 4, .int .i64 2, .int .i64 0, .slice none 0 0, .int .i64 5, .int .i64 2, .int .i64 0, .slice none 0 0] 44)) (some ⟨w.heap.size, 0, none⟩) sm0 [.slice none 0 0, .slice none 0 0, .slice none 0 0] := by
  refine RE.block (heap_alloc_new w _) rfl rfl fun i h h' => ?_
  match i, h with
  | 0, _ => exact RD.nil _
  | 1, _ => exact RD.nil _
  | 2, _ => exact RD.nil _
theorem sm_re1 (w : World) : RE (w.alloc (.cells #[.int .i64 5, .int .i64 3, .int .i64 0, .slice none 0 0, .int .i64 6, .int .i64 3, .int .i64 0, .slice none 0 0] 44)) (some ⟨w.heap.size, 0, none⟩) sm1 [.slice none 0 0, .slice none 0 0] := by
  refine RE.block (heap_alloc_new w _) rfl rfl fun i h h' => ?_
  match i, h with
  | 0, _ => exact RD.nil _
  | 1, _ => exact RD.nil _

set_option maxRecDepth 100000 in
set_option maxHeartbeats 4000000 in
theorem small_any (w : World) (hE : ErrT w) :
    Calls Tryd.prog 8 #[] w fun e w' => e = .returned (.bool true) ∧ Below w.heap.size w w' := by
  go_enter Tryd.func8, Tryd.ntmps8
  go_wp2_with fail
  refine (new_ok _ 3 3 sm0 _ 2 1 _ (sm_re0 w) rfl (by omega) (by omega) (fun h => by cases h) sm_ok0).mono ?_
  rintro e w1 ⟨p, v, Ds, rfl, hT0, b1⟩
  have b1' := below_then (below_alloc w _) (by simp) b1
  have hT := hT0.lower (b' := w.heap.size) (by simp)
  rw [errV_zero]
  obtain ⟨L, c, hv, hre, -⟩ := hT.2.2.re
  subst hv
  clear hT0 b1
  go_wp2_with fail
  refine (back_any p 2 1 L c sm0 Ds 9 w1 hT.tr hre (by omega) (by omega) (by decide)).mono ?_
  rw [sm_b1]
  rintro e w2 ⟨rfl, m, rfl⟩
  go_wp2_with fail
  refine (back_any p 2 1 L c sm0 Ds 5 _ hT.tr.drewN hre.drewN (by omega) (by omega) (by decide)).mono ?_
  rw [sm_b2]
  rintro e w3 ⟨rfl, m2, hw3⟩
  have b3 : Below w.heap.size w w3 := by rw [hw3]; exact below_draws (below_draws b1' _) _
  have hT3 : TO w3 w.heap.size p 2 1 (.slice L sm0.length c) sm0 Ds := by rw [hw3]; exact hT
  clear hw3 hT hre
  go_wp2_with fail
  refine (merge_hi w.heap.size p 2 1 _ sm0 Ds _ 2 2 sm1 _ 4 2 _ (hT3.below (below_alloc w3 _)) (sm_re1 w3) rfl (by omega) (fun h => by cases h) (by omega) (by omega) (by decide) (by decide) (by simp; have := b3.size; omega) sm_ok1 (by omega) (by decide)).mono ?_
  rw [sm_m1]
  unfold MergePost
  simp only [errV_zero]
  rintro e w4 ⟨M, v4, Ds4, Dm4, rfl, hg4, hT4, om4⟩
  obtain ⟨MA, mc, hM, -⟩ := om4.re
  rw [show sm1.length = 2 from rfl] at hM
  subst hM
  obtain ⟨L4, c4, hv4, hre4, -⟩ := hT4.2.2.re
  subst hv4
  have b4 : Below w.heap.size w w4 := (b3.trans ((below_alloc w3 _).mono b3.size)).grown hg4 (by simp; have := b3.size; omega) (fun k hk => by cases hk; exact hT3.1)
  clear om4 hg4
  go_wp2_with fail
  refine (merge_hi w.heap.size p 2 1 _ sm2 Ds4 none 0 0 [] [] 4 1 _ hT4 (RE.nil _ _) rfl (by omega) (fun _ => rfl) (by omega) (by omega) (by decide) (by decide) b4.size sm_ok2 (by omega) (by decide)).mono ?_
  rw [sm_m2]
  rintro e w5 ⟨M5, v5, Ds5, Dm5, rfl, hg5, hT5, om5⟩
  obtain ⟨MA5, mc5, hM5, -⟩ := om5.re
  subst hM5
  obtain ⟨L5, c5, hv5, hre5, -⟩ := hT5.2.2.re
  subst hv5
  have b5 : Below w.heap.size w w5 := b4.grown hg5 b4.size (fun k hk => by cases hk; exact hT3.1)
  have hE5 := hE.below b5
  clear om5 hg5
  go_wp2_with fail
  refine (last_any p 2 1 L5 c5 sm2 Ds5 w5 hT5.tr hre5 (by omega) (by omega) (by decide)).mono ?_
  rw [sm_e]
  rintro e w6 ⟨rfl, m6, rfl⟩
  have HC := Lib.hid (code_any 92 (w5.drewN m6) hE5)
  rw [show (2 : Int) + ((sm2.length : Nat) : Int) = 6 from rfl]
  go_wp2_with (go_at_call 22; refine HC.out.mono ?_; rintro e w7 ⟨rfl, b7⟩)
  go_ret
  exact ⟨rfl, below_then (below_draws b5 m6) (below_draws b5 m6).size b7⟩
end Go.Proofs.YtkjpfjgaabbggaaDoor
