/- slices.MinFunc on sessions, by Used: the contract. -/
import Derived.Test.YtbdokphemdkhmaaDoorSList
import Derived.Deep.RegionHeld3
set_option linter.unusedVariables false
set_option linter.unusedSimpArgs false
namespace Go.Proofs.YtbdokphemdkhmaaDoor
open Go.RowKit

def pickU (m : SV) : List SV → SV
  | [] => m
  | x :: r => pickU (if x.u < m.u then x else m) r
def minS : List SV → SV
  | [] => default
  | x :: r => pickU x r
theorem pickU_snoc (m x : SV) : ∀ l : List SV, pickU m (l ++ [x]) = if x.u < (pickU m l).u then x else pickU m l := by
  intro l
  induction l generalizing m with
  | nil => rfl
  | cons y r ih => exact ih _
theorem pickU_core : ∀ {a b : SV} {l m : List SV}, core a = core b → l.map core = m.map core → core (pickU a l) = core (pickU b m)
  | a, b, [], [], h, _ => h
  | a, b, x :: l, y :: m, h, hl => by
    simp only [List.map_cons, List.cons.injEq] at hl
    simp only [pickU]
    refine pickU_core ?_ hl.2
    have e1 : x.u = y.u := congrArg (fun t => t.2.2.1) hl.1
    have e2 : a.u = b.u := congrArg (fun t => t.2.2.1) h
    rw [e1, e2]
    split
    · exact hl.1
    · exact h
theorem minS_core : ∀ {l m : List SV}, l.map core = m.map core → core (minS l) = core (minS m)
  | [], [], _ => rfl
  | x :: l, y :: m, h => by
    simp only [List.map_cons, List.cons.injEq] at h
    exact pickU_core h.1 h.2

set_option maxHeartbeats 1000000 in
theorem cmpU_any (x y : SV) (W : World) (r : Int) (hr : r = Lib.compareInt x.u y.u) : Calls Tryd.prog 22 #[.agg #[.int .i64 x.i, .int .i64 x.l, .int .i64 x.u, .slice x.A x.r.length x.c], .agg #[.int .i64 y.i, .int .i64 y.l, .int .i64 y.u, .slice y.A y.r.length y.c]] W fun e w' => e = .returned (.int .i64 r) ∧ Below W.heap.size W w' := by
  have hcon := fun W' => Tryd.cmp_Compare_int x.u y.u W'
  rw [← hr] at hcon
  clear hr
  have b := (below_alloc W (.cells #[.int .i64 x.i, .int .i64 x.l, .int .i64 x.u, .slice x.A x.r.length x.c] 44)).alloc (by simp) (.cells #[.int .i64 y.i, .int .i64 y.l, .int .i64 y.u, .slice y.A y.r.length y.c] 44)
  go_enter Tryd.func22, Tryd.ntmps22
  go_wp2_with (go_at_call 23; refine (hcon _).mono ?_; rintro e w' ⟨rfl, rfl⟩)
  go_ret
  exact ⟨rfl, b⟩

def set4 (w : World) (r : Nat) (a b c d : Value) : World := (((w.setCell ⟨r, 0, none⟩ a).setCell ⟨r, 1, none⟩ b).setCell ⟨r, 2, none⟩ c).setCell ⟨r, 3, none⟩ d
theorem set4_below {B : Nat} {x w : World} (h : Below B x w) {r : Nat} (hr : B ≤ r) (a b c d : Value) : Below B x (set4 w r a b c d) :=
  (((h.setCell (p := ⟨r, 0, none⟩) hr a).setCell (p := ⟨r, 1, none⟩) hr b).setCell (p := ⟨r, 2, none⟩) hr c).setCell (p := ⟨r, 3, none⟩) hr d
theorem set4_other (w : World) (r : Nat) (a b c d : Value) (k : Nat) (hk : k ≠ r) : (set4 w r a b c d).heap[k]? = w.heap[k]? := by
  unfold set4
  rw [heap_setCell_other _ _ _ _ hk, heap_setCell_other _ _ _ _ hk, heap_setCell_other _ _ _ _ hk, heap_setCell_other _ _ _ _ hk]
theorem set4_same {w : World} {r : Nat} {x y z u : Value} {t : TypeId} (h : w.heap[r]? = some (.cells #[x, y, z, u] t (0, 0))) (a b c d : Value) : (set4 w r a b c d).heap[r]? = some (.cells #[a, b, c, d] t (0, 0)) := by
  unfold set4
  have h0 := heap_setCell_same w r 0 _ _ a h
  have h1 := heap_setCell_same _ r 1 _ _ b h0
  have h2 := heap_setCell_same _ r 2 _ _ c h1
  exact heap_setCell_same _ r 3 _ _ d h2
theorem cmp_lt (a b : Int) : Lib.compareInt a b < 0 ↔ a < b := by
  unfold Lib.compareInt
  by_cases h1 : a < b
  · simp [h1]
  · by_cases h2 : b < a <;> simp [h1, h2]
theorem take_step {x y : SV} {rest : List SV} {i : Nat} (h1 : 1 ≤ i) (hi : i < (x :: rest).length) (hy : y = (x :: rest)[i]) : pickU x (rest.take (i + 1 - 1)) = if y.u < (pickU x (rest.take (i - 1))).u then y else pickU x (rest.take (i - 1)) := by
  obtain ⟨j, rfl⟩ : ∃ j, i = j + 1 := ⟨i - 1, by omega⟩
  have hj : j < rest.length := by simpa using hi
  have e : y = rest[j] := by simpa using hy
  rw [show j + 1 + 1 - 1 = j + 1 by omega, show j + 1 - 1 = j by omega, List.take_succ_eq_append_getElem hj, pickU_snoc, ← e]
theorem min_keep {w0 w1 w2 : World} {a0 a1 a2 a3 b0 b1 b2 b3 : Addr} {u0 u1 u2 u3 v0 v1 v2 v3 : Value}
    (h : w1.cell? a0 = some u0 ∧ w1.cell? a1 = some u1 ∧ w1.cell? a2 = some u2 ∧ w1.cell? a3 = some u3 ∧ w1.cell? b0 = some v0 ∧ w1.cell? b1 = some v1 ∧ w1.cell? b2 = some v2 ∧ w1.cell? b3 = some v3 ∧ Below w0.heap.size w0 w1) (b : Below w1.heap.size w1 w2) :
    w2.cell? a0 = some u0 ∧ w2.cell? a1 = some u1 ∧ w2.cell? a2 = some u2 ∧ w2.cell? a3 = some u3 ∧ w2.cell? b0 = some v0 ∧ w2.cell? b1 = some v1 ∧ w2.cell? b2 = some v2 ∧ w2.cell? b3 = some v3 ∧ Below w0.heap.size w0 w2 := by
  obtain ⟨h0, h1, h2, h3, k0, k1, k2, k3, hb⟩ := h
  exact ⟨below_cell b h0, below_cell b h1, below_cell b h2, below_cell b h3, below_cell b k0, below_cell b k1, below_cell b k2, below_cell b k3, below_then hb hb.size b⟩
set_option maxRecDepth 100000 in
set_option maxHeartbeats 4000000 in
theorem minf_any (base m c g : Nat) (ls : List SV) (w : World) (h : w.ownsRow base 44 4 (.slice (some ⟨g, 0, none⟩) m c) m (scells ls)) (hm : ls.length = m) (h0 : 0 < m) (hn : m ≤ 1000000) :
    Calls Tryd.prog 21 #[.slice (some ⟨g, 0, none⟩) m c, .func (.func 22) #[] #[]] w fun e w' => e = .returned (.agg #[.int .i64 (minS ls).i, .int .i64 (minS ls).l, .int .i64 (minS ls).u, (minS ls).D]) ∧ Below w.heap.size w w' := by
  obtain ⟨g', cap, cur, hv, hg, hb, h1, h2, h3, h4⟩ := row_at h hm h0
  cases hv
  have hc : ∀ i (hi : i < ls.length), w.cell? ⟨g, i * 4, none⟩ = some (.int .i64 ls[i].i) ∧ w.cell? ⟨g, i * 4 + 1, none⟩ = some (.int .i64 ls[i].l) ∧ w.cell? ⟨g, i * 4 + 2, none⟩ = some (.int .i64 ls[i].u) ∧ w.cell? ⟨g, i * 4 + 3, none⟩ = some ls[i].D := by
    intro i hi
    obtain ⟨g0, g1, g2, g3⟩ := scells_get ls i hi
    have hx : ∀ j v, j < m * 4 → (scells ls)[j]? = some v → w.cell? ⟨g, j, none⟩ = some v := fun j v hj hv => by
      rw [← h4, List.getElem?_take_of_lt hj, Array.getElem?_toList] at hv
      rw [cell_of hb]; exact hv
    exact ⟨hx _ _ (by omega) g0, hx _ _ (by omega) g1, hx _ _ (by omega) g2, hx _ _ (by omega) g3⟩
  obtain ⟨x, rest, rfl⟩ : ∃ x rest, ls = x :: rest := by
    cases ls with
    | nil => simp at hm; omega
    | cons x rest => exact ⟨x, rest, rfl⟩
  obtain ⟨a0, a1, a2, a3⟩ := hc 0 (by simp)
  simp only [Nat.zero_mul, Nat.zero_add, List.getElem_cons_zero, SV.D] at a0 a1 a2 a3
  have HC := Lib.hid hc
  have HM := Lib.hid hm
  have hm1 : ¬ (m : Int) < 1 := by omega
  have hglt : g < w.heap.size := (Array.getElem?_eq_some_iff.1 hb).1
  clear hc hm h h4 h3 hb
  simp only [minS, SV.D]
  have b1 := below_alloc w (.cells #[.int .i64 0, .int .i64 0, .int .i64 0, .slice none 0 0] 44)
  have a0b := below_cell b1 a0
  have a1b := below_cell b1 a1
  have a2b := below_cell b1 a2
  have a3b := below_cell b1 a3
  go_enter Tryd.func21, Tryd.ntmps21
  go_wp2_with fail
  clear a0 a1 a2 a3 a0b a1b a2b a3b
  go_loopg [6] (m - 1) (fun q ti wr => ∃ (i : Nat) (mm : SV), q = m - i ∧ 1 ≤ i ∧ i ≤ m ∧ ti = .int .i64 i ∧ Hid (pickU x (rest.take (i - 1)) = mm) ∧ wr.heap[w.heap.size + 1]? = some (.cells #[.int .i64 mm.i, .int .i64 mm.l, .int .i64 mm.u, .slice mm.A mm.r.length mm.c] 44 (0, 0)) ∧
    wr.heap[w.heap.size]? = some (.cells #[.int .i64 0, .int .i64 0, .int .i64 0, .slice none 0 0] 44 (0, 0)) ∧ Below w.heap.size w wr)
  case atStart =>
    refine ⟨1, x, rfl, Nat.le_refl _, by omega, rfl, Lib.hid rfl, ?_, ?_, b1.alloc (by simp) _⟩
    · have := heap_alloc_new (w.alloc (.cells #[.int .i64 0, .int .i64 0, .int .i64 0, .slice none 0 0] 44)) (.cells #[.int .i64 x.i, .int .i64 x.l, .int .i64 x.u, .slice x.A x.r.length x.c] 44)
      simpa using this
    · exact ((below_alloc (w.alloc (.cells #[.int .i64 0, .int .i64 0, .int .i64 0, .slice none 0 0] 44)) _).block w.heap.size (by simp)).trans (heap_alloc_new w _)
  case round =>
    obtain ⟨i, mm, hq, hi1, hi, rfl, HP, hbm, hbr, bel⟩ := hrel
    have m0 : wr.cell? ⟨w.heap.size + 1, 0, none⟩ = some (.int .i64 mm.i) := cell_of hbm 0
    have m1 : wr.cell? ⟨w.heap.size + 1, 1, none⟩ = some (.int .i64 mm.l) := cell_of hbm 1
    have m2 : wr.cell? ⟨w.heap.size + 1, 2, none⟩ = some (.int .i64 mm.u) := cell_of hbm 2
    have m3 : wr.cell? ⟨w.heap.size + 1, 3, none⟩ = some (.slice mm.A mm.r.length mm.c) := cell_of hbm 3
    by_cases him : i < m
    · have hi2 : (i : Int) < (m : Int) := by omega
      obtain ⟨c0, c1, c2, c3⟩ := HC.out i (by rw [HM.out]; exact him)
      obtain ⟨y, hy⟩ : ∃ y, y = (x :: rest)[i]'(by rw [HM.out]; exact him) := ⟨_, rfl⟩
      rw [← hy] at c0 c1 c2 c3
      simp only [SV.D] at c3
      have HY := Lib.hid hy
      have HB := Lib.hid hbm
      have HBR := Lib.hid hbr
      have HBel := Lib.hid bel
      obtain ⟨r, hr⟩ : ∃ r, r = Lib.compareInt y.u mm.u := ⟨_, rfl⟩
      have HR := Lib.hid hr
      have d0 := below_cell bel c0
      have d1 := below_cell bel c1
      have d2 := below_cell bel c2
      have d3 := below_cell bel c3
      have hS : wr.drew.cell? ⟨g, i * 4, none⟩ = some (.int .i64 y.i) ∧ wr.drew.cell? ⟨g, i * 4 + 1, none⟩ = some (.int .i64 y.l) ∧ wr.drew.cell? ⟨g, i * 4 + 2, none⟩ = some (.int .i64 y.u) ∧ wr.drew.cell? ⟨g, i * 4 + 3, none⟩ = some (.slice y.A y.r.length y.c) ∧
        wr.drew.cell? ⟨w.heap.size + 1, 0, none⟩ = some (.int .i64 mm.i) ∧ wr.drew.cell? ⟨w.heap.size + 1, 1, none⟩ = some (.int .i64 mm.l) ∧ wr.drew.cell? ⟨w.heap.size + 1, 2, none⟩ = some (.int .i64 mm.u) ∧ wr.drew.cell? ⟨w.heap.size + 1, 3, none⟩ = some (.slice mm.A mm.r.length mm.c) ∧ Below wr.heap.size wr wr.drew := ⟨d0, d1, d2, d3, m0, m1, m2, m3, (Below.refl _ _).drew⟩
      clear hy hbm hbr bel hr c0 c1 c2 c3 d0 d1 d2 d3 m0 m1 m2 m3
      go_wp2_with fail
      go_region_held3 (fun w' => w'.cell? ⟨g, i * 4, none⟩ = some (.int .i64 y.i) ∧ w'.cell? ⟨g, i * 4 + 1, none⟩ = some (.int .i64 y.l) ∧ w'.cell? ⟨g, i * 4 + 2, none⟩ = some (.int .i64 y.u) ∧ w'.cell? ⟨g, i * 4 + 3, none⟩ = some (.slice y.A y.r.length y.c) ∧
        w'.cell? ⟨w.heap.size + 1, 0, none⟩ = some (.int .i64 mm.i) ∧ w'.cell? ⟨w.heap.size + 1, 1, none⟩ = some (.int .i64 mm.l) ∧ w'.cell? ⟨w.heap.size + 1, 2, none⟩ = some (.int .i64 mm.u) ∧ w'.cell? ⟨w.heap.size + 1, 3, none⟩ = some (.slice mm.A mm.r.length mm.c) ∧ Below wr.heap.size wr w')
        (first | assumption | exact min_keep (by assumption) (by assumption))
        (first | (go_at_call 22; refine (cmpU_any y mm _ r HR.out).mono ?_; rintro e w2 ⟨rfl, b2⟩) | fail)
      all_goals
        go_split_ands
        have kb : Below wr.heap.size wr w2 := by assumption
        have hbm2 := (kb.block _ (Array.getElem?_eq_some_iff.1 HB.out).1).trans HB.out
        have hbr2 := (kb.block _ (Array.getElem?_eq_some_iff.1 HBR.out).1).trans HBR.out
        have hbel := below_then HBel.out HBel.out.size kb
        by_cases hlt : y.u < mm.u
        · have hr1 : r < 0 := by rw [HR.out]; exact (cmp_lt _ _).2 hlt
          have f0 := frozen_of hbm2 0
          have f1 := frozen_of hbm2 1
          have f2 := frozen_of hbm2 2
          have f3 := frozen_of hbm2 3
          have HB2 := Lib.hid hbm2
          have HBR2 := Lib.hid hbr2
          have HBel2 := Lib.hid hbel
          clear hbm2 hbr2 hbel
          go_wp2_with fail
          go_roundg (m - (i + 1))
          case measure => omega
          case rel =>
            refine ⟨i + 1, y, rfl, by omega, by omega, by go_num, Lib.hid ?_, set4_same HB2.out _ _ _ _, (set4_other _ _ _ _ _ _ _ (by omega)).trans HBR2.out, set4_below HBel2.out (by omega) _ _ _ _⟩
            rw [take_step hi1 (by rw [HM.out]; exact him) HY.out, HP.out, if_pos hlt]
        · have hr1 : ¬ r < 0 := by rw [HR.out]; exact fun h => hlt ((cmp_lt _ _).1 h)
          have HB2 := Lib.hid hbm2
          have HBR2 := Lib.hid hbr2
          have HBel2 := Lib.hid hbel
          clear hbm2 hbr2 hbel
          go_wp2_with fail
          go_roundg (m - (i + 1))
          case measure => omega
          case rel =>
            refine ⟨i + 1, mm, rfl, by omega, by omega, by go_num, Lib.hid ?_, HB2.out, HBR2.out, HBel2.out⟩
            rw [take_step hi1 (by rw [HM.out]; exact him) HY.out, HP.out, if_neg (by omega)]
    · obtain rfl : i = m := by omega
      have r0 : wr.cell? ⟨w.heap.size, 0, none⟩ = some (.int .i64 0) := cell_of hbr 0
      have r1 : wr.cell? ⟨w.heap.size, 1, none⟩ = some (.int .i64 0) := cell_of hbr 1
      have r2 : wr.cell? ⟨w.heap.size, 2, none⟩ = some (.int .i64 0) := cell_of hbr 2
      have r3 : wr.cell? ⟨w.heap.size, 3, none⟩ = some (.slice none 0 0) := cell_of hbr 3
      have f0 := frozen_of hbr 0
      have f1 := frozen_of hbr 1
      have f2 := frozen_of hbr 2
      have f3 := frozen_of hbr 3
      have HBR2 := Lib.hid hbr
      have HBel2 := Lib.hid bel
      clear hbr bel
      go_wp2_with fail
      have hrl : rest.length + 1 = i := by have := HM.out; simpa using this
      have hpk : pickU x rest = mm := by
        have := HP.out
        rwa [List.take_of_length_le (by omega)] at this
      have hbq := set4_same HBR2.out (.int .i64 mm.i) (.int .i64 mm.l) (.int .i64 mm.u) (.slice mm.A mm.r.length mm.c)
      have hbel := set4_below HBel2.out (Nat.le_refl _) (.int .i64 mm.i) (.int .i64 mm.l) (.int .i64 mm.u) (.slice mm.A mm.r.length mm.c)
      obtain ⟨w9, hw9⟩ : ∃ w9, w9 = set4 wr w.heap.size (.int .i64 mm.i) (.int .i64 mm.l) (.int .i64 mm.u) (.slice mm.A mm.r.length mm.c) := ⟨_, rfl⟩
      have e9 : (((wr.setCell ⟨w.heap.size, 0, none⟩ (.int .i64 mm.i)).setCell ⟨w.heap.size, 1, none⟩ (.int .i64 mm.l)).setCell ⟨w.heap.size, 2, none⟩ (.int .i64 mm.u)).setCell ⟨w.heap.size, 3, none⟩ (.slice mm.A mm.r.length mm.c) = w9 := hw9.symm
      rw [e9]
      rw [← hw9] at hbq hbel
      have q0 : w9.cell? ⟨w.heap.size, 0, none⟩ = some (.int .i64 mm.i) := cell_of hbq 0
      have q1 : w9.cell? ⟨w.heap.size, 1, none⟩ = some (.int .i64 mm.l) := cell_of hbq 1
      have q2 : w9.cell? ⟨w.heap.size, 2, none⟩ = some (.int .i64 mm.u) := cell_of hbq 2
      have q3 : w9.cell? ⟨w.heap.size, 3, none⟩ = some (.slice mm.A mm.r.length mm.c) := cell_of hbq 3
      rw [hpk]
      exact bodyPost_ret (v := .agg #[.int .i64 mm.i, .int .i64 mm.l, .int .i64 mm.u, .slice mm.A mm.r.length mm.c]) (by simp [results, Tryd.results21, go_sem, q0, q1, q2, q3]) rfl ⟨rfl, hbel⟩
end Go.Proofs.YtbdokphemdkhmaaDoor
