/- muntinref22.Change, muntinlaw22.copied: the contracts (printed by wip/gen/refchange.py). -/
import Derived.Test.YtaopipghooaekaaDoorQRefMeet
set_option linter.unusedVariables false
set_option linter.unusedSimpArgs false
namespace Go.Proofs.YtaopipghooaekaaDoor
open Go.RowKit

/-- the nodes that a change leaves, those up to k -/
def outT (ns : List Int) (kind who : Int) : Nat → List Int
  | 0 => []
  | k + 1 => outT ns kind who k ++ if (ns.contains ((k : Int) + 1) = true ∧ (k : Int) + 1 ≠ who) ∨ ((k : Int) + 1 = who ∧ kind = 1) then [(k : Int) + 1] else []
theorem out_all : ∀ ns ∈ subsF 5, ∀ kind ∈ ([1, 2] : List Int), ∀ who ∈ ([1, 2, 3, 4, 5] : List Int), rightB ns = true → (changeT ns kind who).1 = 0 → (changeT ns kind who).2 = outT ns kind who 5 := by decide +kernel
theorem out_of {ns : List Int} {kind who : Int} (h : (changeT ns kind who).1 = 0) : (changeT ns kind who).2 = outT ns kind who 5 := by
  obtain ⟨h1, h2, h3⟩ := change_ok h
  refine out_all ns (right_subs h1) kind ?_ who ?_ h1 h
  · have := of_decide_eq_true h3
    simp
    omega
  · have := of_decide_eq_true h2
    simp
    omega
/-- what the document's change answers -/
def RefPost (w : World) (R : Nat × List Int) (e : Ending) (w' : World) : Prop :=
  ∃ V m c, e = .returned (.tuple #[.agg #[.slice V m c], .int .i64 R.1]) ∧ R.2.length = m ∧ RI w' V R.2 ∧ Below w.heap.size w w'
theorem errs_cell {w : World} {g : Nat} {v : Value} {t : TypeId} (h : w.heap[g]? = some (.cells #[v] t (0, 0))) : w.cell? ⟨g, 0, none⟩ = some v ∧ w.frozen? ⟨g, 0, none⟩ = false := by
  constructor
  · simp [World.cell?, h]
  · simp [World.frozen?, h]
theorem own_head {w : World} {base : Nat} {e : TypeId} {size n : Nat} {v : Value} {xs : List Value} (h : w.ownsRow base e size v n xs) (h0 : 0 < n) : ∃ g cap, v = .slice (some ⟨g, 0, none⟩) n cap ∧ n ≤ cap ∧ base ≤ g ∧ g < w.heap.size := by
  rcases h.2 with ⟨-, h1⟩ | ⟨g, cap, cur, h1, h2, h3, h4, -⟩
  · omega
  · exact ⟨g, cap, h1, h4, h2, (Array.getElem?_eq_some_iff.1 h3).1⟩
theorem own_stepq {w w' : World} {base : Nat} {e : TypeId} {size n : Nat} {v : Value} {xs : List Value} (h : w.ownsRow base e size v n xs) (hb : ∀ k, v.ownBlock = some k → w'.heap[k]? = w.heap[k]?) : w'.ownsRow base e size v n xs := by
  refine ⟨h.1, ?_⟩
  rcases h.2 with h1 | ⟨g, cap, cur, rfl, hg, hh, r⟩
  · exact .inl h1
  · exact .inr ⟨g, cap, cur, rfl, hg, by rw [hb g rfl]; exact hh, r⟩
theorem set_cell1 {w : World} {g : Nat} {v v' : Value} {t : TypeId} (h : w.heap[g]? = some (.cells #[v] t (0, 0))) : (w.setCell ⟨g, 0, none⟩ v').heap[g]? = some (.cells #[v'] t (0, 0)) := heap_setCell_same w g 0 _ _ v' h

set_option maxRecDepth 100000 in
set_option maxHeartbeats 1000000 in
theorem refchange_b1 (A : Option Addr) (n c : Nat) (ns : List Int) (kind who : Int) (w : World) (hr : RI w A ns) (hl : ns.length = n) (hn : n ≤ 100000000000000) (hq : rightB ns = false) :
    Calls Tryd.prog 8 #[.agg #[.slice A n c], .int .i64 kind, .int .i64 who] w (RefPost w (1, [])) := by
  obtain ⟨wb, hwb⟩ : ∃ wb, wb = (w.alloc (.cells #[.slice A n c] 24)).alloc (.cells #[.slice none 0 0] 24) := ⟨_, rfl⟩
  have b : Below w.heap.size w wb := by rw [hwb]; exact (below_alloc w _).alloc (below_alloc w _).size _
  have hb6 : wb.heap[w.heap.size + 1]? = some (.cells #[.slice none 0 0] 24 (0, 0)) := by
    rw [hwb]
    have := heap_alloc_new (w.alloc (.cells #[.slice A n c] 24)) (.cells #[.slice none 0 0] 24)
    simpa using this
  have HB6 := Lib.hid hb6
  have HB := Lib.hid (show ∀ w1, Below wb.heap.size wb w1 → w1.cell? ⟨w.heap.size, 0, none⟩ = some (.slice A n c) ∧ w1.cell? ⟨w.heap.size + 1, 0, none⟩ = some (.slice none 0 0) from fun w1 h => box_cell2r (by rw [← hwb]; exact h))
  have HW := Lib.hid hwb
  have HSZ := Lib.hid (show w.heap.size + 1 < wb.heap.size by rw [hwb]; simp)
  have HQ := Lib.hid fun (w1 : World) (h : Below wb.heap.size wb w1) => refright_any A n c ns w1 ((hr.below b).below h) hl hn
  have HH := Lib.hid fun (w1 : World) (h : Below wb.heap.size wb w1) => refhas_any A n c ns who w1 ((hr.below b).below h) hl hn
  rw [hq] at HQ
  clear hq
  clear hr hl hwb hb6
  go_enter Tryd.func8, Tryd.ntmps8
  go_wp2_with (first
    | (go_at_call 17; rw [← HW.out]; refine (HQ.out _ (Below.refl _ _)).mono ?_; rintro e w1 ⟨rfl, b1⟩; obtain ⟨k1, k2⟩ := HB.out _ b1; (have f2 := (errs_cell ((b1.block _ HSZ.out).trans HB6.out)).2))
    | (go_at_call 36; refine (HH.out _ b1).mono ?_; rintro e w2 ⟨rfl, rfl⟩))
  all_goals
    have q := World.cell?_setCell_same _ _ (.slice none 0 0) k2
    have B1 := below_then b b.size b1
    exact bodyPost_ret (v := .tuple #[.agg #[.slice none 0 0], .int .i64 1]) (by simp [results, Tryd.results8, go_sem, q]) rfl ⟨_, _, _, rfl, rfl, RI.nil _ _, B1.setCell (by simp) _⟩

set_option maxRecDepth 100000 in
set_option maxHeartbeats 1000000 in
theorem refchange_b2 (A : Option Addr) (n c : Nat) (ns : List Int) (kind who : Int) (w : World) (hr : RI w A ns) (hl : ns.length = n) (hn : n ≤ 100000000000000) (hq : rightB ns = true) (hk : kindB kind = false) :
    Calls Tryd.prog 8 #[.agg #[.slice A n c], .int .i64 kind, .int .i64 who] w (RefPost w (1, [])) := by
  obtain ⟨wb, hwb⟩ : ∃ wb, wb = (w.alloc (.cells #[.slice A n c] 24)).alloc (.cells #[.slice none 0 0] 24) := ⟨_, rfl⟩
  have b : Below w.heap.size w wb := by rw [hwb]; exact (below_alloc w _).alloc (below_alloc w _).size _
  have hb6 : wb.heap[w.heap.size + 1]? = some (.cells #[.slice none 0 0] 24 (0, 0)) := by
    rw [hwb]
    have := heap_alloc_new (w.alloc (.cells #[.slice A n c] 24)) (.cells #[.slice none 0 0] 24)
    simpa using this
  have HB6 := Lib.hid hb6
  have HB := Lib.hid (show ∀ w1, Below wb.heap.size wb w1 → w1.cell? ⟨w.heap.size, 0, none⟩ = some (.slice A n c) ∧ w1.cell? ⟨w.heap.size + 1, 0, none⟩ = some (.slice none 0 0) from fun w1 h => box_cell2r (by rw [← hwb]; exact h))
  have HW := Lib.hid hwb
  have HSZ := Lib.hid (show w.heap.size + 1 < wb.heap.size by rw [hwb]; simp)
  have HQ := Lib.hid fun (w1 : World) (h : Below wb.heap.size wb w1) => refright_any A n c ns w1 ((hr.below b).below h) hl hn
  have HH := Lib.hid fun (w1 : World) (h : Below wb.heap.size wb w1) => refhas_any A n c ns who w1 ((hr.below b).below h) hl hn
  rw [hq] at HQ
  have hk2 := of_decide_eq_false hk
  have d1 : (kind != 1) = true := by simp; omega
  have d2 : (kind != 2) = true := by simp; omega
  clear hq hk hk2
  clear hr hl hwb hb6
  go_enter Tryd.func8, Tryd.ntmps8
  go_wp2_with (first
    | (go_at_call 17; rw [← HW.out]; refine (HQ.out _ (Below.refl _ _)).mono ?_; rintro e w1 ⟨rfl, b1⟩; obtain ⟨k1, k2⟩ := HB.out _ b1; (have f2 := (errs_cell ((b1.block _ HSZ.out).trans HB6.out)).2))
    | (go_at_call 36; refine (HH.out _ b1).mono ?_; rintro e w2 ⟨rfl, rfl⟩))
  all_goals
    have q := World.cell?_setCell_same _ _ (.slice none 0 0) k2
    have B1 := below_then b b.size b1
    exact bodyPost_ret (v := .tuple #[.agg #[.slice none 0 0], .int .i64 1]) (by simp [results, Tryd.results8, go_sem, q]) rfl ⟨_, _, _, rfl, rfl, RI.nil _ _, B1.setCell (by simp) _⟩

set_option maxRecDepth 100000 in
set_option maxHeartbeats 1000000 in
theorem refchange_b31 (A : Option Addr) (n c : Nat) (ns : List Int) (kind who : Int) (w : World) (hr : RI w A ns) (hl : ns.length = n) (hn : n ≤ 100000000000000) (hq : rightB ns = true) (hkk : kind = 1) (hw : who < 1) :
    Calls Tryd.prog 8 #[.agg #[.slice A n c], .int .i64 kind, .int .i64 who] w (RefPost w (1, [])) := by
  obtain ⟨wb, hwb⟩ : ∃ wb, wb = (w.alloc (.cells #[.slice A n c] 24)).alloc (.cells #[.slice none 0 0] 24) := ⟨_, rfl⟩
  have b : Below w.heap.size w wb := by rw [hwb]; exact (below_alloc w _).alloc (below_alloc w _).size _
  have hb6 : wb.heap[w.heap.size + 1]? = some (.cells #[.slice none 0 0] 24 (0, 0)) := by
    rw [hwb]
    have := heap_alloc_new (w.alloc (.cells #[.slice A n c] 24)) (.cells #[.slice none 0 0] 24)
    simpa using this
  have HB6 := Lib.hid hb6
  have HB := Lib.hid (show ∀ w1, Below wb.heap.size wb w1 → w1.cell? ⟨w.heap.size, 0, none⟩ = some (.slice A n c) ∧ w1.cell? ⟨w.heap.size + 1, 0, none⟩ = some (.slice none 0 0) from fun w1 h => box_cell2r (by rw [← hwb]; exact h))
  have HW := Lib.hid hwb
  have HSZ := Lib.hid (show w.heap.size + 1 < wb.heap.size by rw [hwb]; simp)
  have HQ := Lib.hid fun (w1 : World) (h : Below wb.heap.size wb w1) => refright_any A n c ns w1 ((hr.below b).below h) hl hn
  have HH := Lib.hid fun (w1 : World) (h : Below wb.heap.size wb w1) => refhas_any A n c ns who w1 ((hr.below b).below h) hl hn
  rw [hq] at HQ
  subst hkk
  have d1 := decide_eq_true hw
  clear hq hw
  clear hr hl hwb hb6
  go_enter Tryd.func8, Tryd.ntmps8
  go_wp2_with (first
    | (go_at_call 17; rw [← HW.out]; refine (HQ.out _ (Below.refl _ _)).mono ?_; rintro e w1 ⟨rfl, b1⟩; obtain ⟨k1, k2⟩ := HB.out _ b1; (have f2 := (errs_cell ((b1.block _ HSZ.out).trans HB6.out)).2))
    | (go_at_call 36; refine (HH.out _ b1).mono ?_; rintro e w2 ⟨rfl, rfl⟩))
  all_goals
    have q := World.cell?_setCell_same _ _ (.slice none 0 0) k2
    have B1 := below_then b b.size b1
    exact bodyPost_ret (v := .tuple #[.agg #[.slice none 0 0], .int .i64 1]) (by simp [results, Tryd.results8, go_sem, q]) rfl ⟨_, _, _, rfl, rfl, RI.nil _ _, B1.setCell (by simp) _⟩

set_option maxRecDepth 100000 in
set_option maxHeartbeats 1000000 in
theorem refchange_b41 (A : Option Addr) (n c : Nat) (ns : List Int) (kind who : Int) (w : World) (hr : RI w A ns) (hl : ns.length = n) (hn : n ≤ 100000000000000) (hq : rightB ns = true) (hkk : kind = 1) (hw : ¬ who < 1) (hw5 : 5 < who) :
    Calls Tryd.prog 8 #[.agg #[.slice A n c], .int .i64 kind, .int .i64 who] w (RefPost w (1, [])) := by
  obtain ⟨wb, hwb⟩ : ∃ wb, wb = (w.alloc (.cells #[.slice A n c] 24)).alloc (.cells #[.slice none 0 0] 24) := ⟨_, rfl⟩
  have b : Below w.heap.size w wb := by rw [hwb]; exact (below_alloc w _).alloc (below_alloc w _).size _
  have hb6 : wb.heap[w.heap.size + 1]? = some (.cells #[.slice none 0 0] 24 (0, 0)) := by
    rw [hwb]
    have := heap_alloc_new (w.alloc (.cells #[.slice A n c] 24)) (.cells #[.slice none 0 0] 24)
    simpa using this
  have HB6 := Lib.hid hb6
  have HB := Lib.hid (show ∀ w1, Below wb.heap.size wb w1 → w1.cell? ⟨w.heap.size, 0, none⟩ = some (.slice A n c) ∧ w1.cell? ⟨w.heap.size + 1, 0, none⟩ = some (.slice none 0 0) from fun w1 h => box_cell2r (by rw [← hwb]; exact h))
  have HW := Lib.hid hwb
  have HSZ := Lib.hid (show w.heap.size + 1 < wb.heap.size by rw [hwb]; simp)
  have HQ := Lib.hid fun (w1 : World) (h : Below wb.heap.size wb w1) => refright_any A n c ns w1 ((hr.below b).below h) hl hn
  have HH := Lib.hid fun (w1 : World) (h : Below wb.heap.size wb w1) => refhas_any A n c ns who w1 ((hr.below b).below h) hl hn
  rw [hq] at HQ
  subst hkk
  have d1 := decide_eq_false hw
  have d2 := decide_eq_true hw5
  clear hq hw hw5
  clear hr hl hwb hb6
  go_enter Tryd.func8, Tryd.ntmps8
  go_wp2_with (first
    | (go_at_call 17; rw [← HW.out]; refine (HQ.out _ (Below.refl _ _)).mono ?_; rintro e w1 ⟨rfl, b1⟩; obtain ⟨k1, k2⟩ := HB.out _ b1; (have f2 := (errs_cell ((b1.block _ HSZ.out).trans HB6.out)).2))
    | (go_at_call 36; refine (HH.out _ b1).mono ?_; rintro e w2 ⟨rfl, rfl⟩))
  all_goals
    have q := World.cell?_setCell_same _ _ (.slice none 0 0) k2
    have B1 := below_then b b.size b1
    exact bodyPost_ret (v := .tuple #[.agg #[.slice none 0 0], .int .i64 1]) (by simp [results, Tryd.results8, go_sem, q]) rfl ⟨_, _, _, rfl, rfl, RI.nil _ _, B1.setCell (by simp) _⟩

set_option maxRecDepth 100000 in
set_option maxHeartbeats 1000000 in
theorem refchange_b32 (A : Option Addr) (n c : Nat) (ns : List Int) (kind who : Int) (w : World) (hr : RI w A ns) (hl : ns.length = n) (hn : n ≤ 100000000000000) (hq : rightB ns = true) (hkk : kind = 2) (hw : who < 1) :
    Calls Tryd.prog 8 #[.agg #[.slice A n c], .int .i64 kind, .int .i64 who] w (RefPost w (1, [])) := by
  obtain ⟨wb, hwb⟩ : ∃ wb, wb = (w.alloc (.cells #[.slice A n c] 24)).alloc (.cells #[.slice none 0 0] 24) := ⟨_, rfl⟩
  have b : Below w.heap.size w wb := by rw [hwb]; exact (below_alloc w _).alloc (below_alloc w _).size _
  have hb6 : wb.heap[w.heap.size + 1]? = some (.cells #[.slice none 0 0] 24 (0, 0)) := by
    rw [hwb]
    have := heap_alloc_new (w.alloc (.cells #[.slice A n c] 24)) (.cells #[.slice none 0 0] 24)
    simpa using this
  have HB6 := Lib.hid hb6
  have HB := Lib.hid (show ∀ w1, Below wb.heap.size wb w1 → w1.cell? ⟨w.heap.size, 0, none⟩ = some (.slice A n c) ∧ w1.cell? ⟨w.heap.size + 1, 0, none⟩ = some (.slice none 0 0) from fun w1 h => box_cell2r (by rw [← hwb]; exact h))
  have HW := Lib.hid hwb
  have HSZ := Lib.hid (show w.heap.size + 1 < wb.heap.size by rw [hwb]; simp)
  have HQ := Lib.hid fun (w1 : World) (h : Below wb.heap.size wb w1) => refright_any A n c ns w1 ((hr.below b).below h) hl hn
  have HH := Lib.hid fun (w1 : World) (h : Below wb.heap.size wb w1) => refhas_any A n c ns who w1 ((hr.below b).below h) hl hn
  rw [hq] at HQ
  subst hkk
  have d1 := decide_eq_true hw
  clear hq hw
  clear hr hl hwb hb6
  go_enter Tryd.func8, Tryd.ntmps8
  go_wp2_with (first
    | (go_at_call 17; rw [← HW.out]; refine (HQ.out _ (Below.refl _ _)).mono ?_; rintro e w1 ⟨rfl, b1⟩; obtain ⟨k1, k2⟩ := HB.out _ b1; (have f2 := (errs_cell ((b1.block _ HSZ.out).trans HB6.out)).2))
    | (go_at_call 36; refine (HH.out _ b1).mono ?_; rintro e w2 ⟨rfl, rfl⟩))
  all_goals
    have q := World.cell?_setCell_same _ _ (.slice none 0 0) k2
    have B1 := below_then b b.size b1
    exact bodyPost_ret (v := .tuple #[.agg #[.slice none 0 0], .int .i64 1]) (by simp [results, Tryd.results8, go_sem, q]) rfl ⟨_, _, _, rfl, rfl, RI.nil _ _, B1.setCell (by simp) _⟩

set_option maxRecDepth 100000 in
set_option maxHeartbeats 1000000 in
theorem refchange_b42 (A : Option Addr) (n c : Nat) (ns : List Int) (kind who : Int) (w : World) (hr : RI w A ns) (hl : ns.length = n) (hn : n ≤ 100000000000000) (hq : rightB ns = true) (hkk : kind = 2) (hw : ¬ who < 1) (hw5 : 5 < who) :
    Calls Tryd.prog 8 #[.agg #[.slice A n c], .int .i64 kind, .int .i64 who] w (RefPost w (1, [])) := by
  obtain ⟨wb, hwb⟩ : ∃ wb, wb = (w.alloc (.cells #[.slice A n c] 24)).alloc (.cells #[.slice none 0 0] 24) := ⟨_, rfl⟩
  have b : Below w.heap.size w wb := by rw [hwb]; exact (below_alloc w _).alloc (below_alloc w _).size _
  have hb6 : wb.heap[w.heap.size + 1]? = some (.cells #[.slice none 0 0] 24 (0, 0)) := by
    rw [hwb]
    have := heap_alloc_new (w.alloc (.cells #[.slice A n c] 24)) (.cells #[.slice none 0 0] 24)
    simpa using this
  have HB6 := Lib.hid hb6
  have HB := Lib.hid (show ∀ w1, Below wb.heap.size wb w1 → w1.cell? ⟨w.heap.size, 0, none⟩ = some (.slice A n c) ∧ w1.cell? ⟨w.heap.size + 1, 0, none⟩ = some (.slice none 0 0) from fun w1 h => box_cell2r (by rw [← hwb]; exact h))
  have HW := Lib.hid hwb
  have HSZ := Lib.hid (show w.heap.size + 1 < wb.heap.size by rw [hwb]; simp)
  have HQ := Lib.hid fun (w1 : World) (h : Below wb.heap.size wb w1) => refright_any A n c ns w1 ((hr.below b).below h) hl hn
  have HH := Lib.hid fun (w1 : World) (h : Below wb.heap.size wb w1) => refhas_any A n c ns who w1 ((hr.below b).below h) hl hn
  rw [hq] at HQ
  subst hkk
  have d1 := decide_eq_false hw
  have d2 := decide_eq_true hw5
  clear hq hw hw5
  clear hr hl hwb hb6
  go_enter Tryd.func8, Tryd.ntmps8
  go_wp2_with (first
    | (go_at_call 17; rw [← HW.out]; refine (HQ.out _ (Below.refl _ _)).mono ?_; rintro e w1 ⟨rfl, b1⟩; obtain ⟨k1, k2⟩ := HB.out _ b1; (have f2 := (errs_cell ((b1.block _ HSZ.out).trans HB6.out)).2))
    | (go_at_call 36; refine (HH.out _ b1).mono ?_; rintro e w2 ⟨rfl, rfl⟩))
  all_goals
    have q := World.cell?_setCell_same _ _ (.slice none 0 0) k2
    have B1 := below_then b b.size b1
    exact bodyPost_ret (v := .tuple #[.agg #[.slice none 0 0], .int .i64 1]) (by simp [results, Tryd.results8, go_sem, q]) rfl ⟨_, _, _, rfl, rfl, RI.nil _ _, B1.setCell (by simp) _⟩

set_option maxRecDepth 100000 in
set_option maxHeartbeats 1000000 in
theorem refchange_c1 (A : Option Addr) (n c : Nat) (ns : List Int) (kind who : Int) (w : World) (hr : RI w A ns) (hl : ns.length = n) (hn : n ≤ 100000000000000) (hq : rightB ns = true) (hkk : kind = 1) (hw : ¬ who < 1) (hw5 : ¬ 5 < who) (his : ns.contains who = true) :
    Calls Tryd.prog 8 #[.agg #[.slice A n c], .int .i64 kind, .int .i64 who] w (RefPost w (93, [])) := by
  obtain ⟨wb, hwb⟩ : ∃ wb, wb = (w.alloc (.cells #[.slice A n c] 24)).alloc (.cells #[.slice none 0 0] 24) := ⟨_, rfl⟩
  have b : Below w.heap.size w wb := by rw [hwb]; exact (below_alloc w _).alloc (below_alloc w _).size _
  have hb6 : wb.heap[w.heap.size + 1]? = some (.cells #[.slice none 0 0] 24 (0, 0)) := by
    rw [hwb]
    have := heap_alloc_new (w.alloc (.cells #[.slice A n c] 24)) (.cells #[.slice none 0 0] 24)
    simpa using this
  have HB6 := Lib.hid hb6
  have HB := Lib.hid (show ∀ w1, Below wb.heap.size wb w1 → w1.cell? ⟨w.heap.size, 0, none⟩ = some (.slice A n c) ∧ w1.cell? ⟨w.heap.size + 1, 0, none⟩ = some (.slice none 0 0) from fun w1 h => box_cell2r (by rw [← hwb]; exact h))
  have HW := Lib.hid hwb
  have HSZ := Lib.hid (show w.heap.size + 1 < wb.heap.size by rw [hwb]; simp)
  have HQ := Lib.hid fun (w1 : World) (h : Below wb.heap.size wb w1) => refright_any A n c ns w1 ((hr.below b).below h) hl hn
  have HH := Lib.hid fun (w1 : World) (h : Below wb.heap.size wb w1) => refhas_any A n c ns who w1 ((hr.below b).below h) hl hn
  rw [hq] at HQ
  rw [his] at HH
  subst hkk
  have d1 := decide_eq_false hw
  have d2 := decide_eq_false hw5
  clear hq hw hw5 his
  clear hr hl hwb hb6
  go_enter Tryd.func8, Tryd.ntmps8
  go_wp2_with (first
    | (go_at_call 17; rw [← HW.out]; refine (HQ.out _ (Below.refl _ _)).mono ?_; rintro e w1 ⟨rfl, b1⟩; obtain ⟨k1, k2⟩ := HB.out _ b1; (have f2 := (errs_cell ((b1.block _ HSZ.out).trans HB6.out)).2))
    | (go_at_call 36; refine (HH.out _ b1).mono ?_; rintro e w2 ⟨rfl, rfl⟩))
  all_goals
    have q := World.cell?_setCell_same _ _ (.slice none 0 0) k2
    have B1 := below_then b b.size b1
    exact bodyPost_ret (v := .tuple #[.agg #[.slice none 0 0], .int .i64 93]) (by simp [results, Tryd.results8, go_sem, q]) rfl ⟨_, _, _, rfl, rfl, RI.nil _ _, B1.setCell (by simp) _⟩

set_option maxRecDepth 100000 in
set_option maxHeartbeats 1000000 in
theorem refchange_c2 (A : Option Addr) (n c : Nat) (ns : List Int) (kind who : Int) (w : World) (hr : RI w A ns) (hl : ns.length = n) (hn : n ≤ 100000000000000) (hq : rightB ns = true) (hkk : kind = 2) (hw : ¬ who < 1) (hw5 : ¬ 5 < who) (his : ns.contains who = false) :
    Calls Tryd.prog 8 #[.agg #[.slice A n c], .int .i64 kind, .int .i64 who] w (RefPost w (93, [])) := by
  obtain ⟨wb, hwb⟩ : ∃ wb, wb = (w.alloc (.cells #[.slice A n c] 24)).alloc (.cells #[.slice none 0 0] 24) := ⟨_, rfl⟩
  have b : Below w.heap.size w wb := by rw [hwb]; exact (below_alloc w _).alloc (below_alloc w _).size _
  have hb6 : wb.heap[w.heap.size + 1]? = some (.cells #[.slice none 0 0] 24 (0, 0)) := by
    rw [hwb]
    have := heap_alloc_new (w.alloc (.cells #[.slice A n c] 24)) (.cells #[.slice none 0 0] 24)
    simpa using this
  have HB6 := Lib.hid hb6
  have HB := Lib.hid (show ∀ w1, Below wb.heap.size wb w1 → w1.cell? ⟨w.heap.size, 0, none⟩ = some (.slice A n c) ∧ w1.cell? ⟨w.heap.size + 1, 0, none⟩ = some (.slice none 0 0) from fun w1 h => box_cell2r (by rw [← hwb]; exact h))
  have HW := Lib.hid hwb
  have HSZ := Lib.hid (show w.heap.size + 1 < wb.heap.size by rw [hwb]; simp)
  have HQ := Lib.hid fun (w1 : World) (h : Below wb.heap.size wb w1) => refright_any A n c ns w1 ((hr.below b).below h) hl hn
  have HH := Lib.hid fun (w1 : World) (h : Below wb.heap.size wb w1) => refhas_any A n c ns who w1 ((hr.below b).below h) hl hn
  rw [hq] at HQ
  rw [his] at HH
  subst hkk
  have d1 := decide_eq_false hw
  have d2 := decide_eq_false hw5
  clear hq hw hw5 his
  clear hr hl hwb hb6
  go_enter Tryd.func8, Tryd.ntmps8
  go_wp2_with (first
    | (go_at_call 17; rw [← HW.out]; refine (HQ.out _ (Below.refl _ _)).mono ?_; rintro e w1 ⟨rfl, b1⟩; obtain ⟨k1, k2⟩ := HB.out _ b1; (have f2 := (errs_cell ((b1.block _ HSZ.out).trans HB6.out)).2))
    | (go_at_call 36; refine (HH.out _ b1).mono ?_; rintro e w2 ⟨rfl, rfl⟩))
  all_goals
    have q := World.cell?_setCell_same _ _ (.slice none 0 0) k2
    have B1 := below_then b b.size b1
    exact bodyPost_ret (v := .tuple #[.agg #[.slice none 0 0], .int .i64 93]) (by simp [results, Tryd.results8, go_sem, q]) rfl ⟨_, _, _, rfl, rfl, RI.nil _ _, B1.setCell (by simp) _⟩

set_option maxRecDepth 100000 in
set_option maxHeartbeats 1000000 in
theorem refchange_c3 (A : Option Addr) (n c : Nat) (ns : List Int) (kind who : Int) (w : World) (hr : RI w A ns) (hl : ns.length = n) (hn : n ≤ 100000000000000) (hq : rightB ns = true) (hkk : kind = 2) (hw : ¬ who < 1) (hw5 : ¬ 5 < who) (his : ns.contains who = true) (h1 : n = 1) :
    Calls Tryd.prog 8 #[.agg #[.slice A n c], .int .i64 kind, .int .i64 who] w (RefPost w (93, [])) := by
  obtain ⟨wb, hwb⟩ : ∃ wb, wb = (w.alloc (.cells #[.slice A n c] 24)).alloc (.cells #[.slice none 0 0] 24) := ⟨_, rfl⟩
  have b : Below w.heap.size w wb := by rw [hwb]; exact (below_alloc w _).alloc (below_alloc w _).size _
  have hb6 : wb.heap[w.heap.size + 1]? = some (.cells #[.slice none 0 0] 24 (0, 0)) := by
    rw [hwb]
    have := heap_alloc_new (w.alloc (.cells #[.slice A n c] 24)) (.cells #[.slice none 0 0] 24)
    simpa using this
  have HB6 := Lib.hid hb6
  have HB := Lib.hid (show ∀ w1, Below wb.heap.size wb w1 → w1.cell? ⟨w.heap.size, 0, none⟩ = some (.slice A n c) ∧ w1.cell? ⟨w.heap.size + 1, 0, none⟩ = some (.slice none 0 0) from fun w1 h => box_cell2r (by rw [← hwb]; exact h))
  have HW := Lib.hid hwb
  have HSZ := Lib.hid (show w.heap.size + 1 < wb.heap.size by rw [hwb]; simp)
  have HQ := Lib.hid fun (w1 : World) (h : Below wb.heap.size wb w1) => refright_any A n c ns w1 ((hr.below b).below h) hl hn
  have HH := Lib.hid fun (w1 : World) (h : Below wb.heap.size wb w1) => refhas_any A n c ns who w1 ((hr.below b).below h) hl hn
  rw [hq] at HQ
  rw [his] at HH
  subst hkk
  have d1 := decide_eq_false hw
  have d2 := decide_eq_false hw5
  clear hq hw hw5 his
  have d3 : ((n : Int) == 1) = true := by rw [h1]; rfl
  clear h1
  clear hr hl hwb hb6
  go_enter Tryd.func8, Tryd.ntmps8
  go_wp2_with (first
    | (go_at_call 17; rw [← HW.out]; refine (HQ.out _ (Below.refl _ _)).mono ?_; rintro e w1 ⟨rfl, b1⟩; obtain ⟨k1, k2⟩ := HB.out _ b1; (have f2 := (errs_cell ((b1.block _ HSZ.out).trans HB6.out)).2))
    | (go_at_call 36; refine (HH.out _ b1).mono ?_; rintro e w2 ⟨rfl, rfl⟩))
  all_goals
    have q := World.cell?_setCell_same _ _ (.slice none 0 0) k2
    have B1 := below_then b b.size b1
    exact bodyPost_ret (v := .tuple #[.agg #[.slice none 0 0], .int .i64 93]) (by simp [results, Tryd.results8, go_sem, q]) rfl ⟨_, _, _, rfl, rfl, RI.nil _ _, B1.setCell (by simp) _⟩

theorem refcopied_any (A : Option Addr) (n c : Nat) (ns : List Int) (w : World) : True := trivial

set_option maxRecDepth 100000 in
set_option maxHeartbeats 2000000 in
theorem refchange_g1 (A : Option Addr) (n c : Nat) (ns : List Int) (who : Int) (w : World) (hr : RI w A ns) (hl : ns.length = n) (hn : n ≤ 100000000000000) (hq : rightB ns = true) (hw : ¬ who < 1) (hw5 : ¬ 5 < who) (his : ns.contains who = false) :
    Calls Tryd.prog 8 #[.agg #[.slice A n c], .int .i64 1, .int .i64 who] w (RefPost w (0, outT ns 1 who 5)) := by
  obtain ⟨wb, hwb⟩ : ∃ wb, wb = (w.alloc (.cells #[.slice A n c] 24)).alloc (.cells #[.slice none 0 0] 24) := ⟨_, rfl⟩
  have b : Below w.heap.size w wb := by rw [hwb]; exact (below_alloc w _).alloc (below_alloc w _).size _
  have hb6 : wb.heap[w.heap.size + 1]? = some (.cells #[.slice none 0 0] 24 (0, 0)) := by
    rw [hwb]
    have := heap_alloc_new (w.alloc (.cells #[.slice A n c] 24)) (.cells #[.slice none 0 0] 24)
    simpa using this
  have HB6 := Lib.hid hb6
  have HB := Lib.hid (show ∀ w1, Below wb.heap.size wb w1 → w1.cell? ⟨w.heap.size, 0, none⟩ = some (.slice A n c) ∧ w1.cell? ⟨w.heap.size + 1, 0, none⟩ = some (.slice none 0 0) from fun w1 h => box_cell2r (by rw [← hwb]; exact h))
  have HW := Lib.hid hwb
  have hsw : w.heap.size + 1 < wb.heap.size := by rw [hwb]; simp
  have HSZ := Lib.hid hsw
  have HQ := Lib.hid fun (w1 : World) (h : Below wb.heap.size wb w1) => refright_any A n c ns w1 ((hr.below b).below h) hl hn
  have HH := Lib.hid fun (w1 : World) (h : Below wb.heap.size wb w1) => refhas_any A n c ns who w1 ((hr.below b).below h) hl hn
  have HK := Lib.hid fun (w1 : World) (h : Below wb.heap.size wb w1) (x : Int) (o : Bool) (ho : ns.contains x = o) => (show Calls Tryd.prog 36 #[.slice A n c, .int .i64 x] w1 fun e w' => e = .returned (.bool o) ∧ w' = w1 from by rw [← ho]; exact refhas_any A n c ns x w1 ((hr.below b).below h) hl hn)
  rw [hq] at HQ
  rw [his] at HH
  have d1 := decide_eq_false hw
  have d2 := decide_eq_false hw5
  clear hr hl hwb hb6 hq hw hw5 his
  go_enter Tryd.func8, Tryd.ntmps8
  go_wp2_with (first
    | (go_at_call 17; rw [← HW.out]; refine (HQ.out _ (Below.refl _ _)).mono ?_; rintro e w1 ⟨rfl, b1⟩; obtain ⟨k1, k2⟩ := HB.out _ b1; (have f2 := (errs_cell ((b1.block _ HSZ.out).trans HB6.out)).2))
    | (go_at_call 36; refine (HH.out _ b1).mono ?_; rintro e w2 ⟨rfl, hw2⟩; obtain rfl : w1 = w2 := hw2.symm))
  clear k1 k2 f2
  have hs1 := b1.size
  go_loopg [11] 5 (fun q ki wr => ∃ (k : Nat) (V : Option Addr) (m cv : Nat), q = 5 - k ∧ k ≤ 5 ∧ ki = .int .i64 ((k : Int) + 1) ∧ m ≤ k ∧ wr.heap[w1.heap.size]? = some (.cells #[.slice V m cv] 24 (0, 0)) ∧ wr.ownsRow (w1.heap.size + 1) 3 1 (.slice V m cv) m (iv (outT ns 1 who k)) ∧ Below w1.heap.size w1 wr)
  case atStart => exact ⟨0, none, 0, 0, by omega, by omega, by go_num, by omega, heap_alloc_new w1 _, ⟨rfl, .inl ⟨rfl, rfl⟩⟩, below_alloc _ _⟩
  case round =>
    obtain ⟨k, V, m, cv, hm, hk, rfl, hmk, hblk, own, bel⟩ := hrel
    obtain ⟨k1, k2⟩ := HB.out _ (below_then b1 b1.size bel)
    obtain ⟨q10, f10⟩ := errs_cell hblk
    have hsz1 : w1.heap.size + 1 ≤ wr.heap.size := (Array.getElem?_eq_some_iff.1 hblk).1
    have HBLK := Lib.hid hblk
    clear hblk
    by_cases hkl : k < 5
    · have hk1 : (k : Int) + 1 ≤ 5 := by omega
      have hblk3 : ∀ {w3 : World} {o : Obj}, (wr.alloc o).grownBy w3 (Value.slice V m cv).ownBlock → w3.heap[w1.heap.size]? = some (.cells #[.slice V m cv] 24 (0, 0)) := fun {w3 o} g => by
        rw [g.block _ (by simp; omega) (fun e => by have := (own.lt _ e.symm).1; omega), (below_alloc wr o).block _ (by omega)]
        exact HBLK.out
      have HREL : Hid (∀ (V3 : Option Addr) (c3 : Nat) (w3 : World) (o : Obj), outT ns 1 who (k + 1) = outT ns 1 who k ++ [(k : Int) + 1] → w3.ownsRow (w1.heap.size + 1) 3 1 (.slice V3 (m + 1) c3) (m + 1) (iv (outT ns 1 who k) ++ [.int .i64 ((k : Int) + 1)]) → (wr.alloc o).grownBy w3 (Value.slice V m cv).ownBlock →
          (w3.setCell ⟨w1.heap.size, 0, none⟩ (.slice V3 (m + 1) c3)).heap[w1.heap.size]? = some (.cells #[.slice V3 (m + 1) c3] 24 (0, 0)) ∧ (w3.setCell ⟨w1.heap.size, 0, none⟩ (.slice V3 (m + 1) c3)).ownsRow (w1.heap.size + 1) 3 1 (.slice V3 (m + 1) c3) (m + 1) (iv (outT ns 1 who (k + 1))) ∧ Below w1.heap.size w1 (w3.setCell ⟨w1.heap.size, 0, none⟩ (.slice V3 (m + 1) c3))) := Lib.hid fun V3 c3 w3 o hT o3 g3 => by
        refine ⟨set_cell1 (hblk3 g3), ?_, ?_⟩
        · rw [hT, iv_append]
          refine own_stepq o3 fun j hj => heap_setCell_other _ _ _ _ ?_
          have := (o3.lt j hj).1
          show j ≠ w1.heap.size
          omega
        · exact ((bel.alloc bel.size _).grown g3 (bel.alloc bel.size _).size (fun j hj => by have := (own.lt j hj).1; omega)).setCell (by simp) _
      obtain ⟨o, ho⟩ : ∃ o, o = ns.contains ((k : Int) + 1) := ⟨_, rfl⟩
      have HO := Lib.hid ho.symm
      have BK := Lib.hid (below_then b1 b1.size bel)
      clear ho
      by_cases hkw : (k : Int) + 1 = who
      · have e1 : ((k : Int) + 1 != who) = false := by simp [hkw]
        have e2 : ((k : Int) + 1 == who) = true := by simp [hkw]
        have HKW := Lib.hid hkw
        clear hkw
        cases o
        all_goals
          have HT := Lib.hid (show outT ns 1 who (k + 1) = outT ns 1 who k ++ [(k : Int) + 1] by rw [outT, if_pos (.inr ⟨HKW.out, rfl⟩)])
          go_wp2_with (first | (go_at_call 36; refine (HK.out _ BK.out _ _ HO.out).mono ?_; rintro e w2 ⟨rfl, hw2⟩; obtain rfl : wr = w2 := hw2.symm) | (at_builtin; refine wpList_append_one wr rfl (.tmp 77) (.tmp 79) 22 rfl (w1.heap.size + 1) 3 (.int .i64 0) 8 Tryd.underlying22 info_int rfl (.slice V m cv) m (iv (outT ns 1 who k)) rfl own (.int .i64 ((k : Int) + 1)) rfl rfl (by unfold maxLen; omega) (by omega) hsz1 ?_; intro v3 w3 own3 hg3; (have hb3 := hblk3 hg3); obtain ⟨q3, f3⟩ := errs_cell hb3; obtain ⟨V3, c3, rfl, -, -⟩ := own_shape own3))
          go_roundg (5 - (k + 1))
          case measure => omega
          case rel =>
            obtain ⟨r1, r2, r3⟩ := HREL.out V3 c3 w3 _ HT.out own3 hg3
            exact ⟨k + 1, V3, m + 1, c3, rfl, by omega, by go_num, by omega, r1, r2, r3⟩
      · have e1 : ((k : Int) + 1 != who) = true := by simp [hkw]
        have e2 : ((k : Int) + 1 == who) = false := by simp [hkw]
        have HKW := Lib.hid hkw
        clear hkw
        cases o with
        | true =>
          have HT := Lib.hid (show outT ns 1 who (k + 1) = outT ns 1 who k ++ [(k : Int) + 1] by rw [outT, if_pos (.inl ⟨HO.out, HKW.out⟩)])
          go_wp2_with (first | (go_at_call 36; refine (HK.out _ BK.out _ _ HO.out).mono ?_; rintro e w2 ⟨rfl, hw2⟩; obtain rfl : wr = w2 := hw2.symm) | (at_builtin; refine wpList_append_one wr rfl (.tmp 77) (.tmp 79) 22 rfl (w1.heap.size + 1) 3 (.int .i64 0) 8 Tryd.underlying22 info_int rfl (.slice V m cv) m (iv (outT ns 1 who k)) rfl own (.int .i64 ((k : Int) + 1)) rfl rfl (by unfold maxLen; omega) (by omega) hsz1 ?_; intro v3 w3 own3 hg3; (have hb3 := hblk3 hg3); obtain ⟨q3, f3⟩ := errs_cell hb3; obtain ⟨V3, c3, rfl, -, -⟩ := own_shape own3))
          go_roundg (5 - (k + 1))
          case measure => omega
          case rel =>
            obtain ⟨r1, r2, r3⟩ := HREL.out V3 c3 w3 _ HT.out own3 hg3
            exact ⟨k + 1, V3, m + 1, c3, rfl, by omega, by go_num, by omega, r1, r2, r3⟩
        | false =>
          have HT := Lib.hid (show outT ns 1 who (k + 1) = outT ns 1 who k ++ [] by rw [outT, if_neg (by rintro (h | h); exact absurd h.1 (by rw [HO.out]; decide); exact HKW.out h.1)])
          go_wp2_with (first | (go_at_call 36; refine (HK.out _ BK.out _ _ HO.out).mono ?_; rintro e w2 ⟨rfl, hw2⟩; obtain rfl : wr = w2 := hw2.symm))
          go_roundg (5 - (k + 1))
          case measure => omega
          case rel =>
            have hT := HT.out
            rw [List.append_nil] at hT
            exact ⟨k + 1, V, m, cv, rfl, by omega, by go_num, by omega, HBLK.out, by rw [hT]; exact own, bel⟩
    · obtain rfl : k = 5 := by omega
      have f6 := (errs_cell (((below_then b1 b1.size bel).block _ HSZ.out).trans HB6.out)).2
      go_wp2_with fail
      have q := World.cell?_setCell_same _ _ (.slice V m cv) k2
      have B1 := below_then b b.size (below_then b1 b1.size bel)
      refine bodyPost_ret (v := .tuple #[.agg #[.slice V m cv], .int .i64 0]) (by simp [results, Tryd.results8, go_sem, q]) rfl ⟨V, m, cv, rfl, by simpa using own.1, ?_, B1.setCell (by simp) _⟩
      refine (RI.own own).step fun a ha h0 => heap_setCell_other _ _ _ _ ?_
      subst ha
      obtain ⟨g, cap, hV, -, hg, -⟩ := own_head own (by have := own.1; simp at this; omega)
      cases hV
      simp only
      omega

set_option maxRecDepth 100000 in
set_option maxHeartbeats 2000000 in
theorem refchange_g2 (A : Option Addr) (n c : Nat) (ns : List Int) (who : Int) (w : World) (hr : RI w A ns) (hl : ns.length = n) (hn : n ≤ 100000000000000) (hq : rightB ns = true) (hw : ¬ who < 1) (hw5 : ¬ 5 < who) (his : ns.contains who = true) (h1 : n ≠ 1) :
    Calls Tryd.prog 8 #[.agg #[.slice A n c], .int .i64 2, .int .i64 who] w (RefPost w (0, outT ns 2 who 5)) := by
  obtain ⟨wb, hwb⟩ : ∃ wb, wb = (w.alloc (.cells #[.slice A n c] 24)).alloc (.cells #[.slice none 0 0] 24) := ⟨_, rfl⟩
  have b : Below w.heap.size w wb := by rw [hwb]; exact (below_alloc w _).alloc (below_alloc w _).size _
  have hb6 : wb.heap[w.heap.size + 1]? = some (.cells #[.slice none 0 0] 24 (0, 0)) := by
    rw [hwb]
    have := heap_alloc_new (w.alloc (.cells #[.slice A n c] 24)) (.cells #[.slice none 0 0] 24)
    simpa using this
  have HB6 := Lib.hid hb6
  have HB := Lib.hid (show ∀ w1, Below wb.heap.size wb w1 → w1.cell? ⟨w.heap.size, 0, none⟩ = some (.slice A n c) ∧ w1.cell? ⟨w.heap.size + 1, 0, none⟩ = some (.slice none 0 0) from fun w1 h => box_cell2r (by rw [← hwb]; exact h))
  have HW := Lib.hid hwb
  have hsw : w.heap.size + 1 < wb.heap.size := by rw [hwb]; simp
  have HSZ := Lib.hid hsw
  have HQ := Lib.hid fun (w1 : World) (h : Below wb.heap.size wb w1) => refright_any A n c ns w1 ((hr.below b).below h) hl hn
  have HH := Lib.hid fun (w1 : World) (h : Below wb.heap.size wb w1) => refhas_any A n c ns who w1 ((hr.below b).below h) hl hn
  have HK := Lib.hid fun (w1 : World) (h : Below wb.heap.size wb w1) (x : Int) (o : Bool) (ho : ns.contains x = o) => (show Calls Tryd.prog 36 #[.slice A n c, .int .i64 x] w1 fun e w' => e = .returned (.bool o) ∧ w' = w1 from by rw [← ho]; exact refhas_any A n c ns x w1 ((hr.below b).below h) hl hn)
  rw [hq] at HQ
  rw [his] at HH
  have d1 := decide_eq_false hw
  have d2 := decide_eq_false hw5
  have d3 : ((n : Int) == 1) = false := beq_eq_false_iff_ne.2 (by omega)
  clear h1
  clear hr hl hwb hb6 hq hw hw5 his
  go_enter Tryd.func8, Tryd.ntmps8
  go_wp2_with (first
    | (go_at_call 17; rw [← HW.out]; refine (HQ.out _ (Below.refl _ _)).mono ?_; rintro e w1 ⟨rfl, b1⟩; obtain ⟨k1, k2⟩ := HB.out _ b1; (have f2 := (errs_cell ((b1.block _ HSZ.out).trans HB6.out)).2))
    | (go_at_call 36; refine (HH.out _ b1).mono ?_; rintro e w2 ⟨rfl, hw2⟩; obtain rfl : w1 = w2 := hw2.symm))
  clear k1 k2 f2
  have hs1 := b1.size
  go_loopg [11] 5 (fun q ki wr => ∃ (k : Nat) (V : Option Addr) (m cv : Nat), q = 5 - k ∧ k ≤ 5 ∧ ki = .int .i64 ((k : Int) + 1) ∧ m ≤ k ∧ wr.heap[w1.heap.size]? = some (.cells #[.slice V m cv] 24 (0, 0)) ∧ wr.ownsRow (w1.heap.size + 1) 3 1 (.slice V m cv) m (iv (outT ns 2 who k)) ∧ Below w1.heap.size w1 wr)
  case atStart => exact ⟨0, none, 0, 0, by omega, by omega, by go_num, by omega, heap_alloc_new w1 _, ⟨rfl, .inl ⟨rfl, rfl⟩⟩, below_alloc _ _⟩
  case round =>
    obtain ⟨k, V, m, cv, hm, hk, rfl, hmk, hblk, own, bel⟩ := hrel
    obtain ⟨k1, k2⟩ := HB.out _ (below_then b1 b1.size bel)
    obtain ⟨q10, f10⟩ := errs_cell hblk
    have hsz1 : w1.heap.size + 1 ≤ wr.heap.size := (Array.getElem?_eq_some_iff.1 hblk).1
    have HBLK := Lib.hid hblk
    clear hblk
    by_cases hkl : k < 5
    · have hk1 : (k : Int) + 1 ≤ 5 := by omega
      have hblk3 : ∀ {w3 : World} {o : Obj}, (wr.alloc o).grownBy w3 (Value.slice V m cv).ownBlock → w3.heap[w1.heap.size]? = some (.cells #[.slice V m cv] 24 (0, 0)) := fun {w3 o} g => by
        rw [g.block _ (by simp; omega) (fun e => by have := (own.lt _ e.symm).1; omega), (below_alloc wr o).block _ (by omega)]
        exact HBLK.out
      have HREL : Hid (∀ (V3 : Option Addr) (c3 : Nat) (w3 : World) (o : Obj), outT ns 2 who (k + 1) = outT ns 2 who k ++ [(k : Int) + 1] → w3.ownsRow (w1.heap.size + 1) 3 1 (.slice V3 (m + 1) c3) (m + 1) (iv (outT ns 2 who k) ++ [.int .i64 ((k : Int) + 1)]) → (wr.alloc o).grownBy w3 (Value.slice V m cv).ownBlock →
          (w3.setCell ⟨w1.heap.size, 0, none⟩ (.slice V3 (m + 1) c3)).heap[w1.heap.size]? = some (.cells #[.slice V3 (m + 1) c3] 24 (0, 0)) ∧ (w3.setCell ⟨w1.heap.size, 0, none⟩ (.slice V3 (m + 1) c3)).ownsRow (w1.heap.size + 1) 3 1 (.slice V3 (m + 1) c3) (m + 1) (iv (outT ns 2 who (k + 1))) ∧ Below w1.heap.size w1 (w3.setCell ⟨w1.heap.size, 0, none⟩ (.slice V3 (m + 1) c3))) := Lib.hid fun V3 c3 w3 o hT o3 g3 => by
        refine ⟨set_cell1 (hblk3 g3), ?_, ?_⟩
        · rw [hT, iv_append]
          refine own_stepq o3 fun j hj => heap_setCell_other _ _ _ _ ?_
          have := (o3.lt j hj).1
          show j ≠ w1.heap.size
          omega
        · exact ((bel.alloc bel.size _).grown g3 (bel.alloc bel.size _).size (fun j hj => by have := (own.lt j hj).1; omega)).setCell (by simp) _
      obtain ⟨o, ho⟩ : ∃ o, o = ns.contains ((k : Int) + 1) := ⟨_, rfl⟩
      have HO := Lib.hid ho.symm
      have BK := Lib.hid (below_then b1 b1.size bel)
      clear ho
      by_cases hkw : (k : Int) + 1 = who
      · have e1 : ((k : Int) + 1 != who) = false := by simp [hkw]
        have e2 : ((k : Int) + 1 == who) = true := by simp [hkw]
        have HKW := Lib.hid hkw
        clear hkw
        cases o
        all_goals
          have HT := Lib.hid (show outT ns 2 who (k + 1) = outT ns 2 who k ++ [] by rw [outT, if_neg (by rintro (h | h); exact h.2 HKW.out; exact absurd h.2 (by decide))])
          go_wp2_with (first | (go_at_call 36; refine (HK.out _ BK.out _ _ HO.out).mono ?_; rintro e w2 ⟨rfl, hw2⟩; obtain rfl : wr = w2 := hw2.symm))
          go_roundg (5 - (k + 1))
          case measure => omega
          case rel =>
            have hT := HT.out
            rw [List.append_nil] at hT
            exact ⟨k + 1, V, m, cv, rfl, by omega, by go_num, by omega, HBLK.out, by rw [hT]; exact own, bel⟩
      · have e1 : ((k : Int) + 1 != who) = true := by simp [hkw]
        have e2 : ((k : Int) + 1 == who) = false := by simp [hkw]
        have HKW := Lib.hid hkw
        clear hkw
        cases o with
        | true =>
          have HT := Lib.hid (show outT ns 2 who (k + 1) = outT ns 2 who k ++ [(k : Int) + 1] by rw [outT, if_pos (.inl ⟨HO.out, HKW.out⟩)])
          go_wp2_with (first | (go_at_call 36; refine (HK.out _ BK.out _ _ HO.out).mono ?_; rintro e w2 ⟨rfl, hw2⟩; obtain rfl : wr = w2 := hw2.symm) | (at_builtin; refine wpList_append_one wr rfl (.tmp 77) (.tmp 79) 22 rfl (w1.heap.size + 1) 3 (.int .i64 0) 8 Tryd.underlying22 info_int rfl (.slice V m cv) m (iv (outT ns 2 who k)) rfl own (.int .i64 ((k : Int) + 1)) rfl rfl (by unfold maxLen; omega) (by omega) hsz1 ?_; intro v3 w3 own3 hg3; (have hb3 := hblk3 hg3); obtain ⟨q3, f3⟩ := errs_cell hb3; obtain ⟨V3, c3, rfl, -, -⟩ := own_shape own3))
          go_roundg (5 - (k + 1))
          case measure => omega
          case rel =>
            obtain ⟨r1, r2, r3⟩ := HREL.out V3 c3 w3 _ HT.out own3 hg3
            exact ⟨k + 1, V3, m + 1, c3, rfl, by omega, by go_num, by omega, r1, r2, r3⟩
        | false =>
          have HT := Lib.hid (show outT ns 2 who (k + 1) = outT ns 2 who k ++ [] by rw [outT, if_neg (by rintro (h | h); exact absurd h.1 (by rw [HO.out]; decide); exact HKW.out h.1)])
          go_wp2_with (first | (go_at_call 36; refine (HK.out _ BK.out _ _ HO.out).mono ?_; rintro e w2 ⟨rfl, hw2⟩; obtain rfl : wr = w2 := hw2.symm))
          go_roundg (5 - (k + 1))
          case measure => omega
          case rel =>
            have hT := HT.out
            rw [List.append_nil] at hT
            exact ⟨k + 1, V, m, cv, rfl, by omega, by go_num, by omega, HBLK.out, by rw [hT]; exact own, bel⟩
    · obtain rfl : k = 5 := by omega
      have f6 := (errs_cell (((below_then b1 b1.size bel).block _ HSZ.out).trans HB6.out)).2
      go_wp2_with fail
      have q := World.cell?_setCell_same _ _ (.slice V m cv) k2
      have B1 := below_then b b.size (below_then b1 b1.size bel)
      refine bodyPost_ret (v := .tuple #[.agg #[.slice V m cv], .int .i64 0]) (by simp [results, Tryd.results8, go_sem, q]) rfl ⟨V, m, cv, rfl, by simpa using own.1, ?_, B1.setCell (by simp) _⟩
      refine (RI.own own).step fun a ha h0 => heap_setCell_other _ _ _ _ ?_
      subst ha
      obtain ⟨g, cap, hV, -, hg, -⟩ := own_head own (by have := own.1; simp at this; omega)
      cases hV
      simp only
      omega

theorem refchange_any (A : Option Addr) (n c : Nat) (ns : List Int) (kind who : Int) (w : World) (hr : RI w A ns) (hl : ns.length = n) (hn : n ≤ 100000000000000) :
    Calls Tryd.prog 8 #[.agg #[.slice A n c], .int .i64 kind, .int .i64 who] w (RefPost w (changeT ns kind who)) := by
  cases hq : rightB ns with
  | false => rw [show changeT ns kind who = (1, []) by simp [changeT, hq]]; exact refchange_b1 A n c ns kind who w hr hl hn hq
  | true =>
    cases hk : kindB kind with
    | false => rw [show changeT ns kind who = (1, []) by simp [changeT, hk]]; exact refchange_b2 A n c ns kind who w hr hl hn hq hk
    | true =>
      by_cases hw : who < 1
      · rw [show changeT ns kind who = (1, []) by have : nodeB who = false := decide_eq_false (by omega); simp [changeT, this]]
        rcases of_decide_eq_true hk with h | h
        · exact refchange_b31 A n c ns kind who w hr hl hn hq h hw
        · exact refchange_b32 A n c ns kind who w hr hl hn hq h hw
      · by_cases hw5 : 5 < who
        · rw [show changeT ns kind who = (1, []) by have : nodeB who = false := decide_eq_false (by omega); simp [changeT, this]]
          rcases of_decide_eq_true hk with h | h
          · exact refchange_b41 A n c ns kind who w hr hl hn hq h hw hw5
          · exact refchange_b42 A n c ns kind who w hr hl hn hq h hw hw5
        · have hnb : nodeB who = true := decide_eq_true (by omega)
          have fin : ∀ {kind : Int}, (changeT ns kind who).1 = 0 → changeT ns kind who = (0, outT ns kind who 5) := fun {kind} h0 => by
            rw [← out_of h0, ← h0]
          rcases of_decide_eq_true hk with rfl | rfl
          · cases his : ns.contains who with
            | true =>
              rw [show changeT ns 1 who = (93, []) by simp only [changeT, hq, hnb, hk, his]; rfl]
              exact refchange_c1 A n c ns 1 who w hr hl hn hq rfl hw hw5 his
            | false =>
              rw [fin (by simp only [changeT, hq, hnb, hk, his]; simp)]
              exact refchange_g1 A n c ns who w hr hl hn hq hw hw5 his
          · cases his : ns.contains who with
            | false =>
              rw [show changeT ns 2 who = (93, []) by simp only [changeT, hq, hnb, hk, his]; rfl]
              exact refchange_c2 A n c ns 2 who w hr hl hn hq rfl hw hw5 his
            | true =>
              by_cases h1 : n = 1
              · rw [show changeT ns 2 who = (93, []) by simp only [changeT, hq, hnb, hk, his, hl, h1]; rfl]
                exact refchange_c3 A n c ns 2 who w hr hl hn hq rfl hw hw5 his h1
              · rw [fin (by simp only [changeT, hq, hnb, hk, his, hl, h1]; simp)]
                exact refchange_g2 A n c ns who w hr hl hn hq hw hw5 his h1
end Go.Proofs.YtaopipghooaekaaDoor
