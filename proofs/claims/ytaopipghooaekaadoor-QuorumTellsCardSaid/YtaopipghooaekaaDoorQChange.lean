/- quorum.Change: the contract. -/
import Derived.Test.YtaopipghooaekaaDoorQInsert
set_option linter.unusedVariables false
set_option linter.unusedSimpArgs false
namespace Go.Proofs.YtaopipghooaekaaDoor
open Go.RowKit

/-- where a node stands, or would -/
def pos (ns : List Int) (who : Int) : Nat := ns.countP (· < who)
def kindB (kind : Int) : Bool := decide (kind = 1 ∨ kind = 2)
/-- what Change makes: the error, the voters -/
def changeT (ns : List Int) (kind who : Int) : Nat × List Int :=
  if rightB ns = false then (1, [])
  else if nodeB who = false then (1, [])
  else if kindB kind = false then (1, [])
  else if ns.contains who = decide (kind = 1) then (93, [])
  else if ns.length = 1 ∧ ns.contains who = true then (93, [])
  else if ns.contains who = true then (0, ns.take (pos ns who) ++ ns.drop (pos ns who + 1))
  else (0, ns.take (pos ns who) ++ who :: ns.drop (pos ns who))
def ChangePost (w : World) (R : Nat × List Int) (e : Ending) (w' : World) : Prop :=
  ∃ V, e = .returned (.tuple #[.agg #[V], errQ R.1]) ∧ OV w' w.heap.size V R.2 ∧ Below w.heap.size w w'

theorem rises_sorted : ∀ (ns : List Int) (last : Int), rises last ns = true → ns.Pairwise (· ≤ ·) ∧ ∀ x ∈ ns, last < x
  | [], _, _ => ⟨.nil, by simp⟩
  | n :: ns, last, h => by
    simp only [rises, Bool.and_eq_true, decide_eq_true_eq] at h
    obtain ⟨h1, h2⟩ := rises_sorted ns n h.2
    refine ⟨List.pairwise_cons.2 ⟨fun x hx => Int.le_of_lt (h2 x hx), h1⟩, ?_⟩
    intro x hx
    rcases List.mem_cons.1 hx with rfl | hx
    · exact h.1.2
    · exact Int.lt_trans h.1.2 (h2 x hx)
theorem right_sorted {ns : List Int} (h : rightB ns = true) : ns.Pairwise (· ≤ ·) := by
  simp only [rightB, Bool.and_eq_true] at h
  exact (rises_sorted ns 0 h.2).1
theorem pos_le (ns : List Int) (who : Int) : pos ns who ≤ ns.length := List.countP_le_length
theorem pos_lt {ns : List Int} {who : Int} (h : ns.contains who = true) : pos ns who < ns.length := by
  have hm : who ∈ ns := by simpa using h
  have h1 := List.length_eq_countP_add_countP (fun x : Int => decide (x < who)) (l := ns)
  have h2 : 0 < ns.countP (fun a => decide ¬ decide (a < who) = true) := List.countP_pos_iff.2 ⟨who, hm, by simp⟩
  unfold pos
  omega

theorem own_below {w w' : World} {base : Nat} {e : TypeId} {n : Nat} {v : Value} {xs : List Value} (h : w.ownsRow base e 1 v n xs) (b : Below w.heap.size w w') : w'.ownsRow base e 1 v n xs := by
  refine ⟨h.1, ?_⟩
  rcases h.2 with h1 | ⟨g, cap, cur, h1, h2, h3, h4⟩
  · exact .inl h1
  · exact .inr ⟨g, cap, cur, h1, h2, by rw [b.block _ (Array.getElem?_eq_some_iff.1 h3).1]; exact h3, h4⟩
theorem own_apart {w : World} {base : Nat} {e : TypeId} {n : Nat} {v : Value} {xs : List Value} (h : w.ownsRow base e 1 v n xs) : v.ownBlock ≠ some w.heap.size := by
  rcases h.2 with ⟨h1, -⟩ | ⟨g, cap, cur, h1, h2, h3, h4⟩
  · rw [h1]; intro h; cases h
  · have := (Array.getElem?_eq_some_iff.1 h3).1
    rw [h1]
    intro h
    simp only [Value.ownBlock, Option.some.injEq] at h
    omega
theorem OV.setCell {w : World} {base : Nat} {V : Value} {ns : List Int} (h : OV w base V ns) {p : Addr} (hp : p.block < base) (u : Value) : OV (w.setCell p u) base V ns := by
  obtain ⟨A, c, h1, h2, h3, h4, h5⟩ := h
  refine ⟨A, c, h1, h2.step fun a ha h0 => ?_, h3, h4, fun a ha => ⟨(h5 a ha).1, fun j hj => ?_⟩⟩
  · rw [Below.heap_setCell]
    have := (h5 a ha).1
    omega
  · rw [World.frozen?_setCell]
    exact (h5 a ha).2 j hj

theorem box_facts {w wb w1 : World} {v v2 : Value} {t t2 : TypeId} (hw : wb = (w.alloc (.cells #[v] t)).alloc (.cells #[v2] t2)) (h : Below wb.heap.size wb w1) :
    w1.cell? ⟨w.heap.size, 0, none⟩ = some v ∧ w1.cell? ⟨w.heap.size + 1, 0, none⟩ = some v2 ∧ w1.frozen? ⟨w.heap.size + 1, 0, none⟩ = false := by
  subst hw
  obtain ⟨c1, c2⟩ := box_cell2 h
  refine ⟨c1, c2, ?_⟩
  rw [h.frozen (by simp)]
  have := World.frozen?_alloc_at (w := w.alloc (.cells #[v] t)) #[v2] t2 (w.heap.size + 1) 0 (by simp)
  exact this

theorem kind_any (kind : Int) (te : TypeId) (w : World) :
    Calls Tryd.prog 30 #[.int .i64 kind, .slice (some ⟨w.heap.size, 0, none⟩) 2 2] (w.alloc (.cells #[.int .i64 1, .int .i64 2] te)) fun e w' => e = .returned (.bool (kindB kind)) ∧ Below w.heap.size w w' := by
  have hr : RI (w.alloc (.cells #[.int .i64 1, .int .i64 2] te)) (some ⟨w.heap.size, 0, none⟩) [1, 2] := range_RI (by
    have := alloc_range w (iv [1, 2]) #[] te
    exact this)
  refine (among_any _ 2 2 [1, 2] kind _ hr rfl (by omega)).mono ?_
  rintro e w' ⟨rfl, rfl⟩
  refine ⟨?_, below_alloc _ _⟩
  have : ([1, 2] : List Int).contains kind = kindB kind := by
    rw [Bool.eq_iff_iff]
    simp [kindB]
  rw [this]

set_option maxRecDepth 100000 in
set_option maxHeartbeats 2000000 in
theorem change_bad (A : Option Addr) (n c : Nat) (ns : List Int) (kind who : Int) (w : World) (hr : RI w A ns) (hl : ns.length = n) (hn : n ≤ 100000000000000) (hbad : rightB ns = false ∨ nodeB who = false ∨ kindB kind = false) :
    Calls Tryd.prog 7 #[.agg #[.slice A n c], .int .i64 kind, .int .i64 who] w (ChangePost w (1, [])) := by
  obtain ⟨wb, hwb⟩ : ∃ wb, wb = (w.alloc (.cells #[.slice A n c] 24)).alloc (.cells #[.slice none 0 0] 24) := ⟨_, rfl⟩
  have b : Below w.heap.size w wb := by rw [hwb]; exact (below_alloc w _).alloc (below_alloc w _).size _
  have HW := Lib.hid hwb
  have HQ := Lib.hid fun (w1 : World) (h : Below wb.heap.size wb w1) => right_any A n c ns w1 ((hr.below b).below h) hl hn
  have HN := Lib.hid (node_any who)
  have HK := Lib.hid (kind_any kind)
  clear hr hl hwb
  cases hb : rightB ns with
  | false =>
    simp only [rightE_no hb] at HQ
    clear hb hbad
    go_enter Tryd.func7, Tryd.ntmps7
    go_wp2_with (go_at_call 14; rw [← HW.out]; refine (HQ.out _ (Below.refl _ _)).mono ?_; rintro e w1 ⟨rfl, b1⟩; rw [errQ_one]; obtain ⟨c1, c2, f2⟩ := box_facts HW.out b1)
    have q := World.cell?_setCell_same _ _ (.slice none 0 0) c2
    have B1 := below_then b b.size b1
    exact bodyPost_ret (v := .tuple #[.agg #[.slice none 0 0], errQ 1]) (by simp [results, Tryd.results7, go_sem, q, errQ]) rfl ⟨_, rfl, OV.nil _ _, B1.setCell (by simp) _⟩
  | true =>
    simp only [rightE_ok hb] at HQ
    cases hb2 : nodeB who with
    | false =>
      simp only [hb2] at HN
      clear hb hb2 hbad
      go_enter Tryd.func7, Tryd.ntmps7
      go_wp2_with (first
        | (go_at_call 14; rw [← HW.out]; refine (HQ.out _ (Below.refl _ _)).mono ?_; rintro e w1 ⟨rfl, b1⟩; rw [errQ_zero]; obtain ⟨c1, c2, f2⟩ := box_facts HW.out b1)
        | (go_at_call 29; refine (HN.out _).mono ?_; rintro e w2 ⟨rfl, rfl⟩))
      have q := World.cell?_setCell_same _ _ (.slice none 0 0) c2
      have B1 := below_then b b.size b1
      exact bodyPost_ret (v := .tuple #[.agg #[.slice none 0 0], errQ 1]) (by simp [results, Tryd.results7, go_sem, q, errQ]) rfl ⟨_, rfl, OV.nil _ _, B1.setCell (by simp) _⟩
    | true =>
      simp only [hb2] at HN
      have hb3 : kindB kind = false := by rcases hbad with h | h | h <;> simp_all
      simp only [hb3] at HK
      clear hb hb2 hbad hb3
      go_enter Tryd.func7, Tryd.ntmps7
      go_wp2_with (first
        | (go_at_call 14; rw [← HW.out]; refine (HQ.out _ (Below.refl _ _)).mono ?_; rintro e w1 ⟨rfl, b1⟩; rw [errQ_zero]; obtain ⟨c1, c2, f2⟩ := box_facts HW.out b1)
        | (go_at_call 29; refine (HN.out _).mono ?_; rintro e w2 ⟨rfl, rfl⟩)
        | (go_at_call 30; refine (HK.out _ _).mono ?_; rintro e w2 ⟨rfl, b2⟩; have b12 := below_then b1 b1.size b2; clear c1 c2 f2; obtain ⟨c1, c2, f2⟩ := box_facts HW.out b12))
      have q := World.cell?_setCell_same _ _ (.slice none 0 0) c2
      have B1 := below_then b b.size b12
      exact bodyPost_ret (v := .tuple #[.agg #[.slice none 0 0], errQ 1]) (by simp [results, Tryd.results7, go_sem, q, errQ]) rfl ⟨_, rfl, OV.nil _ _, B1.setCell (by simp) _⟩
end Go.Proofs.YtaopipghooaekaaDoor
