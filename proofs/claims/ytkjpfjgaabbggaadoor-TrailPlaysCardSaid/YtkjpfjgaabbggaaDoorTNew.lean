/- trail.New: the contract. -/
import Derived.Test.YtkjpfjgaabbggaaDoorTFollows
import Derived.Outline
set_option linter.unusedVariables false
set_option linter.unusedSimpArgs false
namespace Go.Proofs.YtkjpfjgaabbggaaDoor
open Go.RowKit

/-- may there be such a trail? -/
def okNew (i t : Int) (es : List Ent) : Bool := decide (0 ≤ i ∧ 0 ≤ t ∧ i ≤ 1099511627776) && follows i t es
/-- a trail that is owned: its block, its entries -/
def TO (w : World) (base p : Nat) (i t : Int) (v : Value) (es : List Ent) (Ds : List Value) : Prop :=
  base ≤ p ∧ w.heap[p]? = some (.cells #[.int .i64 i, .int .i64 t, v] 34 (0, 0)) ∧ OE w base v es Ds
theorem TO.lt {w : World} {base p : Nat} {i t : Int} {v : Value} {es : List Ent} {Ds : List Value} (h : TO w base p i t v es Ds) : p < w.heap.size := (Array.getElem?_eq_some_iff.1 h.2.1).1
theorem TO.tr {w : World} {base p : Nat} {i t : Int} {v : Value} {es : List Ent} {Ds : List Value} (h : TO w base p i t v es Ds) : TR w p i t v := by
  refine ⟨?_, ?_, ?_⟩ <;> simp [World.cell?, h.2.1]
theorem TO.below {w w' : World} {base p : Nat} {i t : Int} {v : Value} {es : List Ent} {Ds : List Value} (h : TO w base p i t v es Ds) (b : Below w.heap.size w w') : TO w' base p i t v es Ds :=
  ⟨h.1, (b.block p h.lt).trans h.2.1, h.2.2.below b⟩

set_option maxRecDepth 100000 in
set_option maxHeartbeats 1000000 in
theorem new_bad (A : Option Addr) (len c : Nat) (es : List Ent) (Ds : List Value) (i t : Int) (w : World) (hre : RE w A es Ds) (hl : es.length = len) (h2 : len ≤ 10000000000000) (hok : okNew i t es = false) :
    Calls Tryd.prog 9 #[.int .i64 i, .int .i64 t, .slice A len c] w fun e w' => e = .returned (.tuple #[.pointer none, errV 1]) ∧ Below w.heap.size w w' := by
  by_cases hi : i < 0 ∨ t < 0
  · have hm : decide (min i t < 0) = true := decide_eq_true (by omega)
    go_enter Tryd.func9, Tryd.ntmps9
    go_wp2_with fail
    all_goals
      go_ret2
      exact ⟨rfl, Below.refl _ _⟩
  · have hi1 : 0 ≤ i := by omega
    have hi2 : 0 ≤ t := by omega
    have hm : decide (min i t < 0) = false := decide_eq_false (by omega)
    by_cases hx : 1099511627776 < i
    · have hx1 := decide_eq_true hx
      go_enter Tryd.func9, Tryd.ntmps9
      go_wp2_with fail
      all_goals
        go_ret2
        exact ⟨rfl, Below.refl _ _⟩
    · have hx1 := decide_eq_false hx
      have hf : follows i t es = false := by
        simp only [okNew, Bool.and_eq_false_iff, decide_eq_false_iff_not] at hok
        rcases hok with h | h
        · omega
        · exact h
      have HF := Lib.hid (follows_any A len c es Ds i t w hre hl hi1 (by omega) h2)
      rw [hf] at HF
      clear hf hok hre
      have HL := Lib.hid hl
      clear hl
      go_enter Tryd.func9, Tryd.ntmps9
      go_wp2_with (refine HF.out.mono ?_; rintro e w1 ⟨rfl, b1⟩)
      all_goals
        go_ret2
        exact ⟨rfl, b1⟩

/-- what New makes -/
def NewOk (w : World) (i t : Int) (es : List Ent) (e : Ending) (w' : World) : Prop :=
  ∃ p v Ds', e = .returned (.tuple #[.pointer (some ⟨p, 0, none⟩), errV 0]) ∧ TO w' w.heap.size p i t v es Ds' ∧ Below w.heap.size w w'
set_option maxRecDepth 100000 in
set_option maxHeartbeats 1000000 in
theorem new_ok (A : Option Addr) (len c : Nat) (es : List Ent) (Ds : List Value) (i t : Int) (w : World) (hre : RE w A es Ds) (hl : es.length = len) (h2 : len ≤ 10000000000000) (h3 : len * 48 ≤ 140737488355328) (hA : A = none → len = 0) (hok : okNew i t es = true) :
    Calls Tryd.prog 9 #[.int .i64 i, .int .i64 t, .slice A len c] w (NewOk w i t es) := by
  have hok2 := hok
  simp only [okNew, Bool.and_eq_true, decide_eq_true_eq] at hok2
  obtain ⟨⟨hi1, hi2, hx⟩, hf⟩ := hok2
  have hm : decide (min i t < 0) = false := decide_eq_false (by omega)
  have hx1 : decide (1099511627776 < i) = false := decide_eq_false (by omega)
  have HF := Lib.hid (follows_any A len c es Ds i t w hre hl hi1 (by omega) h2)
  rw [hf] at HF
  have HC := Lib.hid (fun w1 (b : Below w.heap.size w w1) => copied_any A len c es Ds w1 (hre.below b) hl hA (by omega))
  clear hf hok hre hA
  have HL := Lib.hid hl
  clear hl
  go_enter Tryd.func9, Tryd.ntmps9
  go_wp2_with (first | (go_at_call 31; refine HF.out.mono ?_; rintro e w1 ⟨rfl, b1⟩) | (go_at_call 32; refine (HC.out _ (by assumption)).mono ?_; rintro e w2 ⟨v, Ds', rfl, oe, b2⟩; obtain ⟨S, cS, rfl, -, -, -, -⟩ := oe.re))
  all_goals
    go_ret2
    have bel := below_then b1 b1.size b2
    refine ⟨w2.heap.size, _, Ds', rfl, ⟨bel.size, heap_alloc_new w2 _, ?_⟩, ?_⟩
    · exact (oe.lower b1.size).below (below_alloc _ _)
    · exact below_then bel bel.size (below_alloc _ _)
end Go.Proofs.YtkjpfjgaabbggaaDoor
