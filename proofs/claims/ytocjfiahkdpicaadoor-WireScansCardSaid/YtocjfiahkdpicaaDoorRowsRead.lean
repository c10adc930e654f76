/- Rows of bytes that came in. -/
import Derived.Test.YtocjfiahkdpicaaDoorLent
set_option linter.unusedVariables false
set_option linter.unusedSimpArgs false
namespace Go.Proofs.YtocjfiahkdpicaaDoor
open Go.RowKit

/-- A slice's address reads as rows of bytes. -/
def RR (w : World) (A : Option Addr) (rows : List (List UInt8)) : Prop :=
  ∀ i (h : i < rows.length), ∃ a B cb, A = some a ∧ w.cell? (a.add i) = some (.slice B rows[i].length cb) ∧ RB w B rows[i] ∧ rows[i].length ≤ cb ∧ cb ≤ 140737488351232 ∧ (B = none → cb = 0)
theorem RR.addr {w : World} {A : Option Addr} {rows : List (List UInt8)} (h : RR w A rows) (h0 : 0 < rows.length) :
    ∃ b o, A = some ⟨b, o, none⟩ ∧ b < w.heap.size ∧ ∀ i (hi : i < rows.length), ∃ B cb, w.cell? ⟨b, o + i, none⟩ = some (.slice B rows[i].length cb) ∧ RB w B rows[i] ∧ rows[i].length ≤ cb ∧ cb ≤ 140737488351232 ∧ (B = none → cb = 0) := by
  obtain ⟨⟨b, o, s⟩, B, cb, rfl, hc, _⟩ := h 0 h0
  have hs : s = none := by
    cases s with
    | none => rfl
    | some x => simp [World.cell?, Addr.add] at hc; split at hc <;> simp_all
  subst hs
  refine ⟨b, o, rfl, ?_, fun i hi => ?_⟩
  · have := World.block_lt_of_cell? _ _ hc
    simpa [Addr.add] using this
  · obtain ⟨a, B, cb, ha, hc, r⟩ := h i hi
    obtain rfl := Option.some.inj ha
    rw [Addr.add_lit] at hc
    exact ⟨B, cb, hc, r⟩
end Go.Proofs.YtocjfiahkdpicaaDoor
