/- quorum.among, .Has, .most, .Won: the contracts. -/
import Derived.Test.YtaopipghooaekaaDoorQRight
set_option linter.unusedVariables false
set_option linter.unusedSimpArgs false
namespace Go.Proofs.YtaopipghooaekaaDoor
open Go.RowKit

theorem getD_cells {w : World} {b o n : Nat} {ns : List Int} (h : RI w (some ⟨b, o, none⟩) ns) : ∀ j, j < ns.length → w.cell? ⟨b, o + j, none⟩ = some (.int .i64 (ns.getD j 0)) := h.shelf

theorem contains_any (A : Option Addr) (n c : Nat) (ns : List Int) (x : Int) (w : World) (hr : RI w A ns) (hl : ns.length = n) (hn : n ≤ 100000000000000) :
    Calls Tryd.prog 48 #[.slice A n c, .int .i64 x] w fun e w' => e = .returned (.bool (ns.contains x)) ∧ w' = w := by
  by_cases h0 : n = 0
  · subst h0
    obtain rfl := List.eq_nil_of_length_eq_zero hl
    exact Tryd.slices_Contains_int_empty A c x w
  · obtain ⟨g, o, rfl, hg, hc⟩ := hr.addr (by omega)
    have := Tryd.slices_Contains_int g o n c ns x w (by omega) (by omega) hr.shelf
    rwa [List.take_of_length_le (by omega)] at this

theorem among_any (A : Option Addr) (n c : Nat) (ns : List Int) (x : Int) (w : World) (hr : RI w A ns) (hl : ns.length = n) (hn : n ≤ 100000000000000) :
    Calls Tryd.prog 30 #[.int .i64 x, .slice A n c] w fun e w' => e = .returned (.bool (ns.contains x)) ∧ w' = w := by
  have HC := Lib.hid (contains_any A n c ns x w hr hl hn)
  clear hr hl hn
  obtain ⟨r, hr⟩ : ∃ r, r = ns.contains x := ⟨_, rfl⟩
  rw [← hr] at HC ⊢
  clear hr
  go_enter Tryd.func30, Tryd.ntmps30
  go_wp2_with (go_at_call 48; refine (HC.out).mono ?_; rintro e w1 ⟨rfl, rfl⟩)
  go_ret
  exact ⟨rfl, rfl⟩

theorem has_any (A : Option Addr) (n c : Nat) (ns : List Int) (x : Int) (w : World) (hr : RI w A ns) (hl : ns.length = n) (hn : n ≤ 100000000000000) :
    Calls Tryd.prog 23 #[.agg #[.slice A n c], .int .i64 x] w fun e w' => e = .returned (.bool (ns.contains x)) ∧ Below w.heap.size w w' := by
  have b := below_alloc w (.cells #[.slice A n c] 24)
  have HC := Lib.hid (among_any A n c ns x _ (hr.below b) hl hn)
  clear hr hl hn
  obtain ⟨r, hr⟩ : ∃ r, r = ns.contains x := ⟨_, rfl⟩
  rw [← hr] at HC ⊢
  clear hr
  go_enter Tryd.func23, Tryd.ntmps23
  go_wp2_with (go_at_call 30; refine (HC.out).mono ?_; rintro e w1 ⟨rfl, rfl⟩)
  go_ret
  exact ⟨rfl, b⟩

/-- is that a majority of so many? -/
def mostB (n : Nat) (k : Int) : Bool := decide (((n / 2 : Nat) : Int) < k)

theorem most_any (A : Option Addr) (n c : Nat) (k : Int) (w : World) (hn : n ≤ 100000000000000) (h0 : -100000000000000 ≤ k) (h1 : k ≤ 100000000000000) :
    Calls Tryd.prog 33 #[.agg #[.slice A n c], .int .i64 k] w fun e w' => e = .returned (.bool (mostB n k)) ∧ Below w.heap.size w w' := by
  have b := below_alloc w (.cells #[.slice A n c] 24)
  obtain ⟨r, hr⟩ : ∃ r, r = mostB n k := ⟨_, rfl⟩
  have he : mostB n k = decide (((n / 2 : Nat) : Int) < k) := rfl
  rw [← hr]
  have HR := Lib.hid (hr.trans he)
  clear hr he
  go_enter Tryd.func33, Tryd.ntmps33
  go_wp2_with fail
  go_ret
  refine ⟨?_, b⟩
  rw [HR.out]
  simp
end Go.Proofs.YtaopipghooaekaaDoor
