/- muntinref21.New: the contract. -/
import Derived.Test.YtkjpfjgaabbggaaDoorURead
import Derived.Test.YtkjpfjgaabbggaaDoorURow
import Derived.Test.YtkjpfjgaabbggaaDoorUCopied
import Derived.OpenShut
import Derived.Outline
set_option linter.unusedVariables false
set_option linter.unusedSimpArgs false
namespace Go.Proofs.YtkjpfjgaabbggaaDoor
open Go.RowKit

/-- the document's trail: its block, its values -/
def RTO (w : World) (base q : Nat) (i t : Int) (v : Value) (es : List Ent) (Ds : List Value) : Prop :=
  base ≤ q ∧ w.heap[q]? = some (.cells #[.int .i64 i, .int .i64 t, v] 85 (0, 0)) ∧ OE w base v es Ds
theorem RTO.lt {w : World} {base p : Nat} {i t : Int} {v : Value} {es : List Ent} {Ds : List Value} (h : RTO w base p i t v es Ds) : p < w.heap.size := (Array.getElem?_eq_some_iff.1 h.2.1).1
theorem RTO.tr {w : World} {base p : Nat} {i t : Int} {v : Value} {es : List Ent} {Ds : List Value} (h : RTO w base p i t v es Ds) : TR w p i t v :=
  ⟨cellU h.2.1 0, cellU h.2.1 1, cellU h.2.1 2⟩
theorem RTO.below {w w' : World} {base p : Nat} {i t : Int} {v : Value} {es : List Ent} {Ds : List Value} (h : RTO w base p i t v es Ds) (b : Below w.heap.size w w') : RTO w' base p i t v es Ds :=
  ⟨h.1, (b.block p h.lt).trans h.2.1, h.2.2.below b⟩
theorem RTO.lower {w : World} {base b' p : Nat} {i t : Int} {v : Value} {es : List Ent} {Ds : List Value} (h : RTO w base p i t v es Ds) (hb : b' ≤ base) : RTO w b' p i t v es Ds :=
  ⟨Nat.le_trans hb h.1, h.2.1, h.2.2.lower hb⟩
theorem wf_lo {x : Int} (h : (Lit.int .i64 x).wf = true) : -9223372036854775808 ≤ x ∧ x ≤ 9223372036854775807 := by
  have := bounds_i64 h
  omega

set_option maxRecDepth 100000 in
set_option maxHeartbeats 2000000 in
theorem rnew_bad (A : Option Addr) (len c : Nat) (es : List Ent) (Ds : List Value) (i t : Int) (w : World) (hre : RE w A es Ds) (hl : es.length = len) (h2 : len ≤ 10000000000000) (wi : (Lit.int .i64 i).wf = true) (hok : okNew i t es = false) :
    Calls Tryd.prog 25 #[.int .i64 i, .int .i64 t, .slice A len c] w fun e w' => e = .returned (.tuple #[.pointer none, .int .i64 1]) ∧ w' = w := by
  by_cases hM : i ≤ 1099511627776
  · have HRW := Lib.hid (row_any A len c es Ds i t w hre hl (wf_lo wi).1 (by omega) h2)
    by_cases h0 : i < 0
    · clear hre hok
      go_enter Tryd.func25, Tryd.ntmps25
      go_wp2_with fail
      refine HRW.out.mono ?_
      rintro e w1 ⟨rfl, rfl⟩
      go_wp2_with fail
      go_ret2
      exact ⟨rfl, rfl⟩
    · have hM2 : ¬ (1099511627776 : Int) < i := by omega
      by_cases h1 : t < 0
      · clear hre hok
        go_enter Tryd.func25, Tryd.ntmps25
        go_wp2_with fail
        refine HRW.out.mono ?_
        rintro e w1 ⟨rfl, rfl⟩
        go_wp2_with fail
        go_ret2
        exact ⟨rfl, rfl⟩
      · have hf : follows i t es = false := by
          unfold okNew at hok
          rw [decide_eq_true (by omega), Bool.true_and] at hok
          exact hok
        rw [hf] at HRW
        clear hre hok hf
        go_enter Tryd.func25, Tryd.ntmps25
        go_wp2_with fail
        refine HRW.out.mono ?_
        rintro e w1 ⟨rfl, rfl⟩
        go_wp2_with fail
        go_ret2
        exact ⟨rfl, rfl⟩
  · have hM2 : (1099511627776 : Int) < i := by omega
    have h0 : ¬ i < 0 := by omega
    clear hre hok
    go_enter Tryd.func25, Tryd.ntmps25
    go_wp2_with fail
    go_ret2
    exact ⟨rfl, rfl⟩
def RNewOk (w : World) (i t : Int) (es : List Ent) (e : Ending) (w' : World) : Prop :=
  ∃ q v Ds', e = .returned (.tuple #[.pointer (some ⟨q, 0, none⟩), .int .i64 0]) ∧ RTO w' w.heap.size q i t v es Ds' ∧ Below w.heap.size w w'
set_option maxRecDepth 100000 in
set_option maxHeartbeats 2000000 in
theorem rnew_ok (A : Option Addr) (len c : Nat) (es : List Ent) (Ds : List Value) (i t : Int) (w : World) (hre : RE w A es Ds) (hl : es.length = len) (h2 : len ≤ 4200000000000) (hok : okNew i t es = true) :
    Calls Tryd.prog 25 #[.int .i64 i, .int .i64 t, .slice A len c] w (RNewOk w i t es) := by
  subst hl
  unfold okNew at hok
  rw [Bool.and_eq_true, decide_eq_true_eq] at hok
  obtain ⟨⟨h0, h1, hM⟩, hf⟩ := hok
  have HRW := Lib.hid (row_any A es.length c es Ds i t w hre rfl (by omega) (by omega) (by omega))
  rw [hf] at HRW
  have HC := Lib.hid (rcopied_any A es.length c es Ds w hre rfl h2)
  clear hre hf
  have h0' : ¬ i < 0 := by omega
  have h1' : ¬ t < 0 := by omega
  have hM2 : ¬ (1099511627776 : Int) < i := by omega
  go_enter Tryd.func25, Tryd.ntmps25
  go_wp2_with fail
  refine HRW.out.mono ?_
  rintro e w1 ⟨rfl, rfl⟩
  go_wp2_with fail
  refine HC.out.mono ?_
  rintro e w2 ⟨v, Ds', rfl, oe, b2⟩
  obtain ⟨VA, vc, rfl, -⟩ := oe.re
  go_wp2_with fail
  go_ret2
  have bA := below_alloc w2 (.cells #[.int .i64 i, .int .i64 t, .slice VA es.length vc] 85)
  exact ⟨_, _, Ds', rfl, ⟨b2.size, heap_alloc_new _ _, oe.below bA⟩, below_then b2 b2.size bA⟩
end Go.Proofs.YtkjpfjgaabbggaaDoor
