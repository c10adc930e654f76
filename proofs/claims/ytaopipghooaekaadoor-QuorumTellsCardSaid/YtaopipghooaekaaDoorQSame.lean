/- muntinref22.Same: the contract. -/
import Derived.Test.YtaopipghooaekaaDoorQMeet
import Derived.Deep.LoopGhost
set_option linter.unusedVariables false
set_option linter.unusedSimpArgs false
namespace Go.Proofs.YtaopipghooaekaaDoor
open Go.RowKit

set_option maxRecDepth 100000 in
set_option maxHeartbeats 400000 in
theorem same_len (A : Option Addr) (n c : Nat) (ns : List Int) (A2 : Option Addr) (n2 c2 : Nat) (ms : List Int) (w : World) (hr : RI w A ns) (hl : ns.length = n) (hn : n ≤ 100000000000000) (hr2 : RI w A2 ms) (hl2 : ms.length = n2) (hn2 : n2 ≤ 100000000000000) (hne : n ≠ n2) :
    Calls Tryd.prog 9 #[.agg #[.slice A n c], .agg #[.slice A2 n2 c2]] w fun e w' => e = .returned (.bool false) ∧ Below w.heap.size w w' := by
  have b := (below_alloc w (.cells #[.slice A n c] 24)).alloc (below_alloc w _).size (.cells #[.slice A2 n2 c2] 24)
  have d : ((n : Int) != (n2 : Int)) = true := by simp; omega
  clear hr hr2 hl hl2 hne
  go_enter Tryd.func9, Tryd.ntmps9
  go_wp2_with fail
  go_ret
  exact ⟨rfl, b⟩

set_option maxRecDepth 100000 in
set_option maxHeartbeats 400000 in
theorem same_eq (A : Option Addr) (n c : Nat) (ns : List Int) (A2 : Option Addr) (c2 : Nat) (ms : List Int) (w : World) (hr : RI w A ns) (hl : ns.length = n) (hn : n ≤ 100000000000000) (hr2 : RI w A2 ms) (hl2 : ms.length = n) :
    Calls Tryd.prog 9 #[.agg #[.slice A n c], .agg #[.slice A2 n c2]] w fun e w' => e = .returned (.bool (decide (ns = ms))) ∧ Below w.heap.size w w' := by
  obtain ⟨wb, hwb⟩ : ∃ wb, wb = (w.alloc (.cells #[.slice A n c] 24)).alloc (.cells #[.slice A2 n c2] 24) := ⟨_, rfl⟩
  have b : Below w.heap.size w wb := by rw [hwb]; exact (below_alloc w _).alloc (below_alloc w _).size _
  have HR := Lib.hid (hr.below b)
  have HR2 := Lib.hid (hr2.below b)
  have HL := Lib.hid hl
  have HL2 := Lib.hid hl2
  have HW := Lib.hid hwb
  have HB := Lib.hid (show ∀ w1, Below wb.heap.size wb w1 → w1.cell? ⟨w.heap.size, 0, none⟩ = some (.slice A n c) ∧ w1.cell? ⟨w.heap.size + 1, 0, none⟩ = some (.slice A2 n c2) from fun w1 h => box_cell2 (by rw [← hwb]; exact h))
  clear hr hr2 hl hl2 hwb
  go_enter Tryd.func9, Tryd.ntmps9
  go_wp2_with fail
  go_loopg [5] n (fun q ki wr => ∃ k : Nat, q = n - k ∧ k ≤ n ∧ ki = .int .i64 k ∧ Hid (ns.take k = ms.take k) ∧ Below wb.heap.size wb wr)
  case atStart => exact ⟨0, by omega, by omega, rfl, Lib.hid (by simp), by rw [HW.out]; exact Below.refl _ _⟩
  case round =>
    obtain ⟨k, hm, hk, rfl, HF, bel⟩ := hrel
    obtain ⟨d1, d2⟩ := HB.out _ bel
    by_cases hkl : k < n
    · have hkl1 : (k : Int) < (n : Int) := by omega
      have hke : k < ns.length := by rw [HL.out]; exact hkl
      have hke2 : k < ms.length := by rw [HL2.out]; exact hkl
      obtain ⟨g, o, rfl, hg, hc⟩ := (HR.out.below bel).addr (by omega)
      obtain ⟨g2, o2, rfl, hg2, hc2⟩ := (HR2.out.below bel).addr (by omega)
      have hx := hc k hke
      have hy := hc2 k hke2
      obtain ⟨x, hxe⟩ : ∃ x, x = ns[k] := ⟨_, rfl⟩
      obtain ⟨y, hye⟩ : ∃ y, y = ms[k] := ⟨_, rfl⟩
      have HTX := Lib.hid (show ns.take (k + 1) = ns.take k ++ [x] by rw [hxe]; exact List.take_succ_eq_append_getElem hke)
      have HTY := Lib.hid (show ms.take (k + 1) = ms.take k ++ [y] by rw [hye]; exact List.take_succ_eq_append_getElem hke2)
      rw [← hxe] at hx
      rw [← hye] at hy
      have HNE := Lib.hid (show x ≠ y → ns ≠ ms from fun h e => h (by subst e; rw [hxe, hye]))
      clear hc hc2 hxe hye
      by_cases hxy : x = y
      · have dxy : (x != y) = false := by simp [hxy]
        have HXY := Lib.hid hxy
        clear hxy
        go_wp2_with fail
        go_quiet (fail)
        go_wp2_with fail
        go_roundg (n - (k + 1))
        case measure => omega
        case rel => exact ⟨k + 1, rfl, by omega, by go_num, Lib.hid (by rw [HTX.out, HTY.out, HF.out, HXY.out]), below_draws bel _⟩
      · have dxy : (x != y) = true := by simp [hxy]
        have HXY := Lib.hid (HNE.out hxy)
        clear hxy
        go_wp2_with fail
        go_quiet (fail)
        go_wp2_with fail
        go_ret
        exact ⟨by rw [decide_eq_false HXY.out]; rfl, below_draws (b.trans (bel.mono b.size)) _⟩
    · obtain rfl : k = n := by omega
      go_wp2_with fail
      go_ret
      have he := HF.out
      rw [List.take_of_length_le (by rw [HL.out]; exact Nat.le_refl _), List.take_of_length_le (by rw [HL2.out]; exact Nat.le_refl _)] at he
      exact ⟨by rw [decide_eq_true he]; rfl, b.trans (bel.mono b.size)⟩
end Go.Proofs.YtaopipghooaekaaDoor
