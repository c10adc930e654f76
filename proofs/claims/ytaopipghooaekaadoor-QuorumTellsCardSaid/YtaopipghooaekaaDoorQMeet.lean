/- quorum.Meet: the contract. -/
import Derived.Test.YtaopipghooaekaaDoorQWon
import Derived.Deep.QuietTactic
import Derived.BigQuiet
import Derived.IntWalk
set_option linter.unusedVariables false
set_option linter.unusedSimpArgs false
namespace Go.Proofs.YtaopipghooaekaaDoor
open Go.RowKit

/-- is there none in common? -/
def meetN (n m c : Nat) : Bool := decide ((c : Int) < max 0 ((n : Int) / 2 + 1 - ((n : Int) - c)) + max 0 ((m : Int) / 2 + 1 - ((m : Int) - c)))
/-- do all majorities of two meet? -/
def meetB (ns ms : List Int) : Bool := rightB ns && rightB ms && meetN ns.length ms.length (among ns ms)
theorem meetB_no1 {ns ms : List Int} (h : rightB ns = false) : meetB ns ms = false := by simp [meetB, h]
theorem meetB_no2 {ns ms : List Int} (h : rightB ms = false) : meetB ns ms = false := by simp [meetB, h]
theorem meetB_ok {ns ms : List Int} (h : rightB ns = true) (h2 : rightB ms = true) : meetB ns ms = meetN ns.length ms.length (among ns ms) := by simp [meetB, h, h2]
theorem among_le (ns l : List Int) : among ns l ≤ ns.length := List.length_filter_le _ _

/-- a box under a box behind what changed nothing older -/
theorem box_cell2 {w w1 : World} {v v2 : Value} {t t2 : TypeId} (h : Below ((w.alloc (.cells #[v] t)).alloc (.cells #[v2] t2)).heap.size ((w.alloc (.cells #[v] t)).alloc (.cells #[v2] t2)) w1) :
    w1.cell? ⟨w.heap.size, 0, none⟩ = some v ∧ w1.cell? ⟨w.heap.size + 1, 0, none⟩ = some v2 := by
  have h2 := box_cell h
  simp only [World.size_alloc] at h2
  refine ⟨?_, h2⟩
  rw [World.cell?_of_block (w := (w.alloc (.cells #[v] t)).alloc (.cells #[v2] t2)) (h.block _ (by simp; omega)), World.cell?_alloc_lt _ _ ⟨w.heap.size, 0, none⟩ (by simp), World.cell?_alloc_at _ _ _ _ (by simp)]
  rfl

set_option maxRecDepth 100000 in
set_option maxHeartbeats 2000000 in
theorem meet_any (A : Option Addr) (n c : Nat) (ns : List Int) (A2 : Option Addr) (n2 c2 : Nat) (ms : List Int) (w : World) (hr : RI w A ns) (hl : ns.length = n) (hn : n ≤ 100000000000000) (hr2 : RI w A2 ms) (hl2 : ms.length = n2) (hn2 : n2 ≤ 100000000000000) :
    Calls Tryd.prog 11 #[.agg #[.slice A n c], .agg #[.slice A2 n2 c2]] w fun e w' => e = .returned (.bool (meetB ns ms)) ∧ Below w.heap.size w w' := by
  obtain ⟨wb, hwb⟩ : ∃ wb, wb = (w.alloc (.cells #[.slice A n c] 24)).alloc (.cells #[.slice A2 n2 c2] 24) := ⟨_, rfl⟩
  have b : Below w.heap.size w wb := by rw [hwb]; exact (below_alloc w _).alloc (below_alloc w _).size _
  have HW := Lib.hid hwb
  have HR := Lib.hid (hr.below b)
  have HR2 := Lib.hid (hr2.below b)
  have HL := Lib.hid hl
  have HL2 := Lib.hid hl2
  have HQ := Lib.hid fun (w1 : World) (h : Below wb.heap.size wb w1) => right_any A n c ns w1 (HR.out.below h) hl hn
  have HQ2 := Lib.hid fun (w1 : World) (h : Below wb.heap.size wb w1) => right_any A2 n2 c2 ms w1 (HR2.out.below h) hl2 hn2
  have HA := Lib.hid fun (w1 : World) (h : Below wb.heap.size wb w1) (x : Int) => has_any A2 n2 c2 ms x w1 (HR2.out.below h) hl2 hn2
  clear hr hr2 hl hl2 hwb
  cases hb : rightB ns with
  | false =>
    simp only [rightE_no hb] at HQ
    rw [meetB_no1 hb]
    clear hb
    go_enter Tryd.func11, Tryd.ntmps11
    go_wp2_with (go_at_call 14; rw [← HW.out]; refine (HQ.out _ (Below.refl _ _)).mono ?_; rintro e w1 ⟨rfl, b1⟩; rw [errQ_one])
    go_ret
    exact ⟨rfl, below_then b b.size b1⟩
  | true =>
    simp only [rightE_ok hb] at HQ
    cases hb2 : rightB ms with
    | false =>
      simp only [rightE_no hb2] at HQ2
      rw [meetB_no2 hb2]
      clear hb hb2
      go_enter Tryd.func11, Tryd.ntmps11
      go_wp2_with (first
        | (go_at_call 14; rw [← HW.out]; refine (HQ.out _ (Below.refl _ _)).mono ?_; rintro e w1 ⟨rfl, b1⟩; rw [errQ_zero]; (have c1 := box_cell2 (by rw [← HW.out]; exact b1)); obtain ⟨c1, c2⟩ := c1)
        | (go_at_call 14; refine (HQ2.out _ b1).mono ?_; rintro e w2 ⟨rfl, b2⟩; rw [errQ_one]))
      go_ret
      exact ⟨rfl, below_then (below_then b b.size b1) (below_then b b.size b1).size b2⟩
    | true =>
      simp only [rightE_ok hb2] at HQ2
      have hlen := right_len hb
      have hlen2 := right_len hb2
      rw [meetB_ok hb hb2, HL.out, HL2.out]
      rw [HL.out] at hlen
      rw [HL2.out] at hlen2
      clear hb hb2
      go_enter Tryd.func11, Tryd.ntmps11
      go_wp2_with (first
        | (go_at_call 14; rw [← HW.out]; refine (HQ.out _ (Below.refl _ _)).mono ?_; rintro e w1 ⟨rfl, b1⟩; rw [errQ_zero]; (have c1 := box_cell2 (by rw [← HW.out]; exact b1)); obtain ⟨c1, c2⟩ := c1)
        | (go_at_call 14; refine (HQ2.out _ b1).mono ?_; rintro e w2 ⟨rfl, b2⟩; rw [errQ_zero]; (have d1 := box_cell2 (by rw [← HW.out]; exact below_then b1 b1.size b2)); obtain ⟨d1, d2⟩ := d1))
      have B2 := below_then b1 b1.size b2
      clear b1 b2 c1 c2
      go_loopg [5, 23] n (fun q zi ki wr => ∃ (k z : Nat), q = n - k ∧ k ≤ n ∧ zi = .int .i64 z ∧ ki = .int .i64 k ∧ Hid (among ns ms = z + among (ns.drop k) ms) ∧ z ≤ k ∧ Below wb.heap.size wb wr)
      case atStart => exact ⟨0, 0, by omega, by omega, rfl, rfl, Lib.hid (by simp), by omega, B2⟩
      case round =>
        obtain ⟨k, z, hm, hk, rfl, rfl, HF, hz, bel⟩ := hrel
        clear d1 d2
        obtain ⟨d1, d2⟩ := box_cell2 (by rw [← HW.out]; exact bel)
        by_cases hkl : k < n
        · have hkl1 : (k : Int) < (n : Int) := by omega
          have hke : k < ns.length := by rw [HL.out]; exact hkl
          obtain ⟨g, o, rfl, hg, hc⟩ := (HR.out.below bel).addr (by omega)
          have hce := hc k hke
          obtain ⟨x, hx⟩ : ∃ x, x = ns[k] := ⟨_, rfl⟩
          have hdr : ns.drop k = ns[k] :: ns.drop (k + 1) := List.drop_eq_getElem_cons hke
          rw [← hx] at hce hdr
          have hF1 := HF.out
          rw [hdr] at hF1
          rw [among_cons] at hF1
          have HF1 := Lib.hid hF1
          have HA1 := Lib.hid (HA.out _ bel x)
          clear hc hdr hx hF1
          cases hcn : ms.contains x with
          | true =>
            rw [hcn] at HA1
            have HC := Lib.hid hcn
            clear hcn
            go_wp2_with (go_at_call 23; refine HA1.out.mono ?_; rintro e w3 ⟨rfl, b3⟩)
            go_roundg (n - (k + 1))
            case measure => omega
            case rel =>
              refine ⟨k + 1, z + 1, rfl, by omega, by go_num, by go_num, Lib.hid ?_, by omega, below_then bel bel.size b3⟩
              have := HF1.out
              rw [HC.out] at this
              simp only [↓reduceIte] at this
              omega
          | false =>
            rw [hcn] at HA1
            have HC := Lib.hid hcn
            clear hcn
            go_wp2_with (go_at_call 23; refine HA1.out.mono ?_; rintro e w3 ⟨rfl, b3⟩)
            go_roundg (n - (k + 1))
            case measure => omega
            case rel =>
              refine ⟨k + 1, z, rfl, by omega, rfl, by go_num, Lib.hid ?_, by omega, below_then bel bel.size b3⟩
              have := HF1.out
              rw [HC.out] at this
              simp only [Bool.false_eq_true, ↓reduceIte] at this
              omega
        · obtain rfl : k = n := by omega
          have hd : ns.drop k = [] := List.drop_of_length_le (by rw [HL.out]; exact Nat.le_refl _)
          have hF1 := HF.out
          rw [hd] at hF1
          have HZ := Lib.hid (show among ns ms = z from by simpa [among] using hF1)
          clear hd hF1
          go_wp2_with fail
          go_quiet (fail)
          go_wp2_with fail
          go_quiet (fail)
          go_wp2_with fail
          go_ret
          refine ⟨by rw [HZ.out]; rfl, ?_⟩
          exact below_draws (below_then b b.size bel) _
end Go.Proofs.YtaopipghooaekaaDoor
