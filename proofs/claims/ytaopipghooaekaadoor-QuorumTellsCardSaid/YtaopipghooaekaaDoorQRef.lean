/- muntinref22: has, Right, Won: the contracts. -/
import Derived.Test.YtaopipghooaekaaDoorQAgreePlain
import Derived.BigQuiet
set_option linter.unusedVariables false
set_option linter.unusedSimpArgs false
namespace Go.Proofs.YtaopipghooaekaaDoor
open Go.RowKit

set_option maxRecDepth 100000 in
set_option maxHeartbeats 400000 in
theorem refhas_any (A : Option Addr) (n c : Nat) (ns : List Int) (x : Int) (w : World) (hr : RI w A ns) (hl : ns.length = n) (hn : n ≤ 100000000000000) :
    Calls Tryd.prog 36 #[.slice A n c, .int .i64 x] w fun e w' => e = .returned (.bool (ns.contains x)) ∧ w' = w := by
  have HR := Lib.hid hr
  have HL := Lib.hid hl
  clear hr hl
  go_enter Tryd.func36, Tryd.ntmps36
  go_wp2_with fail
  go_loopg [5] n (fun q ki wr => ∃ k : Nat, q = n - k ∧ k ≤ n ∧ ki = .int .i64 k ∧ Hid (x ∉ ns.take k) ∧ wr = w)
  case atStart => exact ⟨0, by omega, by omega, rfl, Lib.hid (by simp), rfl⟩
  case round =>
    obtain ⟨k, hm, hk, rfl, HF, rfl⟩ := hrel
    by_cases hkl : k < n
    · have hkl1 : (k : Int) < (n : Int) := by omega
      have hke : k < ns.length := by rw [HL.out]; exact hkl
      obtain ⟨g, o, rfl, hg, hc⟩ := HR.out.addr (by omega)
      have hce := hc k hke
      have HTX := Lib.hid (show ns.take (k + 1) = ns.take k ++ [ns[k]] from List.take_succ_eq_append_getElem hke)
      have HIN := Lib.hid (show ns[k] ∈ ns from List.getElem_mem hke)
      obtain ⟨y, hy⟩ : ∃ y, y = ns[k] := ⟨_, rfl⟩
      rw [← hy] at hce HTX HIN
      clear hc hy
      by_cases hyx : y = x
      · have d : (y == x) = true := beq_iff_eq.2 hyx
        have HYX := Lib.hid hyx
        clear hyx
        go_wp2_with fail
        go_ret
        have : ns.contains x = true := by rw [List.contains_iff_mem]; exact HYX.out ▸ HIN.out
        exact ⟨by rw [this]; rfl, rfl⟩
      · have d : (y == x) = false := beq_eq_false_iff_ne.2 hyx
        have HYX := Lib.hid hyx
        clear hyx
        go_wp2_with fail
        go_roundg (n - (k + 1))
        case measure => omega
        case rel =>
          refine ⟨k + 1, rfl, by omega, by go_num, Lib.hid ?_, rfl⟩
          rw [HTX.out, List.mem_append, List.mem_singleton]
          rintro (h | h)
          · exact HF.out h
          · exact HYX.out h.symm
    · obtain rfl : k = n := by omega
      go_wp2_with fail
      go_ret
      have hno := HF.out
      rw [List.take_of_length_le (by rw [HL.out]; exact Nat.le_refl _)] at hno
      have : ns.contains x = false := by
        cases hc : ns.contains x with
        | false => rfl
        | true => rw [List.contains_iff_mem] at hc; exact absurd hc hno
      exact ⟨by rw [this]; rfl, rfl⟩

set_option maxRecDepth 100000 in
set_option maxHeartbeats 2000000 in
theorem refright_any (A : Option Addr) (n c : Nat) (ns : List Int) (w : World) (hr : RI w A ns) (hl : ns.length = n) (hn : n ≤ 100000000000000) :
    Calls Tryd.prog 17 #[.agg #[.slice A n c]] w fun e w' => e = .returned (.bool (rightB ns)) ∧ Below w.heap.size w w' := by
  have b := below_alloc w (.cells #[.slice A n c] 24)
  by_cases hbad : n < 1 ∨ 5 < n
  · have hrb : rightB ns = false := by
      cases h : rightB ns with
      | false => rfl
      | true => have := right_len h; omega
    rw [hrb]
    rcases hbad with h | h
    · obtain rfl : n = 0 := by omega
      clear hr hl hrb
      go_enter Tryd.func17, Tryd.ntmps17
      go_wp2_with fail
      go_ret
      exact ⟨rfl, b⟩
    · have d1 : decide ((n : Int) < 1) = false := decide_eq_false (by omega)
      have d2 : decide ((5 : Int) < (n : Int)) = true := decide_eq_true (by omega)
      clear hr hl hrb h
      go_enter Tryd.func17, Tryd.ntmps17
      go_wp2_with fail
      go_ret
      exact ⟨rfl, b⟩
  · have h1 : 1 ≤ n := by omega
    have h5 : n ≤ 5 := by omega
    have d1 : decide ((n : Int) < 1) = false := decide_eq_false (by omega)
    have d2 : decide ((5 : Int) < (n : Int)) = false := decide_eq_false (by omega)
    obtain ⟨wb, hwb⟩ : ∃ wb, wb = w.alloc (.cells #[.slice A n c] 24) := ⟨_, rfl⟩
    have HW := Lib.hid hwb
    have HB := Lib.hid (show ∀ w1, Below wb.heap.size wb w1 → w1.cell? ⟨w.heap.size, 0, none⟩ = some (.slice A n c) from fun w1 h => box_cell (by rw [← hwb]; exact h))
    rw [← hwb] at b
    have HR := Lib.hid (hr.below b)
    have HL := Lib.hid hl
    clear hr hl hbad hwb
    go_enter Tryd.func17, Tryd.ntmps17
    go_wp2_with fail
    go_loopg [4] n (fun q ki wr => ∃ (k : Nat), q = n - k ∧ k ≤ n ∧ ki = .int .i64 k ∧ Hid (∃ z : Int, rises 0 ns = rises z (ns.drop k) ∧ ((k = 0 ∧ z = 0) ∨ (∃ h : k - 1 < ns.length, 0 < k ∧ z = ns[k - 1] ∧ 1 ≤ z))) ∧ Below wb.heap.size wb wr)
    case atStart => exact ⟨0, by omega, by omega, rfl, Lib.hid ⟨0, by simp, .inl ⟨rfl, rfl⟩⟩, by rw [HW.out]; exact Below.refl _ _⟩
    case round =>
      obtain ⟨k, hm, hk, rfl, HF, bel⟩ := hrel
      have c1 := HB.out _ bel
      by_cases hkl : k < n
      · have hkl1 : (k : Int) < (n : Int) := by omega
        have hke : k < ns.length := by rw [HL.out]; exact hkl
        obtain ⟨g, o, rfl, hg, hc⟩ := (HR.out.below bel).addr (by omega)
        have hce := hc k hke
        have HIN := Lib.hid (show ns.drop k = ns[k] :: ns.drop (k + 1) from List.drop_eq_getElem_cons hke)
        have HAT := Lib.hid (show ∀ x, x = ns[k] → ∃ h : k + 1 - 1 < ns.length, x = ns[k + 1 - 1] from fun x hx => ⟨by omega, hx⟩)
        obtain ⟨x, hx⟩ : ∃ x, x = ns[k] := ⟨_, rfl⟩
        rw [← hx] at hce HIN
        have HAT2 := Lib.hid (HAT.out x hx)
        by_cases hx1 : x < 1
        · have e1 := decide_eq_true hx1
          have HN := Lib.hid (show nodeB x = false from decide_eq_false (by omega))
          clear hc hx hx1
          go_wp2_with fail
          go_quiet (fail)
          go_wp2_with fail
          go_ret
          refine ⟨?_, below_draws (b.trans (bel.mono b.size)) _⟩
          obtain ⟨z, hz, -⟩ := HF.out
          have : rightB ns = false := by simp [rightB, hz, HIN.out, rises, HN.out]
          rw [this]; rfl
        · have e1 := decide_eq_false hx1
          by_cases hx5 : 5 < x
          · have e2 := decide_eq_true hx5
            have HN := Lib.hid (show nodeB x = false from decide_eq_false (by omega))
            clear hc hx hx1 hx5
            go_wp2_with fail
            go_quiet (fail)
            go_wp2_with fail
            go_ret
            refine ⟨?_, below_draws (b.trans (bel.mono b.size)) _⟩
            obtain ⟨z, hz, -⟩ := HF.out
            have : rightB ns = false := by simp [rightB, hz, HIN.out, rises, HN.out]
            rw [this]; rfl
          · have e2 := decide_eq_false hx5
            have HN := Lib.hid (show nodeB x = true from decide_eq_true (by omega))
            have HX1 := Lib.hid hx1
            cases k with
            | zero =>
              simp only [Nat.add_zero] at hce
              clear hc hx hx1 hx5
              go_wp2_with fail
              go_quiet (fail)
              go_wp2_with fail
              go_roundg (n - (0 + 1))
              case measure => omega
              case rel =>
                refine ⟨0 + 1, rfl, by omega, by go_num, Lib.hid ⟨x, ?_, .inr ?_⟩, below_draws bel _⟩
                · obtain ⟨z, hz, h | ⟨_, h, _⟩⟩ := HF.out
                  · rw [hz, HIN.out, h.2]
                    simp only [rises, HN.out, Bool.true_and]
                    have := HX1.out
                    rw [decide_eq_true (show (0 : Int) < x by omega)]; rfl
                  · omega
                · obtain ⟨h, e⟩ := HAT2.out
                  exact ⟨h, by omega, e, by have := HX1.out; omega⟩
            | succ q =>
              have hq0 : q < ns.length := by omega
              have hcp := hc q hq0
              have HP := Lib.hid (show ∃ z : Int, rises 0 ns = rises z (ns.drop (q + 1)) ∧ z = ns[q] from by
                obtain ⟨z, hz, h | ⟨h1, h2, h3, h4⟩⟩ := HF.out
                · omega
                · exact ⟨z, hz, h3⟩)
              obtain ⟨y, hy⟩ : ∃ y, y = ns[q] := ⟨_, rfl⟩
              rw [← hy] at hcp HP
              have hq1 : (q : Int) < (n : Int) := by omega
              have hq2 : (0 : Int) ≤ (q : Int) := by omega
              by_cases hxy : x ≤ y
              · have e3 := decide_eq_true hxy
                have HXY := Lib.hid hxy
                clear hc hx hx1 hx5 hy hxy
                go_wp2_with fail
                go_quiet (fail)
                go_wp2_with fail
                go_ret
                refine ⟨?_, below_draws (b.trans (bel.mono b.size)) _⟩
                obtain ⟨z, hz, rfl⟩ := HP.out
                have hlt : decide (z < x) = false := decide_eq_false (by have := HXY.out; omega)
                have : rightB ns = false := by simp [rightB, hz, HIN.out, rises, HN.out, hlt]
                rw [this]; rfl
              · have e3 := decide_eq_false hxy
                have HXY := Lib.hid hxy
                clear hc hx hx1 hx5 hy hxy
                go_wp2_with fail
                go_quiet (fail)
                go_wp2_with fail
                go_roundg (n - (q + 1 + 1))
                case measure => omega
                case rel =>
                  refine ⟨q + 1 + 1, rfl, by omega, by go_num, Lib.hid ⟨x, ?_, .inr ?_⟩, below_draws bel _⟩
                  · obtain ⟨z, hz, rfl⟩ := HP.out
                    rw [hz, HIN.out]
                    simp only [rises, HN.out, Bool.true_and]
                    have := HXY.out
                    rw [decide_eq_true (show z < x by omega)]; rfl
                  · obtain ⟨h, e⟩ := HAT2.out
                    exact ⟨h, by omega, e, by have := HX1.out; omega⟩
      · obtain rfl : k = n := by omega
        go_wp2_with fail
        go_ret
        obtain ⟨z, hz, -⟩ := HF.out
        have hne : ns.isEmpty = false := by cases ns with | nil => (have := HL.out; simp at this; omega) | cons a t => rfl
        have : rightB ns = true := by
          rw [List.drop_of_length_le (by rw [HL.out]; exact Nat.le_refl _)] at hz
          simp [rightB, hz, rises, hne]
        exact ⟨by rw [this]; rfl, b.trans (bel.mono b.size)⟩
end Go.Proofs.YtaopipghooaekaaDoor
