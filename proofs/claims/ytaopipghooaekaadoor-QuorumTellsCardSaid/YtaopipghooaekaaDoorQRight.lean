/- quorum.node, quorum.Right: the contracts. -/
import Derived.Test.YtaopipghooaekaaDoorQPlain
import Derived.Test.YtaopipghooaekaaDoorShelf
import Derived.Deep.LoopGhost
import Derived.Outline
set_option linter.unusedVariables false
set_option linter.unusedSimpArgs false
namespace Go.Proofs.YtaopipghooaekaaDoor
open Go.RowKit

theorem node_any (n : Int) (w : World) : Calls Tryd.prog 29 #[.int .i64 n] w fun e w' => e = .returned (.bool (nodeB n)) ∧ w' = w := by
  by_cases h1 : 1 ≤ n
  · by_cases h2 : n ≤ 5
    · have e : nodeB n = true := decide_eq_true ⟨h1, h2⟩
      rw [e]
      clear e
      go_enter Tryd.func29, Tryd.ntmps29
      go_wp2_with fail
      go_ret
      exact ⟨rfl, rfl⟩
    · have e : nodeB n = false := decide_eq_false (by omega)
      have d := decide_eq_false h2
      rw [e]
      clear e
      go_enter Tryd.func29, Tryd.ntmps29
      go_wp2_with fail
      go_ret
      exact ⟨rfl, rfl⟩
  · have e : nodeB n = false := decide_eq_false (by omega)
    have d := decide_eq_false h1
    rw [e]
    clear e
    go_enter Tryd.func29, Tryd.ntmps29
    go_wp2_with fail
    go_ret
    exact ⟨rfl, rfl⟩

set_option maxRecDepth 100000 in
set_option maxHeartbeats 2000000 in
theorem right_any (A : Option Addr) (n c : Nat) (ns : List Int) (w : World) (hr : RI w A ns) (hl : ns.length = n) (hn : n ≤ 100000000000000) :
    Calls Tryd.prog 14 #[.agg #[.slice A n c]] w fun e w' => e = .returned (errQ (rightE ns)) ∧ Below w.heap.size w w' := by
  have b := below_alloc w (.cells #[.slice A n c] 24)
  have HR := Lib.hid (hr.below b)
  have HL := Lib.hid hl
  clear hr hl
  go_enter Tryd.func14, Tryd.ntmps14
  go_wp2_with fail
  go_loopg [3, 9] n (fun m li ki wr => ∃ (k : Nat) (z : Int), m = n - k ∧ k ≤ n ∧ li = .int .i64 z ∧ ki = .int .i64 k ∧ Hid (rises 0 ns = rises z (ns.drop k)) ∧ Hid ((k = 0 ∧ z = 0) ∨ (0 < k ∧ 1 ≤ z)) ∧ wr = w.alloc (.cells #[.slice A n c] 24))
  case atStart => exact ⟨0, 0, by omega, by omega, rfl, rfl, Lib.hid (by simp), Lib.hid (.inl ⟨rfl, rfl⟩), rfl⟩
  case round =>
    obtain ⟨k, z, hm, hk, rfl, rfl, HF, HZ, rfl⟩ := hrel
    by_cases hkl : k < n
    · have hkl1 : (k : Int) < (n : Int) := by omega
      have hke : k < ns.length := by rw [HL.out]; exact hkl
      obtain ⟨g, o, rfl, hg, hc⟩ := HR.out.addr (by omega)
      have hce := hc k hke
      obtain ⟨x, hx⟩ : ∃ x, x = ns[k] := ⟨_, rfl⟩
      have hdr : ns.drop k = ns[k] :: ns.drop (k + 1) := List.drop_eq_getElem_cons hke
      rw [← hx] at hce hdr
      have hF1 := HF.out
      rw [hdr] at hF1
      simp only [rises] at hF1
      have HF1 := Lib.hid hF1
      clear hc hdr hx hF1
      have HN := Lib.hid (node_any x)
      cases hnb : nodeB x with
      | false =>
        rw [hnb] at HN
        have HB := Lib.hid hnb
        clear hnb
        go_wp2_with (go_at_call 29; refine (HN.out _).mono ?_; rintro e w1 ⟨rfl, rfl⟩)
        go_ret
        refine ⟨?_, b⟩
        have : rightB ns = false := by simp [rightB, HF1.out, HB.out]
        rw [rightE_no this]
        rfl
      | true =>
        rw [hnb] at HN
        have HB := Lib.hid hnb
        clear hnb
        by_cases hle : x ≤ z
        · have d := decide_eq_true hle
          go_wp2_with (go_at_call 29; refine (HN.out _).mono ?_; rintro e w1 ⟨rfl, rfl⟩)
          go_ret
          refine ⟨?_, b⟩
          have : rightB ns = false := by
            have h : decide (z < x) = false := decide_eq_false (by omega)
            simp [rightB, HF1.out, h]
          rw [rightE_no this]
          rfl
        · have d := decide_eq_false hle
          go_wp2_with (go_at_call 29; refine (HN.out _).mono ?_; rintro e w1 ⟨rfl, rfl⟩)
          go_roundg (n - (k + 1))
          case measure => omega
          case rel =>
            refine ⟨k + 1, x, rfl, by omega, rfl, by go_num, Lib.hid ?_, Lib.hid (.inr ⟨by omega, ?_⟩), rfl⟩
            · rw [HF1.out, HB.out, decide_eq_true (show z < x by omega)]; simp
            · have := of_decide_eq_true HB.out; omega
    · obtain rfl : k = n := by omega
      have hd : ns.drop k = [] := List.drop_of_length_le (by rw [HL.out]; exact Nat.le_refl _)
      have hF1 := HF.out
      rw [hd] at hF1
      simp only [rises] at hF1
      have HF1 := Lib.hid hF1
      clear hd hF1
      rcases HZ.out with ⟨h1, h2⟩ | ⟨h1, h2⟩
      · subst h1 h2
        go_wp2_with fail
        go_ret
        refine ⟨?_, b⟩
        have : rightB ns = false := by rw [List.eq_nil_of_length_eq_zero HL.out]; rfl
        rw [rightE_no this]
        rfl
      · have hz : (z == 0) = false := beq_eq_false_iff_ne.2 (by omega)
        go_wp2_with fail
        go_ret
        refine ⟨?_, b⟩
        have : rightB ns = true := by
          have hne : ns.isEmpty = false := by cases ns with | nil => (have := HL.out; simp at this; omega) | cons a t => rfl
          simp [rightB, HF1.out, hne]
        rw [rightE_ok this]
        rfl
end Go.Proofs.YtaopipghooaekaaDoor
