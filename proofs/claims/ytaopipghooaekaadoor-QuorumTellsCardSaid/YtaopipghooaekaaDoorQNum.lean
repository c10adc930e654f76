/- quorum.Read$1: the contract. -/
import Derived.Test.YtaopipghooaekaaDoorQReadPlain
import Derived.RangeFuncBox
set_option linter.unusedVariables false
set_option linter.unusedSimpArgs false
namespace Go.Proofs.YtaopipghooaekaaDoor
open Go.RowKit

set_option maxRecDepth 100000 in
set_option maxHeartbeats 2000000 in
theorem rnum1_any (p : Nat) (A : Option Addr) (n c : Nat) (bs : List UInt8) (w0 w : World) (hp : w.heap[p]? = some (.cells #[.slice A n c] 37 (0, 0))) (hr : RB w0 A bs) (hl : bs.length = n) (hc : n ≤ c) (hn : n ≤ 140737488351232) (hb : Below w0.heap.size w0 w) :
    Calls Tryd.prog 40 #[.pointer (some ⟨p, 0, none⟩)] w fun e w' => e = .returned (.int .i64 (numI bs)) ∧ ∃ A' n' c', w'.heap[p]? = some (.cells #[.slice A' n' c'] 37 (0, 0)) ∧ RB w0 A' (numR bs) ∧ (numR bs).length = n' ∧ n' ≤ c' ∧ n' ≤ n ∧ w.grownBy w' (some p) := by
  have hT := takenum_any A n c bs w hl hc hn (hr.below hb)
  have HP := Lib.hid (show w.cell? ⟨p, 0, none⟩ = some (.slice A n c) by simp [World.cell?, hp])
  have hcp := HP.out
  have hfz : w.frozen? ⟨p, 0, none⟩ = false := by simp [World.frozen?, hp]
  by_cases he : takeE bs = 0
  · rw [he, errV_zero] at hT
    have HT := Lib.hid hT
    rw [numI_ok he]
    obtain ⟨u, hu⟩ : ∃ u, u = takeN bs := ⟨_, rfl⟩
    obtain ⟨v, hv⟩ : ∃ v, v = takeV bs := ⟨_, rfl⟩
    have hul := takeN_le bs
    have hp1 : 1 ≤ takeN bs := by unfold takeN; rw [if_pos he]; omega
    rw [← hu, hl] at hul
    rw [← hu] at hp1
    rw [← hu, ← hv] at HT
    rw [← hv]
    have hrl : (numR bs).length = n - u := by rw [numR_len, hl, hu]
    have hrd : numR bs = bs.drop u := by unfold numR; rw [hu]
    have HRL := Lib.hid hrl
    have HRD := Lib.hid hrd
    have HL := Lib.hid hl
    obtain ⟨g, o, rfl, -, -⟩ := hr.addr (by omega)
    clear hT hu hv he hrl hrd hl
    go_enter Tryd.func40, Tryd.ntmps40
    go_wp2_with (go_at_call 41; refine HT.out.mono ?_; rintro e w1 ⟨rfl, h1⟩; obtain rfl : w = w1 := h1.symm)
    case inl =>
      go_ret
      refine ⟨rfl, _, _, _, heap_setCell_same _ _ _ _ _ _ hp, ?_, HRL.out, by omega, by omega, grownBy_setCell' w p _⟩
      have e : numR bs = [] := List.eq_nil_of_length_eq_zero (by rw [HRL.out]; omega)
      rw [e]
      exact RB.nil _ _
    case inr =>
      go_ret
      refine ⟨rfl, _, _, _, heap_setCell_same _ _ _ _ _ _ hp, ?_, HRL.out, by omega, by omega, grownBy_setCell' w p _⟩
      rw [HRD.out]
      exact RB.drop hr u
  · rw [numI_no he, numR_no he]
    have h1 : takeN bs = 0 := by unfold takeN; rw [if_neg he]
    rw [errV_pos _ he] at hT
    have HT := Lib.hid hT
    clear hT he h1
    go_enter Tryd.func40, Tryd.ntmps40
    go_wp2_with (go_at_call 41; refine HT.out.mono ?_; rintro e w1 ⟨rfl, h1⟩; obtain rfl : w = w1 := h1.symm)
    go_ret
    exact ⟨rfl, _, _, _, hp, hr, hl, hc, Nat.le_refl _, ⟨rfl, rfl, rfl, Nat.le_refl _, fun _ _ _ => rfl⟩⟩
end Go.Proofs.YtaopipghooaekaaDoor
