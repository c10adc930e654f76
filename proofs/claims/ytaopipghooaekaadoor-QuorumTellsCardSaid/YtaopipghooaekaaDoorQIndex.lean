/- slices.IndexFunc at matches, with Agreed's own test. -/
import Derived.Test.YtaopipghooaekaaDoorQMatch
import Derived.Deep.LoopGhost
set_option linter.unusedVariables false
set_option linter.unusedSimpArgs false
namespace Go.Proofs.YtaopipghooaekaaDoor
open Go.RowKit

/-- where a node's first match stands -/
def firstOf (ms : List (Int × Int)) (v : Int) : Nat := ms.findIdx fun m => m.1 == v

def firstI (ms : List (Int × Int)) (v : Int) : Int := if firstOf ms v < ms.length then firstOf ms v else -1
theorem firstOf_cons (m : Int × Int) (ms : List (Int × Int)) (v : Int) : firstOf (m :: ms) v = if m.1 = v then 0 else firstOf ms v + 1 := by
  unfold firstOf
  rw [List.findIdx_cons]
  by_cases h : m.1 = v
  · simp [h]
  · rw [if_neg h, show (m.1 == v) = false from beq_eq_false_iff_ne.2 h]; rfl
theorem firstI_at {ms : List (Int × Int)} {v : Int} {k : Nat} (h : firstOf ms v = k) (hk : k < ms.length) : firstI ms v = k := by unfold firstI; rw [h, if_pos hk]
theorem firstI_no {ms : List (Int × Int)} {v : Int} (h : firstOf ms v = ms.length) : firstI ms v = -1 := by unfold firstI; rw [h, if_neg (by omega)]

set_option maxRecDepth 100000 in
set_option maxHeartbeats 1000000 in
theorem index_any (A : Option Addr) (n c : Nat) (ms : List (Int × Int)) (v : Int) (q : Addr) (w : World) (hr : RM w A ms) (hl : ms.length = n) (hn : n ≤ 100000000000000) (hq : w.cell? q = some (.int .i64 v)) (hlt : q.block < w.heap.size) (hs : q.spot = none) :
    Calls Tryd.prog 44 #[.slice A n c, .func (.func 45) #[] #[.pointer (some q)]] w fun e w' => e = .returned (.int .i64 (firstI ms v)) ∧ Below w.heap.size w w' := by
  have HR := Lib.hid hr
  have HL := Lib.hid hl
  have HT := Lib.hid fun (w1 : World) (h : Below w.heap.size w w1) (a b : Int) => test_any a b v q w1 (by rw [h.cell hlt]; exact hq) (Nat.lt_of_lt_of_le hlt h.size) hs
  clear hr hl hq hlt hs
  go_enter Tryd.func44, Tryd.ntmps44
  go_wp2_with fail
  go_loopg [8] n (fun m ki wr => ∃ k : Nat, m = n - k ∧ k ≤ n ∧ ki = .int .i64 k ∧ Hid (firstOf ms v = k + firstOf (ms.drop k) v) ∧ Below w.heap.size w wr)
  case atStart => exact ⟨0, by omega, by omega, rfl, Lib.hid (by simp), Below.refl _ _⟩
  case round =>
    obtain ⟨k, hm, hk, rfl, HF, bel⟩ := hrel
    by_cases hkl : k < n
    · have hkl1 : (k : Int) < (n : Int) := by omega
      have hke : k < ms.length := by rw [HL.out]; exact hkl
      obtain ⟨g, o, rfl, hg, hc⟩ := (HR.out.below bel).addr (by omega)
      obtain ⟨hc1, hc2⟩ := hc k hke
      obtain ⟨⟨a, b⟩, hx⟩ : ∃ x, x = ms[k] := ⟨_, rfl⟩
      have hdr : ms.drop k = ms[k] :: ms.drop (k + 1) := List.drop_eq_getElem_cons hke
      rw [← hx] at hc1 hc2 hdr
      simp only at hc1 hc2
      have hF1 := HF.out
      rw [hdr, firstOf_cons] at hF1
      have HF1 := Lib.hid hF1
      have HT1 := Lib.hid (HT.out _ bel a b)
      clear hc hdr hx hF1
      by_cases hav : a = v
      · have HV := Lib.hid hav
        rw [decide_eq_true hav] at HT1
        clear hav
        go_wp2_with (go_at_call 45; refine HT1.out.mono ?_; rintro e w2 ⟨rfl, b2⟩)
        go_ret
        refine ⟨?_, below_then bel bel.size b2⟩
        have := HF1.out
        rw [if_pos HV.out] at this
        rw [firstI_at this (by rw [HL.out]; omega)]
        simp
      · have HV := Lib.hid hav
        rw [decide_eq_false hav] at HT1
        clear hav
        go_wp2_with (go_at_call 45; refine HT1.out.mono ?_; rintro e w2 ⟨rfl, b2⟩)
        go_roundg (n - (k + 1))
        case measure => omega
        case rel =>
          refine ⟨k + 1, rfl, by omega, by go_num, Lib.hid ?_, below_then bel bel.size b2⟩
          have := HF1.out
          rw [if_neg HV.out] at this
          omega
    · obtain rfl : k = n := by omega
      have hd : ms.drop k = [] := List.drop_of_length_le (by rw [HL.out]; exact Nat.le_refl _)
      have hF1 := HF.out
      rw [hd] at hF1
      have HF1 := Lib.hid hF1
      clear hd hF1
      go_wp2_with fail
      go_ret
      refine ⟨?_, bel⟩
      rw [firstI_no (by rw [HF1.out, HL.out]; rfl)]
      rfl
end Go.Proofs.YtaopipghooaekaaDoor
