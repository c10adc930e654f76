/- muntinref22: Won, some: the contracts. -/
import Derived.Test.YtaopipghooaekaaDoorQRef
import Derived.Test.YtaopipghooaekaaDoorLow
set_option linter.unusedVariables false
set_option linter.unusedSimpArgs false
namespace Go.Proofs.YtaopipghooaekaaDoor
open Go.RowKit

set_option maxRecDepth 100000 in
set_option maxHeartbeats 2000000 in
theorem refwon_any (A : Option Addr) (n c : Nat) (ns : List Int) (A2 : Option Addr) (n2 c2 : Nat) (l : List Int) (w : World) (hr : RI w A ns) (hl : ns.length = n) (hn : n ≤ 100000000000000) (hr2 : RI w A2 l) (hl2 : l.length = n2) (hn2 : n2 ≤ 100000000000000) :
    Calls Tryd.prog 22 #[.agg #[.slice A n c], .slice A2 n2 c2] w fun e w' => e = .returned (.bool (wonB ns l)) ∧ Below w.heap.size w w' := by
  have b := below_alloc w (.cells #[.slice A n c] 24)
  have HR := Lib.hid (hr.below b)
  have HR2 := Lib.hid (hr2.below b)
  have HL := Lib.hid hl
  obtain ⟨q, hq⟩ : ∃ q, q = rightB ns := ⟨_, rfl⟩
  have HQ := Lib.hid (refright_any A n c ns _ HR.out hl hn)
  rw [← hq] at HQ
  have HQQ := Lib.hid hq
  have HA := Lib.hid fun (w1 : World) (h : RI w1 A2 l) (x : Int) => refhas_any A2 n2 c2 l x w1 h hl2 hn2
  clear hr hr2 hl hl2 hq
  go_enter Tryd.func22, Tryd.ntmps22
  go_wp2_with (go_at_call 17; refine HQ.out.mono ?_; rintro e w1 ⟨rfl, b1⟩; have c1 := box_cell b1)
  go_loopg [6, 7] n (fun m zi ki wr => ∃ (k z : Nat), m = n - k ∧ k ≤ n ∧ zi = .int .i64 z ∧ ki = .int .i64 k ∧ Hid (among ns l = z + among (ns.drop k) l) ∧ z ≤ k ∧ wr = w1)
  case atStart => exact ⟨0, 0, by omega, by omega, rfl, rfl, Lib.hid (by simp), by omega, rfl⟩
  case round =>
    obtain ⟨k, z, hm, hk, rfl, rfl, HF, hz, rfl⟩ := hrel
    by_cases hkl : k < n
    · have hkl1 : (k : Int) < (n : Int) := by omega
      have hke : k < ns.length := by rw [HL.out]; exact hkl
      obtain ⟨g, o, rfl, hg, hc⟩ := (HR.out.below b1).addr (by omega)
      have hce := hc k hke
      obtain ⟨x, hx⟩ : ∃ x, x = ns[k] := ⟨_, rfl⟩
      have hdr : ns.drop k = ns[k] :: ns.drop (k + 1) := List.drop_eq_getElem_cons hke
      rw [← hx] at hce hdr
      have hF1 := HF.out
      rw [hdr] at hF1
      rw [among_cons] at hF1
      have HF1 := Lib.hid hF1
      have HA1 := Lib.hid (HA.out _ (HR2.out.below b1) x)
      clear hc hdr hx hF1
      cases hcn : l.contains x with
      | true =>
        rw [hcn] at HA1
        have HC := Lib.hid hcn
        clear hcn
        go_wp2_with (go_at_call 36; refine HA1.out.mono ?_; rintro e w2 ⟨rfl, rfl⟩)
        go_roundg (n - (k + 1))
        case measure => omega
        case rel =>
          refine ⟨k + 1, z + 1, rfl, by omega, by go_num, by go_num, Lib.hid ?_, by omega, rfl⟩
          have := HF1.out
          rw [HC.out] at this
          simp only [↓reduceIte] at this
          omega
      | false =>
        rw [hcn] at HA1
        have HC := Lib.hid hcn
        clear hcn
        go_wp2_with (go_at_call 36; refine HA1.out.mono ?_; rintro e w2 ⟨rfl, rfl⟩)
        go_roundg (n - (k + 1))
        case measure => omega
        case rel =>
          refine ⟨k + 1, z, rfl, by omega, rfl, by go_num, Lib.hid ?_, by omega, rfl⟩
          have := HF1.out
          rw [HC.out] at this
          simp only [Bool.false_eq_true, ↓reduceIte] at this
          omega
    · obtain rfl : k = n := by omega
      have hd : ns.drop k = [] := List.drop_of_length_le (by rw [HL.out]; exact Nat.le_refl _)
      have hF1 := HF.out
      rw [hd] at hF1
      have hz2 : among ns l = z := by simpa [among] using hF1
      have HZ := Lib.hid hz2
      clear hd hF1 hz2
      have B1 := box_below b1
      cases q with
      | false =>
        go_wp2_with fail
        go_ret
        exact ⟨by rw [wonB_no HQQ.out.symm]; rfl, B1⟩
      | true =>
        by_cases hmo : k < 2 * z
        · have hmo1 : (k : Int) < 2 * (z : Int) := by omega
          have d := decide_eq_true hmo1
          have HM := Lib.hid (show mostB k z = true from decide_eq_true (by omega))
          clear hmo hmo1
          go_wp2_with fail
          go_ret
          exact ⟨by rw [wonB_ok HQQ.out.symm, HZ.out, HL.out, HM.out]; rfl, B1⟩
        · have hmo1 : ¬ (k : Int) < 2 * (z : Int) := by omega
          have d := decide_eq_false hmo1
          have HM := Lib.hid (show mostB k z = false from decide_eq_false (by omega))
          clear hmo hmo1
          go_wp2_with fail
          go_ret
          exact ⟨by rw [wonB_ok HQQ.out.symm, HZ.out, HL.out, HM.out]; rfl, B1⟩
/-- the nodes of a set of bits, those up to k -/
def bitsT (b : Nat) : Nat → List Int
  | 0 => []
  | k + 1 => bitsT b k ++ if b / 2 ^ k % 2 = 1 then [(k : Int) + 1] else []
def someT (b : Nat) : List Int := bitsT b 5
theorem bitsT_len (b : Nat) : ∀ k, (bitsT b k).length ≤ k
  | 0 => Nat.le_refl _
  | k + 1 => by
    have := bitsT_len b k
    simp only [bitsT, List.length_append]
    split <;> simp <;> omega
theorem bit_of (b k : Nat) : (bits .and .i64 ((b : Int) / 2 ^ k) 1 == 1) = decide (b / 2 ^ k % 2 = 1) := by
  rw [i64_and1, Bool.eq_iff_iff]
  simp only [beq_iff_eq, decide_eq_true_eq]
  rw [show ((b : Int) / 2 ^ k) = ((b / 2 ^ k : Nat) : Int) by push_cast; rfl]
  omega

set_option maxRecDepth 100000 in
set_option maxHeartbeats 2000000 in
theorem some_any (b : Nat) (w : World) (hb : b < 32) :
    Calls Tryd.prog 38 #[.int .i64 b] w fun e w' => ∃ A c m, e = .returned (.slice A m c) ∧ (someT b).length = m ∧ m ≤ 5 ∧ RI w' A (someT b) ∧ Below w.heap.size w w' := by
  go_enter Tryd.func38, Tryd.ntmps38
  go_wp2_with fail
  go_loopg [3, 4] 5 (fun m vi ki wr => ∃ (k : Nat) (V : Option Addr) (q vc : Nat), m = 5 - k ∧ k ≤ 5 ∧ ki = .int .i64 ((k : Int) + 1) ∧ vi = .slice V q vc ∧ q ≤ k ∧ wr.ownsRow w.heap.size 3 1 (.slice V q vc) q (iv (bitsT b k)) ∧ Below w.heap.size w wr)
  case atStart => exact ⟨0, none, 0, 0, by omega, by omega, by go_num, rfl, by omega, ⟨rfl, .inl ⟨rfl, rfl⟩⟩, Below.refl _ _⟩
  case round =>
    obtain ⟨k, V, q, vc, hm, hk, rfl, rfl, hq, own, bel⟩ := hrel
    by_cases hkl : k < 5
    · have hkl1 : (k : Int) + 1 ≤ 5 := by omega
      have hbit := bit_of b k
      by_cases hbk : b / 2 ^ k % 2 = 1
      · rw [decide_eq_true hbk] at hbit
        have HBK := Lib.hid hbk
        clear hbk
        go_wp2_with (at_builtin; refine wpList_append_one wr rfl (.tmp 15) (.tmp 17) 22 rfl w.heap.size 3 (.int .i64 0) 8 Tryd.underlying22 info_int rfl (.slice V q vc) q (iv (bitsT b k)) rfl own (.int .i64 ((k : Int) + 1)) rfl rfl (by unfold maxLen; omega) (by omega) bel.size ?_; intro v3 w3 own3 hg3)
        obtain ⟨V3, c3, rfl, -, -⟩ := own_shape own3
        go_roundg (5 - (k + 1))
        case measure => omega
        case rel =>
          refine ⟨k + 1, V3, q + 1, c3, rfl, by omega, by go_num, rfl, by omega, ?_, grown_below bel own hg3 bel.size (Nat.le_refl _)⟩
          simp only [bitsT]
          rw [if_pos HBK.out, iv_append]
          exact own3
      · rw [decide_eq_false hbk] at hbit
        have HBK := Lib.hid hbk
        clear hbk
        go_wp2_with fail
        go_roundg (5 - (k + 1))
        case measure => omega
        case rel =>
          refine ⟨k + 1, V, q, vc, rfl, by omega, by go_num, rfl, by omega, ?_, bel⟩
          simp only [bitsT]
          rw [if_neg HBK.out, List.append_nil]
          exact own
    · obtain rfl : k = 5 := by omega
      go_wp2_with fail
      go_ret
      exact ⟨V, vc, q, by simp, by have := own.1; simpa [someT] using this, hq, RI.own own, bel⟩
end Go.Proofs.YtaopipghooaekaaDoor
