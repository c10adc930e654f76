/- muntinref01.TakeNum, TakeBlob: the reference's number and blob at the front. -/
import Derived.Test.YtaopipghooaekaaDoorQRefNum
import Derived.Test.YtaopipghooaekaaDoorQTakeNum
import Derived.Deep.LoopGhost
import Derived.Laws.Bits64
import Derived.Laws.BitsLemmas
set_option linter.unusedVariables false
set_option linter.unusedSimpArgs false
namespace Go.Proofs.YtaopipghooaekaaDoor
open Go.RowKit

theorem val_take_lt64 (l : List UInt8) (i : Nat) (hi : i ≤ 8) : val (l.take i) < 256 ^ i := by
  have h := val_lt (l.take i)
  have : (l.take i).length ≤ i := by simp; omega
  exact Nat.lt_of_lt_of_le h (Nat.pow_le_pow_right (by decide) this)
theorem val_ge (l : List UInt8) (h : l.length = 8) (h1 : 127 < (l.getD 0 0).toNat) : 9223372036854775808 ≤ val l := by
  cases l with
  | nil => simp at h
  | cons c l =>
    rw [val_cons]
    have h7 : l.length = 7 := by simpa using h
    rw [h7]
    have : 127 < c.toNat := by simpa [List.getD] using h1
    omega

set_option maxRecDepth 100000 in
set_option maxHeartbeats 1000000 in
theorem rtakenum_any (A : Option Addr) (len c : Nat) (bs : List UInt8) (w : World) (hl : bs.length = len) (hc : len ≤ c) (hn : len ≤ 140737488351232) (hr : RB w A bs) :
    Calls Tryd.prog 43 #[.slice A len c] w fun e w' => e = .returned (.tuple #[.int .i64 (takeV bs), .int .i64 (takeN bs), .int .i64 (takeE bs)]) ∧ w' = w := by
  subst hl
  by_cases h0 : bs.length = 0
  · have e1 : takeE bs = 3 := by simp [takeE, h0]
    have e2 : takeV bs = 0 := by simp [takeV, e1]
    have e3 : takeN bs = 0 := by simp [takeN, e1]
    rw [e1, e2, e3]
    clear e1 e2 e3
    rw [h0]
    go_enter Tryd.func43, Tryd.ntmps43
    go_wp2_with fail
    go_ret3
    exact ⟨rfl, rfl⟩
  · obtain ⟨g, o, rfl, hg, hcell⟩ := hr.addr (by omega)
    obtain ⟨k, hk⟩ : ∃ k, k = (bs.getD 0 0).toNat := ⟨_, rfl⟩
    have hk256 : k < 256 := by rw [hk]; exact (bs.getD 0 0).toNat_lt
    have c0 : w.cell? ⟨g, o, none⟩ = some (.int .u8 (k : Int)) := by
      have := hcell 0 (by omega)
      rw [hk]
      simp [List.getD, show 0 < bs.length by omega]
    have hlen0 : (0 : Int) < (bs.length : Int) := by omega
    by_cases h8 : 8 < k
    · have e1 : takeE bs = 4 := by simp only [takeE, ← hk]; rw [if_neg h0, if_pos h8]
      have e2 : takeV bs = 0 := by simp [takeV, e1]
      have e3 : takeN bs = 0 := by simp [takeN, e1]
      rw [e1, e2, e3]
      clear e1 e2 e3 hk
      go_enter Tryd.func43, Tryd.ntmps43
      go_wp2_with fail
      go_ret3
      exact ⟨rfl, rfl⟩
    · by_cases hs : bs.length ≤ k
      · have e1 : takeE bs = 3 := by simp only [takeE, ← hk]; rw [if_neg h0, if_neg h8, if_pos hs]
        have e2 : takeV bs = 0 := by simp [takeV, e1]
        have e3 : takeN bs = 0 := by simp [takeN, e1]
        rw [e1, e2, e3]
        clear e1 e2 e3 hk
        go_enter Tryd.func43, Tryd.ntmps43
        go_wp2_with fail
        go_ret3
        exact ⟨rfl, rfl⟩
      · by_cases hk0 : k = 0
        · have e1 : takeE bs = 0 := by simp only [takeE, ← hk]; rw [if_neg h0, if_neg h8, if_neg hs, if_neg (by omega), if_neg (by omega)]
          have e2 : takeV bs = 0 := by unfold takeV; rw [if_pos e1, ← hk, hk0]; simp [val]
          have e3 : takeN bs = 1 := by unfold takeN; rw [if_pos e1, ← hk, hk0]
          rw [e1, e2, e3]
          subst hk0
          clear e1 e2 e3 hk
          go_enter Tryd.func43, Tryd.ntmps43
          go_wp2_with fail
          refine wp_loop_rounds 1 ?_
          rw [rounds_succ]
          go_wp2_with fail
          go_ret3
          exact ⟨rfl, rfl⟩
        · obtain ⟨d, hd⟩ : ∃ d, d = (bs.getD 1 0).toNat := ⟨_, rfl⟩
          have c1 : w.cell? ⟨g, o + 1, none⟩ = some (.int .u8 (d : Int)) := by
            have := hcell 1 (by omega)
            rw [hd]
            simp [List.getD, show 1 < bs.length by omega]
          have hlen1 : (1 : Int) < (bs.length : Int) := by omega
          by_cases hd0 : d = 0
          · have e1 : takeE bs = 4 := by
              simp only [takeE, ← hk, ← hd]; rw [if_neg h0, if_neg h8, if_neg hs]
              split
              · rfl
              · rw [if_pos (by omega)]
            have e2 : takeV bs = 0 := by simp [takeV, e1]
            have e3 : takeN bs = 0 := by simp [takeN, e1]
            rw [e1, e2, e3]
            subst hd0
            clear e1 e2 e3 hk hd
            go_enter Tryd.func43, Tryd.ntmps43
            go_wp2_with fail
            go_ret3
            exact ⟨rfl, rfl⟩
          · obtain ⟨l, hl⟩ : ∃ l, l = (bs.drop 1).take k := ⟨_, rfl⟩
            have hll : l.length = k := by rw [hl]; simp; omega
            have hld : (l.getD 0 0) = bs.getD 1 0 := by rw [hl]; simp [List.getD, List.getElem?_take, show 0 < k by omega]
            have hcl : ∀ i (hi : i < l.length), w.cell? ⟨g, o + 1 + i, none⟩ = some (.int .u8 (l[i].toNat)) := fun i hi => by
              have := hcell (1 + i) (by omega)
              rw [Nat.add_assoc, this]
              subst hl
              simp [Nat.add_comm]
            have hfin : (takeE bs = 4 ∧ takeV bs = 0 ∧ takeN bs = 0 ∧ 9223372036854775808 ≤ val l) ∨ (takeE bs = 0 ∧ takeV bs = val l ∧ takeN bs = 1 + k ∧ val l < 9223372036854775808) := by
              by_cases hb : k = 8 ∧ 127 < d
              · left
                have e1 : takeE bs = 4 := by simp only [takeE, ← hk, ← hd]; rw [if_neg h0, if_neg h8, if_neg hs, if_pos hb]
                exact ⟨e1, by simp [takeV, e1], by simp [takeN, e1], val_ge l (by omega) (by rw [hld, ← hd]; exact hb.2)⟩
              · right
                have e1 : takeE bs = 0 := by simp only [takeE, ← hk, ← hd]; rw [if_neg h0, if_neg h8, if_neg hs, if_neg hb, if_neg (by omega)]
                refine ⟨e1, by unfold takeV; rw [if_pos e1, ← hk, ← hl], by unfold takeN; rw [if_pos e1, ← hk], ?_⟩
                have := val_take_lt l (by omega) (fun h => by rw [hld, UInt8.lt_iff_toNat_lt, ← hd]; have : (128 : UInt8).toNat = 128 := rfl; omega) l.length (Nat.le_refl _)
                rwa [List.take_length] at this
            have HF := Lib.hid hfin
            have HC := Lib.hid hcl
            have HL := Lib.hid hll
            clear hcell hr hl hcl hll hld hk hd hfin
            generalize takeE bs = E at HF ⊢
            generalize takeV bs = V at HF ⊢
            generalize takeN bs = N at HF ⊢
            go_enter Tryd.func43, Tryd.ntmps43
            go_wp2_with fail
            go_loopg [6, 7] k (fun m u i wr => ∃ (j : Nat) (x : Nat), m = k - j ∧ j ≤ k ∧ i = .int .i64 ((j + 1 : Nat) : Int) ∧ u = .int .u64 x ∧ Hid (x = val (l.take j)) ∧ wr = w)
            case atStart => exact ⟨0, 0, by omega, by omega, rfl, rfl, Lib.hid (by simp [val]), rfl⟩
            case round =>
              obtain ⟨j, x, hm, hj, rfl, rfl, HX, rfl⟩ := hrel
              by_cases hlt : j < k
              · have hjl : j < l.length := by rw [HL.out]; exact hlt
                have hcj := HC.out j hjl
                have hx1 : val (l.take (j + 1)) = x * 256 + l[j].toNat := by rw [List.take_succ_eq_append_getElem hjl, val_snoc, ← HX.out]
                have hb := val_take_lt64 l (j + 1) (by omega)
                have h256 : 256 ^ (j + 1) ≤ 18446744073709551616 := Nat.le_trans (Nat.pow_le_pow_right (by decide) (show j + 1 ≤ 8 by omega)) (by decide)
                have hx2 : x * 256 + l[j].toNat < 18446744073709551616 := by rw [← hx1]; omega
                have hw1 : IntKind.wrap .u64 ((x : Int) * 256) = (x : Int) * 256 := by rw [IntKind.wrap_u64]; omega
                have hw2 : IntKind.wrap .u64 ((x : Int) * 256 + (l[j].toNat : Int)) = ((x * 256 + l[j].toNat : Nat) : Int) := by rw [IntKind.wrap_u64]; omega
                have hw0 : IntKind.wrap .u64 (l[j].toNat : Int) = (l[j].toNat : Int) := by rw [IntKind.wrap_u64]; have := l[j].toNat_lt; omega
                have hi1 : ((j + 1 : Nat) : Int) ≤ (k : Int) := by omega
                have hi2 : ((j + 1 : Nat) : Int) < (bs.length : Int) := by omega
                have hcj2 : wr.cell? ⟨g, o + (j + 1), none⟩ = some (.int .u8 (l[j].toNat)) := by rw [← hcj]; congr 2; omega
                have HX1 := Lib.hid hx1
                clear hx1 hb h256 hx2 hcj
                go_wp2_with fail
                go_roundg (k - (j + 1))
                case measure => omega
                case rel => exact ⟨j + 1, x * 256 + l[j].toNat, rfl, by omega, by go_num, rfl, Lib.hid HX1.out.symm, rfl⟩
              · obtain rfl : j = k := by omega
                have hx : x = val l := by rw [HX.out, List.take_of_length_le (by have := HL.out; omega)]
                subst hx
                rcases HF.out with ⟨rfl, rfl, rfl, hv⟩ | ⟨rfl, rfl, rfl, hv⟩
                · have hgt : decide ((9223372036854775807 : Int) < (val l : Int)) = true := decide_eq_true (by omega)
                  have hii : ¬ ((j + 1 : Nat) : Int) ≤ (j : Int) := by omega
                  clear hv HF HX
                  go_wp2_with fail
                  go_ret3
                  exact ⟨rfl, rfl⟩
                · have hgt : decide ((9223372036854775807 : Int) < (val l : Int)) = false := decide_eq_false (by omega)
                  have hw3 : IntKind.wrap .i64 (val l : Int) = (val l : Int) := by rw [IntKind.wrap_i64]; omega
                  have hii : ¬ ((j + 1 : Nat) : Int) ≤ (j : Int) := by omega
                  clear hv HF HX
                  go_wp2_with fail
                  go_ret3
                  exact ⟨by simp, rfl⟩
end Go.Proofs.YtaopipghooaekaaDoor
