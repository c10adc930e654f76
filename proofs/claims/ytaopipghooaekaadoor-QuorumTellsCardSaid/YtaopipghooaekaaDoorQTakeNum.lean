/- wire.TakeNum: the number at the front. -/
import Derived.Test.YtaopipghooaekaaDoorQWire
set_option linter.unusedVariables false
set_option linter.unusedSimpArgs false
namespace Go.Proofs.YtaopipghooaekaaDoor
open Go.RowKit

def val (l : List UInt8) : Nat := l.foldl (fun n c => n * 256 + c.toNat) 0
theorem val_from (l : List UInt8) : ∀ s, l.foldl (fun n c => n * 256 + c.toNat) s = s * 256 ^ l.length + val l := by
  unfold val
  induction l with
  | nil => intro s; simp
  | cons c l ih =>
    intro s
    simp only [List.foldl_cons]
    rw [ih (s * 256 + c.toNat), ih (0 * 256 + c.toNat), List.length_cons, Nat.pow_succ, Nat.add_mul, Nat.zero_mul, Nat.zero_add, Nat.mul_assoc, Nat.mul_comm 256, Nat.add_assoc]
theorem val_cons (c : UInt8) (l : List UInt8) : val (c :: l) = c.toNat * 256 ^ l.length + val l := by
  have := val_from l (0 * 256 + c.toNat)
  simp only [Nat.zero_mul, Nat.zero_add] at this
  show List.foldl _ (0 * 256 + c.toNat) l = _
  simpa using this
theorem val_snoc (l : List UInt8) (c : UInt8) : val (l ++ [c]) = val l * 256 + c.toNat := by simp [val]
theorem val_lt (l : List UInt8) : val l < 256 ^ l.length := by
  induction l with
  | nil => simp [val]
  | cons c l ih =>
    rw [val_cons, List.length_cons, Nat.pow_succ]
    have hc := c.toNat_lt
    have : c.toNat * 256 ^ l.length ≤ 255 * 256 ^ l.length := Nat.mul_le_mul_right _ (by omega)
    omega
theorem val_take_lt (l : List UInt8) (h8 : l.length ≤ 8) (h : l.length = 8 → l.getD 0 0 < 128) (i : Nat) (hi : i ≤ l.length) : val (l.take i) < 9223372036854775808 := by
  by_cases h7 : i ≤ 7
  · have h1 := val_lt (l.take i)
    have h2 : (l.take i).length ≤ 7 := by simp; omega
    have h3 : 256 ^ (l.take i).length ≤ 256 ^ 7 := Nat.pow_le_pow_right (by decide) h2
    have h4 : (256 : Nat) ^ 7 = 72057594037927936 := by decide
    omega
  · have hl : l.length = 8 := by omega
    rw [List.take_of_length_le (by omega)]
    have h0 := h hl
    cases l with
    | nil => simp at hl
    | cons c l =>
      have hl7 : l.length = 7 := by simpa using hl
      have h0 : c.toNat < 128 := by simpa [UInt8.lt_iff_toNat_lt] using h0
      rw [val_cons, hl7]
      have h1 := val_lt l
      rw [hl7] at h1
      have h4 : (256 : Nat) ^ 7 = 72057594037927936 := by decide
      rw [h4] at h1 ⊢
      omega

theorem or8_i64 (x c : Nat) (hc : c < 256) (h : x * 256 + c < 9223372036854775808) : bits .or .i64 ((x : Int) * 256) (c : Int) = ((x * 256 + c : Nat) : Int) ∧ x < 36028797018963968 := by
  have h63 : (2 : Nat) ^ 63 = 9223372036854775808 := by decide
  have h1 : x * 256 < 2 ^ 63 := by rw [h63]; exact Nat.lt_of_le_of_lt (Nat.le_add_right _ _) h
  have := or_i64 (x * 256) c 8 (Nat.mul_mod_left x 256) h1 hc (by decide)
  exact ⟨by simpa using this, by omega⟩

/-- what taking a number tells: an error's number, 0: none -/
def takeE (b : List UInt8) : Nat :=
  if b.length = 0 then 3 else if 8 < (b.getD 0 0).toNat then 4 else if b.length ≤ (b.getD 0 0).toNat then 3
  else if (b.getD 0 0).toNat = 8 ∧ 127 < (b.getD 1 0).toNat then 4 else if 0 < (b.getD 0 0).toNat ∧ (b.getD 1 0).toNat = 0 then 4 else 0
def takeV (b : List UInt8) : Nat := if takeE b = 0 then val ((b.drop 1).take (b.getD 0 0).toNat) else 0
def takeN (b : List UInt8) : Nat := if takeE b = 0 then 1 + (b.getD 0 0).toNat else 0

set_option maxRecDepth 100000 in
set_option maxHeartbeats 1000000 in
theorem takenum_any (A : Option Addr) (len c : Nat) (bs : List UInt8) (w : World) (hl : bs.length = len) (hc : len ≤ c) (hn : len ≤ 140737488351232) (hr : RB w A bs) :
    Calls Tryd.prog 41 #[.slice A len c] w fun e w' => e = .returned (.tuple #[.int .i64 (takeV bs), .int .i64 (takeN bs), errV (takeE bs)]) ∧ w' = w := by
  subst hl
  by_cases h0 : bs.length = 0
  · have e1 : takeE bs = 3 := by simp [takeE, h0]
    have e2 : takeV bs = 0 := by simp [takeV, e1]
    have e3 : takeN bs = 0 := by simp [takeN, e1]
    rw [e1, e2, e3, errV_pos 3 (by decide)]
    clear e1 e2 e3
    rw [h0]
    go_enter Tryd.func41, Tryd.ntmps41
    go_wp2_with fail
    go_ret3
    exact ⟨rfl, rfl⟩
  · obtain ⟨g, o, rfl, hg, hcell⟩ := hr.addr (by omega)
    obtain ⟨k, hk⟩ : ∃ k, k = (bs.getD 0 0).toNat := ⟨_, rfl⟩
    have hk256 : k < 256 := by rw [hk]; exact (bs.getD 0 0).toNat_lt
    have c0 : w.cell? ⟨g, o, none⟩ = some (.int .u8 (k : Int)) := by
      have := hcell 0 (by omega)
      rw [hk]
      simpa [List.getD, show 0 < bs.length by omega] using this
    have hlen0 : (0 : Int) < (bs.length : Int) := by omega
    by_cases h8 : 8 < k
    · have e1 : takeE bs = 4 := by simp only [takeE, ← hk]; rw [if_neg h0, if_pos h8]
      have e2 : takeV bs = 0 := by simp [takeV, e1]
      have e3 : takeN bs = 0 := by simp [takeN, e1]
      rw [e1, e2, e3, errV_pos 4 (by decide)]
      clear e1 e2 e3 hk
      go_enter Tryd.func41, Tryd.ntmps41
      go_wp2_with fail
      go_ret3
      exact ⟨rfl, rfl⟩
    · by_cases hs : bs.length ≤ k
      · have e1 : takeE bs = 3 := by simp only [takeE, ← hk]; rw [if_neg h0, if_neg h8, if_pos hs]
        have e2 : takeV bs = 0 := by simp [takeV, e1]
        have e3 : takeN bs = 0 := by simp [takeN, e1]
        rw [e1, e2, e3, errV_pos 3 (by decide)]
        clear e1 e2 e3 hk
        go_enter Tryd.func41, Tryd.ntmps41
        go_wp2_with fail
        go_ret3
        exact ⟨rfl, rfl⟩
      · by_cases hk0 : k = 0
        · have e1 : takeE bs = 0 := by simp only [takeE, ← hk]; rw [if_neg h0, if_neg h8, if_neg hs, if_neg (by omega), if_neg (by omega)]
          have e2 : takeV bs = 0 := by unfold takeV; rw [if_pos e1, ← hk, hk0]; simp [val]
          have e3 : takeN bs = 1 := by unfold takeN; rw [if_pos e1, ← hk, hk0]
          rw [e1, e2, e3, errV_zero]
          subst hk0
          clear e1 e2 e3 hk
          go_enter Tryd.func41, Tryd.ntmps41
          go_wp2_with fail
          go_ret3
          exact ⟨rfl, rfl⟩
        · obtain ⟨d, hd⟩ : ∃ d, d = (bs.getD 1 0).toNat := ⟨_, rfl⟩
          have c1 : w.cell? ⟨g, o + 1, none⟩ = some (.int .u8 (d : Int)) := by
            have := hcell 1 (by omega)
            rw [hd]
            simpa [List.getD, show 1 < bs.length by omega] using this
          have hlen1 : (1 : Int) < (bs.length : Int) := by omega
          by_cases hbad : (k = 8 ∧ 127 < d) ∨ d = 0
          · have e1 : takeE bs = 4 := by
              simp only [takeE, ← hk, ← hd]; rw [if_neg h0, if_neg h8, if_neg hs]
              split
              · rfl
              · rw [if_pos (by omega)]
            have e2 : takeV bs = 0 := by simp [takeV, e1]
            have e3 : takeN bs = 0 := by simp [takeN, e1]
            rw [e1, e2, e3, errV_pos 4 (by decide)]
            clear e1 e2 e3 hk hd
            go_enter Tryd.func41, Tryd.ntmps41
            rcases hbad with ⟨rfl, hd127⟩ | rfl
            · go_wp2_with fail
              go_ret3
              exact ⟨rfl, rfl⟩
            · by_cases hk8 : k = 8
              · subst hk8
                go_wp2_with fail
                go_ret3
                exact ⟨rfl, rfl⟩
              · go_wp2_with fail
                go_ret3
                exact ⟨rfl, rfl⟩
          · have e1 : takeE bs = 0 := by
              simp only [takeE, ← hk, ← hd]; rw [if_neg h0, if_neg h8, if_neg hs, if_neg (by omega), if_neg (by omega)]
            have e2 : takeV bs = val ((bs.drop 1).take k) := by unfold takeV; rw [if_pos e1, ← hk]
            have e3 : takeN bs = 1 + k := by unfold takeN; rw [if_pos e1, ← hk]
            rw [e1, e2, e3, errV_zero]
            obtain ⟨l, hl⟩ : ∃ l, l = (bs.drop 1).take k := ⟨_, rfl⟩
            have hll : l.length = k := by rw [hl]; simp; omega
            have hl0 : l.length = 8 → l.getD 0 0 < 128 := by
              intro h
              have : l.getD 0 0 = bs.getD 1 0 := by rw [hl]; simp [List.getD, List.getElem?_take, show 0 < k by omega]
              rw [this, UInt8.lt_iff_toNat_lt]
              have : (128 : UInt8).toNat = 128 := rfl
              omega
            have hcl : ∀ i (hi : i < l.length), w.cell? ⟨g, o + 1 + i, none⟩ = some (.int .u8 (l[i].toNat)) := fun i hi => by
              have := hcell (1 + i) (by omega)
              rw [Nat.add_assoc, this]
              subst hl
              simp [Nat.add_comm]
            have hvl := fun i hi => val_take_lt l (by omega) hl0 i hi
            rw [← hl]
            have HV := Lib.hid hvl
            have HC := Lib.hid hcl
            have HL := Lib.hid hll
            clear e1 e2 e3 hk hd hcell hr hl hcl hvl hl0 hll
            by_cases hk8 : k = 8
            · subst hk8
              go_enter Tryd.func41, Tryd.ntmps41
              go_wp2_with fail
              go_loop [48, 6] (fun i v => ∃ (j : Nat) (x : Nat), j ≤ 8 ∧ i = .int .i64 j ∧ v = .int .i64 x ∧ Hid (x = val (l.take j))) (fun i _ => 8 - (intOf i).toNat)
              case atStart => exact ⟨0, 0, by omega, rfl, rfl, show _ = _ by simp [val]⟩
              case round =>
                obtain ⟨j, x, hj, rfl, rfl, HX⟩ := hrel
                by_cases hlt : j < 8
                · have hjl : j < l.length := by rw [HL.out]; exact hlt
                  have hcj := HC.out j hjl
                  have hx1 : val (l.take (j + 1)) = x * 256 + l[j].toNat := by rw [List.take_succ_eq_append_getElem hjl, val_snoc, ← HX.out]
                  have hb := HV.out (j + 1) (by omega)
                  rw [hx1] at hb
                  have hlj : l[j].toNat < 256 := l[j].toNat_lt
                  obtain ⟨hor, hx2⟩ := or8_i64 x l[j].toNat hlj hb
                  have HX1 := Lib.hid hx1
                  clear hx1 hb
                  go_wp2_with fail
                  go_round
                  case rel => exact ⟨j + 1, x * 256 + l[j].toNat, by omega, by go_num, rfl, HX1.out.symm⟩
                  case measure => simp [intOf]; omega
                · obtain rfl : j = 8 := by omega
                  have hx : x = val l := by rw [HX.out, List.take_of_length_le (by have := HL.out; omega)]
                  subst hx
                  go_wp2_with fail
                  go_ret3
                  exact ⟨by simp, rfl⟩
            · go_enter Tryd.func41, Tryd.ntmps41
              go_wp2_with fail
              go_loop [48, 6] (fun i v => ∃ (j : Nat) (x : Nat), j ≤ k ∧ i = .int .i64 j ∧ v = .int .i64 x ∧ Hid (x = val (l.take j))) (fun i _ => k - (intOf i).toNat)
              case atStart => exact ⟨0, 0, by omega, rfl, rfl, show _ = _ by simp [val]⟩
              case round =>
                obtain ⟨j, x, hj, rfl, rfl, HX⟩ := hrel
                by_cases hlt : j < k
                · have hjl : j < l.length := by rw [HL.out]; exact hlt
                  have hcj := HC.out j hjl
                  have hx1 : val (l.take (j + 1)) = x * 256 + l[j].toNat := by rw [List.take_succ_eq_append_getElem hjl, val_snoc, ← HX.out]
                  have hb := HV.out (j + 1) (by omega)
                  rw [hx1] at hb
                  have hlj : l[j].toNat < 256 := l[j].toNat_lt
                  obtain ⟨hor, hx2⟩ := or8_i64 x l[j].toNat hlj hb
                  have HX1 := Lib.hid hx1
                  clear hx1 hb
                  go_wp2_with fail
                  go_round
                  case rel => exact ⟨j + 1, x * 256 + l[j].toNat, by omega, by go_num, rfl, HX1.out.symm⟩
                  case measure => simp [intOf]; omega
                · obtain rfl : j = k := by omega
                  have hx : x = val l := by rw [HX.out, List.take_of_length_le (by have := HL.out; omega)]
                  subst hx
                  go_wp2_with fail
                  go_ret3
                  exact ⟨by simp, rfl⟩
end Go.Proofs.YtaopipghooaekaaDoor
