/- wire.Num: a number in bytes. -/
import Derived.Test.YtaopipghooaekaaDoorLent
import Derived.Test.YtaopipghooaekaaDoorNumPlain
import Derived.Test.YtaopipghooaekaaDoorShelf
set_option linter.unusedVariables false
set_option linter.unusedSimpArgs false
namespace Go.Proofs.YtaopipghooaekaaDoor
open Go.RowKit

set_option maxHeartbeats 400000 in
theorem num_neg (n : Int) (w : World) (h : n < 0) :
    Calls Tryd.prog 39 #[.int .i64 n] w fun e w' => e = .returned (.tuple #[.slice none 0 0, .iface 31 (.int .i64 1)]) ∧ w' = w := by
  go_enter Tryd.func39, Tryd.ntmps39
  go_wp2_with fail
  go_ret2
  exact ⟨rfl, rfl⟩

/-- the row, its last places laid -/
def numRow (n i : Nat) : List Value := Value.int .u8 (digs n).length :: (zs i (.int .u8 0) ++ bv ((digs n).drop i))
theorem numRow_first (n k : Nat) (hk : k = (digs n).length) : (zs (1 + k) (.int .u8 0)).set 0 (.int .u8 (k : Int)) = numRow n k := by
  subst hk
  simp [numRow, zs, bv, Nat.add_comm 1, List.replicate_succ]
theorem numRow_get (n i : Nat) (hi : 0 < i) : (numRow n i)[i]? = some (.int .u8 0) := by
  obtain ⟨i, rfl⟩ : ∃ j, i = j + 1 := ⟨i - 1, by omega⟩
  simp only [numRow, List.getElem?_cons_succ]
  rw [List.getElem?_append_left (by simp)]
  simp [zs]
theorem numRow_set (n i m : Nat) (hi : 0 < i) (hin : i ≤ (digs n).length) (hm : digs m = (digs n).take i) :
    (numRow n i).set i (.int .u8 ((m : Int) % 256)) = numRow n (i - 1) ∧ digs (m / 256) = (digs n).take (i - 1) := by
  obtain ⟨i, rfl⟩ : ∃ j, i = j + 1 := ⟨i - 1, by omega⟩
  have hm0 : m ≠ 0 := by
    intro e; subst e; rw [digs_zero] at hm
    have := congrArg List.length hm
    simp at this; omega
  rw [digs_pos m hm0, List.take_succ_eq_append_getElem (by omega)] at hm
  obtain ⟨h1, h2⟩ := List.append_inj' hm rfl
  refine ⟨?_, by simpa using h1⟩
  have h3 : UInt8.ofNat (m % 256) = (digs n)[i] := by simpa using h2
  have h4 : ((m : Int) % 256) = ((digs n)[i].toNat : Int) := by
    rw [← h3]; simp
  simp only [numRow, List.set_cons_succ, Nat.add_sub_cancel]
  rw [h4, List.set_append_left _ _ (by simp)]
  have e1 : (zs (i + 1) (Value.int .u8 0)).set i (.int .u8 (digs n)[i].toNat) = zs i (.int .u8 0) ++ [Value.int .u8 (digs n)[i].toNat] := by
    simp only [zs, List.replicate_succ']
    rw [List.set_append_right _ _ (by simp)]
    simp
  rw [e1, List.append_assoc]
  congr 2
  rw [List.drop_eq_getElem_cons (show i < (digs n).length by omega)]
  simp only [bv, List.map_cons, List.cons_append, List.nil_append]
theorem numRow_zero (n : Nat) (h : (digs n).length ≤ 8) : numRow n 0 = bv (numb n) := by
  simp [numRow, numb, bv, zs]
  omega

set_option maxHeartbeats 400000 in
theorem num_any (n : Nat) (w : World) (h : Hid (n < 9223372036854775808)) :
    Calls Tryd.prog 39 #[.int .i64 n] w fun e w' => e = .returned (.tuple #[.slice (some ⟨w.heap.size, 0, none⟩) (numb n).length (numb n).length, .nilIface]) ∧ w' = w.alloc (.cells (mem (bv (numb n))) 5) := by
  have hk8 := digs_len8 n h.out
  have hbl := digs_bitLen n h.out
  obtain ⟨k, hk⟩ : ∃ k, k = (digs n).length := ⟨_, rfl⟩
  rw [← hk] at hk8 hbl
  obtain ⟨L, hL⟩ : ∃ L, L = Lib.bitLen n := ⟨_, rfl⟩
  have hL64 : L ≤ 64 := by rw [hL]; exact Lib.bitLen_le n 64 (by omega) (by have := h.out; omega)
  rw [← hL] at hbl
  have hdiv : ((L : Int) + 7) / 8 = (k : Int) := by omega
  clear hbl
  have hw64 : IntKind.u64.wrap (n : Int) = (n : Int) := by rw [IntKind.wrap_u64]; have := h.out; omega
  have hz0 : (zs (1 + k) (Value.int .u8 0))[0]? = some (.int .u8 0) := by simp [zs, Nat.add_comm 1, List.replicate_succ]
  have hs0 := numRow_first n k hk
  have hnl : (numb n).length = 1 + k := by rw [numb_length, hk, Nat.add_comm]
  rw [hnl]
  have hz := numRow_zero n (by omega)
  rw [← hz]
  clear hz
  have HK := Lib.hid hk
  have HL := Lib.hid hL
  clear hk hL
  have hmk := run_make_u8 (1 + k) (1 + k) (by omega) (by omega) (1 + (k : Int)) (1 + (k : Int)) (by omega) (by omega)
  go_enter Tryd.func39, Tryd.ntmps39
  go_wp2_with fail
  refine (Tryd.bits_Len (n : Int) _ (by omega) (by have := h.out; omega)).mono ?_
  rintro e w' ⟨rfl, rfl⟩
  rw [show (n : Int).toNat = n by omega, ← HL.out]
  go_wp2_with fail
  go_loopw [6, 0] (fun i v wr => ∃ (i' m : Nat), i' ≤ k ∧ i = .int .i64 i' ∧ v = .int .i64 m ∧ Hid (digs m = (digs n).take i') ∧ wr = w'.alloc (.cells (mem (numRow n i')) 5)) (fun i _ _ => (intOf i).toNat)
  case atStart => exact ⟨k, n, by omega, by go_num, rfl, show _ = _ by rw [HK.out]; simp, rfl⟩
  case round =>
    obtain ⟨i', m, hi, rfl, rfl, HM, rfl⟩ := hrel
    by_cases h0 : 0 < i'
    · have hg := numRow_get n i' h0
      have hst := numRow_set n i' m h0 (by have := HK.out; omega) HM.out
      have hs1 := hst.1
      have HM2 := Lib.hid hst.2
      clear hst
      go_wp2_with fail
      go_roundw
      case rel => exact ⟨i' - 1, m / 256, by omega, by go_num, by go_num, HM2, rfl⟩
      case measure => simp [intOf]; omega
    · obtain rfl : i' = 0 := by omega
      go_wp2_with fail
      go_ret2
      exact ⟨rfl, rfl⟩
end Go.Proofs.YtaopipghooaekaaDoor
