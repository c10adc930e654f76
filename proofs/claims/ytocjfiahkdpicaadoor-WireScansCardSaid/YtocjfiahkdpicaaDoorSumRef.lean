/- muntinref01.Sum: the check sum, bit by bit. -/
import Derived.Test.YtocjfiahkdpicaaDoorLent
import Derived.Test.YtocjfiahkdpicaaDoorCrc
set_option linter.unusedVariables false
set_option linter.unusedSimpArgs false
namespace Go.Proofs.YtocjfiahkdpicaaDoor
open Go.RowKit

set_option maxHeartbeats 400000 in
theorem refsum_any (A : Option Addr) (c : Nat) (bs : List UInt8) (w : World) (hn : bs.length ≤ 140737488351232) (hr : RB w A bs) :
    Calls Tryd.prog 32 #[.slice A bs.length c] w fun e w' => e = .returned (.int .i64 (crc bs)) ∧ w' = w := by
  have hsg : IntKind.u32.signed = false := rfl
  go_enter Tryd.func32, Tryd.ntmps32
  go_wp2_with fail
  go_loop [4, 3] (fun i s => ∃ (k : Nat) (S : Nat), k ≤ bs.length ∧ i = .int .i64 k ∧ s = .int .u32 S ∧ S < 4294967296 ∧ Hid (S = crcFrom 4294967295 (bs.take k))) (fun i _ => bs.length - (intOf i).toNat)
  case atStart => exact ⟨0, 4294967295, by omega, rfl, rfl, by omega, show _ = _ by simp [crcFrom]⟩
  case round =>
    obtain ⟨k, S, hk, rfl, rfl, hS, HS⟩ := hrel
    by_cases hlt : k < bs.length
    · obtain ⟨b, o, rfl, _, hc⟩ := hr.addr (by omega)
      have hcell := hc k hlt
      clear hc hr
      have hb : bs[k].toNat < 256 := bs[k].toNat_lt
      have hx : bits BinOp.xor IntKind.u32 (S : Int) (bs[k].toNat : Int) = ((S ^^^ bs[k].toNat : Nat) : Int) := bits_xor_u32 _ _ hS (by omega)
      go_wp2_with fail
      clear hx
      go_loop [5, 3] (fun j s => ∃ (m : Nat) (T : Nat), m ≤ 8 ∧ j = .int .i64 m ∧ s = .int .u32 T ∧ T < 4294967296 ∧ Hid (csteps (8 - m) T = csteps 8 (S ^^^ bs[k].toNat))) (fun j _ => 8 - (intOf j).toNat)
      case atStart => exact ⟨0, _, by omega, rfl, rfl, xor_u32_lt _ _ hS (by omega), show _ = _ by simp⟩
      case round =>
        obtain ⟨m, T, hm, rfl, rfl, hT, HT⟩ := hrel
        by_cases hm8 : m < 8
        · have hn1 : 8 - m = (8 - (m + 1)) + 1 := by omega
          have HN := Lib.hid hn1
          clear hn1
          have ha := and1_u32 T hT
          rcases Nat.mod_two_eq_zero_or_one T with hodd | hodd
          · rw [hodd] at ha
            have HO := Lib.hid hodd
            clear hodd
            go_wp2_with fail
            go_round
            case rel => exact ⟨m + 1, T / 2, by omega, by go_num, by go_num, by omega, show _ = _ by
              rw [← HT.out, HN.out, csteps]; simp [cstep, HO.out]⟩
            case measure => simp [intOf]; omega
          · rw [hodd] at ha
            have HO := Lib.hid hodd
            clear hodd
            have hx2 : bits BinOp.xor IntKind.u32 ((T : Int) / 2) 2197175160 = ((T / 2 ^^^ 2197175160 : Nat) : Int) := bits_xor_u32 (T / 2) 2197175160 (by omega) (by omega)
            go_wp2_with fail
            go_round
            case rel => exact ⟨m + 1, T / 2 ^^^ 2197175160, by omega, by go_num, rfl, xor_u32_lt _ _ (by omega) (by omega), show _ = _ by
              rw [← HT.out, HN.out, csteps]; simp [cstep, HO.out]⟩
            case measure => simp [intOf]; omega
        · obtain rfl : m = 8 := by omega
          go_wp2_with fail
          go_round
          case rel => exact ⟨k + 1, T, by omega, by go_num, rfl, hT, show _ = _ by
              rw [crcFrom_take _ _ _ hlt, ← HS.out]; exact HT.out⟩
          case measure => simp [intOf]; omega
    · have hnot := not_u32 S hS
      go_wp2_with fail
      go_ret
      refine ⟨?_, rfl⟩
      have e : S = crcFrom 4294967295 bs := by rw [HS.out, List.take_of_length_le (by omega)]
      rw [crc, ← e]
      rfl
end Go.Proofs.YtocjfiahkdpicaaDoor
