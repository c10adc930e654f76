/- wire.Sum: the check sum, four bits at a time. -/
import Derived.Test.YtocjfiahkdpicaaDoorLent
import Derived.Test.YtocjfiahkdpicaaDoorCrc
set_option linter.unusedVariables false
set_option linter.unusedSimpArgs false
namespace Go.Proofs.YtocjfiahkdpicaaDoor
open Go.RowKit

/-- the table, its first k places laid -/
def tab (k : Nat) : List Value := (List.range 16).map fun j => .int .u32 ((if j < k then csteps 4 j else 0 : Nat) : Int)
theorem tab_get (k j : Nat) (hj : j < 16) : (tab k)[j]? = some (.int .u32 ((if j < k then csteps 4 j else 0 : Nat) : Int)) := by
  simp [tab, hj]
theorem tab_set (k : Nat) (hk : k < 16) : (tab k).set k (.int .u32 (csteps 4 k : Nat)) = tab (k + 1) := by
  apply List.ext_getElem?
  intro j
  rw [List.getElem?_set]
  by_cases hj : j < 16
  · rw [tab_get k j hj, tab_get (k + 1) j hj]
    by_cases e : k = j
    · subst e; simp [tab, hk]
    · have : j < k ↔ j < k + 1 := by omega
      simp [e, this]
  · have h1 : (tab k)[j]? = none := by simp [tab]; omega
    have h2 : (tab (k + 1))[j]? = none := by simp [tab]; omega
    rw [h1, h2]
    split <;> simp [tab]; omega

set_option maxHeartbeats 400000 in
theorem sum_any (A : Option Addr) (c : Nat) (bs : List UInt8) (w : World) (hn : bs.length ≤ 140737488351232) (hr : RB w A bs) :
    Calls Tryd.prog 30 #[.slice A bs.length c] w fun e w' => e = .returned (.int .i64 (crc bs)) ∧ Below w.heap.size w w' := by
  have hsg : IntKind.u32.signed = false := rfl
  have hp0 : bits BinOp.and IntKind.u32 2197175160 0 = 0 := by decide
  have hp1 : bits BinOp.and IntKind.u32 2197175160 4294967295 = 2197175160 := by decide
  go_enter Tryd.func30, Tryd.ntmps30
  go_wp2_with fail
  go_loopw [9] (fun i wr => ∃ k : Nat, k ≤ 16 ∧ i = .int .i64 k ∧ wr = w.alloc (.cells (mem (tab k)) 76)) (fun i _ => 16 - (intOf i).toNat)
  case atStart => exact ⟨0, by omega, rfl, rfl⟩
  case round =>
    obtain ⟨k, hk, rfl, rfl⟩ := hrel
    by_cases hlt : k < 16
    · have htk := tab_get k k hlt
      simp only [Nat.lt_irrefl, ↓reduceIte] at htk
      have hts := tab_set k hlt
      go_wp2_with fail
      go_loop [14, 5] (fun j s => ∃ (m : Nat) (T : Nat), m ≤ 4 ∧ j = .int .i64 m ∧ s = .int .u32 T ∧ T < 4294967296 ∧ Hid (csteps (4 - m) T = csteps 4 k)) (fun j _ => 4 - (intOf j).toNat)
      case atStart => exact ⟨0, k, by omega, rfl, rfl, by omega, show _ = _ by simp⟩
      case round =>
        obtain ⟨m, T, hm, rfl, rfl, hT, HT⟩ := hrel
        by_cases hm8 : m < 4
        · have hn1 : 4 - m = (4 - (m + 1)) + 1 := by omega
          have HN := Lib.hid hn1
          clear hn1
          have ha := and1_u32 T hT
          rcases Nat.mod_two_eq_zero_or_one T with hodd | hodd
          · rw [hodd] at ha
            have HO := Lib.hid hodd
            clear hodd
            have hx2 : bits BinOp.xor IntKind.u32 ((T : Int) / 2) 0 = ((T / 2 : Nat) : Int) := by
              have := bits_xor_u32 (T / 2) 0 (by omega) (by omega)
              rw [Nat.xor_zero] at this
              exact this
            go_wp2_with fail
            go_round
            case rel => exact ⟨m + 1, T / 2, by omega, by go_num, by go_num, by omega, show _ = _ by
              rw [← HT.out, HN.out, csteps]; simp [cstep, HO.out]⟩
            case measure => simp [intOf]; omega
          · rw [hodd] at ha
            have HO := Lib.hid hodd
            clear hodd
            have hx2 : bits BinOp.xor IntKind.u32 ((T : Int) / 2) 2197175160 = ((T / 2 ^^^ 2197175160 : Nat) : Int) := bits_xor_u32 (T / 2) 2197175160 (by omega) (by omega)
            go_wp2_with fail
            go_round
            case rel => exact ⟨m + 1, T / 2 ^^^ 2197175160, by omega, by go_num, rfl, xor_u32_lt _ _ (by omega) (by omega), show _ = _ by
              rw [← HT.out, HN.out, csteps]; simp [cstep, HO.out]⟩
            case measure => simp [intOf]; omega
        · obtain rfl : m = 4 := by omega
          obtain rfl : T = csteps 4 k := HT.out
          go_wp2_with fail
          go_roundw
          case rel => exact ⟨k + 1, by omega, by go_num, rfl⟩
          case measure => simp [intOf]; omega
    · obtain rfl : k = 16 := by omega
      go_wp2_with fail
      go_loop [30, 6] (fun i s => ∃ (k : Nat) (S : Nat), k ≤ bs.length ∧ i = .int .i64 k ∧ s = .int .u32 S ∧ S < 4294967296 ∧ Hid (S = crcFrom 4294967295 (bs.take k))) (fun i _ => bs.length - (intOf i).toNat)
      case atStart => exact ⟨0, 4294967295, by omega, rfl, rfl, by omega, show _ = _ by simp [crcFrom]⟩
      case round =>
        obtain ⟨k, S, hk, rfl, rfl, hS, HS⟩ := hrel
        by_cases hlt : k < bs.length
        · obtain ⟨b, o, rfl, hbw, hc⟩ := hr.addr (by omega)
          have hcell := hc k hlt
          clear hc hr
          have hb : bs[k].toNat < 256 := bs[k].toNat_lt
          have hx : bits BinOp.xor IntKind.u32 (S : Int) (bs[k].toNat : Int) = ((S ^^^ bs[k].toNat : Nat) : Int) := bits_xor_u32 _ _ hS (by omega)
          obtain ⟨X, hX⟩ : ∃ X, X = S ^^^ bs[k].toNat := ⟨_, rfl⟩
          have hX1 : X < 4294967296 := by rw [hX]; exact xor_u32_lt _ _ hS (by omega)
          rw [← hX] at hx
          obtain ⟨Y, hY⟩ : ∃ Y, Y = csteps 4 X := ⟨_, rfl⟩
          have hY1 : Y < 4294967296 := by rw [hY]; exact csteps_lt _ _ hX1
          obtain ⟨Z, hZ⟩ : ∃ Z, Z = csteps 4 Y := ⟨_, rfl⟩
          have hZ1 : Z < 4294967296 := by rw [hZ]; exact csteps_lt _ _ hY1
          have ha1 := and15_u32 X hX1
          have ha2 := and15_u32 Y hY1
          have ht1 : (tab 16)[X % 16]? = some (.int .u32 (csteps 4 (X % 16) : Nat)) := by rw [tab_get 16 _ (by omega)]; simp [show X % 16 < 16 by omega]
          have ht2 : (tab 16)[Y % 16]? = some (.int .u32 (csteps 4 (Y % 16) : Nat)) := by rw [tab_get 16 _ (by omega)]; simp [show Y % 16 < 16 by omega]
          have hm1 : X % 16 < 16 := by omega
          have hm2 : Y % 16 < 16 := by omega
          have hx1 : bits BinOp.xor IntKind.u32 ((X : Int) / 16) (csteps 4 (X % 16) : Nat) = (Y : Int) := by
            have := bits_xor_u32 (X / 16) (csteps 4 (X % 16)) (by omega) (csteps_lt _ _ (by omega))
            rw [csteps_four, ← hY] at this
            exact this
          have hx2 : bits BinOp.xor IntKind.u32 ((Y : Int) / 16) (csteps 4 (Y % 16) : Nat) = (Z : Int) := by
            have := bits_xor_u32 (Y / 16) (csteps 4 (Y % 16)) (by omega) (csteps_lt _ _ (by omega))
            rw [csteps_four, ← hZ] at this
            exact this
          have HX := Lib.hid hX
          have HY := Lib.hid hY
          have HZ := Lib.hid hZ
          clear hX hY hZ
          go_wp2_with fail
          go_round
          case rel => exact ⟨k + 1, Z, by omega, by go_num, rfl, hZ1, show _ = _ by
            rw [crcFrom_take _ _ _ hlt, ← HS.out, HZ.out, HY.out, ← csteps_add, HX.out]; rfl⟩
          case measure => simp [intOf]; omega
        · have hnot := not_u32 S hS
          go_wp2_with fail
          go_ret
          refine ⟨?_, (Below.refl _ _).alloc (Nat.le_refl _) _⟩
          have e : S = crcFrom 4294967295 bs := by rw [HS.out, List.take_of_length_le (by omega)]
          rw [crc, ← e]
          rfl
theorem sum_len (A : Option Addr) (n c : Nat) (bs : List UInt8) (w : World) (hl : bs.length = n) (hn : n ≤ 140737488351232) (hr : RB w A bs) :
    Calls Tryd.prog 30 #[.slice A n c] w fun e w' => e = .returned (.int .i64 (crc bs)) ∧ Below w.heap.size w w' := by
  subst hl
  exact sum_any A c bs w hn hr
end Go.Proofs.YtocjfiahkdpicaaDoor
