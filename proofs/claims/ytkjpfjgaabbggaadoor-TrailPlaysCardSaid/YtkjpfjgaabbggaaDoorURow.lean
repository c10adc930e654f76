/- muntinref21.Row: the contract. -/
import Derived.Test.YtkjpfjgaabbggaaDoorTFollows
import Derived.Outline
set_option linter.unusedVariables false
set_option linter.unusedSimpArgs false
namespace Go.Proofs.YtkjpfjgaabbggaaDoor
open Go.RowKit

set_option maxRecDepth 100000 in
set_option maxHeartbeats 2000000 in
theorem row_any (A : Option Addr) (len c : Nat) (es : List Ent) (Ds : List Value) (x y : Int) (w : World) (hre : RE w A es Ds) (hl : es.length = len) (h0 : -9223372036854775808 ≤ x) (h1 : x ≤ 10000000000000) (h2 : len ≤ 10000000000000) :
    Calls Tryd.prog 40 #[.int .i64 x, .int .i64 y, .slice A len c] w fun e w' => e = .returned (.bool (follows x y es)) ∧ w' = w := by
  have HL := Lib.hid hl
  have HR := Lib.hid hre
  clear hl hre
  go_enter Tryd.func40, Tryd.ntmps40
  go_wp2_with fail
  go_loopg [1, 7] len (fun m ti ki wr => ∃ (k : Nat) (z : Int), m = len - k ∧ k ≤ len ∧ ti = .int .i64 z ∧ ki = .int .i64 k ∧ Hid (follows x y es = follows (x + k) z (es.drop k)) ∧ wr = w)
  case atStart => exact ⟨0, y, by omega, by omega, rfl, rfl, Lib.hid (by simp), rfl⟩
  case round =>
    obtain ⟨k, z, hm, hk, rfl, rfl, HF, rfl⟩ := hrel
    by_cases hkl : k < len
    · have hkl1 : (k : Int) < (len : Int) := by omega
      have hke : k < es.length := by rw [HL.out]; exact hkl
      obtain ⟨g, o, rfl, hg, -⟩ := HR.out.addr (by omega)
      obtain ⟨c0, c1, c2, c3, -⟩ := HR.out.at k hke
      have hdr : es.drop k = es[k] :: es.drop (k + 1) := List.drop_eq_getElem_cons hke
      obtain ⟨E, hE⟩ : ∃ E, E = es[k] := ⟨_, rfl⟩
      rw [← hE] at c0 c1 c2 hdr
      have HD := Lib.hid hdr
      clear hdr hE c3
      obtain ⟨ei, et, ek, ed⟩ := E
      simp only at c0 c1 c2
      have hs : (x + (k : Int)) + 1 = x + ((k + 1 : Nat) : Int) := by omega
      have hF1 := HF.out
      rw [HD.out] at hF1
      simp only [follows, hs] at hF1
      have HF1 := Lib.hid hF1
      have HS := Lib.hid hs
      clear hF1 hs
      by_cases a1 : ei = x + k + 1
      · have b1 : (ei != x + k + 1) = false := by simp [a1]
        have A1 := Lib.hid a1
        clear a1
        by_cases a2 : et < z
        · have d2 := decide_eq_true a2
          go_wp2_with fail
          go_ret
          exact ⟨by rw [HF1.out, if_neg (by omega)]; rfl, rfl⟩
        · have d2 := decide_eq_false a2
          by_cases a3 : ek < 0
          · have d3 := decide_eq_true a3
            go_wp2_with fail
            go_ret
            exact ⟨by rw [HF1.out, if_neg (by omega)]; rfl, rfl⟩
          · have d3 := decide_eq_false a3
            go_wp2_with fail
            go_roundg (len - (k + 1))
            case measure => omega
            case rel =>
              exact ⟨k + 1, et, rfl, by omega, rfl, by go_num, Lib.hid (by rw [HF1.out, if_pos ⟨by rw [A1.out]; exact HS.out, by omega, by omega⟩]), rfl⟩
      · have b1 : (ei != x + k + 1) = true := by simp [a1]
        go_wp2_with fail
        go_ret
        exact ⟨by rw [HF1.out, if_neg (by have := HS.out; omega)]; rfl, rfl⟩
    · obtain rfl : k = len := by omega
      go_wp2_with fail
      go_ret
      refine ⟨?_, rfl⟩
      rw [HF.out, List.drop_of_length_le (by rw [HL.out]; exact Nat.le_refl _)]
      rfl
end Go.Proofs.YtkjpfjgaabbggaaDoor
