/- A number's bytes in plain Lean: the digits to the base 256, the highest first. -/
import Derived.Test.YtaopipghooaekaaDoorBase
import Derived.Lib.BitFns
set_option linter.unusedVariables false
set_option linter.unusedSimpArgs false
namespace Go.Proofs.YtaopipghooaekaaDoor

def digs (n : Nat) : List UInt8 := if h : n = 0 then [] else digs (n / 256) ++ [UInt8.ofNat (n % 256)]
termination_by n
decreasing_by omega
theorem digs_zero : digs 0 = [] := by rw [digs]; simp
theorem digs_pos (n : Nat) (h : n ≠ 0) : digs n = digs (n / 256) ++ [UInt8.ofNat (n % 256)] := by rw [digs]; simp [h]
theorem digs_nil (n : Nat) (h : digs n = []) : n = 0 := by
  rcases Nat.eq_zero_or_pos n with h0 | h0
  · exact h0
  · rw [digs_pos n (by omega)] at h; simp at h
theorem digs_len_lt (k : Nat) : ∀ n, n < 256 ^ k → (digs n).length ≤ k := by
  induction k with
  | zero => intro n h; have : n = 0 := by simpa using h
            subst this; simp [digs_zero]
  | succ k ih =>
    intro n h
    by_cases h0 : n = 0
    · subst h0; simp [digs_zero]
    · rw [digs_pos n h0]
      have := ih (n / 256) (by rw [Nat.pow_succ] at h; omega)
      simp; omega
theorem digs_len8 (n : Nat) (h : n < 9223372036854775808) : (digs n).length ≤ 8 := digs_len_lt 8 n (by omega)
theorem bitLen_zero : Lib.bitLen 0 = 0 := by decide
theorem digs_bitLen (n : Nat) (h : n < 9223372036854775808) : (Lib.bitLen n + 7) / 8 = (digs n).length := by
  induction n using Nat.strongRecOn with
  | ind n ih =>
    by_cases h0 : n = 0
    · subst h0; simp [digs_zero, bitLen_zero]
    · rw [digs_pos n h0]
      by_cases h1 : n < 256
      · have e : n / 256 = 0 := by omega
        have a := Lib.bitLen_le n 8 (by omega) (by omega)
        have b := Lib.bitLen_half n h0 (by omega)
        simp [e, digs_zero]
        omega
      · have := ih (n / 256) (by omega) (by omega)
        rw [Lib.bitLen_shift8 n (by omega) (by omega)]
        simp
        omega
/-- a number in bytes -/
def numb (n : Nat) : List UInt8 := UInt8.ofNat (digs n).length :: digs n
theorem numb_length (n : Nat) : (numb n).length = (digs n).length + 1 := by simp [numb]
end Go.Proofs.YtaopipghooaekaaDoor
