/- The check sum in plain Lean: bit by bit, and four bits at a time; both are one. -/
import Derived.Test.YtocjfiahkdpicaaDoorBase
import Derived.Laws.Bits64
set_option linter.unusedVariables false
set_option linter.unusedSimpArgs false
namespace Go.Proofs.YtocjfiahkdpicaaDoor

theorem bits_xor_u32 (a b : Nat) (ha : a < 4294967296) (hb : b < 4294967296) :
    bits .xor .u32 (a : Int) (b : Int) = ((a ^^^ b : Nat) : Int) := by
  have hx : a ^^^ b < 2 ^ 32 := Nat.xor_lt_two_pow (by omega) (by omega)
  have h1 : (BitVec.ofInt 32 (a : Int)).toNat = a := by
    rw [BitVec.ofInt_natCast, BitVec.toNat_ofNat]; exact Nat.mod_eq_of_lt (by omega)
  have h2 : (BitVec.ofInt 32 (b : Int)).toNat = b := by
    rw [BitVec.ofInt_natCast, BitVec.toNat_ofNat]; exact Nat.mod_eq_of_lt (by omega)
  show IntKind.u32.wrap ((BitVec.ofInt 32 (a : Int) ^^^ BitVec.ofInt 32 (b : Int)).toNat : Int) = _
  rw [BitVec.toNat_xor, h1, h2, IntKind.wrap_u32]
  omega
theorem bits_xor_u8 (a b : UInt8) : bits .xor .u8 (a.toNat : Int) (b.toNat : Int) = ((a ^^^ b).toNat : Int) := by
  have h1 : (BitVec.ofInt 8 (a.toNat : Int)).toNat = a.toNat := by
    rw [BitVec.ofInt_natCast, BitVec.toNat_ofNat]; exact Nat.mod_eq_of_lt a.toNat_lt
  have h2 : (BitVec.ofInt 8 (b.toNat : Int)).toNat = b.toNat := by
    rw [BitVec.ofInt_natCast, BitVec.toNat_ofNat]; exact Nat.mod_eq_of_lt b.toNat_lt
  show IntKind.u8.wrap ((BitVec.ofInt 8 (a.toNat : Int) ^^^ BitVec.ofInt 8 (b.toNat : Int)).toNat : Int) = _
  rw [BitVec.toNat_xor, h1, h2, IntKind.wrap_u8, UInt8.toNat_xor]
  have : a.toNat ^^^ b.toNat < 2 ^ 8 := Nat.xor_lt_two_pow a.toNat_lt b.toNat_lt
  omega
theorem xor_u32_lt (a b : Nat) (ha : a < 4294967296) (hb : b < 4294967296) : a ^^^ b < 4294967296 := by
  have : a ^^^ b < 2 ^ 32 := Nat.xor_lt_two_pow (by omega) (by omega)
  omega

theorem and1_u32 (T : Nat) (h : T < 4294967296) : bits .and .u32 (T : Int) 1 = ((T % 2 : Nat) : Int) := by
  have := bits_mask .u32 32 (by decide) (fun n h0 h1 => by rw [IntKind.wrap_u32]; omega) 1 (by decide) (T : Int) (by omega) (by omega)
  simpa using this
theorem not_u32 (S : Nat) (h : S < 4294967296) : bits .xor .u32 IntKind.u32.max (S : Int) = ((4294967295 - S : Nat) : Int) := by
  have h1 : IntKind.u32.max = ((4294967295 : Nat) : Int) := by decide
  rw [h1, bits_xor_u32 _ _ (by omega) h]
  have h3 : (BitVec.ofNat 32 S ^^^ BitVec.allOnes 32) = ~~~ (BitVec.ofNat 32 S) := BitVec.xor_allOnes
  have h4 := congrArg BitVec.toNat h3
  simp only [BitVec.toNat_xor, BitVec.toNat_not, BitVec.toNat_ofNat, BitVec.toNat_allOnes] at h4
  rw [Nat.mod_eq_of_lt (by omega)] at h4
  have h5 : (2 : Nat) ^ 32 - 1 = 4294967295 := by decide
  rw [h5, Nat.xor_comm] at h4
  rw [h4]
/-- one bit -/
def cstep (s : Nat) : Nat := if s % 2 = 1 then (s / 2) ^^^ 2197175160 else s / 2
/-- n bits -/
def csteps : Nat → Nat → Nat
  | 0, s => s
  | n + 1, s => csteps n (cstep s)
theorem cstep_lt (s : Nat) (h : s < 4294967296) : cstep s < 4294967296 := by
  unfold cstep
  split
  · exact xor_u32_lt _ _ (by omega) (by omega)
  · omega
theorem csteps_lt (n : Nat) : ∀ s, s < 4294967296 → csteps n s < 4294967296 := by
  induction n with
  | zero => exact fun s h => h
  | succ n ih => exact fun s h => ih _ (cstep_lt s h)
def cbyte (s : Nat) (b : UInt8) : Nat := csteps 8 (s ^^^ b.toNat)
theorem cbyte_lt (s : Nat) (b : UInt8) (h : s < 4294967296) : cbyte s b < 4294967296 :=
  csteps_lt _ _ (xor_u32_lt _ _ h (by have := b.toNat_lt; omega))
def crcFrom (s : Nat) (bs : List UInt8) : Nat := bs.foldl cbyte s
theorem crcFrom_lt (bs : List UInt8) : ∀ s, s < 4294967296 → crcFrom s bs < 4294967296 := by
  induction bs with
  | nil => exact fun s h => h
  | cons b bs ih => exact fun s h => ih _ (cbyte_lt s b h)
theorem crcFrom_take (bs : List UInt8) (s k : Nat) (h : k < bs.length) : crcFrom s (bs.take (k + 1)) = cbyte (crcFrom s (bs.take k)) bs[k] := by
  unfold crcFrom
  rw [List.take_succ_eq_append_getElem h, List.foldl_append]
  rfl
/-- the check sum -/
def crc (bs : List UInt8) : Nat := 4294967295 - crcFrom 4294967295 bs
theorem crc_lt (bs : List UInt8) : crc bs < 4294967296 := by unfold crc; omega

/-! four bits at a time -/
theorem cstep_xor (a b : Nat) : cstep (a ^^^ b) = cstep a ^^^ cstep b := by
  have h2 : (a ^^^ b) % 2 = (a % 2) ^^^ (b % 2) := by
    have := Nat.xor_mod_two_pow (a := a) (b := b) (n := 1)
    simpa using this
  have hd : (a ^^^ b) / 2 = a / 2 ^^^ b / 2 := Nat.xor_div_two
  have e1 : ∀ x y p : Nat, x ^^^ y ^^^ p = x ^^^ p ^^^ y := fun x y p => by rw [Nat.xor_assoc, Nat.xor_comm y p, ← Nat.xor_assoc]
  have e2 : ∀ x y p : Nat, x ^^^ p ^^^ (y ^^^ p) = x ^^^ y := fun x y p => by
    rw [Nat.xor_assoc, Nat.xor_comm p, Nat.xor_assoc y p p, Nat.xor_self, Nat.xor_zero]
  unfold cstep
  rw [hd, h2]
  rcases Nat.mod_two_eq_zero_or_one a with ha | ha <;> rcases Nat.mod_two_eq_zero_or_one b with hb | hb <;> simp only [ha, hb]
  · simp
  · simp [Nat.xor_assoc]
  · simpa using e1 _ _ _
  · simpa using (e2 _ _ _).symm
theorem csteps_xor (n : Nat) : ∀ a b, csteps n (a ^^^ b) = csteps n a ^^^ csteps n b := by
  induction n with
  | zero => exact fun a b => rfl
  | succ n ih => intro a b; simp only [csteps, cstep_xor, ih]
theorem csteps_split (n : Nat) : ∀ X, csteps n X = X / 2 ^ n ^^^ csteps n (X % 2 ^ n) := by
  induction n with
  | zero => intro X; simp [csteps, Nat.mod_one]
  | succ n ih =>
    intro X
    have hc : ∀ Y, cstep Y = Y / 2 ^^^ (if Y % 2 = 1 then 2197175160 else 0) := fun Y => by unfold cstep; split <;> simp
    have h1 : X % 2 ^ (n + 1) / 2 = X / 2 % 2 ^ n := by rw [Nat.pow_succ, Nat.mul_comm, Nat.mod_mul_right_div_self]
    have h2 : X % 2 ^ (n + 1) % 2 = X % 2 := by rw [Nat.pow_succ, Nat.mul_comm, Nat.mod_mul_right_mod]
    have h3 : X / 2 / 2 ^ n = X / 2 ^ (n + 1) := by rw [Nat.div_div_eq_div_mul, Nat.pow_succ, Nat.mul_comm]
    simp only [csteps]
    rw [hc X, hc (X % 2 ^ (n + 1)), csteps_xor, csteps_xor, ih (X / 2), h1, h2, h3, Nat.xor_assoc]
theorem csteps_four (X : Nat) : (X / 16) ^^^ csteps 4 (X % 16) = csteps 4 X := (csteps_split 4 X).symm
theorem csteps_add (m : Nat) : ∀ (n s : Nat), csteps (m + n) s = csteps n (csteps m s) := by
  induction m with
  | zero => intro n s; simp [csteps]
  | succ m ih => intro n s; rw [Nat.succ_add]; simp only [csteps]; exact ih n (cstep s)
theorem and15_u32 (T : Nat) (h : T < 4294967296) : bits .and .u32 (T : Int) 15 = ((T % 16 : Nat) : Int) := by
  have := bits_mask .u32 32 (by decide) (fun n h0 h1 => by rw [IntKind.wrap_u32]; omega) 4 (by decide) (T : Int) (by omega) (by omega)
  simpa using this
end Go.Proofs.YtocjfiahkdpicaaDoor
