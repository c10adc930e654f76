/- What quorum.Read and muntinref22.Read read, in plain words. -/
import Derived.Test.YtaopipghooaekaaDoorQBytes
set_option linter.unusedVariables false
set_option linter.unusedSimpArgs false
namespace Go.Proofs.YtaopipghooaekaaDoor

/-- the number that comes next, or -1; what is left behind it -/
def numI (b : List UInt8) : Int := if takeE b = 0 then (takeV b : Int) else -1
def numR (b : List UInt8) : List UInt8 := b.drop (takeN b)
def numsI : Nat → List UInt8 → List Int
  | 0, _ => []
  | k + 1, b => numI b :: numsI k (numR b)
def numsR : Nat → List UInt8 → List UInt8
  | 0, b => b
  | k + 1, b => numsR k (numR b)
theorem numsI_len : ∀ (k : Nat) (b : List UInt8), (numsI k b).length = k
  | 0, _ => rfl
  | k + 1, b => by simp [numsI, numsI_len k]
theorem numsR_succ : ∀ (k : Nat) (b : List UInt8), numsR (k + 1) b = numR (numsR k b)
  | 0, _ => rfl
  | k + 1, b => by rw [numsR, numsR_succ k]; rfl
theorem numsI_succ : ∀ (k : Nat) (b : List UInt8), numsI (k + 1) b = numsI k b ++ [numI (numsR k b)]
  | 0, _ => rfl
  | k + 1, b => by rw [numsI, numsI_succ k]; rfl
theorem numI_ok {b : List UInt8} (h : takeE b = 0) : numI b = (takeV b : Int) := by unfold numI; rw [if_pos h]
theorem numI_no {b : List UInt8} (h : ¬ takeE b = 0) : numI b = -1 := by unfold numI; rw [if_neg h]
theorem numR_no {b : List UInt8} (h : ¬ takeE b = 0) : numR b = b := by unfold numR takeN; rw [if_neg h]; rfl
theorem takeN_le (b : List UInt8) : takeN b ≤ b.length := by
  unfold takeN
  split
  · rename_i h
    unfold takeE at h
    by_cases h1 : b.length ≤ (b.getD 0 0).toNat
    · rw [if_pos h1] at h
      repeat' split at h
      all_goals omega
    · omega
  · omega
theorem numR_len (b : List UInt8) : (numR b).length = b.length - takeN b := by unfold numR; rw [List.length_drop]
theorem numR_le (b : List UInt8) : (numR b).length ≤ b.length := by rw [numR_len]; omega
theorem numsR_le : ∀ (k : Nat) (b : List UInt8), (numsR k b).length ≤ b.length
  | 0, _ => Nat.le_refl _
  | k + 1, b => Nat.le_trans (numsR_le k _) (numR_le b)
/-- an error among the numbers: no right configuration -/
theorem numsI_bad : ∀ (k j : Nat) (b : List UInt8), j < k → ¬ takeE (numsR j b) = 0 → (-1 : Int) ∈ numsI k b
  | 0, _, _, h, _ => by omega
  | k + 1, 0, b, _, h2 => by rw [numsI, numI_no (show ¬ takeE b = 0 from h2)]; exact List.mem_cons_self
  | k + 1, j + 1, b, h, h2 => List.mem_cons_of_mem _ (numsI_bad k j _ (by omega) h2)
theorem right_bad {k j : Nat} {b : List UInt8} (h : j < k) (h2 : ¬ takeE (numsR j b) = 0) : rightB (numsI k b) = false := by
  cases h3 : rightB (numsI k b) with
  | false => rfl
  | true => have := right_mem h3 _ (numsI_bad k j b h h2); omega

/-- does it read as a configuration?; the voters; the code -/
def readB (b : List UInt8) : Bool := decide (0 < numI b) && decide (numI b ≤ 5) && decide ((numsR (numI b).toNat (numR b)).length = 0) && rightB (numsI (numI b).toNat (numR b))
def readV (b : List UInt8) : List Int := if readB b = true then numsI (numI b).toNat (numR b) else []
def readE (b : List UInt8) : Nat := if readB b = true then 0 else 4
theorem read_neg {b : List UInt8} (h : ¬ takeE b = 0) : readB b = false := by unfold readB; rw [numI_no h]; rfl
theorem read_many {b : List UInt8} (h : 5 < numI b) : readB b = false := by
  unfold readB; rw [show decide (numI b ≤ 5) = false by simp; omega]; simp
theorem read_none {b : List UInt8} (h : numI b ≤ 0) : readB b = false := by
  unfold readB; rw [show decide (0 < numI b) = false by simp; omega]; simp
theorem read_at {b : List UInt8} {n : Nat} (h : numI b = n) (h0 : 0 < n) (h5 : n ≤ 5) : readB b = (decide ((numsR n (numR b)).length = 0) && rightB (numsI n (numR b))) := by
  unfold readB
  rw [h, show decide ((0 : Int) < n) = true by simp; omega, show decide ((n : Int) ≤ 5) = true by simp; omega]
  rfl
theorem readV_ok {b : List UInt8} {n : Nat} (h : numI b = n) (hb : readB b = true) : readV b = numsI n (numR b) := by unfold readV; rw [if_pos hb, h]; rfl
theorem readV_no {b : List UInt8} (hb : readB b = false) : readV b = [] := by unfold readV; rw [hb]; rfl
theorem readE_ok {b : List UInt8} (hb : readB b = true) : readE b = 0 := by unfold readE; rw [if_pos hb]
theorem readE_no {b : List UInt8} (hb : readB b = false) : readE b = 4 := by unfold readE; rw [hb]; rfl
end Go.Proofs.YtaopipghooaekaaDoor
