/- Configurations in plain words; nothing of the program stands here. -/
import Derived.Test.YtaopipghooaekaaDoorQInts
set_option linter.unusedVariables false
set_option linter.unusedSimpArgs false
namespace Go.Proofs.YtaopipghooaekaaDoor
open Go.RowKit

/-- an error by its number, 0: none -/
def errQ (k : Nat) : Value := if k = 0 then .nilIface else .iface 31 (.int .i64 k)

def nodeB (n : Int) : Bool := decide (1 ≤ n ∧ n ≤ 5)
/-- rising, each a node, behind one -/
def rises : Int → List Int → Bool
  | _, [] => true
  | last, n :: ns => nodeB n && decide (last < n) && rises n ns
/-- may that be a configuration? -/
def rightB (ns : List Int) : Bool := !ns.isEmpty && rises 0 ns
/-- how many of some are among others -/
def among (ns l : List Int) : Nat := (ns.filter fun n => l.contains n).length

/-- Right's answer by its number -/
def rightE (ns : List Int) : Nat := if rightB ns then 0 else 1
theorem rightE_no {ns : List Int} (h : rightB ns = false) : rightE ns = 1 := by simp [rightE, h]
theorem rightE_ok {ns : List Int} (h : rightB ns = true) : rightE ns = 0 := by simp [rightE, h]
theorem errQ_one : errQ 1 = .iface 31 (.int .i64 1) := rfl
theorem errQ_zero : errQ 0 = .nilIface := rfl

theorem rises_len : ∀ (ns : List Int) (last : Int), 0 ≤ last → rises last ns = true → last ≤ 5 → ns.length + last ≤ 5
  | [], last, h0, _, h5 => by simpa using h5
  | n :: ns, last, h0, h, h5 => by
    simp only [rises, Bool.and_eq_true, nodeB, decide_eq_true_eq] at h
    have := rises_len ns n (by omega) h.2 (by omega)
    simp only [List.length_cons]
    omega
theorem right_len {ns : List Int} (h : rightB ns = true) : 1 ≤ ns.length ∧ ns.length ≤ 5 := by
  simp only [rightB, Bool.and_eq_true, Bool.not_eq_true', List.isEmpty_eq_false_iff] at h
  have := rises_len ns 0 (by omega) h.2 (by omega)
  have h1 := List.length_pos_iff.2 h.1
  omega
end Go.Proofs.YtaopipghooaekaaDoor
