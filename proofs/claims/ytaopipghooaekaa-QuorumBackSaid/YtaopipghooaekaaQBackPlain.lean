/- A change and the other one are none: the plain law. -/
import Derived.Test.YtaopipghooaekaaQMeetsPlain
set_option linter.unusedVariables false
set_option linter.unusedSimpArgs false
namespace Go.Proofs.Ytaopipghooaekaa
open Go.RowKit

theorem change_back_all : ∀ ns ∈ subsF 5, ∀ kind ∈ ([1, 2] : List Int), ∀ who ∈ ([1, 2, 3, 4, 5] : List Int), rightB ns = true → (changeT ns kind who).1 = 0 →
    changeT (changeT ns kind who).2 (3 - kind) who = (0, ns) ∧ (ns.contains who != (changeT ns kind who).2.contains who) = true := by decide +kernel
theorem change_back {ns : List Int} {kind who : Int} (h : (changeT ns kind who).1 = 0) :
    changeT (changeT ns kind who).2 (3 - kind) who = (0, ns) ∧ (ns.contains who != (changeT ns kind who).2.contains who) = true := by
  obtain ⟨h1, h2, h3⟩ := change_ok h
  refine change_back_all ns (right_subs h1) kind ?_ who ?_ h1 h
  · have := of_decide_eq_true h3
    simp
    omega
  · have := of_decide_eq_true h2
    simp
    omega
end Go.Proofs.Ytaopipghooaekaa
