/-
  NARROWER THAN 'FOR EVERY INPUT', by the rows' own cells (each row's printed sentence says how): QuorumChanges: laid · QuorumTells: laid.
  DERIVED. THE GIVEN ROWS OF THIS SEAT. 2 by the template 'for every input the law returns true; each argument reads behind the call as it read before'; 0 by the template 'total and deterministic' (their statements: YtaopipghooaekaaDoorTotals.lean).
  GIVEN WITH THE SEED: the statements are not yours to turn. If you find one false, say at which input.
  Laid BY PROGRAM, IN A SANDBOX (cutbox-rows.mjs): the forced cells as the released guide's own fill.sh prints them over the translation 4c51eb3e8aed14fb… (all of the seat's roots in one cut). By AI agents, Wed Nov 11 2026. No macro, syntax, notation, axiom, sorry.
-/
import Derived.Test.YtaopipghooaekaaDoorChecked
import GoSem.Claim
import GoSem.ClaimJoined
import GoSem.ClaimMapViews
import Derived.JoinedTies
import Derived.KernelRfl
namespace Go.Proofs.YtaopipghooaekaaDoor
/- THE CELL 'sum', in the pinned program and in every row, IS THE sha256 OF THE DUMP (.gsa) THAT YtaopipghooaekaaDoorProg.lean LOADS. Nothing in Lean hashes anything: it is a label: what it is worth is what the hold of that sum in a sandbox is worth. -/
noncomputable def Tryd.pinned : Pinned := { name := "ytaopipghooaekaadoor", sum := "4c51eb3e8aed14fb53788725426a67c1231c5e46c23405f3d4eee8b334e64d8a", checked := Tryd.checked }
namespace Rows
def none {H : Type} : Left H := { results := [], args := [] }

/- WHAT THE LISTED PACKAGE-LEVEL VARIABLES READ AS WHEN THE CALL BEGINS. Each datum BY PROGRAM (the guide's laid-datum.mjs) off the statement by which the dump's own 'gosem.cut.vars' lays the variable. In a bare row this is a premise. The card (YtaopipghooaekaaDoorCards.lean) ties it to the program's text. -/
def laid_errors_errorType {H : Type} : DataW H := .iface "internal/reflectlite.rtype" (.agg [.ptr (.lit (.string [101, 114, 114, 111, 114]))])

/-- 'muntinlaw22.QuorumChanges': WHATEVER THE INPUT: true; the input reads as it did. -/
def quorumChangesSpec : ChangeSpec := { name := "quorumChanges", fn := fun _ => fun
  | [d1, d2, d3, d4] => { results := [.lit (.bool true)], args := [d1, d2, d3, d4] }
  | _ => none }
def quorumChangesRow : OpenClaim := { program := "ytaopipghooaekaadoor", sum := "4c51eb3e8aed14fb53788725426a67c1231c5e46c23405f3d4eee8b334e64d8a", func := "muntin/muntinlaw22.QuorumChanges", spec := "quorumChanges", inPlace := ["slices.overlaps[int]", "internal/reflectlite.ValueOf", "(internal/reflectlite.Value).Type", "(internal/reflectlite.Value).IsNil", "internal/reflectlite.TypeOf", "(internal/reflectlite.Value).Elem", "(internal/reflectlite.Value).Set"], unfollowed := true, recurses := true, named := ["errors.errorType"], apart := false, laid := [("errors.errorType", laid_errors_errorType)] }
def QuorumChangesSaid : Prop := quorumChangesRow.holds Tryd.pinned (OpenSpec.ofChange quorumChangesSpec)

/-- ITS FALSE NEIGHBOUR: 'it returns false'. Refute it at one input. -/
def quorumChangesWrong : ChangeSpec := { name := "quorumChanges", fn := fun _ => fun
  | [d1, d2, d3, d4] => { results := [.lit (.bool false)], args := [d1, d2, d3, d4] }
  | _ => none }
def QuorumChangesWrongFalsely : Prop := quorumChangesRow.holds Tryd.pinned (OpenSpec.ofChange quorumChangesWrong)

/-- 'muntinlaw22.QuorumTells': WHATEVER THE INPUT: true; the input reads as it did. -/
def quorumTellsSpec : ChangeSpec := { name := "quorumTells", fn := fun _ => fun
  | [d1, d2, d3, d4, d5] => { results := [.lit (.bool true)], args := [d1, d2, d3, d4, d5] }
  | _ => none }
def quorumTellsRow : OpenClaim := { program := "ytaopipghooaekaadoor", sum := "4c51eb3e8aed14fb53788725426a67c1231c5e46c23405f3d4eee8b334e64d8a", func := "muntin/muntinlaw22.QuorumTells", spec := "quorumTells", inPlace := ["slices.overlaps[int]", "internal/reflectlite.ValueOf", "(internal/reflectlite.Value).Type", "(internal/reflectlite.Value).IsNil", "internal/reflectlite.TypeOf", "(internal/reflectlite.Value).Elem", "(internal/reflectlite.Value).Set"], unfollowed := true, recurses := true, named := ["errors.errorType"], apart := false, laid := [("errors.errorType", laid_errors_errorType)] }
def QuorumTellsSaid : Prop := quorumTellsRow.holds Tryd.pinned (OpenSpec.ofChange quorumTellsSpec)

/-- ITS FALSE NEIGHBOUR: 'it returns false'. Refute it at one input. -/
def quorumTellsWrong : ChangeSpec := { name := "quorumTells", fn := fun _ => fun
  | [d1, d2, d3, d4, d5] => { results := [.lit (.bool false)], args := [d1, d2, d3, d4, d5] }
  | _ => none }
def QuorumTellsWrongFalsely : Prop := quorumTellsRow.holds Tryd.pinned (OpenSpec.ofChange quorumTellsWrong)

/- THE SECOND FORM. 'bulk': how many values and letters a reading holds, each counted each time it is reached (what is shared counts as often as it is met; a slice's spare places count too). A statement '..UptoSaid' is the law's where the arguments, and the package variables that the reading takes, are together of bulk at most 1048576: NARROWER than '..Said'. Prove '..Said' where nothing that the law and all that it calls make is longer than what came in: it says more and counts as full. Else prove '..UptoSaid'. A law counts once. -/
mutual
def uptoBulk {H : Type} : DataW H → Nat
  | .lit (.string bytes) => bytes.length + 1
  | .lit _ => 1
  | .nil => 1
  | .ptr d => uptoBulk d + 1
  | .slice elems spare => uptoBulkAll elems + uptoBulkAll spare + 1
  | .agg parts => uptoBulkAll parts + 1
  | .iface _ d => uptoBulk d + 1
  | .map entries => uptoBulkEntries entries + 1
  | .held _ => 1
def uptoBulkAll {H : Type} : List (DataW H) → Nat
  | [] => 0
  | d :: r => uptoBulk d + uptoBulkAll r
def uptoBulkEntries {H : Type} : List (Lit × DataW H) → Nat
  | [] => 0
  | x :: r => uptoBulkEntry x + uptoBulkEntries r
def uptoBulkEntry {H : Type} : Lit × DataW H → Nat
  | (.string bytes, d) => bytes.length + uptoBulk d + 1
  | (_, d) => uptoBulk d + 1
 end
def uptoSmall : (H : Type) → List (DataW H) → Bool := fun _ ds => decide (uptoBulkAll ds ≤ 1048576)
def OpenSpec.upto (s : _root_.Go.ChangeSpec) : _root_.Go.OpenSpec := { _root_.Go.OpenSpec.ofChange s with cond := some uptoSmall }

/-- 'muntinlaw22.QuorumChanges', WHERE WHAT IT READS IS OF BULK AT MOST 1048576: true; the input reads as it did. -/
def quorumChangesUptoRow : OpenClaim := { program := "ytaopipghooaekaadoor", sum := "4c51eb3e8aed14fb53788725426a67c1231c5e46c23405f3d4eee8b334e64d8a", func := "muntin/muntinlaw22.QuorumChanges", spec := "quorumChanges", inPlace := ["slices.overlaps[int]", "internal/reflectlite.ValueOf", "(internal/reflectlite.Value).Type", "(internal/reflectlite.Value).IsNil", "internal/reflectlite.TypeOf", "(internal/reflectlite.Value).Elem", "(internal/reflectlite.Value).Set"], unfollowed := true, recurses := true, named := ["errors.errorType"], apart := false, laid := [("errors.errorType", laid_errors_errorType)], narrowed := true }
def QuorumChangesUptoSaid : Prop := quorumChangesUptoRow.holds Tryd.pinned (OpenSpec.upto quorumChangesSpec)

/-- 'muntinlaw22.QuorumTells', WHERE WHAT IT READS IS OF BULK AT MOST 1048576: true; the input reads as it did. -/
def quorumTellsUptoRow : OpenClaim := { program := "ytaopipghooaekaadoor", sum := "4c51eb3e8aed14fb53788725426a67c1231c5e46c23405f3d4eee8b334e64d8a", func := "muntin/muntinlaw22.QuorumTells", spec := "quorumTells", inPlace := ["slices.overlaps[int]", "internal/reflectlite.ValueOf", "(internal/reflectlite.Value).Type", "(internal/reflectlite.Value).IsNil", "internal/reflectlite.TypeOf", "(internal/reflectlite.Value).Elem", "(internal/reflectlite.Value).Set"], unfollowed := true, recurses := true, named := ["errors.errorType"], apart := false, laid := [("errors.errorType", laid_errors_errorType)], narrowed := true }
def QuorumTellsUptoSaid : Prop := quorumTellsUptoRow.holds Tryd.pinned (OpenSpec.upto quorumTellsSpec)

end Rows
end Go.Proofs.YtaopipghooaekaaDoor
