/-
  No cell of these rows narrows 'for every input' (looked for: loops, veiled, ifaces, maps, wideKeys, modest, calm, conditions, laid).
  DERIVED. THE GIVEN ROWS OF THIS SEAT. 4 by the template 'for every input the law returns true; each argument reads behind the call as it read before'; 0 by the template 'total and deterministic' (their statements: YtaopipghooaekaaTotals.lean).
  GIVEN WITH THE SEED: the statements are not yours to turn. If you find one false, say at which input.
  Laid BY PROGRAM, IN A SANDBOX (cutbox-rows.mjs): the forced cells as the released guide's own fill.sh prints them over the translation 44dba18d004f1b4d… (all of the seat's roots in one cut). By AI agents, Wed Nov 11 2026. No macro, syntax, notation, axiom, sorry.
-/
import Derived.Test.YtaopipghooaekaaChecked
import GoSem.Claim
import GoSem.ClaimJoined
import GoSem.ClaimMapViews
import Derived.JoinedTies
import Derived.KernelRfl
namespace Go.Proofs.Ytaopipghooaekaa
/- THE CELL 'sum', in the pinned program and in every row, IS THE sha256 OF THE DUMP (.gsa) THAT YtaopipghooaekaaProg.lean LOADS. Nothing in Lean hashes anything: it is a label: what it is worth is what the hold of that sum in a sandbox is worth. -/
noncomputable def Try.pinned : Pinned := { name := "ytaopipghooaekaa", sum := "44dba18d004f1b4d28e52ce314d3d90aa0ee6834cfb1a489fc256fabd23cec41", checked := Try.checked }
namespace Rows
def none {H : Type} : Left H := { results := [], args := [] }

/-- 'muntinlaw22.QuorumMeets': WHATEVER THE INPUT: true; the input reads as it did. -/
def quorumMeetsSpec : ChangeSpec := { name := "quorumMeets", fn := fun _ => fun
  | [d1, d2, d3, d4, d5] => { results := [.lit (.bool true)], args := [d1, d2, d3, d4, d5] }
  | _ => none }
def quorumMeetsRow : OpenClaim := { program := "ytaopipghooaekaa", sum := "44dba18d004f1b4d28e52ce314d3d90aa0ee6834cfb1a489fc256fabd23cec41", func := "muntin/muntinlaw22.QuorumMeets", spec := "quorumMeets", inPlace := ["slices.overlaps[int]"], unfollowed := true, recurses := true, apart := false }
def QuorumMeetsSaid : Prop := quorumMeetsRow.holds Try.pinned (OpenSpec.ofChange quorumMeetsSpec)

/-- ITS FALSE NEIGHBOUR: 'it returns false'. Refute it at one input. -/
def quorumMeetsWrong : ChangeSpec := { name := "quorumMeets", fn := fun _ => fun
  | [d1, d2, d3, d4, d5] => { results := [.lit (.bool false)], args := [d1, d2, d3, d4, d5] }
  | _ => none }
def QuorumMeetsWrongFalsely : Prop := quorumMeetsRow.holds Try.pinned (OpenSpec.ofChange quorumMeetsWrong)

/-- 'muntinlaw22.QuorumAgrees': WHATEVER THE INPUT: true; the input reads as it did. -/
def quorumAgreesSpec : ChangeSpec := { name := "quorumAgrees", fn := fun _ => fun
  | [d1, d2] => { results := [.lit (.bool true)], args := [d1, d2] }
  | _ => none }
def quorumAgreesRow : OpenClaim := { program := "ytaopipghooaekaa", sum := "44dba18d004f1b4d28e52ce314d3d90aa0ee6834cfb1a489fc256fabd23cec41", func := "muntin/muntinlaw22.QuorumAgrees", spec := "quorumAgrees", inPlace := ["slices.overlaps[int]"], unfollowed := true, recurses := true, apart := false }
def QuorumAgreesSaid : Prop := quorumAgreesRow.holds Try.pinned (OpenSpec.ofChange quorumAgreesSpec)

/-- ITS FALSE NEIGHBOUR: 'it returns false'. Refute it at one input. -/
def quorumAgreesWrong : ChangeSpec := { name := "quorumAgrees", fn := fun _ => fun
  | [d1, d2] => { results := [.lit (.bool false)], args := [d1, d2] }
  | _ => none }
def QuorumAgreesWrongFalsely : Prop := quorumAgreesRow.holds Try.pinned (OpenSpec.ofChange quorumAgreesWrong)

/-- 'muntinlaw22.QuorumBack': WHATEVER THE INPUT: true; the input reads as it did. -/
def quorumBackSpec : ChangeSpec := { name := "quorumBack", fn := fun _ => fun
  | [d1, d2, d3] => { results := [.lit (.bool true)], args := [d1, d2, d3] }
  | _ => none }
def quorumBackRow : OpenClaim := { program := "ytaopipghooaekaa", sum := "44dba18d004f1b4d28e52ce314d3d90aa0ee6834cfb1a489fc256fabd23cec41", func := "muntin/muntinlaw22.QuorumBack", spec := "quorumBack", inPlace := ["slices.overlaps[int]"], unfollowed := true, recurses := true, apart := false }
def QuorumBackSaid : Prop := quorumBackRow.holds Try.pinned (OpenSpec.ofChange quorumBackSpec)

/-- ITS FALSE NEIGHBOUR: 'it returns false'. Refute it at one input. -/
def quorumBackWrong : ChangeSpec := { name := "quorumBack", fn := fun _ => fun
  | [d1, d2, d3] => { results := [.lit (.bool false)], args := [d1, d2, d3] }
  | _ => none }
def QuorumBackWrongFalsely : Prop := quorumBackRow.holds Try.pinned (OpenSpec.ofChange quorumBackWrong)

/-- 'muntinlaw22.QuorumMore': WHATEVER THE INPUT: true; the input reads as it did. -/
def quorumMoreSpec : ChangeSpec := { name := "quorumMore", fn := fun _ => fun
  | [d1, d2, d3, d4, d5] => { results := [.lit (.bool true)], args := [d1, d2, d3, d4, d5] }
  | _ => none }
def quorumMoreRow : OpenClaim := { program := "ytaopipghooaekaa", sum := "44dba18d004f1b4d28e52ce314d3d90aa0ee6834cfb1a489fc256fabd23cec41", func := "muntin/muntinlaw22.QuorumMore", spec := "quorumMore", inPlace := ["slices.overlaps[int]"], unfollowed := true, recurses := true, apart := false }
def QuorumMoreSaid : Prop := quorumMoreRow.holds Try.pinned (OpenSpec.ofChange quorumMoreSpec)

/-- ITS FALSE NEIGHBOUR: 'it returns false'. Refute it at one input. -/
def quorumMoreWrong : ChangeSpec := { name := "quorumMore", fn := fun _ => fun
  | [d1, d2, d3, d4, d5] => { results := [.lit (.bool false)], args := [d1, d2, d3, d4, d5] }
  | _ => none }
def QuorumMoreWrongFalsely : Prop := quorumMoreRow.holds Try.pinned (OpenSpec.ofChange quorumMoreWrong)

/- THE SECOND FORM. 'bulk': how many values and letters a reading holds, each counted each time it is reached (what is shared counts as often as it is met; a slice's spare places count too). A statement '..UptoSaid' is the law's where the arguments, and the package variables that the reading takes, are together of bulk at most 1048576: NARROWER than '..Said'. Prove '..Said' where nothing that the law and all that it calls make is longer than what came in: it says more and counts as full. Else prove '..UptoSaid'. A law counts once. -/
mutual
def uptoBulk {H : Type} : DataW H → Nat
  | .lit (.string bytes) => bytes.length + 1
  | .lit _ => 1
  | .nil => 1
  | .ptr d => uptoBulk d + 1
  | .slice elems spare => uptoBulkAll elems + uptoBulkAll spare + 1
  | .agg parts => uptoBulkAll parts + 1
  | .iface _ d => uptoBulk d + 1
  | .map entries => uptoBulkEntries entries + 1
  | .held _ => 1
def uptoBulkAll {H : Type} : List (DataW H) → Nat
  | [] => 0
  | d :: r => uptoBulk d + uptoBulkAll r
def uptoBulkEntries {H : Type} : List (Lit × DataW H) → Nat
  | [] => 0
  | x :: r => uptoBulkEntry x + uptoBulkEntries r
def uptoBulkEntry {H : Type} : Lit × DataW H → Nat
  | (.string bytes, d) => bytes.length + uptoBulk d + 1
  | (_, d) => uptoBulk d + 1
 end
def uptoSmall : (H : Type) → List (DataW H) → Bool := fun _ ds => decide (uptoBulkAll ds ≤ 1048576)
def OpenSpec.upto (s : _root_.Go.ChangeSpec) : _root_.Go.OpenSpec := { _root_.Go.OpenSpec.ofChange s with cond := some uptoSmall }

/-- 'muntinlaw22.QuorumMeets', WHERE WHAT IT READS IS OF BULK AT MOST 1048576: true; the input reads as it did. -/
def quorumMeetsUptoRow : OpenClaim := { program := "ytaopipghooaekaa", sum := "44dba18d004f1b4d28e52ce314d3d90aa0ee6834cfb1a489fc256fabd23cec41", func := "muntin/muntinlaw22.QuorumMeets", spec := "quorumMeets", inPlace := ["slices.overlaps[int]"], unfollowed := true, recurses := true, apart := false, narrowed := true }
def QuorumMeetsUptoSaid : Prop := quorumMeetsUptoRow.holds Try.pinned (OpenSpec.upto quorumMeetsSpec)

/-- 'muntinlaw22.QuorumAgrees', WHERE WHAT IT READS IS OF BULK AT MOST 1048576: true; the input reads as it did. -/
def quorumAgreesUptoRow : OpenClaim := { program := "ytaopipghooaekaa", sum := "44dba18d004f1b4d28e52ce314d3d90aa0ee6834cfb1a489fc256fabd23cec41", func := "muntin/muntinlaw22.QuorumAgrees", spec := "quorumAgrees", inPlace := ["slices.overlaps[int]"], unfollowed := true, recurses := true, apart := false, narrowed := true }
def QuorumAgreesUptoSaid : Prop := quorumAgreesUptoRow.holds Try.pinned (OpenSpec.upto quorumAgreesSpec)

/-- 'muntinlaw22.QuorumBack', WHERE WHAT IT READS IS OF BULK AT MOST 1048576: true; the input reads as it did. -/
def quorumBackUptoRow : OpenClaim := { program := "ytaopipghooaekaa", sum := "44dba18d004f1b4d28e52ce314d3d90aa0ee6834cfb1a489fc256fabd23cec41", func := "muntin/muntinlaw22.QuorumBack", spec := "quorumBack", inPlace := ["slices.overlaps[int]"], unfollowed := true, recurses := true, apart := false, narrowed := true }
def QuorumBackUptoSaid : Prop := quorumBackUptoRow.holds Try.pinned (OpenSpec.upto quorumBackSpec)

/-- 'muntinlaw22.QuorumMore', WHERE WHAT IT READS IS OF BULK AT MOST 1048576: true; the input reads as it did. -/
def quorumMoreUptoRow : OpenClaim := { program := "ytaopipghooaekaa", sum := "44dba18d004f1b4d28e52ce314d3d90aa0ee6834cfb1a489fc256fabd23cec41", func := "muntin/muntinlaw22.QuorumMore", spec := "quorumMore", inPlace := ["slices.overlaps[int]"], unfollowed := true, recurses := true, apart := false, narrowed := true }
def QuorumMoreUptoSaid : Prop := quorumMoreUptoRow.holds Try.pinned (OpenSpec.upto quorumMoreSpec)

end Rows
end Go.Proofs.Ytaopipghooaekaa
