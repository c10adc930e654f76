/-
  NARROWER THAN 'FOR EVERY INPUT', by the rows' own cells (each row's printed sentence says how): TrailBacks: laid · TrailMerged: laid · TrailMatches: laid · TrailAdds: laid · TrailPlays: laid.
  DERIVED. THE GIVEN ROWS OF THIS SEAT. 5 by the template 'for every input the law returns true; each argument reads behind the call as it read before'; 0 by the template 'total and deterministic' (their statements: YtkjpfjgaabbggaaDoorTotals.lean).
  GIVEN WITH THE SEED: the statements are not yours to turn. If you find one false, say at which input.
  Laid BY PROGRAM, IN A SANDBOX (cutbox-rows.mjs): the forced cells as the released guide's own fill.sh prints them over the translation dfb497c422adc012… (all of the seat's roots in one cut). By AI agents, Wed Nov 11 2026. No macro, syntax, notation, axiom, sorry.
-/
import Derived.Test.YtkjpfjgaabbggaaDoorChecked
import GoSem.Claim
import GoSem.ClaimJoined
import GoSem.ClaimMapViews
import Derived.JoinedTies
import Derived.KernelRfl
namespace Go.Proofs.YtkjpfjgaabbggaaDoor
/- THE CELL 'sum', in the pinned program and in every row, IS THE sha256 OF THE DUMP (.gsa) THAT YtkjpfjgaabbggaaDoorProg.lean LOADS. Nothing in Lean hashes anything: it is a label: what it is worth is what the hold of that sum in a sandbox is worth. -/
noncomputable def Tryd.pinned : Pinned := { name := "ytkjpfjgaabbggaadoor", sum := "dfb497c422adc012428449aca3c575070848469ee2271512ae68c094cb054b6b", checked := Tryd.checked }
namespace Rows
def none {H : Type} : Left H := { results := [], args := [] }

/- WHAT THE LISTED PACKAGE-LEVEL VARIABLES READ AS WHEN THE CALL BEGINS. Each datum BY PROGRAM (the guide's laid-datum.mjs) off the statement by which the dump's own 'gosem.cut.vars' lays the variable. In a bare row this is a premise. The card (YtkjpfjgaabbggaaDoorCards.lean) ties it to the program's text. -/
def laid_errors_errorType {H : Type} : DataW H := .iface "internal/reflectlite.rtype" (.agg [.ptr (.lit (.string [101, 114, 114, 111, 114]))])

/-- 'muntinlaw21.TrailBacks': WHATEVER THE INPUT: true; the input reads as it did. -/
def trailBacksSpec : ChangeSpec := { name := "trailBacks", fn := fun _ => fun
  | [d1, d2, d3, d4] => { results := [.lit (.bool true)], args := [d1, d2, d3, d4] }
  | _ => none }
def trailBacksRow : OpenClaim := { program := "ytkjpfjgaabbggaadoor", sum := "dfb497c422adc012428449aca3c575070848469ee2271512ae68c094cb054b6b", func := "muntin/muntinlaw21.TrailBacks", spec := "trailBacks", inPlace := ["internal/reflectlite.ValueOf", "(internal/reflectlite.Value).Type", "(internal/reflectlite.Value).IsNil", "internal/reflectlite.TypeOf", "(internal/reflectlite.Value).Elem", "(internal/reflectlite.Value).Set"], unfollowed := true, recurses := true, named := ["errors.errorType"], apart := false, laid := [("errors.errorType", laid_errors_errorType)] }
def TrailBacksSaid : Prop := trailBacksRow.holds Tryd.pinned (OpenSpec.ofChange trailBacksSpec)

/-- ITS FALSE NEIGHBOUR: 'it returns false'. Refute it at one input. -/
def trailBacksWrong : ChangeSpec := { name := "trailBacks", fn := fun _ => fun
  | [d1, d2, d3, d4] => { results := [.lit (.bool false)], args := [d1, d2, d3, d4] }
  | _ => none }
def TrailBacksWrongFalsely : Prop := trailBacksRow.holds Tryd.pinned (OpenSpec.ofChange trailBacksWrong)

/-- 'muntinlaw21.TrailMerged': WHATEVER THE INPUT: true; the input reads as it did. -/
def trailMergedSpec : ChangeSpec := { name := "trailMerged", fn := fun _ => fun
  | [d1, d2, d3, d4, d5, d6] => { results := [.lit (.bool true)], args := [d1, d2, d3, d4, d5, d6] }
  | _ => none }
def trailMergedRow : OpenClaim := { program := "ytkjpfjgaabbggaadoor", sum := "dfb497c422adc012428449aca3c575070848469ee2271512ae68c094cb054b6b", func := "muntin/muntinlaw21.TrailMerged", spec := "trailMerged", inPlace := ["internal/reflectlite.ValueOf", "(internal/reflectlite.Value).Type", "(internal/reflectlite.Value).IsNil", "internal/reflectlite.TypeOf", "(internal/reflectlite.Value).Elem", "(internal/reflectlite.Value).Set"], unfollowed := true, recurses := true, named := ["errors.errorType"], apart := false, laid := [("errors.errorType", laid_errors_errorType)] }
def TrailMergedSaid : Prop := trailMergedRow.holds Tryd.pinned (OpenSpec.ofChange trailMergedSpec)

/-- ITS FALSE NEIGHBOUR: 'it returns false'. Refute it at one input. -/
def trailMergedWrong : ChangeSpec := { name := "trailMerged", fn := fun _ => fun
  | [d1, d2, d3, d4, d5, d6] => { results := [.lit (.bool false)], args := [d1, d2, d3, d4, d5, d6] }
  | _ => none }
def TrailMergedWrongFalsely : Prop := trailMergedRow.holds Tryd.pinned (OpenSpec.ofChange trailMergedWrong)

/-- 'muntinlaw21.TrailMatches': WHATEVER THE INPUT: true; the input reads as it did. -/
def trailMatchesSpec : ChangeSpec := { name := "trailMatches", fn := fun _ => fun
  | [d1, d2] => { results := [.lit (.bool true)], args := [d1, d2] }
  | _ => none }
def trailMatchesRow : OpenClaim := { program := "ytkjpfjgaabbggaadoor", sum := "dfb497c422adc012428449aca3c575070848469ee2271512ae68c094cb054b6b", func := "muntin/muntinlaw21.TrailMatches", spec := "trailMatches", inPlace := ["internal/reflectlite.ValueOf", "(internal/reflectlite.Value).Type", "(internal/reflectlite.Value).IsNil", "internal/reflectlite.TypeOf", "(internal/reflectlite.Value).Elem", "(internal/reflectlite.Value).Set"], unfollowed := true, recurses := true, named := ["errors.errorType"], apart := false, laid := [("errors.errorType", laid_errors_errorType)] }
def TrailMatchesSaid : Prop := trailMatchesRow.holds Tryd.pinned (OpenSpec.ofChange trailMatchesSpec)

/-- ITS FALSE NEIGHBOUR: 'it returns false'. Refute it at one input. -/
def trailMatchesWrong : ChangeSpec := { name := "trailMatches", fn := fun _ => fun
  | [d1, d2] => { results := [.lit (.bool false)], args := [d1, d2] }
  | _ => none }
def TrailMatchesWrongFalsely : Prop := trailMatchesRow.holds Tryd.pinned (OpenSpec.ofChange trailMatchesWrong)

/-- 'muntinlaw21.TrailAdds': WHATEVER THE INPUT: true; the input reads as it did. -/
def trailAddsSpec : ChangeSpec := { name := "trailAdds", fn := fun _ => fun
  | [d1, d2, d3, d4, d5, d6] => { results := [.lit (.bool true)], args := [d1, d2, d3, d4, d5, d6] }
  | _ => none }
def trailAddsRow : OpenClaim := { program := "ytkjpfjgaabbggaadoor", sum := "dfb497c422adc012428449aca3c575070848469ee2271512ae68c094cb054b6b", func := "muntin/muntinlaw21.TrailAdds", spec := "trailAdds", inPlace := ["internal/reflectlite.ValueOf", "(internal/reflectlite.Value).Type", "(internal/reflectlite.Value).IsNil", "internal/reflectlite.TypeOf", "(internal/reflectlite.Value).Elem", "(internal/reflectlite.Value).Set"], unfollowed := true, recurses := true, named := ["errors.errorType"], apart := false, laid := [("errors.errorType", laid_errors_errorType)] }
def TrailAddsSaid : Prop := trailAddsRow.holds Tryd.pinned (OpenSpec.ofChange trailAddsSpec)

/-- ITS FALSE NEIGHBOUR: 'it returns false'. Refute it at one input. -/
def trailAddsWrong : ChangeSpec := { name := "trailAdds", fn := fun _ => fun
  | [d1, d2, d3, d4, d5, d6] => { results := [.lit (.bool false)], args := [d1, d2, d3, d4, d5, d6] }
  | _ => none }
def TrailAddsWrongFalsely : Prop := trailAddsRow.holds Tryd.pinned (OpenSpec.ofChange trailAddsWrong)

/-- 'muntinlaw21.TrailPlays': WHATEVER THE INPUT: true; the input reads as it did. -/
def trailPlaysSpec : ChangeSpec := { name := "trailPlays", fn := fun _ => fun
  | [d1, d2, d3, d4, d5, d6, d7] => { results := [.lit (.bool true)], args := [d1, d2, d3, d4, d5, d6, d7] }
  | _ => none }
def trailPlaysRow : OpenClaim := { program := "ytkjpfjgaabbggaadoor", sum := "dfb497c422adc012428449aca3c575070848469ee2271512ae68c094cb054b6b", func := "muntin/muntinlaw21.TrailPlays", spec := "trailPlays", inPlace := ["internal/reflectlite.ValueOf", "(internal/reflectlite.Value).Type", "(internal/reflectlite.Value).IsNil", "internal/reflectlite.TypeOf", "(internal/reflectlite.Value).Elem", "(internal/reflectlite.Value).Set"], unfollowed := true, recurses := true, named := ["errors.errorType"], apart := false, laid := [("errors.errorType", laid_errors_errorType)] }
def TrailPlaysSaid : Prop := trailPlaysRow.holds Tryd.pinned (OpenSpec.ofChange trailPlaysSpec)

/-- ITS FALSE NEIGHBOUR: 'it returns false'. Refute it at one input. -/
def trailPlaysWrong : ChangeSpec := { name := "trailPlays", fn := fun _ => fun
  | [d1, d2, d3, d4, d5, d6, d7] => { results := [.lit (.bool false)], args := [d1, d2, d3, d4, d5, d6, d7] }
  | _ => none }
def TrailPlaysWrongFalsely : Prop := trailPlaysRow.holds Tryd.pinned (OpenSpec.ofChange trailPlaysWrong)

/- THE SECOND FORM. 'bulk': how many values and letters a reading holds, each counted each time it is reached (what is shared counts as often as it is met; a slice's spare places count too). A statement '..UptoSaid' is the law's where the arguments, and the package variables that the reading takes, are together of bulk at most 1048576: NARROWER than '..Said'. Prove '..Said' where nothing that the law and all that it calls make is longer than what came in: it says more and counts as full. Else prove '..UptoSaid'. A law counts once. -/
mutual
def uptoBulk {H : Type} : DataW H → Nat
  | .lit (.string bytes) => bytes.length + 1
  | .lit _ => 1
  | .nil => 1
  | .ptr d => uptoBulk d + 1
  | .slice elems spare => uptoBulkAll elems + uptoBulkAll spare + 1
  | .agg parts => uptoBulkAll parts + 1
  | .iface _ d => uptoBulk d + 1
  | .map entries => uptoBulkEntries entries + 1
  | .held _ => 1
def uptoBulkAll {H : Type} : List (DataW H) → Nat
  | [] => 0
  | d :: r => uptoBulk d + uptoBulkAll r
def uptoBulkEntries {H : Type} : List (Lit × DataW H) → Nat
  | [] => 0
  | x :: r => uptoBulkEntry x + uptoBulkEntries r
def uptoBulkEntry {H : Type} : Lit × DataW H → Nat
  | (.string bytes, d) => bytes.length + uptoBulk d + 1
  | (_, d) => uptoBulk d + 1
 end
def uptoSmall : (H : Type) → List (DataW H) → Bool := fun _ ds => decide (uptoBulkAll ds ≤ 1048576)
def OpenSpec.upto (s : _root_.Go.ChangeSpec) : _root_.Go.OpenSpec := { _root_.Go.OpenSpec.ofChange s with cond := some uptoSmall }

/-- 'muntinlaw21.TrailBacks', WHERE WHAT IT READS IS OF BULK AT MOST 1048576: true; the input reads as it did. -/
def trailBacksUptoRow : OpenClaim := { program := "ytkjpfjgaabbggaadoor", sum := "dfb497c422adc012428449aca3c575070848469ee2271512ae68c094cb054b6b", func := "muntin/muntinlaw21.TrailBacks", spec := "trailBacks", inPlace := ["internal/reflectlite.ValueOf", "(internal/reflectlite.Value).Type", "(internal/reflectlite.Value).IsNil", "internal/reflectlite.TypeOf", "(internal/reflectlite.Value).Elem", "(internal/reflectlite.Value).Set"], unfollowed := true, recurses := true, named := ["errors.errorType"], apart := false, laid := [("errors.errorType", laid_errors_errorType)], narrowed := true }
def TrailBacksUptoSaid : Prop := trailBacksUptoRow.holds Tryd.pinned (OpenSpec.upto trailBacksSpec)

/-- 'muntinlaw21.TrailMerged', WHERE WHAT IT READS IS OF BULK AT MOST 1048576: true; the input reads as it did. -/
def trailMergedUptoRow : OpenClaim := { program := "ytkjpfjgaabbggaadoor", sum := "dfb497c422adc012428449aca3c575070848469ee2271512ae68c094cb054b6b", func := "muntin/muntinlaw21.TrailMerged", spec := "trailMerged", inPlace := ["internal/reflectlite.ValueOf", "(internal/reflectlite.Value).Type", "(internal/reflectlite.Value).IsNil", "internal/reflectlite.TypeOf", "(internal/reflectlite.Value).Elem", "(internal/reflectlite.Value).Set"], unfollowed := true, recurses := true, named := ["errors.errorType"], apart := false, laid := [("errors.errorType", laid_errors_errorType)], narrowed := true }
def TrailMergedUptoSaid : Prop := trailMergedUptoRow.holds Tryd.pinned (OpenSpec.upto trailMergedSpec)

/-- 'muntinlaw21.TrailMatches', WHERE WHAT IT READS IS OF BULK AT MOST 1048576: true; the input reads as it did. -/
def trailMatchesUptoRow : OpenClaim := { program := "ytkjpfjgaabbggaadoor", sum := "dfb497c422adc012428449aca3c575070848469ee2271512ae68c094cb054b6b", func := "muntin/muntinlaw21.TrailMatches", spec := "trailMatches", inPlace := ["internal/reflectlite.ValueOf", "(internal/reflectlite.Value).Type", "(internal/reflectlite.Value).IsNil", "internal/reflectlite.TypeOf", "(internal/reflectlite.Value).Elem", "(internal/reflectlite.Value).Set"], unfollowed := true, recurses := true, named := ["errors.errorType"], apart := false, laid := [("errors.errorType", laid_errors_errorType)], narrowed := true }
def TrailMatchesUptoSaid : Prop := trailMatchesUptoRow.holds Tryd.pinned (OpenSpec.upto trailMatchesSpec)

/-- 'muntinlaw21.TrailAdds', WHERE WHAT IT READS IS OF BULK AT MOST 1048576: true; the input reads as it did. -/
def trailAddsUptoRow : OpenClaim := { program := "ytkjpfjgaabbggaadoor", sum := "dfb497c422adc012428449aca3c575070848469ee2271512ae68c094cb054b6b", func := "muntin/muntinlaw21.TrailAdds", spec := "trailAdds", inPlace := ["internal/reflectlite.ValueOf", "(internal/reflectlite.Value).Type", "(internal/reflectlite.Value).IsNil", "internal/reflectlite.TypeOf", "(internal/reflectlite.Value).Elem", "(internal/reflectlite.Value).Set"], unfollowed := true, recurses := true, named := ["errors.errorType"], apart := false, laid := [("errors.errorType", laid_errors_errorType)], narrowed := true }
def TrailAddsUptoSaid : Prop := trailAddsUptoRow.holds Tryd.pinned (OpenSpec.upto trailAddsSpec)

/-- 'muntinlaw21.TrailPlays', WHERE WHAT IT READS IS OF BULK AT MOST 1048576: true; the input reads as it did. -/
def trailPlaysUptoRow : OpenClaim := { program := "ytkjpfjgaabbggaadoor", sum := "dfb497c422adc012428449aca3c575070848469ee2271512ae68c094cb054b6b", func := "muntin/muntinlaw21.TrailPlays", spec := "trailPlays", inPlace := ["internal/reflectlite.ValueOf", "(internal/reflectlite.Value).Type", "(internal/reflectlite.Value).IsNil", "internal/reflectlite.TypeOf", "(internal/reflectlite.Value).Elem", "(internal/reflectlite.Value).Set"], unfollowed := true, recurses := true, named := ["errors.errorType"], apart := false, laid := [("errors.errorType", laid_errors_errorType)], narrowed := true }
def TrailPlaysUptoSaid : Prop := trailPlaysUptoRow.holds Tryd.pinned (OpenSpec.upto trailPlaysSpec)

end Rows
end Go.Proofs.YtkjpfjgaabbggaaDoor
