/-
  NARROWER THAN 'FOR EVERY INPUT', by the rows' own cells (each row's printed sentence says how): WireLong: laid · WireFrames: laid · WireScans: laid · WireNums: laid · WireBlobs: laid · WireRows: laid.
  DERIVED. THE GIVEN ROWS OF THIS SEAT. 6 by the template 'for every input the law returns true; each argument reads behind the call as it read before'; 0 by the template 'total and deterministic' (their statements: YtocjfiahkdpicaaDoorTotals.lean).
  GIVEN WITH THE SEED: the statements are not yours to turn. If you find one false, say at which input.
  Laid BY PROGRAM, IN A SANDBOX (cutbox-rows.mjs): the forced cells as the released guide's own fill.sh prints them over the translation 47698cb264f3dc27… (all of the seat's roots in one cut). By AI agents, Wed Nov 11 2026. No macro, syntax, notation, axiom, sorry.
-/
import Derived.Test.YtocjfiahkdpicaaDoorChecked
import GoSem.Claim
import GoSem.ClaimJoined
import GoSem.ClaimMapViews
import Derived.JoinedTies
import Derived.KernelRfl
namespace Go.Proofs.YtocjfiahkdpicaaDoor
/- THE CELL 'sum', in the pinned program and in every row, IS THE sha256 OF THE DUMP (.gsa) THAT YtocjfiahkdpicaaDoorProg.lean LOADS. Nothing in Lean hashes anything: it is a label: what it is worth is what the hold of that sum in a sandbox is worth. -/
noncomputable def Tryd.pinned : Pinned := { name := "ytocjfiahkdpicaadoor", sum := "47698cb264f3dc27c963924ed55dae25a03148fb8fa243fbebdddbf4a88f85d7", checked := Tryd.checked }
namespace Rows
def none {H : Type} : Left H := { results := [], args := [] }

/- WHAT THE LISTED PACKAGE-LEVEL VARIABLES READ AS WHEN THE CALL BEGINS. Each datum BY PROGRAM (the guide's laid-datum.mjs) off the statement by which the dump's own 'gosem.cut.vars' lays the variable. In a bare row this is a premise. The card (YtocjfiahkdpicaaDoorCards.lean) ties it to the program's text. -/
def laid_errors_errorType {H : Type} : DataW H := .iface "internal/reflectlite.rtype" (.agg [.ptr (.lit (.string [101, 114, 114, 111, 114]))])

/-- 'muntinlaw01.WireLong': WHATEVER THE INPUT: true; the input reads as it did. -/
def wireLongSpec : ChangeSpec := { name := "wireLong", fn := fun _ => fun
  | [d] => { results := [.lit (.bool true)], args := [d] }
  | _ => none }
def wireLongRow : OpenClaim := { program := "ytocjfiahkdpicaadoor", sum := "47698cb264f3dc27c963924ed55dae25a03148fb8fa243fbebdddbf4a88f85d7", func := "muntin/muntinlaw01.WireLong", spec := "wireLong", inPlace := ["internal/reflectlite.ValueOf", "(internal/reflectlite.Value).Type", "(internal/reflectlite.Value).IsNil", "internal/reflectlite.TypeOf", "(internal/reflectlite.Value).Elem", "(internal/reflectlite.Value).Set"], unfollowed := true, recurses := true, named := ["errors.errorType"], apart := false, laid := [("errors.errorType", laid_errors_errorType)] }
def WireLongSaid : Prop := wireLongRow.holds Tryd.pinned (OpenSpec.ofChange wireLongSpec)

/-- ITS FALSE NEIGHBOUR: 'it returns false'. Refute it at one input. -/
def wireLongWrong : ChangeSpec := { name := "wireLong", fn := fun _ => fun
  | [d] => { results := [.lit (.bool false)], args := [d] }
  | _ => none }
def WireLongWrongFalsely : Prop := wireLongRow.holds Tryd.pinned (OpenSpec.ofChange wireLongWrong)

/-- 'muntinlaw01.WireFrames': WHATEVER THE INPUT: true; the input reads as it did. -/
def wireFramesSpec : ChangeSpec := { name := "wireFrames", fn := fun _ => fun
  | [d1, d2] => { results := [.lit (.bool true)], args := [d1, d2] }
  | _ => none }
def wireFramesRow : OpenClaim := { program := "ytocjfiahkdpicaadoor", sum := "47698cb264f3dc27c963924ed55dae25a03148fb8fa243fbebdddbf4a88f85d7", func := "muntin/muntinlaw01.WireFrames", spec := "wireFrames", inPlace := ["internal/reflectlite.ValueOf", "(internal/reflectlite.Value).Type", "(internal/reflectlite.Value).IsNil", "internal/reflectlite.TypeOf", "(internal/reflectlite.Value).Elem", "(internal/reflectlite.Value).Set"], unfollowed := true, recurses := true, named := ["errors.errorType"], apart := false, laid := [("errors.errorType", laid_errors_errorType)] }
def WireFramesSaid : Prop := wireFramesRow.holds Tryd.pinned (OpenSpec.ofChange wireFramesSpec)

/-- ITS FALSE NEIGHBOUR: 'it returns false'. Refute it at one input. -/
def wireFramesWrong : ChangeSpec := { name := "wireFrames", fn := fun _ => fun
  | [d1, d2] => { results := [.lit (.bool false)], args := [d1, d2] }
  | _ => none }
def WireFramesWrongFalsely : Prop := wireFramesRow.holds Tryd.pinned (OpenSpec.ofChange wireFramesWrong)

/-- 'muntinlaw01.WireScans': WHATEVER THE INPUT: true; the input reads as it did. -/
def wireScansSpec : ChangeSpec := { name := "wireScans", fn := fun _ => fun
  | [d1, d2, d3, d4, d5] => { results := [.lit (.bool true)], args := [d1, d2, d3, d4, d5] }
  | _ => none }
def wireScansRow : OpenClaim := { program := "ytocjfiahkdpicaadoor", sum := "47698cb264f3dc27c963924ed55dae25a03148fb8fa243fbebdddbf4a88f85d7", func := "muntin/muntinlaw01.WireScans", spec := "wireScans", inPlace := ["internal/reflectlite.ValueOf", "(internal/reflectlite.Value).Type", "(internal/reflectlite.Value).IsNil", "internal/reflectlite.TypeOf", "(internal/reflectlite.Value).Elem", "(internal/reflectlite.Value).Set"], unfollowed := true, recurses := true, named := ["errors.errorType"], apart := false, laid := [("errors.errorType", laid_errors_errorType)] }
def WireScansSaid : Prop := wireScansRow.holds Tryd.pinned (OpenSpec.ofChange wireScansSpec)

/-- ITS FALSE NEIGHBOUR: 'it returns false'. Refute it at one input. -/
def wireScansWrong : ChangeSpec := { name := "wireScans", fn := fun _ => fun
  | [d1, d2, d3, d4, d5] => { results := [.lit (.bool false)], args := [d1, d2, d3, d4, d5] }
  | _ => none }
def WireScansWrongFalsely : Prop := wireScansRow.holds Tryd.pinned (OpenSpec.ofChange wireScansWrong)

/-- 'muntinlaw01.WireNums': WHATEVER THE INPUT: true; the input reads as it did. -/
def wireNumsSpec : ChangeSpec := { name := "wireNums", fn := fun _ => fun
  | [d1, d2] => { results := [.lit (.bool true)], args := [d1, d2] }
  | _ => none }
def wireNumsRow : OpenClaim := { program := "ytocjfiahkdpicaadoor", sum := "47698cb264f3dc27c963924ed55dae25a03148fb8fa243fbebdddbf4a88f85d7", func := "muntin/muntinlaw01.WireNums", spec := "wireNums", inPlace := ["internal/reflectlite.ValueOf", "(internal/reflectlite.Value).Type", "(internal/reflectlite.Value).IsNil", "internal/reflectlite.TypeOf", "(internal/reflectlite.Value).Elem", "(internal/reflectlite.Value).Set"], unfollowed := true, recurses := true, named := ["errors.errorType"], apart := false, laid := [("errors.errorType", laid_errors_errorType)] }
def WireNumsSaid : Prop := wireNumsRow.holds Tryd.pinned (OpenSpec.ofChange wireNumsSpec)

/-- ITS FALSE NEIGHBOUR: 'it returns false'. Refute it at one input. -/
def wireNumsWrong : ChangeSpec := { name := "wireNums", fn := fun _ => fun
  | [d1, d2] => { results := [.lit (.bool false)], args := [d1, d2] }
  | _ => none }
def WireNumsWrongFalsely : Prop := wireNumsRow.holds Tryd.pinned (OpenSpec.ofChange wireNumsWrong)

/-- 'muntinlaw01.WireBlobs': WHATEVER THE INPUT: true; the input reads as it did. -/
def wireBlobsSpec : ChangeSpec := { name := "wireBlobs", fn := fun _ => fun
  | [d1, d2] => { results := [.lit (.bool true)], args := [d1, d2] }
  | _ => none }
def wireBlobsRow : OpenClaim := { program := "ytocjfiahkdpicaadoor", sum := "47698cb264f3dc27c963924ed55dae25a03148fb8fa243fbebdddbf4a88f85d7", func := "muntin/muntinlaw01.WireBlobs", spec := "wireBlobs", inPlace := ["internal/reflectlite.ValueOf", "(internal/reflectlite.Value).Type", "(internal/reflectlite.Value).IsNil", "internal/reflectlite.TypeOf", "(internal/reflectlite.Value).Elem", "(internal/reflectlite.Value).Set"], unfollowed := true, recurses := true, named := ["errors.errorType"], apart := false, laid := [("errors.errorType", laid_errors_errorType)] }
def WireBlobsSaid : Prop := wireBlobsRow.holds Tryd.pinned (OpenSpec.ofChange wireBlobsSpec)

/-- ITS FALSE NEIGHBOUR: 'it returns false'. Refute it at one input. -/
def wireBlobsWrong : ChangeSpec := { name := "wireBlobs", fn := fun _ => fun
  | [d1, d2] => { results := [.lit (.bool false)], args := [d1, d2] }
  | _ => none }
def WireBlobsWrongFalsely : Prop := wireBlobsRow.holds Tryd.pinned (OpenSpec.ofChange wireBlobsWrong)

/-- 'muntinlaw01.WireRows': WHATEVER THE INPUT: true; the input reads as it did. -/
def wireRowsSpec : ChangeSpec := { name := "wireRows", fn := fun _ => fun
  | [d] => { results := [.lit (.bool true)], args := [d] }
  | _ => none }
def wireRowsRow : OpenClaim := { program := "ytocjfiahkdpicaadoor", sum := "47698cb264f3dc27c963924ed55dae25a03148fb8fa243fbebdddbf4a88f85d7", func := "muntin/muntinlaw01.WireRows", spec := "wireRows", inPlace := ["internal/reflectlite.ValueOf", "(internal/reflectlite.Value).Type", "(internal/reflectlite.Value).IsNil", "internal/reflectlite.TypeOf", "(internal/reflectlite.Value).Elem", "(internal/reflectlite.Value).Set"], unfollowed := true, recurses := true, named := ["errors.errorType"], apart := false, laid := [("errors.errorType", laid_errors_errorType)] }
def WireRowsSaid : Prop := wireRowsRow.holds Tryd.pinned (OpenSpec.ofChange wireRowsSpec)

/-- ITS FALSE NEIGHBOUR: 'it returns false'. Refute it at one input. -/
def wireRowsWrong : ChangeSpec := { name := "wireRows", fn := fun _ => fun
  | [d] => { results := [.lit (.bool false)], args := [d] }
  | _ => none }
def WireRowsWrongFalsely : Prop := wireRowsRow.holds Tryd.pinned (OpenSpec.ofChange wireRowsWrong)

/- THE SECOND FORM. 'bulk': how many values and letters a reading holds, each counted each time it is reached (what is shared counts as often as it is met; a slice's spare places count too). A statement '..UptoSaid' is the law's where the arguments, and the package variables that the reading takes, are together of bulk at most 1048576: NARROWER than '..Said'. Prove '..Said' where nothing that the law and all that it calls make is longer than what came in: it says more and counts as full. Else prove '..UptoSaid'. A law counts once. -/
mutual
def uptoBulk {H : Type} : DataW H → Nat
  | .lit (.string bytes) => bytes.length + 1
  | .lit _ => 1
  | .nil => 1
  | .ptr d => uptoBulk d + 1
  | .slice elems spare => uptoBulkAll elems + uptoBulkAll spare + 1
  | .agg parts => uptoBulkAll parts + 1
  | .iface _ d => uptoBulk d + 1
  | .map entries => uptoBulkEntries entries + 1
  | .held _ => 1
def uptoBulkAll {H : Type} : List (DataW H) → Nat
  | [] => 0
  | d :: r => uptoBulk d + uptoBulkAll r
def uptoBulkEntries {H : Type} : List (Lit × DataW H) → Nat
  | [] => 0
  | x :: r => uptoBulkEntry x + uptoBulkEntries r
def uptoBulkEntry {H : Type} : Lit × DataW H → Nat
  | (.string bytes, d) => bytes.length + uptoBulk d + 1
  | (_, d) => uptoBulk d + 1
 end
def uptoSmall : (H : Type) → List (DataW H) → Bool := fun _ ds => decide (uptoBulkAll ds ≤ 1048576)
def OpenSpec.upto (s : _root_.Go.ChangeSpec) : _root_.Go.OpenSpec := { _root_.Go.OpenSpec.ofChange s with cond := some uptoSmall }

/-- 'muntinlaw01.WireLong', WHERE WHAT IT READS IS OF BULK AT MOST 1048576: true; the input reads as it did. -/
def wireLongUptoRow : OpenClaim := { program := "ytocjfiahkdpicaadoor", sum := "47698cb264f3dc27c963924ed55dae25a03148fb8fa243fbebdddbf4a88f85d7", func := "muntin/muntinlaw01.WireLong", spec := "wireLong", inPlace := ["internal/reflectlite.ValueOf", "(internal/reflectlite.Value).Type", "(internal/reflectlite.Value).IsNil", "internal/reflectlite.TypeOf", "(internal/reflectlite.Value).Elem", "(internal/reflectlite.Value).Set"], unfollowed := true, recurses := true, named := ["errors.errorType"], apart := false, laid := [("errors.errorType", laid_errors_errorType)], narrowed := true }
def WireLongUptoSaid : Prop := wireLongUptoRow.holds Tryd.pinned (OpenSpec.upto wireLongSpec)

/-- 'muntinlaw01.WireFrames', WHERE WHAT IT READS IS OF BULK AT MOST 1048576: true; the input reads as it did. -/
def wireFramesUptoRow : OpenClaim := { program := "ytocjfiahkdpicaadoor", sum := "47698cb264f3dc27c963924ed55dae25a03148fb8fa243fbebdddbf4a88f85d7", func := "muntin/muntinlaw01.WireFrames", spec := "wireFrames", inPlace := ["internal/reflectlite.ValueOf", "(internal/reflectlite.Value).Type", "(internal/reflectlite.Value).IsNil", "internal/reflectlite.TypeOf", "(internal/reflectlite.Value).Elem", "(internal/reflectlite.Value).Set"], unfollowed := true, recurses := true, named := ["errors.errorType"], apart := false, laid := [("errors.errorType", laid_errors_errorType)], narrowed := true }
def WireFramesUptoSaid : Prop := wireFramesUptoRow.holds Tryd.pinned (OpenSpec.upto wireFramesSpec)

/-- 'muntinlaw01.WireScans', WHERE WHAT IT READS IS OF BULK AT MOST 1048576: true; the input reads as it did. -/
def wireScansUptoRow : OpenClaim := { program := "ytocjfiahkdpicaadoor", sum := "47698cb264f3dc27c963924ed55dae25a03148fb8fa243fbebdddbf4a88f85d7", func := "muntin/muntinlaw01.WireScans", spec := "wireScans", inPlace := ["internal/reflectlite.ValueOf", "(internal/reflectlite.Value).Type", "(internal/reflectlite.Value).IsNil", "internal/reflectlite.TypeOf", "(internal/reflectlite.Value).Elem", "(internal/reflectlite.Value).Set"], unfollowed := true, recurses := true, named := ["errors.errorType"], apart := false, laid := [("errors.errorType", laid_errors_errorType)], narrowed := true }
def WireScansUptoSaid : Prop := wireScansUptoRow.holds Tryd.pinned (OpenSpec.upto wireScansSpec)

/-- 'muntinlaw01.WireNums', WHERE WHAT IT READS IS OF BULK AT MOST 1048576: true; the input reads as it did. -/
def wireNumsUptoRow : OpenClaim := { program := "ytocjfiahkdpicaadoor", sum := "47698cb264f3dc27c963924ed55dae25a03148fb8fa243fbebdddbf4a88f85d7", func := "muntin/muntinlaw01.WireNums", spec := "wireNums", inPlace := ["internal/reflectlite.ValueOf", "(internal/reflectlite.Value).Type", "(internal/reflectlite.Value).IsNil", "internal/reflectlite.TypeOf", "(internal/reflectlite.Value).Elem", "(internal/reflectlite.Value).Set"], unfollowed := true, recurses := true, named := ["errors.errorType"], apart := false, laid := [("errors.errorType", laid_errors_errorType)], narrowed := true }
def WireNumsUptoSaid : Prop := wireNumsUptoRow.holds Tryd.pinned (OpenSpec.upto wireNumsSpec)

/-- 'muntinlaw01.WireBlobs', WHERE WHAT IT READS IS OF BULK AT MOST 1048576: true; the input reads as it did. -/
def wireBlobsUptoRow : OpenClaim := { program := "ytocjfiahkdpicaadoor", sum := "47698cb264f3dc27c963924ed55dae25a03148fb8fa243fbebdddbf4a88f85d7", func := "muntin/muntinlaw01.WireBlobs", spec := "wireBlobs", inPlace := ["internal/reflectlite.ValueOf", "(internal/reflectlite.Value).Type", "(internal/reflectlite.Value).IsNil", "internal/reflectlite.TypeOf", "(internal/reflectlite.Value).Elem", "(internal/reflectlite.Value).Set"], unfollowed := true, recurses := true, named := ["errors.errorType"], apart := false, laid := [("errors.errorType", laid_errors_errorType)], narrowed := true }
def WireBlobsUptoSaid : Prop := wireBlobsUptoRow.holds Tryd.pinned (OpenSpec.upto wireBlobsSpec)

/-- 'muntinlaw01.WireRows', WHERE WHAT IT READS IS OF BULK AT MOST 1048576: true; the input reads as it did. -/
def wireRowsUptoRow : OpenClaim := { program := "ytocjfiahkdpicaadoor", sum := "47698cb264f3dc27c963924ed55dae25a03148fb8fa243fbebdddbf4a88f85d7", func := "muntin/muntinlaw01.WireRows", spec := "wireRows", inPlace := ["internal/reflectlite.ValueOf", "(internal/reflectlite.Value).Type", "(internal/reflectlite.Value).IsNil", "internal/reflectlite.TypeOf", "(internal/reflectlite.Value).Elem", "(internal/reflectlite.Value).Set"], unfollowed := true, recurses := true, named := ["errors.errorType"], apart := false, laid := [("errors.errorType", laid_errors_errorType)], narrowed := true }
def WireRowsUptoSaid : Prop := wireRowsUptoRow.holds Tryd.pinned (OpenSpec.upto wireRowsSpec)

end Rows
end Go.Proofs.YtocjfiahkdpicaaDoor
