/-
  No cell of these rows narrows 'for every input' (looked for: loops, veiled, ifaces, maps, wideKeys, modest, calm, conditions, laid).
  DERIVED. THE GIVEN ROWS OF THIS SEAT. 5 by the template 'for every input the law returns true; each argument reads behind the call as it read before'; 0 by the template 'total and deterministic' (their statements: YtocjfiahkdpicaaTotals.lean).
  GIVEN WITH THE SEED: the statements are not yours to turn. If you find one false, say at which input.
  Laid BY PROGRAM, IN A SANDBOX (cutbox-rows.mjs): the forced cells as the released guide's own fill.sh prints them over the translation 7209169c0b218838… (all of the seat's roots in one cut). By AI agents, Wed Nov 11 2026. No macro, syntax, notation, axiom, sorry.
-/
import Derived.Test.YtocjfiahkdpicaaChecked
import GoSem.Claim
import GoSem.ClaimJoined
import GoSem.ClaimMapViews
import Derived.JoinedTies
import Derived.KernelRfl
namespace Go.Proofs.Ytocjfiahkdpicaa
/- THE CELL 'sum', in the pinned program and in every row, IS THE sha256 OF THE DUMP (.gsa) THAT YtocjfiahkdpicaaProg.lean LOADS. Nothing in Lean hashes anything: it is a label: what it is worth is what the hold of that sum in a sandbox is worth. -/
noncomputable def Try.pinned : Pinned := { name := "ytocjfiahkdpicaa", sum := "7209169c0b218838b8e85d191a18b54bc7eea0feae7f5a6395de103fa37a295a", checked := Try.checked }
namespace Rows
def none {H : Type} : Left H := { results := [], args := [] }

/-- 'muntinlaw01.WireSums': WHATEVER THE INPUT: true; the input reads as it did. -/
def wireSumsSpec : ChangeSpec := { name := "wireSums", fn := fun _ => fun
  | [d] => { results := [.lit (.bool true)], args := [d] }
  | _ => none }
def wireSumsRow : OpenClaim := { program := "ytocjfiahkdpicaa", sum := "7209169c0b218838b8e85d191a18b54bc7eea0feae7f5a6395de103fa37a295a", func := "muntin/muntinlaw01.WireSums", spec := "wireSums", apart := false }
def WireSumsSaid : Prop := wireSumsRow.holds Try.pinned (OpenSpec.ofChange wireSumsSpec)

/-- ITS FALSE NEIGHBOUR: 'it returns false'. Refute it at one input. -/
def wireSumsWrong : ChangeSpec := { name := "wireSums", fn := fun _ => fun
  | [d] => { results := [.lit (.bool false)], args := [d] }
  | _ => none }
def WireSumsWrongFalsely : Prop := wireSumsRow.holds Try.pinned (OpenSpec.ofChange wireSumsWrong)

/-- 'muntinlaw01.WireRises': WHATEVER THE INPUT: true; the input reads as it did. -/
def wireRisesSpec : ChangeSpec := { name := "wireRises", fn := fun _ => fun
  | [d1, d2] => { results := [.lit (.bool true)], args := [d1, d2] }
  | _ => none }
def wireRisesRow : OpenClaim := { program := "ytocjfiahkdpicaa", sum := "7209169c0b218838b8e85d191a18b54bc7eea0feae7f5a6395de103fa37a295a", func := "muntin/muntinlaw01.WireRises", spec := "wireRises", apart := false }
def WireRisesSaid : Prop := wireRisesRow.holds Try.pinned (OpenSpec.ofChange wireRisesSpec)

/-- ITS FALSE NEIGHBOUR: 'it returns false'. Refute it at one input. -/
def wireRisesWrong : ChangeSpec := { name := "wireRises", fn := fun _ => fun
  | [d1, d2] => { results := [.lit (.bool false)], args := [d1, d2] }
  | _ => none }
def WireRisesWrongFalsely : Prop := wireRisesRow.holds Try.pinned (OpenSpec.ofChange wireRisesWrong)

/-- 'muntinlaw01.WireTurned': WHATEVER THE INPUT: true; the input reads as it did. -/
def wireTurnedSpec : ChangeSpec := { name := "wireTurned", fn := fun _ => fun
  | [d1, d2, d3] => { results := [.lit (.bool true)], args := [d1, d2, d3] }
  | _ => none }
def wireTurnedRow : OpenClaim := { program := "ytocjfiahkdpicaa", sum := "7209169c0b218838b8e85d191a18b54bc7eea0feae7f5a6395de103fa37a295a", func := "muntin/muntinlaw01.WireTurned", spec := "wireTurned", apart := false }
def WireTurnedSaid : Prop := wireTurnedRow.holds Try.pinned (OpenSpec.ofChange wireTurnedSpec)

/-- ITS FALSE NEIGHBOUR: 'it returns false'. Refute it at one input. -/
def wireTurnedWrong : ChangeSpec := { name := "wireTurned", fn := fun _ => fun
  | [d1, d2, d3] => { results := [.lit (.bool false)], args := [d1, d2, d3] }
  | _ => none }
def WireTurnedWrongFalsely : Prop := wireTurnedRow.holds Try.pinned (OpenSpec.ofChange wireTurnedWrong)

/-- 'muntinlaw01.WireTorn': WHATEVER THE INPUT: true; the input reads as it did. -/
def wireTornSpec : ChangeSpec := { name := "wireTorn", fn := fun _ => fun
  | [d1, d2] => { results := [.lit (.bool true)], args := [d1, d2] }
  | _ => none }
def wireTornRow : OpenClaim := { program := "ytocjfiahkdpicaa", sum := "7209169c0b218838b8e85d191a18b54bc7eea0feae7f5a6395de103fa37a295a", func := "muntin/muntinlaw01.WireTorn", spec := "wireTorn", apart := false }
def WireTornSaid : Prop := wireTornRow.holds Try.pinned (OpenSpec.ofChange wireTornSpec)

/-- ITS FALSE NEIGHBOUR: 'it returns false'. Refute it at one input. -/
def wireTornWrong : ChangeSpec := { name := "wireTorn", fn := fun _ => fun
  | [d1, d2] => { results := [.lit (.bool false)], args := [d1, d2] }
  | _ => none }
def WireTornWrongFalsely : Prop := wireTornRow.holds Try.pinned (OpenSpec.ofChange wireTornWrong)

/-- 'muntinlaw01.WireBack': WHATEVER THE INPUT: true; the input reads as it did. -/
def wireBackSpec : ChangeSpec := { name := "wireBack", fn := fun _ => fun
  | [d1, d2, d3] => { results := [.lit (.bool true)], args := [d1, d2, d3] }
  | _ => none }
def wireBackRow : OpenClaim := { program := "ytocjfiahkdpicaa", sum := "7209169c0b218838b8e85d191a18b54bc7eea0feae7f5a6395de103fa37a295a", func := "muntin/muntinlaw01.WireBack", spec := "wireBack", apart := false }
def WireBackSaid : Prop := wireBackRow.holds Try.pinned (OpenSpec.ofChange wireBackSpec)

/-- ITS FALSE NEIGHBOUR: 'it returns false'. Refute it at one input. -/
def wireBackWrong : ChangeSpec := { name := "wireBack", fn := fun _ => fun
  | [d1, d2, d3] => { results := [.lit (.bool false)], args := [d1, d2, d3] }
  | _ => none }
def WireBackWrongFalsely : Prop := wireBackRow.holds Try.pinned (OpenSpec.ofChange wireBackWrong)

/- THE SECOND FORM. 'bulk': how many values and letters a reading holds, each counted each time it is reached (what is shared counts as often as it is met; a slice's spare places count too). A statement '..UptoSaid' is the law's where the arguments, and the package variables that the reading takes, are together of bulk at most 1048576: NARROWER than '..Said'. Prove '..Said' where nothing that the law and all that it calls make is longer than what came in: it says more and counts as full. Else prove '..UptoSaid'. A law counts once. -/
mutual
def uptoBulk {H : Type} : DataW H → Nat
  | .lit (.string bytes) => bytes.length + 1
  | .lit _ => 1
  | .nil => 1
  | .ptr d => uptoBulk d + 1
  | .slice elems spare => uptoBulkAll elems + uptoBulkAll spare + 1
  | .agg parts => uptoBulkAll parts + 1
  | .iface _ d => uptoBulk d + 1
  | .map entries => uptoBulkEntries entries + 1
  | .held _ => 1
def uptoBulkAll {H : Type} : List (DataW H) → Nat
  | [] => 0
  | d :: r => uptoBulk d + uptoBulkAll r
def uptoBulkEntries {H : Type} : List (Lit × DataW H) → Nat
  | [] => 0
  | x :: r => uptoBulkEntry x + uptoBulkEntries r
def uptoBulkEntry {H : Type} : Lit × DataW H → Nat
  | (.string bytes, d) => bytes.length + uptoBulk d + 1
  | (_, d) => uptoBulk d + 1
 end
def uptoSmall : (H : Type) → List (DataW H) → Bool := fun _ ds => decide (uptoBulkAll ds ≤ 1048576)
def OpenSpec.upto (s : _root_.Go.ChangeSpec) : _root_.Go.OpenSpec := { _root_.Go.OpenSpec.ofChange s with cond := some uptoSmall }

/-- 'muntinlaw01.WireSums', WHERE WHAT IT READS IS OF BULK AT MOST 1048576: true; the input reads as it did. -/
def wireSumsUptoRow : OpenClaim := { program := "ytocjfiahkdpicaa", sum := "7209169c0b218838b8e85d191a18b54bc7eea0feae7f5a6395de103fa37a295a", func := "muntin/muntinlaw01.WireSums", spec := "wireSums", apart := false, narrowed := true }
def WireSumsUptoSaid : Prop := wireSumsUptoRow.holds Try.pinned (OpenSpec.upto wireSumsSpec)

/-- 'muntinlaw01.WireRises', WHERE WHAT IT READS IS OF BULK AT MOST 1048576: true; the input reads as it did. -/
def wireRisesUptoRow : OpenClaim := { program := "ytocjfiahkdpicaa", sum := "7209169c0b218838b8e85d191a18b54bc7eea0feae7f5a6395de103fa37a295a", func := "muntin/muntinlaw01.WireRises", spec := "wireRises", apart := false, narrowed := true }
def WireRisesUptoSaid : Prop := wireRisesUptoRow.holds Try.pinned (OpenSpec.upto wireRisesSpec)

/-- 'muntinlaw01.WireTurned', WHERE WHAT IT READS IS OF BULK AT MOST 1048576: true; the input reads as it did. -/
def wireTurnedUptoRow : OpenClaim := { program := "ytocjfiahkdpicaa", sum := "7209169c0b218838b8e85d191a18b54bc7eea0feae7f5a6395de103fa37a295a", func := "muntin/muntinlaw01.WireTurned", spec := "wireTurned", apart := false, narrowed := true }
def WireTurnedUptoSaid : Prop := wireTurnedUptoRow.holds Try.pinned (OpenSpec.upto wireTurnedSpec)

/-- 'muntinlaw01.WireTorn', WHERE WHAT IT READS IS OF BULK AT MOST 1048576: true; the input reads as it did. -/
def wireTornUptoRow : OpenClaim := { program := "ytocjfiahkdpicaa", sum := "7209169c0b218838b8e85d191a18b54bc7eea0feae7f5a6395de103fa37a295a", func := "muntin/muntinlaw01.WireTorn", spec := "wireTorn", apart := false, narrowed := true }
def WireTornUptoSaid : Prop := wireTornUptoRow.holds Try.pinned (OpenSpec.upto wireTornSpec)

/-- 'muntinlaw01.WireBack', WHERE WHAT IT READS IS OF BULK AT MOST 1048576: true; the input reads as it did. -/
def wireBackUptoRow : OpenClaim := { program := "ytocjfiahkdpicaa", sum := "7209169c0b218838b8e85d191a18b54bc7eea0feae7f5a6395de103fa37a295a", func := "muntin/muntinlaw01.WireBack", spec := "wireBack", apart := false, narrowed := true }
def WireBackUptoSaid : Prop := wireBackUptoRow.holds Try.pinned (OpenSpec.upto wireBackSpec)

end Rows
end Go.Proofs.Ytocjfiahkdpicaa
