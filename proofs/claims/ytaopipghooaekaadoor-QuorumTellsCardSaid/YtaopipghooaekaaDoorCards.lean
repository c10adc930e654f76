/-
  DERIVED. GIVEN WITH THE SEED: THE CARDS: each row of YtaopipghooaekaaDoorRows.lean that lists a variable, with what it lists TIED to the program's text (the seventh form; the later family's looks); each row that meets fmt, with fmt's text TOLD by the authors' own Lean function (tested against real Go, not proved from fmt's source: count such statements apart). THE CARD IS WHAT COUNTS. Prove the row's statement (the work); the ties are given (YtaopipghooaekaaDoorTie.lean); close each card by the builder's one call (the guide's Derived/Test/ToyasCard.lean, 'card_holds'). Laid BY PROGRAM, IN A SANDBOX (cutbox-door.mjs). By AI agents, Wed Nov 11 2026. No macro, syntax, notation, axiom, sorry.
-/
import Derived.Test.YtaopipghooaekaaDoorRows
import GoSem.ClaimSeven
namespace Go.Proofs.YtaopipghooaekaaDoor
namespace Rows

/-- THE TIED CARD OF 'muntinlaw22.QuorumChanges'. -/
def quorumChangesCard : Claim7 := { stood := { row := quorumChangesRow, standIns := [], harness := (true, "d6dc247d527b54931923b0e81737cd816633f1415f683ce543c52bad81e71b14"), looks := true }, kinds := [], alts := [], laidByText := true, laidKinds := [.handle], laidTests := true, laidLooks := .later }
def QuorumChangesCardSaid : Prop := Claim7.holds Tryd.pinned (.plain (OpenSpec.ofChange quorumChangesSpec)) quorumChangesCard

/-- THE TIED CARD OF 'muntinlaw22.QuorumTells'. -/
def quorumTellsCard : Claim7 := { stood := { row := quorumTellsRow, standIns := [], harness := (true, "d6dc247d527b54931923b0e81737cd816633f1415f683ce543c52bad81e71b14"), looks := true }, kinds := [], alts := [], laidByText := true, laidKinds := [.handle], laidTests := true, laidLooks := .later }
def QuorumTellsCardSaid : Prop := Claim7.holds Tryd.pinned (.plain (OpenSpec.ofChange quorumTellsSpec)) quorumTellsCard

/-- THE SECOND FORM's CARD OF 'muntinlaw22.QuorumChanges'. -/
def quorumChangesUptoCard : Claim7 := { stood := { row := quorumChangesUptoRow, standIns := [], harness := (true, "d6dc247d527b54931923b0e81737cd816633f1415f683ce543c52bad81e71b14"), looks := true }, kinds := [], alts := [], laidByText := true, laidKinds := [.handle], laidTests := true, laidLooks := .later }
def QuorumChangesUptoCardSaid : Prop := Claim7.holds Tryd.pinned (.plain (OpenSpec.upto quorumChangesSpec)) quorumChangesUptoCard

/-- THE SECOND FORM's CARD OF 'muntinlaw22.QuorumTells'. -/
def quorumTellsUptoCard : Claim7 := { stood := { row := quorumTellsUptoRow, standIns := [], harness := (true, "d6dc247d527b54931923b0e81737cd816633f1415f683ce543c52bad81e71b14"), looks := true }, kinds := [], alts := [], laidByText := true, laidKinds := [.handle], laidTests := true, laidLooks := .later }
def QuorumTellsUptoCardSaid : Prop := Claim7.holds Tryd.pinned (.plain (OpenSpec.upto quorumTellsSpec)) quorumTellsUptoCard
end Rows
end Go.Proofs.YtaopipghooaekaaDoor
