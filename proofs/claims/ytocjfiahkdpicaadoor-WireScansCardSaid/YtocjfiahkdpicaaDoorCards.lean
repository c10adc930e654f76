/-
  DERIVED. GIVEN WITH THE SEED: THE CARDS: each row of YtocjfiahkdpicaaDoorRows.lean that lists a variable, with what it lists TIED to the program's text (the seventh form; the later family's looks); each row that meets fmt, with fmt's text TOLD by the authors' own Lean function (tested against real Go, not proved from fmt's source: count such statements apart). THE CARD IS WHAT COUNTS. Prove the row's statement (the work); the ties are given (YtocjfiahkdpicaaDoorTie.lean); close each card by the builder's one call (the guide's Derived/Test/ToyasCard.lean, 'card_holds'). Laid BY PROGRAM, IN A SANDBOX (cutbox-door.mjs). By AI agents, Wed Nov 11 2026. No macro, syntax, notation, axiom, sorry.
-/
import Derived.Test.YtocjfiahkdpicaaDoorRows
import GoSem.ClaimSeven
namespace Go.Proofs.YtocjfiahkdpicaaDoor
namespace Rows

/-- THE TIED CARD OF 'muntinlaw01.WireLong'. -/
def wireLongCard : Claim7 := { stood := { row := wireLongRow, standIns := [], harness := (true, "bc281fcd40f2b5829d4b065ad49a6627897a0938e216758256312aab45ae7aec"), looks := true }, kinds := [], alts := [], laidByText := true, laidKinds := [.handle], laidTests := true, laidLooks := .later }
def WireLongCardSaid : Prop := Claim7.holds Tryd.pinned (.plain (OpenSpec.ofChange wireLongSpec)) wireLongCard

/-- THE TIED CARD OF 'muntinlaw01.WireFrames'. -/
def wireFramesCard : Claim7 := { stood := { row := wireFramesRow, standIns := [], harness := (true, "bc281fcd40f2b5829d4b065ad49a6627897a0938e216758256312aab45ae7aec"), looks := true }, kinds := [], alts := [], laidByText := true, laidKinds := [.handle], laidTests := true, laidLooks := .later }
def WireFramesCardSaid : Prop := Claim7.holds Tryd.pinned (.plain (OpenSpec.ofChange wireFramesSpec)) wireFramesCard

/-- THE TIED CARD OF 'muntinlaw01.WireScans'. -/
def wireScansCard : Claim7 := { stood := { row := wireScansRow, standIns := [], harness := (true, "bc281fcd40f2b5829d4b065ad49a6627897a0938e216758256312aab45ae7aec"), looks := true }, kinds := [], alts := [], laidByText := true, laidKinds := [.handle], laidTests := true, laidLooks := .later }
def WireScansCardSaid : Prop := Claim7.holds Tryd.pinned (.plain (OpenSpec.ofChange wireScansSpec)) wireScansCard

/-- THE TIED CARD OF 'muntinlaw01.WireNums'. -/
def wireNumsCard : Claim7 := { stood := { row := wireNumsRow, standIns := [], harness := (true, "bc281fcd40f2b5829d4b065ad49a6627897a0938e216758256312aab45ae7aec"), looks := true }, kinds := [], alts := [], laidByText := true, laidKinds := [.handle], laidTests := true, laidLooks := .later }
def WireNumsCardSaid : Prop := Claim7.holds Tryd.pinned (.plain (OpenSpec.ofChange wireNumsSpec)) wireNumsCard

/-- THE TIED CARD OF 'muntinlaw01.WireBlobs'. -/
def wireBlobsCard : Claim7 := { stood := { row := wireBlobsRow, standIns := [], harness := (true, "bc281fcd40f2b5829d4b065ad49a6627897a0938e216758256312aab45ae7aec"), looks := true }, kinds := [], alts := [], laidByText := true, laidKinds := [.handle], laidTests := true, laidLooks := .later }
def WireBlobsCardSaid : Prop := Claim7.holds Tryd.pinned (.plain (OpenSpec.ofChange wireBlobsSpec)) wireBlobsCard

/-- THE TIED CARD OF 'muntinlaw01.WireRows'. -/
def wireRowsCard : Claim7 := { stood := { row := wireRowsRow, standIns := [], harness := (true, "bc281fcd40f2b5829d4b065ad49a6627897a0938e216758256312aab45ae7aec"), looks := true }, kinds := [], alts := [], laidByText := true, laidKinds := [.handle], laidTests := true, laidLooks := .later }
def WireRowsCardSaid : Prop := Claim7.holds Tryd.pinned (.plain (OpenSpec.ofChange wireRowsSpec)) wireRowsCard

/-- THE SECOND FORM's CARD OF 'muntinlaw01.WireLong'. -/
def wireLongUptoCard : Claim7 := { stood := { row := wireLongUptoRow, standIns := [], harness := (true, "bc281fcd40f2b5829d4b065ad49a6627897a0938e216758256312aab45ae7aec"), looks := true }, kinds := [], alts := [], laidByText := true, laidKinds := [.handle], laidTests := true, laidLooks := .later }
def WireLongUptoCardSaid : Prop := Claim7.holds Tryd.pinned (.plain (OpenSpec.upto wireLongSpec)) wireLongUptoCard

/-- THE SECOND FORM's CARD OF 'muntinlaw01.WireFrames'. -/
def wireFramesUptoCard : Claim7 := { stood := { row := wireFramesUptoRow, standIns := [], harness := (true, "bc281fcd40f2b5829d4b065ad49a6627897a0938e216758256312aab45ae7aec"), looks := true }, kinds := [], alts := [], laidByText := true, laidKinds := [.handle], laidTests := true, laidLooks := .later }
def WireFramesUptoCardSaid : Prop := Claim7.holds Tryd.pinned (.plain (OpenSpec.upto wireFramesSpec)) wireFramesUptoCard

/-- THE SECOND FORM's CARD OF 'muntinlaw01.WireScans'. -/
def wireScansUptoCard : Claim7 := { stood := { row := wireScansUptoRow, standIns := [], harness := (true, "bc281fcd40f2b5829d4b065ad49a6627897a0938e216758256312aab45ae7aec"), looks := true }, kinds := [], alts := [], laidByText := true, laidKinds := [.handle], laidTests := true, laidLooks := .later }
def WireScansUptoCardSaid : Prop := Claim7.holds Tryd.pinned (.plain (OpenSpec.upto wireScansSpec)) wireScansUptoCard

/-- THE SECOND FORM's CARD OF 'muntinlaw01.WireNums'. -/
def wireNumsUptoCard : Claim7 := { stood := { row := wireNumsUptoRow, standIns := [], harness := (true, "bc281fcd40f2b5829d4b065ad49a6627897a0938e216758256312aab45ae7aec"), looks := true }, kinds := [], alts := [], laidByText := true, laidKinds := [.handle], laidTests := true, laidLooks := .later }
def WireNumsUptoCardSaid : Prop := Claim7.holds Tryd.pinned (.plain (OpenSpec.upto wireNumsSpec)) wireNumsUptoCard

/-- THE SECOND FORM's CARD OF 'muntinlaw01.WireBlobs'. -/
def wireBlobsUptoCard : Claim7 := { stood := { row := wireBlobsUptoRow, standIns := [], harness := (true, "bc281fcd40f2b5829d4b065ad49a6627897a0938e216758256312aab45ae7aec"), looks := true }, kinds := [], alts := [], laidByText := true, laidKinds := [.handle], laidTests := true, laidLooks := .later }
def WireBlobsUptoCardSaid : Prop := Claim7.holds Tryd.pinned (.plain (OpenSpec.upto wireBlobsSpec)) wireBlobsUptoCard

/-- THE SECOND FORM's CARD OF 'muntinlaw01.WireRows'. -/
def wireRowsUptoCard : Claim7 := { stood := { row := wireRowsUptoRow, standIns := [], harness := (true, "bc281fcd40f2b5829d4b065ad49a6627897a0938e216758256312aab45ae7aec"), looks := true }, kinds := [], alts := [], laidByText := true, laidKinds := [.handle], laidTests := true, laidLooks := .later }
def WireRowsUptoCardSaid : Prop := Claim7.holds Tryd.pinned (.plain (OpenSpec.upto wireRowsSpec)) wireRowsUptoCard
end Rows
end Go.Proofs.YtocjfiahkdpicaaDoor
