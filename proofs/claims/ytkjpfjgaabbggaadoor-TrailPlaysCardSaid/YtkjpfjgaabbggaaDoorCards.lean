/-
  DERIVED. GIVEN WITH THE SEED: THE CARDS: each row of YtkjpfjgaabbggaaDoorRows.lean that lists a variable, with what it lists TIED to the program's text (the seventh form; the later family's looks); each row that meets fmt, with fmt's text TOLD by the authors' own Lean function (tested against real Go, not proved from fmt's source: count such statements apart). THE CARD IS WHAT COUNTS. Prove the row's statement (the work); the ties are given (YtkjpfjgaabbggaaDoorTie.lean); close each card by the builder's one call (the guide's Derived/Test/ToyasCard.lean, 'card_holds'). Laid BY PROGRAM, IN A SANDBOX (cutbox-door.mjs). By AI agents, Wed Nov 11 2026. No macro, syntax, notation, axiom, sorry.
-/
import Derived.Test.YtkjpfjgaabbggaaDoorRows
import GoSem.ClaimSeven
namespace Go.Proofs.YtkjpfjgaabbggaaDoor
namespace Rows

/-- THE TIED CARD OF 'muntinlaw21.TrailBacks'. -/
def trailBacksCard : Claim7 := { stood := { row := trailBacksRow, standIns := [], harness := (true, "e3a76c1daaa8b3966ba6c09e3ee27d35df01851f215aa4ad60e9e1737b2924ac"), looks := true }, kinds := [], alts := [], laidByText := true, laidKinds := [.handle], laidTests := true, laidLooks := .later }
def TrailBacksCardSaid : Prop := Claim7.holds Tryd.pinned (.plain (OpenSpec.ofChange trailBacksSpec)) trailBacksCard

/-- THE TIED CARD OF 'muntinlaw21.TrailMerged'. -/
def trailMergedCard : Claim7 := { stood := { row := trailMergedRow, standIns := [], harness := (true, "e3a76c1daaa8b3966ba6c09e3ee27d35df01851f215aa4ad60e9e1737b2924ac"), looks := true }, kinds := [], alts := [], laidByText := true, laidKinds := [.handle], laidTests := true, laidLooks := .later }
def TrailMergedCardSaid : Prop := Claim7.holds Tryd.pinned (.plain (OpenSpec.ofChange trailMergedSpec)) trailMergedCard

/-- THE TIED CARD OF 'muntinlaw21.TrailMatches'. -/
def trailMatchesCard : Claim7 := { stood := { row := trailMatchesRow, standIns := [], harness := (true, "e3a76c1daaa8b3966ba6c09e3ee27d35df01851f215aa4ad60e9e1737b2924ac"), looks := true }, kinds := [], alts := [], laidByText := true, laidKinds := [.handle], laidTests := true, laidLooks := .later }
def TrailMatchesCardSaid : Prop := Claim7.holds Tryd.pinned (.plain (OpenSpec.ofChange trailMatchesSpec)) trailMatchesCard

/-- THE TIED CARD OF 'muntinlaw21.TrailAdds'. -/
def trailAddsCard : Claim7 := { stood := { row := trailAddsRow, standIns := [], harness := (true, "e3a76c1daaa8b3966ba6c09e3ee27d35df01851f215aa4ad60e9e1737b2924ac"), looks := true }, kinds := [], alts := [], laidByText := true, laidKinds := [.handle], laidTests := true, laidLooks := .later }
def TrailAddsCardSaid : Prop := Claim7.holds Tryd.pinned (.plain (OpenSpec.ofChange trailAddsSpec)) trailAddsCard

/-- THE TIED CARD OF 'muntinlaw21.TrailPlays'. -/
def trailPlaysCard : Claim7 := { stood := { row := trailPlaysRow, standIns := [], harness := (true, "e3a76c1daaa8b3966ba6c09e3ee27d35df01851f215aa4ad60e9e1737b2924ac"), looks := true }, kinds := [], alts := [], laidByText := true, laidKinds := [.handle], laidTests := true, laidLooks := .later }
def TrailPlaysCardSaid : Prop := Claim7.holds Tryd.pinned (.plain (OpenSpec.ofChange trailPlaysSpec)) trailPlaysCard

/-- THE SECOND FORM's CARD OF 'muntinlaw21.TrailBacks'. -/
def trailBacksUptoCard : Claim7 := { stood := { row := trailBacksUptoRow, standIns := [], harness := (true, "e3a76c1daaa8b3966ba6c09e3ee27d35df01851f215aa4ad60e9e1737b2924ac"), looks := true }, kinds := [], alts := [], laidByText := true, laidKinds := [.handle], laidTests := true, laidLooks := .later }
def TrailBacksUptoCardSaid : Prop := Claim7.holds Tryd.pinned (.plain (OpenSpec.upto trailBacksSpec)) trailBacksUptoCard

/-- THE SECOND FORM's CARD OF 'muntinlaw21.TrailMerged'. -/
def trailMergedUptoCard : Claim7 := { stood := { row := trailMergedUptoRow, standIns := [], harness := (true, "e3a76c1daaa8b3966ba6c09e3ee27d35df01851f215aa4ad60e9e1737b2924ac"), looks := true }, kinds := [], alts := [], laidByText := true, laidKinds := [.handle], laidTests := true, laidLooks := .later }
def TrailMergedUptoCardSaid : Prop := Claim7.holds Tryd.pinned (.plain (OpenSpec.upto trailMergedSpec)) trailMergedUptoCard

/-- THE SECOND FORM's CARD OF 'muntinlaw21.TrailMatches'. -/
def trailMatchesUptoCard : Claim7 := { stood := { row := trailMatchesUptoRow, standIns := [], harness := (true, "e3a76c1daaa8b3966ba6c09e3ee27d35df01851f215aa4ad60e9e1737b2924ac"), looks := true }, kinds := [], alts := [], laidByText := true, laidKinds := [.handle], laidTests := true, laidLooks := .later }
def TrailMatchesUptoCardSaid : Prop := Claim7.holds Tryd.pinned (.plain (OpenSpec.upto trailMatchesSpec)) trailMatchesUptoCard

/-- THE SECOND FORM's CARD OF 'muntinlaw21.TrailAdds'. -/
def trailAddsUptoCard : Claim7 := { stood := { row := trailAddsUptoRow, standIns := [], harness := (true, "e3a76c1daaa8b3966ba6c09e3ee27d35df01851f215aa4ad60e9e1737b2924ac"), looks := true }, kinds := [], alts := [], laidByText := true, laidKinds := [.handle], laidTests := true, laidLooks := .later }
def TrailAddsUptoCardSaid : Prop := Claim7.holds Tryd.pinned (.plain (OpenSpec.upto trailAddsSpec)) trailAddsUptoCard

/-- THE SECOND FORM's CARD OF 'muntinlaw21.TrailPlays'. -/
def trailPlaysUptoCard : Claim7 := { stood := { row := trailPlaysUptoRow, standIns := [], harness := (true, "e3a76c1daaa8b3966ba6c09e3ee27d35df01851f215aa4ad60e9e1737b2924ac"), looks := true }, kinds := [], alts := [], laidByText := true, laidKinds := [.handle], laidTests := true, laidLooks := .later }
def TrailPlaysUptoCardSaid : Prop := Claim7.holds Tryd.pinned (.plain (OpenSpec.upto trailPlaysSpec)) trailPlaysUptoCard
end Rows
end Go.Proofs.YtkjpfjgaabbggaaDoor
