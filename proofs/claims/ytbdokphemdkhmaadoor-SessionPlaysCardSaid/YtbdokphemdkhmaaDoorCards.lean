/-
  DERIVED. GIVEN WITH THE SEED: THE CARDS: each row of YtbdokphemdkhmaaDoorRows.lean that lists a variable, with what it lists TIED to the program's text (the seventh form; the later family's looks); each row that meets fmt, with fmt's text TOLD by the authors' own Lean function (tested against real Go, not proved from fmt's source: count such statements apart). THE CARD IS WHAT COUNTS. Prove the row's statement (the work); the ties are given (YtbdokphemdkhmaaDoorTie.lean); close each card by the builder's one call (the guide's Derived/Test/ToyasCard.lean, 'card_holds'). Laid BY PROGRAM, IN A SANDBOX (cutbox-door.mjs). By AI agents, Wed Nov 11 2026. No macro, syntax, notation, axiom, sorry.
-/
import Derived.Test.YtbdokphemdkhmaaDoorRows
import GoSem.ClaimSeven
namespace Go.Proofs.YtbdokphemdkhmaaDoor
namespace Rows

/-- THE TIED CARD OF 'muntinlaw16.SessionOnce'. -/
def sessionOnceCard : Claim7 := { stood := { row := sessionOnceRow, standIns := [], harness := (true, "362c9e5edb295ed54d737c9df5e92fb3c2b0d2a2297c7bd65cc40330f1b4730b"), looks := true }, kinds := [], alts := [], laidByText := true, laidKinds := [.handle], laidTests := true, laidLooks := .later }
def SessionOnceCardSaid : Prop := Claim7.holds Tryd.pinned (.plain (OpenSpec.ofChange sessionOnceSpec)) sessionOnceCard

/-- THE TIED CARD OF 'muntinlaw16.SessionFew'. -/
def sessionFewCard : Claim7 := { stood := { row := sessionFewRow, standIns := [], harness := (true, "362c9e5edb295ed54d737c9df5e92fb3c2b0d2a2297c7bd65cc40330f1b4730b"), looks := true }, kinds := [], alts := [], laidByText := true, laidKinds := [.handle], laidTests := true, laidLooks := .later }
def SessionFewCardSaid : Prop := Claim7.holds Tryd.pinned (.plain (OpenSpec.ofChange sessionFewSpec)) sessionFewCard

/-- THE TIED CARD OF 'muntinlaw16.SessionPlays'. -/
def sessionPlaysCard : Claim7 := { stood := { row := sessionPlaysRow, standIns := [], harness := (true, "362c9e5edb295ed54d737c9df5e92fb3c2b0d2a2297c7bd65cc40330f1b4730b"), looks := true }, kinds := [], alts := [], laidByText := true, laidKinds := [.handle], laidTests := true, laidLooks := .later }
def SessionPlaysCardSaid : Prop := Claim7.holds Tryd.pinned (.plain (OpenSpec.ofChange sessionPlaysSpec)) sessionPlaysCard

/-- THE TIED CARD OF 'muntinlaw16.SessionAgain'. -/
def sessionAgainCard : Claim7 := { stood := { row := sessionAgainRow, standIns := [], harness := (true, "362c9e5edb295ed54d737c9df5e92fb3c2b0d2a2297c7bd65cc40330f1b4730b"), looks := true }, kinds := [], alts := [], laidByText := true, laidKinds := [.handle], laidTests := true, laidLooks := .later }
def SessionAgainCardSaid : Prop := Claim7.holds Tryd.pinned (.plain (OpenSpec.ofChange sessionAgainSpec)) sessionAgainCard

/-- THE SECOND FORM's CARD OF 'muntinlaw16.SessionOnce'. -/
def sessionOnceUptoCard : Claim7 := { stood := { row := sessionOnceUptoRow, standIns := [], harness := (true, "362c9e5edb295ed54d737c9df5e92fb3c2b0d2a2297c7bd65cc40330f1b4730b"), looks := true }, kinds := [], alts := [], laidByText := true, laidKinds := [.handle], laidTests := true, laidLooks := .later }
def SessionOnceUptoCardSaid : Prop := Claim7.holds Tryd.pinned (.plain (OpenSpec.upto sessionOnceSpec)) sessionOnceUptoCard

/-- THE SECOND FORM's CARD OF 'muntinlaw16.SessionFew'. -/
def sessionFewUptoCard : Claim7 := { stood := { row := sessionFewUptoRow, standIns := [], harness := (true, "362c9e5edb295ed54d737c9df5e92fb3c2b0d2a2297c7bd65cc40330f1b4730b"), looks := true }, kinds := [], alts := [], laidByText := true, laidKinds := [.handle], laidTests := true, laidLooks := .later }
def SessionFewUptoCardSaid : Prop := Claim7.holds Tryd.pinned (.plain (OpenSpec.upto sessionFewSpec)) sessionFewUptoCard

/-- THE SECOND FORM's CARD OF 'muntinlaw16.SessionPlays'. -/
def sessionPlaysUptoCard : Claim7 := { stood := { row := sessionPlaysUptoRow, standIns := [], harness := (true, "362c9e5edb295ed54d737c9df5e92fb3c2b0d2a2297c7bd65cc40330f1b4730b"), looks := true }, kinds := [], alts := [], laidByText := true, laidKinds := [.handle], laidTests := true, laidLooks := .later }
def SessionPlaysUptoCardSaid : Prop := Claim7.holds Tryd.pinned (.plain (OpenSpec.upto sessionPlaysSpec)) sessionPlaysUptoCard

/-- THE SECOND FORM's CARD OF 'muntinlaw16.SessionAgain'. -/
def sessionAgainUptoCard : Claim7 := { stood := { row := sessionAgainUptoRow, standIns := [], harness := (true, "362c9e5edb295ed54d737c9df5e92fb3c2b0d2a2297c7bd65cc40330f1b4730b"), looks := true }, kinds := [], alts := [], laidByText := true, laidKinds := [.handle], laidTests := true, laidLooks := .later }
def SessionAgainUptoCardSaid : Prop := Claim7.holds Tryd.pinned (.plain (OpenSpec.upto sessionAgainSpec)) sessionAgainUptoCard
end Rows
end Go.Proofs.YtbdokphemdkhmaaDoor
