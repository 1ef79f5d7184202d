/-
  DERIVED. GIVEN WITH THE SEED: THE CARDS: each row of YtmigbgfgnhkmnaaGreatDoorRows.lean that lists a variable, with what it lists TIED to the program's text (the seventh form; the later family's looks); each row that meets fmt, with fmt's text TOLD by the authors' own Lean function (tested against real Go, not proved from fmt's source: count such statements apart). THE CARD IS WHAT COUNTS. Prove the row's statement (the work); the ties are given (YtmigbgfgnhkmnaaGreatDoorTie.lean); close each card by the builder's one call (the guide's Derived/Test/ToyasCard.lean, 'card_holds'). Laid BY PROGRAM, IN A SANDBOX (cutbox-door.mjs). By AI agents, Wed Nov 11 2026. No macro, syntax, notation, axiom, sorry.
-/
import Derived.Test.YtmigbgfgnhkmnaaGreatDoorRows
import GoSem.ClaimSeven
namespace Go.Proofs.YtmigbgfgnhkmnaaGreatDoor
namespace Rows

/-- THE TIED CARD OF 'aviarylaw18.PartLocks'. -/
def partLocksCard : Claim7 := { stood := { row := partLocksRow, standIns := [], harness := (true, "5c8f06dd03234fbb2e346c33ae17bf6a640cee97574446a636231e3dc2c79022"), looks := false }, kinds := [], alts := [], laidByText := true, laidKinds := [.data, .data, .data, .data, .pinned], laidTests := true, laidLooks := .later }
def PartLocksCardSaid : Prop := Claim7.holds Tryz.pinned (.plain (OpenSpec.ofChange partLocksSpec)) partLocksCard

/-- THE TIED CARD OF 'aviarylaw18.PartZxids'. -/
def partZxidsCard : Claim7 := { stood := { row := partZxidsRow, standIns := [], harness := (true, "5c8f06dd03234fbb2e346c33ae17bf6a640cee97574446a636231e3dc2c79022"), looks := false }, kinds := [], alts := [], laidByText := true, laidKinds := [.data, .data, .data, .data, .pinned], laidTests := true, laidLooks := .later }
def PartZxidsCardSaid : Prop := Claim7.holds Tryz.pinned (.plain (OpenSpec.ofChange partZxidsSpec)) partZxidsCard

/-- THE TIED CARD OF 'aviarylaw18.PartKnown'. -/
def partKnownCard : Claim7 := { stood := { row := partKnownRow, standIns := [], harness := (true, "5c8f06dd03234fbb2e346c33ae17bf6a640cee97574446a636231e3dc2c79022"), looks := false }, kinds := [], alts := [], laidByText := true, laidKinds := [.data, .data, .data, .data, .pinned], laidTests := true, laidLooks := .later }
def PartKnownCardSaid : Prop := Claim7.holds Tryz.pinned (.plain (OpenSpec.ofChange partKnownSpec)) partKnownCard

/-- THE TIED CARD OF 'aviarylaw18.PartStays'. -/
def partStaysCard : Claim7 := { stood := { row := partStaysRow, standIns := [], harness := (true, "5c8f06dd03234fbb2e346c33ae17bf6a640cee97574446a636231e3dc2c79022"), looks := false }, kinds := [], alts := [], laidByText := true, laidKinds := [.data, .data, .data, .data, .pinned], laidTests := true, laidLooks := .later }
def PartStaysCardSaid : Prop := Claim7.holds Tryz.pinned (.plain (OpenSpec.ofChange partStaysSpec)) partStaysCard

/-- THE TIED CARD OF 'aviarylaw18.PartForeseen'. -/
def partForeseenCard : Claim7 := { stood := { row := partForeseenRow, standIns := [], harness := (true, "5c8f06dd03234fbb2e346c33ae17bf6a640cee97574446a636231e3dc2c79022"), looks := false }, kinds := [], alts := [], laidByText := true, laidKinds := [.data, .data, .data, .data, .pinned], laidTests := true, laidLooks := .later }
def PartForeseenCardSaid : Prop := Claim7.holds Tryz.pinned (.plain (OpenSpec.ofChange partForeseenSpec)) partForeseenCard

/-- THE TIED CARD OF 'aviarylaw18.PartPlays'. -/
def partPlaysCard : Claim7 := { stood := { row := partPlaysRow, standIns := [], harness := (true, "5c8f06dd03234fbb2e346c33ae17bf6a640cee97574446a636231e3dc2c79022"), looks := false }, kinds := [], alts := [], laidByText := true, laidKinds := [.data, .data, .data, .data, .pinned], laidTests := true, laidLooks := .later }
def PartPlaysCardSaid : Prop := Claim7.holds Tryz.pinned (.plain (OpenSpec.ofChange partPlaysSpec)) partPlaysCard

/-- THE SECOND FORM's CARD OF 'aviarylaw18.PartLocks'. -/
def partLocksUptoCard : Claim7 := { stood := { row := partLocksUptoRow, standIns := [], harness := (true, "5c8f06dd03234fbb2e346c33ae17bf6a640cee97574446a636231e3dc2c79022"), looks := false }, kinds := [], alts := [], laidByText := true, laidKinds := [.data, .data, .data, .data, .pinned], laidTests := true, laidLooks := .later }
def PartLocksUptoCardSaid : Prop := Claim7.holds Tryz.pinned (.plain (OpenSpec.upto partLocksSpec)) partLocksUptoCard

/-- THE SECOND FORM's CARD OF 'aviarylaw18.PartZxids'. -/
def partZxidsUptoCard : Claim7 := { stood := { row := partZxidsUptoRow, standIns := [], harness := (true, "5c8f06dd03234fbb2e346c33ae17bf6a640cee97574446a636231e3dc2c79022"), looks := false }, kinds := [], alts := [], laidByText := true, laidKinds := [.data, .data, .data, .data, .pinned], laidTests := true, laidLooks := .later }
def PartZxidsUptoCardSaid : Prop := Claim7.holds Tryz.pinned (.plain (OpenSpec.upto partZxidsSpec)) partZxidsUptoCard

/-- THE SECOND FORM's CARD OF 'aviarylaw18.PartKnown'. -/
def partKnownUptoCard : Claim7 := { stood := { row := partKnownUptoRow, standIns := [], harness := (true, "5c8f06dd03234fbb2e346c33ae17bf6a640cee97574446a636231e3dc2c79022"), looks := false }, kinds := [], alts := [], laidByText := true, laidKinds := [.data, .data, .data, .data, .pinned], laidTests := true, laidLooks := .later }
def PartKnownUptoCardSaid : Prop := Claim7.holds Tryz.pinned (.plain (OpenSpec.upto partKnownSpec)) partKnownUptoCard

/-- THE SECOND FORM's CARD OF 'aviarylaw18.PartStays'. -/
def partStaysUptoCard : Claim7 := { stood := { row := partStaysUptoRow, standIns := [], harness := (true, "5c8f06dd03234fbb2e346c33ae17bf6a640cee97574446a636231e3dc2c79022"), looks := false }, kinds := [], alts := [], laidByText := true, laidKinds := [.data, .data, .data, .data, .pinned], laidTests := true, laidLooks := .later }
def PartStaysUptoCardSaid : Prop := Claim7.holds Tryz.pinned (.plain (OpenSpec.upto partStaysSpec)) partStaysUptoCard

/-- THE SECOND FORM's CARD OF 'aviarylaw18.PartForeseen'. -/
def partForeseenUptoCard : Claim7 := { stood := { row := partForeseenUptoRow, standIns := [], harness := (true, "5c8f06dd03234fbb2e346c33ae17bf6a640cee97574446a636231e3dc2c79022"), looks := false }, kinds := [], alts := [], laidByText := true, laidKinds := [.data, .data, .data, .data, .pinned], laidTests := true, laidLooks := .later }
def PartForeseenUptoCardSaid : Prop := Claim7.holds Tryz.pinned (.plain (OpenSpec.upto partForeseenSpec)) partForeseenUptoCard

/-- THE SECOND FORM's CARD OF 'aviarylaw18.PartPlays'. -/
def partPlaysUptoCard : Claim7 := { stood := { row := partPlaysUptoRow, standIns := [], harness := (true, "5c8f06dd03234fbb2e346c33ae17bf6a640cee97574446a636231e3dc2c79022"), looks := false }, kinds := [], alts := [], laidByText := true, laidKinds := [.data, .data, .data, .data, .pinned], laidTests := true, laidLooks := .later }
def PartPlaysUptoCardSaid : Prop := Claim7.holds Tryz.pinned (.plain (OpenSpec.upto partPlaysSpec)) partPlaysUptoCard
end Rows
end Go.Proofs.YtmigbgfgnhkmnaaGreatDoor
