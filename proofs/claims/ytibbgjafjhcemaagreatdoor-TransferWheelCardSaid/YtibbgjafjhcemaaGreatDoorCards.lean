/-
  DERIVED. GIVEN WITH THE SEED: THE CARDS: each row of YtibbgjafjhcemaaGreatDoorRows.lean that lists a variable, with what it lists TIED to the program's text (the seventh form; the later family's looks); each row that meets fmt, with fmt's text TOLD by the authors' own Lean function (tested against real Go, not proved from fmt's source: count such statements apart). THE CARD IS WHAT COUNTS. Prove the row's statement (the work); the ties are given (YtibbgjafjhcemaaGreatDoorTie.lean); close each card by the builder's one call (the guide's Derived/Test/ToyasCard.lean, 'card_holds'). Laid BY PROGRAM, IN A SANDBOX (cutbox-door.mjs). By AI agents, Wed Nov 11 2026. No macro, syntax, notation, axiom, sorry.
-/
import Derived.Test.YtibbgjafjhcemaaGreatDoorRows
import GoSem.ClaimSeven
namespace Go.Proofs.YtibbgjafjhcemaaGreatDoor
namespace Rows

/-- THE TIED CARD OF 'culetlaw50.TransferWheel'. -/
def transferWheelCard : Claim7 := { stood := { row := transferWheelRow, standIns := [], harness := (true, "332551e597302102b434c4ef87f6ad344e283dca44390ebb70193b7fda0eb5c2"), looks := false }, kinds := [], alts := [], laidByText := true, laidKinds := [.data, .pinned], laidTests := true, laidLooks := .later }
def TransferWheelCardSaid : Prop := Claim7.holds Tryz.pinned (.plain (OpenSpec.ofChange transferWheelSpec)) transferWheelCard

/-- THE TIED CARD OF 'culetlaw50.TransferSolid'. -/
def transferSolidCard : Claim7 := { stood := { row := transferSolidRow, standIns := [], harness := (true, "332551e597302102b434c4ef87f6ad344e283dca44390ebb70193b7fda0eb5c2"), looks := false }, kinds := [], alts := [], laidByText := true, laidKinds := [.data, .pinned], laidTests := true, laidLooks := .later }
def TransferSolidCardSaid : Prop := Claim7.holds Tryz.pinned (.plain (OpenSpec.ofChange transferSolidSpec)) transferSolidCard

/-- THE SECOND FORM's CARD OF 'culetlaw50.TransferWheel'. -/
def transferWheelUptoCard : Claim7 := { stood := { row := transferWheelUptoRow, standIns := [], harness := (true, "332551e597302102b434c4ef87f6ad344e283dca44390ebb70193b7fda0eb5c2"), looks := false }, kinds := [], alts := [], laidByText := true, laidKinds := [.data, .pinned], laidTests := true, laidLooks := .later }
def TransferWheelUptoCardSaid : Prop := Claim7.holds Tryz.pinned (.plain (OpenSpec.upto transferWheelSpec)) transferWheelUptoCard

/-- THE SECOND FORM's CARD OF 'culetlaw50.TransferSolid'. -/
def transferSolidUptoCard : Claim7 := { stood := { row := transferSolidUptoRow, standIns := [], harness := (true, "332551e597302102b434c4ef87f6ad344e283dca44390ebb70193b7fda0eb5c2"), looks := false }, kinds := [], alts := [], laidByText := true, laidKinds := [.data, .pinned], laidTests := true, laidLooks := .later }
def TransferSolidUptoCardSaid : Prop := Claim7.holds Tryz.pinned (.plain (OpenSpec.upto transferSolidSpec)) transferSolidUptoCard
end Rows
end Go.Proofs.YtibbgjafjhcemaaGreatDoor
