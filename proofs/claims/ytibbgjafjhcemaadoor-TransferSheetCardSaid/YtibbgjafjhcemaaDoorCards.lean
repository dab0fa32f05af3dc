/-
  DERIVED. GIVEN WITH THE SEED: THE CARDS: each row of YtibbgjafjhcemaaDoorRows.lean that lists a variable, with what it lists TIED to the program's text (the seventh form; the later family's looks); each row that meets fmt, with fmt's text TOLD by the authors' own Lean function (tested against real Go, not proved from fmt's source: count such statements apart). THE CARD IS WHAT COUNTS. Prove the row's statement (the work); the ties are given (YtibbgjafjhcemaaDoorTie.lean); close each card by the builder's one call (the guide's Derived/Test/ToyasCard.lean, 'card_holds'). Laid BY PROGRAM, IN A SANDBOX (cutbox-door.mjs). By AI agents, Wed Nov 11 2026. No macro, syntax, notation, axiom, sorry.
-/
import Derived.Test.YtibbgjafjhcemaaDoorRows
import GoSem.ClaimSeven
namespace Go.Proofs.YtibbgjafjhcemaaDoor
namespace Rows

/-- THE TIED CARD OF 'culetlaw50.TransferIndex'. -/
def transferIndexCard : Claim7 := { stood := { row := transferIndexRow, standIns := [], harness := (true, "a50723f445d73b33bc9c012695134dbb4f1c4699dc7beab098f15d5e30497fd4"), looks := false }, kinds := [], alts := [], laidByText := true, laidKinds := [.data, .pinned], laidTests := true, laidLooks := .later }
def TransferIndexCardSaid : Prop := Claim7.holds Tryd.pinned (.plain (OpenSpec.ofChange transferIndexSpec)) transferIndexCard

/-- THE TIED CARD OF 'culetlaw50.TransferForms'. -/
def transferFormsCard : Claim7 := { stood := { row := transferFormsRow, standIns := [], harness := (true, "a50723f445d73b33bc9c012695134dbb4f1c4699dc7beab098f15d5e30497fd4"), looks := false }, kinds := [], alts := [], laidByText := true, laidKinds := [.data, .pinned], laidTests := true, laidLooks := .later }
def TransferFormsCardSaid : Prop := Claim7.holds Tryd.pinned (.plain (OpenSpec.ofChange transferFormsSpec)) transferFormsCard

/-- THE TIED CARD OF 'culetlaw50.TransferTwice'. -/
def transferTwiceCard : Claim7 := { stood := { row := transferTwiceRow, standIns := [], harness := (true, "a50723f445d73b33bc9c012695134dbb4f1c4699dc7beab098f15d5e30497fd4"), looks := false }, kinds := [], alts := [], laidByText := true, laidKinds := [.data, .pinned], laidTests := true, laidLooks := .later }
def TransferTwiceCardSaid : Prop := Claim7.holds Tryd.pinned (.plain (OpenSpec.ofChange transferTwiceSpec)) transferTwiceCard

/-- THE TIED CARD OF 'culetlaw50.TransferSheet'. -/
def transferSheetCard : Claim7 := { stood := { row := transferSheetRow, standIns := [], harness := (true, "a50723f445d73b33bc9c012695134dbb4f1c4699dc7beab098f15d5e30497fd4"), looks := false }, kinds := [], alts := [], laidByText := true, laidKinds := [.data, .pinned], laidTests := true, laidLooks := .later }
def TransferSheetCardSaid : Prop := Claim7.holds Tryd.pinned (.plain (OpenSpec.ofChange transferSheetSpec)) transferSheetCard

/-- THE TIED CARD OF 'culetlaw50.TransferSettings'. -/
def transferSettingsCard : Claim7 := { stood := { row := transferSettingsRow, standIns := [], harness := (true, "a50723f445d73b33bc9c012695134dbb4f1c4699dc7beab098f15d5e30497fd4"), looks := false }, kinds := [], alts := [], laidByText := true, laidKinds := [.data, .pinned], laidTests := true, laidLooks := .later }
def TransferSettingsCardSaid : Prop := Claim7.holds Tryd.pinned (.plain (OpenSpec.ofChange transferSettingsSpec)) transferSettingsCard

/-- THE SECOND FORM's CARD OF 'culetlaw50.TransferIndex'. -/
def transferIndexUptoCard : Claim7 := { stood := { row := transferIndexUptoRow, standIns := [], harness := (true, "a50723f445d73b33bc9c012695134dbb4f1c4699dc7beab098f15d5e30497fd4"), looks := false }, kinds := [], alts := [], laidByText := true, laidKinds := [.data, .pinned], laidTests := true, laidLooks := .later }
def TransferIndexUptoCardSaid : Prop := Claim7.holds Tryd.pinned (.plain (OpenSpec.upto transferIndexSpec)) transferIndexUptoCard

/-- THE SECOND FORM's CARD OF 'culetlaw50.TransferForms'. -/
def transferFormsUptoCard : Claim7 := { stood := { row := transferFormsUptoRow, standIns := [], harness := (true, "a50723f445d73b33bc9c012695134dbb4f1c4699dc7beab098f15d5e30497fd4"), looks := false }, kinds := [], alts := [], laidByText := true, laidKinds := [.data, .pinned], laidTests := true, laidLooks := .later }
def TransferFormsUptoCardSaid : Prop := Claim7.holds Tryd.pinned (.plain (OpenSpec.upto transferFormsSpec)) transferFormsUptoCard

/-- THE SECOND FORM's CARD OF 'culetlaw50.TransferTwice'. -/
def transferTwiceUptoCard : Claim7 := { stood := { row := transferTwiceUptoRow, standIns := [], harness := (true, "a50723f445d73b33bc9c012695134dbb4f1c4699dc7beab098f15d5e30497fd4"), looks := false }, kinds := [], alts := [], laidByText := true, laidKinds := [.data, .pinned], laidTests := true, laidLooks := .later }
def TransferTwiceUptoCardSaid : Prop := Claim7.holds Tryd.pinned (.plain (OpenSpec.upto transferTwiceSpec)) transferTwiceUptoCard

/-- THE SECOND FORM's CARD OF 'culetlaw50.TransferSheet'. -/
def transferSheetUptoCard : Claim7 := { stood := { row := transferSheetUptoRow, standIns := [], harness := (true, "a50723f445d73b33bc9c012695134dbb4f1c4699dc7beab098f15d5e30497fd4"), looks := false }, kinds := [], alts := [], laidByText := true, laidKinds := [.data, .pinned], laidTests := true, laidLooks := .later }
def TransferSheetUptoCardSaid : Prop := Claim7.holds Tryd.pinned (.plain (OpenSpec.upto transferSheetSpec)) transferSheetUptoCard

/-- THE SECOND FORM's CARD OF 'culetlaw50.TransferSettings'. -/
def transferSettingsUptoCard : Claim7 := { stood := { row := transferSettingsUptoRow, standIns := [], harness := (true, "a50723f445d73b33bc9c012695134dbb4f1c4699dc7beab098f15d5e30497fd4"), looks := false }, kinds := [], alts := [], laidByText := true, laidKinds := [.data, .pinned], laidTests := true, laidLooks := .later }
def TransferSettingsUptoCardSaid : Prop := Claim7.holds Tryd.pinned (.plain (OpenSpec.upto transferSettingsSpec)) transferSettingsUptoCard
end Rows
end Go.Proofs.YtibbgjafjhcemaaDoor
