/-
  NARROWER THAN 'FOR EVERY INPUT', by the rows' own cells (each row's printed sentence says how): TransferIndex: laid · TransferForms: laid · TransferTwice: laid · TransferSheet: laid · TransferSettings: laid.
  DERIVED. THE GIVEN ROWS OF THIS SEAT. 5 by the template 'for every input the law returns true; each argument reads behind the call as it read before'; 0 by the template 'total and deterministic' (their statements: YtibbgjafjhcemaaDoorTotals.lean).
  GIVEN WITH THE SEED: the statements are not yours to turn. If you find one false, say at which input.
  Laid BY PROGRAM, IN A SANDBOX (cutbox-rows.mjs): the forced cells as the released guide's own fill.sh prints them over the translation eb1a12eb88f00cbe… (all of the seat's roots in one cut). By AI agents, Wed Nov 11 2026. No macro, syntax, notation, axiom, sorry.
-/
import Derived.Test.YtibbgjafjhcemaaDoorChecked
import GoSem.PinnedTables
import GoSem.Claim
import GoSem.ClaimJoined
import GoSem.ClaimMapViews
import Derived.JoinedTies
import Derived.KernelRfl
namespace Go.Proofs.YtibbgjafjhcemaaDoor
/- THE CELL 'sum', in the pinned program and in every row, IS THE sha256 OF THE DUMP (.gsa) THAT YtibbgjafjhcemaaDoorProg.lean LOADS. Nothing in Lean hashes anything: it is a label: what it is worth is what the hold of that sum in a sandbox is worth. -/
noncomputable def Tryd.pinned : Pinned := { name := "ytibbgjafjhcemaadoor", sum := "eb1a12eb88f00cbe089d051f577ba2fd6b4678c5d25af3f5a235b2f3aef5cc14", checked := Tryd.checked }
namespace Rows
def none {H : Type} : Left H := { results := [], args := [] }

/- WHAT THE LISTED PACKAGE-LEVEL VARIABLES READ AS WHEN THE CALL BEGINS. Each datum BY PROGRAM (the guide's laid-datum.mjs) off the statement by which the dump's own 'gosem.cut.vars' lays the variable. In a bare row this is a premise. The card (YtibbgjafjhcemaaDoorCards.lean) ties it to the program's text. -/
def laid_unicode_utf8_acceptRanges {H : Type} : DataW H := .agg [.agg [.lit (.int .u8 128), .lit (.int .u8 191)], .agg [.lit (.int .u8 160), .lit (.int .u8 191)], .agg [.lit (.int .u8 128), .lit (.int .u8 159)], .agg [.lit (.int .u8 144), .lit (.int .u8 191)], .agg [.lit (.int .u8 128), .lit (.int .u8 143)], .agg [.lit (.int .u8 0), .lit (.int .u8 0)], .agg [.lit (.int .u8 0), .lit (.int .u8 0)], .agg [.lit (.int .u8 0), .lit (.int .u8 0)], .agg [.lit (.int .u8 0), .lit (.int .u8 0)], .agg [.lit (.int .u8 0), .lit (.int .u8 0)], .agg [.lit (.int .u8 0), .lit (.int .u8 0)], .agg [.lit (.int .u8 0), .lit (.int .u8 0)], .agg [.lit (.int .u8 0), .lit (.int .u8 0)], .agg [.lit (.int .u8 0), .lit (.int .u8 0)], .agg [.lit (.int .u8 0), .lit (.int .u8 0)], .agg [.lit (.int .u8 0), .lit (.int .u8 0)]]
/-- One of Go's own tables, pinned by name: the form's constant. -/
def laid_unicode_utf8_first : DataW Unit := Go.Pinned.utf8First

/-- 'culetlaw50.TransferIndex': WHATEVER THE INPUT: true; the input reads as it did. -/
def transferIndexSpec : ChangeSpec := { name := "transferIndex", fn := fun _ => fun
  | [d1, d2] => { results := [.lit (.bool true)], args := [d1, d2] }
  | _ => none }
def transferIndexRow : OpenClaim := { program := "ytibbgjafjhcemaadoor", sum := "eb1a12eb88f00cbe089d051f577ba2fd6b4678c5d25af3f5a235b2f3aef5cc14", func := "culet/culetlaw50.TransferIndex", spec := "transferIndex", inPlace := ["internal/bytealg.IndexByteString", "internal/bytealg.IndexString"], unfollowed := true, recurses := true, named := ["math/bits.overflowError", "unicode/utf8.first", "unicode/utf8.acceptRanges", "internal/bytealg.MaxLen"], apart := false, laid := [("unicode/utf8.acceptRanges", laid_unicode_utf8_acceptRanges), ("unicode/utf8.first", laid_unicode_utf8_first)] }
def TransferIndexSaid : Prop := transferIndexRow.holds Tryd.pinned (OpenSpec.ofChange transferIndexSpec)

/-- ITS FALSE NEIGHBOUR: 'it returns false'. Refute it at one input. -/
def transferIndexWrong : ChangeSpec := { name := "transferIndex", fn := fun _ => fun
  | [d1, d2] => { results := [.lit (.bool false)], args := [d1, d2] }
  | _ => none }
def TransferIndexWrongFalsely : Prop := transferIndexRow.holds Tryd.pinned (OpenSpec.ofChange transferIndexWrong)

/-- 'culetlaw50.TransferForms': WHATEVER THE INPUT: true; the input reads as it did. -/
def transferFormsSpec : ChangeSpec := { name := "transferForms", fn := fun _ => fun
  | [d1, d2, d3] => { results := [.lit (.bool true)], args := [d1, d2, d3] }
  | _ => none }
def transferFormsRow : OpenClaim := { program := "ytibbgjafjhcemaadoor", sum := "eb1a12eb88f00cbe089d051f577ba2fd6b4678c5d25af3f5a235b2f3aef5cc14", func := "culet/culetlaw50.TransferForms", spec := "transferForms", inPlace := ["internal/bytealg.IndexByteString", "internal/bytealg.IndexString"], unfollowed := true, recurses := true, named := ["math/bits.overflowError", "unicode/utf8.first", "unicode/utf8.acceptRanges", "internal/bytealg.MaxLen"], apart := false, laid := [("unicode/utf8.acceptRanges", laid_unicode_utf8_acceptRanges), ("unicode/utf8.first", laid_unicode_utf8_first)] }
def TransferFormsSaid : Prop := transferFormsRow.holds Tryd.pinned (OpenSpec.ofChange transferFormsSpec)

/-- ITS FALSE NEIGHBOUR: 'it returns false'. Refute it at one input. -/
def transferFormsWrong : ChangeSpec := { name := "transferForms", fn := fun _ => fun
  | [d1, d2, d3] => { results := [.lit (.bool false)], args := [d1, d2, d3] }
  | _ => none }
def TransferFormsWrongFalsely : Prop := transferFormsRow.holds Tryd.pinned (OpenSpec.ofChange transferFormsWrong)

/-- 'culetlaw50.TransferTwice': WHATEVER THE INPUT: true; the input reads as it did. -/
def transferTwiceSpec : ChangeSpec := { name := "transferTwice", fn := fun _ => fun
  | [d1, d2, d3] => { results := [.lit (.bool true)], args := [d1, d2, d3] }
  | _ => none }
def transferTwiceRow : OpenClaim := { program := "ytibbgjafjhcemaadoor", sum := "eb1a12eb88f00cbe089d051f577ba2fd6b4678c5d25af3f5a235b2f3aef5cc14", func := "culet/culetlaw50.TransferTwice", spec := "transferTwice", inPlace := ["internal/bytealg.IndexByteString", "internal/bytealg.IndexString"], unfollowed := true, recurses := true, named := ["math/bits.overflowError", "unicode/utf8.first", "unicode/utf8.acceptRanges", "internal/bytealg.MaxLen"], apart := false, laid := [("unicode/utf8.acceptRanges", laid_unicode_utf8_acceptRanges), ("unicode/utf8.first", laid_unicode_utf8_first)] }
def TransferTwiceSaid : Prop := transferTwiceRow.holds Tryd.pinned (OpenSpec.ofChange transferTwiceSpec)

/-- ITS FALSE NEIGHBOUR: 'it returns false'. Refute it at one input. -/
def transferTwiceWrong : ChangeSpec := { name := "transferTwice", fn := fun _ => fun
  | [d1, d2, d3] => { results := [.lit (.bool false)], args := [d1, d2, d3] }
  | _ => none }
def TransferTwiceWrongFalsely : Prop := transferTwiceRow.holds Tryd.pinned (OpenSpec.ofChange transferTwiceWrong)

/-- 'culetlaw50.TransferSheet': WHATEVER THE INPUT: true; the input reads as it did. -/
def transferSheetSpec : ChangeSpec := { name := "transferSheet", fn := fun _ => fun
  | [d1, d2, d3] => { results := [.lit (.bool true)], args := [d1, d2, d3] }
  | _ => none }
def transferSheetRow : OpenClaim := { program := "ytibbgjafjhcemaadoor", sum := "eb1a12eb88f00cbe089d051f577ba2fd6b4678c5d25af3f5a235b2f3aef5cc14", func := "culet/culetlaw50.TransferSheet", spec := "transferSheet", inPlace := ["internal/bytealg.IndexByteString", "internal/bytealg.IndexString"], unfollowed := true, recurses := true, named := ["math/bits.overflowError", "unicode/utf8.first", "unicode/utf8.acceptRanges", "internal/bytealg.MaxLen"], apart := false, laid := [("unicode/utf8.acceptRanges", laid_unicode_utf8_acceptRanges), ("unicode/utf8.first", laid_unicode_utf8_first)] }
def TransferSheetSaid : Prop := transferSheetRow.holds Tryd.pinned (OpenSpec.ofChange transferSheetSpec)

/-- ITS FALSE NEIGHBOUR: 'it returns false'. Refute it at one input. -/
def transferSheetWrong : ChangeSpec := { name := "transferSheet", fn := fun _ => fun
  | [d1, d2, d3] => { results := [.lit (.bool false)], args := [d1, d2, d3] }
  | _ => none }
def TransferSheetWrongFalsely : Prop := transferSheetRow.holds Tryd.pinned (OpenSpec.ofChange transferSheetWrong)

/-- 'culetlaw50.TransferSettings': WHATEVER THE INPUT: true; the input reads as it did. -/
def transferSettingsSpec : ChangeSpec := { name := "transferSettings", fn := fun _ => fun
  | [d1, d2] => { results := [.lit (.bool true)], args := [d1, d2] }
  | _ => none }
def transferSettingsRow : OpenClaim := { program := "ytibbgjafjhcemaadoor", sum := "eb1a12eb88f00cbe089d051f577ba2fd6b4678c5d25af3f5a235b2f3aef5cc14", func := "culet/culetlaw50.TransferSettings", spec := "transferSettings", inPlace := ["internal/bytealg.IndexByteString", "internal/bytealg.IndexString"], unfollowed := true, recurses := true, named := ["math/bits.overflowError", "unicode/utf8.first", "unicode/utf8.acceptRanges", "internal/bytealg.MaxLen"], apart := false, laid := [("unicode/utf8.acceptRanges", laid_unicode_utf8_acceptRanges), ("unicode/utf8.first", laid_unicode_utf8_first)] }
def TransferSettingsSaid : Prop := transferSettingsRow.holds Tryd.pinned (OpenSpec.ofChange transferSettingsSpec)

/-- ITS FALSE NEIGHBOUR: 'it returns false'. Refute it at one input. -/
def transferSettingsWrong : ChangeSpec := { name := "transferSettings", fn := fun _ => fun
  | [d1, d2] => { results := [.lit (.bool false)], args := [d1, d2] }
  | _ => none }
def TransferSettingsWrongFalsely : Prop := transferSettingsRow.holds Tryd.pinned (OpenSpec.ofChange transferSettingsWrong)

/- THE SECOND FORM. 'bulk': how many values and letters a reading holds, each counted each time it is reached (what is shared counts as often as it is met; a slice's spare places count too). A statement '..UptoSaid' is the law's where the arguments, and the package variables that the reading takes, are together of bulk at most 1048576: NARROWER than '..Said'. Prove '..Said' where nothing that the law and all that it calls make is longer than what came in: it says more and counts as full. Else prove '..UptoSaid'. A law counts once. -/
mutual
def uptoBulk {H : Type} : DataW H → Nat
  | .lit (.string bytes) => bytes.length + 1
  | .lit _ => 1
  | .nil => 1
  | .ptr d => uptoBulk d + 1
  | .slice elems spare => uptoBulkAll elems + uptoBulkAll spare + 1
  | .agg parts => uptoBulkAll parts + 1
  | .iface _ d => uptoBulk d + 1
  | .map entries => uptoBulkEntries entries + 1
  | .held _ => 1
def uptoBulkAll {H : Type} : List (DataW H) → Nat
  | [] => 0
  | d :: r => uptoBulk d + uptoBulkAll r
def uptoBulkEntries {H : Type} : List (Lit × DataW H) → Nat
  | [] => 0
  | x :: r => uptoBulkEntry x + uptoBulkEntries r
def uptoBulkEntry {H : Type} : Lit × DataW H → Nat
  | (.string bytes, d) => bytes.length + uptoBulk d + 1
  | (_, d) => uptoBulk d + 1
 end
def uptoSmall : (H : Type) → List (DataW H) → Bool := fun _ ds => decide (uptoBulkAll ds ≤ 1048576)
def OpenSpec.upto (s : _root_.Go.ChangeSpec) : _root_.Go.OpenSpec := { _root_.Go.OpenSpec.ofChange s with cond := some uptoSmall }

/-- 'culetlaw50.TransferIndex', WHERE WHAT IT READS IS OF BULK AT MOST 1048576: true; the input reads as it did. -/
def transferIndexUptoRow : OpenClaim := { program := "ytibbgjafjhcemaadoor", sum := "eb1a12eb88f00cbe089d051f577ba2fd6b4678c5d25af3f5a235b2f3aef5cc14", func := "culet/culetlaw50.TransferIndex", spec := "transferIndex", inPlace := ["internal/bytealg.IndexByteString", "internal/bytealg.IndexString"], unfollowed := true, recurses := true, named := ["math/bits.overflowError", "unicode/utf8.first", "unicode/utf8.acceptRanges", "internal/bytealg.MaxLen"], apart := false, laid := [("unicode/utf8.acceptRanges", laid_unicode_utf8_acceptRanges), ("unicode/utf8.first", laid_unicode_utf8_first)], narrowed := true }
def TransferIndexUptoSaid : Prop := transferIndexUptoRow.holds Tryd.pinned (OpenSpec.upto transferIndexSpec)

/-- 'culetlaw50.TransferForms', WHERE WHAT IT READS IS OF BULK AT MOST 1048576: true; the input reads as it did. -/
def transferFormsUptoRow : OpenClaim := { program := "ytibbgjafjhcemaadoor", sum := "eb1a12eb88f00cbe089d051f577ba2fd6b4678c5d25af3f5a235b2f3aef5cc14", func := "culet/culetlaw50.TransferForms", spec := "transferForms", inPlace := ["internal/bytealg.IndexByteString", "internal/bytealg.IndexString"], unfollowed := true, recurses := true, named := ["math/bits.overflowError", "unicode/utf8.first", "unicode/utf8.acceptRanges", "internal/bytealg.MaxLen"], apart := false, laid := [("unicode/utf8.acceptRanges", laid_unicode_utf8_acceptRanges), ("unicode/utf8.first", laid_unicode_utf8_first)], narrowed := true }
def TransferFormsUptoSaid : Prop := transferFormsUptoRow.holds Tryd.pinned (OpenSpec.upto transferFormsSpec)

/-- 'culetlaw50.TransferTwice', WHERE WHAT IT READS IS OF BULK AT MOST 1048576: true; the input reads as it did. -/
def transferTwiceUptoRow : OpenClaim := { program := "ytibbgjafjhcemaadoor", sum := "eb1a12eb88f00cbe089d051f577ba2fd6b4678c5d25af3f5a235b2f3aef5cc14", func := "culet/culetlaw50.TransferTwice", spec := "transferTwice", inPlace := ["internal/bytealg.IndexByteString", "internal/bytealg.IndexString"], unfollowed := true, recurses := true, named := ["math/bits.overflowError", "unicode/utf8.first", "unicode/utf8.acceptRanges", "internal/bytealg.MaxLen"], apart := false, laid := [("unicode/utf8.acceptRanges", laid_unicode_utf8_acceptRanges), ("unicode/utf8.first", laid_unicode_utf8_first)], narrowed := true }
def TransferTwiceUptoSaid : Prop := transferTwiceUptoRow.holds Tryd.pinned (OpenSpec.upto transferTwiceSpec)

/-- 'culetlaw50.TransferSheet', WHERE WHAT IT READS IS OF BULK AT MOST 1048576: true; the input reads as it did. -/
def transferSheetUptoRow : OpenClaim := { program := "ytibbgjafjhcemaadoor", sum := "eb1a12eb88f00cbe089d051f577ba2fd6b4678c5d25af3f5a235b2f3aef5cc14", func := "culet/culetlaw50.TransferSheet", spec := "transferSheet", inPlace := ["internal/bytealg.IndexByteString", "internal/bytealg.IndexString"], unfollowed := true, recurses := true, named := ["math/bits.overflowError", "unicode/utf8.first", "unicode/utf8.acceptRanges", "internal/bytealg.MaxLen"], apart := false, laid := [("unicode/utf8.acceptRanges", laid_unicode_utf8_acceptRanges), ("unicode/utf8.first", laid_unicode_utf8_first)], narrowed := true }
def TransferSheetUptoSaid : Prop := transferSheetUptoRow.holds Tryd.pinned (OpenSpec.upto transferSheetSpec)

/-- 'culetlaw50.TransferSettings', WHERE WHAT IT READS IS OF BULK AT MOST 1048576: true; the input reads as it did. -/
def transferSettingsUptoRow : OpenClaim := { program := "ytibbgjafjhcemaadoor", sum := "eb1a12eb88f00cbe089d051f577ba2fd6b4678c5d25af3f5a235b2f3aef5cc14", func := "culet/culetlaw50.TransferSettings", spec := "transferSettings", inPlace := ["internal/bytealg.IndexByteString", "internal/bytealg.IndexString"], unfollowed := true, recurses := true, named := ["math/bits.overflowError", "unicode/utf8.first", "unicode/utf8.acceptRanges", "internal/bytealg.MaxLen"], apart := false, laid := [("unicode/utf8.acceptRanges", laid_unicode_utf8_acceptRanges), ("unicode/utf8.first", laid_unicode_utf8_first)], narrowed := true }
def TransferSettingsUptoSaid : Prop := transferSettingsUptoRow.holds Tryd.pinned (OpenSpec.upto transferSettingsSpec)

end Rows
end Go.Proofs.YtibbgjafjhcemaaDoor
