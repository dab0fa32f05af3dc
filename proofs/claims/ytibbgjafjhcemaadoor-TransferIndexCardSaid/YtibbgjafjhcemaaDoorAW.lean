/- Part of a proof by an abstract machine for the program's code: lemmas, without conditions of their own beyond those that each states. -/
import Derived.Test.YtibbgjafjhcemaaDoorMD
namespace Go.Proofs.YtibbgjafjhcemaaDoor.Cul
open Go Go.RowKit
theorem awake_run : acall MD 40 8 [] = some ⟨.lit (.bool true), none⟩ := by kernel_rfl
theorem awake_is : CallIs P0 8 [] ⟨.lit (.bool true), none⟩ := acall_ok machOkD 40 8 [] _ awake_run
end Go.Proofs.YtibbgjafjhcemaaDoor.Cul
