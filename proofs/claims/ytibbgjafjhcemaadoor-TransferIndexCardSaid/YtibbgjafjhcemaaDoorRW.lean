/- Part of a proof by an abstract machine for the program's code: lemmas, without conditions of their own beyond those that each states. -/
import Derived.Test.YtibbgjafjhcemaaDoorM31
import Derived.Test.YtibbgjafjhcemaaDoorCards
import Derived.Test.YtibbgjafjhcemaaDoorTie
import Derived.WalkKit
import Derived.ProofKit
import Derived.OpenShut
import Derived.Deep.DeepHandedRow
import Derived.Lib.LaidTab
set_option linter.unusedVariables false
namespace Go.Proofs.YtibbgjafjhcemaaDoor.Cul
open Go Go.RowKit Go.ChangeShapes Go.WideShapes Go.ChangeAt
open Go.Proofs.YtibbgjafjhcemaaDoor
mutual
def flatW : DataW Unit → List Value
  | .lit l => [l.value]
  | .agg ps => flatWs ps
  | _ => []
def flatWs : List (DataW Unit) → List Value
  | [] => []
  | d :: r => flatW d ++ flatWs r
end
theorem ownK : ownKnob Go.Proofs.Tryd.prog.godebug = none := by kernel_rfl
def fillBlock (cs : List Value) : Obj → Obj
  | .cells _ t fz => .cells cs.toArray t fz
  | o => o
/-- A world for the witness: the listed tables hold what their initialisers lay. -/
noncomputable def laidWorld (os : Os) (args : Array Value) : World :=
  let w := World.holding Go.Proofs.Tryd.prog os ⟨#[], #[], []⟩
  { w with heap := (w.heap.modify 1 (fillBlock (flatW Rows.laid_unicode_utf8_first))).modify 2 (fillBlock (flatW Rows.laid_unicode_utf8_acceptRanges)) }
def laidL : List (String × DataW Unit) := [("unicode/utf8.acceptRanges", Rows.laid_unicode_utf8_acceptRanges), ("unicode/utf8.first", Rows.laid_unicode_utf8_first)]
theorem laid_met (os : Os) : laidMet Go.Proofs.Tryd.prog laidL ((laidWorld os #[]).forCall (fun _ _ => 0) ⟨#[], #[], []⟩).memory :=
  laidMet_of_run' 8 (by kernel_rfl) (by kernel_rfl)
end Go.Proofs.YtibbgjafjhcemaaDoor.Cul
