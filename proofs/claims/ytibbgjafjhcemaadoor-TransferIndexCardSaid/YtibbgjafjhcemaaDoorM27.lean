/- Part of a proof by an abstract machine for the program's code: lemmas, without conditions of their own beyond those that each states. -/
import Derived.Test.YtibbgjafjhcemaaDoorM26
set_option linter.unusedVariables false
set_option linter.unusedSimpArgs false
namespace Go.Proofs.YtibbgjafjhcemaaDoor.Cul
open Go Go.RowKit
theorem callOk_is {P : Program} {S : Nat → List PV → Option RV} : CallOk P S ↔ ∀ f args r, S f args = some r → CallIs P f args r := Iff.rfl
/-- A table of answers. -/
def tab : List (Nat × (List PV → Option RV)) → Nat → List PV → Option RV
  | [], _, _ => none
  | (f, g) :: l, x, args => if f = x then g args else tab l x args
theorem callOk_tab {P : Program} : ∀ {l : List (Nat × (List PV → Option RV))}, (∀ x ∈ l, ∀ args r, x.2 args = some r → CallIs P x.1 args r) → CallOk P (tab l)
  | [], _ => fun f args r h => by simp [tab] at h
  | x :: l, hl => fun f args r h => by
    simp only [tab] at h
    split at h
    · rename_i e; exact e ▸ hl x (by simp) args r h
    · exact callOk_tab (fun y hy => hl y (List.mem_cons_of_mem _ hy)) f args r h
end Go.Proofs.YtibbgjafjhcemaaDoor.Cul
