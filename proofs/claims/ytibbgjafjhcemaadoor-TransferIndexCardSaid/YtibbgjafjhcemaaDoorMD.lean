/- Part of a proof by an abstract machine for the program's code: lemmas, without conditions of their own beyond those that each states. -/
import Derived.Test.YtibbgjafjhcemaaDoorI70
set_option linter.unusedVariables false
namespace Go.Proofs.YtibbgjafjhcemaaDoor.Cul
open Go Go.RowKit
def primsD : List Nat := [79, 80, 87, 105, 114, 128]
noncomputable def MD : Mach := { P := P0, prim := fun f => if primsD.contains f then some (fun _ _ => none) else none, note := noteOf, iter := itD }
def okAll (ps : List Nat) : Nat → List Func → Bool
  | _, [] => true
  | n, fn :: l => (ps.contains n || okFn fn) && okAll ps (n + 1) l
theorem okAll_get {ps : List Nat} : ∀ {l : List Func} {n : Nat}, okAll ps n l = true → ∀ (i : Nat) (fn : Func), l[i]? = some fn → ps.contains (n + i) = false → okFn fn = true
  | [], n, _, i, fn, h, _ => by simp at h
  | f :: l, n, h, i, fn, hi, hp => by
    simp only [okAll, Bool.and_eq_true, Bool.or_eq_true] at h
    cases i with
    | zero =>
      simp only [List.getElem?_cons_zero, Option.some.injEq] at hi
      subst hi
      rcases h.1 with h1 | h1
      · rw [Nat.add_zero, h1] at hp; simp at hp
      · exact h1
    | succ i => exact okAll_get h.2 i fn (by simpa using hi) (by rw [← hp]; congr 1; omega)
theorem okD : okAll primsD 0 P0.funcs.toList = true := by kernel_rfl
theorem machOkD : MachOk MD where
  orders := ordersP0
  iters := itD_ok
  fns f fn hf hp := by
    have hf' : P0.funcs[f]? = some fn := hf
    refine okAll_get okD f fn (by rw [Array.getElem?_toList]; exact hf') ?_
    simp only [MD] at hp
    split at hp
    · simp at hp
    · rename_i h; simpa using h
  prims f g hg call hC args r h := by
    simp only [MD] at hg
    split at hg
    · simp only [Option.some.injEq] at hg; subst hg; simp at h
    · simp at hg
end Go.Proofs.YtibbgjafjhcemaaDoor.Cul
