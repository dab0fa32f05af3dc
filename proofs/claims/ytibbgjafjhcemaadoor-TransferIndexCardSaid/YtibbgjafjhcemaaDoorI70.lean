/- Part of a proof by an abstract machine for the program's code: lemmas, without conditions of their own beyond those that each states. -/
import Derived.Test.YtibbgjafjhcemaaDoorSD
set_option linter.unusedVariables false
namespace Go.Proofs.YtibbgjafjhcemaaDoor.Cul
open Go Go.RowKit
def noCall : Nat → List PV → Option RV := fun _ _ => none
theorem noCall_ok {P : Program} : CallOk P noCall := fun f args r h => by simp [noCall] at h
noncomputable def bodyOf (f : Nat) : Code := (((P0.funcs[f]?).bind (·.body))).getD .skip
def tri (cs : List PV) : List (List PV) := [[.lit (.int .i64 0), .ag (cs.take 10)], [.lit (.int .i64 1), .ag ((cs.drop 10).take 10)], [.lit (.int .i64 2), .ag ((cs.drop 20).take 10)]]
theorem run70 (l : Nat) (a0 a1 a2 a3 a4 a5 a6 a7 a8 a9 b0 b1 b2 b3 b4 b5 b6 b7 b8 b9 c0 c1 c2 c3 c4 c5 c6 c7 c8 c9 : PV) : ywp P0 noCall (noteOf 70) (fun r => r == 3) l (fun i => (tri [a0, a1, a2, a3, a4, a5, a6, a7, a8, a9, b0, b1, b2, b3, b4, b5, b6, b7, b8, b9, c0, c1, c2, c3, c4, c5, c6, c7, c8, c9]).getD i []) 3 5 (bodyOf 70) (.enter [yv l, .el [a0, a1, a2, a3, a4, a5, a6, a7, a8, a9, b0, b1, b2, b3, b4, b5, b6, b7, b8, b9, c0, c1, c2, c3, c4, c5, c6, c7, c8, c9]]) (some 0) (yEnd 3) =
  (false = false ∧ l = l ∧ 0 < 3 ∧ [PV.lit (.int .i64 0), .ag [a0, a1, a2, a3, a4, a5, a6, a7, a8, a9]] = [PV.lit (.int .i64 0), .ag [a0, a1, a2, a3, a4, a5, a6, a7, a8, a9]] ∧
    (false = false ∧ l = l ∧ 0 + 1 < 3 ∧ [PV.lit (.int .i64 1), .ag [b0, b1, b2, b3, b4, b5, b6, b7, b8, b9]] = [PV.lit (.int .i64 1), .ag [b0, b1, b2, b3, b4, b5, b6, b7, b8, b9]] ∧
      (false = false ∧ l = l ∧ 0 + 1 + 1 < 3 ∧ [PV.lit (.int .i64 2), .ag [c0, c1, c2, c3, c4, c5, c6, c7, c8, c9]] = [PV.lit (.int .i64 2), .ag [c0, c1, c2, c3, c4, c5, c6, c7, c8, c9]] ∧ (some 3 = none ∨ some 3 = some 3) ∧ ((none : Option Nat) = none ∨ none = some 3)) ∧
      ((none : Option Nat) = none ∨ none = some 3)) ∧
    ((none : Option Nat) = none ∨ none = some 3)) := by kernel_rfl
theorem len10 {α : Type} {n : Nat} {cs : List α} (h : cs.length = n + 10) : ∃ x0 x1 x2 x3 x4 x5 x6 x7 x8 x9 r, cs = x0 :: x1 :: x2 :: x3 :: x4 :: x5 :: x6 :: x7 :: x8 :: x9 :: r ∧ r.length = n := by
  match cs, h with
  | x0 :: x1 :: x2 :: x3 :: x4 :: x5 :: x6 :: x7 :: x8 :: x9 :: r, h => exact ⟨x0, x1, x2, x3, x4, x5, x6, x7, x8, x9, r, rfl, by simpa using h⟩
theorem len30 {α : Type} {cs : List α} (h : cs.length = 30) : ∃ a0 a1 a2 a3 a4 a5 a6 a7 a8 a9 b0 b1 b2 b3 b4 b5 b6 b7 b8 b9 c0 c1 c2 c3 c4 c5 c6 c7 c8 c9, cs = [a0, a1, a2, a3, a4, a5, a6, a7, a8, a9, b0, b1, b2, b3, b4, b5, b6, b7, b8, b9, c0, c1, c2, c3, c4, c5, c6, c7, c8, c9] := by
  obtain ⟨a0, a1, a2, a3, a4, a5, a6, a7, a8, a9, r, hr, h⟩ := len10 (n := 20) h
  obtain ⟨b0, b1, b2, b3, b4, b5, b6, b7, b8, b9, r2, hr2, h⟩ := len10 (n := 10) h
  obtain ⟨c0, c1, c2, c3, c4, c5, c6, c7, c8, c9, r3, hr3, h⟩ := len10 (n := 0) h
  have h0 := List.length_eq_zero_iff.1 h
  exact ⟨a0, a1, a2, a3, a4, a5, a6, a7, a8, a9, b0, b1, b2, b3, b4, b5, b6, b7, b8, b9, c0, c1, c2, c3, c4, c5, c6, c7, c8, c9, by rw [hr, hr2, hr3, h0]⟩
set_option maxRecDepth 100000 in
theorem run70' (l : Nat) (cs : List PV) (h : cs.length = 30) : ywp P0 noCall (noteOf 70) (fun r => r == 3) l (fun i => (tri cs).getD i []) 3 5 (bodyOf 70) (.enter [yv l, .el cs]) (some 0) (yEnd 3) := by
  obtain ⟨a0, a1, a2, a3, a4, a5, a6, a7, a8, a9, b0, b1, b2, b3, b4, b5, b6, b7, b8, b9, c0, c1, c2, c3, c4, c5, c6, c7, c8, c9, rfl⟩ := len30 h
  rw [run70]
  simp
def it70 : List PV → Option (Nat × List (List PV))
  | [.el cs] => if cs.length = 30 ∧ cs.all litP = true then some (2, tri cs) else none
  | _ => none
def itD (f : Nat) (caps : List PV) : Option (Nat × List (List PV)) := if f = 70 then it70 caps else none
theorem all_take {cs : List PV} (h : cs.all litP = true) (n : Nat) : (cs.take n).all litP = true := List.all_eq_true.2 fun x hx => List.all_eq_true.1 h x (List.mem_of_mem_take hx)
theorem all_drop {cs : List PV} (h : cs.all litP = true) (n : Nat) : (cs.drop n).all litP = true := List.all_eq_true.2 fun x hx => List.all_eq_true.1 h x (List.mem_of_mem_drop hx)
theorem okF70 : okFn Go.Proofs.Tryd.f70 = true := by kernel_rfl
theorem ordersP0 : P0.follows .mixedOrders = true := by kernel_rfl
set_option maxRecDepth 100000 in
theorem itD_ok : IterOk P0 itD := by
  intro f caps k xs h
  unfold itD at h
  split at h
  · rename_i hf
    subst hf
    unfold it70 at h
    split at h
    · rename_i cs
      split at h
      · rename_i hc
        simp only [Option.some.injEq, Prod.mk.injEq] at h
        obtain ⟨rfl, rfl⟩ := h
        refine iter_of_ywp (P := P0) noCall_ok ordersP0 (fn := Go.Proofs.Tryd.f70) (c := bodyOf 70) (by kernel_rfl) (by kernel_rfl) (by kernel_rfl) (by kernel_rfl) (by kernel_rfl) (note := noteOf 70) (yr := fun r => r == 3) (fuel := 5) (k := 2) (caps := [.el cs]) (xs := tri cs) ?_ fun l => run70' l cs hc.1
        intro x hx
        simp only [tri, List.mem_cons, List.not_mem_nil, or_false] at hx
        rcases hx with rfl | rfl | rfl <;> simp only [List.length_cons, List.length_nil, List.all_cons, List.all_nil, plainP, litP, scal, Bool.and_true, Bool.true_and, true_and]
        · exact all_take hc.2 _
        · exact all_take (all_drop hc.2 _) _
        · exact all_take (all_drop hc.2 _) _
      · simp at h
    · simp at h
  · simp at h
end Go.Proofs.YtibbgjafjhcemaaDoor.Cul
