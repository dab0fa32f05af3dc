/- Part of a proof by an abstract machine for the program's code: lemmas, without conditions of their own beyond those that each states. -/
import Derived.Test.YtibbgjafjhcemaaDoorM30
set_option linter.unusedVariables false
namespace Go.Proofs.YtibbgjafjhcemaaDoor.Cul
open Go Go.RowKit
/-- One function's run by a script. -/
def runX (M : Mach) (S : Nat → List PV → Option RV) (k f : Nat) (args : List PV) (s : List El) : Option (RV × List Prop) :=
  (M.P.funcs[f]?).bind fun fn => abodyX M.P S M.iter k (M.note f) fn args s
theorem runX_is {M : Mach} (hM : MachOk M) {S : Nat → List PV → Option RV} (hC : CallOk M.P S) {k f : Nat} {args : List PV} {s : List El} {r : RV} {ob : List Prop} (hp : M.prim f = none) (h : runX M S k f args s = some (r, ob)) (ho : AllP ob) : CallIs M.P f args r := by
  simp only [runX, Option.bind_eq_some_iff] at h
  obtain ⟨fn, hfn, h⟩ := h
  exact abody_is hC hM.iters hM.orders hfn (hM.fns f fn hfn hp) (abodyX_ok h ho)
/-- The loops of a function's code, in the order of its text (a loop within a loop behind it). -/
def loopsOf : Code → List Code
  | .seq a b | .cond _ a b => loopsOf a ++ loopsOf b
  | .block _ c => loopsOf c
  | .loop c => c :: loopsOf c
  | .rangeFunc _ _ a b => loopsOf a ++ loopsOf b
  | _ => []
def loopOf (M : Mach) (f j : Nat) : Code := ((loopsOf ((((M.P.funcs[f]?).bind (·.body))).getD .skip))[j]?).getD .skip
/-- One round of a loop. -/
noncomputable def roundM (M : Mach) (S : Nat → List PV → Option RV) (k f j : Nat) (st : St) : Option (Xt × St) := arun M.P S M.iter (fun g => loopN g k) (M.note f) (loopOf M f j) st
def roundX (M : Mach) (S : Nat → List PV → Option RV) (k f j : Nat) (st : St) (s : List El) : Option (Ow (Xt × St)) := arunX M.P S M.iter k (M.note f) (loopOf M f j) st s
theorem roundX_ok {M : Mach} {S : Nat → List PV → Option RV} {k f j : Nat} {st : St} {s s' : List El} {x : Xt × St} {ob : List Prop} (h : roundX M S k f j st s = some (x, s', ob)) (ho : AllP ob) : roundM M S k f j st = some x := arunX_ok _ _ _ _ _ _ h ho
/-- A loop's run. -/
noncomputable def loopM (M : Mach) (S : Nat → List PV → Option RV) (k f j : Nat) (st : St) : Option (Xt × St) := loopN (roundM M S k f j) k st
theorem loopN_next {f : St → Option (Xt × St)} {n : Nat} {st s : St} {r : Xt × St} (h : f st = some (.normal, s)) (k : loopN f n s = some r) : loopN f (n + 1) st = some r := by
  simp only [loopN, h, Option.bind_some]; exact k
theorem loopN_exit {f : St → Option (Xt × St)} {n : Nat} {st s : St} {x : Xt} (h : f st = some (x, s)) (hx : x ≠ .normal) : loopN f (n + 1) st = some (x, s) := by
  simp only [loopN, h, Option.bind_some]
  cases x with
  | normal => exact absurd rfl hx
  | _ => rfl
theorem loopN_le {f : St → Option (Xt × St)} : ∀ {n m : Nat} {st : St} {r : Xt × St}, n ≤ m → loopN f n st = some r → loopN f m st = some r
  | 0, _, _, _, _, h => by simp [loopN] at h
  | n + 1, 0, _, _, hl, _ => by omega
  | n + 1, m + 1, st, r, hl, h => by
    simp only [loopN, Option.bind_eq_some_iff] at h ⊢
    obtain ⟨⟨y, s⟩, h1, h2⟩ := h
    refine ⟨(y, s), h1, ?_⟩
    cases y with
    | normal => exact loopN_le (by omega) h2
    | _ => exact h2
/-- A loop by a chain of states. -/
theorem loopN_chain {f : St → Option (Xt × St)} {S : Nat → St} {n : Nat} (h : ∀ i, i < n → f (S i) = some (.normal, S (i + 1))) {r : Xt × St} (hr : f (S n) = some r) (hx : r.1 ≠ .normal) : ∀ m, n < m → loopN f m (S 0) = some r := by
  have key : ∀ d i, i + d = n → loopN f (d + 1) (S i) = some r := by
    intro d
    induction d with
    | zero => intro i hi; have : i = n := by omega
              subst this; obtain ⟨x, s⟩ := r; exact loopN_exit hr hx
    | succ d ih => intro i hi; exact loopN_next (h i (by omega)) (ih (i + 1) (by omega))
  exact fun m hm => loopN_le hm (key n 0 (by omega))
/-- Whole numbers. -/
def iv (x : Int) : PV := .lit (.int .i64 x)
def bv (b : Bool) : PV := .lit (.bool b)
def u32v (x : Nat) : PV := .lit (.int .u32 (x : Int))
abbrev one (p : PV) : RV := ⟨p, none⟩
/-- What a function of whole numbers answers. -/
def spI1 (g : Int → Int) : List PV → Option RV
  | [.lit (.int .i64 x)] => some (one (iv (g x)))
  | _ => none
def spI2 (g : Int → Int → Int) : List PV → Option RV
  | [.lit (.int .i64 x), .lit (.int .i64 y)] => some (one (iv (g x y)))
  | _ => none
def sp0 (p : PV) : List PV → Option RV
  | [] => some (one p)
  | _ => none
theorem spI1_is {P : Program} {f : Nat} {g : Int → Int} (h : ∀ x, CallIs P f [iv x] (one (iv (g x)))) : ∀ args r, spI1 g args = some r → CallIs P f args r := by
  intro args r e
  unfold spI1 at e
  split at e
  · simp only [Option.some.injEq] at e; subst e; exact h _
  · simp at e
theorem spI2_is {P : Program} {f : Nat} {g : Int → Int → Int} (h : ∀ x y, CallIs P f [iv x, iv y] (one (iv (g x y)))) : ∀ args r, spI2 g args = some r → CallIs P f args r := by
  intro args r e
  unfold spI2 at e
  split at e
  · simp only [Option.some.injEq] at e; subst e; exact h _ _
  · simp at e
theorem sp0_is {P : Program} {f : Nat} {p : PV} (h : CallIs P f [] (one p)) : ∀ args r, sp0 p args = some r → CallIs P f args r := by
  intro args r e
  unfold sp0 at e
  split at e
  · simp only [Option.some.injEq] at e; subst e; exact h
  · simp at e
/-- Tables of answers, one by one. -/
theorem callOk_nil {P : Program} : CallOk P (tab []) := fun f args r h => by simp [tab] at h
theorem callOk_cons {P : Program} {f : Nat} {g : List PV → Option RV} {l : List (Nat × (List PV → Option RV))} (h : ∀ args r, g args = some r → CallIs P f args r) (hl : CallOk P (tab l)) : CallOk P (tab ((f, g) :: l)) := by
  intro x args r e
  simp only [tab] at e
  split at e
  · rename_i hf; exact hf ▸ h args r e
  · exact hl x args r e
end Go.Proofs.YtibbgjafjhcemaaDoor.Cul
