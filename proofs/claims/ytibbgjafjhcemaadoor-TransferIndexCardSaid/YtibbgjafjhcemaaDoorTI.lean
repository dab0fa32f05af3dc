/- Part of a proof by an abstract machine for the program's code: lemmas, without conditions of their own beyond those that each states. -/
import Derived.Test.YtibbgjafjhcemaaDoorAW
import Derived.Test.YtibbgjafjhcemaaDoorM31
set_option linter.unusedVariables false
set_option maxRecDepth 100000
namespace Go.Proofs.YtibbgjafjhcemaaDoor.Cul
open Go Go.RowKit
def tTI : Nat → List PV → Option RV := tab [(8, sp0 (bv true)), (9, spI2 fun i o => (o - i) % 24), (10, spI2 fun i o => (o - i) % 24), (11, spI2 fun i o => (i + o) % 24), (12, spI2 fun i o => (i + o) % 24), (13, spI1 (· % 24))]
def tM : Nat → List PV → Option RV := tab [(30, spI1 (· % 24))]
def tM2 : Nat → List PV → Option RV := tab [(13, spI1 (· % 24))]
theorem r30a (x : Int) : runX MD (tab []) 5 30 [iv x] [.c true] =
  some (RV.mk (PV.lit (Value.int IntKind.i64 (IntKind.i64.wrap (x.tmod 24 + 24)))) none, [decide (x.tmod 24 < 0) = true]) := by kernel_rfl
theorem r30b (x : Int) : runX MD (tab []) 5 30 [iv x] [.c false] =
  some (RV.mk (PV.lit (Value.int IntKind.i64 (x.tmod 24))) none, [decide (x.tmod 24 < 0) = false]) := by kernel_rfl
theorem r13 (x : Int) : runX MD (tab []) 5 13 [iv x] [] =
  some (RV.mk (PV.lit (Value.int IntKind.i64 ((IntKind.i64.wrap (x.tmod 24 + 24)).tmod 24))) none, []) := by kernel_rfl
theorem r9 (x y : Int) : runX MD tM 5 9 [iv x, iv y] [.r (one (iv (y % 24))), .r (one (iv (x % 24))), .r (one (iv ((y - x) % 24)))] =
  some (RV.mk (PV.lit (Value.int IntKind.i64 ((y - x) % 24))) none, [some (RV.mk (PV.lit (Value.int IntKind.i64 (y % 24))) none) = some (RV.mk (PV.lit (Value.int IntKind.i64 (y % 24))) none), some (RV.mk (PV.lit (Value.int IntKind.i64 (x % 24))) none) = some (RV.mk (PV.lit (Value.int IntKind.i64 (x % 24))) none), some (RV.mk (PV.lit (Value.int IntKind.i64 (IntKind.i64.wrap (y % 24 - x % 24) % 24))) none) = some (RV.mk (PV.lit (Value.int IntKind.i64 ((y - x) % 24))) none)]) := by kernel_rfl
theorem r11 (x y : Int) : runX MD tM 5 11 [iv x, iv y] [.r (one (iv (x % 24))), .r (one (iv (y % 24))), .r (one (iv ((x + y) % 24)))] =
  some (RV.mk (PV.lit (Value.int IntKind.i64 ((x + y) % 24))) none, [some (RV.mk (PV.lit (Value.int IntKind.i64 (x % 24))) none) = some (RV.mk (PV.lit (Value.int IntKind.i64 (x % 24))) none), some (RV.mk (PV.lit (Value.int IntKind.i64 (y % 24))) none) = some (RV.mk (PV.lit (Value.int IntKind.i64 (y % 24))) none), some (RV.mk (PV.lit (Value.int IntKind.i64 (IntKind.i64.wrap (x % 24 + y % 24) % 24))) none) = some (RV.mk (PV.lit (Value.int IntKind.i64 ((x + y) % 24))) none)]) := by kernel_rfl
theorem r10 (x y : Int) : runX MD tM2 5 10 [iv x, iv y] [.r (one (iv (y % 24))), .r (one (iv (x % 24))), .r (one (iv ((y - x) % 24)))] =
  some (RV.mk (PV.lit (Value.int IntKind.i64 ((y - x) % 24))) none, [some (RV.mk (PV.lit (Value.int IntKind.i64 (y % 24))) none) = some (RV.mk (PV.lit (Value.int IntKind.i64 (y % 24))) none), some (RV.mk (PV.lit (Value.int IntKind.i64 (x % 24))) none) = some (RV.mk (PV.lit (Value.int IntKind.i64 (x % 24))) none), some (RV.mk (PV.lit (Value.int IntKind.i64 (IntKind.i64.wrap (y % 24 - x % 24) % 24))) none) = some (RV.mk (PV.lit (Value.int IntKind.i64 ((y - x) % 24))) none)]) := by kernel_rfl
theorem r12 (x y : Int) : runX MD tM2 5 12 [iv x, iv y] [.r (one (iv (x % 24))), .r (one (iv (y % 24))), .r (one (iv ((x + y) % 24)))] =
  some (RV.mk (PV.lit (Value.int IntKind.i64 ((x + y) % 24))) none, [some (RV.mk (PV.lit (Value.int IntKind.i64 (x % 24))) none) = some (RV.mk (PV.lit (Value.int IntKind.i64 (x % 24))) none), some (RV.mk (PV.lit (Value.int IntKind.i64 (y % 24))) none) = some (RV.mk (PV.lit (Value.int IntKind.i64 (y % 24))) none), some (RV.mk (PV.lit (Value.int IntKind.i64 (IntKind.i64.wrap (x % 24 + y % 24) % 24))) none) = some (RV.mk (PV.lit (Value.int IntKind.i64 ((x + y) % 24))) none)]) := by kernel_rfl
theorem r3 (x y : Int) : runX MD tTI 5 3 [iv x, iv y] [.r (one (bv true)), .r (one (iv ((y - x) % 24))), .r (one (iv ((y - x) % 24))), .c true, .r (one (iv ((x + y) % 24))), .r (one (iv ((x + y) % 24))), .c true, .c true, .c true, .r (one (iv (x % 24))), .r (one (iv (x % 24))), .c true, .r (one (iv (y % 24))), .r (one (iv (y % 24))), .c true] =
  some (RV.mk (PV.lit (Value.bool true)) none, [some (RV.mk (PV.lit (Value.bool true)) none) = some (RV.mk (PV.lit (Value.bool true)) none), some (RV.mk (PV.lit (Value.int IntKind.i64 ((y - x) % 24))) none) = some (RV.mk (PV.lit (Value.int IntKind.i64 ((y - x) % 24))) none), some (RV.mk (PV.lit (Value.int IntKind.i64 ((y - x) % 24))) none) = some (RV.mk (PV.lit (Value.int IntKind.i64 ((y - x) % 24))) none), ((y - x) % 24 == (y - x) % 24) = true, some (RV.mk (PV.lit (Value.int IntKind.i64 ((x + y) % 24))) none) = some (RV.mk (PV.lit (Value.int IntKind.i64 ((x + y) % 24))) none), some (RV.mk (PV.lit (Value.int IntKind.i64 ((x + y) % 24))) none) = some (RV.mk (PV.lit (Value.int IntKind.i64 ((x + y) % 24))) none), ((x + y) % 24 == (x + y) % 24) = true, decide ((y - x) % 24 ≥ 0) = true, decide ((y - x) % 24 < 24) = true, some (RV.mk (PV.lit (Value.int IntKind.i64 ((y - (y - x) % 24) % 24))) none) = some (RV.mk (PV.lit (Value.int IntKind.i64 (x % 24))) none), some (RV.mk (PV.lit (Value.int IntKind.i64 (x % 24))) none) = some (RV.mk (PV.lit (Value.int IntKind.i64 (x % 24))) none), (x % 24 == x % 24) = true, some (RV.mk (PV.lit (Value.int IntKind.i64 ((x + (y - x) % 24) % 24))) none) = some (RV.mk (PV.lit (Value.int IntKind.i64 (y % 24))) none), some (RV.mk (PV.lit (Value.int IntKind.i64 (y % 24))) none) = some (RV.mk (PV.lit (Value.int IntKind.i64 (y % 24))) none), (y % 24 == y % 24) = true]) := by kernel_rfl
theorem obL (α : Prop) (l : List Prop) (h : α) (k : AllP l) : AllP (α :: l) := ⟨h, k⟩
theorem wrap_small {n : Int} (h1 : -(2^63) ≤ n) (h2 : n < 2^63) : IntKind.i64.wrap n = n := by
  unfold IntKind.wrap IntKind.bits IntKind.signed
  simp only
  have e1 : (2 : Int) ^ 64 = 18446744073709551616 := by decide
  have e2 : (2 : Int) ^ (64 - 1) = 9223372036854775808 := by decide
  rw [e1, e2]
  split
  · rename_i h; simp only [Bool.true_and, decide_eq_true_eq] at h; omega
  · rename_i h; simp only [Bool.true_and, decide_eq_true_eq] at h; omega
theorem tmod24 (x : Int) : x.tmod 24 = if x % 24 ≠ 0 ∧ x < 0 then x % 24 - 24 else x % 24 := by
  have := Int.tmod_eq_emod (a := x) (b := 24)
  rw [this]
  have hd : (24 : Int) ∣ x ↔ x % 24 = 0 := Int.dvd_iff_emod_eq_zero
  simp only [hd]
  by_cases h : 0 ≤ x
  · simp [h, show ¬ x < 0 by omega]
  · by_cases h2 : x % 24 = 0
    · simp [h2]
    · simp [h, h2, show x < 0 by omega]
theorem mod_is (x : Int) : CallIs P0 30 [iv x] (one (iv (x % 24))) := by
  by_cases h : x.tmod 24 < 0
  · have := runX_is machOkD callOk_nil (by rfl) (r30a x) ⟨by simpa using h, trivial⟩
    have e : IntKind.i64.wrap (x.tmod 24 + 24) = x % 24 := by
      rw [wrap_small] <;> rw [tmod24] at * <;> split at * <;> omega
    rw [e] at this; exact this
  · have := runX_is machOkD callOk_nil (by rfl) (r30b x) ⟨by simpa using h, trivial⟩
    have e : x.tmod 24 = x % 24 := by rw [tmod24] at *; split at * <;> omega
    rw [e] at this; exact this
theorem refMod_is (x : Int) : CallIs P0 13 [iv x] (one (iv (x % 24))) := by
  have := runX_is machOkD callOk_nil (by rfl) (r13 x) trivial
  have e : (IntKind.i64.wrap (x.tmod 24 + 24)).tmod 24 = x % 24 := by
    rw [wrap_small]
    · rw [tmod24 (x.tmod 24 + 24)]; rw [tmod24]; split <;> split <;> omega
    · rw [tmod24]; split <;> omega
    · rw [tmod24]; split <;> omega
  rw [e] at this; exact this
theorem tM_ok : CallOk P0 tM := callOk_cons (spI1_is mod_is) callOk_nil
theorem tM2_ok : CallOk P0 tM2 := callOk_cons (spI1_is refMod_is) callOk_nil
theorem w1 (x y : Int) : IntKind.i64.wrap (y % 24 - x % 24) % 24 = (y - x) % 24 := by rw [wrap_small] <;> omega
theorem w2 (x y : Int) : IntKind.i64.wrap (x % 24 + y % 24) % 24 = (x + y) % 24 := by rw [wrap_small] <;> omega
theorem index_is (x y : Int) : CallIs P0 9 [iv x, iv y] (one (iv ((y - x) % 24))) := runX_is machOkD tM_ok (by rfl) (r9 x y) ⟨rfl, rfl, by rw [w1], trivial⟩
theorem offset_is (x y : Int) : CallIs P0 11 [iv x, iv y] (one (iv ((x + y) % 24))) := runX_is machOkD tM_ok (by rfl) (r11 x y) ⟨rfl, rfl, by rw [w2], trivial⟩
theorem refIndex_is (x y : Int) : CallIs P0 10 [iv x, iv y] (one (iv ((y - x) % 24))) := runX_is machOkD tM2_ok (by rfl) (r10 x y) ⟨rfl, rfl, by rw [w1], trivial⟩
theorem refOffset_is (x y : Int) : CallIs P0 12 [iv x, iv y] (one (iv ((x + y) % 24))) := runX_is machOkD tM2_ok (by rfl) (r12 x y) ⟨rfl, rfl, by rw [w2], trivial⟩
theorem tTI_ok : CallOk P0 tTI := callOk_cons (sp0_is awake_is) (callOk_cons (spI2_is index_is) (callOk_cons (spI2_is refIndex_is) (callOk_cons (spI2_is offset_is) (callOk_cons (spI2_is refOffset_is) (callOk_cons (spI1_is refMod_is) callOk_nil)))))
theorem law3_is (x y : Int) : CallIs P0 3 [iv x, iv y] (one (bv true)) := by
  refine runX_is machOkD tTI_ok (by rfl) (r3 x y) ⟨rfl, rfl, rfl, by simp, rfl, rfl, by simp, ?_, ?_, ?_, rfl, by simp, ?_, rfl, by simp, trivial⟩
  · simp only [ge_iff_le, decide_eq_true_eq]; omega
  · simp only [decide_eq_true_eq]; omega
  · rw [show (y - (y - x) % 24) % 24 = x % 24 by omega]
  · rw [show (x + (y - x) % 24) % 24 = y % 24 by omega]
end Go.Proofs.YtibbgjafjhcemaaDoor.Cul
