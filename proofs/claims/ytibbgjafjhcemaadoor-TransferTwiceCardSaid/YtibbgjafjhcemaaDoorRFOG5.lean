/- Part of a proof by an abstract machine for the program's code: lemmas, without conditions of their own beyond those that each states. -/
import Derived.Test.YtibbgjafjhcemaaDoorRFOG4
/-! BL -/
set_option linter.unusedVariables false
namespace Go.Proofs.YtibbgjafjhcemaaDoor.Cul
open Go Go.RowKit
/-! ### Rows of cells that hold numbers, by any way of holding one -/
section
variable {c : Nat → PV}
theorem row_c {l : List Nat} {i x : Nat} (h : l[i]? = some x) : row (l.map c) 1 i = [c x] := by
  have hi := get_lt h
  have : (l.map c)[i]? = some (c x) := by simp [h]
  simp only [row, Nat.mul_one]
  rw [List.drop_eq_getElem_cons (by simpa using hi), List.take_succ_cons, List.take_zero]
  congr 1
  simpa [List.getElem?_eq_getElem (show i < (l.map c).length by simpa using hi)] using this
theorem rowAt_c {l : List Nat} {i x : Nat} {n : Int} (h : l[i]? = some x) (hn : n = (i : Int)) : RowAt (l.map c) 1 n l.length [c x] := by
  have hi := get_lt h
  subst hn
  exact ⟨⟨by omega, by omega⟩, by rw [Int.toNat_natCast]; exact row_c h⟩
theorem slEq_c (l : List Nat) (a n : Nat) {m : List Nat} (h : (l.drop a).take n = m) : SlEq (l.map c) a n (m.map c) := by
  show ((l.map c).drop a).take n = m.map c
  rw [← List.map_drop, ← List.map_take, h]
theorem ld_c {P : Program} {T : TypeId} (hs : sizeT P T = some 1) (hr : isRowT P T = false) (hu : (P.underlying T).isSome = true) {l : List Nat} {o i x : Nat} (h : l[i]? = some x) (ho : o = i) : Ld P T (l.map c) o (c x) := by
  subst ho
  have := get_lt h
  show takeT P T (l.map c) o = some (c x)
  simp only [takeT, hs, Option.bind_some, hr, hu]
  rw [if_pos (by rw [List.length_map]; omega)]
  simp [h]
theorem spl_c {l m : List Nat} {o i y : Nat} (h : l.set i y = m) (hi : i < l.length) (ho : o = i) : Spl (l.map c) o [c y] (m.map c) := by
  subst ho h
  show splice (l.map c) o [c y] = (l.set o y).map c
  simp only [splice, List.map_set, List.length_singleton]
  rw [List.set_eq_take_append_cons_drop, if_pos (by simpa using hi), List.append_assoc]; rfl
theorem zeros_c {n : Nat} : Zeros [c 0] n ((List.replicate n 0).map c) := by
  show zerosOf _ n = _
  induction n with
  | zero => rfl
  | succ n ih => simp only [zerosOf, List.replicate_succ, List.map_cons] at ih ⊢; rw [ih]; rfl
theorem litP_c (h : ∀ x, litP' (c x) = true) (l : List Nat) : (l.map c).all litP' = true := by
  rw [List.all_map, List.all_eq_true]; intro x _; exact h x
end
def ivn (x : Nat) : PV := iv x
/-- The reference's numbers: digits to the base 2^24. -/
def ni (l : List Nat) : PV := .sl 1 l.length (l.map ivn)
theorem size3 : sizeT MD.P 3 = some 1 := by kernel_rfl
theorem row3 : isRowT MD.P 3 = false := by kernel_rfl
theorem und3 : (MD.P.underlying 3).isSome = true := by kernel_rfl
theorem bytes3 : MD.P.bytesOf 3 = 8 := by kernel_rfl
theorem size5 : sizeT MD.P 5 = some 1 := by kernel_rfl
theorem row5 : isRowT MD.P 5 = false := by kernel_rfl
theorem und5 : (MD.P.underlying 5).isSome = true := by kernel_rfl
theorem bytes5 : MD.P.bytesOf 5 = 1 := by kernel_rfl
theorem ld_i {l : List Nat} {o i x : Nat} (h : l[i]? = some x) (ho : o = i) : Ld MD.P 3 (l.map ivn) o (ivn x) := ld_c size3 row3 und3 h ho
theorem ld_b {l : List Nat} {o i x : Nat} (h : l[i]? = some x) (ho : o = i) : Ld MD.P 5 (l.map bt) o (bt x) := ld_c size5 row5 und5 h ho
theorem ivnL_inj {l m : List Nat} (h : l.map ivn = m.map ivn) : l = m := by
  refine (List.map_inj_right ?_).1 h
  intro x y e
  simp only [ivn, iv, PV.lit.injEq, Value.int.injEq, true_and] at e; omega
theorem ni_inj {l m : List Nat} (h : ni l = ni m) : l = m := by
  simp only [ni, PV.sl.injEq] at h
  exact ivnL_inj h.2.2
theorem iv_inj {a b : Int} (h : iv a = iv b) : a = b := by simpa [iv] using h
theorem bv_inj {a b : Bool} (h : bv a = bv b) : a = b := by simpa [bv] using h
theorem dg_inj24 {a b : Nat} (h : dg (16777216 : Nat) a = dg (16777216 : Nat) b) : a = b := by
  have := congrArg (val (16777216 : Nat)) h
  rwa [val_dg (by decide), val_dg (by decide)] at this
theorem shrI {x r : Nat} {k : Int} (hk : k = (r : Int)) (hr : r < 64) : (x : Int).fdiv (2 ^ min k.toNat IntKind.i64.bits) = ((x / 2 ^ r : Nat) : Int) := by
  subst hk
  have e : min ((r : Int).toNat) IntKind.i64.bits = r := by rw [Int.toNat_natCast]; show min r 64 = r; omega
  rw [e, Int.fdiv_eq_ediv_of_nonneg _ (by exact_mod_cast Nat.zero_le _)]
  norm_cast
theorem wrap8 (a : Nat) : IntKind.u8.wrap (a : Int) = ((a % 256 : Nat) : Int) := by
  unfold IntKind.wrap IntKind.bits IntKind.signed
  simp only
  have e1 : (2 : Int) ^ 8 = 256 := by decide
  rw [e1]; simp
end Go.Proofs.YtibbgjafjhcemaaDoor.Cul
/-! B17 -/
set_option linter.unusedVariables false
set_option linter.unusedSimpArgs false
set_option maxRecDepth 100000
set_option maxHeartbeats 2000000
namespace Go.Proofs.YtibbgjafjhcemaaDoor.Cul
open Go Go.RowKit
noncomputable def t17 : Cl := tabF []
theorem ya0 (k n m : Nat) (cs ds es fs : List PV) (s : ByteArray) (o : Nat) : runX MD t17 k 89 [.sl 1 n cs] [.i 7 (3 * n : Nat), .c false, .f ds, .l (.exit 0) ⟨[(0, .pv (.sl 1 n cs)), (3, .bs 8 0 1 (3 * n)), (4, .pv (iv (3 * n : Nat))), (12, .pv (bv false))], [(8, es)], [], []⟩, .l (.exit 2) ⟨[(3, .bs 8 0 1 m), (40, .pv (bv false))], [(8, es)], [], []⟩, .f fs, .w 44 s] =
  some (RV.mk (PV.lit (Value.string s)) none, [IntKind.i64.wrap ((3 : Int) * (↑n : Int)) = (↑((3 : Nat) * n) : Int), (0 : Int) ≤ (↑((3 : Nat) * n) : Int) ∧ (↑((3 : Nat) * n) : Int) ≤ (↑((3 : Nat) * n) : Int) ∧ (↑((3 : Nat) * n) : Int) * (↑(MD.P.bytesOf (5 : Nat)) : Int) ≤ (↑room : Int) ∧ (↑((3 : Nat) * n) : Int) ≤ (↑room : Int), decide ((↑((3 : Nat) * n) : Int) = (0 : Int)) = false, Zeros [PV.lit (Value.int IntKind.u8 (0 : Int))] (↑((3 : Nat) * n) : Int).toNat ds, LoopIs MD t17 k (89 : Nat) (0 : Nat) (St.mk [(0, AV.pv (PV.sl 1 n cs)), (3, AV.bs 8 0 1 (↑((3 : Nat) * n) : Int).toNat), (4, AV.pv (PV.lit (Value.int IntKind.i64 (0 : Int))))] [(8, ds)] [] []) (Xt.exit 0) (St.mk [(0, AV.pv (PV.sl 1 n cs)), (3, AV.bs 8 0 1 ((3 : Nat) * n)), (4, AV.pv (PV.lit (Value.int IntKind.i64 (↑((3 : Nat) * n) : Int)))), (12, AV.pv (PV.lit (Value.bool false)))] [(8, es)] [] []), LoopIs MD t17 k (89 : Nat) (1 : Nat) (St.mk [(0, AV.pv (PV.sl 1 n cs)), (3, AV.bs 8 0 1 ((3 : Nat) * n)), (4, AV.pv (PV.lit (Value.int IntKind.i64 (↑((3 : Nat) * n) : Int)))), (12, AV.pv (PV.lit (Value.bool false)))] [(8, es)] [] []) (Xt.exit 2) (St.mk [(3, AV.bs 8 0 1 m), (40, AV.pv (PV.lit (Value.bool false)))] [(8, es)] [] []), SlEq es 0 (m * (1 : Nat)) fs, BytesAre fs s]) := by kernel_rfl
theorem yb0 (k n m : Nat) (cs ds es fs : List PV) (s : ByteArray) (o : Nat) : runX MD t17 k 89 [.sl 1 n cs] [.i 7 (3 * n : Nat), .c false, .f ds, .l (.exit 0) ⟨[(0, .pv (.sl 1 n cs)), (3, .bs 8 0 1 (3 * n)), (4, .pv (iv (3 * n : Nat))), (12, .pv (bv false))], [(8, es)], [], []⟩, .l (.exit 2) ⟨[(3, .bs 8 (o + 1) 1 m), (40, .pv (bv false))], [(8, es)], [], []⟩, .f fs, .w 44 s] =
  some (RV.mk (PV.lit (Value.string s)) none, [IntKind.i64.wrap ((3 : Int) * (↑n : Int)) = (↑((3 : Nat) * n) : Int), (0 : Int) ≤ (↑((3 : Nat) * n) : Int) ∧ (↑((3 : Nat) * n) : Int) ≤ (↑((3 : Nat) * n) : Int) ∧ (↑((3 : Nat) * n) : Int) * (↑(MD.P.bytesOf (5 : Nat)) : Int) ≤ (↑room : Int) ∧ (↑((3 : Nat) * n) : Int) ≤ (↑room : Int), decide ((↑((3 : Nat) * n) : Int) = (0 : Int)) = false, Zeros [PV.lit (Value.int IntKind.u8 (0 : Int))] (↑((3 : Nat) * n) : Int).toNat ds, LoopIs MD t17 k (89 : Nat) (0 : Nat) (St.mk [(0, AV.pv (PV.sl 1 n cs)), (3, AV.bs 8 0 1 (↑((3 : Nat) * n) : Int).toNat), (4, AV.pv (PV.lit (Value.int IntKind.i64 (0 : Int))))] [(8, ds)] [] []) (Xt.exit 0) (St.mk [(0, AV.pv (PV.sl 1 n cs)), (3, AV.bs 8 0 1 ((3 : Nat) * n)), (4, AV.pv (PV.lit (Value.int IntKind.i64 (↑((3 : Nat) * n) : Int)))), (12, AV.pv (PV.lit (Value.bool false)))] [(8, es)] [] []), LoopIs MD t17 k (89 : Nat) (1 : Nat) (St.mk [(0, AV.pv (PV.sl 1 n cs)), (3, AV.bs 8 0 1 ((3 : Nat) * n)), (4, AV.pv (PV.lit (Value.int IntKind.i64 (↑((3 : Nat) * n) : Int)))), (12, AV.pv (PV.lit (Value.bool false)))] [(8, es)] [] []) (Xt.exit 2) (St.mk [(3, AV.bs 8 (o + (1 : Nat)) 1 m), (40, AV.pv (PV.lit (Value.bool false)))] [(8, es)] [] []), SlEq es (o + (1 : Nat)) (m * (1 : Nat)) fs, BytesAre fs s]) := by kernel_rfl
theorem yb1 (k n i x y z : Nat) (cs es es' : List PV) : roundX MD t17 k 89 0 ⟨[(0, .pv (.sl 1 n cs)), (3, .bs 8 0 1 (3 * n)), (4, .pv (iv i))], [(8, es)], [], []⟩ [.c true, .i 18 (3 * n - 1 : Nat), .i 20 (3 * n - 1 - i : Nat), .i 23 (i / 3 : Nat), .a 24 [iv x], .i 27 (i % 3 : Nat), .i 28 (8 * (i % 3) : Nat), .i 29 y, .i 30 z, .j 31 (3 * n - 1 - i), .s es', .i 14 (i + 1 : Nat)] =
  some ((Xt.normal, St.mk [(0, AV.pv (PV.sl 1 n cs)), (3, AV.bs 8 0 1 ((3 : Nat) * n)), (4, AV.pv (PV.lit (Value.int IntKind.i64 (↑(i + (1 : Nat)) : Int))))] [(8, es')] [] []), [], [decide ((↑i : Int) < (↑((3 : Nat) * n) : Int)) = true, IntKind.i64.wrap ((↑((3 : Nat) * n) : Int) - (1 : Int)) = (↑((3 : Nat) * n - (1 : Nat)) : Int), IntKind.i64.wrap ((↑((3 : Nat) * n - (1 : Nat)) : Int) - (↑i : Int)) = (↑((3 : Nat) * n - (1 : Nat) - i) : Int), IntKind.i64.wrap ((↑i : Int).tdiv (3 : Int)) = (↑(i / (3 : Nat)) : Int), false = false, RowAt cs 1 (↑(i / (3 : Nat)) : Int) n [PV.lit (Value.int IntKind.i64 (↑x : Int))], (↑i : Int).tmod (3 : Int) = (↑(i % (3 : Nat)) : Int), false = false, IntKind.i64.wrap ((8 : Int) * (↑(i % (3 : Nat)) : Int)) = (↑((8 : Nat) * (i % (3 : Nat))) : Int), (↑x : Int).fdiv ((2 : Int) ^ min (↑((8 : Nat) * (i % (3 : Nat))) : Int).toNat IntKind.i64.bits) = (↑y : Int), decide ((↑((8 : Nat) * (i % (3 : Nat))) : Int) < (0 : Int)) = false, IntKind.u8.wrap (↑y : Int) = (↑z : Int), AtIdx (↑((3 : Nat) * n - (1 : Nat) - i) : Int) ((3 : Nat) * n) ((3 : Nat) * n - (1 : Nat) - i), (0 : Nat) + ((3 : Nat) * n - (1 : Nat) - i) * (1 : Nat) + (PV.lit (Value.int IntKind.u8 (↑z : Int))).cells.length ≤ es.length, Spl es ((0 : Nat) + ((3 : Nat) * n - (1 : Nat) - i) * (1 : Nat)) [PV.lit (Value.int IntKind.u8 (↑z : Int))] es', IntKind.i64.wrap ((↑i : Int) + (1 : Int)) = (↑(i + (1 : Nat)) : Int)]) := by kernel_rfl
theorem yb2 (k n i : Nat) (cs es : List PV) : roundX MD t17 k 89 0 ⟨[(0, .pv (.sl 1 n cs)), (3, .bs 8 0 1 (3 * n)), (4, .pv (iv i))], [(8, es)], [], []⟩ [.c false] =
  some ((Xt.exit 0, St.mk [(0, AV.pv (PV.sl 1 n cs)), (3, AV.bs 8 0 1 ((3 : Nat) * n)), (4, AV.pv (PV.lit (Value.int IntKind.i64 (↑i : Int)))), (12, AV.pv (PV.lit (Value.bool false)))] [(8, es)] [] []), [], [decide ((↑i : Int) < (↑((3 : Nat) * n) : Int)) = false]) := by kernel_rfl
theorem yc0 (k o m : Nat) (es : List PV) : roundX MD t17 k 89 1 ⟨[(3, .bs 8 o 1 m)], [(8, es)], [], []⟩ [.c false] =
  some ((Xt.exit 2, St.mk [(3, AV.bs 8 o 1 m), (40, AV.pv (PV.lit (Value.bool false)))] [(8, es)] [] []), [], [decide ((↑m : Int) > (0 : Int)) = false]) := by kernel_rfl
theorem yc1 (k o m x : Nat) (es : List PV) : roundX MD t17 k 89 1 ⟨[(3, .bs 8 o 1 m)], [(8, es)], [], []⟩ [.c true, .j 37 0, .e 38 (bt x), .c false] =
  some ((Xt.exit 2, St.mk [(3, AV.bs 8 o 1 m), (40, AV.pv (PV.lit (Value.bool false)))] [(8, es)] [] []), [], [decide ((↑m : Int) > (0 : Int)) = true, AtIdx (0 : Int) m 0, Ld MD.P 5 es o (PV.lit (Value.int IntKind.u8 (↑x : Int))), ((↑x : Int) == (0 : Int)) = false]) := by kernel_rfl
theorem yc2 (k o m x : Nat) (es : List PV) : roundX MD t17 k 89 1 ⟨[(3, .bs 8 o 1 m)], [(8, es)], [], []⟩ [.c true, .j 37 0, .e 38 (bt x), .c true, .o 42 (o + 1) (m - 1)] =
  some ((Xt.normal, St.mk [(3, AV.bs 8 (o + (1 : Nat)) 1 (m - (1 : Nat)))] [(8, es)] [] []), [], [decide ((↑m : Int) > (0 : Int)) = true, AtIdx (0 : Int) m 0, Ld MD.P 5 es o (PV.lit (Value.int IntKind.u8 (↑x : Int))), ((↑x : Int) == (0 : Int)) = true, (0 : Int) ≤ (1 : Int) ∧ (1 : Int) ≤ (↑m : Int) ∧ (↑m : Int) ≤ (↑m : Int), o + Int.toNat (1 : Int) * (1 : Nat) = o + (1 : Nat), (↑m : Int).toNat - Int.toNat (1 : Int) = m - (1 : Nat)]) := by kernel_rfl
theorem yd0 (k o m : Nat) (p q r : PV) (es : List PV) : roundX MD t17 k 89 1 ⟨[(0, .pv p), (3, .bs 8 o 1 m), (4, .pv q), (12, .pv r)], [(8, es)], [], []⟩ [.c false] =
  some ((Xt.exit 2, St.mk [(3, AV.bs 8 o 1 m), (40, AV.pv (PV.lit (Value.bool false)))] [(8, es)] [] []), [], [decide ((↑m : Int) > (0 : Int)) = false]) := by kernel_rfl
theorem yd1 (k o m x : Nat) (p q r : PV) (es : List PV) : roundX MD t17 k 89 1 ⟨[(0, .pv p), (3, .bs 8 o 1 m), (4, .pv q), (12, .pv r)], [(8, es)], [], []⟩ [.c true, .j 37 0, .e 38 (bt x), .c false] =
  some ((Xt.exit 2, St.mk [(3, AV.bs 8 o 1 m), (40, AV.pv (PV.lit (Value.bool false)))] [(8, es)] [] []), [], [decide ((↑m : Int) > (0 : Int)) = true, AtIdx (0 : Int) m 0, Ld MD.P 5 es o (PV.lit (Value.int IntKind.u8 (↑x : Int))), ((↑x : Int) == (0 : Int)) = false]) := by kernel_rfl
theorem yd2 (k o m x : Nat) (p q r : PV) (es : List PV) : roundX MD t17 k 89 1 ⟨[(0, .pv p), (3, .bs 8 o 1 m), (4, .pv q), (12, .pv r)], [(8, es)], [], []⟩ [.c true, .j 37 0, .e 38 (bt x), .c true, .o 42 (o + 1) (m - 1)] =
  some ((Xt.normal, St.mk [(3, AV.bs 8 (o + (1 : Nat)) 1 (m - (1 : Nat)))] [(8, es)] [] []), [], [decide ((↑m : Int) > (0 : Int)) = true, AtIdx (0 : Int) m 0, Ld MD.P 5 es o (PV.lit (Value.int IntKind.u8 (↑x : Int))), ((↑x : Int) == (0 : Int)) = true, (0 : Int) ≤ (1 : Int) ∧ (1 : Int) ≤ (↑m : Int) ∧ (↑m : Int) ≤ (↑m : Int), o + Int.toNat (1 : Int) * (1 : Nat) = o + (1 : Nat), (↑m : Int).toNat - Int.toNat (1 : Int) = m - (1 : Nat)]) := by kernel_rfl
theorem yz0 (k : Nat) (s : ByteArray) : runX MD t17 k 89 [.sl 1 0 []] [.i 7 0, .c true, .u 1, .c false, .u 1, .c false, .w 44 s] =
  some (RV.mk (PV.lit (Value.string s)) none, [(0 : Int) = (0 : Int), (0 : Int) ≤ (0 : Int) ∧ (0 : Int) ≤ (0 : Int) ∧ (0 : Int) * (↑(MD.P.bytesOf (5 : Nat)) : Int) ≤ (↑room : Int) ∧ (0 : Int) ≤ (↑room : Int), true = true, (1 : Nat) ≤ k, false = false, (1 : Nat) ≤ k, false = false, BytesAre [] s]) := by kernel_rfl
theorem byte_at (v i : Nat) : (v / (16777216 : Nat) ^ (i / 3) % (16777216 : Nat)) / 2 ^ (8 * (i % 3)) % 256 = v / 256 ^ i % 256 := by
  have hr : i % 3 < 3 := Nat.mod_lt _ (by decide)
  have e1 : (16777216 : Nat) ^ (i / 3) = 2 ^ (24 * (i / 3)) := by rw [Nat.pow_mul]
  have e2 : 256 ^ i = 2 ^ (24 * (i / 3)) * 2 ^ (8 * (i % 3)) := by
    rw [← Nat.pow_add, show (256 : Nat) = 2 ^ 8 by decide, ← Nat.pow_mul]; congr 1; omega
  have e3 : (16777216 : Nat) = 2 ^ (8 * (i % 3)) * 2 ^ (24 - 8 * (i % 3)) := by
    rw [← Nat.pow_add, show 8 * (i % 3) + (24 - 8 * (i % 3)) = 24 by omega]
  rw [e1, e2, ← Nat.div_div_eq_div_mul]
  generalize v / 2 ^ (24 * (i / 3)) = u
  rw [e3, Nat.mod_mul_right_div_self]
  refine Nat.mod_mod_of_dvd _ ?_
  rw [show (256 : Nat) = 2 ^ 8 by decide]
  exact Nat.pow_dvd_pow 2 (by omega)
/-- The bytes of a number, the greatest one first, when i are written. -/
def es (N v i : Nat) : List Nat := (List.range N).map fun p => if N - 1 - p < i then v / 256 ^ (N - 1 - p) % 256 else 0
theorem es_len (N v i : Nat) : (es N v i).length = N := by simp [es]
theorem es_get {N v i p : Nat} (h : p < N) : (es N v i)[p]? = some (if N - 1 - p < i then v / 256 ^ (N - 1 - p) % 256 else 0) := by
  simp [es, h]
theorem es_zero (N v : Nat) : es N v 0 = List.replicate N 0 := by
  apply List.ext_getElem?
  intro p
  by_cases h : p < N
  · rw [es_get h]; simp [h]
  · rw [List.getElem?_eq_none (by rw [es_len]; omega), List.getElem?_eq_none (by simp; omega)]
theorem es_step {N v i : Nat} (h : i < N) : (es N v i).set (N - 1 - i) (v / 256 ^ i % 256) = es N v (i + 1) := by
  apply List.ext_getElem?
  intro p
  by_cases hp : p < N
  · rw [List.getElem?_set, es_get hp, es_get hp, es_len]
    by_cases e : N - 1 - i = p
    · have : N - 1 - p = i := by omega
      rw [if_pos e, if_pos (by omega), this, if_pos (by omega)]
    · rw [if_neg e]
      have : N - 1 - p < i ↔ N - 1 - p < i + 1 := by omega
      simp only [this]
  · rw [List.getElem?_eq_none (by rw [List.length_set, es_len]; omega), List.getElem?_eq_none (by rw [es_len]; omega)]
theorem es_end (N v : Nat) : es N v N = (fd 256 N v).reverse := by
  apply List.ext_getElem?
  intro p
  by_cases hp : p < N
  · rw [es_get hp, if_pos (by omega), List.getElem?_reverse (by rw [fd_len]; exact hp), fd_len, fd_get (by omega)]
  · rw [List.getElem?_eq_none (by rw [es_len]; omega), List.getElem?_eq_none (by simp [fd_len]; omega)]
theorem yb_round (k i n v : Nat) (hi : i < 3 * n) (hn : n < 2 ^ 40) : roundM MD t17 k 89 0 ⟨[(0, .pv (ni (fd (16777216 : Nat) n v))), (3, .bs 8 0 1 (3 * n)), (4, .pv (iv i))], [(8, (es (3 * n) v i).map bt)], [], []⟩ = some (.normal, ⟨[(0, .pv (ni (fd (16777216 : Nat) n v))), (3, .bs 8 0 1 (3 * n)), (4, .pv (iv (i + 1 : Nat)))], [(8, (es (3 * n) v (i + 1)).map bt)], [], []⟩) := by
  have hx : (fd (16777216 : Nat) n v)[i / 3]? = some (v / (16777216 : Nat) ^ (i / 3) % (16777216 : Nat)) := fd_get (by omega)
  have hr := rowAt_c (c := ivn) hx (n := ((i / 3 : Nat) : Int)) rfl
  have hl : (fd (16777216 : Nat) n v).length = n := fd_len _ _ _
  have hxl : v / (16777216 : Nat) ^ (i / 3) % (16777216 : Nat) < (16777216 : Nat) := Nat.mod_lt _ (by decide)
  have key := yb1 k n i (v / (16777216 : Nat) ^ (i / 3) % (16777216 : Nat)) ((v / (16777216 : Nat) ^ (i / 3) % (16777216 : Nat)) / 2 ^ (8 * (i % 3))) (v / 256 ^ i % 256) ((fd (16777216 : Nat) n v).map ivn) ((es (3 * n) v i).map bt) ((es (3 * n) v (i + 1)).map bt)
  simp only [ni, hl] at hr ⊢
  have h1 : IntKind.i64.wrap ((i : Int).tdiv 3) = ((i / 3 : Nat) : Int) := w64n (tdivn i 3) (by omega)
  have h2 : (i : Int).tmod 3 = ((i % 3 : Nat) : Int) := tmodn i 3
  have h3 := shrI (x := v / (16777216 : Nat) ^ (i / 3) % (16777216 : Nat)) (r := 8 * (i % 3)) (k := ((8 * (i % 3) : Nat) : Int)) rfl (by omega)
  have h4 : IntKind.u8.wrap (((v / (16777216 : Nat) ^ (i / 3) % (16777216 : Nat)) / 2 ^ (8 * (i % 3)) : Nat) : Int) = ((v / 256 ^ i % 256 : Nat) : Int) := by rw [← byte_at]; exact wrap8 _
  have h5 : Spl ((es (3 * n) v i).map bt) (0 + (3 * n - 1 - i) * 1) [bt (v / 256 ^ i % 256)] ((es (3 * n) v (i + 1)).map bt) := spl_c (es_step hi) (by rw [es_len]; omega) (by omega)
  have h6 : 0 + (3 * n - 1 - i) * 1 + (bt (v / 256 ^ i % 256)).cells.length ≤ ((es (3 * n) v i).map bt).length := by
    rw [List.length_map, es_len]
    show _ + 1 ≤ _
    omega
  exact roundX_ok key ⟨decide_eq_true (by omega), w64n (by omega) (by omega), w64n (by omega) (by omega), h1, rfl, hr, h2, rfl, w64n (by omega) (by omega), h3, decide_eq_false (by omega), h4, ⟨rfl, by omega⟩, h6, h5, w64n (by omega) (by omega), trivial⟩
theorem bytes_size {v : Nat} : (magS v).size = (dg 256 v).length := by rw [← bytesL_magS, bytesL_len]
theorem dgr_head {v : Nat} (h : (dg 256 v).reverse ≠ []) : ∃ x l, (dg 256 v).reverse = x :: l ∧ 0 < x := by
  have hv : 0 < v := by
    rcases Nat.eq_zero_or_pos v with rfl | h'
    · simp [dg_zero] at h
    · exact h'
  obtain ⟨m, x, h1, h2, _⟩ := dg_last (b := 256) (by decide) hv
  exact ⟨x, m.reverse, by rw [h1]; simp, h2⟩
theorem yc_loop (k z v : Nat) (hb : z + (dg 256 v).length < 2 ^ 50) : ∀ j o, o + j = z → loopN (roundM MD t17 k 89 1) (j + 1) ⟨[(3, .bs 8 o 1 (j + (dg 256 v).length))], [(8, (List.replicate z 0 ++ (dg 256 v).reverse).map bt)], [], []⟩ = some (.exit 2, ⟨[(3, .bs 8 z 1 (dg 256 v).length), (40, .pv (bv false))], [(8, (List.replicate z 0 ++ (dg 256 v).reverse).map bt)], [], []⟩)
  | 0, o, h => by
    have ho : o = z := by omega
    subst ho
    rw [Nat.zero_add, Nat.zero_add]
    by_cases e : (dg 256 v).reverse = []
    · have el : (dg 256 v).length = 0 := by simpa using e
      rw [el]
      exact loopN_exit (roundX_ok (yc0 k o 0 _) ⟨rfl, trivial⟩) (by simp)
    · obtain ⟨x, l, e1, hx⟩ := dgr_head e
      have el : (dg 256 v).length = l.length + 1 := by
        have := congrArg List.length e1; simpa using this
      have hg : (List.replicate o 0 ++ (dg 256 v).reverse)[o]? = some x := by
        rw [e1, List.getElem?_append_right (by simp)]; simp
      refine loopN_exit (roundX_ok (yc1 k o _ x _) ⟨?_, ⟨rfl, by omega⟩, ld_b hg (by omega), ?_, trivial⟩) (by simp)
      · exact decide_eq_true (by omega)
      · exact beq_false_of_ne (by omega)
  | j + 1, o, h => by
    have hg : (List.replicate z 0 ++ (dg 256 v).reverse)[o]? = some 0 := by
      rw [List.getElem?_append_left (by simp; omega), List.getElem?_replicate, if_pos (by omega)]
    have key := yc2 k o (j + 1 + (dg 256 v).length) 0 ((List.replicate z 0 ++ (dg 256 v).reverse).map bt)
    rw [show j + 1 + (dg 256 v).length - 1 = j + (dg 256 v).length by omega] at key
    exact loopN_next (roundX_ok key ⟨by simp; omega, ⟨rfl, by omega⟩, ld_b hg (by omega), rfl, ⟨by omega, by omega, by omega⟩, by simp, by omega, trivial⟩) (yc_loop k z v hb j (o + 1) (by omega))
/-- The first round begins with more slots. -/
theorem yd_loop (k z v : Nat) (p q r : PV) (hb : z + (dg 256 v).length < 2 ^ 50) : loopN (roundM MD t17 k 89 1) (z + 1) ⟨[(0, .pv p), (3, .bs 8 0 1 (z + (dg 256 v).length)), (4, .pv q), (12, .pv r)], [(8, (List.replicate z 0 ++ (dg 256 v).reverse).map bt)], [], []⟩ = some (.exit 2, ⟨[(3, .bs 8 z 1 (dg 256 v).length), (40, .pv (bv false))], [(8, (List.replicate z 0 ++ (dg 256 v).reverse).map bt)], [], []⟩) := by
  cases z with
  | zero =>
    rw [Nat.zero_add, Nat.zero_add]
    by_cases e : (dg 256 v).reverse = []
    · have el : (dg 256 v).length = 0 := by simpa using e
      rw [el]
      exact loopN_exit (roundX_ok (yd0 k 0 0 p q r _) ⟨rfl, trivial⟩) (by simp)
    · obtain ⟨x, l, e1, hx⟩ := dgr_head e
      have el : (dg 256 v).length = l.length + 1 := by
        have := congrArg List.length e1; simpa using this
      have hg : (List.replicate 0 0 ++ (dg 256 v).reverse)[0]? = some x := by
        rw [e1]; rfl
      refine loopN_exit (roundX_ok (yd1 k 0 _ x p q r _) ⟨?_, ⟨rfl, by omega⟩, ld_b hg (by omega), ?_, trivial⟩) (by simp)
      · exact decide_eq_true (by omega)
      · exact beq_false_of_ne (by omega)
  | succ j =>
    have hg : (List.replicate (j + 1) 0 ++ (dg 256 v).reverse)[0]? = some 0 := by
      rw [List.getElem?_append_left (by simp)]
      simp
    have key := yd2 k 0 (j + 1 + (dg 256 v).length) 0 p q r ((List.replicate (j + 1) 0 ++ (dg 256 v).reverse).map bt)
    rw [show j + 1 + (dg 256 v).length - 1 = j + (dg 256 v).length by omega] at key
    exact loopN_next (roundX_ok key ⟨by simp; omega, ⟨rfl, by omega⟩, ld_b hg (by omega), rfl, ⟨by omega, by omega, by omega⟩, by simp, by omega, trivial⟩) (yc_loop k (j + 1) v hb j (0 + 1) (by omega))
theorem bytes_are (v : Nat) : BytesAre ((dg 256 v).reverse.map bt) (magS v) := by
  have := bytesOf_bts (dg 256 v).reverse
  unfold bts at this
  show (bytesOf ((dg 256 v).reverse.map bt)).map _ = _
  rw [this]; rfl
/-- The reference's bytes of a number. -/
theorem rbytes_is (l : List Nat) (h : l.length < 2 ^ 40) (hd : Dig (16777216 : Nat) l) : CallIs P0 89 [ni l] (one (sv (magS (val (16777216 : Nat) l)))) := by
  obtain ⟨v, hv⟩ : ∃ v, v = val (16777216 : Nat) l := ⟨_, rfl⟩
  rw [← hv]
  have el : l = fd (16777216 : Nat) l.length v := fd_eq (by decide) hd rfl hv.symm
  obtain ⟨n, hn⟩ : ∃ n, n = l.length := ⟨_, rfl⟩
  rw [← hn] at el h
  have hlt : v < 256 ^ (3 * n) := by
    have := val_lt hd
    rw [← hv, ← hn] at this
    rwa [Nat.pow_mul, show (256 : Nat) ^ 3 = (16777216 : Nat) by decide]
  rcases Nat.eq_zero_or_pos n with h0 | h0
  · have hl : l = [] := List.length_eq_zero_iff.1 (by omega)
    have hv0 : v = 0 := by rw [hv, hl]; rfl
    subst hl hv0
    exact runX_is machOkD (tabF_ok fns_nil) (by rfl) (yz0 2 (magS 0)) ⟨rfl, ⟨by decide, by decide, by decide, by decide⟩, rfl, by omega, rfl, by omega, rfl, by rfl, trivial⟩
  · rw [el]
    have hfd := fd_dg (b := 256) (by decide) hlt
    obtain ⟨z, hz⟩ : ∃ z, z = 3 * n - (dg 256 v).length := ⟨_, rfl⟩
    have hdl := dg_len (b := 256) (by decide) hlt
    rw [← hz] at hfd
    have hrev : es (3 * n) v (3 * n) = List.replicate z 0 ++ (dg 256 v).reverse := by
      rw [es_end, hfd, List.reverse_append, List.reverse_replicate]
    obtain ⟨k, hk⟩ : ∃ k, k = 3 * n + 5 := ⟨_, rfl⟩
    have l1 := loopN_chain (f := roundM MD t17 k 89 0) (S := fun i => ⟨[(0, .pv (ni (fd (16777216 : Nat) n v))), (3, .bs 8 0 1 (3 * n)), (4, .pv (iv (i : Nat)))], [(8, (es (3 * n) v i).map bt)], [], []⟩) (n := 3 * n) (fun i hi => yb_round k i n v hi h) (r := (.exit 0, ⟨[(0, .pv (ni (fd (16777216 : Nat) n v))), (3, .bs 8 0 1 (3 * n)), (4, .pv (iv (3 * n : Nat))), (12, .pv (bv false))], [(8, (es (3 * n) v (3 * n)).map bt)], [], []⟩))
      (by
        have := yb2 k n (3 * n) ((fd (16777216 : Nat) n v).map ivn) ((es (3 * n) v (3 * n)).map bt)
        simp only [ni, fd_len]
        exact roundX_ok this ⟨by simp, trivial⟩) (by simp) k (by omega)
    have l2 := loopN_le (show z + 1 ≤ k by omega) (yd_loop k z v (ni (fd (16777216 : Nat) n v)) (iv (3 * n : Nat)) (bv false) (by omega))
    rw [show z + (dg 256 v).length = 3 * n by omega] at l2
    rw [es_zero, hrev] at l1
    simp only [ni, fd_len] at l1 l2 ⊢
    have hfs : SlEq ((List.replicate z 0 ++ (dg 256 v).reverse).map bt) z ((dg 256 v).length * 1) ((dg 256 v).reverse.map bt) := slEq_c _ _ _ (by
      rw [List.drop_left' (by simp), List.take_of_length_le (by simp)])
    have hlen : IntKind.i64.wrap (3 * (n : Int)) = ((3 * n : Nat) : Int) := w64n (by omega) (by omega)
    cases z with
    | zero =>
      refine runX_is machOkD (tabF_ok fns_nil) (by rfl) (ya0 k n _ ((fd (16777216 : Nat) n v).map ivn) _ _ _ (magS v) 0) ⟨hlen, ?_, ?_, zeros_c (c := bt), l1, l2, hfs, bytes_are v, trivial⟩
      · refine ⟨by omega, by omega, ?_, ?_⟩
        · rw [bytes5]; show _ ≤ ((140737488355328 : Nat) : Int); omega
        · show _ ≤ ((140737488355328 : Nat) : Int); omega
      · simp; omega
    | succ o =>
      refine runX_is machOkD (tabF_ok fns_nil) (by rfl) (yb0 k n _ ((fd (16777216 : Nat) n v).map ivn) _ _ _ (magS v) o) ⟨hlen, ?_, ?_, zeros_c (c := bt), l1, l2, hfs, bytes_are v, trivial⟩
      · refine ⟨by omega, by omega, ?_, ?_⟩
        · rw [bytes5]; show _ ≤ ((140737488355328 : Nat) : Int); omega
        · show _ ≤ ((140737488355328 : Nat) : Int); omega
      · simp; omega
end Go.Proofs.YtibbgjafjhcemaaDoor.Cul
/-! B18 -/
set_option linter.unusedVariables false
set_option linter.unusedSimpArgs false
set_option maxRecDepth 100000
set_option maxHeartbeats 2000000
namespace Go.Proofs.YtibbgjafjhcemaaDoor.Cul
open Go Go.RowKit
noncomputable def byT : List PV → Option RV := spE (fun l : List Nat => l.length < 2 ^ 40 ∧ Dig (16777216 : Nat) l) (fun l => [ni l]) (fun l => one (sv (magS (val (16777216 : Nat) l))))
noncomputable def t18 : Cl := tabF [(89, byT)]
noncomputable def sgnedT : List PV → Option RV := spE (fun x : Bool × List Nat => x.2.length < 2 ^ 40 ∧ Dig (16777216 : Nat) x.2) (fun x => [bv x.1, ni x.2]) (fun x => one (.ag (zc (if x.1 then -(val (16777216 : Nat) x.2 : Int) else (val (16777216 : Nat) x.2 : Int)))))
noncomputable def t19 : Cl := tabF [(73, sgnedT)]
theorem tt0 (k o m : Nat) (cs : List PV) : roundX MD t0 k 90 0 ⟨[(0, .bs gk o 1 m)], [(gk, cs)], [], []⟩ [.c false] =
  some ((Xt.exit 0, St.mk [(0, AV.bs 1000000 o 1 m), (14, AV.pv (PV.lit (Value.bool false)))] [(1000000, cs)] [] []), [], [decide ((↑m : Int) > (0 : Int)) = false]) := by kernel_rfl
theorem tt1 (k o m x : Nat) (cs : List PV) : roundX MD t0 k 90 0 ⟨[(0, .bs gk o 1 m)], [(gk, cs)], [], []⟩ [.c true, .j 11 (m - 1), .e 12 (iv x), .c false] =
  some ((Xt.exit 0, St.mk [(0, AV.bs 1000000 o 1 m), (14, AV.pv (PV.lit (Value.bool false)))] [(1000000, cs)] [] []), [], [decide ((↑m : Int) > (0 : Int)) = true, AtIdx (IntKind.i64.wrap ((↑m : Int) - (1 : Int))) m (m - (1 : Nat)), Ld MD.P 3 cs (o + (m - (1 : Nat)) * (1 : Nat)) (PV.lit (Value.int IntKind.i64 (↑x : Int))), ((↑x : Int) == (0 : Int)) = false]) := by kernel_rfl
theorem tt2 (k o m x : Nat) (cs : List PV) : roundX MD t0 k 90 0 ⟨[(0, .bs gk o 1 m)], [(gk, cs)], [], []⟩ [.c true, .j 11 (m - 1), .e 12 (iv x), .c true, .o 19 o (m - 1)] =
  some ((Xt.normal, St.mk [(0, AV.bs 1000000 o 1 (m - (1 : Nat)))] [(1000000, cs)] [] []), [], [decide ((↑m : Int) > (0 : Int)) = true, AtIdx (IntKind.i64.wrap ((↑m : Int) - (1 : Int))) m (m - (1 : Nat)), Ld MD.P 3 cs (o + (m - (1 : Nat)) * (1 : Nat)) (PV.lit (Value.int IntKind.i64 (↑x : Int))), ((↑x : Int) == (0 : Int)) = true, (0 : Int) ≤ (0 : Int) ∧ (0 : Int) ≤ IntKind.i64.wrap ((↑m : Int) - (1 : Int)) ∧ IntKind.i64.wrap ((↑m : Int) - (1 : Int)) ≤ (↑m : Int), o = o, (IntKind.i64.wrap ((↑m : Int) - (1 : Int))).toNat - Int.toNat (0 : Int) = m - (1 : Nat)]) := by kernel_rfl
theorem ttm (k o m n : Nat) (cs : List PV) : runMX MD t0 k 90 [.g cs o 1 n] [.l (.exit 0) ⟨[(0, .bs gk o 1 m), (14, .pv (bv false))], [(gk, cs)], [], []⟩] =
  some ((MR.gs o m, cs), [cs.all litP' = true, cs.length = cs.length, LoopIs MD t0 k (90 : Nat) (0 : Nat) (St.mk [(0, AV.bs 1000000 o 1 n)] [(1000000, cs)] [] []) (Xt.exit 0) (St.mk [(0, AV.bs 1000000 o 1 m), (14, AV.pv (PV.lit (Value.bool false)))] [(1000000, cs)] [] [])]) := by kernel_rfl
theorem rdg0 (k n : Nat) (s : ByteArray) (cs0 cs ds : List PV) : runX MD t0 k 72 [sv s] [.i 8 (s.size + 2 : Nat), .i 9 n, .c false, .f cs0, .l (.exit 0) ⟨[(0, .pv (sv s)), (3, .bs 10 0 1 n), (4, .pv (iv s.size)), (14, .pv (bv false))], [(10, cs)], [], []⟩, .f ds] =
  some (RV.mk (PV.sl 1 n ds) (some 1), [IntKind.i64.wrap ((↑s.size : Int) + (2 : Int)) = (↑(s.size + (2 : Nat)) : Int), IntKind.i64.wrap ((↑(s.size + (2 : Nat)) : Int).tdiv (3 : Int)) = (↑n : Int), false = false, (0 : Int) ≤ (↑n : Int) ∧ (↑n : Int) ≤ (↑n : Int) ∧ (↑n : Int) * (↑(MD.P.bytesOf (3 : Nat)) : Int) ≤ (↑room : Int) ∧ (↑n : Int) ≤ (↑room : Int), decide ((↑n : Int) = (0 : Int)) = false, Zeros [PV.lit (Value.int IntKind.i64 (0 : Int))] n cs0, LoopIs MD t0 k (72 : Nat) (0 : Nat) (St.mk [(0, AV.pv (PV.lit (Value.string s))), (3, AV.bs 10 0 1 n), (4, AV.pv (PV.lit (Value.int IntKind.i64 (0 : Int))))] [(10, cs0)] [] []) (Xt.exit 0) (St.mk [(0, AV.pv (PV.lit (Value.string s))), (3, AV.bs 10 0 1 n), (4, AV.pv (PV.lit (Value.int IntKind.i64 (↑s.size : Int)))), (14, AV.pv (PV.lit (Value.bool false)))] [(10, cs)] [] []), SlEq cs 0 (n * (1 : Nat)) ds]) := by kernel_rfl
theorem rdgz (k : Nat) (s : ByteArray) : runX MD t0 k 72 [sv s] [.i 8 2, .i 9 0, .c true, .u 1, .c false] =
  some (RV.mk (PV.sl 1 0 []) none, [IntKind.i64.wrap ((↑s.size : Int) + (2 : Int)) = (2 : Int), (0 : Int) = (0 : Int), false = false, (0 : Int) ≤ (0 : Int) ∧ (0 : Int) ≤ (0 : Int) ∧ (0 : Int) * (↑(MD.P.bytesOf (3 : Nat)) : Int) ≤ (↑room : Int) ∧ (0 : Int) ≤ (↑room : Int), true = true, (1 : Nat) ≤ k, decide ((0 : Int) < (↑s.size : Int)) = false]) := by kernel_rfl
theorem rdg1 (k n i b x y : Nat) (s : ByteArray) (cs cs' : List PV) : roundX MD t0 k 72 0 ⟨[(0, .pv (sv s)), (3, .bs 10 0 1 n), (4, .pv (iv i))], [(10, cs)], [], []⟩ [.c true, .i 19 (s.size - 1), .i 21 (s.size - 1 - i : Nat), .i 24 (i/3 : Nat), .j 25 (i/3), .e 26 (iv x), .i 29 b, .i 30 b, .i 32 (i%3 : Nat), .i 33 (8*(i%3) : Nat), .i 34 (256^(i%3) * b : Nat), .i 35 y, .j 36 (i/3), .s cs', .i 16 ((i+1 : Nat) : Int)] =
  some ((Xt.normal, St.mk [(0, AV.pv (PV.lit (Value.string s))), (3, AV.bs 10 0 1 n), (4, AV.pv (PV.lit (Value.int IntKind.i64 (↑(i + (1 : Nat)) : Int))))] [(10, cs')] [] []), [], [decide ((↑i : Int) < (↑s.size : Int)) = true, IntKind.i64.wrap ((↑s.size : Int) - (1 : Int)) = (↑s.size : Int) - (1 : Int), IntKind.i64.wrap ((↑s.size : Int) - (1 : Int) - (↑i : Int)) = (↑(s.size - (1 : Nat) - i) : Int), IntKind.i64.wrap ((↑i : Int).tdiv (3 : Int)) = (↑(i / (3 : Nat)) : Int), false = false, AtIdx (↑(i / (3 : Nat)) : Int) n (i / (3 : Nat)), Ld MD.P 3 cs ((0 : Nat) + i / (3 : Nat) * (1 : Nat)) (PV.lit (Value.int IntKind.i64 (↑x : Int))), StrAt s (↑(s.size - (1 : Nat) - i) : Int) (↑b : Int), IntKind.i64.wrap (↑b : Int) = (↑b : Int), (↑i : Int).tmod (3 : Int) = (↑(i % (3 : Nat)) : Int), false = false, IntKind.i64.wrap ((8 : Int) * (↑(i % (3 : Nat)) : Int)) = (↑((8 : Nat) * (i % (3 : Nat))) : Int), IntKind.i64.wrap ((↑b : Int) * (2 : Int) ^ min (↑((8 : Nat) * (i % (3 : Nat))) : Int).toNat IntKind.i64.bits) = (↑((256 : Nat) ^ (i % (3 : Nat)) * b) : Int), decide ((↑((8 : Nat) * (i % (3 : Nat))) : Int) < (0 : Int)) = false, IntKind.i64.wrap ((↑x : Int) + (↑((256 : Nat) ^ (i % (3 : Nat)) * b) : Int)) = (↑y : Int), AtIdx (↑(i / (3 : Nat)) : Int) n (i / (3 : Nat)), (0 : Nat) + i / (3 : Nat) * (1 : Nat) + (PV.lit (Value.int IntKind.i64 (↑y : Int))).cells.length ≤ cs.length, Spl cs ((0 : Nat) + i / (3 : Nat) * (1 : Nat)) [PV.lit (Value.int IntKind.i64 (↑y : Int))] cs', IntKind.i64.wrap ((↑i : Int) + (1 : Int)) = (↑(i + (1 : Nat)) : Int)]) := by kernel_rfl
theorem rdg2 (k n i : Nat) (s : ByteArray) (cs : List PV) : roundX MD t0 k 72 0 ⟨[(0, .pv (sv s)), (3, .bs 10 0 1 n), (4, .pv (iv i))], [(10, cs)], [], []⟩ [.c false] =
  some ((Xt.exit 0, St.mk [(0, AV.pv (PV.lit (Value.string s))), (3, AV.bs 10 0 1 n), (4, AV.pv (PV.lit (Value.int IntKind.i64 (↑i : Int)))), (14, AV.pv (PV.lit (Value.bool false)))] [(10, cs)] [] []), [], [decide ((↑i : Int) < (↑s.size : Int)) = false]) := by kernel_rfl
theorem sd1 (k n : Nat) (cs : List PV) (c : Bool) (s : ByteArray) : runX MD t18 k 73 [bv true, .sl 1 n cs] [.r (one (sv s)), .c c] =
  some (RV.mk (PV.ag [PV.lit (Value.bool c), PV.lit (Value.string s)]) none, [CallsTo t18 89 [PV.sl 1 n cs] (RV.mk (PV.lit (Value.string s)) none), (!s.toList == (ByteArray.mk #[]).toList) = c]) := by kernel_rfl
theorem sd0 (k n : Nat) (cs : List PV) (s : ByteArray) : runX MD t18 k 73 [bv false, .sl 1 n cs] [.r (one (sv s))] =
  some (RV.mk (PV.ag [PV.lit (Value.bool false), PV.lit (Value.string s)]) none, [CallsTo t18 89 [PV.sl 1 n cs] (RV.mk (PV.lit (Value.string s)) none)]) := by kernel_rfl
theorem ro0 (k : Nat) (n u w d0 d1 d2 : Int) (e : Bool) (s : ByteArray) : runX MD t19 k 61 [iv n] [.i 5 u, .c true, .i 9 w, .c true, .i 14 d0, .i 18 d1, .i 22 d2, .r (one (iz e s))] =
  some (RV.mk (PV.ag [PV.lit (Value.bool e), PV.lit (Value.string s)]) none, [IntKind.u64.wrap n = u, decide (n < (0 : Int)) = true, IntKind.u64.wrap ((0 : Int) - u) = w, decide (n < (0 : Int)) = true, false = false, IntKind.i64.wrap (w.tmod (16777216 : Int)) = d0, false = false, false = false, IntKind.i64.wrap ((IntKind.u64.wrap (w.tdiv (16777216 : Int))).tmod (16777216 : Int)) = d1, false = false, false = false, IntKind.i64.wrap (IntKind.u64.wrap ((IntKind.u64.wrap (w.tdiv (16777216 : Int))).tdiv (16777216 : Int))) = d2, CallsTo t19 73 [PV.lit (Value.bool true), PV.sl 1 3 [PV.lit (Value.int IntKind.i64 d0), PV.lit (Value.int IntKind.i64 d1), PV.lit (Value.int IntKind.i64 d2)]] (RV.mk (PV.ag [PV.lit (Value.bool e), PV.lit (Value.string s)]) none)]) := by kernel_rfl
theorem ro1 (k : Nat) (n u d0 d1 d2 : Int) (e : Bool) (s : ByteArray) : runX MD t19 k 61 [iv n] [.i 5 u, .c false, .c false, .i 14 d0, .i 18 d1, .i 22 d2, .r (one (iz e s))] =
  some (RV.mk (PV.ag [PV.lit (Value.bool e), PV.lit (Value.string s)]) none, [IntKind.u64.wrap n = u, decide (n < (0 : Int)) = false, decide (n < (0 : Int)) = false, false = false, IntKind.i64.wrap (u.tmod (16777216 : Int)) = d0, false = false, false = false, IntKind.i64.wrap ((IntKind.u64.wrap (u.tdiv (16777216 : Int))).tmod (16777216 : Int)) = d1, false = false, false = false, IntKind.i64.wrap (IntKind.u64.wrap ((IntKind.u64.wrap (u.tdiv (16777216 : Int))).tdiv (16777216 : Int))) = d2, CallsTo t19 73 [PV.lit (Value.bool false), PV.sl 1 3 [PV.lit (Value.int IntKind.i64 d0), PV.lit (Value.int IntKind.i64 d1), PV.lit (Value.int IntKind.i64 d2)]] (RV.mk (PV.ag [PV.lit (Value.bool e), PV.lit (Value.string s)]) none)]) := by kernel_rfl
theorem dg_take {b : Nat} (hb : 2 ≤ b) {l : List Nat} (h : Dig b l) : dg b (val b l) = l.take (dg b (val b l)).length := by
  have h1 : l = fd b l.length (val b l) := fd_eq (by omega) h rfl rfl
  have h2 := fd_dg hb (val_lt h)
  rw [← h1] at h2
  exact ((congrArg (List.take (dg b (val b l)).length) h2).trans (List.take_left' rfl)).symm
theorem trim_loopM (k : Nat) (p : List Nat) : ∀ (n : Nat) (l q : List Nat), l.length = n → n < 2 ^ 40 → Dig (16777216 : Nat) l → loopN (roundM MD t0 k 90 0) (n + 1) ⟨[(0, .bs gk p.length 1 l.length)], [(gk, (p ++ l ++ q).map ivn)], [], []⟩ = some (.exit 0, ⟨[(0, .bs gk p.length 1 (dg (16777216 : Nat) (val (16777216 : Nat) l)).length), (14, .pv (bv false))], [(gk, (p ++ l ++ q).map ivn)], [], []⟩)
  | 0, l, q, hl, _, _ => by
    have : l = [] := List.length_eq_zero_iff.1 hl
    subst this
    exact loopN_exit (roundX_ok (tt0 k p.length 0 _) ⟨rfl, trivial⟩) (by simp)
  | n + 1, l, q, hl, hn, hd => by
    have hne : l ≠ [] := by intro h; subst h; simp at hl
    have e := List.dropLast_concat_getLast hne
    obtain ⟨x, hx⟩ : ∃ x, x = l.getLast hne := ⟨_, rfl⟩
    obtain ⟨m, hm⟩ : ∃ m, m = l.dropLast := ⟨_, rfl⟩
    rw [← hx, ← hm] at e
    subst e
    have hl' : m.length = n := by simpa using hl
    have hw : IntKind.i64.wrap (((m ++ [x]).length : Int) - 1) = (((m ++ [x]).length - 1 : Nat) : Int) := w64n (by omega) (by omega)
    have hg : (p ++ (m ++ [x]) ++ q)[p.length + n]? = some x := by
      rw [List.append_assoc, List.getElem?_append_right (by omega), Nat.add_sub_cancel_left, List.append_assoc, List.getElem?_append_right (by omega), hl', Nat.sub_self]; rfl
    have hld := ld_i hg (o := p.length + ((m ++ [x]).length - 1) * 1) (by omega)
    have h0 : decide (((m ++ [x]).length : Int) > 0) = true := decide_eq_true (by omega)
    have ha : AtIdx (IntKind.i64.wrap (((m ++ [x]).length : Int) - 1)) (m ++ [x]).length ((m ++ [x]).length - 1) := ⟨hw, by omega⟩
    by_cases h : x = 0
    · subst h
      refine loopN_next (roundX_ok (tt2 k p.length _ 0 _) ⟨h0, ha, hld, rfl, ⟨by omega, by omega, by omega⟩, rfl, ?_, trivial⟩) ?_
      · rw [hw]; simp
      · have := trim_loopM k p n m (0 :: q) hl' (by omega) hd.left
        have e1 : p ++ (m ++ [0]) ++ q = p ++ m ++ 0 :: q := by simp
        have e2 : (m ++ [0]).length - 1 = m.length := by simp
        rw [val_snoc0, e1, e2]
        exact this
    · have := loopN_exit (n := n + 1) (roundX_ok (tt1 k p.length (m ++ [x]).length x _) ⟨h0, ha, hld, beq_false_of_ne (by omega), trivial⟩) (by simp)
      rw [dg_of (by decide) hd (.inr ⟨m, x, rfl, by omega⟩)]
      exact this
theorem litP_ivn (l : List Nat) : (l.map ivn).all litP' = true := litP_c (fun _ => rfl) l
/-- The reference's trim, of an array of the caller's. -/
theorem rtrim_is (p l : List Nat) (h : l.length < 2 ^ 40) (hd : Dig (16777216 : Nat) l) : MutIs P0 90 [.g ((p ++ l).map ivn) p.length 1 l.length] (.gs p.length (dg (16777216 : Nat) (val (16777216 : Nat) l)).length) ((p ++ l).map ivn) := by
  have := trim_loopM (l.length + 1) p l.length l [] rfl h hd
  rw [List.append_nil] at this
  exact runMX_is machOkD (tabF_ok fns_nil) (by rfl) (ttm (l.length + 1) p.length _ l.length _) ⟨litP_ivn _, rfl, this, trivial⟩
noncomputable def rtrimM : List MA → Option (MR × List PV) := spM (fun x : List Nat × List Nat => x.2.length < 2 ^ 40 ∧ Dig (16777216 : Nat) x.2) (fun x => [.g ((x.1 ++ x.2).map ivn) x.1.length 1 x.2.length]) (fun x => (.gs x.1.length (dg (16777216 : Nat) (val (16777216 : Nat) x.2)).length, (x.1 ++ x.2).map ivn))
theorem rtrimM_at {p l : List Nat} (h : l.length < 2 ^ 40) (hd : Dig (16777216 : Nat) l) : rtrimM [.g ((p ++ l).map ivn) p.length 1 l.length] = some (.gs p.length (dg (16777216 : Nat) (val (16777216 : Nat) l)).length, (p ++ l).map ivn) :=
  spM_at (a := (p, l)) (enc := fun x : List Nat × List Nat => [.g ((x.1 ++ x.2).map ivn) x.1.length 1 x.2.length]) (fun a b e => by
    simp only [List.cons.injEq, and_true, MA.g.injEq, true_and] at e
    have h1 := ivnL_inj e.1
    have h2 := List.append_inj h1 e.2.1
    have : a = b := Prod.ext h2.1 h2.2
    rw [this]) ⟨h, hd⟩
theorem rtrimM_is : ∀ ms r cs', rtrimM ms = some (r, cs') → MutIs P0 90 ms r cs' := spM_is fun x h => rtrim_is x.1 x.2 h.1 h.2
/-- The reference's digits of a text. -/
theorem shl_byte64 {b r : Nat} (hb : b < 256) (hr : r < 3) : IntKind.i64.wrap ((b : Int) * (2 : Int) ^ min ((8 * r : Nat) : Int).toNat IntKind.i64.bits) = ((256 ^ r * b : Nat) : Int) := by
  have e : min ((8 * r : Nat) : Int).toNat IntKind.i64.bits = 8 * r := by
    rw [Int.toNat_natCast]; show min (8 * r) 64 = 8 * r; omega
  rw [e]
  have e2 : (2 : Int) ^ (8 * r) = ((256 ^ r : Nat) : Int) := by
    rw [Int.pow_mul]; simp
  rw [e2]
  have h1 : 256 ^ r * b < 2 ^ 24 := by
    have : 256 ^ r ≤ 256 ^ 2 := Nat.pow_le_pow_right (by omega) (by omega)
    calc 256 ^ r * b ≤ 256 ^ 2 * 255 := Nat.mul_le_mul this (by omega)
      _ < 2 ^ 24 := by decide
  exact w64n (by rw [Int.mul_comm]; simp) (by omega)
theorem dig_round (k i n : Nat) (s : ByteArray) (hi : i < s.size) (hs : s.size < 2 ^ 30) (hn : n = (s.size + 2) / 3) : roundM MD t0 k 72 0 ⟨[(0, .pv (sv s)), (3, .bs 10 0 1 n), (4, .pv (iv i))], [(10, (cellsAt 3 (bytesL s) i n).map ivn)], [], []⟩ = some (.normal, ⟨[(0, .pv (sv s)), (3, .bs 10 0 1 n), (4, .pv (iv (i + 1 : Nat)))], [(10, (cellsAt 3 (bytesL s) (i + 1) n).map ivn)], [], []⟩) := by
  obtain ⟨b, hb, hb2⟩ := bytesL_get hi
  have hb3 : b < 256 := bytesL_dig s b (List.mem_of_getElem? hb)
  have hd := bytesL_dig s
  have hin : i / 3 < n := by omega
  have hx : (cellsAt 3 (bytesL s) i n)[i / 3]? = some (cellAt 3 (bytesL s) i (i / 3)) := by simp [cellsAt, hin]
  have hlt := cellAt_lt (c := 3) hd i (i / 3)
  have hm : min 3 (i - 3 * (i / 3)) = i % 3 := by omega
  rw [hm] at hlt
  have hr : i % 3 < 3 := by omega
  have hp : 256 ^ (i % 3) * 256 ≤ 2 ^ 24 := by
    have : 256 ^ (i % 3) ≤ 256 ^ 2 := Nat.pow_le_pow_right (by omega) (by omega)
    omega
  have hsum : cellAt 3 (bytesL s) i (i / 3) + 256 ^ (i % 3) * b < 2 ^ 24 := by
    have h1 : 256 ^ (i % 3) * (b + 1) ≤ 256 ^ (i % 3) * 256 := Nat.mul_le_mul_left _ (by omega)
    rw [Nat.mul_add] at h1
    omega
  have hld := ld_i hx (o := 0 + i / 3 * 1) (by omega)
  have hstr : StrAt s ((s.size - 1 - i : Nat) : Int) (b : Int) := by
    show strAt s _ = _
    unfold strAt
    rw [if_pos (by omega), Int.toNat_natCast]
    cases h : s[s.size - 1 - i]? with
    | none => rw [h] at hb2; simp at hb2
    | some c => rw [h] at hb2; simp at hb2; simp [hb2]
  have h1 : IntKind.i64.wrap ((i : Int).tdiv 3) = ((i / 3 : Nat) : Int) := w64n (tdivn i 3) (by omega)
  have h2 : (i : Int).tmod 3 = ((i % 3 : Nat) : Int) := tmodn i 3
  have h3 : IntKind.i64.wrap ((s.size : Int) - 1) = (s.size : Int) - 1 := by rw [wrap64] <;> omega
  have hsum2 : IntKind.i64.wrap (((cellAt 3 (bytesL s) i (i / 3) : Nat) : Int) + ((256 ^ (i % 3) * b : Nat) : Int)) = ((cellAt 3 (bytesL s) i (i / 3) + 256 ^ (i % 3) * b : Nat) : Int) := w64n (by simp) (by omega)
  have h6 : 0 + i / 3 * 1 + (ivn (cellAt 3 (bytesL s) i (i / 3) + 256 ^ (i % 3) * b)).cells.length ≤ ((cellsAt 3 (bytesL s) i n).map ivn).length := by
    rw [List.length_map, cellsAt_len]
    show _ + 1 ≤ _
    omega
  have h5 : Spl ((cellsAt 3 (bytesL s) i n).map ivn) (0 + i / 3 * 1) [ivn (cellAt 3 (bytesL s) i (i / 3) + 256 ^ (i % 3) * b)] ((cellsAt 3 (bytesL s) (i + 1) n).map ivn) := spl_c (cellsAt_step (by omega) hb) (by rw [cellsAt_len]; exact hin) (by omega)
  exact roundX_ok (rdg1 k n i b (cellAt 3 (bytesL s) i (i / 3)) (cellAt 3 (bytesL s) i (i / 3) + 256 ^ (i % 3) * b) s _ ((cellsAt 3 (bytesL s) (i + 1) n).map ivn)) ⟨decide_eq_true (by omega), h3, w64n (by omega) (by omega), h1, rfl, ⟨rfl, hin⟩, hld, hstr, w64n rfl (by omega), h2, rfl, w64n (by omega) (by omega), shl_byte64 hb3 hr, decide_eq_false (by omega), hsum2, ⟨rfl, hin⟩, h6, h5, w64n (by omega) (by omega), trivial⟩
theorem okInt_lead {s : ByteArray} (h : s.size = 0 ∨ okInt false s = true) : Lead s := by
  by_cases h0 : s.size = 0
  · exact .inl (List.length_eq_zero_iff.1 (by rw [bytesL_len]; exact h0))
  · have h := h.resolve_left h0
    unfold okInt at h
    rw [if_neg h0] at h
    obtain ⟨n, hn⟩ : ∃ n, s.size = n + 1 := ⟨s.size - 1, by omega⟩
    obtain ⟨b, hb, hbl⟩ := bytesL_tail hn
    rw [hb] at h
    refine .inr ⟨_, b.toNat, hbl, ?_⟩
    simp at h; omega
/-- The digits of a number's text. -/
theorem digits_eq (v : Nat) : cellsAt 3 (dg 256 v) (dg 256 v).length (((dg 256 v).length + 2) / 3) = dg (16777216 : Nat) v := by
  obtain ⟨n, hn⟩ : ∃ n, n = ((dg 256 v).length + 2) / 3 := ⟨_, rfl⟩
  rw [← hn]
  have hend := cellsAt_end (c := 3) (by omega) n (dg 256 v) (by omega)
  rw [val_dg (by decide)] at hend
  have hdig := cellsAt_dig (c := 3) (dig_dg (b := 256) (by decide) v) (dg 256 v).length n
  rw [show (256 : Nat) ^ 3 = (16777216 : Nat) by decide] at hend hdig
  have h1 := fd_eq (by decide) hdig (cellsAt_len _ _ _ _) hend
  have hlt : v < (16777216 : Nat) ^ n := by have := val_lt hdig; rw [hend, cellsAt_len] at this; exact this
  rw [h1, fd_dg (by decide) hlt]
  have hle := dg_len (b := (16777216 : Nat)) (by decide) hlt
  have hge : n ≤ (dg (16777216 : Nat) v).length := by
    rcases Nat.eq_zero_or_pos v with rfl | hv
    · rw [dg_zero] at hn ⊢; simp at hn; omega
    · have h2 := dg_ge (b := 256) (by decide) hv
      have h3 : v < 256 ^ (3 * (dg (16777216 : Nat) v).length) := by
        have := dg_lt (b := (16777216 : Nat)) (n := v) (by decide)
        rwa [Nat.pow_mul, show (256 : Nat) ^ 3 = (16777216 : Nat) by decide]
      have : (dg 256 v).length - 1 < 3 * (dg (16777216 : Nat) v).length := by
        apply Classical.byContradiction
        intro hc
        have := Nat.pow_le_pow_right (n := 256) (by decide) (Nat.le_of_not_lt hc)
        omega
      omega
  have : n - (dg (16777216 : Nat) v).length = 0 := by omega
  rw [this]; simp
theorem rdigits0_is (s : ByteArray) (h : s.size = 0) : CallIs P0 72 [sv s] (one (ni (dg (16777216 : Nat) (sval s)))) := by
  have hv : sval s = 0 := by
    have e : bytesL s = [] := List.length_eq_zero_iff.1 (by rw [bytesL_len]; exact h)
    simp [sval, e, val]
  rw [hv]
  refine runX_is machOkD (tabF_ok fns_nil) (by rfl) (rdgz 1 s) ⟨?_, rfl, rfl, ⟨by decide, by decide, by decide, by decide⟩, rfl, by omega, decide_eq_false (by omega), trivial⟩
  rw [h]; rfl
theorem rdigits_is (v : Nat) (hs : (magS v).size < 2 ^ 30) (h0 : 0 < v) : CallIs P0 72 [sv (magS v)] ⟨ni (dg (16777216 : Nat) v), some 1⟩ := by
  have hsz : (magS v).size = (dg 256 v).length := bytes_size
  have hb := bytesL_magS v
  obtain ⟨n, hn⟩ : ∃ n, n = ((magS v).size + 2) / 3 := ⟨_, rfl⟩
  have hn0 : 0 < (magS v).size := by
    rw [hsz]
    have := dg_pos (b := 256) (by decide) h0
    rw [this]; simp
  have hend : cellsAt 3 (bytesL (magS v)) (magS v).size n = dg (16777216 : Nat) v := by rw [hb, hsz, hn, hsz]; exact digits_eq v
  have hlen : (dg (16777216 : Nat) v).length = n := by rw [← hend, cellsAt_len]
  have lp := loopN_chain (f := roundM MD t0 ((magS v).size + 1) 72 0) (S := fun i => ⟨[(0, .pv (sv (magS v))), (3, .bs 10 0 1 n), (4, .pv (iv i))], [(10, (cellsAt 3 (bytesL (magS v)) i n).map ivn)], [], []⟩) (n := (magS v).size) (fun i hi => dig_round _ i n _ hi hs hn) (roundX_ok (rdg2 _ n _ _ _) ⟨decide_eq_false (by omega), trivial⟩) (by simp) ((magS v).size + 1) (by omega)
  rw [cellsAt_zero, hend] at lp
  have h1 : IntKind.i64.wrap (((magS v).size : Int) + 2) = (((magS v).size + 2 : Nat) : Int) := w64n (by omega) (by omega)
  have h2 : IntKind.i64.wrap ((((magS v).size + 2 : Nat) : Int).tdiv 3) = (n : Int) := w64n (by rw [hn]; exact tdivn _ 3) (by omega)
  have := runX_is machOkD (tabF_ok fns_nil) (by rfl) (rdg0 ((magS v).size + 1) n (magS v) ((List.replicate n 0).map ivn) ((dg (16777216 : Nat) v).map ivn) ((dg (16777216 : Nat) v).map ivn)) ⟨h1, h2, rfl, ⟨by omega, by omega, by rw [bytes3]; show _ ≤ ((140737488355328 : Nat) : Int); omega, by show _ ≤ ((140737488355328 : Nat) : Int); omega⟩, decide_eq_false (by omega), zeros_c (c := ivn), lp, slEq_c _ 0 (n * 1) (by rw [List.drop_zero, List.take_of_length_le (by omega)]), trivial⟩
  unfold ni
  rw [hlen]
  exact this
theorem byT_at {l : List Nat} (h : l.length < 2 ^ 40) (hd : Dig (16777216 : Nat) l) : byT [ni l] = some (one (sv (magS (val (16777216 : Nat) l)))) :=
  spE_at (enc := fun l : List Nat => [ni l]) (fun a b e => by rw [ni_inj (List.cons.inj e).1]) ⟨h, hd⟩
theorem t18_ok : CallOk MD.P t18 := tabF_ok (fns_cons (spE_is fun l h => rbytes_is l h.1 h.2) fns_nil)
theorem rsigned_is (g : Bool) (l : List Nat) (h : l.length < 2 ^ 40) (hd : Dig (16777216 : Nat) l) : CallIs P0 73 [bv g, ni l] (one (.ag (zc (if g then -(val (16777216 : Nat) l : Int) else (val (16777216 : Nat) l : Int))))) := by
  have hb := byT_at h hd
  cases g with
  | false =>
    simp only [Bool.false_eq_true, if_false]
    have := runX_is machOkD t18_ok (by rfl) (sd0 1 _ _ _) ⟨hb, trivial⟩
    have e : zc (val (16777216 : Nat) l : Int) = [bv false, sv (magS (val (16777216 : Nat) l))] := by
      simp only [zc, Int.natAbs_natCast]
      rw [decide_eq_false (by omega)]
    rw [e]; exact this
  | true =>
    simp only [if_true]
    have := runX_is machOkD t18_ok (by rfl) (sd1 1 _ _ (!decide ((magS (val (16777216 : Nat) l)).size = 0)) _) ⟨hb, by rw [size_toList], trivial⟩
    have e : zc (-(val (16777216 : Nat) l : Int)) = [bv (!decide ((magS (val (16777216 : Nat) l)).size = 0)), sv (magS (val (16777216 : Nat) l))] := by
      simp only [zc, Int.natAbs_neg, Int.natAbs_natCast, List.cons.injEq, and_true]
      congr 1
      by_cases h0 : (magS (val (16777216 : Nat) l)).size = 0
      · have := magS_size0 h0; rw [this]; rfl
      · have : val (16777216 : Nat) l ≠ 0 := fun e => h0 (by rw [e]; rfl)
        rw [decide_eq_true (by omega), decide_eq_false h0]; rfl
    rw [e]; exact this
theorem sgnedT_at {g : Bool} {l : List Nat} (h : l.length < 2 ^ 40) (hd : Dig (16777216 : Nat) l) : sgnedT [bv g, ni l] = some (one (.ag (zc (if g then -(val (16777216 : Nat) l : Int) else (val (16777216 : Nat) l : Int))))) :=
  spE_at (a := (g, l)) (enc := fun x : Bool × List Nat => [bv x.1, ni x.2]) (fun a b e => by
    simp only [List.cons.injEq, and_true] at e
    have : a = b := Prod.ext (bv_inj e.1) (ni_inj e.2)
    rw [this]) ⟨h, hd⟩
theorem t19_ok : CallOk MD.P t19 := tabF_ok (fns_cons (spE_is fun x h => rsigned_is x.1 x.2 h.1 h.2) fns_nil)
/-- The reference's integer of a machine integer. -/
theorem rof_is (n : Int) (h1 : -(2 ^ 63) ≤ n) (h2 : n < 2 ^ 63) : CallIs P0 61 [iv n] (one (.ag (zc n))) := by
  obtain ⟨m, hm⟩ : ∃ m : Nat, m = n.natAbs := ⟨_, rfl⟩
  have hd : Dig (16777216 : Nat) [m % (16777216 : Nat), m / (16777216 : Nat) % (16777216 : Nat), m / (16777216 : Nat) / (16777216 : Nat)] := by
    intro x hx
    simp at hx
    omega
  have hv : val (16777216 : Nat) [m % (16777216 : Nat), m / (16777216 : Nat) % (16777216 : Nat), m / (16777216 : Nat) / (16777216 : Nat)] = m := by simp [val]; omega
  have hT := fun g => sgnedT_at (g := g) (l := [m % (16777216 : Nat), m / (16777216 : Nat) % (16777216 : Nat), m / (16777216 : Nat) / (16777216 : Nat)]) (by simp) hd
  rw [hv] at hT
  have e0 : IntKind.i64.wrap ((m : Int).tmod 16777216) = ((m % (16777216 : Nat) : Nat) : Int) := w64n (tmodn m (16777216 : Nat)) (by omega)
  have e1 : IntKind.u64.wrap ((m : Int).tdiv 16777216) = ((m / (16777216 : Nat) : Nat) : Int) := w64u (tdivn m (16777216 : Nat)) (by omega)
  have e2 : IntKind.i64.wrap (((m / (16777216 : Nat) : Nat) : Int).tmod 16777216) = ((m / (16777216 : Nat) % (16777216 : Nat) : Nat) : Int) := w64n (tmodn (m / (16777216 : Nat)) (16777216 : Nat)) (by omega)
  have e3 : IntKind.u64.wrap (((m / (16777216 : Nat) : Nat) : Int).tdiv 16777216) = ((m / (16777216 : Nat) / (16777216 : Nat) : Nat) : Int) := w64u (tdivn (m / (16777216 : Nat)) (16777216 : Nat)) (by omega)
  have e4 : IntKind.i64.wrap (((m / (16777216 : Nat) / (16777216 : Nat) : Nat) : Int)) = ((m / (16777216 : Nat) / (16777216 : Nat) : Nat) : Int) := w64n rfl (by omega)
  by_cases hn : n < 0
  · have := hT true
    simp only [if_true] at this
    rw [show -(m : Int) = n by omega] at this
    exact runX_is machOkD t19_ok (by rfl) (ro0 1 n (n + 18446744073709551616) (m : Int) _ _ _ _ _) ⟨by rw [wrap_u64]; omega, decide_eq_true hn, by rw [wrap_u64]; omega, decide_eq_true hn, rfl, e0, rfl, rfl, by rw [e1]; exact e2, rfl, rfl, by rw [e1, e3]; exact e4, this, trivial⟩
  · have := hT false
    simp only [Bool.false_eq_true, if_false] at this
    rw [show (m : Int) = n by omega] at this
    exact runX_is machOkD t19_ok (by rfl) (ro1 1 n (m : Int) _ _ _ _ _) ⟨by rw [wrap_u64]; omega, decide_eq_false hn, decide_eq_false hn, rfl, e0, rfl, rfl, by rw [e1]; exact e2, rfl, rfl, by rw [e1, e3]; exact e4, this, trivial⟩
end Go.Proofs.YtibbgjafjhcemaaDoor.Cul
/-! DC -/
set_option linter.unusedVariables false
namespace Go.Proofs.YtibbgjafjhcemaaDoor.Cul
/-! ### Digits written one after the other; carries -/
def fdz (b n i v : Nat) : List Nat := fd b i v ++ List.replicate (n - i) 0
theorem fdz_len {b n i v : Nat} (h : i ≤ n) : (fdz b n i v).length = n := by simp [fdz, fd_len]; omega
theorem fdz_zero (b n v : Nat) : fdz b n 0 v = List.replicate n 0 := by simp [fdz, fd]
theorem fdz_end (b n v : Nat) : fdz b n n v = fd b n v := by simp [fdz]
theorem fd_snoc (b : Nat) : ∀ (i v : Nat), fd b (i + 1) v = fd b i v ++ [v / b ^ i % b]
  | 0, v => by simp [fd]
  | i + 1, v => by
    have h : fd b (i + 1 + 1) v = v % b :: fd b (i + 1) (v / b) := rfl
    have h2 : fd b (i + 1) v = v % b :: fd b i (v / b) := rfl
    rw [h, h2, fd_snoc b i (v / b), Nat.div_div_eq_div_mul, Nat.pow_succ, Nat.mul_comm b]; rfl
theorem fdz_step {b n i v : Nat} (h : i < n) : (fdz b n i v).set i (v / b ^ i % b) = fdz b n (i + 1) v := by
  unfold fdz
  rw [fd_snoc]
  obtain ⟨m, hm⟩ : ∃ m, n - i = m + 1 := ⟨n - i - 1, by omega⟩
  have hm2 : n - (i + 1) = m := by omega
  rw [hm, hm2, List.replicate_succ]
  rw [List.set_append_right _ _ (by rw [fd_len]; omega), fd_len, Nat.sub_self, List.set_cons_zero, List.append_assoc]; rfl
theorem dg_fd {b : Nat} (hb : 2 ≤ b) (v : Nat) : dg b v = fd b (dg b v).length v := fd_eq (by omega) (dig_dg hb v) rfl (val_dg hb v)
theorem dg_get {b v i : Nat} (hb : 2 ≤ b) (h : i < (dg b v).length) : (dg b v)[i]? = some (v / b ^ i % b) := by
  rw [dg_fd hb v]; exact fd_get h
theorem dg_hi {b v i : Nat} (hb : 2 ≤ b) (h : (dg b v).length ≤ i) : v / b ^ i = 0 := by
  rw [Nat.div_eq_zero_iff]
  right
  exact Nat.lt_of_lt_of_le (dg_lt hb) (Nat.pow_le_pow_right (by omega) h)
theorem div_succ (v b i : Nat) : v / b ^ (i + 1) = v / b ^ i / b := by rw [Nat.pow_succ, Nat.div_div_eq_div_mul]
theorem addc (a b : Nat) : ∀ i, a / (16777216 : Nat) ^ i + b / (16777216 : Nat) ^ i ≤ (a + b) / (16777216 : Nat) ^ i ∧ (a + b) / (16777216 : Nat) ^ i ≤ a / (16777216 : Nat) ^ i + b / (16777216 : Nat) ^ i + 1
  | 0 => by simp
  | i + 1 => by
    have := addc a b i
    rw [div_succ, div_succ, div_succ]
    omega
theorem twoc (a e : Nat) (he : e ≤ 1) : ∀ i, 2 * (a / (16777216 : Nat) ^ i) ≤ (2 * a + e) / (16777216 : Nat) ^ i ∧ (2 * a + e) / (16777216 : Nat) ^ i ≤ 2 * (a / (16777216 : Nat) ^ i) + 1
  | 0 => by simp; omega
  | i + 1 => by
    have := twoc a e he i
    rw [div_succ, div_succ]
    omega
theorem dg_len_le {b x y : Nat} (hb : 2 ≤ b) (h : x ≤ y) : (dg b x).length ≤ (dg b y).length :=
  dg_len hb (Nat.lt_of_le_of_lt h (dg_lt hb))
theorem fd_takeD {b n v : Nat} (hb : 2 ≤ b) (h : v < b ^ n) : (fd b n v).take (dg b v).length = dg b v := by
  rw [fd_dg hb h]; exact List.take_left' rfl
theorem dgl_lt {b x y : Nat} (hb : 2 ≤ b) (h : (dg b x).length < (dg b y).length) : x < y := by
  have h1 := dg_lt (b := b) (n := x) hb
  rcases Nat.eq_zero_or_pos y with rfl | hy
  · simp [dg_zero] at h
  · have h2 := dg_ge (b := b) hb hy
    have : b ^ (dg b x).length ≤ b ^ ((dg b y).length - 1) := Nat.pow_le_pow_right (by omega) (by omega)
    omega
end Go.Proofs.YtibbgjafjhcemaaDoor.Cul
/-! B19 -/
set_option linter.unusedVariables false
set_option linter.unusedSimpArgs false
set_option maxRecDepth 100000
set_option maxHeartbeats 2000000
namespace Go.Proofs.YtibbgjafjhcemaaDoor.Cul
open Go Go.RowKit
noncomputable def t20 : Cl := tabC [] [(90, rtrimM)] []
noncomputable def t21 : Cl := tabF [(58, validT)]
theorem i6a (k : Nat) (u m1 m2 m3 m4 : Int) (s : ByteArray) : runX MD t21 k 88 [iz true s] [.r (one (bv true)), .c false, .l (.exit 0) ⟨[(1, .bp 1 0), (4, .pv (.lit (.int .u64 u))), (5, .pv (iv s.size)), (19, .pv (bv false))], [(1, [bv true, sv s])], [], []⟩, .c true, .i 38 m1, .i 39 m2, .i 40 m3, .i 41 m4] =
  some (RV.mk (PV.tup [PV.lit (Value.int IntKind.i64 m4), PV.lit (Value.bool true)]) none, [CallsTo t21 58 [PV.ag [PV.lit (Value.bool true), PV.lit (Value.string s)]] (RV.mk (PV.lit (Value.bool true)) none), decide ((↑s.size : Int) > (8 : Int)) = false, LoopIs MD t21 k (88 : Nat) (0 : Nat) (St.mk [(1, AV.bp 1 0), (4, AV.pv (PV.lit (Value.int IntKind.u64 (0 : Int)))), (5, AV.pv (PV.lit (Value.int IntKind.i64 (0 : Int))))] [(1, [PV.lit (Value.bool true), PV.lit (Value.string s)])] [] []) (Xt.exit 0) (St.mk [(1, AV.bp 1 0), (4, AV.pv (PV.lit (Value.int IntKind.u64 u))), (5, AV.pv (PV.lit (Value.int IntKind.i64 (↑s.size : Int)))), (19, AV.pv (PV.lit (Value.bool false)))] [(1, [PV.lit (Value.bool true), PV.lit (Value.string s)])] [] []), decide (u ≤ (9223372036854775808 : Int)) = true, IntKind.u64.wrap (u - (1 : Int)) = m1, IntKind.i64.wrap m1 = m2, IntKind.i64.wrap ((0 : Int) - m2) = m3, IntKind.i64.wrap (m3 - (1 : Int)) = m4]) := by kernel_rfl
theorem i6b (k : Nat) (u m1 : Int) (s : ByteArray) : runX MD t21 k 88 [iz false s] [.r (one (bv true)), .c false, .l (.exit 0) ⟨[(1, .bp 1 0), (4, .pv (.lit (.int .u64 u))), (5, .pv (iv s.size)), (19, .pv (bv false))], [(1, [bv false, sv s])], [], []⟩, .c true, .i 51 m1] =
  some (RV.mk (PV.tup [PV.lit (Value.int IntKind.i64 m1), PV.lit (Value.bool true)]) none, [CallsTo t21 58 [PV.ag [PV.lit (Value.bool false), PV.lit (Value.string s)]] (RV.mk (PV.lit (Value.bool true)) none), decide ((↑s.size : Int) > (8 : Int)) = false, LoopIs MD t21 k (88 : Nat) (0 : Nat) (St.mk [(1, AV.bp 1 0), (4, AV.pv (PV.lit (Value.int IntKind.u64 (0 : Int)))), (5, AV.pv (PV.lit (Value.int IntKind.i64 (0 : Int))))] [(1, [PV.lit (Value.bool false), PV.lit (Value.string s)])] [] []) (Xt.exit 0) (St.mk [(1, AV.bp 1 0), (4, AV.pv (PV.lit (Value.int IntKind.u64 u))), (5, AV.pv (PV.lit (Value.int IntKind.i64 (↑s.size : Int)))), (19, AV.pv (PV.lit (Value.bool false)))] [(1, [PV.lit (Value.bool false), PV.lit (Value.string s)])] [] []), decide (u < (9223372036854775808 : Int)) = true, IntKind.i64.wrap u = m1]) := by kernel_rfl
theorem i6c (k i b : Nat) (u u1 u2 : Int) (g : Bool) (s : ByteArray) : roundX MD t21 k 88 0 ⟨[(1, .bp 1 0), (4, .pv (.lit (.int .u64 u))), (5, .pv (iv i))], [(1, [bv g, sv s])], [], []⟩ [.c true, .i 23 u1, .i 27 b, .i 28 b, .i 29 u2, .i 21 (i + 1 : Nat)] =
  some ((Xt.normal, St.mk [(1, AV.bp 1 0), (4, AV.pv (PV.lit (Value.int IntKind.u64 u2))), (5, AV.pv (PV.lit (Value.int IntKind.i64 (↑(i + (1 : Nat)) : Int))))] [(1, [PV.lit (Value.bool g), PV.lit (Value.string s)])] [] []), [], [decide ((↑i : Int) < (↑s.size : Int)) = true, IntKind.u64.wrap (u * (2 : Int) ^ min (Int.toNat (8 : Int)) IntKind.u64.bits) = u1, false = false, StrAt s (↑i : Int) (↑b : Int), IntKind.u64.wrap (↑b : Int) = (↑b : Int), IntKind.u64.wrap (u1 + (↑b : Int)) = u2, IntKind.i64.wrap ((↑i : Int) + (1 : Int)) = (↑(i + (1 : Nat)) : Int)]) := by kernel_rfl
theorem i6d (k i : Nat) (u : Int) (g : Bool) (s : ByteArray) : roundX MD t21 k 88 0 ⟨[(1, .bp 1 0), (4, .pv (.lit (.int .u64 u))), (5, .pv (iv i))], [(1, [bv g, sv s])], [], []⟩ [.c false] =
  some ((Xt.exit 0, St.mk [(1, AV.bp 1 0), (4, AV.pv (PV.lit (Value.int IntKind.u64 u))), (5, AV.pv (PV.lit (Value.int IntKind.i64 (↑i : Int)))), (19, AV.pv (PV.lit (Value.bool false)))] [(1, [PV.lit (Value.bool g), PV.lit (Value.string s)])] [] []), [], [decide ((↑i : Int) < (↑s.size : Int)) = false]) := by kernel_rfl
noncomputable def int64T : List PV → Option RV := spE (fun z : Int => (magS z.natAbs).size ≤ 7) (fun z => [.ag (zc z)]) (fun z => one (.tup [iv z, bv true]))
noncomputable def t22 : Cl := tabF [(88, int64T)]
theorem rsm0 (k : Nat) (g : Bool) (s : ByteArray) (z : Int) : runX MD t22 k 71 [iz g s] [.c false, .r (one (.tup [iv z, bv true]))] =
  some (RV.mk (PV.tup [PV.lit (Value.int IntKind.i64 z), PV.lit (Value.bool true)]) none, [decide ((↑s.size : Int) > (7 : Int)) = false, CallsTo t22 88 [PV.ag [PV.lit (Value.bool g), PV.lit (Value.string s)]] (RV.mk (PV.tup [PV.lit (Value.int IntKind.i64 z), PV.lit (Value.bool true)]) none)]) := by kernel_rfl
theorem pl0 (k n m r : Nat) (c : Int) (cs ds cs0 es fs gs : List PV) : runX MD t20 k 74 [.sl 1 n cs, .sl 1 m ds] [.c false, .i 17 (n + 1 : Nat), .c false, .f cs0, .l (.exit 0) ⟨[(0, .pv (.sl 1 n cs)), (1, .pv (.sl 1 m ds)), (5, .bs 18 0 1 (n + 1)), (6, .pv (iv c)), (7, .pv (iv n)), (22, .pv (bv false))], [(18, es)], [], []⟩, .j 52 n, .s fs, .m (.gs 0 r) fs, .f gs] =
  some (RV.mk (PV.sl 1 r gs) (some 1), [decide ((↑n : Int) < (↑m : Int)) = false, IntKind.i64.wrap ((↑n : Int) + (1 : Int)) = (↑(n + (1 : Nat)) : Int), (0 : Int) ≤ (↑(n + (1 : Nat)) : Int) ∧ (↑(n + (1 : Nat)) : Int) ≤ (↑(n + (1 : Nat)) : Int) ∧ (↑(n + (1 : Nat)) : Int) * (↑(MD.P.bytesOf (3 : Nat)) : Int) ≤ (↑room : Int) ∧ (↑(n + (1 : Nat)) : Int) ≤ (↑room : Int), decide ((↑(n + (1 : Nat)) : Int) = (0 : Int)) = false, Zeros [PV.lit (Value.int IntKind.i64 (0 : Int))] (↑(n + (1 : Nat)) : Int).toNat cs0, LoopIs MD t20 k (74 : Nat) (0 : Nat) (St.mk [(0, AV.pv (PV.sl 1 n cs)), (1, AV.pv (PV.sl 1 m ds)), (5, AV.bs 18 0 1 (↑(n + (1 : Nat)) : Int).toNat), (6, AV.pv (PV.lit (Value.int IntKind.i64 (0 : Int)))), (7, AV.pv (PV.lit (Value.int IntKind.i64 (0 : Int))))] [(18, cs0)] [] []) (Xt.exit 0) (St.mk [(0, AV.pv (PV.sl 1 n cs)), (1, AV.pv (PV.sl 1 m ds)), (5, AV.bs 18 0 1 (n + (1 : Nat))), (6, AV.pv (PV.lit (Value.int IntKind.i64 c))), (7, AV.pv (PV.lit (Value.int IntKind.i64 (↑n : Int)))), (22, AV.pv (PV.lit (Value.bool false)))] [(18, es)] [] []), AtIdx (↑n : Int) (n + (1 : Nat)) n, (0 : Nat) + n * (1 : Nat) + (iv c).cells.length ≤ es.length, Spl es ((0 : Nat) + n * (1 : Nat)) [PV.lit (Value.int IntKind.i64 c)] fs, MutsTo t20 90 [MA.g fs 0 1 (n + (1 : Nat))] (MR.gs 0 r) fs, SlEq fs 0 (r * ((18 : Nat), (1 : Nat)).snd) gs]) := by kernel_rfl
theorem pl1 (k n m r : Nat) (c : Int) (cs ds cs0 es fs gs : List PV) : runX MD t20 k 74 [.sl 1 m ds, .sl 1 n cs] [.c true, .i 17 (n + 1 : Nat), .c false, .f cs0, .l (.exit 0) ⟨[(0, .pv (.sl 1 n cs)), (1, .pv (.sl 1 m ds)), (5, .bs 18 0 1 (n + 1)), (6, .pv (iv c)), (7, .pv (iv n)), (22, .pv (bv false))], [(18, es)], [], []⟩, .j 52 n, .s fs, .m (.gs 0 r) fs, .f gs] =
  some (RV.mk (PV.sl 1 r gs) (some 1), [decide ((↑m : Int) < (↑n : Int)) = true, IntKind.i64.wrap ((↑n : Int) + (1 : Int)) = (↑(n + (1 : Nat)) : Int), (0 : Int) ≤ (↑(n + (1 : Nat)) : Int) ∧ (↑(n + (1 : Nat)) : Int) ≤ (↑(n + (1 : Nat)) : Int) ∧ (↑(n + (1 : Nat)) : Int) * (↑(MD.P.bytesOf (3 : Nat)) : Int) ≤ (↑room : Int) ∧ (↑(n + (1 : Nat)) : Int) ≤ (↑room : Int), decide ((↑(n + (1 : Nat)) : Int) = (0 : Int)) = false, Zeros [PV.lit (Value.int IntKind.i64 (0 : Int))] (↑(n + (1 : Nat)) : Int).toNat cs0, LoopIs MD t20 k (74 : Nat) (0 : Nat) (St.mk [(0, AV.pv (PV.sl 1 n cs)), (1, AV.pv (PV.sl 1 m ds)), (5, AV.bs 18 0 1 (↑(n + (1 : Nat)) : Int).toNat), (6, AV.pv (PV.lit (Value.int IntKind.i64 (0 : Int)))), (7, AV.pv (PV.lit (Value.int IntKind.i64 (0 : Int))))] [(18, cs0)] [] []) (Xt.exit 0) (St.mk [(0, AV.pv (PV.sl 1 n cs)), (1, AV.pv (PV.sl 1 m ds)), (5, AV.bs 18 0 1 (n + (1 : Nat))), (6, AV.pv (PV.lit (Value.int IntKind.i64 c))), (7, AV.pv (PV.lit (Value.int IntKind.i64 (↑n : Int)))), (22, AV.pv (PV.lit (Value.bool false)))] [(18, es)] [] []), AtIdx (↑n : Int) (n + (1 : Nat)) n, (0 : Nat) + n * (1 : Nat) + (iv c).cells.length ≤ es.length, Spl es ((0 : Nat) + n * (1 : Nat)) [PV.lit (Value.int IntKind.i64 c)] fs, MutsTo t20 90 [MA.g fs 0 1 (n + (1 : Nat))] (MR.gs 0 r) fs, SlEq fs 0 (r * ((18 : Nat), (1 : Nat)).snd) gs]) := by kernel_rfl
theorem plr0 (k n m i x y : Nat) (c c1 c2 c3 d : Int) (cs ds es es' : List PV) : roundX MD t20 k 74 0 ⟨[(0, .pv (.sl 1 n cs)), (1, .pv (.sl 1 m ds)), (5, .bs 18 0 1 (n + 1)), (6, .pv (iv c)), (7, .pv (iv i))], [(18, es)], [], []⟩ [.c true, .a 28 [iv x], .i 30 c1, .c true, .a 38 [iv y], .i 40 c2, .i 44 d, .j 45 i, .s es', .i 47 c3, .i 24 (i + 1 : Nat)] =
  some ((Xt.normal, St.mk [(0, AV.pv (PV.sl 1 n cs)), (1, AV.pv (PV.sl 1 m ds)), (5, AV.bs 18 0 1 (n + (1 : Nat))), (6, AV.pv (PV.lit (Value.int IntKind.i64 c3))), (7, AV.pv (PV.lit (Value.int IntKind.i64 (↑(i + (1 : Nat)) : Int))))] [(18, es')] [] []), [], [decide ((↑i : Int) < (↑n : Int)) = true, RowAt cs 1 (↑i : Int) n [PV.lit (Value.int IntKind.i64 (↑x : Int))], IntKind.i64.wrap (c + (↑x : Int)) = c1, decide ((↑i : Int) < (↑m : Int)) = true, RowAt ds 1 (↑i : Int) m [PV.lit (Value.int IntKind.i64 (↑y : Int))], IntKind.i64.wrap (c1 + (↑y : Int)) = c2, c2.tmod (16777216 : Int) = d, false = false, AtIdx (↑i : Int) (n + (1 : Nat)) i, (0 : Nat) + i * (1 : Nat) + (PV.lit (Value.int IntKind.i64 d)).cells.length ≤ es.length, Spl es ((0 : Nat) + i * (1 : Nat)) [PV.lit (Value.int IntKind.i64 d)] es', IntKind.i64.wrap (c2.tdiv (16777216 : Int)) = c3, false = false, IntKind.i64.wrap ((↑i : Int) + (1 : Int)) = (↑(i + (1 : Nat)) : Int)]) := by kernel_rfl
theorem plr1 (k n m i x : Nat) (c c1 c3 d : Int) (cs ds es es' : List PV) : roundX MD t20 k 74 0 ⟨[(0, .pv (.sl 1 n cs)), (1, .pv (.sl 1 m ds)), (5, .bs 18 0 1 (n + 1)), (6, .pv (iv c)), (7, .pv (iv i))], [(18, es)], [], []⟩ [.c true, .a 28 [iv x], .i 30 c1, .c false, .i 44 d, .j 45 i, .s es', .i 47 c3, .i 24 (i + 1 : Nat)] =
  some ((Xt.normal, St.mk [(0, AV.pv (PV.sl 1 n cs)), (1, AV.pv (PV.sl 1 m ds)), (5, AV.bs 18 0 1 (n + (1 : Nat))), (6, AV.pv (PV.lit (Value.int IntKind.i64 c3))), (7, AV.pv (PV.lit (Value.int IntKind.i64 (↑(i + (1 : Nat)) : Int))))] [(18, es')] [] []), [], [decide ((↑i : Int) < (↑n : Int)) = true, RowAt cs 1 (↑i : Int) n [PV.lit (Value.int IntKind.i64 (↑x : Int))], IntKind.i64.wrap (c + (↑x : Int)) = c1, decide ((↑i : Int) < (↑m : Int)) = false, c1.tmod (16777216 : Int) = d, false = false, AtIdx (↑i : Int) (n + (1 : Nat)) i, (0 : Nat) + i * (1 : Nat) + (PV.lit (Value.int IntKind.i64 d)).cells.length ≤ es.length, Spl es ((0 : Nat) + i * (1 : Nat)) [PV.lit (Value.int IntKind.i64 d)] es', IntKind.i64.wrap (c1.tdiv (16777216 : Int)) = c3, false = false, IntKind.i64.wrap ((↑i : Int) + (1 : Int)) = (↑(i + (1 : Nat)) : Int)]) := by kernel_rfl
theorem plr2 (k n m i : Nat) (c : Int) (cs ds es : List PV) : roundX MD t20 k 74 0 ⟨[(0, .pv (.sl 1 n cs)), (1, .pv (.sl 1 m ds)), (5, .bs 18 0 1 (n + 1)), (6, .pv (iv c)), (7, .pv (iv i))], [(18, es)], [], []⟩ [.c false] =
  some ((Xt.exit 0, St.mk [(0, AV.pv (PV.sl 1 n cs)), (1, AV.pv (PV.sl 1 m ds)), (5, AV.bs 18 0 1 (n + (1 : Nat))), (6, AV.pv (PV.lit (Value.int IntKind.i64 c))), (7, AV.pv (PV.lit (Value.int IntKind.i64 (↑i : Int)))), (22, AV.pv (PV.lit (Value.bool false)))] [(18, es)] [] []), [], [decide ((↑i : Int) < (↑n : Int)) = false]) := by kernel_rfl
theorem mi0 (k n m r : Nat) (c : Int) (cs ds cs0 es gs : List PV) : runX MD t20 k 77 [.sl 1 n cs, .sl 1 m ds] [.c false, .f cs0, .l (.exit 0) ⟨[(0, .pv (.sl 1 n cs)), (1, .pv (.sl 1 m ds)), (5, .bs 11 0 1 n), (6, .pv (iv c)), (7, .pv (iv n)), (15, .pv (bv false))], [(11, es)], [], []⟩, .m (.gs 0 r) es, .f gs] =
  some (RV.mk (PV.sl 1 r gs) (some 1), [(0 : Int) ≤ (↑n : Int) ∧ (↑n : Int) ≤ (↑n : Int) ∧ (↑n : Int) * (↑(MD.P.bytesOf (3 : Nat)) : Int) ≤ (↑room : Int) ∧ (↑n : Int) ≤ (↑room : Int), decide ((↑n : Int) = (0 : Int)) = false, Zeros [PV.lit (Value.int IntKind.i64 (0 : Int))] n cs0, LoopIs MD t20 k (77 : Nat) (0 : Nat) (St.mk [(0, AV.pv (PV.sl 1 n cs)), (1, AV.pv (PV.sl 1 m ds)), (5, AV.bs 11 0 1 n), (6, AV.pv (PV.lit (Value.int IntKind.i64 (0 : Int)))), (7, AV.pv (PV.lit (Value.int IntKind.i64 (0 : Int))))] [(11, cs0)] [] []) (Xt.exit 0) (St.mk [(0, AV.pv (PV.sl 1 n cs)), (1, AV.pv (PV.sl 1 m ds)), (5, AV.bs 11 0 1 n), (6, AV.pv (PV.lit (Value.int IntKind.i64 c))), (7, AV.pv (PV.lit (Value.int IntKind.i64 (↑n : Int)))), (15, AV.pv (PV.lit (Value.bool false)))] [(11, es)] [] []), MutsTo t20 90 [MA.g es 0 1 n] (MR.gs 0 r) es, SlEq es 0 (r * ((11 : Nat), (1 : Nat)).snd) gs]) := by kernel_rfl
theorem mir0 (k n m i x y : Nat) (c c1 c2 : Int) (cs ds es es' : List PV) : roundX MD t20 k 77 0 ⟨[(0, .pv (.sl 1 n cs)), (1, .pv (.sl 1 m ds)), (5, .bs 11 0 1 n), (6, .pv (iv c)), (7, .pv (iv i))], [(11, es)], [], []⟩ [.c true, .a 20 [iv x], .i 23 c1, .c true, .a 31 [iv y], .i 33 c2, .c false, .j 41 i, .s es', .i 17 (i + 1 : Nat)] =
  some ((Xt.normal, St.mk [(0, AV.pv (PV.sl 1 n cs)), (1, AV.pv (PV.sl 1 m ds)), (5, AV.bs 11 0 1 n), (6, AV.pv (PV.lit (Value.int IntKind.i64 (0 : Int)))), (7, AV.pv (PV.lit (Value.int IntKind.i64 (↑(i + (1 : Nat)) : Int))))] [(11, es')] [] []), [], [decide ((↑i : Int) < (↑n : Int)) = true, RowAt cs 1 (↑i : Int) n [PV.lit (Value.int IntKind.i64 (↑x : Int))], IntKind.i64.wrap ((↑x : Int) - c) = c1, decide ((↑i : Int) < (↑m : Int)) = true, RowAt ds 1 (↑i : Int) m [PV.lit (Value.int IntKind.i64 (↑y : Int))], IntKind.i64.wrap (c1 - (↑y : Int)) = c2, decide (c2 < (0 : Int)) = false, AtIdx (↑i : Int) n i, (0 : Nat) + i * (1 : Nat) + (PV.lit (Value.int IntKind.i64 c2)).cells.length ≤ es.length, Spl es ((0 : Nat) + i * (1 : Nat)) [PV.lit (Value.int IntKind.i64 c2)] es', IntKind.i64.wrap ((↑i : Int) + (1 : Int)) = (↑(i + (1 : Nat)) : Int)]) := by kernel_rfl
theorem mir1 (k n m i x y : Nat) (c c1 c2 c3 : Int) (cs ds es es' : List PV) : roundX MD t20 k 77 0 ⟨[(0, .pv (.sl 1 n cs)), (1, .pv (.sl 1 m ds)), (5, .bs 11 0 1 n), (6, .pv (iv c)), (7, .pv (iv i))], [(11, es)], [], []⟩ [.c true, .a 20 [iv x], .i 23 c1, .c true, .a 31 [iv y], .i 33 c2, .c true, .i 37 c3, .j 41 i, .s es', .i 17 (i + 1 : Nat)] =
  some ((Xt.normal, St.mk [(0, AV.pv (PV.sl 1 n cs)), (1, AV.pv (PV.sl 1 m ds)), (5, AV.bs 11 0 1 n), (6, AV.pv (PV.lit (Value.int IntKind.i64 (1 : Int)))), (7, AV.pv (PV.lit (Value.int IntKind.i64 (↑(i + (1 : Nat)) : Int))))] [(11, es')] [] []), [], [decide ((↑i : Int) < (↑n : Int)) = true, RowAt cs 1 (↑i : Int) n [PV.lit (Value.int IntKind.i64 (↑x : Int))], IntKind.i64.wrap ((↑x : Int) - c) = c1, decide ((↑i : Int) < (↑m : Int)) = true, RowAt ds 1 (↑i : Int) m [PV.lit (Value.int IntKind.i64 (↑y : Int))], IntKind.i64.wrap (c1 - (↑y : Int)) = c2, decide (c2 < (0 : Int)) = true, IntKind.i64.wrap (c2 + (16777216 : Int)) = c3, AtIdx (↑i : Int) n i, (0 : Nat) + i * (1 : Nat) + (PV.lit (Value.int IntKind.i64 c3)).cells.length ≤ es.length, Spl es ((0 : Nat) + i * (1 : Nat)) [PV.lit (Value.int IntKind.i64 c3)] es', IntKind.i64.wrap ((↑i : Int) + (1 : Int)) = (↑(i + (1 : Nat)) : Int)]) := by kernel_rfl
theorem mir2 (k n m i x : Nat) (c c1 : Int) (cs ds es es' : List PV) : roundX MD t20 k 77 0 ⟨[(0, .pv (.sl 1 n cs)), (1, .pv (.sl 1 m ds)), (5, .bs 11 0 1 n), (6, .pv (iv c)), (7, .pv (iv i))], [(11, es)], [], []⟩ [.c true, .a 20 [iv x], .i 23 c1, .c false, .c false, .j 41 i, .s es', .i 17 (i + 1 : Nat)] =
  some ((Xt.normal, St.mk [(0, AV.pv (PV.sl 1 n cs)), (1, AV.pv (PV.sl 1 m ds)), (5, AV.bs 11 0 1 n), (6, AV.pv (PV.lit (Value.int IntKind.i64 (0 : Int)))), (7, AV.pv (PV.lit (Value.int IntKind.i64 (↑(i + (1 : Nat)) : Int))))] [(11, es')] [] []), [], [decide ((↑i : Int) < (↑n : Int)) = true, RowAt cs 1 (↑i : Int) n [PV.lit (Value.int IntKind.i64 (↑x : Int))], IntKind.i64.wrap ((↑x : Int) - c) = c1, decide ((↑i : Int) < (↑m : Int)) = false, decide (c1 < (0 : Int)) = false, AtIdx (↑i : Int) n i, (0 : Nat) + i * (1 : Nat) + (PV.lit (Value.int IntKind.i64 c1)).cells.length ≤ es.length, Spl es ((0 : Nat) + i * (1 : Nat)) [PV.lit (Value.int IntKind.i64 c1)] es', IntKind.i64.wrap ((↑i : Int) + (1 : Int)) = (↑(i + (1 : Nat)) : Int)]) := by kernel_rfl
theorem mir3 (k n m i x : Nat) (c c1 c3 : Int) (cs ds es es' : List PV) : roundX MD t20 k 77 0 ⟨[(0, .pv (.sl 1 n cs)), (1, .pv (.sl 1 m ds)), (5, .bs 11 0 1 n), (6, .pv (iv c)), (7, .pv (iv i))], [(11, es)], [], []⟩ [.c true, .a 20 [iv x], .i 23 c1, .c false, .c true, .i 37 c3, .j 41 i, .s es', .i 17 (i + 1 : Nat)] =
  some ((Xt.normal, St.mk [(0, AV.pv (PV.sl 1 n cs)), (1, AV.pv (PV.sl 1 m ds)), (5, AV.bs 11 0 1 n), (6, AV.pv (PV.lit (Value.int IntKind.i64 (1 : Int)))), (7, AV.pv (PV.lit (Value.int IntKind.i64 (↑(i + (1 : Nat)) : Int))))] [(11, es')] [] []), [], [decide ((↑i : Int) < (↑n : Int)) = true, RowAt cs 1 (↑i : Int) n [PV.lit (Value.int IntKind.i64 (↑x : Int))], IntKind.i64.wrap ((↑x : Int) - c) = c1, decide ((↑i : Int) < (↑m : Int)) = false, decide (c1 < (0 : Int)) = true, IntKind.i64.wrap (c1 + (16777216 : Int)) = c3, AtIdx (↑i : Int) n i, (0 : Nat) + i * (1 : Nat) + (PV.lit (Value.int IntKind.i64 c3)).cells.length ≤ es.length, Spl es ((0 : Nat) + i * (1 : Nat)) [PV.lit (Value.int IntKind.i64 c3)] es', IntKind.i64.wrap ((↑i : Int) + (1 : Int)) = (↑(i + (1 : Nat)) : Int)]) := by kernel_rfl
theorem mir4 (k n m i : Nat) (c : Int) (cs ds es : List PV) : roundX MD t20 k 77 0 ⟨[(0, .pv (.sl 1 n cs)), (1, .pv (.sl 1 m ds)), (5, .bs 11 0 1 n), (6, .pv (iv c)), (7, .pv (iv i))], [(11, es)], [], []⟩ [.c false] =
  some ((Xt.exit 0, St.mk [(0, AV.pv (PV.sl 1 n cs)), (1, AV.pv (PV.sl 1 m ds)), (5, AV.bs 11 0 1 n), (6, AV.pv (PV.lit (Value.int IntKind.i64 c))), (7, AV.pv (PV.lit (Value.int IntKind.i64 (↑i : Int)))), (15, AV.pv (PV.lit (Value.bool false)))] [(11, es)] [] []), [], [decide ((↑i : Int) < (↑n : Int)) = false]) := by kernel_rfl
theorem tw0 (k n r : Nat) (c b : Int) (cs cs0 es fs gs : List PV) : runX MD t20 k 78 [.sl 1 n cs, iv b] [.i 10 (n + 1 : Nat), .c false, .f cs0, .l (.exit 0) ⟨[(0, .pv (.sl 1 n cs)), (5, .bs 11 0 1 (n + 1)), (6, .pv (iv c)), (7, .pv (iv n)), (16, .pv (bv false))], [(11, es)], [], []⟩, .j 37 n, .s fs, .m (.gs 0 r) fs, .f gs] =
  some (RV.mk (PV.sl 1 r gs) (some 1), [IntKind.i64.wrap ((↑n : Int) + (1 : Int)) = (↑(n + (1 : Nat)) : Int), (0 : Int) ≤ (↑(n + (1 : Nat)) : Int) ∧ (↑(n + (1 : Nat)) : Int) ≤ (↑(n + (1 : Nat)) : Int) ∧ (↑(n + (1 : Nat)) : Int) * (↑(MD.P.bytesOf (3 : Nat)) : Int) ≤ (↑room : Int) ∧ (↑(n + (1 : Nat)) : Int) ≤ (↑room : Int), decide ((↑(n + (1 : Nat)) : Int) = (0 : Int)) = false, Zeros [PV.lit (Value.int IntKind.i64 (0 : Int))] (↑(n + (1 : Nat)) : Int).toNat cs0, LoopIs MD t20 k (78 : Nat) (0 : Nat) (St.mk [(0, AV.pv (PV.sl 1 n cs)), (5, AV.bs 11 0 1 (↑(n + (1 : Nat)) : Int).toNat), (6, AV.pv (PV.lit (Value.int IntKind.i64 b))), (7, AV.pv (PV.lit (Value.int IntKind.i64 (0 : Int))))] [(11, cs0)] [] []) (Xt.exit 0) (St.mk [(0, AV.pv (PV.sl 1 n cs)), (5, AV.bs 11 0 1 (n + (1 : Nat))), (6, AV.pv (PV.lit (Value.int IntKind.i64 c))), (7, AV.pv (PV.lit (Value.int IntKind.i64 (↑n : Int)))), (16, AV.pv (PV.lit (Value.bool false)))] [(11, es)] [] []), AtIdx (↑n : Int) (n + (1 : Nat)) n, (0 : Nat) + n * (1 : Nat) + (iv c).cells.length ≤ es.length, Spl es ((0 : Nat) + n * (1 : Nat)) [PV.lit (Value.int IntKind.i64 c)] fs, MutsTo t20 90 [MA.g fs 0 1 (n + (1 : Nat))] (MR.gs 0 r) fs, SlEq fs 0 (r * ((11 : Nat), (1 : Nat)).snd) gs]) := by kernel_rfl
theorem twr0 (k n i x : Nat) (c c1 c2 c3 d : Int) (cs es es' : List PV) : roundX MD t20 k 78 0 ⟨[(0, .pv (.sl 1 n cs)), (5, .bs 11 0 1 (n + 1)), (6, .pv (iv c)), (7, .pv (iv i))], [(11, es)], [], []⟩ [.c true, .a 22 [iv x], .i 24 c1, .i 25 c2, .i 29 d, .j 30 i, .s es', .i 32 c3, .i 18 (i + 1 : Nat)] =
  some ((Xt.normal, St.mk [(0, AV.pv (PV.sl 1 n cs)), (5, AV.bs 11 0 1 (n + (1 : Nat))), (6, AV.pv (PV.lit (Value.int IntKind.i64 c3))), (7, AV.pv (PV.lit (Value.int IntKind.i64 (↑(i + (1 : Nat)) : Int))))] [(11, es')] [] []), [], [decide ((↑i : Int) < (↑n : Int)) = true, RowAt cs 1 (↑i : Int) n [PV.lit (Value.int IntKind.i64 (↑x : Int))], IntKind.i64.wrap ((2 : Int) * (↑x : Int)) = c1, IntKind.i64.wrap (c + c1) = c2, c2.tmod (16777216 : Int) = d, false = false, AtIdx (↑i : Int) (n + (1 : Nat)) i, (0 : Nat) + i * (1 : Nat) + (PV.lit (Value.int IntKind.i64 d)).cells.length ≤ es.length, Spl es ((0 : Nat) + i * (1 : Nat)) [PV.lit (Value.int IntKind.i64 d)] es', IntKind.i64.wrap (c2.tdiv (16777216 : Int)) = c3, false = false, IntKind.i64.wrap ((↑i : Int) + (1 : Int)) = (↑(i + (1 : Nat)) : Int)]) := by kernel_rfl
theorem twr1 (k n i : Nat) (c : Int) (cs es : List PV) : roundX MD t20 k 78 0 ⟨[(0, .pv (.sl 1 n cs)), (5, .bs 11 0 1 (n + 1)), (6, .pv (iv c)), (7, .pv (iv i))], [(11, es)], [], []⟩ [.c false] =
  some ((Xt.exit 0, St.mk [(0, AV.pv (PV.sl 1 n cs)), (5, AV.bs 11 0 1 (n + (1 : Nat))), (6, AV.pv (PV.lit (Value.int IntKind.i64 c))), (7, AV.pv (PV.lit (Value.int IntKind.i64 (↑i : Int)))), (16, AV.pv (PV.lit (Value.bool false)))] [(11, es)] [] []), [], [decide ((↑i : Int) < (↑n : Int)) = false]) := by kernel_rfl
theorem or0 (k n m : Nat) (cs ds : List PV) : runX MD t0 k 76 [.sl 1 n cs, .sl 1 m ds] [.c true, .c true] =
  some (RV.mk (PV.lit (Value.int IntKind.i64 (-1 : Int))) none, [((↑n : Int) != (↑m : Int)) = true, decide ((↑n : Int) < (↑m : Int)) = true]) := by kernel_rfl
theorem or1 (k n m : Nat) (cs ds : List PV) : runX MD t0 k 76 [.sl 1 n cs, .sl 1 m ds] [.c true, .c false] =
  some (RV.mk (PV.lit (Value.int IntKind.i64 (1 : Int))) none, [((↑n : Int) != (↑m : Int)) = true, decide ((↑n : Int) < (↑m : Int)) = false]) := by kernel_rfl
theorem or2 (k n m : Nat) (cs ds : List PV) (i r : Int) : runX MD t0 k 76 [.sl 1 n cs, .sl 1 m ds] [.c false, .i 18 i, .l .ret ⟨[(4, .pv (iv r))], [], [], []⟩] =
  some (RV.mk (PV.lit (Value.int IntKind.i64 r)) none, [((↑n : Int) != (↑m : Int)) = false, IntKind.i64.wrap ((↑n : Int) - (1 : Int)) = i, LoopIs MD t0 k (76 : Nat) (0 : Nat) (St.mk [(0, AV.pv (PV.sl 1 n cs)), (1, AV.pv (PV.sl 1 m ds)), (5, AV.pv (PV.lit (Value.int IntKind.i64 i)))] [] [] []) Xt.ret (St.mk [(4, AV.pv (PV.lit (Value.int IntKind.i64 r)))] [] [] [])]) := by kernel_rfl
theorem or3 (k n m : Nat) (cs ds : List PV) (i : Int) : runX MD t0 k 76 [.sl 1 n cs, .sl 1 m ds] [.c false, .i 18 i, .l (.exit 0) ⟨[(0, .pv (.sl 1 n cs)), (1, .pv (.sl 1 m ds)), (5, .pv (iv (-1))), (20, .pv (bv false))], [], [], []⟩] =
  some (RV.mk (PV.lit (Value.int IntKind.i64 (0 : Int))) none, [((↑n : Int) != (↑m : Int)) = false, IntKind.i64.wrap ((↑n : Int) - (1 : Int)) = i, LoopIs MD t0 k (76 : Nat) (0 : Nat) (St.mk [(0, AV.pv (PV.sl 1 n cs)), (1, AV.pv (PV.sl 1 m ds)), (5, AV.pv (PV.lit (Value.int IntKind.i64 i)))] [] [] []) (Xt.exit 0) (St.mk [(0, AV.pv (PV.sl 1 n cs)), (1, AV.pv (PV.sl 1 m ds)), (5, AV.pv (PV.lit (Value.int IntKind.i64 (-1 : Int)))), (20, AV.pv (PV.lit (Value.bool false)))] [] [] [])]) := by kernel_rfl
theorem orr0 (k n m : Nat) (cs ds : List PV) (i : Int) : roundX MD t0 k 76 0 ⟨[(0, .pv (.sl 1 n cs)), (1, .pv (.sl 1 m ds)), (5, .pv (iv i))], [], [], []⟩ [.c false] =
  some ((Xt.exit 0, St.mk [(0, AV.pv (PV.sl 1 n cs)), (1, AV.pv (PV.sl 1 m ds)), (5, AV.pv (PV.lit (Value.int IntKind.i64 i))), (20, AV.pv (PV.lit (Value.bool false)))] [] [] []), [], [decide (i ≥ (0 : Int)) = false]) := by kernel_rfl
theorem orr1 (k n m x y : Nat) (cs ds : List PV) (i j : Int) : roundX MD t0 k 76 0 ⟨[(0, .pv (.sl 1 n cs)), (1, .pv (.sl 1 m ds)), (5, .pv (iv i))], [], [], []⟩ [.c true, .a 25 [iv x], .a 29 [iv y], .c false, .i 22 j] =
  some ((Xt.normal, St.mk [(0, AV.pv (PV.sl 1 n cs)), (1, AV.pv (PV.sl 1 m ds)), (5, AV.pv (PV.lit (Value.int IntKind.i64 j)))] [] [] []), [], [decide (i ≥ (0 : Int)) = true, RowAt cs 1 i n [PV.lit (Value.int IntKind.i64 (↑x : Int))], RowAt ds 1 i m [PV.lit (Value.int IntKind.i64 (↑y : Int))], ((↑x : Int) != (↑y : Int)) = false, IntKind.i64.wrap (i - (1 : Int)) = j]) := by kernel_rfl
theorem orr2 (k n m x y : Nat) (cs ds : List PV) (i : Int) : roundX MD t0 k 76 0 ⟨[(0, .pv (.sl 1 n cs)), (1, .pv (.sl 1 m ds)), (5, .pv (iv i))], [], [], []⟩ [.c true, .a 25 [iv x], .a 29 [iv y], .c true, .a 34 [iv x], .a 38 [iv y], .c true] =
  some ((Xt.ret, St.mk [(4, AV.pv (PV.lit (Value.int IntKind.i64 (-1 : Int))))] [] [] []), [], [decide (i ≥ (0 : Int)) = true, RowAt cs 1 i n [PV.lit (Value.int IntKind.i64 (↑x : Int))], RowAt ds 1 i m [PV.lit (Value.int IntKind.i64 (↑y : Int))], ((↑x : Int) != (↑y : Int)) = true, RowAt cs 1 i n [PV.lit (Value.int IntKind.i64 (↑x : Int))], RowAt ds 1 i m [PV.lit (Value.int IntKind.i64 (↑y : Int))], decide ((↑x : Int) < (↑y : Int)) = true]) := by kernel_rfl
theorem orr3 (k n m x y : Nat) (cs ds : List PV) (i : Int) : roundX MD t0 k 76 0 ⟨[(0, .pv (.sl 1 n cs)), (1, .pv (.sl 1 m ds)), (5, .pv (iv i))], [], [], []⟩ [.c true, .a 25 [iv x], .a 29 [iv y], .c true, .a 34 [iv x], .a 38 [iv y], .c false] =
  some ((Xt.ret, St.mk [(4, AV.pv (PV.lit (Value.int IntKind.i64 (1 : Int))))] [] [] []), [], [decide (i ≥ (0 : Int)) = true, RowAt cs 1 i n [PV.lit (Value.int IntKind.i64 (↑x : Int))], RowAt ds 1 i m [PV.lit (Value.int IntKind.i64 (↑y : Int))], ((↑x : Int) != (↑y : Int)) = true, RowAt cs 1 i n [PV.lit (Value.int IntKind.i64 (↑x : Int))], RowAt ds 1 i m [PV.lit (Value.int IntKind.i64 (↑y : Int))], decide ((↑x : Int) < (↑y : Int)) = false]) := by kernel_rfl
theorem t20_ok : CallOk MD.P t20 := tabC_ok fns_nil (mus_cons rtrimM_is mus_nil)
theorem rtrim_at {n v : Nat} (hn : n < 2 ^ 40) (h : v < (16777216 : Nat) ^ n) : MutsTo t20 90 [.g ((fd (16777216 : Nat) n v).map ivn) 0 1 n] (.gs 0 (dg (16777216 : Nat) v).length) ((fd (16777216 : Nat) n v).map ivn) := by
  have := rtrimM_at (p := []) (l := fd (16777216 : Nat) n v) (by rw [fd_len]; exact hn) (fd_dig (by decide) _ _)
  rw [fd_val (by decide), Nat.mod_eq_of_lt h, fd_len] at this
  exact this
theorem room_ok {n : Nat} (h : n < 2 ^ 41) : (0 : Int) ≤ (n : Int) ∧ (n : Int) ≤ (n : Int) ∧ (n : Int) * ((MD.P.bytesOf 3 : Nat) : Int) ≤ ((room : Nat) : Int) ∧ (n : Int) ≤ ((room : Nat) : Int) := by
  rw [bytes3]
  have : ((room : Nat) : Int) = 140737488355328 := rfl
  omega
/-! sums -/
def SP (a b n m i : Nat) (e : List (Nat × AV)) : St := ⟨(0, .pv (.sl 1 n ((dg (16777216 : Nat) a).map ivn))) :: (1, .pv (.sl 1 m ((dg (16777216 : Nat) b).map ivn))) :: (5, .bs 18 0 1 (n + 1)) :: (6, .pv (iv ((a + b) / (16777216 : Nat) ^ i - a / (16777216 : Nat) ^ i - b / (16777216 : Nat) ^ i : Nat))) :: (7, .pv (iv i)) :: e, [(18, (fdz (16777216 : Nat) (n + 1) i (a + b)).map ivn)], [], []⟩
theorem pl_round (k a b n m i : Nat) (hn : n = (dg (16777216 : Nat) a).length) (hm : m = (dg (16777216 : Nat) b).length) (hi : i < n) (hs : n < 2 ^ 40) : roundM MD t20 k 74 0 (SP a b n m i []) = some (.normal, SP a b n m (i + 1) []) := by
  have hx := dg_get (b := (16777216 : Nat)) (v := a) (by decide) (i := i) (by omega)
  have hc := addc a b i
  have s1 := div_succ a (16777216 : Nat) i
  have s2 := div_succ b (16777216 : Nat) i
  have s3 := div_succ (a + b) (16777216 : Nat) i
  have hstep := fdz_step (b := (16777216 : Nat)) (n := n + 1) (i := i) (v := a + b) (by omega)
  have hsp : Spl ((fdz (16777216 : Nat) (n + 1) i (a + b)).map ivn) (0 + i * 1) [ivn ((a + b) / (16777216 : Nat) ^ i % (16777216 : Nat))] ((fdz (16777216 : Nat) (n + 1) (i + 1) (a + b)).map ivn) := spl_c hstep (by rw [fdz_len (by omega)]; omega) (by omega)
  have hle : 0 + i * 1 + (ivn ((a + b) / (16777216 : Nat) ^ i % (16777216 : Nat))).cells.length ≤ ((fdz (16777216 : Nat) (n + 1) i (a + b)).map ivn).length := by
    rw [List.length_map, fdz_len (by omega)]; show _ + 1 ≤ _; omega
  have hr1 : RowAt ((dg (16777216 : Nat) a).map ivn) 1 (i : Int) n [ivn (a / (16777216 : Nat) ^ i % (16777216 : Nat))] := by rw [hn]; exact rowAt_c hx rfl
  unfold SP
  rw [s1, s2, s3]
  generalize hu : a / (16777216 : Nat) ^ i = u at *
  generalize hv : b / (16777216 : Nat) ^ i = v at *
  generalize hw : (a + b) / (16777216 : Nat) ^ i = w at *
  obtain ⟨x, hx0⟩ : ∃ x, x = u % (16777216 : Nat) := ⟨_, rfl⟩
  obtain ⟨y, hy0⟩ : ∃ y, y = v % (16777216 : Nat) := ⟨_, rfl⟩
  rw [← hx0] at hr1
  obtain ⟨c, hc0⟩ : ∃ c, c = w - u - v := ⟨_, rfl⟩
  by_cases him : i < m
  · have hy := dg_get (b := (16777216 : Nat)) (v := b) (by decide) (i := i) (by omega)
    rw [hv, ← hy0] at hy
    have hr2 : RowAt ((dg (16777216 : Nat) b).map ivn) 1 (i : Int) m [ivn y] := by rw [hm]; exact rowAt_c hy rfl
    have e1 : (c + x + y) % (16777216 : Nat) = w % (16777216 : Nat) := by omega
    have e2 : (c + x + y) / (16777216 : Nat) = w / (16777216 : Nat) - u / (16777216 : Nat) - v / (16777216 : Nat) := by omega
    have key := plr0 k n m i x y (c : Nat) ((c + x : Nat) : Int) ((c + x + y : Nat) : Int) ((w / (16777216 : Nat) - u / (16777216 : Nat) - v / (16777216 : Nat) : Nat) : Int) ((w % (16777216 : Nat) : Nat) : Int) ((dg (16777216 : Nat) a).map ivn) ((dg (16777216 : Nat) b).map ivn) ((fdz (16777216 : Nat) (n + 1) i (a + b)).map ivn) ((fdz (16777216 : Nat) (n + 1) (i + 1) (a + b)).map ivn)
    rw [← hc0]
    exact roundX_ok key ⟨decide_eq_true (by omega), hr1, w64n (by omega) (by omega), decide_eq_true (by omega), hr2, w64n (by omega) (by omega), by rw [← e1]; exact tmodn _ _, rfl, ⟨rfl, by omega⟩, hle, hsp, by rw [← e2]; exact w64n (tdivn _ _) (by omega), rfl, w64n (by omega) (by omega), trivial⟩
  · have hy := dg_hi (b := (16777216 : Nat)) (v := b) (by decide) (i := i) (by omega)
    rw [hv] at hy
    have e1 : (c + x) % (16777216 : Nat) = w % (16777216 : Nat) := by omega
    have e2 : (c + x) / (16777216 : Nat) = w / (16777216 : Nat) - u / (16777216 : Nat) - v / (16777216 : Nat) := by omega
    have key := plr1 k n m i x (c : Nat) ((c + x : Nat) : Int) ((w / (16777216 : Nat) - u / (16777216 : Nat) - v / (16777216 : Nat) : Nat) : Int) ((w % (16777216 : Nat) : Nat) : Int) ((dg (16777216 : Nat) a).map ivn) ((dg (16777216 : Nat) b).map ivn) ((fdz (16777216 : Nat) (n + 1) i (a + b)).map ivn) ((fdz (16777216 : Nat) (n + 1) (i + 1) (a + b)).map ivn)
    rw [← hc0]
    exact roundX_ok key ⟨decide_eq_true (by omega), hr1, w64n (by omega) (by omega), decide_eq_false (by omega), by rw [← e1]; exact tmodn _ _, rfl, ⟨rfl, by omega⟩, hle, hsp, by rw [← e2]; exact w64n (tdivn _ _) (by omega), rfl, w64n (by omega) (by omega), trivial⟩
theorem pl_loop (k a b n m : Nat) (hn : n = (dg (16777216 : Nat) a).length) (hm : m = (dg (16777216 : Nat) b).length) (hk : n < k) (hs : n < 2 ^ 40) : loopN (roundM MD t20 k 74 0) k (SP a b n m 0 []) = some (.exit 0, SP a b n m n [(22, .pv (bv false))]) :=
  loopN_chain (f := roundM MD t20 k 74 0) (S := fun i => SP a b n m i []) (n := n) (fun i hi => pl_round k a b n m i hn hm hi hs)
    (roundX_ok (plr2 k n m n ((a + b) / (16777216 : Nat) ^ n - a / (16777216 : Nat) ^ n - b / (16777216 : Nat) ^ n : Nat) ((dg (16777216 : Nat) a).map ivn) ((dg (16777216 : Nat) b).map ivn) ((fdz (16777216 : Nat) (n + 1) n (a + b)).map ivn)) ⟨decide_eq_false (by omega), trivial⟩) (by simp) k hk
/-- The reference's sum. -/
theorem rplus_is (a b : Nat) (ha : (dg (16777216 : Nat) a).length < 2 ^ 39) (hb : (dg (16777216 : Nat) b).length < 2 ^ 39) : CallIs P0 74 [ni (dg (16777216 : Nat) a), ni (dg (16777216 : Nat) b)] ⟨ni (dg (16777216 : Nat) (a + b)), some 1⟩ := by
  -- the longer one first
  have key : ∀ a b n m : Nat, n = (dg (16777216 : Nat) a).length → m = (dg (16777216 : Nat) b).length → n < 2 ^ 39 → m ≤ n →
      a + b < (16777216 : Nat) ^ (n + 1) ∧ Spl ((fdz (16777216 : Nat) (n + 1) n (a + b)).map ivn) (0 + n * 1) [iv ((a + b) / (16777216 : Nat) ^ n - a / (16777216 : Nat) ^ n - b / (16777216 : Nat) ^ n : Nat)] ((fd (16777216 : Nat) (n + 1) (a + b)).map ivn) ∧ 0 + n * 1 + (iv ((a + b) / (16777216 : Nat) ^ n - a / (16777216 : Nat) ^ n - b / (16777216 : Nat) ^ n : Nat)).cells.length ≤ ((fdz (16777216 : Nat) (n + 1) n (a + b)).map ivn).length := by
    intro a b n m hn hm hs hmn
    have h1 := dg_lt (b := (16777216 : Nat)) (n := a) (by decide)
    have h2 := dg_lt (b := (16777216 : Nat)) (n := b) (by decide)
    have h3 : (16777216 : Nat) ^ (dg (16777216 : Nat) b).length ≤ (16777216 : Nat) ^ n := Nat.pow_le_pow_right (by decide) (by omega)
    rw [← hn] at h1
    have hlt : a + b < (16777216 : Nat) ^ (n + 1) := by rw [Nat.pow_succ]; omega
    have z1 := dg_hi (b := (16777216 : Nat)) (v := a) (i := n) (by decide) (by omega)
    have z2 := dg_hi (b := (16777216 : Nat)) (v := b) (i := n) (by decide) (by omega)
    have hc := addc a b n
    rw [z1, z2, Nat.sub_zero, Nat.sub_zero]
    rw [z1, z2] at hc
    have hstep := fdz_step (b := (16777216 : Nat)) (n := n + 1) (i := n) (v := a + b) (by omega)
    rw [fdz_end, Nat.mod_eq_of_lt (by omega)] at hstep
    refine ⟨hlt, spl_c (c := ivn) hstep (by rw [fdz_len (by omega)]; omega) (by omega), ?_⟩
    rw [List.length_map, fdz_len (by omega)]; show _ + 1 ≤ _; omega
  have fin : ∀ v n : Nat, v < (16777216 : Nat) ^ (n + 1) → SlEq ((fd (16777216 : Nat) (n + 1) v).map ivn) 0 ((dg (16777216 : Nat) v).length * 1) ((dg (16777216 : Nat) v).map ivn) := fun v n h => slEq_c _ _ _ (by rw [List.drop_zero, Nat.mul_one]; exact fd_takeD (by decide) h)
  obtain ⟨k, hk⟩ : ∃ k, k = (dg (16777216 : Nat) a).length + (dg (16777216 : Nat) b).length + 1 := ⟨_, rfl⟩
  by_cases h : (dg (16777216 : Nat) a).length < (dg (16777216 : Nat) b).length
  · obtain ⟨k1, k2, k3⟩ := key b a _ _ rfl rfl hb (by omega)
    have lp := pl_loop k b a _ _ rfl rfl (by omega) (by omega)
    have z := zeros_c (c := ivn) (n := (dg (16777216 : Nat) b).length + 1)
    rw [← fdz_zero (16777216 : Nat) ((dg (16777216 : Nat) b).length + 1) (b + a)] at z
    have tr := rtrim_at (n := (dg (16777216 : Nat) b).length + 1) (v := b + a) (by omega) k1
    rw [Nat.add_comm a b]
    have c0 : ((b + a) / (16777216 : Nat) ^ 0 - b / (16777216 : Nat) ^ 0 - a / (16777216 : Nat) ^ 0 : Nat) = 0 := by simp
    unfold SP at lp
    rw [c0] at lp
    exact runX_is machOkD t20_ok (by rfl) (pl1 k _ _ _ _ _ _ ((fdz (16777216 : Nat) ((dg (16777216 : Nat) b).length + 1) 0 (b + a)).map ivn) _ ((fd (16777216 : Nat) ((dg (16777216 : Nat) b).length + 1) (b + a)).map ivn) _) ⟨decide_eq_true (by omega), w64n (by omega) (by omega), room_ok (by omega), decide_eq_false (by omega), z, lp, ⟨rfl, by omega⟩, k3, k2, tr, fin _ _ k1, trivial⟩
  · obtain ⟨k1, k2, k3⟩ := key a b _ _ rfl rfl ha (by omega)
    have lp := pl_loop k a b _ _ rfl rfl (by omega) (by omega)
    have z := zeros_c (c := ivn) (n := (dg (16777216 : Nat) a).length + 1)
    rw [← fdz_zero (16777216 : Nat) ((dg (16777216 : Nat) a).length + 1) (a + b)] at z
    have tr := rtrim_at (n := (dg (16777216 : Nat) a).length + 1) (v := a + b) (by omega) k1
    have c0 : ((a + b) / (16777216 : Nat) ^ 0 - a / (16777216 : Nat) ^ 0 - b / (16777216 : Nat) ^ 0 : Nat) = 0 := by simp
    unfold SP at lp
    rw [c0] at lp
    exact runX_is machOkD t20_ok (by rfl) (pl0 k _ _ _ _ _ _ ((fdz (16777216 : Nat) ((dg (16777216 : Nat) a).length + 1) 0 (a + b)).map ivn) _ ((fd (16777216 : Nat) ((dg (16777216 : Nat) a).length + 1) (a + b)).map ivn) _) ⟨decide_eq_false (by omega), w64n (by omega) (by omega), room_ok (by omega), decide_eq_false (by omega), z, lp, ⟨rfl, by omega⟩, k3, k2, tr, fin _ _ k1, trivial⟩
/-! differences: a = b + v -/
def SM (v b n m i : Nat) (e : List (Nat × AV)) : St := ⟨(0, .pv (.sl 1 n ((dg (16777216 : Nat) (b + v)).map ivn))) :: (1, .pv (.sl 1 m ((dg (16777216 : Nat) b).map ivn))) :: (5, .bs 11 0 1 n) :: (6, .pv (iv ((b + v) / (16777216 : Nat) ^ i - b / (16777216 : Nat) ^ i - v / (16777216 : Nat) ^ i : Nat))) :: (7, .pv (iv i)) :: e, [(11, (fdz (16777216 : Nat) n i v).map ivn)], [], []⟩
theorem mi_round (k v b n m i : Nat) (hn : n = (dg (16777216 : Nat) (b + v)).length) (hm : m = (dg (16777216 : Nat) b).length) (hi : i < n) (hs : n < 2 ^ 40) : roundM MD t20 k 77 0 (SM v b n m i []) = some (.normal, SM v b n m (i + 1) []) := by
  have hx := dg_get (b := (16777216 : Nat)) (v := b + v) (by decide) (i := i) (by omega)
  have hc := addc b v i
  have hc' := addc b v (i + 1)
  have s1 := div_succ (b + v) (16777216 : Nat) i
  have s2 := div_succ b (16777216 : Nat) i
  have s3 := div_succ v (16777216 : Nat) i
  have hstep := fdz_step (b := (16777216 : Nat)) (n := n) (i := i) (v := v) (by omega)
  have hsp : Spl ((fdz (16777216 : Nat) n i v).map ivn) (0 + i * 1) [ivn (v / (16777216 : Nat) ^ i % (16777216 : Nat))] ((fdz (16777216 : Nat) n (i + 1) v).map ivn) := spl_c hstep (by rw [fdz_len (by omega)]; omega) (by omega)
  have hle : 0 + i * 1 + (ivn (v / (16777216 : Nat) ^ i % (16777216 : Nat))).cells.length ≤ ((fdz (16777216 : Nat) n i v).map ivn).length := by
    rw [List.length_map, fdz_len (by omega)]; show _ + 1 ≤ _; omega
  have hr1 : RowAt ((dg (16777216 : Nat) (b + v)).map ivn) 1 (i : Int) n [ivn ((b + v) / (16777216 : Nat) ^ i % (16777216 : Nat))] := by rw [hn]; exact rowAt_c hx rfl
  unfold SM
  rw [s1, s2, s3] at *
  generalize hu : (b + v) / (16777216 : Nat) ^ i = u at *
  generalize hw : b / (16777216 : Nat) ^ i = y0 at *
  generalize hv : v / (16777216 : Nat) ^ i = w at *
  obtain ⟨x, hx0⟩ : ∃ x, x = u % (16777216 : Nat) := ⟨_, rfl⟩
  obtain ⟨y, hy0⟩ : ∃ y, y = y0 % (16777216 : Nat) := ⟨_, rfl⟩
  rw [← hx0] at hr1
  obtain ⟨c, hc0⟩ : ∃ c, c = u - y0 - w := ⟨_, rfl⟩
  rw [← hc0]
  by_cases him : i < m
  · have hy := dg_get (b := (16777216 : Nat)) (v := b) (by decide) (i := i) (by omega)
    rw [hw, ← hy0] at hy
    have hr2 : RowAt ((dg (16777216 : Nat) b).map ivn) 1 (i : Int) m [ivn y] := by rw [hm]; exact rowAt_c hy rfl
    by_cases hneg : x < c + y
    · have e1 : u / (16777216 : Nat) - y0 / (16777216 : Nat) - w / (16777216 : Nat) = 1 := by omega
      rw [e1]
      have key := mir1 k n m i x y (c : Nat) ((x : Int) - (c : Int)) ((x : Int) - (c : Int) - (y : Int)) ((w % (16777216 : Nat) : Nat) : Int) ((dg (16777216 : Nat) (b + v)).map ivn) ((dg (16777216 : Nat) b).map ivn) ((fdz (16777216 : Nat) n i v).map ivn) ((fdz (16777216 : Nat) n (i + 1) v).map ivn)
      exact roundX_ok key ⟨decide_eq_true (by omega), hr1, wrap64 (by omega) (by omega), decide_eq_true (by omega), hr2, wrap64 (by omega) (by omega), decide_eq_true (by omega), w64n (by omega) (by omega), ⟨rfl, by omega⟩, hle, hsp, w64n (by omega) (by omega), trivial⟩
    · have e1 : u / (16777216 : Nat) - y0 / (16777216 : Nat) - w / (16777216 : Nat) = 0 := by omega
      rw [e1]
      have key := mir0 k n m i x y (c : Nat) ((x : Int) - (c : Int)) ((w % (16777216 : Nat) : Nat) : Int) ((dg (16777216 : Nat) (b + v)).map ivn) ((dg (16777216 : Nat) b).map ivn) ((fdz (16777216 : Nat) n i v).map ivn) ((fdz (16777216 : Nat) n (i + 1) v).map ivn)
      exact roundX_ok key ⟨decide_eq_true (by omega), hr1, wrap64 (by omega) (by omega), decide_eq_true (by omega), hr2, w64n (by omega) (by omega), decide_eq_false (by omega), ⟨rfl, by omega⟩, hle, hsp, w64n (by omega) (by omega), trivial⟩
  · have hy := dg_hi (b := (16777216 : Nat)) (v := b) (by decide) (i := i) (by omega)
    rw [hw] at hy
    by_cases hneg : x < c
    · have e1 : u / (16777216 : Nat) - y0 / (16777216 : Nat) - w / (16777216 : Nat) = 1 := by omega
      rw [e1]
      have key := mir3 k n m i x (c : Nat) ((x : Int) - (c : Int)) ((w % (16777216 : Nat) : Nat) : Int) ((dg (16777216 : Nat) (b + v)).map ivn) ((dg (16777216 : Nat) b).map ivn) ((fdz (16777216 : Nat) n i v).map ivn) ((fdz (16777216 : Nat) n (i + 1) v).map ivn)
      exact roundX_ok key ⟨decide_eq_true (by omega), hr1, wrap64 (by omega) (by omega), decide_eq_false (by omega), decide_eq_true (by omega), w64n (by omega) (by omega), ⟨rfl, by omega⟩, hle, hsp, w64n (by omega) (by omega), trivial⟩
    · have e1 : u / (16777216 : Nat) - y0 / (16777216 : Nat) - w / (16777216 : Nat) = 0 := by omega
      rw [e1]
      have key := mir2 k n m i x (c : Nat) ((w % (16777216 : Nat) : Nat) : Int) ((dg (16777216 : Nat) (b + v)).map ivn) ((dg (16777216 : Nat) b).map ivn) ((fdz (16777216 : Nat) n i v).map ivn) ((fdz (16777216 : Nat) n (i + 1) v).map ivn)
      exact roundX_ok key ⟨decide_eq_true (by omega), hr1, w64n (by omega) (by omega), decide_eq_false (by omega), decide_eq_false (by omega), ⟨rfl, by omega⟩, hle, hsp, w64n (by omega) (by omega), trivial⟩
/-- The reference's difference. -/
theorem rminus_is (a b : Nat) (h : b ≤ a) (ha0 : 0 < a) (ha : (dg (16777216 : Nat) a).length < 2 ^ 39) : CallIs P0 77 [ni (dg (16777216 : Nat) a), ni (dg (16777216 : Nat) b)] ⟨ni (dg (16777216 : Nat) (a - b)), some 1⟩ := by
  obtain ⟨v, rfl⟩ := Nat.exists_eq_add_of_le h
  rw [Nat.add_sub_cancel_left]
  obtain ⟨n, hn⟩ : ∃ n, n = (dg (16777216 : Nat) (b + v)).length := ⟨_, rfl⟩
  have hn0 : 0 < n := by rw [hn, dg_pos (by decide) ha0]; simp
  have hlt : v < (16777216 : Nat) ^ n := by have := dg_lt (b := (16777216 : Nat)) (n := b + v) (by decide); rw [← hn] at this; omega
  have lp := loopN_chain (f := roundM MD t20 (n + 1) 77 0) (S := fun i => SM v b n (dg (16777216 : Nat) b).length i []) (n := n) (fun i hi => mi_round (n + 1) v b n _ i hn rfl hi (by omega))
    (roundX_ok (mir4 (n + 1) n (dg (16777216 : Nat) b).length n ((b + v) / (16777216 : Nat) ^ n - b / (16777216 : Nat) ^ n - v / (16777216 : Nat) ^ n : Nat) ((dg (16777216 : Nat) (b + v)).map ivn) ((dg (16777216 : Nat) b).map ivn) ((fdz (16777216 : Nat) n n v).map ivn)) ⟨decide_eq_false (by omega), trivial⟩) (by simp) (n + 1) (by omega)
  have c0 : ((b + v) / (16777216 : Nat) ^ 0 - b / (16777216 : Nat) ^ 0 - v / (16777216 : Nat) ^ 0 : Nat) = 0 := by simp
  unfold SM at lp
  rw [c0] at lp
  have z := zeros_c (c := ivn) (n := n)
  rw [← fdz_zero (16777216 : Nat) n v] at z
  rw [fdz_end] at lp
  have tr := rtrim_at (n := n) (v := v) (by omega) hlt
  have fin : SlEq ((fd (16777216 : Nat) n v).map ivn) 0 ((dg (16777216 : Nat) v).length * 1) ((dg (16777216 : Nat) v).map ivn) := slEq_c _ _ _ (by rw [List.drop_zero, Nat.mul_one]; exact fd_takeD (by decide) hlt)
  have := runX_is machOkD t20_ok (by rfl) (mi0 (n + 1) n _ _ _ ((dg (16777216 : Nat) (b + v)).map ivn) _ _ _ _) ⟨room_ok (by omega), decide_eq_false (by omega), z, lp, tr, fin, trivial⟩
  unfold ni
  rw [← hn]
  exact this
/-! doubles -/
def SW (a e n i : Nat) (l : List (Nat × AV)) : St := ⟨(0, .pv (.sl 1 n ((dg (16777216 : Nat) a).map ivn))) :: (5, .bs 11 0 1 (n + 1)) :: (6, .pv (iv ((2 * a + e) / (16777216 : Nat) ^ i - 2 * (a / (16777216 : Nat) ^ i) : Nat))) :: (7, .pv (iv i)) :: l, [(11, (fdz (16777216 : Nat) (n + 1) i (2 * a + e)).map ivn)], [], []⟩
theorem tw_round (k a e n i : Nat) (he : e ≤ 1) (hn : n = (dg (16777216 : Nat) a).length) (hi : i < n) (hs : n < 2 ^ 40) : roundM MD t20 k 78 0 (SW a e n i []) = some (.normal, SW a e n (i + 1) []) := by
  have hx := dg_get (b := (16777216 : Nat)) (v := a) (by decide) (i := i) (by omega)
  have hc := twoc a e he i
  have s1 := div_succ a (16777216 : Nat) i
  have s3 := div_succ (2 * a + e) (16777216 : Nat) i
  have hstep := fdz_step (b := (16777216 : Nat)) (n := n + 1) (i := i) (v := 2 * a + e) (by omega)
  have hsp : Spl ((fdz (16777216 : Nat) (n + 1) i (2 * a + e)).map ivn) (0 + i * 1) [ivn ((2 * a + e) / (16777216 : Nat) ^ i % (16777216 : Nat))] ((fdz (16777216 : Nat) (n + 1) (i + 1) (2 * a + e)).map ivn) := spl_c hstep (by rw [fdz_len (by omega)]; omega) (by omega)
  have hle : 0 + i * 1 + (ivn ((2 * a + e) / (16777216 : Nat) ^ i % (16777216 : Nat))).cells.length ≤ ((fdz (16777216 : Nat) (n + 1) i (2 * a + e)).map ivn).length := by
    rw [List.length_map, fdz_len (by omega)]; show _ + 1 ≤ _; omega
  have hr1 : RowAt ((dg (16777216 : Nat) a).map ivn) 1 (i : Int) n [ivn (a / (16777216 : Nat) ^ i % (16777216 : Nat))] := by rw [hn]; exact rowAt_c hx rfl
  unfold SW
  rw [s1, s3]
  generalize hu : a / (16777216 : Nat) ^ i = u at *
  generalize hw : (2 * a + e) / (16777216 : Nat) ^ i = w at *
  obtain ⟨x, hx0⟩ : ∃ x, x = u % (16777216 : Nat) := ⟨_, rfl⟩
  rw [← hx0] at hr1
  obtain ⟨c, hc0⟩ : ∃ c, c = w - 2 * u := ⟨_, rfl⟩
  have e1 : (c + 2 * x) % (16777216 : Nat) = w % (16777216 : Nat) := by omega
  have e2 : (c + 2 * x) / (16777216 : Nat) = w / (16777216 : Nat) - 2 * (u / (16777216 : Nat)) := by omega
  have key := twr0 k n i x (c : Nat) ((2 * x : Nat) : Int) ((c + 2 * x : Nat) : Int) ((w / (16777216 : Nat) - 2 * (u / (16777216 : Nat)) : Nat) : Int) ((w % (16777216 : Nat) : Nat) : Int) ((dg (16777216 : Nat) a).map ivn) ((fdz (16777216 : Nat) (n + 1) i (2 * a + e)).map ivn) ((fdz (16777216 : Nat) (n + 1) (i + 1) (2 * a + e)).map ivn)
  rw [← hc0]
  exact roundX_ok key ⟨decide_eq_true (by omega), hr1, w64n (by omega) (by omega), w64n (by omega) (by omega), by rw [← e1]; exact tmodn _ _, rfl, ⟨rfl, by omega⟩, hle, hsp, by rw [← e2]; exact w64n (tdivn _ _) (by omega), rfl, w64n (by omega) (by omega), trivial⟩
/-- The reference's double. -/
theorem rtwice_is (a e : Nat) (he : e ≤ 1) (ha : (dg (16777216 : Nat) a).length < 2 ^ 39) : CallIs P0 78 [ni (dg (16777216 : Nat) a), iv e] ⟨ni (dg (16777216 : Nat) (2 * a + e)), some 1⟩ := by
  obtain ⟨n, hn⟩ : ∃ n, n = (dg (16777216 : Nat) a).length := ⟨_, rfl⟩
  have h1 := dg_lt (b := (16777216 : Nat)) (n := a) (by decide)
  rw [← hn] at h1
  have hlt : 2 * a + e < (16777216 : Nat) ^ (n + 1) := by rw [Nat.pow_succ]; omega
  have lp := loopN_chain (f := roundM MD t20 (n + 1) 78 0) (S := fun i => SW a e n i []) (n := n) (fun i hi => tw_round (n + 1) a e n i he hn hi (by omega))
    (roundX_ok (twr1 (n + 1) n n ((2 * a + e) / (16777216 : Nat) ^ n - 2 * (a / (16777216 : Nat) ^ n) : Nat) ((dg (16777216 : Nat) a).map ivn) ((fdz (16777216 : Nat) (n + 1) n (2 * a + e)).map ivn)) ⟨decide_eq_false (by omega), trivial⟩) (by simp) (n + 1) (by omega)
  have c0 : ((2 * a + e) / (16777216 : Nat) ^ 0 - 2 * (a / (16777216 : Nat) ^ 0) : Nat) = e := by simp
  have z1 := dg_hi (b := (16777216 : Nat)) (v := a) (i := n) (by decide) (by omega)
  have hc := twoc a e he n
  rw [z1] at hc
  unfold SW at lp
  rw [c0, z1, Nat.mul_zero, Nat.sub_zero] at lp
  have z := zeros_c (c := ivn) (n := n + 1)
  rw [← fdz_zero (16777216 : Nat) (n + 1) (2 * a + e)] at z
  have hstep := fdz_step (b := (16777216 : Nat)) (n := n + 1) (i := n) (v := 2 * a + e) (by omega)
  rw [fdz_end, Nat.mod_eq_of_lt (by omega)] at hstep
  have hsp : Spl ((fdz (16777216 : Nat) (n + 1) n (2 * a + e)).map ivn) (0 + n * 1) [iv ((2 * a + e) / (16777216 : Nat) ^ n : Nat)] ((fd (16777216 : Nat) (n + 1) (2 * a + e)).map ivn) := spl_c (c := ivn) hstep (by rw [fdz_len (by omega)]; omega) (by omega)
  have hle : 0 + n * 1 + (iv ((2 * a + e) / (16777216 : Nat) ^ n : Nat)).cells.length ≤ ((fdz (16777216 : Nat) (n + 1) n (2 * a + e)).map ivn).length := by
    rw [List.length_map, fdz_len (by omega)]; show _ + 1 ≤ _; omega
  have tr := rtrim_at (n := n + 1) (v := 2 * a + e) (by omega) hlt
  have fin : SlEq ((fd (16777216 : Nat) (n + 1) (2 * a + e)).map ivn) 0 ((dg (16777216 : Nat) (2 * a + e)).length * 1) ((dg (16777216 : Nat) (2 * a + e)).map ivn) := slEq_c _ _ _ (by rw [List.drop_zero, Nat.mul_one]; exact fd_takeD (by decide) hlt)
  have := runX_is machOkD t20_ok (by rfl) (tw0 (n + 1) n _ _ e ((dg (16777216 : Nat) a).map ivn) _ _ _ _) ⟨w64n (by omega) (by omega), room_ok (by omega), decide_eq_false (by omega), z, lp, ⟨rfl, by omega⟩, hle, hsp, tr, fin, trivial⟩
  unfold ni
  rw [← hn]
  exact this
/-! order -/
def ordI (a b : Nat) : Int := if a < b then -1 else if b < a then 1 else 0
def ordEnd (l m : List Nat) (j : Nat) : Xt × St :=
  if val (16777216 : Nat) (l.take j) < val (16777216 : Nat) (m.take j) then (.ret, ⟨[(4, .pv (iv (-1)))], [], [], []⟩)
  else if val (16777216 : Nat) (m.take j) < val (16777216 : Nat) (l.take j) then (.ret, ⟨[(4, .pv (iv 1))], [], [], []⟩)
  else (.exit 0, ⟨[(0, .pv (ni l)), (1, .pv (ni m)), (5, .pv (iv (-1))), (20, .pv (bv false))], [], [], []⟩)
theorem ord_loop (k : Nat) (l m : List Nat) (hl : Dig (16777216 : Nat) l) (hm : Dig (16777216 : Nat) m) (e : l.length = m.length) (hs : l.length < 2 ^ 40) : ∀ j, j ≤ l.length → loopN (roundM MD t0 k 76 0) (j + 1) ⟨[(0, .pv (ni l)), (1, .pv (ni m)), (5, .pv (iv ((j : Int) - 1)))], [], [], []⟩ = some (ordEnd l m j)
  | 0, _ => by
    simp only [ordEnd, List.take_zero, Nat.lt_irrefl, if_false]
    exact loopN_exit (roundX_ok (orr0 k _ _ _ _ _) ⟨by decide, trivial⟩) (by simp)
  | j + 1, hj => by
    obtain ⟨x, hx⟩ := get_some (l := l) (i := j) (by omega)
    obtain ⟨y, hy⟩ := get_some (l := m) (i := j) (by omega)
    have v1 := take_succ_val (b := (16777216 : Nat)) hx
    have v2 := take_succ_val (b := (16777216 : Nat)) hy
    have l1 := val_lt (dig_take hl j)
    have l2 := val_lt (dig_take hm j)
    have e1 : (l.take j).length = j := by rw [List.length_take]; omega
    have e2 : (m.take j).length = j := by rw [List.length_take]; omega
    rw [e1] at l1; rw [e2] at l2
    have hi : (((j + 1 : Nat) : Int) - 1) = (j : Int) := by omega
    rw [hi]
    have r1 : RowAt (l.map ivn) 1 (j : Int) l.length [ivn x] := rowAt_c hx rfl
    have r2 : RowAt (m.map ivn) 1 (j : Int) m.length [ivn y] := rowAt_c hy rfl
    have h0 : decide ((j : Int) ≥ 0) = true := decide_eq_true (by omega)
    rcases Nat.lt_trichotomy x y with h | h | h
    · have hv : val (16777216 : Nat) (l.take (j + 1)) < val (16777216 : Nat) (m.take (j + 1)) := by
        rw [v1, v2]
        have : (16777216 : Nat) ^ j * (x + 1) ≤ (16777216 : Nat) ^ j * y := Nat.mul_le_mul_left _ h
        rw [Nat.mul_add] at this
        omega
      simp only [ordEnd, if_pos hv]
      exact loopN_exit (roundX_ok (orr2 k _ _ x y _ _ _) ⟨h0, r1, r2, bne_iff_ne.2 (by omega), r1, r2, decide_eq_true (by omega), trivial⟩) (by simp)
    · subst h
      have hc : ordEnd l m (j + 1) = ordEnd l m j := by
        simp only [ordEnd, v1, v2, Nat.add_lt_add_iff_right]
      rw [hc]
      exact loopN_next (roundX_ok (orr1 k _ _ x x _ _ _ ((j : Int) - 1)) ⟨h0, r1, r2, by simp, wrap64 (by omega) (by omega), trivial⟩) (ord_loop k l m hl hm e hs j (by omega))
    · have hv : val (16777216 : Nat) (m.take (j + 1)) < val (16777216 : Nat) (l.take (j + 1)) := by
        rw [v1, v2]
        have : (16777216 : Nat) ^ j * (y + 1) ≤ (16777216 : Nat) ^ j * x := Nat.mul_le_mul_left _ h
        rw [Nat.mul_add] at this
        omega
      have hv' : ¬ val (16777216 : Nat) (l.take (j + 1)) < val (16777216 : Nat) (m.take (j + 1)) := by omega
      simp only [ordEnd, if_pos hv, if_neg hv']
      exact loopN_exit (roundX_ok (orr3 k _ _ x y _ _ _) ⟨h0, r1, r2, bne_iff_ne.2 (by omega), r1, r2, decide_eq_false (by omega), trivial⟩) (by simp)
/-- The reference's order. -/
theorem rorder_is (a b : Nat) (ha : (dg (16777216 : Nat) a).length < 2 ^ 40) (hb : (dg (16777216 : Nat) b).length < 2 ^ 40) : CallIs P0 76 [ni (dg (16777216 : Nat) a), ni (dg (16777216 : Nat) b)] (one (iv (ordI a b))) := by
  by_cases e : (dg (16777216 : Nat) a).length = (dg (16777216 : Nat) b).length
  · have lp := ord_loop ((dg (16777216 : Nat) a).length + 1) _ _ (dig_dg (by decide) a) (dig_dg (by decide) b) e ha (dg (16777216 : Nat) a).length (Nat.le_refl _)
    have hne : (((dg (16777216 : Nat) a).length : Int) != ((dg (16777216 : Nat) b).length : Int)) = false := by simp [e]
    have hw : IntKind.i64.wrap (((dg (16777216 : Nat) a).length : Int) - 1) = ((dg (16777216 : Nat) a).length : Int) - 1 := wrap64 (by omega) (by omega)
    have t1 : (dg (16777216 : Nat) a).take (dg (16777216 : Nat) a).length = dg (16777216 : Nat) a := List.take_length
    have t2 : (dg (16777216 : Nat) b).take (dg (16777216 : Nat) a).length = dg (16777216 : Nat) b := by rw [e]; exact List.take_length
    unfold ordEnd at lp
    rw [t1, t2, val_dg (by decide), val_dg (by decide)] at lp
    unfold ordI
    by_cases v1 : a < b
    · rw [if_pos v1] at lp ⊢
      exact runX_is machOkD (tabF_ok fns_nil) (by rfl) (or2 ((dg (16777216 : Nat) a).length + 1) _ _ _ _ _ (-1)) ⟨hne, hw, lp, trivial⟩
    · rw [if_neg v1] at lp ⊢
      by_cases v2 : b < a
      · rw [if_pos v2] at lp ⊢
        exact runX_is machOkD (tabF_ok fns_nil) (by rfl) (or2 ((dg (16777216 : Nat) a).length + 1) _ _ _ _ _ 1) ⟨hne, hw, lp, trivial⟩
      · rw [if_neg v2] at lp ⊢
        exact runX_is machOkD (tabF_ok fns_nil) (by rfl) (or3 ((dg (16777216 : Nat) a).length + 1) _ _ _ _ _) ⟨hne, hw, lp, trivial⟩
  · have hne : (((dg (16777216 : Nat) a).length : Int) != ((dg (16777216 : Nat) b).length : Int)) = true := bne_iff_ne.2 (by omega)
    unfold ordI
    by_cases h : (dg (16777216 : Nat) a).length < (dg (16777216 : Nat) b).length
    · rw [if_pos (dgl_lt (by decide) h)]
      exact runX_is machOkD (tabF_ok fns_nil) (by rfl) (or0 1 _ _ _ _) ⟨hne, decide_eq_true (by omega), trivial⟩
    · have h2 := dgl_lt (b := (16777216 : Nat)) (by decide) (show (dg (16777216 : Nat) b).length < (dg (16777216 : Nat) a).length by omega)
      rw [if_neg (by omega), if_pos h2]
      exact runX_is machOkD (tabF_ok fns_nil) (by rfl) (or1 1 _ _ _ _) ⟨hne, decide_eq_false (by omega), trivial⟩
/-! machine integers -/
theorem t21_ok : CallOk MD.P t21 := tabF_ok (fns_cons (spE_is fun x _ => rvalid_is x.1 x.2) fns_nil)
def Si (g : Bool) (s : ByteArray) (i : Nat) (e : List (Nat × AV)) : St := ⟨(1, .bp 1 0) :: (4, .pv (.lit (.int .u64 (val 256 ((bytesL s).drop (s.size - i)) : Nat)))) :: (5, .pv (iv i)) :: e, [(1, [bv g, sv s])], [], []⟩
theorem i6_round (k i : Nat) (g : Bool) (s : ByteArray) (hi : i < s.size) (hs : s.size ≤ 7) : roundM MD t21 k 88 0 (Si g s i []) = some (.normal, Si g s (i + 1) []) := by
  obtain ⟨b, hb, hb2⟩ := bytesL_get (s := s) (i := s.size - 1 - i) (by omega)
  have hb3 : b < 256 := bytesL_dig s b (List.mem_of_getElem? hb)
  rw [show s.size - 1 - (s.size - 1 - i) = i by omega] at hb2
  have hd := drop_val (b := 256) hb
  rw [show s.size - 1 - i + 1 = s.size - i by omega, show s.size - 1 - i = s.size - (i + 1) by omega] at hd
  have hlt := val_lt (dig_drop (bytesL_dig s) (s.size - (i + 1)))
  rw [List.length_drop, bytesL_len] at hlt
  have h7 : 256 ^ (s.size - (s.size - (i + 1))) ≤ 256 ^ 7 := Nat.pow_le_pow_right (by decide) (by omega)
  have hstr : StrAt s (i : Int) (b : Int) := by
    show strAt s _ = _
    unfold strAt
    rw [if_pos (by omega), Int.toNat_natCast]
    cases h : s[i]? with
    | none => rw [h] at hb2; simp at hb2
    | some c => rw [h] at hb2; simp at hb2; simp [hb2]
  obtain ⟨u, hu⟩ : ∃ u, u = val 256 ((bytesL s).drop (s.size - i)) := ⟨_, rfl⟩
  obtain ⟨u2, hu2⟩ : ∃ u2, u2 = val 256 ((bytesL s).drop (s.size - (i + 1))) := ⟨_, rfl⟩
  rw [← hu, ← hu2] at hd
  rw [← hu2] at hlt
  unfold Si
  rw [← hu, ← hu2]
  have hp : (2 : Int) ^ min (Int.toNat 8) IntKind.u64.bits = 256 := by decide
  exact roundX_ok (i6c k i b u ((256 * u : Nat) : Int) (u2 : Nat) g s) ⟨decide_eq_true (by omega), by rw [hp]; exact w64u (by omega) (by omega), rfl, hstr, w64u rfl (by omega), w64u (by omega) (by omega), w64n (by omega) (by omega), trivial⟩
theorem rint64_is (z : Int) (h : (magS z.natAbs).size ≤ 7) : CallIs P0 88 [.ag (zc z)] (one (.tup [iv z, bv true])) := by
  obtain ⟨s, hs⟩ : ∃ s, s = magS z.natAbs := ⟨_, rfl⟩
  rw [← hs] at h
  have hval : val 256 ((bytesL s).drop (s.size - s.size)) = z.natAbs := by rw [Nat.sub_self, List.drop_zero, hs, bytesL_magS, val_dg (by decide)]
  have hlt : z.natAbs < 256 ^ 7 := by
    have h1 := dg_lt (b := 256) (n := z.natAbs) (by decide)
    have h2 : (dg 256 z.natAbs).length ≤ 7 := by rw [← bytes_size, ← hs]; exact h
    exact Nat.lt_of_lt_of_le h1 (Nat.pow_le_pow_right (by decide) h2)
  have lp := fun g => loopN_chain (f := roundM MD t21 8 88 0) (S := fun i => Si g s i []) (n := s.size) (fun i hi => i6_round 8 i g s hi h) (roundX_ok (i6d 8 s.size (val 256 ((bytesL s).drop (s.size - s.size)) : Nat) g s) ⟨decide_eq_false (by omega), trivial⟩) (by simp) 8 (by omega)
  have v0 : val 256 ((bytesL s).drop (s.size - 0)) = 0 := by
    rw [Nat.sub_zero, List.drop_of_length_le (by rw [bytesL_len]; omega)]; rfl
  have vt : validT [iz (decide (z < 0)) s] = some (one (bv true)) := by rw [validT_at, hs, ok_zc]
  unfold Si at lp
  rw [hval, v0] at lp
  have e : (.ag (zc z) : PV) = iz (decide (z < 0)) s := by rw [hs]; rfl
  rw [e]
  by_cases hz : z < 0
  · rw [decide_eq_true hz] at vt ⊢
    exact runX_is machOkD t21_ok (by rfl) (i6a 8 (z.natAbs : Nat) (-z - 1) (-z - 1) (z + 1) z s) ⟨vt, decide_eq_false (by omega), lp true, decide_eq_true (by omega), by rw [wrap_u64]; omega, wrap64 (by omega) (by omega), by rw [wrap64] <;> omega, by rw [wrap64] <;> omega, trivial⟩
  · rw [decide_eq_false hz] at vt ⊢
    exact runX_is machOkD t21_ok (by rfl) (i6b 8 (z.natAbs : Nat) z s) ⟨vt, decide_eq_false (by omega), lp false, decide_eq_true (by omega), by rw [wrap64] <;> omega, trivial⟩
theorem int64T_at {z : Int} (h : (magS z.natAbs).size ≤ 7) : int64T [.ag (zc z)] = some (one (.tup [iv z, bv true])) :=
  spE_at (enc := fun z : Int => [.ag (zc z)]) (fun a b e => by
    simp only [List.cons.injEq, and_true, PV.ag.injEq] at e
    rw [zc_inj e]) h
theorem rsmall_is (z : Int) (h : (magS z.natAbs).size ≤ 7) : CallIs P0 71 [.ag (zc z)] (one (.tup [iv z, bv true])) :=
  runX_is machOkD (tabF_ok (fns_cons (spE_is fun z h => rint64_is z h) fns_nil)) (by rfl) (rsm0 1 (decide (z < 0)) (magS z.natAbs) z) ⟨decide_eq_false (by omega), int64T_at h, trivial⟩
end Go.Proofs.YtibbgjafjhcemaaDoor.Cul
/-! DO -/
set_option linter.unusedVariables false
namespace Go.Proofs.YtibbgjafjhcemaaDoor.Cul
/-! ### The odd part, by digits to the base 2^24 -/
theorem dg_zeros {b : Nat} (hb : 2 ≤ b) {w : Nat} (hw : 0 < w) : ∀ z, dg b (b ^ z * w) = List.replicate z 0 ++ dg b w
  | 0 => by simp
  | z + 1 => by
    have h : 0 < b ^ z * w := Nat.mul_pos (Nat.pow_pos (by omega)) hw
    have e : b ^ (z + 1) * w = 0 + b * (b ^ z * w) := by rw [Nat.pow_succ, Nat.mul_comm (b ^ z) b, Nat.mul_assoc]; omega
    rw [e, dg_cons hb (by omega) _ (.inr h), dg_zeros hb hw z, List.replicate_succ]; rfl
def oz (v : Nat) : Nat := tz v / 24
def ok' (v : Nat) : Nat := tz v % 24
def ow (v : Nat) : Nat := 2 ^ ok' v * od v
theorem ok_lt (v : Nat) : ok' v < 24 := Nat.mod_lt _ (by decide)
theorem ow_pos {v : Nat} (h : 0 < v) : 0 < ow v := Nat.mul_pos (Nat.pow_pos (by decide)) (od_pos h)
theorem ow_eq {v : Nat} (h : 0 < v) : (16777216 : Nat) ^ oz v * ow v = v := by
  conv => rhs; rw [← od_mul h]
  unfold ow
  rw [← Nat.mul_assoc]
  congr 1
  rw [show (16777216 : Nat) = 2 ^ 24 by decide, ← Nat.pow_mul, ← Nat.pow_add]
  congr 1
  unfold oz ok'
  omega
theorem bit_low {w j : Nat} (h : j < 24) : (w % (16777216 : Nat)) / 2 ^ j % 2 = w / 2 ^ j % 2 := by
  rw [show (16777216 : Nat) = 2 ^ j * 2 ^ (24 - j) by rw [← Nat.pow_add, show j + (24 - j) = 24 by omega], Nat.mod_mul_right_div_self]
  refine Nat.mod_mod_of_dvd _ ?_
  exact ⟨2 ^ (24 - j - 1), by rw [← Nat.pow_succ']; congr 1; omega⟩
theorem ow_bit {v j : Nat} (h : j < ok' v) : (ow v % (16777216 : Nat)) / 2 ^ j % 2 = 0 := by
  have := ok_lt v
  rw [bit_low (by omega)]
  unfold ow
  obtain ⟨d, hd⟩ : ∃ d, ok' v = j + (d + 1) := ⟨ok' v - j - 1, by omega⟩
  rw [hd, Nat.pow_add, Nat.mul_assoc, Nat.mul_div_cancel_left _ (Nat.pow_pos (by decide)), Nat.pow_succ']
  rw [Nat.mul_assoc]; simp
theorem ow_bit1 {v : Nat} (h : 0 < v) : (ow v % (16777216 : Nat)) / 2 ^ ok' v % 2 = 1 := by
  rw [bit_low (ok_lt v)]
  unfold ow
  rw [Nat.mul_div_cancel_left _ (Nat.pow_pos (by decide))]
  exact od_odd h
theorem ow_mod {v : Nat} : ow v % (16777216 : Nat) % 2 ^ ok' v = 0 := by
  have := ok_lt v
  rw [Nat.mod_mod_of_dvd _ (by rw [show (16777216 : Nat) = 2 ^ 24 by decide]; exact Nat.pow_dvd_pow 2 (by omega))]
  unfold ow
  simp
/-- The cells behind the removal of factors 2. -/
def oddL (v : Nat) : List Nat := List.replicate (oz v) 0 ++ shr (ok' v) (dg (16777216 : Nat) (ow v))
theorem oddL_val {v : Nat} (h : 0 < v) : val (16777216 : Nat) (shr (ok' v) (dg (16777216 : Nat) (ow v))) = od v := by
  have hw := ow_pos h
  have e := dg_pos (b := (16777216 : Nat)) (by decide) hw
  have h1 := shr_val (k := ok' v) (by have := ok_lt v; omega) (ow v % (16777216 : Nat)) (dg (16777216 : Nat) (ow v / (16777216 : Nat)))
  rw [← e] at h1
  rw [show (2 : Nat) ^ 24 = (16777216 : Nat) by decide, val_dg (by decide), ow_mod, Nat.add_zero] at h1
  exact Nat.eq_of_mul_eq_mul_left (Nat.pow_pos (by decide)) h1
theorem oddL_dig (v : Nat) : Dig (16777216 : Nat) (shr (ok' v) (dg (16777216 : Nat) (ow v))) := by
  have := shr_dig (k := ok' v) (by have := ok_lt v; omega) (l := dg (16777216 : Nat) (ow v)) (by rw [show (2 : Nat) ^ 24 = (16777216 : Nat) by decide]; exact dig_dg (by decide) _)
  rwa [show (2 : Nat) ^ 24 = (16777216 : Nat) by decide] at this
/-- While digits are shifted. -/
def shrAt (k : Nat) (l : List Nat) (i : Nat) : List Nat := (shr k l).take i ++ l.drop i
theorem shrAt_len (k : Nat) (l : List Nat) (i : Nat) : (shrAt k l i).length = l.length := by
  simp [shrAt, shr_len]; omega
theorem shrAt_zero (k : Nat) (l : List Nat) : shrAt k l 0 = l := by simp [shrAt]
theorem shrAt_end (k : Nat) (l : List Nat) : shrAt k l l.length = shr k l := by
  simp [shrAt]
  exact List.take_of_length_le (by rw [shr_len]; omega)
theorem shrAt_get {k : Nat} {l : List Nat} {i x : Nat} (h : l[i]? = some x) : (shrAt k l i)[i]? = some x := by
  have hi : i < l.length := by
    rcases Nat.lt_or_ge i l.length with h' | h'
    · exact h'
    · simp [List.getElem?_eq_none h'] at h
  unfold shrAt
  rw [List.getElem?_append_right (by rw [List.length_take, shr_len]; omega), List.length_take, shr_len, List.getElem?_drop]
  rw [show i + (i - min i l.length) = i by omega]; exact h
theorem shrAt_get1 {k : Nat} {l : List Nat} {i y : Nat} (h : l[i + 1]? = some y) (z : Nat) : ((shrAt k l i).set i z)[i + 1]? = some y := by
  have hi : i + 1 < l.length := by
    rcases Nat.lt_or_ge (i + 1) l.length with h' | h'
    · exact h'
    · simp [List.getElem?_eq_none h'] at h
  rw [List.getElem?_set_ne (by omega)]
  unfold shrAt
  rw [List.getElem?_append_right (by rw [List.length_take, shr_len]; omega), List.length_take, shr_len, List.getElem?_drop]
  rw [show i + (i + 1 - min i l.length) = i + 1 by omega]; exact h
theorem shrAt_step {k : Nat} {l : List Nat} {i x : Nat} (h : l[i]? = some x) : (shrAt k l i).set i (x / 2 ^ k + (match l[i + 1]? with | some y => y * 2 ^ (24 - k) % 2 ^ 24 | none => 0)) = shrAt k l (i + 1) := by
  have hi : i < l.length := by
    rcases Nat.lt_or_ge i l.length with h' | h'
    · exact h'
    · simp [List.getElem?_eq_none h'] at h
  have hg := shr_get (k := k) h
  have hl : ((shr k l).take i).length = i := by rw [List.length_take, shr_len]; omega
  have hs : (shr k l).take (i + 1) = (shr k l).take i ++ [x / 2 ^ k + (match l[i + 1]? with | some y => y * 2 ^ (24 - k) % 2 ^ 24 | none => 0)] := by
    rw [List.take_add_one, hg]; rfl
  unfold shrAt
  rw [List.set_append_right _ _ (by omega), hl, Nat.sub_self, List.drop_eq_getElem_cons hi, List.set_cons_zero, hs, List.append_assoc]; rfl
end Go.Proofs.YtibbgjafjhcemaaDoor.Cul
/-! B20 -/
set_option linter.unusedVariables false
set_option linter.unusedSimpArgs false
set_option maxRecDepth 100000
set_option maxHeartbeats 2000000
namespace Go.Proofs.YtibbgjafjhcemaaDoor.Cul
open Go Go.RowKit
theorem oda0 (k o m x : Nat) (c : Int) (cs : List PV) : roundX MD t20 k 75 0 ⟨[(0, .bs gk o 1 m), (4, .pv (iv c))], [(gk, cs)], [], []⟩ [.j 8 0, .e 9 (iv x), .c false] =
  some ((Xt.exit 0, St.mk [(0, AV.bs 1000000 o 1 m), (4, AV.pv (PV.lit (Value.int IntKind.i64 c))), (10, AV.pv (PV.lit (Value.bool false)))] [(1000000, cs)] [] []), [], [AtIdx (0 : Int) m 0, Ld MD.P 3 cs o (PV.lit (Value.int IntKind.i64 (↑x : Int))), ((↑x : Int) == (0 : Int)) = false]) := by kernel_rfl
theorem oda1 (k o m x : Nat) (c d : Int) (cs : List PV) : roundX MD t20 k 75 0 ⟨[(0, .bs gk o 1 m), (4, .pv (iv c))], [(gk, cs)], [], []⟩ [.j 8 0, .e 9 (iv x), .c true, .o 12 (o + 1) (m - 1), .i 14 d] =
  some ((Xt.normal, St.mk [(0, AV.bs 1000000 (o + (1 : Nat)) 1 (m - (1 : Nat))), (4, AV.pv (PV.lit (Value.int IntKind.i64 d)))] [(1000000, cs)] [] []), [], [AtIdx (0 : Int) m 0, Ld MD.P 3 cs o (PV.lit (Value.int IntKind.i64 (↑x : Int))), ((↑x : Int) == (0 : Int)) = true, (0 : Int) ≤ (1 : Int) ∧ (1 : Int) ≤ (↑m : Int) ∧ (↑m : Int) ≤ (↑m : Int), o + Int.toNat (1 : Int) * (1 : Nat) = o + (1 : Nat), (↑m : Int).toNat - Int.toNat (1 : Int) = m - (1 : Nat), IntKind.i64.wrap (c + (24 : Int)) = d]) := by kernel_rfl
theorem odb0 (k o m x j y z : Nat) (c : Int) (cs : List PV) : roundX MD t20 k 75 1 ⟨[(0, .bs gk o 1 m), (4, .pv (iv c)), (5, .pv (iv j))], [(gk, cs)], [], []⟩ [.j 16 0, .e 17 (iv x), .i 19 y, .i 20 z, .c false] =
  some ((Xt.exit 2, St.mk [(0, AV.bs 1000000 o 1 m), (4, AV.pv (PV.lit (Value.int IntKind.i64 c))), (5, AV.pv (PV.lit (Value.int IntKind.i64 (↑j : Int)))), (21, AV.pv (PV.lit (Value.bool false)))] [(1000000, cs)] [] []), [], [AtIdx (0 : Int) m 0, Ld MD.P 3 cs o (PV.lit (Value.int IntKind.i64 (↑x : Int))), (↑x : Int).fdiv ((2 : Int) ^ min (↑j : Int).toNat IntKind.i64.bits) = (↑y : Int), decide ((↑j : Int) < (0 : Int)) = false, IntKind.i64.wrap (↑(BitVec.ofInt IntKind.i64.bits (↑y : Int) &&& BitVec.ofInt IntKind.i64.bits (1 : Int)).toNat : Int) = (↑z : Int), ((↑z : Int) == (0 : Int)) = false]) := by kernel_rfl
theorem odb1 (k o m x j y z : Nat) (c : Int) (cs : List PV) : roundX MD t20 k 75 1 ⟨[(0, .bs gk o 1 m), (4, .pv (iv c)), (5, .pv (iv j))], [(gk, cs)], [], []⟩ [.j 16 0, .e 17 (iv x), .i 19 y, .i 20 z, .c true, .i 23 (j + 1 : Nat)] =
  some ((Xt.normal, St.mk [(0, AV.bs 1000000 o 1 m), (4, AV.pv (PV.lit (Value.int IntKind.i64 c))), (5, AV.pv (PV.lit (Value.int IntKind.i64 (↑(j + (1 : Nat)) : Int))))] [(1000000, cs)] [] []), [], [AtIdx (0 : Int) m 0, Ld MD.P 3 cs o (PV.lit (Value.int IntKind.i64 (↑x : Int))), (↑x : Int).fdiv ((2 : Int) ^ min (↑j : Int).toNat IntKind.i64.bits) = (↑y : Int), decide ((↑j : Int) < (0 : Int)) = false, IntKind.i64.wrap (↑(BitVec.ofInt IntKind.i64.bits (↑y : Int) &&& BitVec.ofInt IntKind.i64.bits (1 : Int)).toNat : Int) = (↑z : Int), ((↑z : Int) == (0 : Int)) = true, IntKind.i64.wrap ((↑j : Int) + (1 : Int)) = (↑(j + (1 : Nat)) : Int)]) := by kernel_rfl
theorem odc0 (k o m i : Nat) (c q : Int) (cs : List PV) : roundX MD t20 k 75 2 ⟨[(0, .bs gk o 1 m), (4, .pv (iv c)), (5, .pv (iv q)), (6, .pv (iv i))], [(gk, cs)], [], []⟩ [.c false] =
  some ((Xt.exit 4, St.mk [(0, AV.bs 1000000 o 1 m), (4, AV.pv (PV.lit (Value.int IntKind.i64 c))), (5, AV.pv (PV.lit (Value.int IntKind.i64 q))), (6, AV.pv (PV.lit (Value.int IntKind.i64 (↑i : Int)))), (27, AV.pv (PV.lit (Value.bool false)))] [(1000000, cs)] [] []), [], [decide ((↑i : Int) < (↑m : Int)) = false]) := by kernel_rfl
theorem odc1 (k o m i x y : Nat) (c q : Int) (cs cs' : List PV) : roundX MD t20 k 75 2 ⟨[(0, .bs gk o 1 m), (4, .pv (iv c)), (5, .pv (iv q)), (6, .pv (iv i))], [(gk, cs)], [], []⟩ [.c true, .j 32 i, .e 33 (iv x), .i 35 y, .j 36 i, .s cs', .i 38 (i + 1 : Nat), .c false, .i 29 (i + 1 : Nat)] =
  some ((Xt.normal, St.mk [(0, AV.bs 1000000 o 1 m), (4, AV.pv (PV.lit (Value.int IntKind.i64 c))), (5, AV.pv (PV.lit (Value.int IntKind.i64 q))), (6, AV.pv (PV.lit (Value.int IntKind.i64 (↑(i + (1 : Nat)) : Int))))] [(1000000, cs')] [] []), [], [decide ((↑i : Int) < (↑m : Int)) = true, AtIdx (↑i : Int) m i, Ld MD.P 3 cs (o + i * (1 : Nat)) (PV.lit (Value.int IntKind.i64 (↑x : Int))), (↑x : Int).fdiv ((2 : Int) ^ min q.toNat IntKind.i64.bits) = (↑y : Int), decide (q < (0 : Int)) = false, AtIdx (↑i : Int) m i, o + i * (1 : Nat) + (PV.lit (Value.int IntKind.i64 (↑y : Int))).cells.length ≤ cs.length, Spl cs (o + i * (1 : Nat)) [PV.lit (Value.int IntKind.i64 (↑y : Int))] cs', IntKind.i64.wrap ((↑i : Int) + (1 : Int)) = (↑(i + (1 : Nat)) : Int), decide ((↑(i + (1 : Nat)) : Int) < (↑m : Int)) = false, IntKind.i64.wrap ((↑i : Int) + (1 : Int)) = (↑(i + (1 : Nat)) : Int)]) := by kernel_rfl
theorem odc2 (k o m i x y u q24 s1 s2 s3 : Nat) (c q : Int) (cs cs' cs2 : List PV) : roundX MD t20 k 75 2 ⟨[(0, .bs gk o 1 m), (4, .pv (iv c)), (5, .pv (iv q)), (6, .pv (iv i))], [(gk, cs)], [], []⟩ [.c true, .j 32 i, .e 33 (iv x), .i 35 y, .j 36 i, .s cs', .i 38 (i + 1 : Nat), .c true, .j 44 i, .e 45 (iv y), .i 48 (i + 1 : Nat), .j 49 (i + 1), .e 50 (iv u), .i 52 q24, .i 53 s1, .i 54 s2, .i 55 s3, .j 56 i, .s cs2, .i 29 (i + 1 : Nat)] =
  some ((Xt.normal, St.mk [(0, AV.bs 1000000 o 1 m), (4, AV.pv (PV.lit (Value.int IntKind.i64 c))), (5, AV.pv (PV.lit (Value.int IntKind.i64 q))), (6, AV.pv (PV.lit (Value.int IntKind.i64 (↑(i + (1 : Nat)) : Int))))] [(1000000, cs2)] [] []), [], [decide ((↑i : Int) < (↑m : Int)) = true, AtIdx (↑i : Int) m i, Ld MD.P 3 cs (o + i * (1 : Nat)) (PV.lit (Value.int IntKind.i64 (↑x : Int))), (↑x : Int).fdiv ((2 : Int) ^ min q.toNat IntKind.i64.bits) = (↑y : Int), decide (q < (0 : Int)) = false, AtIdx (↑i : Int) m i, o + i * (1 : Nat) + (PV.lit (Value.int IntKind.i64 (↑y : Int))).cells.length ≤ cs.length, Spl cs (o + i * (1 : Nat)) [PV.lit (Value.int IntKind.i64 (↑y : Int))] cs', IntKind.i64.wrap ((↑i : Int) + (1 : Int)) = (↑(i + (1 : Nat)) : Int), decide ((↑(i + (1 : Nat)) : Int) < (↑m : Int)) = true, AtIdx (↑i : Int) m i, Ld MD.P 3 cs' (o + i * (1 : Nat)) (PV.lit (Value.int IntKind.i64 (↑y : Int))), IntKind.i64.wrap ((↑i : Int) + (1 : Int)) = (↑(i + (1 : Nat)) : Int), AtIdx (↑(i + (1 : Nat)) : Int) m (i + (1 : Nat)), Ld MD.P 3 cs' (o + (i + (1 : Nat)) * (1 : Nat)) (PV.lit (Value.int IntKind.i64 (↑u : Int))), IntKind.i64.wrap ((24 : Int) - q) = (↑q24 : Int), IntKind.i64.wrap ((↑u : Int) * (2 : Int) ^ min (↑q24 : Int).toNat IntKind.i64.bits) = (↑s1 : Int), decide ((↑q24 : Int) < (0 : Int)) = false, (↑s1 : Int).tmod (16777216 : Int) = (↑s2 : Int), false = false, IntKind.i64.wrap ((↑y : Int) + (↑s2 : Int)) = (↑s3 : Int), AtIdx (↑i : Int) m i, o + i * (1 : Nat) + (PV.lit (Value.int IntKind.i64 (↑s3 : Int))).cells.length ≤ cs'.length, Spl cs' (o + i * (1 : Nat)) [PV.lit (Value.int IntKind.i64 (↑s3 : Int))] cs2, IntKind.i64.wrap ((↑i : Int) + (1 : Int)) = (↑(i + (1 : Nat)) : Int)]) := by kernel_rfl
theorem odd0 (k o m n r : Nat) (c q f : Int) (cs cs' : List PV) : runMX MD t20 k 75 [.g cs 0 1 n] [.l (.exit 0) ⟨[(0, .bs gk o 1 m), (4, .pv (iv c)), (10, .pv (bv false))], [(gk, cs)], [], []⟩, .l (.exit 2) ⟨[(0, .bs gk o 1 m), (4, .pv (iv c)), (5, .pv (iv q)), (21, .pv (bv false))], [(gk, cs)], [], []⟩, .l (.exit 4) ⟨[(0, .bs gk o 1 m), (4, .pv (iv c)), (5, .pv (iv q)), (6, .pv (iv m)), (27, .pv (bv false))], [(gk, cs')], [], []⟩, .m (.gs o r) cs', .i 61 f] =
  some ((MR.gt o r [PV.lit (Value.int IntKind.i64 f)], cs'), [cs'.all litP' = true, cs'.length = cs.length, LoopIs MD t20 k (75 : Nat) (0 : Nat) (St.mk [(0, AV.bs 1000000 0 1 n), (4, AV.pv (PV.lit (Value.int IntKind.i64 (0 : Int))))] [(1000000, cs)] [] []) (Xt.exit 0) (St.mk [(0, AV.bs 1000000 o 1 m), (4, AV.pv (PV.lit (Value.int IntKind.i64 c))), (10, AV.pv (PV.lit (Value.bool false)))] [(1000000, cs)] [] []), LoopIs MD t20 k (75 : Nat) (1 : Nat) (St.mk [(0, AV.bs 1000000 o 1 m), (4, AV.pv (PV.lit (Value.int IntKind.i64 c))), (5, AV.pv (PV.lit (Value.int IntKind.i64 (0 : Int))))] [(1000000, cs)] [] []) (Xt.exit 2) (St.mk [(0, AV.bs 1000000 o 1 m), (4, AV.pv (PV.lit (Value.int IntKind.i64 c))), (5, AV.pv (PV.lit (Value.int IntKind.i64 q))), (21, AV.pv (PV.lit (Value.bool false)))] [(1000000, cs)] [] []), LoopIs MD t20 k (75 : Nat) (2 : Nat) (St.mk [(0, AV.bs 1000000 o 1 m), (4, AV.pv (PV.lit (Value.int IntKind.i64 c))), (5, AV.pv (PV.lit (Value.int IntKind.i64 q))), (6, AV.pv (PV.lit (Value.int IntKind.i64 (0 : Int))))] [(1000000, cs)] [] []) (Xt.exit 4) (St.mk [(0, AV.bs 1000000 o 1 m), (4, AV.pv (PV.lit (Value.int IntKind.i64 c))), (5, AV.pv (PV.lit (Value.int IntKind.i64 q))), (6, AV.pv (PV.lit (Value.int IntKind.i64 (↑m : Int)))), (27, AV.pv (PV.lit (Value.bool false)))] [(1000000, cs')] [] []), MutsTo t20 90 [MA.g cs' o 1 m] (MR.gs o r) cs', IntKind.i64.wrap (c + q) = f]) := by kernel_rfl
theorem and1 (y : Nat) (h : y < 2 ^ 63) : IntKind.i64.wrap (((BitVec.ofInt IntKind.i64.bits (y : Int) &&& BitVec.ofInt IntKind.i64.bits 1).toNat : Nat) : Int) = ((y % 2 : Nat) : Int) := by
  have e : (BitVec.ofInt IntKind.i64.bits (y : Int) &&& BitVec.ofInt IntKind.i64.bits 1).toNat = y % 2 := by
    rw [BitVec.toNat_and, show (1 : Int) = ((1 : Nat) : Int) from rfl, BitVec.ofInt_natCast, BitVec.ofInt_natCast, BitVec.toNat_ofNat, BitVec.toNat_ofNat]
    show y % 2 ^ 64 &&& 1 % 2 ^ 64 = y % 2
    rw [Nat.mod_eq_of_lt (by omega), show 1 % 2 ^ 64 = 1 by decide, Nat.and_one_is_mod]
  rw [e]
  exact w64n rfl (by omega)
theorem shlI {x r : Nat} {k : Int} (hk : k = (r : Int)) (hr : r < 64) (hb : x * 2 ^ r < 2 ^ 63) : IntKind.i64.wrap ((x : Int) * 2 ^ min k.toNat IntKind.i64.bits) = ((x * 2 ^ r : Nat) : Int) := by
  subst hk
  have e : min ((r : Int).toNat) IntKind.i64.bits = r := by rw [Int.toNat_natCast]; show min r 64 = r; omega
  rw [e]
  exact w64n (by norm_cast) hb
theorem ow_head {v : Nat} (h : 0 < v) : ∃ l, dg (16777216 : Nat) (ow v) = (ow v % (16777216 : Nat)) :: l ∧ 0 < ow v % (16777216 : Nat) := by
  refine ⟨_, dg_pos (by decide) (ow_pos h), ?_⟩
  rcases Nat.eq_zero_or_pos (ow v % (16777216 : Nat)) with h0 | h0
  · have := ow_bit1 h
    rw [show (16777216 : Nat) = (16777216 : Nat) from rfl, h0] at this; simp at this
  · exact h0
theorem oda_loop (k v : Nat) (hv : 0 < v) (hb : (dg (16777216 : Nat) v).length < 2 ^ 40) : ∀ j o, o + j = oz v → loopN (roundM MD t20 k 75 0) (j + 1) ⟨[(0, .bs gk o 1 (j + (dg (16777216 : Nat) (ow v)).length)), (4, .pv (iv (24 * o : Nat)))], [(gk, (List.replicate (oz v) 0 ++ dg (16777216 : Nat) (ow v)).map ivn)], [], []⟩ = some (.exit 0, ⟨[(0, .bs gk (oz v) 1 (dg (16777216 : Nat) (ow v)).length), (4, .pv (iv (24 * oz v : Nat))), (10, .pv (bv false))], [(gk, (List.replicate (oz v) 0 ++ dg (16777216 : Nat) (ow v)).map ivn)], [], []⟩)
  | 0, o, h => by
    have ho : o = oz v := by omega
    subst ho
    rw [Nat.zero_add, Nat.zero_add]
    obtain ⟨l, e1, hx⟩ := ow_head hv
    have el : (dg (16777216 : Nat) (ow v)).length = l.length + 1 := by rw [e1]; rfl
    have hg : (List.replicate (oz v) 0 ++ dg (16777216 : Nat) (ow v))[oz v]? = some (ow v % (16777216 : Nat)) := by
      rw [e1, List.getElem?_append_right (by simp)]; simp
    exact loopN_exit (roundX_ok (oda0 k _ _ _ _ _) ⟨⟨rfl, by omega⟩, ld_i hg rfl, beq_false_of_ne (by omega), trivial⟩) (by simp)
  | j + 1, o, h => by
    have hg : (List.replicate (oz v) 0 ++ dg (16777216 : Nat) (ow v))[o]? = some 0 := by
      rw [List.getElem?_append_left (by simp; omega), List.getElem?_replicate, if_pos (by omega)]
    have ho : oz v < 2 ^ 40 := by
      have := dg_zeros (b := (16777216 : Nat)) (by decide) (ow_pos hv) (oz v)
      rw [ow_eq hv] at this
      have := congrArg List.length this
      rw [List.length_append, List.length_replicate] at this
      omega
    have key := oda1 k o (j + 1 + (dg (16777216 : Nat) (ow v)).length) 0 (24 * o : Nat) (24 * (o + 1) : Nat) ((List.replicate (oz v) 0 ++ dg (16777216 : Nat) (ow v)).map ivn)
    rw [show j + 1 + (dg (16777216 : Nat) (ow v)).length - 1 = j + (dg (16777216 : Nat) (ow v)).length by omega] at key
    exact loopN_next (roundX_ok key ⟨⟨rfl, by omega⟩, ld_i hg rfl, rfl, ⟨by omega, by omega, by omega⟩, rfl, by show _ - 1 = _; omega, w64n (by omega) (by omega), trivial⟩) (oda_loop k v hv hb j (o + 1) (by omega))
theorem odb_loop (k v : Nat) (c : Int) (hv : 0 < v) : ∀ j i, i + j = ok' v → loopN (roundM MD t20 k 75 1) (j + 1) ⟨[(0, .bs gk (oz v) 1 (dg (16777216 : Nat) (ow v)).length), (4, .pv (iv c)), (5, .pv (iv i))], [(gk, (List.replicate (oz v) 0 ++ dg (16777216 : Nat) (ow v)).map ivn)], [], []⟩ = some (.exit 2, ⟨[(0, .bs gk (oz v) 1 (dg (16777216 : Nat) (ow v)).length), (4, .pv (iv c)), (5, .pv (iv (ok' v))), (21, .pv (bv false))], [(gk, (List.replicate (oz v) 0 ++ dg (16777216 : Nat) (ow v)).map ivn)], [], []⟩) := by
  have hok := ok_lt v
  obtain ⟨l, e1, hx⟩ := ow_head hv
  have el : (dg (16777216 : Nat) (ow v)).length = l.length + 1 := by rw [e1]; rfl
  have hg : (List.replicate (oz v) 0 ++ dg (16777216 : Nat) (ow v))[oz v]? = some (ow v % (16777216 : Nat)) := by
    rw [e1, List.getElem?_append_right (by simp)]; simp
  have hlt : ow v % (16777216 : Nat) < (16777216 : Nat) := Nat.mod_lt _ (by decide)
  intro j
  induction j with
  | zero =>
    intro i h
    have hi : i = ok' v := by omega
    subst hi
    have hb := ow_bit1 hv
    have hle := Nat.div_le_self (ow v % (16777216 : Nat)) (2 ^ ok' v)
    exact loopN_exit (roundX_ok (odb0 k _ _ (ow v % (16777216 : Nat)) (ok' v) ((ow v % (16777216 : Nat)) / 2 ^ ok' v) ((ow v % (16777216 : Nat)) / 2 ^ ok' v % 2) c _) ⟨⟨rfl, by omega⟩, ld_i hg rfl, shrI rfl (by omega), decide_eq_false (by omega), and1 _ (by omega), beq_false_of_ne (by rw [show (16777216 : Nat) = (16777216 : Nat) from rfl, hb]; decide), trivial⟩) (by simp)
  | succ j ih =>
    intro i h
    have hb := ow_bit (v := v) (j := i) (by omega)
    have hle := Nat.div_le_self (ow v % (16777216 : Nat)) (2 ^ i)
    exact loopN_next (roundX_ok (odb1 k _ _ (ow v % (16777216 : Nat)) i ((ow v % (16777216 : Nat)) / 2 ^ i) ((ow v % (16777216 : Nat)) / 2 ^ i % 2) c _) ⟨⟨rfl, by omega⟩, ld_i hg rfl, shrI rfl (by omega), decide_eq_false (by omega), and1 _ (by omega), by rw [show (16777216 : Nat) = (16777216 : Nat) from rfl, hb]; rfl, w64n (by omega) (by omega), trivial⟩) (ih (i + 1) (by omega))
theorem set_app {l m : List Nat} {i y : Nat} : (l ++ m).set (l.length + i) y = l ++ m.set i y := by
  rw [List.set_append_right _ _ (by omega), Nat.add_sub_cancel_left]
theorem get_app {l m : List Nat} {i x : Nat} (h : m[i]? = some x) : (l ++ m)[l.length + i]? = some x := by
  rw [List.getElem?_append_right (by omega), Nat.add_sub_cancel_left]; exact h
def SC (v i : Nat) (c : Int) (e : List (Nat × AV)) : St := ⟨(0, .bs gk (oz v) 1 (dg (16777216 : Nat) (ow v)).length) :: (4, .pv (iv c)) :: (5, .pv (iv (ok' v))) :: (6, .pv (iv i)) :: e, [(gk, (List.replicate (oz v) 0 ++ shrAt (ok' v) (dg (16777216 : Nat) (ow v)) i).map ivn)], [], []⟩
theorem odc_round (k v i : Nat) (c : Int) (hi : i < (dg (16777216 : Nat) (ow v)).length) (hb : (dg (16777216 : Nat) (ow v)).length < 2 ^ 40) : roundM MD t20 k 75 2 (SC v i c []) = some (.normal, SC v (i + 1) c []) := by
  have hok := ok_lt v
  obtain ⟨x, hx⟩ := get_some hi
  have hxl := dig_get (dig_dg (b := (16777216 : Nat)) (by decide) (ow v)) hx
  have hst := shrAt_step (k := ok' v) hx
  have hg0 := shrAt_get (k := ok' v) hx
  have hz : (List.replicate (oz v) 0).length = oz v := List.length_replicate
  have hle := Nat.div_le_self x (2 ^ ok' v)
  generalize hW : dg (16777216 : Nat) (ow v) = W at *
  have ll := shrAt_len (ok' v) W i
  have hg : (List.replicate (oz v) 0 ++ shrAt (ok' v) W i)[oz v + i]? = some x := by
    have := get_app (l := List.replicate (oz v) 0) hg0; rwa [hz] at this
  have hld := ld_i hg (o := oz v + i * 1) (by omega)
  have hle1 : ∀ y, oz v + i * 1 + (ivn y).cells.length ≤ ((List.replicate (oz v) 0 ++ shrAt (ok' v) W i).map ivn).length := by
    intro y
    rw [List.length_map, List.length_append, hz, ll]; show _ + 1 ≤ _; omega
  have hsp : ∀ y, Spl ((List.replicate (oz v) 0 ++ shrAt (ok' v) W i).map ivn) (oz v + i * 1) [ivn y] ((List.replicate (oz v) 0 ++ (shrAt (ok' v) W i).set i y).map ivn) := by
    intro y
    refine spl_c (i := oz v + i) ?_ (by rw [List.length_append, hz, ll]; omega) (by omega)
    have := set_app (l := List.replicate (oz v) 0) (m := shrAt (ok' v) W i) (i := i) (y := y)
    rwa [hz] at this
  unfold SC
  rw [hW]
  cases hn : W[i + 1]? with
  | none =>
    rw [hn] at hst
    simp only [Nat.add_zero] at hst
    have hlast : W.length ≤ i + 1 := List.getElem?_eq_none_iff.1 hn
    have h1 := hsp (x / 2 ^ ok' v)
    rw [hst] at h1
    have key := odc1 k (oz v) W.length i x (x / 2 ^ ok' v) c (ok' v) ((List.replicate (oz v) 0 ++ shrAt (ok' v) W i).map ivn) ((List.replicate (oz v) 0 ++ shrAt (ok' v) W (i + 1)).map ivn)
    exact roundX_ok key ⟨decide_eq_true (by omega), ⟨rfl, hi⟩, hld, shrI rfl (by omega), decide_eq_false (by omega), ⟨rfl, hi⟩, hle1 _, h1, w64n (by omega) (by omega), decide_eq_false (by omega), w64n (by omega) (by omega), trivial⟩
  | some u =>
    rw [hn] at hst
    simp only at hst
    have hul := get_lt hn
    have hub : u < (16777216 : Nat) := dig_get (hW ▸ dig_dg (b := (16777216 : Nat)) (by decide) (ow v)) hn
    have hg1 := shrAt_get1 (k := ok' v) hn (x / 2 ^ ok' v)
    have l2 : ((shrAt (ok' v) W i).set i (x / 2 ^ ok' v)).length = W.length := by rw [List.length_set, ll]
    have hgu : (List.replicate (oz v) 0 ++ (shrAt (ok' v) W i).set i (x / 2 ^ ok' v))[oz v + (i + 1)]? = some u := by
      have := get_app (l := List.replicate (oz v) 0) hg1; rwa [hz] at this
    have hgy : (List.replicate (oz v) 0 ++ (shrAt (ok' v) W i).set i (x / 2 ^ ok' v))[oz v + i]? = some (x / 2 ^ ok' v) := by
      have := get_app (l := List.replicate (oz v) 0) (m := (shrAt (ok' v) W i).set i (x / 2 ^ ok' v)) (i := i) (x := x / 2 ^ ok' v) (by rw [List.getElem?_set_self (by omega)])
      rwa [hz] at this
    have hp : u * 2 ^ (24 - ok' v) < 2 ^ 48 := by
      have h1 : 2 ^ (24 - ok' v) ≤ 2 ^ 24 := Nat.pow_le_pow_right (by decide) (by omega)
      calc u * 2 ^ (24 - ok' v) ≤ u * 2 ^ 24 := Nat.mul_le_mul_left _ h1
        _ < 2 ^ 24 * 2 ^ 24 := Nat.mul_lt_mul_of_pos_right hub (by decide)
        _ = 2 ^ 48 := by decide
    obtain ⟨s2, hs2⟩ : ∃ s2, s2 = u * 2 ^ (24 - ok' v) % (16777216 : Nat) := ⟨_, rfl⟩
    have hs2l : s2 < (16777216 : Nat) := by rw [hs2]; exact Nat.mod_lt _ (by decide)
    have hsp2 : Spl ((List.replicate (oz v) 0 ++ (shrAt (ok' v) W i).set i (x / 2 ^ ok' v)).map ivn) (oz v + i * 1) [ivn (x / 2 ^ ok' v + s2)] ((List.replicate (oz v) 0 ++ shrAt (ok' v) W (i + 1)).map ivn) := by
      refine spl_c (i := oz v + i) ?_ (by rw [List.length_append, hz, l2]; omega) (by omega)
      have := set_app (l := List.replicate (oz v) 0) (m := (shrAt (ok' v) W i).set i (x / 2 ^ ok' v)) (i := i) (y := x / 2 ^ ok' v + s2)
      rw [hz, List.set_set] at this
      rw [hs2, show (16777216 : Nat) = 2 ^ 24 by decide] at this
      rw [hs2, show (16777216 : Nat) = 2 ^ 24 by decide, this, hst]
    have hle2 : oz v + i * 1 + (ivn (x / 2 ^ ok' v + s2)).cells.length ≤ ((List.replicate (oz v) 0 ++ (shrAt (ok' v) W i).set i (x / 2 ^ ok' v)).map ivn).length := by
      rw [List.length_map, List.length_append, hz, l2]; show _ + 1 ≤ _; omega
    have key := odc2 k (oz v) W.length i x (x / 2 ^ ok' v) u (24 - ok' v) (u * 2 ^ (24 - ok' v)) s2 (x / 2 ^ ok' v + s2) c (ok' v) ((List.replicate (oz v) 0 ++ shrAt (ok' v) W i).map ivn) ((List.replicate (oz v) 0 ++ (shrAt (ok' v) W i).set i (x / 2 ^ ok' v)).map ivn) ((List.replicate (oz v) 0 ++ shrAt (ok' v) W (i + 1)).map ivn)
    exact roundX_ok key ⟨decide_eq_true (by omega), ⟨rfl, hi⟩, hld, shrI rfl (by omega), decide_eq_false (by omega), ⟨rfl, hi⟩, hle1 _, hsp _, w64n (by omega) (by omega), decide_eq_true (by omega), ⟨rfl, hi⟩, ld_i hgy (by omega), w64n (by omega) (by omega), ⟨rfl, by omega⟩, ld_i hgu (by omega), w64n (by omega) (by omega), shlI rfl (by omega) (by omega), decide_eq_false (by omega), by rw [hs2]; exact tmodn _ _, rfl, w64n (by omega) (by omega), ⟨rfl, hi⟩, hle2, hsp2, w64n (by omega) (by omega), trivial⟩
/-- The reference's removal of factors 2, in an array of the caller's. -/
theorem rodd_is (v : Nat) (hv : 0 < v) (hb : (dg (16777216 : Nat) v).length < 2 ^ 39) : MutIs P0 75 [.g ((dg (16777216 : Nat) v).map ivn) 0 1 (dg (16777216 : Nat) v).length] (.gt (oz v) (dg (16777216 : Nat) (od v)).length [iv (tz v)]) ((oddL v).map ivn) := by
  have hz : (List.replicate (oz v) 0).length = oz v := List.length_replicate
  have e0 := dg_zeros (b := (16777216 : Nat)) (by decide) (ow_pos hv) (oz v)
  rw [ow_eq hv] at e0
  have el : (dg (16777216 : Nat) v).length = oz v + (dg (16777216 : Nat) (ow v)).length := by rw [e0, List.length_append, hz]
  obtain ⟨k, hk⟩ : ∃ k, k = (dg (16777216 : Nat) v).length + 30 := ⟨_, rfl⟩
  have hok := ok_lt v
  have l1 := loopN_le (show oz v + 1 ≤ k by omega) (oda_loop k v hv (by omega) (oz v) 0 (by omega))
  have l2 := loopN_le (show ok' v + 1 ≤ k by omega) (odb_loop k v ((24 * oz v : Nat) : Int) hv (ok' v) 0 (by omega))
  have l3 := loopN_chain (f := roundM MD t20 k 75 2) (S := fun i => SC v i ((24 * oz v : Nat) : Int) []) (n := (dg (16777216 : Nat) (ow v)).length) (fun i hi => odc_round k v i _ hi (by omega))
    (roundX_ok (odc0 k (oz v) (dg (16777216 : Nat) (ow v)).length (dg (16777216 : Nat) (ow v)).length _ _ _) ⟨decide_eq_false (by omega), trivial⟩) (by simp) k (by omega)
  unfold SC at l3
  rw [shrAt_zero, shrAt_end] at l3
  have tr := rtrimM_at (p := List.replicate (oz v) 0) (l := shr (ok' v) (dg (16777216 : Nat) (ow v))) (by rw [shr_len]; omega) (oddL_dig v)
  rw [show (16777216 : Nat) = (16777216 : Nat) from rfl, oddL_val hv, hz, shr_len] at tr
  have hlen : ((oddL v).map ivn).length = ((dg (16777216 : Nat) v).map ivn).length := by
    rw [List.length_map, List.length_map, oddL, List.length_append, shr_len, hz, el]
  rw [← el, ← e0] at l1
  have hw : IntKind.i64.wrap (((24 * oz v : Nat) : Int) + ((ok' v : Nat) : Int)) = ((tz v : Nat) : Int) := by
    refine w64n ?_ ?_
    · unfold oz ok'; omega
    · have : tz v = 24 * oz v + ok' v := by unfold oz ok'; omega
      omega
  rw [← e0] at l2
  rw [← e0] at l3
  exact runMX_is machOkD t20_ok (by rfl) (odd0 k (oz v) (dg (16777216 : Nat) (ow v)).length (dg (16777216 : Nat) v).length _ ((24 * oz v : Nat) : Int) (ok' v : Nat) (tz v : Nat) ((dg (16777216 : Nat) v).map ivn) ((oddL v).map ivn)) ⟨litP_ivn _, hlen, l1, l2, l3, tr, hw, trivial⟩
end Go.Proofs.YtibbgjafjhcemaaDoor.Cul
/-! B21 -/
set_option linter.unusedVariables false
set_option linter.unusedSimpArgs false
set_option maxRecDepth 100000
set_option maxHeartbeats 2000000
namespace Go.Proofs.YtibbgjafjhcemaaDoor.Cul
open Go Go.RowKit
noncomputable def rofT : List PV → Option RV := spE (fun n : Int => -(2 ^ 63) ≤ n ∧ n < 2 ^ 63) (fun n => [iv n]) (fun n => one (.ag (zc n)))
noncomputable def rsmallT : List PV → Option RV := spE (fun z : Int => (magS z.natAbs).size ≤ 7) (fun z => [.ag (zc z)]) (fun z => one (.tup [iv z, bv true]))
noncomputable def rdigT : List PV → Option RV := spE (fun v : Nat => (magS v).size < 2 ^ 30 ∧ 0 < v) (fun v => [sv (magS v)]) (fun v => ⟨ni (dg (16777216 : Nat) v), some 1⟩)
noncomputable def rdigT0 : List PV → Option RV := spE (fun v : Nat => (magS v).size < 2 ^ 30) (fun v => [sv (magS v)]) (fun v => one (ni (dg (16777216 : Nat) v)))
noncomputable def rplusT : List PV → Option RV := spE (fun x : Nat × Nat => (dg (16777216 : Nat) x.1).length < 2 ^ 39 ∧ (dg (16777216 : Nat) x.2).length < 2 ^ 39) (fun x => [ni (dg (16777216 : Nat) x.1), ni (dg (16777216 : Nat) x.2)]) (fun x => ⟨ni (dg (16777216 : Nat) (x.1 + x.2)), some 1⟩)
noncomputable def rminusT : List PV → Option RV := spE (fun x : Nat × Nat => x.2 ≤ x.1 ∧ 0 < x.1 ∧ (dg (16777216 : Nat) x.1).length < 2 ^ 39) (fun x => [ni (dg (16777216 : Nat) x.1), ni (dg (16777216 : Nat) x.2)]) (fun x => ⟨ni (dg (16777216 : Nat) (x.1 - x.2)), some 1⟩)
noncomputable def rtwiceT : List PV → Option RV := spE (fun a : Nat => (dg (16777216 : Nat) a).length < 2 ^ 39) (fun a => [ni (dg (16777216 : Nat) a), iv 0]) (fun a => one (ni (dg (16777216 : Nat) (2 * a))))
noncomputable def rorderT : List PV → Option RV := spE (fun x : Nat × Nat => (dg (16777216 : Nat) x.1).length < 2 ^ 40 ∧ (dg (16777216 : Nat) x.2).length < 2 ^ 40) (fun x => [ni (dg (16777216 : Nat) x.1), ni (dg (16777216 : Nat) x.2)]) (fun x => one (iv (ordI x.1 x.2)))
noncomputable def roddM : List MA → Option (MR × List PV) := spM (fun v : Nat => 0 < v ∧ (dg (16777216 : Nat) v).length < 2 ^ 39) (fun v => [.g ((dg (16777216 : Nat) v).map ivn) 0 1 (dg (16777216 : Nat) v).length]) (fun v => (.gt (oz v) (dg (16777216 : Nat) (od v)).length [iv (tz v)], (oddL v).map ivn))
noncomputable def t24 : Cl := tabC [(58, validT), (61, rofT), (71, rsmallT), (72, rdigT), (73, sgnedT), (76, rorderT), (77, rminusT), (78, rtwiceT)] [(75, roddM)] [(72, 58), (72, 61), (77, 96)]
noncomputable def t25 : Cl := tabF [(58, validT), (72, rdigT0), (73, sgnedT), (74, rplusT)]
theorem gA (k : Nat) (g h : Bool) (s t : ByteArray) : runX MD t24 k 59 [iz g s, iz h t] [.r (one (bv false))] =
  some (RV.mk (PV.ag [PV.lit (Value.bool false), PV.lit (Value.string (ByteArray.mk #[]))]) none, [CallsTo t24 58 [PV.ag [PV.lit (Value.bool g), PV.lit (Value.string s)]] (RV.mk (PV.lit (Value.bool false)) none)]) := by kernel_rfl
theorem gB (k : Nat) (g h : Bool) (s t : ByteArray) : runX MD t24 k 59 [iz g s, iz h t] [.r (one (bv true)), .r (one (bv false))] =
  some (RV.mk (PV.ag [PV.lit (Value.bool false), PV.lit (Value.string (ByteArray.mk #[]))]) none, [CallsTo t24 58 [PV.ag [PV.lit (Value.bool g), PV.lit (Value.string s)]] (RV.mk (PV.lit (Value.bool true)) none), CallsTo t24 58 [PV.ag [PV.lit (Value.bool h), PV.lit (Value.string t)]] (RV.mk (PV.lit (Value.bool false)) none)]) := by kernel_rfl
theorem gC (k : Nat) (g h : Bool) (s t : ByteArray) (n0 m0 n : Int) (e : Bool) (u : ByteArray) : runX MD t24 k 59 [iz g s, iz h t] [.r (one (bv true)), .r (one (bv true)), .c true, .c true, .r (one (.tup [iv n0, bv true])), .r (one (.tup [iv m0, bv true])), .l (.exit 0) ⟨[(4, .bp 4 0), (5, .pv (iv n)), (7, .pv (iv 0)), (49, .pv (bv false))], [(4, [bv false, sv ⟨#[]⟩])], [], []⟩, .r (one (iz e u))] =
  some (RV.mk (PV.ag [PV.lit (Value.bool e), PV.lit (Value.string u)]) none, [CallsTo t24 58 [PV.ag [PV.lit (Value.bool g), PV.lit (Value.string s)]] (RV.mk (PV.lit (Value.bool true)) none), CallsTo t24 58 [PV.ag [PV.lit (Value.bool h), PV.lit (Value.string t)]] (RV.mk (PV.lit (Value.bool true)) none), decide ((↑s.size : Int) ≤ (7 : Int)) = true, decide ((↑t.size : Int) ≤ (7 : Int)) = true, CallsTo t24 71 [PV.ag [PV.lit (Value.bool false), PV.lit (Value.string s)]] (RV.mk (PV.tup [PV.lit (Value.int IntKind.i64 n0), PV.lit (Value.bool true)]) none), CallsTo t24 71 [PV.ag [PV.lit (Value.bool false), PV.lit (Value.string t)]] (RV.mk (PV.tup [PV.lit (Value.int IntKind.i64 m0), PV.lit (Value.bool true)]) none), LoopIs MD t24 k (59 : Nat) (0 : Nat) (St.mk [(4, AV.bp 4 0), (5, AV.pv (PV.lit (Value.int IntKind.i64 n0))), (7, AV.pv (PV.lit (Value.int IntKind.i64 m0)))] [(4, [PV.lit (Value.bool false), PV.lit (Value.string (ByteArray.mk #[]))])] [] []) (Xt.exit 0) (St.mk [(4, AV.bp 4 0), (5, AV.pv (PV.lit (Value.int IntKind.i64 n))), (7, AV.pv (PV.lit (Value.int IntKind.i64 (0 : Int)))), (49, AV.pv (PV.lit (Value.bool false)))] [(4, [PV.lit (Value.bool false), PV.lit (Value.string (ByteArray.mk #[]))])] [] []), CallsTo t24 61 [PV.lit (Value.int IntKind.i64 n)] (RV.mk (PV.ag [PV.lit (Value.bool e), PV.lit (Value.string u)]) none)]) := by kernel_rfl
theorem gC0 (k : Nat) (n m : Int) : roundX MD t24 k 59 0 ⟨[(4, .bp 4 0), (5, .pv (iv n)), (7, .pv (iv m))], [(4, [bv false, sv ⟨#[]⟩])], [], []⟩ [.c false] =
  some ((Xt.exit 0, St.mk [(4, AV.bp 4 0), (5, AV.pv (PV.lit (Value.int IntKind.i64 n))), (7, AV.pv (PV.lit (Value.int IntKind.i64 m))), (49, AV.pv (PV.lit (Value.bool false)))] [(4, [PV.lit (Value.bool false), PV.lit (Value.string (ByteArray.mk #[]))])] [] []), [], [(m != (0 : Int)) = false]) := by kernel_rfl
theorem gC1 (k : Nat) (n m r : Int) : roundX MD t24 k 59 0 ⟨[(4, .bp 4 0), (5, .pv (iv n)), (7, .pv (iv m))], [(4, [bv false, sv ⟨#[]⟩])], [], []⟩ [.c true, .i 53 r] =
  some ((Xt.normal, St.mk [(4, AV.bp 4 0), (5, AV.pv (PV.lit (Value.int IntKind.i64 m))), (7, AV.pv (PV.lit (Value.int IntKind.i64 r)))] [(4, [PV.lit (Value.bool false), PV.lit (Value.string (ByteArray.mk #[]))])] [] []), [], [(m != (0 : Int)) = true, n.tmod m = r, decide (m = (0 : Int)) = false]) := by kernel_rfl
theorem gD0 (k n m p : Nat) (g h e : Bool) (s t u : ByteArray) (cs ds es : List PV) : runX MD t25 k 59 [iz g s, iz h t] [.r (one (bv true)), .r (one (bv true)), .c true, .c false, .r (one (.sl 1 n cs)), .r (one (.sl 1 m ds)), .c true, .r ⟨.sl 1 p es, some 1⟩, .r (one (iz e u))] =
  some (RV.mk (PV.ag [PV.lit (Value.bool e), PV.lit (Value.string u)]) none, [CallsTo t25 58 [PV.ag [PV.lit (Value.bool g), PV.lit (Value.string s)]] (RV.mk (PV.lit (Value.bool true)) none), CallsTo t25 58 [PV.ag [PV.lit (Value.bool h), PV.lit (Value.string t)]] (RV.mk (PV.lit (Value.bool true)) none), decide ((↑s.size : Int) ≤ (7 : Int)) = true, decide ((↑t.size : Int) ≤ (7 : Int)) = false, CallsTo t25 72 [PV.lit (Value.string s)] (RV.mk (PV.sl 1 n cs) none), CallsTo t25 72 [PV.lit (Value.string t)] (RV.mk (PV.sl 1 m ds) none), ((↑n : Int) == (0 : Int)) = true, CallsTo t25 74 [PV.sl 1 n cs, PV.sl 1 m ds] (RV.mk (PV.sl 1 p es) (some 1)), CallsTo t25 73 [PV.lit (Value.bool false), PV.sl 1 p es] (RV.mk (PV.ag [PV.lit (Value.bool e), PV.lit (Value.string u)]) none)]) := by kernel_rfl
theorem gD1 (k n m p : Nat) (g h e : Bool) (s t u : ByteArray) (cs ds es : List PV) : runX MD t25 k 59 [iz g s, iz h t] [.r (one (bv true)), .r (one (bv true)), .c false, .r (one (.sl 1 n cs)), .r (one (.sl 1 m ds)), .c false, .c true, .r ⟨.sl 1 p es, some 1⟩, .r (one (iz e u))] =
  some (RV.mk (PV.ag [PV.lit (Value.bool e), PV.lit (Value.string u)]) none, [CallsTo t25 58 [PV.ag [PV.lit (Value.bool g), PV.lit (Value.string s)]] (RV.mk (PV.lit (Value.bool true)) none), CallsTo t25 58 [PV.ag [PV.lit (Value.bool h), PV.lit (Value.string t)]] (RV.mk (PV.lit (Value.bool true)) none), decide ((↑s.size : Int) ≤ (7 : Int)) = false, CallsTo t25 72 [PV.lit (Value.string s)] (RV.mk (PV.sl 1 n cs) none), CallsTo t25 72 [PV.lit (Value.string t)] (RV.mk (PV.sl 1 m ds) none), ((↑n : Int) == (0 : Int)) = false, ((↑m : Int) == (0 : Int)) = true, CallsTo t25 74 [PV.sl 1 n cs, PV.sl 1 m ds] (RV.mk (PV.sl 1 p es) (some 1)), CallsTo t25 73 [PV.lit (Value.bool false), PV.sl 1 p es] (RV.mk (PV.ag [PV.lit (Value.bool e), PV.lit (Value.string u)]) none)]) := by kernel_rfl
theorem gE0 (k n m o1 r1 o2 r2 r r' : Nat) (g h e : Bool) (s t u : ByteArray) (a b j : Int) (cs ds cs1 ds1 xs ys : List PV) : runX MD t24 k 59 [iz g s, iz h t] [.r (one (bv true)), .r (one (bv true)), .c true, .c false, .r ⟨.sl 1 n cs, some 1⟩, .r ⟨.sl 1 m ds, some 1⟩, .c false, .c false, .m (.gt o1 r1 [iv a]) cs1, .m (.gt o2 r2 [iv b]) ds1, .l (.exit 2) ⟨[(4, .bp 4 0), (9, .pv (.sl 1 r xs)), (10, .pv (.sl 1 r xs)), (11, .pv (iv a)), (12, .pv (iv b)), (13, .pv (iv 0)), (88, .pv (bv true))], [(4, [bv false, sv ⟨#[]⟩])], [], []⟩, .l (.exit 4) ⟨[(4, .bp 4 0), (9, .pv (.sl 1 r' ys)), (11, .pv (iv a)), (12, .pv (iv b)), (14, .pv (iv j)), (104, .pv (bv false))], [(4, [bv false, sv ⟨#[]⟩])], [], []⟩, .r (one (iz e u))] =
  some (RV.mk (PV.ag [PV.lit (Value.bool e), PV.lit (Value.string u)]) none, [CallsTo t24 58 [PV.ag [PV.lit (Value.bool g), PV.lit (Value.string s)]] (RV.mk (PV.lit (Value.bool true)) none), CallsTo t24 58 [PV.ag [PV.lit (Value.bool h), PV.lit (Value.string t)]] (RV.mk (PV.lit (Value.bool true)) none), decide ((↑s.size : Int) ≤ (7 : Int)) = true, decide ((↑t.size : Int) ≤ (7 : Int)) = false, CallsTo t24 72 [PV.lit (Value.string s)] (RV.mk (PV.sl 1 n cs) (some 1)), cs.all litP' = true, CallsTo t24 72 [PV.lit (Value.string t)] (RV.mk (PV.sl 1 m ds) (some 1)), ds.all litP' = true, ((↑n : Int) == (0 : Int)) = false, ((↑m : Int) == (0 : Int)) = false, MutsTo t24 75 [MA.g cs 0 1 n] (MR.gt o1 r1 [PV.lit (Value.int IntKind.i64 a)]) cs1, MutsTo t24 75 [MA.g ds 0 1 m] (MR.gt o2 r2 [PV.lit (Value.int IntKind.i64 b)]) ds1, LoopIs MD t24 k (59 : Nat) (1 : Nat) (St.mk [(4, AV.bp 4 0), (9, AV.bs 58 o1 1 r1), (10, AV.bs 61 o2 1 r2), (11, AV.pv (PV.lit (Value.int IntKind.i64 a))), (12, AV.pv (PV.lit (Value.int IntKind.i64 b)))] [(4, [PV.lit (Value.bool false), PV.lit (Value.string (ByteArray.mk #[]))]), (58, cs1), (61, ds1)] [] []) (Xt.exit 2) (St.mk [(4, AV.bp 4 0), (9, AV.pv (PV.sl 1 r xs)), (10, AV.pv (PV.sl 1 r xs)), (11, AV.pv (PV.lit (Value.int IntKind.i64 a))), (12, AV.pv (PV.lit (Value.int IntKind.i64 b))), (13, AV.pv (PV.lit (Value.int IntKind.i64 (0 : Int)))), (88, AV.pv (PV.lit (Value.bool true)))] [(4, [PV.lit (Value.bool false), PV.lit (Value.string (ByteArray.mk #[]))])] [] []), LoopIs MD t24 k (59 : Nat) (2 : Nat) (St.mk [(4, AV.bp 4 0), (9, AV.pv (PV.sl 1 r xs)), (11, AV.pv (PV.lit (Value.int IntKind.i64 a))), (12, AV.pv (PV.lit (Value.int IntKind.i64 b))), (14, AV.pv (PV.lit (Value.int IntKind.i64 (0 : Int))))] [(4, [PV.lit (Value.bool false), PV.lit (Value.string (ByteArray.mk #[]))])] [] []) (Xt.exit 4) (St.mk [(4, AV.bp 4 0), (9, AV.pv (PV.sl 1 r' ys)), (11, AV.pv (PV.lit (Value.int IntKind.i64 a))), (12, AV.pv (PV.lit (Value.int IntKind.i64 b))), (14, AV.pv (PV.lit (Value.int IntKind.i64 j))), (104, AV.pv (PV.lit (Value.bool false)))] [(4, [PV.lit (Value.bool false), PV.lit (Value.string (ByteArray.mk #[]))])] [] []), CallsTo t24 73 [PV.lit (Value.bool false), PV.sl 1 r' ys] (RV.mk (PV.ag [PV.lit (Value.bool e), PV.lit (Value.string u)]) none)]) := by kernel_rfl
theorem gE1 (k n m o1 r1 o2 r2 r r' : Nat) (g h e : Bool) (s t u : ByteArray) (a b j : Int) (cs ds cs1 ds1 xs ys : List PV) : runX MD t24 k 59 [iz g s, iz h t] [.r (one (bv true)), .r (one (bv true)), .c false, .r ⟨.sl 1 n cs, some 1⟩, .r ⟨.sl 1 m ds, some 1⟩, .c false, .c false, .m (.gt o1 r1 [iv a]) cs1, .m (.gt o2 r2 [iv b]) ds1, .l (.exit 2) ⟨[(4, .bp 4 0), (9, .pv (.sl 1 r xs)), (10, .pv (.sl 1 r xs)), (11, .pv (iv a)), (12, .pv (iv b)), (13, .pv (iv 0)), (88, .pv (bv true))], [(4, [bv false, sv ⟨#[]⟩])], [], []⟩, .l (.exit 4) ⟨[(4, .bp 4 0), (9, .pv (.sl 1 r' ys)), (11, .pv (iv a)), (12, .pv (iv b)), (14, .pv (iv j)), (104, .pv (bv false))], [(4, [bv false, sv ⟨#[]⟩])], [], []⟩, .r (one (iz e u))] =
  some (RV.mk (PV.ag [PV.lit (Value.bool e), PV.lit (Value.string u)]) none, [CallsTo t24 58 [PV.ag [PV.lit (Value.bool g), PV.lit (Value.string s)]] (RV.mk (PV.lit (Value.bool true)) none), CallsTo t24 58 [PV.ag [PV.lit (Value.bool h), PV.lit (Value.string t)]] (RV.mk (PV.lit (Value.bool true)) none), decide ((↑s.size : Int) ≤ (7 : Int)) = false, CallsTo t24 72 [PV.lit (Value.string s)] (RV.mk (PV.sl 1 n cs) (some 1)), cs.all litP' = true, CallsTo t24 72 [PV.lit (Value.string t)] (RV.mk (PV.sl 1 m ds) (some 1)), ds.all litP' = true, ((↑n : Int) == (0 : Int)) = false, ((↑m : Int) == (0 : Int)) = false, MutsTo t24 75 [MA.g cs 0 1 n] (MR.gt o1 r1 [PV.lit (Value.int IntKind.i64 a)]) cs1, MutsTo t24 75 [MA.g ds 0 1 m] (MR.gt o2 r2 [PV.lit (Value.int IntKind.i64 b)]) ds1, LoopIs MD t24 k (59 : Nat) (1 : Nat) (St.mk [(4, AV.bp 4 0), (9, AV.bs 58 o1 1 r1), (10, AV.bs 61 o2 1 r2), (11, AV.pv (PV.lit (Value.int IntKind.i64 a))), (12, AV.pv (PV.lit (Value.int IntKind.i64 b)))] [(4, [PV.lit (Value.bool false), PV.lit (Value.string (ByteArray.mk #[]))]), (58, cs1), (61, ds1)] [] []) (Xt.exit 2) (St.mk [(4, AV.bp 4 0), (9, AV.pv (PV.sl 1 r xs)), (10, AV.pv (PV.sl 1 r xs)), (11, AV.pv (PV.lit (Value.int IntKind.i64 a))), (12, AV.pv (PV.lit (Value.int IntKind.i64 b))), (13, AV.pv (PV.lit (Value.int IntKind.i64 (0 : Int)))), (88, AV.pv (PV.lit (Value.bool true)))] [(4, [PV.lit (Value.bool false), PV.lit (Value.string (ByteArray.mk #[]))])] [] []), LoopIs MD t24 k (59 : Nat) (2 : Nat) (St.mk [(4, AV.bp 4 0), (9, AV.pv (PV.sl 1 r xs)), (11, AV.pv (PV.lit (Value.int IntKind.i64 a))), (12, AV.pv (PV.lit (Value.int IntKind.i64 b))), (14, AV.pv (PV.lit (Value.int IntKind.i64 (0 : Int))))] [(4, [PV.lit (Value.bool false), PV.lit (Value.string (ByteArray.mk #[]))])] [] []) (Xt.exit 4) (St.mk [(4, AV.bp 4 0), (9, AV.pv (PV.sl 1 r' ys)), (11, AV.pv (PV.lit (Value.int IntKind.i64 a))), (12, AV.pv (PV.lit (Value.int IntKind.i64 b))), (14, AV.pv (PV.lit (Value.int IntKind.i64 j))), (104, AV.pv (PV.lit (Value.bool false)))] [(4, [PV.lit (Value.bool false), PV.lit (Value.string (ByteArray.mk #[]))])] [] []), CallsTo t24 73 [PV.lit (Value.bool false), PV.sl 1 r' ys] (RV.mk (PV.ag [PV.lit (Value.bool e), PV.lit (Value.string u)]) none)]) := by kernel_rfl
theorem gF0 (k o1 r1 o2 r2 : Nat) (a b : Int) (cs ds xs ys : List PV) : roundX MD t24 k 59 1 ⟨[(4, .bp 4 0), (9, .bs 58 o1 1 r1), (10, .bs 61 o2 1 r2), (11, .pv (iv a)), (12, .pv (iv b))], [(4, [bv false, sv ⟨#[]⟩]), (58, cs), (61, ds)], [], []⟩ [.f xs, .f ys, .r (one (iv 0)), .c true] =
  some ((Xt.exit 2, St.mk [(4, AV.bp 4 0), (9, AV.pv (PV.sl 1 r1 xs)), (10, AV.pv (PV.sl 1 r2 ys)), (11, AV.pv (PV.lit (Value.int IntKind.i64 a))), (12, AV.pv (PV.lit (Value.int IntKind.i64 b))), (13, AV.pv (PV.lit (Value.int IntKind.i64 (0 : Int)))), (88, AV.pv (PV.lit (Value.bool true)))] [(4, [PV.lit (Value.bool false), PV.lit (Value.string (ByteArray.mk #[]))])] [] []), [], [SlEq cs o1 (r1 * (1 : Nat)) xs, SlEq ds o2 (r2 * (1 : Nat)) ys, CallsTo t24 76 [PV.sl 1 r1 xs, PV.sl 1 r2 ys] (RV.mk (PV.lit (Value.int IntKind.i64 (0 : Int))) none), true = true]) := by kernel_rfl
theorem gF1 (k o1 r1 o2 r2 n o3 r3 : Nat) (a b : Int) (d : Int) (cs ds xs ys es es1 : List PV) : roundX MD t24 k 59 1 ⟨[(4, .bp 4 0), (9, .bs 58 o1 1 r1), (10, .bs 61 o2 1 r2), (11, .pv (iv a)), (12, .pv (iv b))], [(4, [bv false, sv ⟨#[]⟩]), (58, cs), (61, ds)], [], []⟩ [.f xs, .f ys, .r (one (iv (-1))), .c false, .c false, .r ⟨.sl 1 n es, some 1⟩, .m (.gt o3 r3 [iv d]) es1] =
  some ((Xt.normal, St.mk [(4, AV.bp 4 0), (9, AV.pv (PV.sl 1 r1 xs)), (10, AV.bs 96 o3 1 r3), (11, AV.pv (PV.lit (Value.int IntKind.i64 a))), (12, AV.pv (PV.lit (Value.int IntKind.i64 b)))] [(4, [PV.lit (Value.bool false), PV.lit (Value.string (ByteArray.mk #[]))]), (96, es1)] [] []), [], [SlEq cs o1 (r1 * (1 : Nat)) xs, SlEq ds o2 (r2 * (1 : Nat)) ys, CallsTo t24 76 [PV.sl 1 r1 xs, PV.sl 1 r2 ys] (RV.mk (PV.lit (Value.int IntKind.i64 (-1 : Int))) none), false = false, false = false, CallsTo t24 77 [PV.sl 1 r2 ys, PV.sl 1 r1 xs] (RV.mk (PV.sl 1 n es) (some 1)), es.all litP' = true, MutsTo t24 75 [MA.g es 0 1 n] (MR.gt o3 r3 [PV.lit (Value.int IntKind.i64 d)]) es1]) := by kernel_rfl
theorem gF2 (k o1 r1 o2 r2 n o3 r3 : Nat) (a b : Int) (d : Int) (cs ds xs ys es es1 : List PV) : roundX MD t24 k 59 1 ⟨[(4, .bp 4 0), (9, .bs 58 o1 1 r1), (10, .bs 61 o2 1 r2), (11, .pv (iv a)), (12, .pv (iv b))], [(4, [bv false, sv ⟨#[]⟩]), (58, cs), (61, ds)], [], []⟩ [.f xs, .f ys, .r (one (iv 1)), .c false, .c true, .r ⟨.sl 1 n es, some 1⟩, .m (.gt o3 r3 [iv d]) es1] =
  some ((Xt.normal, St.mk [(4, AV.bp 4 0), (9, AV.pv (PV.sl 1 r2 ys)), (10, AV.bs 96 o3 1 r3), (11, AV.pv (PV.lit (Value.int IntKind.i64 a))), (12, AV.pv (PV.lit (Value.int IntKind.i64 b)))] [(4, [PV.lit (Value.bool false), PV.lit (Value.string (ByteArray.mk #[]))]), (96, es1)] [] []), [], [SlEq cs o1 (r1 * (1 : Nat)) xs, SlEq ds o2 (r2 * (1 : Nat)) ys, CallsTo t24 76 [PV.sl 1 r1 xs, PV.sl 1 r2 ys] (RV.mk (PV.lit (Value.int IntKind.i64 (1 : Int))) none), false = false, true = true, CallsTo t24 77 [PV.sl 1 r1 xs, PV.sl 1 r2 ys] (RV.mk (PV.sl 1 n es) (some 1)), es.all litP' = true, MutsTo t24 75 [MA.g es 0 1 n] (MR.gt o3 r3 [PV.lit (Value.int IntKind.i64 d)]) es1]) := by kernel_rfl
theorem gG0 (k r1 o2 r2 : Nat) (a b : Int) (xs ds ys : List PV) : roundX MD t24 k 59 1 ⟨[(4, .bp 4 0), (9, .pv (.sl 1 r1 xs)), (10, .bs 96 o2 1 r2), (11, .pv (iv a)), (12, .pv (iv b))], [(4, [bv false, sv ⟨#[]⟩]), (96, ds)], [], []⟩ [.f ys, .r (one (iv 0)), .c true] =
  some ((Xt.exit 2, St.mk [(4, AV.bp 4 0), (9, AV.pv (PV.sl 1 r1 xs)), (10, AV.pv (PV.sl 1 r2 ys)), (11, AV.pv (PV.lit (Value.int IntKind.i64 a))), (12, AV.pv (PV.lit (Value.int IntKind.i64 b))), (13, AV.pv (PV.lit (Value.int IntKind.i64 (0 : Int)))), (88, AV.pv (PV.lit (Value.bool true)))] [(4, [PV.lit (Value.bool false), PV.lit (Value.string (ByteArray.mk #[]))])] [] []), [], [SlEq ds o2 (r2 * (1 : Nat)) ys, CallsTo t24 76 [PV.sl 1 r1 xs, PV.sl 1 r2 ys] (RV.mk (PV.lit (Value.int IntKind.i64 (0 : Int))) none), true = true]) := by kernel_rfl
theorem gG1 (k r1 o2 r2 n o3 r3 : Nat) (a b : Int) (d : Int) (xs ds ys es es1 : List PV) : roundX MD t24 k 59 1 ⟨[(4, .bp 4 0), (9, .pv (.sl 1 r1 xs)), (10, .bs 96 o2 1 r2), (11, .pv (iv a)), (12, .pv (iv b))], [(4, [bv false, sv ⟨#[]⟩]), (96, ds)], [], []⟩ [.f ys, .r (one (iv (-1))), .c false, .c false, .r ⟨.sl 1 n es, some 1⟩, .m (.gt o3 r3 [iv d]) es1] =
  some ((Xt.normal, St.mk [(4, AV.bp 4 0), (9, AV.pv (PV.sl 1 r1 xs)), (10, AV.bs 96 o3 1 r3), (11, AV.pv (PV.lit (Value.int IntKind.i64 a))), (12, AV.pv (PV.lit (Value.int IntKind.i64 b)))] [(4, [PV.lit (Value.bool false), PV.lit (Value.string (ByteArray.mk #[]))]), (96, es1)] [] []), [], [SlEq ds o2 (r2 * (1 : Nat)) ys, CallsTo t24 76 [PV.sl 1 r1 xs, PV.sl 1 r2 ys] (RV.mk (PV.lit (Value.int IntKind.i64 (-1 : Int))) none), false = false, false = false, CallsTo t24 77 [PV.sl 1 r2 ys, PV.sl 1 r1 xs] (RV.mk (PV.sl 1 n es) (some 1)), es.all litP' = true, MutsTo t24 75 [MA.g es 0 1 n] (MR.gt o3 r3 [PV.lit (Value.int IntKind.i64 d)]) es1]) := by kernel_rfl
theorem gG2 (k r1 o2 r2 n o3 r3 : Nat) (a b : Int) (d : Int) (xs ds ys es es1 : List PV) : roundX MD t24 k 59 1 ⟨[(4, .bp 4 0), (9, .pv (.sl 1 r1 xs)), (10, .bs 96 o2 1 r2), (11, .pv (iv a)), (12, .pv (iv b))], [(4, [bv false, sv ⟨#[]⟩]), (96, ds)], [], []⟩ [.f ys, .r (one (iv 1)), .c false, .c true, .r ⟨.sl 1 n es, some 1⟩, .m (.gt o3 r3 [iv d]) es1] =
  some ((Xt.normal, St.mk [(4, AV.bp 4 0), (9, AV.pv (PV.sl 1 r2 ys)), (10, AV.bs 96 o3 1 r3), (11, AV.pv (PV.lit (Value.int IntKind.i64 a))), (12, AV.pv (PV.lit (Value.int IntKind.i64 b)))] [(4, [PV.lit (Value.bool false), PV.lit (Value.string (ByteArray.mk #[]))]), (96, es1)] [] []), [], [SlEq ds o2 (r2 * (1 : Nat)) ys, CallsTo t24 76 [PV.sl 1 r1 xs, PV.sl 1 r2 ys] (RV.mk (PV.lit (Value.int IntKind.i64 (1 : Int))) none), false = false, true = true, CallsTo t24 77 [PV.sl 1 r1 xs, PV.sl 1 r2 ys] (RV.mk (PV.sl 1 n es) (some 1)), es.all litP' = true, MutsTo t24 75 [MA.g es 0 1 n] (MR.gt o3 r3 [PV.lit (Value.int IntKind.i64 d)]) es1]) := by kernel_rfl
theorem gH0 (k n i : Nat) (a b c : Int) (xs : List PV) : roundX MD t24 k 59 2 ⟨[(4, .bp 4 0), (9, .pv (.sl 1 n xs)), (11, .pv (iv a)), (12, .pv (iv b)), (14, .pv (iv i))], [(4, [bv false, sv ⟨#[]⟩])], [], []⟩ [.i 103 c, .c false] =
  some ((Xt.exit 4, St.mk [(4, AV.bp 4 0), (9, AV.pv (PV.sl 1 n xs)), (11, AV.pv (PV.lit (Value.int IntKind.i64 a))), (12, AV.pv (PV.lit (Value.int IntKind.i64 b))), (14, AV.pv (PV.lit (Value.int IntKind.i64 (↑i : Int)))), (104, AV.pv (PV.lit (Value.bool false)))] [(4, [PV.lit (Value.bool false), PV.lit (Value.string (ByteArray.mk #[]))])] [] []), [], [(if b < a then b else a) = c, decide ((↑i : Int) < c) = false]) := by kernel_rfl
theorem gH1 (k n i m : Nat) (a b c : Int) (xs ys : List PV) : roundX MD t24 k 59 2 ⟨[(4, .bp 4 0), (9, .pv (.sl 1 n xs)), (11, .pv (iv a)), (12, .pv (iv b)), (14, .pv (iv i))], [(4, [bv false, sv ⟨#[]⟩])], [], []⟩ [.i 103 c, .c true, .r (one (.sl 1 m ys)), .i 106 (i + 1 : Nat)] =
  some ((Xt.normal, St.mk [(4, AV.bp 4 0), (9, AV.pv (PV.sl 1 m ys)), (11, AV.pv (PV.lit (Value.int IntKind.i64 a))), (12, AV.pv (PV.lit (Value.int IntKind.i64 b))), (14, AV.pv (PV.lit (Value.int IntKind.i64 (↑(i + (1 : Nat)) : Int))))] [(4, [PV.lit (Value.bool false), PV.lit (Value.string (ByteArray.mk #[]))])] [] []), [], [(if b < a then b else a) = c, decide ((↑i : Int) < c) = true, CallsTo t24 78 [PV.sl 1 n xs, PV.lit (Value.int IntKind.i64 (0 : Int))] (RV.mk (PV.sl 1 m ys) none), IntKind.i64.wrap ((↑i : Int) + (1 : Int)) = (↑(i + (1 : Nat)) : Int)]) := by kernel_rfl
theorem CallIs.calm {P : Program} {f : Nat} {args : List PV} {r : RV} (h : CallIs P f args r) : CallIs P f args (one r.v) :=
  ⟨h.1, fun vs w Pr hp hr => (h.2 vs w Pr hp hr).mono fun e w' ⟨v, Pr', he, hret⟩ => ⟨v, Pr', he, ⟨hret.fw, hret.rp, fun z hz => by simp at hz⟩⟩⟩
theorem rofT_at {n : Int} (h1 : -(2 ^ 63) ≤ n) (h2 : n < 2 ^ 63) : rofT [iv n] = some (one (.ag (zc n))) :=
  spE_at (enc := fun n : Int => [iv n]) (fun a b e => by rw [iv_inj (List.cons.inj e).1]) ⟨h1, h2⟩
theorem rsmallT_at {z : Int} (h : (magS z.natAbs).size ≤ 7) : rsmallT [.ag (zc z)] = some (one (.tup [iv z, bv true])) :=
  spE_at (enc := fun z : Int => [.ag (zc z)]) (fun a b e => by
    simp only [List.cons.injEq, and_true, PV.ag.injEq] at e
    rw [zc_inj e]) h
theorem rdigT_at {v : Nat} (h : (magS v).size < 2 ^ 30) (h0 : 0 < v) : rdigT [sv (magS v)] = some ⟨ni (dg (16777216 : Nat) v), some 1⟩ :=
  spE_at (enc := fun v : Nat => [sv (magS v)]) (fun a b e => by rw [magS_inj (sv_inj (List.cons.inj e).1)]) ⟨h, h0⟩
theorem rdigT0_at {v : Nat} (h : (magS v).size < 2 ^ 30) : rdigT0 [sv (magS v)] = some (one (ni (dg (16777216 : Nat) v))) :=
  spE_at (enc := fun v : Nat => [sv (magS v)]) (fun a b e => by rw [magS_inj (sv_inj (List.cons.inj e).1)]) h
theorem ni2_inj {a b : Nat × Nat} (e : [ni (dg (16777216 : Nat) a.1), ni (dg (16777216 : Nat) a.2)] = [ni (dg (16777216 : Nat) b.1), ni (dg (16777216 : Nat) b.2)]) : a = b := by
  simp only [List.cons.injEq, and_true] at e
  exact Prod.ext (dg_inj24 (ni_inj e.1)) (dg_inj24 (ni_inj e.2))
theorem rplusT_at {a b : Nat} (h1 : (dg (16777216 : Nat) a).length < 2 ^ 39) (h2 : (dg (16777216 : Nat) b).length < 2 ^ 39) : rplusT [ni (dg (16777216 : Nat) a), ni (dg (16777216 : Nat) b)] = some ⟨ni (dg (16777216 : Nat) (a + b)), some 1⟩ :=
  spE_at (a := (a, b)) (enc := fun x : Nat × Nat => [ni (dg (16777216 : Nat) x.1), ni (dg (16777216 : Nat) x.2)]) (fun a b e => by rw [ni2_inj e]) ⟨h1, h2⟩
theorem rminusT_at {a b : Nat} (h : b ≤ a) (h0 : 0 < a) (h1 : (dg (16777216 : Nat) a).length < 2 ^ 39) : rminusT [ni (dg (16777216 : Nat) a), ni (dg (16777216 : Nat) b)] = some ⟨ni (dg (16777216 : Nat) (a - b)), some 1⟩ :=
  spE_at (a := (a, b)) (enc := fun x : Nat × Nat => [ni (dg (16777216 : Nat) x.1), ni (dg (16777216 : Nat) x.2)]) (fun a b e => by rw [ni2_inj e]) ⟨h, h0, h1⟩
theorem rtwiceT_at {a : Nat} (h1 : (dg (16777216 : Nat) a).length < 2 ^ 39) : rtwiceT [ni (dg (16777216 : Nat) a), iv 0] = some (one (ni (dg (16777216 : Nat) (2 * a)))) :=
  spE_at (enc := fun a : Nat => [ni (dg (16777216 : Nat) a), iv 0]) (fun a b e => by rw [dg_inj24 (ni_inj (List.cons.inj e).1)]) h1
theorem rorderT_at {a b : Nat} (h1 : (dg (16777216 : Nat) a).length < 2 ^ 40) (h2 : (dg (16777216 : Nat) b).length < 2 ^ 40) : rorderT [ni (dg (16777216 : Nat) a), ni (dg (16777216 : Nat) b)] = some (one (iv (ordI a b))) :=
  spE_at (a := (a, b)) (enc := fun x : Nat × Nat => [ni (dg (16777216 : Nat) x.1), ni (dg (16777216 : Nat) x.2)]) (fun a b e => by rw [ni2_inj e]) ⟨h1, h2⟩
theorem roddM_at {v : Nat} (h0 : 0 < v) (h1 : (dg (16777216 : Nat) v).length < 2 ^ 39) : roddM [.g ((dg (16777216 : Nat) v).map ivn) 0 1 (dg (16777216 : Nat) v).length] = some (.gt (oz v) (dg (16777216 : Nat) (od v)).length [iv (tz v)], (oddL v).map ivn) :=
  spM_at (enc := fun v : Nat => [.g ((dg (16777216 : Nat) v).map ivn) 0 1 (dg (16777216 : Nat) v).length]) (fun a b e => by
    simp only [List.cons.injEq, and_true, MA.g.injEq] at e
    rw [dg_inj24 (ivnL_inj e.1)]) ⟨h0, h1⟩
theorem t24_ok : CallOk MD.P t24 := tabC_ok
  (fns_cons (spE_is fun x _ => rvalid_is x.1 x.2)
  (fns_cons (spE_is fun n h => rof_is n h.1 h.2)
  (fns_cons (spE_is fun z h => rsmall_is z h)
  (fns_cons (spE_is fun v h => rdigits_is v h.1 h.2)
  (fns_cons (spE_is fun x h => rsigned_is x.1 x.2 h.1 h.2)
  (fns_cons (spE_is fun x h => rorder_is x.1 x.2 h.1 h.2)
  (fns_cons (spE_is fun x h => rminus_is x.1 x.2 h.1 h.2.1 h.2.2)
  (fns_cons (spE_is fun a h => (rtwice_is a 0 (by omega) h).calm) fns_nil))))))))
  (mus_cons (spM_is fun v h => rodd_is v h.1 h.2) mus_nil)
theorem t25_ok : CallOk MD.P t25 := tabF_ok
  (fns_cons (spE_is fun x _ => rvalid_is x.1 x.2)
  (fns_cons (spE_is fun v h => by
    rcases Nat.eq_zero_or_pos v with rfl | h0
    · have := rdigits0_is (magS 0) rfl
      rwa [sval_magS] at this
    · exact (rdigits_is v h h0).calm)
  (fns_cons (spE_is fun x h => rsigned_is x.1 x.2 h.1 h.2)
  (fns_cons (spE_is fun x h => rplus_is x.1 x.2 h.1 h.2) fns_nil))))
theorem odd_sl {v : Nat} (h : 0 < v) : SlEq ((oddL v).map ivn) (oz v) ((dg (16777216 : Nat) (od v)).length * 1) ((dg (16777216 : Nat) (od v)).map ivn) := by
  refine slEq_c _ _ _ ?_
  unfold oddL
  rw [List.drop_left' (by simp), Nat.mul_one]
  have := dg_take (b := (16777216 : Nat)) (by decide) (oddL_dig v)
  rw [show (16777216 : Nat) = (16777216 : Nat) from rfl, oddL_val h] at this
  exact this.symm
theorem oz_le {v : Nat} (h : 0 < v) : oz v ≤ (dg (16777216 : Nat) v).length := by
  have e0 := dg_zeros (b := (16777216 : Nat)) (by decide) (ow_pos h) (oz v)
  rw [ow_eq h] at e0
  rw [e0, List.length_append, List.length_replicate]; omega
theorem tz_lt {v : Nat} (h : 0 < v) (hl : (dg (16777216 : Nat) v).length < 2 ^ 39) : tz v < 2 ^ 50 := by
  have := oz_le h
  unfold oz at this
  omega
theorem len24 {v : Nat} (h : (magS v).size < 2 ^ 30) : (dg (16777216 : Nat) v).length < 2 ^ 39 := by
  have h1 := dg_lt (b := 256) (n := v) (by decide)
  rw [← bytes_size] at h1
  have h3 : 256 ^ (magS v).size ≤ (16777216 : Nat) ^ (magS v).size := Nat.pow_le_pow_left (by decide) _
  have := dg_len (b := (16777216 : Nat)) (n := v) (k := (magS v).size) (by decide) (by omega)
  omega
/-! the small ones -/
def SGc (n m : Nat) (e : List (Nat × AV)) : St := ⟨(4, .bp 4 0) :: (5, .pv (iv n)) :: (7, .pv (iv m)) :: e, [(4, [bv false, sv ⟨#[]⟩])], [], []⟩
theorem rgcdw_loop (k : Nat) : ∀ (m n : Nat), loopN (roundM MD t24 k 59 0) (m + 1) (SGc n m []) = some (.exit 0, SGc (Nat.gcd n m) 0 [(49, .pv (bv false))]) := by
  intro m
  induction m using Nat.strongRecOn with
  | _ m ih =>
    intro n
    by_cases h : m = 0
    · subst h
      rw [Nat.gcd_zero_right]
      exact loopN_exit (roundX_ok (gC0 k n 0) ⟨rfl, trivial⟩) (by simp)
    · have hr : n % m < m := Nat.mod_lt _ (by omega)
      have := ih (n % m) hr m
      rw [gcd_swap] at this
      exact loopN_next (roundX_ok (gC1 k n m (n % m : Nat)) ⟨bne_iff_ne.2 (by omega), tmodn _ _, decide_eq_false (by omega), trivial⟩) (loopN_le (by omega) this)
/-! the great ones -/
def SGn (x y o : Nat) (a b : Int) (ds : List PV) : St := ⟨[(4, .bp 4 0), (9, .pv (ni (dg (16777216 : Nat) x))), (10, .bs 96 o 1 (dg (16777216 : Nat) y).length), (11, .pv (iv a)), (12, .pv (iv b))], [(4, [bv false, sv ⟨#[]⟩]), (96, ds)], [], []⟩
def SGx (x : Nat) (a b : Int) : St := ⟨[(4, .bp 4 0), (9, .pv (ni (dg (16777216 : Nat) x))), (10, .pv (ni (dg (16777216 : Nat) x))), (11, .pv (iv a)), (12, .pv (iv b)), (13, .pv (iv 0)), (88, .pv (bv true))], [(4, [bv false, sv ⟨#[]⟩])], [], []⟩
theorem rgcd_loop (k : Nat) (a b : Int) : ∀ (n x y o : Nat) (ds : List PV), x + y = n → x % 2 = 1 → y % 2 = 1 → (dg (16777216 : Nat) x).length < 2 ^ 39 → (dg (16777216 : Nat) y).length < 2 ^ 39 → SlEq ds o ((dg (16777216 : Nat) y).length * 1) ((dg (16777216 : Nat) y).map ivn) →
    loopN (roundM MD t24 k 59 1) (n + 1) (SGn x y o a b ds) = some (.exit 2, SGx (Nat.gcd x y) a b) := by
  intro n
  induction n using Nat.strongRecOn with
  | _ n ih =>
    intro x y o ds hn hx hy lx ly hs
    have ho := rorderT_at (a := x) (b := y) (by omega) (by omega)
    rcases Nat.lt_trichotomy x y with h | h | h
    · rw [show ordI x y = -1 by unfold ordI; rw [if_pos h]] at ho
      have hlen := Nat.lt_of_le_of_lt (dg_len_le (b := (16777216 : Nat)) (by decide) (show y - x ≤ y by omega)) ly
      have hm := rminusT_at (a := y) (b := x) (by omega) (by omega) ly
      have hd := roddM_at (v := y - x) (by omega) hlen
      have hle := od_le (n := y - x) (by omega)
      have hlen2 := Nat.lt_of_le_of_lt (dg_len_le (b := (16777216 : Nat)) (by decide) hle) hlen
      have nx := ih (x + od (y - x)) (by omega) x (od (y - x)) (oz (y - x)) ((oddL (y - x)).map ivn) rfl hx (od_odd (by omega)) lx hlen2 (odd_sl (by omega))
      rw [gcd_step hx h] at nx
      exact loopN_next (roundX_ok (gG1 k (dg (16777216 : Nat) x).length o (dg (16777216 : Nat) y).length (dg (16777216 : Nat) (y - x)).length (oz (y - x)) (dg (16777216 : Nat) (od (y - x))).length a b (tz (y - x) : Nat) ((dg (16777216 : Nat) x).map ivn) ds ((dg (16777216 : Nat) y).map ivn) ((dg (16777216 : Nat) (y - x)).map ivn) ((oddL (y - x)).map ivn)) ⟨hs, ho, rfl, rfl, hm, litP_ivn _, hd, trivial⟩) (loopN_le (by omega) nx)
    · subst h
      rw [show ordI x x = 0 by unfold ordI; simp] at ho
      rw [Nat.gcd_self]
      exact loopN_exit (roundX_ok (gG0 k (dg (16777216 : Nat) x).length o (dg (16777216 : Nat) x).length a b ((dg (16777216 : Nat) x).map ivn) ds ((dg (16777216 : Nat) x).map ivn)) ⟨hs, ho, rfl, trivial⟩) (by simp)
    · rw [show ordI x y = 1 by unfold ordI; rw [if_neg (by omega), if_pos h]] at ho
      have hlen := Nat.lt_of_le_of_lt (dg_len_le (b := (16777216 : Nat)) (by decide) (show x - y ≤ x by omega)) lx
      have hm := rminusT_at (a := x) (b := y) (by omega) (by omega) lx
      have hd := roddM_at (v := x - y) (by omega) hlen
      have hle := od_le (n := x - y) (by omega)
      have hlen2 := Nat.lt_of_le_of_lt (dg_len_le (b := (16777216 : Nat)) (by decide) hle) hlen
      have nx := ih (y + od (x - y)) (by omega) y (od (x - y)) (oz (x - y)) ((oddL (x - y)).map ivn) rfl hy (od_odd (by omega)) ly hlen2 (odd_sl (by omega))
      rw [gcd_step hy h, Nat.gcd_comm] at nx
      exact loopN_next (roundX_ok (gG2 k (dg (16777216 : Nat) x).length o (dg (16777216 : Nat) y).length (dg (16777216 : Nat) (x - y)).length (oz (x - y)) (dg (16777216 : Nat) (od (x - y))).length a b (tz (x - y) : Nat) ((dg (16777216 : Nat) x).map ivn) ds ((dg (16777216 : Nat) y).map ivn) ((dg (16777216 : Nat) (x - y)).map ivn) ((oddL (x - y)).map ivn)) ⟨hs, ho, rfl, rfl, hm, litP_ivn _, hd, trivial⟩) (loopN_le (by omega) nx)
def SGf (x y o1 o2 : Nat) (a b : Int) (cs ds : List PV) : St := ⟨[(4, .bp 4 0), (9, .bs 58 o1 1 (dg (16777216 : Nat) x).length), (10, .bs 61 o2 1 (dg (16777216 : Nat) y).length), (11, .pv (iv a)), (12, .pv (iv b))], [(4, [bv false, sv ⟨#[]⟩]), (58, cs), (61, ds)], [], []⟩
theorem rgcd_first (k : Nat) (a b : Int) (x y o1 o2 : Nat) (cs ds : List PV) (hx : x % 2 = 1) (hy : y % 2 = 1) (lx : (dg (16777216 : Nat) x).length < 2 ^ 39) (ly : (dg (16777216 : Nat) y).length < 2 ^ 39) (hr : SlEq cs o1 ((dg (16777216 : Nat) x).length * 1) ((dg (16777216 : Nat) x).map ivn)) (hs : SlEq ds o2 ((dg (16777216 : Nat) y).length * 1) ((dg (16777216 : Nat) y).map ivn)) :
    loopN (roundM MD t24 k 59 1) (x + y + 1) (SGf x y o1 o2 a b cs ds) = some (.exit 2, SGx (Nat.gcd x y) a b) := by
  have ho := rorderT_at (a := x) (b := y) (by omega) (by omega)
  rcases Nat.lt_trichotomy x y with h | h | h
  · rw [show ordI x y = -1 by unfold ordI; rw [if_pos h]] at ho
    have hlen := Nat.lt_of_le_of_lt (dg_len_le (b := (16777216 : Nat)) (by decide) (show y - x ≤ y by omega)) ly
    have hm := rminusT_at (a := y) (b := x) (by omega) (by omega) ly
    have hd := roddM_at (v := y - x) (by omega) hlen
    have hle := od_le (n := y - x) (by omega)
    have hlen2 := Nat.lt_of_le_of_lt (dg_len_le (b := (16777216 : Nat)) (by decide) hle) hlen
    have nx := rgcd_loop k a b _ x (od (y - x)) (oz (y - x)) ((oddL (y - x)).map ivn) rfl hx (od_odd (by omega)) lx hlen2 (odd_sl (by omega))
    rw [gcd_step hx h] at nx
    exact loopN_next (roundX_ok (gF1 k o1 (dg (16777216 : Nat) x).length o2 (dg (16777216 : Nat) y).length (dg (16777216 : Nat) (y - x)).length (oz (y - x)) (dg (16777216 : Nat) (od (y - x))).length a b (tz (y - x) : Nat) cs ds ((dg (16777216 : Nat) x).map ivn) ((dg (16777216 : Nat) y).map ivn) ((dg (16777216 : Nat) (y - x)).map ivn) ((oddL (y - x)).map ivn)) ⟨hr, hs, ho, rfl, rfl, hm, litP_ivn _, hd, trivial⟩) (loopN_le (by omega) nx)
  · subst h
    rw [show ordI x x = 0 by unfold ordI; simp] at ho
    rw [Nat.gcd_self]
    exact loopN_exit (roundX_ok (gF0 k o1 (dg (16777216 : Nat) x).length o2 (dg (16777216 : Nat) x).length a b cs ds ((dg (16777216 : Nat) x).map ivn) ((dg (16777216 : Nat) x).map ivn)) ⟨hr, hs, ho, rfl, trivial⟩) (by simp)
  · rw [show ordI x y = 1 by unfold ordI; rw [if_neg (by omega), if_pos h]] at ho
    have hlen := Nat.lt_of_le_of_lt (dg_len_le (b := (16777216 : Nat)) (by decide) (show x - y ≤ x by omega)) lx
    have hm := rminusT_at (a := x) (b := y) (by omega) (by omega) lx
    have hd := roddM_at (v := x - y) (by omega) hlen
    have hle := od_le (n := x - y) (by omega)
    have hlen2 := Nat.lt_of_le_of_lt (dg_len_le (b := (16777216 : Nat)) (by decide) hle) hlen
    have nx := rgcd_loop k a b _ y (od (x - y)) (oz (x - y)) ((oddL (x - y)).map ivn) rfl hy (od_odd (by omega)) ly hlen2 (odd_sl (by omega))
    rw [gcd_step hy h, Nat.gcd_comm] at nx
    exact loopN_next (roundX_ok (gF2 k o1 (dg (16777216 : Nat) x).length o2 (dg (16777216 : Nat) y).length (dg (16777216 : Nat) (x - y)).length (oz (x - y)) (dg (16777216 : Nat) (od (x - y))).length a b (tz (x - y) : Nat) cs ds ((dg (16777216 : Nat) x).map ivn) ((dg (16777216 : Nat) y).map ivn) ((dg (16777216 : Nat) (x - y)).map ivn) ((oddL (x - y)).map ivn)) ⟨hr, hs, ho, rfl, rfl, hm, litP_ivn _, hd, trivial⟩) (loopN_le (by omega) nx)
/-! the factors 2 come back -/
def SGt (x ta tb i : Nat) (e : List (Nat × AV)) : St := ⟨(4, .bp 4 0) :: (9, .pv (ni (dg (16777216 : Nat) (2 ^ i * x)))) :: (11, .pv (iv ta)) :: (12, .pv (iv tb)) :: (14, .pv (iv i)) :: e, [(4, [bv false, sv ⟨#[]⟩])], [], []⟩
theorem minI (ta tb : Nat) : (if (tb : Int) < (ta : Int) then (tb : Int) else (ta : Int)) = ((min ta tb : Nat) : Int) := by
  split <;> omega
theorem rgcd_twos (k x ta tb : Nat) (h1 : ta < 2 ^ 50) (h2 : tb < 2 ^ 50) (hl : (dg (16777216 : Nat) (2 ^ min ta tb * x)).length < 2 ^ 39) (hk : min ta tb < k) : loopN (roundM MD t24 k 59 2) k (SGt x ta tb 0 []) = some (.exit 4, SGt x ta tb (min ta tb) [(104, .pv (bv false))]) := by
  refine loopN_chain (f := roundM MD t24 k 59 2) (S := fun i => SGt x ta tb i []) (n := min ta tb) (fun i hi => ?_) (roundX_ok (gH0 k _ (min ta tb) ta tb (min ta tb : Nat) _) ⟨minI _ _, decide_eq_false (by omega), trivial⟩) (by simp) k hk
  have hle : 2 ^ i * x ≤ 2 ^ min ta tb * x := Nat.mul_le_mul_right _ (Nat.pow_le_pow_right (by decide) (by omega))
  have ht := rtwiceT_at (a := 2 ^ i * x) (Nat.lt_of_le_of_lt (dg_len_le (by decide) hle) hl)
  rw [show 2 * (2 ^ i * x) = 2 ^ (i + 1) * x by rw [Nat.pow_succ, ← Nat.mul_assoc, Nat.mul_comm 2]] at ht
  exact roundX_ok (gH1 k _ i _ ta tb (min ta tb : Nat) _ _) ⟨minI _ _, decide_eq_true (by omega), ht, w64n (by omega) (by omega), trivial⟩
theorem zc_nat (n : Nat) : zc ((n : Nat) : Int) = [bv false, sv (magS n)] := by
  simp only [zc, Int.natAbs_natCast]
  rw [decide_eq_false (by omega)]
theorem rgcd_is (a b : Int) (ha : (magS a.natAbs).size < 2 ^ 30) (hb : (magS b.natAbs).size < 2 ^ 30) : CallIs P0 59 [.ag (zc a), .ag (zc b)] (one (.ag (zc (Nat.gcd a.natAbs b.natAbs : Nat)))) := by
  have v1 := validT_at (decide (a < 0)) (magS a.natAbs)
  have v2 := validT_at (decide (b < 0)) (magS b.natAbs)
  rw [ok_zc] at v1 v2
  generalize hna : a.natAbs = x at *
  generalize hnb : b.natAbs = y at *
  have ea : (.ag (zc a) : PV) = iz (decide (a < 0)) (magS x) := by rw [← hna]; rfl
  have eb : (.ag (zc b) : PV) = iz (decide (b < 0)) (magS y) := by rw [← hnb]; rfl
  rw [ea, eb]
  have sg := fun (l : List Nat) (h : l.length < 2 ^ 40) (hd : Dig (16777216 : Nat) l) => sgnedT_at (g := false) (l := l) h hd
  simp only [Bool.false_eq_true, if_false] at sg
  obtain ⟨g, hg⟩ : ∃ g, g = Nat.gcd x y := ⟨_, rfl⟩
  have eg : (.ag (zc (g : Int)) : PV) = iz false (magS g) := by rw [zc_nat]; rfl
  rw [← hg, eg]
  have lx := len24 ha
  have ly := len24 hb
  by_cases hs : (magS x).size ≤ 7 ∧ (magS y).size ≤ 7
  · have small : ∀ n, (magS n).size ≤ 7 → n < 2 ^ 56 := by
      intro n hn
      have h1 := dg_lt (b := 256) (n := n) (by decide)
      rw [← bytes_size] at h1
      have : 256 ^ (magS n).size ≤ 256 ^ 7 := Nat.pow_le_pow_right (by decide) hn
      omega
    have hx := small x hs.1
    have hy := small y hs.2
    have s1 := rsmallT_at (z := (x : Int)) (by simpa using hs.1)
    have s2 := rsmallT_at (z := (y : Int)) (by simpa using hs.2)
    rw [zc_nat] at s1 s2
    have hgl : g < 2 ^ 63 := by
      rw [hg]
      rcases Nat.eq_zero_or_pos y with h0 | h0
      · rw [h0, Nat.gcd_zero_right]; omega
      · have := Nat.gcd_le_right x h0; omega
    have hof := rofT_at (n := (g : Int)) (by omega) (by omega)
    rw [zc_nat] at hof
    have lp := loopN_le (show y + 1 ≤ y + 2 by omega) (rgcdw_loop (y + 2) y x)
    rw [← hg] at lp
    exact runX_is machOkD t24_ok (by rfl) (gC (y + 2) _ _ _ _ x y g false (magS g)) ⟨v1, v2, decide_eq_true (by omega), decide_eq_true (by omega), s1, s2, lp, hof, trivial⟩
  · rcases Nat.eq_zero_or_pos x with h0 | h0
    · have hz : (magS x).size = 0 := by rw [h0]; rfl
      have hgy : g = 0 + y := by rw [hg, h0, Nat.gcd_zero_left, Nat.zero_add]
      have d1 := rdigT0_at (v := 0) (by decide)
      have d2 := rdigT0_at hb
      have dp := rplusT_at (a := 0) (b := y) (by simp [dg_zero]) ly
      have sgy := sg (dg (16777216 : Nat) (0 + y)) (by rw [Nat.zero_add]; omega) (dig_dg (by decide) _)
      rw [val_dg (by decide), zc_nat] at sgy
      rw [hgy]
      subst h0
      exact runX_is machOkD t25_ok (by rfl) (gD0 1 _ _ _ _ _ _ _ _ _ _ _ _) ⟨v1, v2, decide_eq_true (by omega), decide_eq_false (by omega), d1, d2, rfl, dp, sgy, trivial⟩
    · rcases Nat.eq_zero_or_pos y with k0 | k0
      · have hz : (magS y).size = 0 := by rw [k0]; rfl
        have hgx : g = x + 0 := by rw [hg, k0, Nat.gcd_zero_right, Nat.add_zero]
        have d1 := rdigT0_at ha
        have d2 := rdigT0_at (v := 0) (by decide)
        have dp := rplusT_at (a := x) (b := 0) lx (by simp [dg_zero])
        have sgx := sg (dg (16777216 : Nat) (x + 0)) (by rw [Nat.add_zero]; omega) (dig_dg (by decide) _)
        rw [val_dg (by decide), zc_nat] at sgx
        rw [hgx]
        subst k0
        have hne : (((dg (16777216 : Nat) x).length : Int) == 0) = false := beq_false_of_ne (by
          have := dg_pos (b := (16777216 : Nat)) (by decide) h0
          rw [this]; simp; omega)
        exact runX_is machOkD t25_ok (by rfl) (gD1 1 _ _ _ _ _ _ _ _ _ _ _ _) ⟨v1, v2, decide_eq_false (by omega), d1, d2, hne, rfl, dp, sgx, trivial⟩
      · have d1 := rdigT_at ha h0
        have d2 := rdigT_at hb k0
        have o1 := roddM_at h0 lx
        have o2 := roddM_at k0 ly
        have lx2 := Nat.lt_of_le_of_lt (dg_len_le (b := (16777216 : Nat)) (by decide) (od_le h0)) lx
        have ly2 := Nat.lt_of_le_of_lt (dg_len_le (b := (16777216 : Nat)) (by decide) (od_le k0)) ly
        obtain ⟨k, hk⟩ : ∃ k, k = od x + od y + tz x + tz y + 5 := ⟨_, rfl⟩
        have lp1 := loopN_le (show od x + od y + 1 ≤ k by omega) (rgcd_first k (tz x : Nat) (tz y : Nat) (od x) (od y) (oz x) (oz y) _ _ (od_odd h0) (od_odd k0) lx2 ly2 (odd_sl h0) (odd_sl k0))
        have hgo := gcd_ods h0 k0
        rw [← hg] at hgo
        have hgle : g ≤ x := by rw [hg]; exact Nat.gcd_le_left y h0
        have lg := Nat.lt_of_le_of_lt (dg_len_le (b := (16777216 : Nat)) (by decide) hgle) lx
        have lp2 := rgcd_twos k (Nat.gcd (od x) (od y)) (tz x) (tz y) (tz_lt h0 lx) (tz_lt k0 ly) (by rw [← hgo]; exact lg) (by omega)
        unfold SGt at lp2
        rw [← hgo, Nat.pow_zero, Nat.one_mul] at lp2
        have sgg := sg (dg (16777216 : Nat) g) (by omega) (dig_dg (by decide) _)
        rw [val_dg (by decide), zc_nat] at sgg
        have hne : ∀ v, 0 < v → (((dg (16777216 : Nat) v).length : Int) == 0) = false := fun v hv => beq_false_of_ne (by
          have := dg_pos (b := (16777216 : Nat)) (by decide) hv
          rw [this]; simp; omega)
        by_cases hx7 : (magS x).size ≤ 7
        · exact runX_is machOkD t24_ok (by rfl) (gE0 k _ _ (oz x) (dg (16777216 : Nat) (od x)).length (oz y) (dg (16777216 : Nat) (od y)).length _ _ _ _ false (magS x) (magS y) (magS g) (tz x : Nat) (tz y : Nat) (min (tz x) (tz y) : Nat) _ _ ((oddL x).map ivn) ((oddL y).map ivn) _ _) ⟨v1, v2, decide_eq_true (by omega), decide_eq_false (by omega), d1, litP_ivn _, d2, litP_ivn _, hne x h0, hne y k0, o1, o2, lp1, lp2, sgg, trivial⟩
        · exact runX_is machOkD t24_ok (by rfl) (gE1 k _ _ (oz x) (dg (16777216 : Nat) (od x)).length (oz y) (dg (16777216 : Nat) (od y)).length _ _ _ _ false (magS x) (magS y) (magS g) (tz x : Nat) (tz y : Nat) (min (tz x) (tz y) : Nat) _ _ ((oddL x).map ivn) ((oddL y).map ivn) _ _) ⟨v1, v2, decide_eq_false (by omega), d1, litP_ivn _, d2, litP_ivn _, hne x h0, hne y k0, o1, o2, lp1, lp2, sgg, trivial⟩
end Go.Proofs.YtibbgjafjhcemaaDoor.Cul
/-! E1 -/
set_option linter.unusedVariables false
set_option linter.unusedSimpArgs false
namespace Go.Proofs.YtibbgjafjhcemaaDoor.Cul
open Go Go.RowKit
theorem bind_assoc' {α β γ : Type} (m : Sem α) : ∀ (f : α → Sem β) (g : β → Sem γ), (m.bind f).bind g = m.bind fun a => (f a).bind g := by
  induction m with
  | pure a => intro f g; rfl
  | halt h => intro f g; rfl
  | _ => rename_i ih; intro f g; simp only [Sem.bind]; first | (congr 1; funext x; exact ih x f g) | (congr 1; exact ih f g)
theorem eqLoop3 {P : Program} {d : Nat} {t : TypeId} {f g h : Field} {xs ys : Array Value} {a1 a2 a3 b1 b2 b3 : Value} {c1 c2 c3 : Bool}
   (hu : P.underlying t = some (.struct #[f, g, h])) (hh : P.stoodInHeld t = false) (hf : f.name ≠ "_") (hg : g.name ≠ "_") (hk : h.name ≠ "_")
   (p1 : evalPure P (part f.type xs f.offset) = some a1) (p2 : evalPure P (part f.type ys f.offset) = some b1)
   (p3 : evalPure P (part g.type xs g.offset) = some a2) (p4 : evalPure P (part g.type ys g.offset) = some b2)
   (p5 : evalPure P (part h.type xs h.offset) = some a3) (p6 : evalPure P (part h.type ys h.offset) = some b3)
   (e1 : evalPure P (Op.equalIn d f.type a1 b1) = some c1) (e2 : evalPure P (Op.equalIn d g.type a2 b2) = some c2) (e3 : evalPure P (Op.equalIn d h.type a3 b3) = some c3) :
   evalPure P (Op.equalIn (d + 1) t (.agg xs) (.agg ys)) = some (c1 && (c2 && c3)) := by
  simp only [Op.equalIn, underlying, program, Bind.bind, Sem.bind, evalPure, hu, hh, pure, Pure.pure, Bool.false_eq_true, if_false]
  rw [← Array.forIn_toList]
  simp only [List.forIn_cons, List.forIn_nil, Bind.bind, pure, Pure.pure, hf, hg, hk, ne_eq, not_false_eq_true, if_true]
  simp only [bind_assoc']
  rw [evalPure_bind p1, evalPure_bind p2, evalPure_bind e1]
  cases c1 with
  | false => simp [Sem.bind, evalPure]
  | true =>
    simp only [Bool.not_true, Bool.false_eq_true, if_false, Sem.bind, bind_assoc']
    rw [evalPure_bind p3, evalPure_bind p4, evalPure_bind e2]
    cases c2 with
    | false => simp [Sem.bind, evalPure]
    | true =>
      simp only [Bool.not_true, Bool.false_eq_true, if_false, Sem.bind, bind_assoc']
      rw [evalPure_bind p5, evalPure_bind p6, evalPure_bind e3]
      cases c3 <;> simp [Sem.bind, evalPure]
theorem eqArr4 {P : Program} {d : Nat} {t e : TypeId} {n : Nat} {xs ys : Array Value} {a0 a1 a2 a3 b0 b1 b2 b3 : Value} {c0 c1 c2 c3 : Bool}
   (hu : P.underlying t = some (.array 4 e)) (hn : evalPure P (sizeOf e) = some n)
   (p0 : evalPure P (part e xs (0 * n)) = some a0) (q0 : evalPure P (part e ys (0 * n)) = some b0)
   (p1 : evalPure P (part e xs (1 * n)) = some a1) (q1 : evalPure P (part e ys (1 * n)) = some b1)
   (p2 : evalPure P (part e xs (2 * n)) = some a2) (q2 : evalPure P (part e ys (2 * n)) = some b2)
   (p3 : evalPure P (part e xs (3 * n)) = some a3) (q3 : evalPure P (part e ys (3 * n)) = some b3)
   (e0 : evalPure P (Op.equalIn d e a0 b0) = some c0) (e1 : evalPure P (Op.equalIn d e a1 b1) = some c1) (e2 : evalPure P (Op.equalIn d e a2 b2) = some c2) (e3 : evalPure P (Op.equalIn d e a3 b3) = some c3) :
   evalPure P (Op.equalIn (d + 1) t (.agg xs) (.agg ys)) = some (c0 && (c1 && (c2 && c3))) := by
  simp only [Op.equalIn, underlying, program, Bind.bind, Sem.bind, evalPure, hu, pure, Pure.pure, Bool.false_eq_true, if_false]
  rw [evalPure_bind hn]
  simp only [Std.Legacy.Range.forIn_eq_forIn_range', Std.Legacy.Range.size, Nat.sub_zero, Nat.add_sub_cancel, Nat.div_one, List.range', List.forIn_cons, List.forIn_nil, Bind.bind, pure, Pure.pure, Nat.zero_add, Nat.reduceAdd]
  simp only [bind_assoc']
  rw [evalPure_bind p0, evalPure_bind q0, evalPure_bind e0]
  cases c0 with
  | false => simp [Sem.bind, evalPure]
  | true =>
    simp only [Bool.not_true, Bool.false_eq_true, if_false, Sem.bind, bind_assoc']
    rw [evalPure_bind p1, evalPure_bind q1, evalPure_bind e1]
    cases c1 with
    | false => simp [Sem.bind, evalPure]
    | true =>
      simp only [Bool.not_true, Bool.false_eq_true, if_false, Sem.bind, bind_assoc']
      rw [evalPure_bind p2, evalPure_bind q2, evalPure_bind e2]
      cases c2 with
      | false => simp [Sem.bind, evalPure]
      | true =>
        simp only [Bool.not_true, Bool.false_eq_true, if_false, Sem.bind, bind_assoc']
        rw [evalPure_bind p3, evalPure_bind q3, evalPure_bind e3]
        cases c3 <;> simp [Sem.bind, evalPure]
end Go.Proofs.YtibbgjafjhcemaaDoor.Cul
/-! E2 -/
set_option linter.unusedVariables false
set_option linter.unusedSimpArgs false
set_option maxRecDepth 100000
set_option maxHeartbeats 2000000
namespace Go.Proofs.YtibbgjafjhcemaaDoor.Cul
open Go Go.RowKit
/-! ### The program's data, raw -/
/-- An integer as_ it lies in memory. -/
structure RI where
  g : Bool
  s : ByteArray
def RI.cells (r : RI) : List PV := [bv r.g, sv r.s]
def RI.vals (r : RI) : List Value := [.bool r.g, .string r.s]
def RI.zero : RI := ⟨false, ⟨#[]⟩⟩
structure Num where
  c0 : RI
  c1 : RI
  c2 : RI
  c3 : RI
  d : RI
def Num.cells (x : Num) : List PV := x.c0.cells ++ x.c1.cells ++ x.c2.cells ++ x.c3.cells ++ x.d.cells
def Num.cvals (x : Num) : List Value := x.c0.vals ++ x.c1.vals ++ x.c2.vals ++ x.c3.vals
def Num.vals (x : Num) : List Value := x.cvals ++ x.d.vals
def Num.zero : Num := ⟨.zero, .zero, .zero, .zero, .zero⟩
structure Vec where
  x : Num
  y : Num
  z : Num
def Vec.cells (v : Vec) : List PV := v.x.cells ++ v.y.cells ++ v.z.cells
def Vec.vals (v : Vec) : List Value := v.x.vals ++ v.y.vals ++ v.z.vals
def Vec.zero : Vec := ⟨.zero, .zero, .zero⟩
structure Pln where
  n : Vec
  d : Num
def Pln.cells (p : Pln) : List PV := p.n.cells ++ p.d.cells
def Pln.vals (p : Pln) : List Value := p.n.vals ++ p.d.vals
def Pln.zero : Pln := ⟨.zero, .zero⟩
structure Stg where
  h : Int
  v : Int
  i : Int
def Stg.cells (s : Stg) : List PV := [iv s.h, iv s.v, iv s.i]
def Stg.vals (s : Stg) : List Value := [.int .i64 s.h, .int .i64 s.v, .int .i64 s.i]
def Stg.zero : Stg := ⟨0, 0, 0⟩
/-! ### Equality as_ the code does it -/
def RI.eqb (a b : RI) : Bool := (a.g == b.g) && (a.s == b.s)
def Num.eqb (a b : Num) : Bool := (a.c0.eqb b.c0 && (a.c1.eqb b.c1 && (a.c2.eqb b.c2 && a.c3.eqb b.c3))) && a.d.eqb b.d
def Vec.eqb (a b : Vec) : Bool := a.x.eqb b.x && (a.y.eqb b.y && a.z.eqb b.z)
def Pln.eqb (a b : Pln) : Bool := a.n.eqb b.n && a.d.eqb b.d
def Stg.eqb (a b : Stg) : Bool := (a.h == b.h) && ((a.v == b.v) && (a.i == b.i))
theorem ba_eqb {u v : ByteArray} : (u == v) = true ↔ u = v := by
  rw [beq_toList]
  constructor
  · intro h; exact ByteArray.ext (by simpa using h)
  · intro h; subst h; simp
theorem RI.eqb_iff {a b : RI} : a.eqb b = true ↔ a = b := by
  obtain ⟨g, s⟩ := a; obtain ⟨g', s'⟩ := b
  simp only [RI.eqb, Bool.and_eq_true, ba_eqb, beq_iff_eq, RI.mk.injEq]
theorem Num.eqb_iff {a b : Num} : a.eqb b = true ↔ a = b := by
  obtain ⟨a0, a1, a2, a3, a4⟩ := a; obtain ⟨b0, b1, b2, b3, b4⟩ := b
  simp only [Num.eqb, Bool.and_eq_true, RI.eqb_iff, Num.mk.injEq, and_assoc]
theorem Vec.eqb_iff {a b : Vec} : a.eqb b = true ↔ a = b := by
  obtain ⟨a0, a1, a2⟩ := a; obtain ⟨b0, b1, b2⟩ := b
  simp only [Vec.eqb, Bool.and_eq_true, Num.eqb_iff, Vec.mk.injEq]
theorem Pln.eqb_iff {a b : Pln} : a.eqb b = true ↔ a = b := by
  obtain ⟨a0, a1⟩ := a; obtain ⟨b0, b1⟩ := b
  simp only [Pln.eqb, Bool.and_eq_true, Vec.eqb_iff, Num.eqb_iff, Pln.mk.injEq]
theorem Stg.eqb_iff {a b : Stg} : a.eqb b = true ↔ a = b := by
  obtain ⟨a0, a1, a2⟩ := a; obtain ⟨b0, b1, b2⟩ := b
  simp only [Stg.eqb, Bool.and_eq_true, beq_iff_eq, Stg.mk.injEq]
theorem und28 : MD.P.underlying 28 = some (TypeDesc.array 4 27) := by kernel_rfl
theorem und30 : MD.P.underlying 30 = some (TypeDesc.struct #[Field.mk "C" 28 0 false "" "" 0, Field.mk "D" 27 8 false "" "" 96]) := by kernel_rfl
theorem und32 : MD.P.underlying 32 = some (TypeDesc.struct #[Field.mk "X" 30 0 false "" "" 0, Field.mk "Y" 30 10 false "" "" 120, Field.mk "Z" 30 20 false "" "" 240]) := by kernel_rfl
theorem und34 : MD.P.underlying 34 = some (TypeDesc.struct #[Field.mk "N" 32 0 false "" "" 0, Field.mk "D" 30 30 false "" "" 360]) := by kernel_rfl
theorem und36 : MD.P.underlying 36 = some (TypeDesc.struct #[Field.mk "H" 3 0 false "" "" 0, Field.mk "V" 3 1 false "" "" 8, Field.mk "Index" 3 2 false "" "" 16]) := by kernel_rfl
theorem held30 : MD.P.stoodInHeld 30 = false := by kernel_rfl
theorem held32 : MD.P.stoodInHeld 32 = false := by kernel_rfl
theorem held34 : MD.P.stoodInHeld 34 = false := by kernel_rfl
theorem held36 : MD.P.stoodInHeld 36 = false := by kernel_rfl
theorem eqIn27 (d : Nat) (a b : RI) : evalPure MD.P (Op.equalIn (d + 1 + 1) 27 (.agg a.vals.toArray) (.agg b.vals.toArray)) = some (a.eqb b) :=
  eqLoop (a1 := .bool a.g) (b1 := .bool b.g) (a2 := .string a.s) (b2 := .string b.s) und27 held27 (by decide) (by decide) (by kernel_rfl) (by kernel_rfl) (by kernel_rfl) (by kernel_rfl) (by kernel_rfl) (by kernel_rfl)
theorem eqIn28 (d : Nat) (a b : Num) : evalPure MD.P (Op.equalIn (d + 1 + 1 + 1) 28 (.agg a.cvals.toArray) (.agg b.cvals.toArray)) = some (a.c0.eqb b.c0 && (a.c1.eqb b.c1 && (a.c2.eqb b.c2 && a.c3.eqb b.c3))) :=
  eqArr4 (n := 2) (a0 := .agg a.c0.vals.toArray) (a1 := .agg a.c1.vals.toArray) (a2 := .agg a.c2.vals.toArray) (a3 := .agg a.c3.vals.toArray) (b0 := .agg b.c0.vals.toArray) (b1 := .agg b.c1.vals.toArray) (b2 := .agg b.c2.vals.toArray) (b3 := .agg b.c3.vals.toArray) und28 (by kernel_rfl)
    (by kernel_rfl) (by kernel_rfl) (by kernel_rfl) (by kernel_rfl) (by kernel_rfl) (by kernel_rfl) (by kernel_rfl) (by kernel_rfl) (eqIn27 d _ _) (eqIn27 d _ _) (eqIn27 d _ _) (eqIn27 d _ _)
theorem eqIn30 (d : Nat) (a b : Num) : evalPure MD.P (Op.equalIn (d + 1 + 1 + 1 + 1) 30 (.agg a.vals.toArray) (.agg b.vals.toArray)) = some (a.eqb b) :=
  eqLoop (a1 := .agg a.cvals.toArray) (b1 := .agg b.cvals.toArray) (a2 := .agg a.d.vals.toArray) (b2 := .agg b.d.vals.toArray) und30 held30 (by decide) (by decide) (by kernel_rfl) (by kernel_rfl) (by kernel_rfl) (by kernel_rfl) (eqIn28 d _ _) (eqIn27 (d + 1) _ _)
theorem eqIn32 (d : Nat) (a b : Vec) : evalPure MD.P (Op.equalIn (d + 1 + 1 + 1 + 1 + 1) 32 (.agg a.vals.toArray) (.agg b.vals.toArray)) = some (a.eqb b) :=
  eqLoop3 (a1 := .agg a.x.vals.toArray) (b1 := .agg b.x.vals.toArray) (a2 := .agg a.y.vals.toArray) (b2 := .agg b.y.vals.toArray) (a3 := .agg a.z.vals.toArray) (b3 := .agg b.z.vals.toArray) und32 held32 (by decide) (by decide) (by decide)
    (by kernel_rfl) (by kernel_rfl) (by kernel_rfl) (by kernel_rfl) (by kernel_rfl) (by kernel_rfl) (eqIn30 d _ _) (eqIn30 d _ _) (eqIn30 d _ _)
theorem eqIn34 (d : Nat) (a b : Pln) : evalPure MD.P (Op.equalIn (d + 1 + 1 + 1 + 1 + 1 + 1) 34 (.agg a.vals.toArray) (.agg b.vals.toArray)) = some (a.eqb b) :=
  eqLoop (a1 := .agg a.n.vals.toArray) (b1 := .agg b.n.vals.toArray) (a2 := .agg a.d.vals.toArray) (b2 := .agg b.d.vals.toArray) und34 held34 (by decide) (by decide) (by kernel_rfl) (by kernel_rfl) (by kernel_rfl) (by kernel_rfl) (eqIn32 d _ _) (eqIn30 (d + 1) _ _)
theorem eqIn36 (d : Nat) (a b : Stg) : evalPure MD.P (Op.equalIn (d + 1 + 1) 36 (.agg a.vals.toArray) (.agg b.vals.toArray)) = some (a.eqb b) :=
  eqLoop3 (a1 := .int .i64 a.h) (b1 := .int .i64 b.h) (a2 := .int .i64 a.v) (b2 := .int .i64 b.v) (a3 := .int .i64 a.i) (b3 := .int .i64 b.i) und36 held36 (by decide) (by decide) (by decide)
    (by kernel_rfl) (by kernel_rfl) (by kernel_rfl) (by kernel_rfl) (by kernel_rfl) (by kernel_rfl) (by kernel_rfl) (by kernel_rfl) (by kernel_rfl)
theorem eqIs_of {t : TypeId} {x y : Operand} {xs ys : Array Value} {c : Bool} (hg : evalPure MD.P (eqGuard .eql t x y (.agg xs) (.agg ys)) = some ()) (h : evalPure MD.P (Op.equalIn (9999 + 1) t (.agg xs) (.agg ys)) = some c) : EqIs MD.P .eql t x y (.agg xs) (.agg ys) c := by
  show (evalPure MD.P ((eqGuard .eql t x y (.agg xs) (.agg ys)).bind fun _ => binOp .eql t (.agg xs) (.agg ys))).bind pvOf = some (.lit (.bool c))
  rw [evalPure_bind hg]
  show (evalPure MD.P ((Op.equalIn (9999 + 1) t (.agg xs) (.agg ys)).bind fun r => .pure (.bool r))).bind pvOf = some (.lit (.bool c))
  rw [evalPure_bind h]; rfl
theorem neqIs_of {t : TypeId} {x y : Operand} {xs ys : Array Value} {c : Bool} (hg : evalPure MD.P (eqGuard .neq t x y (.agg xs) (.agg ys)) = some ()) (h : evalPure MD.P (Op.equalIn (9999 + 1) t (.agg xs) (.agg ys)) = some c) : EqIs MD.P .neq t x y (.agg xs) (.agg ys) (!c) := by
  show (evalPure MD.P ((eqGuard .neq t x y (.agg xs) (.agg ys)).bind fun _ => binOp .neq t (.agg xs) (.agg ys))).bind pvOf = some (.lit (.bool (!c)))
  rw [evalPure_bind hg]
  show (evalPure MD.P ((Op.equalIn (9999 + 1) t (.agg xs) (.agg ys)).bind fun r => .pure (.bool (!r)))).bind pvOf = some (.lit (.bool (!c)))
  rw [evalPure_bind h]; rfl
theorem eqIs27' {m n : Nat} {a b : RI} {c : Bool} (h : a.eqb b = c) : EqIs MD.P .eql 27 (.tmp m) (.tmp n) (.agg a.vals.toArray) (.agg b.vals.toArray) c := by subst h; exact eqIs_of (by kernel_rfl) (eqIn27 9998 a b)
theorem eqIs32 {m n : Nat} {a b : Vec} {c : Bool} (h : a.eqb b = c) : EqIs MD.P .eql 32 (.tmp m) (.tmp n) (.agg a.vals.toArray) (.agg b.vals.toArray) c := by subst h; exact eqIs_of (by kernel_rfl) (eqIn32 9995 a b)
theorem eqIs34 {m n : Nat} {a b : Pln} {c : Bool} (h : a.eqb b = c) : EqIs MD.P .eql 34 (.tmp m) (.tmp n) (.agg a.vals.toArray) (.agg b.vals.toArray) c := by subst h; exact eqIs_of (by kernel_rfl) (eqIn34 9994 a b)
theorem eqIs36 {m n : Nat} {a b : Stg} {c : Bool} (h : a.eqb b = c) : EqIs MD.P .eql 36 (.tmp m) (.tmp n) (.agg a.vals.toArray) (.agg b.vals.toArray) c := by subst h; exact eqIs_of (by kernel_rfl) (eqIn36 9998 a b)
theorem neqIs32 {m n : Nat} {a b : Vec} {c : Bool} (h : (!a.eqb b) = c) : EqIs MD.P .neq 32 (.tmp m) (.tmp n) (.agg a.vals.toArray) (.agg b.vals.toArray) c := by subst h; exact neqIs_of (by kernel_rfl) (eqIn32 9995 a b)
end Go.Proofs.YtibbgjafjhcemaaDoor.Cul
