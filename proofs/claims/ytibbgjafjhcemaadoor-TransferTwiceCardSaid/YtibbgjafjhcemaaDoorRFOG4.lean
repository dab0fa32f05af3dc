/- Part of a proof by an abstract machine for the program's code: lemmas, without conditions of their own beyond those that each states. -/
import Derived.Test.YtibbgjafjhcemaaDoorRFOG3
/-! B8 -/
set_option linter.unusedVariables false
set_option linter.unusedSimpArgs false
set_option maxRecDepth 100000
namespace Go.Proofs.YtibbgjafjhcemaaDoor.Cul
open Go Go.RowKit
noncomputable def t9 : Cl := tabF [(111, add32T), (112, sub32T)]
theorem da0 (k n o v1 v2 q r c : Nat) (es cs : List PV) : roundX MD t9 k 109 0 ⟨[(0, .bs 1000000 o 1 (n + 1)), (1, .pv (.sl 1 n cs)), (5, .pv (iv n)), (7, .pv (u64v q)), (8, .pv (u64v r))], [(1000000, es)], [], []⟩ [.c true, .i 70 (q - 1 : Nat), .i 74 (n - 1 : Nat), .a 75 [u32v v1], .i 77 v1, .i 78 (r + v1 : Nat), .c false] =
  some ((Xt.normal, St.mk [(0, AV.bs 1000000 o 1 (n + (1 : Nat))), (1, AV.pv (PV.sl 1 n cs)), (5, AV.pv (PV.lit (Value.int IntKind.i64 (↑n : Int)))), (7, AV.pv (PV.lit (Value.int IntKind.u64 (↑(q - (1 : Nat)) : Int)))), (8, AV.pv (PV.lit (Value.int IntKind.u64 (↑(r + v1) : Int)))), (80, AV.pv (PV.lit (Value.bool false)))] [(1000000, es)] [] []), [], [decide ((↑q : Int) ≥ (4294967296 : Int)) = true, IntKind.u64.wrap ((↑q : Int) - (1 : Int)) = (↑(q - (1 : Nat)) : Int), IntKind.i64.wrap ((↑n : Int) - (1 : Int)) = (↑(n - (1 : Nat)) : Int), RowAt cs 1 (↑(n - (1 : Nat)) : Int) n [PV.lit (Value.int IntKind.u32 (↑v1 : Int))], IntKind.u64.wrap (↑v1 : Int) = (↑v1 : Int), IntKind.u64.wrap ((↑r : Int) + (↑v1 : Int)) = (↑(r + v1) : Int), decide ((↑(r + v1) : Int) ≥ (4294967296 : Int)) = false]) := by kernel_rfl
theorem db0 (k n o v1 v2 q r c : Nat) (es cs : List PV) : roundX MD t9 k 109 0 ⟨[(0, .bs 1000000 o 1 (n + 1)), (1, .pv (.sl 1 n cs)), (5, .pv (iv n)), (7, .pv (u64v q)), (8, .pv (u64v r)), (80, .pv (bv false))], [(1000000, es)], [], []⟩ [.c true, .i 70 (q - 1 : Nat), .i 74 (n - 1 : Nat), .a 75 [u32v v1], .i 77 v1, .i 78 (r + v1 : Nat), .c false] =
  some ((Xt.normal, St.mk [(0, AV.bs 1000000 o 1 (n + (1 : Nat))), (1, AV.pv (PV.sl 1 n cs)), (5, AV.pv (PV.lit (Value.int IntKind.i64 (↑n : Int)))), (7, AV.pv (PV.lit (Value.int IntKind.u64 (↑(q - (1 : Nat)) : Int)))), (8, AV.pv (PV.lit (Value.int IntKind.u64 (↑(r + v1) : Int)))), (80, AV.pv (PV.lit (Value.bool false)))] [(1000000, es)] [] []), [], [decide ((↑q : Int) ≥ (4294967296 : Int)) = true, IntKind.u64.wrap ((↑q : Int) - (1 : Int)) = (↑(q - (1 : Nat)) : Int), IntKind.i64.wrap ((↑n : Int) - (1 : Int)) = (↑(n - (1 : Nat)) : Int), RowAt cs 1 (↑(n - (1 : Nat)) : Int) n [PV.lit (Value.int IntKind.u32 (↑v1 : Int))], IntKind.u64.wrap (↑v1 : Int) = (↑v1 : Int), IntKind.u64.wrap ((↑r : Int) + (↑v1 : Int)) = (↑(r + v1) : Int), decide ((↑(r + v1) : Int) ≥ (4294967296 : Int)) = false]) := by kernel_rfl
theorem da1 (k n o v1 v2 q r c : Nat) (es cs : List PV) : roundX MD t9 k 109 0 ⟨[(0, .bs 1000000 o 1 (n + 1)), (1, .pv (.sl 1 n cs)), (5, .pv (iv n)), (7, .pv (u64v q)), (8, .pv (u64v r))], [(1000000, es)], [], []⟩ [.c true, .i 70 (q - 1 : Nat), .i 74 (n - 1 : Nat), .a 75 [u32v v1], .i 77 v1, .i 78 (r + v1 : Nat), .c true] =
  some ((Xt.exit 0, St.mk [(0, AV.bs 1000000 o 1 (n + (1 : Nat))), (1, AV.pv (PV.sl 1 n cs)), (5, AV.pv (PV.lit (Value.int IntKind.i64 (↑n : Int)))), (7, AV.pv (PV.lit (Value.int IntKind.u64 (↑(q - (1 : Nat)) : Int)))), (8, AV.pv (PV.lit (Value.int IntKind.u64 (↑(r + v1) : Int)))), (80, AV.pv (PV.lit (Value.bool true)))] [(1000000, es)] [] []), [], [decide ((↑q : Int) ≥ (4294967296 : Int)) = true, IntKind.u64.wrap ((↑q : Int) - (1 : Int)) = (↑(q - (1 : Nat)) : Int), IntKind.i64.wrap ((↑n : Int) - (1 : Int)) = (↑(n - (1 : Nat)) : Int), RowAt cs 1 (↑(n - (1 : Nat)) : Int) n [PV.lit (Value.int IntKind.u32 (↑v1 : Int))], IntKind.u64.wrap (↑v1 : Int) = (↑v1 : Int), IntKind.u64.wrap ((↑r : Int) + (↑v1 : Int)) = (↑(r + v1) : Int), decide ((↑(r + v1) : Int) ≥ (4294967296 : Int)) = true]) := by kernel_rfl
theorem db1 (k n o v1 v2 q r c : Nat) (es cs : List PV) : roundX MD t9 k 109 0 ⟨[(0, .bs 1000000 o 1 (n + 1)), (1, .pv (.sl 1 n cs)), (5, .pv (iv n)), (7, .pv (u64v q)), (8, .pv (u64v r)), (80, .pv (bv false))], [(1000000, es)], [], []⟩ [.c true, .i 70 (q - 1 : Nat), .i 74 (n - 1 : Nat), .a 75 [u32v v1], .i 77 v1, .i 78 (r + v1 : Nat), .c true] =
  some ((Xt.exit 0, St.mk [(0, AV.bs 1000000 o 1 (n + (1 : Nat))), (1, AV.pv (PV.sl 1 n cs)), (5, AV.pv (PV.lit (Value.int IntKind.i64 (↑n : Int)))), (7, AV.pv (PV.lit (Value.int IntKind.u64 (↑(q - (1 : Nat)) : Int)))), (8, AV.pv (PV.lit (Value.int IntKind.u64 (↑(r + v1) : Int)))), (80, AV.pv (PV.lit (Value.bool true)))] [(1000000, es)] [] []), [], [decide ((↑q : Int) ≥ (4294967296 : Int)) = true, IntKind.u64.wrap ((↑q : Int) - (1 : Int)) = (↑(q - (1 : Nat)) : Int), IntKind.i64.wrap ((↑n : Int) - (1 : Int)) = (↑(n - (1 : Nat)) : Int), RowAt cs 1 (↑(n - (1 : Nat)) : Int) n [PV.lit (Value.int IntKind.u32 (↑v1 : Int))], IntKind.u64.wrap (↑v1 : Int) = (↑v1 : Int), IntKind.u64.wrap ((↑r : Int) + (↑v1 : Int)) = (↑(r + v1) : Int), decide ((↑(r + v1) : Int) ≥ (4294967296 : Int)) = true]) := by kernel_rfl
theorem da2 (k n o v1 v2 q r c : Nat) (es cs : List PV) : roundX MD t9 k 109 0 ⟨[(0, .bs 1000000 o 1 (n + 1)), (1, .pv (.sl 1 n cs)), (5, .pv (iv n)), (7, .pv (u64v q)), (8, .pv (u64v r))], [(1000000, es)], [], []⟩ [.c false, .i 53 (n - 2 : Nat), .a 54 [u32v v2], .i 56 v2, .i 57 (q * v2 : Nat), .i 59 (2 ^ 32 * r : Nat), .i 62 (n - 2 : Nat), .j 63 (n - 2), .e 64 (u32v c), .i 65 c, .i 66 (2 ^ 32 * r + c : Nat), .c true, .i 70 (q - 1 : Nat), .i 74 (n - 1 : Nat), .a 75 [u32v v1], .i 77 v1, .i 78 (r + v1 : Nat), .c false] =
  some ((Xt.normal, St.mk [(0, AV.bs 1000000 o 1 (n + (1 : Nat))), (1, AV.pv (PV.sl 1 n cs)), (5, AV.pv (PV.lit (Value.int IntKind.i64 (↑n : Int)))), (7, AV.pv (PV.lit (Value.int IntKind.u64 (↑(q - (1 : Nat)) : Int)))), (8, AV.pv (PV.lit (Value.int IntKind.u64 (↑(r + v1) : Int)))), (80, AV.pv (PV.lit (Value.bool false)))] [(1000000, es)] [] []), [], [decide ((↑q : Int) ≥ (4294967296 : Int)) = false, IntKind.i64.wrap ((↑n : Int) - (2 : Int)) = (↑(n - (2 : Nat)) : Int), RowAt cs 1 (↑(n - (2 : Nat)) : Int) n [PV.lit (Value.int IntKind.u32 (↑v2 : Int))], IntKind.u64.wrap (↑v2 : Int) = (↑v2 : Int), IntKind.u64.wrap ((↑q : Int) * (↑v2 : Int)) = (↑(q * v2) : Int), IntKind.u64.wrap ((↑r : Int) * (2 : Int) ^ min (Int.toNat (32 : Int)) IntKind.u64.bits) = (↑((2 : Nat) ^ (32 : Nat) * r) : Int), false = false, IntKind.i64.wrap ((↑n : Int) - (2 : Int)) = (↑(n - (2 : Nat)) : Int), AtIdx (↑(n - (2 : Nat)) : Int) (n + (1 : Nat)) (n - (2 : Nat)), Ld MD.P 111 es (o + (n - (2 : Nat)) * (1 : Nat)) (PV.lit (Value.int IntKind.u32 (↑c : Int))), IntKind.u64.wrap (↑c : Int) = (↑c : Int), IntKind.u64.wrap (↑(BitVec.ofInt IntKind.u64.bits (↑((2 : Nat) ^ (32 : Nat) * r) : Int) ||| BitVec.ofInt IntKind.u64.bits (↑c : Int)).toNat : Int) = (↑((2 : Nat) ^ (32 : Nat) * r + c) : Int), decide ((↑(q * v2) : Int) > (↑((2 : Nat) ^ (32 : Nat) * r + c) : Int)) = true, IntKind.u64.wrap ((↑q : Int) - (1 : Int)) = (↑(q - (1 : Nat)) : Int), IntKind.i64.wrap ((↑n : Int) - (1 : Int)) = (↑(n - (1 : Nat)) : Int), RowAt cs 1 (↑(n - (1 : Nat)) : Int) n [PV.lit (Value.int IntKind.u32 (↑v1 : Int))], IntKind.u64.wrap (↑v1 : Int) = (↑v1 : Int), IntKind.u64.wrap ((↑r : Int) + (↑v1 : Int)) = (↑(r + v1) : Int), decide ((↑(r + v1) : Int) ≥ (4294967296 : Int)) = false]) := by kernel_rfl
theorem db2 (k n o v1 v2 q r c : Nat) (es cs : List PV) : roundX MD t9 k 109 0 ⟨[(0, .bs 1000000 o 1 (n + 1)), (1, .pv (.sl 1 n cs)), (5, .pv (iv n)), (7, .pv (u64v q)), (8, .pv (u64v r)), (80, .pv (bv false))], [(1000000, es)], [], []⟩ [.c false, .i 53 (n - 2 : Nat), .a 54 [u32v v2], .i 56 v2, .i 57 (q * v2 : Nat), .i 59 (2 ^ 32 * r : Nat), .i 62 (n - 2 : Nat), .j 63 (n - 2), .e 64 (u32v c), .i 65 c, .i 66 (2 ^ 32 * r + c : Nat), .c true, .i 70 (q - 1 : Nat), .i 74 (n - 1 : Nat), .a 75 [u32v v1], .i 77 v1, .i 78 (r + v1 : Nat), .c false] =
  some ((Xt.normal, St.mk [(0, AV.bs 1000000 o 1 (n + (1 : Nat))), (1, AV.pv (PV.sl 1 n cs)), (5, AV.pv (PV.lit (Value.int IntKind.i64 (↑n : Int)))), (7, AV.pv (PV.lit (Value.int IntKind.u64 (↑(q - (1 : Nat)) : Int)))), (8, AV.pv (PV.lit (Value.int IntKind.u64 (↑(r + v1) : Int)))), (80, AV.pv (PV.lit (Value.bool false)))] [(1000000, es)] [] []), [], [decide ((↑q : Int) ≥ (4294967296 : Int)) = false, IntKind.i64.wrap ((↑n : Int) - (2 : Int)) = (↑(n - (2 : Nat)) : Int), RowAt cs 1 (↑(n - (2 : Nat)) : Int) n [PV.lit (Value.int IntKind.u32 (↑v2 : Int))], IntKind.u64.wrap (↑v2 : Int) = (↑v2 : Int), IntKind.u64.wrap ((↑q : Int) * (↑v2 : Int)) = (↑(q * v2) : Int), IntKind.u64.wrap ((↑r : Int) * (2 : Int) ^ min (Int.toNat (32 : Int)) IntKind.u64.bits) = (↑((2 : Nat) ^ (32 : Nat) * r) : Int), false = false, IntKind.i64.wrap ((↑n : Int) - (2 : Int)) = (↑(n - (2 : Nat)) : Int), AtIdx (↑(n - (2 : Nat)) : Int) (n + (1 : Nat)) (n - (2 : Nat)), Ld MD.P 111 es (o + (n - (2 : Nat)) * (1 : Nat)) (PV.lit (Value.int IntKind.u32 (↑c : Int))), IntKind.u64.wrap (↑c : Int) = (↑c : Int), IntKind.u64.wrap (↑(BitVec.ofInt IntKind.u64.bits (↑((2 : Nat) ^ (32 : Nat) * r) : Int) ||| BitVec.ofInt IntKind.u64.bits (↑c : Int)).toNat : Int) = (↑((2 : Nat) ^ (32 : Nat) * r + c) : Int), decide ((↑(q * v2) : Int) > (↑((2 : Nat) ^ (32 : Nat) * r + c) : Int)) = true, IntKind.u64.wrap ((↑q : Int) - (1 : Int)) = (↑(q - (1 : Nat)) : Int), IntKind.i64.wrap ((↑n : Int) - (1 : Int)) = (↑(n - (1 : Nat)) : Int), RowAt cs 1 (↑(n - (1 : Nat)) : Int) n [PV.lit (Value.int IntKind.u32 (↑v1 : Int))], IntKind.u64.wrap (↑v1 : Int) = (↑v1 : Int), IntKind.u64.wrap ((↑r : Int) + (↑v1 : Int)) = (↑(r + v1) : Int), decide ((↑(r + v1) : Int) ≥ (4294967296 : Int)) = false]) := by kernel_rfl
theorem da3 (k n o v1 v2 q r c : Nat) (es cs : List PV) : roundX MD t9 k 109 0 ⟨[(0, .bs 1000000 o 1 (n + 1)), (1, .pv (.sl 1 n cs)), (5, .pv (iv n)), (7, .pv (u64v q)), (8, .pv (u64v r))], [(1000000, es)], [], []⟩ [.c false, .i 53 (n - 2 : Nat), .a 54 [u32v v2], .i 56 v2, .i 57 (q * v2 : Nat), .i 59 (2 ^ 32 * r : Nat), .i 62 (n - 2 : Nat), .j 63 (n - 2), .e 64 (u32v c), .i 65 c, .i 66 (2 ^ 32 * r + c : Nat), .c true, .i 70 (q - 1 : Nat), .i 74 (n - 1 : Nat), .a 75 [u32v v1], .i 77 v1, .i 78 (r + v1 : Nat), .c true] =
  some ((Xt.exit 0, St.mk [(0, AV.bs 1000000 o 1 (n + (1 : Nat))), (1, AV.pv (PV.sl 1 n cs)), (5, AV.pv (PV.lit (Value.int IntKind.i64 (↑n : Int)))), (7, AV.pv (PV.lit (Value.int IntKind.u64 (↑(q - (1 : Nat)) : Int)))), (8, AV.pv (PV.lit (Value.int IntKind.u64 (↑(r + v1) : Int)))), (80, AV.pv (PV.lit (Value.bool true)))] [(1000000, es)] [] []), [], [decide ((↑q : Int) ≥ (4294967296 : Int)) = false, IntKind.i64.wrap ((↑n : Int) - (2 : Int)) = (↑(n - (2 : Nat)) : Int), RowAt cs 1 (↑(n - (2 : Nat)) : Int) n [PV.lit (Value.int IntKind.u32 (↑v2 : Int))], IntKind.u64.wrap (↑v2 : Int) = (↑v2 : Int), IntKind.u64.wrap ((↑q : Int) * (↑v2 : Int)) = (↑(q * v2) : Int), IntKind.u64.wrap ((↑r : Int) * (2 : Int) ^ min (Int.toNat (32 : Int)) IntKind.u64.bits) = (↑((2 : Nat) ^ (32 : Nat) * r) : Int), false = false, IntKind.i64.wrap ((↑n : Int) - (2 : Int)) = (↑(n - (2 : Nat)) : Int), AtIdx (↑(n - (2 : Nat)) : Int) (n + (1 : Nat)) (n - (2 : Nat)), Ld MD.P 111 es (o + (n - (2 : Nat)) * (1 : Nat)) (PV.lit (Value.int IntKind.u32 (↑c : Int))), IntKind.u64.wrap (↑c : Int) = (↑c : Int), IntKind.u64.wrap (↑(BitVec.ofInt IntKind.u64.bits (↑((2 : Nat) ^ (32 : Nat) * r) : Int) ||| BitVec.ofInt IntKind.u64.bits (↑c : Int)).toNat : Int) = (↑((2 : Nat) ^ (32 : Nat) * r + c) : Int), decide ((↑(q * v2) : Int) > (↑((2 : Nat) ^ (32 : Nat) * r + c) : Int)) = true, IntKind.u64.wrap ((↑q : Int) - (1 : Int)) = (↑(q - (1 : Nat)) : Int), IntKind.i64.wrap ((↑n : Int) - (1 : Int)) = (↑(n - (1 : Nat)) : Int), RowAt cs 1 (↑(n - (1 : Nat)) : Int) n [PV.lit (Value.int IntKind.u32 (↑v1 : Int))], IntKind.u64.wrap (↑v1 : Int) = (↑v1 : Int), IntKind.u64.wrap ((↑r : Int) + (↑v1 : Int)) = (↑(r + v1) : Int), decide ((↑(r + v1) : Int) ≥ (4294967296 : Int)) = true]) := by kernel_rfl
theorem db3 (k n o v1 v2 q r c : Nat) (es cs : List PV) : roundX MD t9 k 109 0 ⟨[(0, .bs 1000000 o 1 (n + 1)), (1, .pv (.sl 1 n cs)), (5, .pv (iv n)), (7, .pv (u64v q)), (8, .pv (u64v r)), (80, .pv (bv false))], [(1000000, es)], [], []⟩ [.c false, .i 53 (n - 2 : Nat), .a 54 [u32v v2], .i 56 v2, .i 57 (q * v2 : Nat), .i 59 (2 ^ 32 * r : Nat), .i 62 (n - 2 : Nat), .j 63 (n - 2), .e 64 (u32v c), .i 65 c, .i 66 (2 ^ 32 * r + c : Nat), .c true, .i 70 (q - 1 : Nat), .i 74 (n - 1 : Nat), .a 75 [u32v v1], .i 77 v1, .i 78 (r + v1 : Nat), .c true] =
  some ((Xt.exit 0, St.mk [(0, AV.bs 1000000 o 1 (n + (1 : Nat))), (1, AV.pv (PV.sl 1 n cs)), (5, AV.pv (PV.lit (Value.int IntKind.i64 (↑n : Int)))), (7, AV.pv (PV.lit (Value.int IntKind.u64 (↑(q - (1 : Nat)) : Int)))), (8, AV.pv (PV.lit (Value.int IntKind.u64 (↑(r + v1) : Int)))), (80, AV.pv (PV.lit (Value.bool true)))] [(1000000, es)] [] []), [], [decide ((↑q : Int) ≥ (4294967296 : Int)) = false, IntKind.i64.wrap ((↑n : Int) - (2 : Int)) = (↑(n - (2 : Nat)) : Int), RowAt cs 1 (↑(n - (2 : Nat)) : Int) n [PV.lit (Value.int IntKind.u32 (↑v2 : Int))], IntKind.u64.wrap (↑v2 : Int) = (↑v2 : Int), IntKind.u64.wrap ((↑q : Int) * (↑v2 : Int)) = (↑(q * v2) : Int), IntKind.u64.wrap ((↑r : Int) * (2 : Int) ^ min (Int.toNat (32 : Int)) IntKind.u64.bits) = (↑((2 : Nat) ^ (32 : Nat) * r) : Int), false = false, IntKind.i64.wrap ((↑n : Int) - (2 : Int)) = (↑(n - (2 : Nat)) : Int), AtIdx (↑(n - (2 : Nat)) : Int) (n + (1 : Nat)) (n - (2 : Nat)), Ld MD.P 111 es (o + (n - (2 : Nat)) * (1 : Nat)) (PV.lit (Value.int IntKind.u32 (↑c : Int))), IntKind.u64.wrap (↑c : Int) = (↑c : Int), IntKind.u64.wrap (↑(BitVec.ofInt IntKind.u64.bits (↑((2 : Nat) ^ (32 : Nat) * r) : Int) ||| BitVec.ofInt IntKind.u64.bits (↑c : Int)).toNat : Int) = (↑((2 : Nat) ^ (32 : Nat) * r + c) : Int), decide ((↑(q * v2) : Int) > (↑((2 : Nat) ^ (32 : Nat) * r + c) : Int)) = true, IntKind.u64.wrap ((↑q : Int) - (1 : Int)) = (↑(q - (1 : Nat)) : Int), IntKind.i64.wrap ((↑n : Int) - (1 : Int)) = (↑(n - (1 : Nat)) : Int), RowAt cs 1 (↑(n - (1 : Nat)) : Int) n [PV.lit (Value.int IntKind.u32 (↑v1 : Int))], IntKind.u64.wrap (↑v1 : Int) = (↑v1 : Int), IntKind.u64.wrap ((↑r : Int) + (↑v1 : Int)) = (↑(r + v1) : Int), decide ((↑(r + v1) : Int) ≥ (4294967296 : Int)) = true]) := by kernel_rfl
theorem da4 (k n o v1 v2 q r c : Nat) (es cs : List PV) : roundX MD t9 k 109 0 ⟨[(0, .bs 1000000 o 1 (n + 1)), (1, .pv (.sl 1 n cs)), (5, .pv (iv n)), (7, .pv (u64v q)), (8, .pv (u64v r))], [(1000000, es)], [], []⟩ [.c false, .i 53 (n - 2 : Nat), .a 54 [u32v v2], .i 56 v2, .i 57 (q * v2 : Nat), .i 59 (2 ^ 32 * r : Nat), .i 62 (n - 2 : Nat), .j 63 (n - 2), .e 64 (u32v c), .i 65 c, .i 66 (2 ^ 32 * r + c : Nat), .c false] =
  some ((Xt.exit 0, St.mk [(0, AV.bs 1000000 o 1 (n + (1 : Nat))), (1, AV.pv (PV.sl 1 n cs)), (5, AV.pv (PV.lit (Value.int IntKind.i64 (↑n : Int)))), (7, AV.pv (PV.lit (Value.int IntKind.u64 (↑q : Int)))), (8, AV.pv (PV.lit (Value.int IntKind.u64 (↑r : Int)))), (68, AV.pv (PV.lit (Value.bool false)))] [(1000000, es)] [] []), [], [decide ((↑q : Int) ≥ (4294967296 : Int)) = false, IntKind.i64.wrap ((↑n : Int) - (2 : Int)) = (↑(n - (2 : Nat)) : Int), RowAt cs 1 (↑(n - (2 : Nat)) : Int) n [PV.lit (Value.int IntKind.u32 (↑v2 : Int))], IntKind.u64.wrap (↑v2 : Int) = (↑v2 : Int), IntKind.u64.wrap ((↑q : Int) * (↑v2 : Int)) = (↑(q * v2) : Int), IntKind.u64.wrap ((↑r : Int) * (2 : Int) ^ min (Int.toNat (32 : Int)) IntKind.u64.bits) = (↑((2 : Nat) ^ (32 : Nat) * r) : Int), false = false, IntKind.i64.wrap ((↑n : Int) - (2 : Int)) = (↑(n - (2 : Nat)) : Int), AtIdx (↑(n - (2 : Nat)) : Int) (n + (1 : Nat)) (n - (2 : Nat)), Ld MD.P 111 es (o + (n - (2 : Nat)) * (1 : Nat)) (PV.lit (Value.int IntKind.u32 (↑c : Int))), IntKind.u64.wrap (↑c : Int) = (↑c : Int), IntKind.u64.wrap (↑(BitVec.ofInt IntKind.u64.bits (↑((2 : Nat) ^ (32 : Nat) * r) : Int) ||| BitVec.ofInt IntKind.u64.bits (↑c : Int)).toNat : Int) = (↑((2 : Nat) ^ (32 : Nat) * r + c) : Int), decide ((↑(q * v2) : Int) > (↑((2 : Nat) ^ (32 : Nat) * r + c) : Int)) = false]) := by kernel_rfl
theorem db4 (k n o v1 v2 q r c : Nat) (es cs : List PV) : roundX MD t9 k 109 0 ⟨[(0, .bs 1000000 o 1 (n + 1)), (1, .pv (.sl 1 n cs)), (5, .pv (iv n)), (7, .pv (u64v q)), (8, .pv (u64v r)), (80, .pv (bv false))], [(1000000, es)], [], []⟩ [.c false, .i 53 (n - 2 : Nat), .a 54 [u32v v2], .i 56 v2, .i 57 (q * v2 : Nat), .i 59 (2 ^ 32 * r : Nat), .i 62 (n - 2 : Nat), .j 63 (n - 2), .e 64 (u32v c), .i 65 c, .i 66 (2 ^ 32 * r + c : Nat), .c false] =
  some ((Xt.exit 0, St.mk [(0, AV.bs 1000000 o 1 (n + (1 : Nat))), (1, AV.pv (PV.sl 1 n cs)), (5, AV.pv (PV.lit (Value.int IntKind.i64 (↑n : Int)))), (7, AV.pv (PV.lit (Value.int IntKind.u64 (↑q : Int)))), (8, AV.pv (PV.lit (Value.int IntKind.u64 (↑r : Int)))), (68, AV.pv (PV.lit (Value.bool false)))] [(1000000, es)] [] []), [], [decide ((↑q : Int) ≥ (4294967296 : Int)) = false, IntKind.i64.wrap ((↑n : Int) - (2 : Int)) = (↑(n - (2 : Nat)) : Int), RowAt cs 1 (↑(n - (2 : Nat)) : Int) n [PV.lit (Value.int IntKind.u32 (↑v2 : Int))], IntKind.u64.wrap (↑v2 : Int) = (↑v2 : Int), IntKind.u64.wrap ((↑q : Int) * (↑v2 : Int)) = (↑(q * v2) : Int), IntKind.u64.wrap ((↑r : Int) * (2 : Int) ^ min (Int.toNat (32 : Int)) IntKind.u64.bits) = (↑((2 : Nat) ^ (32 : Nat) * r) : Int), false = false, IntKind.i64.wrap ((↑n : Int) - (2 : Int)) = (↑(n - (2 : Nat)) : Int), AtIdx (↑(n - (2 : Nat)) : Int) (n + (1 : Nat)) (n - (2 : Nat)), Ld MD.P 111 es (o + (n - (2 : Nat)) * (1 : Nat)) (PV.lit (Value.int IntKind.u32 (↑c : Int))), IntKind.u64.wrap (↑c : Int) = (↑c : Int), IntKind.u64.wrap (↑(BitVec.ofInt IntKind.u64.bits (↑((2 : Nat) ^ (32 : Nat) * r) : Int) ||| BitVec.ofInt IntKind.u64.bits (↑c : Int)).toNat : Int) = (↑((2 : Nat) ^ (32 : Nat) * r + c) : Int), decide ((↑(q * v2) : Int) > (↑((2 : Nat) ^ (32 : Nat) * r + c) : Int)) = false]) := by kernel_rfl
theorem ds0 (k n o q c bw i : Nat) (es cs : List PV) : roundX MD t9 k 109 1 ⟨[(0, .bs 1000000 o 1 (n + 1)), (1, .pv (.sl 1 n cs)), (5, .pv (iv n)), (7, .pv (u64v q)), (9, .pv (u64v c)), (10, .pv (u32v bw)), (81, .pv (.sl 1 n cs)), (82, .pv (iv n)), (83, .pv (iv i))], [(1000000, es)], [], []⟩ [.c false] =
  some ((Xt.exit 2, St.mk [(0, AV.bs 1000000 o 1 (n + (1 : Nat))), (1, AV.pv (PV.sl 1 n cs)), (5, AV.pv (PV.lit (Value.int IntKind.i64 (↑n : Int)))), (7, AV.pv (PV.lit (Value.int IntKind.u64 (↑q : Int)))), (9, AV.pv (PV.lit (Value.int IntKind.u64 (↑c : Int)))), (10, AV.pv (PV.lit (Value.int IntKind.u32 (↑bw : Int)))), (81, AV.pv (PV.sl 1 n cs)), (82, AV.pv (PV.lit (Value.int IntKind.i64 (↑n : Int)))), (83, AV.pv (PV.lit (Value.int IntKind.i64 (↑i : Int)))), (84, AV.pv (PV.lit (Value.bool false)))] [(1000000, es)] [] []), [], [decide ((↑i : Int) < (↑n : Int)) = false]) := by kernel_rfl
theorem ds1 (k n o q c bw i x a c1 s b2 : Nat) (es es' cs : List PV) : roundX MD t9 k 109 1 ⟨[(0, .bs 1000000 o 1 (n + 1)), (1, .pv (.sl 1 n cs)), (5, .pv (iv n)), (7, .pv (u64v q)), (9, .pv (u64v c)), (10, .pv (u32v bw)), (81, .pv (.sl 1 n cs)), (82, .pv (iv n)), (83, .pv (iv i))], [(1000000, es)], [], []⟩ [.c true, .a 86 [u32v x], .i 91 x, .i 92 (q * x : Nat), .i 93 c1, .j 99 i, .e 100 (u32v a), .i 102 (c1 % 4294967296 : Nat), .r (one (pair32 s b2)), .j 107 i, .s es', .i 109 (c1 / 4294967296 : Nat), .i 110 (i + 1 : Nat)] =
  some ((Xt.normal, St.mk [(0, AV.bs 1000000 o 1 (n + (1 : Nat))), (1, AV.pv (PV.sl 1 n cs)), (5, AV.pv (PV.lit (Value.int IntKind.i64 (↑n : Int)))), (7, AV.pv (PV.lit (Value.int IntKind.u64 (↑q : Int)))), (9, AV.pv (PV.lit (Value.int IntKind.u64 (↑(c1 / (4294967296 : Nat)) : Int)))), (10, AV.pv (PV.lit (Value.int IntKind.u32 (↑b2 : Int)))), (81, AV.pv (PV.sl 1 n cs)), (82, AV.pv (PV.lit (Value.int IntKind.i64 (↑n : Int)))), (83, AV.pv (PV.lit (Value.int IntKind.i64 (↑(i + (1 : Nat)) : Int))))] [(1000000, es')] [] []), [], [decide ((↑i : Int) < (↑n : Int)) = true, RowAt cs 1 (↑i : Int) n [PV.lit (Value.int IntKind.u32 (↑x : Int))], IntKind.u64.wrap (↑x : Int) = (↑x : Int), IntKind.u64.wrap ((↑q : Int) * (↑x : Int)) = (↑(q * x) : Int), IntKind.u64.wrap ((↑c : Int) + (↑(q * x) : Int)) = (↑c1 : Int), AtIdx (↑i : Int) (n + (1 : Nat)) i, Ld MD.P 111 es (o + i * (1 : Nat)) (PV.lit (Value.int IntKind.u32 (↑a : Int))), IntKind.u32.wrap (↑c1 : Int) = (↑(c1 % (4294967296 : Nat)) : Int), CallsTo t9 112 [PV.lit (Value.int IntKind.u32 (↑a : Int)), PV.lit (Value.int IntKind.u32 (↑(c1 % (4294967296 : Nat)) : Int)), PV.lit (Value.int IntKind.u32 (↑bw : Int))] (RV.mk (PV.tup [PV.lit (Value.int IntKind.u32 (↑s : Int)), PV.lit (Value.int IntKind.u32 (↑b2 : Int))]) none), AtIdx (↑i : Int) (n + (1 : Nat)) i, o + i * (1 : Nat) + (u32v s).cells.length ≤ es.length, Spl es (o + i * (1 : Nat)) [PV.lit (Value.int IntKind.u32 (↑s : Int))] es', (↑c1 : Int).fdiv ((2 : Int) ^ min (Int.toNat (32 : Int)) IntKind.u64.bits) = (↑(c1 / (4294967296 : Nat)) : Int), false = false, IntKind.i64.wrap ((↑i : Int) + (1 : Int)) = (↑(i + (1 : Nat)) : Int)]) := by kernel_rfl
theorem dt0 (k n o q c i : Nat) (es cs : List PV) : roundX MD t9 k 109 2 ⟨[(0, .bs 1000000 o 1 (n + 1)), (5, .pv (iv n)), (7, .pv (u64v q)), (13, .pv (u32v c)), (129, .pv (.sl 1 n cs)), (130, .pv (iv n)), (131, .pv (iv i))], [(1000000, es)], [], []⟩ [.c false] =
  some ((Xt.exit 4, St.mk [(0, AV.bs 1000000 o 1 (n + (1 : Nat))), (5, AV.pv (PV.lit (Value.int IntKind.i64 (↑n : Int)))), (7, AV.pv (PV.lit (Value.int IntKind.u64 (↑q : Int)))), (13, AV.pv (PV.lit (Value.int IntKind.u32 (↑c : Int)))), (129, AV.pv (PV.sl 1 n cs)), (130, AV.pv (PV.lit (Value.int IntKind.i64 (↑n : Int)))), (131, AV.pv (PV.lit (Value.int IntKind.i64 (↑i : Int)))), (132, AV.pv (PV.lit (Value.bool false)))] [(1000000, es)] [] []), [], [decide ((↑i : Int) < (↑n : Int)) = false]) := by kernel_rfl
theorem dt1 (k n o q c i x a s b2 : Nat) (es es' cs : List PV) : roundX MD t9 k 109 2 ⟨[(0, .bs 1000000 o 1 (n + 1)), (5, .pv (iv n)), (7, .pv (u64v q)), (13, .pv (u32v c)), (129, .pv (.sl 1 n cs)), (130, .pv (iv n)), (131, .pv (iv i))], [(1000000, es)], [], []⟩ [.c true, .a 134 [u32v x], .j 141 i, .e 142 (u32v a), .r (one (pair32 s b2)), .j 148 i, .s es', .i 149 (i + 1 : Nat)] =
  some ((Xt.normal, St.mk [(0, AV.bs 1000000 o 1 (n + (1 : Nat))), (5, AV.pv (PV.lit (Value.int IntKind.i64 (↑n : Int)))), (7, AV.pv (PV.lit (Value.int IntKind.u64 (↑q : Int)))), (13, AV.pv (PV.lit (Value.int IntKind.u32 (↑b2 : Int)))), (129, AV.pv (PV.sl 1 n cs)), (130, AV.pv (PV.lit (Value.int IntKind.i64 (↑n : Int)))), (131, AV.pv (PV.lit (Value.int IntKind.i64 (↑(i + (1 : Nat)) : Int))))] [(1000000, es')] [] []), [], [decide ((↑i : Int) < (↑n : Int)) = true, RowAt cs 1 (↑i : Int) n [PV.lit (Value.int IntKind.u32 (↑x : Int))], AtIdx (↑i : Int) (n + (1 : Nat)) i, Ld MD.P 111 es (o + i * (1 : Nat)) (PV.lit (Value.int IntKind.u32 (↑a : Int))), CallsTo t9 111 [PV.lit (Value.int IntKind.u32 (↑a : Int)), PV.lit (Value.int IntKind.u32 (↑x : Int)), PV.lit (Value.int IntKind.u32 (↑c : Int))] (RV.mk (PV.tup [PV.lit (Value.int IntKind.u32 (↑s : Int)), PV.lit (Value.int IntKind.u32 (↑b2 : Int))]) none), AtIdx (↑i : Int) (n + (1 : Nat)) i, o + i * (1 : Nat) + (u32v s).cells.length ≤ es.length, Spl es (o + i * (1 : Nat)) [PV.lit (Value.int IntKind.u32 (↑s : Int))] es', IntKind.i64.wrap ((↑i : Int) + (1 : Int)) = (↑(i + (1 : Nat)) : Int)]) := by kernel_rfl
theorem dg0 (k n o a b top v1 q r q2 r2 x c bw s : Nat) (es es2 es3 cs : List PV) : runMX MD t9 k 109 [.g es o 1 (n + 1), .p (.sl 1 n cs)] [.j 20 n, .e 21 (u32v a), .i 22 a, .i 23 (2 ^ 32 * a : Nat), .i 26 (n - 1 : Nat), .j 27 (n - 1), .e 28 (u32v b), .i 29 b, .i 30 top, .i 34 (n - 1 : Nat), .a 35 [u32v v1], .i 37 v1, .i 38 q, .i 42 (n - 1 : Nat), .a 43 [u32v v1], .i 45 v1, .i 46 r, .l (.exit 0) ⟨[(0, .bs 1000000 o 1 (n + 1)), (1, .pv (.sl 1 n cs)), (5, .pv (iv n)), (7, .pv (u64v q2)), (8, .pv (u64v r2)), (68, .pv (bv false))], [(1000000, es)], [], []⟩, .l (.exit 2) ⟨[(0, .bs 1000000 o 1 (n + 1)), (1, .pv (.sl 1 n cs)), (5, .pv (iv n)), (7, .pv (u64v q2)), (9, .pv (u64v c)), (10, .pv (u32v bw)), (81, .pv (.sl 1 n cs)), (82, .pv (iv n)), (83, .pv (iv n)), (84, .pv (bv false))], [(1000000, es2)], [], []⟩, .j 116 n, .e 117 (u32v x), .i 119 c, .r (one (pair32 s 0)), .j 124 n, .s es3, .c false, .i 158 q2] =
  some ((MR.pv (PV.lit (Value.int IntKind.u32 (↑q2 : Int))), es3), [es3.all litP' = true, es3.length = es.length, AtIdx (↑n : Int) (n + (1 : Nat)) n, Ld MD.P 111 es (o + n * (1 : Nat)) (PV.lit (Value.int IntKind.u32 (↑a : Int))), IntKind.u64.wrap (↑a : Int) = (↑a : Int), IntKind.u64.wrap ((↑a : Int) * (2 : Int) ^ min (Int.toNat (32 : Int)) IntKind.u64.bits) = (↑((2 : Nat) ^ (32 : Nat) * a) : Int), false = false, IntKind.i64.wrap ((↑n : Int) - (1 : Int)) = (↑(n - (1 : Nat)) : Int), AtIdx (↑(n - (1 : Nat)) : Int) (n + (1 : Nat)) (n - (1 : Nat)), Ld MD.P 111 es (o + (n - (1 : Nat)) * (1 : Nat)) (PV.lit (Value.int IntKind.u32 (↑b : Int))), IntKind.u64.wrap (↑b : Int) = (↑b : Int), IntKind.u64.wrap (↑(BitVec.ofInt IntKind.u64.bits (↑((2 : Nat) ^ (32 : Nat) * a) : Int) ||| BitVec.ofInt IntKind.u64.bits (↑b : Int)).toNat : Int) = (↑top : Int), IntKind.i64.wrap ((↑n : Int) - (1 : Int)) = (↑(n - (1 : Nat)) : Int), RowAt cs 1 (↑(n - (1 : Nat)) : Int) n [PV.lit (Value.int IntKind.u32 (↑v1 : Int))], IntKind.u64.wrap (↑v1 : Int) = (↑v1 : Int), IntKind.u64.wrap ((↑top : Int).tdiv (↑v1 : Int)) = (↑q : Int), decide ((↑v1 : Int) = (0 : Int)) = false, IntKind.i64.wrap ((↑n : Int) - (1 : Int)) = (↑(n - (1 : Nat)) : Int), RowAt cs 1 (↑(n - (1 : Nat)) : Int) n [PV.lit (Value.int IntKind.u32 (↑v1 : Int))], IntKind.u64.wrap (↑v1 : Int) = (↑v1 : Int), (↑top : Int).tmod (↑v1 : Int) = (↑r : Int), decide ((↑v1 : Int) = (0 : Int)) = false, LoopIs MD t9 k (109 : Nat) (0 : Nat) (St.mk [(0, AV.bs 1000000 o 1 (n + (1 : Nat))), (1, AV.pv (PV.sl 1 n cs)), (5, AV.pv (PV.lit (Value.int IntKind.i64 (↑n : Int)))), (7, AV.pv (PV.lit (Value.int IntKind.u64 (↑q : Int)))), (8, AV.pv (PV.lit (Value.int IntKind.u64 (↑r : Int))))] [(1000000, es)] [] []) (Xt.exit 0) (St.mk [(0, AV.bs 1000000 o 1 (n + (1 : Nat))), (1, AV.pv (PV.sl 1 n cs)), (5, AV.pv (PV.lit (Value.int IntKind.i64 (↑n : Int)))), (7, AV.pv (PV.lit (Value.int IntKind.u64 (↑q2 : Int)))), (8, AV.pv (PV.lit (Value.int IntKind.u64 (↑r2 : Int)))), (68, AV.pv (PV.lit (Value.bool false)))] [(1000000, es)] [] []), LoopIs MD t9 k (109 : Nat) (1 : Nat) (St.mk [(0, AV.bs 1000000 o 1 (n + (1 : Nat))), (1, AV.pv (PV.sl 1 n cs)), (5, AV.pv (PV.lit (Value.int IntKind.i64 (↑n : Int)))), (7, AV.pv (PV.lit (Value.int IntKind.u64 (↑q2 : Int)))), (9, AV.pv (PV.lit (Value.int IntKind.u64 (0 : Int)))), (10, AV.pv (PV.lit (Value.int IntKind.u32 (0 : Int)))), (81, AV.pv (PV.sl 1 n cs)), (82, AV.pv (PV.lit (Value.int IntKind.i64 (↑n : Int)))), (83, AV.pv (PV.lit (Value.int IntKind.i64 (0 : Int))))] [(1000000, es)] [] []) (Xt.exit 2) (St.mk [(0, AV.bs 1000000 o 1 (n + (1 : Nat))), (1, AV.pv (PV.sl 1 n cs)), (5, AV.pv (PV.lit (Value.int IntKind.i64 (↑n : Int)))), (7, AV.pv (PV.lit (Value.int IntKind.u64 (↑q2 : Int)))), (9, AV.pv (PV.lit (Value.int IntKind.u64 (↑c : Int)))), (10, AV.pv (PV.lit (Value.int IntKind.u32 (↑bw : Int)))), (81, AV.pv (PV.sl 1 n cs)), (82, AV.pv (PV.lit (Value.int IntKind.i64 (↑n : Int)))), (83, AV.pv (PV.lit (Value.int IntKind.i64 (↑n : Int)))), (84, AV.pv (PV.lit (Value.bool false)))] [(1000000, es2)] [] []), AtIdx (↑n : Int) (n + (1 : Nat)) n, Ld MD.P 111 es2 (o + n * (1 : Nat)) (PV.lit (Value.int IntKind.u32 (↑x : Int))), IntKind.u32.wrap (↑c : Int) = (↑c : Int), CallsTo t9 112 [PV.lit (Value.int IntKind.u32 (↑x : Int)), PV.lit (Value.int IntKind.u32 (↑c : Int)), PV.lit (Value.int IntKind.u32 (↑bw : Int))] (RV.mk (PV.tup [PV.lit (Value.int IntKind.u32 (↑s : Int)), PV.lit (Value.int IntKind.u32 (0 : Int))]) none), AtIdx (↑n : Int) (n + (1 : Nat)) n, o + n * (1 : Nat) + (u32v s).cells.length ≤ es2.length, Spl es2 (o + n * (1 : Nat)) [PV.lit (Value.int IntKind.u32 (↑s : Int))] es3, false = false, IntKind.u32.wrap (↑q2 : Int) = (↑q2 : Int)]) := by kernel_rfl
theorem dg1 (k n o a b top v1 q r q2 r2 x c bw s : Nat) (es es2 es3 cs : List PV) : runMX MD t9 k 109 [.g es o 1 (n + 1), .p (.sl 1 n cs)] [.j 20 n, .e 21 (u32v a), .i 22 a, .i 23 (2 ^ 32 * a : Nat), .i 26 (n - 1 : Nat), .j 27 (n - 1), .e 28 (u32v b), .i 29 b, .i 30 top, .i 34 (n - 1 : Nat), .a 35 [u32v v1], .i 37 v1, .i 38 q, .i 42 (n - 1 : Nat), .a 43 [u32v v1], .i 45 v1, .i 46 r, .l (.exit 0) ⟨[(0, .bs 1000000 o 1 (n + 1)), (1, .pv (.sl 1 n cs)), (5, .pv (iv n)), (7, .pv (u64v q2)), (8, .pv (u64v r2)), (80, .pv (bv true))], [(1000000, es)], [], []⟩, .l (.exit 2) ⟨[(0, .bs 1000000 o 1 (n + 1)), (1, .pv (.sl 1 n cs)), (5, .pv (iv n)), (7, .pv (u64v q2)), (9, .pv (u64v c)), (10, .pv (u32v bw)), (81, .pv (.sl 1 n cs)), (82, .pv (iv n)), (83, .pv (iv n)), (84, .pv (bv false))], [(1000000, es2)], [], []⟩, .j 116 n, .e 117 (u32v x), .i 119 c, .r (one (pair32 s 0)), .j 124 n, .s es3, .c false, .i 158 q2] =
  some ((MR.pv (PV.lit (Value.int IntKind.u32 (↑q2 : Int))), es3), [es3.all litP' = true, es3.length = es.length, AtIdx (↑n : Int) (n + (1 : Nat)) n, Ld MD.P 111 es (o + n * (1 : Nat)) (PV.lit (Value.int IntKind.u32 (↑a : Int))), IntKind.u64.wrap (↑a : Int) = (↑a : Int), IntKind.u64.wrap ((↑a : Int) * (2 : Int) ^ min (Int.toNat (32 : Int)) IntKind.u64.bits) = (↑((2 : Nat) ^ (32 : Nat) * a) : Int), false = false, IntKind.i64.wrap ((↑n : Int) - (1 : Int)) = (↑(n - (1 : Nat)) : Int), AtIdx (↑(n - (1 : Nat)) : Int) (n + (1 : Nat)) (n - (1 : Nat)), Ld MD.P 111 es (o + (n - (1 : Nat)) * (1 : Nat)) (PV.lit (Value.int IntKind.u32 (↑b : Int))), IntKind.u64.wrap (↑b : Int) = (↑b : Int), IntKind.u64.wrap (↑(BitVec.ofInt IntKind.u64.bits (↑((2 : Nat) ^ (32 : Nat) * a) : Int) ||| BitVec.ofInt IntKind.u64.bits (↑b : Int)).toNat : Int) = (↑top : Int), IntKind.i64.wrap ((↑n : Int) - (1 : Int)) = (↑(n - (1 : Nat)) : Int), RowAt cs 1 (↑(n - (1 : Nat)) : Int) n [PV.lit (Value.int IntKind.u32 (↑v1 : Int))], IntKind.u64.wrap (↑v1 : Int) = (↑v1 : Int), IntKind.u64.wrap ((↑top : Int).tdiv (↑v1 : Int)) = (↑q : Int), decide ((↑v1 : Int) = (0 : Int)) = false, IntKind.i64.wrap ((↑n : Int) - (1 : Int)) = (↑(n - (1 : Nat)) : Int), RowAt cs 1 (↑(n - (1 : Nat)) : Int) n [PV.lit (Value.int IntKind.u32 (↑v1 : Int))], IntKind.u64.wrap (↑v1 : Int) = (↑v1 : Int), (↑top : Int).tmod (↑v1 : Int) = (↑r : Int), decide ((↑v1 : Int) = (0 : Int)) = false, LoopIs MD t9 k (109 : Nat) (0 : Nat) (St.mk [(0, AV.bs 1000000 o 1 (n + (1 : Nat))), (1, AV.pv (PV.sl 1 n cs)), (5, AV.pv (PV.lit (Value.int IntKind.i64 (↑n : Int)))), (7, AV.pv (PV.lit (Value.int IntKind.u64 (↑q : Int)))), (8, AV.pv (PV.lit (Value.int IntKind.u64 (↑r : Int))))] [(1000000, es)] [] []) (Xt.exit 0) (St.mk [(0, AV.bs 1000000 o 1 (n + (1 : Nat))), (1, AV.pv (PV.sl 1 n cs)), (5, AV.pv (PV.lit (Value.int IntKind.i64 (↑n : Int)))), (7, AV.pv (PV.lit (Value.int IntKind.u64 (↑q2 : Int)))), (8, AV.pv (PV.lit (Value.int IntKind.u64 (↑r2 : Int)))), (80, AV.pv (PV.lit (Value.bool true)))] [(1000000, es)] [] []), LoopIs MD t9 k (109 : Nat) (1 : Nat) (St.mk [(0, AV.bs 1000000 o 1 (n + (1 : Nat))), (1, AV.pv (PV.sl 1 n cs)), (5, AV.pv (PV.lit (Value.int IntKind.i64 (↑n : Int)))), (7, AV.pv (PV.lit (Value.int IntKind.u64 (↑q2 : Int)))), (9, AV.pv (PV.lit (Value.int IntKind.u64 (0 : Int)))), (10, AV.pv (PV.lit (Value.int IntKind.u32 (0 : Int)))), (81, AV.pv (PV.sl 1 n cs)), (82, AV.pv (PV.lit (Value.int IntKind.i64 (↑n : Int)))), (83, AV.pv (PV.lit (Value.int IntKind.i64 (0 : Int))))] [(1000000, es)] [] []) (Xt.exit 2) (St.mk [(0, AV.bs 1000000 o 1 (n + (1 : Nat))), (1, AV.pv (PV.sl 1 n cs)), (5, AV.pv (PV.lit (Value.int IntKind.i64 (↑n : Int)))), (7, AV.pv (PV.lit (Value.int IntKind.u64 (↑q2 : Int)))), (9, AV.pv (PV.lit (Value.int IntKind.u64 (↑c : Int)))), (10, AV.pv (PV.lit (Value.int IntKind.u32 (↑bw : Int)))), (81, AV.pv (PV.sl 1 n cs)), (82, AV.pv (PV.lit (Value.int IntKind.i64 (↑n : Int)))), (83, AV.pv (PV.lit (Value.int IntKind.i64 (↑n : Int)))), (84, AV.pv (PV.lit (Value.bool false)))] [(1000000, es2)] [] []), AtIdx (↑n : Int) (n + (1 : Nat)) n, Ld MD.P 111 es2 (o + n * (1 : Nat)) (PV.lit (Value.int IntKind.u32 (↑x : Int))), IntKind.u32.wrap (↑c : Int) = (↑c : Int), CallsTo t9 112 [PV.lit (Value.int IntKind.u32 (↑x : Int)), PV.lit (Value.int IntKind.u32 (↑c : Int)), PV.lit (Value.int IntKind.u32 (↑bw : Int))] (RV.mk (PV.tup [PV.lit (Value.int IntKind.u32 (↑s : Int)), PV.lit (Value.int IntKind.u32 (0 : Int))]) none), AtIdx (↑n : Int) (n + (1 : Nat)) n, o + n * (1 : Nat) + (u32v s).cells.length ≤ es2.length, Spl es2 (o + n * (1 : Nat)) [PV.lit (Value.int IntKind.u32 (↑s : Int))] es3, false = false, IntKind.u32.wrap (↑q2 : Int) = (↑q2 : Int)]) := by kernel_rfl
theorem dg2 (k n o a b top v1 q r q2 r2 x c bw s q3 y c3 z : Nat) (es es2 es3 es4 es5 cs : List PV) : runMX MD t9 k 109 [.g es o 1 (n + 1), .p (.sl 1 n cs)] [.j 20 n, .e 21 (u32v a), .i 22 a, .i 23 (2 ^ 32 * a : Nat), .i 26 (n - 1 : Nat), .j 27 (n - 1), .e 28 (u32v b), .i 29 b, .i 30 top, .i 34 (n - 1 : Nat), .a 35 [u32v v1], .i 37 v1, .i 38 q, .i 42 (n - 1 : Nat), .a 43 [u32v v1], .i 45 v1, .i 46 r, .l (.exit 0) ⟨[(0, .bs 1000000 o 1 (n + 1)), (1, .pv (.sl 1 n cs)), (5, .pv (iv n)), (7, .pv (u64v q2)), (8, .pv (u64v r2)), (68, .pv (bv false))], [(1000000, es)], [], []⟩, .l (.exit 2) ⟨[(0, .bs 1000000 o 1 (n + 1)), (1, .pv (.sl 1 n cs)), (5, .pv (iv n)), (7, .pv (u64v q2)), (9, .pv (u64v c)), (10, .pv (u32v bw)), (81, .pv (.sl 1 n cs)), (82, .pv (iv n)), (83, .pv (iv n)), (84, .pv (bv false))], [(1000000, es2)], [], []⟩, .j 116 n, .e 117 (u32v x), .i 119 c, .r (one (pair32 s 1)), .j 124 n, .s es3, .c true, .i 128 q3, .l (.exit 4) ⟨[(0, .bs 1000000 o 1 (n + 1)), (5, .pv (iv n)), (7, .pv (u64v q3)), (13, .pv (u32v c3)), (129, .pv (.sl 1 n cs)), (130, .pv (iv n)), (131, .pv (iv n)), (132, .pv (bv false))], [(1000000, es4)], [], []⟩, .j 152 n, .e 153 (u32v y), .i 155 z, .j 156 n, .s es5, .i 158 q3] =
  some ((MR.pv (PV.lit (Value.int IntKind.u32 (↑q3 : Int))), es5), [es5.all litP' = true, es5.length = es.length, AtIdx (↑n : Int) (n + (1 : Nat)) n, Ld MD.P 111 es (o + n * (1 : Nat)) (PV.lit (Value.int IntKind.u32 (↑a : Int))), IntKind.u64.wrap (↑a : Int) = (↑a : Int), IntKind.u64.wrap ((↑a : Int) * (2 : Int) ^ min (Int.toNat (32 : Int)) IntKind.u64.bits) = (↑((2 : Nat) ^ (32 : Nat) * a) : Int), false = false, IntKind.i64.wrap ((↑n : Int) - (1 : Int)) = (↑(n - (1 : Nat)) : Int), AtIdx (↑(n - (1 : Nat)) : Int) (n + (1 : Nat)) (n - (1 : Nat)), Ld MD.P 111 es (o + (n - (1 : Nat)) * (1 : Nat)) (PV.lit (Value.int IntKind.u32 (↑b : Int))), IntKind.u64.wrap (↑b : Int) = (↑b : Int), IntKind.u64.wrap (↑(BitVec.ofInt IntKind.u64.bits (↑((2 : Nat) ^ (32 : Nat) * a) : Int) ||| BitVec.ofInt IntKind.u64.bits (↑b : Int)).toNat : Int) = (↑top : Int), IntKind.i64.wrap ((↑n : Int) - (1 : Int)) = (↑(n - (1 : Nat)) : Int), RowAt cs 1 (↑(n - (1 : Nat)) : Int) n [PV.lit (Value.int IntKind.u32 (↑v1 : Int))], IntKind.u64.wrap (↑v1 : Int) = (↑v1 : Int), IntKind.u64.wrap ((↑top : Int).tdiv (↑v1 : Int)) = (↑q : Int), decide ((↑v1 : Int) = (0 : Int)) = false, IntKind.i64.wrap ((↑n : Int) - (1 : Int)) = (↑(n - (1 : Nat)) : Int), RowAt cs 1 (↑(n - (1 : Nat)) : Int) n [PV.lit (Value.int IntKind.u32 (↑v1 : Int))], IntKind.u64.wrap (↑v1 : Int) = (↑v1 : Int), (↑top : Int).tmod (↑v1 : Int) = (↑r : Int), decide ((↑v1 : Int) = (0 : Int)) = false, LoopIs MD t9 k (109 : Nat) (0 : Nat) (St.mk [(0, AV.bs 1000000 o 1 (n + (1 : Nat))), (1, AV.pv (PV.sl 1 n cs)), (5, AV.pv (PV.lit (Value.int IntKind.i64 (↑n : Int)))), (7, AV.pv (PV.lit (Value.int IntKind.u64 (↑q : Int)))), (8, AV.pv (PV.lit (Value.int IntKind.u64 (↑r : Int))))] [(1000000, es)] [] []) (Xt.exit 0) (St.mk [(0, AV.bs 1000000 o 1 (n + (1 : Nat))), (1, AV.pv (PV.sl 1 n cs)), (5, AV.pv (PV.lit (Value.int IntKind.i64 (↑n : Int)))), (7, AV.pv (PV.lit (Value.int IntKind.u64 (↑q2 : Int)))), (8, AV.pv (PV.lit (Value.int IntKind.u64 (↑r2 : Int)))), (68, AV.pv (PV.lit (Value.bool false)))] [(1000000, es)] [] []), LoopIs MD t9 k (109 : Nat) (1 : Nat) (St.mk [(0, AV.bs 1000000 o 1 (n + (1 : Nat))), (1, AV.pv (PV.sl 1 n cs)), (5, AV.pv (PV.lit (Value.int IntKind.i64 (↑n : Int)))), (7, AV.pv (PV.lit (Value.int IntKind.u64 (↑q2 : Int)))), (9, AV.pv (PV.lit (Value.int IntKind.u64 (0 : Int)))), (10, AV.pv (PV.lit (Value.int IntKind.u32 (0 : Int)))), (81, AV.pv (PV.sl 1 n cs)), (82, AV.pv (PV.lit (Value.int IntKind.i64 (↑n : Int)))), (83, AV.pv (PV.lit (Value.int IntKind.i64 (0 : Int))))] [(1000000, es)] [] []) (Xt.exit 2) (St.mk [(0, AV.bs 1000000 o 1 (n + (1 : Nat))), (1, AV.pv (PV.sl 1 n cs)), (5, AV.pv (PV.lit (Value.int IntKind.i64 (↑n : Int)))), (7, AV.pv (PV.lit (Value.int IntKind.u64 (↑q2 : Int)))), (9, AV.pv (PV.lit (Value.int IntKind.u64 (↑c : Int)))), (10, AV.pv (PV.lit (Value.int IntKind.u32 (↑bw : Int)))), (81, AV.pv (PV.sl 1 n cs)), (82, AV.pv (PV.lit (Value.int IntKind.i64 (↑n : Int)))), (83, AV.pv (PV.lit (Value.int IntKind.i64 (↑n : Int)))), (84, AV.pv (PV.lit (Value.bool false)))] [(1000000, es2)] [] []), AtIdx (↑n : Int) (n + (1 : Nat)) n, Ld MD.P 111 es2 (o + n * (1 : Nat)) (PV.lit (Value.int IntKind.u32 (↑x : Int))), IntKind.u32.wrap (↑c : Int) = (↑c : Int), CallsTo t9 112 [PV.lit (Value.int IntKind.u32 (↑x : Int)), PV.lit (Value.int IntKind.u32 (↑c : Int)), PV.lit (Value.int IntKind.u32 (↑bw : Int))] (RV.mk (PV.tup [PV.lit (Value.int IntKind.u32 (↑s : Int)), PV.lit (Value.int IntKind.u32 (1 : Int))]) none), AtIdx (↑n : Int) (n + (1 : Nat)) n, o + n * (1 : Nat) + (u32v s).cells.length ≤ es2.length, Spl es2 (o + n * (1 : Nat)) [PV.lit (Value.int IntKind.u32 (↑s : Int))] es3, true = true, IntKind.u64.wrap ((↑q2 : Int) - (1 : Int)) = (↑q3 : Int), LoopIs MD t9 k (109 : Nat) (2 : Nat) (St.mk [(0, AV.bs 1000000 o 1 (n + (1 : Nat))), (5, AV.pv (PV.lit (Value.int IntKind.i64 (↑n : Int)))), (7, AV.pv (PV.lit (Value.int IntKind.u64 (↑q3 : Int)))), (13, AV.pv (PV.lit (Value.int IntKind.u32 (0 : Int)))), (129, AV.pv (PV.sl 1 n cs)), (130, AV.pv (PV.lit (Value.int IntKind.i64 (↑n : Int)))), (131, AV.pv (PV.lit (Value.int IntKind.i64 (0 : Int))))] [(1000000, es3)] [] []) (Xt.exit 4) (St.mk [(0, AV.bs 1000000 o 1 (n + (1 : Nat))), (5, AV.pv (PV.lit (Value.int IntKind.i64 (↑n : Int)))), (7, AV.pv (PV.lit (Value.int IntKind.u64 (↑q3 : Int)))), (13, AV.pv (PV.lit (Value.int IntKind.u32 (↑c3 : Int)))), (129, AV.pv (PV.sl 1 n cs)), (130, AV.pv (PV.lit (Value.int IntKind.i64 (↑n : Int)))), (131, AV.pv (PV.lit (Value.int IntKind.i64 (↑n : Int)))), (132, AV.pv (PV.lit (Value.bool false)))] [(1000000, es4)] [] []), AtIdx (↑n : Int) (n + (1 : Nat)) n, Ld MD.P 111 es4 (o + n * (1 : Nat)) (PV.lit (Value.int IntKind.u32 (↑y : Int))), IntKind.u32.wrap ((↑y : Int) + (↑c3 : Int)) = (↑z : Int), AtIdx (↑n : Int) (n + (1 : Nat)) n, o + n * (1 : Nat) + (PV.lit (Value.int IntKind.u32 (↑z : Int))).cells.length ≤ es4.length, Spl es4 (o + n * (1 : Nat)) [PV.lit (Value.int IntKind.u32 (↑z : Int))] es5, IntKind.u32.wrap (↑q3 : Int) = (↑q3 : Int)]) := by kernel_rfl
theorem dg3 (k n o a b top v1 q r q2 r2 x c bw s q3 y c3 z : Nat) (es es2 es3 es4 es5 cs : List PV) : runMX MD t9 k 109 [.g es o 1 (n + 1), .p (.sl 1 n cs)] [.j 20 n, .e 21 (u32v a), .i 22 a, .i 23 (2 ^ 32 * a : Nat), .i 26 (n - 1 : Nat), .j 27 (n - 1), .e 28 (u32v b), .i 29 b, .i 30 top, .i 34 (n - 1 : Nat), .a 35 [u32v v1], .i 37 v1, .i 38 q, .i 42 (n - 1 : Nat), .a 43 [u32v v1], .i 45 v1, .i 46 r, .l (.exit 0) ⟨[(0, .bs 1000000 o 1 (n + 1)), (1, .pv (.sl 1 n cs)), (5, .pv (iv n)), (7, .pv (u64v q2)), (8, .pv (u64v r2)), (80, .pv (bv true))], [(1000000, es)], [], []⟩, .l (.exit 2) ⟨[(0, .bs 1000000 o 1 (n + 1)), (1, .pv (.sl 1 n cs)), (5, .pv (iv n)), (7, .pv (u64v q2)), (9, .pv (u64v c)), (10, .pv (u32v bw)), (81, .pv (.sl 1 n cs)), (82, .pv (iv n)), (83, .pv (iv n)), (84, .pv (bv false))], [(1000000, es2)], [], []⟩, .j 116 n, .e 117 (u32v x), .i 119 c, .r (one (pair32 s 1)), .j 124 n, .s es3, .c true, .i 128 q3, .l (.exit 4) ⟨[(0, .bs 1000000 o 1 (n + 1)), (5, .pv (iv n)), (7, .pv (u64v q3)), (13, .pv (u32v c3)), (129, .pv (.sl 1 n cs)), (130, .pv (iv n)), (131, .pv (iv n)), (132, .pv (bv false))], [(1000000, es4)], [], []⟩, .j 152 n, .e 153 (u32v y), .i 155 z, .j 156 n, .s es5, .i 158 q3] =
  some ((MR.pv (PV.lit (Value.int IntKind.u32 (↑q3 : Int))), es5), [es5.all litP' = true, es5.length = es.length, AtIdx (↑n : Int) (n + (1 : Nat)) n, Ld MD.P 111 es (o + n * (1 : Nat)) (PV.lit (Value.int IntKind.u32 (↑a : Int))), IntKind.u64.wrap (↑a : Int) = (↑a : Int), IntKind.u64.wrap ((↑a : Int) * (2 : Int) ^ min (Int.toNat (32 : Int)) IntKind.u64.bits) = (↑((2 : Nat) ^ (32 : Nat) * a) : Int), false = false, IntKind.i64.wrap ((↑n : Int) - (1 : Int)) = (↑(n - (1 : Nat)) : Int), AtIdx (↑(n - (1 : Nat)) : Int) (n + (1 : Nat)) (n - (1 : Nat)), Ld MD.P 111 es (o + (n - (1 : Nat)) * (1 : Nat)) (PV.lit (Value.int IntKind.u32 (↑b : Int))), IntKind.u64.wrap (↑b : Int) = (↑b : Int), IntKind.u64.wrap (↑(BitVec.ofInt IntKind.u64.bits (↑((2 : Nat) ^ (32 : Nat) * a) : Int) ||| BitVec.ofInt IntKind.u64.bits (↑b : Int)).toNat : Int) = (↑top : Int), IntKind.i64.wrap ((↑n : Int) - (1 : Int)) = (↑(n - (1 : Nat)) : Int), RowAt cs 1 (↑(n - (1 : Nat)) : Int) n [PV.lit (Value.int IntKind.u32 (↑v1 : Int))], IntKind.u64.wrap (↑v1 : Int) = (↑v1 : Int), IntKind.u64.wrap ((↑top : Int).tdiv (↑v1 : Int)) = (↑q : Int), decide ((↑v1 : Int) = (0 : Int)) = false, IntKind.i64.wrap ((↑n : Int) - (1 : Int)) = (↑(n - (1 : Nat)) : Int), RowAt cs 1 (↑(n - (1 : Nat)) : Int) n [PV.lit (Value.int IntKind.u32 (↑v1 : Int))], IntKind.u64.wrap (↑v1 : Int) = (↑v1 : Int), (↑top : Int).tmod (↑v1 : Int) = (↑r : Int), decide ((↑v1 : Int) = (0 : Int)) = false, LoopIs MD t9 k (109 : Nat) (0 : Nat) (St.mk [(0, AV.bs 1000000 o 1 (n + (1 : Nat))), (1, AV.pv (PV.sl 1 n cs)), (5, AV.pv (PV.lit (Value.int IntKind.i64 (↑n : Int)))), (7, AV.pv (PV.lit (Value.int IntKind.u64 (↑q : Int)))), (8, AV.pv (PV.lit (Value.int IntKind.u64 (↑r : Int))))] [(1000000, es)] [] []) (Xt.exit 0) (St.mk [(0, AV.bs 1000000 o 1 (n + (1 : Nat))), (1, AV.pv (PV.sl 1 n cs)), (5, AV.pv (PV.lit (Value.int IntKind.i64 (↑n : Int)))), (7, AV.pv (PV.lit (Value.int IntKind.u64 (↑q2 : Int)))), (8, AV.pv (PV.lit (Value.int IntKind.u64 (↑r2 : Int)))), (80, AV.pv (PV.lit (Value.bool true)))] [(1000000, es)] [] []), LoopIs MD t9 k (109 : Nat) (1 : Nat) (St.mk [(0, AV.bs 1000000 o 1 (n + (1 : Nat))), (1, AV.pv (PV.sl 1 n cs)), (5, AV.pv (PV.lit (Value.int IntKind.i64 (↑n : Int)))), (7, AV.pv (PV.lit (Value.int IntKind.u64 (↑q2 : Int)))), (9, AV.pv (PV.lit (Value.int IntKind.u64 (0 : Int)))), (10, AV.pv (PV.lit (Value.int IntKind.u32 (0 : Int)))), (81, AV.pv (PV.sl 1 n cs)), (82, AV.pv (PV.lit (Value.int IntKind.i64 (↑n : Int)))), (83, AV.pv (PV.lit (Value.int IntKind.i64 (0 : Int))))] [(1000000, es)] [] []) (Xt.exit 2) (St.mk [(0, AV.bs 1000000 o 1 (n + (1 : Nat))), (1, AV.pv (PV.sl 1 n cs)), (5, AV.pv (PV.lit (Value.int IntKind.i64 (↑n : Int)))), (7, AV.pv (PV.lit (Value.int IntKind.u64 (↑q2 : Int)))), (9, AV.pv (PV.lit (Value.int IntKind.u64 (↑c : Int)))), (10, AV.pv (PV.lit (Value.int IntKind.u32 (↑bw : Int)))), (81, AV.pv (PV.sl 1 n cs)), (82, AV.pv (PV.lit (Value.int IntKind.i64 (↑n : Int)))), (83, AV.pv (PV.lit (Value.int IntKind.i64 (↑n : Int)))), (84, AV.pv (PV.lit (Value.bool false)))] [(1000000, es2)] [] []), AtIdx (↑n : Int) (n + (1 : Nat)) n, Ld MD.P 111 es2 (o + n * (1 : Nat)) (PV.lit (Value.int IntKind.u32 (↑x : Int))), IntKind.u32.wrap (↑c : Int) = (↑c : Int), CallsTo t9 112 [PV.lit (Value.int IntKind.u32 (↑x : Int)), PV.lit (Value.int IntKind.u32 (↑c : Int)), PV.lit (Value.int IntKind.u32 (↑bw : Int))] (RV.mk (PV.tup [PV.lit (Value.int IntKind.u32 (↑s : Int)), PV.lit (Value.int IntKind.u32 (1 : Int))]) none), AtIdx (↑n : Int) (n + (1 : Nat)) n, o + n * (1 : Nat) + (u32v s).cells.length ≤ es2.length, Spl es2 (o + n * (1 : Nat)) [PV.lit (Value.int IntKind.u32 (↑s : Int))] es3, true = true, IntKind.u64.wrap ((↑q2 : Int) - (1 : Int)) = (↑q3 : Int), LoopIs MD t9 k (109 : Nat) (2 : Nat) (St.mk [(0, AV.bs 1000000 o 1 (n + (1 : Nat))), (5, AV.pv (PV.lit (Value.int IntKind.i64 (↑n : Int)))), (7, AV.pv (PV.lit (Value.int IntKind.u64 (↑q3 : Int)))), (13, AV.pv (PV.lit (Value.int IntKind.u32 (0 : Int)))), (129, AV.pv (PV.sl 1 n cs)), (130, AV.pv (PV.lit (Value.int IntKind.i64 (↑n : Int)))), (131, AV.pv (PV.lit (Value.int IntKind.i64 (0 : Int))))] [(1000000, es3)] [] []) (Xt.exit 4) (St.mk [(0, AV.bs 1000000 o 1 (n + (1 : Nat))), (5, AV.pv (PV.lit (Value.int IntKind.i64 (↑n : Int)))), (7, AV.pv (PV.lit (Value.int IntKind.u64 (↑q3 : Int)))), (13, AV.pv (PV.lit (Value.int IntKind.u32 (↑c3 : Int)))), (129, AV.pv (PV.sl 1 n cs)), (130, AV.pv (PV.lit (Value.int IntKind.i64 (↑n : Int)))), (131, AV.pv (PV.lit (Value.int IntKind.i64 (↑n : Int)))), (132, AV.pv (PV.lit (Value.bool false)))] [(1000000, es4)] [] []), AtIdx (↑n : Int) (n + (1 : Nat)) n, Ld MD.P 111 es4 (o + n * (1 : Nat)) (PV.lit (Value.int IntKind.u32 (↑y : Int))), IntKind.u32.wrap ((↑y : Int) + (↑c3 : Int)) = (↑z : Int), AtIdx (↑n : Int) (n + (1 : Nat)) n, o + n * (1 : Nat) + (PV.lit (Value.int IntKind.u32 (↑z : Int))).cells.length ≤ es4.length, Spl es4 (o + n * (1 : Nat)) [PV.lit (Value.int IntKind.u32 (↑z : Int))] es5, IntKind.u32.wrap (↑q3 : Int) = (↑q3 : Int)]) := by kernel_rfl
def emb (pre W post : List Nat) : List Nat := pre ++ W ++ post
theorem emb_get {pre W post : List Nat} {i x : Nat} (h : W[i]? = some x) : (emb pre W post)[pre.length + i]? = some x := by
  have hi := get_lt h
  simp only [emb, List.append_assoc]
  rw [List.getElem?_append_right (by omega), Nat.add_sub_cancel_left, List.getElem?_append_left hi, h]
theorem emb_set {pre W post : List Nat} {i : Nat} (h : i < W.length) (y : Nat) : (emb pre W post).set (pre.length + i) y = emb pre (W.set i y) post := by
  simp only [emb, List.append_assoc]
  rw [List.set_append_right _ _ (by omega), Nat.add_sub_cancel_left, List.set_append_left _ _ h]
theorem emb_len (pre W post : List Nat) : (emb pre W post).length = pre.length + W.length + post.length := by simp [emb]; omega
/-- What digit meets: a window W in a greater array, a divisor V of n digits. -/
structure DCtx (pre W post V : List Nat) (n a b c v1 v2 : Nat) : Prop where
  hV : V.length = n
  hW : W.length = n + 1
  dV : Dig (4294967296 : Nat) V
  dW : Dig (4294967296 : Nat) W
  ga : W[n]? = some a
  gb : W[n - 1]? = some b
  gc : W[n - 2]? = some c
  g1 : V[n - 1]? = some v1
  g2 : V[n - 2]? = some v2
  hn : 2 ≤ n
  sz : (emb pre W post).length < 2 ^ 40
  top : (4294967296 : Nat) ≤ 2 * v1
  lt : val (4294967296 : Nat) W < (4294967296 : Nat) * val (4294967296 : Nat) V
theorem last3 {l : List Nat} {n a b c : Nat} (hl : l.length = n + 1) (hn : 2 ≤ n) (ga : l[n]? = some a) (gb : l[n - 1]? = some b) (gc : l[n - 2]? = some c) : val (4294967296 : Nat) l = ((a * (4294967296 : Nat) + b) * (4294967296 : Nat) + c) * (4294967296 : Nat) ^ (n - 2) + val (4294967296 : Nat) (l.take (n - 2)) := by
  have e1 := take_succ_val (b := (4294967296 : Nat)) gc
  rw [show n - 2 + 1 = n - 1 by omega] at e1
  have e2 := take_succ_val (b := (4294967296 : Nat)) gb
  rw [show n - 1 + 1 = n by omega] at e2
  have e3 := take_succ_val (b := (4294967296 : Nat)) ga
  rw [List.take_of_length_le (by omega)] at e3
  rw [e3, e2, e1]
  have p1 : (4294967296 : Nat) ^ (n - 1) = (4294967296 : Nat) ^ (n - 2) * (4294967296 : Nat) := by rw [← Nat.pow_succ]; congr 1; omega
  have p2 : (4294967296 : Nat) ^ n = (4294967296 : Nat) ^ (n - 2) * (4294967296 : Nat) * (4294967296 : Nat) := by rw [← p1, ← Nat.pow_succ]; congr 1; omega
  rw [p1, p2]
  obtain ⟨P, hP⟩ : ∃ P, P = (4294967296 : Nat) ^ (n - 2) := ⟨_, rfl⟩
  rw [← hP]
  have h1 : ((a * (4294967296 : Nat) + b) * (4294967296 : Nat) + c) * P = a * (4294967296 : Nat) * (4294967296 : Nat) * P + b * (4294967296 : Nat) * P + c * P := by simp only [Nat.add_mul]
  have h2 : P * (4294967296 : Nat) * (4294967296 : Nat) * a = a * (4294967296 : Nat) * (4294967296 : Nat) * P := by ac_rfl
  have h3 : P * (4294967296 : Nat) * b = b * (4294967296 : Nat) * P := by ac_rfl
  have h4 : P * c = c * P := by ac_rfl
  rw [h1, h2, h3, h4]
  omega
theorem last2 {l : List Nat} {n a b : Nat} (hl : l.length = n) (hn : 2 ≤ n) (ga : l[n - 1]? = some a) (gb : l[n - 2]? = some b) : val (4294967296 : Nat) l = (a * (4294967296 : Nat) + b) * (4294967296 : Nat) ^ (n - 2) + val (4294967296 : Nat) (l.take (n - 2)) := by
  have e1 := take_succ_val (b := (4294967296 : Nat)) gb
  rw [show n - 2 + 1 = n - 1 by omega] at e1
  have e2 := take_succ_val (b := (4294967296 : Nat)) ga
  rw [List.take_of_length_le (by omega)] at e2
  rw [e2, e1]
  have p1 : (4294967296 : Nat) ^ (n - 1) = (4294967296 : Nat) ^ (n - 2) * (4294967296 : Nat) := by rw [← Nat.pow_succ]; congr 1; omega
  rw [p1]
  obtain ⟨P, hP⟩ : ∃ P, P = (4294967296 : Nat) ^ (n - 2) := ⟨_, rfl⟩
  rw [← hP]
  have h1 : (a * (4294967296 : Nat) + b) * P = a * (4294967296 : Nat) * P + b * P := by simp only [Nat.add_mul]
  have h2 : P * (4294967296 : Nat) * a = a * (4294967296 : Nat) * P := by ac_rfl
  have h3 : P * b = b * P := by ac_rfl
  rw [h1, h2, h3]
  omega
theorem DCtx.win {pre W post V : List Nat} {n a b c v1 v2 : Nat} (h : DCtx pre W post V n a b c v1 v2) : Win (4294967296 : Nat) (val (4294967296 : Nat) W) (val (4294967296 : Nat) V) a b c v1 v2 ((4294967296 : Nat) ^ (n - 2)) (val (4294967296 : Nat) (W.take (n - 2))) (val (4294967296 : Nat) (V.take (n - 2))) where
  w := last3 h.hW h.hn h.ga h.gb h.gc
  v := last2 h.hV h.hn h.g1 h.g2
  hw := by
    have := val_lt (dig_take h.dW (n - 2))
    rwa [List.length_take, Nat.min_eq_left (by rw [h.hW]; omega)] at this
  hv := by
    have := val_lt (dig_take h.dV (n - 2))
    rwa [List.length_take, Nat.min_eq_left (by rw [h.hV]; omega)] at this
  hb := dig_get h.dW h.gb
  hc := dig_get h.dW h.gc
  h2 := dig_get h.dV h.g2
  hB := by decide
  top := h.top
  lt := h.lt
def G0 (o n : Nat) (V U : List Nat) (q r : Nat) (e : List (Nat × AV)) : St := ⟨(0, .bs 1000000 o 1 (n + 1)) :: (1, .pv (.sl 1 n (us V))) :: (5, .pv (iv n)) :: (7, .pv (u64v q)) :: (8, .pv (u64v r)) :: e, [(1000000, us U)], [], []⟩
def eF : List (Nat × AV) := [(80, .pv (bv false))]
section
variable {pre W post V : List Nat} {n a b c v1 v2 : Nat}
theorem DCtx.n40 (h : DCtx pre W post V n a b c v1 v2) : n < 2 ^ 40 := by
  have := h.sz; rw [emb_len, h.hW] at this; omega
theorem DCtx.hv1 (h : DCtx pre W post V n a b c v1 v2) : v1 < (4294967296 : Nat) := dig_get h.dV h.g1
theorem DCtx.r1 (h : DCtx pre W post V n a b c v1 v2) : RowAt (us V) 1 ((n - 1 : Nat) : Int) n [u32v v1] := by
  have := rowAt_us h.g1 rfl; rwa [h.hV] at this
theorem DCtx.r2 (h : DCtx pre W post V n a b c v1 v2) : RowAt (us V) 1 ((n - 2 : Nat) : Int) n [u32v v2] := by
  have := rowAt_us h.g2 rfl; rwa [h.hV] at this
theorem w64p {a : Nat} (h : 1 ≤ a) (ha : a < 2 ^ 63) : IntKind.i64.wrap ((a : Int) - 1) = ((a - 1 : Nat) : Int) := w64n (by omega) (by omega)
theorem w64p2 {a : Nat} (h : 2 ≤ a) (ha : a < 2 ^ 63) : IntKind.i64.wrap ((a : Int) - 2) = ((a - 2 : Nat) : Int) := w64n (by omega) (by omega)
theorem shl64 {r : Nat} (h : r < (4294967296 : Nat)) : IntKind.u64.wrap ((r : Int) * (2 : Int) ^ min (Int.toNat (32 : Int)) IntKind.u64.bits) = ((2 ^ 32 * r : Nat) : Int) := w64u (by rw [pow32]; omega) (by omega)
theorem guess (h : DCtx pre W post V n a b c v1 v2) (k : Nat) : ∀ (m q r : Nat) (e : List (Nat × AV)), e = [] ∨ e = eF → Win.Inv (4294967296 : Nat) (val (4294967296 : Nat) W) (val (4294967296 : Nat) V) a b v1 q r → q < (4294967296 : Nat) * (4294967296 : Nat) → r < (4294967296 : Nat) → (4294967296 : Nat) ≤ r + m * v1 →
    ∃ q2 r2, q2 < (4294967296 : Nat) ∧ val (4294967296 : Nat) W / val (4294967296 : Nat) V ≤ q2 ∧ q2 ≤ val (4294967296 : Nat) W / val (4294967296 : Nat) V + 1 ∧ ∃ e2, (e2 = [(68, .pv (bv false))] ∨ e2 = [(80, .pv (bv true))]) ∧ loopN (roundM MD t9 k 109 0) (m + 1) (G0 pre.length n V (emb pre W post) q r e) = some (.exit 0, G0 pre.length n V (emb pre W post) q2 r2 e2)
  | 0, q, r, e, _, _, _, hr, hm => by omega
  | m + 1, q, r, e, he, hi, hq, hr, hm => by
    have n40 := h.n40
    have hn := h.hn
    have hv1 := h.hv1
    have hv2 := dig_get h.dV h.g2
    have hc := dig_get h.dW h.gc
    have wq : ∀ q : Nat, 0 < q → q < (4294967296 : Nat) * (4294967296 : Nat) → IntKind.u64.wrap ((q : Int) - (1 : Int)) = ((q - 1 : Nat) : Int) := fun q h1 h2 => w64u (by omega) (by omega)
    have ldc : Ld MD.P 111 (us (emb pre W post)) (pre.length + (n - 2) * 1) (u32v c) := ld_us (emb_get h.gc) (by omega)
    have next : ∀ q', q = q' + 1 ∨ 0 < q → Win.Inv (4294967296 : Nat) (val (4294967296 : Nat) W) (val (4294967296 : Nat) V) a b v1 (q - 1) (r + v1) → r + v1 < (4294967296 : Nat) → _ := fun q' _ hi2 hr2 => guess h k m (q - 1) (r + v1) eF (.inr rfl) hi2 (by omega) hr2 (by rw [Nat.add_mul] at hm; omega)
    by_cases hb : (4294967296 : Nat) ≤ q
    · obtain ⟨hq0, hi2⟩ := h.win.step hi (.inl hb)
      by_cases hr2 : r + v1 < (4294967296 : Nat)
      · obtain ⟨q2, r2, z1, z2, z3, e2, z4, z5⟩ := next 0 (.inr hq0) hi2 hr2
        refine ⟨q2, r2, z1, z2, z3, e2, z4, ?_⟩
        rcases he with rfl | rfl
        · exact loopN_next (roundX_ok (da0 k n pre.length v1 v2 q r c _ _) ⟨by simp; omega, wq q hq0 hq, w64p (by omega) (by omega), h.r1, w64u rfl (by omega), w64u (by omega) (by omega), by simp; omega, trivial⟩) z5
        · exact loopN_next (roundX_ok (db0 k n pre.length v1 v2 q r c _ _) ⟨by simp; omega, wq q hq0 hq, w64p (by omega) (by omega), h.r1, w64u rfl (by omega), w64u (by omega) (by omega), by simp; omega, trivial⟩) z5
      · obtain ⟨f1, f2⟩ := h.win.fin2 hi2 (by omega)
        refine ⟨q - 1, r + v1, f1, hi2.2, f2, [(80, .pv (bv true))], .inr rfl, ?_⟩
        rcases he with rfl | rfl
        · exact loopN_exit (roundX_ok (da1 k n pre.length v1 v2 q r c _ _) ⟨by simp; omega, wq q hq0 hq, w64p (by omega) (by omega), h.r1, w64u rfl (by omega), w64u (by omega) (by omega), by simp; omega, trivial⟩) (by simp)
        · exact loopN_exit (roundX_ok (db1 k n pre.length v1 v2 q r c _ _) ⟨by simp; omega, wq q hq0 hq, w64p (by omega) (by omega), h.r1, w64u rfl (by omega), w64u (by omega) (by omega), by simp; omega, trivial⟩) (by simp)
    · have hqv : q * v2 < (4294967296 : Nat) * (4294967296 : Nat) := by
        calc q * v2 ≤ q * (4294967296 : Nat) := Nat.mul_le_mul_left _ (by omega)
          _ < (4294967296 : Nat) * (4294967296 : Nat) := Nat.mul_lt_mul_of_pos_right (by omega) (by decide)
      have o1 : IntKind.u64.wrap ((q : Int) * (v2 : Int)) = ((q * v2 : Nat) : Int) := w64u (by simp) (by omega)
      have o2 : IntKind.u64.wrap ((BitVec.ofInt IntKind.u64.bits ((2 ^ 32 * r : Nat) : Int) ||| BitVec.ofInt IntKind.u64.bits (c : Int)).toNat : Int) = ((2 ^ 32 * r + c : Nat) : Int) := or_add64 (r := 32) (by omega) (by omega) _ rfl
      by_cases hg : r * (4294967296 : Nat) + c < q * v2
      · obtain ⟨hq0, hi2⟩ := h.win.step hi (.inr hg)
        by_cases hr2 : r + v1 < (4294967296 : Nat)
        · obtain ⟨q2, r2, z1, z2, z3, e2, z4, z5⟩ := next 0 (.inr hq0) hi2 hr2
          refine ⟨q2, r2, z1, z2, z3, e2, z4, ?_⟩
          rcases he with rfl | rfl
          · exact loopN_next (roundX_ok (da2 k n pre.length v1 v2 q r c _ _) ⟨by simp; omega, w64p2 (by omega) (by omega), h.r2, w64u rfl (by omega), o1, shl64 hr, rfl, w64p2 (by omega) (by omega), ⟨rfl, by omega⟩, ldc, w64u rfl (by omega), o2, by simp; omega, wq q hq0 hq, w64p (by omega) (by omega), h.r1, w64u rfl (by omega), w64u (by omega) (by omega), by simp; omega, trivial⟩) z5
          · exact loopN_next (roundX_ok (db2 k n pre.length v1 v2 q r c _ _) ⟨by simp; omega, w64p2 (by omega) (by omega), h.r2, w64u rfl (by omega), o1, shl64 hr, rfl, w64p2 (by omega) (by omega), ⟨rfl, by omega⟩, ldc, w64u rfl (by omega), o2, by simp; omega, wq q hq0 hq, w64p (by omega) (by omega), h.r1, w64u rfl (by omega), w64u (by omega) (by omega), by simp; omega, trivial⟩) z5
        · obtain ⟨f1, f2⟩ := h.win.fin2 hi2 (by omega)
          refine ⟨q - 1, r + v1, f1, hi2.2, f2, [(80, .pv (bv true))], .inr rfl, ?_⟩
          rcases he with rfl | rfl
          · exact loopN_exit (roundX_ok (da3 k n pre.length v1 v2 q r c _ _) ⟨by simp; omega, w64p2 (by omega) (by omega), h.r2, w64u rfl (by omega), o1, shl64 hr, rfl, w64p2 (by omega) (by omega), ⟨rfl, by omega⟩, ldc, w64u rfl (by omega), o2, by simp; omega, wq q hq0 hq, w64p (by omega) (by omega), h.r1, w64u rfl (by omega), w64u (by omega) (by omega), by simp; omega, trivial⟩) (by simp)
          · exact loopN_exit (roundX_ok (db3 k n pre.length v1 v2 q r c _ _) ⟨by simp; omega, w64p2 (by omega) (by omega), h.r2, w64u rfl (by omega), o1, shl64 hr, rfl, w64p2 (by omega) (by omega), ⟨rfl, by omega⟩, ldc, w64u rfl (by omega), o2, by simp; omega, wq q hq0 hq, w64p (by omega) (by omega), h.r1, w64u rfl (by omega), w64u (by omega) (by omega), by simp; omega, trivial⟩) (by simp)
      · have f2 := h.win.fin hi (by omega) (by omega)
        refine ⟨q, r, by omega, hi.2, f2, [(68, .pv (bv false))], .inl rfl, ?_⟩
        rcases he with rfl | rfl
        · exact loopN_exit (roundX_ok (da4 k n pre.length v1 v2 q r c _ _) ⟨by simp; omega, w64p2 (by omega) (by omega), h.r2, w64u rfl (by omega), o1, shl64 hr, rfl, w64p2 (by omega) (by omega), ⟨rfl, by omega⟩, ldc, w64u rfl (by omega), o2, by simp; omega, trivial⟩) (by simp)
        · exact loopN_exit (roundX_ok (db4 k n pre.length v1 v2 q r c _ _) ⟨by simp; omega, w64p2 (by omega) (by omega), h.r2, w64u rfl (by omega), o1, shl64 hr, rfl, w64p2 (by omega) (by omega), ⟨rfl, by omega⟩, ldc, w64u rfl (by omega), o2, by simp; omega, trivial⟩) (by simp)
end
end Go.Proofs.YtibbgjafjhcemaaDoor.Cul
/-! B9 -/
set_option linter.unusedVariables false
set_option linter.unusedSimpArgs false
set_option maxRecDepth 100000
namespace Go.Proofs.YtibbgjafjhcemaaDoor.Cul
open Go Go.RowKit
section
variable {pre W post V : List Nat} {n a b c v1 v2 : Nat}
def S1 (o n : Nat) (V U : List Nat) (q c bw i : Nat) (e : List (Nat × AV)) : St := ⟨(0, .bs 1000000 o 1 (n + 1)) :: (1, .pv (.sl 1 n (us V))) :: (5, .pv (iv n)) :: (7, .pv (u64v q)) :: (9, .pv (u64v c)) :: (10, .pv (u32v bw)) :: (81, .pv (.sl 1 n (us V))) :: (82, .pv (iv n)) :: (83, .pv (iv i)) :: e, [(1000000, us U)], [], []⟩
theorem t9_ok : CallOk MD.P t9 := tabF_ok (fns_cons (spE_is fun x h => add32_is x.1 x.2.1 x.2.2 h.1 h.2.1 h.2.2) (fns_cons (spE_is fun x h => sub32_is x.1 x.2.1 x.2.2 h.1 h.2.1 h.2.2) fns_nil))
theorem c1_lt {c q x : Nat} (hc : c < (4294967296 : Nat)) (hq : q < (4294967296 : Nat)) (hx : x < (4294967296 : Nat)) : c + q * x < (4294967296 : Nat) * (4294967296 : Nat) := by
  have : q * x ≤ ((4294967296 : Nat) - 1) * ((4294967296 : Nat) - 1) := Nat.mul_le_mul (by omega) (by omega)
  omega
/-- The product is taken away. -/
theorem subLoop (k : Nat) (hV : V.length = n) (dV : Dig (4294967296 : Nat) V) (hn : n < 2 ^ 40) (q : Nat) (hq : q < (4294967296 : Nat)) : ∀ (d i c bw : Nat) (W1 : List Nat), i + d = n → W1.length = n + 1 → Dig (4294967296 : Nat) W1 → c < (4294967296 : Nat) → bw ≤ 1 → val (4294967296 : Nat) W1 + q * val (4294967296 : Nat) (V.take i) = val (4294967296 : Nat) W + (4294967296 : Nat) ^ i * (c + bw) →
    ∃ c2 b2 W2, W2.length = n + 1 ∧ Dig (4294967296 : Nat) W2 ∧ c2 < (4294967296 : Nat) ∧ b2 ≤ 1 ∧ val (4294967296 : Nat) W2 + q * val (4294967296 : Nat) V = val (4294967296 : Nat) W + (4294967296 : Nat) ^ n * (c2 + b2) ∧ loopN (roundM MD t9 k 109 1) (d + 1) (S1 pre.length n V (emb pre W1 post) q c bw i []) = some (.exit 2, S1 pre.length n V (emb pre W2 post) q c2 b2 n [(84, .pv (bv false))])
  | 0, i, c, bw, W1, hi, hl, hd, hc, hb, he => by
    have : i = n := by omega
    subst this
    rw [List.take_of_length_le (by omega)] at he
    exact ⟨c, bw, W1, hl, hd, hc, hb, he, loopN_exit (roundX_ok (ds0 k i pre.length q c bw i _ _) ⟨by simp, trivial⟩) (by simp)⟩
  | d + 1, i, c, bw, W1, hi, hl, hd, hc, hb, he => by
    obtain ⟨x, hx⟩ := get_some (l := V) (i := i) (by omega)
    obtain ⟨a, ha⟩ := get_some (l := W1) (i := i) (by omega)
    have hxb := dig_get dV hx
    have hab := dig_get hd ha
    have hc1 := c1_lt hc hq hxb
    have hrow : RowAt (us V) 1 (i : Int) n [u32v x] := by have := rowAt_us hx rfl; rwa [hV] at this
    obtain ⟨s, hs⟩ : ∃ s, s = (a + (4294967296 : Nat) + (4294967296 : Nat) - (c + q * x) % (4294967296 : Nat) - bw) % (4294967296 : Nat) := ⟨_, rfl⟩
    obtain ⟨b2, hb2⟩ : ∃ b2, b2 = if a < (c + q * x) % (4294967296 : Nat) + bw then 1 else 0 := ⟨_, rfl⟩
    have hsb : s < (4294967296 : Nat) := by rw [hs]; exact Nat.mod_lt _ (by decide)
    have hb21 : b2 ≤ 1 := by rw [hb2]; split <;> omega
    have hse : s + (c + q * x) % (4294967296 : Nat) + bw = a + (4294967296 : Nat) * b2 := by
      rw [Nat.sub_sub] at hs
      rw [hb2]
      split <;> omega
    have hcall : sub32T [u32v a, u32v ((c + q * x) % (4294967296 : Nat)), u32v bw] = some (one (pair32 s b2)) := by
      rw [hs, hb2]; exact sub32T_at hab (Nat.mod_lt _ (by decide)) hb
    have hv := val_set (b := (4294967296 : Nat)) ha s
    have ht := take_succ_val (b := (4294967296 : Nat)) hx
    have he2 : val (4294967296 : Nat) (W1.set i s) + q * val (4294967296 : Nat) (V.take (i + 1)) = val (4294967296 : Nat) W + (4294967296 : Nat) ^ (i + 1) * ((c + q * x) / (4294967296 : Nat) + b2) := by
      have hdm := Nat.div_add_mod (c + q * x) (4294967296 : Nat)
      obtain ⟨t, hteq⟩ : ∃ t, t = (c + q * x) / (4294967296 : Nat) := ⟨_, rfl⟩
      rw [← hteq] at hdm ⊢
      have k1 : (4294967296 : Nat) ^ (i + 1) * (t + b2) = (4294967296 : Nat) ^ i * ((4294967296 : Nat) * t + (4294967296 : Nat) * b2) := by rw [Nat.pow_succ, Nat.mul_assoc, Nat.mul_add]
      have k2 : (4294967296 : Nat) ^ i * (c + bw) + (4294967296 : Nat) ^ i * s + (4294967296 : Nat) ^ i * (q * x) = (4294967296 : Nat) ^ i * ((4294967296 : Nat) * t + (4294967296 : Nat) * b2) + (4294967296 : Nat) ^ i * a := by
        rw [← Nat.mul_add, ← Nat.mul_add, ← Nat.mul_add]; congr 1; omega
      have k3 : q * ((4294967296 : Nat) ^ i * x) = (4294967296 : Nat) ^ i * (q * x) := by ac_rfl
      rw [k1, ht, Nat.mul_add, k3]
      omega
    obtain ⟨c3, b3, W3, z1, z2, z3, z4, z5, z6⟩ := subLoop k hV dV hn q hq d (i + 1) ((c + q * x) / (4294967296 : Nat)) b2 (W1.set i s) (by omega) (by simpa using hl) (dig_set hd hsb i) (Nat.div_lt_of_lt_mul hc1) hb21 he2
    refine ⟨c3, b3, W3, z1, z2, z3, z4, z5, loopN_next (roundX_ok (ds1 k n pre.length q c bw i x a (c + q * x) s b2 _ (us (emb pre (W1.set i s) post)) _) ⟨by simp; omega, hrow, w64u rfl (by omega), w64u (by simp) (by omega), w64u (by omega) (by omega), ⟨rfl, by omega⟩, ld_us (emb_get ha) (by omega), w32m _, hcall, ⟨rfl, by omega⟩, ?_, spl_us (emb_set (by omega) s) (by rw [emb_len]; omega) (by omega), by rw [pow32]; exact fdivn _ _, rfl, w64n (by omega) (by omega), trivial⟩) z6⟩
    rw [us_len, emb_len]; simp [u32v, PV.cells]; omega
def S2 (o n : Nat) (V U : List Nat) (q c i : Nat) (e : List (Nat × AV)) : St := ⟨(0, .bs 1000000 o 1 (n + 1)) :: (5, .pv (iv n)) :: (7, .pv (u64v q)) :: (13, .pv (u32v c)) :: (129, .pv (.sl 1 n (us V))) :: (130, .pv (iv n)) :: (131, .pv (iv i)) :: e, [(1000000, us U)], [], []⟩
/-- The divisor is added back. -/
theorem addLoop (k : Nat) (hV : V.length = n) (dV : Dig (4294967296 : Nat) V) (hn : n < 2 ^ 40) (q : Nat) : ∀ (d i c : Nat) (W1 : List Nat), i + d = n → W1.length = n + 1 → Dig (4294967296 : Nat) W1 → c ≤ 1 → val (4294967296 : Nat) W1 + (4294967296 : Nat) ^ i * c = val (4294967296 : Nat) W + val (4294967296 : Nat) (V.take i) →
    ∃ c2 W2, W2.length = n + 1 ∧ Dig (4294967296 : Nat) W2 ∧ c2 ≤ 1 ∧ val (4294967296 : Nat) W2 + (4294967296 : Nat) ^ n * c2 = val (4294967296 : Nat) W + val (4294967296 : Nat) V ∧ loopN (roundM MD t9 k 109 2) (d + 1) (S2 pre.length n V (emb pre W1 post) q c i []) = some (.exit 4, S2 pre.length n V (emb pre W2 post) q c2 n [(132, .pv (bv false))])
  | 0, i, c, W1, hi, hl, hd, hc, he => by
    have : i = n := by omega
    subst this
    rw [List.take_of_length_le (by omega)] at he
    exact ⟨c, W1, hl, hd, hc, he, loopN_exit (roundX_ok (dt0 k i pre.length q c i _ _) ⟨by simp, trivial⟩) (by simp)⟩
  | d + 1, i, c, W1, hi, hl, hd, hc, he => by
    obtain ⟨x, hx⟩ := get_some (l := V) (i := i) (by omega)
    obtain ⟨a, ha⟩ := get_some (l := W1) (i := i) (by omega)
    have hxb := dig_get dV hx
    have hab := dig_get hd ha
    have hrow : RowAt (us V) 1 (i : Int) n [u32v x] := by have := rowAt_us hx rfl; rwa [hV] at this
    obtain ⟨s, hs⟩ : ∃ s, s = (a + x + c) % (4294967296 : Nat) := ⟨_, rfl⟩
    obtain ⟨c', hc'⟩ : ∃ c', c' = (a + x + c) / (4294967296 : Nat) := ⟨_, rfl⟩
    have hcall : add32T [u32v a, u32v x, u32v c] = some (one (pair32 s c')) := by
      rw [hs, hc']; exact add32T_at hab hxb (by omega)
    have hv := val_set (b := (4294967296 : Nat)) ha s
    have ht := take_succ_val (b := (4294967296 : Nat)) hx
    have he2 : val (4294967296 : Nat) (W1.set i s) + (4294967296 : Nat) ^ (i + 1) * c' = val (4294967296 : Nat) W + val (4294967296 : Nat) (V.take (i + 1)) := by
      have k1 : (4294967296 : Nat) ^ (i + 1) * c' = (4294967296 : Nat) ^ i * ((4294967296 : Nat) * c') := by rw [Nat.pow_succ, Nat.mul_assoc]
      have k2 : (4294967296 : Nat) ^ i * s + (4294967296 : Nat) ^ i * ((4294967296 : Nat) * c') = (4294967296 : Nat) ^ i * a + (4294967296 : Nat) ^ i * x + (4294967296 : Nat) ^ i * c := by
        rw [← Nat.mul_add, ← Nat.mul_add, ← Nat.mul_add]; congr 1; omega
      rw [k1, ht]
      omega
    obtain ⟨c3, W3, z1, z2, z4, z5, z6⟩ := addLoop k hV dV hn q d (i + 1) c' (W1.set i s) (by omega) (by simpa using hl) (dig_set hd (by omega) i) (by omega) he2
    refine ⟨c3, W3, z1, z2, z4, z5, loopN_next (roundX_ok (dt1 k n pre.length q c i x a s c' _ (us (emb pre (W1.set i s) post)) _) ⟨by simp; omega, hrow, ⟨rfl, by omega⟩, ld_us (emb_get ha) (by omega), hcall, ⟨rfl, by omega⟩, ?_, spl_us (emb_set (by omega) s) (by rw [emb_len]; omega) (by omega), w64n (by omega) (by omega), trivial⟩) z6⟩
    rw [us_len, emb_len]; simp [u32v, PV.cells]; omega
/-- digit answers the quotient of the window and the divisor, and leaves the remainder in the window. -/
theorem digit_is (h : DCtx pre W post V n a b c v1 v2) : MutIs P0 109 [.g (us (emb pre W post)) pre.length 1 (n + 1), .p (.sl 1 n (us V))] (.pv (u32v (val (4294967296 : Nat) W / val (4294967296 : Nat) V))) (us (emb pre (fd (4294967296 : Nat) (n + 1) (val (4294967296 : Nat) W % val (4294967296 : Nat) V)) post)) := by
  have hn := h.hn
  have n40 := h.n40
  have ha := dig_get h.dW h.ga
  have hb := dig_get h.dW h.gb
  have hv1 := h.hv1
  have v1p := h.win.v1pos
  have htop : a * (4294967296 : Nat) + b < (4294967296 : Nat) * (4294967296 : Nat) := by omega
  have hqt : (a * (4294967296 : Nat) + b) / v1 < (4294967296 : Nat) * (4294967296 : Nat) := Nat.lt_of_le_of_lt (Nat.div_le_self _ _) htop
  have hrt : (a * (4294967296 : Nat) + b) % v1 < v1 := Nat.mod_lt _ v1p
  obtain ⟨q2, r2, hq2, hge, hle, e2, he2, hg⟩ := guess h (n + 3) 2 _ _ [] (.inl rfl) h.win.start hqt (by omega) (by have := h.top; omega)
  have hg := loopN_le (show 2 + 1 ≤ n + 3 by omega) hg
  obtain ⟨c2, b2, W2, l2, d2, hc2, hb2, hs2, hlp2⟩ := subLoop (pre := pre) (W := W) (post := post) (n + 3) h.hV h.dV n40 q2 hq2 n 0 0 0 W (by omega) h.hW h.dW (by decide) (by omega) (by simp [val])
  have hlp2 := loopN_le (show n + 1 ≤ n + 3 by omega) hlp2
  obtain ⟨x, hx⟩ := get_some (l := W2) (i := n) (by omega)
  have hxb := dig_get d2 hx
  obtain ⟨s, hs⟩ : ∃ s, s = (x + (4294967296 : Nat) + (4294967296 : Nat) - c2 - b2) % (4294967296 : Nat) := ⟨_, rfl⟩
  obtain ⟨b', hb'⟩ : ∃ b', b' = if x < c2 + b2 then 1 else 0 := ⟨_, rfl⟩
  have hsb : s < (4294967296 : Nat) := by rw [hs]; exact Nat.mod_lt _ (by decide)
  have hse : s + c2 + b2 = x + (4294967296 : Nat) * b' := by
    rw [Nat.sub_sub] at hs
    rw [hb']
    split <;> omega
  have hcall : sub32T [u32v x, u32v c2, u32v b2] = some (one (pair32 s b')) := by
    rw [hs, hb']; exact sub32T_at hxb hc2 hb2
  have hv3 := val_set (b := (4294967296 : Nat)) hx s
  have hW3 : val (4294967296 : Nat) (W2.set n s) + q2 * val (4294967296 : Nat) V = val (4294967296 : Nat) W + (4294967296 : Nat) ^ (n + 1) * b' := by
    have k1 : (4294967296 : Nat) ^ (n + 1) * b' = (4294967296 : Nat) ^ n * ((4294967296 : Nat) * b') := by rw [Nat.pow_succ, Nat.mul_assoc]
    have k2 : (4294967296 : Nat) ^ n * (c2 + b2) + (4294967296 : Nat) ^ n * s = (4294967296 : Nat) ^ n * ((4294967296 : Nat) * b') + (4294967296 : Nat) ^ n * x := by
      rw [← Nat.mul_add, ← Nat.mul_add]; congr 1; omega
    rw [k1]; omega
  have d3 : Dig (4294967296 : Nat) (W2.set n s) := dig_set d2 hsb n
  have l3 : (W2.set n s).length = n + 1 := by simpa using l2
  have hlt3 := val_lt d3
  rw [l3] at hlt3
  have lde : (emb pre W2 post).length = pre.length + (n + 1) + post.length := by rw [emb_len, l2]
  have hVpos := h.win.vpos
  have hdm := Nat.div_add_mod (val (4294967296 : Nat) W) (val (4294967296 : Nat) V)
  have hml := Nat.mod_lt (val (4294967296 : Nat) W) hVpos
  have hwlt := val_lt h.dW
  rw [h.hW] at hwlt
  have o30 : IntKind.u64.wrap ((BitVec.ofInt IntKind.u64.bits ((2 ^ 32 * a : Nat) : Int) ||| BitVec.ofInt IntKind.u64.bits (b : Int)).toNat : Int) = ((a * (4294967296 : Nat) + b : Nat) : Int) := or_add64 (r := 32) (by omega) (by omega) _ (by omega)
  have ldA : Ld MD.P 111 (us (emb pre W post)) (pre.length + n * 1) (u32v a) := ld_us (emb_get h.ga) (by omega)
  have ldB : Ld MD.P 111 (us (emb pre W post)) (pre.length + (n - 1) * 1) (u32v b) := ld_us (emb_get h.gb) (by omega)
  have ldX : Ld MD.P 111 (us (emb pre W2 post)) (pre.length + n * 1) (u32v x) := ld_us (emb_get hx) (by omega)
  have w3 : Spl (us (emb pre W2 post)) (pre.length + n * 1) [u32v s] (us (emb pre (W2.set n s) post)) := spl_us (emb_set (by omega) s) (by rw [lde]; omega) (by omega)
  have hf3 : (W2.set n s).all (fun x => decide (x < (4294967296 : Nat))) = true := by
    rw [List.all_eq_true]; intro y hy; simpa using d3 y hy
  have litU : ∀ l : List Nat, (us l).all litP' = true := by
    intro l
    rw [List.all_eq_true]
    intro y hy
    simp only [us, List.mem_map] at hy
    obtain ⟨z, _, rfl⟩ := hy
    rfl
  rcases Nat.eq_zero_or_pos b' with hb0 | hb0
  · rw [hb0] at hcall hW3
    have hq : q2 = val (4294967296 : Nat) W / val (4294967296 : Nat) V := by
      have : q2 ≤ val (4294967296 : Nat) W / val (4294967296 : Nat) V := (Nat.le_div_iff_mul_le hVpos).2 (by omega)
      omega
    have hrem : val (4294967296 : Nat) (W2.set n s) = val (4294967296 : Nat) W % val (4294967296 : Nat) V := by
      rw [hq, Nat.mul_comm] at hW3; omega
    have hfd := fd_eq (b := (4294967296 : Nat)) (by decide) d3 l3 hrem
    rw [← hfd, ← hq]
    rcases he2 with rfl | rfl
    · exact runMX_is machOkD t9_ok (by rfl) (dg0 (n + 3) n pre.length a b (a * (4294967296 : Nat) + b) v1 ((a * (4294967296 : Nat) + b) / v1) ((a * (4294967296 : Nat) + b) % v1) q2 r2 x c2 b2 s _ _ _ _) ⟨litU _, by rw [us_len, us_len, emb_len, emb_len, l3, h.hW], ⟨rfl, by omega⟩, ldA, w64u rfl (by omega), shl64 ha, rfl, w64p (by omega) (by omega), ⟨rfl, by omega⟩, ldB, w64u rfl (by omega), o30, w64p (by omega) (by omega), h.r1, w64u rfl (by omega), w64u (tdivn _ _) (by omega), by simp; omega, w64p (by omega) (by omega), h.r1, w64u rfl (by omega), tmodn _ _, by simp; omega, hg, hlp2, ⟨rfl, by omega⟩, ldX, w32n rfl (by omega), hcall, ⟨rfl, by omega⟩, by rw [us_len, lde]; simp [u32v, PV.cells]; omega, w3, rfl, w32n rfl (by omega), trivial⟩
    · exact runMX_is machOkD t9_ok (by rfl) (dg1 (n + 3) n pre.length a b (a * (4294967296 : Nat) + b) v1 ((a * (4294967296 : Nat) + b) / v1) ((a * (4294967296 : Nat) + b) % v1) q2 r2 x c2 b2 s _ _ _ _) ⟨litU _, by rw [us_len, us_len, emb_len, emb_len, l3, h.hW], ⟨rfl, by omega⟩, ldA, w64u rfl (by omega), shl64 ha, rfl, w64p (by omega) (by omega), ⟨rfl, by omega⟩, ldB, w64u rfl (by omega), o30, w64p (by omega) (by omega), h.r1, w64u rfl (by omega), w64u (tdivn _ _) (by omega), by simp; omega, w64p (by omega) (by omega), h.r1, w64u rfl (by omega), tmodn _ _, by simp; omega, hg, hlp2, ⟨rfl, by omega⟩, ldX, w32n rfl (by omega), hcall, ⟨rfl, by omega⟩, by rw [us_len, lde]; simp [u32v, PV.cells]; omega, w3, rfl, w32n rfl (by omega), trivial⟩
  · have hb1 : b' = 1 := by rw [hb']; rw [hb'] at hb0; split <;> simp_all
    rw [hb1] at hcall hW3
    have hq : q2 = val (4294967296 : Nat) W / val (4294967296 : Nat) V + 1 := by
      rcases Nat.lt_or_ge (val (4294967296 : Nat) W / val (4294967296 : Nat) V) q2 with h1 | h1
      · omega
      · have h2 : q2 * val (4294967296 : Nat) V ≤ val (4294967296 : Nat) W := by
          have := Nat.mul_le_mul_right (val (4294967296 : Nat) V) h1
          have := h.win.q_mul
          omega
        omega
    obtain ⟨c3, W4, l4, d4, hc3, hv4, hlp3⟩ := addLoop (pre := pre) (W := W2.set n s) (post := post) (n + 3) h.hV h.dV n40 (q2 - 1) n 0 0 (W2.set n s) (by omega) l3 d3 (by omega) (by simp [val])
    have hlp3 := loopN_le (show n + 1 ≤ n + 3 by omega) hlp3
    obtain ⟨y, hy⟩ := get_some (l := W4) (i := n) (by omega)
    have hyb := dig_get d4 hy
    obtain ⟨z, hz⟩ : ∃ z, z = (y + c3) % (4294967296 : Nat) := ⟨_, rfl⟩
    have hzb : z < (4294967296 : Nat) := by rw [hz]; exact Nat.mod_lt _ (by decide)
    have hv5 := val_set (b := (4294967296 : Nat)) hy z
    have d5 : Dig (4294967296 : Nat) (W4.set n z) := dig_set d4 hzb n
    have l5 : (W4.set n z).length = n + 1 := by simpa using l4
    have hlt5 := val_lt d5
    rw [l5] at hlt5
    have lde4 : (emb pre W4 post).length = pre.length + (n + 1) + post.length := by rw [emb_len, l4]
    have hW5 : val (4294967296 : Nat) (W4.set n z) + (4294967296 : Nat) ^ (n + 1) * ((y + c3) / (4294967296 : Nat)) = val (4294967296 : Nat) (W2.set n s) + val (4294967296 : Nat) V := by
      obtain ⟨t, ht⟩ : ∃ t, t = (y + c3) / (4294967296 : Nat) := ⟨_, rfl⟩
      rw [← ht]
      have k1 : (4294967296 : Nat) ^ (n + 1) * t = (4294967296 : Nat) ^ n * ((4294967296 : Nat) * t) := by rw [Nat.pow_succ, Nat.mul_assoc]
      have k2 : (4294967296 : Nat) ^ n * z + (4294967296 : Nat) ^ n * ((4294967296 : Nat) * t) = (4294967296 : Nat) ^ n * y + (4294967296 : Nat) ^ n * c3 := by
        rw [← Nat.mul_add, ← Nat.mul_add]; congr 1; omega
      rw [k1]; omega
    have hrem : val (4294967296 : Nat) (W4.set n z) = val (4294967296 : Nat) W % val (4294967296 : Nat) V := by
      obtain ⟨t, ht⟩ : ∃ t, t = (y + c3) / (4294967296 : Nat) := ⟨_, rfl⟩
      rw [← ht] at hW5
      have e : (val (4294967296 : Nat) W / val (4294967296 : Nat) V + 1) * val (4294967296 : Nat) V = val (4294967296 : Nat) V * (val (4294967296 : Nat) W / val (4294967296 : Nat) V) + val (4294967296 : Nat) V := by rw [Nat.add_mul, Nat.one_mul, Nat.mul_comm]
      rw [hq, e] at hW3
      obtain ⟨P, hP⟩ : ∃ P, P = (4294967296 : Nat) ^ (n + 1) := ⟨_, rfl⟩
      rw [← hP] at hW3 hW5 hlt5 hlt3 hwlt
      rcases Nat.lt_trichotomy t 1 with h1 | h1 | h1
      · have : t = 0 := by omega
        subst this; omega
      · rw [h1] at hW5; omega
      · have : P * 2 ≤ P * t := Nat.mul_le_mul_left _ h1
        omega
    have hfd := fd_eq (b := (4294967296 : Nat)) (by decide) d5 l5 hrem
    have hqm : val (4294967296 : Nat) W / val (4294967296 : Nat) V = q2 - 1 := by rw [hq, Nat.add_sub_cancel]
    rw [← hfd, hqm]
    have ldY : Ld MD.P 111 (us (emb pre W4 post)) (pre.length + n * 1) (u32v y) := ld_us (emb_get hy) (by omega)
    have w5 : Spl (us (emb pre W4 post)) (pre.length + n * 1) [u32v z] (us (emb pre (W4.set n z) post)) := spl_us (emb_set (by omega) z) (by rw [lde4]; omega) (by omega)
    have o155 : IntKind.u32.wrap ((y : Int) + (c3 : Int)) = (z : Int) := by rw [← Int.natCast_add, w32m, hz]
    have o128 : IntKind.u64.wrap ((q2 : Int) - (1 : Int)) = ((q2 - 1 : Nat) : Int) := w64u (by omega) (by omega)
    rcases he2 with rfl | rfl
    · exact runMX_is machOkD t9_ok (by rfl) (dg2 (n + 3) n pre.length a b (a * (4294967296 : Nat) + b) v1 ((a * (4294967296 : Nat) + b) / v1) ((a * (4294967296 : Nat) + b) % v1) q2 r2 x c2 b2 s (q2 - 1) y c3 z _ _ _ _ _ _) ⟨litU _, by rw [us_len, us_len, emb_len, emb_len, l5, h.hW], ⟨rfl, by omega⟩, ldA, w64u rfl (by omega), shl64 ha, rfl, w64p (by omega) (by omega), ⟨rfl, by omega⟩, ldB, w64u rfl (by omega), o30, w64p (by omega) (by omega), h.r1, w64u rfl (by omega), w64u (tdivn _ _) (by omega), by simp; omega, w64p (by omega) (by omega), h.r1, w64u rfl (by omega), tmodn _ _, by simp; omega, hg, hlp2, ⟨rfl, by omega⟩, ldX, w32n rfl (by omega), hcall, ⟨rfl, by omega⟩, by rw [us_len, lde]; simp [u32v, PV.cells]; omega, w3, rfl, o128, hlp3, ⟨rfl, by omega⟩, ldY, o155, ⟨rfl, by omega⟩, by rw [us_len, lde4]; simp [PV.cells]; omega, w5, w32n rfl (by omega), trivial⟩
    · exact runMX_is machOkD t9_ok (by rfl) (dg3 (n + 3) n pre.length a b (a * (4294967296 : Nat) + b) v1 ((a * (4294967296 : Nat) + b) / v1) ((a * (4294967296 : Nat) + b) % v1) q2 r2 x c2 b2 s (q2 - 1) y c3 z _ _ _ _ _ _) ⟨litU _, by rw [us_len, us_len, emb_len, emb_len, l5, h.hW], ⟨rfl, by omega⟩, ldA, w64u rfl (by omega), shl64 ha, rfl, w64p (by omega) (by omega), ⟨rfl, by omega⟩, ldB, w64u rfl (by omega), o30, w64p (by omega) (by omega), h.r1, w64u rfl (by omega), w64u (tdivn _ _) (by omega), by simp; omega, w64p (by omega) (by omega), h.r1, w64u rfl (by omega), tmodn _ _, by simp; omega, hg, hlp2, ⟨rfl, by omega⟩, ldX, w32n rfl (by omega), hcall, ⟨rfl, by omega⟩, by rw [us_len, lde]; simp [u32v, PV.cells]; omega, w3, rfl, o128, hlp3, ⟨rfl, by omega⟩, ldY, o155, ⟨rfl, by omega⟩, by rw [us_len, lde4]; simp [PV.cells]; omega, w5, w32n rfl (by omega), trivial⟩
end
end Go.Proofs.YtibbgjafjhcemaaDoor.Cul
/-! DQ -/
set_option linter.unusedVariables false
namespace Go.Proofs.YtibbgjafjhcemaaDoor.Cul
/-! ### Long division: what the lists hold -/
theorem fd_take (b : Nat) : ∀ {n N v : Nat}, n ≤ N → (fd b N v).take n = fd b n v
  | 0, _, _, _ => by simp [fd]
  | n + 1, 0, _, h => by omega
  | n + 1, N + 1, v, h => by simp only [fd, List.take_succ_cons]; rw [fd_take b (by omega)]
theorem val_emb {b : Nat} (pre W post : List Nat) : val b (pre ++ W ++ post) = val b pre + b ^ pre.length * (val b W + b ^ W.length * val b post) := by
  rw [List.append_assoc, val_app, val_app]
/-- The array when the digits from j on are divided. -/
def lu (B N A V j : Nat) : List Nat := fd B N (A % B ^ j + B ^ j * (A / B ^ j % V))
def lq (B c A V j : Nat) : List Nat := fd B c (B ^ j * (A / B ^ j / V))
/-- The window's value. -/
def lw (B A V j : Nat) : Nat := A / B ^ j % B + B * (A / B ^ (j + 1) % V)
section
variable {B N A V j n : Nat}
theorem lw_lt (hB : 2 ≤ B) (hV : 0 < V) : lw B A V j < B * V := by
  unfold lw
  have h1 : A / B ^ j % B < B := Nat.mod_lt _ (by omega)
  have h2 : A / B ^ (j + 1) % V + 1 ≤ V := Nat.mod_lt _ hV
  have := Nat.mul_le_mul_left B h2
  rw [Nat.mul_add] at this; omega
theorem dig_step (hB : 2 ≤ B) : A / B ^ j = B * (A / B ^ (j + 1)) + A / B ^ j % B := by
  rw [Nat.pow_succ, ← Nat.div_div_eq_div_mul]; exact (Nat.div_add_mod _ _).symm
theorem div_step (hB : 2 ≤ B) : A / B ^ j = B * (A / B ^ (j + 1) / V) * V + lw B A V j := by
  have h1 := dig_step (A := A) (j := j) hB
  have h2 := Nat.div_add_mod (A / B ^ (j + 1)) V
  unfold lw
  have h3 : B * (A / B ^ (j + 1)) = B * (A / B ^ (j + 1) / V) * V + B * (A / B ^ (j + 1) % V) := by
    rw [Nat.mul_assoc, Nat.mul_comm _ V, ← Nat.mul_add, h2]
  omega
theorem q_step (hB : 2 ≤ B) (hV : 0 < V) : A / B ^ j / V = B * (A / B ^ (j + 1) / V) + lw B A V j / V := by
  rw [div_step (V := V) hB, Nat.add_comm, Nat.add_mul_div_right _ _ hV, Nat.add_comm]
theorem r_step (hB : 2 ≤ B) : A / B ^ j % V = lw B A V j % V := by
  rw [div_step (V := V) hB, Nat.add_comm, Nat.add_mul_mod_self_right]
theorem lu_val (hB : 2 ≤ B) (hV : 0 < V) (hVB : V ≤ B ^ n) (hN : j + n ≤ N) : val B (lu B N A V j) = A % B ^ j + B ^ j * (A / B ^ j % V) := by
  unfold lu
  rw [fd_val (by omega), Nat.mod_eq_of_lt]
  have h1 : A % B ^ j < B ^ j := Nat.mod_lt _ (Nat.pow_pos (by omega))
  have h2 : A / B ^ j % V + 1 ≤ B ^ n := Nat.le_trans (Nat.mod_lt _ hV) hVB
  have h3 := Nat.mul_le_mul_left (B ^ j) h2
  rw [← Nat.pow_add, Nat.mul_add, Nat.mul_one] at h3
  have h4 : B ^ (j + n) ≤ B ^ N := Nat.pow_le_pow_right (by omega) hN
  omega
theorem lu_val2 (hB : 2 ≤ B) (hV : 0 < V) (hVB : V ≤ B ^ n) (hN : j + 1 + n ≤ N) : val B (lu B N A V (j + 1)) = A % B ^ j + B ^ j * lw B A V j := by
  rw [lu_val hB hV hVB hN, lw, Nat.mul_add, ← Nat.mul_assoc, ← Nat.pow_succ, Nat.pow_succ, Nat.mod_mul]
  omega
theorem split_val {x y p P : Nat} (h : x + P * y = p) (hx : x < P) : x = p % P ∧ y = p / P := by
  subst h
  rw [Nat.add_mul_mod_self_left, Nat.mod_eq_of_lt hx, Nat.add_mul_div_left _ _ (by omega), Nat.div_eq_of_lt hx]
  exact ⟨rfl, by omega⟩
/-- The window, and what stands before and behind it. -/
theorem window (hB : 2 ≤ B) (hV : 0 < V) (hVB : V ≤ B ^ n) (hN : j + n + 1 ≤ N) : val B ((lu B N A V (j + 1)).take j) = A % B ^ j ∧ val B (((lu B N A V (j + 1)).drop j).take (n + 1)) = lw B A V j ∧ val B ((lu B N A V (j + 1)).drop (j + n + 1)) = 0 := by
  have hl : (lu B N A V (j + 1)).length = N := fd_len _ _ _
  have hd : Dig B (lu B N A V (j + 1)) := fd_dig (by omega) _ _
  have he : lu B N A V (j + 1) = (lu B N A V (j + 1)).take j ++ ((lu B N A V (j + 1)).drop j).take (n + 1) ++ (lu B N A V (j + 1)).drop (j + n + 1) := by
    rw [List.append_assoc]
    have : (lu B N A V (j + 1)).drop (j + n + 1) = ((lu B N A V (j + 1)).drop j).drop (n + 1) := by rw [List.drop_drop]; rfl
    rw [this, List.take_append_drop, List.take_append_drop]
  have h1 := val_emb (b := B) ((lu B N A V (j + 1)).take j) (((lu B N A V (j + 1)).drop j).take (n + 1)) ((lu B N A V (j + 1)).drop (j + n + 1))
  rw [← he, lu_val2 hB hV hVB (by omega)] at h1
  have l1 : ((lu B N A V (j + 1)).take j).length = j := by rw [List.length_take, hl]; omega
  have l2 : (((lu B N A V (j + 1)).drop j).take (n + 1)).length = n + 1 := by rw [List.length_take, List.length_drop, hl]; omega
  have b1 := val_lt (dig_take hd j)
  have b2 := val_lt (dig_take (dig_drop hd j) (n + 1))
  rw [l1] at b1 h1
  rw [l2] at b2 h1
  have hm : A % B ^ j < B ^ j := Nat.mod_lt _ (Nat.pow_pos (by omega))
  obtain ⟨k1, k2⟩ := split_val h1.symm b1
  have k3 : (A % B ^ j + B ^ j * lw B A V j) % B ^ j = A % B ^ j := by rw [Nat.add_mul_mod_self_left, Nat.mod_eq_of_lt hm]
  have k4 : (A % B ^ j + B ^ j * lw B A V j) / B ^ j = lw B A V j := by
    rw [Nat.add_mul_div_left _ _ (Nat.pow_pos (by omega)), Nat.div_eq_of_lt hm, Nat.zero_add]
  rw [k3] at k1; rw [k4] at k2
  have hw : lw B A V j < B ^ (n + 1) := by
    have h3 := lw_lt (A := A) (j := j) hB hV
    have h4 : B * V ≤ B * B ^ n := Nat.mul_le_mul_left _ hVB
    rw [Nat.pow_succ, Nat.mul_comm]; omega
  obtain ⟨k5, k6⟩ := split_val k2 b2
  rw [Nat.mod_eq_of_lt hw] at k5
  rw [Nat.div_eq_of_lt hw] at k6
  exact ⟨k1, k5, k6⟩
/-- One digit more is divided. -/
theorem lu_next (hB : 2 ≤ B) (hV : 0 < V) (hVB : V ≤ B ^ n) (hN : j + n + 1 ≤ N) : (lu B N A V (j + 1)).take j ++ fd B (n + 1) (lw B A V j % V) ++ (lu B N A V (j + 1)).drop (j + n + 1) = lu B N A V j := by
  have hl : (lu B N A V (j + 1)).length = N := fd_len _ _ _
  have hd : Dig B (lu B N A V (j + 1)) := fd_dig (by omega) _ _
  obtain ⟨k1, k2, k3⟩ := window (A := A) hB hV hVB hN
  have l1 : ((lu B N A V (j + 1)).take j).length = j := by rw [List.length_take, hl]; omega
  apply fd_eq (by omega)
  · exact ((dig_take hd j).app (fd_dig (by omega) _ _)).app (dig_drop hd _)
  · simp [fd_len, l1, hl]; omega
  · rw [val_emb, k1, k3, l1, fd_val (by omega), Nat.mul_zero, Nat.add_zero, r_step hB]
    congr 2
    apply Nat.mod_eq_of_lt
    have h1 : lw B A V j % V < V := Nat.mod_lt _ hV
    have h2 : B ^ n ≤ B ^ (n + 1) := Nat.pow_le_pow_right (by omega) (by omega)
    omega
theorem lq_lt {c : Nat} (hB : 2 ≤ B) (hV : 0 < V) (hA : A < B ^ c * V) : B ^ j * (A / B ^ j / V) < B ^ c := by
  have h1 : B ^ j * (A / B ^ j / V) * V ≤ A := by
    have h2 : A / B ^ j / V * V ≤ A / B ^ j := Nat.div_mul_le_self _ _
    have h3 : B ^ j * (A / B ^ j) ≤ A := Nat.mul_div_le _ _
    have h4 := Nat.mul_le_mul_left (B ^ j) h2
    rw [Nat.mul_assoc]; omega
  exact Nat.lt_of_mul_lt_mul_right (Nat.lt_of_le_of_lt h1 hA)
theorem lq_get {c : Nat} (hB : 2 ≤ B) (hj : j < c) : (lq B c A V (j + 1))[j]? = some 0 := by
  unfold lq
  rw [fd_get hj, Nat.pow_succ, Nat.mul_assoc, Nat.mul_div_cancel_left _ (Nat.pow_pos (by omega)), Nat.mul_mod_right]
theorem lq_next {c : Nat} (hB : 2 ≤ B) (hV : 0 < V) (hA : A < B ^ c * V) (hj : j < c) : (lq B c A V (j + 1)).set j (lw B A V j / V) = lq B c A V j := by
  have hq : lw B A V j / V < B := (Nat.div_lt_iff_lt_mul hV).2 (lw_lt hB hV)
  apply fd_eq (by omega)
  · exact dig_set (fd_dig (by omega) _ _) hq _
  · simp [lq, fd_len]
  · have h1 := val_set (b := B) (lq_get (A := A) (V := V) hB hj) (lw B A V j / V)
    rw [Nat.mul_zero, Nat.add_zero] at h1
    rw [h1]
    have h2 : val B (lq B c A V (j + 1)) = B ^ (j + 1) * (A / B ^ (j + 1) / V) := by
      rw [lq, fd_val (by omega), Nat.mod_eq_of_lt (lq_lt hB hV hA)]
    rw [h2, q_step (j := j) hB hV, Nat.mul_add, ← Nat.mul_assoc (B ^ j) B, ← Nat.pow_succ]
end
/-- The first i digits of one number, then those of another one. -/
def mix (B N r R i : Nat) : List Nat := (fd B N r).take i ++ (fd B N R).drop i
theorem mix_len {B N r R i : Nat} (h : i ≤ N) : (mix B N r R i).length = N := by simp [mix, fd_len]; omega
theorem mix_get {B N r R i j : Nat} (h : i ≤ j) (hj : j < N) : (mix B N r R i)[j]? = some (R / B ^ j % B) := by
  have l : ((fd B N r).take i).length = i := by rw [List.length_take, fd_len]; omega
  rw [mix, List.getElem?_append_right (by omega), l, List.getElem?_drop, show i + (j - i) = j by omega, fd_get hj]
theorem mix_next {B N r R i : Nat} (h : i < N) : (mix B N r R i).set i (r / B ^ i % B) = mix B N r R (i + 1) := by
  have l : ((fd B N r).take i).length = i := by rw [List.length_take, fd_len]; omega
  have e : (fd B N R).drop i = R / B ^ i % B :: (fd B N R).drop (i + 1) := by
    have h1 : i < (fd B N R).length := by rw [fd_len]; exact h
    rw [List.drop_eq_getElem_cons h1]
    have := fd_get (b := B) (v := R) h
    rw [List.getElem?_eq_getElem h1] at this
    simp only [Option.some.injEq] at this
    rw [this]
  have e2 : (fd B N r).take (i + 1) = (fd B N r).take i ++ [r / B ^ i % B] := by
    rw [List.take_add_one, fd_get h]; rfl
  rw [mix, List.set_append_right _ _ (by omega), l, Nat.sub_self, e, List.set_cons_zero, mix, e2, List.append_assoc]
  rfl
/-- A digit behind a shift. -/
theorem shr_digit {B p X : Nat} (hp : 0 < p) (hd : p ∣ B) : (X % (B * B)) / p % B = X / p % B := by
  obtain ⟨k, rfl⟩ := hd
  rw [show p * k * (p * k) = p * (k * p * k) by ac_rfl, Nat.mod_mul_right_div_self]
  rw [show k * p * k = (p * k) * k by ac_rfl, Nat.mod_mul_right_mod]
end Go.Proofs.YtibbgjafjhcemaaDoor.Cul
/-! B10 -/
set_option linter.unusedVariables false
set_option linter.unusedSimpArgs false
set_option maxRecDepth 100000
set_option maxHeartbeats 2000000
namespace Go.Proofs.YtibbgjafjhcemaaDoor.Cul
open Go Go.RowKit
noncomputable def cmpT : List PV → Option RV := spE (fun x : List Nat × List Nat => (Dig (4294967296 : Nat) x.1 ∧ Dig (4294967296 : Nat) x.2) ∧ x.1.length < 2 ^ 40 ∧ x.2.length < 2 ^ 40) (fun x => [nat x.1, nat x.2]) (fun x => one (iv (cmpL x.1 x.2)))
noncomputable def smallT : List PV → Option RV := spE (fun x : List Nat × Nat => (x.1 ≠ [] ∧ Dig (4294967296 : Nat) x.1 ∧ x.1.length < 2 ^ 40) ∧ 0 < x.2 ∧ x.2 < (4294967296 : Nat)) (fun x => [nat x.1, u32v x.2]) (fun x => one (.tup [nat (dg (4294967296 : Nat) (val (4294967296 : Nat) x.1 / x.2)), u32v (val (4294967296 : Nat) x.1 % x.2)]))
noncomputable def lzT : List PV → Option RV := spE (fun a : Nat => a < (4294967296 : Nat)) (fun a => [u32v a]) (fun a => one (iv ((32 - (dg 2 a).length : Nat) : Nat)))
noncomputable def shiftT : List PV → Option RV := spE (fun x : List Nat × Nat => Dig (4294967296 : Nat) x.1 ∧ x.1.length < 2 ^ 40 ∧ x.2 < 32) (fun x => [nat x.1, iv x.2]) (fun x => ⟨.sl 1 (x.1.length + 1) (us (fd (4294967296 : Nat) (x.1.length + 1) (val (4294967296 : Nat) x.1 * 2 ^ x.2))), some 1⟩)
structure DW4 where
  U : List Nat
  o : Nat
  n : Nat
  V : List Nat
def DW4.W (x : DW4) : List Nat := (x.U.drop x.o).take (x.n + 1)
noncomputable def digitT : List MA → Option (MR × List PV) := spM (fun x : DW4 => x.o + x.n + 1 ≤ x.U.length ∧ ∃ a b c v1 v2, DCtx (x.U.take x.o) x.W (x.U.drop (x.o + x.n + 1)) x.V x.n a b c v1 v2) (fun x => [.g (us x.U) x.o 1 (x.n + 1), .p (.sl 1 x.n (us x.V))]) (fun x => (.pv (u32v (val (4294967296 : Nat) x.W / val (4294967296 : Nat) x.V)), us (emb (x.U.take x.o) (fd (4294967296 : Nat) (x.n + 1) (val (4294967296 : Nat) x.W % val (4294967296 : Nat) x.V)) (x.U.drop (x.o + x.n + 1)))))
noncomputable def t10 : Cl := tabC [(98, cmpT), (106, smallT), (107, lzT), (108, shiftT), (95, trimT)] [(109, digitT)] [(108, 49)]
theorem dv0 (k n m : Nat) (cs ds : List PV) (c : Int) : runX MD t10 k 93 [.sl 1 n cs, .sl 1 m ds] [.r (one (iv c)), .c true] =
  some (RV.mk (PV.tup [PV.lit (Value.slice none 0 0), PV.sl 1 n cs]) none, [CallsTo t10 98 [PV.sl 1 n cs, PV.sl 1 m ds] (RV.mk (PV.lit (Value.int IntKind.i64 c)) none), decide (c < (0 : Int)) = true]) := by kernel_rfl
theorem dv1 (k n m d r : Nat) (cs ds : List PV) (c : Int) (p q : PV) : runX MD t10 k 93 [.sl 1 n cs, .sl 1 m ds] [.r (one (iv c)), .c false, .c true, .a 27 [u32v d], .r (one (.tup [q, u32v r])), .r (one p)] =
  some (RV.mk (PV.tup [q, p]) none, [CallsTo t10 98 [PV.sl 1 n cs, PV.sl 1 m ds] (RV.mk (PV.lit (Value.int IntKind.i64 c)) none), decide (c < (0 : Int)) = false, ((↑m : Int) == (1 : Int)) = true, RowAt ds 1 (0 : Int) m [PV.lit (Value.int IntKind.u32 (↑d : Int))], CallsTo t10 106 [PV.sl 1 n cs, PV.lit (Value.int IntKind.u32 (↑d : Int))] (RV.mk (PV.tup [q, PV.lit (Value.int IntKind.u32 (↑r : Int))]) none), CallsTo t10 95 [PV.sl 1 1 [PV.lit (Value.int IntKind.u32 (↑r : Int))]] (RV.mk p none)]) := by kernel_rfl
theorem dv2 (k m n tp s cnt : Nat) (cs ds vs0 vs u0 u1 u2 zs qs rs qs' : List PV) (c : Int) (p q : PV) : runX MD t10 k 93 [.sl 1 m cs, .sl 1 n ds] [.r (one (iv c)), .c false, .c false, .i 39 (n - 1 : Nat), .a 40 [u32v tp], .r (one (iv s)), .r ⟨.sl 1 (n + 1) vs0, some 1⟩, .r (one (.sl 1 n vs)), .r ⟨.sl 1 (m + 1) u0, some 1⟩, .i 55 cnt, .c false, .f zs, .i 60 cnt, .i 61 (cnt - 1 : Nat), .l (.exit 0) ⟨[(8, .pv (iv s)), (9, .pv (.sl 1 n vs)), (10, .bs 49 0 1 (m + 1)), (11, .pv (iv n)), (12, .bs 56 0 1 cnt), (13, .pv (iv (-1))), (63, .pv (bv false))], [(49, u1), (56, qs)], [], []⟩, .o 80 0 n, .l (.exit 2) ⟨[(8, .pv (iv s)), (10, .bs 49 0 1 (m + 1)), (12, .bs 56 0 1 cnt), (14, .bs 49 0 1 n), (82, .pv (iv n)), (83, .pv (iv n)), (84, .pv (bv false))], [(56, qs), (49, u2)], [], []⟩, .f qs', .f rs, .r (one p), .r (one q)] =
  some (RV.mk (PV.tup [p, q]) none, [CallsTo t10 98 [PV.sl 1 m cs, PV.sl 1 n ds] (RV.mk (PV.lit (Value.int IntKind.i64 c)) none), decide (c < (0 : Int)) = false, ((↑n : Int) == (1 : Int)) = false, IntKind.i64.wrap ((↑n : Int) - (1 : Int)) = (↑(n - (1 : Nat)) : Int), RowAt ds 1 (↑(n - (1 : Nat)) : Int) n [PV.lit (Value.int IntKind.u32 (↑tp : Int))], CallsTo t10 107 [PV.lit (Value.int IntKind.u32 (↑tp : Int))] (RV.mk (PV.lit (Value.int IntKind.i64 (↑s : Int))) none), CallsTo t10 108 [PV.sl 1 n ds, PV.lit (Value.int IntKind.i64 (↑s : Int))] (RV.mk (PV.sl 1 (n + (1 : Nat)) vs0) (some 1)), CallsTo t10 95 [PV.sl 1 (n + (1 : Nat)) vs0] (RV.mk (PV.sl 1 n vs) none), CallsTo t10 108 [PV.sl 1 m cs, PV.lit (Value.int IntKind.i64 (↑s : Int))] (RV.mk (PV.sl 1 (m + (1 : Nat)) u0) (some 1)), u0.all litP' = true, IntKind.i64.wrap ((↑(m + (1 : Nat)) : Int) - (↑n : Int)) = (↑cnt : Int), (0 : Int) ≤ (↑cnt : Int) ∧ (↑cnt : Int) ≤ (↑cnt : Int) ∧ (↑cnt : Int) * (↑(MD.P.bytesOf (111 : Nat)) : Int) ≤ (↑room : Int) ∧ (↑cnt : Int) ≤ (↑room : Int), decide ((↑cnt : Int) = (0 : Int)) = false, Zeros [PV.lit (Value.int IntKind.u32 (0 : Int))] cnt zs, IntKind.i64.wrap ((↑(m + (1 : Nat)) : Int) - (↑n : Int)) = (↑cnt : Int), IntKind.i64.wrap ((↑cnt : Int) - (1 : Int)) = (↑(cnt - (1 : Nat)) : Int), LoopIs MD t10 k (93 : Nat) (0 : Nat) (St.mk [(8, AV.pv (PV.lit (Value.int IntKind.i64 (↑s : Int)))), (9, AV.pv (PV.sl 1 n vs)), (10, AV.bs 49 0 1 (m + (1 : Nat))), (11, AV.pv (PV.lit (Value.int IntKind.i64 (↑n : Int)))), (12, AV.bs 56 0 1 cnt), (13, AV.pv (PV.lit (Value.int IntKind.i64 (↑(cnt - (1 : Nat)) : Int))))] [(49, u0), (56, zs)] [] []) (Xt.exit 0) (St.mk [(8, AV.pv (PV.lit (Value.int IntKind.i64 (↑s : Int)))), (9, AV.pv (PV.sl 1 n vs)), (10, AV.bs 49 0 1 (m + (1 : Nat))), (11, AV.pv (PV.lit (Value.int IntKind.i64 (↑n : Int)))), (12, AV.bs 56 0 1 cnt), (13, AV.pv (PV.lit (Value.int IntKind.i64 (-1 : Int)))), (63, AV.pv (PV.lit (Value.bool false)))] [(49, u1), (56, qs)] [] []), (0 : Int) ≤ (0 : Int) ∧ (0 : Int) ≤ (↑n : Int) ∧ (↑n : Int) ≤ (↑(m + (1 : Nat)) : Int), 0 = 0, n = n, LoopIs MD t10 k (93 : Nat) (1 : Nat) (St.mk [(8, AV.pv (PV.lit (Value.int IntKind.i64 (↑s : Int)))), (10, AV.bs 49 0 1 (m + (1 : Nat))), (12, AV.bs 56 0 1 cnt), (14, AV.bs 49 0 1 n), (82, AV.pv (PV.lit (Value.int IntKind.i64 (↑n : Int)))), (83, AV.pv (PV.lit (Value.int IntKind.i64 (0 : Int))))] [(56, qs), (49, u1)] [] []) (Xt.exit 2) (St.mk [(8, AV.pv (PV.lit (Value.int IntKind.i64 (↑s : Int)))), (10, AV.bs 49 0 1 (m + (1 : Nat))), (12, AV.bs 56 0 1 cnt), (14, AV.bs 49 0 1 n), (82, AV.pv (PV.lit (Value.int IntKind.i64 (↑n : Int)))), (83, AV.pv (PV.lit (Value.int IntKind.i64 (↑n : Int)))), (84, AV.pv (PV.lit (Value.bool false)))] [(56, qs), (49, u2)] [] []), SlEq qs 0 (cnt * (1 : Nat)) qs', SlEq u2 0 (n * (1 : Nat)) rs, CallsTo t10 95 [PV.sl 1 cnt qs'] (RV.mk p none), CallsTo t10 95 [PV.sl 1 n rs] (RV.mk q none)]) := by kernel_rfl
theorem dl0 (k m n s cnt : Nat) (vs u qs : List PV) (j : Int) : roundX MD t10 k 93 0 ⟨[(8, .pv (iv s)), (9, .pv (.sl 1 n vs)), (10, .bs 49 0 1 (m + 1)), (11, .pv (iv n)), (12, .bs 56 0 1 cnt), (13, .pv (iv j))], [(49, u), (56, qs)], [], []⟩ [.c false] =
  some ((Xt.exit 0, St.mk [(8, AV.pv (PV.lit (Value.int IntKind.i64 (↑s : Int)))), (9, AV.pv (PV.sl 1 n vs)), (10, AV.bs 49 0 1 (m + (1 : Nat))), (11, AV.pv (PV.lit (Value.int IntKind.i64 (↑n : Int)))), (12, AV.bs 56 0 1 cnt), (13, AV.pv (PV.lit (Value.int IntKind.i64 j))), (63, AV.pv (PV.lit (Value.bool false)))] [(49, u), (56, qs)] [] []), [], [decide (j ≥ (0 : Int)) = false]) := by kernel_rfl
theorem dl1 (k m n s cnt j q : Nat) (vs u u' qs qs' : List PV) (j' : Int) : roundX MD t10 k 93 0 ⟨[(8, .pv (iv s)), (9, .pv (.sl 1 n vs)), (10, .bs 49 0 1 (m + 1)), (11, .pv (iv n)), (12, .bs 56 0 1 cnt), (13, .pv (iv j))], [(49, u), (56, qs)], [], []⟩ [.c true, .i 72 (j + n : Nat), .i 73 (j + n + 1 : Nat), .o 74 j (n + 1), .m (.pv (u32v q)) u', .j 77 j, .s qs', .i 65 j'] =
  some ((Xt.normal, St.mk [(8, AV.pv (PV.lit (Value.int IntKind.i64 (↑s : Int)))), (9, AV.pv (PV.sl 1 n vs)), (10, AV.bs 49 0 1 (m + (1 : Nat))), (11, AV.pv (PV.lit (Value.int IntKind.i64 (↑n : Int)))), (12, AV.bs 56 0 1 cnt), (13, AV.pv (PV.lit (Value.int IntKind.i64 j')))] [(49, u'), (56, qs')] [] []), [], [decide ((↑j : Int) ≥ (0 : Int)) = true, IntKind.i64.wrap ((↑j : Int) + (↑n : Int)) = (↑(j + n) : Int), IntKind.i64.wrap ((↑(j + n) : Int) + (1 : Int)) = (↑(j + n + (1 : Nat)) : Int), (0 : Int) ≤ (↑j : Int) ∧ (↑j : Int) ≤ (↑(j + n + (1 : Nat)) : Int) ∧ (↑(j + n + (1 : Nat)) : Int) ≤ (↑(m + (1 : Nat)) : Int), (0 : Nat) + (↑j : Int).toNat * (1 : Nat) = j, (↑(j + n + (1 : Nat)) : Int).toNat - (↑j : Int).toNat = n + (1 : Nat), MutsTo t10 109 [MA.g u j 1 (n + (1 : Nat)), MA.p (PV.sl 1 n vs)] (MR.pv (PV.lit (Value.int IntKind.u32 (↑q : Int)))) u', AtIdx (↑j : Int) cnt j, (0 : Nat) + j * (1 : Nat) + (u32v q).cells.length ≤ qs.length, Spl qs ((0 : Nat) + j * (1 : Nat)) [PV.lit (Value.int IntKind.u32 (↑q : Int))] qs', IntKind.i64.wrap ((↑j : Int) - (1 : Int)) = j']) := by kernel_rfl
theorem dr0 (k m n s cnt i : Nat) (u qs : List PV) : roundX MD t10 k 93 1 ⟨[(8, .pv (iv s)), (10, .bs 49 0 1 (m + 1)), (12, .bs 56 0 1 cnt), (14, .bs 49 0 1 n), (82, .pv (iv n)), (83, .pv (iv i))], [(56, qs), (49, u)], [], []⟩ [.c false] =
  some ((Xt.exit 2, St.mk [(8, AV.pv (PV.lit (Value.int IntKind.i64 (↑s : Int)))), (10, AV.bs 49 0 1 (m + (1 : Nat))), (12, AV.bs 56 0 1 cnt), (14, AV.bs 49 0 1 n), (82, AV.pv (PV.lit (Value.int IntKind.i64 (↑n : Int)))), (83, AV.pv (PV.lit (Value.int IntKind.i64 (↑i : Int)))), (84, AV.pv (PV.lit (Value.bool false)))] [(56, qs), (49, u)] [] []), [], [decide ((↑i : Int) < (↑n : Int)) = false]) := by kernel_rfl
theorem dr1 (k m n s cnt i x1 x0 w y z : Nat) (u u' qs : List PV) : roundX MD t10 k 93 1 ⟨[(8, .pv (iv s)), (10, .bs 49 0 1 (m + 1)), (12, .bs 56 0 1 cnt), (14, .bs 49 0 1 n), (82, .pv (iv n)), (83, .pv (iv i))], [(56, qs), (49, u)], [], []⟩ [.c true, .i 90 (i + 1 : Nat), .j 91 (i + 1), .e 92 (u32v x1), .i 93 x1, .i 94 (2 ^ 32 * x1 : Nat), .j 97 i, .e 98 (u32v x0), .i 99 x0, .i 100 w, .i 102 y, .i 103 z, .j 104 i, .s u', .i 105 (i + 1 : Nat)] =
  some ((Xt.normal, St.mk [(8, AV.pv (PV.lit (Value.int IntKind.i64 (↑s : Int)))), (10, AV.bs 49 0 1 (m + (1 : Nat))), (12, AV.bs 56 0 1 cnt), (14, AV.bs 49 0 1 n), (82, AV.pv (PV.lit (Value.int IntKind.i64 (↑n : Int)))), (83, AV.pv (PV.lit (Value.int IntKind.i64 (↑(i + (1 : Nat)) : Int))))] [(56, qs), (49, u')] [] []), [], [decide ((↑i : Int) < (↑n : Int)) = true, IntKind.i64.wrap ((↑i : Int) + (1 : Int)) = (↑(i + (1 : Nat)) : Int), AtIdx (↑(i + (1 : Nat)) : Int) (m + (1 : Nat)) (i + (1 : Nat)), Ld MD.P 111 u ((0 : Nat) + (i + (1 : Nat)) * (1 : Nat)) (PV.lit (Value.int IntKind.u32 (↑x1 : Int))), IntKind.u64.wrap (↑x1 : Int) = (↑x1 : Int), IntKind.u64.wrap ((↑x1 : Int) * (2 : Int) ^ min (Int.toNat (32 : Int)) IntKind.u64.bits) = (↑((2 : Nat) ^ (32 : Nat) * x1) : Int), false = false, AtIdx (↑i : Int) (m + (1 : Nat)) i, Ld MD.P 111 u ((0 : Nat) + i * (1 : Nat)) (PV.lit (Value.int IntKind.u32 (↑x0 : Int))), IntKind.u64.wrap (↑x0 : Int) = (↑x0 : Int), IntKind.u64.wrap (↑(BitVec.ofInt IntKind.u64.bits (↑((2 : Nat) ^ (32 : Nat) * x1) : Int) ||| BitVec.ofInt IntKind.u64.bits (↑x0 : Int)).toNat : Int) = (↑w : Int), (↑w : Int).fdiv ((2 : Int) ^ min (↑s : Int).toNat IntKind.u64.bits) = (↑y : Int), decide ((↑s : Int) < (0 : Int)) = false, IntKind.u32.wrap (↑y : Int) = (↑z : Int), AtIdx (↑i : Int) n i, (0 : Nat) + i * (1 : Nat) + (PV.lit (Value.int IntKind.u32 (↑z : Int))).cells.length ≤ u.length, Spl u ((0 : Nat) + i * (1 : Nat)) [PV.lit (Value.int IntKind.u32 (↑z : Int))] u', IntKind.i64.wrap ((↑i : Int) + (1 : Int)) = (↑(i + (1 : Nat)) : Int)]) := by kernel_rfl
theorem us_list {l m : List Nat} (h : us l = us m) : l = m := us_inj h
theorem cmpT_at {l m : List Nat} (hl : Dig (4294967296 : Nat) l) (hm : Dig (4294967296 : Nat) m) (h1 : l.length < 2 ^ 40) (h2 : m.length < 2 ^ 40) : cmpT [nat l, nat m] = some (one (iv (cmpL l m))) :=
  spE_at (a := (l, m)) (enc := fun x : List Nat × List Nat => [nat x.1, nat x.2]) (fun a b e => by
    simp only [List.cons.injEq, and_true] at e
    rw [nat_inj e.1, nat_inj e.2]) ⟨⟨hl, hm⟩, h1, h2⟩
theorem smallT_at {l : List Nat} {d : Nat} (h0 : l ≠ []) (hl : Dig (4294967296 : Nat) l) (h1 : l.length < 2 ^ 40) (hd : 0 < d) (hd2 : d < (4294967296 : Nat)) : smallT [nat l, u32v d] = some (one (.tup [nat (dg (4294967296 : Nat) (val (4294967296 : Nat) l / d)), u32v (val (4294967296 : Nat) l % d)])) :=
  spE_at (a := (l, d)) (enc := fun x : List Nat × Nat => [nat x.1, u32v x.2]) (fun a b e => by
    simp only [List.cons.injEq, and_true] at e
    rw [nat_inj e.1, u32_inj e.2]) ⟨⟨h0, hl, h1⟩, hd, hd2⟩
theorem lzT_at {a : Nat} (h : a < (4294967296 : Nat)) : lzT [u32v a] = some (one (iv ((32 - (dg 2 a).length : Nat) : Nat))) :=
  spE_at (enc := fun a : Nat => [u32v a]) (fun a b e => by rw [u32_inj (List.cons.inj e).1]) h
theorem ivn_inj {a b : Nat} (h : iv (a : Int) = iv (b : Int)) : a = b := by
  simp only [iv, PV.lit.injEq, Value.int.injEq, true_and] at h; omega
theorem shiftT_at {l : List Nat} {s : Nat} (hl : Dig (4294967296 : Nat) l) (h1 : l.length < 2 ^ 40) (hs : s < 32) : shiftT [nat l, iv s] = some ⟨.sl 1 (l.length + 1) (us (fd (4294967296 : Nat) (l.length + 1) (val (4294967296 : Nat) l * 2 ^ s))), some 1⟩ :=
  spE_at (a := (l, s)) (enc := fun x : List Nat × Nat => [nat x.1, iv x.2]) (fun a b e => by
    simp only [List.cons.injEq, and_true] at e
    rw [nat_inj e.1, ivn_inj e.2]) ⟨hl, h1, hs⟩
theorem digitT_at (x : DW4) (hx : x.o + x.n + 1 ≤ x.U.length) {a b c v1 v2 : Nat} (h : DCtx (x.U.take x.o) x.W (x.U.drop (x.o + x.n + 1)) x.V x.n a b c v1 v2) : digitT [.g (us x.U) x.o 1 (x.n + 1), .p (.sl 1 x.n (us x.V))] = some (.pv (u32v (val (4294967296 : Nat) x.W / val (4294967296 : Nat) x.V)), us (emb (x.U.take x.o) (fd (4294967296 : Nat) (x.n + 1) (val (4294967296 : Nat) x.W % val (4294967296 : Nat) x.V)) (x.U.drop (x.o + x.n + 1)))) :=
  spM_at (a := x) (enc := fun x : DW4 => [.g (us x.U) x.o 1 (x.n + 1), .p (.sl 1 x.n (us x.V))]) (fun a b e => by
    simp only [List.cons.injEq, and_true, MA.g.injEq, MA.p.injEq, PV.sl.injEq, true_and] at e
    obtain ⟨⟨e1, e2, e3⟩, e4, e5⟩ := e
    have e1 := us_inj e1
    have e5 := us_inj e5
    have : a = b := by
      obtain ⟨a1, a2, a3, a4⟩ := a
      obtain ⟨b1, b2, b3, b4⟩ := b
      exact DW4.mk.injEq .. ▸ ⟨e1, e2, e4, e5⟩
    rw [this]) ⟨hx, a, b, c, v1, v2, h⟩
theorem emb_split {U : List Nat} {o n : Nat} (h : o + n + 1 ≤ U.length) : emb (U.take o) ((U.drop o).take (n + 1)) (U.drop (o + n + 1)) = U := by
  simp only [emb]
  rw [List.append_assoc]
  have : U.drop (o + n + 1) = (U.drop o).drop (n + 1) := by rw [List.drop_drop]; rfl
  rw [this, List.take_append_drop, List.take_append_drop]
theorem t10_ok : CallOk MD.P t10 := tabC_ok
  (fns_cons (spE_is fun x h => compare_is x.1 x.2 h.1.1 h.1.2 h.2.1 h.2.2)
  (fns_cons (spE_is fun x h => small_is x.1 h.1.1 h.1.2.1 h.1.2.2 x.2 h.2.1 h.2.2)
  (fns_cons (spE_is fun a h => lz_is a h)
  (fns_cons (spE_is fun x h => shift_is x.1 h.1 h.2.1 x.2 h.2.2)
  (fns_cons (spE_is fun l h => trim_is l h.1 h.2) fns_nil)))))
  (mus_cons (spM_is fun x h => by
    obtain ⟨hx, a, b, c, v1, v2, h⟩ := h
    have := digit_is h
    rw [show emb (x.U.take x.o) x.W (x.U.drop (x.o + x.n + 1)) = x.U from emb_split hx, show (x.U.take x.o).length = x.o by rw [List.length_take]; omega] at this
    exact this) mus_nil)
/-- The facts of a division by two digits or more. -/
structure DvC (a b m n s tp : Nat) : Prop where
  hm : (dg (4294967296 : Nat) a).length = m
  hn : (dg (4294967296 : Nat) b).length = n
  n2 : 2 ≤ n
  m40 : m < 2 ^ 39
  nm : n ≤ m
  s32 : s < 32
  hb : 0 < b
  alt : a < (4294967296 : Nat) ^ m
  lo : 2 ^ 31 * (4294967296 : Nat) ^ (n - 1) ≤ b * 2 ^ s
  hi : b * 2 ^ s < (4294967296 : Nat) ^ n
namespace DvC
variable {a b m n s tp : Nat}
theorem vpos (h : DvC a b m n s tp) : 0 < b * 2 ^ s := Nat.mul_pos h.hb (Nat.pow_pos (by omega))
theorem vlen (h : DvC a b m n s tp) : (dg (4294967296 : Nat) (b * 2 ^ s)).length = n := by
  have h1 := dg_len (b := (4294967296 : Nat)) (by decide) h.hi
  have h2 := dg_lt (b := (4294967296 : Nat)) (n := b * 2 ^ s) (by decide)
  have h3 := h.lo
  rcases Nat.lt_or_ge (dg (4294967296 : Nat) (b * 2 ^ s)).length n with h4 | h4
  · have h5 : (4294967296 : Nat) ^ (dg (4294967296 : Nat) (b * 2 ^ s)).length ≤ (4294967296 : Nat) ^ (n - 1) := Nat.pow_le_pow_right (by decide) (by omega)
    omega
  · omega
theorem vfd (h : DvC a b m n s tp) : dg (4294967296 : Nat) (b * 2 ^ s) = fd (4294967296 : Nat) n (b * 2 ^ s) :=
  fd_eq (by decide) (dig_dg (by decide) _) h.vlen (val_dg (by decide) _)
theorem alt2 (h : DvC a b m n s tp) : a * 2 ^ s < (4294967296 : Nat) ^ (m + 1 - n) * (b * 2 ^ s) := by
  have h1 : a < (4294967296 : Nat) ^ (m + 1 - n) * b := by
    have h2 := dg_ge (b := (4294967296 : Nat)) (by decide) h.hb
    rw [h.hn] at h2
    have h3 : (4294967296 : Nat) ^ m = (4294967296 : Nat) ^ (m + 1 - n) * (4294967296 : Nat) ^ (n - 1) := by rw [← Nat.pow_add]; congr 1; have := h.nm; have := h.n2; omega
    have h4 := Nat.mul_le_mul_left ((4294967296 : Nat) ^ (m + 1 - n)) h2
    have := h.alt; omega
  rw [← Nat.mul_assoc]
  exact Nat.mul_lt_mul_of_pos_right h1 (Nat.pow_pos (by omega))
theorem alt3 (h : DvC a b m n s tp) : a * 2 ^ s < (4294967296 : Nat) ^ (m + 1) := by
  have h1 : (4294967296 : Nat) ^ (m + 1 - n) * (b * 2 ^ s) < (4294967296 : Nat) ^ (m + 1 - n) * (4294967296 : Nat) ^ n := Nat.mul_lt_mul_of_pos_left h.hi (Nat.pow_pos (by decide))
  rw [← Nat.pow_add, show m + 1 - n + n = m + 1 by have := h.nm; omega] at h1
  have := h.alt2; omega
end DvC
def L0 (s n m cnt : Nat) (vs : List Nat) (j : Int) (U Q : List Nat) (e : List (Nat × AV)) : St := ⟨(8, .pv (iv s)) :: (9, .pv (.sl 1 n (us vs))) :: (10, .bs 49 0 1 (m + 1)) :: (11, .pv (iv n)) :: (12, .bs 56 0 1 cnt) :: (13, .pv (iv j)) :: e, [(49, us U), (56, us Q)], [], []⟩
theorem loopN_down {f : St → Option (Xt × St)} {S : Nat → St} {n : Nat} (h : ∀ j, j < n → f (S (j + 1)) = some (.normal, S j)) {r : Xt × St} (hr : f (S 0) = some r) (hx : r.1 ≠ .normal) : ∀ j, j ≤ n → loopN f (j + 1) (S j) = some r
  | 0, _ => by obtain ⟨x, s⟩ := r; exact loopN_exit hr hx
  | j + 1, hj => loopN_next (h j (by omega)) (loopN_down h hr hx j (by omega))
theorem div_round {a b m n s tp : Nat} (h : DvC a b m n s tp) (k : Nat) (j : Nat) (hj : j < m + 1 - n) : roundM MD t10 k 93 0 (L0 s n m (m + 1 - n) (dg (4294967296 : Nat) (b * 2 ^ s)) (j : Int) (lu (4294967296 : Nat) (m + 1) (a * 2 ^ s) (b * 2 ^ s) (j + 1)) (lq (4294967296 : Nat) (m + 1 - n) (a * 2 ^ s) (b * 2 ^ s) (j + 1)) []) = some (.normal, L0 s n m (m + 1 - n) (dg (4294967296 : Nat) (b * 2 ^ s)) ((j : Int) - 1) (lu (4294967296 : Nat) (m + 1) (a * 2 ^ s) (b * 2 ^ s) j) (lq (4294967296 : Nat) (m + 1 - n) (a * 2 ^ s) (b * 2 ^ s) j) []) := by
    have hnm := h.nm
    have hm40 := h.m40
    have hn2 := h.n2
    have hV := h.vpos
    have hVB : b * 2 ^ s ≤ (4294967296 : Nat) ^ n := Nat.le_of_lt h.hi
    obtain ⟨w1, w2, w3⟩ := window (B := (4294967296 : Nat)) (N := m + 1) (A := a * 2 ^ s) (V := b * 2 ^ s) (j := j) (n := n) (by decide) hV hVB (by omega)
    have hnext := lu_next (B := (4294967296 : Nat)) (N := m + 1) (A := a * 2 ^ s) (V := b * 2 ^ s) (j := j) (n := n) (by decide) hV hVB (by omega)
    have hqn := lq_next (B := (4294967296 : Nat)) (c := m + 1 - n) (A := a * 2 ^ s) (V := b * 2 ^ s) (j := j) (by decide) hV h.alt2 (by omega)
    have hwl := lw_lt (B := (4294967296 : Nat)) (A := a * 2 ^ s) (V := b * 2 ^ s) (j := j) (by decide) hV
    obtain ⟨U, hU⟩ : ∃ U, U = lu (4294967296 : Nat) (m + 1) (a * 2 ^ s) (b * 2 ^ s) (j + 1) := ⟨_, rfl⟩
    have lU : U.length = m + 1 := by rw [hU]; exact fd_len _ _ _
    have dU : Dig (4294967296 : Nat) U := by rw [hU]; exact fd_dig (by decide) _ _
    rw [← hU] at w1 w2 w3 hnext ⊢
    have lW : ((U.drop j).take (n + 1)).length = n + 1 := by rw [List.length_take, List.length_drop, lU]; omega
    obtain ⟨xa, ga⟩ := get_some (l := (U.drop j).take (n + 1)) (i := n) (by omega)
    obtain ⟨xb, gb⟩ := get_some (l := (U.drop j).take (n + 1)) (i := n - 1) (by omega)
    obtain ⟨xc, gc⟩ := get_some (l := (U.drop j).take (n + 1)) (i := n - 2) (by omega)
    have hvl := h.vlen
    have g1 : (dg (4294967296 : Nat) (b * 2 ^ s))[n - 1]? = some (b * 2 ^ s / (4294967296 : Nat) ^ (n - 1) % (4294967296 : Nat)) := by rw [h.vfd]; exact fd_get (by omega)
    obtain ⟨v2, g2⟩ := get_some (l := dg (4294967296 : Nat) (b * 2 ^ s)) (i := n - 2) (by omega)
    have htop : (4294967296 : Nat) ≤ 2 * (b * 2 ^ s / (4294967296 : Nat) ^ (n - 1) % (4294967296 : Nat)) := by
      have h1 : 2 ^ 31 ≤ b * 2 ^ s / (4294967296 : Nat) ^ (n - 1) := (Nat.le_div_iff_mul_le (Nat.pow_pos (by decide))).2 h.lo
      have h2 : b * 2 ^ s / (4294967296 : Nat) ^ (n - 1) < (4294967296 : Nat) := by
        rw [Nat.div_lt_iff_lt_mul (Nat.pow_pos (by decide))]
        have e : (4294967296 : Nat) * (4294967296 : Nat) ^ (n - 1) = (4294967296 : Nat) ^ n := by
          rw [Nat.mul_comm, ← Nat.pow_succ]; congr 1; omega
        rw [e]
        exact h.hi
      rw [Nat.mod_eq_of_lt h2]; omega
    have hctx : DCtx (U.take j) ((U.drop j).take (n + 1)) (U.drop (j + n + 1)) (dg (4294967296 : Nat) (b * 2 ^ s)) n xa xb xc (b * 2 ^ s / (4294967296 : Nat) ^ (n - 1) % (4294967296 : Nat)) v2 := { hV := hvl, hW := lW, dV := dig_dg (by decide) _, dW := dig_take (dig_drop dU _) _, ga := ga, gb := gb, gc := gc, g1 := g1, g2 := g2, hn := hn2, sz := by rw [emb_split (by omega), lU]; omega, top := htop, lt := by rw [w2, val_dg (by decide)]; exact hwl }
    have hcall := digitT_at ⟨U, j, n, dg (4294967296 : Nat) (b * 2 ^ s)⟩ (by simp only [lU]; omega) hctx
    simp only [DW4.W, w2, val_dg (b := (4294967296 : Nat)) (by decide)] at hcall
    simp only [emb, hnext] at hcall
    have lQ : (lq (4294967296 : Nat) (m + 1 - n) (a * 2 ^ s) (b * 2 ^ s) (j + 1)).length = m + 1 - n := fd_len _ _ _
    refine roundX_ok (dl1 k m n s (m + 1 - n) j (lw (4294967296 : Nat) (a * 2 ^ s) (b * 2 ^ s) j / (b * 2 ^ s)) _ (us U) (us (lu (4294967296 : Nat) (m + 1) (a * 2 ^ s) (b * 2 ^ s) j)) _ (us (lq (4294967296 : Nat) (m + 1 - n) (a * 2 ^ s) (b * 2 ^ s) j)) ((j : Int) - 1)) ⟨by simp, w64n (by omega) (by omega), w64n (by omega) (by omega), ⟨by omega, by omega, by omega⟩, by simp, by simp; omega, hcall, ⟨rfl, by omega⟩, ?_, spl_us hqn (by rw [lQ]; omega) (by omega), by rw [wrap64] <;> omega, trivial⟩
    rw [us_len, lQ]; simp [u32v, PV.cells]; omega
theorem div_exit {s n m cnt : Nat} (k : Nat) (vs U Q : List Nat) : roundM MD t10 k 93 0 (L0 s n m cnt vs (-1) U Q []) = some (.exit 0, L0 s n m cnt vs (-1) U Q [(63, .pv (bv false))]) :=
  roundX_ok (dl0 k m n s cnt (us vs) (us U) (us Q) (-1)) ⟨by decide, trivial⟩
theorem div_loop {a b m n s tp : Nat} (h : DvC a b m n s tp) (k : Nat) (j : Nat) (hj : j ≤ m + 1 - n) : loopN (roundM MD t10 k 93 0) (j + 1) (L0 s n m (m + 1 - n) (dg (4294967296 : Nat) (b * 2 ^ s)) ((j : Int) - 1) (lu (4294967296 : Nat) (m + 1) (a * 2 ^ s) (b * 2 ^ s) j) (lq (4294967296 : Nat) (m + 1 - n) (a * 2 ^ s) (b * 2 ^ s) j) []) = some (.exit 0, L0 s n m (m + 1 - n) (dg (4294967296 : Nat) (b * 2 ^ s)) (-1) (lu (4294967296 : Nat) (m + 1) (a * 2 ^ s) (b * 2 ^ s) 0) (lq (4294967296 : Nat) (m + 1 - n) (a * 2 ^ s) (b * 2 ^ s) 0) [(63, .pv (bv false))]) := by
  refine loopN_down (S := fun j => L0 s n m (m + 1 - n) (dg (4294967296 : Nat) (b * 2 ^ s)) ((j : Int) - 1) (lu (4294967296 : Nat) (m + 1) (a * 2 ^ s) (b * 2 ^ s) j) (lq (4294967296 : Nat) (m + 1 - n) (a * 2 ^ s) (b * 2 ^ s) j) []) (n := m + 1 - n) ?_ ?_ (by simp) j hj
  · intro j hj
    have hi : (((j + 1 : Nat) : Int) - 1) = (j : Int) := by omega
    rw [hi]
    exact div_round h k j hj
  · have hi : (((0 : Nat) : Int) - 1) = -1 := by omega
    rw [hi]
    exact div_exit k _ _ _
def L1 (s n m cnt i : Nat) (U : List Nat) (Q : List Nat) (e : List (Nat × AV)) : St := ⟨(8, .pv (iv s)) :: (10, .bs 49 0 1 (m + 1)) :: (12, .bs 56 0 1 cnt) :: (14, .bs 49 0 1 n) :: (82, .pv (iv n)) :: (83, .pv (iv i)) :: e, [(56, us Q), (49, us U)], [], []⟩
theorem shr_round {m n s cnt r : Nat} (k : Nat) (Q : List Nat) (hm : m < 2 ^ 39) (hnm : n ≤ m) (hs : s < 32) (i : Nat) (hi : i < n) : roundM MD t10 k 93 1 (L1 s n m cnt i (mix (4294967296 : Nat) (m + 1) r (r * 2 ^ s) i) Q []) = some (.normal, L1 s n m cnt (i + 1) (mix (4294967296 : Nat) (m + 1) r (r * 2 ^ s) (i + 1)) Q []) := by
  have hB : (0 : Nat) < (4294967296 : Nat) := by decide
  have g1 : (mix (4294967296 : Nat) (m + 1) r (r * 2 ^ s) i)[i + 1]? = some (r * 2 ^ s / (4294967296 : Nat) ^ (i + 1) % (4294967296 : Nat)) := mix_get (by omega) (by omega)
  have g0 : (mix (4294967296 : Nat) (m + 1) r (r * 2 ^ s) i)[i]? = some (r * 2 ^ s / (4294967296 : Nat) ^ i % (4294967296 : Nat)) := mix_get (by omega) (by omega)
  have hx1 : r * 2 ^ s / (4294967296 : Nat) ^ (i + 1) % (4294967296 : Nat) < (4294967296 : Nat) := Nat.mod_lt _ hB
  have hx0 : r * 2 ^ s / (4294967296 : Nat) ^ i % (4294967296 : Nat) < (4294967296 : Nat) := Nat.mod_lt _ hB
  have hp : 0 < 2 ^ s := Nat.pow_pos (by omega)
  have hdvd : 2 ^ s ∣ (4294967296 : Nat) := by
    refine ⟨2 ^ (32 - s), ?_⟩
    rw [← Nat.pow_add, show s + (32 - s) = 32 by omega]
  obtain ⟨X, hX⟩ : ∃ X, X = r * 2 ^ s / (4294967296 : Nat) ^ i := ⟨_, rfl⟩
  have hX1 : r * 2 ^ s / (4294967296 : Nat) ^ (i + 1) = X / (4294967296 : Nat) := by rw [Nat.pow_succ, ← Nat.div_div_eq_div_mul, ← hX]
  have hw : 2 ^ 32 * (X / (4294967296 : Nat) % (4294967296 : Nat)) + X % (4294967296 : Nat) = X % ((4294967296 : Nat) * (4294967296 : Nat)) := by rw [Nat.mod_mul]; omega
  have hz : X % ((4294967296 : Nat) * (4294967296 : Nat)) / 2 ^ s % (4294967296 : Nat) = r / (4294967296 : Nat) ^ i % (4294967296 : Nat) := by
    rw [shr_digit hp hdvd, hX, Nat.div_div_eq_div_mul, Nat.mul_comm ((4294967296 : Nat) ^ i), ← Nat.div_div_eq_div_mul, Nat.mul_div_cancel _ hp]
  have ll : (mix (4294967296 : Nat) (m + 1) r (r * 2 ^ s) i).length = m + 1 := mix_len (by omega)
  have hset := mix_next (B := (4294967296 : Nat)) (N := m + 1) (r := r) (R := r * 2 ^ s) (i := i) (by omega)
  rw [← hX] at g0 hx0
  rw [hX1] at g1 hx1
  have hwl : X % ((4294967296 : Nat) * (4294967296 : Nat)) < (4294967296 : Nat) * (4294967296 : Nat) := Nat.mod_lt _ (by decide)
  refine roundX_ok (dr1 k m n s cnt i (X / (4294967296 : Nat) % (4294967296 : Nat)) (X % (4294967296 : Nat)) (X % ((4294967296 : Nat) * (4294967296 : Nat))) (X % ((4294967296 : Nat) * (4294967296 : Nat)) / 2 ^ s) (r / (4294967296 : Nat) ^ i % (4294967296 : Nat)) (us (mix (4294967296 : Nat) (m + 1) r (r * 2 ^ s) i)) (us (mix (4294967296 : Nat) (m + 1) r (r * 2 ^ s) (i + 1))) (us Q)) ⟨by simpa using hi, w64n (by omega) (by omega), ⟨rfl, by omega⟩, ld_us g1 (by omega), w64u rfl (by omega), shl64 hx1, rfl, ⟨rfl, by omega⟩, ld_us g0 (by omega), w64u rfl (by omega), or_add64 (r := 32) (by omega) (by omega) _ (by omega), ?_, by simp, by rw [w32m, hz], ⟨rfl, by omega⟩, ?_, spl_us hset (by rw [ll]; omega) (by omega), w64n (by omega) (by omega), trivial⟩
  · have e : min ((s : Int)).toNat IntKind.u64.bits = s := by rw [Int.toNat_natCast]; show min s 64 = s; omega
    rw [e]
    have e2 : (2 : Int) ^ s = ((2 ^ s : Nat) : Int) := by simp
    rw [e2, fdivn]
  · rw [us_len, ll]; simp [PV.cells]; omega
theorem shr_exit {m n s cnt : Nat} (k : Nat) (U Q : List Nat) : roundM MD t10 k 93 1 (L1 s n m cnt n U Q []) = some (.exit 2, L1 s n m cnt n U Q [(84, .pv (bv false))]) :=
  roundX_ok (dr0 k m n s cnt n (us U) (us Q)) ⟨by simp, trivial⟩
theorem shr_loop {m n s cnt r : Nat} (k : Nat) (Q : List Nat) (hm : m < 2 ^ 39) (hnm : n ≤ m) (hs : s < 32) (hk : n < k) : loopN (roundM MD t10 k 93 1) k (L1 s n m cnt 0 (mix (4294967296 : Nat) (m + 1) r (r * 2 ^ s) 0) Q []) = some (.exit 2, L1 s n m cnt n (mix (4294967296 : Nat) (m + 1) r (r * 2 ^ s) n) Q [(84, .pv (bv false))]) := by
  refine loopN_chain (S := fun i => L1 s n m cnt i (mix (4294967296 : Nat) (m + 1) r (r * 2 ^ s) i) Q []) (n := n) ?_ ?_ (by simp) k hk
  · intro i hi
    exact shr_round k Q hm hnm hs i hi
  · exact shr_exit k _ _
theorem top_facts {b n : Nat} (hb : 0 < b) (hn : (dg (4294967296 : Nat) b).length = n) : ∃ tp, (dg (4294967296 : Nat) b)[n - 1]? = some tp ∧ 0 < tp ∧ tp < (4294967296 : Nat) ∧ tp * (4294967296 : Nat) ^ (n - 1) ≤ b ∧ b < (tp + 1) * (4294967296 : Nat) ^ (n - 1) := by
  have hB : (2 : Nat) ≤ (4294967296 : Nat) := by decide
  have h1 := dg_ge hB hb
  have h2 := dg_lt (b := (4294967296 : Nat)) (n := b) hB
  rw [hn] at h1 h2
  have hn0 : 0 < n := by rw [← hn, dg_pos hB hb]; simp
  have hP : 0 < (4294967296 : Nat) ^ (n - 1) := Nat.pow_pos (by decide)
  have hlt : b / (4294967296 : Nat) ^ (n - 1) < (4294967296 : Nat) := by
    rw [Nat.div_lt_iff_lt_mul hP]
    have e : (4294967296 : Nat) * (4294967296 : Nat) ^ (n - 1) = (4294967296 : Nat) ^ n := by rw [Nat.mul_comm, ← Nat.pow_succ]; congr 1; omega
    rw [e]; exact h2
  have hfd : dg (4294967296 : Nat) b = fd (4294967296 : Nat) n b := fd_eq (by decide) (dig_dg hB _) hn (val_dg hB _)
  refine ⟨b / (4294967296 : Nat) ^ (n - 1), ?_, (Nat.le_div_iff_mul_le hP).2 (by omega), hlt, Nat.div_mul_le_self _ _, ?_⟩
  · rw [hfd, fd_get (by omega), Nat.mod_eq_of_lt hlt]
  · have := Nat.div_add_mod b ((4294967296 : Nat) ^ (n - 1))
    have h3 := Nat.mod_lt b hP
    rw [Nat.add_mul, Nat.one_mul, Nat.mul_comm (b / (4294967296 : Nat) ^ (n - 1))]
    omega
theorem norm_facts {b n tp : Nat} (hn0 : 0 < n) (h0 : 0 < tp) (h1 : tp < (4294967296 : Nat)) (h2 : tp * (4294967296 : Nat) ^ (n - 1) ≤ b) (h3 : b < (tp + 1) * (4294967296 : Nat) ^ (n - 1)) : 2 ^ 31 * (4294967296 : Nat) ^ (n - 1) ≤ b * 2 ^ (32 - (dg 2 tp).length) ∧ b * 2 ^ (32 - (dg 2 tp).length) < (4294967296 : Nat) ^ n := by
  have hL := blen32 h1
  have hL0 : 0 < (dg 2 tp).length := by rw [dg_pos (by omega) h0]; simp
  have g1 := dg_ge (b := 2) (by omega) h0
  have g2 := dg_lt (b := 2) (n := tp) (by omega)
  obtain ⟨L, hLe⟩ : ∃ L, L = (dg 2 tp).length := ⟨_, rfl⟩
  rw [← hLe] at hL hL0 g1 g2 ⊢
  have hp : 0 < 2 ^ (32 - L) := Nat.pow_pos (by omega)
  constructor
  · have e1 : 2 ^ 31 ≤ tp * 2 ^ (32 - L) := by
      have : 2 ^ (L - 1) * 2 ^ (32 - L) ≤ tp * 2 ^ (32 - L) := Nat.mul_le_mul_right _ g1
      rw [← Nat.pow_add, show L - 1 + (32 - L) = 31 by omega] at this
      exact this
    calc 2 ^ 31 * (4294967296 : Nat) ^ (n - 1) ≤ tp * 2 ^ (32 - L) * (4294967296 : Nat) ^ (n - 1) := Nat.mul_le_mul_right _ e1
      _ = tp * (4294967296 : Nat) ^ (n - 1) * 2 ^ (32 - L) := by ac_rfl
      _ ≤ b * 2 ^ (32 - L) := Nat.mul_le_mul_right _ h2
  · have e1 : (tp + 1) * 2 ^ (32 - L) ≤ (4294967296 : Nat) := by
      have : (tp + 1) * 2 ^ (32 - L) ≤ 2 ^ L * 2 ^ (32 - L) := Nat.mul_le_mul_right _ g2
      rw [← Nat.pow_add, show L + (32 - L) = 32 by omega] at this
      exact this
    have e2 : (4294967296 : Nat) * (4294967296 : Nat) ^ (n - 1) = (4294967296 : Nat) ^ n := by rw [Nat.mul_comm, ← Nat.pow_succ]; congr 1; omega
    rw [← e2]
    calc b * 2 ^ (32 - L) < (tp + 1) * (4294967296 : Nat) ^ (n - 1) * 2 ^ (32 - L) := Nat.mul_lt_mul_of_pos_right h3 hp
      _ = (tp + 1) * 2 ^ (32 - L) * (4294967296 : Nat) ^ (n - 1) := by ac_rfl
      _ ≤ (4294967296 : Nat) * (4294967296 : Nat) ^ (n - 1) := Nat.mul_le_mul_right _ e1
theorem trimT_dg {l : List Nat} {v : Nat} (h : l.length < 2 ^ 40) (hd : Dig (4294967296 : Nat) l) (hv : val (4294967296 : Nat) l = v) : trimT [nat l] = some (one (nat (dg (4294967296 : Nat) v))) := by
  rw [← hv]; exact trimT_at h hd
theorem fd_val_lt {N v : Nat} (h : v < (4294967296 : Nat) ^ N) : val (4294967296 : Nat) (fd (4294967296 : Nat) N v) = v := by rw [fd_val (by decide), Nat.mod_eq_of_lt h]
/-- What divide answers as_ quotient. -/
def quoV (a b : Nat) : PV := if a < b then .lit (.slice none 0 0) else nat (dg (4294967296 : Nat) (a / b))
theorem divide_big {a b : Nat} (hb : 0 < b) (ha : (dg (4294967296 : Nat) a).length < 2 ^ 39) (hab : b ≤ a) (hn2 : 2 ≤ (dg (4294967296 : Nat) b).length) : CallIs P0 93 [nat (dg (4294967296 : Nat) a), nat (dg (4294967296 : Nat) b)] (one (.tup [nat (dg (4294967296 : Nat) (a / b)), nat (dg (4294967296 : Nat) (a % b))])) := by
  have hB : (2 : Nat) ≤ (4294967296 : Nat) := by decide
  obtain ⟨m, hm⟩ : ∃ m, m = (dg (4294967296 : Nat) a).length := ⟨_, rfl⟩
  obtain ⟨n, hn⟩ : ∃ n, n = (dg (4294967296 : Nat) b).length := ⟨_, rfl⟩
  obtain ⟨tp, gt, tp0, tpB, t1, t2⟩ := top_facts hb hn.symm
  rw [← hm] at ha
  rw [← hn] at hn2
  obtain ⟨s, hs⟩ : ∃ s, s = 32 - (dg 2 tp).length := ⟨_, rfl⟩
  have hL0 : 0 < (dg 2 tp).length := by rw [dg_pos (by omega) tp0]; simp
  obtain ⟨nf1, nf2⟩ := norm_facts (by omega) tp0 tpB t1 t2
  rw [← hs] at nf1 nf2
  have hnm : n ≤ m := by
    rcases Nat.lt_or_ge m n with h | h
    · have := dg_len_lt (a := a) (b := b) (by omega); omega
    · exact h
  have hC : DvC a b m n s tp := { hm := hm.symm, hn := hn.symm, n2 := hn2, m40 := ha, nm := hnm, s32 := by omega, hb := hb, alt := by rw [hm]; exact dg_lt hB, lo := nf1, hi := nf2 }
  have hV := hC.vpos
  have hp : 0 < 2 ^ s := Nat.pow_pos (by omega)
  have hroom : (2 : Int) ^ 43 ≤ (room : Int) := by decide
  have lA := dig_dg hB a
  have lBd := dig_dg hB b
  -- the ends of the loops
  have eR : a * 2 ^ s % (b * 2 ^ s) = a % b * 2 ^ s := Nat.mul_mod_mul_right _ _ _
  have eQ : a * 2 ^ s / (b * 2 ^ s) = a / b := Nat.mul_div_mul_right _ _ hp
  have lu0 : lu (4294967296 : Nat) (m + 1) (a * 2 ^ s) (b * 2 ^ s) 0 = fd (4294967296 : Nat) (m + 1) (a % b * 2 ^ s) := by
    simp only [lu, Nat.pow_zero, Nat.mod_one, Nat.div_one, Nat.one_mul, Nat.zero_add, eR]
  have lq0 : lq (4294967296 : Nat) (m + 1 - n) (a * 2 ^ s) (b * 2 ^ s) 0 = fd (4294967296 : Nat) (m + 1 - n) (a / b) := by
    simp only [lq, Nat.pow_zero, Nat.div_one, Nat.one_mul, eQ]
  have hT : a * 2 ^ s / (4294967296 : Nat) ^ (m + 1 - n) < b * 2 ^ s := (Nat.div_lt_iff_lt_mul (Nat.pow_pos (by decide))).2 (by rw [Nat.mul_comm (b * 2 ^ s)]; exact hC.alt2)
  have luE : lu (4294967296 : Nat) (m + 1) (a * 2 ^ s) (b * 2 ^ s) (m + 1 - n) = fd (4294967296 : Nat) (m + 1) (a * 2 ^ s) := by
    simp only [lu]
    rw [Nat.mod_eq_of_lt hT, Nat.mod_add_div]
  have lqE : lq (4294967296 : Nat) (m + 1 - n) (a * 2 ^ s) (b * 2 ^ s) (m + 1 - n) = List.replicate (m + 1 - n) 0 := by
    simp only [lq]
    rw [Nat.div_eq_of_lt hT, Nat.mul_zero, fd_zero (by decide)]
  have lp0 := div_loop hC (m + 5) (m + 1 - n) (Nat.le_refl _)
  rw [luE, lqE, lu0, lq0] at lp0
  have hcast : ((m + 1 - n - 1 : Nat) : Int) = ((m + 1 - n : Nat) : Int) - 1 := by omega
  have lp0 := loopN_le (show m + 1 - n + 1 ≤ m + 5 by omega) lp0
  have lp1 := shr_loop (r := a % b) (cnt := m + 1 - n) (m + 5) (fd (4294967296 : Nat) (m + 1 - n) (a / b)) ha hnm (by omega : s < 32) (by omega)
  have mix0 : mix (4294967296 : Nat) (m + 1) (a % b) (a % b * 2 ^ s) 0 = fd (4294967296 : Nat) (m + 1) (a % b * 2 ^ s) := by simp [mix]
  rw [mix0] at lp1
  have hrb : a % b < (4294967296 : Nat) ^ n := by
    have h1 := Nat.mod_lt a hb
    have h2 := dg_lt (b := (4294967296 : Nat)) (n := b) hB
    rw [← hn] at h2
    omega
  have hqb : a / b < (4294967296 : Nat) ^ (m + 1 - n) := by
    have h1 := lq_lt (B := (4294967296 : Nat)) (c := m + 1 - n) (j := 0) hB hV hC.alt2
    simp only [Nat.pow_zero, Nat.div_one, Nat.one_mul, eQ] at h1
    exact h1
  have vlt1 : b * 2 ^ s < (4294967296 : Nat) ^ (n + 1) := Nat.lt_of_lt_of_le hC.hi (Nat.pow_le_pow_right (by decide) (by omega))
  have nA : nat (dg (4294967296 : Nat) a) = .sl 1 m (us (dg (4294967296 : Nat) a)) := by rw [nat, ← hm]
  have nB : nat (dg (4294967296 : Nat) b) = .sl 1 n (us (dg (4294967296 : Nat) b)) := by rw [nat, ← hn]
  have c1 : cmpT [.sl 1 m (us (dg (4294967296 : Nat) a)), .sl 1 n (us (dg (4294967296 : Nat) b))] = some (one (iv (cmpL (dg (4294967296 : Nat) a) (dg (4294967296 : Nat) b)))) := by rw [← nA, ← nB]; exact cmpT_at lA lBd (by omega) (by omega)
  have c2 : shiftT [.sl 1 n (us (dg (4294967296 : Nat) b)), iv s] = some ⟨.sl 1 (n + 1) (us (fd (4294967296 : Nat) (n + 1) (b * 2 ^ s))), some 1⟩ := by
    have := shiftT_at (l := dg (4294967296 : Nat) b) (s := s) lBd (by omega) (by omega)
    rwa [val_dg hB, ← hn, nB] at this
  have c3 : shiftT [.sl 1 m (us (dg (4294967296 : Nat) a)), iv s] = some ⟨.sl 1 (m + 1) (us (fd (4294967296 : Nat) (m + 1) (a * 2 ^ s))), some 1⟩ := by
    have := shiftT_at (l := dg (4294967296 : Nat) a) (s := s) lA (by omega) (by omega)
    rwa [val_dg hB, ← hm, nA] at this
  have c4 : trimT [.sl 1 (n + 1) (us (fd (4294967296 : Nat) (n + 1) (b * 2 ^ s)))] = some (one (.sl 1 n (us (dg (4294967296 : Nat) (b * 2 ^ s))))) := by
    have := trimT_dg (l := fd (4294967296 : Nat) (n + 1) (b * 2 ^ s)) (by rw [fd_len]; omega) (fd_dig (by decide) _ _) (fd_val_lt vlt1)
    simp only [nat, fd_len, hC.vlen] at this
    exact this
  have c5 : trimT [.sl 1 (m + 1 - n) (us (fd (4294967296 : Nat) (m + 1 - n) (a / b)))] = some (one (nat (dg (4294967296 : Nat) (a / b)))) := by
    have := trimT_dg (l := fd (4294967296 : Nat) (m + 1 - n) (a / b)) (by rw [fd_len]; omega) (fd_dig (by decide) _ _) (fd_val_lt hqb)
    simp only [nat, fd_len] at this
    exact this
  have c6 : trimT [.sl 1 n (us (fd (4294967296 : Nat) n (a % b)))] = some (one (nat (dg (4294967296 : Nat) (a % b)))) := by
    have := trimT_dg (l := fd (4294967296 : Nat) n (a % b)) (by rw [fd_len]; omega) (fd_dig (by decide) _ _) (fd_val_lt hrb)
    simp only [nat, fd_len] at this
    exact this
  have litU : ∀ l : List Nat, (us l).all litP' = true := by
    intro l
    rw [List.all_eq_true]
    intro y hy
    simp only [us, List.mem_map] at hy
    obtain ⟨z, _, rfl⟩ := hy
    rfl
  have hcmp : decide (cmpL (dg (4294967296 : Nat) a) (dg (4294967296 : Nat) b) < 0) = false := by
    rw [decide_eq_false_iff_not, cmp_lt]; omega
  have hlz : lzT [u32v tp] = some (one (iv s)) := by rw [hs]; exact lzT_at tpB
  have hrow : RowAt (us (dg (4294967296 : Nat) b)) 1 ((n - 1 : Nat) : Int) n [u32v tp] := by
    have := rowAt_us gt rfl; rwa [← hn] at this
  have hmx : (mix (4294967296 : Nat) (m + 1) (a % b) (a % b * 2 ^ s) n).take n = fd (4294967296 : Nat) n (a % b) := by
    have l : ((fd (4294967296 : Nat) (m + 1) (a % b)).take n).length = n := by rw [List.length_take, fd_len]; omega
    rw [mix, List.take_left' l, fd_take (4294967296 : Nat) (by omega)]
  have go := runX_is machOkD t10_ok (by rfl) (dv2 (m + 5) m n tp s (m + 1 - n) (us (dg (4294967296 : Nat) a)) (us (dg (4294967296 : Nat) b)) (us (fd (4294967296 : Nat) (n + 1) (b * 2 ^ s))) (us (dg (4294967296 : Nat) (b * 2 ^ s))) (us (fd (4294967296 : Nat) (m + 1) (a * 2 ^ s))) (us (fd (4294967296 : Nat) (m + 1) (a % b * 2 ^ s))) (us (mix (4294967296 : Nat) (m + 1) (a % b) (a % b * 2 ^ s) n)) (us (List.replicate (m + 1 - n) 0)) (us (fd (4294967296 : Nat) (m + 1 - n) (a / b))) (us (fd (4294967296 : Nat) n (a % b))) (us (fd (4294967296 : Nat) (m + 1 - n) (a / b))) (cmpL (dg (4294967296 : Nat) a) (dg (4294967296 : Nat) b)) (nat (dg (4294967296 : Nat) (a / b))) (nat (dg (4294967296 : Nat) (a % b)))) ⟨c1, hcmp, by simp; omega, w64p (by omega) (by omega), hrow, hlz, c2, c4, c3, litU _, w64n (by omega) (by omega), ⟨by omega, by omega, by rw [bytes111]; omega, by omega⟩, by simp; omega, zeros_us, w64n (by omega) (by omega), w64p (by omega) (by omega), by rw [hcast]; exact lp0, ⟨by omega, by omega, by omega⟩, rfl, rfl, lp1, slEq_us _ 0 _ (by rw [List.drop_zero, List.take_of_length_le (by rw [fd_len]; omega)]), slEq_us _ 0 _ (by rw [List.drop_zero, Nat.mul_one, hmx]), c5, c6, trivial⟩
  rw [← nA, ← nB] at go
  exact go
theorem divide_small {a b : Nat} (hb : 0 < b) (ha : (dg (4294967296 : Nat) a).length < 2 ^ 39) (hab : b ≤ a) (hn : (dg (4294967296 : Nat) b).length = 1) : CallIs P0 93 [nat (dg (4294967296 : Nat) a), nat (dg (4294967296 : Nat) b)] (one (.tup [nat (dg (4294967296 : Nat) (a / b)), nat (dg (4294967296 : Nat) (a % b))])) := by
  have hB : (2 : Nat) ≤ (4294967296 : Nat) := by decide
  have hbB : b < (4294967296 : Nat) := by have := dg_lt (b := (4294967296 : Nat)) (n := b) hB; rw [hn] at this; simpa using this
  have hd : dg (4294967296 : Nat) b = [b] := by
    rw [dg_pos hB hb, Nat.mod_eq_of_lt hbB, Nat.div_eq_of_lt hbB]; rfl
  have hne : dg (4294967296 : Nat) a ≠ [] := by rw [dg_pos hB (by omega)]; simp
  have c1 : cmpT [nat (dg (4294967296 : Nat) a), nat (dg (4294967296 : Nat) b)] = some (one (iv (cmpL (dg (4294967296 : Nat) a) (dg (4294967296 : Nat) b)))) := cmpT_at (dig_dg hB _) (dig_dg hB _) (by omega) (by omega)
  have hcmp : decide (cmpL (dg (4294967296 : Nat) a) (dg (4294967296 : Nat) b) < 0) = false := by
    rw [decide_eq_false_iff_not, cmp_lt]; omega
  have c2 := smallT_at hne (dig_dg hB a) (by omega) hb hbB
  rw [val_dg hB] at c2
  have hr : a % b < b := Nat.mod_lt _ hb
  have c3 := trimT_dg (l := [a % b]) (v := a % b) (by simp) (by intro x hx; simp at hx; omega) (by simp [val])
  rw [hd] at c1 hcmp ⊢
  exact runX_is machOkD t10_ok (by rfl) (dv1 1 (dg (4294967296 : Nat) a).length 1 b (a % b) (us (dg (4294967296 : Nat) a)) (us [b]) (cmpL (dg (4294967296 : Nat) a) [b]) (nat (dg (4294967296 : Nat) (a % b))) (nat (dg (4294967296 : Nat) (a / b)))) ⟨c1, hcmp, by simp, rowAt_us (l := [b]) (i := 0) rfl rfl, c2, c3, trivial⟩
theorem divide_less {a b : Nat} (ha : (dg (4294967296 : Nat) a).length < 2 ^ 39) (hb : (dg (4294967296 : Nat) b).length < 2 ^ 39) (hab : a < b) : CallIs P0 93 [nat (dg (4294967296 : Nat) a), nat (dg (4294967296 : Nat) b)] (one (.tup [.lit (.slice none 0 0), nat (dg (4294967296 : Nat) a)])) := by
  have hB : (2 : Nat) ≤ (4294967296 : Nat) := by decide
  have c1 : cmpT [nat (dg (4294967296 : Nat) a), nat (dg (4294967296 : Nat) b)] = some (one (iv (cmpL (dg (4294967296 : Nat) a) (dg (4294967296 : Nat) b)))) := cmpT_at (dig_dg hB _) (dig_dg hB _) (by omega) (by omega)
  have hcmp : decide (cmpL (dg (4294967296 : Nat) a) (dg (4294967296 : Nat) b) < 0) = true := by
    rw [decide_eq_true_iff, cmp_lt]; exact hab
  exact runX_is machOkD t10_ok (by rfl) (dv0 1 (dg (4294967296 : Nat) a).length (dg (4294967296 : Nat) b).length (us (dg (4294967296 : Nat) a)) (us (dg (4294967296 : Nat) b)) (cmpL (dg (4294967296 : Nat) a) (dg (4294967296 : Nat) b))) ⟨c1, hcmp, trivial⟩
/-- divide answers quotient and remainder. -/
theorem divide_is {a b : Nat} (hb0 : 0 < b) (ha : (dg (4294967296 : Nat) a).length < 2 ^ 39) (hb : (dg (4294967296 : Nat) b).length < 2 ^ 39) : CallIs P0 93 [nat (dg (4294967296 : Nat) a), nat (dg (4294967296 : Nat) b)] (one (.tup [quoV a b, nat (dg (4294967296 : Nat) (a % b))])) := by
  unfold quoV
  by_cases h : a < b
  · rw [if_pos h, Nat.mod_eq_of_lt h]; exact divide_less ha hb h
  · rw [if_neg h]
    have h1 : 0 < (dg (4294967296 : Nat) b).length := by rw [dg_pos (by decide) hb0]; simp
    by_cases h2 : (dg (4294967296 : Nat) b).length = 1
    · exact divide_small hb0 ha (by omega) h2
    · exact divide_big hb0 ha (by omega) (by omega)
end Go.Proofs.YtibbgjafjhcemaaDoor.Cul
/-! B11 -/
set_option linter.unusedVariables false
set_option linter.unusedSimpArgs false
set_option maxRecDepth 100000
set_option maxHeartbeats 2000000
namespace Go.Proofs.YtibbgjafjhcemaaDoor.Cul
open Go Go.RowKit
def iz (g : Bool) (s : ByteArray) : PV := .ag [bv g, sv s]
/-- Is this integer valid? -/
def okInt (g : Bool) (s : ByteArray) : Bool := if s.size = 0 then !g else decide ((s[0]?).map (·.toNat) ≠ some 0)
noncomputable def validT : List PV → Option RV := spE (fun _ : Bool × ByteArray => True) (fun x => [iz x.1 x.2]) (fun x => one (bv (okInt x.1 x.2)))
noncomputable def ofT : List PV → Option RV := spE (fun s : ByteArray => s.size < 2 ^ 30) (fun s => [sv s]) (fun s => one (nat (dg (4294967296 : Nat) (sval s))))
noncomputable def divT : List PV → Option RV := spE (fun x : Nat × Nat => 0 < x.2 ∧ (dg (4294967296 : Nat) x.1).length < 2 ^ 39 ∧ (dg (4294967296 : Nat) x.2).length < 2 ^ 39) (fun x => [nat (dg (4294967296 : Nat) x.1), nat (dg (4294967296 : Nat) x.2)]) (fun x => one (.tup [quoV x.1 x.2, nat (dg (4294967296 : Nat) (x.1 % x.2))]))
noncomputable def singleT : List PV → Option RV := spE (fun l : List Nat => Dig (4294967296 : Nat) l ∧ l.length ≤ 2) (fun l => [nat l]) (fun l => one (u64v (val (4294967296 : Nat) l)))
noncomputable def wordT : List PV → Option RV := spE (fun n : Nat => n < 2 ^ 64) (fun n => [u64v n]) (fun n => one (nat (dg (4294967296 : Nat) n)))
noncomputable def withT : List PV → Option RV := spE (fun x : List Nat × Bool => x.1.length < 2 ^ 40 ∧ Dig (4294967296 : Nat) x.1) (fun x => [nat x.1, bv x.2]) (fun x => one (.ag (zc (if x.2 then -(val (4294967296 : Nat) x.1 : Int) else (val (4294967296 : Nat) x.1 : Int)))))
noncomputable def t11 : Cl := tabF [(63, validT), (92, ofT), (93, divT), (94, singleT), (82, wordT), (83, withT)]
theorem vl0 (k : Nat) (g : Bool) (s : ByteArray) : runX MD t3 k 63 [iz g s] [.c true] =
  some (RV.mk (PV.lit (Value.bool !g)) none, [(s.toList == (ByteArray.mk #[]).toList) = true]) := by kernel_rfl
theorem vl1 (k b : Nat) (g r : Bool) (s : ByteArray) : runX MD t3 k 63 [iz g s] [.c false, .i 11 b, .c r] =
  some (RV.mk (PV.lit (Value.bool r)) none, [(s.toList == (ByteArray.mk #[]).toList) = false, StrAt s (0 : Int) (↑b : Int), ((↑b : Int) != (0 : Int)) = r]) := by kernel_rfl
theorem gc0 (k : Nat) (g h : Bool) (s t : ByteArray) : runX MD t11 k 81 [iz g s, iz h t] [.r (one (bv false))] =
  some (RV.mk (PV.ag [PV.lit (Value.bool false), PV.lit (Value.string (ByteArray.mk #[]))]) none, [CallsTo t11 63 [PV.ag [PV.lit (Value.bool g), PV.lit (Value.string s)]] (RV.mk (PV.lit (Value.bool false)) none)]) := by kernel_rfl
theorem gc1 (k : Nat) (g h : Bool) (s t : ByteArray) : runX MD t11 k 81 [iz g s, iz h t] [.r (one (bv true)), .r (one (bv false))] =
  some (RV.mk (PV.ag [PV.lit (Value.bool false), PV.lit (Value.string (ByteArray.mk #[]))]) none, [CallsTo t11 63 [PV.ag [PV.lit (Value.bool g), PV.lit (Value.string s)]] (RV.mk (PV.lit (Value.bool true)) none), CallsTo t11 63 [PV.ag [PV.lit (Value.bool h), PV.lit (Value.string t)]] (RV.mk (PV.lit (Value.bool false)) none)]) := by kernel_rfl
theorem gc2 (k na nb nx ny n m : Nat) (g h : Bool) (s t : ByteArray) (as' bs' xs ys : List PV) (e : Bool) (u : ByteArray) (w : PV) : runX MD t11 k 81 [iz g s, iz h t] [.r (one (bv true)), .r (one (bv true)), .r (one (.sl 1 na as')), .r (one (.sl 1 nb bs')), .l (.exit 0) ⟨[(4, .bp 4 0), (5, .pv (.sl 1 nx xs)), (6, .pv (.sl 1 ny ys)), (38, .pv (bv false))], [(4, [bv false, sv ⟨#[]⟩])], [], []⟩, .c true, .r (one (iz e u))] =
  some (RV.mk (PV.ag [PV.lit (Value.bool e), PV.lit (Value.string u)]) none, [CallsTo t11 63 [PV.ag [PV.lit (Value.bool g), PV.lit (Value.string s)]] (RV.mk (PV.lit (Value.bool true)) none), CallsTo t11 63 [PV.ag [PV.lit (Value.bool h), PV.lit (Value.string t)]] (RV.mk (PV.lit (Value.bool true)) none), CallsTo t11 92 [PV.lit (Value.string s)] (RV.mk (PV.sl 1 na as') none), CallsTo t11 92 [PV.lit (Value.string t)] (RV.mk (PV.sl 1 nb bs') none), LoopIs MD t11 k (81 : Nat) (0 : Nat) (St.mk [(4, AV.bp 4 0), (5, AV.pv (PV.sl 1 na as')), (6, AV.pv (PV.sl 1 nb bs'))] [(4, [PV.lit (Value.bool false), PV.lit (Value.string (ByteArray.mk #[]))])] [] []) (Xt.exit 0) (St.mk [(4, AV.bp 4 0), (5, AV.pv (PV.sl 1 nx xs)), (6, AV.pv (PV.sl 1 ny ys)), (38, AV.pv (PV.lit (Value.bool false)))] [(4, [PV.lit (Value.bool false), PV.lit (Value.string (ByteArray.mk #[]))])] [] []), ((↑ny : Int) == (0 : Int)) = true, CallsTo t11 83 [PV.sl 1 nx xs, PV.lit (Value.bool false)] (RV.mk (PV.ag [PV.lit (Value.bool e), PV.lit (Value.string u)]) none)]) := by kernel_rfl
theorem gc3 (k na nb nx ny n m : Nat) (g h : Bool) (s t : ByteArray) (as' bs' xs ys : List PV) (e : Bool) (u : ByteArray) (w : PV) (n0 m0 : Nat) : runX MD t11 k 81 [iz g s, iz h t] [.r (one (bv true)), .r (one (bv true)), .r (one (.sl 1 na as')), .r (one (.sl 1 nb bs')), .l (.exit 0) ⟨[(4, .bp 4 0), (5, .pv (.sl 1 nx xs)), (6, .pv (.sl 1 ny ys)), (38, .pv (bv false))], [(4, [bv false, sv ⟨#[]⟩])], [], []⟩, .c false, .r (one (u64v n0)), .r (one (u64v m0)), .l (.exit 2) ⟨[(4, .bp 4 0), (9, .pv (u64v n)), (10, .pv (u64v m)), (57, .pv (bv false))], [(4, [bv false, sv ⟨#[]⟩])], [], []⟩, .r (one w), .r (one (iz e u))] =
  some (RV.mk (PV.ag [PV.lit (Value.bool e), PV.lit (Value.string u)]) none, [CallsTo t11 63 [PV.ag [PV.lit (Value.bool g), PV.lit (Value.string s)]] (RV.mk (PV.lit (Value.bool true)) none), CallsTo t11 63 [PV.ag [PV.lit (Value.bool h), PV.lit (Value.string t)]] (RV.mk (PV.lit (Value.bool true)) none), CallsTo t11 92 [PV.lit (Value.string s)] (RV.mk (PV.sl 1 na as') none), CallsTo t11 92 [PV.lit (Value.string t)] (RV.mk (PV.sl 1 nb bs') none), LoopIs MD t11 k (81 : Nat) (0 : Nat) (St.mk [(4, AV.bp 4 0), (5, AV.pv (PV.sl 1 na as')), (6, AV.pv (PV.sl 1 nb bs'))] [(4, [PV.lit (Value.bool false), PV.lit (Value.string (ByteArray.mk #[]))])] [] []) (Xt.exit 0) (St.mk [(4, AV.bp 4 0), (5, AV.pv (PV.sl 1 nx xs)), (6, AV.pv (PV.sl 1 ny ys)), (38, AV.pv (PV.lit (Value.bool false)))] [(4, [PV.lit (Value.bool false), PV.lit (Value.string (ByteArray.mk #[]))])] [] []), ((↑ny : Int) == (0 : Int)) = false, CallsTo t11 94 [PV.sl 1 nx xs] (RV.mk (PV.lit (Value.int IntKind.u64 (↑n0 : Int))) none), CallsTo t11 94 [PV.sl 1 ny ys] (RV.mk (PV.lit (Value.int IntKind.u64 (↑m0 : Int))) none), LoopIs MD t11 k (81 : Nat) (1 : Nat) (St.mk [(4, AV.bp 4 0), (9, AV.pv (PV.lit (Value.int IntKind.u64 (↑n0 : Int)))), (10, AV.pv (PV.lit (Value.int IntKind.u64 (↑m0 : Int))))] [(4, [PV.lit (Value.bool false), PV.lit (Value.string (ByteArray.mk #[]))])] [] []) (Xt.exit 2) (St.mk [(4, AV.bp 4 0), (9, AV.pv (PV.lit (Value.int IntKind.u64 (↑n : Int)))), (10, AV.pv (PV.lit (Value.int IntKind.u64 (↑m : Int)))), (57, AV.pv (PV.lit (Value.bool false)))] [(4, [PV.lit (Value.bool false), PV.lit (Value.string (ByteArray.mk #[]))])] [] []), CallsTo t11 82 [PV.lit (Value.int IntKind.u64 (↑n : Int))] (RV.mk w none), CallsTo t11 83 [w, PV.lit (Value.bool false)] (RV.mk (PV.ag [PV.lit (Value.bool e), PV.lit (Value.string u)]) none)]) := by kernel_rfl
theorem gl0 (k nx ny nr : Nat) (xs ys rs : List PV) (q : PV) : roundX MD t11 k 81 0 ⟨[(4, .bp 4 0), (5, .pv (.sl 1 nx xs)), (6, .pv (.sl 1 ny ys))], [(4, [bv false, sv ⟨#[]⟩])], [], []⟩ [.c true, .r (one (.tup [q, .sl 1 nr rs]))] =
  some ((Xt.normal, St.mk [(4, AV.bp 4 0), (5, AV.pv (PV.sl 1 ny ys)), (6, AV.pv (PV.sl 1 nr rs))] [(4, [PV.lit (Value.bool false), PV.lit (Value.string (ByteArray.mk #[]))])] [] []), [], [decide ((↑ny : Int) > (2 : Int)) = true, CallsTo t11 93 [PV.sl 1 nx xs, PV.sl 1 ny ys] (RV.mk (PV.tup [q, PV.sl 1 nr rs]) none)]) := by kernel_rfl
theorem gl1 (k nx ny nr : Nat) (xs ys rs : List PV) (q : PV) : roundX MD t11 k 81 0 ⟨[(4, .bp 4 0), (5, .pv (.sl 1 nx xs)), (6, .pv (.sl 1 ny ys))], [(4, [bv false, sv ⟨#[]⟩])], [], []⟩ [.c false, .c true, .c true, .r (one (.tup [q, .sl 1 nr rs]))] =
  some ((Xt.normal, St.mk [(4, AV.bp 4 0), (5, AV.pv (PV.sl 1 ny ys)), (6, AV.pv (PV.sl 1 nr rs))] [(4, [PV.lit (Value.bool false), PV.lit (Value.string (ByteArray.mk #[]))])] [] []), [], [decide ((↑ny : Int) > (2 : Int)) = false, decide ((↑nx : Int) > (2 : Int)) = true, decide ((↑ny : Int) > (0 : Int)) = true, CallsTo t11 93 [PV.sl 1 nx xs, PV.sl 1 ny ys] (RV.mk (PV.tup [q, PV.sl 1 nr rs]) none)]) := by kernel_rfl
theorem gl2 (k nx ny nr : Nat) (xs ys rs : List PV) (q : PV) : roundX MD t11 k 81 0 ⟨[(4, .bp 4 0), (5, .pv (.sl 1 nx xs)), (6, .pv (.sl 1 ny ys))], [(4, [bv false, sv ⟨#[]⟩])], [], []⟩ [.c false, .c false] =
  some ((Xt.exit 0, St.mk [(4, AV.bp 4 0), (5, AV.pv (PV.sl 1 nx xs)), (6, AV.pv (PV.sl 1 ny ys)), (38, AV.pv (PV.lit (Value.bool false)))] [(4, [PV.lit (Value.bool false), PV.lit (Value.string (ByteArray.mk #[]))])] [] []), [], [decide ((↑ny : Int) > (2 : Int)) = false, decide ((↑nx : Int) > (2 : Int)) = false]) := by kernel_rfl
theorem gl3 (k nx ny nr : Nat) (xs ys rs : List PV) (q : PV) : roundX MD t11 k 81 0 ⟨[(4, .bp 4 0), (5, .pv (.sl 1 nx xs)), (6, .pv (.sl 1 ny ys))], [(4, [bv false, sv ⟨#[]⟩])], [], []⟩ [.c false, .c true, .c false] =
  some ((Xt.exit 0, St.mk [(4, AV.bp 4 0), (5, AV.pv (PV.sl 1 nx xs)), (6, AV.pv (PV.sl 1 ny ys)), (38, AV.pv (PV.lit (Value.bool false)))] [(4, [PV.lit (Value.bool false), PV.lit (Value.string (ByteArray.mk #[]))])] [] []), [], [decide ((↑ny : Int) > (2 : Int)) = false, decide ((↑nx : Int) > (2 : Int)) = true, decide ((↑ny : Int) > (0 : Int)) = false]) := by kernel_rfl
theorem gm0 (k n m : Nat) : roundX MD t11 k 81 1 ⟨[(4, .bp 4 0), (9, .pv (u64v n)), (10, .pv (u64v m))], [(4, [bv false, sv ⟨#[]⟩])], [], []⟩ [.c false] =
  some ((Xt.exit 2, St.mk [(4, AV.bp 4 0), (9, AV.pv (PV.lit (Value.int IntKind.u64 (↑n : Int)))), (10, AV.pv (PV.lit (Value.int IntKind.u64 (↑m : Int)))), (57, AV.pv (PV.lit (Value.bool false)))] [(4, [PV.lit (Value.bool false), PV.lit (Value.string (ByteArray.mk #[]))])] [] []), [], [((↑m : Int) != (0 : Int)) = false]) := by kernel_rfl
theorem gm1 (k n m : Nat) : roundX MD t11 k 81 1 ⟨[(4, .bp 4 0), (9, .pv (u64v n)), (10, .pv (u64v m))], [(4, [bv false, sv ⟨#[]⟩])], [], []⟩ [.c true, .i 61 (n % m : Nat)] =
  some ((Xt.normal, St.mk [(4, AV.bp 4 0), (9, AV.pv (PV.lit (Value.int IntKind.u64 (↑m : Int)))), (10, AV.pv (PV.lit (Value.int IntKind.u64 (↑(n % m) : Int))))] [(4, [PV.lit (Value.bool false), PV.lit (Value.string (ByteArray.mk #[]))])] [] []), [], [((↑m : Int) != (0 : Int)) = true, (↑n : Int).tmod (↑m : Int) = (↑(n % m) : Int), decide ((↑m : Int) = (0 : Int)) = false]) := by kernel_rfl
theorem size_toList {s : ByteArray} : (s.toList == (ByteArray.mk #[]).toList) = decide (s.size = 0) := by
  rw [ByteArray.toList_eq, ByteArray.toList_eq]
  have hz : s.size = s.data.toList.length := rfl
  rw [hz]
  cases s.data.toList with
  | nil => rfl
  | cons c t => simp
theorem valid_is (g : Bool) (s : ByteArray) : CallIs P0 63 [iz g s] (one (bv (okInt g s))) := by
  by_cases h : s.size = 0
  · have := runX_is machOkD t3_ok (by rfl) (vl0 1 g s) ⟨by rw [size_toList]; simpa using h, trivial⟩
    simp only [okInt, h, if_true]
    exact this
  · obtain ⟨n, hn⟩ : ∃ n, s.size = n + 1 := ⟨s.size - 1, by omega⟩
    obtain ⟨b, hb, _⟩ := bytesL_tail hn
    have e : okInt g s = decide (b.toNat ≠ 0) := by
      simp only [okInt, h, if_false, hb, Option.map_some, ne_eq, Option.some.injEq]
    rw [e]
    refine runX_is machOkD t3_ok (by rfl) (vl1 1 b.toNat g (decide (b.toNat ≠ 0)) s) ⟨by rw [size_toList]; simpa using h, strAt_get hb, ?_, trivial⟩
    by_cases h0 : b.toNat = 0
    · simp [h0]
    · simp [h0]
theorem ok_zc (z : Int) : okInt (decide (z < 0)) (magS z.natAbs) = true := by
  unfold okInt
  have hl := bytesL_len (magS z.natAbs)
  rw [bytesL_magS] at hl
  by_cases h : (magS z.natAbs).size = 0
  · rw [if_pos h]
    have : dg 256 z.natAbs = [] := List.length_eq_zero_iff.1 (by omega)
    have hv := val_dg (b := 256) (by decide) z.natAbs
    rw [this] at hv
    simp only [val] at hv
    simp; omega
  · rw [if_neg h]
    obtain ⟨n, hn⟩ : ∃ n, (magS z.natAbs).size = n + 1 := ⟨(magS z.natAbs).size - 1, by omega⟩
    obtain ⟨b, hb, hbl⟩ := bytesL_tail hn
    have hld := lead_magS z.natAbs
    rcases hld with h1 | ⟨m, x, h1, h2⟩
    · rw [h1] at hbl; simp at hbl
    · rw [h1] at hbl
      have := (List.append_inj' hbl rfl).2
      simp only [List.cons.injEq, and_true] at this
      rw [hb]; simp; omega
theorem iz_inj {a b : Bool × ByteArray} (e : [iz a.1 a.2] = [iz b.1 b.2]) : a = b := by
  simp only [iz, bv, sv, List.cons.injEq, and_true, PV.ag.injEq, PV.lit.injEq, Value.bool.injEq, Value.string.injEq] at e
  exact Prod.ext e.1 e.2
theorem validT_at (g : Bool) (s : ByteArray) : validT [iz g s] = some (one (bv (okInt g s))) :=
  spE_at (a := (g, s)) (enc := fun x : Bool × ByteArray => [iz x.1 x.2]) (fun a b e => by rw [iz_inj e]) trivial
theorem sv_inj {s t : ByteArray} (e : sv s = sv t) : s = t := by simpa [sv] using e
theorem ofT_at {s : ByteArray} (h : s.size < 2 ^ 30) : ofT [sv s] = some (one (nat (dg (4294967296 : Nat) (sval s)))) :=
  spE_at (enc := fun s : ByteArray => [sv s]) (fun a b e => by rw [sv_inj (List.cons.inj e).1]) h
theorem dg_inj {a b : Nat} (h : dg (4294967296 : Nat) a = dg (4294967296 : Nat) b) : a = b := by
  have := congrArg (val (4294967296 : Nat)) h
  rwa [val_dg (by decide), val_dg (by decide)] at this
theorem divT_at {a b : Nat} (hb : 0 < b) (h1 : (dg (4294967296 : Nat) a).length < 2 ^ 39) (h2 : (dg (4294967296 : Nat) b).length < 2 ^ 39) : divT [nat (dg (4294967296 : Nat) a), nat (dg (4294967296 : Nat) b)] = some (one (.tup [quoV a b, nat (dg (4294967296 : Nat) (a % b))])) :=
  spE_at (a := (a, b)) (enc := fun x : Nat × Nat => [nat (dg (4294967296 : Nat) x.1), nat (dg (4294967296 : Nat) x.2)]) (fun a b e => by
    simp only [List.cons.injEq, and_true] at e
    rw [dg_inj (nat_inj e.1), dg_inj (nat_inj e.2)]) ⟨hb, h1, h2⟩
theorem singleT_at {l : List Nat} (h : Dig (4294967296 : Nat) l) (h2 : l.length ≤ 2) : singleT [nat l] = some (one (u64v (val (4294967296 : Nat) l))) :=
  spE_at (enc := fun l : List Nat => [nat l]) (fun a b e => by rw [nat_inj (List.cons.inj e).1]) ⟨h, h2⟩
theorem u64_inj {a b : Nat} (h : u64v a = u64v b) : a = b := by
  simp only [u64v, PV.lit.injEq, Value.int.injEq, true_and] at h; omega
theorem wordT_at {n : Nat} (h : n < 2 ^ 64) : wordT [u64v n] = some (one (nat (dg (4294967296 : Nat) n))) :=
  spE_at (enc := fun n : Nat => [u64v n]) (fun a b e => by rw [u64_inj (List.cons.inj e).1]) h
theorem withT_at {l : List Nat} (h : l.length < 2 ^ 40) (hd : Dig (4294967296 : Nat) l) (b : Bool) : withT [nat l, bv b] = some (one (.ag (zc (if b then -(val (4294967296 : Nat) l : Int) else (val (4294967296 : Nat) l : Int))))) :=
  spE_at (a := (l, b)) (enc := fun x : List Nat × Bool => [nat x.1, bv x.2]) (fun a b e => by
    simp only [List.cons.injEq, and_true] at e
    have h2 : a.2 = b.2 := by simpa [bv] using e.2
    rw [nat_inj e.1, h2]) ⟨h, hd⟩
theorem t11_ok : CallOk MD.P t11 := tabF_ok
  (fns_cons (spE_is fun x _ => valid_is x.1 x.2)
  (fns_cons (spE_is fun s h => of_is s h)
  (fns_cons (spE_is fun x h => divide_is h.1 h.2.1 h.2.2)
  (fns_cons (spE_is fun l h => single_is l h.1 h.2)
  (fns_cons (spE_is fun n h => word_is n h)
  (fns_cons (spE_is fun x h => with_is x.1 h.1 h.2 x.2) fns_nil))))))
def Sg (x y : Nat) (e : List (Nat × AV)) : St := ⟨(4, .bp 4 0) :: (5, .pv (nat (dg (4294967296 : Nat) x))) :: (6, .pv (nat (dg (4294967296 : Nat) y))) :: e, [(4, [bv false, sv ⟨#[]⟩])], [], []⟩
theorem gcd_swap (x y : Nat) : Nat.gcd y (x % y) = Nat.gcd x y := by
  rw [Nat.gcd_comm x y, Nat.gcd_rec y x, Nat.gcd_comm]
theorem dg_len_mono {a b : Nat} (h : a ≤ b) : (dg (4294967296 : Nat) a).length ≤ (dg (4294967296 : Nat) b).length := by
  rcases Nat.lt_or_ge (dg (4294967296 : Nat) b).length (dg (4294967296 : Nat) a).length with h1 | h1
  · have := dg_len_lt h1; omega
  · exact h1
theorem dg_len0 {a : Nat} (h : (dg (4294967296 : Nat) a).length = 0) : a = 0 := by
  have := dg_lt (b := (4294967296 : Nat)) (n := a) (by decide)
  rw [h] at this; simpa using this
theorem gcd_loop (k : Nat) : ∀ (y x : Nat), (dg (4294967296 : Nat) x).length < 2 ^ 39 → (dg (4294967296 : Nat) y).length < 2 ^ 39 → ∃ x' y', Nat.gcd x' y' = Nat.gcd x y ∧ (dg (4294967296 : Nat) x').length < 2 ^ 39 ∧ (y' = 0 ∨ (dg (4294967296 : Nat) x').length ≤ 2 ∧ (dg (4294967296 : Nat) y').length ≤ 2) ∧ loopN (roundM MD t11 k 81 0) (y + 1) (Sg x y []) = some (.exit 0, Sg x' y' [(38, .pv (bv false))]) := by
  intro y
  induction y using Nat.strongRecOn with
  | _ y ih =>
    intro x hx hy
    by_cases h1 : 2 < (dg (4294967296 : Nat) y).length
    · have hy0 : 0 < y := by
        rcases Nat.eq_zero_or_pos y with h | h
        · subst h; simp [dg_zero] at h1
        · exact h
      have hr : x % y < y := Nat.mod_lt _ hy0
      obtain ⟨x', y', g1, g2, g3, g4⟩ := ih (x % y) hr y hy (Nat.lt_of_le_of_lt (dg_len_mono (Nat.le_of_lt hr)) hy)
      refine ⟨x', y', by rw [g1, gcd_swap], g2, g3, ?_⟩
      have hc := divT_at hy0 hx hy
      exact loopN_next (roundX_ok (gl0 k _ _ _ _ _ _ (quoV x y)) ⟨by simp; omega, hc, trivial⟩) (loopN_le (by omega) g4)
    · by_cases h2 : 2 < (dg (4294967296 : Nat) x).length
      · by_cases h3 : 0 < (dg (4294967296 : Nat) y).length
        · have hy0 : 0 < y := by
            rcases Nat.eq_zero_or_pos y with h | h
            · subst h; simp [dg_zero] at h3
            · exact h
          have hr : x % y < y := Nat.mod_lt _ hy0
          obtain ⟨x', y', g1, g2, g3, g4⟩ := ih (x % y) hr y hy (Nat.lt_of_le_of_lt (dg_len_mono (Nat.le_of_lt hr)) hy)
          refine ⟨x', y', by rw [g1, gcd_swap], g2, g3, ?_⟩
          have hc := divT_at hy0 hx hy
          exact loopN_next (roundX_ok (gl1 k _ _ _ _ _ _ (quoV x y)) ⟨by simp; omega, by simp; omega, by simp; omega, hc, trivial⟩) (loopN_le (by omega) g4)
        · have hy0 : y = 0 := dg_len0 (by omega)
          exact ⟨x, y, rfl, hx, .inl hy0, loopN_exit (roundX_ok (gl3 k _ _ 0 _ _ [] (.tup [])) ⟨by simp; omega, by simp; omega, by rw [show (dg (4294967296 : Nat) y).length = 0 by omega]; rfl, trivial⟩) (by simp)⟩
      · exact ⟨x, y, rfl, hx, .inr ⟨by omega, by omega⟩, loopN_exit (roundX_ok (gl2 k _ _ 0 _ _ [] (.tup [])) ⟨by simp; omega, by simp; omega, trivial⟩) (by simp)⟩
def Sw (n m : Nat) (e : List (Nat × AV)) : St := ⟨(4, .bp 4 0) :: (9, .pv (u64v n)) :: (10, .pv (u64v m)) :: e, [(4, [bv false, sv ⟨#[]⟩])], [], []⟩
theorem gcdw_loop (k : Nat) : ∀ (m n : Nat), loopN (roundM MD t11 k 81 1) (m + 1) (Sw n m []) = some (.exit 2, Sw (Nat.gcd n m) 0 [(57, .pv (bv false))]) := by
  intro m
  induction m using Nat.strongRecOn with
  | _ m ih =>
    intro n
    by_cases h : m = 0
    · subst h
      rw [Nat.gcd_zero_right]
      exact loopN_exit (roundX_ok (gm0 k n 0) ⟨rfl, trivial⟩) (by simp)
    · have hr : n % m < m := Nat.mod_lt _ (by omega)
      have := ih (n % m) hr m
      rw [gcd_swap] at this
      exact loopN_next (roundX_ok (gm1 k n m) ⟨by simpa using h, tmodn _ _, by simpa using h, trivial⟩) (loopN_le (by omega) this)
theorem gcd_is (a b : Int) (ha : (magS a.natAbs).size < 2 ^ 30) (hb : (magS b.natAbs).size < 2 ^ 30) : CallIs P0 81 [.ag (zc a), .ag (zc b)] (one (.ag (zc (Nat.gcd a.natAbs b.natAbs : Nat)))) := by
  have lenB : ∀ z : Int, (magS z.natAbs).size < 2 ^ 30 → (dg (4294967296 : Nat) z.natAbs).length < 2 ^ 39 := by
    intro z hz
    have h1 := dg_lt (b := 256) (n := z.natAbs) (by decide)
    have h2 : (dg 256 z.natAbs).length = (magS z.natAbs).size := by rw [← bytesL_magS, bytesL_len]
    rw [h2] at h1
    have h3 : 256 ^ (magS z.natAbs).size ≤ (4294967296 : Nat) ^ (magS z.natAbs).size := Nat.pow_le_pow_left (by decide) _
    have := dg_len (b := (4294967296 : Nat)) (n := z.natAbs) (k := (magS z.natAbs).size) (by decide) (by omega)
    omega
  have v1 := validT_at (decide (a < 0)) (magS a.natAbs)
  have v2 := validT_at (decide (b < 0)) (magS b.natAbs)
  rw [ok_zc] at v1 v2
  have o1 := ofT_at ha
  have o2 := ofT_at hb
  rw [sval_magS] at o1 o2
  obtain ⟨k, hk⟩ : ∃ k, k = a.natAbs + b.natAbs + 2 ^ 64 + 5 := ⟨_, rfl⟩
  obtain ⟨x, y, g1, g2, g3, g4⟩ := gcd_loop k b.natAbs a.natAbs (lenB a ha) (lenB b hb)
  have g4 := loopN_le (show b.natAbs + 1 ≤ k by omega) g4
  by_cases hy : y = 0
  · subst hy
    rw [Nat.gcd_zero_right] at g1
    have hw := withT_at (l := dg (4294967296 : Nat) x) (by omega) (dig_dg (by decide) x) false
    rw [val_dg (by decide)] at hw
    simp only [Bool.false_eq_true, if_false] at hw
    rw [g1] at hw g4
    have := runX_is machOkD t11_ok (by rfl) (gc2 k _ _ _ 0 0 0 (decide (a < 0)) (decide (b < 0)) (magS a.natAbs) (magS b.natAbs) _ _ (us (dg (4294967296 : Nat) (Nat.gcd a.natAbs b.natAbs))) [] (decide (((Nat.gcd a.natAbs b.natAbs : Nat) : Int) < 0)) (magS ((Nat.gcd a.natAbs b.natAbs : Nat) : Int).natAbs) (.tup [])) ⟨v1, v2, o1, o2, g4, rfl, hw, trivial⟩
    exact this
  · rcases g3 with g3 | ⟨l1, l2⟩
    · exact absurd g3 hy
    · have hlt : ∀ z, (dg (4294967296 : Nat) z).length ≤ 2 → z < 2 ^ 64 := by
        intro z hz
        have h1 := dg_lt (b := (4294967296 : Nat)) (n := z) (by decide)
        have h2 : (4294967296 : Nat) ^ (dg (4294967296 : Nat) z).length ≤ (4294967296 : Nat) ^ 2 := Nat.pow_le_pow_right (by decide) hz
        omega
      have hxl := hlt x l1
      have hyl := hlt y l2
      have hgl : Nat.gcd x y < 2 ^ 64 := Nat.lt_of_le_of_lt (Nat.gcd_le_right x (by omega)) hyl
      have s1 := singleT_at (dig_dg (b := (4294967296 : Nat)) (by decide) x) l1
      have s2 := singleT_at (dig_dg (b := (4294967296 : Nat)) (by decide) y) l2
      rw [val_dg (by decide)] at s1 s2
      have g5 := loopN_le (show y + 1 ≤ k by omega) (gcdw_loop k y x)
      have w1 := wordT_at hgl
      have hg39 : (dg (4294967296 : Nat) (Nat.gcd x y)).length < 2 ^ 40 := Nat.lt_of_le_of_lt (dg_len_mono (Nat.gcd_le_right x (by omega))) (by omega)
      have hw := withT_at (l := dg (4294967296 : Nat) (Nat.gcd x y)) hg39 (dig_dg (by decide) _) false
      rw [val_dg (by decide)] at hw
      simp only [Bool.false_eq_true, if_false] at hw
      have hne : (((dg (4294967296 : Nat) y).length : Int) == 0) = false := by
        have : (dg (4294967296 : Nat) y).length ≠ 0 := fun h => hy (dg_len0 h)
        simp; intro h; rw [h] at this; simp at this
      rw [g1] at hw g5 w1
      have := runX_is machOkD t11_ok (by rfl) (gc3 k _ _ _ _ (Nat.gcd a.natAbs b.natAbs) 0 (decide (a < 0)) (decide (b < 0)) (magS a.natAbs) (magS b.natAbs) _ _ (us (dg (4294967296 : Nat) x)) (us (dg (4294967296 : Nat) y)) (decide (((Nat.gcd a.natAbs b.natAbs : Nat) : Int) < 0)) (magS ((Nat.gcd a.natAbs b.natAbs : Nat) : Int).natAbs) (nat (dg (4294967296 : Nat) (Nat.gcd a.natAbs b.natAbs))) x y) ⟨v1, v2, o1, o2, g4, hne, s1, s2, g5, w1, hw, trivial⟩
      exact this
end Go.Proofs.YtibbgjafjhcemaaDoor.Cul
/-! B12 -/
set_option linter.unusedVariables false
set_option linter.unusedSimpArgs false
set_option maxRecDepth 100000
set_option maxHeartbeats 2000000
namespace Go.Proofs.YtibbgjafjhcemaaDoor.Cul
open Go Go.RowKit
noncomputable def t12 : Cl := tabF [(63, validT), (82, wordT), (83, withT)]
theorem ng0 (k : Nat) (g : Bool) (s : ByteArray) : runX MD t12 k 54 [iz g s] [.r (one (bv false))] =
  some (RV.mk (PV.ag [PV.lit (Value.bool false), PV.lit (Value.string (ByteArray.mk #[]))]) none, [CallsTo t12 63 [PV.ag [PV.lit (Value.bool g), PV.lit (Value.string s)]] (RV.mk (PV.lit (Value.bool false)) none)]) := by kernel_rfl
theorem ng1 (k : Nat) (s : ByteArray) : runX MD t12 k 54 [iz true s] [.r (one (bv true))] =
  some (RV.mk (PV.ag [PV.lit (Value.bool false), PV.lit (Value.string s)]) none, [CallsTo t12 63 [PV.ag [PV.lit (Value.bool true), PV.lit (Value.string s)]] (RV.mk (PV.lit (Value.bool true)) none)]) := by kernel_rfl
theorem ng2 (k : Nat) (b : Bool) (s : ByteArray) : runX MD t12 k 54 [iz false s] [.r (one (bv true)), .c b] =
  some (RV.mk (PV.ag [PV.lit (Value.bool b), PV.lit (Value.string s)]) none, [CallsTo t12 63 [PV.ag [PV.lit (Value.bool false), PV.lit (Value.string s)]] (RV.mk (PV.lit (Value.bool true)) none), (!s.toList == (ByteArray.mk #[]).toList) = b]) := by kernel_rfl
theorem sn0 (k : Nat) (g : Bool) (s : ByteArray) : runX MD t12 k 64 [iz g s] [.r (one (bv false))] =
  some (RV.mk (PV.lit (Value.int IntKind.i64 (0 : Int))) none, [CallsTo t12 63 [PV.ag [PV.lit (Value.bool g), PV.lit (Value.string s)]] (RV.mk (PV.lit (Value.bool false)) none)]) := by kernel_rfl
theorem sn1 (k : Nat) (g : Bool) (s : ByteArray) : runX MD t12 k 64 [iz g s] [.r (one (bv true)), .c true] =
  some (RV.mk (PV.lit (Value.int IntKind.i64 (0 : Int))) none, [CallsTo t12 63 [PV.ag [PV.lit (Value.bool g), PV.lit (Value.string s)]] (RV.mk (PV.lit (Value.bool true)) none), (s.toList == (ByteArray.mk #[]).toList) = true]) := by kernel_rfl
theorem sn2 (k : Nat) (s : ByteArray) : runX MD t12 k 64 [iz true s] [.r (one (bv true)), .c false] =
  some (RV.mk (PV.lit (Value.int IntKind.i64 (-1 : Int))) none, [CallsTo t12 63 [PV.ag [PV.lit (Value.bool true), PV.lit (Value.string s)]] (RV.mk (PV.lit (Value.bool true)) none), (s.toList == (ByteArray.mk #[]).toList) = false]) := by kernel_rfl
theorem sn3 (k : Nat) (s : ByteArray) : runX MD t12 k 64 [iz false s] [.r (one (bv true)), .c false] =
  some (RV.mk (PV.lit (Value.int IntKind.i64 (1 : Int))) none, [CallsTo t12 63 [PV.ag [PV.lit (Value.bool false), PV.lit (Value.string s)]] (RV.mk (PV.lit (Value.bool true)) none), (s.toList == (ByteArray.mk #[]).toList) = false]) := by kernel_rfl
theorem fo0 (k nw : Nat) (n w v : Int) (ws : List PV) (e : Bool) (u : ByteArray) : runX MD t12 k 66 [iv n] [.c true, .i 6 w, .i 7 v, .r (one (.sl 1 nw ws)), .r (one (iz e u))] =
  some (RV.mk (PV.ag [PV.lit (Value.bool e), PV.lit (Value.string u)]) none, [decide (n < (0 : Int)) = true, IntKind.u64.wrap n = w, IntKind.u64.wrap ((0 : Int) - w) = v, CallsTo t12 82 [PV.lit (Value.int IntKind.u64 v)] (RV.mk (PV.sl 1 nw ws) none), CallsTo t12 83 [PV.sl 1 nw ws, PV.lit (Value.bool true)] (RV.mk (PV.ag [PV.lit (Value.bool e), PV.lit (Value.string u)]) none)]) := by kernel_rfl
theorem fo1 (k nw : Nat) (n w : Int) (ws : List PV) (e : Bool) (u : ByteArray) : runX MD t12 k 66 [iv n] [.c false, .i 11 w, .r (one (.sl 1 nw ws)), .r (one (iz e u))] =
  some (RV.mk (PV.ag [PV.lit (Value.bool e), PV.lit (Value.string u)]) none, [decide (n < (0 : Int)) = false, IntKind.u64.wrap n = w, CallsTo t12 82 [PV.lit (Value.int IntKind.u64 w)] (RV.mk (PV.sl 1 nw ws) none), CallsTo t12 83 [PV.sl 1 nw ws, PV.lit (Value.bool false)] (RV.mk (PV.ag [PV.lit (Value.bool e), PV.lit (Value.string u)]) none)]) := by kernel_rfl
theorem t12_ok : CallOk MD.P t12 := tabF_ok
  (fns_cons (spE_is fun x _ => valid_is x.1 x.2)
  (fns_cons (spE_is fun n h => word_is n h)
  (fns_cons (spE_is fun x h => with_is x.1 h.1 h.2 x.2) fns_nil)))
/-- The opposite, of any integer (0 of one that is not valid). -/
def negI (g : Bool) (s : ByteArray) : PV := if okInt g s then iz (!g && !decide (s.size = 0)) s else iz false ⟨#[]⟩
theorem neg_is (g : Bool) (s : ByteArray) : CallIs P0 54 [iz g s] (one (negI g s)) := by
  have v := validT_at g s
  unfold negI
  cases h : okInt g s with
  | false => rw [h] at v; exact runX_is machOkD t12_ok (by rfl) (ng0 1 g s) ⟨v, trivial⟩
  | true =>
    rw [h] at v
    cases g with
    | true => exact runX_is machOkD t12_ok (by rfl) (ng1 1 s) ⟨v, trivial⟩
    | false => exact runX_is machOkD t12_ok (by rfl) (ng2 1 (!decide (s.size = 0)) s) ⟨v, by rw [size_toList], trivial⟩
/-- The sign of any integer (0 of one that is not valid). -/
def sgnI (g : Bool) (s : ByteArray) : Int := if okInt g s then (if s.size = 0 then 0 else if g then -1 else 1) else 0
theorem sign_is (g : Bool) (s : ByteArray) : CallIs P0 64 [iz g s] (one (iv (sgnI g s))) := by
  have v := validT_at g s
  unfold sgnI
  cases h : okInt g s with
  | false => rw [h] at v; exact runX_is machOkD t12_ok (by rfl) (sn0 1 g s) ⟨v, trivial⟩
  | true =>
    rw [h] at v
    by_cases hz : s.size = 0
    · have := runX_is machOkD t12_ok (by rfl) (sn1 1 g s) ⟨v, by rw [size_toList]; simpa using hz, trivial⟩
      simp only [hz, if_true]; exact this
    · simp only [hz, if_true, if_false]
      cases g with
      | true => exact runX_is machOkD t12_ok (by rfl) (sn2 1 s) ⟨v, by rw [size_toList]; simpa using hz, trivial⟩
      | false => exact runX_is machOkD t12_ok (by rfl) (sn3 1 s) ⟨v, by rw [size_toList]; simpa using hz, trivial⟩
theorem wrap_u64 (a : Int) : IntKind.u64.wrap a = a % 18446744073709551616 := by
  unfold IntKind.wrap IntKind.bits IntKind.signed
  simp only
  have e1 : (2 : Int) ^ 64 = 18446744073709551616 := by decide
  rw [e1]; simp
theorem of64_is (n : Int) (h1 : -(2 ^ 63) ≤ n) (h2 : n < 2 ^ 63) : CallIs P0 66 [iv n] (one (.ag (zc n))) := by
  have hlen : ∀ m : Nat, m < 2 ^ 64 → (dg (4294967296 : Nat) m).length < 2 ^ 40 := by
    intro m hm
    have := dg_len (b := (4294967296 : Nat)) (n := m) (k := 2) (by decide) (by omega)
    omega
  by_cases hn : n < 0
  · obtain ⟨m, hm⟩ : ∃ m : Nat, n = -(m : Int) := ⟨n.natAbs, by omega⟩
    have w1 := wordT_at (n := m) (by omega)
    have w2 := withT_at (l := dg (4294967296 : Nat) m) (hlen m (by omega)) (dig_dg (by decide) m) true
    rw [val_dg (by decide)] at w2
    simp only [if_true] at w2
    rw [← hm] at w2
    exact runX_is machOkD t12_ok (by rfl) (fo0 1 _ n (n + 18446744073709551616) (m : Int) (us (dg (4294967296 : Nat) m)) (decide (n < 0)) (magS n.natAbs)) ⟨by simpa using hn, by rw [wrap_u64]; omega, by rw [wrap_u64]; omega, w1, w2, trivial⟩
  · obtain ⟨m, hm⟩ : ∃ m : Nat, n = (m : Int) := ⟨n.natAbs, by omega⟩
    have w1 := wordT_at (n := m) (by omega)
    have w2 := withT_at (l := dg (4294967296 : Nat) m) (hlen m (by omega)) (dig_dg (by decide) m) false
    rw [val_dg (by decide)] at w2
    simp only [Bool.false_eq_true, if_false] at w2
    rw [← hm] at w2
    exact runX_is machOkD t12_ok (by rfl) (fo1 1 _ n (m : Int) (us (dg (4294967296 : Nat) m)) (decide (n < 0)) (magS n.natAbs)) ⟨by simpa using hn, by rw [wrap_u64]; omega, w1, w2, trivial⟩
end Go.Proofs.YtibbgjafjhcemaaDoor.Cul
/-! B13 -/
set_option linter.unusedVariables false
set_option linter.unusedSimpArgs false
set_option maxRecDepth 100000
set_option maxHeartbeats 2000000
namespace Go.Proofs.YtibbgjafjhcemaaDoor.Cul
open Go Go.RowKit
noncomputable def gcdT : List PV → Option RV := spE (fun x : Int × Int => (magS x.1.natAbs).size < 2 ^ 30 ∧ (magS x.2.natAbs).size < 2 ^ 30) (fun x => [.ag (zc x.1), .ag (zc x.2)]) (fun x => one (.ag (zc (Nat.gcd x.1.natAbs x.2.natAbs : Nat))))
noncomputable def sgnT : List PV → Option RV := spE (fun _ : Bool × ByteArray => True) (fun x => [iz x.1 x.2]) (fun x => one (iv (sgnI x.1 x.2)))
noncomputable def oneT : List PV → Option RV := spE (fun n : Int => -(2 ^ 63) ≤ n ∧ n < 2 ^ 63) (fun n => [iv n]) (fun n => one (.ag (zc n)))
noncomputable def t13 : Cl := tabF [(81, gcdT)]
/-- Five integers. -/
structure Int5 where
  a : Int
  b : Int
  c : Int
  d : Int
  n : Int
def Int5.gcd (x : Int5) : Nat := Nat.gcd (Nat.gcd (Nat.gcd (Nat.gcd x.n.natAbs x.a.natAbs) x.b.natAbs) x.c.natAbs) x.d.natAbs
def Int5.small (x : Int5) : Prop := ((magS x.a.natAbs).size < 2 ^ 30 ∧ (magS x.b.natAbs).size < 2 ^ 30) ∧ ((magS x.c.natAbs).size < 2 ^ 30 ∧ (magS x.d.natAbs).size < 2 ^ 30) ∧ (magS x.n.natAbs).size < 2 ^ 30
noncomputable def comT : List PV → Option RV := spE Int5.small (fun x => [.ag (zc x.a ++ zc x.b ++ zc x.c ++ zc x.d), .ag (zc x.n)]) (fun x => one (.ag (zc (x.gcd : Nat))))
noncomputable def t14 : Cl := tabF [(63, validT), (64, sgnT), (65, comT), (66, oneT)]
def ic (g : Bool) (s : ByteArray) : List PV := [bv g, sv s]
theorem cm (k : Nat) (g0 g1 g2 g3 gd e0 e1 e2 e3 : Bool) (s0 s1 s2 s3 sd u0 u1 u2 u3 : ByteArray) : runX MD t13 k 65 [.ag [bv g0, sv s0, bv g1, sv s1, bv g2, sv s2, bv g3, sv s3], iz gd sd] [.u 5, .c true, .r (one (iz e0 u0)), .c true, .r (one (iz e1 u1)), .c true, .r (one (iz e2 u2)), .c true, .r (one (iz e3 u3)), .c false] =
  some (RV.mk (PV.ag [PV.lit (Value.bool e3), PV.lit (Value.string u3)]) none, [(5 : Nat) ≤ k, true = true, CallsTo t13 81 [PV.ag [PV.lit (Value.bool gd), PV.lit (Value.string sd)], PV.ag [PV.lit (Value.bool g0), PV.lit (Value.string s0)]] (RV.mk (PV.ag [PV.lit (Value.bool e0), PV.lit (Value.string u0)]) none), true = true, CallsTo t13 81 [PV.ag [PV.lit (Value.bool e0), PV.lit (Value.string u0)], PV.ag [PV.lit (Value.bool g1), PV.lit (Value.string s1)]] (RV.mk (PV.ag [PV.lit (Value.bool e1), PV.lit (Value.string u1)]) none), true = true, CallsTo t13 81 [PV.ag [PV.lit (Value.bool e1), PV.lit (Value.string u1)], PV.ag [PV.lit (Value.bool g2), PV.lit (Value.string s2)]] (RV.mk (PV.ag [PV.lit (Value.bool e2), PV.lit (Value.string u2)]) none), true = true, CallsTo t13 81 [PV.ag [PV.lit (Value.bool e2), PV.lit (Value.string u2)], PV.ag [PV.lit (Value.bool g3), PV.lit (Value.string s3)]] (RV.mk (PV.ag [PV.lit (Value.bool e3), PV.lit (Value.string u3)]) none), false = false]) := by kernel_rfl
theorem fv0 (k : Nat) (g0 g1 g2 g3 gd : Bool) (s0 s1 s2 s3 sd : ByteArray) : runX MD t14 k 43 [.ag [bv g0, sv s0, bv g1, sv s1, bv g2, sv s2, bv g3, sv s3, bv gd, sv sd]] [.u 5, .c true, .r (one (bv false))] =
  some (RV.mk (PV.lit (Value.bool false)) none, [(5 : Nat) ≤ k, true = true, CallsTo t14 63 [PV.ag [PV.lit (Value.bool g0), PV.lit (Value.string s0)]] (RV.mk (PV.lit (Value.bool false)) none)]) := by kernel_rfl
theorem fv1 (k : Nat) (g0 g1 g2 g3 gd : Bool) (s0 s1 s2 s3 sd : ByteArray) : runX MD t14 k 43 [.ag [bv g0, sv s0, bv g1, sv s1, bv g2, sv s2, bv g3, sv s3, bv gd, sv sd]] [.u 5, .c true, .r (one (bv true)), .c true, .r (one (bv false))] =
  some (RV.mk (PV.lit (Value.bool false)) none, [(5 : Nat) ≤ k, true = true, CallsTo t14 63 [PV.ag [PV.lit (Value.bool g0), PV.lit (Value.string s0)]] (RV.mk (PV.lit (Value.bool true)) none), true = true, CallsTo t14 63 [PV.ag [PV.lit (Value.bool g1), PV.lit (Value.string s1)]] (RV.mk (PV.lit (Value.bool false)) none)]) := by kernel_rfl
theorem fv2 (k : Nat) (g0 g1 g2 g3 gd : Bool) (s0 s1 s2 s3 sd : ByteArray) : runX MD t14 k 43 [.ag [bv g0, sv s0, bv g1, sv s1, bv g2, sv s2, bv g3, sv s3, bv gd, sv sd]] [.u 5, .c true, .r (one (bv true)), .c true, .r (one (bv true)), .c true, .r (one (bv false))] =
  some (RV.mk (PV.lit (Value.bool false)) none, [(5 : Nat) ≤ k, true = true, CallsTo t14 63 [PV.ag [PV.lit (Value.bool g0), PV.lit (Value.string s0)]] (RV.mk (PV.lit (Value.bool true)) none), true = true, CallsTo t14 63 [PV.ag [PV.lit (Value.bool g1), PV.lit (Value.string s1)]] (RV.mk (PV.lit (Value.bool true)) none), true = true, CallsTo t14 63 [PV.ag [PV.lit (Value.bool g2), PV.lit (Value.string s2)]] (RV.mk (PV.lit (Value.bool false)) none)]) := by kernel_rfl
theorem fv3 (k : Nat) (g0 g1 g2 g3 gd : Bool) (s0 s1 s2 s3 sd : ByteArray) : runX MD t14 k 43 [.ag [bv g0, sv s0, bv g1, sv s1, bv g2, sv s2, bv g3, sv s3, bv gd, sv sd]] [.u 5, .c true, .r (one (bv true)), .c true, .r (one (bv true)), .c true, .r (one (bv true)), .c true, .r (one (bv false))] =
  some (RV.mk (PV.lit (Value.bool false)) none, [(5 : Nat) ≤ k, true = true, CallsTo t14 63 [PV.ag [PV.lit (Value.bool g0), PV.lit (Value.string s0)]] (RV.mk (PV.lit (Value.bool true)) none), true = true, CallsTo t14 63 [PV.ag [PV.lit (Value.bool g1), PV.lit (Value.string s1)]] (RV.mk (PV.lit (Value.bool true)) none), true = true, CallsTo t14 63 [PV.ag [PV.lit (Value.bool g2), PV.lit (Value.string s2)]] (RV.mk (PV.lit (Value.bool true)) none), true = true, CallsTo t14 63 [PV.ag [PV.lit (Value.bool g3), PV.lit (Value.string s3)]] (RV.mk (PV.lit (Value.bool false)) none)]) := by kernel_rfl
theorem fv4 (k : Nat) (g0 g1 g2 g3 gd : Bool) (s0 s1 s2 s3 sd : ByteArray) : runX MD t14 k 43 [.ag [bv g0, sv s0, bv g1, sv s1, bv g2, sv s2, bv g3, sv s3, bv gd, sv sd]] [.u 5, .c true, .r (one (bv true)), .c true, .r (one (bv true)), .c true, .r (one (bv true)), .c true, .r (one (bv true)), .c false, .r (one (bv false))] =
  some (RV.mk (PV.lit (Value.bool false)) none, [(5 : Nat) ≤ k, true = true, CallsTo t14 63 [PV.ag [PV.lit (Value.bool g0), PV.lit (Value.string s0)]] (RV.mk (PV.lit (Value.bool true)) none), true = true, CallsTo t14 63 [PV.ag [PV.lit (Value.bool g1), PV.lit (Value.string s1)]] (RV.mk (PV.lit (Value.bool true)) none), true = true, CallsTo t14 63 [PV.ag [PV.lit (Value.bool g2), PV.lit (Value.string s2)]] (RV.mk (PV.lit (Value.bool true)) none), true = true, CallsTo t14 63 [PV.ag [PV.lit (Value.bool g3), PV.lit (Value.string s3)]] (RV.mk (PV.lit (Value.bool true)) none), false = false, CallsTo t14 63 [PV.ag [PV.lit (Value.bool gd), PV.lit (Value.string sd)]] (RV.mk (PV.lit (Value.bool false)) none)]) := by kernel_rfl
theorem fv5 (k : Nat) (g0 g1 g2 g3 gd : Bool) (s0 s1 s2 s3 sd : ByteArray) (n : Int) : runX MD t14 k 43 [.ag [bv g0, sv s0, bv g1, sv s1, bv g2, sv s2, bv g3, sv s3, bv gd, sv sd]] [.u 5, .c true, .r (one (bv true)), .c true, .r (one (bv true)), .c true, .r (one (bv true)), .c true, .r (one (bv true)), .c false, .r (one (bv true)), .r (one (iv n)), .c false] =
  some (RV.mk (PV.lit (Value.bool false)) none, [(5 : Nat) ≤ k, true = true, CallsTo t14 63 [PV.ag [PV.lit (Value.bool g0), PV.lit (Value.string s0)]] (RV.mk (PV.lit (Value.bool true)) none), true = true, CallsTo t14 63 [PV.ag [PV.lit (Value.bool g1), PV.lit (Value.string s1)]] (RV.mk (PV.lit (Value.bool true)) none), true = true, CallsTo t14 63 [PV.ag [PV.lit (Value.bool g2), PV.lit (Value.string s2)]] (RV.mk (PV.lit (Value.bool true)) none), true = true, CallsTo t14 63 [PV.ag [PV.lit (Value.bool g3), PV.lit (Value.string s3)]] (RV.mk (PV.lit (Value.bool true)) none), false = false, CallsTo t14 63 [PV.ag [PV.lit (Value.bool gd), PV.lit (Value.string sd)]] (RV.mk (PV.lit (Value.bool true)) none), CallsTo t14 64 [PV.ag [PV.lit (Value.bool gd), PV.lit (Value.string sd)]] (RV.mk (PV.lit (Value.int IntKind.i64 n)) none), decide (n > (0 : Int)) = false]) := by kernel_rfl
theorem fv6 (k : Nat) (g0 g1 g2 g3 gd b : Bool) (s0 s1 s2 s3 sd u v : ByteArray) (n : Int) : runX MD t14 k 43 [.ag [bv g0, sv s0, bv g1, sv s1, bv g2, sv s2, bv g3, sv s3, bv gd, sv sd]] [.u 5, .c true, .r (one (bv true)), .c true, .r (one (bv true)), .c true, .r (one (bv true)), .c true, .r (one (bv true)), .c false, .r (one (bv true)), .r (one (iv n)), .c true, .r (one (iz false u)), .r (one (iz false v)), .g b] =
  some (RV.mk (PV.lit (Value.bool b)) none, [(5 : Nat) ≤ k, true = true, CallsTo t14 63 [PV.ag [PV.lit (Value.bool g0), PV.lit (Value.string s0)]] (RV.mk (PV.lit (Value.bool true)) none), true = true, CallsTo t14 63 [PV.ag [PV.lit (Value.bool g1), PV.lit (Value.string s1)]] (RV.mk (PV.lit (Value.bool true)) none), true = true, CallsTo t14 63 [PV.ag [PV.lit (Value.bool g2), PV.lit (Value.string s2)]] (RV.mk (PV.lit (Value.bool true)) none), true = true, CallsTo t14 63 [PV.ag [PV.lit (Value.bool g3), PV.lit (Value.string s3)]] (RV.mk (PV.lit (Value.bool true)) none), false = false, CallsTo t14 63 [PV.ag [PV.lit (Value.bool gd), PV.lit (Value.string sd)]] (RV.mk (PV.lit (Value.bool true)) none), CallsTo t14 64 [PV.ag [PV.lit (Value.bool gd), PV.lit (Value.string sd)]] (RV.mk (PV.lit (Value.int IntKind.i64 n)) none), decide (n > (0 : Int)) = true, CallsTo t14 65 [PV.ag [PV.lit (Value.bool g0), PV.lit (Value.string s0), PV.lit (Value.bool g1), PV.lit (Value.string s1), PV.lit (Value.bool g2), PV.lit (Value.string s2), PV.lit (Value.bool g3), PV.lit (Value.string s3)], PV.ag [PV.lit (Value.bool gd), PV.lit (Value.string sd)]] (RV.mk (PV.ag [PV.lit (Value.bool false), PV.lit (Value.string u)]) none), CallsTo t14 66 [PV.lit (Value.int IntKind.i64 (1 : Int))] (RV.mk (PV.ag [PV.lit (Value.bool false), PV.lit (Value.string v)]) none), EqIs MD.P BinOp.eql 27 (Operand.tmp (28 : Nat)) (Operand.tmp (29 : Nat)) (Value.agg (Array.mk [Value.bool false, Value.string u])) (Value.agg (Array.mk [Value.bool false, Value.string v])) b]) := by kernel_rfl
theorem zc_inj {a b : Int} (e : zc a = zc b) : a = b := by
  simp only [zc, bv, sv, List.cons.injEq, and_true, PV.lit.injEq, Value.bool.injEq, Value.string.injEq] at e
  have h1 : a.natAbs = b.natAbs := by have := congrArg sval e.2; rwa [sval_magS, sval_magS] at this
  have h2 : (a < 0) ↔ (b < 0) := by simpa using e.1
  omega
theorem gcdT_at {a b : Int} (ha : (magS a.natAbs).size < 2 ^ 30) (hb : (magS b.natAbs).size < 2 ^ 30) : gcdT [.ag (zc a), .ag (zc b)] = some (one (.ag (zc (Nat.gcd a.natAbs b.natAbs : Nat)))) :=
  spE_at (a := (a, b)) (enc := fun x : Int × Int => [.ag (zc x.1), .ag (zc x.2)]) (fun a b e => by
    simp only [List.cons.injEq, and_true, PV.ag.injEq] at e
    rw [zc_inj e.1, zc_inj e.2]) ⟨ha, hb⟩
theorem t13_ok : CallOk MD.P t13 := tabF_ok (fns_cons (spE_is fun x h => gcd_is x.1 x.2 h.1 h.2) fns_nil)
theorem size_mono {a b : Nat} (h : a ≤ b) : (magS a).size ≤ (magS b).size := by
  have e : ∀ n, (magS n).size = (dg 256 n).length := fun n => by rw [← bytesL_magS, bytesL_len]
  rw [e, e]
  rcases Nat.eq_zero_or_pos a with rfl | ha
  · simp [dg_zero]
  · have h1 := dg_ge (b := 256) (by decide) ha
    have h2 := dg_lt (b := 256) (n := b) (by decide)
    rcases Nat.lt_or_ge (dg 256 b).length (dg 256 a).length with h3 | h3
    · have : 256 ^ (dg 256 b).length ≤ 256 ^ ((dg 256 a).length - 1) := Nat.pow_le_pow_right (by decide) (by omega)
      omega
    · exact h3
theorem gcd_size {x y : Nat} (hx : (magS x).size < 2 ^ 30) (hy : (magS y).size < 2 ^ 30) : (magS (Nat.gcd x y)).size < 2 ^ 30 := by
  rcases Nat.eq_zero_or_pos y with rfl | h
  · rwa [Nat.gcd_zero_right]
  · exact Nat.lt_of_le_of_lt (size_mono (Nat.gcd_le_right x h)) hy
theorem common_is (x : Int5) (h : x.small) : CallIs P0 65 [.ag (zc x.a ++ zc x.b ++ zc x.c ++ zc x.d), .ag (zc x.n)] (one (.ag (zc (x.gcd : Nat)))) := by
  obtain ⟨⟨ha, hb⟩, ⟨hc, hd⟩, hn⟩ := h
  have s1 := gcd_size hn ha
  have s2 := gcd_size s1 hb
  have s3 := gcd_size s2 hc
  have c1 := gcdT_at hn ha
  have c2 := gcdT_at (a := (Nat.gcd x.n.natAbs x.a.natAbs : Nat)) (b := x.b) (by simpa using s1) hb
  have c3 := gcdT_at (a := (Nat.gcd (Nat.gcd x.n.natAbs x.a.natAbs) x.b.natAbs : Nat)) (b := x.c) (by simpa using s2) hc
  have c4 := gcdT_at (a := (Nat.gcd (Nat.gcd (Nat.gcd x.n.natAbs x.a.natAbs) x.b.natAbs) x.c.natAbs : Nat)) (b := x.d) (by simpa using s3) hd
  simp only [Int.natAbs_natCast] at c2 c3 c4
  exact runX_is machOkD t13_ok (by rfl) (cm 5 _ _ _ _ _ _ _ _ _ _ _ _ _ _ _ _ _ _) ⟨by omega, rfl, c1, rfl, c2, rfl, c3, rfl, c4, rfl, trivial⟩
end Go.Proofs.YtibbgjafjhcemaaDoor.Cul
/-! B14 -/
set_option linter.unusedVariables false
set_option linter.unusedSimpArgs false
set_option maxRecDepth 100000
set_option maxHeartbeats 2000000
namespace Go.Proofs.YtibbgjafjhcemaaDoor.Cul
open Go Go.RowKit
theorem evalPure_bind {α β : Type} {P : Program} {f : α → Sem β} : ∀ {m : Sem α} {a : α}, evalPure P m = some a → evalPure P (m.bind f) = evalPure P (f a) := by
  intro m
  induction m with
  | pure x => intro a h; simp only [evalPure, Option.some.injEq] at h; subst h; rfl
  | program k ih => intro a h; simp only [evalPure] at h; simp only [Sem.bind, evalPure]; exact ih P h
  | mark x k ih => intro a h; simp only [evalPure] at h; simp only [Sem.bind, evalPure]; exact ih h
  | _ => intro a h; simp [evalPure] at h
theorem eqLoop {P : Program} {d : Nat} {t : TypeId} {f g : Field} {xs ys : Array Value} {a1 a2 b1 b2 : Value} {c1 c2 : Bool}
   (hu : P.underlying t = some (.struct #[f, g])) (hh : P.stoodInHeld t = false) (hf : f.name ≠ "_") (hg : g.name ≠ "_")
   (p1 : evalPure P (part f.type xs f.offset) = some a1) (p2 : evalPure P (part f.type ys f.offset) = some b1)
   (p3 : evalPure P (part g.type xs g.offset) = some a2) (p4 : evalPure P (part g.type ys g.offset) = some b2)
   (e1 : evalPure P (Op.equalIn d f.type a1 b1) = some c1) (e2 : evalPure P (Op.equalIn d g.type a2 b2) = some c2) :
   evalPure P (Op.equalIn (d + 1) t (.agg xs) (.agg ys)) = some (c1 && c2) := by
  simp only [Op.equalIn, underlying, program, Bind.bind, Sem.bind, evalPure, hu, hh, pure, Pure.pure, Bool.false_eq_true, if_false]
  rw [← Array.forIn_toList]
  simp only [List.forIn_cons, List.forIn_nil, Bind.bind, pure, Pure.pure, hf, hg, ne_eq, not_false_eq_true, if_true]
  have assoc : ∀ {α β γ : Type} (m : Sem α) (f : α → Sem β) (g : β → Sem γ), (m.bind f).bind g = m.bind fun a => (f a).bind g := by
    intro α β γ m
    induction m with
    | pure a => intro f g; rfl
    | halt h => intro f g; rfl
    | _ => rename_i ih; intro f g; simp only [Sem.bind]; first | (congr 1; funext x; exact ih x f g) | (congr 1; exact ih f g)
  simp only [assoc]
  rw [evalPure_bind p1, evalPure_bind p2, evalPure_bind e1]
  cases c1 with
  | false => simp [Sem.bind, evalPure]
  | true =>
    simp only [Bool.not_true, Bool.false_eq_true, if_false, Sem.bind, assoc]
    rw [evalPure_bind p3, evalPure_bind p4, evalPure_bind e2]
    cases c2 <;> simp [Sem.bind, evalPure]
theorem und27 : MD.P.underlying 27 = some (TypeDesc.struct #[{ name := "Neg", type := 4, offset := 0, embedded := false, tag := "", pkgPath := "", byteOffset := 0 }, { name := "Mag", type := 9, offset := 1, embedded := false, tag := "", pkgPath := "", byteOffset := 8 }]) := by kernel_rfl
theorem held27 : MD.P.stoodInHeld 27 = false := by kernel_rfl
theorem eqInt27 (u v : ByteArray) : evalPure MD.P (Op.equalIn (9999 + 1) 27 (.agg #[.bool false, .string u]) (.agg #[.bool false, .string v])) = some (true && (u == v)) :=
  eqLoop (a1 := .bool false) (b1 := .bool false) (a2 := .string u) (b2 := .string v) und27 held27 (by decide) (by decide) (by kernel_rfl) (by kernel_rfl) (by kernel_rfl) (by kernel_rfl) (by kernel_rfl) (by kernel_rfl)
theorem eqIs27 {u v : ByteArray} {b : Bool} (h : (u == v) = b) : EqIs MD.P .eql 27 (.tmp 28) (.tmp 29) (.agg #[.bool false, .string u]) (.agg #[.bool false, .string v]) b := by
  subst h
  have h1 : evalPure MD.P (eqGuard .eql 27 (.tmp 28) (.tmp 29) (.agg #[.bool false, .string u]) (.agg #[.bool false, .string v])) = some () := by kernel_rfl
  have h2 := eqInt27 u v
  rw [Bool.true_and] at h2
  show (evalPure MD.P ((eqGuard .eql 27 (.tmp 28) (.tmp 29) (.agg #[.bool false, .string u]) (.agg #[.bool false, .string v])).bind fun _ => binOp .eql 27 (.agg #[.bool false, .string u]) (.agg #[.bool false, .string v]))).bind pvOf = some (.lit (.bool (u == v)))
  rw [evalPure_bind h1]
  show (evalPure MD.P ((Op.equalIn (9999 + 1) 27 (.agg #[.bool false, .string u]) (.agg #[.bool false, .string v])).bind fun r => .pure (.bool r))).bind pvOf = some (.lit (.bool (u == v)))
  rw [evalPure_bind h2]; rfl
/-- A valid integer is one. -/
theorem ok_to_zc {g : Bool} {s : ByteArray} (h : okInt g s = true) : ∃ z : Int, z.natAbs = sval s ∧ g = decide (z < 0) ∧ s = magS z.natAbs := by
  unfold okInt at h
  by_cases hz : s.size = 0
  · rw [if_pos hz] at h
    have e : bytesL s = [] := List.length_eq_zero_iff.1 (by rw [bytesL_len]; exact hz)
    have hv : sval s = 0 := by simp [sval, e, val]
    refine ⟨0, by rw [hv]; rfl, by simpa using h, ?_⟩
    have := magS_sval (s := s) (.inl e)
    rw [hv] at this; exact this.symm
  · rw [if_neg hz] at h
    obtain ⟨n, hn⟩ : ∃ n, s.size = n + 1 := ⟨s.size - 1, by omega⟩
    obtain ⟨b, hb, hbl⟩ := bytesL_tail hn
    rw [hb] at h
    have hb0 : 0 < b.toNat := by simp at h; omega
    have hm := magS_sval (lead_of_last hbl hb0)
    have hp : 0 < sval s := by
      rw [sval, hbl, val_app]
      have : 0 < 256 ^ (bytesL (s.extract 1 s.size)).length * val 256 [b.toNat] := Nat.mul_pos (Nat.pow_pos (by decide)) (by simp [val]; exact hb0)
      omega
    cases g with
    | true => exact ⟨-(sval s : Int), by omega, by simp; omega, by rw [show (-(sval s : Int)).natAbs = sval s by omega, hm]⟩
    | false => exact ⟨(sval s : Int), by omega, by simp, by rw [show ((sval s : Int)).natAbs = sval s by omega, hm]⟩
end Go.Proofs.YtibbgjafjhcemaaDoor.Cul
/-! B15 -/
set_option linter.unusedVariables false
set_option linter.unusedSimpArgs false
set_option maxRecDepth 100000
set_option maxHeartbeats 2000000
namespace Go.Proofs.YtibbgjafjhcemaaDoor.Cul
open Go Go.RowKit
theorem t14_ok : CallOk MD.P t14 := tabF_ok
  (fns_cons (spE_is fun x _ => valid_is x.1 x.2)
  (fns_cons (spE_is fun x _ => sign_is x.1 x.2)
  (fns_cons (spE_is fun x h => common_is x h)
  (fns_cons (spE_is fun n h => of64_is n h.1 h.2) fns_nil))))
theorem magS_inj {a b : Nat} (h : magS a = magS b) : a = b := by
  have := congrArg sval h
  rwa [sval_magS, sval_magS] at this
theorem beq_toList (u v : ByteArray) : (u == v) = (u.data == v.data) := by cases u; cases v; rfl
theorem magS_beq (a b : Nat) : (magS a == magS b) = decide (a = b) := by
  rw [beq_toList]
  by_cases h : a = b
  · subst h; simp
  · rw [decide_eq_false h]
    refine beq_false_of_ne (fun e => h (magS_inj ?_))
    exact ByteArray.ext e
theorem magS_size0 {n : Nat} (h : (magS n).size = 0) : n = 0 := by
  have h1 := val_dg (b := 256) (by decide) n
  have h2 : (dg 256 n).length = 0 := by rw [← bytesL_magS, bytesL_len, h]
  rw [List.length_eq_zero_iff.1 h2] at h1
  exact h1.symm
theorem sgn_zc (z : Int) : sgnI (decide (z < 0)) (magS z.natAbs) = if z < 0 then -1 else if z = 0 then 0 else 1 := by
  unfold sgnI
  rw [ok_zc, if_pos rfl]
  by_cases h0 : z = 0
  · subst h0; rfl
  · have hs : (magS z.natAbs).size ≠ 0 := fun h => h0 (by have := magS_size0 h; omega)
    rw [if_neg hs]
    by_cases hn : z < 0
    · simp [hn]
    · simp [hn, h0]
theorem sgnT_at (g : Bool) (s : ByteArray) : sgnT [iz g s] = some (one (iv (sgnI g s))) :=
  spE_at (a := (g, s)) (enc := fun x : Bool × ByteArray => [iz x.1 x.2]) (fun a b e => by rw [iz_inj e]) trivial
theorem oneT_at {n : Int} (h1 : -(2 ^ 63) ≤ n) (h2 : n < 2 ^ 63) : oneT [iv n] = some (one (.ag (zc n))) :=
  spE_at (enc := fun n : Int => [iv n]) (fun a b e => by
    simp only [iv, List.cons.injEq, and_true, PV.lit.injEq, Value.int.injEq, true_and] at e; rw [e]) ⟨h1, h2⟩
theorem comT_at {x : Int5} (h : x.small) : comT [.ag (zc x.a ++ zc x.b ++ zc x.c ++ zc x.d), .ag (zc x.n)] = some (one (.ag (zc (x.gcd : Nat)))) :=
  spE_at (enc := fun x : Int5 => [.ag (zc x.a ++ zc x.b ++ zc x.c ++ zc x.d), .ag (zc x.n)]) (fun p q e => by
    obtain ⟨a, b, c, d, n⟩ := p
    obtain ⟨a', b', c', d', n'⟩ := q
    simp only [List.cons.injEq, and_true, PV.ag.injEq] at e
    obtain ⟨e1, e2⟩ := e
    have l : ∀ z : Int, (zc z).length = 2 := fun _ => rfl
    have k1 := List.append_inj e1 (by simp [l])
    have k2 := List.append_inj k1.1 (by simp [l])
    have k3 := List.append_inj k2.1 (by simp [l])
    rw [zc_inj k3.1, zc_inj k3.2, zc_inj k2.2, zc_inj k1.2, zc_inj e2]) h
def Int5.ok (x : Int5) : Bool := decide (0 < x.n) && decide (x.gcd = 1)
def Int5.cells (x : Int5) : List PV := zc x.a ++ zc x.b ++ zc x.c ++ zc x.d ++ zc x.n
theorem fvalid_is (x : Int5) (h : x.small) : CallIs P0 43 [.ag x.cells] (one (bv x.ok)) := by
  have vt : ∀ z : Int, validT [iz (decide (z < 0)) (magS z.natAbs)] = some (one (bv true)) := fun z => by rw [validT_at, ok_zc]
  have st := sgnT_at (decide (x.n < 0)) (magS x.n.natAbs)
  rw [sgn_zc] at st
  by_cases hn : 0 < x.n
  · rw [if_neg (by omega), if_neg (by omega)] at st
    have e : x.ok = decide (x.gcd = 1) := by simp [Int5.ok, hn]
    rw [e]
    have hq := eqIs27 (magS_beq x.gcd 1)
    exact runX_is machOkD t14_ok (by rfl) (fv6 5 _ _ _ _ _ (decide (x.gcd = 1)) _ _ _ _ _ (magS x.gcd) (magS 1) 1) ⟨by omega, rfl, vt x.a, rfl, vt x.b, rfl, vt x.c, rfl, vt x.d, rfl, vt x.n, st, rfl, comT_at h, oneT_at (by decide) (by decide), hq, trivial⟩
  · have e : x.ok = false := by simp [Int5.ok, hn]
    rw [e]
    exact runX_is machOkD t14_ok (by rfl) (fv5 5 _ _ _ _ _ _ _ _ _ _ _) ⟨by omega, rfl, vt x.a, rfl, vt x.b, rfl, vt x.c, rfl, vt x.d, rfl, vt x.n, st, by split <;> first | rfl | (split <;> first | rfl | omega), trivial⟩
theorem fvalid_bad (g0 g1 g2 g3 gd : Bool) (s0 s1 s2 s3 sd : ByteArray) (h : (okInt g0 s0 && okInt g1 s1 && okInt g2 s2 && okInt g3 s3 && okInt gd sd) = false) : CallIs P0 43 [.ag [bv g0, sv s0, bv g1, sv s1, bv g2, sv s2, bv g3, sv s3, bv gd, sv sd]] (one (bv false)) := by
  have v0 := validT_at g0 s0
  have v1 := validT_at g1 s1
  have v2 := validT_at g2 s2
  have v3 := validT_at g3 s3
  have vd := validT_at gd sd
  cases h0 : okInt g0 s0 with
  | false => rw [h0] at v0; exact runX_is machOkD t14_ok (by rfl) (fv0 5 _ _ _ _ _ _ _ _ _ _) ⟨by omega, rfl, v0, trivial⟩
  | true =>
    rw [h0] at v0
    cases h1 : okInt g1 s1 with
    | false => rw [h1] at v1; exact runX_is machOkD t14_ok (by rfl) (fv1 5 _ _ _ _ _ _ _ _ _ _) ⟨by omega, rfl, v0, rfl, v1, trivial⟩
    | true =>
      rw [h1] at v1
      cases h2 : okInt g2 s2 with
      | false => rw [h2] at v2; exact runX_is machOkD t14_ok (by rfl) (fv2 5 _ _ _ _ _ _ _ _ _ _) ⟨by omega, rfl, v0, rfl, v1, rfl, v2, trivial⟩
      | true =>
        rw [h2] at v2
        cases h3 : okInt g3 s3 with
        | false => rw [h3] at v3; exact runX_is machOkD t14_ok (by rfl) (fv3 5 _ _ _ _ _ _ _ _ _ _) ⟨by omega, rfl, v0, rfl, v1, rfl, v2, rfl, v3, trivial⟩
        | true =>
          rw [h3] at v3
          cases h4 : okInt gd sd with
          | false => rw [h4] at vd; exact runX_is machOkD t14_ok (by rfl) (fv4 5 _ _ _ _ _ _ _ _ _ _) ⟨by omega, rfl, v0, rfl, v1, rfl, v2, rfl, v3, rfl, vd, trivial⟩
          | true => rw [h0, h1, h2, h3, h4] at h; simp at h
end Go.Proofs.YtibbgjafjhcemaaDoor.Cul
/-! B16 -/
set_option linter.unusedVariables false
set_option linter.unusedSimpArgs false
set_option maxRecDepth 100000
set_option maxHeartbeats 2000000
namespace Go.Proofs.YtibbgjafjhcemaaDoor.Cul
open Go Go.RowKit
noncomputable def t16 : Cl := tabF [(58, validT)]
theorem rv0 (k : Nat) (g : Bool) (s : ByteArray) : runX MD t3 k 58 [iz g s] [.c true] =
  some (RV.mk (PV.lit (Value.bool !g)) none, [(s.toList == (ByteArray.mk #[]).toList) = true]) := by kernel_rfl
theorem rv1 (k b : Nat) (g r : Bool) (s : ByteArray) : runX MD t3 k 58 [iz g s] [.c false, .i 11 b, .c r] =
  some (RV.mk (PV.lit (Value.bool r)) none, [(s.toList == (ByteArray.mk #[]).toList) = false, StrAt s (0 : Int) (↑b : Int), ((↑b : Int) != (0 : Int)) = r]) := by kernel_rfl
theorem rs0 (k : Nat) (g : Bool) (s : ByteArray) : runX MD t16 k 60 [iz g s] [.r (one (bv false))] =
  some (RV.mk (PV.lit (Value.int IntKind.i64 (0 : Int))) none, [CallsTo t16 58 [PV.ag [PV.lit (Value.bool g), PV.lit (Value.string s)]] (RV.mk (PV.lit (Value.bool false)) none)]) := by kernel_rfl
theorem rs1 (k : Nat) (g : Bool) (s : ByteArray) : runX MD t16 k 60 [iz g s] [.r (one (bv true)), .c true] =
  some (RV.mk (PV.lit (Value.int IntKind.i64 (0 : Int))) none, [CallsTo t16 58 [PV.ag [PV.lit (Value.bool g), PV.lit (Value.string s)]] (RV.mk (PV.lit (Value.bool true)) none), (s.toList == (ByteArray.mk #[]).toList) = true]) := by kernel_rfl
theorem rs2 (k : Nat) (s : ByteArray) : runX MD t16 k 60 [iz true s] [.r (one (bv true)), .c false] =
  some (RV.mk (PV.lit (Value.int IntKind.i64 (-1 : Int))) none, [CallsTo t16 58 [PV.ag [PV.lit (Value.bool true), PV.lit (Value.string s)]] (RV.mk (PV.lit (Value.bool true)) none), (s.toList == (ByteArray.mk #[]).toList) = false]) := by kernel_rfl
theorem rs3 (k : Nat) (s : ByteArray) : runX MD t16 k 60 [iz false s] [.r (one (bv true)), .c false] =
  some (RV.mk (PV.lit (Value.int IntKind.i64 (1 : Int))) none, [CallsTo t16 58 [PV.ag [PV.lit (Value.bool false), PV.lit (Value.string s)]] (RV.mk (PV.lit (Value.bool true)) none), (s.toList == (ByteArray.mk #[]).toList) = false]) := by kernel_rfl
theorem rn0 (k : Nat) (g : Bool) (s : ByteArray) : runX MD t16 k 55 [iz g s] [.r (one (bv false))] =
  some (RV.mk (PV.ag [PV.lit (Value.bool false), PV.lit (Value.string (ByteArray.mk #[]))]) none, [CallsTo t16 58 [PV.ag [PV.lit (Value.bool g), PV.lit (Value.string s)]] (RV.mk (PV.lit (Value.bool false)) none)]) := by kernel_rfl
theorem rn1 (k : Nat) (g : Bool) (s : ByteArray) : runX MD t16 k 55 [iz g s] [.r (one (bv true)), .c true] =
  some (RV.mk (PV.ag [PV.lit (Value.bool false), PV.lit (Value.string (ByteArray.mk #[]))]) none, [CallsTo t16 58 [PV.ag [PV.lit (Value.bool g), PV.lit (Value.string s)]] (RV.mk (PV.lit (Value.bool true)) none), (s.toList == (ByteArray.mk #[]).toList) = true]) := by kernel_rfl
theorem rn2 (k : Nat) (g : Bool) (s : ByteArray) : runX MD t16 k 55 [iz g s] [.r (one (bv true)), .c false] =
  some (RV.mk (PV.ag [PV.lit (Value.bool !g), PV.lit (Value.string s)]) none, [CallsTo t16 58 [PV.ag [PV.lit (Value.bool g), PV.lit (Value.string s)]] (RV.mk (PV.lit (Value.bool true)) none), (s.toList == (ByteArray.mk #[]).toList) = false]) := by kernel_rfl
theorem rvalid_is (g : Bool) (s : ByteArray) : CallIs P0 58 [iz g s] (one (bv (okInt g s))) := by
  by_cases h : s.size = 0
  · have := runX_is machOkD t3_ok (by rfl) (rv0 1 g s) ⟨by rw [size_toList]; simpa using h, trivial⟩
    simp only [okInt, h, if_true]
    exact this
  · obtain ⟨n, hn⟩ : ∃ n, s.size = n + 1 := ⟨s.size - 1, by omega⟩
    obtain ⟨b, hb, _⟩ := bytesL_tail hn
    have e : okInt g s = decide (b.toNat ≠ 0) := by
      simp only [okInt, h, if_false, hb, Option.map_some, ne_eq, Option.some.injEq]
    rw [e]
    refine runX_is machOkD t3_ok (by rfl) (rv1 1 b.toNat g (decide (b.toNat ≠ 0)) s) ⟨by rw [size_toList]; simpa using h, strAt_get hb, ?_, trivial⟩
    by_cases h0 : b.toNat = 0
    · simp [h0]
    · simp [h0]
theorem t16_ok : CallOk MD.P t16 := tabF_ok (fns_cons (spE_is fun x _ => rvalid_is x.1 x.2) fns_nil)
theorem rsign_is (g : Bool) (s : ByteArray) : CallIs P0 60 [iz g s] (one (iv (sgnI g s))) := by
  have v := validT_at g s
  unfold sgnI
  cases h : okInt g s with
  | false => rw [h] at v; exact runX_is machOkD t16_ok (by rfl) (rs0 1 g s) ⟨v, trivial⟩
  | true =>
    rw [h] at v
    by_cases hz : s.size = 0
    · have := runX_is machOkD t16_ok (by rfl) (rs1 1 g s) ⟨v, by rw [size_toList]; simpa using hz, trivial⟩
      simp only [hz, if_true]; exact this
    · simp only [hz, if_true, if_false]
      cases g with
      | true => exact runX_is machOkD t16_ok (by rfl) (rs2 1 s) ⟨v, by rw [size_toList]; simpa using hz, trivial⟩
      | false => exact runX_is machOkD t16_ok (by rfl) (rs3 1 s) ⟨v, by rw [size_toList]; simpa using hz, trivial⟩
/-- The reference's opposite is the program's. -/
theorem rneg_is (g : Bool) (s : ByteArray) : CallIs P0 55 [iz g s] (one (negI g s)) := by
  have v := validT_at g s
  unfold negI
  cases h : okInt g s with
  | false => rw [h] at v; exact runX_is machOkD t16_ok (by rfl) (rn0 1 g s) ⟨v, trivial⟩
  | true =>
    rw [h] at v
    by_cases hz : s.size = 0
    · have := runX_is machOkD t16_ok (by rfl) (rn1 1 g s) ⟨v, by rw [size_toList]; simpa using hz, trivial⟩
      have hs : s = ⟨#[]⟩ := bytesL_inj (by
        have e : bytesL s = [] := List.length_eq_zero_iff.1 (by rw [bytesL_len]; exact hz)
        rw [e]; rfl)
      have e : iz (!g && !decide (s.size = 0)) s = iz false ⟨#[]⟩ := by rw [show decide (s.size = 0) = true by simpa using hz, hs]; cases g <;> rfl
      rw [if_pos rfl, e]; exact this
    · have := runX_is machOkD t16_ok (by rfl) (rn2 1 g s) ⟨v, by rw [size_toList]; simpa using hz, trivial⟩
      have e : iz (!g && !decide (s.size = 0)) s = iz (!g) s := by simp [hz]
      rw [if_pos rfl, e]; exact this
end Go.Proofs.YtibbgjafjhcemaaDoor.Cul
/-! DB -/
set_option linter.unusedVariables false
namespace Go.Proofs.YtibbgjafjhcemaaDoor.Cul
/-! ### Digits with zeros in front; factors 2 -/
theorem fd_dg {b : Nat} (hb : 2 ≤ b) : ∀ {n v : Nat}, v < b ^ n → fd b n v = dg b v ++ List.replicate (n - (dg b v).length) 0
  | 0, v, h => by
    have : v = 0 := by simpa using h
    subst this; simp [fd, dg_zero]
  | n + 1, v, h => by
    rcases Nat.eq_zero_or_pos v with rfl | hv
    · rw [fd_zero (by omega), dg_zero]; simp
    · have h2 : v / b < b ^ n := by
        rw [Nat.div_lt_iff_lt_mul (by omega)]; rwa [Nat.pow_succ] at h
      rw [dg_pos hb hv]
      show v % b :: fd b n (v / b) = _
      rw [fd_dg hb h2]
      simp
theorem gcd_pow_right {x : Nat} (hx : x % 2 = 1) (k y : Nat) : Nat.gcd x (2 ^ k * y) = Nat.gcd x y := by
  have h2 : Nat.Coprime 2 x := by
    show Nat.gcd 2 x = 1
    rw [Nat.gcd_rec, hx]; rfl
  exact Nat.Coprime.gcd_mul_left_cancel_right y (h2.pow_left k)
theorem gcd_pow_left {x : Nat} (hx : x % 2 = 1) (k y : Nat) : Nat.gcd (2 ^ k * y) x = Nat.gcd y x := by
  rw [Nat.gcd_comm, gcd_pow_right hx, Nat.gcd_comm]
theorem gcd_pows {x y : Nat} (hx : x % 2 = 1) (hy : y % 2 = 1) (n m : Nat) : Nat.gcd (2 ^ n * x) (2 ^ m * y) = 2 ^ (min n m) * Nat.gcd x y := by
  rcases Nat.le_total n m with h | h
  · obtain ⟨d, rfl⟩ := Nat.exists_eq_add_of_le h
    rw [Nat.min_eq_left h, Nat.pow_add, Nat.mul_assoc, Nat.gcd_mul_left, gcd_pow_right hx]
  · obtain ⟨d, rfl⟩ := Nat.exists_eq_add_of_le h
    rw [Nat.min_eq_right h, Nat.pow_add, Nat.mul_assoc, Nat.gcd_mul_left, gcd_pow_left hy]
/-- How often 2 divides a number. -/
def tzF : Nat → Nat → Nat
  | 0, _ => 0
  | f + 1, n => if n % 2 = 0 then tzF f (n / 2) + 1 else 0
def tz (n : Nat) : Nat := tzF n n
theorem tzF_is : ∀ {f n : Nat}, 0 < n → n ≤ f → (n / 2 ^ tzF f n) % 2 = 1 ∧ 2 ^ tzF f n * (n / 2 ^ tzF f n) = n
  | 0, n, h, k => by omega
  | f + 1, n, h, k => by
    unfold tzF
    by_cases e : n % 2 = 0
    · rw [if_pos e]
      obtain ⟨h1, h2⟩ := tzF_is (f := f) (n := n / 2) (by omega) (by omega)
      have e2 : n / 2 ^ (tzF f (n / 2) + 1) = n / 2 / 2 ^ tzF f (n / 2) := by
        rw [Nat.pow_succ, Nat.mul_comm, Nat.div_div_eq_div_mul]
      rw [e2]
      refine ⟨h1, ?_⟩
      rw [Nat.pow_succ, Nat.mul_comm (2 ^ tzF f (n / 2)) 2, Nat.mul_assoc, h2]; omega
    · rw [if_neg e]; simp; omega
/-- The odd part. -/
def od (n : Nat) : Nat := n / 2 ^ tz n
theorem od_odd {n : Nat} (h : 0 < n) : od n % 2 = 1 := (tzF_is h (Nat.le_refl n)).1
theorem od_mul {n : Nat} (h : 0 < n) : 2 ^ tz n * od n = n := (tzF_is h (Nat.le_refl n)).2
theorem pow_odd_unique : ∀ {k j m n : Nat}, m % 2 = 1 → n % 2 = 1 → 2 ^ k * m = 2 ^ j * n → k = j
  | 0, 0, _, _, _, _, _ => rfl
  | 0, j + 1, m, n, hm, hn, h => by
    rw [Nat.pow_succ, Nat.mul_comm (2 ^ j) 2, Nat.mul_assoc] at h; simp at h; omega
  | k + 1, 0, m, n, hm, hn, h => by
    rw [Nat.pow_succ, Nat.mul_comm (2 ^ k) 2, Nat.mul_assoc] at h; simp at h; omega
  | k + 1, j + 1, m, n, hm, hn, h => by
    rw [Nat.pow_succ, Nat.mul_comm (2 ^ k) 2, Nat.mul_assoc, Nat.pow_succ, Nat.mul_comm (2 ^ j) 2, Nat.mul_assoc] at h
    rw [pow_odd_unique hm hn (Nat.eq_of_mul_eq_mul_left (by omega) h)]
theorem tz_eq {n k m : Nat} (h : n = 2 ^ k * m) (hm : m % 2 = 1) : tz n = k := by
  have hn : 0 < n := by rw [h]; exact Nat.mul_pos (Nat.pow_pos (by omega)) (by omega)
  have := od_mul hn
  exact pow_odd_unique (od_odd hn) hm (by rw [this, h])
theorem od_eq {n k m : Nat} (h : n = 2 ^ k * m) (hm : m % 2 = 1) : od n = m := by
  unfold od
  rw [tz_eq h hm, h, Nat.mul_div_cancel_left _ (Nat.pow_pos (by omega))]
theorem od_pos {n : Nat} (h : 0 < n) : 0 < od n := by have := od_odd h; omega
theorem od_le {n : Nat} (h : 0 < n) : od n ≤ n := Nat.div_le_self _ _
theorem gcd_od_right {x y : Nat} (hx : x % 2 = 1) (hy : 0 < y) : Nat.gcd x (od y) = Nat.gcd x y := by
  conv => rhs; rw [← od_mul hy]
  exact (gcd_pow_right hx _ _).symm
theorem gcd_step {x y : Nat} (hx : x % 2 = 1) (h : x < y) : Nat.gcd x (od (y - x)) = Nat.gcd x y := by
  rw [gcd_od_right hx (by omega)]
  exact Nat.gcd_sub_self_right (by omega)
theorem gcd_ods {x y : Nat} (hx : 0 < x) (hy : 0 < y) : Nat.gcd x y = 2 ^ (min (tz x) (tz y)) * Nat.gcd (od x) (od y) := by
  conv => lhs; rw [← od_mul hx, ← od_mul hy]
  exact gcd_pows (od_odd hx) (od_odd hy) _ _
/-- Digits shifted to the right by k bits, 0 ≤ k ≤ 24. -/
def shr (k : Nat) : List Nat → List Nat
  | [] => []
  | [x] => [x / 2 ^ k]
  | x :: y :: l => (x / 2 ^ k + y * 2 ^ (24 - k) % 2 ^ 24) :: shr k (y :: l)
theorem shr_len (k : Nat) : ∀ l, (shr k l).length = l.length
  | [] => rfl
  | [x] => rfl
  | x :: y :: l => by simp [shr, shr_len k (y :: l)]
theorem shl_mod {k y : Nat} (hk : k ≤ 24) : y * 2 ^ (24 - k) % 2 ^ 24 = y % 2 ^ k * 2 ^ (24 - k) := by
  have e : (2 : Nat) ^ 24 = 2 ^ k * 2 ^ (24 - k) := by rw [← Nat.pow_add]; congr 1; omega
  rw [e, Nat.mul_mod_mul_right]
theorem shr_val {k : Nat} (hk : k ≤ 24) : ∀ (x : Nat) (l : List Nat), 2 ^ k * val (2 ^ 24) (shr k (x :: l)) + x % 2 ^ k = val (2 ^ 24) (x :: l)
  | x, [] => by simp only [shr, val]; have := Nat.div_add_mod x (2 ^ k); omega
  | x, y :: l => by
    have ih := shr_val hk y l
    simp only [shr]
    rw [shl_mod hk]
    have e : (2 : Nat) ^ 24 = 2 ^ k * 2 ^ (24 - k) := by rw [← Nat.pow_add]; congr 1; omega
    have h1 := Nat.div_add_mod x (2 ^ k)
    show 2 ^ k * (x / 2 ^ k + y % 2 ^ k * 2 ^ (24 - k) + 2 ^ 24 * val (2 ^ 24) (shr k (y :: l))) + x % 2 ^ k = x + 2 ^ 24 * val (2 ^ 24) (y :: l)
    rw [← ih, Nat.mul_add, Nat.mul_add, Nat.mul_add]
    have h2 : 2 ^ k * (y % 2 ^ k * 2 ^ (24 - k)) = 2 ^ 24 * (y % 2 ^ k) := by rw [e, Nat.mul_comm (y % 2 ^ k), Nat.mul_assoc]
    have h3 : 2 ^ k * (2 ^ 24 * val (2 ^ 24) (shr k (y :: l))) = 2 ^ 24 * (2 ^ k * val (2 ^ 24) (shr k (y :: l))) := Nat.mul_left_comm _ _ _
    rw [h2, h3]; omega
theorem shr_dig {k : Nat} (hk : k ≤ 24) : ∀ {l : List Nat}, Dig (2 ^ 24) l → Dig (2 ^ 24) (shr k l)
  | [], _ => by simp [shr, Dig]
  | [x], h => by
    intro z hz
    simp only [shr, List.mem_singleton] at hz
    subst hz
    exact Nat.lt_of_le_of_lt (Nat.div_le_self _ _) h.head
  | x :: y :: l, h => by
    intro z hz
    simp only [shr, List.mem_cons] at hz
    rcases hz with rfl | hz
    · rw [shl_mod hk]
      have hx := h.head
      have e : (2 : Nat) ^ 24 = 2 ^ (24 - k) * 2 ^ k := by rw [← Nat.pow_add]; congr 1; omega
      have h1 : x / 2 ^ k < 2 ^ (24 - k) := by
        rw [Nat.div_lt_iff_lt_mul (Nat.pow_pos (by omega)), ← e]; exact hx
      have h2 : y % 2 ^ k < 2 ^ k := Nat.mod_lt _ (Nat.pow_pos (by omega))
      have h3 : (y % 2 ^ k + 1) * 2 ^ (24 - k) ≤ 2 ^ k * 2 ^ (24 - k) := Nat.mul_le_mul_right _ h2
      rw [Nat.add_mul, Nat.mul_comm (2 ^ k), ← e] at h3
      omega
    · exact shr_dig hk h.tail z hz
/-- The digit i of the shifted list, by the list. -/
theorem shr_get {k : Nat} : ∀ {l : List Nat} {i x : Nat}, l[i]? = some x → (shr k l)[i]? = some (x / 2 ^ k + (match l[i + 1]? with | some y => y * 2 ^ (24 - k) % 2 ^ 24 | none => 0))
  | [], i, x, h => by simp at h
  | [z], 0, x, h => by simp at h; subst h; simp [shr]
  | [z], i + 1, x, h => by simp at h
  | z :: y :: l, 0, x, h => by simp at h; subst h; simp [shr]
  | z :: y :: l, i + 1, x, h => by
    simp only [shr, List.getElem?_cons_succ] at h ⊢
    exact shr_get h
end Go.Proofs.YtibbgjafjhcemaaDoor.Cul
