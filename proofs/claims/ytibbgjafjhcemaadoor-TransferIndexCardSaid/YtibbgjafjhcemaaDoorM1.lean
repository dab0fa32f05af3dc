/- Part of a proof by an abstract machine for the program's code: lemmas, without conditions of their own beyond those that each states. -/
import Derived.WalkKit
import Derived.WalkSpells
import Derived.WalkLawsBesides
import Derived.Deep.MidRow
import Derived.StillTail
import Derived.KernelRfl
set_option linter.unusedVariables false
set_option linter.unusedSimpArgs false
namespace Go.Proofs.YtibbgjafjhcemaaDoor.Cul
open Go Go.RowKit

/-! ### Values without memory -/
/-- A persistent value: what it leads to in memory is told with it. -/
inductive PV where
  | lit (v : Value)
  | sl (sz n : Nat) (cs : List PV)
  | el (cs : List PV)
  | fn (f : Nat) (caps : List PV)
  | ag (cs : List PV)
  | tup (vs : List PV)
  deriving Inhabited

/-- A value that bears no address. -/
def scal : Value → Bool
  | .bool _ | .int .. | .string _ | .nilFunc | .slice none 0 0 | .pointer none | .map none | .nilIface => true
  | .func (.yield _) fi ca => fi.isEmpty && ca.isEmpty
  | _ => false

/-- A captured value of a closure: plain, or one of the frame's own variables. -/
inductive Cap where
  | pv (p : PV)
  | bp (k off : Nat)

/-- What a slot holds. -/
inductive AV where
  | pv (p : PV)
  | bp (k off : Nat)
  | cl (f : Nat) (caps : List Cap)
  | ex (sz n : Nat) (cs : List PV)
  | xr (t : Nat)
  | xe (t off : Nat)
  | newp (cs : List PV)
  | dead

/-- Where a slice that may be appended to lies. -/
inductive Pl where
  | s (t : Nat)
  | c (k off : Nat)
  deriving DecidableEq

def Pl.kept (ks : List Nat) : Pl → Bool
  | .s t => ks.contains t
  | .c k _ => ks.contains k
def Pl.notBox (d : Nat) : Pl → Bool
  | .c k _ => decide (k ≠ d)
  | _ => true
def killBox (d : Nat) (x : Nat × Option Pl) : Nat × Option Pl := (x.1, x.2.bind fun p => if p.notBox d then some p else none)
def Pl.out (k off n : Nat) : Pl → Bool
  | .c j o => !(decide (j = k) && decide (off ≤ o) && decide (o < off + n))
  | _ => true
def killOut (k off n : Nat) (x : Nat × Option Pl) : Nat × Option Pl := (x.1, x.2.bind fun p => if p.out k off n then some p else none)
structure St where
  sl : List (Nat × AV)
  bx : List (Nat × List PV)
  gr : List (Pl × Nat)
  tg : List (Nat × Option Pl)

def lookP : List (Pl × Nat) → Pl → Option Nat
  | [], _ => none
  | (k, v) :: l, t => if k = t then some v else lookP l t
def look {α : Type} : List (Nat × α) → Nat → Option α
  | [], _ => none
  | (k, v) :: l, t => if k = t then some v else look l t
def drop1 {α : Type} : List (Nat × α) → Nat → List (Nat × α)
  | [], _ => []
  | (k, v) :: l, t => if k = t then drop1 l t else (k, v) :: drop1 l t

def refersTo (t : Nat) : AV → Bool
  | .xr u => decide (u = t)
  | .xe u _ => decide (u = t)
  | _ => false
def killA (d : Nat) (x : Nat × AV) : Nat × AV := (x.1, if refersTo d x.2 then .dead else x.2)
def killT (p : Pl) (x : Nat × Option Pl) : Nat × Option Pl := (x.1, if x.2 = some p then none else x.2)
def St.tag (st : St) (t : Nat) : Option Pl := (look st.tg t).bind id
def St.put (st : St) (dst : Option Tmp) (v : AV) : St :=
  match dst with
  | none => st
  | some d => { sl := killA d (d, v) :: (drop1 st.sl d).map (killA d), bx := st.bx, gr := st.gr.filter (fun p => p.1 ≠ .s d), tg := (drop1 st.tg d).map (killT (.s d)) }

/-! ### Pure operations: the model's own -/
def evalPure {α : Type} (P : Program) : Sem α → Option α
  | .pure a => some a
  | .program k => evalPure P (k P)
  | .mark _ k => evalPure P k
  | _ => none

def litsOf : List Value → Option (List PV)
  | [] => some []
  | v :: l => if scal v then (litsOf l).map (PV.lit v :: ·) else none
def pvOf : Value → Option PV
  | .agg cs => (litsOf cs.toList).map .ag
  | v => if scal v then some (.lit v) else none
def valsOf : List PV → Option (List Value)
  | [] => some []
  | .lit v :: l => (valsOf l).map (v :: ·)
  | _ :: _ => none
def valOf : PV → Option Value
  | .lit v => some v
  | .ag cs => (valsOf cs).map fun l => .agg l.toArray
  | .fn f [] => some (.func (.func f) #[] #[])
  | _ => none
def undefA : AV := .pv (.tup [])

def St.ev (st : St) : Operand → Option AV
  | .tmp t => look st.sl t
  | .const v => (pvOf v).map .pv
  | .func f => some (.pv (.fn f []))
  | .global _ => none
def St.pv (st : St) (x : Operand) : Option PV :=
  match st.ev x with
  | some (.pv p) => some p
  | _ => none
def St.val (st : St) (x : Operand) : Option Value := (st.pv x).bind valOf

/-- A pure operation on plain values: the model's own answer. -/
def pureOp (P : Program) (s : Sem Value) : Option PV := (evalPure P s).bind pvOf

/-! ### Types -/
def isRowT (P : Program) (t : TypeId) : Bool := match P.underlying t with | some (.struct _) | some (.array _ _) => true | _ => false
def sizeT (P : Program) (t : TypeId) : Option Nat := (P.info? t).map (·.size)
def zeroT (P : Program) (t : TypeId) : Option PV := ((P.info? t).bind (·.zero)).bind pvOf
def PV.cells : PV → List PV
  | .ag cs => cs
  | p => [p]
def fieldT (P : Program) (s : TypeId) (f : Nat) : Option (Nat × TypeId) :=
  match P.underlying s with
  | some (.struct fs) => (fs[f]?).bind fun f => if sizeT P f.type = some 0 then none else (sizeT P f.type).map fun _ => (f.offset, f.type)
  | _ => none
/-- A variable of type t out of cells. -/
def takeT (P : Program) (t : TypeId) (cs : List PV) (off : Nat) : Option PV :=
  (sizeT P t).bind fun s => if off + s ≤ cs.length then (if isRowT P t then some (.ag ((cs.drop off).take s)) else if s = 1 ∧ (P.underlying t).isSome = true then cs[off]? else none) else none
def row (cs : List PV) (sz i : Nat) : List PV := (cs.drop (i * sz)).take sz
def splice (cs : List PV) (off : Nat) (new : List PV) : List PV := cs.take off ++ new ++ cs.drop (off + new.length)
/-- A slice's length and cells, whatever slice it is. -/
def viewS : PV → Option (Nat × List PV)
  | .lit (.slice none 0 0) => some (0, [])
  | .sl _ n cs => some (n, cs)
  | _ => none
def intOfPV : PV → Option Int
  | .lit (.int _ n) => some n
  | _ => none

/-! ### The operations that only make a value -/
structure Made where
  v : AV
  gr : Option Nat := none
  tg : Option Pl := none

def mkd (v : Option PV) : Option Made := v.map fun p => { v := .pv p }

def capBox : Cap → Bool
  | .bp .. => true
  | _ => false
def capsOf (st : St) : List Cap → Option (List PV)
  | [] => some []
  | .pv p :: l => (capsOf st l).map (p :: ·)
  | .bp k off :: l => (look st.bx k).bind fun cs => (capsOf st l).map (PV.el (cs.drop off) :: ·)
/-- A value on its way to a callee: the frame's own variables are only read there. -/
def St.argOf (st : St) : AV → Option PV
  | .pv p => some p
  | .bp k off => (look st.bx k).map fun cs => .el (cs.drop off)
  | .cl f caps => (capsOf st caps).map (PV.fn f)
  | _ => none
def leadsOut : AV → Bool
  | .bp .. => true
  | .cl _ caps => caps.any capBox
  | _ => false

/-- What a function answers: a value, and whether it may be appended to. -/
structure RV where
  v : PV
  gr : Option Nat

def fillPV (place : Nat → Option (Nat × Nat)) (cells : List PV) : List (Nat × PV) → Option (List PV)
  | [] => some cells
  | (i, v) :: rest =>
    match place i with
    | none => none
    | some (off, size) => if v.cells.length ≠ size ∨ off + size > cells.length then none else fillPV place (splice cells off v.cells) rest
def isTup : PV → Bool
  | .tup _ => true
  | _ => false
def partsOf (st : St) : List (Nat × Operand) → Option (List (Nat × PV))
  | [] => some []
  | (i, x) :: l => (st.pv x).bind fun p => if isTup p then none else (partsOf st l).map ((i, p) :: ·)
def zerosOf {α : Type} (z : List α) : Nat → List α
  | 0 => []
  | n + 1 => z ++ zerosOf z n
def bytesOf : List PV → Option (List UInt8)
  | [] => some []
  | .lit (.int .u8 n) :: l => (bytesOf l).map (UInt8.ofNat n.toNat :: ·)
  | _ :: _ => none
def argsOf (st : St) : List Operand → Option (List PV)
  | [] => some []
  | x :: l => ((st.ev x).bind st.argOf).bind fun p => (argsOf st l).map (p :: ·)

def capturedOf (st : St) : List Operand → Option (List Cap)
  | [] => some []
  | x :: l => match st.ev x with
    | some (.pv p) => (capturedOf st l).map (Cap.pv p :: ·)
    | some (.bp k o) => (capturedOf st l).map (Cap.bp k o :: ·)
    | _ => none
/-- A value that says the same in every memory. -/
def plainR : PV → Bool
  | .tup [] => true
  | p => (valOf p).isSome
def callOut (call : Nat → List PV → Option RV) (out : Bool) (f : Nat) (args : List PV) : Option Made :=
  (call f args).bind fun r => if out then (if plainR r.v then some { v := .pv r.v } else none) else some { v := .pv r.v, gr := r.gr }

def placesOf (P : Program) : List Field → Option (List (Nat × Nat))
  | [] => some []
  | f :: l => (sizeT P f.type).bind fun s => (placesOf P l).map ((f.offset, s) :: ·)
def quiet (P : Program) (call : Nat → List PV → Option RV) (o : Oper) (st : St) : Option Made :=
  match o.op with
  | .move x =>
    match x, st.ev x with
    | _, some (.xr t) => some { v := .xr t }
    | _, some (.xe t off) => some { v := .xe t off }
    | _, some (.newp _) => none
    | .tmp t, some (.ex ..) => some { v := .xr t }
    | .tmp t, some v => some { v, tg := if (lookP st.gr (.s t)).isSome then some (.s t) else st.tag t }
    | _, some (.ex ..) => none
    | _, some v => some { v }
    | _, none => none
  | .pick c a b => (st.val c).bind fun
    | .bool t => (st.pv (if t then a else b)).map fun p => { v := .pv p }
    | _ => none
  | .binOp op t x y _ => (st.val x).bind fun a => (st.val y).bind fun b => mkd (pureOp P (do eqGuard op t x y a b; binOp op t a b))
  | .unOp op _ x => (st.val x).bind fun a => mkd (pureOp P (Op.unary op a))
  | .convert src dst x => match st.pv x with
    | some (.sl 1 n cs) => match P.underlying src, P.underlying dst with
      | some (.slice e), some .string => match P.underlying e with
        | some (.int .u8) => (bytesOf cs).map fun l => { v := .pv (.lit (.string ⟨l.toArray⟩)) }
        | _ => none
      | _, _ => none
    | some p => (valOf p).bind fun a => mkd (pureOp P (convert src dst a))
    | none => none
  | .fieldAddr s x f => (fieldT P s f).bind fun (off, _) => match st.ev x with
    | some (.bp k o) => some { v := .bp k (o + off) }
    | some (.xe t o) => some { v := .xe t (o + off) }
    | some (.pv (.el cs)) => some { v := .pv (.el (cs.drop off)) }
    | _ => none
  | .field s x f => (fieldT P s f).bind fun (off, t) => match st.pv x with
    | some (.ag cs) => mkd (takeT P t cs off)
    | _ => none
  | .indexAddr t x i => ((st.pv i).bind intOfPV).bind fun n => match P.underlying t with
    | some (.array len e) => (sizeT P e).bind fun s => if 0 ≤ n ∧ n < len then match st.ev x with
      | some (.bp k o) => some { v := .bp k (o + n.toNat * s) }
      | some (.pv (.el cs)) => some { v := .pv (.el (cs.drop (n.toNat * s))) }
      | _ => none else none
    | some (.slice e) => (sizeT P e).bind fun s => match st.ev x with
      | some (.pv (.sl sz len cs)) => if sz = s ∧ 0 ≤ n ∧ n < len then some { v := .pv (.el (row cs sz n.toNat)) } else none
      | some (.xr u) => match look st.sl u with
        | some (.ex sz len cs) => if sz = s ∧ 0 ≤ n ∧ n < len then some { v := .xe u (n.toNat * sz) } else none
        | _ => none
      | _ => none
    | _ => none
  | .index t x i => match P.underlying t, st.pv x with
    | some (.array len e), some (.ag cs) => ((st.pv i).bind intOfPV).bind fun n => (sizeT P e).bind fun s => if 0 ≤ n ∧ n < len then mkd (takeT P e cs (n.toNat * s)) else none
    | _, _ => (st.val x).bind fun a => (st.val i).bind fun b => mkd (pureOp P (Instr.index t a b))
  | .load t x => match st.ev x with
    | some (.bp k o) => (look st.bx k).bind fun cs => (takeT P t cs o).map fun p => { v := .pv p, tg := if !isRowT P t && (lookP st.gr (.c k o)).isSome then some (.c k o) else none }
    | some (.pv (.el cs)) => mkd (takeT P t cs 0)
    | some (.xe u o) => match look st.sl u with
      | some (.ex _ _ cs) => mkd (takeT P t cs o)
      | _ => none
    | _ => none
  | .build t parts => match zeroT P t, partsOf st parts.toList with
    | some (.ag z), some ps => match P.underlying t with
      | some (.struct fs) => (placesOf P fs.toList).bind fun pl => (fillPV (fun i => pl[i]?) z ps).map fun cs => { v := .pv (.ag cs) }
      | some (.array _ e) => (sizeT P e).bind fun s => (fillPV (fun i => some (i * s, s)) z ps).map fun cs => { v := .pv (.ag cs) }
      | _ => none
    | _, _ => none
  | .buildSlice t len parts => match P.underlying t with
    | some (.slice e) => (sizeT P e).bind fun s => (zeroT P e).bind fun z => if len * s ≤ 2 ^ 24 ∧ z.cells.length = s then
        (partsOf st parts.toList).bind fun ps => (fillPV (fun i => some (i * s, s)) (zerosOf z.cells len) ps).map fun cs => { v := .pv (.sl s len cs), gr := if len = 0 ∨ s = 0 then none else some s } else none
    | _ => none
  | .extract x i => match st.pv x with
    | some (.tup vs) => mkd vs[i]?
    | _ => none
  | .slice t x lo hi mx => match st.pv x with
    | some (.sl sz n cs) => match P.underlying t, mx with
      | some (.slice e), none => if sizeT P e = some sz then
          (match hi with | none => some (n : Int) | some y => (st.pv y).bind intOfPV).bind fun h =>
          (match lo with | none => some (0 : Int) | some y => (st.pv y).bind intOfPV).bind fun l =>
          if 0 ≤ l ∧ l ≤ h ∧ h ≤ n then some { v := .pv (.sl sz (h.toNat - l.toNat) ((cs.drop (l.toNat * sz)).take ((h.toNat - l.toNat) * sz))) } else none else none
      | _, _ => none
    | some p => (valOf p).bind fun a => match mx, lo, hi with
      | none, none, none => mkd (pureOp P (Instr.sliceAt t a none none none))
      | none, some l, none => (st.val l).bind fun l => mkd (pureOp P (Instr.sliceAt t a (some l) none none))
      | none, none, some h => (st.val h).bind fun h => mkd (pureOp P (Instr.sliceAt t a none (some h) none))
      | none, some l, some h => (st.val l).bind fun l => (st.val h).bind fun h => mkd (pureOp P (Instr.sliceAt t a (some l) (some h) none))
      | _, _, _ => none
    | none => none
  | .makeFunc (.func f) first captured => if first.size = 0 then
      (capturedOf st captured.toList).map fun caps => { v := .cl f caps } else none
  | .nilCheck x => match st.ev x with
    | some (.bp k o) => some { v := .bp k o }
    | some (.pv (.el cs)) => some { v := .pv (.el cs) }
    | some (.pv (.fn f caps)) => some { v := .pv (.fn f caps) }
    | _ => none
  | .call { callee := .builtin .len, args, argTypes } => match args.toList with
    | [x] => match st.ev x with
      | some (.pv (.sl _ n _)) => match (argTypes[0]?).bind P.underlying with | some (.slice _) => some { v := .pv (.lit (.int .i64 n)) } | _ => none
      | some (.xr u) => match look st.sl u, (argTypes[0]?).bind P.underlying with | some (.ex _ n _), some (.slice _) => some { v := .pv (.lit (.int .i64 n)) } | _, _ => none
      | some (.pv p) => (valOf p).bind fun a => mkd (pureOp P (Builtin.len_ argTypes o.type #[a]))
      | _ => none
    | _ => none
  | .call { callee := .builtin .max, args, argTypes } => match args.toList with
    | [x, y] => (st.val x).bind fun a => (st.val y).bind fun b => mkd (pureOp P (Builtin.max_ argTypes o.type #[a, b]))
    | _ => none
  | .call { callee := .builtin .min, args, argTypes } => match args.toList with
    | [x, y] => (st.val x).bind fun a => (st.val y).bind fun b => mkd (pureOp P (Builtin.min_ argTypes o.type #[a, b]))
    | _ => none
  | .call { callee := .value g, args, .. } => match (st.ev g) with
    | some v => (st.argOf v).bind fun p => match p with
      | .fn f caps => (argsOf st args.toList).bind fun as => callOut call (leadsOut v || args.toList.any fun x => ((st.ev x).map leadsOut).getD true) f (as ++ caps)
      | _ => none
    | _ => none
  | _ => none

/-! ### The operations that change a variable -/
def St.made (st : St) (dst : Option Tmp) (m : Made) : St :=
  let s := st.put dst m.v
  match dst with
  | none => s
  | some d => { s with gr := match m.gr with | some z => (.s d, z) :: s.gr | none => s.gr, tg := match m.tg with | some p => (d, some p) :: s.tg | none => s.tg }
/-- No slot but d holds an address of the variable k. -/
def capNot (k : Nat) : Cap → Bool
  | .bp j _ => decide (j ≠ k)
  | _ => true
def noPtr (k : Nat) : AV → Bool
  | .bp j _ => decide (j ≠ k)
  | .cl _ caps => caps.all (capNot k)
  | _ => true
def St.newBox (st : St) (d : Nat) (cs : List PV) : Option St :=
  let s := st.put (some d) (.bp d 0)
  if (drop1 s.sl d).all (fun x => noPtr d x.2) then
    some { s with bx := (d, cs) :: drop1 s.bx d, gr := s.gr.filter (fun x => x.1.notBox d), tg := s.tg.map (killBox d) }
  else none
/-- A cell range of the variable k is written. -/
def St.setBox (st : St) (k off : Nat) (new : List PV) : Option St :=
  (look st.bx k).bind fun cs => if off + new.length ≤ cs.length then
    some { st with bx := (k, splice cs off new) :: drop1 st.bx k,
                   gr := st.gr.filter (fun x => x.1.out k off new.length),
                   tg := st.tg.map (killOut k off new.length) } else none
def room : Nat := 140737488355328
def effect (P : Program) (o : Oper) (st : St) : Option St :=
  match o.op with
  | .assign x =>
    match x, st.ev x with
    | .tmp t, some (.ex sz n cs) => o.dst.map fun d => ({ st with sl := (drop1 st.sl t).map (killA t) }).put (some d) (.ex sz n cs)
    | .tmp t, some (.pv p) => o.dst.map fun d => match lookP st.gr (.s t) with
      | some z => if t = d then st.put (some d) (.pv p) else
        ({ st with gr := st.gr.filter (fun x => x.1 ≠ Pl.s t), tg := st.tg.map (killT (.s t)) }).made (some d) { v := .pv p, gr := some z }
      | none => st.put (some d) (.pv p)
    | _, some (.pv p) => o.dst.map fun d => st.put (some d) (.pv p)
    | _, some (.cl f caps) => o.dst.map fun d => st.put (some d) (.cl f caps)
    | _, some (.bp k off) => o.dst.map fun d => st.put (some d) (.bp k off)
    | _, _ => none
  | .alloc t => o.dst.bind fun d => (zeroT P t).bind fun z => st.newBox d z.cells
  | .box t x => o.dst.bind fun d => (st.pv x).bind fun p => if some p.cells.length = sizeT P t ∧ isTup p = false then st.newBox d p.cells else none
  | .store t a x => if o.dst = none then match st.ev a with
    | some (.bp k off) => match x, st.ev x with
      | .tmp u, some (.pv p) => if some p.cells.length = sizeT P t ∧ isTup p = false then (st.setBox k off p.cells).map fun s =>
          match lookP s.gr (.s u), isRowT P t with
          | some z, false => { s with gr := (.c k off, z) :: s.gr.filter (fun x => x.1 ≠ .s u), tg := s.tg.map (killT (.s u)) }
          | _, _ => s else none
      | _, some (.pv p) => if some p.cells.length = sizeT P t ∧ isTup p = false then st.setBox k off p.cells else none
      | _, _ => none
    | some (.xe u off) => match look st.sl u, st.pv x with
      | some (.ex sz n cs), some p => if some p.cells.length = sizeT P t ∧ isTup p = false ∧ off + p.cells.length ≤ cs.length then some { st with sl := (u, .ex sz n (splice cs off p.cells)) :: drop1 st.sl u } else none
      | _, _ => none
    | _ => none else none
  | .makeSlice t l c => o.dst.bind fun d => match P.underlying t, (st.pv l).bind intOfPV, (st.pv c).bind intOfPV with
    | some (.slice e), some n, some m => (sizeT P e).bind fun s => (zeroT P e).bind fun z =>
      if 0 ≤ n ∧ n ≤ m ∧ m * P.bytesOf e ≤ room ∧ m ≤ room ∧ z.cells.length = s ∧ 0 < s then
        (if n = 0 then some (st.made (some d) { v := .pv (.sl s 0 []), gr := some s }) else some (st.put (some d) (.ex s n.toNat (zerosOf z.cells n.toNat)))) else none
    | _, _, _ => none
  | .call { callee := .builtin .append, args, argTypes } => o.dst.bind fun d => match args.toList, argTypes.toList with
    | [x, y], [T, U] => match P.underlying T, P.underlying U with
      | some (.slice e), some (.slice _) => (sizeT P e).bind fun s => (zeroT P e).bind fun z => (st.pv x).bind fun p => (viewS p).bind fun v => ((st.pv y).bind viewS).bind fun u =>
        if (v.1 + u.1) * P.bytesOf e ≤ room ∧ v.1 + u.1 ≤ room ∧ 0 < s ∧ z.cells.length = s ∧ u.2.length = u.1 * s ∧ v.2.length = v.1 * s then
          match p with
          | .lit _ => if u.1 = 0 then some (st.put (some d) (.pv p)) else some (st.made (some d) { v := .pv (.sl s u.1 u.2), gr := some s })
          | _ => match x with
            | .tmp t =>
              (if lookP st.gr (.s t) = some s then some (Pl.s t) else match st.tag t with | some q => if lookP st.gr q = some s then some q else none | none => none).map fun q =>
                ({ st with gr := st.gr.filter (fun x => x.1 ≠ q), tg := st.tg.map (killT q) }).made (some d) { v := .pv (.sl s (v.1 + u.1) (v.2 ++ u.2)), gr := some s }
            | _ => none
        else none
      | _, _ => none
    | _, _ => none
  | _ => none

def isQuiet : Op → Bool
  | .move _ | .pick .. | .binOp .. | .unOp .. | .convert .. | .fieldAddr .. | .field .. | .indexAddr .. | .index .. | .load .. | .build .. | .buildSlice .. | .extract .. | .slice .. | .makeFunc .. | .nilCheck _ => true
  | .call { callee := .builtin .append, .. } => false
  | .call _ => true
  | _ => false

def aop (P : Program) (call : Nat → List PV → Option RV) (o : Oper) (st : St) : Option St :=
  if isQuiet o.op then (quiet P call o st).map (st.made o.dst) else effect P o st
def isEx : AV → Bool
  | .ex .. => true
  | _ => false
/-- In a region that draws its order: what is made is not appended to; assignments and new variables are values like others. -/
def quietD (P : Program) (call : Nat → List PV → Option RV) (o : Oper) (st : St) : Option Made :=
  match o.op with
  | .assign x => match st.ev x with
    | some (.pv p) => some { v := .pv p }
    | some (.bp k off) => some { v := .bp k off }
    | some (.cl f caps) => some { v := .cl f caps }
    | _ => none
  | .alloc t => (zeroT P t).map fun z => { v := .newp z.cells }
  | _ => (quiet P call o st).bind fun m => if isEx m.v then none else some { m with gr := none }
def St.putD (st : St) (dst : Option Tmp) (m : Made) : St :=
  match dst with
  | none => st
  | some d => { st with sl := (d, m.v) :: drop1 st.sl d, tg := (d, m.tg) :: drop1 st.tg d }
/-- Does the guard let the operation run? -/
def aWanted (ops : List Oper) (o : Oper) (st : St) : Option Bool :=
  match o.guard with
  | none => some true
  | some (j, want) => ((ops[j]?).bind (·.dst)).bind fun t => match look st.sl t with
    | some (.pv (.lit (.bool b))) => some (b == want)
    | some (.pv (.tup [])) => some false
    | _ => none
def aops (step : Oper → St → Option St) (ops : List Oper) : List Oper → St → Option St
  | [], st => some st
  | o :: l, st => (aWanted ops o st).bind fun
    | true => (step o st).bind (aops step ops l)
    | false => aops step ops l (st.put o.dst undefA)
def aopsD (P : Program) (call : Nat → List PV → Option RV) (ops : List Oper) : List Oper → St → Option St
  | [], st => some st
  | o :: l, st => (aWanted ops o st).bind fun
    | true => (quietD P call o st).bind fun m => aopsD P call ops l (st.putD o.dst m)
    | false => aopsD P call ops l (st.putD o.dst { v := undefA })
def isQuietD : Op → Bool
  | .assign _ | .alloc _ => true
  | op => isQuiet op
/-- How many operations a drawn region begins with that only make values. -/
def quietN (ops : List Oper) : Nat :=
  let n := (ops.takeWhile fun o => isQuietD o.op).length
  if n = ops.length then n - 1 else n
def freshDst (st : St) (o : Oper) : Bool :=
  match o.dst with
  | some d => (lookP st.gr (.s d)).isNone && (match look st.sl d with | some (.ex ..) => false | _ => true)
  | none => false
/-- The new variables of a drawn region. -/
def St.settle1 (st : St) (o : Oper) : Option St :=
  match o.dst with
  | some d => match look st.sl d with
    | some (.newp cs) => st.newBox d cs
    | _ => some st
  | none => some st
def St.settle (st : St) : List Oper → Option St
  | [] => some st
  | o :: l => (st.settle1 o).bind fun s => s.settle l
def aregion (P : Program) (call : Nat → List PV → Option RV) (ops : List Oper) (draw : Bool) (st : St) : Option St :=
  if draw then
    let n := quietN ops
    if (ops.take n).all (freshDst st) then (aopsD P call ops (ops.take n) st).bind fun s => (s.settle (ops.take n)).bind (aops (aop P call) ops (ops.drop n)) else none
  else aops (aop P call) ops ops st

/-! ### Code -/
/-- What is kept behind a region; which arrays of the frame's own are from here on only read. -/
structure Note where
  keep : List Nat
  still : List Nat := []
def St.still1 (st : St) (t : Nat) : St :=
  match look st.sl t with
  | some (.ex sz n cs) => ({ st with sl := (drop1 st.sl t).map (killA t) } : St).made (some t) { v := .pv (.sl sz n cs), gr := some sz }
  | _ => st
def isRef : AV → Bool
  | .xr _ | .xe .. => true
  | _ => false
def shedR (v : AV) : AV := if isRef v then .dead else v
/-- What is kept, in the order of the list: the state behind a region has one form. -/
def keepL (l : List (Nat × AV)) : List Nat → List (Nat × AV)
  | [] => []
  | k :: ks => match look l k with
    | some v => (k, shedR v) :: keepL l ks
    | none => keepL l ks
def keepB (l : List (Nat × List PV)) : List Nat → List (Nat × List PV)
  | [] => []
  | k :: ks => match look l k with
    | some v => (k, v) :: keepB l ks
    | none => keepB l ks
def Pl.of (k : Nat) : Pl → Bool
  | .s t => decide (t = k)
  | .c j _ => decide (j = k)
def keepG (l : List (Pl × Nat)) : List Nat → List (Pl × Nat)
  | [] => []
  | k :: ks => l.filter (fun x => x.1.of k) ++ keepG l ks
def St.keepOnly (st : St) (ks : List Nat) : St :=
  { sl := keepL st.sl ks, bx := keepB st.bx ks, gr := keepG st.gr ks, tg := [] }
inductive Xt where
  | normal | exit (id : Nat) | ret
  deriving DecidableEq
/-- The slots that the code writes. -/
def dstsOf : Code → List Nat
  | .region _ ops _ => ops.toList.filterMap (·.dst)
  | .seq a b | .cond _ a b => dstsOf a ++ dstsOf b
  | .block _ c | .loop c => dstsOf c
  | .rangeFunc _ ps a b => ps.toList ++ (dstsOf a ++ dstsOf b)
  | _ => []
/-- No loop over a function within. -/
def flat : Code → Bool
  | .seq a b | .cond _ a b => flat a && flat b
  | .block _ c | .loop c => flat c
  | .rangeFunc .. => false
  | _ => true
/-! ### Loops over a function: the rounds start with the slots that were there ahead of the loop; what they share are variables in memory -/
def capIn (ks : List Nat) : Cap → Bool
  | .bp k _ => ks.contains k
  | _ => false
def shedV (ks : List Nat) : AV → AV
  | .pv p => .pv p
  | .bp k off => if ks.contains k then .dead else .bp k off
  | .cl f caps => if caps.any (capIn ks) then .dead else .cl f caps
  | _ => .dead
def shedX (ks : List Nat) (x : Nat × AV) : Nat × AV := (x.1, shedV ks x.2)
def Pl.inC (f : Nat → Bool) : Pl → Bool
  | .s _ => false
  | .c k _ => f k
def St.shed (st : St) (ks : List Nat) : St :=
  { sl := st.sl.map (shedX ks), bx := st.bx.filter (fun x => !ks.contains x.1), gr := st.gr.filter (fun x => x.1.inC fun k => !ks.contains k), tg := [] }
def St.after (st1 cur : St) : St :=
  { sl := st1.sl, bx := cur.bx.filter (fun x => (look st1.bx x.1).isSome), gr := cur.gr.filter (fun x => x.1.inC fun k => (look st1.bx k).isSome), tg := [] }
def putArgs : List Nat → List PV → St → St
  | p :: ps, x :: xs, st => putArgs ps xs (st.put (some p) (.pv x))
  | _, _, st => st
def arounds (asg body : St → Option (Xt × St)) (st1 : St) (ps : List Nat) : List (List PV) → St → Option (Xt × St)
  | [], cur => some (.normal, st1.after cur)
  | x :: xs, cur => (asg (putArgs ps x (st1.after cur))).bind fun
    | (.normal, s) => (body s).bind fun
      | (.normal, s2) => arounds asg body st1 ps xs s2
      | (e, s2) => some (e, st1.after s2)
    | _ => none
def arun (P : Program) (call : Nat → List PV → Option RV) (it : Nat → List PV → Option (Nat × List (List PV))) (loop : (St → Option (Xt × St)) → St → Option (Xt × St)) (note : Nat → Note) : Code → St → Option (Xt × St)
  | .skip, st => some (.normal, st)
  | .region id ops dr, st => (aregion P call ops.toList dr ((note id).still.foldl St.still1 st)).map fun s => (.normal, s.keepOnly (note id).keep)
  | .seq a b, st => (arun P call it loop note a st).bind fun
    | (.normal, s) => arun P call it loop note b s
    | r => some r
  | .cond c t e, st => (st.val c).bind fun
    | .bool true => arun P call it loop note t st
    | .bool false => arun P call it loop note e st
    | _ => none
  | .block id c, st => (arun P call it loop note c st).map fun
    | (.exit j, s) => if j = id then (.normal, s) else (.exit j, s)
    | r => r
  | .loop c, st => loop (arun P call it loop note c) st
  | .rangeFunc g ps asg body, st => (st.pv g).bind fun
    | .fn f caps => (it f caps).bind fun x => if x.1 = ps.size then
        arounds (arun P call it loop note asg) (arun P call it loop note body) (st.shed (ps.toList ++ (dstsOf asg ++ dstsOf body))) ps.toList x.2 (st.shed (ps.toList ++ (dstsOf asg ++ dstsOf body))) else none
    | _ => none
  | .exit id, st => some (.exit id, st)
  | .ret, st => some (.ret, st)
  | _, _ => none

def St.fix (st : St) : ResultVar → St
  | .tmp t => st.still1 t
  | .cell _ _ => st
def aresult (P : Program) (st : St) : ResultVar → Option RV
  | .tmp t => match look st.sl t with
    | some (.pv p) => some ⟨p, lookP st.gr (.s t)⟩
    | _ => none
  | .cell t ty => match look st.sl t with
    | some (.bp k o) => (look st.bx k).bind fun cs => (takeT P ty cs o).map fun p => ⟨p, if isRowT P ty then none else lookP st.gr (.c k o)⟩
    | _ => none
def aresultsL (P : Program) (st : St) : List ResultVar → Option (List PV)
  | [] => some []
  | r :: l => (aresult P (st.fix r) r).bind fun v => (aresultsL P (st.fix r) l).map (v.v :: ·)
/-- A single result may be a function over variables of the frame's own. -/
def aresult1 (P : Program) (st : St) : ResultVar → Option RV
  | .tmp t => match look st.sl t with
    | some (.cl f caps) => (capsOf st caps).map fun ps => ⟨.fn f ps, none⟩
    | _ => aresult P st (.tmp t)
  | r => aresult P st r
def aresults (P : Program) (st : St) : List ResultVar → Option RV
  | [r] => aresult1 P (st.fix r) r
  | l => (aresultsL P st l).map fun vs => ⟨.tup vs, none⟩

def slotsOf : Nat → List PV → List (Nat × AV)
  | _, [] => []
  | i, p :: l => (i, .pv p) :: slotsOf (i + 1) l
def St.enter (args : List PV) : St := { sl := slotsOf 0 args, bx := [], gr := [], tg := [] }
def abody (P : Program) (call : Nat → List PV → Option RV) (it : Nat → List PV → Option (Nat × List (List PV))) (loop : (St → Option (Xt × St)) → St → Option (Xt × St)) (note : Nat → Note) (fn : Func) (args : List PV) : Option RV :=
  fn.body.bind fun c => (arun P call it loop note c (.enter args)).bind fun
    | (.exit _, _) => none
    | (_, st) => aresults P st fn.results.toList

def loopN (f : St → Option (Xt × St)) : Nat → St → Option (Xt × St)
  | 0, _ => none
  | n + 1, st => (f st).bind fun
    | (.normal, s) => loopN f n s
    | r => some r
/-- The machine: what is taken as it is told ('prim'), and the notes. -/
structure Mach where
  P : Program
  prim : Nat → Option ((Nat → List PV → Option RV) → List PV → Option RV)
  note : Nat → Nat → Note
  iter : Nat → List PV → Option (Nat × List (List PV)) := fun _ _ => none
def acall (M : Mach) : Nat → Nat → List PV → Option RV
  | 0, _, _ => none
  | n + 1, f, args => match M.prim f with
    | some g => g (acall M n) args
    | none => (M.P.funcs[f]?).bind fun fn => abody M.P (acall M n) M.iter (fun g => loopN g n) (M.note f) fn args
end Go.Proofs.YtibbgjafjhcemaaDoor.Cul
namespace Go.Proofs.YtibbgjafjhcemaaDoor.Cul
open Go
/-! ### What is asked of the code beforehand: closed, reckoned once a function -/
def tmpsOf (o : Oper) : List Nat := o.op.operands.toList.filterMap fun | .tmp t => some t | _ => none
def bindsOn (o : Oper) (j : Nat) : Bool := o.after.any fun e => Region.binds .any e && e.on == j
/-- Operation i of a drawn region: what it reads is made before it, or is written only behind it. -/
def okDeps (ops : List Oper) (n i : Nat) (o : Oper) : Bool :=
  (match o.guard with | some (j, _) => decide (j < i) && bindsOn o j | none => true) &&
  (o.after.all fun e => !Region.binds .any e || decide (e.on < i)) &&
  (List.range n).all fun j => match (ops[j]?).bind (·.dst) with
    | some d => (!(tmpsOf o).contains d || (decide (j < i) && bindsOn o j) || (decide (i < j) && (match ops[j]? with | some oj => bindsOn oj i | none => false)) || j == i) && (j == i || o.dst != some d)
    | none => false
def listedTo (m n : Nat) : Array Bool := ((List.range m).map fun i => decide (i < n)).toArray
def okDraw (ops : Array Oper) : Bool :=
  let n := quietN ops.toList
  decide (n < ops.size) && Region.sinkB .any ops n && Region.chainB .any ops n && Region.seqB .any ops (ops.size - n) n (listedTo ops.size n) &&
  (List.range n).all fun i => match ops[i]? with | some o => isQuietD o.op && okDeps ops.toList n i o | none => false
def okOps (N : Nat) (ops : Array Oper) (draw : Bool) : Bool :=
  (ops.toList.all fun o => match o.dst with | some d => decide (d < N) | none => true) && (!draw || okDraw ops)
def okCode (N : Nat) : Code → Bool
  | .region _ ops dr => okOps N ops dr
  | .seq a b => okCode N a && okCode N b
  | .cond _ a b => okCode N a && okCode N b
  | .block _ c => okCode N c
  | .loop c => okCode N c
  | .rangeFunc _ ps a b => flat a && flat b && okCode N a && okCode N b && ps.toList.all fun p => decide (p < N)
  | .skip | .exit _ | .ret => true
  | _ => false
def okFn (fn : Func) : Bool := match fn.body with | some c => okCode fn.ntmps c && !(fn.name == "runtime.NumGoroutine") | none => true
end Go.Proofs.YtibbgjafjhcemaaDoor.Cul
