/- Part of a proof by an abstract machine for the program's code: lemmas, without conditions of their own beyond those that each states. -/
import Derived.WalkKit
import Derived.WalkSpells
import Derived.WalkLawsBesides
import Derived.Deep.MidRow
import Derived.StillTail
import Derived.KernelRfl
import Derived.RangeFuncOwn
import Derived.RangeFuncWrites
import Derived.Laws.CopyRow
/-! M1 -/
set_option linter.unusedVariables false
set_option linter.unusedSimpArgs false
namespace Go.Proofs.YtibbgjafjhcemaaDoor.Cul
open Go Go.RowKit

/-! ### Values without memory -/
/-- A persistent value: what it leads to in memory is told with it. -/
inductive PV where
  | lit (v : Value)
  | sl (sz n : Nat) (cs : List PV)
  | el (cs : List PV)
  | fn (f : Nat) (caps : List PV)
  | ag (cs : List PV)
  | tup (vs : List PV)
  deriving Inhabited

/-- A value that bears no address. -/
def scal : Value → Bool
  | .bool _ | .int .. | .string _ | .nilFunc | .slice none 0 0 | .pointer none | .map none | .nilIface => true
  | .func (.yield _) fi ca => fi.isEmpty && ca.isEmpty
  | _ => false

/-- A captured value of a closure: plain, or one of the frame's own variables. -/
inductive Cap where
  | pv (p : PV)
  | bp (k off : Nat)

/-- What a slot holds. -/
inductive AV where
  | pv (p : PV)
  | bp (k off : Nat)
  | cl (f : Nat) (caps : List Cap)
  | ex (sz n : Nat) (cs : List PV)
  | xr (t : Nat)
  | xe (t off : Nat)
  | newp (cs : List PV) (s : Option (Nat × Nat))
  | dead
  | bs (k off sz n : Nat)
  | mv (f k off sz n : Nat)
  | tg (k off sz n : Nat) (rest : List PV)

/-- Where a slice that may be appended to lies. -/
inductive Pl where
  | s (t : Nat)
  | c (k off : Nat)
  deriving DecidableEq

def Pl.kept (ks : List Nat) : Pl → Bool
  | .s t => ks.contains t
  | .c k _ => ks.contains k
def Pl.notBox (d : Nat) : Pl → Bool
  | .c k _ => decide (k ≠ d)
  | _ => true
def killBox (d : Nat) (x : Nat × Option Pl) : Nat × Option Pl := (x.1, x.2.bind fun p => if p.notBox d then some p else none)
def Pl.out (k off n : Nat) : Pl → Bool
  | .c j o => !(decide (j = k) && decide (off ≤ o) && decide (o < off + n))
  | _ => true
def killOut (k off n : Nat) (x : Nat × Option Pl) : Nat × Option Pl := (x.1, x.2.bind fun p => if p.out k off n then some p else none)
structure St where
  sl : List (Nat × AV)
  bx : List (Nat × List PV)
  gr : List (Pl × Nat)
  tg : List (Nat × Option Pl)

def lookP : List (Pl × Nat) → Pl → Option Nat
  | [], _ => none
  | (k, v) :: l, t => if k = t then some v else lookP l t
def look {α : Type} : List (Nat × α) → Nat → Option α
  | [], _ => none
  | (k, v) :: l, t => if k = t then some v else look l t
def drop1 {α : Type} : List (Nat × α) → Nat → List (Nat × α)
  | [], _ => []
  | (k, v) :: l, t => if k = t then drop1 l t else (k, v) :: drop1 l t

def refersTo (t : Nat) : AV → Bool
  | .xr u => decide (u = t)
  | .xe u _ => decide (u = t)
  | _ => false
def killA (d : Nat) (x : Nat × AV) : Nat × AV := (x.1, if refersTo d x.2 then .dead else x.2)
def killT (p : Pl) (x : Nat × Option Pl) : Nat × Option Pl := (x.1, if x.2 = some p then none else x.2)
def St.tag (st : St) (t : Nat) : Option Pl := (look st.tg t).bind id
def St.put (st : St) (dst : Option Tmp) (v : AV) : St :=
  match dst with
  | none => st
  | some d => { sl := killA d (d, v) :: (drop1 st.sl d).map (killA d), bx := st.bx, gr := st.gr.filter (fun p => p.1 ≠ .s d), tg := (drop1 st.tg d).map (killT (.s d)) }

/-! ### Pure operations: the model's own -/
def evalPure {α : Type} (P : Program) : Sem α → Option α
  | .pure a => some a
  | .program k => evalPure P (k P)
  | .mark _ k => evalPure P k
  | _ => none

def litsOf : List Value → Option (List PV)
  | [] => some []
  | v :: l => if scal v then (litsOf l).map (PV.lit v :: ·) else none
def pvOf : Value → Option PV
  | .agg cs => (litsOf cs.toList).map .ag
  | v => if scal v then some (.lit v) else none
def valsOf : List PV → Option (List Value)
  | [] => some []
  | .lit v :: l => (valsOf l).map (v :: ·)
  | _ :: _ => none
def valOf : PV → Option Value
  | .lit v => some v
  | .ag cs => (valsOf cs).map fun l => .agg l.toArray
  | .fn f [] => some (.func (.func f) #[] #[])
  | _ => none
def undefA : AV := .pv (.tup [])

def St.ev (st : St) : Operand → Option AV
  | .tmp t => look st.sl t
  | .const v => (pvOf v).map .pv
  | .func f => some (.pv (.fn f []))
  | .global _ => none
def St.pv (st : St) (x : Operand) : Option PV :=
  match st.ev x with
  | some (.pv p) => some p
  | _ => none
def St.val (st : St) (x : Operand) : Option Value := (st.pv x).bind valOf

/-- A pure operation on plain values: the model's own answer. -/
def pureOp (P : Program) (s : Sem Value) : Option PV := (evalPure P s).bind pvOf

/-! ### Types -/
def isRowT (P : Program) (t : TypeId) : Bool := match P.underlying t with | some (.struct _) | some (.array _ _) => true | _ => false
def sizeT (P : Program) (t : TypeId) : Option Nat := (P.info? t).map (·.size)
def zeroT (P : Program) (t : TypeId) : Option PV := ((P.info? t).bind (·.zero)).bind pvOf
def PV.cells : PV → List PV
  | .ag cs => cs
  | p => [p]
def fieldT (P : Program) (s : TypeId) (f : Nat) : Option (Nat × TypeId) :=
  match P.underlying s with
  | some (.struct fs) => (fs[f]?).bind fun f => if sizeT P f.type = some 0 then none else (sizeT P f.type).map fun _ => (f.offset, f.type)
  | _ => none
/-- A variable of type t out of cells. -/
def takeT (P : Program) (t : TypeId) (cs : List PV) (off : Nat) : Option PV :=
  (sizeT P t).bind fun s => if off + s ≤ cs.length then (if isRowT P t then some (.ag ((cs.drop off).take s)) else if s = 1 ∧ (P.underlying t).isSome = true then cs[off]? else none) else none
def row (cs : List PV) (sz i : Nat) : List PV := (cs.drop (i * sz)).take sz
def splice (cs : List PV) (off : Nat) (new : List PV) : List PV := cs.take off ++ new ++ cs.drop (off + new.length)
/-- A slice's length and cells, whatever slice it is. -/
def viewS : PV → Option (Nat × List PV)
  | .lit (.slice none 0 0) => some (0, [])
  | .sl _ n cs => some (n, cs)
  | _ => none
def intOfPV : PV → Option Int
  | .lit (.int _ n) => some n
  | _ => none

/-! ### The operations that only make a value -/
structure Made where
  v : AV
  gr : Option Nat := none
  tg : Option Pl := none

def mkd (v : Option PV) : Option Made := v.map fun p => { v := .pv p }

def capBox : Cap → Bool
  | .bp .. => true
  | _ => false
def capsOf (st : St) : List Cap → Option (List PV)
  | [] => some []
  | .pv p :: l => (capsOf st l).map (p :: ·)
  | .bp k off :: l => (look st.bx k).bind fun cs => (capsOf st l).map (PV.el (cs.drop off) :: ·)
/-- What a function answers: a value, and whether it may be appended to. -/
structure RV where
  v : PV
  gr : Option Nat
/-- What a callee that writes into an array of the caller's is handed: values, and that array: its cells, and which slice of it. -/
inductive MA where
  | p (p : PV)
  | g (cs : List PV) (off sz n : Nat)
/-- What it answers: a plain value; a slice of the array; both. -/
inductive MR where
  | pv (p : PV)
  | gs (off n : Nat)
  | gt (off n : Nat) (rest : List PV)
/-- What is known of the callees. -/
structure Cl where
  fn : Nat → List PV → Option RV
  ex : Nat → Nat → Bool := fun _ _ => false
  im : Nat → Bool := fun _ => false
  mu : Nat → List MA → Option (MR × List PV) := fun _ _ => none
/-- A value on its way to a callee: the frame's own variables are only read there. -/
def St.argOf (st : St) : AV → Option PV
  | .pv p => some p
  | .bp k off => (look st.bx k).map fun cs => .el (cs.drop off)
  | .bs k off sz n => (look st.bx k).map fun cs => .sl sz n ((cs.drop off).take (n * sz))
  | .cl f caps => (capsOf st caps).map (PV.fn f)
  | _ => none
def leadsOut : AV → Bool
  | .bp .. => true
  | .bs .. => true
  | .mv .. => true
  | .tg .. => true
  | .cl _ caps => caps.any capBox
  | _ => false

def fillPV (place : Nat → Option (Nat × Nat)) (cells : List PV) : List (Nat × PV) → Option (List PV)
  | [] => some cells
  | (i, v) :: rest =>
    match place i with
    | none => none
    | some (off, size) => if v.cells.length ≠ size ∨ off + size > cells.length then none else fillPV place (splice cells off v.cells) rest
def isTup : PV → Bool
  | .tup _ => true
  | _ => false
def partsOf (st : St) : List (Nat × Operand) → Option (List (Nat × PV))
  | [] => some []
  | (i, x) :: l => (st.pv x).bind fun p => if isTup p then none else (partsOf st l).map ((i, p) :: ·)
def zerosOf {α : Type} (z : List α) : Nat → List α
  | 0 => []
  | n + 1 => z ++ zerosOf z n
def bytesOf : List PV → Option (List UInt8)
  | [] => some []
  | .lit (.int .u8 n) :: l => (bytesOf l).map (UInt8.ofNat n.toNat :: ·)
  | _ :: _ => none
def argsOf (st : St) : List Operand → Option (List PV)
  | [] => some []
  | x :: l => ((st.ev x).bind st.argOf).bind fun p => (argsOf st l).map (p :: ·)

def capturedOf (st : St) : List Operand → Option (List Cap)
  | [] => some []
  | x :: l => match st.ev x with
    | some (.pv p) => (capturedOf st l).map (Cap.pv p :: ·)
    | some (.bp k o) => (capturedOf st l).map (Cap.bp k o :: ·)
    | _ => none
/-- A value that says the same in every memory. -/
def plainR : PV → Bool
  | .tup [] => true
  | p => (valOf p).isSome
def callOut (call : Cl) (out : Bool) (f : Nat) (args : List PV) : Option Made :=
  (call.fn f args).bind fun r => if out then (if plainR r.v then some { v := .pv r.v } else none) else some { v := .pv r.v, gr := r.gr }

def placesOf (P : Program) : List Field → Option (List (Nat × Nat))
  | [] => some []
  | f :: l => (sizeT P f.type).bind fun s => (placesOf P l).map ((f.offset, s) :: ·)
def quiet (P : Program) (call : Cl) (o : Oper) (st : St) : Option Made :=
  match o.op with
  | .move x =>
    match x, st.ev x with
    | _, some (.xr t) => some { v := .xr t }
    | _, some (.xe t off) => some { v := .xe t off }
    | _, some (.newp _ _) => none
    | .tmp t, some (.ex ..) => some { v := .xr t }
    | .tmp t, some v => some { v, tg := if (lookP st.gr (.s t)).isSome then some (.s t) else st.tag t }
    | _, some (.ex ..) => none
    | _, some v => some { v }
    | _, none => none
  | .pick c a b => (st.val c).bind fun
    | .bool t => (st.pv (if t then a else b)).map fun p => { v := .pv p }
    | _ => none
  | .binOp op t x y _ => (st.val x).bind fun a => (st.val y).bind fun b => mkd (pureOp P (do eqGuard op t x y a b; binOp op t a b))
  | .unOp op _ x => (st.val x).bind fun a => mkd (pureOp P (Op.unary op a))
  | .convert src dst x => match st.pv x with
    | some (.sl 1 n cs) => match P.underlying src, P.underlying dst with
      | some (.slice e), some .string => match P.underlying e with
        | some (.int .u8) => (bytesOf cs).map fun l => { v := .pv (.lit (.string ⟨l.toArray⟩)) }
        | _ => none
      | _, _ => none
    | some p => (valOf p).bind fun a => mkd (pureOp P (convert src dst a))
    | none => none
  | .fieldAddr s x f => (fieldT P s f).bind fun (off, _) => match st.ev x with
    | some (.bp k o) => some { v := .bp k (o + off) }
    | some (.xe t o) => some { v := .xe t (o + off) }
    | some (.pv (.el cs)) => some { v := .pv (.el (cs.drop off)) }
    | _ => none
  | .field s x f => (fieldT P s f).bind fun (off, t) => match st.pv x with
    | some (.ag cs) => mkd (takeT P t cs off)
    | _ => none
  | .indexAddr t x i => ((st.pv i).bind intOfPV).bind fun n => match P.underlying t with
    | some (.array len e) => (sizeT P e).bind fun s => if 0 ≤ n ∧ n < len then match st.ev x with
      | some (.bp k o) => some { v := .bp k (o + n.toNat * s) }
      | some (.pv (.el cs)) => some { v := .pv (.el (cs.drop (n.toNat * s))) }
      | _ => none else none
    | some (.slice e) => (sizeT P e).bind fun s => match st.ev x with
      | some (.pv (.sl sz len cs)) => if sz = s ∧ 0 ≤ n ∧ n < len then some { v := .pv (.el (row cs sz n.toNat)) } else none
      | some (.xr u) => match look st.sl u with
        | some (.ex sz len cs) => if sz = s ∧ 0 ≤ n ∧ n < len then some { v := .xe u (n.toNat * sz) } else none
        | _ => none
      | some (.bs k off sz len) => if sz = s ∧ 0 ≤ n ∧ n < len then some { v := .bp k (off + n.toNat * sz) } else none
      | _ => none
    | _ => none
  | .index t x i => match P.underlying t, st.pv x with
    | some (.array len e), some (.ag cs) => ((st.pv i).bind intOfPV).bind fun n => (sizeT P e).bind fun s => if 0 ≤ n ∧ n < len then mkd (takeT P e cs (n.toNat * s)) else none
    | _, _ => (st.val x).bind fun a => (st.val i).bind fun b => mkd (pureOp P (Instr.index t a b))
  | .load t x => match st.ev x with
    | some (.bp k o) => (look st.bx k).bind fun cs => (takeT P t cs o).map fun p => { v := .pv p, tg := if !isRowT P t && (lookP st.gr (.c k o)).isSome then some (.c k o) else none }
    | some (.pv (.el cs)) => mkd (takeT P t cs 0)
    | some (.xe u o) => match look st.sl u with
      | some (.ex _ _ cs) => mkd (takeT P t cs o)
      | _ => none
    | _ => none
  | .build t parts => match zeroT P t, partsOf st parts.toList with
    | some (.ag z), some ps => match P.underlying t with
      | some (.struct fs) => (placesOf P fs.toList).bind fun pl => (fillPV (fun i => pl[i]?) z ps).map fun cs => { v := .pv (.ag cs) }
      | some (.array _ e) => (sizeT P e).bind fun s => (fillPV (fun i => some (i * s, s)) z ps).map fun cs => { v := .pv (.ag cs) }
      | _ => none
    | _, _ => none
  | .buildSlice t len parts => match P.underlying t with
    | some (.slice e) => (sizeT P e).bind fun s => (zeroT P e).bind fun z => if len * s ≤ 2 ^ 24 ∧ z.cells.length = s then
        (partsOf st parts.toList).bind fun ps => (fillPV (fun i => some (i * s, s)) (zerosOf z.cells len) ps).map fun cs => { v := .pv (.sl s len cs), gr := if len = 0 ∨ s = 0 then none else some s } else none
    | _ => none
  | .extract x i => match st.ev x with
    | some (.pv (.tup vs)) => mkd vs[i]?
    | some (.tg k off sz n rest) => match i with
      | 0 => some { v := .bs k off sz n }
      | i + 1 => mkd rest[i]?
    | _ => none
  | .slice t x lo hi mx => match st.ev x with
    | some (.bs k off sz n) => match P.underlying t, mx with
      | some (.slice e), none => if sizeT P e = some sz then
          (match hi with | none => some (n : Int) | some y => (st.pv y).bind intOfPV).bind fun h =>
          (match lo with | none => some (0 : Int) | some y => (st.pv y).bind intOfPV).bind fun l =>
          if 0 ≤ l ∧ l ≤ h ∧ h ≤ n then some { v := .bs k (off + l.toNat * sz) sz (h.toNat - l.toNat) } else none else none
      | _, _ => none
    | some (.pv (.sl sz n cs)) => match P.underlying t, mx with
      | some (.slice e), none => if sizeT P e = some sz then
          (match hi with | none => some (n : Int) | some y => (st.pv y).bind intOfPV).bind fun h =>
          (match lo with | none => some (0 : Int) | some y => (st.pv y).bind intOfPV).bind fun l =>
          if 0 ≤ l ∧ l ≤ h ∧ h ≤ n then some { v := .pv (.sl sz (h.toNat - l.toNat) ((cs.drop (l.toNat * sz)).take ((h.toNat - l.toNat) * sz))) } else none else none
      | _, _ => none
    | some (.pv p) => (valOf p).bind fun a => match mx, lo, hi with
      | none, none, none => mkd (pureOp P (Instr.sliceAt t a none none none))
      | none, some l, none => (st.val l).bind fun l => mkd (pureOp P (Instr.sliceAt t a (some l) none none))
      | none, none, some h => (st.val h).bind fun h => mkd (pureOp P (Instr.sliceAt t a none (some h) none))
      | none, some l, some h => (st.val l).bind fun l => (st.val h).bind fun h => mkd (pureOp P (Instr.sliceAt t a (some l) (some h) none))
      | _, _, _ => none
    | _ => none
  | .makeFunc (.func f) first captured => match first.toList, captured.toList with
    | [], cs => (capturedOf st cs).map fun caps => { v := .cl f caps }
    | [x], [] => match st.ev x with
      | some (.bs k off sz n) => some { v := .mv f k off sz n }
      | _ => none
    | _, _ => none
  | .nilCheck x => match st.ev x with
    | some (.bp k o) => some { v := .bp k o }
    | some (.pv (.el cs)) => some { v := .pv (.el cs) }
    | some (.pv (.fn f caps)) => some { v := .pv (.fn f caps) }
    | _ => none
  | .call { callee := .builtin .len, args, argTypes } => match args.toList with
    | [x] => match st.ev x with
      | some (.pv (.sl _ n _)) => match (argTypes[0]?).bind P.underlying with | some (.slice _) => some { v := .pv (.lit (.int .i64 n)) } | _ => none
      | some (.xr u) => match look st.sl u, (argTypes[0]?).bind P.underlying with | some (.ex _ n _), some (.slice _) => some { v := .pv (.lit (.int .i64 n)) } | _, _ => none
      | some (.bs _ _ _ n) => match (argTypes[0]?).bind P.underlying with | some (.slice _) => some { v := .pv (.lit (.int .i64 n)) } | _ => none
      | some (.pv p) => (valOf p).bind fun a => mkd (pureOp P (Builtin.len_ argTypes o.type #[a]))
      | _ => none
    | _ => none
  | .call { callee := .builtin .max, args, argTypes } => match args.toList with
    | [x, y] => (st.val x).bind fun a => (st.val y).bind fun b => mkd (pureOp P (Builtin.max_ argTypes o.type #[a, b]))
    | _ => none
  | .call { callee := .builtin .min, args, argTypes } => match args.toList with
    | [x, y] => (st.val x).bind fun a => (st.val y).bind fun b => mkd (pureOp P (Builtin.min_ argTypes o.type #[a, b]))
    | _ => none
  | .call { callee := .value g, args, .. } => match (st.ev g) with
    | some v => (st.argOf v).bind fun p => match p with
      | .fn f caps => (argsOf st args.toList).bind fun as_ => callOut call (leadsOut v || args.toList.any fun x => ((st.ev x).map leadsOut).getD true) f (as_ ++ caps)
      | _ => none
    | _ => none
  | _ => none

/-! ### The operations that change a variable -/
def St.made (st : St) (dst : Option Tmp) (m : Made) : St :=
  let s := st.put dst m.v
  match dst with
  | none => s
  | some d => { s with gr := match m.gr with | some z => (.s d, z) :: s.gr | none => s.gr, tg := match m.tg with | some p => (d, some p) :: s.tg | none => s.tg }
/-- No slot but d holds an address of the variable k. -/
def capNot (k : Nat) : Cap → Bool
  | .bp j _ => decide (j ≠ k)
  | _ => true
def noPtr (k : Nat) : AV → Bool
  | .bp j _ => decide (j ≠ k)
  | .bs j _ _ _ => decide (j ≠ k)
  | .mv _ j _ _ _ => decide (j ≠ k)
  | .tg j _ _ _ _ => decide (j ≠ k)
  | .cl _ caps => caps.all (capNot k)
  | _ => true
/-- A new variable, or array, of the frame's own. -/
def St.newBoxA (st : St) (d : Nat) (cs : List PV) (v : AV) : Option St :=
  let s := st.put (some d) v
  if (drop1 s.sl d).all (fun x => noPtr d x.2) then
    some { s with bx := (d, cs) :: drop1 s.bx d, gr := s.gr.filter (fun x => x.1.notBox d), tg := s.tg.map (killBox d) }
  else none
def St.newBox (st : St) (d : Nat) (cs : List PV) : Option St := st.newBoxA d cs (.bp d 0)
/-- A cell range of the variable k is written. -/
def St.setBox (st : St) (k off : Nat) (new : List PV) : Option St :=
  (look st.bx k).bind fun cs => if off + new.length ≤ cs.length then
    some { st with bx := (k, splice cs off new) :: drop1 st.bx k,
                   gr := st.gr.filter (fun x => x.1.out k off new.length),
                   tg := st.tg.map (killOut k off new.length) } else none
def room : Nat := 140737488355328
def effect (P : Program) (o : Oper) (st : St) : Option St :=
  match o.op with
  | .assign x =>
    match x, st.ev x with
    | .tmp t, some (.ex sz n cs) => o.dst.map fun d => ({ st with sl := (drop1 st.sl t).map (killA t) }).put (some d) (.ex sz n cs)
    | .tmp t, some (.pv p) => o.dst.map fun d => match lookP st.gr (.s t) with
      | some z => if t = d then st.put (some d) (.pv p) else
        ({ st with gr := st.gr.filter (fun x => x.1 ≠ Pl.s t), tg := st.tg.map (killT (.s t)) }).made (some d) { v := .pv p, gr := some z }
      | none => st.put (some d) (.pv p)
    | _, some (.pv p) => o.dst.map fun d => st.put (some d) (.pv p)
    | _, some (.cl f caps) => o.dst.map fun d => st.put (some d) (.cl f caps)
    | _, some (.bp k off) => o.dst.map fun d => st.put (some d) (.bp k off)
    | _, some (.bs k off sz n) => o.dst.map fun d => st.put (some d) (.bs k off sz n)
    | _, some (.mv f k off sz n) => o.dst.map fun d => st.put (some d) (.mv f k off sz n)
    | _, _ => none
  | .alloc t => o.dst.bind fun d => (zeroT P t).bind fun z => st.newBox d z.cells
  | .box t x => o.dst.bind fun d => (st.pv x).bind fun p => if some p.cells.length = sizeT P t ∧ isTup p = false then st.newBox d p.cells else none
  | .store t a x => if o.dst = none then match st.ev a with
    | some (.bp k off) => match x, st.ev x with
      | .tmp u, some (.pv p) => if some p.cells.length = sizeT P t ∧ isTup p = false then (st.setBox k off p.cells).map fun s =>
          match lookP s.gr (.s u), isRowT P t with
          | some z, false => { s with gr := (.c k off, z) :: s.gr.filter (fun x => x.1 ≠ .s u), tg := s.tg.map (killT (.s u)) }
          | _, _ => s else none
      | _, some (.pv p) => if some p.cells.length = sizeT P t ∧ isTup p = false then st.setBox k off p.cells else none
      | _, _ => none
    | some (.xe u off) => match look st.sl u, st.pv x with
      | some (.ex sz n cs), some p => if some p.cells.length = sizeT P t ∧ isTup p = false ∧ off + p.cells.length ≤ cs.length then some { st with sl := (u, .ex sz n (splice cs off p.cells)) :: drop1 st.sl u } else none
      | _, _ => none
    | _ => none else none
  | .makeSlice t l c => o.dst.bind fun d => match P.underlying t, (st.pv l).bind intOfPV, (st.pv c).bind intOfPV with
    | some (.slice e), some n, some m => (sizeT P e).bind fun s => (zeroT P e).bind fun z =>
      if 0 ≤ n ∧ n ≤ m ∧ m * P.bytesOf e ≤ room ∧ m ≤ room ∧ z.cells.length = s ∧ 0 < s then
        (if n = 0 then some (st.made (some d) { v := .pv (.sl s 0 []), gr := some s }) else st.newBoxA d (zerosOf z.cells n.toNat) (.bs d 0 s n.toNat)) else none
    | _, _, _ => none
  | .call { callee := .builtin .append, args, argTypes } => o.dst.bind fun d => match args.toList, argTypes.toList with
    | [x, y], [T, U] => match P.underlying T, P.underlying U with
      | some (.slice e), some (.slice _) => (sizeT P e).bind fun s => (zeroT P e).bind fun z => (st.pv x).bind fun p => (viewS p).bind fun v => ((st.pv y).bind viewS).bind fun u =>
        if (v.1 + u.1) * P.bytesOf e ≤ room ∧ v.1 + u.1 ≤ room ∧ 0 < s ∧ z.cells.length = s ∧ u.2.length = u.1 * s ∧ v.2.length = v.1 * s then
          match p with
          | .lit _ => if u.1 = 0 then some (st.put (some d) (.pv p)) else some (st.made (some d) { v := .pv (.sl s u.1 u.2), gr := some s })
          | _ => match x with
            | .tmp t =>
              (if lookP st.gr (.s t) = some s then some (Pl.s t) else match st.tag t with | some q => if lookP st.gr q = some s then some q else none | none => none).map fun q =>
                ({ st with gr := st.gr.filter (fun x => x.1 ≠ q), tg := st.tg.map (killT q) }).made (some d) { v := .pv (.sl s (v.1 + u.1) (v.2 ++ u.2)), gr := some s }
            | _ => none
        else none
      | _, _ => none
    | _, _ => none
  | _ => none

/-- A value that leads nowhere. -/
def litP' : PV → Bool
  | .lit v => scal v
  | _ => false
def isQuiet : Op → Bool
  | .move _ | .pick .. | .binOp .. | .unOp .. | .convert .. | .fieldAddr .. | .field .. | .indexAddr .. | .index .. | .load .. | .build .. | .buildSlice .. | .extract .. | .slice .. | .makeFunc .. | .nilCheck _ => true
  | .call { callee := .builtin .append, .. } => false
  | .call _ => true
  | _ => false

/-! ### Calls that write into an array of the frame's own, or whose answer becomes one -/
def maOf (st : St) : AV → Option MA
  | .pv p => some (.p p)
  | .bs k off sz n => (look st.bx k).map fun cs => .g cs off sz n
  | _ => none
def masOf (st : St) : List AV → Option (List MA)
  | [] => some []
  | v :: l => (maOf st v).bind fun m => (masOf st l).map (m :: ·)
/-- The one array among the arguments. -/
def guestOf : List AV → Option (Nat × Nat)
  | [] => none
  | .bs k _ sz _ :: l => if l.any leadsOut then none else some (k, sz)
  | v :: l => if leadsOut v then none else guestOf l
def evsOf (st : St) : List Operand → Option (List AV)
  | [] => some []
  | x :: l => (st.ev x).bind fun v => (evsOf st l).map (v :: ·)
def resA (k sz : Nat) : MR → AV
  | .pv p => .pv p
  | .gs off n => .bs k off sz n
  | .gt off n rest => .tg k off sz n rest
def mrOk : MR → Bool
  | .pv p => plainR p
  | .gs .. => true
  | .gt _ _ rest => rest.all plainR
def St.turnBox (st : St) (k : Nat) (cs : List PV) : St := { st with bx := (k, cs) :: drop1 st.bx k, gr := st.gr.filter (fun x => x.1.notBox k), tg := st.tg.map (killBox k) }
/-- The callee and all that it is handed. -/
def calleeOf (st : St) (o : Oper) : Option (Nat × List AV) :=
  match o.op with
  | .call { callee := .value g, args, .. } => match st.ev g with
    | some (.pv (.fn f [])) => (evsOf st args.toList).map (f, ·)
    | some (.mv f k off sz n) => (evsOf st args.toList).map fun l => (f, .bs k off sz n :: l)
    | _ => none
  | _ => none
def mutCall (call : Cl) (o : Oper) (st : St) (f : Nat) (vs : List AV) : Option St :=
  (guestOf vs).bind fun g => (masOf st vs).bind fun ms => (call.mu f ms).bind fun r =>
    if mrOk r.1 then some ((st.turnBox g.1 r.2).put o.dst (resA g.1 g.2 r.1)) else none
def exCall (call : Cl) (o : Oper) (st : St) : Option St :=
  match o.op with
  | .call { callee := .value g, args, .. } => match st.ev g with
    | some (.pv (.fn f caps)) => if args.toList.any (fun x => ((st.ev x).map leadsOut).getD true) then none else
      (argsOf st args.toList).bind fun as_ => (call.fn f (as_ ++ caps)).bind fun r => o.dst.bind fun d => match r.v, r.gr with
        | .sl sz n cs, some z => if z = sz ∧ cs.all litP' = true then st.newBoxA d cs (.bs d 0 sz n) else none
        | _, _ => none
    | _ => none
  | _ => none
def aop (P : Program) (call : Cl) (o : Oper) (st : St) : Option St :=
  match calleeOf st o with
  | some (f, vs) => if call.im f then mutCall call o st f vs else if call.ex f (o.dst.getD 0) then exCall call o st else if isQuiet o.op then (quiet P call o st).map (st.made o.dst) else effect P o st
  | none => if isQuiet o.op then (quiet P call o st).map (st.made o.dst) else effect P o st
def isEx : AV → Bool
  | .ex .. => true
  | _ => false
/-- In a region that draws its order: a call whose answer becomes an array of the frame's own. -/
def exD (call : Cl) (o : Oper) : Bool :=
  match o.op with
  | .call { callee := .value (.func f), .. } => call.ex f (o.dst.getD 0)
  | _ => false
def exMade (call : Cl) (o : Oper) (st : St) : Option Made :=
  match o.op with
  | .call { callee := .value (.func f), args, .. } => if args.toList.any (fun x => ((st.ev x).map leadsOut).getD true) then none else
    (argsOf st args.toList).bind fun as_ => (call.fn f as_).bind fun r => match r.v, r.gr with
      | .sl sz n cs, some z => if z = sz ∧ cs.all litP' = true then some { v := .newp cs (some (sz, n)) } else none
      | _, _ => none
  | _ => none
/-- In a region that draws its order: what is made is not appended to; assignments and new variables are values like others. -/
def quietD (P : Program) (call : Cl) (o : Oper) (st : St) : Option Made :=
  if exD call o then exMade call o st else match o.op with
  | .assign x => match st.ev x with
    | some (.pv p) => some { v := .pv p }
    | some (.bp k off) => some { v := .bp k off }
    | some (.cl f caps) => some { v := .cl f caps }
    | _ => none
  | .alloc t => (zeroT P t).map fun z => { v := .newp z.cells none }
  | _ => (quiet P call o st).bind fun m => if isEx m.v then none else some { m with gr := none }
def St.putD (st : St) (dst : Option Tmp) (m : Made) : St :=
  match dst with
  | none => st
  | some d => { st with sl := (d, m.v) :: drop1 st.sl d, tg := (d, m.tg) :: drop1 st.tg d }
/-- Does the guard let the operation run? -/
def aWanted (ops : List Oper) (o : Oper) (st : St) : Option Bool :=
  match o.guard with
  | none => some true
  | some (j, want) => ((ops[j]?).bind (·.dst)).bind fun t => match look st.sl t with
    | some (.pv (.lit (.bool b))) => some (b == want)
    | some (.pv (.tup [])) => some false
    | _ => none
def aops (step : Oper → St → Option St) (ops : List Oper) : List Oper → St → Option St
  | [], st => some st
  | o :: l, st => (aWanted ops o st).bind fun
    | true => (step o st).bind (aops step ops l)
    | false => aops step ops l (st.put o.dst undefA)
def aopsD (P : Program) (call : Cl) (ops : List Oper) : List Oper → St → Option St
  | [], st => some st
  | o :: l, st => (aWanted ops o st).bind fun
    | true => (quietD P call o st).bind fun m => aopsD P call ops l (st.putD o.dst m)
    | false => aopsD P call ops l (st.putD o.dst { v := undefA })
def isQuietD : Op → Bool
  | .assign _ | .alloc _ => true
  | op => isQuiet op
/-- How many operations a drawn region begins with that only make values. -/
def quietN (ops : List Oper) : Nat :=
  let n := (ops.takeWhile fun o => isQuietD o.op).length
  if n = ops.length then n - 1 else n
def freshDst (st : St) (o : Oper) : Bool :=
  match o.dst with
  | some d => (lookP st.gr (.s d)).isNone && (match look st.sl d with | some (.ex ..) => false | _ => true)
  | none => false
/-- The new variables of a drawn region. -/
def St.settle1 (st : St) (o : Oper) : Option St :=
  match o.dst with
  | some d => match look st.sl d with
    | some (.newp cs none) => st.newBox d cs
    | some (.newp cs (some (sz, n))) => st.newBoxA d cs (.bs d 0 sz n)
    | _ => some st
  | none => some st
def St.settle (st : St) : List Oper → Option St
  | [] => some st
  | o :: l => (st.settle1 o).bind fun s => s.settle l
def tmpsOf (o : Oper) : List Nat := o.op.operands.toList.filterMap fun | .tmp t => some t | _ => none
def bindsOn (o : Oper) (j : Nat) : Bool := o.after.any fun e => Region.binds .any e && e.on == j
/-- Operation i of a drawn region: what it reads is made before it, or is written only behind it. -/
def okDeps (ops : List Oper) (n i : Nat) (o : Oper) : Bool :=
  (match o.guard with | some (j, _) => decide (j < i) && bindsOn o j | none => true) &&
  (o.after.all fun e => !Region.binds .any e || decide (e.on < i)) &&
  (List.range n).all fun j => match (ops[j]?).bind (·.dst) with
    | some d => (!(tmpsOf o).contains d || (decide (j < i) && bindsOn o j) || (decide (i < j) && (match ops[j]? with | some oj => bindsOn oj i | none => false)) || j == i) && (j == i || o.dst != some d)
    | none => false
def listedTo (m n : Nat) : Array Bool := ((List.range m).map fun i => decide (i < n)).toArray
/-- The first n operations may run in any order. -/
def okDrawN (n : Nat) (ops : Array Oper) : Bool :=
  decide (n < ops.size) && Region.sinkB .any ops n && Region.chainB .any ops n && Region.seqB .any ops (ops.size - n) n (listedTo ops.size n) &&
  (List.range n).all fun i => match ops[i]? with | some o => isQuietD o.op && okDeps ops.toList n i o | none => false
/-- The head: where an answer becomes an own array, assignments stand behind it. -/
def headN (call : Cl) (ops : List Oper) : Nat := if ops.any (exD call) then (ops.takeWhile fun o => isQuiet o.op).length else quietN ops
def headOk (call : Cl) (ops : List Oper) (n : Nat) : Bool := !(ops.any (exD call)) || okDrawN n ops.toArray
def aregion (P : Program) (call : Cl) (ops : List Oper) (draw : Bool) (st : St) : Option St :=
  if draw then
    let n := headN call ops
    if ((ops.take n).all (freshDst st) && headOk call ops n) = true then (aopsD P call ops (ops.take n) st).bind fun s => (s.settle (ops.take n)).bind (aops (aop P call) ops (ops.drop n)) else none
  else aops (aop P call) ops ops st

/-! ### Code -/
/-- What is kept behind a region; which arrays of the frame's own are from here on only read. -/
structure Note where
  keep : List Nat
  still : List Nat := []
/-- What leads into the box k is forgotten. -/
def killK (k : Nat) (x : Nat × AV) : Nat × AV := (x.1, if noPtr k x.2 then x.2 else .dead)
/-- The frame without the box k, and without slot t. -/
def St.dropBox (st : St) (t k : Nat) : St := { sl := (drop1 st.sl t).map (killK k), bx := drop1 st.bx k, gr := (st.gr.filter (fun x => x.1.notBox k)).filter (fun x => x.1 ≠ .s t), tg := (drop1 st.tg t).map (killBox k) }
def grIf (g : Bool) (off sz : Nat) : Option Nat := match g with
  | true => if off = 0 then some sz else none
  | false => none
/-- An own array is from here on only read (and, if g, appended to). -/
def St.stillG (g : Bool) (st : St) (t : Nat) : St :=
  match look st.sl t with
  | some (.ex sz n cs) => ({ st with sl := (drop1 st.sl t).map (killA t) } : St).made (some t) { v := .pv (.sl sz n cs) }
  | some (.bs k off sz n) => match look st.bx k with
    | some cs => (st.dropBox t k).made (some t) { v := .pv (.sl sz n ((cs.drop off).take (n * sz))), gr := grIf g off sz }
    | none => st
  | _ => st
abbrev St.still1 (st : St) (t : Nat) : St := st.stillG true t
def St.cold1 (st : St) (t : Nat) : St := st.stillG false t
def isRef : AV → Bool
  | .xr _ | .xe .. => true
  | _ => false
def shedR (v : AV) : AV := if isRef v then .dead else v
/-- What is kept, in the order of the list: the state behind a region has one form. -/
def keepL (l : List (Nat × AV)) : List Nat → List (Nat × AV)
  | [] => []
  | k :: ks => match look l k with
    | some v => (k, shedR v) :: keepL l ks
    | none => keepL l ks
def keepB (l : List (Nat × List PV)) : List Nat → List (Nat × List PV)
  | [] => []
  | k :: ks => match look l k with
    | some v => (k, v) :: keepB l ks
    | none => keepB l ks
def Pl.of (k : Nat) : Pl → Bool
  | .s t => decide (t = k)
  | .c j _ => decide (j = k)
def keepG (l : List (Pl × Nat)) : List Nat → List (Pl × Nat)
  | [] => []
  | k :: ks => l.filter (fun x => x.1.of k) ++ keepG l ks
/-- The boxes that a value leads into by slices. -/
def refK : AV → List Nat
  | .bs k .. => [k]
  | .mv _ k .. => [k]
  | .tg k .. => [k]
  | _ => []
def refsOf : List (Nat × AV) → List Nat
  | [] => []
  | x :: l => refK x.2 ++ refsOf l
/-- From here on keys stand for arrays of the caller's. -/
def gk : Nat := 1000000
def newKeys (ks : List Nat) : List Nat → List Nat
  | [] => []
  | k :: l => if ks.contains k || l.contains k then newKeys ks l else k :: newKeys ks l
def keysFor (st : St) (ks : List Nat) : List Nat := ks ++ newKeys ks (refsOf (keepL st.sl ks) ++ (st.bx.map (·.1)).filter (fun k => gk ≤ k))
def St.keepOnly (st : St) (ks : List Nat) : St :=
  { sl := keepL st.sl ks, bx := keepB st.bx (keysFor st ks), gr := keepG st.gr ks, tg := [] }
inductive Xt where
  | normal | exit (id : Nat) | ret
  deriving DecidableEq
/-- The slots that the code writes. -/
def dstsOf : Code → List Nat
  | .region _ ops _ => ops.toList.filterMap (·.dst)
  | .seq a b | .cond _ a b => dstsOf a ++ dstsOf b
  | .block _ c | .loop c => dstsOf c
  | .rangeFunc _ ps a b => ps.toList ++ (dstsOf a ++ dstsOf b)
  | _ => []
/-- No loop over a function within. -/
def flat : Code → Bool
  | .seq a b | .cond _ a b => flat a && flat b
  | .block _ c | .loop c => flat c
  | .rangeFunc .. => false
  | _ => true
/-! ### Loops over a function: the rounds start with the slots that were there ahead of the loop; what they share are variables in memory -/
def capIn (ks : List Nat) : Cap → Bool
  | .bp k _ => ks.contains k
  | _ => false
def shedV (ks : List Nat) : AV → AV
  | .pv p => .pv p
  | .bp k off => if ks.contains k then .dead else .bp k off
  | .cl f caps => if caps.any (capIn ks) then .dead else .cl f caps
  | _ => .dead
def shedX (ks : List Nat) (x : Nat × AV) : Nat × AV := (x.1, shedV ks x.2)
def Pl.inC (f : Nat → Bool) : Pl → Bool
  | .s _ => false
  | .c k _ => f k
def St.shed (st : St) (ks : List Nat) : St :=
  { sl := st.sl.map (shedX ks), bx := st.bx.filter (fun x => !ks.contains x.1), gr := st.gr.filter (fun x => x.1.inC fun k => !ks.contains k), tg := [] }
def St.after (st1 cur : St) : St :=
  { sl := st1.sl, bx := cur.bx.filter (fun x => (look st1.bx x.1).isSome), gr := cur.gr.filter (fun x => x.1.inC fun k => (look st1.bx k).isSome), tg := [] }
def putArgs : List Nat → List PV → St → St
  | p :: ps, x :: xs, st => putArgs ps xs (st.put (some p) (.pv x))
  | _, _, st => st
def arounds (asg body : St → Option (Xt × St)) (st1 : St) (ps : List Nat) : List (List PV) → St → Option (Xt × St)
  | [], cur => some (.normal, st1.after cur)
  | x :: xs, cur => (asg (putArgs ps x (st1.after cur))).bind fun
    | (.normal, s) => (body s).bind fun
      | (.normal, s2) => arounds asg body st1 ps xs s2
      | (e, s2) => some (e, st1.after s2)
    | _ => none
def arun (P : Program) (call : Cl) (it : Nat → List PV → Option (Nat × List (List PV))) (loop : (St → Option (Xt × St)) → St → Option (Xt × St)) (note : Nat → Note) : Code → St → Option (Xt × St)
  | .skip, st => some (.normal, st)
  | .region id ops dr, st => (aregion P call ops.toList dr ((note id).still.foldl St.cold1 st)).map fun s => (.normal, s.keepOnly (note id).keep)
  | .seq a b, st => (arun P call it loop note a st).bind fun
    | (.normal, s) => arun P call it loop note b s
    | r => some r
  | .cond c t e, st => (st.val c).bind fun
    | .bool true => arun P call it loop note t st
    | .bool false => arun P call it loop note e st
    | _ => none
  | .block id c, st => (arun P call it loop note c st).map fun
    | (.exit j, s) => if j = id then (.normal, s) else (.exit j, s)
    | r => r
  | .loop c, st => loop (arun P call it loop note c) st
  | .rangeFunc g ps asg body, st => (st.pv g).bind fun
    | .fn f caps => (it f caps).bind fun x => if x.1 = ps.size then
        arounds (arun P call it loop note asg) (arun P call it loop note body) (st.shed (ps.toList ++ (dstsOf asg ++ dstsOf body))) ps.toList x.2 (st.shed (ps.toList ++ (dstsOf asg ++ dstsOf body))) else none
    | _ => none
  | .exit id, st => some (.exit id, st)
  | .ret, st => some (.ret, st)
  | _, _ => none

def St.fix (st : St) : ResultVar → St
  | .tmp t => st.still1 t
  | .cell _ _ => st
def aresult (P : Program) (st : St) : ResultVar → Option RV
  | .tmp t => match look st.sl t with
    | some (.pv p) => some ⟨p, lookP st.gr (.s t)⟩
    | _ => none
  | .cell t ty => match look st.sl t with
    | some (.bp k o) => (look st.bx k).bind fun cs => (takeT P ty cs o).map fun p => ⟨p, if isRowT P ty then none else lookP st.gr (.c k o)⟩
    | _ => none
def aresultsL (P : Program) (st : St) : List ResultVar → Option (List PV)
  | [] => some []
  | r :: l => (aresult P (st.fix r) r).bind fun v => (aresultsL P (st.fix r) l).map (v.v :: ·)
/-- A single result may be a function over variables of the frame's own. -/
def aresult1 (P : Program) (st : St) : ResultVar → Option RV
  | .tmp t => match look st.sl t with
    | some (.cl f caps) => (capsOf st caps).map fun ps => ⟨.fn f ps, none⟩
    | _ => aresult P st (.tmp t)
  | r => aresult P st r
def aresults (P : Program) (st : St) : List ResultVar → Option RV
  | [r] => aresult1 P (st.fix r) r
  | l => (aresultsL P st l).map fun vs => ⟨.tup vs, none⟩

def slotsOf : Nat → List PV → List (Nat × AV)
  | _, [] => []
  | i, p :: l => (i, .pv p) :: slotsOf (i + 1) l
def St.enter (args : List PV) : St := { sl := slotsOf 0 args, bx := [], gr := [], tg := [] }
def abody (P : Program) (call : Cl) (it : Nat → List PV → Option (Nat × List (List PV))) (loop : (St → Option (Xt × St)) → St → Option (Xt × St)) (note : Nat → Note) (fn : Func) (args : List PV) : Option RV :=
  fn.body.bind fun c => (arun P call it loop note c (.enter args)).bind fun
    | (.exit _, _) => none
    | (_, st) => aresults P st fn.results.toList

def loopN (f : St → Option (Xt × St)) : Nat → St → Option (Xt × St)
  | 0, _ => none
  | n + 1, st => (f st).bind fun
    | (.normal, s) => loopN f n s
    | r => some r
/-! ### A callee that writes into an array of the caller's -/
def slotsM : Nat → List MA → List (Nat × AV)
  | _, [] => []
  | i, .p p :: l => (i, .pv p) :: slotsM (i + 1) l
  | i, .g _ off sz n :: l => (i, .bs gk off sz n) :: slotsM (i + 1) l
def guestCells : List MA → Option (List PV)
  | [] => none
  | .g cs _ _ _ :: _ => some cs
  | .p _ :: l => guestCells l
def guestSz : List MA → Nat
  | [] => 0
  | .g _ _ sz _ :: _ => sz
  | .p _ :: l => guestSz l
def St.enterM (ms : List MA) : St := { sl := slotsM 0 ms, bx := match guestCells ms with | some cs => [(gk, cs)] | none => [], gr := [], tg := [] }
def plainsOf (st : St) : List ResultVar → Option (List PV)
  | [] => some []
  | .tmp t :: l => match look st.sl t with
    | some (.pv p) => if plainR p then (plainsOf st l).map (p :: ·) else none
    | _ => none
  | _ :: _ => none
def mres (st : St) (gsz : Nat) : List ResultVar → Option MR
  | [] => some (.pv (.tup []))
  | [.tmp t] => match look st.sl t with
    | some (.pv p) => if plainR p then some (.pv p) else none
    | some (.bs k off s n) => if k = gk ∧ s = gsz then some (.gs off n) else none
    | _ => none
  | .tmp t :: l => match look st.sl t with
    | some (.bs k off s n) => if k = gk ∧ s = gsz then (plainsOf st l).map (.gt off n) else none
    | _ => none
  | _ => none
def ambody (P : Program) (call : Cl) (it : Nat → List PV → Option (Nat × List (List PV))) (loop : (St → Option (Xt × St)) → St → Option (Xt × St)) (note : Nat → Note) (fn : Func) (ms : List MA) : Option (MR × List PV) :=
  fn.body.bind fun c => if flat c && (dstsOf c).all (fun d => d != gk) then (arun P call it loop note c (.enterM ms)).bind fun
    | (.exit _, _) => none
    | (_, st) => (mres st (guestSz ms) fn.results.toList).bind fun r => (look st.bx gk).bind fun cs' => (guestCells ms).bind fun cs => if cs'.all litP' = true ∧ cs'.length = cs.length then some (r, cs') else none
    else none
/-- The machine: what is taken as_ it is told ('prim'), and the notes. -/
structure Mach where
  P : Program
  prim : Nat → Option ((Nat → List PV → Option RV) → List PV → Option RV)
  note : Nat → Nat → Note
  iter : Nat → List PV → Option (Nat × List (List PV)) := fun _ _ => none
  ex : Nat → Nat → Nat → Bool := fun _ _ _ => false
  im : Nat → Bool := fun _ => false
def acl (M : Mach) : Nat → Cl
  | 0 => { fn := fun _ _ => none }
  | n + 1 =>
    { fn := fun f args => match M.prim f with
        | some g => g (acl M n).fn args
        | none => (M.P.funcs[f]?).bind fun fn => abody M.P { acl M n with ex := M.ex f, im := M.im } M.iter (fun g => loopN g n) (M.note f) fn args
      mu := fun f ms => match M.prim f with
        | some _ => none
        | none => (M.P.funcs[f]?).bind fun fn => ambody M.P { acl M n with ex := M.ex f, im := M.im } M.iter (fun g => loopN g n) (M.note f) fn ms }
def acall (M : Mach) (n : Nat) : Nat → List PV → Option RV := (acl M n).fn
end Go.Proofs.YtibbgjafjhcemaaDoor.Cul
namespace Go.Proofs.YtibbgjafjhcemaaDoor.Cul
open Go
/-! ### What is asked of the code beforehand: closed, reckoned once a function -/
def okDraw (ops : Array Oper) : Bool := okDrawN (quietN ops.toList) ops
def okOps (N : Nat) (ops : Array Oper) (draw : Bool) : Bool :=
  (ops.toList.all fun o => match o.dst with | some d => decide (d < N) | none => true) && (!draw || okDraw ops)
def okCode (N : Nat) : Code → Bool
  | .region _ ops dr => okOps N ops dr
  | .seq a b => okCode N a && okCode N b
  | .cond _ a b => okCode N a && okCode N b
  | .block _ c => okCode N c
  | .loop c => okCode N c
  | .rangeFunc _ ps a b => flat a && flat b && okCode N a && okCode N b && ps.toList.all fun p => decide (p < N)
  | .skip | .exit _ | .ret => true
  | _ => false
def okFn (fn : Func) : Bool := match fn.body with | some c => okCode fn.ntmps c && !(fn.name == "runtime.NumGoroutine") | none => true
end Go.Proofs.YtibbgjafjhcemaaDoor.Cul
/-! M2 -/
set_option linter.unusedVariables false
set_option linter.unusedSimpArgs false
namespace Go.Proofs.YtibbgjafjhcemaaDoor.Cul
open Go Go.RowKit

abbrev Prot := Nat → Nat → Prop

mutual
/-- What a persistent value says of a value in memory. -/
inductive Rp (w : World) (Pr : Prot) : PV → Value → Prop
  | lit {v : Value} (h : scal v = true) : Rp w Pr (.lit v) v
  | sl {sz n cap b o : Nat} {cs : List PV} {vs : List Value} (hr : RpL w Pr cs vs) (h1 : ∀ v ∈ vs, v.oneCell' = true) (hl : cs.length = n * sz) (hn : n ≤ cap)
      (hc : w.rangeAt b o vs) (hp : ∀ i, i < vs.length → Pr b (o + i)) : Rp w Pr (.sl sz n cs) (.slice (some ⟨b, o, none⟩) n cap)
  | sl0 {sz : Nat} : Rp w Pr (.sl sz 0 []) (.slice none 0 0)
  | el {b o : Nat} {cs : List PV} {vs : List Value} (hr : RpL w Pr cs vs) (h1 : ∀ v ∈ vs, v.oneCell' = true)
      (hc : w.rangeAt b o vs) (hp : ∀ i, i < vs.length → Pr b (o + i)) : Rp w Pr (.el cs) (.pointer (some ⟨b, o, none⟩))
  | fn {f : Nat} {cs : List PV} {vs : List Value} (hr : RpL w Pr cs vs) : Rp w Pr (.fn f cs) (.func (.func f) #[] vs.toArray)
  | ag {cs : List PV} {vs : List Value} (hr : RpL w Pr cs vs) (h1 : ∀ v ∈ vs, v.oneCell' = true) : Rp w Pr (.ag cs) (.agg vs.toArray)
  | tup {cs : List PV} {vs : List Value} (hr : RpL w Pr cs vs) : Rp w Pr (.tup cs) (.tuple vs.toArray)
inductive RpL (w : World) (Pr : Prot) : List PV → List Value → Prop
  | nil : RpL w Pr [] []
  | cons {p : PV} {v : Value} {cs : List PV} {vs : List Value} (h : Rp w Pr p v) (hs : RpL w Pr cs vs) : RpL w Pr (p :: cs) (v :: vs)
end

/-- What is protected stays, and more may be protected. -/
structure Kp (w : World) (Pr : Prot) (w' : World) (Pr' : Prot) : Prop where
  pr : ∀ b o, Pr b o → Pr' b o
  cell : ∀ b o, Pr b o → w'.cell? ⟨b, o, none⟩ = w.cell? ⟨b, o, none⟩
theorem Kp.refl (w : World) (Pr : Prot) : Kp w Pr w Pr := ⟨fun _ _ h => h, fun _ _ _ => rfl⟩
theorem Kp.trans {w w1 w2 : World} {Pr Pr1 Pr2 : Prot} (h : Kp w Pr w1 Pr1) (k : Kp w1 Pr1 w2 Pr2) : Kp w Pr w2 Pr2 :=
  ⟨fun b o x => k.pr b o (h.pr b o x), fun b o x => (k.cell b o (h.pr b o x)).trans (h.cell b o x)⟩
theorem Kp.range {w w' : World} {Pr Pr' : Prot} (h : Kp w Pr w' Pr') {b o : Nat} {vs : List Value} (hc : w.rangeAt b o vs) (hp : ∀ i, i < vs.length → Pr b (o + i)) : w'.rangeAt b o vs := fun j v hj => by
  have hlt : j < vs.length := (List.getElem?_eq_some_iff.1 hj).1
  rw [h.cell b (o + j) (hp j hlt)]; exact hc j v hj
mutual
theorem Rp.mono {w w' : World} {Pr Pr' : Prot} (k : Kp w Pr w' Pr') : ∀ {p : PV} {v : Value}, Rp w Pr p v → Rp w' Pr' p v
  | _, _, .lit h => .lit h
  | _, _, .sl hr h1 hl hn hc hp => .sl (RpL.mono k hr) h1 hl hn (k.range hc hp) (fun i hi => k.pr _ _ (hp i hi))
  | _, _, .sl0 => .sl0
  | _, _, .el hr h1 hc hp => .el (RpL.mono k hr) h1 (k.range hc hp) (fun i hi => k.pr _ _ (hp i hi))
  | _, _, .fn hr => .fn (RpL.mono k hr)
  | _, _, .ag hr h1 => .ag (RpL.mono k hr) h1
  | _, _, .tup hr => .tup (RpL.mono k hr)
theorem RpL.mono {w w' : World} {Pr Pr' : Prot} (k : Kp w Pr w' Pr') : ∀ {cs : List PV} {vs : List Value}, RpL w Pr cs vs → RpL w' Pr' cs vs
  | _, _, .nil => .nil
  | _, _, .cons h hs => .cons (Rp.mono k h) (RpL.mono k hs)
end
section
variable {w : World} {Pr : Prot}
theorem RpL.length : ∀ {cs : List PV} {vs : List Value}, RpL w Pr cs vs → cs.length = vs.length
  | _, _, .nil => rfl
  | _, _, .cons _ hs => by simp [RpL.length hs]
theorem RpL.get : ∀ {cs : List PV} {vs : List Value}, RpL w Pr cs vs → ∀ (i : Nat) (p : PV), cs[i]? = some p → ∃ v, vs[i]? = some v ∧ Rp w Pr p v
  | _, _, .nil, i, p, h => by simp at h
  | _, _, .cons h hs, 0, p, e => by simp at e; subst e; exact ⟨_, rfl, h⟩
  | _, _, .cons h hs, i + 1, p, e => by simpa using RpL.get hs i p (by simpa using e)
theorem RpL.take : ∀ {cs : List PV} {vs : List Value}, RpL w Pr cs vs → ∀ n, RpL w Pr (cs.take n) (vs.take n)
  | _, _, .nil, n => by simp; exact .nil
  | _, _, .cons h hs, 0 => by simp; exact .nil
  | _, _, .cons h hs, n + 1 => by simp only [List.take_succ_cons]; exact .cons h (RpL.take hs n)
theorem RpL.drop : ∀ {cs : List PV} {vs : List Value}, RpL w Pr cs vs → ∀ n, RpL w Pr (cs.drop n) (vs.drop n)
  | _, _, .nil, n => by simp; exact .nil
  | _, _, .cons h hs, 0 => .cons h hs
  | _, _, .cons h hs, n + 1 => by simp only [List.drop_succ_cons]; exact RpL.drop hs n
theorem RpL.app : ∀ {cs : List PV} {vs : List Value}, RpL w Pr cs vs → ∀ {ds : List PV} {us : List Value}, RpL w Pr ds us → RpL w Pr (cs ++ ds) (vs ++ us)
  | _, _, .nil, _, _, k => k
  | _, _, .cons h hs, _, _, k => .cons h (RpL.app hs k)
/-- Plain values are what they say. -/
theorem litsOf_rp : ∀ {l : List Value} {ps : List PV}, litsOf l = some ps → RpL w Pr ps l ∧ (∀ v ∈ l, v.oneCell' = true)
  | [], ps, h => by simp [litsOf] at h; subst h; exact ⟨.nil, by simp⟩
  | v :: l, ps, h => by
    simp only [litsOf] at h
    split at h
    · rename_i hs
      simp only [Option.map_eq_some_iff] at h
      obtain ⟨qs, hq, rfl⟩ := h
      obtain ⟨h1, h2⟩ := litsOf_rp hq
      refine ⟨.cons (.lit hs) h1, fun u hu => ?_⟩
      rcases List.mem_cons.1 hu with rfl | hu
      · cases u <;> simp_all [scal, Value.oneCell']
      · exact h2 u hu
    · simp at h
theorem pvOf_rp {v : Value} {p : PV} (h : pvOf v = some p) : Rp w Pr p v := by
  unfold pvOf at h
  split at h
  · simp only [Option.map_eq_some_iff] at h
    obtain ⟨ps, hp, rfl⟩ := h
    obtain ⟨h1, h2⟩ := litsOf_rp (w := w) (Pr := Pr) hp
    exact .ag h1 h2
  · split at h
    · simp at h; subst h; exact .lit ‹_›
    · simp at h
theorem valsOf_rp : ∀ {ps : List PV} {l vs : List Value}, valsOf ps = some l → RpL w Pr ps vs → vs = l
  | [], l, vs, h, k => by simp [valsOf] at h; cases k; exact h.symm
  | .lit v :: ps, l, vs, h, k => by
    simp only [valsOf, Option.map_eq_some_iff] at h
    obtain ⟨q, hq, rfl⟩ := h
    cases k with
    | cons h1 h2 => cases h1; rw [valsOf_rp hq h2]
  | .sl .. :: ps, l, vs, h, k => by simp [valsOf] at h
  | .el .. :: ps, l, vs, h, k => by simp [valsOf] at h
  | .fn .. :: ps, l, vs, h, k => by simp [valsOf] at h
  | .ag .. :: ps, l, vs, h, k => by simp [valsOf] at h
  | .tup .. :: ps, l, vs, h, k => by simp [valsOf] at h
theorem valOf_rp {p : PV} {v u : Value} (h : valOf p = some v) (k : Rp w Pr p u) : u = v := by
  unfold valOf at h
  split at h
  · simp at h; subst h; cases k; rfl
  · simp only [Option.map_eq_some_iff] at h
    obtain ⟨l, hl, rfl⟩ := h
    cases k with
    | ag hr h1 => rw [valsOf_rp hl hr]
  · simp at h; subst h
    cases k with
    | fn hr => cases hr; rfl
  · simp at h
/-- A plain value says the same in every memory. -/
theorem valsOf_any : ∀ {ps : List PV} {l : List Value}, valsOf ps = some l → ∀ {w' : World} {Pr' : Prot} {vs : List Value}, RpL w Pr ps vs → RpL w' Pr' ps vs
  | [], l, h, _, _, vs, k => by cases k; exact .nil
  | .lit v :: ps, l, h, _, _, vs, k => by
    simp only [valsOf, Option.map_eq_some_iff] at h
    obtain ⟨q, hq, rfl⟩ := h
    cases k with
    | cons h1 h2 => cases h1 with | lit hs => exact .cons (.lit hs) (valsOf_any hq h2)
  | .sl .. :: ps, l, h, _, _, vs, k => by simp [valsOf] at h
  | .el .. :: ps, l, h, _, _, vs, k => by simp [valsOf] at h
  | .fn .. :: ps, l, h, _, _, vs, k => by simp [valsOf] at h
  | .ag .. :: ps, l, h, _, _, vs, k => by simp [valsOf] at h
  | .tup .. :: ps, l, h, _, _, vs, k => by simp [valsOf] at h
theorem valOf_any {p : PV} {v u : Value} (h : valOf p = some v) (k : Rp w Pr p u) {w' : World} {Pr' : Prot} : Rp w' Pr' p u := by
  unfold valOf at h
  split at h
  · cases k with | lit hs => exact .lit hs
  · simp only [Option.map_eq_some_iff] at h
    obtain ⟨l, hl, rfl⟩ := h
    cases k with
    | ag hr h1 => exact .ag (valsOf_any hl hr) h1
  · cases k with
    | fn hr => cases hr; exact .fn .nil
  · simp at h
theorem Rp.cells_rp {p : PV} {v : Value} (h : Rp w Pr p v) (ht : ∀ vs, p ≠ .tup vs) : RpL w Pr p.cells v.cells.toList ∧ ∀ u ∈ v.cells.toList, u.oneCell' = true := by
  cases h with
  | lit hs =>
    have : v.cells = #[v] := by cases v <;> simp_all [scal, Value.cells]
    rw [this]; refine ⟨.cons (.lit hs) .nil, ?_⟩
    simp; cases v <;> simp_all [scal, Value.oneCell']
  | sl hr h1 hl hn hc hp => exact ⟨.cons (.sl hr h1 hl hn hc hp) .nil, by simp [Value.cells, Value.oneCell']⟩
  | sl0 => exact ⟨.cons .sl0 .nil, by simp [Value.cells, Value.oneCell']⟩
  | el hr h1 hc hp => exact ⟨.cons (.el hr h1 hc hp) .nil, by simp [Value.cells, Value.oneCell']⟩
  | fn hr => exact ⟨.cons (.fn hr) .nil, by simp [Value.cells, Value.oneCell']⟩
  | ag hr h1 => simpa [PV.cells, Value.cells] using ⟨hr, h1⟩
  | tup hr => exact absurd rfl (ht _)
end
theorem rangeAt_take {w : World} {b o : Nat} {vs : List Value} (h : w.rangeAt b o vs) (n : Nat) : w.rangeAt b o (vs.take n) := fun j v hj => by
  rw [List.getElem?_take] at hj; split at hj
  · exact h j v hj
  · simp at hj
theorem rangeAt_drop {w : World} {b o : Nat} {vs : List Value} (h : w.rangeAt b o vs) (n : Nat) : w.rangeAt b (o + n) (vs.drop n) := fun j v hj => by
  rw [List.getElem?_drop] at hj
  have := h (n + j) v hj
  rwa [← Nat.add_assoc] at this
theorem evalPure_run {α : Type} (P : Program) : ∀ (s : Sem α) (a : α), evalPure P s = some a → ∀ w, s.run P w = .ok a w
  | .pure b, a, h, w => by simp [evalPure] at h; subst h; rfl
  | .program k, a, h, w => by simp only [evalPure] at h; simp only [Sem.run]; exact evalPure_run P (k P) a h w
  | .mark _ k, a, h, w => by simp only [evalPure] at h; simp only [Sem.run]; exact evalPure_run P k a h w
  | .load .., a, h, _ | .store .., a, h, _ | .new .., a, h, _ | .shape .., a, h, _ | .freeze .., a, h, _ | .frozen .., a, h, _ | .getObj .., a, h, _ | .setObj .., a, h, _ | .choose .., a, h, _ | .sys .., a, h, _ | .halt .., a, h, _ => by simp [evalPure] at h
theorem pureOp_run {P : Program} {s : Sem Value} {p : PV} (h : pureOp P s = some p) (w : World) (Pr : Prot) : ∃ v, s.run P w = .ok v w ∧ Rp w Pr p v := by
  unfold pureOp at h
  simp only [Option.bind_eq_some_iff] at h
  obtain ⟨v, hv, hp⟩ := h
  exact ⟨v, evalPure_run P s v hv w, pvOf_rp hp⟩
end Go.Proofs.YtibbgjafjhcemaaDoor.Cul
/-! M3 -/
set_option linter.unusedVariables false
set_option linter.unusedSimpArgs false
namespace Go.Proofs.YtibbgjafjhcemaaDoor.Cul
open Go Go.RowKit

/-! ### The frame's own blocks -/
inductive Key where
  | bx (k : Nat)
  | sx (t : Nat)
  | cx (k off : Nat)
  deriving DecidableEq
def Pl.key : Pl → Key
  | .s t => .sx t
  | .c k o => .cx k o
def exAt (st : St) (t : Nat) : Prop := ∃ sz n cs, look st.sl t = some (.ex sz n cs)
def grAt (st : St) (p : Pl) : Prop := ∃ z, lookP st.gr p = some z
def live (st : St) : Key → Prop
  | .bx k => ∃ cs, look st.bx k = some cs
  | .sx t => exAt st t ∨ grAt st (.s t)
  | .cx k o => grAt st (.c k o)
def One (vs : List Value) : Prop := ∀ v ∈ vs, v.oneCell' = true
def CapRp (w : World) (Pr : Prot) (bk : Key → Nat) : Cap → Value → Prop
  | .pv p, v => Rp w Pr p v
  | .bp k off, v => v = .pointer (some ⟨bk (.bx k), off, none⟩)
/-- A row with room behind it: nobody else's. -/
structure Room (w : World) (Pr : Prot) (b o n cap sz : Nat) : Prop where
  hz : 0 < sz
  le : n ≤ cap
  there : ∃ cells T, w.heap[b]? = some (.cells cells T (0, 0)) ∧ o + cap * sz ≤ cells.size
  pr : ∀ o', Pr b o' → o' < o + n * sz
/-- A slice into a box of the frame's own. -/
def BsRp (st : St) (w : World) (bk : Key → Nat) (k off sz n : Nat) (v : Value) : Prop :=
  ∃ o cap cs c T, v = .slice (some ⟨bk (.bx k), o, none⟩) n cap ∧ (o = off ∨ (n = 0 ∧ 0 < off)) ∧ look st.bx k = some cs ∧ off + n * sz ≤ cs.length ∧ 0 < sz ∧ n ≤ cap ∧ w.heap[bk (.bx k)]? = some (.cells c T (0, 0)) ∧ o + cap * sz ≤ c.size
theorem BsRp.to {st st' : St} {w w' : World} {bk bk' : Key → Nat} {k off sz n : Nat} {v : Value} (hb : bk' (.bx k) = bk (.bx k)) (hx : ∀ cs, look st.bx k = some cs → ∃ cs', look st'.bx k = some cs' ∧ cs'.length = cs.length)
    (hh : ∀ c T, w.heap[bk (.bx k)]? = some (.cells c T (0, 0)) → ∃ c', w'.heap[bk (.bx k)]? = some (.cells c' T (0, 0)) ∧ c'.size = c.size) (h : BsRp st w bk k off sz n v) : BsRp st' w' bk' k off sz n v := by
  obtain ⟨o, cap, cs, c, T, h1, h0, h2, h3, h4, h5, h6, h7⟩ := h
  obtain ⟨cs', h8, h9⟩ := hx cs h2
  obtain ⟨c', h10, h11⟩ := hh c T h6
  exact ⟨o, cap, cs', c', T, by rw [hb]; exact h1, h0, h8, by omega, h4, h5, by rw [hb]; exact h10, by omega⟩
theorem BsRp.world {st : St} {w w' : World} {bk : Key → Nat} {k off sz n : Nat} {v : Value} (hh : ∀ c T, w.heap[bk (.bx k)]? = some (.cells c T (0, 0)) → ∃ c', w'.heap[bk (.bx k)]? = some (.cells c' T (0, 0)) ∧ c'.size = c.size) (h : BsRp st w bk k off sz n v) : BsRp st w' bk k off sz n v :=
  h.to rfl (fun cs e => ⟨cs, e, rfl⟩) hh
theorem BsRp.frame {st st' : St} {w : World} {bk bk' : Key → Nat} {k off sz n : Nat} {v : Value} (hb : bk' (.bx k) = bk (.bx k)) (hx : ∀ cs, look st.bx k = some cs → ∃ cs', look st'.bx k = some cs' ∧ cs'.length = cs.length) (h : BsRp st w bk k off sz n v) : BsRp st' w bk' k off sz n v :=
  h.to hb hx (fun c T e => ⟨c, e, rfl⟩)
/-- What a slot's value is in memory. -/
def RpA (st : St) (a : Act) (w : World) (Pr : Prot) (bk : Key → Nat) (t : Nat) : AV → Value → Prop
  | .pv p, v => Rp w Pr p v
  | .bp k off, v => v = .pointer (some ⟨bk (.bx k), off, none⟩)
  | .cl f caps, v => ∃ vs : List Value, v = .func (.func f) #[] vs.toArray ∧ vs.length = caps.length ∧ ∀ (i : Nat) (c : Cap) (u : Value), caps[i]? = some c → vs[i]? = some u → CapRp w Pr bk c u
  | .ex sz n cs, v => ∃ (o cap : Nat) (vs : List Value), v = .slice (some ⟨bk (.sx t), o, none⟩) n cap ∧ RpL w Pr cs vs ∧ One vs ∧ cs.length = n * sz ∧ w.rangeAt (bk (.sx t)) o vs ∧ Room w Pr (bk (.sx t)) o n cap sz ∧ ∀ o', ¬ Pr (bk (.sx t)) o'
  | .xr u, v => a.tmps[u]? = some v ∧ exAt st u
  | .xe u off, v => (∃ b o n cap, a.tmps[u]? = some (.slice (some ⟨b, o, none⟩) n cap) ∧ v = .pointer (some ⟨b, o + off, none⟩)) ∧ exAt st u
  | .newp _ _, _ => False
  | .dead, _ => True
  | .bs k off sz n, v => BsRp st w bk k off sz n v
  | .mv f k off sz n, v => ∃ u, v = .func (.func f) #[u] #[] ∧ BsRp st w bk k off sz n u
  | .tg k off sz n rest, v => ∃ u us, v = .tuple (u :: us).toArray ∧ BsRp st w bk k off sz n u ∧ RpL w Pr rest us
def placeVal (a : Act) (w : World) (bk : Key → Nat) : Pl → Option Value
  | .s t => a.tmps[t]?
  | .c k o => w.cell? ⟨bk (.bx k), o, none⟩

/-- A mark that a loop over a function leaves among the deferred calls. -/
def Mark (base : Nat) (w : World) (d : Deferred) : Prop := ∃ D, d = { target := .collected D, args := #[] } ∧ w.heap[D]? = some (.deferred (some [])) ∧ base ≤ D
structure Inv (base : Nat) (w : World) (Pr : Prot) (bk : Key → Nat) (st : St) (a : Act) (N : Nat) : Prop where
  size : a.tmps.size = N
  defers : (∀ d ∈ a.defers, Mark base w d) ∧ a.defers.Nodup
  hb : base ≤ w.heap.size
  prot : ∀ b o, Pr b o → b < w.heap.size
  slots : ∀ t av, look st.sl t = some av → ∃ v, a.tmps[t]? = some v ∧ RpA st a w Pr bk t av v
  own : ∀ x, live st x → base ≤ bk x ∧ bk x < w.heap.size
  inj : ∀ x y, live st x → live st y → bk x = bk y → x = y
  boxes : ∀ k cs, look st.bx k = some cs → (∃ T c vs, w.heap[bk (.bx k)]? = some (.cells c T (0, 0)) ∧ vs <+: c.toList ∧ RpL w Pr cs vs ∧ One vs) ∧ ∀ o, ¬ Pr (bk (.bx k)) o
  grs : ∀ t z, lookP st.gr (.s t) = some z → ∃ o n cap cs, look st.sl t = some (.pv (.sl z n cs)) ∧ a.tmps[t]? = some (.slice (some ⟨bk (.sx t), o, none⟩) n cap) ∧ Room w Pr (bk (.sx t)) o n cap z ∧ o = 0
  grc : ∀ k i z, lookP st.gr (.c k i) = some z → ∃ o n cap cs bcs, look st.bx k = some bcs ∧ bcs[i]? = some (.sl z n cs) ∧ w.cell? ⟨bk (.bx k), i, none⟩ = some (.slice (some ⟨bk (.cx k i), o, none⟩) n cap) ∧ Room w Pr (bk (.cx k i)) o n cap z ∧ o = 0
  tags : ∀ t q, look st.tg t = some (some q) → grAt st q → placeVal a w bk q = a.tmps[t]?

/-- The step of a callee or of an operation that makes memory: new blocks; what is protected stays. -/
structure Fw (w : World) (Pr : Prot) (w' : World) (Pr' : Prot) : Prop where
  bel : Below w.heap.size w w'
  pr : ∀ b o, Pr b o → Pr' b o
  old : ∀ b o, b < w.heap.size → Pr' b o → Pr b o
  new : ∀ b o, Pr' b o → b < w'.heap.size
theorem Fw.heap {w w' : World} {Pr Pr' : Prot} (x : Fw w Pr w' Pr') {b : Nat} (h : b < w.heap.size) : w'.heap[b]? = w.heap[b]? := x.bel.block b h
theorem Fw.kp {w w' : World} {Pr Pr' : Prot} (x : Fw w Pr w' Pr') (hp : ∀ b o, Pr b o → b < w.heap.size) : Kp w Pr w' Pr' :=
  ⟨x.pr, fun b o h => x.bel.cell (p := ⟨b, o, none⟩) (hp b o h)⟩
theorem Fw.refl {w : World} {Pr : Prot} (hp : ∀ b o, Pr b o → b < w.heap.size) : Fw w Pr w Pr := ⟨Below.refl _ _, fun _ _ h => h, fun _ _ _ h => h, hp⟩
theorem Fw.trans {w w1 w2 : World} {Pr Pr1 Pr2 : Prot} (x : Fw w Pr w1 Pr1) (y : Fw w1 Pr1 w2 Pr2) : Fw w Pr w2 Pr2 :=
  ⟨x.bel.trans (y.bel.mono x.bel.size), fun b o h => y.pr b o (x.pr b o h), fun b o hb h => x.old b o hb (y.old b o (Nat.lt_of_lt_of_le hb x.bel.size) h), y.new⟩

/-- What is no block of cells lies as_ it lay; a block of cells keeps its type and size. -/
structure KO (w w' : World) : Prop extends KeepsOthers w w' where
  sized : ∀ (k : Nat) (c : Array Value) (T : TypeId) (fz : Nat × Nat), w.heap[k]? = some (.cells c T fz) → ∃ c', w'.heap[k]? = some (.cells c' T fz) ∧ c'.size = c.size
theorem KO.refl (w : World) : KO w w := ⟨KeepsOthers.refl w, fun k c T fz h => ⟨c, h, rfl⟩⟩
theorem KO.trans {a b c : World} (h : KO a b) (k : KO b c) : KO a c := ⟨h.toKeepsOthers.trans k.toKeepsOthers, fun i x T fz e => by
  obtain ⟨y, e1, e2⟩ := h.sized i x T fz e
  obtain ⟨z, e3, e4⟩ := k.sized i y T fz e1
  exact ⟨z, e3, e4.trans e2⟩⟩
theorem KO.from {w w' : World} (h : KO w w') (B : Nat) : KeepsFrom B w w' := h.toKeepsOthers.from B
theorem Fw.ko {w w' : World} {Pr Pr' : Prot} (x : Fw w Pr w' Pr') : KO w w' :=
  ⟨⟨x.bel.size, fun k o h _ => (x.heap (Array.getElem?_eq_some_iff.1 h).1).trans h⟩, fun k c T fz h => ⟨c, (x.heap (Array.getElem?_eq_some_iff.1 h).1).trans h, rfl⟩⟩
theorem Room.fw {w w' : World} {Pr Pr' : Prot} (x : Fw w Pr w' Pr') {b o n cap sz : Nat} (h : Room w Pr b o n cap sz) (hb : b < w.heap.size) : Room w' Pr' b o n cap sz :=
  ⟨h.hz, h.le, by obtain ⟨c, T, h1, h2⟩ := h.there; exact ⟨c, T, (x.heap hb).trans h1, h2⟩, fun o' ho => h.pr o' (x.old b o' hb ho)⟩
theorem rangeAt_heap {w w' : World} {b o : Nat} {vs : List Value} (h : w'.heap[b]? = w.heap[b]?) (hc : w.rangeAt b o vs) : w'.rangeAt b o vs := fun j v hj => by
  have := hc j v hj; rw [← this]; exact World.cell?_of_block (w := w) h
section
variable {base : Nat} {w w' : World} {Pr Pr' : Prot} {bk : Key → Nat} {st : St} {a : Act} {N : Nat}
theorem CapRp.mono (k : Kp w Pr w' Pr') {c : Cap} {v : Value} (h : CapRp w Pr bk c v) : CapRp w' Pr' bk c v := by
  cases c with
  | pv p => exact Rp.mono k h
  | bp k off => exact h
/-- What was so is so behind new blocks. -/
theorem RpA.fw (I : Inv base w Pr bk st a N) (x : Fw w Pr w' Pr') {t : Nat} {av : AV} {v : Value} (ht : look st.sl t = some av) (h : RpA st a w Pr bk t av v) : RpA st a w' Pr' bk t av v := by
  have k := x.kp I.prot
  cases av with
  | pv p => exact Rp.mono k h
  | bp k off => exact h
  | cl f caps => obtain ⟨vs, h1, h2, h3⟩ := h; exact ⟨vs, h1, h2, fun i c u hc hu => CapRp.mono k (h3 i c u hc hu)⟩
  | ex sz n cs =>
    obtain ⟨o, cap, vs, h1, h2, h3, h4, h5, h6, h7⟩ := h
    have hb := (I.own (.sx t) (.inl ⟨sz, n, cs, ht⟩)).2
    exact ⟨o, cap, vs, h1, RpL.mono k h2, h3, h4, rangeAt_heap (x.heap hb) h5, h6.fw x hb, fun o' ho => h7 o' (x.old _ _ hb ho)⟩
  | xr u => exact h
  | xe u off => exact h
  | newp _ _ => exact h
  | dead => exact h
  | bs k off sz n => exact h.world fun c T e => ⟨c, (x.heap (Array.getElem?_eq_some_iff.1 e).1).trans e, rfl⟩
  | mv f k off sz n => obtain ⟨u, h1, h2⟩ := h; exact ⟨u, h1, h2.world fun c T e => ⟨c, (x.heap (Array.getElem?_eq_some_iff.1 e).1).trans e, rfl⟩⟩
  | tg k2 off sz n rest => obtain ⟨u, us, h1, h2, h3⟩ := h; exact ⟨u, us, h1, h2.world fun c T e => ⟨c, (x.heap (Array.getElem?_eq_some_iff.1 e).1).trans e, rfl⟩, RpL.mono k h3⟩
theorem Inv.fw (I : Inv base w Pr bk st a N) (x : Fw w Pr w' Pr') : Inv base w' Pr' bk st a N where
  size := I.size
  defers := ⟨fun d hd => by
    obtain ⟨D, h1, h2, h3⟩ := I.defers.1 d hd
    exact ⟨D, h1, (x.heap (Array.getElem?_eq_some_iff.1 h2).1).trans h2, h3⟩, I.defers.2⟩
  hb := Nat.le_trans I.hb x.bel.size
  prot := x.new
  slots t av ht := by obtain ⟨v, h1, h2⟩ := I.slots t av ht; exact ⟨v, h1, RpA.fw I x ht h2⟩
  own y hy := ⟨(I.own y hy).1, Nat.lt_of_lt_of_le (I.own y hy).2 x.bel.size⟩
  inj := I.inj
  boxes k cs hk := by
    obtain ⟨⟨T, c, vs, h1, h0, h2, h3⟩, h4⟩ := I.boxes k cs hk
    have hb := (I.own (.bx k) ⟨cs, hk⟩).2
    exact ⟨⟨T, c, vs, (x.heap hb).trans h1, h0, RpL.mono (x.kp I.prot) h2, h3⟩, fun o ho => h4 o (x.old _ _ hb ho)⟩
  grs t z h := by
    obtain ⟨o, n, cap, cs, h1, h2, h3, h0⟩ := I.grs t z h
    exact ⟨o, n, cap, cs, h1, h2, h3.fw x (I.own (.sx t) (.inr ⟨z, h⟩)).2, h0⟩
  grc k i z h := by
    obtain ⟨o, n, cap, cs, bcs, h1, h2, h3, h4, h0⟩ := I.grc k i z h
    exact ⟨o, n, cap, cs, bcs, h1, h2, (x.bel.cell (p := ⟨_, _, none⟩) (I.own (.bx k) ⟨bcs, h1⟩).2).trans h3, h4.fw x (I.own (.cx k i) ⟨z, h⟩).2, h0⟩
  tags t q h hg := by
    have := I.tags t q h hg
    cases q with
    | s u => exact this
    | c k o =>
      obtain ⟨z, hz⟩ := hg
      obtain ⟨_, _, _, _, bcs, h1, _⟩ := I.grc k o z hz
      exact (x.bel.cell (p := ⟨_, _, none⟩) (I.own (.bx k) ⟨bcs, h1⟩).2).trans this
end

/-! ### The lists -/
theorem look_drop1 {α : Type} : ∀ (l : List (Nat × α)) (d t : Nat), look (drop1 l d) t = if t = d then none else look l t
  | [], d, t => by simp [drop1, look]
  | (k, v) :: l, d, t => by
    simp only [drop1]
    have ih := look_drop1 l d t
    by_cases h : k = d
    · rw [if_pos h, ih]; subst h
      by_cases ht : t = k
      · simp [ht]
      · simp [ht, look, Ne.symm ht]
    · rw [if_neg h]; simp only [look]
      by_cases hk : k = t
      · subst hk; simp [h]
      · rw [if_neg hk, ih, if_neg hk]
theorem look_map {α β : Type} (f : Nat × α → Nat × β) (g : Nat → α → β) (hf : ∀ x, f x = (x.1, g x.1 x.2)) : ∀ (l : List (Nat × α)) (t : Nat), look (l.map f) t = (look l t).map (g t)
  | [], t => rfl
  | (k, v) :: l, t => by
    simp only [List.map_cons, hf, look]
    by_cases h : k = t
    · subst h; simp
    · rw [if_neg h, if_neg h]; exact look_map f g hf l t
theorem lookP_filter (p : Pl → Bool) : ∀ (l : List (Pl × Nat)) (t : Pl), lookP (l.filter (fun x => p x.1)) t = if p t then lookP l t else none
  | [], t => by simp [lookP]
  | (k, v) :: l, t => by
    have ih := lookP_filter p l t
    simp only [List.filter_cons]
    by_cases hk : p k = true
    · simp only [hk, if_true, lookP]
      by_cases h : k = t
      · subst h; simp [hk]
      · rw [if_neg h, if_neg h]; exact ih
    · simp only [hk, Bool.false_eq_true, if_false, ih, lookP]
      by_cases h : k = t
      · subst h; simp [hk]
      · rw [if_neg h]
theorem look_filter {α : Type} (p : Nat → Bool) : ∀ (l : List (Nat × α)) (t : Nat), look (l.filter (fun x => p x.1)) t = if p t then look l t else none
  | [], t => by simp [look]
  | (k, v) :: l, t => by
    have ih := look_filter p l t
    simp only [List.filter_cons]
    by_cases hk : p k = true
    · simp only [hk, if_true, look]
      by_cases h : k = t
      · subst h; simp [hk]
      · rw [if_neg h, if_neg h]; exact ih
    · simp only [hk, Bool.false_eq_true, if_false, ih, look]
      by_cases h : k = t
      · subst h; simp [hk]
      · rw [if_neg h]
theorem look_put (st : St) (d : Nat) (v : AV) (t : Nat) : look (st.put (some d) v).sl t = (if t = d then some v else look st.sl t).map fun av => if refersTo d av then .dead else av := by
  simp only [St.put, look, killA]
  by_cases h : d = t
  · simp [h]
  · rw [if_neg h, if_neg (Ne.symm h), look_map (killA d) (fun _ av => if refersTo d av then .dead else av) (fun _ => rfl), look_drop1, if_neg (Ne.symm h)]
theorem lookP_put (st : St) (d : Nat) (v : AV) (p : Pl) : lookP (st.put (some d) v).gr p = if p = .s d then none else lookP st.gr p := by
  simp only [St.put]
  have := lookP_filter (fun q => decide (q ≠ Pl.s d)) st.gr p
  simp only [ne_eq, decide_not, Bool.not_eq_eq_eq_not, Bool.not_true, decide_eq_false_iff_not, ite_not] at this ⊢
  exact this
theorem lookT_put (st : St) (d : Nat) (v : AV) (t : Nat) : look (st.put (some d) v).tg t = if t = d then none else (look st.tg t).map fun q => if q = some (.s d) then none else q := by
  simp only [St.put]
  rw [look_map (killT (.s d)) (fun _ q => if q = some (.s d) then none else q) (fun _ => rfl), look_drop1]
  by_cases h : t = d
  · simp [h]
  · simp [h]
end Go.Proofs.YtibbgjafjhcemaaDoor.Cul
/-! M4 -/
set_option linter.unusedVariables false
set_option linter.unusedSimpArgs false
namespace Go.Proofs.YtibbgjafjhcemaaDoor.Cul
open Go Go.RowKit

theorem put_get {a : Act} {d : Nat} {v : Value} (h : d < a.tmps.size) (t : Nat) : (a.put (some d) v).tmps[t]? = if t = d then some v else a.tmps[t]? := by
  simp only [Act.put]
  by_cases e : t = d
  · subst e; simp [Array.getElem?_setIfInBounds_self_of_lt, h]
  · rw [if_neg e, Array.getElem?_setIfInBounds_ne (Ne.symm e)]

structure MadeOk (base : Nat) (w : World) (Pr : Prot) (bk : Key → Nat) (st : St) (a : Act) (m : Made) (v : Value) : Prop where
  val : (∀ sz n cs, m.v ≠ .ex sz n cs) → ∀ t, RpA st a w Pr bk t m.v v
  ex : ∀ sz n cs, m.v = .ex sz n cs → m.gr = none ∧ ∃ (b o cap : Nat) (vs : List Value), v = .slice (some ⟨b, o, none⟩) n cap ∧ RpL w Pr cs vs ∧ One vs ∧ cs.length = n * sz ∧ w.rangeAt b o vs ∧ Room w Pr b o n cap sz ∧
    (∀ o', ¬ Pr b o') ∧ base ≤ b ∧ b < w.heap.size ∧ ∀ x, live st x → bk x ≠ b
  gr : ∀ z, m.gr = some z → ∃ b o n cap cs, m.v = .pv (.sl z n cs) ∧ v = .slice (some ⟨b, o, none⟩) n cap ∧ Room w Pr b o n cap z ∧ o = 0 ∧ base ≤ b ∧ b < w.heap.size ∧ ∀ x, live st x → bk x ≠ b
  tg : ∀ q, m.tg = some q → grAt st q → placeVal a w bk q = some v

section
variable {base : Nat} {w : World} {Pr : Prot} {bk : Key → Nat} {st : St} {a : Act} {N d : Nat} {m : Made} {v : Value}

theorem look_made (st : St) (d : Nat) (m : Made) (t : Nat) : look (st.made (some d) m).sl t = (if t = d then some m.v else look st.sl t).map fun av => if refersTo d av then .dead else av := look_put st d m.v t
theorem bx_made (st : St) (d : Nat) (m : Made) : (st.made (some d) m).bx = st.bx := rfl
theorem lookP_made (st : St) (d : Nat) (m : Made) (p : Pl) : lookP (st.made (some d) m).gr p = if p = .s d then m.gr else lookP st.gr p := by
  have h := lookP_put st d m.v p
  cases e : m.gr with
  | none => simp only [St.made, e]; rw [h]
  | some z =>
    simp only [St.made, e, lookP]
    by_cases hp : p = .s d
    · subst hp; simp
    · rw [if_neg (Ne.symm hp), h, if_neg hp, if_neg hp]
theorem lookT_made (st : St) (d : Nat) (m : Made) (t : Nat) : look (st.made (some d) m).tg t = if t = d then m.tg.map some else (look st.tg t).map fun q => if q = some (.s d) then none else q := by
  have h := lookT_put st d m.v t
  cases e : m.tg with
  | none => simp only [St.made, e]; rw [h]; simp
  | some p =>
    simp only [St.made, e, look]
    by_cases hp : t = d
    · subst hp; simp
    · rw [if_neg (Ne.symm hp), h, if_neg hp, if_neg hp]
/-- A value that was told of the frame is told of the frame behind a store into slot d. -/
theorem RpA.put (hN : d < a.tmps.size) {st' : St} {bk' : Key → Nat} {u : Value} (hb : ∀ k, bk' (.bx k) = bk (.bx k)) {t : Nat} (hs : bk' (.sx t) = bk (.sx t))
    (hex : ∀ x, x ≠ d → exAt st x → exAt st' x) (hbs : ∀ k cs, look st.bx k = some cs → ∃ cs', look st'.bx k = some cs' ∧ cs'.length = cs.length) {av : AV} (hr : refersTo d av = false) (h : RpA st a w Pr bk t av v) : RpA st' (a.put (some d) u) w Pr bk' t av v := by
  cases av with
  | pv p => exact h
  | bp k off => simp only [RpA] at h ⊢; rw [hb]; exact h
  | cl f caps =>
    obtain ⟨vs, h1, h2, h3⟩ := h
    refine ⟨vs, h1, h2, fun i c x hc hx => ?_⟩
    have := h3 i c x hc hx
    cases c with
    | pv p => exact this
    | bp k off => simp only [CapRp] at this ⊢; rw [hb]; exact this
  | ex sz n cs => simp only [RpA] at h ⊢; rw [hs]; exact h
  | xr x =>
    have hx : x ≠ d := by intro e; simp [refersTo, e] at hr
    exact ⟨by rw [put_get hN, if_neg hx]; exact h.1, hex x hx h.2⟩
  | xe x off =>
    have hx : x ≠ d := by intro e; simp [refersTo, e] at hr
    obtain ⟨⟨b, o, n, cap, h1, h2⟩, h3⟩ := h
    exact ⟨⟨b, o, n, cap, by rw [put_get hN, if_neg hx]; exact h1, h2⟩, hex x hx h3⟩
  | newp _ _ => exact h
  | dead => trivial
  | bs k off sz n => exact h.frame (hb k) (hbs k)
  | mv f k off sz n => obtain ⟨u, h1, h2⟩ := h; exact ⟨u, h1, h2.frame (hb k) (hbs k)⟩
  | tg k off sz n rest => obtain ⟨u, us, h1, h2, h3⟩ := h; exact ⟨u, us, h1, h2.frame (hb k) (hbs k), h3⟩

theorem Inv.made (I : Inv base w Pr bk st a N) (hd : d < N) (h : MadeOk base w Pr bk st a m v) :
    ∃ bk', Inv base w Pr bk' (st.made (some d) m) (a.put (some d) v) N ∧ ∀ x, x ≠ .sx d → bk' x = bk x := by
  have hN : d < a.tmps.size := by rw [I.size]; exact hd
  -- where the new row lies
  obtain ⟨b0, hb0, hb1⟩ : ∃ b0 : Nat, (∀ z, m.gr = some z → ∃ o n cap cs, m.v = .pv (.sl z n cs) ∧ v = .slice (some ⟨b0, o, none⟩) n cap ∧ Room w Pr b0 o n cap z ∧ o = 0 ∧ base ≤ b0 ∧ b0 < w.heap.size ∧ ∀ x, live st x → bk x ≠ b0) ∧
      (∀ sz n cs, m.v = .ex sz n cs → m.gr = none ∧ ∃ (o cap : Nat) (vs : List Value), v = .slice (some ⟨b0, o, none⟩) n cap ∧ RpL w Pr cs vs ∧ One vs ∧ cs.length = n * sz ∧ w.rangeAt b0 o vs ∧ Room w Pr b0 o n cap sz ∧
        (∀ o', ¬ Pr b0 o') ∧ base ≤ b0 ∧ b0 < w.heap.size ∧ ∀ x, live st x → bk x ≠ b0) := by
    by_cases hx : ∃ sz n cs, m.v = .ex sz n cs
    · obtain ⟨sz, n, cs, hx⟩ := hx
      obtain ⟨h0, b, o, cap, vs, h1⟩ := h.ex sz n cs hx
      refine ⟨b, fun z hz => by rw [h0] at hz; simp at hz, fun sz' n' cs' hx' => ?_⟩
      rw [hx] at hx'; cases hx'
      exact ⟨h0, o, cap, vs, h1⟩
    · cases e : m.gr with
      | none => exact ⟨0, fun z hz => by simp at hz, fun sz n cs hx' => absurd ⟨sz, n, cs, hx'⟩ hx⟩
      | some z =>
        obtain ⟨b, o, n, cap, cs, h1⟩ := h.gr z e
        exact ⟨b, fun z' hz => by cases hz; exact ⟨o, n, cap, cs, h1⟩, fun sz n cs hx' => absurd ⟨sz, n, cs, hx'⟩ hx⟩
  -- the two ways in which slot d may own a row
  have hd0 : (∃ z, m.gr = some z) ∨ (∃ sz n cs, m.v = .ex sz n cs) → base ≤ b0 ∧ b0 < w.heap.size ∧ ∀ x, live st x → bk x ≠ b0 := by
    rintro (⟨z, hz⟩ | ⟨sz, n, cs, hx⟩)
    · obtain ⟨_, _, _, _, _, _, _, _, h1⟩ := hb0 z hz; exact h1
    · obtain ⟨_, _, _, _, _, _, _, _, _, _, _, h1⟩ := hb1 sz n cs hx; exact h1
  obtain ⟨bk', hk1, hk2⟩ : ∃ bk' : Key → Nat, (∀ x, x ≠ .sx d → bk' x = bk x) ∧ bk' (.sx d) = b0 := ⟨fun x => if x = .sx d then b0 else bk x, fun x hx => if_neg hx, if_pos rfl⟩
  have hbx : ∀ k, bk' (.bx k) = bk (.bx k) := fun k => hk1 _ (by simp)
  have hcx : ∀ k o, bk' (.cx k o) = bk (.cx k o) := fun k o => hk1 _ (by simp)
  have hsx : ∀ t, t ≠ d → bk' (.sx t) = bk (.sx t) := fun t ht => hk1 _ (by simpa using ht)
  -- what a slot held but for d's
  have hl : ∀ t av, look (st.made (some d) m).sl t = some av → av = .dead ∨ (refersTo d av = false ∧ ((t = d ∧ av = m.v) ∨ (t ≠ d ∧ look st.sl t = some av))) := by
    intro t av ht
    rw [look_made] at ht
    by_cases e : t = d
    · rw [if_pos e] at ht; simp only [Option.map_some, Option.some.injEq] at ht
      split at ht
      · exact .inl ht.symm
      · rename_i hr; exact .inr ⟨by rw [← ht]; simpa using hr, .inl ⟨e, ht.symm⟩⟩
    · rw [if_neg e] at ht
      cases hq : look st.sl t with
      | none => simp [hq] at ht
      | some x =>
        simp only [hq, Option.map_some, Option.some.injEq] at ht
        split at ht
        · exact .inl ht.symm
        · rename_i hr; exact .inr ⟨by rw [← ht]; simpa using hr, .inr ⟨e, by rw [ht]⟩⟩
  have hex : ∀ x, x ≠ d → exAt st x → exAt (st.made (some d) m) x := fun x hx ⟨sz, n, cs, hl⟩ => ⟨sz, n, cs, by rw [look_made, if_neg hx, hl]; rfl⟩
  -- what is live was live, or is the new row
  have hlive : ∀ x, live (st.made (some d) m) x → (x ≠ .sx d ∧ live st x) ∨ (x = .sx d ∧ ((∃ z, m.gr = some z) ∨ (∃ sz n cs, m.v = .ex sz n cs))) := by
    intro x hx
    cases x with
    | bx k => exact .inl ⟨by simp, hx⟩
    | sx t =>
      rcases hx with ⟨sz, n, cs, hq⟩ | ⟨z, hz⟩
      · rcases hl t _ hq with hq | ⟨_, ⟨e, hq⟩ | ⟨e, hq⟩⟩
        · simp at hq
        · exact .inr ⟨by rw [e], .inr ⟨sz, n, cs, hq.symm⟩⟩
        · exact .inl ⟨by simpa using e, .inl ⟨sz, n, cs, hq⟩⟩
      · rw [lookP_made] at hz
        by_cases e : t = d
        · subst e; rw [if_pos rfl] at hz; exact .inr ⟨rfl, .inl ⟨z, hz⟩⟩
        · rw [if_neg (by simpa using e)] at hz; exact .inl ⟨by simpa using e, .inr ⟨z, hz⟩⟩
    | cx k o =>
      obtain ⟨z, hz⟩ := hx
      rw [lookP_made, if_neg (by simp)] at hz
      exact .inl ⟨by simp, z, hz⟩
  refine ⟨bk', ?_, hk1⟩
  constructor
  · simp [Act.put, I.size]
  · exact I.defers
  · exact I.hb
  · exact I.prot
  · -- slots
    intro t av ht
    rcases hl t av ht with rfl | ⟨hr, ⟨e, rfl⟩ | ⟨e, hq⟩⟩
    · by_cases e : t = d
      · exact ⟨v, by rw [put_get hN, if_pos e], trivial⟩
      · cases hq : look st.sl t with
        | none => rw [look_made, if_neg e, hq] at ht; simp at ht
        | some x => obtain ⟨u, hu, _⟩ := I.slots t x hq; exact ⟨u, by rw [put_get hN, if_neg e]; exact hu, trivial⟩
    · subst e
      refine ⟨v, by rw [put_get hN, if_pos rfl], ?_⟩
      by_cases hx : ∃ sz n cs, m.v = .ex sz n cs
      · obtain ⟨sz, n, cs, hx⟩ := hx
        obtain ⟨_, o, cap, vs, h1, h2, h3, h4, h5, h6, h7, _⟩ := hb1 sz n cs hx
        rw [hx]; simp only [RpA]
        exact ⟨o, cap, vs, by rw [hk2]; exact h1, h2, h3, h4, by rw [hk2]; exact h5, by rw [hk2]; exact h6, by rw [hk2]; exact h7⟩
      · have hv := h.val (fun sz n cs e => hx ⟨sz, n, cs, e⟩) (t + 1)
        have := RpA.put (u := v) (st' := st.made (some t) m) (bk' := bk') hN hbx (hsx (t + 1) (by omega)) hex (fun k cs e => ⟨cs, e, rfl⟩) hr hv
        cases hm : m.v with
        | ex sz n cs => exact absurd ⟨sz, n, cs, hm⟩ hx
        | _ => rw [hm] at this; exact this
    · obtain ⟨u, hu, hv⟩ := I.slots t av hq
      exact ⟨u, by rw [put_get hN, if_neg e]; exact hu, RpA.put hN hbx (hsx t e) hex (fun k cs e => ⟨cs, e, rfl⟩) hr hv⟩
  · -- own
    intro x hx
    rcases hlive x hx with ⟨e, hx⟩ | ⟨rfl, hz⟩
    · rw [hk1 x e]; exact I.own x hx
    · obtain ⟨h4, h5, _⟩ := hd0 hz
      rw [hk2]; exact ⟨h4, h5⟩
  · -- inj
    intro x y hx hy he
    rcases hlive x hx with ⟨e, hx⟩ | ⟨rfl, hz⟩
    · rcases hlive y hy with ⟨e', hy⟩ | ⟨rfl, hz'⟩
      · rw [hk1 x e, hk1 y e'] at he; exact I.inj x y hx hy he
      · obtain ⟨_, _, h6⟩ := hd0 hz'
        rw [hk1 x e, hk2] at he; exact absurd he (h6 x hx)
    · rcases hlive y hy with ⟨e', hy⟩ | ⟨rfl, hz'⟩
      · obtain ⟨_, _, h6⟩ := hd0 hz
        rw [hk2, hk1 y e'] at he; exact absurd he.symm (h6 y hy)
      · rfl
  · -- boxes
    intro k cs hk
    rw [hbx]; exact I.boxes k cs hk
  · -- grs
    intro t z hz
    rw [lookP_made] at hz
    by_cases e : t = d
    · subst e; rw [if_pos rfl] at hz
      obtain ⟨o, n, cap, cs, h1, h2, h3, h0, _⟩ := hb0 z hz
      exact ⟨o, n, cap, cs, by rw [look_made, if_pos rfl, h1]; rfl, by rw [put_get hN, if_pos rfl, hk2, h2], by rw [hk2]; exact h3, h0⟩
    · rw [if_neg (by simpa using e)] at hz
      obtain ⟨o, n, cap, cs, h1, h2, h3, h0⟩ := I.grs t z hz
      exact ⟨o, n, cap, cs, by rw [look_made, if_neg e, h1]; rfl, by rw [put_get hN, if_neg e, hsx t e]; exact h2, by rw [hsx t e]; exact h3, h0⟩
  · -- grc
    intro k i z hz
    rw [lookP_made, if_neg (by simp)] at hz
    obtain ⟨o, n, cap, cs, bcs, h1, h2, h3, h4, h0⟩ := I.grc k i z hz
    exact ⟨o, n, cap, cs, bcs, h1, h2, by rw [hbx, hcx]; exact h3, by rw [hcx]; exact h4, h0⟩
  · -- tags
    intro t q ht hq
    rw [lookT_made] at ht
    by_cases e : t = d
    · subst e
      rw [if_pos rfl] at ht
      cases hm : m.tg with
      | none => simp [hm] at ht
      | some p =>
        simp only [hm, Option.map_some, Option.some.injEq] at ht; subst ht
        rw [put_get hN, if_pos rfl]
        by_cases hp : p = .s t
        · subst hp; simp [placeVal, put_get hN]
        · obtain ⟨z, hz⟩ := hq
          rw [lookP_made, if_neg hp] at hz
          have := h.tg p hm ⟨z, hz⟩
          cases p with
          | s u => simp only [placeVal] at this ⊢; rw [put_get hN, if_neg (by simpa using hp)]; exact this
          | c k o => simp only [placeVal] at this ⊢; rw [hbx]; exact this
    · rw [if_neg e] at ht
      cases hm : look st.tg t with
      | none => simp [hm] at ht
      | some p =>
        simp only [hm, Option.map_some, Option.some.injEq] at ht
        split at ht
        · simp at ht
        · rename_i hp
          subst ht
          have hp' : q ≠ .s d := fun e => hp (by rw [e])
          obtain ⟨z, hz⟩ := hq
          rw [lookP_made, if_neg hp'] at hz
          have := I.tags t q hm ⟨z, hz⟩
          rw [put_get hN, if_neg e, ← this]
          cases q with
          | s u => simp only [placeVal]; rw [put_get hN, if_neg (by simpa using hp')]
          | c k o => simp only [placeVal]; rw [hbx]
end
end Go.Proofs.YtibbgjafjhcemaaDoor.Cul
/-! M5 -/
set_option linter.unusedVariables false
set_option linter.unusedSimpArgs false
namespace Go.Proofs.YtibbgjafjhcemaaDoor.Cul
open Go Go.RowKit

structure RetOk (w : World) (Pr : Prot) (w' : World) (Pr' : Prot) (r : RV) (v : Value) : Prop where
  fw : Fw w Pr w' Pr'
  rp : Rp w' Pr' r.v v
  gr : ∀ z, r.gr = some z → ∃ b o n cap cs, r.v = .sl z n cs ∧ v = .slice (some ⟨b, o, none⟩) n cap ∧ Room w' Pr' b o n cap z ∧ o = 0 ∧ w.heap.size ≤ b ∧ b < w'.heap.size
/-- The function has a Go text. -/
def HasBody (P : Program) (f : Nat) : Prop := ∃ fn c, P.funcs[f]? = some fn ∧ fn.body = some c ∧ (fn.name == "runtime.NumGoroutine") = false
/-- What a call's answer owes. -/
def CallIs (P : Program) (f : Nat) (args : List PV) (r : RV) : Prop :=
  HasBody P f ∧ ∀ (vs : List Value) (w : World) (Pr : Prot), (∀ b o, Pr b o → b < w.heap.size) → RpL w Pr args vs →
    Calls P f vs.toArray w (fun e w' => ∃ v Pr', e = .returned v ∧ RetOk w Pr w' Pr' r v)
/-- The array that a callee writes into: the block b, known by its first cells. -/
structure Guest (w : World) (Pr : Prot) (b : Nat) (T : TypeId) (c : Array Value) (cs : List PV) : Prop where
  blk : w.heap[b]? = some (.cells c T (0, 0))
  pre : ∃ us, us <+: c.toList ∧ RpL w Pr cs us ∧ One us
  free : ∀ o, ¬ Pr b o
/-- A slice of that array. -/
def GSl (b size : Nat) (cs : List PV) (off sz n : Nat) (v : Value) : Prop := ∃ o cap, v = .slice (some ⟨b, o, none⟩) n cap ∧ (o = off ∨ (n = 0 ∧ 0 < off)) ∧ off + n * sz ≤ cs.length ∧ 0 < sz ∧ n ≤ cap ∧ o + cap * sz ≤ size
inductive MaRp (w : World) (Pr : Prot) (b size : Nat) (gcs : List PV) (gsz : Nat) : List MA → List Value → Prop
  | nil : MaRp w Pr b size gcs gsz [] []
  | p {p : PV} {v : Value} {ms : List MA} {vs : List Value} (h : Rp w Pr p v) (hs : MaRp w Pr b size gcs gsz ms vs) : MaRp w Pr b size gcs gsz (.p p :: ms) (v :: vs)
  | g {off n : Nat} {v : Value} {ms : List MA} {vs : List Value} (h : GSl b size gcs off gsz n v) (hs : MaRp w Pr b size gcs gsz ms vs) : MaRp w Pr b size gcs gsz (.g gcs off gsz n :: ms) (v :: vs)
/-- What such a callee answers. -/
def MrRp (w : World) (Pr : Prot) (b size : Nat) (cs : List PV) (sz : Nat) : MR → Value → Prop
  | .pv p, v => Rp w Pr p v
  | .gs off n, v => GSl b size cs off sz n v
  | .gt off n rest, v => ∃ u us, v = .tuple (u :: us).toArray ∧ GSl b size cs off sz n u ∧ RpL w Pr rest us
structure MRet (w : World) (Pr : Prot) (w' : World) (b : Nat) (T : TypeId) (c : Array Value) (sz : Nat) (cs : List PV) (r : MR) (cs' : List PV) (v : Value) : Prop where
  os : w'.os = w.os
  tape : w'.tape = w.tape
  output : w'.output = w.output
  size : w.heap.size ≤ w'.heap.size
  other : ∀ k, k < w.heap.size → k ≠ b → w'.heap[k]? = w.heap[k]?
  guest : ∃ c', Guest w' Pr b T c' cs' ∧ c'.size = c.size
  len : cs'.length = cs.length
  res : MrRp w' Pr b c.size cs' sz r v
/-- What a call of a callee owes that writes into an array of the caller's. -/
def MutIs (P : Program) (f : Nat) (ms : List MA) (r : MR) (cs' : List PV) : Prop :=
  HasBody P f ∧ ∀ (cs : List PV) (sz : Nat) (vs : List Value) (w : World) (Pr : Prot) (b : Nat) (T : TypeId) (c : Array Value), guestCells ms = some cs → (∀ b o, Pr b o → b < w.heap.size) → Guest w Pr b T c cs → MaRp w Pr b c.size cs sz ms vs →
    Calls P f vs.toArray w (fun e w' => ∃ v, e = .returned v ∧ MRet w Pr w' b T c sz cs r cs' v)
/-- What the machine answers for a call is what the call does. -/
structure CallOk (P : Program) (call : Cl) : Prop where
  fn : ∀ f args r, call.fn f args = some r → CallIs P f args r
  mu : ∀ f ms r cs', call.mu f ms = some (r, cs') → MutIs P f ms r cs'

section
variable {P : Program} {base : Nat} {w : World} {Pr : Prot} {bk : Key → Nat} {st : St} {a : Act} {N : Nat}

theorem eval_tmp {t : Nat} {v : Value} (h : a.tmps[t]? = some v) : a.eval (.tmp t) = v := by simp [Act.eval, h]
theorem ev_rp (I : Inv base w Pr bk st a N) {x : Operand} {av : AV} (h : st.ev x = some av) : ∃ t, RpA st a w Pr bk t av (a.eval x) := by
  cases x with
  | tmp t => obtain ⟨v, h1, h2⟩ := I.slots t av h; exact ⟨t, by rw [eval_tmp h1]; exact h2⟩
  | const v =>
    simp only [St.ev, Option.map_eq_some_iff] at h
    obtain ⟨p, hp, rfl⟩ := h
    exact ⟨0, pvOf_rp hp⟩
  | func f => simp only [St.ev, Option.some.injEq] at h; subst h; exact ⟨0, Rp.fn .nil⟩
  | global g => simp [St.ev] at h
theorem ev_pv (I : Inv base w Pr bk st a N) {x : Operand} {p : PV} (h : st.ev x = some (.pv p)) : Rp w Pr p (a.eval x) := by obtain ⟨t, h1⟩ := ev_rp I h; exact h1
theorem pv_ev {x : Operand} {p : PV} (h : st.pv x = some p) : st.ev x = some (.pv p) := by
  unfold St.pv at h; split at h
  · simp at h; subst h; assumption
  · simp at h
theorem pv_rp (I : Inv base w Pr bk st a N) {x : Operand} {p : PV} (h : st.pv x = some p) : Rp w Pr p (a.eval x) := ev_pv I (pv_ev h)
theorem val_eq (I : Inv base w Pr bk st a N) {x : Operand} {v : Value} (h : st.val x = some v) : a.eval x = v := by
  simp only [St.val, Option.bind_eq_some_iff] at h
  obtain ⟨p, h1, h2⟩ := h
  exact valOf_rp h2 (pv_rp I h1)
theorem ev_bp (I : Inv base w Pr bk st a N) {x : Operand} {k off : Nat} (h : st.ev x = some (.bp k off)) : a.eval x = .pointer (some ⟨bk (.bx k), off, none⟩) := by obtain ⟨t, h1⟩ := ev_rp I h; exact h1
theorem ev_bs (I : Inv base w Pr bk st a N) {x : Operand} {k off sz n : Nat} (h : st.ev x = some (.bs k off sz n)) : BsRp st w bk k off sz n (a.eval x) := by obtain ⟨t, h1⟩ := ev_rp I h; exact h1
theorem ev_mv (I : Inv base w Pr bk st a N) {x : Operand} {f k off sz n : Nat} (h : st.ev x = some (.mv f k off sz n)) : ∃ u, a.eval x = .func (.func f) #[u] #[] ∧ BsRp st w bk k off sz n u := by obtain ⟨t, h1⟩ := ev_rp I h; exact h1
theorem ev_tg (I : Inv base w Pr bk st a N) {x : Operand} {k off sz n : Nat} {rest : List PV} (h : st.ev x = some (.tg k off sz n rest)) : ∃ u us, a.eval x = .tuple (u :: us).toArray ∧ BsRp st w bk k off sz n u ∧ RpL w Pr rest us := by obtain ⟨t, h1⟩ := ev_rp I h; exact h1
theorem range_pre {b : Nat} {c : Array Value} {T : TypeId} {vs : List Value} (h : w.heap[b]? = some (.cells c T (0, 0))) (hp : vs <+: c.toList) : w.rangeAt b 0 vs := fun j v hj => by
  rw [cell_of_row _ _ _ _ _ _ h, Nat.zero_add]
  obtain ⟨t, ht⟩ := hp
  have hlt : j < vs.length := (List.getElem?_eq_some_iff.1 hj).1
  rw [← Array.getElem?_toList, ← ht, List.getElem?_append_left hlt, hj]
theorem ev_xr (I : Inv base w Pr bk st a N) {x : Operand} {u : Nat} (h : st.ev x = some (.xr u)) : a.tmps[u]? = some (a.eval x) ∧ exAt st u := by obtain ⟨t, h1⟩ := ev_rp I h; exact h1
theorem int_eq (I : Inv base w Pr bk st a N) {x : Operand} {n : Int} (h : (st.pv x).bind intOfPV = some n) : ∃ k, a.eval x = .int k n := by
  simp only [Option.bind_eq_some_iff] at h
  obtain ⟨p, h1, h2⟩ := h
  have := pv_rp I h1
  generalize a.eval x = u at this ⊢
  unfold intOfPV at h2
  split at h2
  · simp at h2; subst h2; cases this; exact ⟨_, rfl⟩
  · simp at h2

theorem wp_value {o : Oper} {K : Act → World → Prop} {Q : Exit → Act → World → Prop} {v : Value} (h : (execOp a.eval o).run P w = .ok (.value v) w) (k : K (a.put o.dst v) w) : o.wp P a w K Q := by
  unfold Oper.wp; rw [h]; exact k
theorem run_v {s : Sem Value} {v : Value} {w' : World} (h : s.run P w = .ok v w') : (do pure (Next.value (← s)) : Sem Next).run P w = .ok (.value v) w' := by simp [h]

/-- What quiet operations owe. -/
def QOk (P : Program) (base : Nat) (w : World) (Pr : Prot) (bk : Key → Nat) (st : St) (a : Act) (o : Oper) (m : Made) : Prop :=
  ∀ (K : Act → World → Prop) (Q : Exit → Act → World → Prop), (∀ v w' Pr', Fw w Pr w' Pr' → MadeOk base w' Pr' bk st a m v → K (a.put o.dst v) w') → o.wp P a w K Q

theorem madeOk_pv {p : PV} {v : Value} (h : Rp w Pr p v) : MadeOk base w Pr bk st a { v := .pv p } v :=
  ⟨fun _ _ => h, fun _ _ _ h => by simp at h, fun z h => by simp at h, fun q h => by simp at h⟩
theorem qok_value (I : Inv base w Pr bk st a N) {o : Oper} {m : Made} {v : Value} (h : (execOp a.eval o).run P w = .ok (.value v) w) (hm : MadeOk base w Pr bk st a m v) : QOk P base w Pr bk st a o m :=
  fun K Q hK => wp_value h (hK v w Pr (Fw.refl I.prot) hm)
theorem qok_pure (I : Inv base w Pr bk st a N) {o : Oper} {m : Made} {s : Sem Value} (he : execOp a.eval o = (do pure (Next.value (← s)) : Sem Next)) (h : mkd (pureOp P s) = some m) : QOk P base w Pr bk st a o m := by
  simp only [mkd, Option.map_eq_some_iff] at h
  obtain ⟨p, hp, rfl⟩ := h
  obtain ⟨v, h1, h2⟩ := pureOp_run hp w Pr
  exact qok_value I (by rw [he]; exact run_v h1) (madeOk_pv h2)

/-! ### Types -/
theorem sizeT_info {t : TypeId} {s : Nat} (h : sizeT P t = some s) : ∃ i, P.info? t = some i ∧ i.size = s := by
  simp only [sizeT, Option.map_eq_some_iff] at h; exact h
theorem run_sizeT {t : TypeId} {s : Nat} (h : sizeT P t = some s) (w : World) : (sizeOf t).run P w = .ok s w := by
  obtain ⟨i, h1, h2⟩ := sizeT_info h
  simp [sizeOf, typeInfo, h1, h2]
theorem run_under {t : TypeId} {d : TypeDesc} (h : P.underlying t = some d) (w : World) : (underlying t).run P w = .ok d w := run_underlying h w
theorem run_isAgg {t : TypeId} (h : (P.underlying t).isSome = true) (w : World) : (isAgg t).run P w = .ok (isRowT P t) w := by
  obtain ⟨d, hd⟩ := Option.isSome_iff_exists.1 h
  unfold isAgg isRowT
  rw [Sem.run_bind, run_under hd]
  rw [hd]
  cases d <;> simp
theorem isRowT_some {t : TypeId} (h : isRowT P t = true) : ∃ d, P.underlying t = some d ∧ d.isRow = true := by
  unfold isRowT at h
  split at h
  · exact ⟨_, ‹_›, rfl⟩
  · exact ⟨_, ‹_›, rfl⟩
  · simp at h

theorem takeT_load {t : TypeId} {cs : List PV} {off : Nat} {p : PV} {vs : List Value} {b o : Nat} (h : takeT P t cs off = some p) (hr : RpL w Pr cs vs) (h1 : One vs) (hc : w.rangeAt b o vs) :
    ∃ v, (loadVar t ⟨b, o + off, none⟩).run P w = .ok v w ∧ Rp w Pr p v ∧ (isRowT P t = false → vs[off]? = some v ∧ cs[off]? = some p) := by
  simp only [takeT, Option.bind_eq_some_iff] at h
  obtain ⟨s, hs, h⟩ := h
  split at h
  · rename_i hle
    have hlen := hr.length
    split at h
    · rename_i hrow
      simp only [Option.some.injEq] at h; subst h
      obtain ⟨d, hd, hd2⟩ := isRowT_some hrow
      refine ⟨_, run_loadVar_mid w b (o + off) t ((vs.drop off).take s) d (rangeAt_take (rangeAt_drop hc off) s) hd hd2 ?_, .ag ((hr.drop off).take s) (fun v hv => h1 v (List.mem_of_mem_drop (List.mem_of_mem_take hv))), by simp [hrow]⟩
      obtain ⟨i, hi1, hi2⟩ := sizeT_info hs
      rw [hi1]; simp [hi2]; omega
    · rename_i hrow
      split at h
      · rename_i hs1
        obtain ⟨v, hv, hp⟩ := hr.get off p h
        refine ⟨v, ?_, hp, fun _ => ⟨hv, h⟩⟩
        have hcell : w.cell? ⟨b, o + off, none⟩ = some v := hc off v hv
        unfold loadVar
        rw [Sem.run_bind, run_isAgg hs1.2]
        simp only [Bool.not_eq_true] at hrow
        simp [hrow, load, Sem.run, hcell]
      · simp at h
  · simp at h
theorem takeT_part {t : TypeId} {cs : List PV} {off : Nat} {p : PV} {vs : List Value} (h : takeT P t cs off = some p) (hr : RpL w Pr cs vs) (h1 : One vs) :
    ∃ v, (part t vs.toArray off).run P w = .ok v w ∧ Rp w Pr p v := by
  simp only [takeT, Option.bind_eq_some_iff] at h
  obtain ⟨s, hs, h⟩ := h
  split at h
  · split at h
    · rename_i hle hrow
      simp only [Option.some.injEq] at h; subst h
      obtain ⟨d, hd, hd2⟩ := isRowT_some hrow
      refine ⟨.agg ((vs.drop off).take s).toArray, ?_, .ag ((hr.drop off).take s) (fun v hv => h1 v (List.mem_of_mem_drop (List.mem_of_mem_take hv)))⟩
      unfold part
      rw [Sem.run_bind, run_isAgg (by rw [hd]; rfl)]
      simp only [hrow, Result.andThen_ok, if_true, Sem.run_bind, run_sizeT hs, Sem.run_pure]
      rw [List.extract_toArray, List.extract_eq_take_drop, Nat.add_sub_cancel_left]
    · rename_i hle hrow
      split at h
      · rename_i hs1
        obtain ⟨v, hv, hp⟩ := hr.get off p h
        refine ⟨v, ?_, hp⟩
        unfold part
        rw [Sem.run_bind, run_isAgg hs1.2]
        simp only [Bool.not_eq_true] at hrow
        simp [hrow, hv]
      · simp at h
  · simp at h

theorem RpA.any {t t' : Nat} {av : AV} {v : Value} (hn : ∀ sz n cs, av ≠ .ex sz n cs) (h : RpA st a w Pr bk t av v) : RpA st a w Pr bk t' av v := by
  cases av with
  | ex sz n cs => exact absurd rfl (hn sz n cs)
  | _ => exact h
theorem madeOk_av {av : AV} {v : Value} {t : Nat} (hn : ∀ sz n cs, av ≠ .ex sz n cs) (h : RpA st a w Pr bk t av v) : MadeOk base w Pr bk st a { v := av } v :=
  ⟨fun _ _ => h.any hn, fun sz n cs e => absurd e (hn sz n cs), fun z h => by simp at h, fun q h => by simp at h⟩
theorem qok_move (I : Inv base w Pr bk st a N) {o : Oper} {m : Made} {call : Cl} {x : Operand} (ho : o.op = .move x) (h : quiet P call o st = some m) : QOk P base w Pr bk st a o m := by
  have he : (execOp a.eval o).run P w = .ok (.value (a.eval x)) w := by simp [execOp, ho]
  refine qok_value I he ?_
  simp only [quiet, ho] at h
  split at h
  · rename_i t heq
    simp only [Option.some.injEq] at h; subst h
    obtain ⟨t', hv⟩ := ev_rp I heq
    exact madeOk_av (by simp) hv
  · rename_i t off heq
    simp only [Option.some.injEq] at h; subst h
    obtain ⟨t', hv⟩ := ev_rp I heq
    exact madeOk_av (by simp) hv
  · simp at h
  · rename_i t sz n cs heq
    simp only [Option.some.injEq] at h; subst h
    obtain ⟨v, h1, h2⟩ := I.slots t _ heq
    exact madeOk_av (t := 0) (by simp) ⟨by rw [eval_tmp h1]; exact h1, _, _, _, heq⟩
  · rename_i t v hx1 hx2 hxn hx3 heq
    simp only [Option.some.injEq] at h; subst h
    obtain ⟨u, h1, h2⟩ := I.slots t v heq
    have hn : ∀ sz n cs, v ≠ .ex sz n cs := fun sz n cs e => hx3 sz n cs e
    rw [eval_tmp h1]
    refine ⟨fun _ _ => h2.any hn, fun sz n cs e => absurd e (hn sz n cs), fun z h => by simp at h, fun q hq hg => ?_⟩
    simp only at hq
    split at hq
    · simp only [Option.some.injEq] at hq; subst hq; exact h1
    · simp only [St.tag, Option.bind_eq_some_iff, id] at hq
      obtain ⟨q', hq1, rfl⟩ := hq
      rw [I.tags t q hq1 hg, h1]
  · simp at h
  · rename_i v hx1 hx2 hxn hx3 hx4 hx5 heq
    simp only [Option.some.injEq] at h; subst h
    obtain ⟨t', hv⟩ := ev_rp I heq
    exact madeOk_av (fun sz n cs e => hx3 sz n cs e) hv
  · simp at h
theorem qok_pick (I : Inv base w Pr bk st a N) {o : Oper} {m : Made} {call : Cl} {c x y : Operand} (ho : o.op = .pick c x y) (h : quiet P call o st = some m) : QOk P base w Pr bk st a o m := by
  simp only [quiet, ho, Option.bind_eq_some_iff] at h
  obtain ⟨cv, hc, h⟩ := h
  split at h
  · rename_i t
    simp only [Option.map_eq_some_iff] at h
    obtain ⟨p, hp, rfl⟩ := h
    have hcv := val_eq I hc
    refine qok_value I (v := a.eval (if t then x else y)) ?_ (madeOk_pv (pv_rp I hp))
    simp only [execOp, ho, hcv]
    cases t <;> simp [asBool]
  · simp at h
theorem qok_binOp (I : Inv base w Pr bk st a N) {o : Oper} {m : Made} {call : Cl} {op : BinOp} {t u : TypeId} {x y : Operand} (ho : o.op = .binOp op t x y u) (h : quiet P call o st = some m) : QOk P base w Pr bk st a o m := by
  simp only [quiet, ho, Option.bind_eq_some_iff] at h
  obtain ⟨p, hp, q, hq, h⟩ := h
  refine qok_pure I ?_ h
  simp only [execOp, ho, val_eq I hp, val_eq I hq]
theorem qok_unOp (I : Inv base w Pr bk st a N) {o : Oper} {m : Made} {call : Cl} {op : UnOp} {t : TypeId} {x : Operand} (ho : o.op = .unOp op t x) (h : quiet P call o st = some m) : QOk P base w Pr bk st a o m := by
  simp only [quiet, ho, Option.bind_eq_some_iff] at h
  obtain ⟨p, hp, h⟩ := h
  refine qok_pure I ?_ h
  simp only [execOp, ho, val_eq I hp]
theorem qok_fieldAddr (I : Inv base w Pr bk st a N) {o : Oper} {m : Made} {call : Cl} {s : TypeId} {x : Operand} {f : Nat} (ho : o.op = .fieldAddr s x f) (h : quiet P call o st = some m) : QOk P base w Pr bk st a o m := by
  simp only [quiet, ho, Option.bind_eq_some_iff] at h
  obtain ⟨⟨off, ty⟩, hf, h⟩ := h
  have run : ∀ b o', a.eval x = .pointer (some ⟨b, o', none⟩) → (execOp a.eval o).run P w = .ok (.value (.pointer (some ⟨b, o' + off, none⟩))) w := by
    intro b o' hx
    unfold fieldT at hf
    split at hf
    · rename_i fs hu
      simp only [Option.bind_eq_some_iff] at hf
      obtain ⟨fd, hfd, hf⟩ := hf
      split at hf
      · simp at hf
      · rename_i hz
        simp only [Option.map_eq_some_iff, Prod.mk.injEq] at hf
        obtain ⟨sz, hsz, rfl, rfl⟩ := hf
        have hsz0 : sz ≠ 0 := fun e => hz (by rw [hsz, e])
        simp only [execOp, ho]
        refine run_v ?_
        simp [Instr.fieldAt, run_under hu, hfd, hx, Instr.sureAddr, fieldPlace, run_sizeT hsz, hsz0, Addr.add_mid]
    · simp at hf
  split at h
  · rename_i k o' heq
    simp only [Option.some.injEq] at h; subst h
    exact qok_value I (run _ _ (ev_bp I heq)) (madeOk_av (t := 0) (by simp) rfl)
  · rename_i t o' heq
    simp only [Option.some.injEq] at h; subst h
    obtain ⟨t', ⟨b, o2, n, cap, h1, h2⟩, h3⟩ := ev_rp I heq
    exact qok_value I (run _ _ h2) (madeOk_av (t := 0) (by simp) ⟨⟨b, o2, n, cap, h1, by rw [Nat.add_assoc]⟩, h3⟩)
  · rename_i cs heq
    simp only [Option.some.injEq] at h; subst h
    have hv := ev_pv I heq
    generalize hx : a.eval x = v at hv
    cases hv with
    | el hr h1 hc hp =>
      refine qok_value I (run _ _ hx) (madeOk_pv (.el (hr.drop off) (fun v hv => h1 v (List.mem_of_mem_drop hv)) (rangeAt_drop hc off) (fun i hi => ?_)))
      rw [Nat.add_assoc]
      refine hp _ ?_
      simp at hi; omega
  · simp at h
theorem qok_field (I : Inv base w Pr bk st a N) {o : Oper} {m : Made} {call : Cl} {s : TypeId} {x : Operand} {f : Nat} (ho : o.op = .field s x f) (h : quiet P call o st = some m) : QOk P base w Pr bk st a o m := by
  simp only [quiet, ho, Option.bind_eq_some_iff] at h
  obtain ⟨⟨off, ty⟩, hf, h⟩ := h
  split at h
  · rename_i cs heq
    have hv := pv_rp I heq
    generalize hx : a.eval x = v at hv
    cases hv with
    | ag hr h1 =>
      simp only [mkd, Option.map_eq_some_iff] at h
      obtain ⟨p, hp, rfl⟩ := h
      obtain ⟨v, hv1, hv2⟩ := takeT_part (P := P) hp hr h1
      refine qok_value I (v := v) ?_ (madeOk_pv hv2)
      unfold fieldT at hf
      split at hf
      · rename_i fs hu
        simp only [Option.bind_eq_some_iff] at hf
        obtain ⟨fd, hfd, hf⟩ := hf
        split at hf
        · simp at hf
        · simp only [Option.map_eq_some_iff, Prod.mk.injEq] at hf
          obtain ⟨sz, hsz, rfl, rfl⟩ := hf
          simp only [execOp, ho]
          refine run_v ?_
          simp [Instr.field, run_under hu, hfd, hx, asAgg, hv1]
      · simp at hf
  · simp at h
end
end Go.Proofs.YtibbgjafjhcemaaDoor.Cul
/-! M6 -/
set_option linter.unusedVariables false
set_option linter.unusedSimpArgs false
namespace Go.Proofs.YtibbgjafjhcemaaDoor.Cul
open Go Go.RowKit
section
variable {P : Program} {base : Nat} {w : World} {Pr : Prot} {bk : Key → Nat} {st : St} {a : Act} {N : Nat}

theorem run_indexAt_slice {t e : TypeId} {s : Nat} (hu : P.underlying t = some (.slice e)) (hs : sizeT P e = some s) (k : IntKind) (n : Int) (b o len cap : Nat) (h0 : 0 ≤ n) (h1 : n < len) :
    (Instr.indexAt t (.slice (some ⟨b, o, none⟩) len cap) (.int k n)).run P w = .ok (.pointer (some ⟨b, o + n.toNat * s, none⟩)) w := by
  simp [Instr.indexAt, asIntOf, run_under hu, h0, h1, run_sizeT hs, Addr.add_mid]
theorem run_indexAt_array {t e : TypeId} {s len : Nat} (hu : P.underlying t = some (.array len e)) (hs : sizeT P e = some s) (k : IntKind) (n : Int) (b o : Nat) (h0 : 0 ≤ n) (h1 : n < len) :
    (Instr.indexAt t (.pointer (some ⟨b, o, none⟩)) (.int k n)).run P w = .ok (.pointer (some ⟨b, o + n.toNat * s, none⟩)) w := by
  simp [Instr.indexAt, asIntOf, run_under hu, h0, h1, run_sizeT hs, Addr.add_mid, Instr.sureAddr]
theorem row_rp {cs : List PV} {vs : List Value} {b o sz n i : Nat} (hr : RpL w Pr cs vs) (h1 : One vs) (hc : w.rangeAt b o vs) (hp : ∀ i, i < vs.length → Pr b (o + i)) :
    Rp w Pr (.el (row cs sz i)) (.pointer (some ⟨b, o + i * sz, none⟩)) := by
  refine .el ((hr.drop (i * sz)).take sz) (fun v hv => h1 v (List.mem_of_mem_drop (List.mem_of_mem_take hv))) (rangeAt_take (rangeAt_drop hc _) _) (fun j hj => ?_)
  rw [Nat.add_assoc]
  refine hp _ ?_
  simp at hj; omega
theorem qok_indexAddr (I : Inv base w Pr bk st a N) {o : Oper} {m : Made} {call : Cl} {t : TypeId} {x i : Operand} (ho : o.op = .indexAddr t x i) (h : quiet P call o st = some m) : QOk P base w Pr bk st a o m := by
  simp only [quiet, ho] at h
  rw [Option.bind_eq_some_iff] at h
  obtain ⟨n, hn, h⟩ := h
  obtain ⟨k, hk⟩ := int_eq I hn
  have he : ∀ v, (Instr.indexAt t (a.eval x) (.int k n)).run P w = .ok v w → (execOp a.eval o).run P w = .ok (.value v) w := fun v hv => by
    simp only [execOp, ho, hk]; exact run_v hv
  split at h
  · rename_i len e hu
    rw [Option.bind_eq_some_iff] at h
    obtain ⟨s, hs, h⟩ := h
    split at h
    · rename_i hb
      split at h
      · rename_i k' o' heq
        simp only [Option.some.injEq] at h; subst h
        exact qok_value I (he _ (by rw [ev_bp I heq]; exact run_indexAt_array hu hs k n _ _ hb.1 hb.2)) (madeOk_av (t := 0) (by simp) rfl)
      · rename_i cs heq
        simp only [Option.some.injEq] at h; subst h
        have hv := ev_pv I heq
        generalize hx : a.eval x = v at hv
        cases hv with
        | el hr h1 hc hp =>
          refine qok_value I (he _ (by rw [hx]; exact run_indexAt_array hu hs k n _ _ hb.1 hb.2)) (madeOk_pv (.el (hr.drop _) (fun v hv => h1 v (List.mem_of_mem_drop hv)) (rangeAt_drop hc _) (fun i hi => ?_)))
          rw [Nat.add_assoc]
          refine hp _ ?_
          simp at hi; omega
      · simp at h
    · simp at h
  · rename_i e hu
    rw [Option.bind_eq_some_iff] at h
    obtain ⟨s, hs, h⟩ := h
    split at h
    · rename_i sz len cs heq
      split at h
      · rename_i hb
        obtain ⟨rfl, hb0, hb1⟩ := hb
        simp only [Option.some.injEq] at h; subst h
        have hv := ev_pv I heq
        generalize hx : a.eval x = v at hv
        cases hv with
        | sl hr h1 hl hn hc hp => exact qok_value I (he _ (by rw [hx]; exact run_indexAt_slice hu hs k n _ _ _ _ hb0 hb1)) (madeOk_pv (row_rp (n := len) hr h1 hc hp))
        | sl0 => omega
      · simp at h
    · rename_i u heq
      split at h
      · rename_i sz len cs hl
        split at h
        · rename_i hb
          obtain ⟨rfl, hb0, hb1⟩ := hb
          simp only [Option.some.injEq] at h; subst h
          obtain ⟨h1, h2⟩ := ev_xr I heq
          obtain ⟨v, hv1, o', cap, vs, rfl, hv2⟩ := I.slots u _ hl
          rw [hv1] at h1
          have hx : a.eval x = _ := (Option.some.inj h1).symm
          exact qok_value I (he _ (by rw [hx]; exact run_indexAt_slice hu hs k n _ _ _ _ hb0 hb1)) (madeOk_av (t := 0) (by simp) ⟨⟨_, _, _, _, hv1, rfl⟩, h2⟩)
        · simp at h
      · simp at h
    · rename_i k' off sz len heq
      split at h
      · rename_i hb
        obtain ⟨rfl, hb0, hb1⟩ := hb
        simp only [Option.some.injEq] at h; subst h
        obtain ⟨o', cap, cs, c, T, hx, h0, _⟩ := ev_bs I heq
        obtain rfl : o' = off := h0.resolve_right (fun h => by omega)
        exact qok_value I (he _ (by rw [hx]; exact run_indexAt_slice hu hs k n _ _ _ _ hb0 hb1)) (madeOk_av (t := 0) (by simp) rfl)
      · simp at h
    · simp at h
  · simp at h
theorem qok_index (I : Inv base w Pr bk st a N) {o : Oper} {m : Made} {call : Cl} {t : TypeId} {x i : Operand} (ho : o.op = .index t x i) (h : quiet P call o st = some m) : QOk P base w Pr bk st a o m := by
  simp only [quiet, ho] at h
  split at h
  · rename_i len e cs hu heq
    rw [Option.bind_eq_some_iff] at h
    obtain ⟨n, hn, h⟩ := h
    rw [Option.bind_eq_some_iff] at h
    obtain ⟨s, hs, h⟩ := h
    obtain ⟨k, hk⟩ := int_eq I hn
    split at h
    · rename_i hb
      have hv := pv_rp I heq
      generalize hx : a.eval x = v at hv
      cases hv with
      | ag hr h1 =>
        simp only [mkd, Option.map_eq_some_iff] at h
        obtain ⟨p, hp, rfl⟩ := h
        obtain ⟨v, hv1, hv2⟩ := takeT_part (P := P) hp hr h1
        refine qok_value I (v := v) ?_ (madeOk_pv hv2)
        simp only [execOp, ho, hk]
        refine run_v ?_
        simp [Instr.index, asIntOf, run_under hu, hx, hb.1, hb.2, run_sizeT hs, hv1]
    · simp at h
  · simp only [Option.bind_eq_some_iff] at h
    obtain ⟨p, hp, q, hq, h⟩ := h
    refine qok_pure I ?_ h
    simp only [execOp, ho, val_eq I hp, val_eq I hq]
theorem qok_load (I : Inv base w Pr bk st a N) {o : Oper} {m : Made} {call : Cl} {t : TypeId} {x : Operand} (ho : o.op = .load t x) (h : quiet P call o st = some m) : QOk P base w Pr bk st a o m := by
  simp only [quiet, ho] at h
  have he : ∀ b o' v, a.eval x = .pointer (some ⟨b, o', none⟩) → (loadVar t ⟨b, o', none⟩).run P w = .ok v w → (execOp a.eval o).run P w = .ok (.value v) w := fun b o' v hx hv => by
    simp only [execOp, ho, hx]; exact run_v (by simpa [Instr.loadAt, Instr.sureAddr] using hv)
  split at h
  · rename_i k o' heq
    rw [Option.bind_eq_some_iff] at h
    obtain ⟨cs, hk, h⟩ := h
    simp only [Option.map_eq_some_iff] at h
    obtain ⟨p, hp, rfl⟩ := h
    obtain ⟨⟨T, c, vs, hv1, hv0, hv2, hv3⟩, hv4⟩ := I.boxes k cs hk
    have hc : w.rangeAt (bk (.bx k)) 0 vs := range_pre hv1 hv0
    obtain ⟨v, hl1, hl2, hl3⟩ := takeT_load (P := P) hp hv2 hv3 hc
    rw [Nat.zero_add] at hl1
    refine qok_value I (he _ _ _ (ev_bp I heq) hl1) ⟨fun _ _ => hl2, fun _ _ _ h => by simp at h, fun z h => by simp at h, fun q hq hg => ?_⟩
    simp only at hq
    split at hq
    · rename_i hcond
      simp only [Option.some.injEq] at hq; subst hq
      simp only [Bool.and_eq_true, Bool.not_eq_eq_eq_not, Bool.not_true] at hcond
      have := (hl3 hcond.1).1
      have h2 := hc o' v this
      simpa [placeVal] using h2
    · simp at hq
  · rename_i cs heq
    simp only [mkd, Option.map_eq_some_iff] at h
    obtain ⟨p, hp, rfl⟩ := h
    have hv := ev_pv I heq
    generalize hx : a.eval x = v at hv
    cases hv with
    | el hr h1 hc hpr =>
      obtain ⟨v, hl1, hl2, hl3⟩ := takeT_load (P := P) hp hr h1 hc
      exact qok_value I (he _ _ _ hx hl1) (madeOk_pv hl2)
  · rename_i u o' heq
    split at h
    · rename_i sz n cs hl
      simp only [mkd, Option.map_eq_some_iff] at h
      obtain ⟨p, hp, rfl⟩ := h
      obtain ⟨t', ⟨b, o2, n', cap', h1, h2⟩, h3⟩ := ev_rp I heq
      obtain ⟨v, hv1, o3, cap, vs, rfl, hv2, hv3, hv4, hv5, hv6⟩ := I.slots u _ hl
      rw [hv1] at h1
      simp only [Option.some.injEq, Value.slice.injEq, Addr.mk.injEq] at h1
      obtain ⟨⟨rfl, rfl, _⟩, _, _⟩ := h1
      obtain ⟨v, hl1, hl2, hl3⟩ := takeT_load (P := P) hp hv2 hv3 hv5
      exact qok_value I (he _ _ _ h2 hl1) (madeOk_pv hl2)
    · simp at h
  · simp at h
theorem qok_extract (I : Inv base w Pr bk st a N) {o : Oper} {m : Made} {call : Cl} {x : Operand} {i : Nat} (ho : o.op = .extract x i) (h : quiet P call o st = some m) : QOk P base w Pr bk st a o m := by
  simp only [quiet, ho] at h
  split at h
  · rename_i ps heq
    simp only [mkd, Option.map_eq_some_iff] at h
    obtain ⟨p, hp, rfl⟩ := h
    have hv := ev_pv I heq
    generalize hx : a.eval x = v at hv
    cases hv with
    | tup hr =>
      obtain ⟨v, hv1, hv2⟩ := hr.get i p hp
      refine qok_value I (v := v) ?_ (madeOk_pv hv2)
      simp only [execOp, ho, hx]
      refine run_v ?_
      simp [Instr.extract, hv1]
  · rename_i k off sz n rest heq
    obtain ⟨u, us, hx, hu, hr⟩ := ev_tg I heq
    split at h
    · simp only [Option.some.injEq] at h; subst h
      refine qok_value I (v := u) ?_ (madeOk_av (t := 0) (by simp) hu)
      simp only [execOp, ho, hx]
      refine run_v ?_
      simp [Instr.extract]
    · rename_i i
      simp only [mkd, Option.map_eq_some_iff] at h
      obtain ⟨p, hp, rfl⟩ := h
      obtain ⟨v, hv1, hv2⟩ := hr.get i p hp
      refine qok_value I (v := v) ?_ (madeOk_pv hv2)
      simp only [execOp, ho, hx]
      refine run_v ?_
      simp [Instr.extract, hv1]
  · simp at h
theorem capturedOf_rp (I : Inv base w Pr bk st a N) : ∀ {l : List Operand} {caps : List Cap}, capturedOf st l = some caps → (l.map a.eval).length = caps.length ∧ ∀ (i : Nat) (c : Cap) (u : Value), caps[i]? = some c → (l.map a.eval)[i]? = some u → CapRp w Pr bk c u
  | [], caps, h => by simp [capturedOf] at h; subst h; simp
  | x :: l, caps, h => by
    simp only [capturedOf] at h
    split at h
    · rename_i p heq
      simp only [Option.map_eq_some_iff] at h
      obtain ⟨cs, hcs, rfl⟩ := h
      obtain ⟨h1, h2⟩ := capturedOf_rp I hcs
      refine ⟨by simpa using h1, fun i c u hc hu => ?_⟩
      cases i with
      | zero => simp at hc hu; subst hc hu; exact ev_pv I heq
      | succ i => exact h2 i c u (by simpa using hc) (by simpa using hu)
    · rename_i k o heq
      simp only [Option.map_eq_some_iff] at h
      obtain ⟨cs, hcs, rfl⟩ := h
      obtain ⟨h1, h2⟩ := capturedOf_rp I hcs
      refine ⟨by simpa using h1, fun i c u hc hu => ?_⟩
      cases i with
      | zero => simp at hc hu; subst hc hu; exact ev_bp I heq
      | succ i => exact h2 i c u (by simpa using hc) (by simpa using hu)
    · simp at h
theorem qok_makeFunc (I : Inv base w Pr bk st a N) {o : Oper} {m : Made} {call : Cl} {f : Fn} {first captured : Array Operand} (ho : o.op = .makeFunc f first captured) (h : quiet P call o st = some m) : QOk P base w Pr bk st a o m := by
  cases f with
  | func f' =>
    simp only [quiet, ho] at h
    split at h
    · rename_i h0
      simp only [Option.map_eq_some_iff] at h
      obtain ⟨caps, hc, rfl⟩ := h
      obtain ⟨h1, h2⟩ := capturedOf_rp I hc
      refine qok_value I (v := .func (.func f') #[] (captured.map a.eval)) ?_ (madeOk_av (t := 0) (by simp) ⟨captured.toList.map a.eval, ?_, h1, h2⟩)
      · simp only [execOp, ho]
        refine run_v ?_
        have : first = #[] := Array.ext' (by simpa using h0)
        simp [Instr.makeFunc, this]
      · congr 1; exact Array.ext' (by simp)
    · rename_i x hx1 hx2
      split at h
      · rename_i k off sz n heq
        simp only [Option.some.injEq] at h; subst h
        have hb := ev_bs I heq
        have e1 : first = #[x] := Array.ext' (by simpa using hx1)
        have e2 : captured = #[] := Array.ext' (by simpa using hx2)
        refine qok_value I (v := .func (.func f') #[a.eval x] #[]) ?_ (madeOk_av (t := 0) (by simp) ⟨_, rfl, hb⟩)
        simp only [execOp, ho]
        refine run_v ?_
        simp [Instr.makeFunc, e1, e2]
      · simp at h
    · simp at h
  | _ => simp [quiet, ho] at h
theorem qok_nilCheck (I : Inv base w Pr bk st a N) {o : Oper} {m : Made} {call : Cl} {x : Operand} (ho : o.op = .nilCheck x) (h : quiet P call o st = some m) : QOk P base w Pr bk st a o m := by
  simp only [quiet, ho] at h
  split at h
  · rename_i k o' heq
    simp only [Option.some.injEq] at h; subst h
    have hx := ev_bp I heq
    exact qok_value I (v := a.eval x) (by simp [execOp, ho, hx]) (madeOk_av (t := 0) (by simp) hx)
  · rename_i cs heq
    simp only [Option.some.injEq] at h; subst h
    have hv := ev_pv I heq
    refine qok_value I (v := a.eval x) ?_ (madeOk_pv hv)
    generalize hx : a.eval x = v at hv
    cases hv with
    | el hr h1 hc hpr => simp [execOp, ho, hx]
  · rename_i f caps heq
    simp only [Option.some.injEq] at h; subst h
    have hv := ev_pv I heq
    refine qok_value I (v := a.eval x) ?_ (madeOk_pv hv)
    generalize hx : a.eval x = v at hv
    cases hv with
    | fn hr => simp [execOp, ho, hx]
  · simp at h
end
end Go.Proofs.YtibbgjafjhcemaaDoor.Cul
/-! M7 -/
set_option linter.unusedVariables false
set_option linter.unusedSimpArgs false
namespace Go.Proofs.YtibbgjafjhcemaaDoor.Cul
open Go Go.RowKit
section
variable {P : Program} {base : Nat} {w : World} {Pr : Prot} {bk : Key → Nat} {st : St} {a : Act} {N : Nat}
theorem args1 {args : Array Operand} {x : Operand} (h : args.toList = [x]) : args = #[x] := Array.ext' (by simpa using h)
theorem args2 {args : Array Operand} {x y : Operand} (h : args.toList = [x, y]) : args = #[x, y] := Array.ext' (by simpa using h)
theorem exec_builtin {o : Oper} {b : Builtin} {args : Array Operand} {ts : Array TypeId} (ho : o.op = .call { callee := .builtin b, args := args, argTypes := ts }) :
    (execOp a.eval o).run P w = (builtin b ts o.type (args.map fun | .const _ => true | _ => false) (args.map a.eval)).run P w := by
  simp [execOp, ho, resolve, invoke]; rfl
theorem qok_len (I : Inv base w Pr bk st a N) {o : Oper} {m : Made} {call : Cl} {args : Array Operand} {ts : Array TypeId} (ho : o.op = .call { callee := .builtin .len, args := args, argTypes := ts }) (h : quiet P call o st = some m) : QOk P base w Pr bk st a o m := by
  simp only [quiet, ho] at h
  have he := exec_builtin (P := P) (w := w) (a := a) ho
  split at h
  · rename_i x hx
    rw [args1 hx] at he
    simp only [builtin, List.map_toArray, List.map_cons, List.map_nil] at he
    have hlen : ∀ A n cap e, a.eval x = .slice A n cap → (ts[0]?).bind P.underlying = some (.slice e) → (execOp a.eval o).run P w = .ok (.value (.int .i64 n)) w := fun A n cap e hxe ht => by
      rw [he, hxe]
      simp only [Option.bind_eq_some_iff] at ht
      obtain ⟨t, ht0, ht1⟩ := ht
      refine run_v ?_
      simp [Builtin.len_, ht0, run_under ht1, goInt]
    split at h
    · rename_i sz n cs heq
      split at h
      · rename_i e ht
        simp only [Option.some.injEq] at h; subst h
        have hv := ev_pv I heq
        generalize hxe : a.eval x = v at hv
        cases hv with
        | sl hr h1 hl hn hc hp => exact qok_value I (hlen _ _ _ _ hxe ht) (madeOk_pv (.lit rfl))
        | sl0 => exact qok_value I (hlen _ _ _ _ hxe ht) (madeOk_pv (.lit rfl))
      · simp at h
    · rename_i u heq
      split at h
      · rename_i sz n cs e hl ht
        simp only [Option.some.injEq] at h; subst h
        obtain ⟨h1, h2⟩ := ev_xr I heq
        obtain ⟨v, hv1, o', cap, vs, rfl, hv2⟩ := I.slots u _ hl
        rw [hv1] at h1
        exact qok_value I (hlen _ _ _ _ (Option.some.inj h1).symm ht) (madeOk_pv (.lit rfl))
      · simp at h
    · rename_i k off sz n heq
      split at h
      · rename_i e ht
        simp only [Option.some.injEq] at h; subst h
        obtain ⟨o', cap, cs, c, T, hx, _⟩ := ev_bs I heq
        exact qok_value I (hlen _ _ _ _ hx ht) (madeOk_pv (.lit rfl))
      · simp at h
    · rename_i p hne heq
      rw [Option.bind_eq_some_iff] at h
      obtain ⟨v, hv, h⟩ := h
      have hv2 := valOf_rp hv (ev_pv I heq)
      simp only [mkd, Option.map_eq_some_iff] at h
      obtain ⟨p', hp', rfl⟩ := h
      obtain ⟨u, h1, h2⟩ := pureOp_run hp' w Pr
      exact qok_value I (by rw [he, hv2]; exact run_v h1) (madeOk_pv h2)
    · simp at h
  · simp at h
theorem qok_max (I : Inv base w Pr bk st a N) {o : Oper} {m : Made} {call : Cl} {args : Array Operand} {ts : Array TypeId} (ho : o.op = .call { callee := .builtin .max, args := args, argTypes := ts }) (h : quiet P call o st = some m) : QOk P base w Pr bk st a o m := by
  simp only [quiet, ho] at h
  have he := exec_builtin (P := P) (w := w) (a := a) ho
  split at h
  · rename_i x y hx
    rw [args2 hx] at he
    simp only [Option.bind_eq_some_iff] at h
    obtain ⟨p, hp, q, hq, h⟩ := h
    simp only [mkd, Option.map_eq_some_iff] at h
    obtain ⟨p', hp', rfl⟩ := h
    obtain ⟨u, h1, h2⟩ := pureOp_run hp' w Pr
    refine qok_value I (v := u) ?_ (madeOk_pv h2)
    rw [he]; simp only [builtin, List.map_toArray, List.map_cons, List.map_nil, val_eq I hp, val_eq I hq]; exact run_v h1
  · simp at h
theorem qok_min (I : Inv base w Pr bk st a N) {o : Oper} {m : Made} {call : Cl} {args : Array Operand} {ts : Array TypeId} (ho : o.op = .call { callee := .builtin .min, args := args, argTypes := ts }) (h : quiet P call o st = some m) : QOk P base w Pr bk st a o m := by
  simp only [quiet, ho] at h
  have he := exec_builtin (P := P) (w := w) (a := a) ho
  split at h
  · rename_i x y hx
    rw [args2 hx] at he
    simp only [Option.bind_eq_some_iff] at h
    obtain ⟨p, hp, q, hq, h⟩ := h
    simp only [mkd, Option.map_eq_some_iff] at h
    obtain ⟨p', hp', rfl⟩ := h
    obtain ⟨u, h1, h2⟩ := pureOp_run hp' w Pr
    refine qok_value I (v := u) ?_ (madeOk_pv h2)
    rw [he]; simp only [builtin, List.map_toArray, List.map_cons, List.map_nil, val_eq I hp, val_eq I hq]; exact run_v h1
  · simp at h

/-! ### Calls -/
theorem capsOf_rp (I : Inv base w Pr bk st a N) {PrC : Prot} (hP : ∀ b o, Pr b o → PrC b o) (hB : ∀ k cs, look st.bx k = some cs → ∀ o, PrC (bk (.bx k)) o) :
    ∀ {caps : List Cap} {ps : List PV} {vs : List Value}, capsOf st caps = some ps → vs.length = caps.length → (∀ (i : Nat) (c : Cap) (u : Value), caps[i]? = some c → vs[i]? = some u → CapRp w Pr bk c u) → RpL w PrC ps vs
  | [], ps, vs, h, hl, _ => by simp [capsOf] at h; subst h; simp at hl; subst hl; exact .nil
  | .pv p :: caps, ps, [], h, hl, hc => by simp at hl
  | .bp k off :: caps, ps, [], h, hl, hc => by simp at hl
  | .pv p :: caps, ps, v :: vs, h, hl, hc => by
    simp only [capsOf, Option.map_eq_some_iff] at h
    obtain ⟨qs, hq, rfl⟩ := h
    exact .cons (Rp.mono ⟨hP, fun _ _ _ => rfl⟩ (hc 0 _ _ rfl rfl)) (capsOf_rp I hP hB hq (by simpa using hl) (fun i c u h1 h2 => hc (i + 1) c u (by simpa using h1) (by simpa using h2)))
  | .bp k off :: caps, ps, v :: vs, h, hl, hc => by
    simp only [capsOf, Option.bind_eq_some_iff, Option.map_eq_some_iff] at h
    obtain ⟨cs, hk, qs, hq, rfl⟩ := h
    have hv : v = _ := hc 0 _ _ rfl rfl
    refine .cons ?_ (capsOf_rp I hP hB hq (by simpa using hl) (fun i c u h1 h2 => hc (i + 1) c u (by simpa using h1) (by simpa using h2)))
    rw [hv]
    obtain ⟨⟨T, c, us, hv1, hv0, hv2, hv3⟩, hv4⟩ := I.boxes k cs hk
    have hr : w.rangeAt (bk (.bx k)) 0 us := range_pre hv1 hv0
    have h2 := Rp.el (w := w) (Pr := PrC) (RpL.mono ⟨hP, fun _ _ _ => rfl⟩ (hv2.drop off)) (fun v hv => hv3 v (List.mem_of_mem_drop hv)) (rangeAt_drop hr off) (fun i _ => hB k cs hk _)
    simpa using h2
theorem argOf_rp (I : Inv base w Pr bk st a N) {PrC : Prot} (hP : ∀ b o, Pr b o → PrC b o) (hB : ∀ k cs, look st.bx k = some cs → ∀ o, PrC (bk (.bx k)) o) {x : Operand} {av : AV} {p : PV}
    (hx : st.ev x = some av) (h : st.argOf av = some p) : Rp w PrC p (a.eval x) := by
  obtain ⟨t, hv⟩ := ev_rp I hx
  cases av with
  | pv q => simp only [St.argOf, Option.some.injEq] at h; subst h; exact Rp.mono ⟨hP, fun _ _ _ => rfl⟩ hv
  | bp k off =>
    simp only [St.argOf, Option.map_eq_some_iff] at h
    obtain ⟨cs, hk, rfl⟩ := h
    have hv : a.eval x = _ := hv
    rw [hv]
    obtain ⟨⟨T, c, us, hv1, hv0, hv2, hv3⟩, hv4⟩ := I.boxes k cs hk
    have hr : w.rangeAt (bk (.bx k)) 0 us := range_pre hv1 hv0
    have h2 := Rp.el (w := w) (Pr := PrC) (RpL.mono ⟨hP, fun _ _ _ => rfl⟩ (hv2.drop off)) (fun v hv => hv3 v (List.mem_of_mem_drop hv)) (rangeAt_drop hr off) (fun i _ => hB k cs hk _)
    simpa using h2
  | bs k off sz n =>
    simp only [St.argOf, Option.map_eq_some_iff] at h
    obtain ⟨cs, hk, rfl⟩ := h
    obtain ⟨o', cap, cs', c', T', hx', ho', hk', hle, hsz, hcap, _, _⟩ := hv
    rw [hk] at hk'; cases hk'
    rw [hx']
    by_cases hn0 : n = 0
    · subst hn0
      simpa using Rp.sl (w := w) (Pr := PrC) (sz := sz) (n := 0) (cap := cap) (b := bk (.bx k)) (o := o') .nil (by simp) (by simp) (Nat.zero_le _) (fun j v hj => by simp at hj) (fun i hi => by simp at hi)
    obtain rfl : o' = off := ho'.resolve_right (fun h => hn0 h.1)
    obtain ⟨⟨T, c, us, hv1, hv0, hv2, hv3⟩, hv4⟩ := I.boxes k cs hk
    have hr : w.rangeAt (bk (.bx k)) 0 us := range_pre hv1 hv0
    have hr2 := rangeAt_take (rangeAt_drop hr o') (n * sz)
    rw [Nat.zero_add] at hr2
    refine .sl (RpL.mono ⟨hP, fun _ _ _ => rfl⟩ ((hv2.drop o').take (n * sz))) (fun v hv => hv3 v (List.mem_of_mem_drop (List.mem_of_mem_take hv))) (by simp; omega) hcap hr2 (fun i _ => hB k cs hk _)
  | cl f caps =>
    simp only [St.argOf, Option.map_eq_some_iff] at h
    obtain ⟨ps, hps, rfl⟩ := h
    obtain ⟨vs, h1, h2, h3⟩ := hv
    rw [h1]
    exact .fn (capsOf_rp I hP hB hps h2 h3)
  | _ => simp [St.argOf] at h
theorem argsOf_rp (I : Inv base w Pr bk st a N) {PrC : Prot} (hP : ∀ b o, Pr b o → PrC b o) (hB : ∀ k cs, look st.bx k = some cs → ∀ o, PrC (bk (.bx k)) o) :
    ∀ {l : List Operand} {ps : List PV}, argsOf st l = some ps → RpL w PrC ps (l.map a.eval)
  | [], ps, h => by simp [argsOf] at h; subst h; exact .nil
  | x :: l, ps, h => by
    simp only [argsOf, Option.bind_eq_some_iff, Option.map_eq_some_iff] at h
    obtain ⟨p, ⟨av, hx, hp⟩, qs, hq, rfl⟩ := h
    exact .cons (argOf_rp I hP hB hx hp) (argsOf_rp I hP hB hq)
/-- Where no address of the frame's own goes out, nothing more is protected. -/
theorem argOf_rp0 (I : Inv base w Pr bk st a N) {x : Operand} {av : AV} {p : PV} (hx : st.ev x = some av) (ho : leadsOut av = false) (h : st.argOf av = some p) : Rp w Pr p (a.eval x) := by
  obtain ⟨t, hv⟩ := ev_rp I hx
  cases av with
  | pv q => simp only [St.argOf, Option.some.injEq] at h; subst h; exact hv
  | bp k off => simp [leadsOut] at ho
  | bs k off sz n => simp [leadsOut] at ho
  | cl f caps =>
    simp only [St.argOf, Option.map_eq_some_iff] at h
    obtain ⟨ps, hps, rfl⟩ := h
    obtain ⟨vs, h1, h2, h3⟩ := hv
    rw [h1]
    refine .fn ?_
    clear h1 hx
    induction caps generalizing ps vs with
    | nil => simp [capsOf] at hps; subst hps; simp at h2; subst h2; exact .nil
    | cons c caps ih =>
      simp only [leadsOut, List.any_cons, Bool.or_eq_false_iff] at ho
      cases c with
      | bp k off => simp [capBox] at ho
      | pv q =>
        simp only [capsOf, Option.map_eq_some_iff] at hps
        obtain ⟨qs, hq, rfl⟩ := hps
        cases vs with
        | nil => simp at h2
        | cons v vs => exact .cons (h3 0 _ _ rfl rfl) (ih (by simpa [leadsOut] using ho.2) _ hq vs (by simpa using h2) (fun i c u h1 h2 => h3 (i + 1) c u (by simpa using h1) (by simpa using h2)))
  | _ => simp [St.argOf] at h
theorem argsOf_rp0 (I : Inv base w Pr bk st a N) : ∀ {l : List Operand} {ps : List PV}, (l.any fun x => ((st.ev x).map leadsOut).getD true) = false → argsOf st l = some ps → RpL w Pr ps (l.map a.eval)
  | [], ps, _, h => by simp [argsOf] at h; subst h; exact .nil
  | x :: l, ps, hn, h => by
    simp only [argsOf, Option.bind_eq_some_iff, Option.map_eq_some_iff] at h
    obtain ⟨p, ⟨av, hx, hp⟩, qs, hq, rfl⟩ := h
    simp only [List.any_cons, Bool.or_eq_false_iff, hx, Option.map_some, Option.getD_some] at hn
    exact .cons (argOf_rp0 I hx hn.1 hp) (argsOf_rp0 I hn.2 hq)
theorem exec_call {o : Oper} {g : Operand} {args : Array Operand} {ts : Array TypeId} (ho : o.op = .call { callee := .value g, args := args, argTypes := ts }) {f : Nat} {cs : List Value} (hg : a.eval g = .func (.func f) #[] cs.toArray) :
    execOp a.eval o = callFunc f ((args.toList.map a.eval) ++ cs).toArray := by
  have : args.map a.eval ++ cs.toArray = ((args.toList.map a.eval) ++ cs).toArray := Array.ext' (by simp)
  simp [execOp, ho, resolve, hg, Deferred.ofValue, invoke, this]
theorem wp_enter {o : Oper} {f : Nat} {args : Array Value} {K : Act → World → Prop} {Q : Exit → Act → World → Prop} {R : Ending → World → Prop} (he : execOp a.eval o = callFunc f args) (hb : HasBody P f)
    (hc : Calls P f args w R) (hR : ∀ e w', R e w' → ∃ v, e = .returned v ∧ K (a.put o.dst v) w') : o.wp P a w K Q := by
  obtain ⟨fn, c, h1, h2, h3⟩ := hb
  unfold Oper.wp
  have : (execOp a.eval o).run P w = .ok (.enter f args) w := by simp [he, callFunc, program, Sem.run, h1, h2, show ¬ fn.name = "runtime.NumGoroutine" from by simpa using h3]
  rw [this]
  refine hc.mono fun e w' h => ?_
  obtain ⟨v, rfl, hk⟩ := hR e w' h
  exact hk
theorem qok_call (I : Inv base w Pr bk st a N) {o : Oper} {m : Made} {call : Cl} (hC : CallOk P call) {g : Operand} {args : Array Operand} {ts : Array TypeId} (ho : o.op = .call { callee := .value g, args := args, argTypes := ts }) (h : quiet P call o st = some m) : QOk P base w Pr bk st a o m := by
  simp only [quiet, ho] at h
  split at h
  · rename_i av hg
    rw [Option.bind_eq_some_iff] at h
    obtain ⟨p, hp, h⟩ := h
    split at h
    · rename_i f caps
      rw [Option.bind_eq_some_iff] at h
      obtain ⟨as_, has, h⟩ := h
      simp only [callOut, Option.bind_eq_some_iff] at h
      obtain ⟨r, hr, h⟩ := h
      obtain ⟨hbody, hcall⟩ := hC.fn f _ r hr
      generalize hout : (leadsOut av || args.toList.any fun x => ((st.ev x).map leadsOut).getD true) = out at h
      intro K Q hK
      cases out with
      | false =>
        simp only [Bool.false_eq_true, if_false, Option.some.injEq] at h
        simp only [Bool.or_eq_false_iff] at hout
        have hg2 := argOf_rp0 I hg hout.1 hp
        generalize hge : a.eval g = gv at hg2
        cases hg2 with
        | fn hcs =>
          have hargs := (argsOf_rp0 I hout.2 has).app hcs
          refine wp_enter (exec_call ho hge) hbody (hcall _ w Pr I.prot hargs) ?_
          rintro e w' ⟨v, Pr', rfl, hret⟩
          refine ⟨v, rfl, hK v w' Pr' hret.fw ?_⟩
          subst h
          refine ⟨fun _ _ => hret.rp, fun _ _ _ h => by simp at h, fun z hz => ?_, fun q h => by simp at h⟩
          obtain ⟨b, o', n, cap, cs, h1, h2, h3, h0, h4, h5⟩ := hret.gr z hz
          exact ⟨b, o', n, cap, cs, by rw [h1], h2, h3, h0, Nat.le_trans I.hb h4, h5, fun x hx => by have := (I.own x hx).2; omega⟩
      | true =>
        simp only [if_true] at h
        split at h
        · rename_i hv
          simp only [Option.some.injEq] at h
          obtain ⟨PrC, hPC⟩ : ∃ PrC : Prot, ∀ b o', PrC b o' ↔ (Pr b o' ∨ ∃ k cs, look st.bx k = some cs ∧ b = bk (.bx k)) := ⟨fun b o' => _, fun _ _ => Iff.rfl⟩
          have hP : ∀ b o, Pr b o → PrC b o := fun b o h => (hPC b o).2 (.inl h)
          have hB : ∀ k cs, look st.bx k = some cs → ∀ o, PrC (bk (.bx k)) o := fun k cs h o => (hPC _ o).2 (.inr ⟨k, cs, h, rfl⟩)
          have hg2 := argOf_rp I hP hB hg hp
          generalize hge : a.eval g = gv at hg2
          cases hg2 with
          | fn hcs =>
            have hargs := (argsOf_rp I hP hB has).app hcs
            refine wp_enter (exec_call ho hge) hbody (hcall _ w PrC (fun b o h => ?_) hargs) ?_
            · rcases (hPC b o).1 h with h | ⟨k, cs, hk2, rfl⟩
              · exact I.prot b o h
              · exact (I.own (.bx k) ⟨cs, hk2⟩).2
            rintro e w' ⟨v, Pr', rfl, hret⟩
            have hfw : Fw w Pr w' Pr := ⟨hret.fw.bel, fun _ _ h => h, fun _ _ _ h => h, fun b o h => Nat.lt_of_lt_of_le (I.prot b o h) hret.fw.bel.size⟩
            refine ⟨v, rfl, hK v w' Pr hfw ?_⟩
            subst h
            have hrp : Rp w' Pr r.v v := by
              have h0 := hret.rp
              unfold plainR at hv
              split at hv
              · rename_i he
                rw [he] at h0 ⊢
                cases h0 with
                | tup hr => cases hr; exact .tup .nil
              · obtain ⟨u, hvo⟩ := Option.isSome_iff_exists.1 hv
                exact valOf_any hvo h0
            exact madeOk_pv hrp
        · simp at h
    · simp at h
  · simp at h
end
end Go.Proofs.YtibbgjafjhcemaaDoor.Cul
/-! M8 -/
set_option linter.unusedVariables false
set_option linter.unusedSimpArgs false
namespace Go.Proofs.YtibbgjafjhcemaaDoor.Cul
open Go Go.RowKit
section
variable {P : Program} {base : Nat} {w : World} {Pr : Prot} {bk : Key → Nat} {st : St} {a : Act} {N : Nat}

theorem bounds_run (I : Inv base w Pr bk st a N) {lo hi : Option Operand} {n : Nat} {hh ll : Int} (hhi : (match (generalizing := false) hi with | none => some (n : Int) | some y => (st.pv y).bind intOfPV) = some hh) (hlo : (match (generalizing := false) lo with | none => some (0 : Int) | some y => (st.pv y).bind intOfPV) = some ll)
    (hb0 : 0 ≤ ll) (hb1 : ll ≤ hh) (hb2 : hh ≤ n) : ∀ cap, n ≤ cap → (Instr.sliceBounds true n cap (lo.map a.eval) (hi.map a.eval) none).run P w = .ok (ll.toNat, hh.toNat, cap) w := by
  intro cap hcap
  have h1 : ∀ (k : IntKind), (Instr.sliceBound (.int k hh) cap .sliceAcap).run P w = .ok hh.toNat w := fun k => by
    simp [Instr.sliceBound, asIntOf, show 0 ≤ hh by omega, show hh ≤ (cap : Int) by omega]
  have h2 : ∀ (k : IntKind), (Instr.sliceBound (.int k ll) hh.toNat .sliceB).run P w = .ok ll.toNat w := fun k => by
    simp [Instr.sliceBound, asIntOf, show 0 ≤ ll by omega, show ll ≤ (hh.toNat : Int) by omega, show ll ≤ max hh 0 by omega]
  cases hi with
  | none =>
    simp only [Option.some.injEq] at hhi; subst hhi
    cases lo with
    | none => simp only [Option.some.injEq] at hlo; subst hlo; simp [Instr.sliceBounds]
    | some y => obtain ⟨k, hk⟩ := int_eq I hlo; have h2' := h2 k; simp only [Int.toNat_natCast] at h2'; simp [Instr.sliceBounds, hk, h2']
  | some z =>
    obtain ⟨k, hk⟩ := int_eq I hhi
    cases lo with
    | none => simp only [Option.some.injEq] at hlo; subst hlo; simp [Instr.sliceBounds, hk, h1]
    | some y => obtain ⟨k', hk'⟩ := int_eq I hlo; simp [Instr.sliceBounds, hk, h1, hk', h2]
theorem slice_run (I : Inv base w Pr bk st a N) {o : Oper} {t e : TypeId} {x : Operand} {lo hi : Option Operand} {n sz : Nat} {hh ll : Int} (ho : o.op = .slice t x lo hi none) (hu : P.underlying t = some (.slice e)) (hsz : sizeT P e = some sz)
    (hhi : (match (generalizing := false) hi with | none => some (n : Int) | some y => (st.pv y).bind intOfPV) = some hh) (hlo : (match (generalizing := false) lo with | none => some (0 : Int) | some y => (st.pv y).bind intOfPV) = some ll) (hb0 : 0 ≤ ll) (hb1 : ll ≤ hh) (hb2 : hh ≤ n) :
    ∀ A cap, n ≤ cap → a.eval x = .slice A n cap → (execOp a.eval o).run P w = .ok (.value (.slice (if cap = ll.toNat then A else A.map (·.add (ll.toNat * sz))) (hh.toNat - ll.toNat) (cap - ll.toNat))) w := by
  intro A cap hcap hx
  simp only [execOp, ho, hx]
  refine run_v ?_
  simp [Instr.sliceAt, Instr.slice, run_under hu, bounds_run I hhi hlo hb0 hb1 hb2 cap hcap, run_sizeT hsz]
theorem qok_slice (I : Inv base w Pr bk st a N) {o : Oper} {m : Made} {call : Cl} {t : TypeId} {x : Operand} {lo hi mx : Option Operand} (ho : o.op = .slice t x lo hi mx) (h : quiet P call o st = some m) : QOk P base w Pr bk st a o m := by
  simp only [quiet, ho] at h
  split at h
  · rename_i k off sz n heq
    split at h
    · rename_i e hu
      split at h
      · rename_i hsz
        rw [Option.bind_eq_some_iff] at h
        obtain ⟨hh, hhi, h⟩ := h
        rw [Option.bind_eq_some_iff] at h
        obtain ⟨ll, hlo, h⟩ := h
        split at h
        · rename_i hb
          obtain ⟨hb0, hb1, hb2⟩ := hb
          simp only [Option.some.injEq] at h; subst h
          obtain ⟨o', cap, cs, c, T, hx, h0, hk, hle, hz, hn, hblk, hroom⟩ := ev_bs I heq
          refine qok_value I (slice_run I ho hu hsz hhi hlo hb0 hb1 hb2 _ _ hn hx) (madeOk_av (t := 0) (by simp) ?_)
          have hmul : hh.toNat * sz ≤ n * sz := Nat.mul_le_mul_right _ (by omega)
          have hsub : (hh.toNat - ll.toNat) * sz = hh.toNat * sz - ll.toNat * sz := Nat.sub_mul ..
          have hlm : ll.toNat * sz ≤ hh.toNat * sz := Nat.mul_le_mul_right _ (by omega)
          have hcs : (cap - ll.toNat) * sz = cap * sz - ll.toNat * sz := Nat.sub_mul ..
          have hlc : ll.toNat * sz ≤ cap * sz := Nat.mul_le_mul_right _ (by omega)
          by_cases hcl : cap = ll.toNat
          · rw [if_pos hcl]
            have hnn : hh.toNat - ll.toNat = 0 := by omega
            by_cases hl0 : ll.toNat = 0
            · refine ⟨o', _, cs, c, T, rfl, ?_, hk, by omega, hz, by omega, hblk, by omega⟩
              rcases h0 with h0 | ⟨_, h0⟩
              · exact .inl (by rw [hl0, h0]; simp)
              · exact .inr ⟨hnn, by omega⟩
            · have : 0 < ll.toNat * sz := Nat.mul_pos (by omega) hz
              exact ⟨o', _, cs, c, T, rfl, .inr ⟨hnn, by omega⟩, hk, by omega, hz, by omega, hblk, by omega⟩
          · rw [if_neg hcl]
            simp only [Option.map_some, Addr.add_mid]
            refine ⟨_, _, cs, c, T, rfl, ?_, hk, by omega, hz, by omega, hblk, by omega⟩
            rcases h0 with rfl | ⟨h0, h1⟩
            · exact .inl rfl
            · exact .inr ⟨by omega, by omega⟩
        · simp at h
      · simp at h
    · simp at h
  · rename_i sz n cs heq
    split at h
    · rename_i e hu
      split at h
      · rename_i hsz
        rw [Option.bind_eq_some_iff] at h
        obtain ⟨hh, hhi, h⟩ := h
        rw [Option.bind_eq_some_iff] at h
        obtain ⟨ll, hlo, h⟩ := h
        split at h
        · rename_i hb
          obtain ⟨hb0, hb1, hb2⟩ := hb
          simp only [Option.some.injEq] at h; subst h
          have hv := ev_pv I heq
          have he := slice_run I ho hu hsz hhi hlo hb0 hb1 hb2
          generalize hxe : a.eval x = v at hv
          cases hv with
          | sl0 =>
            obtain rfl : ll = 0 := by omega
            obtain rfl : hh = 0 := by omega
            refine qok_value I (he _ _ (Nat.le_refl _) hxe) (madeOk_pv ?_)
            simp; exact .sl0
          | sl hr h1 hl hn hc hp =>
            rename_i cap b o' vs
            refine qok_value I (he _ _ hn hxe) (madeOk_pv ?_)
            have hlen := hr.length
            have hmul : hh.toNat * sz ≤ n * sz := Nat.mul_le_mul_right _ (by omega)
            have hsub : (hh.toNat - ll.toNat) * sz = hh.toNat * sz - ll.toNat * sz := Nat.sub_mul ..
            have hlm : ll.toNat * sz ≤ hh.toNat * sz := Nat.mul_le_mul_right _ (by omega)
            by_cases hcl : cap = ll.toNat
            · rw [if_pos hcl]
              have h0 : hh.toNat - ll.toNat = 0 := by omega
              rw [h0]
              have := Rp.sl (w := w) (Pr := Pr) (sz := sz) (n := 0) (cap := cap - ll.toNat) (b := b) (o := o') .nil (by simp) (by simp) (Nat.zero_le _) (fun j v hj => by simp at hj) (fun i hi => by simp at hi)
              simpa using this
            · rw [if_neg hcl]
              simp only [Option.map_some, Addr.add_mid]
              refine .sl ((hr.drop _).take _) (fun v hv => h1 v (List.mem_of_mem_drop (List.mem_of_mem_take hv))) ?_ (by omega) (rangeAt_take (rangeAt_drop hc _) _) (fun i hi => ?_)
              · simp only [List.length_take, List.length_drop]; omega
              · rw [Nat.add_assoc]; refine hp _ ?_; simp at hi; omega
        · simp at h
      · simp at h
    · simp at h
  · rename_i p hne heq
    rw [Option.bind_eq_some_iff] at h
    obtain ⟨v, hv, h⟩ := h
    have hx := valOf_rp hv (ev_pv I heq)
    split at h
    · refine qok_pure I ?_ h; simp only [execOp, ho, hx]; rfl
    · rw [Option.bind_eq_some_iff] at h
      obtain ⟨l, hl, h⟩ := h
      refine qok_pure I ?_ h; simp only [execOp, ho, hx, Option.map_some, val_eq I hl]; rfl
    · rw [Option.bind_eq_some_iff] at h
      obtain ⟨l, hl, h⟩ := h
      refine qok_pure I ?_ h; simp only [execOp, ho, hx, Option.map_some, val_eq I hl]; rfl
    · rw [Option.bind_eq_some_iff] at h
      obtain ⟨l, hl, h⟩ := h
      rw [Option.bind_eq_some_iff] at h
      obtain ⟨l', hl', h⟩ := h
      refine qok_pure I ?_ h; simp only [execOp, ho, hx, Option.map_some, val_eq I hl, val_eq I hl']; rfl
    · simp at h
  · simp at h
theorem bytesOf_rp : ∀ {cs : List PV} {l : List UInt8} {vs : List Value}, bytesOf cs = some l → RpL w Pr cs vs → ∃ xs : List Int, vs = xs.map (Value.int .u8) ∧ l = xs.map fun n => UInt8.ofNat n.toNat
  | [], l, vs, h, k => by simp [bytesOf] at h; cases k; subst h; exact ⟨[], rfl, rfl⟩
  | .lit v :: cs, l, vs, h, k => by
    cases k with
    | cons h1 h2 =>
      cases h1
      unfold bytesOf at h
      split at h
      · simp at *
      · rename_i n cs' heq
        simp only [List.cons.injEq, PV.lit.injEq] at heq
        obtain ⟨rfl, rfl⟩ := heq
        simp only [Option.map_eq_some_iff] at h
        obtain ⟨q, hq, rfl⟩ := h
        obtain ⟨xs, rfl, rfl⟩ := bytesOf_rp hq h2
        exact ⟨n :: xs, rfl, rfl⟩
      · simp at h
  | .sl .. :: _, l, vs, h, k => by simp [bytesOf] at h
  | .el .. :: _, l, vs, h, k => by simp [bytesOf] at h
  | .fn .. :: _, l, vs, h, k => by simp [bytesOf] at h
  | .ag .. :: _, l, vs, h, k => by simp [bytesOf] at h
  | .tup .. :: _, l, vs, h, k => by simp [bytesOf] at h
theorem qok_convert (I : Inv base w Pr bk st a N) {o : Oper} {m : Made} {call : Cl} {src dst : TypeId} {x : Operand} (ho : o.op = .convert src dst x) (h : quiet P call o st = some m) : QOk P base w Pr bk st a o m := by
  simp only [quiet, ho] at h
  split at h
  · rename_i n cs heq
    split at h
    · rename_i e hs hd
      split at h
      · rename_i he
        simp only [Option.map_eq_some_iff] at h
        obtain ⟨l, hl, rfl⟩ := h
        have hv := pv_rp I heq
        generalize hx : a.eval x = v at hv
        cases hv with
        | sl0 =>
          simp [bytesOf] at hl; subst hl
          refine qok_value I (v := .string ByteArray.empty) ?_ (madeOk_pv ?_)
          · simp only [execOp, ho, hx]; exact run_v (run_convert_bytes_nil w src e hs he 0 0 dst hd)
          · exact Rp.lit rfl
        | sl hr h1 hlen hn hc hp =>
          obtain ⟨xs, rfl, rfl⟩ := bytesOf_rp hl hr
          have hl2 := hr.length
          simp at hl2
          refine qok_value I (v := .string (strOfNums xs)) ?_ (madeOk_pv ?_)
          · simp only [execOp, ho, hx]
            refine run_v (run_convert_bytes_arg w src e hs he _ _ n _ xs (by omega) (fun i hi => ?_) dst hd)
            have := hc i (.int .u8 (xs.getD i 0)) (by simp [List.getElem?_eq_getElem (show i < xs.length by omega)])
            exact this
          · exact Rp.lit rfl
      · simp at h
    · simp at h
  · rename_i p hne heq
    rw [Option.bind_eq_some_iff] at h
    obtain ⟨v, hv, h⟩ := h
    refine qok_pure I ?_ h
    simp only [execOp, ho, valOf_rp hv (pv_rp I heq)]
  · simp at h

/-! ### Structs, arrays and slices out of parts -/
theorem foldl_set : ∀ (l : List Value) (k off : Nat) (arr : Array Value), off + k + l.length ≤ arr.size →
    ((l.zipIdx k).foldl (fun cs x => cs.setIfInBounds (off + x.2) x.1) arr).toList = arr.toList.take (off + k) ++ l ++ arr.toList.drop (off + k + l.length)
  | [], k, off, arr, h => by simp
  | v :: l, k, off, arr, h => by
    simp only [List.length_cons] at h
    simp only [List.zipIdx_cons, List.foldl_cons]
    rw [foldl_set l (k + 1) off _ (by simp; omega)]
    simp only [Array.toList_setIfInBounds, List.length_cons]
    have e1 : off + (k + 1) = off + k + 1 := by omega
    have e2 : off + k + 1 + l.length = off + k + (l.length + 1) := by omega
    rw [e1, e2, List.take_set, List.drop_set_of_lt (by omega)]
    have hlt : off + k < arr.toList.length := by simp; omega
    rw [List.take_succ_eq_append_getElem hlt, List.set_append_right _ _ (by simp; omega)]
    simp [Nat.min_eq_left (show off + k ≤ arr.size by omega)]
/-- Parts that are told, and what they are. -/
inductive PartsRp (w : World) (Pr : Prot) : List (Nat × PV) → List (Nat × Value) → Prop
  | nil : PartsRp w Pr [] []
  | cons {i : Nat} {p : PV} {v : Value} {l : List (Nat × PV)} {k : List (Nat × Value)} (h : Rp w Pr p v) (ht : isTup p = false) (hs : PartsRp w Pr l k) : PartsRp w Pr ((i, p) :: l) ((i, v) :: k)
def spliceV (vs : List Value) (off : Nat) (new : List Value) : List Value := vs.take off ++ new ++ vs.drop (off + new.length)
theorem fillPV_rp {place : Nat → Option (Nat × Nat)} : ∀ {l : List (Nat × PV)} {k : List (Nat × Value)} {cells out : List PV} {vs : List Value}, PartsRp w Pr l k → fillPV place cells l = some out → RpL w Pr cells vs → One vs →
    ∃ us, Instr.fill place vs.toArray k = some us.toArray ∧ RpL w Pr out us ∧ One us
  | _, _, cells, out, vs, .nil, h, hr, h1 => by simp [fillPV] at h; subst h; exact ⟨vs, by simp [Instr.fill], hr, h1⟩
  | _, _, cells, out, vs, .cons (i := i) (p := p) (v := v) hp ht hs, h, hr, h1 => by
    simp only [fillPV] at h
    split at h
    · simp at h
    · rename_i off size hpl
      split at h
      · simp at h
      · rename_i hsz
        simp only [not_or, Decidable.not_not, Nat.not_lt] at hsz
        obtain ⟨hc1, hc2⟩ := hp.cells_rp (fun us e => by rw [e] at ht; simp [isTup] at ht)
        have hl := hc1.length
        have hlen := hr.length
        have hv : v.cells.toList.length = size := by rw [← hl]; exact hsz.1
        have hvs : v.cells.size = size := by rw [← hv]; simp
        have hfold : (v.cells.zipIdx.foldl (fun cs (x : Value × Nat) => cs.setIfInBounds (off + x.2) x.1) vs.toArray) = (spliceV vs off v.cells.toList).toArray := by
          apply Array.ext'
          have := foldl_set v.cells.toList 0 off vs.toArray (by simp only [List.size_toArray, Nat.add_zero]; omega)
          rw [← Array.foldl_toList, Array.toList_zipIdx]
          simpa [spliceV] using this
        obtain ⟨us, hu1, hu2, hu3⟩ := fillPV_rp hs h (show RpL w Pr (splice cells off p.cells) (spliceV vs off v.cells.toList) by
            unfold splice spliceV
            rw [hl]
            exact ((hr.take off).app hc1).app (hr.drop _)) (fun u hu => by
            unfold spliceV at hu
            simp only [List.mem_append] at hu
            rcases hu with (hu | hu) | hu
            · exact h1 u (List.mem_of_mem_take hu)
            · exact hc2 u hu
            · exact h1 u (List.mem_of_mem_drop hu))
        refine ⟨us, ?_, hu2, hu3⟩
        rw [← hu1, ← hfold]
        simp only [Instr.fill, hpl]
        rw [if_neg]
        simp only [List.size_toArray, bne_iff_ne, ne_eq, Bool.or_eq_true, decide_eq_true_eq, not_or, Decidable.not_not, Nat.not_lt]
        omega
end
end Go.Proofs.YtibbgjafjhcemaaDoor.Cul
/-! M9 -/
set_option linter.unusedVariables false
set_option linter.unusedSimpArgs false
namespace Go.Proofs.YtibbgjafjhcemaaDoor.Cul
open Go Go.RowKit
section
variable {P : Program} {base : Nat} {w : World} {Pr : Prot} {bk : Key → Nat} {st : St} {a : Act} {N : Nat}
theorem partsOf_rp (I : Inv base w Pr bk st a N) : ∀ {l : List (Nat × Operand)} {ps : List (Nat × PV)}, partsOf st l = some ps → PartsRp w Pr ps (l.map fun x => (x.1, a.eval x.2))
  | [], ps, h => by simp [partsOf] at h; subst h; exact .nil
  | (i, x) :: l, ps, h => by
    simp only [partsOf, Option.bind_eq_some_iff] at h
    obtain ⟨p, hp, h⟩ := h
    split at h
    · simp at h
    · rename_i ht
      simp only [Option.map_eq_some_iff] at h
      obtain ⟨qs, hq, rfl⟩ := h
      exact .cons (pv_rp I hp) (by simpa using ht) (partsOf_rp I hq)
theorem placesOf_eq (P : Program) : ∀ (l : List Field) (pl : List (Nat × Nat)), placesOf P l = some pl → l.mapM (fun f => (P.info? f.type).map fun i => (f.offset, i.size)) = some pl
  | [], pl, h => by simp [placesOf] at h; subst h; rfl
  | f :: l, pl, h => by
    simp only [placesOf, Option.bind_eq_some_iff, Option.map_eq_some_iff] at h
    obtain ⟨s, hs, q, hq, rfl⟩ := h
    obtain ⟨i, h1, h2⟩ := sizeT_info hs
    simp [List.mapM_cons, h1, h2, placesOf_eq P l q hq]
theorem zeroT_rp {t : TypeId} {z : PV} (h : zeroT P t = some z) : ∃ i v, P.info? t = some i ∧ i.zero = some v ∧ Rp w Pr z v := by
  simp only [zeroT, Option.bind_eq_some_iff] at h
  obtain ⟨v, ⟨i, h1, h2⟩, h3⟩ := h
  exact ⟨i, v, h1, h2, pvOf_rp h3⟩
theorem pvOf_notTup {v : Value} {p : PV} (h : pvOf v = some p) : isTup p = false := by
  unfold pvOf at h
  split at h
  · simp only [Option.map_eq_some_iff] at h; obtain ⟨_, _, rfl⟩ := h; rfl
  · split at h
    · simp at h; subst h; rfl
    · simp at h
theorem zeroT_notTup {t : TypeId} {z : PV} (h : zeroT P t = some z) : isTup z = false := by
  simp only [zeroT, Option.bind_eq_some_iff] at h
  obtain ⟨v, _, h3⟩ := h
  exact pvOf_notTup h3
theorem notTup_ne {p : PV} (h : isTup p = false) : ∀ vs, p ≠ .tup vs := fun vs e => by rw [e] at h; simp [isTup] at h
theorem qok_build (I : Inv base w Pr bk st a N) {o : Oper} {m : Made} {call : Cl} {t : TypeId} {parts : Array (Nat × Operand)} (ho : o.op = .build t parts) (h : quiet P call o st = some m) : QOk P base w Pr bk st a o m := by
  simp only [quiet, ho] at h
  split at h
  · rename_i z ps hz hps
    have hparts := partsOf_rp I hps
    obtain ⟨i, zv, hi, hzv, hzr⟩ := zeroT_rp (w := w) (Pr := Pr) hz
    have hpl : (parts.map fun (i, x) => (i, a.eval x)).toList = parts.toList.map fun x => (x.1, a.eval x.2) := by simp
    have fin : ∀ out vs, RpL w Pr out vs → One vs → P.built t (parts.toList.map fun x => (x.1, a.eval x.2)) = some vs.toArray → QOk P base w Pr bk st a o { v := .pv (.ag out) } := fun out vs h1 h2 h3 => by
      refine qok_value I (v := .agg vs.toArray) ?_ (madeOk_pv (.ag h1 h2))
      simp only [execOp, ho]
      refine run_v (run_build w t _ _ ?_)
      rw [hpl]; exact h3
    generalize hzz : zv = zz at hzr
    cases hzr with
    | ag hzl hz1 =>
      split at h
      · rename_i fs hu
        rw [Option.bind_eq_some_iff] at h
        obtain ⟨pl, hpl2, h⟩ := h
        simp only [Option.map_eq_some_iff] at h
        obtain ⟨out, hf, rfl⟩ := h
        obtain ⟨us, h1, h2, h3⟩ := fillPV_rp hparts hf hzl hz1
        refine fin out us h2 h3 ?_
        have hpe := placesOf_eq P _ _ hpl2
        simp only [Program.built, hi, hu, hzv, hzz, hpe]
        rw [← h1]; simp [Value.cells]
      · rename_i n e hu
        rw [Option.bind_eq_some_iff] at h
        obtain ⟨s, hs, h⟩ := h
        simp only [Option.map_eq_some_iff] at h
        obtain ⟨out, hf, rfl⟩ := h
        obtain ⟨us, h1, h2, h3⟩ := fillPV_rp hparts hf hzl hz1
        refine fin out us h2 h3 ?_
        obtain ⟨ie, hie, hies⟩ := sizeT_info hs
        simp only [Program.built, hi, hu, hzv, hzz, hie, hies]
        rw [← h1]; simp [Value.cells]
      · simp at h
  · simp at h
/-! zeros -/
theorem zerosOf_rp {z : List PV} {zv : List Value} (h : RpL w Pr z zv) : ∀ n, RpL w Pr (zerosOf z n) (zerosOf zv n)
  | 0 => .nil
  | n + 1 => h.app (zerosOf_rp h n)
theorem zerosOf_one {zv : List Value} (h : One zv) : ∀ n, One (zerosOf zv n)
  | 0 => fun v hv => by simp [zerosOf] at hv
  | n + 1 => fun v hv => by
    simp only [zerosOf, List.mem_append] at hv
    rcases hv with hv | hv
    · exact h v hv
    · exact zerosOf_one h n v hv
theorem zerosOf_length {α : Type} (z : List α) : ∀ n, (zerosOf z n).length = n * z.length
  | 0 => by simp [zerosOf]
  | n + 1 => by simp [zerosOf, zerosOf_length z n, Nat.add_mul, Nat.add_comm]
theorem zerosOf_get {α : Type} (z : List α) : ∀ (n i : Nat), i < n * z.length → (zerosOf z n)[i]? = z[i % z.length]?
  | 0, i, h => by simp at h
  | n + 1, i, h => by
    simp only [zerosOf]
    by_cases hi : i < z.length
    · rw [List.getElem?_append_left hi, Nat.mod_eq_of_lt hi]
    · rw [List.getElem?_append_right (by omega), zerosOf_get z n (i - z.length) (by rw [Nat.add_mul] at h; omega)]
      congr 1
      rw [← Nat.mod_eq_sub_mod (by omega)]
theorem zeros_eq (zv : Array Value) (n : Nat) : ((Array.range (n * zv.size)).map (zv[· % zv.size]!)) = (zerosOf zv.toList n).toArray := by
  apply Array.ext'
  apply List.ext_getElem?
  intro i
  have hl : zv.toList.length = zv.size := by simp
  by_cases hi : i < n * zv.size
  · have hlt : i % zv.size < zv.size := Nat.mod_lt _ (by rcases Nat.eq_zero_or_pos zv.size with h | h <;> simp_all)
    have := zerosOf_get zv.toList n i (by rw [hl]; exact hi)
    rw [show (zerosOf zv.toList n).toArray.toList = zerosOf zv.toList n from rfl, this, hl]
    simp [hi, getElem!_pos, hlt]
  · rw [List.getElem?_eq_none (by simpa using hi), List.getElem?_eq_none (by simp [zerosOf_length]; omega)]
/-- A new block behind all others. -/
theorem fw_alloc (I : Inv base w Pr bk st a N) (ob : Obj) (n : Nat) : Fw w Pr (w.alloc ob) (fun b o => Pr b o ∨ (b = w.heap.size ∧ o < n)) :=
  ⟨(Below.refl _ _).alloc (Nat.le_refl _) _, fun b o h => .inl h, fun b o hb h => h.resolve_right (fun h => by omega), fun b o h => by
    simp only [World.size_alloc]
    rcases h with h | h
    · have := I.prot b o h; omega
    · omega⟩
theorem heap_alloc (w : World) (ob : Obj) : (w.alloc ob).heap[w.heap.size]? = some ob := heap_alloc_new w ob
/-- A row in a new block: told, and with room as_ far as_ the block goes. -/
theorem rp_newrow (I : Inv base w Pr bk st a N) {cs : List PV} {vs : List Value} {sz n : Nat} {T : TypeId} (hr : RpL w Pr cs vs) (h1 : One vs) (hl : cs.length = n * sz) :
    Rp (w.alloc (.cells vs.toArray T)) (fun b o => Pr b o ∨ (b = w.heap.size ∧ o < n * sz)) (.sl sz n cs) (.slice (some ⟨w.heap.size, 0, none⟩) n n) := by
  have hf := fw_alloc I (.cells vs.toArray T) (n * sz)
  have hlen := hr.length
  refine .sl (RpL.mono (hf.kp I.prot) hr) h1 hl (Nat.le_refl _) (fun j v hj => ?_) (fun i hi => .inr ⟨rfl, by omega⟩)
  rw [cell_of_row _ _ _ _ _ _ (heap_alloc w _)]
  simpa using hj
theorem room_newrow (I : Inv base w Pr bk st a N) {vs : List Value} {sz n : Nat} {T : TypeId} (hsz : 0 < sz) (hl : vs.length = n * sz) :
    Room (w.alloc (.cells vs.toArray T)) (fun b o => Pr b o ∨ (b = w.heap.size ∧ o < n * sz)) w.heap.size 0 n n sz :=
  ⟨hsz, Nat.le_refl _, ⟨_, _, heap_alloc w _, by simp [hl]⟩, fun o' h => by
    rcases h with h | h
    · exact absurd (I.prot _ _ h) (by omega)
    · omega⟩
theorem run_newRow (T : TypeId) (c : Array Value) (w : World) : (newRow T c).run P w = .ok ⟨w.heap.size, 0, none⟩ (w.alloc (.cells c T)) := by
  rfl
theorem qok_buildSlice (I : Inv base w Pr bk st a N) {o : Oper} {m : Made} {call : Cl} {t : TypeId} {len : Nat} {parts : Array (Nat × Operand)} (ho : o.op = .buildSlice t len parts) (h : quiet P call o st = some m) : QOk P base w Pr bk st a o m := by
  simp only [quiet, ho] at h
  split at h
  · rename_i e hu
    rw [Option.bind_eq_some_iff] at h
    obtain ⟨s, hs, h⟩ := h
    rw [Option.bind_eq_some_iff] at h
    obtain ⟨z, hz, h⟩ := h
    split at h
    · rename_i hcond
      rw [Option.bind_eq_some_iff] at h
      obtain ⟨ps, hps, h⟩ := h
      simp only [Option.map_eq_some_iff] at h
      obtain ⟨out, hf, rfl⟩ := h
      obtain ⟨i, zv, hi, hzv, hzr⟩ := zeroT_rp (w := w) (Pr := Pr) hz
      obtain ⟨hzc, hz1⟩ := hzr.cells_rp (notTup_ne (zeroT_notTup hz))
      have hzl := hzc.length
      have hsz : zv.cells.size = s := by rw [← hcond.2, hzl]; simp
      obtain ⟨us, h1, h2, h3⟩ := fillPV_rp (partsOf_rp I hps) hf (zerosOf_rp hzc len) (zerosOf_one hz1 len)
      have hus : us.length = len * s := by
        have := h2.length
        have hout : ∀ {l : List (Nat × PV)} {c d : List PV}, fillPV (fun i => some (i * s, s)) c l = some d → d.length = c.length := by
          intro l
          induction l with
          | nil => intro c d h; simp [fillPV] at h; subst h; rfl
          | cons x l ih =>
            intro c d h
            simp only [fillPV] at h
            split at h
            · simp at h
            · rename_i hc2
              rw [ih h]
              simp only [splice, List.length_append, List.length_take, List.length_drop]
              omega
        rw [← this, hout hf, zerosOf_length, hcond.2]
      intro K Q hK
      have hrun : (execOp a.eval o).run P w = .ok (.value (.slice (some ⟨w.heap.size, 0, none⟩) len len)) (w.alloc (.cells us.toArray e)) := by
        simp only [execOp, ho]
        refine run_v ?_
        have hze : ((Array.range (len * s)).map (zv.cells[· % zv.cells.size]!)) = (zerosOf zv.cells.toList len).toArray := by rw [← hsz]; exact zeros_eq _ _
        have hpl : (parts.map fun (i, x) => (i, a.eval x)).toList = parts.toList.map fun x => (x.1, a.eval x.2) := by simp
        have hno : ¬ 16777216 < len * s := by have := hcond.1; omega
        simp only [Instr.buildSlice, Sem.run_bind, run_under hu, Result.andThen_ok, run_sizeT hs]
        have h1' : Instr.fill (fun i => some (i * s, s)) (zerosOf zv.cells.toList len).toArray (Array.map (fun x => (x.fst, a.eval x.snd)) parts).toList = some us.toArray := by
          rw [Array.toList_map]; exact h1
        rw [if_neg (by simpa using hno)]
        have hnr := run_newRow (P := P) e us.toArray w
        by_cases h0 : len * s = 0
        · rw [if_pos h0]
          have he0 : (zerosOf zv.cells.toList len).toArray = #[] := by
            have : (zerosOf zv.cells.toList len).length = 0 := by rw [zerosOf_length]; simp [hsz, h0]
            simp [List.length_eq_zero_iff.1 this]
          rw [he0] at h1'
          simp only [Sem.run_bind, Sem.run_pure, Result.andThen_ok, h0]
          have hr0 : Array.range 0 = #[] := rfl
          simp only [hr0, List.map_toArray, List.map_nil, h1', Sem.run_bind, hnr, Result.andThen_ok, Sem.run_pure]
        · rw [if_neg h0]
          simp only [Sem.run_bind, Sem.run_pure, Result.andThen_ok, zeroValue, typeInfo, program, Sem.run, hi, hzv, hze, h1', hnr]
      unfold Oper.wp
      rw [hrun]
      refine hK _ _ _ (fw_alloc I _ (len * s)) ⟨fun _ _ => rp_newrow I h2 h3 (by rw [h2.length]; exact hus), fun _ _ _ h => by simp at h, fun z' hz' => ?_, fun q h => by simp at h⟩
      simp only at hz'
      split at hz'
      · simp at hz'
      · rename_i hns
        simp only [Option.some.injEq] at hz'; subst hz'
        simp only [not_or] at hns
        exact ⟨w.heap.size, 0, len, len, out, rfl, rfl, room_newrow I (by omega) hus, rfl, I.hb, by simp, fun x hx => by have := (I.own x hx).2; omega⟩
    · simp at h
  · simp at h
end
end Go.Proofs.YtibbgjafjhcemaaDoor.Cul
/-! M10 -/
set_option linter.unusedVariables false
set_option linter.unusedSimpArgs false
namespace Go.Proofs.YtibbgjafjhcemaaDoor.Cul
open Go Go.RowKit
section
variable {P : Program} {base : Nat} {w : World} {Pr : Prot} {bk : Key → Nat} {st : St} {a : Act} {N : Nat}
theorem quiet_ok {call : Cl} (hC : CallOk P call) (I : Inv base w Pr bk st a N) {o : Oper} {m : Made} (h : quiet P call o st = some m) : QOk P base w Pr bk st a o m := by
  cases ho : o.op with
  | move x => exact qok_move I ho h
  | pick c x y => exact qok_pick I ho h
  | binOp op t x y u => exact qok_binOp I ho h
  | unOp op t x => exact qok_unOp I ho h
  | convert s d x => exact qok_convert I ho h
  | fieldAddr s x f => exact qok_fieldAddr I ho h
  | field s x f => exact qok_field I ho h
  | indexAddr t x i => exact qok_indexAddr I ho h
  | index t x i => exact qok_index I ho h
  | load t x => exact qok_load I ho h
  | build t ps => exact qok_build I ho h
  | buildSlice t n ps => exact qok_buildSlice I ho h
  | extract x i => exact qok_extract I ho h
  | slice t x lo hi mx => exact qok_slice I ho h
  | makeFunc f fi ca => exact qok_makeFunc I ho h
  | nilCheck x => exact qok_nilCheck I ho h
  | call c =>
    obtain ⟨callee, args, ts⟩ := c
    cases callee with
    | value g => exact qok_call I hC ho h
    | builtin b =>
      cases b with
      | len => exact qok_len I ho h
      | max => exact qok_max I ho h
      | min => exact qok_min I ho h
      | _ => simp [quiet, ho] at h
    | invoke r n => simp [quiet, ho] at h
  | _ => simp [quiet, ho] at h

/-! ### What changes a variable -/
/-- What an effect owes: the frame behind it. -/
def EOk (P : Program) (base : Nat) (w : World) (Pr : Prot) (bk : Key → Nat) (st : St) (a : Act) (N : Nat) (o : Oper) (st' : St) : Prop :=
  ∀ (K : Act → World → Prop) (Q : Exit → Act → World → Prop),
    (∀ a' w' Pr' bk', Inv base w' Pr' bk' st' a' N → Below base w w' → Kp w Pr w' Pr' → (∀ b o, b < base → Pr' b o → Pr b o) → KO w w' → (∀ k, o.dst ≠ some k → bk' (.bx k) = bk (.bx k)) → a'.defers = a.defers → K a' w') → o.wp P a w K Q

/-- A frame about which less is said. -/
theorem Inv.less (I : Inv base w Pr bk st a N) {st' : St} (hs : ∀ t av, look st'.sl t = some av → look st.sl t = some av ∨ av = .dead ∧ ∃ v, a.tmps[t]? = some v)
    (hb : ∀ k cs, look st'.bx k = some cs → look st.bx k = some cs) (hg : ∀ p z, lookP st'.gr p = some z → lookP st.gr p = some z ∧ (match p with | .s t => look st'.sl t = look st.sl t | .c k _ => look st'.bx k = look st.bx k))
    (ht : ∀ t q, look st'.tg t = some (some q) → look st.tg t = some (some q))
    (hr : ∀ t u, (look st'.sl t = some (.xr u) ∨ ∃ off, look st'.sl t = some (.xe u off)) → exAt st u → exAt st' u)
    (hbs : ∀ t av k, look st'.sl t = some av → k ∈ refK av → ∀ cs, look st.bx k = some cs → look st'.bx k = some cs) : Inv base w Pr bk st' a N := by
  have hlive : ∀ x, live st' x → live st x := by
    intro x hx
    cases x with
    | bx k => obtain ⟨cs, h⟩ := hx; exact ⟨cs, hb k cs h⟩
    | sx t =>
      rcases hx with ⟨sz, n, cs, h⟩ | ⟨z, h⟩
      · rcases hs t _ h with h | ⟨h, _⟩
        · exact .inl ⟨sz, n, cs, h⟩
        · simp at h
      · exact .inr ⟨z, (hg _ z h).1⟩
    | cx k o => obtain ⟨z, h⟩ := hx; exact ⟨z, (hg _ z h).1⟩
  constructor
  · exact I.size
  · exact I.defers
  · exact I.hb
  · exact I.prot
  · intro t av h
    rcases hs t av h with h' | ⟨rfl, v, hv⟩
    · obtain ⟨v, hv, hr'⟩ := I.slots t av h'
      refine ⟨v, hv, ?_⟩
      cases av with
      | xr u => exact ⟨hr'.1, hr t u (.inl h) hr'.2⟩
      | xe u off => exact ⟨hr'.1, hr t u (.inr ⟨off, h⟩) hr'.2⟩
      | bs k off sz n => exact hr'.frame rfl fun cs e => ⟨cs, hbs t _ k h (by simp [refK]) cs e, rfl⟩
      | mv f k off sz n => obtain ⟨u, h1, h2⟩ := hr'; exact ⟨u, h1, h2.frame rfl fun cs e => ⟨cs, hbs t _ k h (by simp [refK]) cs e, rfl⟩⟩
      | tg k off sz n rest => obtain ⟨u, us, h1, h2, h3⟩ := hr'; exact ⟨u, us, h1, h2.frame rfl fun cs e => ⟨cs, hbs t _ k h (by simp [refK]) cs e, rfl⟩, h3⟩
      | _ => exact hr'
    · exact ⟨v, hv, trivial⟩
  · exact fun x hx => I.own x (hlive x hx)
  · exact fun x y hx hy => I.inj x y (hlive x hx) (hlive y hy)
  · exact fun k cs h => I.boxes k cs (hb k cs h)
  · intro t z h
    obtain ⟨h1, h2⟩ := hg _ z h
    obtain ⟨o, n, cap, cs, h3, h4, h5⟩ := I.grs t z h1
    exact ⟨o, n, cap, cs, h2.trans h3, h4, h5⟩
  · intro k i z h
    obtain ⟨h1, h2⟩ := hg _ z h
    obtain ⟨o, n, cap, cs, bcs, h3, h4⟩ := I.grc k i z h1
    exact ⟨o, n, cap, cs, bcs, h2.trans h3, h4⟩
  · intro t q h hq
    obtain ⟨z, hz⟩ := hq
    exact I.tags t q (ht t q h) ⟨z, (hg _ z hz).1⟩
theorem Inv.made0 (I : Inv base w Pr bk st a N) {d : Nat} (hd : d < N) {m : Made} {v : Value} (h : MadeOk base w Pr bk st a m v) : ∃ bk', Inv base w Pr bk' (st.made (some d) m) (a.put (some d) v) N ∧ ∀ k, bk' (.bx k) = bk (.bx k) := by
  obtain ⟨bk', h1, h2⟩ := I.made hd h; exact ⟨bk', h1, fun k => h2 _ (by simp)⟩
theorem made_put (st : St) (d : Nat) (v : AV) : st.put (some d) v = st.made (some d) { v := v } := rfl
theorem eok_value (I : Inv base w Pr bk st a N) {o : Oper} {d : Nat} (hdst : o.dst = some d) (hd : d < N) {m : Made} {v : Value} (he : (execOp a.eval o).run P w = .ok (.value v) w) (h : MadeOk base w Pr bk st a m v) : EOk P base w Pr bk st a N o (st.made (some d) m) := by
  intro K Q hK
  obtain ⟨bk', h1, hbk⟩ := I.made0 hd h
  refine wp_value he ?_
  rw [hdst]
  exact hK _ _ _ _ h1 (Below.refl _ _) (Kp.refl _ _) (fun _ _ _ h => h) (KO.refl _) (fun k _ => hbk k) rfl
theorem lookP_ne (st : St) (p q : Pl) : lookP (st.gr.filter (fun x => x.1 ≠ p)) q = if q = p then none else lookP st.gr q := by
  have := lookP_filter (fun x => decide (x ≠ p)) st.gr q
  simp only [ne_eq, decide_not, Bool.not_eq_eq_eq_not, Bool.not_true, decide_eq_false_iff_not, ite_not] at this ⊢
  exact this
theorem look_killT (p : Pl) (l : List (Nat × Option Pl)) (t : Nat) : look (l.map (killT p)) t = (look l t).map fun q => if q = some p then none else q :=
  look_map (killT p) (fun _ q => if q = some p then none else q) (fun _ => rfl) l t
/-- An array's row goes over to another slot: nobody else may append to it any more. -/
theorem Inv.release (I : Inv base w Pr bk st a N) (p : Pl) : Inv base w Pr bk { st with gr := st.gr.filter (fun x => x.1 ≠ p), tg := st.tg.map (killT p) } a N := by
  refine I.less (fun t av h => .inl h) (fun k cs h => h) (fun q z h => ?_) (fun t q h => ?_) (fun t u _ h => h) (fun _ _ _ _ _ _ e => e)
  · simp only at h
    rw [lookP_ne] at h
    split at h
    · simp at h
    · exact ⟨h, by cases q <;> rfl⟩
  · simp only at h
    rw [look_killT] at h
    cases hq : look st.tg t with
    | none => simp [hq] at h
    | some x =>
      simp only [hq, Option.map_some, Option.some.injEq] at h
      split at h
      · simp at h
      · rw [h]
theorem live_release {p : Pl} {x : Key} (h : live { st with gr := st.gr.filter (fun x => x.1 ≠ p), tg := st.tg.map (killT p) } x) (hp : ∀ t, p = .s t → ¬ exAt st t) : live st x ∧ x ≠ p.key := by
  cases x with
  | bx k => exact ⟨h, by cases p <;> simp [Pl.key]⟩
  | sx t =>
    rcases h with h | ⟨z, h⟩
    · refine ⟨.inl h, fun e => ?_⟩
      cases p with
      | s u => simp [Pl.key] at e; subst e; exact hp t rfl h
      | c k o => simp [Pl.key] at e
    · simp only at h; rw [lookP_ne] at h
      split at h
      · simp at h
      · rename_i hne; exact ⟨.inr ⟨z, h⟩, fun e => hne (by cases p with | s u => simp [Pl.key] at e; rw [e] | c k o => simp [Pl.key] at e)⟩
  | cx k o =>
    obtain ⟨z, h⟩ := h
    simp only at h; rw [lookP_ne] at h
    split at h
    · simp at h
    · rename_i hne; exact ⟨⟨z, h⟩, fun e => hne (by cases p with | s u => simp [Pl.key] at e | c k' o' => simp [Pl.key] at e; rw [e.1, e.2])⟩
theorem eok_assign (I : Inv base w Pr bk st a N) {o : Oper} {x : Operand} {st' : St} (ho : o.op = .assign x) (hN : ∀ d, o.dst = some d → d < N) (h : effect P o st = some st') : EOk P base w Pr bk st a N o st' := by
  have he : (execOp a.eval o).run P w = .ok (.value (a.eval x)) w := by simp [execOp, ho]
  simp only [effect, ho] at h
  split at h
  · rename_i t sz n cs heq
    simp only [Option.map_eq_some_iff] at h
    obtain ⟨d, hd, rfl⟩ := h
    obtain ⟨v, hv1, hv2⟩ := I.slots t _ heq
    have hx : a.eval (.tmp t) = v := eval_tmp hv1
    have hlk : ∀ u, look (drop1 st.sl t) u = if u = t then none else look st.sl u := look_drop1 st.sl t
    have hgr0 : lookP st.gr (.s t) = none := by
      cases e : lookP st.gr (.s t) with
      | none => rfl
      | some z => obtain ⟨o', n', cap', cs', h1, _⟩ := I.grs t z e; rw [show look st.sl t = _ from heq] at h1; simp at h1
    have I2 : Inv base w Pr bk { st with sl := (drop1 st.sl t).map (killA t) } a N := by
      refine I.less (fun u av h => ?_) (fun k cs h => h) (fun q z h => ⟨h, ?_⟩) (fun t q h => h) (fun u x h hx => ?_) (fun _ _ _ _ _ _ e => e)
      · simp only at h
        rw [look_map (killA t) (fun _ av => if refersTo t av then .dead else av) (fun _ => rfl), hlk] at h
        by_cases e : u = t
        · simp [e] at h
        · rw [if_neg e] at h
          cases hq : look st.sl u with
          | none => simp [hq] at h
          | some y =>
            simp only [hq, Option.map_some, Option.some.injEq] at h
            split at h
            · obtain ⟨v, hv, _⟩ := I.slots u y hq; exact .inr ⟨h.symm, v, hv⟩
            · exact .inl (by rw [h])
      · cases q with
        | s u =>
          simp only
          rw [look_map (killA t) (fun _ av => if refersTo t av then .dead else av) (fun _ => rfl), hlk]
          have e : u ≠ t := fun e => by subst e; rw [hgr0] at h; simp at h
          rw [if_neg e]
          obtain ⟨o', n', cap', cs', h1, _⟩ := I.grs u z h
          rw [h1]; rfl
        | c k o => rfl
      · simp only at h
        obtain ⟨sz', n', cs', hx⟩ := hx
        have hxt : x ≠ t := by
          intro e; subst e
          rcases h with h | ⟨off, h⟩ <;>
          · rw [look_map (killA x) (fun _ av => if refersTo x av then .dead else av) (fun _ => rfl)] at h
            cases hq : look (drop1 st.sl x) u with
            | none => simp [hq] at h
            | some y => simp only [hq, Option.map_some, Option.some.injEq] at h; split at h <;> simp_all [refersTo]
        refine ⟨sz', n', cs', ?_⟩
        simp only
        rw [look_map (killA t) (fun _ av => if refersTo t av then .dead else av) (fun _ => rfl), hlk, if_neg hxt, hx]; rfl
    obtain ⟨o', cap, vs, h1, h2, h3, h4, h5, h6, h7⟩ := hv2
    have hown := I.own (.sx t) (.inl ⟨sz, n, cs, heq⟩)
    have hm : MadeOk base w Pr bk { st with sl := (drop1 st.sl t).map (killA t) } a { v := .ex sz n cs } v := by
      refine ⟨fun h => absurd rfl (h sz n cs), fun sz' n' cs' h => ?_, fun z h => by simp at h, fun q h => by simp at h⟩
      cases h
      refine ⟨rfl, _, o', cap, vs, h1, h2, h3, h4, h5, h6, h7, hown.1, hown.2, fun x hx e => ?_⟩
      have hlx : live st x ∧ x ≠ .sx t := by
        cases x with
        | bx k => exact ⟨hx, by simp⟩
        | cx k o => exact ⟨hx, by simp⟩
        | sx u =>
          have hut : u ≠ t := by
            intro e2; subst e2
            rcases hx with ⟨_, _, _, hx⟩ | ⟨z, hx⟩
            · simp only at hx
              rw [look_map (killA u) (fun _ av => if refersTo u av then .dead else av) (fun _ => rfl), hlk, if_pos rfl] at hx; simp at hx
            · simp only at hx; rw [hgr0] at hx; simp at hx
          refine ⟨?_, by simpa using hut⟩
          rcases hx with ⟨sz', n', cs', hx⟩ | hx
          · simp only at hx
            rw [look_map (killA t) (fun _ av => if refersTo t av then .dead else av) (fun _ => rfl), hlk, if_neg hut] at hx
            cases hq : look st.sl u with
            | none => simp [hq] at hx
            | some y => simp only [hq, Option.map_some, Option.some.injEq] at hx; split at hx <;> simp_all [live, exAt]
          · exact .inr hx
      exact hlx.2 (I.inj x (.sx t) hlx.1 (.inl ⟨sz, n, cs, heq⟩) e)
    intro K Q hK
    obtain ⟨bk', hI, hbk⟩ := I2.made0 (hN d hd) hm
    refine wp_value he ?_
    rw [hd, hx]
    exact hK _ _ _ _ hI (Below.refl _ _) (Kp.refl _ _) (fun _ _ _ h => h) (KO.refl _) (fun k _ => hbk k) rfl
  · rename_i t p heq
    simp only [Option.map_eq_some_iff] at h
    obtain ⟨d, hd, h⟩ := h
    obtain ⟨v, hv1, hv2⟩ := I.slots t _ heq
    have hx : a.eval (.tmp t) = v := eval_tmp hv1
    split at h
    · rename_i z hz
      split at h
      · subst h; rw [made_put]
        exact eok_value I hd (hN d hd) he (madeOk_pv (ev_pv I heq))
      · rename_i htd
        subst h
        have I2 := I.release (.s t)
        obtain ⟨o', n, cap, cs, h1, h2, h3, h0⟩ := I.grs t z hz
        have hp : p = .sl z n cs := by
          have e : look st.sl t = some (.pv p) := heq
          rw [h1] at e; simpa using e.symm
        subst hp
        have hval : v = .slice (some ⟨bk (.sx t), o', none⟩) n cap := by rw [hv1] at h2; exact Option.some.inj h2
        have hown := I.own (.sx t) (.inr ⟨z, hz⟩)
        have hne : ¬ exAt st t := fun ⟨_, _, _, e⟩ => by rw [h1] at e; simp at e
        intro K Q hK
        have hm : MadeOk base w Pr bk { st with gr := st.gr.filter (fun x => x.1 ≠ .s t), tg := st.tg.map (killT (.s t)) } a { v := .pv (.sl z n cs), gr := some z } v := by
          refine ⟨fun _ _ => hv2, fun _ _ _ h => by simp at h, fun z' hz' => ?_, fun q h => by simp at h⟩
          simp only [Option.some.injEq] at hz'; subst hz'
          refine ⟨bk (.sx t), o', n, cap, cs, rfl, hval, h3, h0, hown.1, hown.2, fun x hx e => ?_⟩
          obtain ⟨hl, hk⟩ := live_release hx (fun u hu => by cases hu; exact hne)
          exact hk (I.inj x (.sx t) hl (.inr ⟨z, hz⟩) e)
        obtain ⟨bk', hI, hbk⟩ := I2.made0 (hN d hd) hm
        refine wp_value he ?_
        rw [hd, hx]
        exact hK _ _ _ _ hI (Below.refl _ _) (Kp.refl _ _) (fun _ _ _ h => h) (KO.refl _) (fun k _ => hbk k) rfl
    · subst h; rw [made_put]
      exact eok_value I hd (hN d hd) he (madeOk_pv (ev_pv I heq))
  · rename_i p hx heq
    simp only [Option.map_eq_some_iff] at h
    obtain ⟨d, hd, rfl⟩ := h
    rw [made_put]
    exact eok_value I hd (hN d hd) he (madeOk_pv (ev_pv I heq))
  · rename_i f caps heq
    simp only [Option.map_eq_some_iff] at h
    obtain ⟨d, hd, rfl⟩ := h
    rw [made_put]
    obtain ⟨t, hv⟩ := ev_rp I heq
    exact eok_value I hd (hN d hd) he (madeOk_av (by simp) hv)
  · rename_i k off heq
    simp only [Option.map_eq_some_iff] at h
    obtain ⟨d, hd, rfl⟩ := h
    rw [made_put]
    obtain ⟨t, hv⟩ := ev_rp I heq
    exact eok_value I hd (hN d hd) he (madeOk_av (by simp) hv)
  · rename_i k off sz n heq
    simp only [Option.map_eq_some_iff] at h
    obtain ⟨d, hd, rfl⟩ := h
    rw [made_put]
    obtain ⟨t, hv⟩ := ev_rp I heq
    exact eok_value I hd (hN d hd) he (madeOk_av (by simp) hv)
  · rename_i f k off sz n heq
    simp only [Option.map_eq_some_iff] at h
    obtain ⟨d, hd, rfl⟩ := h
    rw [made_put]
    obtain ⟨t, hv⟩ := ev_rp I heq
    exact eok_value I hd (hN d hd) he (madeOk_av (by simp) hv)
  · simp at h
end
end Go.Proofs.YtibbgjafjhcemaaDoor.Cul
/-! M11 -/
set_option linter.unusedVariables false
set_option linter.unusedSimpArgs false
namespace Go.Proofs.YtibbgjafjhcemaaDoor.Cul
open Go Go.RowKit
section
variable {P : Program} {base : Nat} {w : World} {Pr : Prot} {bk : Key → Nat} {st : St} {a : Act} {N : Nat}
theorem look_mem {α : Type} : ∀ {l : List (Nat × α)} {t : Nat} {v : α}, look l t = some v → (t, v) ∈ l
  | [], t, v, h => by simp [look] at h
  | (k, u) :: l, t, v, h => by
    simp only [look] at h
    split at h
    · rename_i e; simp at h; subst h; subst e; simp
    · exact List.mem_cons_of_mem _ (look_mem h)
theorem lookP_notBox (gr : List (Pl × Nat)) (d : Nat) (q : Pl) : lookP (gr.filter (fun x => x.1.notBox d)) q = if q.notBox d then lookP gr q else none := lookP_filter (Pl.notBox d) gr q
theorem Inv.newBoxA (I : Inv base w Pr bk st a N) {d b : Nat} {cs : List PV} {vs : List Value} {c : Array Value} {T : TypeId} {st' : St} {av0 : AV} {v0 : Value} (hd : d < N) (hb : w.heap[b]? = some (.cells c T (0, 0))) (hpre : vs <+: c.toList) (hb1 : base ≤ b) (hb2 : ∀ x, live st x → bk x ≠ b) (hb3 : ∀ o, ¬ Pr b o)
    (hr : RpL w Pr cs vs) (h1 : One vs) (hav : refersTo d av0 = false) (hne0 : ∀ sz n cs, av0 ≠ .ex sz n cs) (hv0 : ∀ (st2 : St) (a2 : Act) (bk2 : Key → Nat) (t : Nat), look st2.bx d = some cs → bk2 (.bx d) = b → RpA st2 a2 w Pr bk2 t av0 v0)
    (h : st.newBoxA d cs av0 = some st') : ∃ bk', Inv base w Pr bk' st' (a.put (some d) v0) N ∧ (∀ x, live st' x → (x = .bx d ∧ bk' x = b) ∨ (live st x ∧ bk' x = bk x)) ∧ ∀ k, k ≠ d → bk' (.bx k) = bk (.bx k) := by
  have hN : d < a.tmps.size := by rw [I.size]; exact hd
  have hblt : b < w.heap.size := (Array.getElem?_eq_some_iff.1 hb).1
  simp only [St.newBoxA] at h
  split at h
  · rename_i hall
    simp only [Option.some.injEq] at h
    obtain ⟨bk', hk1, hk2⟩ : ∃ bk' : Key → Nat, (∀ x, x ≠ .bx d → bk' x = bk x) ∧ bk' (.bx d) = b := ⟨fun x => if x = .bx d then b else bk x, fun x hx => if_neg hx, if_pos rfl⟩
    have hsl : ∀ t av, look st'.sl t = some av → (t = d ∧ av = av0) ∨ (t ≠ d ∧ (av = .dead ∧ (∃ av', look st.sl t = some av') ∨ (refersTo d av = false ∧ look st.sl t = some av)) ∧ noPtr d av = true) := by
      intro t av ht
      rw [← h] at ht; simp only at ht
      by_cases e : t = d
      · rw [look_put, if_pos e] at ht; simp [hav] at ht; exact .inl ⟨e, ht.symm⟩
      · refine .inr ⟨e, ?_, ?_⟩
        · rw [look_put, if_neg e] at ht
          cases hq : look st.sl t with
          | none => simp [hq] at ht
          | some x =>
            simp only [hq, Option.map_some, Option.some.injEq] at ht
            split at ht
            · exact .inl ⟨ht.symm, x, rfl⟩
            · rename_i hx; subst ht; exact .inr ⟨by simpa using hx, rfl⟩
        · have : look (drop1 (st.put (some d) av0).sl d) t = some av := by rw [look_drop1, if_neg e]; exact ht
          exact List.all_eq_true.1 hall _ (look_mem this)
    have hbx : ∀ k cs', look st'.bx k = some cs' → (k = d ∧ cs' = cs) ∨ (k ≠ d ∧ look st.bx k = some cs') := by
      intro k cs' hk
      rw [← h] at hk; simp only [look] at hk
      split at hk
      · rename_i e; simp at hk; exact .inl ⟨e.symm, hk.symm⟩
      · rename_i e; rw [look_drop1, if_neg (Ne.symm e)] at hk; exact .inr ⟨Ne.symm e, hk⟩
    have hgr : ∀ p z, lookP st'.gr p = some z → p ≠ .s d ∧ p.notBox d = true ∧ lookP st.gr p = some z := by
      intro p z hp
      rw [← h] at hp; simp only at hp
      rw [lookP_notBox, lookP_put] at hp
      split at hp
      · rename_i hnb
        split at hp
        · simp at hp
        · exact ⟨‹_›, hnb, hp⟩
      · simp at hp
    have hbk : ∀ k, k ≠ d → bk' (.bx k) = bk (.bx k) := fun k hk => hk1 _ (by simpa using hk)
    have hsx : ∀ t, bk' (.sx t) = bk (.sx t) := fun t => hk1 _ (by simp)
    have hcx : ∀ k o, bk' (.cx k o) = bk (.cx k o) := fun k o => hk1 _ (by simp)
    have hex : ∀ x, x ≠ d → exAt st x → exAt st' x := by
      rintro x hx ⟨sz, n, c, hl⟩
      refine ⟨sz, n, c, ?_⟩
      rw [← h]; simp only; rw [look_put, if_neg hx, hl]; rfl
    have hlive : ∀ x, live st' x → (x ≠ .bx d ∧ live st x) ∨ x = .bx d := by
      intro x hx
      cases x with
      | bx k =>
        obtain ⟨cs', hk⟩ := hx
        rcases hbx k cs' hk with ⟨rfl, _⟩ | ⟨hne, hk⟩
        · exact .inr rfl
        · exact .inl ⟨by simpa using hne, cs', hk⟩
      | sx t =>
        refine .inl ⟨by simp, ?_⟩
        rcases hx with ⟨sz, n, c, hl⟩ | ⟨z, hz⟩
        · rcases hsl t _ hl with ⟨_, e⟩ | ⟨_, ⟨e, _⟩ | ⟨_, e⟩, _⟩
          · exact absurd e.symm (hne0 _ _ _)
          · simp at e
          · exact .inl ⟨sz, n, c, e⟩
        · exact .inr ⟨z, (hgr _ z hz).2.2⟩
      | cx k o => obtain ⟨z, hz⟩ := hx; exact .inl ⟨by simp, z, (hgr _ z hz).2.2⟩
    refine ⟨bk', ?_, fun x hx => (hlive x hx).elim (fun h => .inr ⟨h.2, hk1 x h.1⟩) (fun h => .inl ⟨h, h ▸ hk2⟩), hbk⟩
    constructor
    · simp [Act.put, I.size]
    · exact I.defers
    · exact I.hb
    · exact I.prot
    · intro t av ht
      rcases hsl t av ht with ⟨rfl, rfl⟩ | ⟨hne, hav, hnp⟩
      · exact ⟨_, by rw [put_get hN, if_pos rfl], hv0 _ _ _ _ (by rw [← h]; simp [look]) hk2⟩
      · rcases hav with ⟨rfl, av', hav'⟩ | ⟨href, hav⟩
        · obtain ⟨v, hv, _⟩ := I.slots t av' hav'
          exact ⟨v, by rw [put_get hN, if_neg hne]; exact hv, trivial⟩
        · obtain ⟨v, hv, hrp⟩ := I.slots t av hav
          refine ⟨v, by rw [put_get hN, if_neg hne]; exact hv, ?_⟩
          cases av with
          | pv p => exact hrp
          | bp k off => simp only [RpA] at hrp ⊢; rw [hbk k (by simpa [noPtr] using hnp)]; exact hrp
          | cl f caps =>
            obtain ⟨us, e1, e2, e3⟩ := hrp
            refine ⟨us, e1, e2, fun i c x hc hx => ?_⟩
            have e4 := e3 i c x hc hx
            cases c with
            | pv p => exact e4
            | bp k off =>
              have : k ≠ d := by
                have := List.all_eq_true.1 hnp (.bp k off) (List.mem_of_getElem? hc)
                simpa [capNot] using this
              simp only [CapRp] at e4 ⊢; rw [hbk k this]; exact e4
          | ex sz n c => simp only [RpA] at hrp ⊢; rw [hsx]; exact hrp
          | xr u =>
            have hu : u ≠ d := by intro e; simp [refersTo, e] at href
            exact ⟨by rw [put_get hN, if_neg hu]; exact hrp.1, hex u hu hrp.2⟩
          | xe u off =>
            have hu : u ≠ d := by intro e; simp [refersTo, e] at href
            obtain ⟨⟨b', o', n', cap', e1, e2⟩, e3⟩ := hrp
            exact ⟨⟨b', o', n', cap', by rw [put_get hN, if_neg hu]; exact e1, e2⟩, hex u hu e3⟩
          | newp _ _ => exact hrp
          | dead => trivial
          | bs k off sz n =>
            have hk : k ≠ d := by simpa [noPtr] using hnp
            exact hrp.frame (hbk k hk) fun cs' e => ⟨cs', by rw [← h]; simp only [look]; rw [if_neg (Ne.symm hk), look_drop1, if_neg hk]; exact e, rfl⟩
          | mv f k off sz n =>
            have hk : k ≠ d := by simpa [noPtr] using hnp
            obtain ⟨u, e1, e2⟩ := hrp
            exact ⟨u, e1, e2.frame (hbk k hk) fun cs' e => ⟨cs', by rw [← h]; simp only [look]; rw [if_neg (Ne.symm hk), look_drop1, if_neg hk]; exact e, rfl⟩⟩
          | tg k off sz n rest =>
            have hk : k ≠ d := by simpa [noPtr] using hnp
            obtain ⟨u, us, e1, e2, e3⟩ := hrp
            exact ⟨u, us, e1, e2.frame (hbk k hk) fun cs' e => ⟨cs', by rw [← h]; simp only [look]; rw [if_neg (Ne.symm hk), look_drop1, if_neg hk]; exact e, rfl⟩, e3⟩
    · intro x hx
      rcases hlive x hx with ⟨hne, hx⟩ | rfl
      · rw [hk1 x hne]; exact I.own x hx
      · rw [hk2]; exact ⟨hb1, hblt⟩
    · intro x y hx hy e
      rcases hlive x hx with ⟨hne, hx⟩ | rfl
      · rcases hlive y hy with ⟨hne', hy⟩ | rfl
        · rw [hk1 x hne, hk1 y hne'] at e; exact I.inj x y hx hy e
        · rw [hk1 x hne, hk2] at e; exact absurd e (hb2 x hx)
      · rcases hlive y hy with ⟨hne', hy⟩ | rfl
        · rw [hk2, hk1 y hne'] at e; exact absurd e.symm (hb2 y hy)
        · rfl
    · intro k cs' hk
      rcases hbx k cs' hk with ⟨rfl, rfl⟩ | ⟨hne, hk⟩
      · rw [hk2]; exact ⟨⟨T, c, vs, hb, hpre, hr, h1⟩, hb3⟩
      · rw [hbk k hne]; exact I.boxes k cs' hk
    · intro t z hz
      obtain ⟨hne, _, hz⟩ := hgr _ z hz
      have hne : t ≠ d := fun e => hne (by rw [e])
      obtain ⟨o, n, cap, c, e1, e2, e3, e0⟩ := I.grs t z hz
      refine ⟨o, n, cap, c, ?_, by rw [put_get hN, if_neg hne, hsx]; exact e2, by rw [hsx]; exact e3, e0⟩
      rw [← h]; simp only; rw [look_put, if_neg hne, e1]; rfl
    · intro k i z hz
      obtain ⟨_, hnb, hz⟩ := hgr _ z hz
      have hne : k ≠ d := by simpa [Pl.notBox] using hnb
      obtain ⟨o, n, cap, c, bcs, e1, e2, e3, e4, e0⟩ := I.grc k i z hz
      refine ⟨o, n, cap, c, bcs, ?_, e2, by rw [hbk k hne, hcx]; exact e3, by rw [hcx]; exact e4, e0⟩
      rw [← h]; simp only [look]; rw [if_neg (Ne.symm hne), look_drop1, if_neg hne]; exact e1
    · intro t q ht hq
      rw [← h] at ht; simp only at ht
      rw [look_map (killBox d) (fun _ x => x.bind fun p => if p.notBox d then some p else none) (fun _ => rfl), lookT_put] at ht
      by_cases e : t = d
      · simp [e] at ht
      · rw [if_neg e] at ht
        cases hm : look st.tg t with
        | none => simp [hm] at ht
        | some p =>
          simp only [hm, Option.map_some, Option.some.injEq, Option.bind_eq_some_iff] at ht
          obtain ⟨p', hp', ht⟩ := ht
          split at hp'
          · simp at hp'
          · rename_i hps
            subst hp'
            split at ht
            · rename_i hnb
              simp only [Option.some.injEq] at ht; subst ht
              obtain ⟨z, hz⟩ := hq
              obtain ⟨hnd, _, hz⟩ := hgr _ z hz
              rw [put_get hN, if_neg e, ← I.tags t _ hm ⟨z, hz⟩]
              cases p' with
              | s u => simp only [placeVal]; rw [put_get hN, if_neg (fun e => hnd (by rw [e]))]
              | c k o => simp only [placeVal]; rw [hbk k (by simpa [Pl.notBox] using hnb)]
            · simp at ht
  · simp at h
theorem Inv.newBox (I : Inv base w Pr bk st a N) {d b : Nat} {cs : List PV} {vs : List Value} {T : TypeId} {st' : St} (hd : d < N) (hb : w.heap[b]? = some (.cells vs.toArray T (0, 0))) (hb1 : base ≤ b) (hb2 : ∀ x, live st x → bk x ≠ b) (hb3 : ∀ o, ¬ Pr b o)
    (hr : RpL w Pr cs vs) (h1 : One vs) (h : st.newBox d cs = some st') : ∃ bk', Inv base w Pr bk' st' (a.put (some d) (.pointer (some ⟨b, 0, none⟩))) N ∧ (∀ x, live st' x → (x = .bx d ∧ bk' x = b) ∨ (live st x ∧ bk' x = bk x)) ∧ ∀ k, k ≠ d → bk' (.bx k) = bk (.bx k) :=
  I.newBoxA hd hb (by simp) hb1 hb2 hb3 hr h1 rfl (by simp) (fun st2 a2 bk2 t _ e => by simp only [RpA]; rw [e]) h
theorem fw_alloc0 (I : Inv base w Pr bk st a N) (ob : Obj) : Fw w Pr (w.alloc ob) Pr :=
  ⟨(Below.refl _ _).alloc (Nat.le_refl _) _, fun _ _ h => h, fun _ _ _ h => h, fun b o h => by have := I.prot b o h; simp; omega⟩
theorem run_newVar (T : TypeId) (v : Value) (w : World) : (newVar T v).run P w = .ok ⟨w.heap.size, 0, none⟩ (w.alloc (.cells v.cells T)) := rfl
theorem toList_toArray' (c : Array Value) : c = c.toList.toArray := by simp
/-- A new variable. -/
theorem eok_newBox (I : Inv base w Pr bk st a N) {o : Oper} {d : Nat} {T : TypeId} {v : Value} {p : PV} {st' : St} (hdst : o.dst = some d) (hd : d < N) (hv : Rp w Pr p v) (ht : isTup p = false)
    (he : (execOp a.eval o).run P w = .ok (.value (.pointer (some ⟨w.heap.size, 0, none⟩))) (w.alloc (.cells v.cells T))) (h : st.newBox d p.cells = some st') : EOk P base w Pr bk st a N o st' := by
  intro K Q hK
  have hf := fw_alloc0 I (.cells v.cells T)
  obtain ⟨hc1, hc2⟩ := hv.cells_rp (notTup_ne ht)
  obtain ⟨bk', hI, _, hbk⟩ := (I.fw hf).newBox (b := w.heap.size) (vs := v.cells.toList) (T := T) hd (by rw [heap_alloc]) I.hb (fun x hx e => by have := (I.own x hx).2; omega) (fun o h => by have := I.prot _ _ h; omega)
    (RpL.mono (hf.kp I.prot) hc1) hc2 h
  unfold Oper.wp
  rw [he]
  show K (a.put o.dst _) _
  rw [hdst]
  exact hK _ _ _ _ hI (hf.bel.mono I.hb) (hf.kp I.prot) (fun _ _ _ h => h) hf.ko (fun k hk => hbk k (fun e => hk (by rw [hdst, e]))) rfl
theorem eok_alloc (I : Inv base w Pr bk st a N) {o : Oper} {t : TypeId} {st' : St} (ho : o.op = .alloc t) (hN : ∀ d, o.dst = some d → d < N) (h : effect P o st = some st') : EOk P base w Pr bk st a N o st' := by
  simp only [effect, ho, Option.bind_eq_some_iff] at h
  obtain ⟨d, hd, z, hz, h⟩ := h
  obtain ⟨i, zv, hi, hzv, hzr⟩ := zeroT_rp (w := w) (Pr := Pr) hz
  refine eok_newBox (T := t) I hd (hN d hd) hzr (zeroT_notTup hz) ?_ h
  simp only [execOp, ho]
  refine run_v ?_
  simp [Instr.alloc, zeroValue, typeInfo, hi, hzv, run_newVar]
theorem eok_box (I : Inv base w Pr bk st a N) {o : Oper} {t : TypeId} {x : Operand} {st' : St} (ho : o.op = .box t x) (hN : ∀ d, o.dst = some d → d < N) (h : effect P o st = some st') : EOk P base w Pr bk st a N o st' := by
  simp only [effect, ho, Option.bind_eq_some_iff] at h
  obtain ⟨d, hd, p, hp, h⟩ := h
  split at h
  · rename_i hc
    refine eok_newBox (T := t) I hd (hN d hd) (pv_rp I hp) (by simpa using hc.2) ?_ h
    simp only [execOp, ho]
    refine run_v ?_
    simp [Instr.box, run_newVar]
  · simp at h
end
end Go.Proofs.YtibbgjafjhcemaaDoor.Cul
/-! M12 -/
set_option linter.unusedVariables false
set_option linter.unusedSimpArgs false
namespace Go.Proofs.YtibbgjafjhcemaaDoor.Cul
open Go Go.RowKit
section
variable {P : Program} {base : Nat} {w : World} {Pr : Prot} {bk : Key → Nat} {st : St} {a : Act} {N : Nat}
/-- One block's cells have turned. -/
structure Wr (w w' : World) (g : Nat) : Prop where
  os : w'.os = w.os
  tape : w'.tape = w.tape
  output : w'.output = w.output
  size : w'.heap.size = w.heap.size
  other : ∀ k, k ≠ g → w'.heap[k]? = w.heap[k]?
  row : ∃ c T fz, w.heap[g]? = some (.cells c T fz)
  sized : ∀ c T fz, w.heap[g]? = some (.cells c T fz) → ∃ c', w'.heap[g]? = some (.cells c' T fz) ∧ c'.size = c.size
theorem wr_setRow (w : World) (g : Nat) (cs : Array Value) {c : Array Value} {T : TypeId} {fz : Nat × Nat} (h : w.heap[g]? = some (.cells c T fz)) (hs : cs.size = c.size) : Wr w (w.setRow g cs) g := ⟨rfl, rfl, rfl, by simp, fun k hk => setRow_other w g k cs hk, ⟨_, _, _, h⟩, fun c2 T2 fz2 h2 => by
  rw [h] at h2; cases h2
  exact ⟨cs, setRow_heap w g _ _ _ _ h, hs⟩⟩
theorem Wr.ko {w w' : World} {g : Nat} (W : Wr w w' g) : KO w w' :=
  ⟨⟨Nat.le_of_eq W.size.symm, fun k o h ho => by
    have : k ≠ g := fun e => by subst e; obtain ⟨c, T, fz, h2⟩ := W.row; rw [h] at h2; cases h2; simp [Obj.isCells] at ho
    exact (W.other k this).trans h⟩, fun k c T fz h => by
    by_cases e : k = g
    · subst e; exact W.sized c T fz h
    · exact ⟨c, (W.other k e).trans h, rfl⟩⟩
theorem Mark.ko {base : Nat} {w w' : World} {d : Deferred} (h : Mark base w d) (k : KO w w') : Mark base w' d := by
  obtain ⟨D, h1, h2, h3⟩ := h
  exact ⟨D, h1, k.same D _ h2 rfl, h3⟩
theorem Wr.below {w w' : World} {g B : Nat} (h : Wr w w' g) (hg : B ≤ g) : Below B w w' := ⟨h.os, h.tape, h.output, by rw [h.size]; exact Nat.le_refl _, fun k hk => h.other k (by omega)⟩
theorem RpA.wr {w' : World} {g t : Nat} {av : AV} {v : Value} (W : Wr w w' g) (k : Kp w Pr w' Pr) (hex : ∀ sz n cs, av = .ex sz n cs → bk (.sx t) ≠ g) (h : RpA st a w Pr bk t av v) : RpA st a w' Pr bk t av v := by
  cases av with
  | pv p => exact Rp.mono k h
  | bp k off => exact h
  | cl f caps => obtain ⟨vs, h1, h2, h3⟩ := h; exact ⟨vs, h1, h2, fun i c u hc hu => CapRp.mono k (h3 i c u hc hu)⟩
  | ex sz n cs =>
    obtain ⟨o, cap, vs, h1, h2, h3, h4, h5, h6, h7⟩ := h
    have hne := W.other _ (hex sz n cs rfl)
    exact ⟨o, cap, vs, h1, RpL.mono k h2, h3, h4, rangeAt_heap hne h5, ⟨h6.hz, h6.le, by obtain ⟨c, T, e1, e2⟩ := h6.there; exact ⟨c, T, hne.trans e1, e2⟩, h6.pr⟩, h7⟩
  | xr u => exact h
  | xe u off => exact h
  | newp _ _ => exact h
  | dead => exact h
  | bs j off sz n => exact h.world fun c T e => W.ko.sized _ c T _ e
  | mv f j off sz n => obtain ⟨u, h1, h2⟩ := h; exact ⟨u, h1, h2.world fun c T e => W.ko.sized _ c T _ e⟩
  | tg j off sz n rest => obtain ⟨u, us, h1, h2, h3⟩ := h; exact ⟨u, us, h1, h2.world fun c T e => W.ko.sized _ c T _ e, RpL.mono k h3⟩
theorem Room.wr {w' : World} {g b o n cap sz : Nat} (W : Wr w w' g) (hne : b ≠ g) (h : Room w Pr b o n cap sz) : Room w' Pr b o n cap sz :=
  ⟨h.hz, h.le, by obtain ⟨c, T, e1, e2⟩ := h.there; exact ⟨c, T, (W.other _ hne).trans e1, e2⟩, h.pr⟩
theorem lookP_out (gr : List (Pl × Nat)) (k off n : Nat) (q : Pl) : lookP (gr.filter (fun x => x.1.out k off n)) q = if q.out k off n then lookP gr q else none := lookP_filter (Pl.out k off n) gr q
theorem splice_get {α : Type} (cs : List α) (off : Nat) (new : List α) (h : off + new.length ≤ cs.length) (i : Nat) (hi : i < off ∨ off + new.length ≤ i) : (cs.take off ++ new ++ cs.drop (off + new.length))[i]? = cs[i]? := by
  rcases hi with hi | hi
  · rw [List.append_assoc, List.getElem?_append_left (by simp; omega), List.getElem?_take_of_lt hi]
  · rw [List.getElem?_append_right (by simp; omega), List.getElem?_drop]
    congr 1
    simp; omega
theorem spliceV_pre {us cl vs : List Value} {off : Nat} (h : us <+: cl) (hle : off + vs.length ≤ us.length) : spliceV us off vs <+: spliceV cl off vs := by
  obtain ⟨t, rfl⟩ := h
  refine ⟨t, ?_⟩
  unfold spliceV
  rw [List.take_append_of_le_length (by omega), List.drop_append_of_le_length hle]
  simp
theorem spliceV_size {us vs : List Value} {off : Nat} (hle : off + vs.length ≤ us.length) : (spliceV us off vs).length = us.length := by
  unfold spliceV
  simp; omega
theorem Inv.setBox (I : Inv base w Pr bk st a N) {k off : Nat} {new : List PV} {vs : List Value} {st' : St} (h : st.setBox k off new = some st') (hr : RpL w Pr new vs) (h1 : One vs) :
    ∃ cur T, w.heap[bk (.bx k)]? = some (.cells cur T (0, 0)) ∧ off + vs.length ≤ cur.size ∧ base ≤ bk (.bx k) ∧ Kp w Pr (w.setRow (bk (.bx k)) (spliceV cur.toList off vs).toArray) Pr ∧
      Inv base (w.setRow (bk (.bx k)) (spliceV cur.toList off vs).toArray) Pr bk st' a N := by
  simp only [St.setBox, Option.bind_eq_some_iff] at h
  obtain ⟨cs, hk, h⟩ := h
  split at h
  · rename_i hle
    simp only [Option.some.injEq] at h
    obtain ⟨⟨T, c0, us, hu1, hu0, hu2, hu3⟩, hu4⟩ := I.boxes k cs hk
    have hcl : us.length ≤ c0.size := by have := hu0.length_le; simpa using this
    have hlen := hr.length
    have hlen2 := hu2.length
    have hown := I.own (.bx k) ⟨cs, hk⟩
    have hW := wr_setRow w (bk (.bx k)) (spliceV c0.toList off vs).toArray hu1 (by rw [List.size_toArray, spliceV_size (by simp; omega)]; simp)
    have hK : Kp w Pr (w.setRow (bk (.bx k)) (spliceV c0.toList off vs).toArray) Pr := ⟨fun _ _ h => h, fun b o hp => by
      have hne : b ≠ bk (.bx k) := fun e => hu4 o (by rw [← e]; exact hp)
      exact World.cell?_of_block (w := w) (hW.other b hne)⟩
    have hh : (w.setRow (bk (.bx k)) (spliceV c0.toList off vs).toArray).heap[bk (.bx k)]? = some (.cells (spliceV c0.toList off vs).toArray T (0, 0)) := setRow_heap w _ _ _ _ _ hu1
    have hne : ∀ x, live st x → x ≠ .bx k → bk x ≠ bk (.bx k) := fun x hx hxk e => hxk (I.inj x (.bx k) hx ⟨cs, hk⟩ e)
    refine ⟨c0, T, hu1, by omega, hown.1, hK, ?_⟩
    have hsl : (splice cs off new).length = cs.length := by unfold splice; simp; omega
    have hbx : ∀ k' cs', look st'.bx k' = some cs' → (k' = k ∧ cs' = splice cs off new) ∨ (k' ≠ k ∧ look st.bx k' = some cs') := by
      intro k' cs' hq
      rw [← h] at hq; simp only [look] at hq
      split at hq
      · rename_i e; simp at hq; exact .inl ⟨e.symm, hq.symm⟩
      · rename_i e; rw [look_drop1, if_neg (Ne.symm e)] at hq; exact .inr ⟨Ne.symm e, hq⟩
    have hgr : ∀ p z, lookP st'.gr p = some z → p.out k off new.length = true ∧ lookP st.gr p = some z := by
      intro p z hp
      rw [← h] at hp; simp only at hp
      rw [lookP_out] at hp
      split at hp
      · exact ⟨‹_›, hp⟩
      · simp at hp
    have hlive : ∀ x, live st' x → live st x := by
      intro x hx
      cases x with
      | bx k' =>
        obtain ⟨cs', hq⟩ := hx
        rcases hbx k' cs' hq with ⟨rfl, _⟩ | ⟨_, hq⟩
        · exact ⟨cs, hk⟩
        · exact ⟨cs', hq⟩
      | sx t =>
        rcases hx with hx | ⟨z, hz⟩
        · rw [← h] at hx; exact .inl hx
        · exact .inr ⟨z, (hgr _ z hz).2⟩
      | cx k' o => obtain ⟨z, hz⟩ := hx; exact ⟨z, (hgr _ z hz).2⟩
    constructor
    · exact I.size
    · exact ⟨fun d hd => (I.defers.1 d hd).ko hW.ko, I.defers.2⟩
    · simpa using I.hb
    · simpa using I.prot
    · intro t av ht
      have ht' : look st.sl t = some av := by rw [← h] at ht; exact ht
      obtain ⟨v, hv, hrp⟩ := I.slots t av ht'
      refine ⟨v, hv, ?_⟩
      have := RpA.wr hW hK (fun sz n c e => hne (.sx t) (.inl ⟨sz, n, c, by rw [← e]; exact ht'⟩) (by simp)) hrp
      have hbx2 : ∀ j cs2, look st.bx j = some cs2 → ∃ cs3, look st'.bx j = some cs3 ∧ cs3.length = cs2.length := fun j cs2 e => by
        rw [← h]; simp only [look]
        by_cases hj : k = j
        · subst hj; rw [if_pos rfl]; rw [hk] at e; cases e; exact ⟨_, rfl, hsl⟩
        · rw [if_neg hj, look_drop1, if_neg (Ne.symm hj)]; exact ⟨cs2, e, rfl⟩
      cases av with
      | xr u => rw [← h]; exact this
      | xe u off => rw [← h]; exact this
      | bs j o' sz n => exact this.frame rfl (hbx2 j)
      | mv f j o' sz n => obtain ⟨u, h1, h2⟩ := this; exact ⟨u, h1, h2.frame rfl (hbx2 j)⟩
      | tg j o' sz n rest => obtain ⟨u, us, h1, h2, h3⟩ := this; exact ⟨u, us, h1, h2.frame rfl (hbx2 j), h3⟩
      | _ => exact this
    · exact fun x hx => by simpa using I.own x (hlive x hx)
    · exact fun x y hx hy => I.inj x y (hlive x hx) (hlive y hy)
    · intro k' cs' hq
      rcases hbx k' cs' hq with ⟨rfl, rfl⟩ | ⟨hkk, hq⟩
      · refine ⟨⟨T, _, spliceV us off vs, hh, by simpa using spliceV_pre hu0 (by omega), RpL.mono hK ?_, ?_⟩, hu4⟩
        · unfold splice spliceV; rw [hlen]; exact ((hu2.take off).app hr).app (hu2.drop _)
        · intro u hu
          unfold spliceV at hu
          simp only [List.mem_append] at hu
          rcases hu with (hu | hu) | hu
          · exact hu3 u (List.mem_of_mem_take hu)
          · exact h1 u hu
          · exact hu3 u (List.mem_of_mem_drop hu)
      · obtain ⟨⟨T', c', us', e1, e0, e2, e3⟩, e4⟩ := I.boxes k' cs' hq
        exact ⟨⟨T', c', us', (hW.other _ (hne (.bx k') ⟨cs', hq⟩ (by simpa using hkk))).trans e1, e0, RpL.mono hK e2, e3⟩, e4⟩
    · intro t z hz
      obtain ⟨_, hz⟩ := hgr _ z hz
      obtain ⟨o, n, cap, c, e1, e2, e3, e0⟩ := I.grs t z hz
      exact ⟨o, n, cap, c, by rw [← h]; exact e1, e2, e3.wr hW (hne (.sx t) (.inr ⟨z, hz⟩) (by simp)), e0⟩
    · intro k' i z hz
      obtain ⟨hout, hz⟩ := hgr _ z hz
      obtain ⟨o, n, cap, c, bcs, e1, e2, e3, e4, e0⟩ := I.grc k' i z hz
      have e4' := e4.wr hW (hne (.cx k' i) ⟨z, hz⟩ (by simp))
      by_cases hkk : k' = k
      · subst hkk
        rw [hk] at e1; cases e1
        have hi : i < off ∨ off + new.length ≤ i := by
          simp [Pl.out] at hout; omega
        refine ⟨o, n, cap, c, splice cs off new, by rw [← h]; simp [look], by rw [← e2]; exact splice_get cs off new hle i hi, ?_, e4', e0⟩
        rw [← e3, cell_of_row _ _ _ _ _ _ hh, cell_of_row _ _ _ _ _ _ hu1]
        simp only [List.getElem?_toArray]
        exact (splice_get c0.toList off vs (by simp; omega) i (by omega)).trans (Array.getElem?_toList ..)
      · refine ⟨o, n, cap, c, bcs, by rw [← h]; simp only [look]; rw [if_neg (Ne.symm hkk), look_drop1, if_neg hkk]; exact e1, e2, ?_, e4', e0⟩
        rw [← e3]; exact World.cell?_of_block (w := w) (hW.other _ (hne (.bx k') ⟨bcs, e1⟩ (by simpa using hkk)))
    · intro t q ht hq
      rw [← h] at ht; simp only at ht
      rw [look_map (killOut k off new.length) (fun _ x => x.bind fun p => if p.out k off new.length then some p else none) (fun _ => rfl)] at ht
      cases hm : look st.tg t with
      | none => simp [hm] at ht
      | some p =>
        simp only [hm, Option.map_some, Option.some.injEq, Option.bind_eq_some_iff] at ht
        obtain ⟨p', rfl, ht⟩ := ht
        split at ht
        · rename_i hout
          simp only [Option.some.injEq] at ht; subst ht
          obtain ⟨z, hz⟩ := hq
          obtain ⟨_, hz⟩ := hgr _ z hz
          rw [← I.tags t _ hm ⟨z, hz⟩]
          cases p' with
          | s u => rfl
          | c k' i =>
            simp only [placeVal]
            obtain ⟨o, n, cap, c, bcs, e1, e2, e3, e4, e0⟩ := I.grc k' i z hz
            by_cases hkk : k' = k
            · subst hkk
              have hi : i < off ∨ off + new.length ≤ i := by simp [Pl.out] at hout; omega
              rw [cell_of_row _ _ _ _ _ _ hh, cell_of_row _ _ _ _ _ _ hu1]
              simp only [List.getElem?_toArray]
              exact (splice_get c0.toList off vs (by simp; omega) i (by omega)).trans (Array.getElem?_toList ..)
            · exact World.cell?_of_block (w := w) (hW.other _ (hne (.bx k') ⟨bcs, e1⟩ (by simpa using hkk)))
        · simp at ht
  · simp at h
end
end Go.Proofs.YtibbgjafjhcemaaDoor.Cul
