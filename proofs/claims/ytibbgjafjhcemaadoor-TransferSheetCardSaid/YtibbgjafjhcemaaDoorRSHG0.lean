/- Part of a proof by an abstract machine for the program's code: lemmas, without conditions of their own beyond those that each states. (Made smaller by a program: short names, no comments.) -/
import Derived.WalkKit
import Derived.WalkSpells
import Derived.WalkLawsBesides
import Derived.Deep.MidRow
import Derived.StillTail
import Derived.KernelRfl
import Derived.RangeFuncOwn
import Derived.RangeFuncWrites
import Derived.Laws.CopyRow
import Derived.Deep.AppendSrc
set_option linter.unusedVariables false
set_option linter.unusedSimpArgs false
namespace Go.Proofs.YtibbgjafjhcemaaDoor.Cul
open Go Go.RowKit
inductive PV where
 |lit (v:Value)
 |sl (sz n:Nat) (cs:List PV)
 |el (cs:List PV)
 |fn (f:Nat) (caps:List PV)
 |ag (cs:List PV)
 |an (vs:List PV)
 deriving Inhabited
def iA:Value→Bool
 | .bool _| .int .. | .string _| .nilFunc| .slice none 0 0| .pointer none| .map none| .nilIface=>true
 | .func (.yield _) fi ca=>fi.isEmpty&&ca.isEmpty
 |_=>false
inductive Cap where
 |pv (p:PV)
 |bp (k off:Nat)
inductive AV where
 |pv (p:PV)
 |bp (k off:Nat)
 |cl (f:Nat) (caps:List Cap)
 |ex (sz n:Nat) (cs:List PV)
 |xr (t:Nat)
 |xe (t off:Nat)
 |cr (cs:List PV) (s:Option (Nat×Nat))
 |dead
 |bs (k off sz n:Nat)
 |mv (f k off sz n:Nat)
 |tg (k off sz n:Nat) (rest:List PV)
inductive Pl where
 |s (t:Nat)
 |c (k off:Nat)
 deriving DecidableEq
def Pl.kept (ks:List Nat):Pl→Bool
 | .s t=>ks.contains t
 | .c k _=>ks.contains k
def Pl.eZ (d:Nat):Pl→Bool
 | .c k _=>decide (k≠d)
 |_=>true
def mQ (d:Nat) (x:Nat×Option Pl):Nat×Option Pl:=(x.1,x.2.bind fun p=>if p.eZ d then some p else none)
def Pl.out (k off n:Nat):Pl→Bool
 | .c j o=> !(decide (j=k)&&decide (off≤o)&&decide (o<off+n))
 |_=>true
def mR (k off n:Nat) (x:Nat×Option Pl):Nat×Option Pl:=(x.1,x.2.bind fun p=>if p.out k off n then some p else none)
structure St where
 sl:List (Nat×AV)
 bx:List (Nat×List PV)
 gr:List (Pl×Nat)
 tg:List (Nat×Option Pl)
def aQ:List (Pl×Nat)→Pl→Option Nat
 |[],_=>none
 |(k,v)::l,t=>if k=t then some v else aQ l t
def look {α:Type}:List (Nat×α)→Nat→Option α
 |[],_=>none
 |(k,v)::l,t=>if k=t then some v else look l t
def bL {α:Type}:List (Nat×α)→Nat→List (Nat×α)
 |[],_=>[]
 |(k,v)::l,t=>if k=t then bL l t else (k,v)::bL l t
def bC (t:Nat):AV→Bool
 | .xr u=>decide (u=t)
 | .xe u _=>decide (u=t)
 |_=>false
def dP (d:Nat) (x:Nat×AV):Nat×AV:=(x.1,if bC d x.2 then .dead else x.2)
def fT (p:Pl) (x:Nat×Option Pl):Nat×Option Pl:=(x.1,if x.2=some p then none else x.2)
def St.tag (st:St) (t:Nat):Option Pl:=(look st.tg t).bind id
def St.put (st:St) (dst:Option Tmp) (v:AV):St:=
 match dst with
 |none=>st
 |some d=>{ sl:=dP d (d,v)::(bL st.sl d).map (dP d),bx:=st.bx,gr:=st.gr.filter (fun p=>p.1≠ .s d),tg:=(bL st.tg d).map (fT (.s d))}
def aB {α:Type} (P:Program):Sem α→Option α
 | .pure a=>some a
 | .program k=>aB P (k P)
 | .mark _ k=>aB P k
 |_=>none
def nC:List Value→Option (List PV)
 |[]=>some []
 |v::l=>if iA v then (nC l).map (PV.lit v:: ·) else none
def hH:Value→Option PV
 | .agg cs=>(nC cs.toList).map .ag
 |v=>if iA v then some (.lit v) else none
def fh:List PV→Option (List Value)
 |[]=>some []
 | .lit v::l=>(fh l).map (v:: ·)
 |_::_=>none
def valOf:PV→Option Value
 | .lit v=>some v
 | .ag cs=>(fh cs).map fun l=> .agg l.toArray
 | .fn f []=>some (.func (.func f) #[] #[])
 |_=>none
def fL:AV:= .pv (.an [])
def St.ev (st:St):Operand→Option AV
 | .tmp t=>look st.sl t
 | .const v=>(hH v).map .pv
 | .func f=>some (.pv (.fn f []))
 | .global _=>none
def St.pv (st:St) (x:Operand):Option PV:=
 match st.ev x with
 |some (.pv p)=>some p
 |_=>none
def St.val (st:St) (x:Operand):Option Value:=(st.pv x).bind valOf
def cQ (P:Program) (s:Sem Value):Option PV:=(aB P s).bind hH
def ep (P:Program) (t:TypeId):Bool:=match P.underlying t with|some (.struct _)|some (.array _ _)=>true|_=>false
def bV (P:Program) (t:TypeId):Option Nat:=(P.info? t).map (·.size)
def jD (P:Program) (t:TypeId):Option PV:=((P.info? t).bind (·.zero)).bind hH
def PV.cells:PV→List PV
 | .ag cs=>cs
 |p=>[p]
def uX (P:Program) (s:TypeId) (f:Nat):Option (Nat×TypeId):=
 match P.underlying s with
 |some (.struct fs)=>(fs[f]?).bind fun f=>if bV P f.type=some 0 then none else (bV P f.type).map fun _=>(f.offset,f.type)
 |_=>none
def dZ (P:Program) (t:TypeId) (cs:List PV) (off:Nat):Option PV:=
 (bV P t).bind fun s=>if off+s≤cs.length then (if ep P t then some (.ag ((cs.drop off).take s)) else if s=1∧(P.underlying t).isSome=true then cs[off]? else none) else none
def row (cs:List PV) (sz i:Nat):List PV:=(cs.drop (i* sz)).take sz
def splice (cs:List PV) (off:Nat) (new:List PV):List PV:=cs.take off++new++cs.drop (off+new.length)
def qE:PV→Option (Nat×List PV)
 | .lit (.slice none 0 0)=>some (0,[])
 | .sl _ n cs=>some (n,cs)
 |_=>none
def cz:PV→Option Int
 | .lit (.int _ n)=>some n
 |_=>none
structure Made where
 v:AV
 gr:Option Nat:=none
 tg:Option Pl:=none
def dL (v:Option PV):Option Made:=v.map fun p=>{ v:= .pv p}
def ED:Cap→Bool
 | .bp .. =>true
 |_=>false
def dX (st:St):List Cap→Option (List PV)
 |[]=>some []
 | .pv p::l=>(dX st l).map (p:: ·)
 | .bp k off::l=>(look st.bx k).bind fun cs=>(dX st l).map (PV.el (cs.drop off):: ·)
structure RV where
 v:PV
 gr:Option Nat
inductive MA where
 |p (p:PV)
 |g (cs:List PV) (off sz n:Nat)
inductive MR where
 |pv (p:PV)
 |gs (off n:Nat)
 |gt (off n:Nat) (rest:List PV)
structure Cl where
 fn:Nat→List PV→Option RV
 ex:Nat→Nat→Bool:=fun _ _=>false
 im:Nat→Bool:=fun _=>false
 mu:Nat→List MA→Option (MR×List PV):=fun _ _=>none
def St.fj (st:St):AV→Option PV
 | .pv p=>some p
 | .bp k off=>(look st.bx k).map fun cs=> .el (cs.drop off)
 | .bs k off sz n=>(look st.bx k).map fun cs=> .sl sz n ((cs.drop off).take (n* sz))
 | .cl f caps=>(dX st caps).map (PV.fn f)
 |_=>none
def cw:AV→Bool
 | .bp .. =>true
 | .bs .. =>true
 | .mv .. =>true
 | .tg .. =>true
 | .cl _ caps=>caps.any ED
 |_=>false
def jr (place:Nat→Option (Nat×Nat)) (cells:List PV):List (Nat×PV)→Option (List PV)
 |[]=>some cells
 |(i,v)::rest=>
  match place i with
  |none=>none
  |some (off,size)=>if v.cells.length≠size∨off+size>cells.length then none else jr place (splice cells off v.cells) rest
def gE:PV→Bool
 | .an _=>true
 |_=>false
def partsOf (st:St):List (Nat×Operand)→Option (List (Nat×PV))
 |[]=>some []
 |(i,x)::l=>(st.pv x).bind fun p=>if gE p then none else (partsOf st l).map ((i,p):: ·)
def bh {α:Type} (z:List α):Nat→List α
 |0=>[]
 |n+1=>z++bh z n
def bytesOf:List PV→Option (List UInt8)
 |[]=>some []
 | .lit (.int .u8 n)::l=>(bytesOf l).map (UInt8.ofNat n.toNat:: ·)
 |_::_=>none
def eH (st:St):List Operand→Option (List PV)
 |[]=>some []
 |x::l=>((st.ev x).bind st.fj).bind fun p=>(eH st l).map (p:: ·)
def eU (st:St):List Operand→Option (List Cap)
 |[]=>some []
 |x::l=>match st.ev x with
  |some (.pv p)=>(eU st l).map (Cap.pv p:: ·)
  |some (.bp k o)=>(eU st l).map (Cap.bp k o:: ·)
  |_=>none
def eL:PV→Bool
 | .an []=>true
 |p=>(valOf p).isSome
def sG (call:Cl) (out:Bool) (f:Nat) (args:List PV):Option Made:=
 (call.fn f args).bind fun r=>if out then (if eL r.v then some { v:= .pv r.v} else none) else some { v:= .pv r.v,gr:=r.gr}
def placesOf (P:Program):List Field→Option (List (Nat×Nat))
 |[]=>some []
 |f::l=>(bV P f.type).bind fun s=>(placesOf P l).map ((f.offset,s):: ·)
def quiet (P:Program) (call:Cl) (o:Oper) (st:St):Option Made:=
 match o.op with
 | .move x=>
   match x,st.ev x with
   |_,some (.xr t)=>some { v:= .xr t}
   |_,some (.xe t off)=>some { v:= .xe t off}
   |_,some (.cr _ _)=>none
   | .tmp t,some (.ex ..)=>some { v:= .xr t}
   | .tmp t,some v=>some { v,tg:=if (aQ st.gr (.s t)).isSome then some (.s t) else st.tag t}
   |_,some (.ex ..)=>none
   |_,some v=>some { v}
   |_,none=>none
 | .pick c a b=>(st.val c).bind fun
   | .bool t=>(st.pv (if t then a else b)).map fun p=>{ v:= .pv p}
   |_=>none
 | .binOp op t x y _=>(st.val x).bind fun a=>(st.val y).bind fun b=>dL (cQ P (do eqGuard op t x y a b;binOp op t a b))
 | .unOp op _ x=>(st.val x).bind fun a=>dL (cQ P (Op.unary op a))
 | .convert src dst x=>match st.pv x with
   |some (.sl 1 n cs)=>match P.underlying src,P.underlying dst with
    |some (.slice e),some .string=>match P.underlying e with
     |some (.int .u8)=>(bytesOf cs).map fun l=>{ v:= .pv (.lit (.string ⟨l.toArray⟩))}
     |_=>none
    |_,_=>none
   |some p=>(valOf p).bind fun a=>dL (cQ P (convert src dst a))
   |none=>none
 | .fieldAddr s x f=>(uX P s f).bind fun (off,_)=>match st.ev x with
   |some (.bp k o)=>some { v:= .bp k (o+off)}
   |some (.xe t o)=>some { v:= .xe t (o+off)}
   |some (.pv (.el cs))=>some { v:= .pv (.el (cs.drop off))}
   |_=>none
 | .field s x f=>(uX P s f).bind fun (off,t)=>match st.pv x with
   |some (.ag cs)=>dL (dZ P t cs off)
   |_=>none
 | .indexAddr t x i=>((st.pv i).bind cz).bind fun n=>match P.underlying t with
   |some (.array len e)=>(bV P e).bind fun s=>if 0≤n∧n<len then match st.ev x with
    |some (.bp k o)=>some { v:= .bp k (o+n.toNat* s)}
    |some (.pv (.el cs))=>some { v:= .pv (.el (cs.drop (n.toNat* s)))}
    |_=>none else none
   |some (.slice e)=>(bV P e).bind fun s=>match st.ev x with
    |some (.pv (.sl sz len cs))=>if sz=s∧0≤n∧n<len then some { v:= .pv (.el (row cs sz n.toNat))} else none
    |some (.xr u)=>match look st.sl u with
     |some (.ex sz len cs)=>if sz=s∧0≤n∧n<len then some { v:= .xe u (n.toNat* sz)} else none
     |_=>none
    |some (.bs k off sz len)=>if sz=s∧0≤n∧n<len then some { v:= .bp k (off+n.toNat* sz)} else none
    |_=>none
   |_=>none
 | .index t x i=>match P.underlying t,st.pv x with
   |some (.array len e),some (.ag cs)=>((st.pv i).bind cz).bind fun n=>(bV P e).bind fun s=>if 0≤n∧n<len then dL (dZ P e cs (n.toNat* s)) else none
   |_,_=>(st.val x).bind fun a=>(st.val i).bind fun b=>dL (cQ P (Instr.index t a b))
 | .load t x=>match st.ev x with
   |some (.bp k o)=>(look st.bx k).bind fun cs=>(dZ P t cs o).map fun p=>{ v:= .pv p,tg:=if !ep P t&&(aQ st.gr (.c k o)).isSome then some (.c k o) else none}
   |some (.pv (.el cs))=>dL (dZ P t cs 0)
   |some (.xe u o)=>match look st.sl u with
    |some (.ex _ _ cs)=>dL (dZ P t cs o)
    |_=>none
   |_=>none
 | .build t parts=>match jD P t,partsOf st parts.toList with
   |some (.ag z),some ps=>match P.underlying t with
    |some (.struct fs)=>(placesOf P fs.toList).bind fun pl=>(jr (fun i=>pl[i]?) z ps).map fun cs=>{ v:= .pv (.ag cs)}
    |some (.array _ e)=>(bV P e).bind fun s=>(jr (fun i=>some (i* s,s)) z ps).map fun cs=>{ v:= .pv (.ag cs)}
    |_=>none
   |_,_=>none
 | .buildSlice t len parts=>match P.underlying t with
   |some (.slice e)=>(bV P e).bind fun s=>(jD P e).bind fun z=>if len* s≤2^24∧z.cells.length=s then
    (partsOf st parts.toList).bind fun ps=>(jr (fun i=>some (i* s,s)) (bh z.cells len) ps).map fun cs=>{ v:= .pv (.sl s len cs),gr:=if len=0∨s=0 then none else some s} else none
   |_=>none
 | .extract x i=>match st.ev x with
   |some (.pv (.an vs))=>dL vs[i]?
   |some (.tg k off sz n rest)=>match i with
    |0=>some { v:= .bs k off sz n}
    |i+1=>dL rest[i]?
   |_=>none
 | .slice t x lo hi mx=>match st.ev x with
   |some (.bs k off sz n)=>match P.underlying t,mx with
    |some (.slice e),none=>if bV P e=some sz then
     (match hi with|none=>some (n:Int)|some y=>(st.pv y).bind cz).bind fun h=>
     (match lo with|none=>some (0:Int)|some y=>(st.pv y).bind cz).bind fun l=>
     if 0≤l∧l≤h∧h≤n then some { v:= .bs k (off+l.toNat* sz) sz (h.toNat - l.toNat)} else none else none
    |_,_=>none
   |some (.pv (.sl sz n cs))=>match P.underlying t,mx with
    |some (.slice e),none=>if bV P e=some sz then
     (match hi with|none=>some (n:Int)|some y=>(st.pv y).bind cz).bind fun h=>
     (match lo with|none=>some (0:Int)|some y=>(st.pv y).bind cz).bind fun l=>
     if 0≤l∧l≤h∧h≤n then some { v:= .pv (.sl sz (h.toNat - l.toNat) ((cs.drop (l.toNat* sz)).take ((h.toNat - l.toNat)* sz)))} else none else none
    |_,_=>none
   |some (.pv p)=>(valOf p).bind fun a=>match mx,lo,hi with
    |none,none,none=>dL (cQ P (Instr.sliceAt t a none none none))
    |none,some l,none=>(st.val l).bind fun l=>dL (cQ P (Instr.sliceAt t a (some l) none none))
    |none,none,some h=>(st.val h).bind fun h=>dL (cQ P (Instr.sliceAt t a none (some h) none))
    |none,some l,some h=>(st.val l).bind fun l=>(st.val h).bind fun h=>dL (cQ P (Instr.sliceAt t a (some l) (some h) none))
    |_,_,_=>none
   |_=>none
 | .makeFunc (.func f) first captured=>match first.toList,captured.toList with
   |[],cs=>(eU st cs).map fun caps=>{ v:= .cl f caps}
   |[x],[]=>match st.ev x with
    |some (.bs k off sz n)=>some { v:= .mv f k off sz n}
    |_=>none
   |_,_=>none
 | .nilCheck x=>match st.ev x with
   |some (.bp k o)=>some { v:= .bp k o}
   |some (.pv (.el cs))=>some { v:= .pv (.el cs)}
   |some (.pv (.fn f caps))=>some { v:= .pv (.fn f caps)}
   |_=>none
 | .call { callee:= .builtin .len,args,argTypes}=>match args.toList with
   |[x]=>match st.ev x with
    |some (.pv (.sl _ n _))=>match (argTypes[0]?).bind P.underlying with|some (.slice _)=>some { v:= .pv (.lit (.int .i64 n))}|_=>none
    |some (.xr u)=>match look st.sl u,(argTypes[0]?).bind P.underlying with|some (.ex _ n _),some (.slice _)=>some { v:= .pv (.lit (.int .i64 n))}|_,_=>none
    |some (.bs _ _ _ n)=>match (argTypes[0]?).bind P.underlying with|some (.slice _)=>some { v:= .pv (.lit (.int .i64 n))}|_=>none
    |some (.pv p)=>(valOf p).bind fun a=>dL (cQ P (Builtin.len_ argTypes o.type #[a]))
    |_=>none
   |_=>none
 | .call { callee:= .builtin .max,args,argTypes}=>match args.toList with
   |[x,y]=>(st.val x).bind fun a=>(st.val y).bind fun b=>dL (cQ P (Builtin.max_ argTypes o.type #[a,b]))
   |_=>none
 | .call { callee:= .builtin .min,args,argTypes}=>match args.toList with
   |[x,y]=>(st.val x).bind fun a=>(st.val y).bind fun b=>dL (cQ P (Builtin.min_ argTypes o.type #[a,b]))
   |_=>none
 | .call { callee:= .value g,args, .. }=>match (st.ev g) with
   |some v=>(st.fj v).bind fun p=>match p with
    | .fn f caps=>(eH st args.toList).bind fun gp=>sG call (cw v||args.toList.any fun x=>((st.ev x).map cw).getD true) f (gp++caps)
    |_=>none
   |_=>none
 |_=>none
def St.made (st:St) (dst:Option Tmp) (m:Made):St:=
 let s:=st.put dst m.v
 match dst with
 |none=>s
 |some d=>{ s with gr:=match m.gr with|some z=>(.s d,z)::s.gr|none=>s.gr,tg:=match m.tg with|some p=>(d,some p)::s.tg|none=>s.tg}
def zk (k:Nat):Cap→Bool
 | .bp j _=>decide (j≠k)
 |_=>true
def eV (k:Nat):AV→Bool
 | .bp j _=>decide (j≠k)
 | .bs j _ _ _=>decide (j≠k)
 | .mv _ j _ _ _=>decide (j≠k)
 | .tg j _ _ _ _=>decide (j≠k)
 | .cl _ caps=>caps.all (zk k)
 |_=>true
def St.dB (st:St) (d:Nat) (cs:List PV) (v:AV):Option St:=
 let s:=st.put (some d) v
 if (bL s.sl d).all (fun x=>eV d x.2) then
  some { s with bx:=(d,cs)::bL s.bx d,gr:=s.gr.filter (fun x=>x.1.eZ d),tg:=s.tg.map (mQ d)}
 else none
def St.nE (st:St) (d:Nat) (cs:List PV):Option St:=st.dB d cs (.bp d 0)
def St.iY (st:St) (k off:Nat) (new:List PV):Option St:=
 (look st.bx k).bind fun cs=>if off+new.length≤cs.length then
  some { st with bx:=(k,splice cs off new)::bL st.bx k,
                 gr:=st.gr.filter (fun x=>x.1.out k off new.length),
                 tg:=st.tg.map (mR k off new.length)} else none
def room:Nat:=140737488355328
def effect (P:Program) (o:Oper) (st:St):Option St:=
 match o.op with
 | .assign x=>
   match x,st.ev x with
   | .tmp t,some (.ex sz n cs)=>o.dst.map fun d=>({ st with sl:=(bL st.sl t).map (dP t)}).put (some d) (.ex sz n cs)
   | .tmp t,some (.pv p)=>o.dst.map fun d=>match aQ st.gr (.s t) with
     |some z=>if t=d then st.put (some d) (.pv p) else
      ({ st with gr:=st.gr.filter (fun x=>x.1≠Pl.s t),tg:=st.tg.map (fT (.s t))}).made (some d) { v:= .pv p,gr:=some z}
     |none=>st.put (some d) (.pv p)
   |_,some (.pv p)=>o.dst.map fun d=>st.put (some d) (.pv p)
   |_,some (.cl f caps)=>o.dst.map fun d=>st.put (some d) (.cl f caps)
   |_,some (.bp k off)=>o.dst.map fun d=>st.put (some d) (.bp k off)
   |_,some (.bs k off sz n)=>o.dst.map fun d=>st.put (some d) (.bs k off sz n)
   |_,some (.mv f k off sz n)=>o.dst.map fun d=>st.put (some d) (.mv f k off sz n)
   |_,_=>none
 | .alloc t=>o.dst.bind fun d=>(jD P t).bind fun z=>st.nE d z.cells
 | .box t x=>o.dst.bind fun d=>(st.pv x).bind fun p=>if some p.cells.length=bV P t∧gE p=false then st.nE d p.cells else none
 | .store t a x=>if o.dst=none then match st.ev a with
   |some (.bp k off)=>match x,st.ev x with
    | .tmp u,some (.pv p)=>if some p.cells.length=bV P t∧gE p=false then (st.iY k off p.cells).map fun s=>
     match aQ s.gr (.s u),ep P t with
     |some z,false=>{ s with gr:=(.c k off,z)::s.gr.filter (fun x=>x.1≠ .s u),tg:=s.tg.map (fT (.s u))}
     |_,_=>s else none
    |_,some (.pv p)=>if some p.cells.length=bV P t∧gE p=false then st.iY k off p.cells else none
    |_,_=>none
   |some (.xe u off)=>match look st.sl u,st.pv x with
    |some (.ex sz n cs),some p=>if some p.cells.length=bV P t∧gE p=false∧off+p.cells.length≤cs.length then some { st with sl:=(u, .ex sz n (splice cs off p.cells))::bL st.sl u} else none
    |_,_=>none
   |_=>none else none
 | .makeSlice t l c=>o.dst.bind fun d=>match P.underlying t,(st.pv l).bind cz,(st.pv c).bind cz with
   |some (.slice e),some n,some m=>(bV P e).bind fun s=>(jD P e).bind fun z=>
    if 0≤n∧n≤m∧m* P.bytesOf e≤room∧m≤room∧z.cells.length=s∧0<s then
     (if n=0 then some (st.made (some d) { v:= .pv (.sl s 0 []),gr:=some s}) else st.dB d (bh z.cells n.toNat) (.bs d 0 s n.toNat)) else none
   |_,_,_=>none
 | .call { callee:= .builtin .append,args,argTypes}=>o.dst.bind fun d=>match args.toList,argTypes.toList with
   |[x,y],[T,U]=>match P.underlying T,P.underlying U with
    |some (.slice e),some (.slice _)=>(bV P e).bind fun s=>(jD P e).bind fun z=>(st.pv x).bind fun p=>(qE p).bind fun v=>((st.pv y).bind qE).bind fun u=>
     if (v.1+u.1)* P.bytesOf e≤room∧v.1+u.1≤room∧0<s∧z.cells.length=s∧u.2.length=u.1* s∧v.2.length=v.1* s then
      match p with
      | .lit _=>if u.1=0 then some (st.put (some d) (.pv p)) else some (st.made (some d) { v:= .pv (.sl s u.1 u.2),gr:=some s})
      |_=>match x with
       | .tmp t=>
         (if aQ st.gr (.s t)=some s then some (Pl.s t) else match st.tag t with|some q=>if aQ st.gr q=some s then some q else none|none=>none).map fun q=>
          ({ st with gr:=st.gr.filter (fun x=>x.1≠q),tg:=st.tg.map (fT q)}).made (some d) { v:= .pv (.sl s (v.1+u.1) (v.2++u.2)),gr:=some s}
       |_=>none
     else none
    |_,_=>none
   |_,_=>none
 |_=>none
def bS:PV→Bool
 | .lit v=>iA v
 |_=>false
def gO:Op→Bool
 | .move _| .pick .. | .binOp .. | .unOp .. | .convert .. | .fieldAddr .. | .field .. | .indexAddr .. | .index .. | .load .. | .build .. | .buildSlice .. | .extract .. | .slice .. | .makeFunc .. | .nilCheck _=>true
 | .call { callee:= .builtin .append, .. }=>false
 | .call _=>true
 |_=>false
def iU:List Cap→Option (List PV)
 |[]=>some []
 | .pv p::l=>(iU l).map (p:: ·)
 | .bp .. ::_=>none
def rR (st:St):AV→Option MA
 | .pv p=>some (.p p)
 | .cl f caps=>(iU caps).map fun ps=> .p (.fn f ps)
 | .bs k off sz n=>(look st.bx k).map fun cs=> .g cs off sz n
 |_=>none
def n4 (st:St):List AV→Option (List MA)
 |[]=>some []
 |v::l=>(rR st v).bind fun m=>(n4 st l).map (m:: ·)
def fR:List AV→Option (Nat×Nat)
 |[]=>none
 | .bs k _ sz _::l=>if l.any cw then none else some (k,sz)
 |v::l=>if cw v then none else fR l
def sM (st:St):List Operand→Option (List AV)
 |[]=>some []
 |x::l=>(st.ev x).bind fun v=>(sM st l).map (v:: ·)
def xp (k sz:Nat):MR→AV
 | .pv p=> .pv p
 | .gs off n=> .bs k off sz n
 | .gt off n rest=> .tg k off sz n rest
def Nq:MR→Bool
 | .pv p=>eL p
 | .gs .. =>true
 | .gt _ _ rest=>rest.all eL
def St.dh (st:St) (k:Nat) (cs:List PV):St:={ st with bx:=(k,cs)::bL st.bx k,gr:=st.gr.filter (fun x=>x.1.eZ k),tg:=st.tg.map (mQ k)}
def iL (st:St) (o:Oper):Option (Nat×List AV):=
 match o.op with
 | .call { callee:= .value g,args, .. }=>match st.ev g with
   |some (.pv (.fn f []))=>(sM st args.toList).map (f, ·)
   |some (.mv f k off sz n)=>(sM st args.toList).map fun l=>(f, .bs k off sz n::l)
   |_=>none
 |_=>none
def sS (call:Cl) (o:Oper) (st:St) (f:Nat) (vs:List AV):Option St:=
 (fR vs).bind fun g=>(n4 st vs).bind fun ms=>(call.mu f ms).bind fun r=>
  if Nq r.1 then some ((st.dh g.1 r.2).put o.dst (xp g.1 g.2 r.1)) else none
def uV (call:Cl) (o:Oper) (st:St):Option St:=
 match o.op with
 | .call { callee:= .value g,args, .. }=>match st.ev g with
   |some (.pv (.fn f caps))=>if args.toList.any (fun x=>((st.ev x).map cw).getD true) then none else
    (eH st args.toList).bind fun gp=>(call.fn f (gp++caps)).bind fun r=>o.dst.bind fun d=>match r.v,r.gr with
     | .sl sz n cs,some z=>if z=sz∧cs.all bS=true then st.dB d cs (.bs d 0 sz n) else none
     |_,_=>none
   |_=>none
 |_=>none
def iK (P:Program) (call:Cl) (o:Oper) (st:St):Option St:=
 match iL st o with
 |some (f,vs)=>if call.im f then sS call o st f vs else if call.ex f (o.dst.getD 0) then uV call o st else if gO o.op then (quiet P call o st).map (st.made o.dst) else effect P o st
 |none=>if gO o.op then (quiet P call o st).map (st.made o.dst) else effect P o st
def jJ:AV→Bool
 | .ex .. =>true
 |_=>false
def BV (call:Cl) (o:Oper):Bool:=
 match o.op with
 | .call { callee:= .value (.func f), .. }=>call.ex f (o.dst.getD 0)
 |_=>false
def oO (call:Cl) (o:Oper) (st:St):Option Made:=
 match o.op with
 | .call { callee:= .value (.func f),args, .. }=>if args.toList.any (fun x=>((st.ev x).map cw).getD true) then none else
   (eH st args.toList).bind fun gp=>(call.fn f gp).bind fun r=>match r.v,r.gr with
    | .sl sz n cs,some z=>if z=sz∧cs.all bS=true then some { v:= .cr cs (some (sz,n))} else none
    |_,_=>none
 |_=>none
def fq (P:Program) (call:Cl) (o:Oper) (st:St):Option Made:=
 if BV call o then oO call o st else match o.op with
 | .assign x=>match st.ev x with
   |some (.pv p)=>some { v:= .pv p}
   |some (.bp k off)=>some { v:= .bp k off}
   |some (.cl f caps)=>some { v:= .cl f caps}
   |_=>none
 | .alloc t=>(jD P t).map fun z=>{ v:= .cr z.cells none}
 |_=>(quiet P call o st).bind fun m=>if jJ m.v then none else some { m with gr:=none}
def St.gS (st:St) (dst:Option Tmp) (m:Made):St:=
 match dst with
 |none=>st
 |some d=>{ st with sl:=(d,m.v)::bL st.sl d,tg:=(d,m.tg)::bL st.tg d}
def eA (ops:List Oper) (o:Oper) (st:St):Option Bool:=
 match o.guard with
 |none=>some true
 |some (j,want)=>((ops[j]?).bind (·.dst)).bind fun t=>match look st.sl t with
  |some (.pv (.lit (.bool b)))=>some (b==want)
  |some (.pv (.an []))=>some false
  |_=>none
def og (step:Oper→St→Option St) (ops:List Oper):List Oper→St→Option St
 |[],st=>some st
 |o::l,st=>(eA ops o st).bind fun
  |true=>(step o st).bind (og step ops l)
  |false=>og step ops l (st.put o.dst fL)
def j7 (P:Program) (call:Cl) (ops:List Oper):List Oper→St→Option St
 |[],st=>some st
 |o::l,st=>(eA ops o st).bind fun
  |true=>(fq P call o st).bind fun m=>j7 P call ops l (st.gS o.dst m)
  |false=>j7 P call ops l (st.gS o.dst { v:=fL})
def Ag:Op→Bool
 | .assign _| .alloc _=>true
 |op=>gO op
def vP (ops:List Oper):Nat:=
 let n:=(ops.takeWhile fun o=>Ag o.op).length
 if n=ops.length then n - 1 else n
def pY (st:St) (o:Oper):Bool:=
 match o.dst with
 |some d=>(aQ st.gr (.s d)).isNone&&(match look st.sl d with|some (.ex ..)=>false|_=>true)
 |none=>false
def St.CH (st:St) (o:Oper):Option St:=
 match o.dst with
 |some d=>match look st.sl d with
  |some (.cr cs none)=>st.nE d cs
  |some (.cr cs (some (sz,n)))=>st.dB d cs (.bs d 0 sz n)
  |_=>some st
 |none=>some st
def St.settle (st:St):List Oper→Option St
 |[]=>some st
 |o::l=>(st.CH o).bind fun s=>s.settle l
def tmpsOf (o:Oper):List Nat:=o.op.operands.toList.filterMap fun| .tmp t=>some t|_=>none
def jO (o:Oper) (j:Nat):Bool:=o.after.any fun e=>Region.binds .any e&&e.on==j
def nF (ops:List Oper) (n i:Nat) (o:Oper):Bool:=
 (match o.guard with|some (j,_)=>decide (j<i)&&jO o j|none=>true)&&
 (o.after.all fun e=> !Region.binds .any e||decide (e.on<i))&&
 (List.range n).all fun j=>match (ops[j]?).bind (·.dst) with
  |some d=>(!(tmpsOf o).contains d||(decide (j<i)&&jO o j)||(decide (i<j)&&(match ops[j]? with|some oj=>jO oj i|none=>false))||j==i)&&(j==i||o.dst !=some d)
  |none=>false
def qf (m n:Nat):Array Bool:=((List.range m).map fun i=>decide (i<n)).toArray
def mT (n:Nat) (ops:Array Oper):Bool:=
 decide (n<ops.size)&&Region.sinkB .any ops n&&Region.chainB .any ops n&&Region.seqB .any ops (ops.size - n) n (qf ops.size n)&&
 (List.range n).all fun i=>match ops[i]? with|some o=>Ag o.op&&nF ops.toList n i o|none=>false
def Ca:Op→Bool
 | .store .. =>true
 |_=>false
def FK:Op→Bool
 | .extract .. =>true
 |_=>false
def yS (ops:List Oper):Bool:=decide (ops.length≤12)&&(decide (2≤(ops.filter fun o=>Ca o.op).length)||(decide (ops.length≤8)&&ops.any (fun o=>Ca o.op)&&decide (2≤(ops.filter fun o=>FK o.op).length)))
def u7 (call:Cl) (ops:List Oper):Nat:=if ops.any (BV call) then (ops.takeWhile fun o=>gO o.op).length else vP ops
def zS (call:Cl) (ops:List Oper) (n:Nat):Bool:= !(ops.any (BV call))||mT n ops.toArray
def Sy:Ground→Bool
 | .gcOnly _=>true
 |_=>false
def yL (ops:List Oper):Bool:=ops.any fun o=>o.after.any fun e=>Sy e.ground
def kV (P:Program) (call:Cl) (ops:List Oper) (draw:Bool) (st:St):Option St:=
 if draw then
  let n:=u7 call ops
  if ((ops.take n).all (pY st)&&zS call ops n&&(!(yS ops||yL ops)||mT (vP ops) ops.toArray))=true then (j7 P call ops (ops.take n) st).bind fun s=>(s.settle (ops.take n)).bind (og (iK P call) ops (ops.drop n)) else none
 else og (iK P call) ops ops st
structure eE where
 keep:List Nat
 still:List Nat:=[]
 perm:Bool:=false
 take:Bool:=false
 oE:List Nat:=[]
def Jj (k:Nat) (x:Nat×AV):Nat×AV:=(x.1,if eV k x.2 then x.2 else .dead)
def St.cP (st:St) (t k:Nat):St:={ sl:=(bL st.sl t).map (Jj k),bx:=bL st.bx k,gr:=(st.gr.filter (fun x=>x.1.eZ k)).filter (fun x=>x.1≠ .s t),tg:=(bL st.tg t).map (mQ k)}
def wW (g:Bool) (off sz:Nat):Option Nat:=match g with
 |true=>if off=0 then some sz else none
 |false=>none
def St.fY (g:Bool) (st:St) (t:Nat):St:=
 match look st.sl t with
 |some (.ex sz n cs)=>({ st with sl:=(bL st.sl t).map (dP t)}:St).made (some t) { v:= .pv (.sl sz n cs)}
 |some (.bs k off sz n)=>match look st.bx k with
  |some cs=>(st.cP t k).made (some t) { v:= .pv (.sl sz n ((cs.drop off).take (n* sz))),gr:=wW g off sz}
  |none=>st
 |some (.bp k off)=>match look st.bx k with
  |some cs=>(st.cP t k).made (some t) { v:= .pv (.el (cs.drop off))}
  |none=>st
 |_=>st
abbrev St.Om (st:St) (t:Nat):St:=st.fY true t
def St.sI (st:St) (t:Nat):St:=st.fY false t
def gw (t:Nat):Nat:=2000000+t
def Ij:Cap→Bool
 | .pv p=>eL p
 | .bp .. =>true
def sE:AV→Bool
 | .pv p=>eL p
 | .bp .. | .bs .. | .mv .. | .dead=>true
 | .cl _ caps=>caps.all Ij
 |_=>false
def St.qx (st:St) (t:Nat):St:=
 match look st.sl t,aQ st.gr (.s t) with
 |some (.pv (.sl sz n cs)),some z=>
  if (decide (z=sz)&&cs.all bS&&(bL st.sl t).all (fun x=>sE x.2&&eV (gw t) x.2)&&st.bx.all (fun x=>x.2.all eL)&&(look st.bx (gw t)).isNone)=true then
   { sl:=(t, .bs (gw t) 0 sz n)::bL st.sl t,bx:=(gw t,cs)::st.bx,gr:=[],tg:=[]}
  else st
 |_,_=>st
def isRef:AV→Bool
 | .xr _| .xe .. =>true
 |_=>false
def JG (v:AV):AV:=if isRef v then .dead else v
def mJ (l:List (Nat×AV)):List Nat→List (Nat×AV)
 |[]=>[]
 |k::ks=>match look l k with
  |some v=>(k,JG v)::mJ l ks
  |none=>mJ l ks
def sP (l:List (Nat×List PV)):List Nat→List (Nat×List PV)
 |[]=>[]
 |k::ks=>match look l k with
  |some v=>(k,v)::sP l ks
  |none=>sP l ks
def Pl.of (k:Nat):Pl→Bool
 | .s t=>decide (t=k)
 | .c j _=>decide (j=k)
def vk (l:List (Pl×Nat)):List Nat→List (Pl×Nat)
 |[]=>[]
 |k::ks=>l.filter (fun x=>x.1.of k)++vk l ks
def oA:AV→List Nat
 | .bs k .. =>[k]
 | .mv _ k .. =>[k]
 | .tg k .. =>[k]
 |_=>[]
def refsOf:List (Nat×AV)→List Nat
 |[]=>[]
 |x::l=>oA x.2++refsOf l
def gk:Nat:=1000000
def oX (ks:List Nat):List Nat→List Nat
 |[]=>[]
 |k::l=>if ks.contains k||l.contains k then oX ks l else k::oX ks l
def k7 (st:St) (ks:List Nat):List Nat:=ks++oX ks (refsOf (mJ st.sl ks)++(st.bx.map (·.1)).filter (fun k=>gk≤k))
def St.cc (st:St) (ks:List Nat):St:=
 { sl:=mJ st.sl ks,bx:=sP st.bx (k7 st ks),gr:=vk st.gr ks,tg:=[]}
inductive Xt where
 |normal|exit (id:Nat)|ret
 deriving DecidableEq
def dstsOf:Code→List Nat
 | .region _ ops _=>ops.toList.filterMap (·.dst)
 | .seq a b| .cond _ a b=>dstsOf a++dstsOf b
 | .block _ c| .loop c=>dstsOf c
 | .rangeFunc _ ps a b=>ps.toList++(dstsOf a++dstsOf b)
 |_=>[]
def flat:Code→Bool
 | .seq a b| .cond _ a b=>flat a&&flat b
 | .block _ c| .loop c=>flat c
 | .rangeFunc .. =>false
 |_=>true
def yI (ks:List Nat):Cap→Bool
 | .bp k _=>ks.contains k
 |_=>false
def qv (ks:List Nat):AV→AV
 | .pv p=> .pv p
 | .bp k off=>if ks.contains k then .dead else .bp k off
 | .cl f caps=>if caps.any (yI ks) then .dead else .cl f caps
 |_=> .dead
def JH (ks:List Nat) (x:Nat×AV):Nat×AV:=(x.1,qv ks x.2)
def Pl.tF (f:Nat→Bool):Pl→Bool
 | .s _=>false
 | .c k _=>f k
def St.iC (st:St) (ks:List Nat):St:=
 { sl:=st.sl.map (JH ks),bx:=st.bx.filter (fun x=> !ks.contains x.1),gr:=st.gr.filter (fun x=>x.1.tF fun k=> !ks.contains k),tg:=[]}
def St.after (cV cur:St):St:=
 { sl:=cV.sl,bx:=cur.bx.filter (fun x=>(look cV.bx x.1).isSome),gr:=cur.gr.filter (fun x=>x.1.tF fun k=>(look cV.bx k).isSome),tg:=[]}
def mU:List Nat→List PV→St→St
 |p::ps,x::xs,st=>mU ps xs (st.put (some p) (.pv x))
 |_,_,st=>st
def fP (fA body:St→Option (Xt×St)) (cV:St) (ps:List Nat):List (List PV)→St→Option (Xt×St)
 |[],cur=>some (.normal,cV.after cur)
 |x::xs,cur=>(fA (mU ps x (cV.after cur))).bind fun
  |(.normal,s)=>(body s).bind fun
   |(.normal,s2)=>fP fA body cV ps xs s2
   |(e,s2)=>some (e,cV.after s2)
  |_=>none
def qZ (step:Oper→St→Option St) (ops:Array Oper) (i:Nat) (st:St):Option St:=
 (ops[i]?).bind fun o=>(eA ops.toList o st).bind fun
  |true=>step o st
  |false=>some (st.put o.dst fL)
def pM (step:Oper→St→Option St) (ops:Array Oper):Nat→Array Bool→St→Option (List St)
 |0,listed,st=>if (Region.ready .any ops listed).isEmpty then some [st] else none
 |g+1,listed,st=>if (Region.ready .any ops listed).isEmpty then none else
   (Region.ready .any ops listed).foldr (fun i acc=>((qZ step ops i st).bind (pM step ops g (listed.setIfInBounds i true))).bind fun l=>acc.map (l++ ·)) (some [])
def mK:Op→Bool
 | .move _| .binOp .. | .extract .. | .indexAddr .. =>true
 |_=>false
def yR (ops:Array Oper) (listed:Array Bool):Option Nat:=
 if Region.noSelect ops then (Region.ready .any ops listed).find? fun i=>(match ops[i]? with|some o=>mK o.op|none=>false)&&Region.free .any ops listed i else none
def lF (step:Oper→St→Option St) (ops:Array Oper):Nat→Array Bool→St→Option (List St)
 |0,listed,st=>if (Region.ready .any ops listed).isEmpty then some [st] else none
 |g+1,listed,st=>if (Region.ready .any ops listed).isEmpty then none else match yR ops listed with
  |some i=>(qZ step ops i st).bind (lF step ops g (listed.setIfInBounds i true))
  |none=>(Region.ready .any ops listed).foldr (fun i acc=>((qZ step ops i st).bind (lF step ops g (listed.setIfInBounds i true))).bind fun l=>acc.map (l++ ·)) (some [])
def iR (note:Nat→eE):Code→Bool
 | .region id _ _=> !(note id).take
 | .seq a b| .cond _ a b| .rangeFunc _ _ a b=>iR note a&&iR note b
 | .block _ c| .loop c=>iR note c
 |_=>true
def fV (note:Nat→eE):Code→Bool
 | .region id _ _=>(note id).oE.isEmpty
 | .seq a b| .cond _ a b| .rangeFunc _ _ a b=>fV note a&&fV note b
 | .block _ c| .loop c=>fV note c
 |_=>true
def St.nK (st:St) (n:eE):St:=n.still.foldl St.sI (n.oE.foldl St.qx st)
open Classical in
noncomputable def oneOf (ks:List Nat):List St→Option St
 |[]=>none
 |s::l=>if ∀x∈l,x.cc ks=s.cc ks then some (s.cc ks) else none
noncomputable def cI (P:Program) (call:Cl) (it:Nat→List PV→Option (Nat×List (List PV))) (loop:(St→Option (Xt×St))→St→Option (Xt×St)) (note:Nat→eE):Code→St→Option (Xt×St)
 | .skip,st=>some (.normal,st)
 | .region id ops dr,st=>if dr&&(note id).perm then
     ((if (note id).take then lF (iK P call) ops ops.size (Array.replicate ops.size false) (st.nK (note id)) else pM (iK P call) ops ops.size (Array.replicate ops.size false) (st.nK (note id))).bind (oneOf (note id).keep)).map fun s=>(.normal,s)
   else (kV P call ops.toList dr (st.nK (note id))).map fun s=>(.normal,s.cc (note id).keep)
 | .seq a b,st=>(cI P call it loop note a st).bind fun
   |(.normal,s)=>cI P call it loop note b s
   |r=>some r
 | .cond c t e,st=>(st.val c).bind fun
   | .bool true=>cI P call it loop note t st
   | .bool false=>cI P call it loop note e st
   |_=>none
 | .block id c,st=>(cI P call it loop note c st).map fun
   |(.exit j,s)=>if j=id then (.normal,s) else (.exit j,s)
   |r=>r
 | .loop c,st=>loop (cI P call it loop note c) st
 | .rangeFunc g ps fA body,st=>(st.pv g).bind fun
   | .fn f caps=>(it f caps).bind fun x=>if x.1=ps.size∧(iR note fA&&iR note body&&(fV note fA&&fV note body))=true then
    fP (cI P call it loop note fA) (cI P call it loop note body) (st.iC (ps.toList++(dstsOf fA++dstsOf body))) ps.toList x.2 (st.iC (ps.toList++(dstsOf fA++dstsOf body))) else none
   |_=>none
 | .exit id,st=>some (.exit id,st)
 | .ret,st=>some (.ret,st)
 |_,_=>none
def St.fix (st:St):ResultVar→St
 | .tmp t=>st.Om t
 | .cell _ _=>st
def kW (P:Program) (st:St):ResultVar→Option RV
 | .tmp t=>match look st.sl t with
   |some (.pv p)=>some ⟨p,aQ st.gr (.s t)⟩
   |_=>none
 | .cell t ty=>match look st.sl t with
   |some (.bp k o)=>(look st.bx k).bind fun cs=>(dZ P ty cs o).map fun p=>⟨p,if ep P ty then none else aQ st.gr (.c k o)⟩
   |_=>none
def gW (P:Program) (st:St):List ResultVar→Option (List PV)
 |[]=>some []
 |r::l=>(kW P (st.fix r) r).bind fun v=>(gW P (st.fix r) l).map (v.v:: ·)
def pP (P:Program) (st:St):ResultVar→Option RV
 | .tmp t=>match look st.sl t with
   |some (.cl f caps)=>(dX st caps).map fun ps=>⟨.fn f ps,none⟩
   |_=>kW P st (.tmp t)
 |r=>kW P st r
def kX (P:Program) (st:St):List ResultVar→Option RV
 |[r]=>pP P (st.fix r) r
 |l=>(gW P st l).map fun vs=>⟨.an vs,none⟩
def slotsOf:Nat→List PV→List (Nat×AV)
 |_,[]=>[]
 |i,p::l=>(i, .pv p)::slotsOf (i+1) l
def St.enter (args:List PV):St:={ sl:=slotsOf 0 args,bx:=[],gr:=[],tg:=[]}
noncomputable def uF (P:Program) (call:Cl) (it:Nat→List PV→Option (Nat×List (List PV))) (loop:(St→Option (Xt×St))→St→Option (Xt×St)) (note:Nat→eE) (fn:Func) (args:List PV):Option RV:=
 fn.body.bind fun c=>(cI P call it loop note c (.enter args)).bind fun
   |(.exit _,_)=>none
   |(_,st)=>kX P st fn.results.toList
def aR (f:St→Option (Xt×St)):Nat→St→Option (Xt×St)
 |0,_=>none
 |n+1,st=>(f st).bind fun
  |(.normal,s)=>aR f n s
  |r=>some r
def nM:Nat→List MA→List (Nat×AV)
 |_,[]=>[]
 |i, .p p::l=>(i, .pv p)::nM (i+1) l
 |i, .g _ off sz n::l=>(i, .bs gk off sz n)::nM (i+1) l
def cZ:List MA→Option (List PV)
 |[]=>none
 | .g cs _ _ _::_=>some cs
 | .p _::l=>cZ l
def jQ:List MA→Nat
 |[]=>0
 | .g _ _ sz _::_=>sz
 | .p _::l=>jQ l
def St.eI (ms:List MA):St:={ sl:=nM 0 ms,bx:=match cZ ms with|some cs=>[(gk,cs)]|none=>[],gr:=[],tg:=[]}
def k9 (st:St):List ResultVar→Option (List PV)
 |[]=>some []
 | .tmp t::l=>match look st.sl t with
   |some (.pv p)=>if eL p then (k9 st l).map (p:: ·) else none
   |_=>none
 |_::_=>none
def rT (st:St) (js:Nat):List ResultVar→Option MR
 |[]=>some (.pv (.an []))
 |[.tmp t]=>match look st.sl t with
  |some (.pv p)=>if eL p then some (.pv p) else none
  |some (.bs k off s n)=>if k=gk∧s=js then some (.gs off n) else none
  |_=>none
 | .tmp t::l=>match look st.sl t with
   |some (.bs k off s n)=>if k=gk∧s=js then (k9 st l).map (.gt off n) else none
   |_=>none
 |_=>none
noncomputable def oJ (P:Program) (call:Cl) (it:Nat→List PV→Option (Nat×List (List PV))) (loop:(St→Option (Xt×St))→St→Option (Xt×St)) (note:Nat→eE) (fn:Func) (ms:List MA):Option (MR×List PV):=
 fn.body.bind fun c=>if flat c&&fV note c&&(dstsOf c).all (fun d=>d !=gk) then (cI P call it loop note c (.eI ms)).bind fun
   |(.exit _,_)=>none
   |(_,st)=>(rT st (jQ ms) fn.results.toList).bind fun r=>(look st.bx gk).bind fun cs'=>(cZ ms).bind fun cs=>if cs'.all bS=true∧cs'.length=cs.length then some (r,cs') else none
   else none
structure jG where
 P:Program
 uw:Nat→Option ((Nat→List PV→Option RV)→List PV→Option RV)
 note:Nat→Nat→eE
 iter:Nat→List PV→Option (Nat×List (List PV)):=fun _ _=>none
 ex:Nat→Nat→Nat→Bool:=fun _ _ _=>false
 im:Nat→Bool:=fun _=>false
noncomputable def acl (M:jG):Nat→Cl
 |0=>{ fn:=fun _ _=>none}
 |n+1=>
  { fn:=fun f args=>match M.uw f with
      |some g=>g (acl M n).fn args
      |none=>(M.P.funcs[f]?).bind fun fn=>uF M.P { acl M n with ex:=M.ex f,im:=M.im} M.iter (fun g=>aR g n) (M.note f) fn args
    mu:=fun f ms=>match M.uw f with
     |some _=>none
     |none=>(M.P.funcs[f]?).bind fun fn=>oJ M.P { acl M n with ex:=M.ex f,im:=M.im} M.iter (fun g=>aR g n) (M.note f) fn ms}
noncomputable def IY (M:jG) (n:Nat):Nat→List PV→Option RV:=(acl M n).fn
end Go.Proofs.YtibbgjafjhcemaaDoor.Cul
namespace Go.Proofs.YtibbgjafjhcemaaDoor.Cul
open Go
def Az (ops:Array Oper):Bool:=mT (vP ops.toList) ops
def kD (N:Nat) (ops:Array Oper) (draw:Bool):Bool:=
 (ops.toList.all fun o=>match o.dst with|some d=>decide (d<N)|none=>true)&&(!draw||Az ops||(yS ops.toList||yL ops.toList))
def bZ (N:Nat):Code→Bool
 | .region _ ops dr=>kD N ops dr
 | .seq a b=>bZ N a&&bZ N b
 | .cond _ a b=>bZ N a&&bZ N b
 | .block _ c=>bZ N c
 | .loop c=>bZ N c
 | .rangeFunc _ ps a b=>flat a&&flat b&&bZ N a&&bZ N b&&ps.toList.all fun p=>decide (p<N)
 | .skip| .exit _| .ret=>true
 |_=>false
def ur (fn:Func):Bool:=match fn.body with|some c=>bZ fn.ntmps c&& !(fn.name== "runtime.NumGoroutine")|none=>true
end Go.Proofs.YtibbgjafjhcemaaDoor.Cul
namespace Go.Proofs.YtibbgjafjhcemaaDoor.Cul
open Go Go.RowKit
abbrev aD:=Nat→Nat→Prop
mutual
inductive Rp (w:World) (Pr:aD):PV→Value→Prop
 |lit {v:Value} (h:iA v=true):Rp w Pr (.lit v) v
 |sl {sz n cap b o:Nat} {cs:List PV} {vs:List Value} (hr:aT w Pr cs vs) (h1:∀v∈vs,v.oneCell'=true) (hl:cs.length=n* sz) (hn:n≤cap)
  (hc:w.rangeAt b o vs) (hp:∀i,i<vs.length→Pr b (o+i)):Rp w Pr (.sl sz n cs) (.slice (some ⟨b,o,none⟩) n cap)
 |mE {sz:Nat}:Rp w Pr (.sl sz 0 []) (.slice none 0 0)
 |el {b o:Nat} {cs:List PV} {vs:List Value} (hr:aT w Pr cs vs) (h1:∀v∈vs,v.oneCell'=true)
  (hc:w.rangeAt b o vs) (hp:∀i,i<vs.length→Pr b (o+i)):Rp w Pr (.el cs) (.pointer (some ⟨b,o,none⟩))
 |fn {f:Nat} {cs:List PV} {vs:List Value} (hr:aT w Pr cs vs):Rp w Pr (.fn f cs) (.func (.func f) #[] vs.toArray)
 |ag {cs:List PV} {vs:List Value} (hr:aT w Pr cs vs) (h1:∀v∈vs,v.oneCell'=true):Rp w Pr (.ag cs) (.agg vs.toArray)
 |an {cs:List PV} {vs:List Value} (hr:aT w Pr cs vs):Rp w Pr (.an cs) (.tuple vs.toArray)
inductive aT (w:World) (Pr:aD):List PV→List Value→Prop
 |nil:aT w Pr [] []
 |cons {p:PV} {v:Value} {cs:List PV} {vs:List Value} (h:Rp w Pr p v) (hs:aT w Pr cs vs):aT w Pr (p::cs) (v::vs)
end
structure Kp (w:World) (Pr:aD) (w':World) (aC:aD):Prop where
 pr:∀b o,Pr b o→aC b o
 cell:∀b o,Pr b o→w'.cell? ⟨b,o,none⟩=w.cell? ⟨b,o,none⟩
theorem Kp.refl (w:World) (Pr:aD):Kp w Pr w Pr:=⟨fun _ _ h=>h,fun _ _ _=>rfl⟩
theorem Kp.trans {w w1 w2:World} {Pr mB lN:aD} (h:Kp w Pr w1 mB) (k:Kp w1 mB w2 lN):Kp w Pr w2 lN:=
 ⟨fun b o x=>k.pr b o (h.pr b o x),fun b o x=>(k.cell b o (h.pr b o x)).trans (h.cell b o x)⟩
theorem Kp.range {w w':World} {Pr aC:aD} (h:Kp w Pr w' aC) {b o:Nat} {vs:List Value} (hc:w.rangeAt b o vs) (hp:∀i,i<vs.length→Pr b (o+i)):w'.rangeAt b o vs:=fun j v hj=>by
 have hlt:j<vs.length:=(List.getElem?_eq_some_iff.1 hj).1
 rw [h.cell b (o+j) (hp j hlt)];exact hc j v hj
mutual
theorem Rp.mono {w w':World} {Pr aC:aD} (k:Kp w Pr w' aC):∀{p:PV} {v:Value},Rp w Pr p v→Rp w' aC p v
 |_,_, .lit h=> .lit h
 |_,_, .sl hr h1 hl hn hc hp=> .sl (aT.mono k hr) h1 hl hn (k.range hc hp) (fun i hi=>k.pr _ _ (hp i hi))
 |_,_, .mE=> .mE
 |_,_, .el hr h1 hc hp=> .el (aT.mono k hr) h1 (k.range hc hp) (fun i hi=>k.pr _ _ (hp i hi))
 |_,_, .fn hr=> .fn (aT.mono k hr)
 |_,_, .ag hr h1=> .ag (aT.mono k hr) h1
 |_,_, .an hr=> .an (aT.mono k hr)
theorem aT.mono {w w':World} {Pr aC:aD} (k:Kp w Pr w' aC):∀{cs:List PV} {vs:List Value},aT w Pr cs vs→aT w' aC cs vs
 |_,_, .nil=> .nil
 |_,_, .cons h hs=> .cons (Rp.mono k h) (aT.mono k hs)
end
section
variable {w:World} {Pr:aD}
theorem aT.length:∀{cs:List PV} {vs:List Value},aT w Pr cs vs→cs.length=vs.length
 |_,_, .nil=>rfl
 |_,_, .cons _ hs=>by simp [aT.length hs]
theorem aT.get:∀{cs:List PV} {vs:List Value},aT w Pr cs vs→∀(i:Nat) (p:PV),cs[i]? =some p→∃v,vs[i]? =some v∧Rp w Pr p v
 |_,_, .nil,i,p,h=>by simp at h
 |_,_, .cons h hs,0,p,e=>by simp at e;subst e;exact ⟨_,rfl,h⟩
 |_,_, .cons h hs,i+1,p,e=>by simpa using aT.get hs i p (by simpa using e)
theorem aT.take:∀{cs:List PV} {vs:List Value},aT w Pr cs vs→∀n,aT w Pr (cs.take n) (vs.take n)
 |_,_, .nil,n=>by simp;exact .nil
 |_,_, .cons h hs,0=>by simp;exact .nil
 |_,_, .cons h hs,n+1=>by simp only [List.take_succ_cons];exact .cons h (aT.take hs n)
theorem aT.drop:∀{cs:List PV} {vs:List Value},aT w Pr cs vs→∀n,aT w Pr (cs.drop n) (vs.drop n)
 |_,_, .nil,n=>by simp;exact .nil
 |_,_, .cons h hs,0=> .cons h hs
 |_,_, .cons h hs,n+1=>by simp only [List.drop_succ_cons];exact aT.drop hs n
theorem aT.app:∀{cs:List PV} {vs:List Value},aT w Pr cs vs→∀{ds:List PV} {us:List Value},aT w Pr ds us→aT w Pr (cs++ds) (vs++us)
 |_,_, .nil,_,_,k=>k
 |_,_, .cons h hs,_,_,k=> .cons h (aT.app hs k)
theorem rP:∀{l:List Value} {ps:List PV},nC l=some ps→aT w Pr ps l∧(∀v∈l,v.oneCell'=true)
 |[],ps,h=>by simp [nC] at h;subst h;exact ⟨.nil,by simp⟩
 |v::l,ps,h=>by
  simp only [nC] at h
  split at h
  · rename_i hs
    simp only [Option.map_eq_some_iff] at h
    obtain ⟨qs,hq,rfl⟩:=h
    obtain ⟨h1,h2⟩:=rP hq
    refine ⟨.cons (.lit hs) h1,fun u hu=> ?_⟩
    rcases List.mem_cons.1 hu with rfl|hu
    · cases u<;>simp_all [iA,Value.oneCell']
    · exact h2 u hu
  · simp at h
theorem xj {v:Value} {p:PV} (h:hH v=some p):Rp w Pr p v:=by
 unfold hH at h
 split at h
 · simp only [Option.map_eq_some_iff] at h
   obtain ⟨ps,hp,rfl⟩:=h
   obtain ⟨h1,h2⟩:=rP (w:=w) (Pr:=Pr) hp
   exact .ag h1 h2
 · split at h
   · simp at h;subst h;exact .lit ‹_›
   · simp at h
theorem yB:∀{ps:List PV} {l vs:List Value},fh ps=some l→aT w Pr ps vs→vs=l
 |[],l,vs,h,k=>by simp [fh] at h;cases k;exact h.symm
 | .lit v::ps,l,vs,h,k=>by
   simp only [fh,Option.map_eq_some_iff] at h
   obtain ⟨q,hq,rfl⟩:=h
   cases k with
   |cons h1 h2=>cases h1;rw [yB hq h2]
 | .sl .. ::ps,l,vs,h,k=>by simp [fh] at h
 | .el .. ::ps,l,vs,h,k=>by simp [fh] at h
 | .fn .. ::ps,l,vs,h,k=>by simp [fh] at h
 | .ag .. ::ps,l,vs,h,k=>by simp [fh] at h
 | .an .. ::ps,l,vs,h,k=>by simp [fh] at h
theorem qz {p:PV} {v u:Value} (h:valOf p=some v) (k:Rp w Pr p u):u=v:=by
 unfold valOf at h
 split at h
 · simp at h;subst h;cases k;rfl
 · simp only [Option.map_eq_some_iff] at h
   obtain ⟨l,hl,rfl⟩:=h
   cases k with
   |ag hr h1=>rw [yB hl hr]
 · simp at h;subst h
   cases k with
   |fn hr=>cases hr;rfl
 · simp at h
theorem wG:∀{ps:List PV} {l:List Value},fh ps=some l→∀{w':World} {aC:aD} {vs:List Value},aT w Pr ps vs→aT w' aC ps vs
 |[],l,h,_,_,vs,k=>by cases k;exact .nil
 | .lit v::ps,l,h,_,_,vs,k=>by
   simp only [fh,Option.map_eq_some_iff] at h
   obtain ⟨q,hq,rfl⟩:=h
   cases k with
   |cons h1 h2=>cases h1 with|lit hs=>exact .cons (.lit hs) (wG hq h2)
 | .sl .. ::ps,l,h,_,_,vs,k=>by simp [fh] at h
 | .el .. ::ps,l,h,_,_,vs,k=>by simp [fh] at h
 | .fn .. ::ps,l,h,_,_,vs,k=>by simp [fh] at h
 | .ag .. ::ps,l,h,_,_,vs,k=>by simp [fh] at h
 | .an .. ::ps,l,h,_,_,vs,k=>by simp [fh] at h
theorem sr {p:PV} {v u:Value} (h:valOf p=some v) (k:Rp w Pr p u) {w':World} {aC:aD}:Rp w' aC p u:=by
 unfold valOf at h
 split at h
 · cases k with|lit hs=>exact .lit hs
 · simp only [Option.map_eq_some_iff] at h
   obtain ⟨l,hl,rfl⟩:=h
   cases k with
   |ag hr h1=>exact .ag (wG hl hr) h1
 · cases k with
   |fn hr=>cases hr;exact .fn .nil
 · simp at h
theorem Rp.iM {p:PV} {v:Value} (h:Rp w Pr p v) (ht:∀vs,p≠ .an vs):aT w Pr p.cells v.cells.toList∧∀u∈v.cells.toList,u.oneCell'=true:=by
 cases h with
 |lit hs=>
  have:v.cells= #[v]:=by cases v<;>simp_all [iA,Value.cells]
  rw [this];refine ⟨.cons (.lit hs) .nil, ?_⟩
  simp;cases v<;>simp_all [iA,Value.oneCell']
 |sl hr h1 hl hn hc hp=>exact ⟨.cons (.sl hr h1 hl hn hc hp) .nil,by simp [Value.cells,Value.oneCell']⟩
 |mE=>exact ⟨.cons .mE .nil,by simp [Value.cells,Value.oneCell']⟩
 |el hr h1 hc hp=>exact ⟨.cons (.el hr h1 hc hp) .nil,by simp [Value.cells,Value.oneCell']⟩
 |fn hr=>exact ⟨.cons (.fn hr) .nil,by simp [Value.cells,Value.oneCell']⟩
 |ag hr h1=>simpa [PV.cells,Value.cells] using ⟨hr,h1⟩
 |an hr=>exact absurd rfl (ht _)
end
theorem iX {w:World} {b o:Nat} {vs:List Value} (h:w.rangeAt b o vs) (n:Nat):w.rangeAt b o (vs.take n):=fun j v hj=>by
 rw [List.getElem?_take] at hj;split at hj
 · exact h j v hj
 · simp at hj
theorem dj {w:World} {b o:Nat} {vs:List Value} (h:w.rangeAt b o vs) (n:Nat):w.rangeAt b (o+n) (vs.drop n):=fun j v hj=>by
 rw [List.getElem?_drop] at hj
 have:=h (n+j) v hj
 rwa [←Nat.add_assoc] at this
theorem ke {α:Type} (P:Program):∀(s:Sem α) (a:α),aB P s=some a→∀w,s.run P w= .ok a w
 | .pure b,a,h,w=>by simp [aB] at h;subst h;rfl
 | .program k,a,h,w=>by simp only [aB] at h;simp only [Sem.run];exact ke P (k P) a h w
 | .mark _ k,a,h,w=>by simp only [aB] at h;simp only [Sem.run];exact ke P k a h w
 | .load ..,a,h,_| .store ..,a,h,_| .new ..,a,h,_| .shape ..,a,h,_| .freeze ..,a,h,_| .frozen ..,a,h,_| .getObj ..,a,h,_| .setObj ..,a,h,_| .choose ..,a,h,_| .sys ..,a,h,_| .halt ..,a,h,_=>by simp [aB] at h
theorem mL {P:Program} {s:Sem Value} {p:PV} (h:cQ P s=some p) (w:World) (Pr:aD):∃v,s.run P w= .ok v w∧Rp w Pr p v:=by
 unfold cQ at h
 simp only [Option.bind_eq_some_iff] at h
 obtain ⟨v,hv,hp⟩:=h
 exact ⟨v,ke P s v hv w,xj hp⟩
end Go.Proofs.YtibbgjafjhcemaaDoor.Cul
namespace Go.Proofs.YtibbgjafjhcemaaDoor.Cul
open Go Go.RowKit
inductive Key where
 |bx (k:Nat)
 |sx (t:Nat)
 |cx (k off:Nat)
 deriving DecidableEq
def Pl.key:Pl→Key
 | .s t=> .sx t
 | .c k o=> .cx k o
def ek (st:St) (t:Nat):Prop:=∃sz n cs,look st.sl t=some (.ex sz n cs)
def uf (st:St) (p:Pl):Prop:=∃z,aQ st.gr p=some z
def live (st:St):Key→Prop
 | .bx k=>∃cs,look st.bx k=some cs
 | .sx t=>ek st t∨uf st (.s t)
 | .cx k o=>uf st (.c k o)
def One (vs:List Value):Prop:=∀v∈vs,v.oneCell'=true
def gB (w:World) (Pr:aD) (bk:Key→Nat):Cap→Value→Prop
 | .pv p,v=>Rp w Pr p v
 | .bp k off,v=>v= .pointer (some ⟨bk (.bx k),off,none⟩)
structure Room (w:World) (Pr:aD) (b o n cap sz:Nat):Prop where
 hz:0<sz
 le:n≤cap
 there:∃cells T,w.heap[b]? =some (.cells cells T (0,0))∧o+cap* sz≤cells.size
 pr:∀o',Pr b o'→o'<o+n* sz
def fZ (st:St) (w:World) (bk:Key→Nat) (k off sz n:Nat) (v:Value):Prop:=
 ∃o cap cs c T,v= .slice (some ⟨bk (.bx k),o,none⟩) n cap∧(o=off∨(n=0∧0<off))∧look st.bx k=some cs∧off+n* sz≤cs.length∧0<sz∧n≤cap∧w.heap[bk (.bx k)]? =some (.cells c T (0,0))∧o+cap* sz≤c.size
theorem fZ.to {st st':St} {w w':World} {bk aS:Key→Nat} {k off sz n:Nat} {v:Value} (hb:aS (.bx k)=bk (.bx k)) (hx:∀cs,look st.bx k=some cs→∃cs',look st'.bx k=some cs'∧cs'.length=cs.length)
  (hh:∀c T,w.heap[bk (.bx k)]? =some (.cells c T (0,0))→∃c',w'.heap[bk (.bx k)]? =some (.cells c' T (0,0))∧c'.size=c.size) (h:fZ st w bk k off sz n v):fZ st' w' aS k off sz n v:=by
 obtain ⟨o,cap,cs,c,T,h1,h0,h2,h3,h4,h5,h6,h7⟩:=h
 obtain ⟨cs',h8,h9⟩:=hx cs h2
 obtain ⟨c',h10,h11⟩:=hh c T h6
 exact ⟨o,cap,cs',c',T,by rw [hb];exact h1,h0,h8,by omega,h4,h5,by rw [hb];exact h10,by omega⟩
theorem fZ.world {st:St} {w w':World} {bk:Key→Nat} {k off sz n:Nat} {v:Value} (hh:∀c T,w.heap[bk (.bx k)]? =some (.cells c T (0,0))→∃c',w'.heap[bk (.bx k)]? =some (.cells c' T (0,0))∧c'.size=c.size) (h:fZ st w bk k off sz n v):fZ st w' bk k off sz n v:=
 h.to rfl (fun cs e=>⟨cs,e,rfl⟩) hh
theorem fZ.frame {st st':St} {w:World} {bk aS:Key→Nat} {k off sz n:Nat} {v:Value} (hb:aS (.bx k)=bk (.bx k)) (hx:∀cs,look st.bx k=some cs→∃cs',look st'.bx k=some cs'∧cs'.length=cs.length) (h:fZ st w bk k off sz n v):fZ st' w aS k off sz n v:=
 h.to hb hx (fun c T e=>⟨c,e,rfl⟩)
def dQ (st:St) (a:Act) (w:World) (Pr:aD) (bk:Key→Nat) (t:Nat):AV→Value→Prop
 | .pv p,v=>Rp w Pr p v
 | .bp k off,v=>v= .pointer (some ⟨bk (.bx k),off,none⟩)
 | .cl f caps,v=>∃vs:List Value,v= .func (.func f) #[] vs.toArray∧vs.length=caps.length∧∀(i:Nat) (c:Cap) (u:Value),caps[i]? =some c→vs[i]? =some u→gB w Pr bk c u
 | .ex sz n cs,v=>∃(o cap:Nat) (vs:List Value),v= .slice (some ⟨bk (.sx t),o,none⟩) n cap∧aT w Pr cs vs∧One vs∧cs.length=n* sz∧w.rangeAt (bk (.sx t)) o vs∧Room w Pr (bk (.sx t)) o n cap sz∧∀o',¬Pr (bk (.sx t)) o'
 | .xr u,v=>a.tmps[u]? =some v∧ek st u
 | .xe u off,v=>(∃b o n cap,a.tmps[u]? =some (.slice (some ⟨b,o,none⟩) n cap)∧v= .pointer (some ⟨b,o+off,none⟩))∧ek st u
 | .cr _ _,_=>False
 | .dead,_=>True
 | .bs k off sz n,v=>fZ st w bk k off sz n v
 | .mv f k off sz n,v=>∃u,v= .func (.func f) #[u] #[]∧fZ st w bk k off sz n u
 | .tg k off sz n rest,v=>∃u us,v= .tuple (u::us).toArray∧fZ st w bk k off sz n u∧aT w Pr rest us
def cT (a:Act) (w:World) (bk:Key→Nat):Pl→Option Value
 | .s t=>a.tmps[t]?
 | .c k o=>w.cell? ⟨bk (.bx k),o,none⟩
def Mark (base:Nat) (w:World) (d:Deferred):Prop:=∃D,d={ target:= .collected D,args:= #[]}∧w.heap[D]? =some (.deferred (some []))∧base≤D
structure Inv (base:Nat) (w:World) (Pr:aD) (bk:Key→Nat) (st:St) (a:Act) (N:Nat):Prop where
 size:a.tmps.size=N
 defers:(∀d∈a.defers,Mark base w d)∧a.defers.Nodup
 hb:base≤w.heap.size
 bP:∀b o,Pr b o→b<w.heap.size
 slots:∀t av,look st.sl t=some av→∃v,a.tmps[t]? =some v∧dQ st a w Pr bk t av v
 own:∀x,live st x→base≤bk x∧bk x<w.heap.size
 inj:∀x y,live st x→live st y→bk x=bk y→x=y
 boxes:∀k cs,look st.bx k=some cs→(∃T c vs,w.heap[bk (.bx k)]? =some (.cells c T (0,0))∧vs<+:c.toList∧aT w Pr cs vs∧One vs)∧∀o,¬Pr (bk (.bx k)) o
 gL:∀t z,aQ st.gr (.s t)=some z→∃o n cap cs,look st.sl t=some (.pv (.sl z n cs))∧a.tmps[t]? =some (.slice (some ⟨bk (.sx t),o,none⟩) n cap)∧Room w Pr (bk (.sx t)) o n cap z∧o=0
 iF:∀k i z,aQ st.gr (.c k i)=some z→∃o n cap cs dw,look st.bx k=some dw∧dw[i]? =some (.sl z n cs)∧w.cell? ⟨bk (.bx k),i,none⟩=some (.slice (some ⟨bk (.cx k i),o,none⟩) n cap)∧Room w Pr (bk (.cx k i)) o n cap z∧o=0
 tags:∀t q,look st.tg t=some (some q)→uf st q→cT a w bk q=a.tmps[t]?
structure Fw (w:World) (Pr:aD) (w':World) (aC:aD):Prop where
 gX:Below w.heap.size w w'
 pr:∀b o,Pr b o→aC b o
 old:∀b o,b<w.heap.size→aC b o→Pr b o
 new:∀b o,aC b o→b<w'.heap.size
theorem Fw.heap {w w':World} {Pr aC:aD} (x:Fw w Pr w' aC) {b:Nat} (h:b<w.heap.size):w'.heap[b]? =w.heap[b]? :=x.gX.block b h
theorem Fw.kp {w w':World} {Pr aC:aD} (x:Fw w Pr w' aC) (hp:∀b o,Pr b o→b<w.heap.size):Kp w Pr w' aC:=
 ⟨x.pr,fun b o h=>x.gX.cell (p:=⟨b,o,none⟩) (hp b o h)⟩
theorem Fw.refl {w:World} {Pr:aD} (hp:∀b o,Pr b o→b<w.heap.size):Fw w Pr w Pr:=⟨Below.refl _ _,fun _ _ h=>h,fun _ _ _ h=>h,hp⟩
theorem Fw.trans {w w1 w2:World} {Pr mB lN:aD} (x:Fw w Pr w1 mB) (y:Fw w1 mB w2 lN):Fw w Pr w2 lN:=
 ⟨x.gX.trans (y.gX.mono x.gX.size),fun b o h=>y.pr b o (x.pr b o h),fun b o hb h=>x.old b o hb (y.old b o (Nat.lt_of_lt_of_le hb x.gX.size) h),y.new⟩
structure KO (w w':World):Prop extends KeepsOthers w w' where
 sized:∀(k:Nat) (c:Array Value) (T:TypeId) (fz:Nat×Nat),w.heap[k]? =some (.cells c T fz)→∃c',w'.heap[k]? =some (.cells c' T fz)∧c'.size=c.size
theorem KO.refl (w:World):KO w w:=⟨KeepsOthers.refl w,fun k c T fz h=>⟨c,h,rfl⟩⟩
theorem KO.trans {a b c:World} (h:KO a b) (k:KO b c):KO a c:=⟨h.toKeepsOthers.trans k.toKeepsOthers,fun i x T fz e=>by
 obtain ⟨y,e1,e2⟩:=h.sized i x T fz e
 obtain ⟨z,e3,e4⟩:=k.sized i y T fz e1
 exact ⟨z,e3,e4.trans e2⟩⟩
theorem KO.from {w w':World} (h:KO w w') (B:Nat):KeepsFrom B w w':=h.toKeepsOthers.from B
theorem Fw.ko {w w':World} {Pr aC:aD} (x:Fw w Pr w' aC):KO w w':=
 ⟨⟨x.gX.size,fun k o h _=>(x.heap (Array.getElem?_eq_some_iff.1 h).1).trans h⟩,fun k c T fz h=>⟨c,(x.heap (Array.getElem?_eq_some_iff.1 h).1).trans h,rfl⟩⟩
theorem Room.fw {w w':World} {Pr aC:aD} (x:Fw w Pr w' aC) {b o n cap sz:Nat} (h:Room w Pr b o n cap sz) (hb:b<w.heap.size):Room w' aC b o n cap sz:=
 ⟨h.hz,h.le,by obtain ⟨c,T,h1,h2⟩:=h.there;exact ⟨c,T,(x.heap hb).trans h1,h2⟩,fun o' ho=>h.pr o' (x.old b o' hb ho)⟩
theorem iW {w w':World} {b o:Nat} {vs:List Value} (h:w'.heap[b]? =w.heap[b]?) (hc:w.rangeAt b o vs):w'.rangeAt b o vs:=fun j v hj=>by
 have:=hc j v hj;rw [←this];exact World.cell?_of_block (w:=w) h
section
variable {base:Nat} {w w':World} {Pr aC:aD} {bk:Key→Nat} {st:St} {a:Act} {N:Nat}
theorem gB.mono (k:Kp w Pr w' aC) {c:Cap} {v:Value} (h:gB w Pr bk c v):gB w' aC bk c v:=by
 cases c with
 |pv p=>exact Rp.mono k h
 |bp k off=>exact h
theorem dQ.fw (I:Inv base w Pr bk st a N) (x:Fw w Pr w' aC) {t:Nat} {av:AV} {v:Value} (ht:look st.sl t=some av) (h:dQ st a w Pr bk t av v):dQ st a w' aC bk t av v:=by
 have k:=x.kp I.bP
 cases av with
 |pv p=>exact Rp.mono k h
 |bp k off=>exact h
 |cl f caps=>obtain ⟨vs,h1,h2,h3⟩:=h;exact ⟨vs,h1,h2,fun i c u hc hu=>gB.mono k (h3 i c u hc hu)⟩
 |ex sz n cs=>
  obtain ⟨o,cap,vs,h1,h2,h3,h4,h5,h6,h7⟩:=h
  have hb:=(I.own (.sx t) (.inl ⟨sz,n,cs,ht⟩)).2
  exact ⟨o,cap,vs,h1,aT.mono k h2,h3,h4,iW (x.heap hb) h5,h6.fw x hb,fun o' ho=>h7 o' (x.old _ _ hb ho)⟩
 |xr u=>exact h
 |xe u off=>exact h
 |cr _ _=>exact h
 |dead=>exact h
 |bs k off sz n=>exact h.world fun c T e=>⟨c,(x.heap (Array.getElem?_eq_some_iff.1 e).1).trans e,rfl⟩
 |mv f k off sz n=>obtain ⟨u,h1,h2⟩:=h;exact ⟨u,h1,h2.world fun c T e=>⟨c,(x.heap (Array.getElem?_eq_some_iff.1 e).1).trans e,rfl⟩⟩
 |tg k2 off sz n rest=>obtain ⟨u,us,h1,h2,h3⟩:=h;exact ⟨u,us,h1,h2.world fun c T e=>⟨c,(x.heap (Array.getElem?_eq_some_iff.1 e).1).trans e,rfl⟩,aT.mono k h3⟩
theorem Inv.fw (I:Inv base w Pr bk st a N) (x:Fw w Pr w' aC):Inv base w' aC bk st a N where
 size:=I.size
 defers:=⟨fun d hd=>by
  obtain ⟨D,h1,h2,h3⟩:=I.defers.1 d hd
  exact ⟨D,h1,(x.heap (Array.getElem?_eq_some_iff.1 h2).1).trans h2,h3⟩,I.defers.2⟩
 hb:=Nat.le_trans I.hb x.gX.size
 bP:=x.new
 slots t av ht:=by obtain ⟨v,h1,h2⟩:=I.slots t av ht;exact ⟨v,h1,dQ.fw I x ht h2⟩
 own y hy:=⟨(I.own y hy).1,Nat.lt_of_lt_of_le (I.own y hy).2 x.gX.size⟩
 inj:=I.inj
 boxes k cs hk:=by
  obtain ⟨⟨T,c,vs,h1,h0,h2,h3⟩,h4⟩:=I.boxes k cs hk
  have hb:=(I.own (.bx k) ⟨cs,hk⟩).2
  exact ⟨⟨T,c,vs,(x.heap hb).trans h1,h0,aT.mono (x.kp I.bP) h2,h3⟩,fun o ho=>h4 o (x.old _ _ hb ho)⟩
 gL t z h:=by
  obtain ⟨o,n,cap,cs,h1,h2,h3,h0⟩:=I.gL t z h
  exact ⟨o,n,cap,cs,h1,h2,h3.fw x (I.own (.sx t) (.inr ⟨z,h⟩)).2,h0⟩
 iF k i z h:=by
  obtain ⟨o,n,cap,cs,dw,h1,h2,h3,h4,h0⟩:=I.iF k i z h
  exact ⟨o,n,cap,cs,dw,h1,h2,(x.gX.cell (p:=⟨_,_,none⟩) (I.own (.bx k) ⟨dw,h1⟩).2).trans h3,h4.fw x (I.own (.cx k i) ⟨z,h⟩).2,h0⟩
 tags t q h hg:=by
  have:=I.tags t q h hg
  cases q with
  |s u=>exact this
  |c k o=>
   obtain ⟨z,hz⟩:=hg
   obtain ⟨_,_,_,_,dw,h1,_⟩:=I.iF k o z hz
   exact (x.gX.cell (p:=⟨_,_,none⟩) (I.own (.bx k) ⟨dw,h1⟩).2).trans this
end
theorem bI {α:Type}:∀(l:List (Nat×α)) (d t:Nat),look (bL l d) t=if t=d then none else look l t
 |[],d,t=>by simp [bL,look]
 |(k,v)::l,d,t=>by
  simp only [bL]
  have ih:=bI l d t
  by_cases h:k=d
  · rw [if_pos h,ih];subst h
    by_cases ht:t=k
    · simp [ht]
    · simp [ht,look,Ne.symm ht]
  · rw [if_neg h];simp only [look]
    by_cases hk:k=t
    · subst hk;simp [h]
    · rw [if_neg hk,ih,if_neg hk]
theorem cg {α β:Type} (f:Nat×α→Nat×β) (g:Nat→α→β) (hf:∀x,f x=(x.1,g x.1 x.2)):∀(l:List (Nat×α)) (t:Nat),look (l.map f) t=(look l t).map (g t)
 |[],t=>rfl
 |(k,v)::l,t=>by
  simp only [List.map_cons,hf,look]
  by_cases h:k=t
  · subst h;simp
  · rw [if_neg h,if_neg h];exact cg f g hf l t
theorem er (p:Pl→Bool):∀(l:List (Pl×Nat)) (t:Pl),aQ (l.filter (fun x=>p x.1)) t=if p t then aQ l t else none
 |[],t=>by simp [aQ]
 |(k,v)::l,t=>by
  have ih:=er p l t
  simp only [List.filter_cons]
  by_cases hk:p k=true
  · simp only [hk,if_true,aQ]
    by_cases h:k=t
    · subst h;simp [hk]
    · rw [if_neg h,if_neg h];exact ih
  · simp only [hk,Bool.false_eq_true,if_false,ih,aQ]
    by_cases h:k=t
    · subst h;simp [hk]
    · rw [if_neg h]
theorem ju {α:Type} (p:Nat→Bool):∀(l:List (Nat×α)) (t:Nat),look (l.filter (fun x=>p x.1)) t=if p t then look l t else none
 |[],t=>by simp [look]
 |(k,v)::l,t=>by
  have ih:=ju p l t
  simp only [List.filter_cons]
  by_cases hk:p k=true
  · simp only [hk,if_true,look]
    by_cases h:k=t
    · subst h;simp [hk]
    · rw [if_neg h,if_neg h];exact ih
  · simp only [hk,Bool.false_eq_true,if_false,ih,look]
    by_cases h:k=t
    · subst h;simp [hk]
    · rw [if_neg h]
theorem jK (st:St) (d:Nat) (v:AV) (t:Nat):look (st.put (some d) v).sl t=(if t=d then some v else look st.sl t).map fun av=>if bC d av then .dead else av:=by
 simp only [St.put,look,dP]
 by_cases h:d=t
 · simp [h]
 · rw [if_neg h,if_neg (Ne.symm h),cg (dP d) (fun _ av=>if bC d av then .dead else av) (fun _=>rfl),bI,if_neg (Ne.symm h)]
theorem xU (st:St) (d:Nat) (v:AV) (p:Pl):aQ (st.put (some d) v).gr p=if p= .s d then none else aQ st.gr p:=by
 simp only [St.put]
 have:=er (fun q=>decide (q≠Pl.s d)) st.gr p
 simp only [ne_eq,decide_not,Bool.not_eq_eq_eq_not,Bool.not_true,decide_eq_false_iff_not,ite_not] at this ⊢
 exact this
theorem xV (st:St) (d:Nat) (v:AV) (t:Nat):look (st.put (some d) v).tg t=if t=d then none else (look st.tg t).map fun q=>if q=some (.s d) then none else q:=by
 simp only [St.put]
 rw [cg (fT (.s d)) (fun _ q=>if q=some (.s d) then none else q) (fun _=>rfl),bI]
 by_cases h:t=d
 · simp [h]
 · simp [h]
end Go.Proofs.YtibbgjafjhcemaaDoor.Cul
namespace Go.Proofs.YtibbgjafjhcemaaDoor.Cul
open Go Go.RowKit
theorem cA {a:Act} {d:Nat} {v:Value} (h:d<a.tmps.size) (t:Nat):(a.put (some d) v).tmps[t]? =if t=d then some v else a.tmps[t]? :=by
 simp only [Act.put]
 by_cases e:t=d
 · subst e;simp [Array.getElem?_setIfInBounds_self_of_lt,h]
 · rw [if_neg e,Array.getElem?_setIfInBounds_ne (Ne.symm e)]
structure dD (base:Nat) (w:World) (Pr:aD) (bk:Key→Nat) (st:St) (a:Act) (m:Made) (v:Value):Prop where
 val:(∀sz n cs,m.v≠ .ex sz n cs)→∀t,dQ st a w Pr bk t m.v v
 ex:∀sz n cs,m.v= .ex sz n cs→m.gr=none∧∃(b o cap:Nat) (vs:List Value),v= .slice (some ⟨b,o,none⟩) n cap∧aT w Pr cs vs∧One vs∧cs.length=n* sz∧w.rangeAt b o vs∧Room w Pr b o n cap sz∧
  (∀o',¬Pr b o')∧base≤b∧b<w.heap.size∧∀x,live st x→bk x≠b
 gr:∀z,m.gr=some z→∃b o n cap cs,m.v= .pv (.sl z n cs)∧v= .slice (some ⟨b,o,none⟩) n cap∧Room w Pr b o n cap z∧o=0∧base≤b∧b<w.heap.size∧∀x,live st x→bk x≠b
 tg:∀q,m.tg=some q→uf st q→cT a w bk q=some v
section
variable {base:Nat} {w:World} {Pr:aD} {bk:Key→Nat} {st:St} {a:Act} {N d:Nat} {m:Made} {v:Value}
theorem jT (st:St) (d:Nat) (m:Made) (t:Nat):look (st.made (some d) m).sl t=(if t=d then some m.v else look st.sl t).map fun av=>if bC d av then .dead else av:=jK st d m.v t
theorem fU (st:St) (d:Nat) (m:Made) (p:Pl):aQ (st.made (some d) m).gr p=if p= .s d then m.gr else aQ st.gr p:=by
 have h:=xU st d m.v p
 cases e:m.gr with
 |none=>simp only [St.made,e];rw [h]
 |some z=>
  simp only [St.made,e,aQ]
  by_cases hp:p= .s d
  · subst hp;simp
  · rw [if_neg (Ne.symm hp),h,if_neg hp,if_neg hp]
theorem vo (st:St) (d:Nat) (m:Made) (t:Nat):look (st.made (some d) m).tg t=if t=d then m.tg.map some else (look st.tg t).map fun q=>if q=some (.s d) then none else q:=by
 have h:=xV st d m.v t
 cases e:m.tg with
 |none=>simp only [St.made,e];rw [h];simp
 |some p=>
  simp only [St.made,e,look]
  by_cases hp:t=d
  · subst hp;simp
  · rw [if_neg (Ne.symm hp),h,if_neg hp,if_neg hp]
theorem dQ.put (hN:d<a.tmps.size) {st':St} {aS:Key→Nat} {u:Value} (hb:∀k,aS (.bx k)=bk (.bx k)) {t:Nat} (hs:aS (.sx t)=bk (.sx t))
  (hex:∀x,x≠d→ek st x→ek st' x) (ki:∀k cs,look st.bx k=some cs→∃cs',look st'.bx k=some cs'∧cs'.length=cs.length) {av:AV} (hr:bC d av=false) (h:dQ st a w Pr bk t av v):dQ st' (a.put (some d) u) w Pr aS t av v:=by
 cases av with
 |pv p=>exact h
 |bp k off=>simp only [dQ] at h ⊢;rw [hb];exact h
 |cl f caps=>
  obtain ⟨vs,h1,h2,h3⟩:=h
  refine ⟨vs,h1,h2,fun i c x hc hx=> ?_⟩
  have:=h3 i c x hc hx
  cases c with
  |pv p=>exact this
  |bp k off=>simp only [gB] at this ⊢;rw [hb];exact this
 |ex sz n cs=>simp only [dQ] at h ⊢;rw [hs];exact h
 |xr x=>
  have hx:x≠d:=by intro e;simp [bC,e] at hr
  exact ⟨by rw [cA hN,if_neg hx];exact h.1,hex x hx h.2⟩
 |xe x off=>
  have hx:x≠d:=by intro e;simp [bC,e] at hr
  obtain ⟨⟨b,o,n,cap,h1,h2⟩,h3⟩:=h
  exact ⟨⟨b,o,n,cap,by rw [cA hN,if_neg hx];exact h1,h2⟩,hex x hx h3⟩
 |cr _ _=>exact h
 |dead=>trivial
 |bs k off sz n=>exact h.frame (hb k) (ki k)
 |mv f k off sz n=>obtain ⟨u,h1,h2⟩:=h;exact ⟨u,h1,h2.frame (hb k) (ki k)⟩
 |tg k off sz n rest=>obtain ⟨u,us,h1,h2,h3⟩:=h;exact ⟨u,us,h1,h2.frame (hb k) (ki k),h3⟩
theorem Inv.made (I:Inv base w Pr bk st a N) (hd:d<N) (h:dD base w Pr bk st a m v):
  ∃aS,Inv base w Pr aS (st.made (some d) m) (a.put (some d) v) N∧∀x,x≠ .sx d→aS x=bk x:=by
 have hN:d<a.tmps.size:=by rw [I.size];exact hd
 obtain ⟨b0,hb0,eJ⟩:∃b0:Nat,(∀z,m.gr=some z→∃o n cap cs,m.v= .pv (.sl z n cs)∧v= .slice (some ⟨b0,o,none⟩) n cap∧Room w Pr b0 o n cap z∧o=0∧base≤b0∧b0<w.heap.size∧∀x,live st x→bk x≠b0)∧
   (∀sz n cs,m.v= .ex sz n cs→m.gr=none∧∃(o cap:Nat) (vs:List Value),v= .slice (some ⟨b0,o,none⟩) n cap∧aT w Pr cs vs∧One vs∧cs.length=n* sz∧w.rangeAt b0 o vs∧Room w Pr b0 o n cap sz∧
    (∀o',¬Pr b0 o')∧base≤b0∧b0<w.heap.size∧∀x,live st x→bk x≠b0):=by
  by_cases hx:∃sz n cs,m.v= .ex sz n cs
  · obtain ⟨sz,n,cs,hx⟩:=hx
    obtain ⟨h0,b,o,cap,vs,h1⟩:=h.ex sz n cs hx
    refine ⟨b,fun z hz=>by rw [h0] at hz;simp at hz,fun sz' n' cs' hx'=> ?_⟩
    rw [hx] at hx';cases hx'
    exact ⟨h0,o,cap,vs,h1⟩
  · cases e:m.gr with
    |none=>exact ⟨0,fun z hz=>by simp at hz,fun sz n cs hx'=>absurd ⟨sz,n,cs,hx'⟩ hx⟩
    |some z=>
     obtain ⟨b,o,n,cap,cs,h1⟩:=h.gr z e
     exact ⟨b,fun z' hz=>by cases hz;exact ⟨o,n,cap,cs,h1⟩,fun sz n cs hx'=>absurd ⟨sz,n,cs,hx'⟩ hx⟩
 have Mc:(∃z,m.gr=some z)∨(∃sz n cs,m.v= .ex sz n cs)→base≤b0∧b0<w.heap.size∧∀x,live st x→bk x≠b0:=by
  rintro (⟨z,hz⟩|⟨sz,n,cs,hx⟩)
  · obtain ⟨_,_,_,_,_,_,_,_,h1⟩:=hb0 z hz;exact h1
  · obtain ⟨_,_,_,_,_,_,_,_,_,_,_,h1⟩:=eJ sz n cs hx;exact h1
 obtain ⟨aS,fH,hk2⟩:∃aS:Key→Nat,(∀x,x≠ .sx d→aS x=bk x)∧aS (.sx d)=b0:=⟨fun x=>if x= .sx d then b0 else bk x,fun x hx=>if_neg hx,if_pos rfl⟩
 have dF:∀k,aS (.bx k)=bk (.bx k):=fun k=>fH _ (by simp)
 have B0:∀k o,aS (.cx k o)=bk (.cx k o):=fun k o=>fH _ (by simp)
 have qQ:∀t,t≠d→aS (.sx t)=bk (.sx t):=fun t ht=>fH _ (by simpa using ht)
 have hl:∀t av,look (st.made (some d) m).sl t=some av→av= .dead∨(bC d av=false∧((t=d∧av=m.v)∨(t≠d∧look st.sl t=some av))):=by
  intro t av ht
  rw [jT] at ht
  by_cases e:t=d
  · rw [if_pos e] at ht;simp only [Option.map_some,Option.some.injEq] at ht
    split at ht
    · exact .inl ht.symm
    · rename_i hr;exact .inr ⟨by rw [←ht];simpa using hr, .inl ⟨e,ht.symm⟩⟩
  · rw [if_neg e] at ht
    cases hq:look st.sl t with
    |none=>simp [hq] at ht
    |some x=>
     simp only [hq,Option.map_some,Option.some.injEq] at ht
     split at ht
     · exact .inl ht.symm
     · rename_i hr;exact .inr ⟨by rw [←ht];simpa using hr, .inr ⟨e,by rw [ht]⟩⟩
 have hex:∀x,x≠d→ek st x→ek (st.made (some d) m) x:=fun x hx ⟨sz,n,cs,hl⟩=>⟨sz,n,cs,by rw [jT,if_neg hx,hl];rfl⟩
 have bY:∀x,live (st.made (some d) m) x→(x≠ .sx d∧live st x)∨(x= .sx d∧((∃z,m.gr=some z)∨(∃sz n cs,m.v= .ex sz n cs))):=by
  intro x hx
  cases x with
  |bx k=>exact .inl ⟨by simp,hx⟩
  |sx t=>
   rcases hx with ⟨sz,n,cs,hq⟩|⟨z,hz⟩
   · rcases hl t _ hq with hq|⟨_,⟨e,hq⟩|⟨e,hq⟩⟩
     · simp at hq
     · exact .inr ⟨by rw [e], .inr ⟨sz,n,cs,hq.symm⟩⟩
     · exact .inl ⟨by simpa using e, .inl ⟨sz,n,cs,hq⟩⟩
   · rw [fU] at hz
     by_cases e:t=d
     · subst e;rw [if_pos rfl] at hz;exact .inr ⟨rfl, .inl ⟨z,hz⟩⟩
     · rw [if_neg (by simpa using e)] at hz;exact .inl ⟨by simpa using e, .inr ⟨z,hz⟩⟩
  |cx k o=>
   obtain ⟨z,hz⟩:=hx
   rw [fU,if_neg (by simp)] at hz
   exact .inl ⟨by simp,z,hz⟩
 refine ⟨aS, ?_,fH⟩
 constructor
 · simp [Act.put,I.size]
 · exact I.defers
 · exact I.hb
 · exact I.bP
 ·
    intro t av ht
    rcases hl t av ht with rfl|⟨hr,⟨e,rfl⟩|⟨e,hq⟩⟩
    · by_cases e:t=d
      · exact ⟨v,by rw [cA hN,if_pos e],trivial⟩
      · cases hq:look st.sl t with
        |none=>rw [jT,if_neg e,hq] at ht;simp at ht
        |some x=>obtain ⟨u,hu,_⟩:=I.slots t x hq;exact ⟨u,by rw [cA hN,if_neg e];exact hu,trivial⟩
    · subst e
      refine ⟨v,by rw [cA hN,if_pos rfl], ?_⟩
      by_cases hx:∃sz n cs,m.v= .ex sz n cs
      · obtain ⟨sz,n,cs,hx⟩:=hx
        obtain ⟨_,o,cap,vs,h1,h2,h3,h4,h5,h6,h7,_⟩:=eJ sz n cs hx
        rw [hx];simp only [dQ]
        exact ⟨o,cap,vs,by rw [hk2];exact h1,h2,h3,h4,by rw [hk2];exact h5,by rw [hk2];exact h6,by rw [hk2];exact h7⟩
      · have hv:=h.val (fun sz n cs e=>hx ⟨sz,n,cs,e⟩) (t+1)
        have:=dQ.put (u:=v) (st':=st.made (some t) m) (aS:=aS) hN dF (qQ (t+1) (by omega)) hex (fun k cs e=>⟨cs,e,rfl⟩) hr hv
        cases hm:m.v with
        |ex sz n cs=>exact absurd ⟨sz,n,cs,hm⟩ hx
        |_=>rw [hm] at this;exact this
    · obtain ⟨u,hu,hv⟩:=I.slots t av hq
      exact ⟨u,by rw [cA hN,if_neg e];exact hu,dQ.put hN dF (qQ t e) hex (fun k cs e=>⟨cs,e,rfl⟩) hr hv⟩
 ·
    intro x hx
    rcases bY x hx with ⟨e,hx⟩|⟨rfl,hz⟩
    · rw [fH x e];exact I.own x hx
    · obtain ⟨h4,h5,_⟩:=Mc hz
      rw [hk2];exact ⟨h4,h5⟩
 ·
    intro x y hx hy he
    rcases bY x hx with ⟨e,hx⟩|⟨rfl,hz⟩
    · rcases bY y hy with ⟨e',hy⟩|⟨rfl,dx⟩
      · rw [fH x e,fH y e'] at he;exact I.inj x y hx hy he
      · obtain ⟨_,_,h6⟩:=Mc dx
        rw [fH x e,hk2] at he;exact absurd he (h6 x hx)
    · rcases bY y hy with ⟨e',hy⟩|⟨rfl,dx⟩
      · obtain ⟨_,_,h6⟩:=Mc hz
        rw [hk2,fH y e'] at he;exact absurd he.symm (h6 y hy)
      · rfl
 ·
    intro k cs hk
    rw [dF];exact I.boxes k cs hk
 ·
    intro t z hz
    rw [fU] at hz
    by_cases e:t=d
    · subst e;rw [if_pos rfl] at hz
      obtain ⟨o,n,cap,cs,h1,h2,h3,h0,_⟩:=hb0 z hz
      exact ⟨o,n,cap,cs,by rw [jT,if_pos rfl,h1];rfl,by rw [cA hN,if_pos rfl,hk2,h2],by rw [hk2];exact h3,h0⟩
    · rw [if_neg (by simpa using e)] at hz
      obtain ⟨o,n,cap,cs,h1,h2,h3,h0⟩:=I.gL t z hz
      exact ⟨o,n,cap,cs,by rw [jT,if_neg e,h1];rfl,by rw [cA hN,if_neg e,qQ t e];exact h2,by rw [qQ t e];exact h3,h0⟩
 ·
    intro k i z hz
    rw [fU,if_neg (by simp)] at hz
    obtain ⟨o,n,cap,cs,dw,h1,h2,h3,h4,h0⟩:=I.iF k i z hz
    exact ⟨o,n,cap,cs,dw,h1,h2,by rw [dF,B0];exact h3,by rw [B0];exact h4,h0⟩
 ·
    intro t q ht hq
    rw [vo] at ht
    by_cases e:t=d
    · subst e
      rw [if_pos rfl] at ht
      cases hm:m.tg with
      |none=>simp [hm] at ht
      |some p=>
       simp only [hm,Option.map_some,Option.some.injEq] at ht;subst ht
       rw [cA hN,if_pos rfl]
       by_cases hp:p= .s t
       · subst hp;simp [cT,cA hN]
       · obtain ⟨z,hz⟩:=hq
         rw [fU,if_neg hp] at hz
         have:=h.tg p hm ⟨z,hz⟩
         cases p with
         |s u=>simp only [cT] at this ⊢;rw [cA hN,if_neg (by simpa using hp)];exact this
         |c k o=>simp only [cT] at this ⊢;rw [dF];exact this
    · rw [if_neg e] at ht
      cases hm:look st.tg t with
      |none=>simp [hm] at ht
      |some p=>
       simp only [hm,Option.map_some,Option.some.injEq] at ht
       split at ht
       · simp at ht
       · rename_i hp
         subst ht
         have hp':q≠ .s d:=fun e=>hp (by rw [e])
         obtain ⟨z,hz⟩:=hq
         rw [fU,if_neg hp'] at hz
         have:=I.tags t q hm ⟨z,hz⟩
         rw [cA hN,if_neg e,←this]
         cases q with
         |s u=>simp only [cT];rw [cA hN,if_neg (by simpa using hp')]
         |c k o=>simp only [cT];rw [dF]
end
end Go.Proofs.YtibbgjafjhcemaaDoor.Cul
namespace Go.Proofs.YtibbgjafjhcemaaDoor.Cul
open Go Go.RowKit
structure Db (w:World) (Pr:aD) (w':World) (aC:aD) (r:RV) (v:Value):Prop where
 fw:Fw w Pr w' aC
 rp:Rp w' aC r.v v
 gr:∀z,r.gr=some z→∃b o n cap cs,r.v= .sl z n cs∧v= .slice (some ⟨b,o,none⟩) n cap∧Room w' aC b o n cap z∧o=0∧w.heap.size≤b∧b<w'.heap.size
def oF (P:Program) (f:Nat):Prop:=∃fn c,P.funcs[f]? =some fn∧fn.body=some c∧(fn.name== "runtime.NumGoroutine")=false
def aA (P:Program) (f:Nat) (args:List PV) (r:RV):Prop:=
 oF P f∧∀(vs:List Value) (w:World) (Pr:aD),(∀b o,Pr b o→b<w.heap.size)→aT w Pr args vs→
  Calls P f vs.toArray w (fun e w'=>∃v aC,e= .returned v∧Db w Pr w' aC r v)
structure C9 (w:World) (Pr:aD) (b:Nat) (T:TypeId) (c:Array Value) (cs:List PV):Prop where
 qI:w.heap[b]? =some (.cells c T (0,0))
 pre:∃us,us<+:c.toList∧aT w Pr cs us∧One us
 free:∀o,¬Pr b o
def BI (b size:Nat) (cs:List PV) (off sz n:Nat) (v:Value):Prop:=∃o cap,v= .slice (some ⟨b,o,none⟩) n cap∧(o=off∨(n=0∧0<off))∧off+n* sz≤cs.length∧0<sz∧n≤cap∧o+cap* sz≤size
inductive m6 (w:World) (Pr:aD) (b size:Nat) (mC:List PV) (js:Nat):List MA→List Value→Prop
 |nil:m6 w Pr b size mC js [] []
 |p {p:PV} {v:Value} {ms:List MA} {vs:List Value} (h:Rp w Pr p v) (hs:m6 w Pr b size mC js ms vs):m6 w Pr b size mC js (.p p::ms) (v::vs)
 |g {off n:Nat} {v:Value} {ms:List MA} {vs:List Value} (h:BI b size mC off js n v) (hs:m6 w Pr b size mC js ms vs):m6 w Pr b size mC js (.g mC off js n::ms) (v::vs)
def Lg (w:World) (Pr:aD) (b size:Nat) (cs:List PV) (sz:Nat):MR→Value→Prop
 | .pv p,v=>Rp w Pr p v
 | .gs off n,v=>BI b size cs off sz n v
 | .gt off n rest,v=>∃u us,v= .tuple (u::us).toArray∧BI b size cs off sz n u∧aT w Pr rest us
structure Lf (w:World) (Pr:aD) (w':World) (b:Nat) (T:TypeId) (c:Array Value) (sz:Nat) (cs:List PV) (r:MR) (cs':List PV) (v:Value):Prop where
 os:w'.os=w.os
 tape:w'.tape=w.tape
 output:w'.output=w.output
 size:w.heap.size≤w'.heap.size
 other:∀k,k<w.heap.size→k≠b→w'.heap[k]? =w.heap[k]?
 OW:∃c',C9 w' Pr b T c' cs'∧c'.size=c.size
 len:cs'.length=cs.length
 res:Lg w' Pr b c.size cs' sz r v
def dy (P:Program) (f:Nat) (ms:List MA) (r:MR) (cs':List PV):Prop:=
 oF P f∧∀(cs:List PV) (sz:Nat) (vs:List Value) (w:World) (Pr:aD) (b:Nat) (T:TypeId) (c:Array Value),cZ ms=some cs→(∀b o,Pr b o→b<w.heap.size)→C9 w Pr b T c cs→m6 w Pr b c.size cs sz ms vs→
  Calls P f vs.toArray w (fun e w'=>∃v,e= .returned v∧Lf w Pr w' b T c sz cs r cs' v)
structure aP (P:Program) (call:Cl):Prop where
 fn:∀f args r,call.fn f args=some r→aA P f args r
 mu:∀f ms r cs',call.mu f ms=some (r,cs')→dy P f ms r cs'
section
variable {P:Program} {base:Nat} {w:World} {Pr:aD} {bk:Key→Nat} {st:St} {a:Act} {N:Nat}
theorem iN {t:Nat} {v:Value} (h:a.tmps[t]? =some v):a.eval (.tmp t)=v:=by simp [Act.eval,h]
theorem fk (I:Inv base w Pr bk st a N) {x:Operand} {av:AV} (h:st.ev x=some av):∃t,dQ st a w Pr bk t av (a.eval x):=by
 cases x with
 |tmp t=>obtain ⟨v,h1,h2⟩:=I.slots t av h;exact ⟨t,by rw [iN h1];exact h2⟩
 |const v=>
  simp only [St.ev,Option.map_eq_some_iff] at h
  obtain ⟨p,hp,rfl⟩:=h
  exact ⟨0,xj hp⟩
 |func f=>simp only [St.ev,Option.some.injEq] at h;subst h;exact ⟨0,Rp.fn .nil⟩
 |global g=>simp [St.ev] at h
theorem ei (I:Inv base w Pr bk st a N) {x:Operand} {p:PV} (h:st.ev x=some (.pv p)):Rp w Pr p (a.eval x):=by obtain ⟨t,h1⟩:=fk I h;exact h1
theorem yN {x:Operand} {p:PV} (h:st.pv x=some p):st.ev x=some (.pv p):=by
 unfold St.pv at h;split at h
 · simp at h;subst h;assumption
 · simp at h
theorem iH (I:Inv base w Pr bk st a N) {x:Operand} {p:PV} (h:st.pv x=some p):Rp w Pr p (a.eval x):=ei I (yN h)
theorem ff (I:Inv base w Pr bk st a N) {x:Operand} {v:Value} (h:st.val x=some v):a.eval x=v:=by
 simp only [St.val,Option.bind_eq_some_iff] at h
 obtain ⟨p,h1,h2⟩:=h
 exact qz h2 (iH I h1)
theorem pW (I:Inv base w Pr bk st a N) {x:Operand} {k off:Nat} (h:st.ev x=some (.bp k off)):a.eval x= .pointer (some ⟨bk (.bx k),off,none⟩):=by obtain ⟨t,h1⟩:=fk I h;exact h1
theorem uU (I:Inv base w Pr bk st a N) {x:Operand} {k off sz n:Nat} (h:st.ev x=some (.bs k off sz n)):fZ st w bk k off sz n (a.eval x):=by obtain ⟨t,h1⟩:=fk I h;exact h1
theorem OT (I:Inv base w Pr bk st a N) {x:Operand} {f k off sz n:Nat} (h:st.ev x=some (.mv f k off sz n)):∃u,a.eval x= .func (.func f) #[u] #[]∧fZ st w bk k off sz n u:=by obtain ⟨t,h1⟩:=fk I h;exact h1
theorem I5 (I:Inv base w Pr bk st a N) {x:Operand} {k off sz n:Nat} {rest:List PV} (h:st.ev x=some (.tg k off sz n rest)):∃u us,a.eval x= .tuple (u::us).toArray∧fZ st w bk k off sz n u∧aT w Pr rest us:=by obtain ⟨t,h1⟩:=fk I h;exact h1
theorem g7 {b:Nat} {c:Array Value} {T:TypeId} {vs:List Value} (h:w.heap[b]? =some (.cells c T (0,0))) (hp:vs<+:c.toList):w.rangeAt b 0 vs:=fun j v hj=>by
 rw [cell_of_row _ _ _ _ _ _ h,Nat.zero_add]
 obtain ⟨t,ht⟩:=hp
 have hlt:j<vs.length:=(List.getElem?_eq_some_iff.1 hj).1
 rw [←Array.getElem?_toList,←ht,List.getElem?_append_left hlt,hj]
theorem Dq (I:Inv base w Pr bk st a N) {x:Operand} {u:Nat} (h:st.ev x=some (.xr u)):a.tmps[u]? =some (a.eval x)∧ek st u:=by obtain ⟨t,h1⟩:=fk I h;exact h1
theorem int_eq (I:Inv base w Pr bk st a N) {x:Operand} {n:Int} (h:(st.pv x).bind cz=some n):∃k,a.eval x= .int k n:=by
 simp only [Option.bind_eq_some_iff] at h
 obtain ⟨p,h1,h2⟩:=h
 have:=iH I h1
 generalize a.eval x=u at this ⊢
 unfold cz at h2
 split at h2
 · simp at h2;subst h2;cases this;exact ⟨_,rfl⟩
 · simp at h2
theorem nT {o:Oper} {K:Act→World→Prop} {Q:Exit→Act→World→Prop} {v:Value} (h:(execOp a.eval o).run P w= .ok (.value v) w) (k:K (a.put o.dst v) w):o.wp P a w K Q:=by
 unfold Oper.wp;rw [h];exact k
theorem cW {s:Sem Value} {v:Value} {w':World} (h:s.run P w= .ok v w'):(do pure (Next.value (←s)):Sem Next).run P w= .ok (.value v) w':=by simp [h]
def ic (P:Program) (base:Nat) (w:World) (Pr:aD) (bk:Key→Nat) (st:St) (a:Act) (o:Oper) (m:Made):Prop:=
 ∀(K:Act→World→Prop) (Q:Exit→Act→World→Prop),(∀v w' aC,Fw w Pr w' aC→dD base w' aC bk st a m v→K (a.put o.dst v) w')→o.wp P a w K Q
theorem bD {p:PV} {v:Value} (h:Rp w Pr p v):dD base w Pr bk st a { v:= .pv p} v:=
 ⟨fun _ _=>h,fun _ _ _ h=>by simp at h,fun z h=>by simp at h,fun q h=>by simp at h⟩
theorem bA (I:Inv base w Pr bk st a N) {o:Oper} {m:Made} {v:Value} (h:(execOp a.eval o).run P w= .ok (.value v) w) (hm:dD base w Pr bk st a m v):ic P base w Pr bk st a o m:=
 fun K Q hK=>nT h (hK v w Pr (Fw.refl I.bP) hm)
theorem iV (I:Inv base w Pr bk st a N) {o:Oper} {m:Made} {s:Sem Value} (he:execOp a.eval o=(do pure (Next.value (←s)):Sem Next)) (h:dL (cQ P s)=some m):ic P base w Pr bk st a o m:=by
 simp only [dL,Option.map_eq_some_iff] at h
 obtain ⟨p,hp,rfl⟩:=h
 obtain ⟨v,h1,h2⟩:=mL hp w Pr
 exact bA I (by rw [he];exact cW h1) (bD h2)
theorem jg {t:TypeId} {s:Nat} (h:bV P t=some s):∃i,P.info? t=some i∧i.size=s:=by
 simp only [bV,Option.map_eq_some_iff] at h;exact h
theorem fX {t:TypeId} {s:Nat} (h:bV P t=some s) (w:World):(sizeOf t).run P w= .ok s w:=by
 obtain ⟨i,h1,h2⟩:=jg h
 simp [sizeOf,typeInfo,h1,h2]
theorem fB {t:TypeId} {d:TypeDesc} (h:P.underlying t=some d) (w:World):(underlying t).run P w= .ok d w:=run_underlying h w
theorem r8 {t:TypeId} (h:(P.underlying t).isSome=true) (w:World):(isAgg t).run P w= .ok (ep P t) w:=by
 obtain ⟨d,hd⟩:=Option.isSome_iff_exists.1 h
 unfold isAgg ep
 rw [Sem.run_bind,fB hd]
 rw [hd]
 cases d<;>simp
theorem tG {t:TypeId} (h:ep P t=true):∃d,P.underlying t=some d∧d.isRow=true:=by
 unfold ep at h
 split at h
 · exact ⟨_,‹_›,rfl⟩
 · exact ⟨_,‹_›,rfl⟩
 · simp at h
theorem mO {t:TypeId} {cs:List PV} {off:Nat} {p:PV} {vs:List Value} {b o:Nat} (h:dZ P t cs off=some p) (hr:aT w Pr cs vs) (h1:One vs) (hc:w.rangeAt b o vs):
  ∃v,(loadVar t ⟨b,o+off,none⟩).run P w= .ok v w∧Rp w Pr p v∧(ep P t=false→vs[off]? =some v∧cs[off]? =some p):=by
 simp only [dZ,Option.bind_eq_some_iff] at h
 obtain ⟨s,hs,h⟩:=h
 split at h
 · rename_i hle
   have hlen:=hr.length
   split at h
   · rename_i hrow
     simp only [Option.some.injEq] at h;subst h
     obtain ⟨d,hd,rH⟩:=tG hrow
     refine ⟨_,run_loadVar_mid w b (o+off) t ((vs.drop off).take s) d (iX (dj hc off) s) hd rH ?_, .ag ((hr.drop off).take s) (fun v hv=>h1 v (List.mem_of_mem_drop (List.mem_of_mem_take hv))),by simp [hrow]⟩
     obtain ⟨i,hi1,hi2⟩:=jg hs
     rw [hi1];simp [hi2];omega
   · rename_i hrow
     split at h
     · rename_i hs1
       obtain ⟨v,hv,hp⟩:=hr.get off p h
       refine ⟨v, ?_,hp,fun _=>⟨hv,h⟩⟩
       have hcell:w.cell? ⟨b,o+off,none⟩=some v:=hc off v hv
       unfold loadVar
       rw [Sem.run_bind,r8 hs1.2]
       simp only [Bool.not_eq_true] at hrow
       simp [hrow,load,Sem.run,hcell]
     · simp at h
 · simp at h
theorem wD {t:TypeId} {cs:List PV} {off:Nat} {p:PV} {vs:List Value} (h:dZ P t cs off=some p) (hr:aT w Pr cs vs) (h1:One vs):
  ∃v,(part t vs.toArray off).run P w= .ok v w∧Rp w Pr p v:=by
 simp only [dZ,Option.bind_eq_some_iff] at h
 obtain ⟨s,hs,h⟩:=h
 split at h
 · split at h
   · rename_i hle hrow
     simp only [Option.some.injEq] at h;subst h
     obtain ⟨d,hd,rH⟩:=tG hrow
     refine ⟨.agg ((vs.drop off).take s).toArray, ?_, .ag ((hr.drop off).take s) (fun v hv=>h1 v (List.mem_of_mem_drop (List.mem_of_mem_take hv)))⟩
     unfold part
     rw [Sem.run_bind,r8 (by rw [hd];rfl)]
     simp only [hrow,Result.andThen_ok,if_true,Sem.run_bind,fX hs,Sem.run_pure]
     rw [List.extract_toArray,List.extract_eq_take_drop,Nat.add_sub_cancel_left]
   · rename_i hle hrow
     split at h
     · rename_i hs1
       obtain ⟨v,hv,hp⟩:=hr.get off p h
       refine ⟨v, ?_,hp⟩
       unfold part
       rw [Sem.run_bind,r8 hs1.2]
       simp only [Bool.not_eq_true] at hrow
       simp [hrow,hv]
     · simp at h
 · simp at h
theorem dQ.any {t t':Nat} {av:AV} {v:Value} (hn:∀sz n cs,av≠ .ex sz n cs) (h:dQ st a w Pr bk t av v):dQ st a w Pr bk t' av v:=by
 cases av with
 |ex sz n cs=>exact absurd rfl (hn sz n cs)
 |_=>exact h
theorem cJ {av:AV} {v:Value} {t:Nat} (hn:∀sz n cs,av≠ .ex sz n cs) (h:dQ st a w Pr bk t av v):dD base w Pr bk st a { v:=av} v:=
 ⟨fun _ _=>h.any hn,fun sz n cs e=>absurd e (hn sz n cs),fun z h=>by simp at h,fun q h=>by simp at h⟩
theorem Ip (I:Inv base w Pr bk st a N) {o:Oper} {m:Made} {call:Cl} {x:Operand} (ho:o.op= .move x) (h:quiet P call o st=some m):ic P base w Pr bk st a o m:=by
 have he:(execOp a.eval o).run P w= .ok (.value (a.eval x)) w:=by simp [execOp,ho]
 refine bA I he ?_
 simp only [quiet,ho] at h
 split at h
 · rename_i t heq
   simp only [Option.some.injEq] at h;subst h
   obtain ⟨t',hv⟩:=fk I heq
   exact cJ (by simp) hv
 · rename_i t off heq
   simp only [Option.some.injEq] at h;subst h
   obtain ⟨t',hv⟩:=fk I heq
   exact cJ (by simp) hv
 · simp at h
 · rename_i t sz n cs heq
   simp only [Option.some.injEq] at h;subst h
   obtain ⟨v,h1,h2⟩:=I.slots t _ heq
   exact cJ (t:=0) (by simp) ⟨by rw [iN h1];exact h1,_,_,_,heq⟩
 · rename_i t v hx1 MW MY MX heq
   simp only [Option.some.injEq] at h;subst h
   obtain ⟨u,h1,h2⟩:=I.slots t v heq
   have hn:∀sz n cs,v≠ .ex sz n cs:=fun sz n cs e=>MX sz n cs e
   rw [iN h1]
   refine ⟨fun _ _=>h2.any hn,fun sz n cs e=>absurd e (hn sz n cs),fun z h=>by simp at h,fun q hq hg=> ?_⟩
   simp only at hq
   split at hq
   · simp only [Option.some.injEq] at hq;subst hq;exact h1
   · simp only [St.tag,Option.bind_eq_some_iff,id] at hq
     obtain ⟨q',W5,rfl⟩:=hq
     rw [I.tags t q W5 hg,h1]
 · simp at h
 · rename_i v hx1 MW MY MX hx4 hx5 heq
   simp only [Option.some.injEq] at h;subst h
   obtain ⟨t',hv⟩:=fk I heq
   exact cJ (fun sz n cs e=>MX sz n cs e) hv
 · simp at h
theorem Iq (I:Inv base w Pr bk st a N) {o:Oper} {m:Made} {call:Cl} {c x y:Operand} (ho:o.op= .pick c x y) (h:quiet P call o st=some m):ic P base w Pr bk st a o m:=by
 simp only [quiet,ho,Option.bind_eq_some_iff] at h
 obtain ⟨cv,hc,h⟩:=h
 split at h
 · rename_i t
   simp only [Option.map_eq_some_iff] at h
   obtain ⟨p,hp,rfl⟩:=h
   have Wv:=ff I hc
   refine bA I (v:=a.eval (if t then x else y)) ?_ (bD (iH I hp))
   simp only [execOp,ho,Wv]
   cases t<;>simp [asBool]
 · simp at h
theorem F9 (I:Inv base w Pr bk st a N) {o:Oper} {m:Made} {call:Cl} {op:BinOp} {t u:TypeId} {x y:Operand} (ho:o.op= .binOp op t x y u) (h:quiet P call o st=some m):ic P base w Pr bk st a o m:=by
 simp only [quiet,ho,Option.bind_eq_some_iff] at h
 obtain ⟨p,hp,q,hq,h⟩:=h
 refine iV I ?_ h
 simp only [execOp,ho,ff I hp,ff I hq]
theorem Ir (I:Inv base w Pr bk st a N) {o:Oper} {m:Made} {call:Cl} {op:UnOp} {t:TypeId} {x:Operand} (ho:o.op= .unOp op t x) (h:quiet P call o st=some m):ic P base w Pr bk st a o m:=by
 simp only [quiet,ho,Option.bind_eq_some_iff] at h
 obtain ⟨p,hp,h⟩:=h
 refine iV I ?_ h
 simp only [execOp,ho,ff I hp]
theorem yF (I:Inv base w Pr bk st a N) {o:Oper} {m:Made} {call:Cl} {s:TypeId} {x:Operand} {f:Nat} (ho:o.op= .fieldAddr s x f) (h:quiet P call o st=some m):ic P base w Pr bk st a o m:=by
 simp only [quiet,ho,Option.bind_eq_some_iff] at h
 obtain ⟨⟨off,ty⟩,hf,h⟩:=h
 have run:∀b o',a.eval x= .pointer (some ⟨b,o',none⟩)→(execOp a.eval o).run P w= .ok (.value (.pointer (some ⟨b,o'+off,none⟩))) w:=by
  intro b o' hx
  unfold uX at hf
  split at hf
  · rename_i fs hu
    simp only [Option.bind_eq_some_iff] at hf
    obtain ⟨fd,jR,hf⟩:=hf
    split at hf
    · simp at hf
    · rename_i hz
      simp only [Option.map_eq_some_iff,Prod.mk.injEq] at hf
      obtain ⟨sz,hsz,rfl,rfl⟩:=hf
      have Sm:sz≠0:=fun e=>hz (by rw [hsz,e])
      simp only [execOp,ho]
      refine cW ?_
      simp [Instr.fieldAt,fB hu,jR,hx,Instr.sureAddr,fieldPlace,fX hsz,Sm,Addr.add_mid]
  · simp at hf
 split at h
 · rename_i k o' heq
   simp only [Option.some.injEq] at h;subst h
   exact bA I (run _ _ (pW I heq)) (cJ (t:=0) (by simp) rfl)
 · rename_i t o' heq
   simp only [Option.some.injEq] at h;subst h
   obtain ⟨t',⟨b,o2,n,cap,h1,h2⟩,h3⟩:=fk I heq
   exact bA I (run _ _ h2) (cJ (t:=0) (by simp) ⟨⟨b,o2,n,cap,h1,by rw [Nat.add_assoc]⟩,h3⟩)
 · rename_i cs heq
   simp only [Option.some.injEq] at h;subst h
   have hv:=ei I heq
   generalize hx:a.eval x=v at hv
   cases hv with
   |el hr h1 hc hp=>
    refine bA I (run _ _ hx) (bD (.el (hr.drop off) (fun v hv=>h1 v (List.mem_of_mem_drop hv)) (dj hc off) (fun i hi=> ?_)))
    rw [Nat.add_assoc]
    refine hp _ ?_
    simp at hi;omega
 · simp at h
theorem Gc (I:Inv base w Pr bk st a N) {o:Oper} {m:Made} {call:Cl} {s:TypeId} {x:Operand} {f:Nat} (ho:o.op= .field s x f) (h:quiet P call o st=some m):ic P base w Pr bk st a o m:=by
 simp only [quiet,ho,Option.bind_eq_some_iff] at h
 obtain ⟨⟨off,ty⟩,hf,h⟩:=h
 split at h
 · rename_i cs heq
   have hv:=iH I heq
   generalize hx:a.eval x=v at hv
   cases hv with
   |ag hr h1=>
    simp only [dL,Option.map_eq_some_iff] at h
    obtain ⟨p,hp,rfl⟩:=h
    obtain ⟨v,cy,dY⟩:=wD (P:=P) hp hr h1
    refine bA I (v:=v) ?_ (bD dY)
    unfold uX at hf
    split at hf
    · rename_i fs hu
      simp only [Option.bind_eq_some_iff] at hf
      obtain ⟨fd,jR,hf⟩:=hf
      split at hf
      · simp at hf
      · simp only [Option.map_eq_some_iff,Prod.mk.injEq] at hf
        obtain ⟨sz,hsz,rfl,rfl⟩:=hf
        simp only [execOp,ho]
        refine cW ?_
        simp [Instr.field,fB hu,jR,hx,asAgg,cy]
    · simp at hf
 · simp at h
end
end Go.Proofs.YtibbgjafjhcemaaDoor.Cul
namespace Go.Proofs.YtibbgjafjhcemaaDoor.Cul
open Go Go.RowKit
section
variable {P:Program} {base:Nat} {w:World} {Pr:aD} {bk:Key→Nat} {st:St} {a:Act} {N:Nat}
theorem run_indexAt_slice {t e:TypeId} {s:Nat} (hu:P.underlying t=some (.slice e)) (hs:bV P e=some s) (k:IntKind) (n:Int) (b o len cap:Nat) (h0:0≤n) (h1:n<len):
  (Instr.indexAt t (.slice (some ⟨b,o,none⟩) len cap) (.int k n)).run P w= .ok (.pointer (some ⟨b,o+n.toNat* s,none⟩)) w:=by
 simp [Instr.indexAt,asIntOf,fB hu,h0,h1,fX hs,Addr.add_mid]
theorem run_indexAt_array {t e:TypeId} {s len:Nat} (hu:P.underlying t=some (.array len e)) (hs:bV P e=some s) (k:IntKind) (n:Int) (b o:Nat) (h0:0≤n) (h1:n<len):
  (Instr.indexAt t (.pointer (some ⟨b,o,none⟩)) (.int k n)).run P w= .ok (.pointer (some ⟨b,o+n.toNat* s,none⟩)) w:=by
 simp [Instr.indexAt,asIntOf,fB hu,h0,h1,fX hs,Addr.add_mid,Instr.sureAddr]
theorem NU {cs:List PV} {vs:List Value} {b o sz n i:Nat} (hr:aT w Pr cs vs) (h1:One vs) (hc:w.rangeAt b o vs) (hp:∀i,i<vs.length→Pr b (o+i)):
  Rp w Pr (.el (row cs sz i)) (.pointer (some ⟨b,o+i* sz,none⟩)):=by
 refine .el ((hr.drop (i* sz)).take sz) (fun v hv=>h1 v (List.mem_of_mem_drop (List.mem_of_mem_take hv))) (iX (dj hc _) _) (fun j hj=> ?_)
 rw [Nat.add_assoc]
 refine hp _ ?_
 simp at hj;omega
theorem yG (I:Inv base w Pr bk st a N) {o:Oper} {m:Made} {call:Cl} {t:TypeId} {x i:Operand} (ho:o.op= .indexAddr t x i) (h:quiet P call o st=some m):ic P base w Pr bk st a o m:=by
 simp only [quiet,ho] at h
 rw [Option.bind_eq_some_iff] at h
 obtain ⟨n,hn,h⟩:=h
 obtain ⟨k,hk⟩:=int_eq I hn
 have he:∀v,(Instr.indexAt t (a.eval x) (.int k n)).run P w= .ok v w→(execOp a.eval o).run P w= .ok (.value v) w:=fun v hv=>by
  simp only [execOp,ho,hk];exact cW hv
 split at h
 · rename_i len e hu
   rw [Option.bind_eq_some_iff] at h
   obtain ⟨s,hs,h⟩:=h
   split at h
   · rename_i hb
     split at h
     · rename_i k' o' heq
       simp only [Option.some.injEq] at h;subst h
       exact bA I (he _ (by rw [pW I heq];exact run_indexAt_array hu hs k n _ _ hb.1 hb.2)) (cJ (t:=0) (by simp) rfl)
     · rename_i cs heq
       simp only [Option.some.injEq] at h;subst h
       have hv:=ei I heq
       generalize hx:a.eval x=v at hv
       cases hv with
       |el hr h1 hc hp=>
        refine bA I (he _ (by rw [hx];exact run_indexAt_array hu hs k n _ _ hb.1 hb.2)) (bD (.el (hr.drop _) (fun v hv=>h1 v (List.mem_of_mem_drop hv)) (dj hc _) (fun i hi=> ?_)))
        rw [Nat.add_assoc]
        refine hp _ ?_
        simp at hi;omega
     · simp at h
   · simp at h
 · rename_i e hu
   rw [Option.bind_eq_some_iff] at h
   obtain ⟨s,hs,h⟩:=h
   split at h
   · rename_i sz len cs heq
     split at h
     · rename_i hb
       obtain ⟨rfl,hb0,eJ⟩:=hb
       simp only [Option.some.injEq] at h;subst h
       have hv:=ei I heq
       generalize hx:a.eval x=v at hv
       cases hv with
       |sl hr h1 hl hn hc hp=>exact bA I (he _ (by rw [hx];exact run_indexAt_slice hu hs k n _ _ _ _ hb0 eJ)) (bD (NU (n:=len) hr h1 hc hp))
       |mE=>omega
     · simp at h
   · rename_i u heq
     split at h
     · rename_i sz len cs hl
       split at h
       · rename_i hb
         obtain ⟨rfl,hb0,eJ⟩:=hb
         simp only [Option.some.injEq] at h;subst h
         obtain ⟨h1,h2⟩:=Dq I heq
         obtain ⟨v,cy,o',cap,vs,rfl,dY⟩:=I.slots u _ hl
         rw [cy] at h1
         have hx:a.eval x=_:=(Option.some.inj h1).symm
         exact bA I (he _ (by rw [hx];exact run_indexAt_slice hu hs k n _ _ _ _ hb0 eJ)) (cJ (t:=0) (by simp) ⟨⟨_,_,_,_,cy,rfl⟩,h2⟩)
       · simp at h
     · simp at h
   · rename_i k' off sz len heq
     split at h
     · rename_i hb
       obtain ⟨rfl,hb0,eJ⟩:=hb
       simp only [Option.some.injEq] at h;subst h
       obtain ⟨o',cap,cs,c,T,hx,h0,_⟩:=uU I heq
       obtain rfl:o'=off:=h0.resolve_right (fun h=>by omega)
       exact bA I (he _ (by rw [hx];exact run_indexAt_slice hu hs k n _ _ _ _ hb0 eJ)) (cJ (t:=0) (by simp) rfl)
     · simp at h
   · simp at h
 · simp at h
theorem Gd (I:Inv base w Pr bk st a N) {o:Oper} {m:Made} {call:Cl} {t:TypeId} {x i:Operand} (ho:o.op= .index t x i) (h:quiet P call o st=some m):ic P base w Pr bk st a o m:=by
 simp only [quiet,ho] at h
 split at h
 · rename_i len e cs hu heq
   rw [Option.bind_eq_some_iff] at h
   obtain ⟨n,hn,h⟩:=h
   rw [Option.bind_eq_some_iff] at h
   obtain ⟨s,hs,h⟩:=h
   obtain ⟨k,hk⟩:=int_eq I hn
   split at h
   · rename_i hb
     have hv:=iH I heq
     generalize hx:a.eval x=v at hv
     cases hv with
     |ag hr h1=>
      simp only [dL,Option.map_eq_some_iff] at h
      obtain ⟨p,hp,rfl⟩:=h
      obtain ⟨v,cy,dY⟩:=wD (P:=P) hp hr h1
      refine bA I (v:=v) ?_ (bD dY)
      simp only [execOp,ho,hk]
      refine cW ?_
      simp [Instr.index,asIntOf,fB hu,hx,hb.1,hb.2,fX hs,cy]
   · simp at h
 · simp only [Option.bind_eq_some_iff] at h
   obtain ⟨p,hp,q,hq,h⟩:=h
   refine iV I ?_ h
   simp only [execOp,ho,ff I hp,ff I hq]
theorem Io (I:Inv base w Pr bk st a N) {o:Oper} {m:Made} {call:Cl} {t:TypeId} {x:Operand} (ho:o.op= .load t x) (h:quiet P call o st=some m):ic P base w Pr bk st a o m:=by
 simp only [quiet,ho] at h
 have he:∀b o' v,a.eval x= .pointer (some ⟨b,o',none⟩)→(loadVar t ⟨b,o',none⟩).run P w= .ok v w→(execOp a.eval o).run P w= .ok (.value v) w:=fun b o' v hx hv=>by
  simp only [execOp,ho,hx];exact cW (by simpa [Instr.loadAt,Instr.sureAddr] using hv)
 split at h
 · rename_i k o' heq
   rw [Option.bind_eq_some_iff] at h
   obtain ⟨cs,hk,h⟩:=h
   simp only [Option.map_eq_some_iff] at h
   obtain ⟨p,hp,rfl⟩:=h
   obtain ⟨⟨T,c,vs,cy,oV,dY,nq⟩,FD⟩:=I.boxes k cs hk
   have hc:w.rangeAt (bk (.bx k)) 0 vs:=g7 cy oV
   obtain ⟨v,qP,jS,jt⟩:=mO (P:=P) hp dY nq hc
   rw [Nat.zero_add] at qP
   refine bA I (he _ _ _ (pW I heq) qP) ⟨fun _ _=>jS,fun _ _ _ h=>by simp at h,fun z h=>by simp at h,fun q hq hg=> ?_⟩
   simp only at hq
   split at hq
   · rename_i g9
     simp only [Option.some.injEq] at hq;subst hq
     simp only [Bool.and_eq_true,Bool.not_eq_eq_eq_not,Bool.not_true] at g9
     have:=(jt g9.1).1
     have h2:=hc o' v this
     simpa [cT] using h2
   · simp at hq
 · rename_i cs heq
   simp only [dL,Option.map_eq_some_iff] at h
   obtain ⟨p,hp,rfl⟩:=h
   have hv:=ei I heq
   generalize hx:a.eval x=v at hv
   cases hv with
   |el hr h1 hc Jf=>
    obtain ⟨v,qP,jS,jt⟩:=mO (P:=P) hp hr h1 hc
    exact bA I (he _ _ _ hx qP) (bD jS)
 · rename_i u o' heq
   split at h
   · rename_i sz n cs hl
     simp only [dL,Option.map_eq_some_iff] at h
     obtain ⟨p,hp,rfl⟩:=h
     obtain ⟨t',⟨b,o2,n',cap',h1,h2⟩,h3⟩:=fk I heq
     obtain ⟨v,cy,o3,cap,vs,rfl,dY,nq,FD,QM,hv6⟩:=I.slots u _ hl
     rw [cy] at h1
     simp only [Option.some.injEq,Value.slice.injEq,Addr.mk.injEq] at h1
     obtain ⟨⟨rfl,rfl,_⟩,_,_⟩:=h1
     obtain ⟨v,qP,jS,jt⟩:=mO (P:=P) hp dY nq QM
     exact bA I (he _ _ _ h2 qP) (bD jS)
   · simp at h
 · simp at h
theorem Bx (I:Inv base w Pr bk st a N) {o:Oper} {m:Made} {call:Cl} {x:Operand} {i:Nat} (ho:o.op= .extract x i) (h:quiet P call o st=some m):ic P base w Pr bk st a o m:=by
 simp only [quiet,ho] at h
 split at h
 · rename_i ps heq
   simp only [dL,Option.map_eq_some_iff] at h
   obtain ⟨p,hp,rfl⟩:=h
   have hv:=ei I heq
   generalize hx:a.eval x=v at hv
   cases hv with
   |an hr=>
    obtain ⟨v,cy,dY⟩:=hr.get i p hp
    refine bA I (v:=v) ?_ (bD dY)
    simp only [execOp,ho,hx]
    refine cW ?_
    simp [Instr.extract,cy]
 · rename_i k off sz n rest heq
   obtain ⟨u,us,hx,hu,hr⟩:=I5 I heq
   split at h
   · simp only [Option.some.injEq] at h;subst h
     refine bA I (v:=u) ?_ (cJ (t:=0) (by simp) hu)
     simp only [execOp,ho,hx]
     refine cW ?_
     simp [Instr.extract]
   · rename_i i
     simp only [dL,Option.map_eq_some_iff] at h
     obtain ⟨p,hp,rfl⟩:=h
     obtain ⟨v,cy,dY⟩:=hr.get i p hp
     refine bA I (v:=v) ?_ (bD dY)
     simp only [execOp,ho,hx]
     refine cW ?_
     simp [Instr.extract,cy]
 · simp at h
theorem mw (I:Inv base w Pr bk st a N):∀{l:List Operand} {caps:List Cap},eU st l=some caps→(l.map a.eval).length=caps.length∧∀(i:Nat) (c:Cap) (u:Value),caps[i]? =some c→(l.map a.eval)[i]? =some u→gB w Pr bk c u
 |[],caps,h=>by simp [eU] at h;subst h;simp
 |x::l,caps,h=>by
  simp only [eU] at h
  split at h
  · rename_i p heq
    simp only [Option.map_eq_some_iff] at h
    obtain ⟨cs,hcs,rfl⟩:=h
    obtain ⟨h1,h2⟩:=mw I hcs
    refine ⟨by simpa using h1,fun i c u hc hu=> ?_⟩
    cases i with
    |zero=>simp at hc hu;subst hc hu;exact ei I heq
    |succ i=>exact h2 i c u (by simpa using hc) (by simpa using hu)
  · rename_i k o heq
    simp only [Option.map_eq_some_iff] at h
    obtain ⟨cs,hcs,rfl⟩:=h
    obtain ⟨h1,h2⟩:=mw I hcs
    refine ⟨by simpa using h1,fun i c u hc hu=> ?_⟩
    cases i with
    |zero=>simp at hc hu;subst hc hu;exact pW I heq
    |succ i=>exact h2 i c u (by simpa using hc) (by simpa using hu)
  · simp at h
theorem AL (I:Inv base w Pr bk st a N) {o:Oper} {m:Made} {call:Cl} {f:Fn} {first captured:Array Operand} (ho:o.op= .makeFunc f first captured) (h:quiet P call o st=some m):ic P base w Pr bk st a o m:=by
 cases f with
 |func f'=>
  simp only [quiet,ho] at h
  split at h
  · rename_i h0
    simp only [Option.map_eq_some_iff] at h
    obtain ⟨caps,hc,rfl⟩:=h
    obtain ⟨h1,h2⟩:=mw I hc
    refine bA I (v:= .func (.func f') #[] (captured.map a.eval)) ?_ (cJ (t:=0) (by simp) ⟨captured.toList.map a.eval, ?_,h1,h2⟩)
    · simp only [execOp,ho]
      refine cW ?_
      have:first= #[]:=Array.ext' (by simpa using h0)
      simp [Instr.makeFunc,this]
    · congr 1;exact Array.ext' (by simp)
  · rename_i x hx1 MW
    split at h
    · rename_i k off sz n heq
      simp only [Option.some.injEq] at h;subst h
      have hb:=uU I heq
      have e1:first= #[x]:=Array.ext' (by simpa using hx1)
      have e2:captured= #[]:=Array.ext' (by simpa using MW)
      refine bA I (v:= .func (.func f') #[a.eval x] #[]) ?_ (cJ (t:=0) (by simp) ⟨_,rfl,hb⟩)
      simp only [execOp,ho]
      refine cW ?_
      simp [Instr.makeFunc,e1,e2]
    · simp at h
  · simp at h
 |_=>simp [quiet,ho] at h
theorem AM (I:Inv base w Pr bk st a N) {o:Oper} {m:Made} {call:Cl} {x:Operand} (ho:o.op= .nilCheck x) (h:quiet P call o st=some m):ic P base w Pr bk st a o m:=by
 simp only [quiet,ho] at h
 split at h
 · rename_i k o' heq
   simp only [Option.some.injEq] at h;subst h
   have hx:=pW I heq
   exact bA I (v:=a.eval x) (by simp [execOp,ho,hx]) (cJ (t:=0) (by simp) hx)
 · rename_i cs heq
   simp only [Option.some.injEq] at h;subst h
   have hv:=ei I heq
   refine bA I (v:=a.eval x) ?_ (bD hv)
   generalize hx:a.eval x=v at hv
   cases hv with
   |el hr h1 hc Jf=>simp [execOp,ho,hx]
 · rename_i f caps heq
   simp only [Option.some.injEq] at h;subst h
   have hv:=ei I heq
   refine bA I (v:=a.eval x) ?_ (bD hv)
   generalize hx:a.eval x=v at hv
   cases hv with
   |fn hr=>simp [execOp,ho,hx]
 · simp at h
end
end Go.Proofs.YtibbgjafjhcemaaDoor.Cul
namespace Go.Proofs.YtibbgjafjhcemaaDoor.Cul
open Go Go.RowKit
section
variable {P:Program} {base:Nat} {w:World} {Pr:aD} {bk:Key→Nat} {st:St} {a:Act} {N:Nat}
theorem args1 {args:Array Operand} {x:Operand} (h:args.toList=[x]):args= #[x]:=Array.ext' (by simpa using h)
theorem args2 {args:Array Operand} {x y:Operand} (h:args.toList=[x,y]):args= #[x,y]:=Array.ext' (by simpa using h)
theorem kf {o:Oper} {b:Builtin} {args:Array Operand} {ts:Array TypeId} (ho:o.op= .call { callee:= .builtin b,args:=args,argTypes:=ts}):
  (execOp a.eval o).run P w=(builtin b ts o.type (args.map fun| .const _=>true|_=>false) (args.map a.eval)).run P w:=by
 simp [execOp,ho,resolve,invoke];rfl
theorem KL (I:Inv base w Pr bk st a N) {o:Oper} {m:Made} {call:Cl} {args:Array Operand} {ts:Array TypeId} (ho:o.op= .call { callee:= .builtin .len,args:=args,argTypes:=ts}) (h:quiet P call o st=some m):ic P base w Pr bk st a o m:=by
 simp only [quiet,ho] at h
 have he:=kf (P:=P) (w:=w) (a:=a) ho
 split at h
 · rename_i x hx
   rw [args1 hx] at he
   simp only [builtin,List.map_toArray,List.map_cons,List.map_nil] at he
   have hlen:∀A n cap e,a.eval x= .slice A n cap→(ts[0]?).bind P.underlying=some (.slice e)→(execOp a.eval o).run P w= .ok (.value (.int .i64 n)) w:=fun A n cap e Ad ht=>by
    rw [he,Ad]
    simp only [Option.bind_eq_some_iff] at ht
    obtain ⟨t,MN,Xg⟩:=ht
    refine cW ?_
    simp [Builtin.len_,MN,fB Xg,goInt]
   split at h
   · rename_i sz n cs heq
     split at h
     · rename_i e ht
       simp only [Option.some.injEq] at h;subst h
       have hv:=ei I heq
       generalize Ad:a.eval x=v at hv
       cases hv with
       |sl hr h1 hl hn hc hp=>exact bA I (hlen _ _ _ _ Ad ht) (bD (.lit rfl))
       |mE=>exact bA I (hlen _ _ _ _ Ad ht) (bD (.lit rfl))
     · simp at h
   · rename_i u heq
     split at h
     · rename_i sz n cs e hl ht
       simp only [Option.some.injEq] at h;subst h
       obtain ⟨h1,h2⟩:=Dq I heq
       obtain ⟨v,cy,o',cap,vs,rfl,dY⟩:=I.slots u _ hl
       rw [cy] at h1
       exact bA I (hlen _ _ _ _ (Option.some.inj h1).symm ht) (bD (.lit rfl))
     · simp at h
   · rename_i k off sz n heq
     split at h
     · rename_i e ht
       simp only [Option.some.injEq] at h;subst h
       obtain ⟨o',cap,cs,c,T,hx,_⟩:=uU I heq
       exact bA I (hlen _ _ _ _ hx ht) (bD (.lit rfl))
     · simp at h
   · rename_i p hne heq
     rw [Option.bind_eq_some_iff] at h
     obtain ⟨v,hv,h⟩:=h
     have dY:=qz hv (ei I heq)
     simp only [dL,Option.map_eq_some_iff] at h
     obtain ⟨p',hp',rfl⟩:=h
     obtain ⟨u,h1,h2⟩:=mL hp' w Pr
     exact bA I (by rw [he,dY];exact cW h1) (bD h2)
   · simp at h
 · simp at h
theorem KM (I:Inv base w Pr bk st a N) {o:Oper} {m:Made} {call:Cl} {args:Array Operand} {ts:Array TypeId} (ho:o.op= .call { callee:= .builtin .max,args:=args,argTypes:=ts}) (h:quiet P call o st=some m):ic P base w Pr bk st a o m:=by
 simp only [quiet,ho] at h
 have he:=kf (P:=P) (w:=w) (a:=a) ho
 split at h
 · rename_i x y hx
   rw [args2 hx] at he
   simp only [Option.bind_eq_some_iff] at h
   obtain ⟨p,hp,q,hq,h⟩:=h
   simp only [dL,Option.map_eq_some_iff] at h
   obtain ⟨p',hp',rfl⟩:=h
   obtain ⟨u,h1,h2⟩:=mL hp' w Pr
   refine bA I (v:=u) ?_ (bD h2)
   rw [he];simp only [builtin,List.map_toArray,List.map_cons,List.map_nil,ff I hp,ff I hq];exact cW h1
 · simp at h
theorem KN (I:Inv base w Pr bk st a N) {o:Oper} {m:Made} {call:Cl} {args:Array Operand} {ts:Array TypeId} (ho:o.op= .call { callee:= .builtin .min,args:=args,argTypes:=ts}) (h:quiet P call o st=some m):ic P base w Pr bk st a o m:=by
 simp only [quiet,ho] at h
 have he:=kf (P:=P) (w:=w) (a:=a) ho
 split at h
 · rename_i x y hx
   rw [args2 hx] at he
   simp only [Option.bind_eq_some_iff] at h
   obtain ⟨p,hp,q,hq,h⟩:=h
   simp only [dL,Option.map_eq_some_iff] at h
   obtain ⟨p',hp',rfl⟩:=h
   obtain ⟨u,h1,h2⟩:=mL hp' w Pr
   refine bA I (v:=u) ?_ (bD h2)
   rw [he];simp only [builtin,List.map_toArray,List.map_cons,List.map_nil,ff I hp,ff I hq];exact cW h1
 · simp at h
theorem ri (I:Inv base w Pr bk st a N) {jN:aD} (hP:∀b o,Pr b o→jN b o) (hB:∀k cs,look st.bx k=some cs→∀o,jN (bk (.bx k)) o):
  ∀{caps:List Cap} {ps:List PV} {vs:List Value},dX st caps=some ps→vs.length=caps.length→(∀(i:Nat) (c:Cap) (u:Value),caps[i]? =some c→vs[i]? =some u→gB w Pr bk c u)→aT w jN ps vs
 |[],ps,vs,h,hl,_=>by simp [dX] at h;subst h;simp at hl;subst hl;exact .nil
 | .pv p::caps,ps,[],h,hl,hc=>by simp at hl
 | .bp k off::caps,ps,[],h,hl,hc=>by simp at hl
 | .pv p::caps,ps,v::vs,h,hl,hc=>by
   simp only [dX,Option.map_eq_some_iff] at h
   obtain ⟨qs,hq,rfl⟩:=h
   exact .cons (Rp.mono ⟨hP,fun _ _ _=>rfl⟩ (hc 0 _ _ rfl rfl)) (ri I hP hB hq (by simpa using hl) (fun i c u h1 h2=>hc (i+1) c u (by simpa using h1) (by simpa using h2)))
 | .bp k off::caps,ps,v::vs,h,hl,hc=>by
   simp only [dX,Option.bind_eq_some_iff,Option.map_eq_some_iff] at h
   obtain ⟨cs,hk,qs,hq,rfl⟩:=h
   have hv:v=_:=hc 0 _ _ rfl rfl
   refine .cons ?_ (ri I hP hB hq (by simpa using hl) (fun i c u h1 h2=>hc (i+1) c u (by simpa using h1) (by simpa using h2)))
   rw [hv]
   obtain ⟨⟨T,c,us,cy,oV,dY,nq⟩,FD⟩:=I.boxes k cs hk
   have hr:w.rangeAt (bk (.bx k)) 0 us:=g7 cy oV
   have h2:=Rp.el (w:=w) (Pr:=jN) (aT.mono ⟨hP,fun _ _ _=>rfl⟩ (dY.drop off)) (fun v hv=>nq v (List.mem_of_mem_drop hv)) (dj hr off) (fun i _=>hB k cs hk _)
   simpa using h2
theorem zf (I:Inv base w Pr bk st a N) {jN:aD} (hP:∀b o,Pr b o→jN b o) (hB:∀k cs,look st.bx k=some cs→∀o,jN (bk (.bx k)) o) {x:Operand} {av:AV} {p:PV}
  (hx:st.ev x=some av) (h:st.fj av=some p):Rp w jN p (a.eval x):=by
 obtain ⟨t,hv⟩:=fk I hx
 cases av with
 |pv q=>simp only [St.fj,Option.some.injEq] at h;subst h;exact Rp.mono ⟨hP,fun _ _ _=>rfl⟩ hv
 |bp k off=>
  simp only [St.fj,Option.map_eq_some_iff] at h
  obtain ⟨cs,hk,rfl⟩:=h
  have hv:a.eval x=_:=hv
  rw [hv]
  obtain ⟨⟨T,c,us,cy,oV,dY,nq⟩,FD⟩:=I.boxes k cs hk
  have hr:w.rangeAt (bk (.bx k)) 0 us:=g7 cy oV
  have h2:=Rp.el (w:=w) (Pr:=jN) (aT.mono ⟨hP,fun _ _ _=>rfl⟩ (dY.drop off)) (fun v hv=>nq v (List.mem_of_mem_drop hv)) (dj hr off) (fun i _=>hB k cs hk _)
  simpa using h2
 |bs k off sz n=>
  simp only [St.fj,Option.map_eq_some_iff] at h
  obtain ⟨cs,hk,rfl⟩:=h
  obtain ⟨o',cap,cs',c',T',hx',ho',hk',hle,hsz,hcap,_,_⟩:=hv
  rw [hk] at hk';cases hk'
  rw [hx']
  by_cases hn0:n=0
  · subst hn0
    simpa using Rp.sl (w:=w) (Pr:=jN) (sz:=sz) (n:=0) (cap:=cap) (b:=bk (.bx k)) (o:=o') .nil (by simp) (by simp) (Nat.zero_le _) (fun j v hj=>by simp at hj) (fun i hi=>by simp at hi)
  obtain rfl:o'=off:=ho'.resolve_right (fun h=>hn0 h.1)
  obtain ⟨⟨T,c,us,cy,oV,dY,nq⟩,FD⟩:=I.boxes k cs hk
  have hr:w.rangeAt (bk (.bx k)) 0 us:=g7 cy oV
  have iG:=iX (dj hr o') (n* sz)
  rw [Nat.zero_add] at iG
  refine .sl (aT.mono ⟨hP,fun _ _ _=>rfl⟩ ((dY.drop o').take (n* sz))) (fun v hv=>nq v (List.mem_of_mem_drop (List.mem_of_mem_take hv))) (by simp;omega) hcap iG (fun i _=>hB k cs hk _)
 |cl f caps=>
  simp only [St.fj,Option.map_eq_some_iff] at h
  obtain ⟨ps,hps,rfl⟩:=h
  obtain ⟨vs,h1,h2,h3⟩:=hv
  rw [h1]
  exact .fn (ri I hP hB hps h2 h3)
 |_=>simp [St.fj] at h
theorem xE (I:Inv base w Pr bk st a N) {jN:aD} (hP:∀b o,Pr b o→jN b o) (hB:∀k cs,look st.bx k=some cs→∀o,jN (bk (.bx k)) o):
  ∀{l:List Operand} {ps:List PV},eH st l=some ps→aT w jN ps (l.map a.eval)
 |[],ps,h=>by simp [eH] at h;subst h;exact .nil
 |x::l,ps,h=>by
  simp only [eH,Option.bind_eq_some_iff,Option.map_eq_some_iff] at h
  obtain ⟨p,⟨av,hx,hp⟩,qs,hq,rfl⟩:=h
  exact .cons (zf I hP hB hx hp) (xE I hP hB hq)
theorem xD (I:Inv base w Pr bk st a N) {x:Operand} {av:AV} {p:PV} (hx:st.ev x=some av) (ho:cw av=false) (h:st.fj av=some p):Rp w Pr p (a.eval x):=by
 obtain ⟨t,hv⟩:=fk I hx
 cases av with
 |pv q=>simp only [St.fj,Option.some.injEq] at h;subst h;exact hv
 |bp k off=>simp [cw] at ho
 |bs k off sz n=>simp [cw] at ho
 |cl f caps=>
  simp only [St.fj,Option.map_eq_some_iff] at h
  obtain ⟨ps,hps,rfl⟩:=h
  obtain ⟨vs,h1,h2,h3⟩:=hv
  rw [h1]
  refine .fn ?_
  clear h1 hx
  induction caps generalizing ps vs with
  |nil=>simp [dX] at hps;subst hps;simp at h2;subst h2;exact .nil
  |cons c caps ih=>
   simp only [cw,List.any_cons,Bool.or_eq_false_iff] at ho
   cases c with
   |bp k off=>simp [ED] at ho
   |pv q=>
    simp only [dX,Option.map_eq_some_iff] at hps
    obtain ⟨qs,hq,rfl⟩:=hps
    cases vs with
    |nil=>simp at h2
    |cons v vs=>exact .cons (h3 0 _ _ rfl rfl) (ih (by simpa [cw] using ho.2) _ hq vs (by simpa using h2) (fun i c u h1 h2=>h3 (i+1) c u (by simpa using h1) (by simpa using h2)))
 |_=>simp [St.fj] at h
theorem j8 (I:Inv base w Pr bk st a N):∀{l:List Operand} {ps:List PV},(l.any fun x=>((st.ev x).map cw).getD true)=false→eH st l=some ps→aT w Pr ps (l.map a.eval)
 |[],ps,_,h=>by simp [eH] at h;subst h;exact .nil
 |x::l,ps,hn,h=>by
  simp only [eH,Option.bind_eq_some_iff,Option.map_eq_some_iff] at h
  obtain ⟨p,⟨av,hx,hp⟩,qs,hq,rfl⟩:=h
  simp only [List.any_cons,Bool.or_eq_false_iff,hx,Option.map_some,Option.getD_some] at hn
  exact .cons (xD I hx hn.1 hp) (j8 I hn.2 hq)
theorem lX {o:Oper} {g:Operand} {args:Array Operand} {ts:Array TypeId} (ho:o.op= .call { callee:= .value g,args:=args,argTypes:=ts}) {f:Nat} {cs:List Value} (hg:a.eval g= .func (.func f) #[] cs.toArray):
  execOp a.eval o=callFunc f ((args.toList.map a.eval)++cs).toArray:=by
 have:args.map a.eval++cs.toArray=((args.toList.map a.eval)++cs).toArray:=Array.ext' (by simp)
 simp [execOp,ho,resolve,hg,Deferred.ofValue,invoke,this]
theorem nS {o:Oper} {f:Nat} {args:Array Value} {K:Act→World→Prop} {Q:Exit→Act→World→Prop} {R:Ending→World→Prop} (he:execOp a.eval o=callFunc f args) (hb:oF P f)
  (hc:Calls P f args w R) (hR:∀e w',R e w'→∃v,e= .returned v∧K (a.put o.dst v) w'):o.wp P a w K Q:=by
 obtain ⟨fn,c,h1,h2,h3⟩:=hb
 unfold Oper.wp
 have:(execOp a.eval o).run P w= .ok (.enter f args) w:=by simp [he,callFunc,program,Sem.run,h1,h2,show ¬fn.name= "runtime.NumGoroutine" from by simpa using h3]
 rw [this]
 refine hc.mono fun e w' h=> ?_
 obtain ⟨v,rfl,hk⟩:=hR e w' h
 exact hk
theorem Im (I:Inv base w Pr bk st a N) {o:Oper} {m:Made} {call:Cl} (hC:aP P call) {g:Operand} {args:Array Operand} {ts:Array TypeId} (ho:o.op= .call { callee:= .value g,args:=args,argTypes:=ts}) (h:quiet P call o st=some m):ic P base w Pr bk st a o m:=by
 simp only [quiet,ho] at h
 split at h
 · rename_i av hg
   rw [Option.bind_eq_some_iff] at h
   obtain ⟨p,hp,h⟩:=h
   split at h
   · rename_i f caps
     rw [Option.bind_eq_some_iff] at h
     obtain ⟨gp,has,h⟩:=h
     simp only [sG,Option.bind_eq_some_iff] at h
     obtain ⟨r,hr,h⟩:=h
     obtain ⟨hbody,eo⟩:=hC.fn f _ r hr
     generalize hout:(cw av||args.toList.any fun x=>((st.ev x).map cw).getD true)=out at h
     intro K Q hK
     cases out with
     |false=>
      simp only [Bool.false_eq_true,if_false,Option.some.injEq] at h
      simp only [Bool.or_eq_false_iff] at hout
      have oS:=xD I hg hout.1 hp
      generalize hge:a.eval g=gv at oS
      cases oS with
      |fn hcs=>
       have hargs:=(j8 I hout.2 has).app hcs
       refine nS (lX ho hge) hbody (eo _ w Pr I.bP hargs) ?_
       rintro e w' ⟨v,aC,rfl,eP⟩
       refine ⟨v,rfl,hK v w' aC eP.fw ?_⟩
       subst h
       refine ⟨fun _ _=>eP.rp,fun _ _ _ h=>by simp at h,fun z hz=> ?_,fun q h=>by simp at h⟩
       obtain ⟨b,o',n,cap,cs,h1,h2,h3,h0,h4,h5⟩:=eP.gr z hz
       exact ⟨b,o',n,cap,cs,by rw [h1],h2,h3,h0,Nat.le_trans I.hb h4,h5,fun x hx=>by have:=(I.own x hx).2;omega⟩
     |true=>
      simp only [if_true] at h
      split at h
      · rename_i hv
        simp only [Option.some.injEq] at h
        obtain ⟨jN,L4⟩:∃jN:aD,∀b o',jN b o'↔(Pr b o'∨∃k cs,look st.bx k=some cs∧b=bk (.bx k)):=⟨fun b o'=>_,fun _ _=>Iff.rfl⟩
        have hP:∀b o,Pr b o→jN b o:=fun b o h=>(L4 b o).2 (.inl h)
        have hB:∀k cs,look st.bx k=some cs→∀o,jN (bk (.bx k)) o:=fun k cs h o=>(L4 _ o).2 (.inr ⟨k,cs,h,rfl⟩)
        have oS:=zf I hP hB hg hp
        generalize hge:a.eval g=gv at oS
        cases oS with
        |fn hcs=>
         have hargs:=(xE I hP hB has).app hcs
         refine nS (lX ho hge) hbody (eo _ w jN (fun b o h=> ?_) hargs) ?_
         · rcases (L4 b o).1 h with h|⟨k,cs,hk2,rfl⟩
           · exact I.bP b o h
           · exact (I.own (.bx k) ⟨cs,hk2⟩).2
         rintro e w' ⟨v,aC,rfl,eP⟩
         have Wz:Fw w Pr w' Pr:=⟨eP.fw.gX,fun _ _ h=>h,fun _ _ _ h=>h,fun b o h=>Nat.lt_of_lt_of_le (I.bP b o h) eP.fw.gX.size⟩
         refine ⟨v,rfl,hK v w' Pr Wz ?_⟩
         subst h
         have cU:Rp w' Pr r.v v:=by
          have h0:=eP.rp
          unfold eL at hv
          split at hv
          · rename_i he
            rw [he] at h0 ⊢
            cases h0 with
            |an hr=>cases hr;exact .an .nil
          · obtain ⟨u,MS⟩:=Option.isSome_iff_exists.1 hv
            exact sr MS h0
         exact bD cU
      · simp at h
   · simp at h
 · simp at h
end
end Go.Proofs.YtibbgjafjhcemaaDoor.Cul
namespace Go.Proofs.YtibbgjafjhcemaaDoor.Cul
open Go Go.RowKit
section
variable {P:Program} {base:Nat} {w:World} {Pr:aD} {bk:Key→Nat} {st:St} {a:Act} {N:Nat}
theorem Dg (I:Inv base w Pr bk st a N) {lo hi:Option Operand} {n:Nat} {hh ll:Int} (hhi:(match (generalizing:=false) hi with|none=>some (n:Int)|some y=>(st.pv y).bind cz)=some hh) (hlo:(match (generalizing:=false) lo with|none=>some (0:Int)|some y=>(st.pv y).bind cz)=some ll)
  (hb0:0≤ll) (eJ:ll≤hh) (cF:hh≤n):∀cap,n≤cap→(Instr.sliceBounds true n cap (lo.map a.eval) (hi.map a.eval) none).run P w= .ok (ll.toNat,hh.toNat,cap) w:=by
 intro cap hcap
 have h1:∀(k:IntKind),(Instr.sliceBound (.int k hh) cap .sliceAcap).run P w= .ok hh.toNat w:=fun k=>by
  simp [Instr.sliceBound,asIntOf,show 0≤hh by omega,show hh≤(cap:Int) by omega]
 have h2:∀(k:IntKind),(Instr.sliceBound (.int k ll) hh.toNat .sliceB).run P w= .ok ll.toNat w:=fun k=>by
  simp [Instr.sliceBound,asIntOf,show 0≤ll by omega,show ll≤(hh.toNat:Int) by omega,show ll≤max hh 0 by omega]
 cases hi with
 |none=>
  simp only [Option.some.injEq] at hhi;subst hhi
  cases lo with
  |none=>simp only [Option.some.injEq] at hlo;subst hlo;simp [Instr.sliceBounds]
  |some y=>obtain ⟨k,hk⟩:=int_eq I hlo;have E8:=h2 k;simp only [Int.toNat_natCast] at E8;simp [Instr.sliceBounds,hk,E8]
 |some z=>
  obtain ⟨k,hk⟩:=int_eq I hhi
  cases lo with
  |none=>simp only [Option.some.injEq] at hlo;subst hlo;simp [Instr.sliceBounds,hk,h1]
  |some y=>obtain ⟨k',hk'⟩:=int_eq I hlo;simp [Instr.sliceBounds,hk,h1,hk',h2]
theorem yt (I:Inv base w Pr bk st a N) {o:Oper} {t e:TypeId} {x:Operand} {lo hi:Option Operand} {n sz:Nat} {hh ll:Int} (ho:o.op= .slice t x lo hi none) (hu:P.underlying t=some (.slice e)) (hsz:bV P e=some sz)
  (hhi:(match (generalizing:=false) hi with|none=>some (n:Int)|some y=>(st.pv y).bind cz)=some hh) (hlo:(match (generalizing:=false) lo with|none=>some (0:Int)|some y=>(st.pv y).bind cz)=some ll) (hb0:0≤ll) (eJ:ll≤hh) (cF:hh≤n):
  ∀A cap,n≤cap→a.eval x= .slice A n cap→(execOp a.eval o).run P w= .ok (.value (.slice (if cap=ll.toNat then A else A.map (·.add (ll.toNat* sz))) (hh.toNat - ll.toNat) (cap - ll.toNat))) w:=by
 intro A cap hcap hx
 simp only [execOp,ho,hx]
 refine cW ?_
 simp [Instr.sliceAt,Instr.slice,fB hu,Dg I hhi hlo hb0 eJ cF cap hcap,fX hsz]
theorem Ge (I:Inv base w Pr bk st a N) {o:Oper} {m:Made} {call:Cl} {t:TypeId} {x:Operand} {lo hi mx:Option Operand} (ho:o.op= .slice t x lo hi mx) (h:quiet P call o st=some m):ic P base w Pr bk st a o m:=by
 simp only [quiet,ho] at h
 split at h
 · rename_i k off sz n heq
   split at h
   · rename_i e hu
     split at h
     · rename_i hsz
       rw [Option.bind_eq_some_iff] at h
       obtain ⟨hh,hhi,h⟩:=h
       rw [Option.bind_eq_some_iff] at h
       obtain ⟨ll,hlo,h⟩:=h
       split at h
       · rename_i hb
         obtain ⟨hb0,eJ,cF⟩:=hb
         simp only [Option.some.injEq] at h;subst h
         obtain ⟨o',cap,cs,c,T,hx,h0,hk,hle,hz,hn,HK,hroom⟩:=uU I heq
         refine bA I (yt I ho hu hsz hhi hlo hb0 eJ cF _ _ hn hx) (cJ (t:=0) (by simp) ?_)
         have hmul:hh.toNat* sz≤n* sz:=Nat.mul_le_mul_right _ (by omega)
         have hsub:(hh.toNat - ll.toNat)* sz=hh.toNat* sz - ll.toNat* sz:=Nat.sub_mul ..
         have WT:ll.toNat* sz≤hh.toNat* sz:=Nat.mul_le_mul_right _ (by omega)
         have hcs:(cap - ll.toNat)* sz=cap* sz - ll.toNat* sz:=Nat.sub_mul ..
         have hlc:ll.toNat* sz≤cap* sz:=Nat.mul_le_mul_right _ (by omega)
         by_cases hcl:cap=ll.toNat
         · rw [if_pos hcl]
           have hnn:hh.toNat - ll.toNat=0:=by omega
           by_cases WR:ll.toNat=0
           · refine ⟨o',_,cs,c,T,rfl, ?_,hk,by omega,hz,by omega,HK,by omega⟩
             rcases h0 with h0|⟨_,h0⟩
             · exact .inl (by rw [WR,h0];simp)
             · exact .inr ⟨hnn,by omega⟩
           · have:0<ll.toNat* sz:=Nat.mul_pos (by omega) hz
             exact ⟨o',_,cs,c,T,rfl, .inr ⟨hnn,by omega⟩,hk,by omega,hz,by omega,HK,by omega⟩
         · rw [if_neg hcl]
           simp only [Option.map_some,Addr.add_mid]
           refine ⟨_,_,cs,c,T,rfl, ?_,hk,by omega,hz,by omega,HK,by omega⟩
           rcases h0 with rfl|⟨h0,h1⟩
           · exact .inl rfl
           · exact .inr ⟨by omega,by omega⟩
       · simp at h
     · simp at h
   · simp at h
 · rename_i sz n cs heq
   split at h
   · rename_i e hu
     split at h
     · rename_i hsz
       rw [Option.bind_eq_some_iff] at h
       obtain ⟨hh,hhi,h⟩:=h
       rw [Option.bind_eq_some_iff] at h
       obtain ⟨ll,hlo,h⟩:=h
       split at h
       · rename_i hb
         obtain ⟨hb0,eJ,cF⟩:=hb
         simp only [Option.some.injEq] at h;subst h
         have hv:=ei I heq
         have he:=yt I ho hu hsz hhi hlo hb0 eJ cF
         generalize Ad:a.eval x=v at hv
         cases hv with
         |mE=>
          obtain rfl:ll=0:=by omega
          obtain rfl:hh=0:=by omega
          refine bA I (he _ _ (Nat.le_refl _) Ad) (bD ?_)
          simp;exact .mE
         |sl hr h1 hl hn hc hp=>
          rename_i cap b o' vs
          refine bA I (he _ _ hn Ad) (bD ?_)
          have hlen:=hr.length
          have hmul:hh.toNat* sz≤n* sz:=Nat.mul_le_mul_right _ (by omega)
          have hsub:(hh.toNat - ll.toNat)* sz=hh.toNat* sz - ll.toNat* sz:=Nat.sub_mul ..
          have WT:ll.toNat* sz≤hh.toNat* sz:=Nat.mul_le_mul_right _ (by omega)
          by_cases hcl:cap=ll.toNat
          · rw [if_pos hcl]
            have h0:hh.toNat - ll.toNat=0:=by omega
            rw [h0]
            have:=Rp.sl (w:=w) (Pr:=Pr) (sz:=sz) (n:=0) (cap:=cap - ll.toNat) (b:=b) (o:=o') .nil (by simp) (by simp) (Nat.zero_le _) (fun j v hj=>by simp at hj) (fun i hi=>by simp at hi)
            simpa using this
          · rw [if_neg hcl]
            simp only [Option.map_some,Addr.add_mid]
            refine .sl ((hr.drop _).take _) (fun v hv=>h1 v (List.mem_of_mem_drop (List.mem_of_mem_take hv))) ?_ (by omega) (iX (dj hc _) _) (fun i hi=> ?_)
            · simp only [List.length_take,List.length_drop];omega
            · rw [Nat.add_assoc];refine hp _ ?_;simp at hi;omega
       · simp at h
     · simp at h
   · simp at h
 · rename_i p hne heq
   rw [Option.bind_eq_some_iff] at h
   obtain ⟨v,hv,h⟩:=h
   have hx:=qz hv (ei I heq)
   split at h
   · refine iV I ?_ h;simp only [execOp,ho,hx];rfl
   · rw [Option.bind_eq_some_iff] at h
     obtain ⟨l,hl,h⟩:=h
     refine iV I ?_ h;simp only [execOp,ho,hx,Option.map_some,ff I hl];rfl
   · rw [Option.bind_eq_some_iff] at h
     obtain ⟨l,hl,h⟩:=h
     refine iV I ?_ h;simp only [execOp,ho,hx,Option.map_some,ff I hl];rfl
   · rw [Option.bind_eq_some_iff] at h
     obtain ⟨l,hl,h⟩:=h
     rw [Option.bind_eq_some_iff] at h
     obtain ⟨l',hl',h⟩:=h
     refine iV I ?_ h;simp only [execOp,ho,hx,Option.map_some,ff I hl,ff I hl'];rfl
   · simp at h
 · simp at h
theorem uL:∀{cs:List PV} {l:List UInt8} {vs:List Value},bytesOf cs=some l→aT w Pr cs vs→∃xs:List Int,vs=xs.map (Value.int .u8)∧l=xs.map fun n=>UInt8.ofNat n.toNat
 |[],l,vs,h,k=>by simp [bytesOf] at h;cases k;subst h;exact ⟨[],rfl,rfl⟩
 | .lit v::cs,l,vs,h,k=>by
   cases k with
   |cons h1 h2=>
    cases h1
    unfold bytesOf at h
    split at h
    · simp at*
    · rename_i n cs' heq
      simp only [List.cons.injEq,PV.lit.injEq] at heq
      obtain ⟨rfl,rfl⟩:=heq
      simp only [Option.map_eq_some_iff] at h
      obtain ⟨q,hq,rfl⟩:=h
      obtain ⟨xs,rfl,rfl⟩:=uL hq h2
      exact ⟨n::xs,rfl,rfl⟩
    · simp at h
 | .sl .. ::_,l,vs,h,k=>by simp [bytesOf] at h
 | .el .. ::_,l,vs,h,k=>by simp [bytesOf] at h
 | .fn .. ::_,l,vs,h,k=>by simp [bytesOf] at h
 | .ag .. ::_,l,vs,h,k=>by simp [bytesOf] at h
 | .an .. ::_,l,vs,h,k=>by simp [bytesOf] at h
theorem Bw (I:Inv base w Pr bk st a N) {o:Oper} {m:Made} {call:Cl} {src dst:TypeId} {x:Operand} (ho:o.op= .convert src dst x) (h:quiet P call o st=some m):ic P base w Pr bk st a o m:=by
 simp only [quiet,ho] at h
 split at h
 · rename_i n cs heq
   split at h
   · rename_i e hs hd
     split at h
     · rename_i he
       simp only [Option.map_eq_some_iff] at h
       obtain ⟨l,hl,rfl⟩:=h
       have hv:=iH I heq
       generalize hx:a.eval x=v at hv
       cases hv with
       |mE=>
        simp [bytesOf] at hl;subst hl
        refine bA I (v:= .string ByteArray.empty) ?_ (bD ?_)
        · simp only [execOp,ho,hx];exact cW (run_convert_bytes_nil w src e hs he 0 0 dst hd)
        · exact Rp.lit rfl
       |sl hr h1 hlen hn hc hp=>
        obtain ⟨xs,rfl,rfl⟩:=uL hl hr
        have jS:=hr.length
        simp at jS
        refine bA I (v:= .string (strOfNums xs)) ?_ (bD ?_)
        · simp only [execOp,ho,hx]
          refine cW (run_convert_bytes_arg w src e hs he _ _ n _ xs (by omega) (fun i hi=> ?_) dst hd)
          have:=hc i (.int .u8 (xs.getD i 0)) (by simp [List.getElem?_eq_getElem (show i<xs.length by omega)])
          exact this
        · exact Rp.lit rfl
     · simp at h
   · simp at h
 · rename_i p hne heq
   rw [Option.bind_eq_some_iff] at h
   obtain ⟨v,hv,h⟩:=h
   refine iV I ?_ h
   simp only [execOp,ho,qz hv (iH I heq)]
 · simp at h
theorem xK:∀(l:List Value) (k off:Nat) (arr:Array Value),off+k+l.length≤arr.size→
  ((l.zipIdx k).foldl (fun cs x=>cs.setIfInBounds (off+x.2) x.1) arr).toList=arr.toList.take (off+k)++l++arr.toList.drop (off+k+l.length)
 |[],k,off,arr,h=>by simp
 |v::l,k,off,arr,h=>by
  simp only [List.length_cons] at h
  simp only [List.zipIdx_cons,List.foldl_cons]
  rw [xK l (k+1) off _ (by simp;omega)]
  simp only [Array.toList_setIfInBounds,List.length_cons]
  have e1:off+(k+1)=off+k+1:=by omega
  have e2:off+k+1+l.length=off+k+(l.length+1):=by omega
  rw [e1,e2,List.take_set,List.drop_set_of_lt (by omega)]
  have hlt:off+k<arr.toList.length:=by simp;omega
  rw [List.take_succ_eq_append_getElem hlt,List.set_append_right _ _ (by simp;omega)]
  simp [Nat.min_eq_left (show off+k≤arr.size by omega)]
inductive oH (w:World) (Pr:aD):List (Nat×PV)→List (Nat×Value)→Prop
 |nil:oH w Pr [] []
 |cons {i:Nat} {p:PV} {v:Value} {l:List (Nat×PV)} {k:List (Nat×Value)} (h:Rp w Pr p v) (ht:gE p=false) (hs:oH w Pr l k):oH w Pr ((i,p)::l) ((i,v)::k)
def bq (vs:List Value) (off:Nat) (new:List Value):List Value:=vs.take off++new++vs.drop (off+new.length)
theorem nZ {place:Nat→Option (Nat×Nat)}:∀{l:List (Nat×PV)} {k:List (Nat×Value)} {cells out:List PV} {vs:List Value},oH w Pr l k→jr place cells l=some out→aT w Pr cells vs→One vs→
  ∃us,Instr.fill place vs.toArray k=some us.toArray∧aT w Pr out us∧One us
 |_,_,cells,out,vs, .nil,h,hr,h1=>by simp [jr] at h;subst h;exact ⟨vs,by simp [Instr.fill],hr,h1⟩
 |_,_,cells,out,vs, .cons (i:=i) (p:=p) (v:=v) hp ht hs,h,hr,h1=>by
  simp only [jr] at h
  split at h
  · simp at h
  · rename_i off size oU
    split at h
    · simp at h
    · rename_i hsz
      simp only [not_or,Decidable.not_not,Nat.not_lt] at hsz
      obtain ⟨fS,gN⟩:=hp.iM (fun us e=>by rw [e] at ht;simp [gE] at ht)
      have hl:=fS.length
      have hlen:=hr.length
      have hv:v.cells.toList.length=size:=by rw [←hl];exact hsz.1
      have hvs:v.cells.size=size:=by rw [←hv];simp
      have OY:(v.cells.zipIdx.foldl (fun cs (x:Value×Nat)=>cs.setIfInBounds (off+x.2) x.1) vs.toArray)=(bq vs off v.cells.toList).toArray:=by
       apply Array.ext'
       have:=xK v.cells.toList 0 off vs.toArray (by simp only [List.size_toArray,Nat.add_zero];omega)
       rw [←Array.foldl_toList,Array.toList_zipIdx]
       simpa [bq] using this
      obtain ⟨us,lZ,gu,Aa⟩:=nZ hs h (show aT w Pr (splice cells off p.cells) (bq vs off v.cells.toList) by
       unfold splice bq
       rw [hl]
       exact ((hr.take off).app fS).app (hr.drop _)) (fun u hu=>by
       unfold bq at hu
       simp only [List.mem_append] at hu
       rcases hu with (hu|hu)|hu
       · exact h1 u (List.mem_of_mem_take hu)
       · exact gN u hu
       · exact h1 u (List.mem_of_mem_drop hu))
      refine ⟨us, ?_,gu,Aa⟩
      rw [←lZ,←OY]
      simp only [Instr.fill,oU]
      rw [if_neg]
      simp only [List.size_toArray,bne_iff_ne,ne_eq,Bool.or_eq_true,decide_eq_true_eq,not_or,Decidable.not_not,Nat.not_lt]
      omega
end
end Go.Proofs.YtibbgjafjhcemaaDoor.Cul
namespace Go.Proofs.YtibbgjafjhcemaaDoor.Cul
open Go Go.RowKit
section
variable {P:Program} {base:Nat} {w:World} {Pr:aD} {bk:Key→Nat} {st:St} {a:Act} {N:Nat}
theorem qj (I:Inv base w Pr bk st a N):∀{l:List (Nat×Operand)} {ps:List (Nat×PV)},partsOf st l=some ps→oH w Pr ps (l.map fun x=>(x.1,a.eval x.2))
 |[],ps,h=>by simp [partsOf] at h;subst h;exact .nil
 |(i,x)::l,ps,h=>by
  simp only [partsOf,Option.bind_eq_some_iff] at h
  obtain ⟨p,hp,h⟩:=h
  split at h
  · simp at h
  · rename_i ht
    simp only [Option.map_eq_some_iff] at h
    obtain ⟨qs,hq,rfl⟩:=h
    exact .cons (iH I hp) (by simpa using ht) (qj I hq)
theorem tI (P:Program):∀(l:List Field) (pl:List (Nat×Nat)),placesOf P l=some pl→l.mapM (fun f=>(P.info? f.type).map fun i=>(f.offset,i.size))=some pl
 |[],pl,h=>by simp [placesOf] at h;subst h;rfl
 |f::l,pl,h=>by
  simp only [placesOf,Option.bind_eq_some_iff,Option.map_eq_some_iff] at h
  obtain ⟨s,hs,q,hq,rfl⟩:=h
  obtain ⟨i,h1,h2⟩:=jg hs
  simp [List.mapM_cons,h1,h2,tI P l q hq]
theorem lD {t:TypeId} {z:PV} (h:jD P t=some z):∃i v,P.info? t=some i∧i.zero=some v∧Rp w Pr z v:=by
 simp only [jD,Option.bind_eq_some_iff] at h
 obtain ⟨v,⟨i,h1,h2⟩,h3⟩:=h
 exact ⟨i,v,h1,h2,xj h3⟩
theorem Bv {v:Value} {p:PV} (h:hH v=some p):gE p=false:=by
 unfold hH at h
 split at h
 · simp only [Option.map_eq_some_iff] at h;obtain ⟨_,_,rfl⟩:=h;rfl
 · split at h
   · simp at h;subst h;rfl
   · simp at h
theorem jd {t:TypeId} {z:PV} (h:jD P t=some z):gE z=false:=by
 simp only [jD,Option.bind_eq_some_iff] at h
 obtain ⟨v,_,h3⟩:=h
 exact Bv h3
theorem iS {p:PV} (h:gE p=false):∀vs,p≠ .an vs:=fun vs e=>by rw [e] at h;simp [gE] at h
theorem Gb (I:Inv base w Pr bk st a N) {o:Oper} {m:Made} {call:Cl} {t:TypeId} {parts:Array (Nat×Operand)} (ho:o.op= .build t parts) (h:quiet P call o st=some m):ic P base w Pr bk st a o m:=by
 simp only [quiet,ho] at h
 split at h
 · rename_i z ps hz hps
   have Fx:=qj I hps
   obtain ⟨i,zv,hi,qU,qT⟩:=lD (w:=w) (Pr:=Pr) hz
   have oU:(parts.map fun (i,x)=>(i,a.eval x)).toList=parts.toList.map fun x=>(x.1,a.eval x.2):=by simp
   have fin:∀out vs,aT w Pr out vs→One vs→P.built t (parts.toList.map fun x=>(x.1,a.eval x.2))=some vs.toArray→ic P base w Pr bk st a o { v:= .pv (.ag out)}:=fun out vs h1 h2 h3=>by
    refine bA I (v:= .agg vs.toArray) ?_ (bD (.ag h1 h2))
    simp only [execOp,ho]
    refine cW (run_build w t _ _ ?_)
    rw [oU];exact h3
   generalize QU:zv=zz at qT
   cases qT with
   |ag hzl B5=>
    split at h
    · rename_i fs hu
      rw [Option.bind_eq_some_iff] at h
      obtain ⟨pl,Sh,h⟩:=h
      simp only [Option.map_eq_some_iff] at h
      obtain ⟨out,hf,rfl⟩:=h
      obtain ⟨us,h1,h2,h3⟩:=nZ Fx hf hzl B5
      refine fin out us h2 h3 ?_
      have Je:=tI P _ _ Sh
      simp only [Program.built,hi,hu,qU,QU,Je]
      rw [←h1];simp [Value.cells]
    · rename_i n e hu
      rw [Option.bind_eq_some_iff] at h
      obtain ⟨s,hs,h⟩:=h
      simp only [Option.map_eq_some_iff] at h
      obtain ⟨out,hf,rfl⟩:=h
      obtain ⟨us,h1,h2,h3⟩:=nZ Fx hf hzl B5
      refine fin out us h2 h3 ?_
      obtain ⟨ie,WH,Sa⟩:=jg hs
      simp only [Program.built,hi,hu,qU,QU,WH,Sa]
      rw [←h1];simp [Value.cells]
    · simp at h
 · simp at h
theorem qG {z:List PV} {zv:List Value} (h:aT w Pr z zv):∀n,aT w Pr (bh z n) (bh zv n)
 |0=> .nil
 |n+1=>h.app (qG h n)
theorem tT {zv:List Value} (h:One zv):∀n,One (bh zv n)
 |0=>fun v hv=>by simp [bh] at hv
 |n+1=>fun v hv=>by
  simp only [bh,List.mem_append] at hv
  rcases hv with hv|hv
  · exact h v hv
  · exact tT h n v hv
theorem fE {α:Type} (z:List α):∀n,(bh z n).length=n* z.length
 |0=>by simp [bh]
 |n+1=>by simp [bh,fE z n,Nat.add_mul,Nat.add_comm]
theorem tR {α:Type} (z:List α):∀(n i:Nat),i<n* z.length→(bh z n)[i]? =z[i%z.length]?
 |0,i,h=>by simp at h
 |n+1,i,h=>by
  simp only [bh]
  by_cases hi:i<z.length
  · rw [List.getElem?_append_left hi,Nat.mod_eq_of_lt hi]
  · rw [List.getElem?_append_right (by omega),tR z n (i - z.length) (by rw [Nat.add_mul] at h;omega)]
    congr 1
    rw [←Nat.mod_eq_sub_mod (by omega)]
theorem Bj (zv:Array Value) (n:Nat):((Array.range (n* zv.size)).map (zv[· %zv.size]!))=(bh zv.toList n).toArray:=by
 apply Array.ext'
 apply List.ext_getElem?
 intro i
 have hl:zv.toList.length=zv.size:=by simp
 by_cases hi:i<n* zv.size
 · have hlt:i%zv.size<zv.size:=Nat.mod_lt _ (by rcases Nat.eq_zero_or_pos zv.size with h|h<;>simp_all)
   have:=tR zv.toList n i (by rw [hl];exact hi)
   rw [show (bh zv.toList n).toArray.toList=bh zv.toList n from rfl,this,hl]
   simp [hi,getElem!_pos,hlt]
 · rw [List.getElem?_eq_none (by simpa using hi),List.getElem?_eq_none (by simp [fE];omega)]
theorem zF (I:Inv base w Pr bk st a N) (ob:Obj) (n:Nat):Fw w Pr (w.alloc ob) (fun b o=>Pr b o∨(b=w.heap.size∧o<n)):=
 ⟨(Below.refl _ _).alloc (Nat.le_refl _) _,fun b o h=> .inl h,fun b o hb h=>h.resolve_right (fun h=>by omega),fun b o h=>by
   simp only [World.size_alloc]
   rcases h with h|h
   · have:=I.bP b o h;omega
   · omega⟩
theorem heap_alloc (w:World) (ob:Obj):(w.alloc ob).heap[w.heap.size]? =some ob:=heap_alloc_new w ob
theorem Gt (I:Inv base w Pr bk st a N) {cs:List PV} {vs:List Value} {sz n:Nat} {T:TypeId} (hr:aT w Pr cs vs) (h1:One vs) (hl:cs.length=n* sz):
  Rp (w.alloc (.cells vs.toArray T)) (fun b o=>Pr b o∨(b=w.heap.size∧o<n* sz)) (.sl sz n cs) (.slice (some ⟨w.heap.size,0,none⟩) n n):=by
 have hf:=zF I (.cells vs.toArray T) (n* sz)
 have hlen:=hr.length
 refine .sl (aT.mono (hf.kp I.bP) hr) h1 hl (Nat.le_refl _) (fun j v hj=> ?_) (fun i hi=> .inr ⟨rfl,by omega⟩)
 rw [cell_of_row _ _ _ _ _ _ (heap_alloc w _)]
 simpa using hj
theorem Bz (I:Inv base w Pr bk st a N) {vs:List Value} {sz n:Nat} {T:TypeId} (hsz:0<sz) (hl:vs.length=n* sz):
  Room (w.alloc (.cells vs.toArray T)) (fun b o=>Pr b o∨(b=w.heap.size∧o<n* sz)) w.heap.size 0 n n sz:=
 ⟨hsz,Nat.le_refl _,⟨_,_,heap_alloc w _,by simp [hl]⟩,fun o' h=>by
  rcases h with h|h
  · exact absurd (I.bP _ _ h) (by omega)
  · omega⟩
theorem vU (T:TypeId) (c:Array Value) (w:World):(newRow T c).run P w= .ok ⟨w.heap.size,0,none⟩ (w.alloc (.cells c T)):=by
 rfl
theorem xk (I:Inv base w Pr bk st a N) {o:Oper} {m:Made} {call:Cl} {t:TypeId} {len:Nat} {parts:Array (Nat×Operand)} (ho:o.op= .buildSlice t len parts) (h:quiet P call o st=some m):ic P base w Pr bk st a o m:=by
 simp only [quiet,ho] at h
 split at h
 · rename_i e hu
   rw [Option.bind_eq_some_iff] at h
   obtain ⟨s,hs,h⟩:=h
   rw [Option.bind_eq_some_iff] at h
   obtain ⟨z,hz,h⟩:=h
   split at h
   · rename_i g9
     rw [Option.bind_eq_some_iff] at h
     obtain ⟨ps,hps,h⟩:=h
     simp only [Option.map_eq_some_iff] at h
     obtain ⟨out,hf,rfl⟩:=h
     obtain ⟨i,zv,hi,qU,qT⟩:=lD (w:=w) (Pr:=Pr) hz
     obtain ⟨Ae,B5⟩:=qT.iM (iS (jd hz))
     have hzl:=Ae.length
     have hsz:zv.cells.size=s:=by rw [←g9.2,hzl];simp
     obtain ⟨us,h1,h2,h3⟩:=nZ (qj I hps) hf (qG Ae len) (tT B5 len)
     have QL:us.length=len* s:=by
      have:=h2.length
      have hout:∀{l:List (Nat×PV)} {c d:List PV},jr (fun i=>some (i* s,s)) c l=some d→d.length=c.length:=by
       intro l
       induction l with
       |nil=>intro c d h;simp [jr] at h;subst h;rfl
       |cons x l ih=>
        intro c d h
        simp only [jr] at h
        split at h
        · simp at h
        · rename_i gN
          rw [ih h]
          simp only [splice,List.length_append,List.length_take,List.length_drop]
          omega
      rw [←this,hout hf,fE,g9.2]
     intro K Q hK
     have hrun:(execOp a.eval o).run P w= .ok (.value (.slice (some ⟨w.heap.size,0,none⟩) len len)) (w.alloc (.cells us.toArray e)):=by
      simp only [execOp,ho]
      refine cW ?_
      have MZ:((Array.range (len* s)).map (zv.cells[· %zv.cells.size]!))=(bh zv.cells.toList len).toArray:=by rw [←hsz];exact Bj _ _
      have oU:(parts.map fun (i,x)=>(i,a.eval x)).toList=parts.toList.map fun x=>(x.1,a.eval x.2):=by simp
      have hno:¬16777216<len* s:=by have:=g9.1;omega
      simp only [Instr.buildSlice,Sem.run_bind,fB hu,Result.andThen_ok,fX hs]
      have zJ:Instr.fill (fun i=>some (i* s,s)) (bh zv.cells.toList len).toArray (Array.map (fun x=>(x.fst,a.eval x.snd)) parts).toList=some us.toArray:=by
       rw [Array.toList_map];exact h1
      rw [if_neg (by simpa using hno)]
      have rL:=vU (P:=P) e us.toArray w
      by_cases h0:len* s=0
      · rw [if_pos h0]
        have Wx:(bh zv.cells.toList len).toArray= #[]:=by
         have:(bh zv.cells.toList len).length=0:=by rw [fE];simp [hsz,h0]
         simp [List.length_eq_zero_iff.1 this]
        rw [Wx] at zJ
        simp only [Sem.run_bind,Sem.run_pure,Result.andThen_ok,h0]
        have B3:Array.range 0= #[]:=rfl
        simp only [B3,List.map_toArray,List.map_nil,zJ,Sem.run_bind,rL,Result.andThen_ok,Sem.run_pure]
      · rw [if_neg h0]
        simp only [Sem.run_bind,Sem.run_pure,Result.andThen_ok,zeroValue,typeInfo,program,Sem.run,hi,qU,MZ,zJ,rL]
     unfold Oper.wp
     rw [hrun]
     refine hK _ _ _ (zF I _ (len* s)) ⟨fun _ _=>Gt I h2 h3 (by rw [h2.length];exact QL),fun _ _ _ h=>by simp at h,fun z' dx=> ?_,fun q h=>by simp at h⟩
     simp only at dx
     split at dx
     · simp at dx
     · rename_i My
       simp only [Option.some.injEq] at dx;subst dx
       simp only [not_or] at My
       exact ⟨w.heap.size,0,len,len,out,rfl,rfl,Bz I (by omega) QL,rfl,I.hb,by simp,fun x hx=>by have:=(I.own x hx).2;omega⟩
   · simp at h
 · simp at h
end
end Go.Proofs.YtibbgjafjhcemaaDoor.Cul
namespace Go.Proofs.YtibbgjafjhcemaaDoor.Cul
open Go Go.RowKit
section
variable {P:Program} {base:Nat} {w:World} {Pr:aD} {bk:Key→Nat} {st:St} {a:Act} {N:Nat}
theorem AQ {call:Cl} (hC:aP P call) (I:Inv base w Pr bk st a N) {o:Oper} {m:Made} (h:quiet P call o st=some m):ic P base w Pr bk st a o m:=by
 cases ho:o.op with
 |move x=>exact Ip I ho h
 |pick c x y=>exact Iq I ho h
 |binOp op t x y u=>exact F9 I ho h
 |unOp op t x=>exact Ir I ho h
 |convert s d x=>exact Bw I ho h
 |fieldAddr s x f=>exact yF I ho h
 |field s x f=>exact Gc I ho h
 |indexAddr t x i=>exact yG I ho h
 |index t x i=>exact Gd I ho h
 |load t x=>exact Io I ho h
 |build t ps=>exact Gb I ho h
 |buildSlice t n ps=>exact xk I ho h
 |extract x i=>exact Bx I ho h
 |slice t x lo hi mx=>exact Ge I ho h
 |makeFunc f fi ca=>exact AL I ho h
 |nilCheck x=>exact AM I ho h
 |call c=>
  obtain ⟨callee,args,ts⟩:=c
  cases callee with
  |value g=>exact Im I hC ho h
  |builtin b=>
   cases b with
   |len=>exact KL I ho h
   |max=>exact KM I ho h
   |min=>exact KN I ho h
   |_=>simp [quiet,ho] at h
  |invoke r n=>simp [quiet,ho] at h
 |_=>simp [quiet,ho] at h
def jM (P:Program) (base:Nat) (w:World) (Pr:aD) (bk:Key→Nat) (st:St) (a:Act) (N:Nat) (o:Oper) (st':St):Prop:=
 ∀(K:Act→World→Prop) (Q:Exit→Act→World→Prop),
  (∀a' w' aC aS,Inv base w' aC aS st' a' N→Below base w w'→Kp w Pr w' aC→(∀b o,b<base→aC b o→Pr b o)→KO w w'→(∀k,o.dst≠some k→aS (.bx k)=bk (.bx k))→a'.defers=a.defers→K a' w')→o.wp P a w K Q
theorem Inv.less (I:Inv base w Pr bk st a N) {st':St} (hs:∀t av,look st'.sl t=some av→look st.sl t=some av∨av= .dead∧∃v,a.tmps[t]? =some v)
  (hb:∀k cs,look st'.bx k=some cs→look st.bx k=some cs) (hg:∀p z,aQ st'.gr p=some z→aQ st.gr p=some z∧(match p with| .s t=>look st'.sl t=look st.sl t| .c k _=>look st'.bx k=look st.bx k))
  (ht:∀t q,look st'.tg t=some (some q)→look st.tg t=some (some q))
  (hr:∀t u,(look st'.sl t=some (.xr u)∨∃off,look st'.sl t=some (.xe u off))→ek st u→ek st' u)
  (ki:∀t av k,look st'.sl t=some av→k∈oA av→∀cs,look st.bx k=some cs→look st'.bx k=some cs):Inv base w Pr bk st' a N:=by
 have bY:∀x,live st' x→live st x:=by
  intro x hx
  cases x with
  |bx k=>obtain ⟨cs,h⟩:=hx;exact ⟨cs,hb k cs h⟩
  |sx t=>
   rcases hx with ⟨sz,n,cs,h⟩|⟨z,h⟩
   · rcases hs t _ h with h|⟨h,_⟩
     · exact .inl ⟨sz,n,cs,h⟩
     · simp at h
   · exact .inr ⟨z,(hg _ z h).1⟩
  |cx k o=>obtain ⟨z,h⟩:=hx;exact ⟨z,(hg _ z h).1⟩
 constructor
 · exact I.size
 · exact I.defers
 · exact I.hb
 · exact I.bP
 · intro t av h
   rcases hs t av h with h'|⟨rfl,v,hv⟩
   · obtain ⟨v,hv,hr'⟩:=I.slots t av h'
     refine ⟨v,hv, ?_⟩
     cases av with
     |xr u=>exact ⟨hr'.1,hr t u (.inl h) hr'.2⟩
     |xe u off=>exact ⟨hr'.1,hr t u (.inr ⟨off,h⟩) hr'.2⟩
     |bs k off sz n=>exact hr'.frame rfl fun cs e=>⟨cs,ki t _ k h (by simp [oA]) cs e,rfl⟩
     |mv f k off sz n=>obtain ⟨u,h1,h2⟩:=hr';exact ⟨u,h1,h2.frame rfl fun cs e=>⟨cs,ki t _ k h (by simp [oA]) cs e,rfl⟩⟩
     |tg k off sz n rest=>obtain ⟨u,us,h1,h2,h3⟩:=hr';exact ⟨u,us,h1,h2.frame rfl fun cs e=>⟨cs,ki t _ k h (by simp [oA]) cs e,rfl⟩,h3⟩
     |_=>exact hr'
   · exact ⟨v,hv,trivial⟩
 · exact fun x hx=>I.own x (bY x hx)
 · exact fun x y hx hy=>I.inj x y (bY x hx) (bY y hy)
 · exact fun k cs h=>I.boxes k cs (hb k cs h)
 · intro t z h
   obtain ⟨h1,h2⟩:=hg _ z h
   obtain ⟨o,n,cap,cs,h3,h4,h5⟩:=I.gL t z h1
   exact ⟨o,n,cap,cs,h2.trans h3,h4,h5⟩
 · intro k i z h
   obtain ⟨h1,h2⟩:=hg _ z h
   obtain ⟨o,n,cap,cs,dw,h3,h4⟩:=I.iF k i z h1
   exact ⟨o,n,cap,cs,dw,h2.trans h3,h4⟩
 · intro t q h hq
   obtain ⟨z,hz⟩:=hq
   exact I.tags t q (ht t q h) ⟨z,(hg _ z hz).1⟩
theorem Inv.je (I:Inv base w Pr bk st a N) {d:Nat} (hd:d<N) {m:Made} {v:Value} (h:dD base w Pr bk st a m v):∃aS,Inv base w Pr aS (st.made (some d) m) (a.put (some d) v) N∧∀k,aS (.bx k)=bk (.bx k):=by
 obtain ⟨aS,h1,h2⟩:=I.made hd h;exact ⟨aS,h1,fun k=>h2 _ (by simp)⟩
theorem gj (st:St) (d:Nat) (v:AV):st.put (some d) v=st.made (some d) { v:=v}:=rfl
theorem gY (I:Inv base w Pr bk st a N) {o:Oper} {d:Nat} (kj:o.dst=some d) (hd:d<N) {m:Made} {v:Value} (he:(execOp a.eval o).run P w= .ok (.value v) w) (h:dD base w Pr bk st a m v):jM P base w Pr bk st a N o (st.made (some d) m):=by
 intro K Q hK
 obtain ⟨aS,h1,hbk⟩:=I.je hd h
 refine nT he ?_
 rw [kj]
 exact hK _ _ _ _ h1 (Below.refl _ _) (Kp.refl _ _) (fun _ _ _ h=>h) (KO.refl _) (fun k _=>hbk k) rfl
theorem qg (st:St) (p q:Pl):aQ (st.gr.filter (fun x=>x.1≠p)) q=if q=p then none else aQ st.gr q:=by
 have:=er (fun x=>decide (x≠p)) st.gr q
 simp only [ne_eq,decide_not,Bool.not_eq_eq_eq_not,Bool.not_true,decide_eq_false_iff_not,ite_not] at this ⊢
 exact this
theorem vr (p:Pl) (l:List (Nat×Option Pl)) (t:Nat):look (l.map (fT p)) t=(look l t).map fun q=>if q=some p then none else q:=
 cg (fT p) (fun _ q=>if q=some p then none else q) (fun _=>rfl) l t
theorem Inv.release (I:Inv base w Pr bk st a N) (p:Pl):Inv base w Pr bk { st with gr:=st.gr.filter (fun x=>x.1≠p),tg:=st.tg.map (fT p)} a N:=by
 refine I.less (fun t av h=> .inl h) (fun k cs h=>h) (fun q z h=> ?_) (fun t q h=> ?_) (fun t u _ h=>h) (fun _ _ _ _ _ _ e=>e)
 · simp only at h
   rw [qg] at h
   split at h
   · simp at h
   · exact ⟨h,by cases q<;>rfl⟩
 · simp only at h
   rw [vr] at h
   cases hq:look st.tg t with
   |none=>simp [hq] at h
   |some x=>
    simp only [hq,Option.map_some,Option.some.injEq] at h
    split at h
    · simp at h
    · rw [h]
theorem kB {p:Pl} {x:Key} (h:live { st with gr:=st.gr.filter (fun x=>x.1≠p),tg:=st.tg.map (fT p)} x) (hp:∀t,p= .s t→¬ek st t):live st x∧x≠p.key:=by
 cases x with
 |bx k=>exact ⟨h,by cases p<;>simp [Pl.key]⟩
 |sx t=>
  rcases h with h|⟨z,h⟩
  · refine ⟨.inl h,fun e=> ?_⟩
    cases p with
    |s u=>simp [Pl.key] at e;subst e;exact hp t rfl h
    |c k o=>simp [Pl.key] at e
  · simp only at h;rw [qg] at h
    split at h
    · simp at h
    · rename_i hne;exact ⟨.inr ⟨z,h⟩,fun e=>hne (by cases p with|s u=>simp [Pl.key] at e;rw [e]|c k o=>simp [Pl.key] at e)⟩
 |cx k o=>
  obtain ⟨z,h⟩:=h
  simp only at h;rw [qg] at h
  split at h
  · simp at h
  · rename_i hne;exact ⟨⟨z,h⟩,fun e=>hne (by cases p with|s u=>simp [Pl.key] at e|c k' o'=>simp [Pl.key] at e;rw [e.1,e.2])⟩
theorem Dp (I:Inv base w Pr bk st a N) {o:Oper} {x:Operand} {st':St} (ho:o.op= .assign x) (hN:∀d,o.dst=some d→d<N) (h:effect P o st=some st'):jM P base w Pr bk st a N o st':=by
 have he:(execOp a.eval o).run P w= .ok (.value (a.eval x)) w:=by simp [execOp,ho]
 simp only [effect,ho] at h
 split at h
 · rename_i t sz n cs heq
   simp only [Option.map_eq_some_iff] at h
   obtain ⟨d,hd,rfl⟩:=h
   obtain ⟨v,cy,dY⟩:=I.slots t _ heq
   have hx:a.eval (.tmp t)=v:=iN cy
   have hlk:∀u,look (bL st.sl t) u=if u=t then none else look st.sl u:=bI st.sl t
   have zV:aQ st.gr (.s t)=none:=by
    cases e:aQ st.gr (.s t) with
    |none=>rfl
    |some z=>obtain ⟨o',n',cap',cs',h1,_⟩:=I.gL t z e;rw [show look st.sl t=_ from heq] at h1;simp at h1
   have I2:Inv base w Pr bk { st with sl:=(bL st.sl t).map (dP t)} a N:=by
    refine I.less (fun u av h=> ?_) (fun k cs h=>h) (fun q z h=>⟨h, ?_⟩) (fun t q h=>h) (fun u x h hx=> ?_) (fun _ _ _ _ _ _ e=>e)
    · simp only at h
      rw [cg (dP t) (fun _ av=>if bC t av then .dead else av) (fun _=>rfl),hlk] at h
      by_cases e:u=t
      · simp [e] at h
      · rw [if_neg e] at h
        cases hq:look st.sl u with
        |none=>simp [hq] at h
        |some y=>
         simp only [hq,Option.map_some,Option.some.injEq] at h
         split at h
         · obtain ⟨v,hv,_⟩:=I.slots u y hq;exact .inr ⟨h.symm,v,hv⟩
         · exact .inl (by rw [h])
    · cases q with
      |s u=>
       simp only
       rw [cg (dP t) (fun _ av=>if bC t av then .dead else av) (fun _=>rfl),hlk]
       have e:u≠t:=fun e=>by subst e;rw [zV] at h;simp at h
       rw [if_neg e]
       obtain ⟨o',n',cap',cs',h1,_⟩:=I.gL u z h
       rw [h1];rfl
      |c k o=>rfl
    · simp only at h
      obtain ⟨sz',n',cs',hx⟩:=hx
      have FE:x≠t:=by
       intro e;subst e
       rcases h with h|⟨off,h⟩<;>
       · rw [cg (dP x) (fun _ av=>if bC x av then .dead else av) (fun _=>rfl)] at h
         cases hq:look (bL st.sl x) u with
         |none=>simp [hq] at h
         |some y=>simp only [hq,Option.map_some,Option.some.injEq] at h;split at h<;>simp_all [bC]
      refine ⟨sz',n',cs', ?_⟩
      simp only
      rw [cg (dP t) (fun _ av=>if bC t av then .dead else av) (fun _=>rfl),hlk,if_neg FE,hx];rfl
   obtain ⟨o',cap,vs,h1,h2,h3,h4,h5,h6,h7⟩:=dY
   have hown:=I.own (.sx t) (.inl ⟨sz,n,cs,heq⟩)
   have hm:dD base w Pr bk { st with sl:=(bL st.sl t).map (dP t)} a { v:= .ex sz n cs} v:=by
    refine ⟨fun h=>absurd rfl (h sz n cs),fun sz' n' cs' h=> ?_,fun z h=>by simp at h,fun q h=>by simp at h⟩
    cases h
    refine ⟨rfl,_,o',cap,vs,h1,h2,h3,h4,h5,h6,h7,hown.1,hown.2,fun x hx e=> ?_⟩
    have Fv:live st x∧x≠ .sx t:=by
     cases x with
     |bx k=>exact ⟨hx,by simp⟩
     |cx k o=>exact ⟨hx,by simp⟩
     |sx u=>
      have Ab:u≠t:=by
       intro e2;subst e2
       rcases hx with ⟨_,_,_,hx⟩|⟨z,hx⟩
       · simp only at hx
         rw [cg (dP u) (fun _ av=>if bC u av then .dead else av) (fun _=>rfl),hlk,if_pos rfl] at hx;simp at hx
       · simp only at hx;rw [zV] at hx;simp at hx
      refine ⟨?_,by simpa using Ab⟩
      rcases hx with ⟨sz',n',cs',hx⟩|hx
      · simp only at hx
        rw [cg (dP t) (fun _ av=>if bC t av then .dead else av) (fun _=>rfl),hlk,if_neg Ab] at hx
        cases hq:look st.sl u with
        |none=>simp [hq] at hx
        |some y=>simp only [hq,Option.map_some,Option.some.injEq] at hx;split at hx<;>simp_all [live,ek]
      · exact .inr hx
    exact Fv.2 (I.inj x (.sx t) Fv.1 (.inl ⟨sz,n,cs,heq⟩) e)
   intro K Q hK
   obtain ⟨aS,hI,hbk⟩:=I2.je (hN d hd) hm
   refine nT he ?_
   rw [hd,hx]
   exact hK _ _ _ _ hI (Below.refl _ _) (Kp.refl _ _) (fun _ _ _ h=>h) (KO.refl _) (fun k _=>hbk k) rfl
 · rename_i t p heq
   simp only [Option.map_eq_some_iff] at h
   obtain ⟨d,hd,h⟩:=h
   obtain ⟨v,cy,dY⟩:=I.slots t _ heq
   have hx:a.eval (.tmp t)=v:=iN cy
   split at h
   · rename_i z hz
     split at h
     · subst h;rw [gj]
       exact gY I hd (hN d hd) he (bD (ei I heq))
     · rename_i Jh
       subst h
       have I2:=I.release (.s t)
       obtain ⟨o',n,cap,cs,h1,h2,h3,h0⟩:=I.gL t z hz
       have hp:p= .sl z n cs:=by
        have e:look st.sl t=some (.pv p):=heq
        rw [h1] at e;simpa using e.symm
       subst hp
       have hval:v= .slice (some ⟨bk (.sx t),o',none⟩) n cap:=by rw [cy] at h2;exact Option.some.inj h2
       have hown:=I.own (.sx t) (.inr ⟨z,hz⟩)
       have hne:¬ek st t:=fun ⟨_,_,_,e⟩=>by rw [h1] at e;simp at e
       intro K Q hK
       have hm:dD base w Pr bk { st with gr:=st.gr.filter (fun x=>x.1≠ .s t),tg:=st.tg.map (fT (.s t))} a { v:= .pv (.sl z n cs),gr:=some z} v:=by
        refine ⟨fun _ _=>dY,fun _ _ _ h=>by simp at h,fun z' dx=> ?_,fun q h=>by simp at h⟩
        simp only [Option.some.injEq] at dx;subst dx
        refine ⟨bk (.sx t),o',n,cap,cs,rfl,hval,h3,h0,hown.1,hown.2,fun x hx e=> ?_⟩
        obtain ⟨hl,hk⟩:=kB hx (fun u hu=>by cases hu;exact hne)
        exact hk (I.inj x (.sx t) hl (.inr ⟨z,hz⟩) e)
       obtain ⟨aS,hI,hbk⟩:=I2.je (hN d hd) hm
       refine nT he ?_
       rw [hd,hx]
       exact hK _ _ _ _ hI (Below.refl _ _) (Kp.refl _ _) (fun _ _ _ h=>h) (KO.refl _) (fun k _=>hbk k) rfl
   · subst h;rw [gj]
     exact gY I hd (hN d hd) he (bD (ei I heq))
 · rename_i p hx heq
   simp only [Option.map_eq_some_iff] at h
   obtain ⟨d,hd,rfl⟩:=h
   rw [gj]
   exact gY I hd (hN d hd) he (bD (ei I heq))
 · rename_i f caps heq
   simp only [Option.map_eq_some_iff] at h
   obtain ⟨d,hd,rfl⟩:=h
   rw [gj]
   obtain ⟨t,hv⟩:=fk I heq
   exact gY I hd (hN d hd) he (cJ (by simp) hv)
 · rename_i k off heq
   simp only [Option.map_eq_some_iff] at h
   obtain ⟨d,hd,rfl⟩:=h
   rw [gj]
   obtain ⟨t,hv⟩:=fk I heq
   exact gY I hd (hN d hd) he (cJ (by simp) hv)
 · rename_i k off sz n heq
   simp only [Option.map_eq_some_iff] at h
   obtain ⟨d,hd,rfl⟩:=h
   rw [gj]
   obtain ⟨t,hv⟩:=fk I heq
   exact gY I hd (hN d hd) he (cJ (by simp) hv)
 · rename_i f k off sz n heq
   simp only [Option.map_eq_some_iff] at h
   obtain ⟨d,hd,rfl⟩:=h
   rw [gj]
   obtain ⟨t,hv⟩:=fk I heq
   exact gY I hd (hN d hd) he (cJ (by simp) hv)
 · simp at h
end
end Go.Proofs.YtibbgjafjhcemaaDoor.Cul
namespace Go.Proofs.YtibbgjafjhcemaaDoor.Cul
open Go Go.RowKit
section
variable {P:Program} {base:Nat} {w:World} {Pr:aD} {bk:Key→Nat} {st:St} {a:Act} {N:Nat}
theorem Aj {α:Type}:∀{l:List (Nat×α)} {t:Nat} {v:α},look l t=some v→(t,v)∈l
 |[],t,v,h=>by simp [look] at h
 |(k,u)::l,t,v,h=>by
  simp only [look] at h
  split at h
  · rename_i e;simp at h;subst h;subst e;simp
  · exact List.mem_cons_of_mem _ (Aj h)
theorem fJ (gr:List (Pl×Nat)) (d:Nat) (q:Pl):aQ (gr.filter (fun x=>x.1.eZ d)) q=if q.eZ d then aQ gr q else none:=er (Pl.eZ d) gr q
theorem Inv.dB (I:Inv base w Pr bk st a N) {d b:Nat} {cs:List PV} {vs:List Value} {c:Array Value} {T:TypeId} {st':St} {uJ:AV} {v0:Value} (hd:d<N) (hb:w.heap[b]? =some (.cells c T (0,0))) (hpre:vs<+:c.toList) (eJ:base≤b) (cF:∀x,live st x→bk x≠b) (oQ:∀o,¬Pr b o)
  (hr:aT w Pr cs vs) (h1:One vs) (u6:bC d uJ=false) (Se:∀sz n cs,uJ≠ .ex sz n cs) (oV:∀(kT:St) (a2:Act) (gH:Key→Nat) (t:Nat),look kT.bx d=some cs→gH (.bx d)=b→dQ kT a2 w Pr gH t uJ v0)
  (h:st.dB d cs uJ=some st'):∃aS,Inv base w Pr aS st' (a.put (some d) v0) N∧(∀x,live st' x→(x= .bx d∧aS x=b)∨(live st x∧aS x=bk x))∧∀k,k≠d→aS (.bx k)=bk (.bx k):=by
 have hN:d<a.tmps.size:=by rw [I.size];exact hd
 have p9:b<w.heap.size:=(Array.getElem?_eq_some_iff.1 hb).1
 simp only [St.dB] at h
 split at h
 · rename_i hall
   simp only [Option.some.injEq] at h
   obtain ⟨aS,fH,hk2⟩:∃aS:Key→Nat,(∀x,x≠ .bx d→aS x=bk x)∧aS (.bx d)=b:=⟨fun x=>if x= .bx d then b else bk x,fun x hx=>if_neg hx,if_pos rfl⟩
   have nk:∀t av,look st'.sl t=some av→(t=d∧av=uJ)∨(t≠d∧(av= .dead∧(∃Lm,look st.sl t=some Lm)∨(bC d av=false∧look st.sl t=some av))∧eV d av=true):=by
    intro t av ht
    rw [←h] at ht;simp only at ht
    by_cases e:t=d
    · rw [jK,if_pos e] at ht;simp [u6] at ht;exact .inl ⟨e,ht.symm⟩
    · refine .inr ⟨e, ?_, ?_⟩
      · rw [jK,if_neg e] at ht
        cases hq:look st.sl t with
        |none=>simp [hq] at ht
        |some x=>
         simp only [hq,Option.map_some,Option.some.injEq] at ht
         split at ht
         · exact .inl ⟨ht.symm,x,rfl⟩
         · rename_i hx;subst ht;exact .inr ⟨by simpa using hx,rfl⟩
      · have:look (bL (st.put (some d) uJ).sl d) t=some av:=by rw [bI,if_neg e];exact ht
        exact List.all_eq_true.1 hall _ (Aj this)
   have dF:∀k cs',look st'.bx k=some cs'→(k=d∧cs'=cs)∨(k≠d∧look st.bx k=some cs'):=by
    intro k cs' hk
    rw [←h] at hk;simp only [look] at hk
    split at hk
    · rename_i e;simp at hk;exact .inl ⟨e.symm,hk.symm⟩
    · rename_i e;rw [bI,if_neg (Ne.symm e)] at hk;exact .inr ⟨Ne.symm e,hk⟩
   have eT:∀p z,aQ st'.gr p=some z→p≠ .s d∧p.eZ d=true∧aQ st.gr p=some z:=by
    intro p z hp
    rw [←h] at hp;simp only at hp
    rw [fJ,xU] at hp
    split at hp
    · rename_i hnb
      split at hp
      · simp at hp
      · exact ⟨‹_›,hnb,hp⟩
    · simp at hp
   have hbk:∀k,k≠d→aS (.bx k)=bk (.bx k):=fun k hk=>fH _ (by simpa using hk)
   have qQ:∀t,aS (.sx t)=bk (.sx t):=fun t=>fH _ (by simp)
   have B0:∀k o,aS (.cx k o)=bk (.cx k o):=fun k o=>fH _ (by simp)
   have hex:∀x,x≠d→ek st x→ek st' x:=by
    rintro x hx ⟨sz,n,c,hl⟩
    refine ⟨sz,n,c, ?_⟩
    rw [←h];simp only;rw [jK,if_neg hx,hl];rfl
   have bY:∀x,live st' x→(x≠ .bx d∧live st x)∨x= .bx d:=by
    intro x hx
    cases x with
    |bx k=>
     obtain ⟨cs',hk⟩:=hx
     rcases dF k cs' hk with ⟨rfl,_⟩|⟨hne,hk⟩
     · exact .inr rfl
     · exact .inl ⟨by simpa using hne,cs',hk⟩
    |sx t=>
     refine .inl ⟨by simp, ?_⟩
     rcases hx with ⟨sz,n,c,hl⟩|⟨z,hz⟩
     · rcases nk t _ hl with ⟨_,e⟩|⟨_,⟨e,_⟩|⟨_,e⟩,_⟩
       · exact absurd e.symm (Se _ _ _)
       · simp at e
       · exact .inl ⟨sz,n,c,e⟩
     · exact .inr ⟨z,(eT _ z hz).2.2⟩
    |cx k o=>obtain ⟨z,hz⟩:=hx;exact .inl ⟨by simp,z,(eT _ z hz).2.2⟩
   refine ⟨aS, ?_,fun x hx=>(bY x hx).elim (fun h=> .inr ⟨h.2,fH x h.1⟩) (fun h=> .inl ⟨h,h ▸hk2⟩),hbk⟩
   constructor
   · simp [Act.put,I.size]
   · exact I.defers
   · exact I.hb
   · exact I.bP
   · intro t av ht
     rcases nk t av ht with ⟨rfl,rfl⟩|⟨hne,u6,hnp⟩
     · exact ⟨_,by rw [cA hN,if_pos rfl],oV _ _ _ _ (by rw [←h];simp [look]) hk2⟩
     · rcases u6 with ⟨rfl,Lm,RT⟩|⟨DD,u6⟩
       · obtain ⟨v,hv,_⟩:=I.slots t Lm RT
         exact ⟨v,by rw [cA hN,if_neg hne];exact hv,trivial⟩
       · obtain ⟨v,hv,cU⟩:=I.slots t av u6
         refine ⟨v,by rw [cA hN,if_neg hne];exact hv, ?_⟩
         cases av with
         |pv p=>exact cU
         |bp k off=>simp only [dQ] at cU ⊢;rw [hbk k (by simpa [eV] using hnp)];exact cU
         |cl f caps=>
          obtain ⟨us,e1,e2,e3⟩:=cU
          refine ⟨us,e1,e2,fun i c x hc hx=> ?_⟩
          have e4:=e3 i c x hc hx
          cases c with
          |pv p=>exact e4
          |bp k off=>
           have:k≠d:=by
            have:=List.all_eq_true.1 hnp (.bp k off) (List.mem_of_getElem? hc)
            simpa [zk] using this
           simp only [gB] at e4 ⊢;rw [hbk k this];exact e4
         |ex sz n c=>simp only [dQ] at cU ⊢;rw [qQ];exact cU
         |xr u=>
          have hu:u≠d:=by intro e;simp [bC,e] at DD
          exact ⟨by rw [cA hN,if_neg hu];exact cU.1,hex u hu cU.2⟩
         |xe u off=>
          have hu:u≠d:=by intro e;simp [bC,e] at DD
          obtain ⟨⟨b',o',n',cap',e1,e2⟩,e3⟩:=cU
          exact ⟨⟨b',o',n',cap',by rw [cA hN,if_neg hu];exact e1,e2⟩,hex u hu e3⟩
         |cr _ _=>exact cU
         |dead=>trivial
         |bs k off sz n=>
          have hk:k≠d:=by simpa [eV] using hnp
          exact cU.frame (hbk k hk) fun cs' e=>⟨cs',by rw [←h];simp only [look];rw [if_neg (Ne.symm hk),bI,if_neg hk];exact e,rfl⟩
         |mv f k off sz n=>
          have hk:k≠d:=by simpa [eV] using hnp
          obtain ⟨u,e1,e2⟩:=cU
          exact ⟨u,e1,e2.frame (hbk k hk) fun cs' e=>⟨cs',by rw [←h];simp only [look];rw [if_neg (Ne.symm hk),bI,if_neg hk];exact e,rfl⟩⟩
         |tg k off sz n rest=>
          have hk:k≠d:=by simpa [eV] using hnp
          obtain ⟨u,us,e1,e2,e3⟩:=cU
          exact ⟨u,us,e1,e2.frame (hbk k hk) fun cs' e=>⟨cs',by rw [←h];simp only [look];rw [if_neg (Ne.symm hk),bI,if_neg hk];exact e,rfl⟩,e3⟩
   · intro x hx
     rcases bY x hx with ⟨hne,hx⟩|rfl
     · rw [fH x hne];exact I.own x hx
     · rw [hk2];exact ⟨eJ,p9⟩
   · intro x y hx hy e
     rcases bY x hx with ⟨hne,hx⟩|rfl
     · rcases bY y hy with ⟨HP,hy⟩|rfl
       · rw [fH x hne,fH y HP] at e;exact I.inj x y hx hy e
       · rw [fH x hne,hk2] at e;exact absurd e (cF x hx)
     · rcases bY y hy with ⟨HP,hy⟩|rfl
       · rw [hk2,fH y HP] at e;exact absurd e.symm (cF y hy)
       · rfl
   · intro k cs' hk
     rcases dF k cs' hk with ⟨rfl,rfl⟩|⟨hne,hk⟩
     · rw [hk2];exact ⟨⟨T,c,vs,hb,hpre,hr,h1⟩,oQ⟩
     · rw [hbk k hne];exact I.boxes k cs' hk
   · intro t z hz
     obtain ⟨hne,_,hz⟩:=eT _ z hz
     have hne:t≠d:=fun e=>hne (by rw [e])
     obtain ⟨o,n,cap,c,e1,e2,e3,e0⟩:=I.gL t z hz
     refine ⟨o,n,cap,c, ?_,by rw [cA hN,if_neg hne,qQ];exact e2,by rw [qQ];exact e3,e0⟩
     rw [←h];simp only;rw [jK,if_neg hne,e1];rfl
   · intro k i z hz
     obtain ⟨_,hnb,hz⟩:=eT _ z hz
     have hne:k≠d:=by simpa [Pl.eZ] using hnb
     obtain ⟨o,n,cap,c,dw,e1,e2,e3,e4,e0⟩:=I.iF k i z hz
     refine ⟨o,n,cap,c,dw, ?_,e2,by rw [hbk k hne,B0];exact e3,by rw [B0];exact e4,e0⟩
     rw [←h];simp only [look];rw [if_neg (Ne.symm hne),bI,if_neg hne];exact e1
   · intro t q ht hq
     rw [←h] at ht;simp only at ht
     rw [cg (mQ d) (fun _ x=>x.bind fun p=>if p.eZ d then some p else none) (fun _=>rfl),xV] at ht
     by_cases e:t=d
     · simp [e] at ht
     · rw [if_neg e] at ht
       cases hm:look st.tg t with
       |none=>simp [hm] at ht
       |some p=>
        simp only [hm,Option.map_some,Option.some.injEq,Option.bind_eq_some_iff] at ht
        obtain ⟨p',hp',ht⟩:=ht
        split at hp'
        · simp at hp'
        · rename_i hps
          subst hp'
          split at ht
          · rename_i hnb
            simp only [Option.some.injEq] at ht;subst ht
            obtain ⟨z,hz⟩:=hq
            obtain ⟨ve,_,hz⟩:=eT _ z hz
            rw [cA hN,if_neg e,←I.tags t _ hm ⟨z,hz⟩]
            cases p' with
            |s u=>simp only [cT];rw [cA hN,if_neg (fun e=>ve (by rw [e]))]
            |c k o=>simp only [cT];rw [hbk k (by simpa [Pl.eZ] using hnb)]
          · simp at ht
 · simp at h
theorem Inv.nE (I:Inv base w Pr bk st a N) {d b:Nat} {cs:List PV} {vs:List Value} {T:TypeId} {st':St} (hd:d<N) (hb:w.heap[b]? =some (.cells vs.toArray T (0,0))) (eJ:base≤b) (cF:∀x,live st x→bk x≠b) (oQ:∀o,¬Pr b o)
  (hr:aT w Pr cs vs) (h1:One vs) (h:st.nE d cs=some st'):∃aS,Inv base w Pr aS st' (a.put (some d) (.pointer (some ⟨b,0,none⟩))) N∧(∀x,live st' x→(x= .bx d∧aS x=b)∨(live st x∧aS x=bk x))∧∀k,k≠d→aS (.bx k)=bk (.bx k):=
 I.dB hd hb (by simp) eJ cF oQ hr h1 rfl (by simp) (fun kT a2 gH t _ e=>by simp only [dQ];rw [e]) h
theorem rE (I:Inv base w Pr bk st a N) (ob:Obj):Fw w Pr (w.alloc ob) Pr:=
 ⟨(Below.refl _ _).alloc (Nat.le_refl _) _,fun _ _ h=>h,fun _ _ _ h=>h,fun b o h=>by have:=I.bP b o h;simp;omega⟩
theorem qp (T:TypeId) (v:Value) (w:World):(newVar T v).run P w= .ok ⟨w.heap.size,0,none⟩ (w.alloc (.cells v.cells T)):=rfl
theorem uQ (I:Inv base w Pr bk st a N) {o:Oper} {d:Nat} {T:TypeId} {v:Value} {p:PV} {st':St} (kj:o.dst=some d) (hd:d<N) (hv:Rp w Pr p v) (ht:gE p=false)
  (he:(execOp a.eval o).run P w= .ok (.value (.pointer (some ⟨w.heap.size,0,none⟩))) (w.alloc (.cells v.cells T))) (h:st.nE d p.cells=some st'):jM P base w Pr bk st a N o st':=by
 intro K Q hK
 have hf:=rE I (.cells v.cells T)
 obtain ⟨fS,gN⟩:=hv.iM (iS ht)
 obtain ⟨aS,hI,_,hbk⟩:=(I.fw hf).nE (b:=w.heap.size) (vs:=v.cells.toList) (T:=T) hd (by rw [heap_alloc]) I.hb (fun x hx e=>by have:=(I.own x hx).2;omega) (fun o h=>by have:=I.bP _ _ h;omega)
  (aT.mono (hf.kp I.bP) fS) gN h
 unfold Oper.wp
 rw [he]
 show K (a.put o.dst _) _
 rw [kj]
 exact hK _ _ _ _ hI (hf.gX.mono I.hb) (hf.kp I.bP) (fun _ _ _ h=>h) hf.ko (fun k hk=>hbk k (fun e=>hk (by rw [kj,e]))) rfl
theorem EV (I:Inv base w Pr bk st a N) {o:Oper} {t:TypeId} {st':St} (ho:o.op= .alloc t) (hN:∀d,o.dst=some d→d<N) (h:effect P o st=some st'):jM P base w Pr bk st a N o st':=by
 simp only [effect,ho,Option.bind_eq_some_iff] at h
 obtain ⟨d,hd,z,hz,h⟩:=h
 obtain ⟨i,zv,hi,qU,qT⟩:=lD (w:=w) (Pr:=Pr) hz
 refine uQ (T:=t) I hd (hN d hd) qT (jd hz) ?_ h
 simp only [execOp,ho]
 refine cW ?_
 simp [Instr.alloc,zeroValue,typeInfo,hi,qU,qp]
theorem J6 (I:Inv base w Pr bk st a N) {o:Oper} {t:TypeId} {x:Operand} {st':St} (ho:o.op= .box t x) (hN:∀d,o.dst=some d→d<N) (h:effect P o st=some st'):jM P base w Pr bk st a N o st':=by
 simp only [effect,ho,Option.bind_eq_some_iff] at h
 obtain ⟨d,hd,p,hp,h⟩:=h
 split at h
 · rename_i hc
   refine uQ (T:=t) I hd (hN d hd) (iH I hp) (by simpa using hc.2) ?_ h
   simp only [execOp,ho]
   refine cW ?_
   simp [Instr.box,qp]
 · simp at h
end
end Go.Proofs.YtibbgjafjhcemaaDoor.Cul
namespace Go.Proofs.YtibbgjafjhcemaaDoor.Cul
open Go Go.RowKit
section
variable {P:Program} {base:Nat} {w:World} {Pr:aD} {bk:Key→Nat} {st:St} {a:Act} {N:Nat}
structure Wr (w w':World) (g:Nat):Prop where
 os:w'.os=w.os
 tape:w'.tape=w.tape
 output:w'.output=w.output
 size:w'.heap.size=w.heap.size
 other:∀k,k≠g→w'.heap[k]? =w.heap[k]?
 row:∃c T fz,w.heap[g]? =some (.cells c T fz)
 sized:∀c T fz,w.heap[g]? =some (.cells c T fz)→∃c',w'.heap[g]? =some (.cells c' T fz)∧c'.size=c.size
theorem mo (w:World) (g:Nat) (cs:Array Value) {c:Array Value} {T:TypeId} {fz:Nat×Nat} (h:w.heap[g]? =some (.cells c T fz)) (hs:cs.size=c.size):Wr w (w.setRow g cs) g:=⟨rfl,rfl,rfl,by simp,fun k hk=>setRow_other w g k cs hk,⟨_,_,_,h⟩,fun c2 T2 VE h2=>by
 rw [h] at h2;cases h2
 exact ⟨cs,setRow_heap w g _ _ _ _ h,hs⟩⟩
theorem Wr.ko {w w':World} {g:Nat} (W:Wr w w' g):KO w w':=
 ⟨⟨Nat.le_of_eq W.size.symm,fun k o h ho=>by
   have:k≠g:=fun e=>by subst e;obtain ⟨c,T,fz,h2⟩:=W.row;rw [h] at h2;cases h2;simp [Obj.isCells] at ho
   exact (W.other k this).trans h⟩,fun k c T fz h=>by
   by_cases e:k=g
   · subst e;exact W.sized c T fz h
   · exact ⟨c,(W.other k e).trans h,rfl⟩⟩
theorem Mark.ko {base:Nat} {w w':World} {d:Deferred} (h:Mark base w d) (k:KO w w'):Mark base w' d:=by
 obtain ⟨D,h1,h2,h3⟩:=h
 exact ⟨D,h1,k.same D _ h2 rfl,h3⟩
theorem Wr.below {w w':World} {g B:Nat} (h:Wr w w' g) (hg:B≤g):Below B w w':=⟨h.os,h.tape,h.output,by rw [h.size];exact Nat.le_refl _,fun k hk=>h.other k (by omega)⟩
theorem dQ.wr {w':World} {g t:Nat} {av:AV} {v:Value} (W:Wr w w' g) (k:Kp w Pr w' Pr) (hex:∀sz n cs,av= .ex sz n cs→bk (.sx t)≠g) (h:dQ st a w Pr bk t av v):dQ st a w' Pr bk t av v:=by
 cases av with
 |pv p=>exact Rp.mono k h
 |bp k off=>exact h
 |cl f caps=>obtain ⟨vs,h1,h2,h3⟩:=h;exact ⟨vs,h1,h2,fun i c u hc hu=>gB.mono k (h3 i c u hc hu)⟩
 |ex sz n cs=>
  obtain ⟨o,cap,vs,h1,h2,h3,h4,h5,h6,h7⟩:=h
  have hne:=W.other _ (hex sz n cs rfl)
  exact ⟨o,cap,vs,h1,aT.mono k h2,h3,h4,iW hne h5,⟨h6.hz,h6.le,by obtain ⟨c,T,e1,e2⟩:=h6.there;exact ⟨c,T,hne.trans e1,e2⟩,h6.pr⟩,h7⟩
 |xr u=>exact h
 |xe u off=>exact h
 |cr _ _=>exact h
 |dead=>exact h
 |bs j off sz n=>exact h.world fun c T e=>W.ko.sized _ c T _ e
 |mv f j off sz n=>obtain ⟨u,h1,h2⟩:=h;exact ⟨u,h1,h2.world fun c T e=>W.ko.sized _ c T _ e⟩
 |tg j off sz n rest=>obtain ⟨u,us,h1,h2,h3⟩:=h;exact ⟨u,us,h1,h2.world fun c T e=>W.ko.sized _ c T _ e,aT.mono k h3⟩
theorem Room.wr {w':World} {g b o n cap sz:Nat} (W:Wr w w' g) (hne:b≠g) (h:Room w Pr b o n cap sz):Room w' Pr b o n cap sz:=
 ⟨h.hz,h.le,by obtain ⟨c,T,e1,e2⟩:=h.there;exact ⟨c,T,(W.other _ hne).trans e1,e2⟩,h.pr⟩
theorem rQ (gr:List (Pl×Nat)) (k off n:Nat) (q:Pl):aQ (gr.filter (fun x=>x.1.out k off n)) q=if q.out k off n then aQ gr q else none:=er (Pl.out k off n) gr q
theorem jh {α:Type} (cs:List α) (off:Nat) (new:List α) (h:off+new.length≤cs.length) (i:Nat) (hi:i<off∨off+new.length≤i):(cs.take off++new++cs.drop (off+new.length))[i]? =cs[i]? :=by
 rcases hi with hi|hi
 · rw [List.append_assoc,List.getElem?_append_left (by simp;omega),List.getElem?_take_of_lt hi]
 · rw [List.getElem?_append_right (by simp;omega),List.getElem?_drop]
   congr 1
   simp;omega
theorem BD {us cl vs:List Value} {off:Nat} (h:us<+:cl) (hle:off+vs.length≤us.length):bq us off vs<+:bq cl off vs:=by
 obtain ⟨t,rfl⟩:=h
 refine ⟨t, ?_⟩
 unfold bq
 rw [List.take_append_of_le_length (by omega),List.drop_append_of_le_length hle]
 simp
theorem iZ {us vs:List Value} {off:Nat} (hle:off+vs.length≤us.length):(bq us off vs).length=us.length:=by
 unfold bq
 simp;omega
theorem Inv.iY (I:Inv base w Pr bk st a N) {k off:Nat} {new:List PV} {vs:List Value} {st':St} (h:st.iY k off new=some st') (hr:aT w Pr new vs) (h1:One vs):
  ∃cur T,w.heap[bk (.bx k)]? =some (.cells cur T (0,0))∧off+vs.length≤cur.size∧base≤bk (.bx k)∧Kp w Pr (w.setRow (bk (.bx k)) (bq cur.toList off vs).toArray) Pr∧
   Inv base (w.setRow (bk (.bx k)) (bq cur.toList off vs).toArray) Pr bk st' a N:=by
 simp only [St.iY,Option.bind_eq_some_iff] at h
 obtain ⟨cs,hk,h⟩:=h
 split at h
 · rename_i hle
   simp only [Option.some.injEq] at h
   obtain ⟨⟨T,c0,us,lZ,QJ,gu,Aa⟩,MP⟩:=I.boxes k cs hk
   have hcl:us.length≤c0.size:=by have:=QJ.length_le;simpa using this
   have hlen:=hr.length
   have mI:=gu.length
   have hown:=I.own (.bx k) ⟨cs,hk⟩
   have hW:=mo w (bk (.bx k)) (bq c0.toList off vs).toArray lZ (by rw [List.size_toArray,iZ (by simp;omega)];simp)
   have hK:Kp w Pr (w.setRow (bk (.bx k)) (bq c0.toList off vs).toArray) Pr:=⟨fun _ _ h=>h,fun b o hp=>by
    have hne:b≠bk (.bx k):=fun e=>MP o (by rw [←e];exact hp)
    exact World.cell?_of_block (w:=w) (hW.other b hne)⟩
   have hh:(w.setRow (bk (.bx k)) (bq c0.toList off vs).toArray).heap[bk (.bx k)]? =some (.cells (bq c0.toList off vs).toArray T (0,0)):=setRow_heap w _ _ _ _ _ lZ
   have hne:∀x,live st x→x≠ .bx k→bk x≠bk (.bx k):=fun x hx oW e=>oW (I.inj x (.bx k) hx ⟨cs,hk⟩ e)
   refine ⟨c0,T,lZ,by omega,hown.1,hK, ?_⟩
   have nk:(splice cs off new).length=cs.length:=by unfold splice;simp;omega
   have dF:∀k' cs',look st'.bx k'=some cs'→(k'=k∧cs'=splice cs off new)∨(k'≠k∧look st.bx k'=some cs'):=by
    intro k' cs' hq
    rw [←h] at hq;simp only [look] at hq
    split at hq
    · rename_i e;simp at hq;exact .inl ⟨e.symm,hq.symm⟩
    · rename_i e;rw [bI,if_neg (Ne.symm e)] at hq;exact .inr ⟨Ne.symm e,hq⟩
   have eT:∀p z,aQ st'.gr p=some z→p.out k off new.length=true∧aQ st.gr p=some z:=by
    intro p z hp
    rw [←h] at hp;simp only at hp
    rw [rQ] at hp
    split at hp
    · exact ⟨‹_›,hp⟩
    · simp at hp
   have bY:∀x,live st' x→live st x:=by
    intro x hx
    cases x with
    |bx k'=>
     obtain ⟨cs',hq⟩:=hx
     rcases dF k' cs' hq with ⟨rfl,_⟩|⟨_,hq⟩
     · exact ⟨cs,hk⟩
     · exact ⟨cs',hq⟩
    |sx t=>
     rcases hx with hx|⟨z,hz⟩
     · rw [←h] at hx;exact .inl hx
     · exact .inr ⟨z,(eT _ z hz).2⟩
    |cx k' o=>obtain ⟨z,hz⟩:=hx;exact ⟨z,(eT _ z hz).2⟩
   constructor
   · exact I.size
   · exact ⟨fun d hd=>(I.defers.1 d hd).ko hW.ko,I.defers.2⟩
   · simpa using I.hb
   · simpa using I.bP
   · intro t av ht
     have ht':look st.sl t=some av:=by rw [←h] at ht;exact ht
     obtain ⟨v,hv,cU⟩:=I.slots t av ht'
     refine ⟨v,hv, ?_⟩
     have:=dQ.wr hW hK (fun sz n c e=>hne (.sx t) (.inl ⟨sz,n,c,by rw [←e];exact ht'⟩) (by simp)) cU
     have zQ:∀j aK,look st.bx j=some aK→∃qL,look st'.bx j=some qL∧qL.length=aK.length:=fun j aK e=>by
      rw [←h];simp only [look]
      by_cases hj:k=j
      · subst hj;rw [if_pos rfl];rw [hk] at e;cases e;exact ⟨_,rfl,nk⟩
      · rw [if_neg hj,bI,if_neg (Ne.symm hj)];exact ⟨aK,e,rfl⟩
     cases av with
     |xr u=>rw [←h];exact this
     |xe u off=>rw [←h];exact this
     |bs j o' sz n=>exact this.frame rfl (zQ j)
     |mv f j o' sz n=>obtain ⟨u,h1,h2⟩:=this;exact ⟨u,h1,h2.frame rfl (zQ j)⟩
     |tg j o' sz n rest=>obtain ⟨u,us,h1,h2,h3⟩:=this;exact ⟨u,us,h1,h2.frame rfl (zQ j),h3⟩
     |_=>exact this
   · exact fun x hx=>by simpa using I.own x (bY x hx)
   · exact fun x y hx hy=>I.inj x y (bY x hx) (bY y hy)
   · intro k' cs' hq
     rcases dF k' cs' hq with ⟨rfl,rfl⟩|⟨hkk,hq⟩
     · refine ⟨⟨T,_,bq us off vs,hh,by simpa using BD QJ (by omega),aT.mono hK ?_, ?_⟩,MP⟩
       · unfold splice bq;rw [hlen];exact ((gu.take off).app hr).app (gu.drop _)
       · intro u hu
         unfold bq at hu
         simp only [List.mem_append] at hu
         rcases hu with (hu|hu)|hu
         · exact Aa u (List.mem_of_mem_take hu)
         · exact h1 u hu
         · exact Aa u (List.mem_of_mem_drop hu)
     · obtain ⟨⟨T',c',us',e1,e0,e2,e3⟩,e4⟩:=I.boxes k' cs' hq
       exact ⟨⟨T',c',us',(hW.other _ (hne (.bx k') ⟨cs',hq⟩ (by simpa using hkk))).trans e1,e0,aT.mono hK e2,e3⟩,e4⟩
   · intro t z hz
     obtain ⟨_,hz⟩:=eT _ z hz
     obtain ⟨o,n,cap,c,e1,e2,e3,e0⟩:=I.gL t z hz
     exact ⟨o,n,cap,c,by rw [←h];exact e1,e2,e3.wr hW (hne (.sx t) (.inr ⟨z,hz⟩) (by simp)),e0⟩
   · intro k' i z hz
     obtain ⟨hout,hz⟩:=eT _ z hz
     obtain ⟨o,n,cap,c,dw,e1,e2,e3,e4,e0⟩:=I.iF k' i z hz
     have Qm:=e4.wr hW (hne (.cx k' i) ⟨z,hz⟩ (by simp))
     by_cases hkk:k'=k
     · subst hkk
       rw [hk] at e1;cases e1
       have hi:i<off∨off+new.length≤i:=by
        simp [Pl.out] at hout;omega
       refine ⟨o,n,cap,c,splice cs off new,by rw [←h];simp [look],by rw [←e2];exact jh cs off new hle i hi, ?_,Qm,e0⟩
       rw [←e3,cell_of_row _ _ _ _ _ _ hh,cell_of_row _ _ _ _ _ _ lZ]
       simp only [List.getElem?_toArray]
       exact (jh c0.toList off vs (by simp;omega) i (by omega)).trans (Array.getElem?_toList ..)
     · refine ⟨o,n,cap,c,dw,by rw [←h];simp only [look];rw [if_neg (Ne.symm hkk),bI,if_neg hkk];exact e1,e2, ?_,Qm,e0⟩
       rw [←e3];exact World.cell?_of_block (w:=w) (hW.other _ (hne (.bx k') ⟨dw,e1⟩ (by simpa using hkk)))
   · intro t q ht hq
     rw [←h] at ht;simp only at ht
     rw [cg (mR k off new.length) (fun _ x=>x.bind fun p=>if p.out k off new.length then some p else none) (fun _=>rfl)] at ht
     cases hm:look st.tg t with
     |none=>simp [hm] at ht
     |some p=>
      simp only [hm,Option.map_some,Option.some.injEq,Option.bind_eq_some_iff] at ht
      obtain ⟨p',rfl,ht⟩:=ht
      split at ht
      · rename_i hout
        simp only [Option.some.injEq] at ht;subst ht
        obtain ⟨z,hz⟩:=hq
        obtain ⟨_,hz⟩:=eT _ z hz
        rw [←I.tags t _ hm ⟨z,hz⟩]
        cases p' with
        |s u=>rfl
        |c k' i=>
         simp only [cT]
         obtain ⟨o,n,cap,c,dw,e1,e2,e3,e4,e0⟩:=I.iF k' i z hz
         by_cases hkk:k'=k
         · subst hkk
           have hi:i<off∨off+new.length≤i:=by simp [Pl.out] at hout;omega
           rw [cell_of_row _ _ _ _ _ _ hh,cell_of_row _ _ _ _ _ _ lZ]
           simp only [List.getElem?_toArray]
           exact (jh c0.toList off vs (by simp;omega) i (by omega)).trans (Array.getElem?_toList ..)
         · exact World.cell?_of_block (w:=w) (hW.other _ (hne (.bx k') ⟨dw,e1⟩ (by simpa using hkk)))
      · simp at ht
 · simp at h
end
end Go.Proofs.YtibbgjafjhcemaaDoor.Cul
namespace Go.Proofs.YtibbgjafjhcemaaDoor.Cul
open Go Go.RowKit
section
variable {P:Program} {base:Nat} {w:World} {Pr:aD} {bk:Key→Nat} {st:St} {a:Act} {N:Nat}
theorem mD (w:World) (g o:Nat) (t:TypeId) (ty:TypeId) (cur:Array Value) (v:Value) (hg:w.heap[g]? =some (.cells cur t (0,0))) (hle:o+v.cells.toList.length≤cur.size)
  (hi:bV P ty=some v.cells.toList.length) (h1:One v.cells.toList):(storeVar ty ⟨g,o,none⟩ v).run P w= .ok () (w.setRow g (bq cur.toList o v.cells.toList).toArray):=by
 have h:=run_storeCells_at (P:=P) g o t v.cells.toList 0 cur w hg (by omega) h1
 simp only [storeVar,Sem.run_bind,fX hi,Result.andThen_ok]
 rw [if_neg (by rw [Array.length_toList];simp)]
 simpa [bq] using h
theorem Inv.LU (I:Inv base w Pr bk st a N) {u k off z:Nat} (hz:aQ st.gr (.s u)=some z) {dw:List PV} (hb:look st.bx k=some dw) {n:Nat} {cs:List PV} (hp:dw[off]? =some (.sl z n cs))
  (hv:w.cell? ⟨bk (.bx k),off,none⟩=a.tmps[u]?) (hu:look st.sl u=some (.pv (.sl z n cs)))
  (MN:∀t,look st.tg t≠some (some (.c k off))):
  ∃aS,Inv base w Pr aS { st with gr:=(.c k off,z)::st.gr.filter (fun x=>x.1≠ .s u),tg:=st.tg.map (fT (.s u))} a N∧∀j,aS (.bx j)=bk (.bx j):=by
 obtain ⟨o,n',cap,cs',e1,e2,e3,e0⟩:=I.gL u z hz
 rw [hu] at e1;cases e1
 have hne:∀t,Pl.s u= .s t→¬ek st t:=fun t e ⟨sz,m,c,h⟩=>by cases e;rw [hu] at h;simp at h
 have I2:=I.release (.s u)
 have vb:∀x,live { st with gr:=(.c k off,z)::st.gr.filter (fun x=>x.1≠ .s u),tg:=st.tg.map (fT (.s u))} x→x= .cx k off∨(x≠ .cx k off∧live st x∧x≠ .sx u):=by
  intro x hx
  by_cases oW:x= .cx k off
  · exact .inl oW
  · have:live { st with gr:=st.gr.filter (fun x=>x.1≠ .s u),tg:=st.tg.map (fT (.s u))} x:=by
      cases x with
      |bx k'=>exact hx
      |sx t=>
       rcases hx with hx|⟨z',hx⟩
       · exact .inl hx
       · simp only [aQ] at hx;rw [if_neg (by simp)] at hx;exact .inr ⟨z',hx⟩
      |cx k' o'=>
       obtain ⟨z',hx⟩:=hx
       simp only [aQ] at hx
       rw [if_neg (fun e=>oW (by cases e;rfl))] at hx;exact ⟨z',hx⟩
    obtain ⟨h1,h2⟩:=kB this hne
    exact .inr ⟨oW,h1,h2⟩
 obtain ⟨aS,fH,hk2⟩:∃aS:Key→Nat,(∀x,x≠ .cx k off→aS x=bk x)∧aS (.cx k off)=bk (.sx u):=⟨fun x=>if x= .cx k off then bk (.sx u) else bk x,fun x hx=>if_neg hx,if_pos rfl⟩
 have dF:∀k,aS (.bx k)=bk (.bx k):=fun k=>fH _ (by simp)
 have qQ:∀t,aS (.sx t)=bk (.sx t):=fun t=>fH _ (by simp)
 have Ft:live st (.sx u):= .inr ⟨z,hz⟩
 refine ⟨aS, ?_,dF⟩
 constructor
 · exact I.size
 · exact I.defers
 · exact I.hb
 · exact I.bP
 · intro t av ht
   obtain ⟨v,h1,h2⟩:=I2.slots t av ht
   refine ⟨v,h1, ?_⟩
   cases av with
   |pv p=>exact h2
   |bp k off=>simp only [dQ] at h2 ⊢;rw [dF];exact h2
   |cl f caps=>
    obtain ⟨us,e1,e2,e3⟩:=h2
    refine ⟨us,e1,e2,fun i c x hc hx=> ?_⟩
    have e4:=e3 i c x hc hx
    cases c with
    |pv p=>exact e4
    |bp k off=>simp only [gB] at e4 ⊢;rw [dF];exact e4
   |ex sz n c=>simp only [dQ] at h2 ⊢;rw [qQ];exact h2
   |xr u=>exact h2
   |xe u off=>exact h2
   |cr _ _=>exact h2
   |dead=>trivial
   |bs j o' sz n=>exact h2.frame (dF j) fun cs e=>⟨cs,e,rfl⟩
   |mv f j o' sz n=>obtain ⟨u,e1,e2⟩:=h2;exact ⟨u,e1,e2.frame (dF j) fun cs e=>⟨cs,e,rfl⟩⟩
   |tg j o' sz n rest=>obtain ⟨u,us,e1,e2,e3⟩:=h2;exact ⟨u,us,e1,e2.frame (dF j) fun cs e=>⟨cs,e,rfl⟩,e3⟩
 · intro x hx
   rcases vb x hx with rfl|⟨h0,h1,_⟩
   · rw [hk2];exact I.own _ Ft
   · rw [fH x h0];exact I.own x h1
 · intro x y hx hy e
   rcases vb x hx with rfl|⟨h0,h1,h2⟩
   · rcases vb y hy with rfl|⟨h0',zJ,E8⟩
     · rfl
     · rw [hk2,fH y h0'] at e;exact absurd (I.inj _ _ Ft zJ e).symm E8
   · rcases vb y hy with rfl|⟨h0',zJ,E8⟩
     · rw [hk2,fH x h0] at e;exact absurd (I.inj _ _ h1 Ft e) h2
     · rw [fH x h0,fH y h0'] at e;exact I.inj x y h1 zJ e
 · intro k' cs' hk
   rw [dF];exact I.boxes k' cs' hk
 · intro t z' dx
   simp only [aQ] at dx
   rw [if_neg (by simp)] at dx
   obtain ⟨o',Nr,cap',c,h1,h2,h3,h0⟩:=I2.gL t z' dx
   exact ⟨o',Nr,cap',c,h1,by rw [qQ];exact h2,by rw [qQ];exact h3,h0⟩
 · intro k' i z' dx
   simp only [aQ] at dx
   by_cases e:Pl.c k off=Pl.c k' i
   · cases e
     simp only [if_true,Option.some.injEq] at dx
     subst dx
     exact ⟨o,n,cap,cs,dw,hb,hp,by rw [dF,hk2,hv];exact e2,by rw [hk2];exact e3,e0⟩
   · rw [if_neg e] at dx
     obtain ⟨o',Nr,cap',c,RA,h1,h2,h3,h4,h0⟩:=I2.iF k' i z' dx
     have:aS (.cx k' i)=bk (.cx k' i):=fH _ (fun e2=>e (by cases e2;rfl))
     exact ⟨o',Nr,cap',c,RA,h1,h2,by rw [dF,this];exact h3,by rw [this];exact h4,h0⟩
 · intro t q ht hq
   simp only at ht
   rw [vr] at ht
   cases hm:look st.tg t with
   |none=>simp [hm] at ht
   |some p=>
    simp only [hm,Option.map_some,Option.some.injEq] at ht
    split at ht
    · simp at ht
    · rename_i hps
      subst ht
      obtain ⟨z',dx⟩:=hq
      simp only [aQ] at dx
      by_cases e:Pl.c k off=q
      · subst e
        exact absurd hm (MN t)
      · rw [if_neg e] at dx
        rw [qg] at dx
        split at dx
        · simp at dx
        · have:=I.tags t q hm ⟨z',dx⟩
          cases q with
          |s u=>exact this
          |c k o=>simp only [cT] at this ⊢;rw [dF];exact this
theorem Inv.Pn (I:Inv base w Pr bk st a N) {u off sz n:Nat} {cs new:List PV} {vs:List Value} (hu:look st.sl u=some (.ex sz n cs)) (hle:off+new.length≤cs.length) (hr:aT w Pr new vs) (h1:One vs)
  {b o:Nat} {n' cap':Nat} (hv:a.tmps[u]? =some (.slice (some ⟨b,o,none⟩) n' cap')):
  ∃cur T,w.heap[b]? =some (.cells cur T (0,0))∧o+off+vs.length≤cur.size∧base≤b∧Kp w Pr (w.setRow b (bq cur.toList (o+off) vs).toArray) Pr∧
   Inv base (w.setRow b (bq cur.toList (o+off) vs).toArray) Pr bk { st with sl:=(u, .ex sz n (splice cs off new))::bL st.sl u} a N:=by
 obtain ⟨v,cy,o2,cap,us,MQ,gu,Aa,MP,Xi,FC,QK⟩:=I.slots u _ hu
 rw [hv] at cy
 simp only [Option.some.injEq] at cy
 rw [←cy] at MQ
 simp only [Value.slice.injEq,Option.some.injEq,Addr.mk.injEq] at MQ
 obtain ⟨⟨rfl,rfl,_⟩,rfl,rfl⟩:=MQ
 obtain ⟨cur,T,fS,gN⟩:=FC.there
 have bY:live st (.sx u):= .inl ⟨sz,n',cs,hu⟩
 have hown:=I.own _ bY
 have hlen:=hr.length
 have mI:=gu.length
 have hcap:n'* sz≤cap'* sz:=Nat.mul_le_mul_right _ FC.le
 have hW:=mo w (bk (.sx u)) (bq cur.toList (o+off) vs).toArray fS (by rw [List.size_toArray,iZ (by simp;omega)];simp)
 have hK:Kp w Pr (w.setRow (bk (.sx u)) (bq cur.toList (o+off) vs).toArray) Pr:=⟨fun _ _ h=>h,fun b o' hp=>by
  have hne:b≠bk (.sx u):=fun e=>QK o' (by rw [←e];exact hp)
  exact World.cell?_of_block (w:=w) (hW.other b hne)⟩
 have hh:(w.setRow (bk (.sx u)) (bq cur.toList (o+off) vs).toArray).heap[bk (.sx u)]? =some (.cells (bq cur.toList (o+off) vs).toArray T (0,0)):=setRow_heap w _ _ _ _ _ fS
 have hsz:(bq cur.toList (o+off) vs).length=cur.size:=by unfold bq;simp;omega
 have hne:∀x,live st x→x≠ .sx u→bk x≠bk (.sx u):=fun x hx oW e=>oW (I.inj x (.sx u) hx bY e)
 have nk:∀t,look ((u,AV.ex sz n' (splice cs off new))::bL st.sl u) t=if t=u then some (.ex sz n' (splice cs off new)) else look st.sl t:=by
  intro t;simp only [look]
  by_cases e:u=t
  · simp [e]
  · rw [if_neg e,bI,if_neg (Ne.symm e),if_neg (Ne.symm e)]
 have hex:∀x,ek { st with sl:=(u,AV.ex sz n' (splice cs off new))::bL st.sl u} x↔ek st x:=by
  intro x;simp only [ek,nk]
  by_cases e:x=u
  · subst e;simp only [if_true];exact ⟨fun _=>⟨_,_,_,hu⟩,fun _=>⟨_,_,_,rfl⟩⟩
  · rw [if_neg e]
 have hlv:∀x,live { st with sl:=(u,AV.ex sz n' (splice cs off new))::bL st.sl u} x→live st x:=by
  intro x hx
  cases x with
  |sx t=>exact hx.imp (hex t).1 id
  |bx k=>exact hx
  |cx k o=>exact hx
 refine ⟨cur,T,fS,by omega,hown.1,hK, ?_⟩
 constructor
 · exact I.size
 · exact ⟨fun d hd=>(I.defers.1 d hd).ko hW.ko,I.defers.2⟩
 · simpa using I.hb
 · simpa using I.bP
 · intro t av ht
   rw [nk] at ht
   by_cases e:t=u
   · subst e
     rw [if_pos rfl] at ht
     simp only [Option.some.injEq] at ht;subst ht
     refine ⟨_,hv,o,cap',bq us off vs,rfl,aT.mono hK ?_, ?_, ?_, ?_,⟨FC.hz,FC.le,⟨_,_,hh,by simp [hsz];exact gN⟩,FC.pr⟩,QK⟩
     · unfold splice bq;rw [hlen];exact ((gu.take off).app hr).app (gu.drop _)
     · intro x hx
       unfold bq at hx
       simp only [List.mem_append] at hx
       rcases hx with (hx|hx)|hx
       · exact Aa x (List.mem_of_mem_take hx)
       · exact h1 x hx
       · exact Aa x (List.mem_of_mem_drop hx)
     · unfold splice;simp;omega
     · intro j x hx
       rw [cell_of_row _ _ _ _ _ _ hh]
       simp only [List.getElem?_toArray]
       by_cases hj:off≤j∧j<off+vs.length
       · unfold bq at hx ⊢
         rw [List.append_assoc,List.getElem?_append_right (by simp;omega),List.getElem?_append_left (by simp;omega)] at hx
         rw [List.append_assoc,List.getElem?_append_right (by simp;omega),List.getElem?_append_left (by simp;omega),←hx]
         congr 1
         simp only [List.length_take,Array.length_toList]
         omega
       · have WK:us[j]? =some x:=by rw [←hx];exact (jh us off vs (by omega) j (by omega)).symm
         have hc:=Xi j x WK
         rw [cell_of_row _ _ _ _ _ _ fS] at hc
         rw [←hc]
         have:=jh cur.toList (o+off) vs (by simp;omega) (o+j) (by omega)
         simpa [bq] using this
   · rw [if_neg e] at ht
     obtain ⟨v,Ac,cU⟩:=I.slots t av ht
     refine ⟨v,Ac, ?_⟩
     have:=dQ.wr hW hK (fun sz n c e2=>hne (.sx t) (.inl ⟨sz,n,c,by rw [←e2];exact ht⟩) (by simpa using e)) cU
     cases av with
     |xr x=>exact ⟨this.1,(hex x).2 this.2⟩
     |xe x off=>exact ⟨this.1,(hex x).2 this.2⟩
     |_=>exact this
 · exact fun x hx=>by simpa using I.own x (hlv x hx)
 · exact fun x y hx hy=>I.inj x y (hlv x hx) (hlv y hy)
 · intro k' cs' hq
   obtain ⟨⟨T',c',us',e1,e0,e2,e3⟩,e4⟩:=I.boxes k' cs' hq
   exact ⟨⟨T',c',us',(hW.other _ (hne (.bx k') ⟨cs',hq⟩ (by simp))).trans e1,e0,aT.mono hK e2,e3⟩,e4⟩
 · intro t z hz
   obtain ⟨o',n,cap,c,e1,e2,e3,e0⟩:=I.gL t z hz
   have htu:t≠u:=fun e=>by subst e;rw [hu] at e1;simp at e1
   exact ⟨o',n,cap,c,by rw [nk,if_neg htu];exact e1,e2,e3.wr hW (hne (.sx t) (.inr ⟨z,hz⟩) (by simpa using htu)),e0⟩
 · intro k' i z hz
   obtain ⟨o',n,cap,c,dw,e1,e2,e3,e4,e0⟩:=I.iF k' i z hz
   exact ⟨o',n,cap,c,dw,e1,e2,(World.cell?_of_block (w:=w) (hW.other _ (hne (.bx k') ⟨dw,e1⟩ (by simp)))).trans e3,e4.wr hW (hne (.cx k' i) ⟨z,hz⟩ (by simp)),e0⟩
 · intro t q ht hq
   rw [←I.tags t q ht hq]
   cases q with
   |s x=>rfl
   |c k' i=>
    obtain ⟨z,hz⟩:=hq
    obtain ⟨o',n,cap,c,dw,e1,e2,e3,e4,e0⟩:=I.iF k' i z hz
    exact World.cell?_of_block (w:=w) (hW.other _ (hne (.bx k') ⟨dw,e1⟩ (by simp)))
theorem EY (I:Inv base w Pr bk st a N) {o:Oper} {t:TypeId} {x y:Operand} {st':St} (ho:o.op= .store t x y) (h:effect P o st=some st'):jM P base w Pr bk st a N o st':=by
 simp only [effect,ho] at h
 split at h
 · rename_i kj
   have he:∀b o' w',a.eval x= .pointer (some ⟨b,o',none⟩)→(storeVar t ⟨b,o',none⟩ (a.eval y)).run P w= .ok () w'→(execOp a.eval o).run P w= .ok .skip w':=fun b o' w' hx hs=>by
    simp only [execOp,ho,hx,Sem.run_bind]
    simp [Instr.storeAt,Instr.sureAddr,hs]
   have hput:a.put o.dst undef=a:=by rw [kj];rfl
   split at h
   · rename_i k off heq
     have main:∀p cV,st.ev y=some (.pv p)→some p.cells.length=bV P t→gE p=false→st.iY k off p.cells=some cV→
       ∃w',(execOp a.eval o).run P w= .ok .skip w'∧base≤bk (.bx k)∧Wr w w' (bk (.bx k))∧Kp w Pr w' Pr∧Inv base w' Pr bk cV a N∧(∀v0,(a.eval y).cells.toList=[v0]→w'.cell? ⟨bk (.bx k),off,none⟩=some v0):=by
      intro p cV hy hsz So fI
      have hv:=ei I hy
      obtain ⟨fS,gN⟩:=hv.iM (iS So)
      have hl:=fS.length
      obtain ⟨cur,T,h1,h2,h3,h4,h5⟩:=I.iY fI fS gN
      exact ⟨_,he _ _ _ (pW I heq) (mD w _ off T t cur _ h1 h2 (by rw [←hl];exact hsz.symm) gN),h3,mo _ _ _ h1 (by rw [List.size_toArray,iZ (by simpa using h2)];simp),h4,h5,fun v0 h0=>by
       rw [cell_of_row _ _ _ _ _ _ (setRow_heap w _ _ _ _ _ h1),h0]
       rw [h0] at h2
       simp only [List.length_singleton] at h2
       simp only [List.getElem?_toArray,bq]
       rw [List.append_assoc,List.getElem?_append_right (by simp;omega)]
       simp [Nat.min_eq_left (show off≤cur.size by omega)]⟩
     split at h
     · rename_i u p hy
       split at h
       · rename_i hc
         simp only [Option.map_eq_some_iff] at h
         obtain ⟨s1,fI,h⟩:=h
         obtain ⟨w',hr,hb,hW,hK,hI,hcell⟩:=main p s1 hy hc.1 hc.2 fI
         have fin:∀aS,Inv base w' Pr aS st' a N→(∀j,aS (.bx j)=bk (.bx j))→jM P base w Pr bk st a N o st':=fun aS LZ hbk K Q zK=>by
          unfold Oper.wp;rw [hr]
          show K (a.put o.dst undef) w'
          rw [hput]
          exact zK _ _ _ _ LZ (hW.below hb) hK (fun _ _ _ h=>h) hW.ko (fun k _=>hbk k) rfl
         split at h
         · rename_i z hz hrow
           subst h
           have aah:=fI
           simp only [St.iY,Option.bind_eq_some_iff] at fI
           obtain ⟨cs,hk,fI⟩:=fI
           split at fI
           · rename_i hle
             simp only [Option.some.injEq] at fI
             have Xo:aQ st.gr (.s u)=some z:=by
              rw [←fI] at hz;simp only at hz;rw [rQ] at hz;simpa [Pl.out] using hz
             obtain ⟨o2,n,cap,c,e1,e2,e3,_⟩:=I.gL u z Xo
             have hp:p= .sl z n c:=by
              have:look st.sl u=some (.pv p):=hy
              rw [e1] at this;simpa using this.symm
             subst hp
             have q1:look s1.bx k=some (splice cs off [.sl z n c]):=by rw [←fI];simp [look,PV.cells]
             have q2:(splice cs off [.sl z n c])[off]? =some (.sl z n c):=by
              simp only [PV.cells,List.length_singleton] at hle
              unfold splice
              rw [List.append_assoc,List.getElem?_append_right (by simp;omega)]
              simp [Nat.min_eq_left (show off≤cs.length by omega)]
             have q3:w'.cell? ⟨bk (.bx k),off,none⟩=a.tmps[u]? :=by
              rw [e2];refine hcell _ ?_
              rw [iN e2];rfl
             have q4:look s1.sl u=some (.pv (.sl z n c)):=by rw [←fI];exact e1
             have q5:∀t,look s1.tg t≠some (some (.c k off)):=by
              intro t' ht'
              rw [←fI] at ht';simp only at ht'
              rw [cg (mR k off _) (fun _ x=>x.bind fun p=>if p.out k off _ then some p else none) (fun _=>rfl)] at ht'
              cases hm:look st.tg t' with
              |none=>simp [hm] at ht'
              |some p0=>
               simp only [hm,Option.map_some,Option.some.injEq,Option.bind_eq_some_iff] at ht'
               obtain ⟨p',_,ht'⟩:=ht'
               split at ht'
               · rename_i hout
                 simp only [Option.some.injEq] at ht';subst ht'
                 simp [Pl.out,PV.cells] at hout
               · simp at ht'
             obtain ⟨aS,LZ,hbk⟩:=hI.LU hz q1 q2 q3 q4 q5
             exact fin aS LZ hbk
           · simp at fI
         · subst h;exact fin bk hI (fun _=>rfl)
       · simp at h
     · rename_i p hy1 hy
       split at h
       · rename_i hc
         obtain ⟨w',hr,hb,hW,hK,hI,_⟩:=main p st' hy hc.1 hc.2 h
         intro K Q zK
         unfold Oper.wp;rw [hr]
         show K (a.put o.dst undef) w'
         rw [hput]
         exact zK _ _ _ _ hI (hW.below hb) hK (fun _ _ _ h=>h) hW.ko (fun _ _=>rfl) rfl
       · simp at h
     · simp at h
   · rename_i u off heq
     split at h
     · rename_i sz n cs p hu hp
       split at h
       · rename_i hc
         simp only [Option.some.injEq] at h;subst h
         obtain ⟨t',⟨b,o2,n2,Lr,h1,h2⟩,h3⟩:=fk I heq
         have hv:=iH I hp
         obtain ⟨fS,gN⟩:=hv.iM (iS hc.2.1)
         obtain ⟨cur,T,e1,e2,e3,e4,e5⟩:=I.Pn hu hc.2.2 fS gN h1
         intro K Q zK
         unfold Oper.wp
         rw [he _ _ _ h2 (mD w _ _ T t cur _ e1 e2 (by rw [←fS.length];exact hc.1.symm) gN)]
         show K (a.put o.dst undef) _
         rw [hput]
         have hW:=mo w b (bq cur.toList (o2+off) (a.eval y).cells.toList).toArray e1 (by rw [List.size_toArray,iZ (by simpa using e2)];simp)
         exact zK _ _ _ _ e5 (hW.below e3) e4 (fun _ _ _ h=>h) hW.ko (fun _ _=>rfl) rfl
       · simp at h
     · simp at h
   · simp at h
 · simp at h
end
end Go.Proofs.YtibbgjafjhcemaaDoor.Cul
namespace Go.Proofs.YtibbgjafjhcemaaDoor.Cul
open Go Go.RowKit
section
variable {P:Program} {base:Nat} {w:World} {Pr:aD} {bk:Key→Nat} {st:St} {a:Act} {N:Nat}
theorem tO {b:Nat} {T:TypeId}:∀(vs:List Value) (o:Nat) (cur:Array Value) (w:World),w.heap[b]? =some (.cells cur T (0,0))→o+vs.length≤cur.size→
  w.setCells b o vs=w.setRow b (bq cur.toList o vs).toArray
 |[],o,cur,w,hg,h=>by
  simp only [World.setCells,bq,List.append_nil,List.length_nil,Nat.add_zero,List.take_append_drop,Array.toArray_toList]
  exact (setRow_self w b cur T (0,0) hg).symm
 |v::r,o,cur,w,hg,h=>by
  simp only [List.length_cons] at h
  rw [World.setCells,setCell_eq_setRow w b o cur T (0,0) v hg]
  rw [tO r (o+1) (cur.setIfInBounds o v) _ (setRow_heap w b cur _ T _ hg) (by simp;omega),setRow_setRow]
  congr 2
  unfold bq
  simp only [Array.toList_setIfInBounds,List.length_cons]
  have e2:o+1+r.length=o+(r.length+1):=by omega
  rw [e2,List.take_set,List.drop_set_of_lt (by omega)]
  have hlt:o<cur.toList.length:=by simp;omega
  rw [List.take_succ_eq_append_getElem hlt,List.set_append_right _ _ (by simp;omega)]
  simp [Nat.min_eq_left (show o≤cur.size by omega)]
theorem Inv.tj (I:Inv base w Pr bk st a N) {w':World} {aC:aD} {g:Nat} (W:Wr w w' g) (hg:g<w.heap.size) (hfree:∀x,live st x→bk x≠g) (k:Kp w Pr w' aC) (hP:∀b o,aC b o→b≠g→Pr b o):Inv base w' aC bk st a N:=by
 have tB:∀x,live st x→∀o,aC (bk x) o→Pr (bk x) o:=fun x hx o h=>hP _ _ h (hfree x hx)
 have hroom:∀x,live st x→∀{o n cap sz},Room w Pr (bk x) o n cap sz→Room w' aC (bk x) o n cap sz:=fun x hx {o n cap sz} h=>
  ⟨h.hz,h.le,by obtain ⟨c,T,e1,e2⟩:=h.there;exact ⟨c,T,(W.other _ (hfree x hx)).trans e1,e2⟩,fun o' ho=>h.pr o' (tB x hx _ ho)⟩
 constructor
 · exact I.size
 · exact ⟨fun d hd=>(I.defers.1 d hd).ko W.ko,I.defers.2⟩
 · rw [W.size];exact I.hb
 · intro b o h
   rw [W.size]
   by_cases e:b=g
   · rw [e];exact hg
   · exact I.bP b o (hP b o h e)
 · intro t av ht
   obtain ⟨v,hv,hr⟩:=I.slots t av ht
   refine ⟨v,hv, ?_⟩
   cases av with
   |pv p=>exact Rp.mono k hr
   |bp k off=>exact hr
   |cl f caps=>obtain ⟨vs,h1,h2,h3⟩:=hr;exact ⟨vs,h1,h2,fun i c u hc hu=>gB.mono k (h3 i c u hc hu)⟩
   |ex sz n cs=>
    obtain ⟨o,cap,vs,h1,h2,h3,h4,h5,h6,h7⟩:=hr
    have hl:live st (.sx t):= .inl ⟨sz,n,cs,ht⟩
    exact ⟨o,cap,vs,h1,aT.mono k h2,h3,h4,iW (W.other _ (hfree _ hl)) h5,hroom _ hl h6,fun o' ho=>h7 o' (tB _ hl _ ho)⟩
   |xr u=>exact hr
   |xe u off=>exact hr
   |cr _ _=>exact hr
   |dead=>trivial
   |bs j off sz n=>exact hr.world fun c T e=>W.ko.sized _ c T _ e
   |mv f j off sz n=>obtain ⟨u,h1,h2⟩:=hr;exact ⟨u,h1,h2.world fun c T e=>W.ko.sized _ c T _ e⟩
   |tg j off sz n rest=>obtain ⟨u,us,h1,h2,h3⟩:=hr;exact ⟨u,us,h1,h2.world fun c T e=>W.ko.sized _ c T _ e,aT.mono k h3⟩
 · exact fun x hx=>by rw [W.size];exact I.own x hx
 · exact I.inj
 · intro k' cs' hq
   obtain ⟨⟨T',c',us',e1,e0,e2,e3⟩,e4⟩:=I.boxes k' cs' hq
   have hl:live st (.bx k'):=⟨cs',hq⟩
   exact ⟨⟨T',c',us',(W.other _ (hfree _ hl)).trans e1,e0,aT.mono k e2,e3⟩,fun o ho=>e4 o (tB _ hl _ ho)⟩
 · intro t z hz
   obtain ⟨o',n,cap,c,e1,e2,e3,e0⟩:=I.gL t z hz
   exact ⟨o',n,cap,c,e1,e2,hroom (.sx t) (.inr ⟨z,hz⟩) e3,e0⟩
 · intro k' i z hz
   obtain ⟨o',n,cap,c,dw,e1,e2,e3,e4,e0⟩:=I.iF k' i z hz
   exact ⟨o',n,cap,c,dw,e1,e2,(World.cell?_of_block (w:=w) (W.other _ (hfree (.bx k') ⟨dw,e1⟩))).trans e3,hroom (.cx k' i) ⟨z,hz⟩ e4,e0⟩
 · intro t q ht hq
   rw [←I.tags t q ht hq]
   cases q with
   |s x=>rfl
   |c k' i=>
    obtain ⟨z,hz⟩:=hq
    obtain ⟨o',n,cap,c,dw,e1,e2,e3,e4,e0⟩:=I.iF k' i z hz
    exact World.cell?_of_block (w:=w) (W.other _ (hfree (.bx k') ⟨dw,e1⟩))
theorem Bh {p:PV} {n:Nat} {cs:List PV} {v:Value} (h:qE p=some (n,cs)) (hr:Rp w Pr p v):
  (n=0∧cs=[]∧v= .slice none 0 0)∨∃sz b o cap vs,p= .sl sz n cs∧v= .slice (some ⟨b,o,none⟩) n cap∧aT w Pr cs vs∧One vs∧cs.length=n* sz∧n≤cap∧w.rangeAt b o vs∧∀i,i<vs.length→Pr b (o+i):=by
 unfold qE at h
 split at h
 · simp at h;obtain ⟨rfl,rfl⟩:=h;cases hr;exact .inl ⟨rfl,rfl,rfl⟩
 · simp at h;obtain ⟨rfl,rfl⟩:=h
   cases hr with
   |sl hr h1 hl hn hc hp=>exact .inr ⟨_,_,_,_,_,rfl,rfl,hr,h1,hl,hn,hc,hp⟩
   |mE=>exact .inl ⟨rfl,rfl,rfl⟩
 · simp at h
theorem Oh {y:Operand} {m s:Nat} {new:List PV} {U e':TypeId} (I:Inv base w Pr bk st a N) (hy:(st.pv y).bind qE=some (m,new)) (hl:new.length=m* s) (hU:P.underlying U=some (.slice e')):
  ∃news,aT w Pr new news∧One news∧Src P s U (a.eval y) m news w:=by
 rw [Option.bind_eq_some_iff] at hy
 obtain ⟨p,hp,hv⟩:=hy
 rcases Bh hv (iH I hp) with ⟨rfl,rfl,h⟩|⟨sz,b,o,cap,vs,rfl,h,hr,h1,jS,hn,hc,Jf⟩
 · exact ⟨[], .nil,fun _ h=>by simp at h,by rw [h];exact Src.ofNil w hU 0⟩
 · refine ⟨vs,hr,h1, ?_⟩
   rw [h]
   exact Src.ofSlice w hU ⟨b,o,none⟩ m cap vs (by rw [←hr.length];exact hl) (fun j u hj=>by rw [Addr.add_mid];exact hc j u hj) h1
theorem ot {o:Oper} {x y:Operand} {T U:TypeId} {args:Array Operand} {ts:Array TypeId} (ho:o.op= .call { callee:= .builtin .append,args:=args,argTypes:=ts}) (ha:args.toList=[x,y]) (ht:ts.toList=[T,U]) {v:Value} {w':World}
  (h:(Builtin.append_ #[T,U] o.type #[a.eval x,a.eval y]).run P w= .ok v w'):(execOp a.eval o).run P w= .ok (.value v) w':=by
 have he:=kf (P:=P) (w:=w) (a:=a) ho
 rw [args2 ha] at he
 have hts:ts= #[T,U]:=Array.ext' (by simpa using ht)
 rw [he,hts]
 exact cW (by simpa using h)
theorem EW (I:Inv base w Pr bk st a N) {o:Oper} {d s c:Nat} {cs:List PV} {vs:List Value} {n:Nat} {e:TypeId} {tail:Array Value} (kj:o.dst=some d) (hd:d<N) (hs:0<s)
  (hr:aT w Pr cs vs) (h1:One vs) (hl:cs.length=n* s) (hn:n≤c) (O3:tail.size=(c - n)* s)
  (he:(execOp a.eval o).run P w= .ok (.value (.slice (some ⟨w.heap.size,0,none⟩) n c)) (w.drew.alloc (.cells (vs.toArray++tail) e))):
  jM P base w Pr bk st a N o (st.made (some d) { v:= .pv (.sl s n cs),gr:=some s}):=by
 have hlen:=hr.length
 have hf:Fw w Pr (w.drew.alloc (.cells (vs.toArray++tail) e)) (fun b o=>Pr b o∨(b=w.heap.size∧o<n* s)):=
  ⟨((Below.refl _ _).drew).alloc (by simp) _,fun b o h=> .inl h,fun b o hb h=>h.resolve_right (fun h=>by omega),fun b o h=>by
    simp only [World.size_alloc,World.size_drew]
    rcases h with h|h
    · have:=I.bP b o h;omega
    · omega⟩
 have hh:(w.drew.alloc (.cells (vs.toArray++tail) e)).heap[w.heap.size]? =some (.cells (vs.toArray++tail) e (0,0)):=heap_alloc w.drew _
 have hsz:(vs.toArray++tail).size=c* s:=by
  simp only [Array.size_append,List.size_toArray,O3,←hlen,hl]
  rw [←Nat.add_mul];congr 1;omega
 have hroom:Room (w.drew.alloc (.cells (vs.toArray++tail) e)) (fun b o=>Pr b o∨(b=w.heap.size∧o<n* s)) w.heap.size 0 n c s:=
  ⟨hs,hn,⟨_,_,hh,by rw [hsz];omega⟩,fun o' h=>by
   rcases h with h|h
   · exact absurd (I.bP _ _ h) (by omega)
   · omega⟩
 have cU:Rp (w.drew.alloc (.cells (vs.toArray++tail) e)) (fun b o=>Pr b o∨(b=w.heap.size∧o<n* s)) (.sl s n cs) (.slice (some ⟨w.heap.size,0,none⟩) n c):=by
  refine .sl (aT.mono (hf.kp I.bP) hr) h1 hl hn (fun j v hj=> ?_) (fun i hi=> .inr ⟨rfl,by omega⟩)
  rw [cell_of_row _ _ _ _ _ _ hh,Nat.zero_add,←hj]
  have hlt:j<vs.length:=(List.getElem?_eq_some_iff.1 hj).1
  rw [Array.getElem?_append_left (by simpa using hlt)];simp
 have I2:=I.fw hf
 have hm:dD base (w.drew.alloc (.cells (vs.toArray++tail) e)) (fun b o=>Pr b o∨(b=w.heap.size∧o<n* s)) bk st a { v:= .pv (.sl s n cs),gr:=some s} (.slice (some ⟨w.heap.size,0,none⟩) n c):=by
  refine ⟨fun _ _=>cU,fun _ _ _ h=>by simp at h,fun z hz=> ?_,fun q h=>by simp at h⟩
  simp only [Option.some.injEq] at hz;subst hz
  exact ⟨w.heap.size,0,n,c,cs,rfl,rfl,hroom,rfl,I.hb,by simp,fun x hx e=>by have:=(I.own x hx).2;omega⟩
 obtain ⟨aS,hI,hbk⟩:=I2.je hd hm
 intro K Q hK
 unfold Oper.wp
 rw [he]
 show K (a.put o.dst _) _
 rw [kj]
 exact hK _ _ _ _ hI (hf.gX.mono I.hb) (hf.kp I.bP) (fun b o hb h=>hf.old b o (Nat.lt_of_lt_of_le hb I.hb) h) hf.ko (fun k _=>hbk k) rfl
end
end Go.Proofs.YtibbgjafjhcemaaDoor.Cul
