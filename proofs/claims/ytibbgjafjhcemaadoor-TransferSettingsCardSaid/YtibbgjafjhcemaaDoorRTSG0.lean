/- Part of a proof by an abstract machine for the program's code: lemmas, without conditions of their own beyond those that each states. (Made smaller by a program: short names, no comments.) -/
import Derived.WalkKit
import Derived.WalkSpells
import Derived.WalkLawsBesides
import Derived.Deep.MidRow
import Derived.StillTail
import Derived.KernelRfl
import Derived.RangeFuncOwn
import Derived.RangeFuncWrites
import Derived.Laws.CopyRow
import Derived.Deep.AppendSrc
set_option linter.unusedVariables false
set_option linter.unusedSimpArgs false
namespace Go.Proofs.YtibbgjafjhcemaaDoor.Cul
open Go Go.RowKit
inductive PV where
 |lit (v:Value)
 |sl (sz n:Nat) (cs:List PV)
 |el (cs:List PV)
 |fn (f:Nat) (caps:List PV)
 |ag (cs:List PV)
 |aG (vs:List PV)
 deriving Inhabited
def ir:Value→Bool
 | .bool _| .int .. | .string _| .nilFunc| .slice none 0 0| .pointer none| .map none| .nilIface=>true
 | .func (.yield _) fi ca=>fi.isEmpty&&ca.isEmpty
 |_=>false
inductive Cap where
 |pv (p:PV)
 |bp (k off:Nat)
inductive AV where
 |pv (p:PV)
 |bp (k off:Nat)
 |cl (f:Nat) (caps:List Cap)
 |ex (sz n:Nat) (cs:List PV)
 |xr (t:Nat)
 |xe (t off:Nat)
 |bX (cs:List PV) (s:Option (Nat×Nat))
 |dead
 |bs (k off sz n:Nat)
 |mv (f k off sz n:Nat)
 |tg (k off sz n:Nat) (rest:List PV)
inductive Pl where
 |s (t:Nat)
 |c (k off:Nat)
 deriving DecidableEq
def Pl.kept (ks:List Nat):Pl→Bool
 | .s t=>ks.contains t
 | .c k _=>ks.contains k
def Pl.eK (d:Nat):Pl→Bool
 | .c k _=>decide (k≠d)
 |_=>true
def mB (d:Nat) (x:Nat×Option Pl):Nat×Option Pl:=(x.1,x.2.bind fun p=>if p.eK d then some p else none)
def Pl.out (k off n:Nat):Pl→Bool
 | .c j o=> !(decide (j=k)&&decide (off≤o)&&decide (o<off+n))
 |_=>true
def mC (k off n:Nat) (x:Nat×Option Pl):Nat×Option Pl:=(x.1,x.2.bind fun p=>if p.out k off n then some p else none)
structure St where
 sl:List (Nat×AV)
 bx:List (Nat×List PV)
 gr:List (Pl×Nat)
 tg:List (Nat×Option Pl)
def aJ:List (Pl×Nat)→Pl→Option Nat
 |[],_=>none
 |(k,v)::l,t=>if k=t then some v else aJ l t
def look {α:Type}:List (Nat×α)→Nat→Option α
 |[],_=>none
 |(k,v)::l,t=>if k=t then some v else look l t
def bH {α:Type}:List (Nat×α)→Nat→List (Nat×α)
 |[],_=>[]
 |(k,v)::l,t=>if k=t then bH l t else (k,v)::bH l t
def bu (t:Nat):AV→Bool
 | .xr u=>decide (u=t)
 | .xe u _=>decide (u=t)
 |_=>false
def dG (d:Nat) (x:Nat×AV):Nat×AV:=(x.1,if bu d x.2 then .dead else x.2)
def fX (p:Pl) (x:Nat×Option Pl):Nat×Option Pl:=(x.1,if x.2=some p then none else x.2)
def St.tag (st:St) (t:Nat):Option Pl:=(look st.tg t).bind id
def St.put (st:St) (dst:Option Tmp) (v:AV):St:=
 match dst with
 |none=>st
 |some d=>{ sl:=dG d (d,v)::(bH st.sl d).map (dG d),bx:=st.bx,gr:=st.gr.filter (fun p=>p.1≠ .s d),tg:=(bH st.tg d).map (fX (.s d))}
def aB {α:Type} (P:Program):Sem α→Option α
 | .pure a=>some a
 | .program k=>aB P (k P)
 | .mark _ k=>aB P k
 |_=>none
def rI:List Value→Option (List PV)
 |[]=>some []
 |v::l=>if ir v then (rI l).map (PV.lit v:: ·) else none
def iS:Value→Option PV
 | .agg cs=>(rI cs.toList).map .ag
 |v=>if ir v then some (.lit v) else none
def eL:List PV→Option (List Value)
 |[]=>some []
 | .lit v::l=>(eL l).map (v:: ·)
 |_::_=>none
def valOf:PV→Option Value
 | .lit v=>some v
 | .ag cs=>(eL cs).map fun l=> .agg l.toArray
 | .fn f []=>some (.func (.func f) #[] #[])
 |_=>none
def fN:AV:= .pv (.aG [])
def St.ev (st:St):Operand→Option AV
 | .tmp t=>look st.sl t
 | .const v=>(iS v).map .pv
 | .func f=>some (.pv (.fn f []))
 | .global _=>none
def St.pv (st:St) (x:Operand):Option PV:=
 match st.ev x with
 |some (.pv p)=>some p
 |_=>none
def St.val (st:St) (x:Operand):Option Value:=(st.pv x).bind valOf
def cM (P:Program) (s:Sem Value):Option PV:=(aB P s).bind iS
def ei (P:Program) (t:TypeId):Bool:=match P.underlying t with|some (.struct _)|some (.array _ _)=>true|_=>false
def bV (P:Program) (t:TypeId):Option Nat:=(P.info? t).map (·.size)
def jz (P:Program) (t:TypeId):Option PV:=((P.info? t).bind (·.zero)).bind iS
def PV.cells:PV→List PV
 | .ag cs=>cs
 |p=>[p]
def uZ (P:Program) (s:TypeId) (f:Nat):Option (Nat×TypeId):=
 match P.underlying s with
 |some (.struct fs)=>(fs[f]?).bind fun f=>if bV P f.type=some 0 then none else (bV P f.type).map fun _=>(f.offset,f.type)
 |_=>none
def eA (P:Program) (t:TypeId) (cs:List PV) (off:Nat):Option PV:=
 (bV P t).bind fun s=>if off+s≤cs.length then (if ei P t then some (.ag ((cs.drop off).take s)) else if s=1∧(P.underlying t).isSome=true then cs[off]? else none) else none
def row (cs:List PV) (sz i:Nat):List PV:=(cs.drop (i* sz)).take sz
def splice (cs:List PV) (off:Nat) (new:List PV):List PV:=cs.take off++new++cs.drop (off+new.length)
def qD:PV→Option (Nat×List PV)
 | .lit (.slice none 0 0)=>some (0,[])
 | .sl _ n cs=>some (n,cs)
 |_=>none
def cn:PV→Option Int
 | .lit (.int _ n)=>some n
 |_=>none
structure Made where
 v:AV
 gr:Option Nat:=none
 tg:Option Pl:=none
def dY (v:Option PV):Option Made:=v.map fun p=>{ v:= .pv p}
def EF:Cap→Bool
 | .bp .. =>true
 |_=>false
def dK (st:St):List Cap→Option (List PV)
 |[]=>some []
 | .pv p::l=>(dK st l).map (p:: ·)
 | .bp k off::l=>(look st.bx k).bind fun cs=>(dK st l).map (PV.el (cs.drop off):: ·)
structure RV where
 v:PV
 gr:Option Nat
inductive MA where
 |p (p:PV)
 |g (cs:List PV) (off sz n:Nat)
inductive MR where
 |pv (p:PV)
 |gs (off n:Nat)
 |gt (off n:Nat) (rest:List PV)
structure Cl where
 fn:Nat→List PV→Option RV
 ex:Nat→Nat→Bool:=fun _ _=>false
 im:Nat→Bool:=fun _=>false
 mu:Nat→List MA→Option (MR×List PV):=fun _ _=>none
def St.eN (st:St):AV→Option PV
 | .pv p=>some p
 | .bp k off=>(look st.bx k).map fun cs=> .el (cs.drop off)
 | .bs k off sz n=>(look st.bx k).map fun cs=> .sl sz n ((cs.drop off).take (n* sz))
 | .cl f caps=>(dK st caps).map (PV.fn f)
 |_=>none
def cc:AV→Bool
 | .bp .. =>true
 | .bs .. =>true
 | .mv .. =>true
 | .tg .. =>true
 | .cl _ caps=>caps.any EF
 |_=>false
def jq (place:Nat→Option (Nat×Nat)) (cells:List PV):List (Nat×PV)→Option (List PV)
 |[]=>some cells
 |(i,v)::rest=>
  match place i with
  |none=>none
  |some (off,size)=>if v.cells.length≠size∨off+size>cells.length then none else jq place (splice cells off v.cells) rest
def gu:PV→Bool
 | .aG _=>true
 |_=>false
def partsOf (st:St):List (Nat×Operand)→Option (List (Nat×PV))
 |[]=>some []
 |(i,x)::l=>(st.pv x).bind fun p=>if gu p then none else (partsOf st l).map ((i,p):: ·)
def bq {α:Type} (z:List α):Nat→List α
 |0=>[]
 |n+1=>z++bq z n
def bytesOf:List PV→Option (List UInt8)
 |[]=>some []
 | .lit (.int .u8 n)::l=>(bytesOf l).map (UInt8.ofNat n.toNat:: ·)
 |_::_=>none
def eB (st:St):List Operand→Option (List PV)
 |[]=>some []
 |x::l=>((st.ev x).bind st.eN).bind fun p=>(eB st l).map (p:: ·)
def eG (st:St):List Operand→Option (List Cap)
 |[]=>some []
 |x::l=>match st.ev x with
  |some (.pv p)=>(eG st l).map (Cap.pv p:: ·)
  |some (.bp k o)=>(eG st l).map (Cap.bp k o:: ·)
  |_=>none
def ki:PV→Bool
 | .aG []=>true
 |p=>(valOf p).isSome
def sw (call:Cl) (out:Bool) (f:Nat) (args:List PV):Option Made:=
 (call.fn f args).bind fun r=>if out then (if ki r.v then some { v:= .pv r.v} else none) else some { v:= .pv r.v,gr:=r.gr}
def placesOf (P:Program):List Field→Option (List (Nat×Nat))
 |[]=>some []
 |f::l=>(bV P f.type).bind fun s=>(placesOf P l).map ((f.offset,s):: ·)
def quiet (P:Program) (call:Cl) (o:Oper) (st:St):Option Made:=
 match o.op with
 | .move x=>
   match x,st.ev x with
   |_,some (.xr t)=>some { v:= .xr t}
   |_,some (.xe t off)=>some { v:= .xe t off}
   |_,some (.bX _ _)=>none
   | .tmp t,some (.ex ..)=>some { v:= .xr t}
   | .tmp t,some v=>some { v,tg:=if (aJ st.gr (.s t)).isSome then some (.s t) else st.tag t}
   |_,some (.ex ..)=>none
   |_,some v=>some { v}
   |_,none=>none
 | .pick c a b=>(st.val c).bind fun
   | .bool t=>(st.pv (if t then a else b)).map fun p=>{ v:= .pv p}
   |_=>none
 | .binOp op t x y _=>(st.val x).bind fun a=>(st.val y).bind fun b=>dY (cM P (do eqGuard op t x y a b;binOp op t a b))
 | .unOp op _ x=>(st.val x).bind fun a=>dY (cM P (Op.unary op a))
 | .convert src dst x=>match st.pv x with
   |some (.sl 1 n cs)=>match P.underlying src,P.underlying dst with
    |some (.slice e),some .string=>match P.underlying e with
     |some (.int .u8)=>(bytesOf cs).map fun l=>{ v:= .pv (.lit (.string ⟨l.toArray⟩))}
     |_=>none
    |_,_=>none
   |some p=>(valOf p).bind fun a=>dY (cM P (convert src dst a))
   |none=>none
 | .fieldAddr s x f=>(uZ P s f).bind fun (off,_)=>match st.ev x with
   |some (.bp k o)=>some { v:= .bp k (o+off)}
   |some (.xe t o)=>some { v:= .xe t (o+off)}
   |some (.pv (.el cs))=>some { v:= .pv (.el (cs.drop off))}
   |_=>none
 | .field s x f=>(uZ P s f).bind fun (off,t)=>match st.pv x with
   |some (.ag cs)=>dY (eA P t cs off)
   |_=>none
 | .indexAddr t x i=>((st.pv i).bind cn).bind fun n=>match P.underlying t with
   |some (.array len e)=>(bV P e).bind fun s=>if 0≤n∧n<len then match st.ev x with
    |some (.bp k o)=>some { v:= .bp k (o+n.toNat* s)}
    |some (.pv (.el cs))=>some { v:= .pv (.el (cs.drop (n.toNat* s)))}
    |_=>none else none
   |some (.slice e)=>(bV P e).bind fun s=>match st.ev x with
    |some (.pv (.sl sz len cs))=>if sz=s∧0≤n∧n<len then some { v:= .pv (.el (row cs sz n.toNat))} else none
    |some (.xr u)=>match look st.sl u with
     |some (.ex sz len cs)=>if sz=s∧0≤n∧n<len then some { v:= .xe u (n.toNat* sz)} else none
     |_=>none
    |some (.bs k off sz len)=>if sz=s∧0≤n∧n<len then some { v:= .bp k (off+n.toNat* sz)} else none
    |_=>none
   |_=>none
 | .index t x i=>match P.underlying t,st.pv x with
   |some (.array len e),some (.ag cs)=>((st.pv i).bind cn).bind fun n=>(bV P e).bind fun s=>if 0≤n∧n<len then dY (eA P e cs (n.toNat* s)) else none
   |_,_=>(st.val x).bind fun a=>(st.val i).bind fun b=>dY (cM P (Instr.index t a b))
 | .load t x=>match st.ev x with
   |some (.bp k o)=>(look st.bx k).bind fun cs=>(eA P t cs o).map fun p=>{ v:= .pv p,tg:=if !ei P t&&(aJ st.gr (.c k o)).isSome then some (.c k o) else none}
   |some (.pv (.el cs))=>dY (eA P t cs 0)
   |some (.xe u o)=>match look st.sl u with
    |some (.ex _ _ cs)=>dY (eA P t cs o)
    |_=>none
   |_=>none
 | .build t parts=>match jz P t,partsOf st parts.toList with
   |some (.ag z),some ps=>match P.underlying t with
    |some (.struct fs)=>(placesOf P fs.toList).bind fun pl=>(jq (fun i=>pl[i]?) z ps).map fun cs=>{ v:= .pv (.ag cs)}
    |some (.array _ e)=>(bV P e).bind fun s=>(jq (fun i=>some (i* s,s)) z ps).map fun cs=>{ v:= .pv (.ag cs)}
    |_=>none
   |_,_=>none
 | .buildSlice t len parts=>match P.underlying t with
   |some (.slice e)=>(bV P e).bind fun s=>(jz P e).bind fun z=>if len* s≤2^24∧z.cells.length=s then
    (partsOf st parts.toList).bind fun ps=>(jq (fun i=>some (i* s,s)) (bq z.cells len) ps).map fun cs=>{ v:= .pv (.sl s len cs),gr:=if len=0∨s=0 then none else some s} else none
   |_=>none
 | .extract x i=>match st.ev x with
   |some (.pv (.aG vs))=>dY vs[i]?
   |some (.tg k off sz n rest)=>match i with
    |0=>some { v:= .bs k off sz n}
    |i+1=>dY rest[i]?
   |_=>none
 | .slice t x lo hi mx=>match st.ev x with
   |some (.bs k off sz n)=>match P.underlying t,mx with
    |some (.slice e),none=>if bV P e=some sz then
     (match hi with|none=>some (n:Int)|some y=>(st.pv y).bind cn).bind fun h=>
     (match lo with|none=>some (0:Int)|some y=>(st.pv y).bind cn).bind fun l=>
     if 0≤l∧l≤h∧h≤n then some { v:= .bs k (off+l.toNat* sz) sz (h.toNat - l.toNat)} else none else none
    |_,_=>none
   |some (.pv (.sl sz n cs))=>match P.underlying t,mx with
    |some (.slice e),none=>if bV P e=some sz then
     (match hi with|none=>some (n:Int)|some y=>(st.pv y).bind cn).bind fun h=>
     (match lo with|none=>some (0:Int)|some y=>(st.pv y).bind cn).bind fun l=>
     if 0≤l∧l≤h∧h≤n then some { v:= .pv (.sl sz (h.toNat - l.toNat) ((cs.drop (l.toNat* sz)).take ((h.toNat - l.toNat)* sz)))} else none else none
    |_,_=>none
   |some (.pv p)=>(valOf p).bind fun a=>match mx,lo,hi with
    |none,none,none=>dY (cM P (Instr.sliceAt t a none none none))
    |none,some l,none=>(st.val l).bind fun l=>dY (cM P (Instr.sliceAt t a (some l) none none))
    |none,none,some h=>(st.val h).bind fun h=>dY (cM P (Instr.sliceAt t a none (some h) none))
    |none,some l,some h=>(st.val l).bind fun l=>(st.val h).bind fun h=>dY (cM P (Instr.sliceAt t a (some l) (some h) none))
    |_,_,_=>none
   |_=>none
 | .makeFunc (.func f) first captured=>match first.toList,captured.toList with
   |[],cs=>(eG st cs).map fun caps=>{ v:= .cl f caps}
   |[x],[]=>match st.ev x with
    |some (.bs k off sz n)=>some { v:= .mv f k off sz n}
    |_=>none
   |_,_=>none
 | .nilCheck x=>match st.ev x with
   |some (.bp k o)=>some { v:= .bp k o}
   |some (.pv (.el cs))=>some { v:= .pv (.el cs)}
   |some (.pv (.fn f caps))=>some { v:= .pv (.fn f caps)}
   |_=>none
 | .call { callee:= .builtin .len,args,argTypes}=>match args.toList with
   |[x]=>match st.ev x with
    |some (.pv (.sl _ n _))=>match (argTypes[0]?).bind P.underlying with|some (.slice _)=>some { v:= .pv (.lit (.int .i64 n))}|_=>none
    |some (.xr u)=>match look st.sl u,(argTypes[0]?).bind P.underlying with|some (.ex _ n _),some (.slice _)=>some { v:= .pv (.lit (.int .i64 n))}|_,_=>none
    |some (.bs _ _ _ n)=>match (argTypes[0]?).bind P.underlying with|some (.slice _)=>some { v:= .pv (.lit (.int .i64 n))}|_=>none
    |some (.pv p)=>(valOf p).bind fun a=>dY (cM P (Builtin.len_ argTypes o.type #[a]))
    |_=>none
   |_=>none
 | .call { callee:= .builtin .max,args,argTypes}=>match args.toList with
   |[x,y]=>(st.val x).bind fun a=>(st.val y).bind fun b=>dY (cM P (Builtin.max_ argTypes o.type #[a,b]))
   |_=>none
 | .call { callee:= .builtin .min,args,argTypes}=>match args.toList with
   |[x,y]=>(st.val x).bind fun a=>(st.val y).bind fun b=>dY (cM P (Builtin.min_ argTypes o.type #[a,b]))
   |_=>none
 | .call { callee:= .value g,args, .. }=>match (st.ev g) with
   |some v=>(st.eN v).bind fun p=>match p with
    | .fn f caps=>(eB st args.toList).bind fun gm=>sw call (cc v||args.toList.any fun x=>((st.ev x).map cc).getD true) f (gm++caps)
    |_=>none
   |_=>none
 |_=>none
def St.made (st:St) (dst:Option Tmp) (m:Made):St:=
 let s:=st.put dst m.v
 match dst with
 |none=>s
 |some d=>{ s with gr:=match m.gr with|some z=>(.s d,z)::s.gr|none=>s.gr,tg:=match m.tg with|some p=>(d,some p)::s.tg|none=>s.tg}
def EG (k:Nat):Cap→Bool
 | .bp j _=>decide (j≠k)
 |_=>true
def iD (k:Nat):AV→Bool
 | .bp j _=>decide (j≠k)
 | .bs j _ _ _=>decide (j≠k)
 | .mv _ j _ _ _=>decide (j≠k)
 | .tg j _ _ _ _=>decide (j≠k)
 | .cl _ caps=>caps.all (EG k)
 |_=>true
def St.dw (st:St) (d:Nat) (cs:List PV) (v:AV):Option St:=
 let s:=st.put (some d) v
 if (bH s.sl d).all (fun x=>iD d x.2) then
  some { s with bx:=(d,cs)::bH s.bx d,gr:=s.gr.filter (fun x=>x.1.eK d),tg:=s.tg.map (mB d)}
 else none
def St.m5 (st:St) (d:Nat) (cs:List PV):Option St:=st.dw d cs (.bp d 0)
def St.iX (st:St) (k off:Nat) (new:List PV):Option St:=
 (look st.bx k).bind fun cs=>if off+new.length≤cs.length then
  some { st with bx:=(k,splice cs off new)::bH st.bx k,
                 gr:=st.gr.filter (fun x=>x.1.out k off new.length),
                 tg:=st.tg.map (mC k off new.length)} else none
def room:Nat:=140737488355328
def effect (P:Program) (o:Oper) (st:St):Option St:=
 match o.op with
 | .assign x=>
   match x,st.ev x with
   | .tmp t,some (.ex sz n cs)=>o.dst.map fun d=>({ st with sl:=(bH st.sl t).map (dG t)}).put (some d) (.ex sz n cs)
   | .tmp t,some (.pv p)=>o.dst.map fun d=>match aJ st.gr (.s t) with
     |some z=>if t=d then st.put (some d) (.pv p) else
      ({ st with gr:=st.gr.filter (fun x=>x.1≠Pl.s t),tg:=st.tg.map (fX (.s t))}).made (some d) { v:= .pv p,gr:=some z}
     |none=>st.put (some d) (.pv p)
   |_,some (.pv p)=>o.dst.map fun d=>st.put (some d) (.pv p)
   |_,some (.cl f caps)=>o.dst.map fun d=>st.put (some d) (.cl f caps)
   |_,some (.bp k off)=>o.dst.map fun d=>st.put (some d) (.bp k off)
   |_,some (.bs k off sz n)=>o.dst.map fun d=>st.put (some d) (.bs k off sz n)
   |_,some (.mv f k off sz n)=>o.dst.map fun d=>st.put (some d) (.mv f k off sz n)
   |_,_=>none
 | .alloc t=>o.dst.bind fun d=>(jz P t).bind fun z=>st.m5 d z.cells
 | .box t x=>o.dst.bind fun d=>(st.pv x).bind fun p=>if some p.cells.length=bV P t∧gu p=false then st.m5 d p.cells else none
 | .store t a x=>if o.dst=none then match st.ev a with
   |some (.bp k off)=>match x,st.ev x with
    | .tmp u,some (.pv p)=>if some p.cells.length=bV P t∧gu p=false then (st.iX k off p.cells).map fun s=>
     match aJ s.gr (.s u),ei P t with
     |some z,false=>{ s with gr:=(.c k off,z)::s.gr.filter (fun x=>x.1≠ .s u),tg:=s.tg.map (fX (.s u))}
     |_,_=>s else none
    |_,some (.pv p)=>if some p.cells.length=bV P t∧gu p=false then st.iX k off p.cells else none
    |_,_=>none
   |some (.xe u off)=>match look st.sl u,st.pv x with
    |some (.ex sz n cs),some p=>if some p.cells.length=bV P t∧gu p=false∧off+p.cells.length≤cs.length then some { st with sl:=(u, .ex sz n (splice cs off p.cells))::bH st.sl u} else none
    |_,_=>none
   |_=>none else none
 | .makeSlice t l c=>o.dst.bind fun d=>match P.underlying t,(st.pv l).bind cn,(st.pv c).bind cn with
   |some (.slice e),some n,some m=>(bV P e).bind fun s=>(jz P e).bind fun z=>
    if 0≤n∧n≤m∧m* P.bytesOf e≤room∧m≤room∧z.cells.length=s∧0<s then
     (if n=0 then some (st.made (some d) { v:= .pv (.sl s 0 []),gr:=some s}) else st.dw d (bq z.cells n.toNat) (.bs d 0 s n.toNat)) else none
   |_,_,_=>none
 | .call { callee:= .builtin .append,args,argTypes}=>o.dst.bind fun d=>match args.toList,argTypes.toList with
   |[x,y],[T,U]=>match P.underlying T,P.underlying U with
    |some (.slice e),some (.slice _)=>(bV P e).bind fun s=>(jz P e).bind fun z=>(st.pv x).bind fun p=>(qD p).bind fun v=>((st.pv y).bind qD).bind fun u=>
     if (v.1+u.1)* P.bytesOf e≤room∧v.1+u.1≤room∧0<s∧z.cells.length=s∧u.2.length=u.1* s∧v.2.length=v.1* s then
      match p with
      | .lit _=>if u.1=0 then some (st.put (some d) (.pv p)) else some (st.made (some d) { v:= .pv (.sl s u.1 u.2),gr:=some s})
      |_=>match x with
       | .tmp t=>
         (if aJ st.gr (.s t)=some s then some (Pl.s t) else match st.tag t with|some q=>if aJ st.gr q=some s then some q else none|none=>none).map fun q=>
          ({ st with gr:=st.gr.filter (fun x=>x.1≠q),tg:=st.tg.map (fX q)}).made (some d) { v:= .pv (.sl s (v.1+u.1) (v.2++u.2)),gr:=some s}
       |_=>none
     else none
    |_,_=>none
   |_,_=>none
 |_=>none
def cJ:PV→Bool
 | .lit v=>ir v
 |_=>false
def ig:Op→Bool
 | .move _| .pick .. | .binOp .. | .unOp .. | .convert .. | .fieldAddr .. | .field .. | .indexAddr .. | .index .. | .load .. | .build .. | .buildSlice .. | .extract .. | .slice .. | .makeFunc .. | .nilCheck _=>true
 | .call { callee:= .builtin .append, .. }=>false
 | .call _=>true
 |_=>false
def xg (st:St):AV→Option MA
 | .pv p=>some (.p p)
 | .bs k off sz n=>(look st.bx k).map fun cs=> .g cs off sz n
 |_=>none
def nU (st:St):List AV→Option (List MA)
 |[]=>some []
 |v::l=>(xg st v).bind fun m=>(nU st l).map (m:: ·)
def gD:List AV→Option (Nat×Nat)
 |[]=>none
 | .bs k _ sz _::l=>if l.any cc then none else some (k,sz)
 |v::l=>if cc v then none else gD l
def sE (st:St):List Operand→Option (List AV)
 |[]=>some []
 |x::l=>(st.ev x).bind fun v=>(sE st l).map (v:: ·)
def xp (k sz:Nat):MR→AV
 | .pv p=> .pv p
 | .gs off n=> .bs k off sz n
 | .gt off n rest=> .tg k off sz n rest
def NU:MR→Bool
 | .pv p=>ki p
 | .gs .. =>true
 | .gt _ _ rest=>rest.all ki
def St.cZ (st:St) (k:Nat) (cs:List PV):St:={ st with bx:=(k,cs)::bH st.bx k,gr:=st.gr.filter (fun x=>x.1.eK k),tg:=st.tg.map (mB k)}
def kF (st:St) (o:Oper):Option (Nat×List AV):=
 match o.op with
 | .call { callee:= .value g,args, .. }=>match st.ev g with
   |some (.pv (.fn f []))=>(sE st args.toList).map (f, ·)
   |some (.mv f k off sz n)=>(sE st args.toList).map fun l=>(f, .bs k off sz n::l)
   |_=>none
 |_=>none
def sI (call:Cl) (o:Oper) (st:St) (f:Nat) (vs:List AV):Option St:=
 (gD vs).bind fun g=>(nU st vs).bind fun ms=>(call.mu f ms).bind fun r=>
  if NU r.1 then some ((st.cZ g.1 r.2).put o.dst (xp g.1 g.2 r.1)) else none
def uX (call:Cl) (o:Oper) (st:St):Option St:=
 match o.op with
 | .call { callee:= .value g,args, .. }=>match st.ev g with
   |some (.pv (.fn f caps))=>if args.toList.any (fun x=>((st.ev x).map cc).getD true) then none else
    (eB st args.toList).bind fun gm=>(call.fn f (gm++caps)).bind fun r=>o.dst.bind fun d=>match r.v,r.gr with
     | .sl sz n cs,some z=>if z=sz∧cs.all cJ=true then st.dw d cs (.bs d 0 sz n) else none
     |_,_=>none
   |_=>none
 |_=>none
def lf (P:Program) (call:Cl) (o:Oper) (st:St):Option St:=
 match kF st o with
 |some (f,vs)=>if call.im f then sI call o st f vs else if call.ex f (o.dst.getD 0) then uX call o st else if ig o.op then (quiet P call o st).map (st.made o.dst) else effect P o st
 |none=>if ig o.op then (quiet P call o st).map (st.made o.dst) else effect P o st
def jH:AV→Bool
 | .ex .. =>true
 |_=>false
def B9 (call:Cl) (o:Oper):Bool:=
 match o.op with
 | .call { callee:= .value (.func f), .. }=>call.ex f (o.dst.getD 0)
 |_=>false
def oJ (call:Cl) (o:Oper) (st:St):Option Made:=
 match o.op with
 | .call { callee:= .value (.func f),args, .. }=>if args.toList.any (fun x=>((st.ev x).map cc).getD true) then none else
   (eB st args.toList).bind fun gm=>(call.fn f gm).bind fun r=>match r.v,r.gr with
    | .sl sz n cs,some z=>if z=sz∧cs.all cJ=true then some { v:= .bX cs (some (sz,n))} else none
    |_,_=>none
 |_=>none
def eY (P:Program) (call:Cl) (o:Oper) (st:St):Option Made:=
 if B9 call o then oJ call o st else match o.op with
 | .assign x=>match st.ev x with
   |some (.pv p)=>some { v:= .pv p}
   |some (.bp k off)=>some { v:= .bp k off}
   |some (.cl f caps)=>some { v:= .cl f caps}
   |_=>none
 | .alloc t=>(jz P t).map fun z=>{ v:= .bX z.cells none}
 |_=>(quiet P call o st).bind fun m=>if jH m.v then none else some { m with gr:=none}
def St.gJ (st:St) (dst:Option Tmp) (m:Made):St:=
 match dst with
 |none=>st
 |some d=>{ st with sl:=(d,m.v)::bH st.sl d,tg:=(d,m.tg)::bH st.tg d}
def eo (ops:List Oper) (o:Oper) (st:St):Option Bool:=
 match o.guard with
 |none=>some true
 |some (j,want)=>((ops[j]?).bind (·.dst)).bind fun t=>match look st.sl t with
  |some (.pv (.lit (.bool b)))=>some (b==want)
  |some (.pv (.aG []))=>some false
  |_=>none
def og (step:Oper→St→Option St) (ops:List Oper):List Oper→St→Option St
 |[],st=>some st
 |o::l,st=>(eo ops o st).bind fun
  |true=>(step o st).bind (og step ops l)
  |false=>og step ops l (st.put o.dst fN)
def j3 (P:Program) (call:Cl) (ops:List Oper):List Oper→St→Option St
 |[],st=>some st
 |o::l,st=>(eo ops o st).bind fun
  |true=>(eY P call o st).bind fun m=>j3 P call ops l (st.gJ o.dst m)
  |false=>j3 P call ops l (st.gJ o.dst { v:=fN})
def Ai:Op→Bool
 | .assign _| .alloc _=>true
 |op=>ig op
def vL (ops:List Oper):Nat:=
 let n:=(ops.takeWhile fun o=>Ai o.op).length
 if n=ops.length then n - 1 else n
def pQ (st:St) (o:Oper):Bool:=
 match o.dst with
 |some d=>(aJ st.gr (.s d)).isNone&&(match look st.sl d with|some (.ex ..)=>false|_=>true)
 |none=>false
def St.CM (st:St) (o:Oper):Option St:=
 match o.dst with
 |some d=>match look st.sl d with
  |some (.bX cs none)=>st.m5 d cs
  |some (.bX cs (some (sz,n)))=>st.dw d cs (.bs d 0 sz n)
  |_=>some st
 |none=>some st
def St.settle (st:St):List Oper→Option St
 |[]=>some st
 |o::l=>(st.CM o).bind fun s=>s.settle l
def tmpsOf (o:Oper):List Nat:=o.op.operands.toList.filterMap fun| .tmp t=>some t|_=>none
def jN (o:Oper) (j:Nat):Bool:=o.after.any fun e=>Region.binds .any e&&e.on==j
def m9 (ops:List Oper) (n i:Nat) (o:Oper):Bool:=
 (match o.guard with|some (j,_)=>decide (j<i)&&jN o j|none=>true)&&
 (o.after.all fun e=> !Region.binds .any e||decide (e.on<i))&&
 (List.range n).all fun j=>match (ops[j]?).bind (·.dst) with
  |some d=>(!(tmpsOf o).contains d||(decide (j<i)&&jN o j)||(decide (i<j)&&(match ops[j]? with|some oj=>jN oj i|none=>false))||j==i)&&(j==i||o.dst !=some d)
  |none=>false
def pX (m n:Nat):Array Bool:=((List.range m).map fun i=>decide (i<n)).toArray
def mD (n:Nat) (ops:Array Oper):Bool:=
 decide (n<ops.size)&&Region.sinkB .any ops n&&Region.chainB .any ops n&&Region.seqB .any ops (ops.size - n) n (pX ops.size n)&&
 (List.range n).all fun i=>match ops[i]? with|some o=>Ai o.op&&m9 ops.toList n i o|none=>false
def Cj:Op→Bool
 | .store .. =>true
 |_=>false
def FF:Op→Bool
 | .extract .. =>true
 |_=>false
def Ep (ops:List Oper):Bool:=decide (ops.length≤12)&&(decide (2≤(ops.filter fun o=>Cj o.op).length)||(decide (ops.length≤8)&&ops.any (fun o=>Cj o.op)&&decide (2≤(ops.filter fun o=>FF o.op).length)))
def u9 (call:Cl) (ops:List Oper):Nat:=if ops.any (B9 call) then (ops.takeWhile fun o=>ig o.op).length else vL ops
def zU (call:Cl) (ops:List Oper) (n:Nat):Bool:= !(ops.any (B9 call))||mD n ops.toArray
def kD (P:Program) (call:Cl) (ops:List Oper) (draw:Bool) (st:St):Option St:=
 if draw then
  let n:=u9 call ops
  if ((ops.take n).all (pQ st)&&zU call ops n&&(!Ep ops||mD (vL ops) ops.toArray))=true then (j3 P call ops (ops.take n) st).bind fun s=>(s.settle (ops.take n)).bind (og (lf P call) ops (ops.drop n)) else none
 else og (lf P call) ops ops st
structure fD where
 keep:List Nat
 still:List Nat:=[]
 perm:Bool:=false
def JW (k:Nat) (x:Nat×AV):Nat×AV:=(x.1,if iD k x.2 then x.2 else .dead)
def St.ep (st:St) (t k:Nat):St:={ sl:=(bH st.sl t).map (JW k),bx:=bH st.bx k,gr:=(st.gr.filter (fun x=>x.1.eK k)).filter (fun x=>x.1≠ .s t),tg:=(bH st.tg t).map (mB k)}
def wY (g:Bool) (off sz:Nat):Option Nat:=match g with
 |true=>if off=0 then some sz else none
 |false=>none
def St.gh (g:Bool) (st:St) (t:Nat):St:=
 match look st.sl t with
 |some (.ex sz n cs)=>({ st with sl:=(bH st.sl t).map (dG t)}:St).made (some t) { v:= .pv (.sl sz n cs)}
 |some (.bs k off sz n)=>match look st.bx k with
  |some cs=>(st.ep t k).made (some t) { v:= .pv (.sl sz n ((cs.drop off).take (n* sz))),gr:=wY g off sz}
  |none=>st
 |_=>st
abbrev St.OJ (st:St) (t:Nat):St:=st.gh true t
def St.pN (st:St) (t:Nat):St:=st.gh false t
def isRef:AV→Bool
 | .xr _| .xe .. =>true
 |_=>false
def Ks (v:AV):AV:=if isRef v then .dead else v
def l9 (l:List (Nat×AV)):List Nat→List (Nat×AV)
 |[]=>[]
 |k::ks=>match look l k with
  |some v=>(k,Ks v)::l9 l ks
  |none=>l9 l ks
def sF (l:List (Nat×List PV)):List Nat→List (Nat×List PV)
 |[]=>[]
 |k::ks=>match look l k with
  |some v=>(k,v)::sF l ks
  |none=>sF l ks
def Pl.of (k:Nat):Pl→Bool
 | .s t=>decide (t=k)
 | .c j _=>decide (j=k)
def vk (l:List (Pl×Nat)):List Nat→List (Pl×Nat)
 |[]=>[]
 |k::ks=>l.filter (fun x=>x.1.of k)++vk l ks
def oA:AV→List Nat
 | .bs k .. =>[k]
 | .mv _ k .. =>[k]
 | .tg k .. =>[k]
 |_=>[]
def refsOf:List (Nat×AV)→List Nat
 |[]=>[]
 |x::l=>oA x.2++refsOf l
def gk:Nat:=1000000
def oV (ks:List Nat):List Nat→List Nat
 |[]=>[]
 |k::l=>if ks.contains k||l.contains k then oV ks l else k::oV ks l
def kI (st:St) (ks:List Nat):List Nat:=ks++oV ks (refsOf (l9 st.sl ks)++(st.bx.map (·.1)).filter (fun k=>gk≤k))
def St.bK (st:St) (ks:List Nat):St:=
 { sl:=l9 st.sl ks,bx:=sF st.bx (kI st ks),gr:=vk st.gr ks,tg:=[]}
inductive Xt where
 |normal|exit (id:Nat)|ret
 deriving DecidableEq
def dstsOf:Code→List Nat
 | .region _ ops _=>ops.toList.filterMap (·.dst)
 | .seq a b| .cond _ a b=>dstsOf a++dstsOf b
 | .block _ c| .loop c=>dstsOf c
 | .rangeFunc _ ps a b=>ps.toList++(dstsOf a++dstsOf b)
 |_=>[]
def flat:Code→Bool
 | .seq a b| .cond _ a b=>flat a&&flat b
 | .block _ c| .loop c=>flat c
 | .rangeFunc .. =>false
 |_=>true
def yM (ks:List Nat):Cap→Bool
 | .bp k _=>ks.contains k
 |_=>false
def qA (ks:List Nat):AV→AV
 | .pv p=> .pv p
 | .bp k off=>if ks.contains k then .dead else .bp k off
 | .cl f caps=>if caps.any (yM ks) then .dead else .cl f caps
 |_=> .dead
def Kt (ks:List Nat) (x:Nat×AV):Nat×AV:=(x.1,qA ks x.2)
def Pl.tu (f:Nat→Bool):Pl→Bool
 | .s _=>false
 | .c k _=>f k
def St.iu (st:St) (ks:List Nat):St:=
 { sl:=st.sl.map (Kt ks),bx:=st.bx.filter (fun x=> !ks.contains x.1),gr:=st.gr.filter (fun x=>x.1.tu fun k=> !ks.contains k),tg:=[]}
def St.after (cR cur:St):St:=
 { sl:=cR.sl,bx:=cur.bx.filter (fun x=>(look cR.bx x.1).isSome),gr:=cur.gr.filter (fun x=>x.1.tu fun k=>(look cR.bx k).isSome),tg:=[]}
def mF:List Nat→List PV→St→St
 |p::ps,x::xs,st=>mF ps xs (st.put (some p) (.pv x))
 |_,_,st=>st
def fS (gp body:St→Option (Xt×St)) (cR:St) (ps:List Nat):List (List PV)→St→Option (Xt×St)
 |[],cur=>some (.normal,cR.after cur)
 |x::xs,cur=>(gp (mF ps x (cR.after cur))).bind fun
  |(.normal,s)=>(body s).bind fun
   |(.normal,s2)=>fS gp body cR ps xs s2
   |(e,s2)=>some (e,cR.after s2)
  |_=>none
def ze (step:Oper→St→Option St) (ops:Array Oper) (i:Nat) (st:St):Option St:=
 (ops[i]?).bind fun o=>(eo ops.toList o st).bind fun
  |true=>step o st
  |false=>some (st.put o.dst fN)
def pG (step:Oper→St→Option St) (ops:Array Oper):Nat→Array Bool→St→Option (List St)
 |0,listed,st=>if (Region.ready .any ops listed).isEmpty then some [st] else none
 |g+1,listed,st=>if (Region.ready .any ops listed).isEmpty then none else
   (Region.ready .any ops listed).foldr (fun i acc=>((ze step ops i st).bind (pG step ops g (listed.setIfInBounds i true))).bind fun l=>acc.map (l++ ·)) (some [])
open Classical in
noncomputable def oneOf (ks:List Nat):List St→Option St
 |[]=>none
 |s::l=>if ∀x∈l,x.bK ks=s.bK ks then some (s.bK ks) else none
noncomputable def cW (P:Program) (call:Cl) (it:Nat→List PV→Option (Nat×List (List PV))) (loop:(St→Option (Xt×St))→St→Option (Xt×St)) (note:Nat→fD):Code→St→Option (Xt×St)
 | .skip,st=>some (.normal,st)
 | .region id ops dr,st=>if dr&&(note id).perm then
     ((pG (lf P call) ops ops.size (Array.replicate ops.size false) ((note id).still.foldl St.pN st)).bind (oneOf (note id).keep)).map fun s=>(.normal,s)
   else (kD P call ops.toList dr ((note id).still.foldl St.pN st)).map fun s=>(.normal,s.bK (note id).keep)
 | .seq a b,st=>(cW P call it loop note a st).bind fun
   |(.normal,s)=>cW P call it loop note b s
   |r=>some r
 | .cond c t e,st=>(st.val c).bind fun
   | .bool true=>cW P call it loop note t st
   | .bool false=>cW P call it loop note e st
   |_=>none
 | .block id c,st=>(cW P call it loop note c st).map fun
   |(.exit j,s)=>if j=id then (.normal,s) else (.exit j,s)
   |r=>r
 | .loop c,st=>loop (cW P call it loop note c) st
 | .rangeFunc g ps gp body,st=>(st.pv g).bind fun
   | .fn f caps=>(it f caps).bind fun x=>if x.1=ps.size then
    fS (cW P call it loop note gp) (cW P call it loop note body) (st.iu (ps.toList++(dstsOf gp++dstsOf body))) ps.toList x.2 (st.iu (ps.toList++(dstsOf gp++dstsOf body))) else none
   |_=>none
 | .exit id,st=>some (.exit id,st)
 | .ret,st=>some (.ret,st)
 |_,_=>none
def St.fix (st:St):ResultVar→St
 | .tmp t=>st.OJ t
 | .cell _ _=>st
def kE (P:Program) (st:St):ResultVar→Option RV
 | .tmp t=>match look st.sl t with
   |some (.pv p)=>some ⟨p,aJ st.gr (.s t)⟩
   |_=>none
 | .cell t ty=>match look st.sl t with
   |some (.bp k o)=>(look st.bx k).bind fun cs=>(eA P ty cs o).map fun p=>⟨p,if ei P ty then none else aJ st.gr (.c k o)⟩
   |_=>none
def gN (P:Program) (st:St):List ResultVar→Option (List PV)
 |[]=>some []
 |r::l=>(kE P (st.fix r) r).bind fun v=>(gN P (st.fix r) l).map (v.v:: ·)
def pJ (P:Program) (st:St):ResultVar→Option RV
 | .tmp t=>match look st.sl t with
   |some (.cl f caps)=>(dK st caps).map fun ps=>⟨.fn f ps,none⟩
   |_=>kE P st (.tmp t)
 |r=>kE P st r
def jD (P:Program) (st:St):List ResultVar→Option RV
 |[r]=>pJ P (st.fix r) r
 |l=>(gN P st l).map fun vs=>⟨.aG vs,none⟩
def slotsOf:Nat→List PV→List (Nat×AV)
 |_,[]=>[]
 |i,p::l=>(i, .pv p)::slotsOf (i+1) l
def St.enter (args:List PV):St:={ sl:=slotsOf 0 args,bx:=[],gr:=[],tg:=[]}
noncomputable def uE (P:Program) (call:Cl) (it:Nat→List PV→Option (Nat×List (List PV))) (loop:(St→Option (Xt×St))→St→Option (Xt×St)) (note:Nat→fD) (fn:Func) (args:List PV):Option RV:=
 fn.body.bind fun c=>(cW P call it loop note c (.enter args)).bind fun
   |(.exit _,_)=>none
   |(_,st)=>jD P st fn.results.toList
def bg (f:St→Option (Xt×St)):Nat→St→Option (Xt×St)
 |0,_=>none
 |n+1,st=>(f st).bind fun
  |(.normal,s)=>bg f n s
  |r=>some r
def nC:Nat→List MA→List (Nat×AV)
 |_,[]=>[]
 |i, .p p::l=>(i, .pv p)::nC (i+1) l
 |i, .g _ off sz n::l=>(i, .bs gk off sz n)::nC (i+1) l
def dn:List MA→Option (List PV)
 |[]=>none
 | .g cs _ _ _::_=>some cs
 | .p _::l=>dn l
def jP:List MA→Nat
 |[]=>0
 | .g _ _ sz _::_=>sz
 | .p _::l=>jP l
def St.fU (ms:List MA):St:={ sl:=nC 0 ms,bx:=match dn ms with|some cs=>[(gk,cs)]|none=>[],gr:=[],tg:=[]}
def kM (st:St):List ResultVar→Option (List PV)
 |[]=>some []
 | .tmp t::l=>match look st.sl t with
   |some (.pv p)=>if ki p then (kM st l).map (p:: ·) else none
   |_=>none
 |_::_=>none
def uj (st:St) (jr:Nat):List ResultVar→Option MR
 |[]=>some (.pv (.aG []))
 |[.tmp t]=>match look st.sl t with
  |some (.pv p)=>if ki p then some (.pv p) else none
  |some (.bs k off s n)=>if k=gk∧s=jr then some (.gs off n) else none
  |_=>none
 | .tmp t::l=>match look st.sl t with
   |some (.bs k off s n)=>if k=gk∧s=jr then (kM st l).map (.gt off n) else none
   |_=>none
 |_=>none
noncomputable def qO (P:Program) (call:Cl) (it:Nat→List PV→Option (Nat×List (List PV))) (loop:(St→Option (Xt×St))→St→Option (Xt×St)) (note:Nat→fD) (fn:Func) (ms:List MA):Option (MR×List PV):=
 fn.body.bind fun c=>if flat c&&(dstsOf c).all (fun d=>d !=gk) then (cW P call it loop note c (.fU ms)).bind fun
   |(.exit _,_)=>none
   |(_,st)=>(uj st (jP ms) fn.results.toList).bind fun r=>(look st.bx gk).bind fun cs'=>(dn ms).bind fun cs=>if cs'.all cJ=true∧cs'.length=cs.length then some (r,cs') else none
   else none
structure jC where
 P:Program
 ur:Nat→Option ((Nat→List PV→Option RV)→List PV→Option RV)
 note:Nat→Nat→fD
 iter:Nat→List PV→Option (Nat×List (List PV)):=fun _ _=>none
 ex:Nat→Nat→Nat→Bool:=fun _ _ _=>false
 im:Nat→Bool:=fun _=>false
noncomputable def acl (M:jC):Nat→Cl
 |0=>{ fn:=fun _ _=>none}
 |n+1=>
  { fn:=fun f args=>match M.ur f with
      |some g=>g (acl M n).fn args
      |none=>(M.P.funcs[f]?).bind fun fn=>uE M.P { acl M n with ex:=M.ex f,im:=M.im} M.iter (fun g=>bg g n) (M.note f) fn args
    mu:=fun f ms=>match M.ur f with
     |some _=>none
     |none=>(M.P.funcs[f]?).bind fun fn=>qO M.P { acl M n with ex:=M.ex f,im:=M.im} M.iter (fun g=>bg g n) (M.note f) fn ms}
noncomputable def JE (M:jC) (n:Nat):Nat→List PV→Option RV:=(acl M n).fn
end Go.Proofs.YtibbgjafjhcemaaDoor.Cul
namespace Go.Proofs.YtibbgjafjhcemaaDoor.Cul
open Go
def AA (ops:Array Oper):Bool:=mD (vL ops.toList) ops
def mb (N:Nat) (ops:Array Oper) (draw:Bool):Bool:=
 (ops.toList.all fun o=>match o.dst with|some d=>decide (d<N)|none=>true)&&(!draw||AA ops||Ep ops.toList)
def bR (N:Nat):Code→Bool
 | .region _ ops dr=>mb N ops dr
 | .seq a b=>bR N a&&bR N b
 | .cond _ a b=>bR N a&&bR N b
 | .block _ c=>bR N c
 | .loop c=>bR N c
 | .rangeFunc _ ps a b=>flat a&&flat b&&bR N a&&bR N b&&ps.toList.all fun p=>decide (p<N)
 | .skip| .exit _| .ret=>true
 |_=>false
def uo (fn:Func):Bool:=match fn.body with|some c=>bR fn.ntmps c&& !(fn.name== "runtime.NumGoroutine")|none=>true
end Go.Proofs.YtibbgjafjhcemaaDoor.Cul
namespace Go.Proofs.YtibbgjafjhcemaaDoor.Cul
open Go Go.RowKit
abbrev aC:=Nat→Nat→Prop
mutual
inductive Rp (w:World) (Pr:aC):PV→Value→Prop
 |lit {v:Value} (h:ir v=true):Rp w Pr (.lit v) v
 |sl {sz n cap b o:Nat} {cs:List PV} {vs:List Value} (hr:aO w Pr cs vs) (h1:∀v∈vs,v.oneCell'=true) (hl:cs.length=n* sz) (hn:n≤cap)
  (hc:w.rangeAt b o vs) (hp:∀i,i<vs.length→Pr b (o+i)):Rp w Pr (.sl sz n cs) (.slice (some ⟨b,o,none⟩) n cap)
 |n8 {sz:Nat}:Rp w Pr (.sl sz 0 []) (.slice none 0 0)
 |el {b o:Nat} {cs:List PV} {vs:List Value} (hr:aO w Pr cs vs) (h1:∀v∈vs,v.oneCell'=true)
  (hc:w.rangeAt b o vs) (hp:∀i,i<vs.length→Pr b (o+i)):Rp w Pr (.el cs) (.pointer (some ⟨b,o,none⟩))
 |fn {f:Nat} {cs:List PV} {vs:List Value} (hr:aO w Pr cs vs):Rp w Pr (.fn f cs) (.func (.func f) #[] vs.toArray)
 |ag {cs:List PV} {vs:List Value} (hr:aO w Pr cs vs) (h1:∀v∈vs,v.oneCell'=true):Rp w Pr (.ag cs) (.agg vs.toArray)
 |aG {cs:List PV} {vs:List Value} (hr:aO w Pr cs vs):Rp w Pr (.aG cs) (.tuple vs.toArray)
inductive aO (w:World) (Pr:aC):List PV→List Value→Prop
 |nil:aO w Pr [] []
 |cons {p:PV} {v:Value} {cs:List PV} {vs:List Value} (h:Rp w Pr p v) (hs:aO w Pr cs vs):aO w Pr (p::cs) (v::vs)
end
structure Kp (w:World) (Pr:aC) (w':World) (aD:aC):Prop where
 pr:∀b o,Pr b o→aD b o
 cell:∀b o,Pr b o→w'.cell? ⟨b,o,none⟩=w.cell? ⟨b,o,none⟩
theorem Kp.refl (w:World) (Pr:aC):Kp w Pr w Pr:=⟨fun _ _ h=>h,fun _ _ _=>rfl⟩
theorem Kp.trans {w w1 w2:World} {Pr lS k9:aC} (h:Kp w Pr w1 lS) (k:Kp w1 lS w2 k9):Kp w Pr w2 k9:=
 ⟨fun b o x=>k.pr b o (h.pr b o x),fun b o x=>(k.cell b o (h.pr b o x)).trans (h.cell b o x)⟩
theorem Kp.range {w w':World} {Pr aD:aC} (h:Kp w Pr w' aD) {b o:Nat} {vs:List Value} (hc:w.rangeAt b o vs) (hp:∀i,i<vs.length→Pr b (o+i)):w'.rangeAt b o vs:=fun j v hj=>by
 have hlt:j<vs.length:=(List.getElem?_eq_some_iff.1 hj).1
 rw [h.cell b (o+j) (hp j hlt)];exact hc j v hj
mutual
theorem Rp.mono {w w':World} {Pr aD:aC} (k:Kp w Pr w' aD):∀{p:PV} {v:Value},Rp w Pr p v→Rp w' aD p v
 |_,_, .lit h=> .lit h
 |_,_, .sl hr h1 hl hn hc hp=> .sl (aO.mono k hr) h1 hl hn (k.range hc hp) (fun i hi=>k.pr _ _ (hp i hi))
 |_,_, .n8=> .n8
 |_,_, .el hr h1 hc hp=> .el (aO.mono k hr) h1 (k.range hc hp) (fun i hi=>k.pr _ _ (hp i hi))
 |_,_, .fn hr=> .fn (aO.mono k hr)
 |_,_, .ag hr h1=> .ag (aO.mono k hr) h1
 |_,_, .aG hr=> .aG (aO.mono k hr)
theorem aO.mono {w w':World} {Pr aD:aC} (k:Kp w Pr w' aD):∀{cs:List PV} {vs:List Value},aO w Pr cs vs→aO w' aD cs vs
 |_,_, .nil=> .nil
 |_,_, .cons h hs=> .cons (Rp.mono k h) (aO.mono k hs)
end
section
variable {w:World} {Pr:aC}
theorem aO.length:∀{cs:List PV} {vs:List Value},aO w Pr cs vs→cs.length=vs.length
 |_,_, .nil=>rfl
 |_,_, .cons _ hs=>by simp [aO.length hs]
theorem aO.get:∀{cs:List PV} {vs:List Value},aO w Pr cs vs→∀(i:Nat) (p:PV),cs[i]? =some p→∃v,vs[i]? =some v∧Rp w Pr p v
 |_,_, .nil,i,p,h=>by simp at h
 |_,_, .cons h hs,0,p,e=>by simp at e;subst e;exact ⟨_,rfl,h⟩
 |_,_, .cons h hs,i+1,p,e=>by simpa using aO.get hs i p (by simpa using e)
theorem aO.take:∀{cs:List PV} {vs:List Value},aO w Pr cs vs→∀n,aO w Pr (cs.take n) (vs.take n)
 |_,_, .nil,n=>by simp;exact .nil
 |_,_, .cons h hs,0=>by simp;exact .nil
 |_,_, .cons h hs,n+1=>by simp only [List.take_succ_cons];exact .cons h (aO.take hs n)
theorem aO.drop:∀{cs:List PV} {vs:List Value},aO w Pr cs vs→∀n,aO w Pr (cs.drop n) (vs.drop n)
 |_,_, .nil,n=>by simp;exact .nil
 |_,_, .cons h hs,0=> .cons h hs
 |_,_, .cons h hs,n+1=>by simp only [List.drop_succ_cons];exact aO.drop hs n
theorem aO.app:∀{cs:List PV} {vs:List Value},aO w Pr cs vs→∀{ds:List PV} {us:List Value},aO w Pr ds us→aO w Pr (cs++ds) (vs++us)
 |_,_, .nil,_,_,k=>k
 |_,_, .cons h hs,_,_,k=> .cons h (aO.app hs k)
theorem xX:∀{l:List Value} {ps:List PV},rI l=some ps→aO w Pr ps l∧(∀v∈l,v.oneCell'=true)
 |[],ps,h=>by simp [rI] at h;subst h;exact ⟨.nil,by simp⟩
 |v::l,ps,h=>by
  simp only [rI] at h
  split at h
  · rename_i hs
    simp only [Option.map_eq_some_iff] at h
    obtain ⟨qs,hq,rfl⟩:=h
    obtain ⟨h1,h2⟩:=xX hq
    refine ⟨.cons (.lit hs) h1,fun u hu=> ?_⟩
    rcases List.mem_cons.1 hu with rfl|hu
    · cases u<;>simp_all [ir,Value.oneCell']
    · exact h2 u hu
  · simp at h
theorem oY {v:Value} {p:PV} (h:iS v=some p):Rp w Pr p v:=by
 unfold iS at h
 split at h
 · simp only [Option.map_eq_some_iff] at h
   obtain ⟨ps,hp,rfl⟩:=h
   obtain ⟨h1,h2⟩:=xX (w:=w) (Pr:=Pr) hp
   exact .ag h1 h2
 · split at h
   · simp at h;subst h;exact .lit ‹_›
   · simp at h
theorem yF:∀{ps:List PV} {l vs:List Value},eL ps=some l→aO w Pr ps vs→vs=l
 |[],l,vs,h,k=>by simp [eL] at h;cases k;exact h.symm
 | .lit v::ps,l,vs,h,k=>by
   simp only [eL,Option.map_eq_some_iff] at h
   obtain ⟨q,hq,rfl⟩:=h
   cases k with
   |cons h1 h2=>cases h1;rw [yF hq h2]
 | .sl .. ::ps,l,vs,h,k=>by simp [eL] at h
 | .el .. ::ps,l,vs,h,k=>by simp [eL] at h
 | .fn .. ::ps,l,vs,h,k=>by simp [eL] at h
 | .ag .. ::ps,l,vs,h,k=>by simp [eL] at h
 | .aG .. ::ps,l,vs,h,k=>by simp [eL] at h
theorem qC {p:PV} {v u:Value} (h:valOf p=some v) (k:Rp w Pr p u):u=v:=by
 unfold valOf at h
 split at h
 · simp at h;subst h;cases k;rfl
 · simp only [Option.map_eq_some_iff] at h
   obtain ⟨l,hl,rfl⟩:=h
   cases k with
   |ag hr h1=>rw [yF hl hr]
 · simp at h;subst h
   cases k with
   |fn hr=>cases hr;rfl
 · simp at h
theorem wE:∀{ps:List PV} {l:List Value},eL ps=some l→∀{w':World} {aD:aC} {vs:List Value},aO w Pr ps vs→aO w' aD ps vs
 |[],l,h,_,_,vs,k=>by cases k;exact .nil
 | .lit v::ps,l,h,_,_,vs,k=>by
   simp only [eL,Option.map_eq_some_iff] at h
   obtain ⟨q,hq,rfl⟩:=h
   cases k with
   |cons h1 h2=>cases h1 with|lit hs=>exact .cons (.lit hs) (wE hq h2)
 | .sl .. ::ps,l,h,_,_,vs,k=>by simp [eL] at h
 | .el .. ::ps,l,h,_,_,vs,k=>by simp [eL] at h
 | .fn .. ::ps,l,h,_,_,vs,k=>by simp [eL] at h
 | .ag .. ::ps,l,h,_,_,vs,k=>by simp [eL] at h
 | .aG .. ::ps,l,h,_,_,vs,k=>by simp [eL] at h
theorem yD {p:PV} {v u:Value} (h:valOf p=some v) (k:Rp w Pr p u) {w':World} {aD:aC}:Rp w' aD p u:=by
 unfold valOf at h
 split at h
 · cases k with|lit hs=>exact .lit hs
 · simp only [Option.map_eq_some_iff] at h
   obtain ⟨l,hl,rfl⟩:=h
   cases k with
   |ag hr h1=>exact .ag (wE hl hr) h1
 · cases k with
   |fn hr=>cases hr;exact .fn .nil
 · simp at h
theorem Rp.iI {p:PV} {v:Value} (h:Rp w Pr p v) (ht:∀vs,p≠ .aG vs):aO w Pr p.cells v.cells.toList∧∀u∈v.cells.toList,u.oneCell'=true:=by
 cases h with
 |lit hs=>
  have:v.cells= #[v]:=by cases v<;>simp_all [ir,Value.cells]
  rw [this];refine ⟨.cons (.lit hs) .nil, ?_⟩
  simp;cases v<;>simp_all [ir,Value.oneCell']
 |sl hr h1 hl hn hc hp=>exact ⟨.cons (.sl hr h1 hl hn hc hp) .nil,by simp [Value.cells,Value.oneCell']⟩
 |n8=>exact ⟨.cons .n8 .nil,by simp [Value.cells,Value.oneCell']⟩
 |el hr h1 hc hp=>exact ⟨.cons (.el hr h1 hc hp) .nil,by simp [Value.cells,Value.oneCell']⟩
 |fn hr=>exact ⟨.cons (.fn hr) .nil,by simp [Value.cells,Value.oneCell']⟩
 |ag hr h1=>simpa [PV.cells,Value.cells] using ⟨hr,h1⟩
 |aG hr=>exact absurd rfl (ht _)
end
theorem iV {w:World} {b o:Nat} {vs:List Value} (h:w.rangeAt b o vs) (n:Nat):w.rangeAt b o (vs.take n):=fun j v hj=>by
 rw [List.getElem?_take] at hj;split at hj
 · exact h j v hj
 · simp at hj
theorem dF {w:World} {b o:Nat} {vs:List Value} (h:w.rangeAt b o vs) (n:Nat):w.rangeAt b (o+n) (vs.drop n):=fun j v hj=>by
 rw [List.getElem?_drop] at hj
 have:=h (n+j) v hj
 rwa [←Nat.add_assoc] at this
theorem mR {α:Type} (P:Program):∀(s:Sem α) (a:α),aB P s=some a→∀w,s.run P w= .ok a w
 | .pure b,a,h,w=>by simp [aB] at h;subst h;rfl
 | .program k,a,h,w=>by simp only [aB] at h;simp only [Sem.run];exact mR P (k P) a h w
 | .mark _ k,a,h,w=>by simp only [aB] at h;simp only [Sem.run];exact mR P k a h w
 | .load ..,a,h,_| .store ..,a,h,_| .new ..,a,h,_| .shape ..,a,h,_| .freeze ..,a,h,_| .frozen ..,a,h,_| .getObj ..,a,h,_| .setObj ..,a,h,_| .choose ..,a,h,_| .sys ..,a,h,_| .halt ..,a,h,_=>by simp [aB] at h
theorem me {P:Program} {s:Sem Value} {p:PV} (h:cM P s=some p) (w:World) (Pr:aC):∃v,s.run P w= .ok v w∧Rp w Pr p v:=by
 unfold cM at h
 simp only [Option.bind_eq_some_iff] at h
 obtain ⟨v,hv,hp⟩:=h
 exact ⟨v,mR P s v hv w,oY hp⟩
end Go.Proofs.YtibbgjafjhcemaaDoor.Cul
namespace Go.Proofs.YtibbgjafjhcemaaDoor.Cul
open Go Go.RowKit
inductive Key where
 |bx (k:Nat)
 |sx (t:Nat)
 |cx (k off:Nat)
 deriving DecidableEq
def Pl.key:Pl→Key
 | .s t=> .sx t
 | .c k o=> .cx k o
def ee (st:St) (t:Nat):Prop:=∃sz n cs,look st.sl t=some (.ex sz n cs)
def ud (st:St) (p:Pl):Prop:=∃z,aJ st.gr p=some z
def live (st:St):Key→Prop
 | .bx k=>∃cs,look st.bx k=some cs
 | .sx t=>ee st t∨ud st (.s t)
 | .cx k o=>ud st (.c k o)
def One (vs:List Value):Prop:=∀v∈vs,v.oneCell'=true
def gT (w:World) (Pr:aC) (bk:Key→Nat):Cap→Value→Prop
 | .pv p,v=>Rp w Pr p v
 | .bp k off,v=>v= .pointer (some ⟨bk (.bx k),off,none⟩)
structure Room (w:World) (Pr:aC) (b o n cap sz:Nat):Prop where
 hz:0<sz
 le:n≤cap
 there:∃cells T,w.heap[b]? =some (.cells cells T (0,0))∧o+cap* sz≤cells.size
 pr:∀o',Pr b o'→o'<o+n* sz
def gS (st:St) (w:World) (bk:Key→Nat) (k off sz n:Nat) (v:Value):Prop:=
 ∃o cap cs c T,v= .slice (some ⟨bk (.bx k),o,none⟩) n cap∧(o=off∨(n=0∧0<off))∧look st.bx k=some cs∧off+n* sz≤cs.length∧0<sz∧n≤cap∧w.heap[bk (.bx k)]? =some (.cells c T (0,0))∧o+cap* sz≤c.size
theorem gS.to {st st':St} {w w':World} {bk aQ:Key→Nat} {k off sz n:Nat} {v:Value} (hb:aQ (.bx k)=bk (.bx k)) (hx:∀cs,look st.bx k=some cs→∃cs',look st'.bx k=some cs'∧cs'.length=cs.length)
  (hh:∀c T,w.heap[bk (.bx k)]? =some (.cells c T (0,0))→∃c',w'.heap[bk (.bx k)]? =some (.cells c' T (0,0))∧c'.size=c.size) (h:gS st w bk k off sz n v):gS st' w' aQ k off sz n v:=by
 obtain ⟨o,cap,cs,c,T,h1,h0,h2,h3,h4,h5,h6,h7⟩:=h
 obtain ⟨cs',h8,h9⟩:=hx cs h2
 obtain ⟨c',h10,h11⟩:=hh c T h6
 exact ⟨o,cap,cs',c',T,by rw [hb];exact h1,h0,h8,by omega,h4,h5,by rw [hb];exact h10,by omega⟩
theorem gS.world {st:St} {w w':World} {bk:Key→Nat} {k off sz n:Nat} {v:Value} (hh:∀c T,w.heap[bk (.bx k)]? =some (.cells c T (0,0))→∃c',w'.heap[bk (.bx k)]? =some (.cells c' T (0,0))∧c'.size=c.size) (h:gS st w bk k off sz n v):gS st w' bk k off sz n v:=
 h.to rfl (fun cs e=>⟨cs,e,rfl⟩) hh
theorem gS.frame {st st':St} {w:World} {bk aQ:Key→Nat} {k off sz n:Nat} {v:Value} (hb:aQ (.bx k)=bk (.bx k)) (hx:∀cs,look st.bx k=some cs→∃cs',look st'.bx k=some cs'∧cs'.length=cs.length) (h:gS st w bk k off sz n v):gS st' w aQ k off sz n v:=
 h.to hb hx (fun c T e=>⟨c,e,rfl⟩)
def dJ (st:St) (a:Act) (w:World) (Pr:aC) (bk:Key→Nat) (t:Nat):AV→Value→Prop
 | .pv p,v=>Rp w Pr p v
 | .bp k off,v=>v= .pointer (some ⟨bk (.bx k),off,none⟩)
 | .cl f caps,v=>∃vs:List Value,v= .func (.func f) #[] vs.toArray∧vs.length=caps.length∧∀(i:Nat) (c:Cap) (u:Value),caps[i]? =some c→vs[i]? =some u→gT w Pr bk c u
 | .ex sz n cs,v=>∃(o cap:Nat) (vs:List Value),v= .slice (some ⟨bk (.sx t),o,none⟩) n cap∧aO w Pr cs vs∧One vs∧cs.length=n* sz∧w.rangeAt (bk (.sx t)) o vs∧Room w Pr (bk (.sx t)) o n cap sz∧∀o',¬Pr (bk (.sx t)) o'
 | .xr u,v=>a.tmps[u]? =some v∧ee st u
 | .xe u off,v=>(∃b o n cap,a.tmps[u]? =some (.slice (some ⟨b,o,none⟩) n cap)∧v= .pointer (some ⟨b,o+off,none⟩))∧ee st u
 | .bX _ _,_=>False
 | .dead,_=>True
 | .bs k off sz n,v=>gS st w bk k off sz n v
 | .mv f k off sz n,v=>∃u,v= .func (.func f) #[u] #[]∧gS st w bk k off sz n u
 | .tg k off sz n rest,v=>∃u us,v= .tuple (u::us).toArray∧gS st w bk k off sz n u∧aO w Pr rest us
def cP (a:Act) (w:World) (bk:Key→Nat):Pl→Option Value
 | .s t=>a.tmps[t]?
 | .c k o=>w.cell? ⟨bk (.bx k),o,none⟩
def Mark (base:Nat) (w:World) (d:Deferred):Prop:=∃D,d={ target:= .collected D,args:= #[]}∧w.heap[D]? =some (.deferred (some []))∧base≤D
structure Inv (base:Nat) (w:World) (Pr:aC) (bk:Key→Nat) (st:St) (a:Act) (N:Nat):Prop where
 size:a.tmps.size=N
 defers:(∀d∈a.defers,Mark base w d)∧a.defers.Nodup
 hb:base≤w.heap.size
 bL:∀b o,Pr b o→b<w.heap.size
 slots:∀t av,look st.sl t=some av→∃v,a.tmps[t]? =some v∧dJ st a w Pr bk t av v
 own:∀x,live st x→base≤bk x∧bk x<w.heap.size
 inj:∀x y,live st x→live st y→bk x=bk y→x=y
 boxes:∀k cs,look st.bx k=some cs→(∃T c vs,w.heap[bk (.bx k)]? =some (.cells c T (0,0))∧vs<+:c.toList∧aO w Pr cs vs∧One vs)∧∀o,¬Pr (bk (.bx k)) o
 gQ:∀t z,aJ st.gr (.s t)=some z→∃o n cap cs,look st.sl t=some (.pv (.sl z n cs))∧a.tmps[t]? =some (.slice (some ⟨bk (.sx t),o,none⟩) n cap)∧Room w Pr (bk (.sx t)) o n cap z∧o=0
 iA:∀k i z,aJ st.gr (.c k i)=some z→∃o n cap cs di,look st.bx k=some di∧di[i]? =some (.sl z n cs)∧w.cell? ⟨bk (.bx k),i,none⟩=some (.slice (some ⟨bk (.cx k i),o,none⟩) n cap)∧Room w Pr (bk (.cx k i)) o n cap z∧o=0
 tags:∀t q,look st.tg t=some (some q)→ud st q→cP a w bk q=a.tmps[t]?
structure Fw (w:World) (Pr:aC) (w':World) (aD:aC):Prop where
 gO:Below w.heap.size w w'
 pr:∀b o,Pr b o→aD b o
 old:∀b o,b<w.heap.size→aD b o→Pr b o
 new:∀b o,aD b o→b<w'.heap.size
theorem Fw.heap {w w':World} {Pr aD:aC} (x:Fw w Pr w' aD) {b:Nat} (h:b<w.heap.size):w'.heap[b]? =w.heap[b]? :=x.gO.block b h
theorem Fw.kp {w w':World} {Pr aD:aC} (x:Fw w Pr w' aD) (hp:∀b o,Pr b o→b<w.heap.size):Kp w Pr w' aD:=
 ⟨x.pr,fun b o h=>x.gO.cell (p:=⟨b,o,none⟩) (hp b o h)⟩
theorem Fw.refl {w:World} {Pr:aC} (hp:∀b o,Pr b o→b<w.heap.size):Fw w Pr w Pr:=⟨Below.refl _ _,fun _ _ h=>h,fun _ _ _ h=>h,hp⟩
theorem Fw.trans {w w1 w2:World} {Pr lS k9:aC} (x:Fw w Pr w1 lS) (y:Fw w1 lS w2 k9):Fw w Pr w2 k9:=
 ⟨x.gO.trans (y.gO.mono x.gO.size),fun b o h=>y.pr b o (x.pr b o h),fun b o hb h=>x.old b o hb (y.old b o (Nat.lt_of_lt_of_le hb x.gO.size) h),y.new⟩
structure KO (w w':World):Prop extends KeepsOthers w w' where
 sized:∀(k:Nat) (c:Array Value) (T:TypeId) (fz:Nat×Nat),w.heap[k]? =some (.cells c T fz)→∃c',w'.heap[k]? =some (.cells c' T fz)∧c'.size=c.size
theorem KO.refl (w:World):KO w w:=⟨KeepsOthers.refl w,fun k c T fz h=>⟨c,h,rfl⟩⟩
theorem KO.trans {a b c:World} (h:KO a b) (k:KO b c):KO a c:=⟨h.toKeepsOthers.trans k.toKeepsOthers,fun i x T fz e=>by
 obtain ⟨y,e1,e2⟩:=h.sized i x T fz e
 obtain ⟨z,e3,e4⟩:=k.sized i y T fz e1
 exact ⟨z,e3,e4.trans e2⟩⟩
theorem KO.from {w w':World} (h:KO w w') (B:Nat):KeepsFrom B w w':=h.toKeepsOthers.from B
theorem Fw.ko {w w':World} {Pr aD:aC} (x:Fw w Pr w' aD):KO w w':=
 ⟨⟨x.gO.size,fun k o h _=>(x.heap (Array.getElem?_eq_some_iff.1 h).1).trans h⟩,fun k c T fz h=>⟨c,(x.heap (Array.getElem?_eq_some_iff.1 h).1).trans h,rfl⟩⟩
theorem Room.fw {w w':World} {Pr aD:aC} (x:Fw w Pr w' aD) {b o n cap sz:Nat} (h:Room w Pr b o n cap sz) (hb:b<w.heap.size):Room w' aD b o n cap sz:=
 ⟨h.hz,h.le,by obtain ⟨c,T,h1,h2⟩:=h.there;exact ⟨c,T,(x.heap hb).trans h1,h2⟩,fun o' ho=>h.pr o' (x.old b o' hb ho)⟩
theorem iU {w w':World} {b o:Nat} {vs:List Value} (h:w'.heap[b]? =w.heap[b]?) (hc:w.rangeAt b o vs):w'.rangeAt b o vs:=fun j v hj=>by
 have:=hc j v hj;rw [←this];exact World.cell?_of_block (w:=w) h
section
variable {base:Nat} {w w':World} {Pr aD:aC} {bk:Key→Nat} {st:St} {a:Act} {N:Nat}
theorem gT.mono (k:Kp w Pr w' aD) {c:Cap} {v:Value} (h:gT w Pr bk c v):gT w' aD bk c v:=by
 cases c with
 |pv p=>exact Rp.mono k h
 |bp k off=>exact h
theorem dJ.fw (I:Inv base w Pr bk st a N) (x:Fw w Pr w' aD) {t:Nat} {av:AV} {v:Value} (ht:look st.sl t=some av) (h:dJ st a w Pr bk t av v):dJ st a w' aD bk t av v:=by
 have k:=x.kp I.bL
 cases av with
 |pv p=>exact Rp.mono k h
 |bp k off=>exact h
 |cl f caps=>obtain ⟨vs,h1,h2,h3⟩:=h;exact ⟨vs,h1,h2,fun i c u hc hu=>gT.mono k (h3 i c u hc hu)⟩
 |ex sz n cs=>
  obtain ⟨o,cap,vs,h1,h2,h3,h4,h5,h6,h7⟩:=h
  have hb:=(I.own (.sx t) (.inl ⟨sz,n,cs,ht⟩)).2
  exact ⟨o,cap,vs,h1,aO.mono k h2,h3,h4,iU (x.heap hb) h5,h6.fw x hb,fun o' ho=>h7 o' (x.old _ _ hb ho)⟩
 |xr u=>exact h
 |xe u off=>exact h
 |bX _ _=>exact h
 |dead=>exact h
 |bs k off sz n=>exact h.world fun c T e=>⟨c,(x.heap (Array.getElem?_eq_some_iff.1 e).1).trans e,rfl⟩
 |mv f k off sz n=>obtain ⟨u,h1,h2⟩:=h;exact ⟨u,h1,h2.world fun c T e=>⟨c,(x.heap (Array.getElem?_eq_some_iff.1 e).1).trans e,rfl⟩⟩
 |tg k2 off sz n rest=>obtain ⟨u,us,h1,h2,h3⟩:=h;exact ⟨u,us,h1,h2.world fun c T e=>⟨c,(x.heap (Array.getElem?_eq_some_iff.1 e).1).trans e,rfl⟩,aO.mono k h3⟩
theorem Inv.fw (I:Inv base w Pr bk st a N) (x:Fw w Pr w' aD):Inv base w' aD bk st a N where
 size:=I.size
 defers:=⟨fun d hd=>by
  obtain ⟨D,h1,h2,h3⟩:=I.defers.1 d hd
  exact ⟨D,h1,(x.heap (Array.getElem?_eq_some_iff.1 h2).1).trans h2,h3⟩,I.defers.2⟩
 hb:=Nat.le_trans I.hb x.gO.size
 bL:=x.new
 slots t av ht:=by obtain ⟨v,h1,h2⟩:=I.slots t av ht;exact ⟨v,h1,dJ.fw I x ht h2⟩
 own y hy:=⟨(I.own y hy).1,Nat.lt_of_lt_of_le (I.own y hy).2 x.gO.size⟩
 inj:=I.inj
 boxes k cs hk:=by
  obtain ⟨⟨T,c,vs,h1,h0,h2,h3⟩,h4⟩:=I.boxes k cs hk
  have hb:=(I.own (.bx k) ⟨cs,hk⟩).2
  exact ⟨⟨T,c,vs,(x.heap hb).trans h1,h0,aO.mono (x.kp I.bL) h2,h3⟩,fun o ho=>h4 o (x.old _ _ hb ho)⟩
 gQ t z h:=by
  obtain ⟨o,n,cap,cs,h1,h2,h3,h0⟩:=I.gQ t z h
  exact ⟨o,n,cap,cs,h1,h2,h3.fw x (I.own (.sx t) (.inr ⟨z,h⟩)).2,h0⟩
 iA k i z h:=by
  obtain ⟨o,n,cap,cs,di,h1,h2,h3,h4,h0⟩:=I.iA k i z h
  exact ⟨o,n,cap,cs,di,h1,h2,(x.gO.cell (p:=⟨_,_,none⟩) (I.own (.bx k) ⟨di,h1⟩).2).trans h3,h4.fw x (I.own (.cx k i) ⟨z,h⟩).2,h0⟩
 tags t q h hg:=by
  have:=I.tags t q h hg
  cases q with
  |s u=>exact this
  |c k o=>
   obtain ⟨z,hz⟩:=hg
   obtain ⟨_,_,_,_,di,h1,_⟩:=I.iA k o z hz
   exact (x.gO.cell (p:=⟨_,_,none⟩) (I.own (.bx k) ⟨di,h1⟩).2).trans this
end
theorem bD {α:Type}:∀(l:List (Nat×α)) (d t:Nat),look (bH l d) t=if t=d then none else look l t
 |[],d,t=>by simp [bH,look]
 |(k,v)::l,d,t=>by
  simp only [bH]
  have ih:=bD l d t
  by_cases h:k=d
  · rw [if_pos h,ih];subst h
    by_cases ht:t=k
    · simp [ht]
    · simp [ht,look,Ne.symm ht]
  · rw [if_neg h];simp only [look]
    by_cases hk:k=t
    · subst hk;simp [h]
    · rw [if_neg hk,ih,if_neg hk]
theorem bT {α β:Type} (f:Nat×α→Nat×β) (g:Nat→α→β) (hf:∀x,f x=(x.1,g x.1 x.2)):∀(l:List (Nat×α)) (t:Nat),look (l.map f) t=(look l t).map (g t)
 |[],t=>rfl
 |(k,v)::l,t=>by
  simp only [List.map_cons,hf,look]
  by_cases h:k=t
  · subst h;simp
  · rw [if_neg h,if_neg h];exact bT f g hf l t
theorem ek (p:Pl→Bool):∀(l:List (Pl×Nat)) (t:Pl),aJ (l.filter (fun x=>p x.1)) t=if p t then aJ l t else none
 |[],t=>by simp [aJ]
 |(k,v)::l,t=>by
  have ih:=ek p l t
  simp only [List.filter_cons]
  by_cases hk:p k=true
  · simp only [hk,if_true,aJ]
    by_cases h:k=t
    · subst h;simp [hk]
    · rw [if_neg h,if_neg h];exact ih
  · simp only [hk,Bool.false_eq_true,if_false,ih,aJ]
    by_cases h:k=t
    · subst h;simp [hk]
    · rw [if_neg h]
theorem jt {α:Type} (p:Nat→Bool):∀(l:List (Nat×α)) (t:Nat),look (l.filter (fun x=>p x.1)) t=if p t then look l t else none
 |[],t=>by simp [look]
 |(k,v)::l,t=>by
  have ih:=jt p l t
  simp only [List.filter_cons]
  by_cases hk:p k=true
  · simp only [hk,if_true,look]
    by_cases h:k=t
    · subst h;simp [hk]
    · rw [if_neg h,if_neg h];exact ih
  · simp only [hk,Bool.false_eq_true,if_false,ih,look]
    by_cases h:k=t
    · subst h;simp [hk]
    · rw [if_neg h]
theorem jI (st:St) (d:Nat) (v:AV) (t:Nat):look (st.put (some d) v).sl t=(if t=d then some v else look st.sl t).map fun av=>if bu d av then .dead else av:=by
 simp only [St.put,look,dG]
 by_cases h:d=t
 · simp [h]
 · rw [if_neg h,if_neg (Ne.symm h),bT (dG d) (fun _ av=>if bu d av then .dead else av) (fun _=>rfl),bD,if_neg (Ne.symm h)]
theorem xY (st:St) (d:Nat) (v:AV) (p:Pl):aJ (st.put (some d) v).gr p=if p= .s d then none else aJ st.gr p:=by
 simp only [St.put]
 have:=ek (fun q=>decide (q≠Pl.s d)) st.gr p
 simp only [ne_eq,decide_not,Bool.not_eq_eq_eq_not,Bool.not_true,decide_eq_false_iff_not,ite_not] at this ⊢
 exact this
theorem xZ (st:St) (d:Nat) (v:AV) (t:Nat):look (st.put (some d) v).tg t=if t=d then none else (look st.tg t).map fun q=>if q=some (.s d) then none else q:=by
 simp only [St.put]
 rw [bT (fX (.s d)) (fun _ q=>if q=some (.s d) then none else q) (fun _=>rfl),bD]
 by_cases h:t=d
 · simp [h]
 · simp [h]
end Go.Proofs.YtibbgjafjhcemaaDoor.Cul
namespace Go.Proofs.YtibbgjafjhcemaaDoor.Cul
open Go Go.RowKit
theorem cr {a:Act} {d:Nat} {v:Value} (h:d<a.tmps.size) (t:Nat):(a.put (some d) v).tmps[t]? =if t=d then some v else a.tmps[t]? :=by
 simp only [Act.put]
 by_cases e:t=d
 · subst e;simp [Array.getElem?_setIfInBounds_self_of_lt,h]
 · rw [if_neg e,Array.getElem?_setIfInBounds_ne (Ne.symm e)]
structure dy (base:Nat) (w:World) (Pr:aC) (bk:Key→Nat) (st:St) (a:Act) (m:Made) (v:Value):Prop where
 val:(∀sz n cs,m.v≠ .ex sz n cs)→∀t,dJ st a w Pr bk t m.v v
 ex:∀sz n cs,m.v= .ex sz n cs→m.gr=none∧∃(b o cap:Nat) (vs:List Value),v= .slice (some ⟨b,o,none⟩) n cap∧aO w Pr cs vs∧One vs∧cs.length=n* sz∧w.rangeAt b o vs∧Room w Pr b o n cap sz∧
  (∀o',¬Pr b o')∧base≤b∧b<w.heap.size∧∀x,live st x→bk x≠b
 gr:∀z,m.gr=some z→∃b o n cap cs,m.v= .pv (.sl z n cs)∧v= .slice (some ⟨b,o,none⟩) n cap∧Room w Pr b o n cap z∧o=0∧base≤b∧b<w.heap.size∧∀x,live st x→bk x≠b
 tg:∀q,m.tg=some q→ud st q→cP a w bk q=some v
section
variable {base:Nat} {w:World} {Pr:aC} {bk:Key→Nat} {st:St} {a:Act} {N d:Nat} {m:Made} {v:Value}
theorem jR (st:St) (d:Nat) (m:Made) (t:Nat):look (st.made (some d) m).sl t=(if t=d then some m.v else look st.sl t).map fun av=>if bu d av then .dead else av:=jI st d m.v t
theorem fY (st:St) (d:Nat) (m:Made) (p:Pl):aJ (st.made (some d) m).gr p=if p= .s d then m.gr else aJ st.gr p:=by
 have h:=xY st d m.v p
 cases e:m.gr with
 |none=>simp only [St.made,e];rw [h]
 |some z=>
  simp only [St.made,e,aJ]
  by_cases hp:p= .s d
  · subst hp;simp
  · rw [if_neg (Ne.symm hp),h,if_neg hp,if_neg hp]
theorem vo (st:St) (d:Nat) (m:Made) (t:Nat):look (st.made (some d) m).tg t=if t=d then m.tg.map some else (look st.tg t).map fun q=>if q=some (.s d) then none else q:=by
 have h:=xZ st d m.v t
 cases e:m.tg with
 |none=>simp only [St.made,e];rw [h];simp
 |some p=>
  simp only [St.made,e,look]
  by_cases hp:t=d
  · subst hp;simp
  · rw [if_neg (Ne.symm hp),h,if_neg hp,if_neg hp]
theorem dJ.put (hN:d<a.tmps.size) {st':St} {aQ:Key→Nat} {u:Value} (hb:∀k,aQ (.bx k)=bk (.bx k)) {t:Nat} (hs:aQ (.sx t)=bk (.sx t))
  (hex:∀x,x≠d→ee st x→ee st' x) (j7:∀k cs,look st.bx k=some cs→∃cs',look st'.bx k=some cs'∧cs'.length=cs.length) {av:AV} (hr:bu d av=false) (h:dJ st a w Pr bk t av v):dJ st' (a.put (some d) u) w Pr aQ t av v:=by
 cases av with
 |pv p=>exact h
 |bp k off=>simp only [dJ] at h ⊢;rw [hb];exact h
 |cl f caps=>
  obtain ⟨vs,h1,h2,h3⟩:=h
  refine ⟨vs,h1,h2,fun i c x hc hx=> ?_⟩
  have:=h3 i c x hc hx
  cases c with
  |pv p=>exact this
  |bp k off=>simp only [gT] at this ⊢;rw [hb];exact this
 |ex sz n cs=>simp only [dJ] at h ⊢;rw [hs];exact h
 |xr x=>
  have hx:x≠d:=by intro e;simp [bu,e] at hr
  exact ⟨by rw [cr hN,if_neg hx];exact h.1,hex x hx h.2⟩
 |xe x off=>
  have hx:x≠d:=by intro e;simp [bu,e] at hr
  obtain ⟨⟨b,o,n,cap,h1,h2⟩,h3⟩:=h
  exact ⟨⟨b,o,n,cap,by rw [cr hN,if_neg hx];exact h1,h2⟩,hex x hx h3⟩
 |bX _ _=>exact h
 |dead=>trivial
 |bs k off sz n=>exact h.frame (hb k) (j7 k)
 |mv f k off sz n=>obtain ⟨u,h1,h2⟩:=h;exact ⟨u,h1,h2.frame (hb k) (j7 k)⟩
 |tg k off sz n rest=>obtain ⟨u,us,h1,h2,h3⟩:=h;exact ⟨u,us,h1,h2.frame (hb k) (j7 k),h3⟩
theorem Inv.made (I:Inv base w Pr bk st a N) (hd:d<N) (h:dy base w Pr bk st a m v):
  ∃aQ,Inv base w Pr aQ (st.made (some d) m) (a.put (some d) v) N∧∀x,x≠ .sx d→aQ x=bk x:=by
 have hN:d<a.tmps.size:=by rw [I.size];exact hd
 obtain ⟨b0,hb0,fG⟩:∃b0:Nat,(∀z,m.gr=some z→∃o n cap cs,m.v= .pv (.sl z n cs)∧v= .slice (some ⟨b0,o,none⟩) n cap∧Room w Pr b0 o n cap z∧o=0∧base≤b0∧b0<w.heap.size∧∀x,live st x→bk x≠b0)∧
   (∀sz n cs,m.v= .ex sz n cs→m.gr=none∧∃(o cap:Nat) (vs:List Value),v= .slice (some ⟨b0,o,none⟩) n cap∧aO w Pr cs vs∧One vs∧cs.length=n* sz∧w.rangeAt b0 o vs∧Room w Pr b0 o n cap sz∧
    (∀o',¬Pr b0 o')∧base≤b0∧b0<w.heap.size∧∀x,live st x→bk x≠b0):=by
  by_cases hx:∃sz n cs,m.v= .ex sz n cs
  · obtain ⟨sz,n,cs,hx⟩:=hx
    obtain ⟨h0,b,o,cap,vs,h1⟩:=h.ex sz n cs hx
    refine ⟨b,fun z hz=>by rw [h0] at hz;simp at hz,fun sz' n' cs' hx'=> ?_⟩
    rw [hx] at hx';cases hx'
    exact ⟨h0,o,cap,vs,h1⟩
  · cases e:m.gr with
    |none=>exact ⟨0,fun z hz=>by simp at hz,fun sz n cs hx'=>absurd ⟨sz,n,cs,hx'⟩ hx⟩
    |some z=>
     obtain ⟨b,o,n,cap,cs,h1⟩:=h.gr z e
     exact ⟨b,fun z' hz=>by cases hz;exact ⟨o,n,cap,cs,h1⟩,fun sz n cs hx'=>absurd ⟨sz,n,cs,hx'⟩ hx⟩
 have MN:(∃z,m.gr=some z)∨(∃sz n cs,m.v= .ex sz n cs)→base≤b0∧b0<w.heap.size∧∀x,live st x→bk x≠b0:=by
  rintro (⟨z,hz⟩|⟨sz,n,cs,hx⟩)
  · obtain ⟨_,_,_,_,_,_,_,_,h1⟩:=hb0 z hz;exact h1
  · obtain ⟨_,_,_,_,_,_,_,_,_,_,_,h1⟩:=fG sz n cs hx;exact h1
 obtain ⟨aQ,fI,hk2⟩:∃aQ:Key→Nat,(∀x,x≠ .sx d→aQ x=bk x)∧aQ (.sx d)=b0:=⟨fun x=>if x= .sx d then b0 else bk x,fun x hx=>if_neg hx,if_pos rfl⟩
 have dj:∀k,aQ (.bx k)=bk (.bx k):=fun k=>fI _ (by simp)
 have Cf:∀k o,aQ (.cx k o)=bk (.cx k o):=fun k o=>fI _ (by simp)
 have qH:∀t,t≠d→aQ (.sx t)=bk (.sx t):=fun t ht=>fI _ (by simpa using ht)
 have hl:∀t av,look (st.made (some d) m).sl t=some av→av= .dead∨(bu d av=false∧((t=d∧av=m.v)∨(t≠d∧look st.sl t=some av))):=by
  intro t av ht
  rw [jR] at ht
  by_cases e:t=d
  · rw [if_pos e] at ht;simp only [Option.map_some,Option.some.injEq] at ht
    split at ht
    · exact .inl ht.symm
    · rename_i hr;exact .inr ⟨by rw [←ht];simpa using hr, .inl ⟨e,ht.symm⟩⟩
  · rw [if_neg e] at ht
    cases hq:look st.sl t with
    |none=>simp [hq] at ht
    |some x=>
     simp only [hq,Option.map_some,Option.some.injEq] at ht
     split at ht
     · exact .inl ht.symm
     · rename_i hr;exact .inr ⟨by rw [←ht];simpa using hr, .inr ⟨e,by rw [ht]⟩⟩
 have hex:∀x,x≠d→ee st x→ee (st.made (some d) m) x:=fun x hx ⟨sz,n,cs,hl⟩=>⟨sz,n,cs,by rw [jR,if_neg hx,hl];rfl⟩
 have bU:∀x,live (st.made (some d) m) x→(x≠ .sx d∧live st x)∨(x= .sx d∧((∃z,m.gr=some z)∨(∃sz n cs,m.v= .ex sz n cs))):=by
  intro x hx
  cases x with
  |bx k=>exact .inl ⟨by simp,hx⟩
  |sx t=>
   rcases hx with ⟨sz,n,cs,hq⟩|⟨z,hz⟩
   · rcases hl t _ hq with hq|⟨_,⟨e,hq⟩|⟨e,hq⟩⟩
     · simp at hq
     · exact .inr ⟨by rw [e], .inr ⟨sz,n,cs,hq.symm⟩⟩
     · exact .inl ⟨by simpa using e, .inl ⟨sz,n,cs,hq⟩⟩
   · rw [fY] at hz
     by_cases e:t=d
     · subst e;rw [if_pos rfl] at hz;exact .inr ⟨rfl, .inl ⟨z,hz⟩⟩
     · rw [if_neg (by simpa using e)] at hz;exact .inl ⟨by simpa using e, .inr ⟨z,hz⟩⟩
  |cx k o=>
   obtain ⟨z,hz⟩:=hx
   rw [fY,if_neg (by simp)] at hz
   exact .inl ⟨by simp,z,hz⟩
 refine ⟨aQ, ?_,fI⟩
 constructor
 · simp [Act.put,I.size]
 · exact I.defers
 · exact I.hb
 · exact I.bL
 ·
  intro t av ht
  rcases hl t av ht with rfl|⟨hr,⟨e,rfl⟩|⟨e,hq⟩⟩
  · by_cases e:t=d
    · exact ⟨v,by rw [cr hN,if_pos e],trivial⟩
    · cases hq:look st.sl t with
      |none=>rw [jR,if_neg e,hq] at ht;simp at ht
      |some x=>obtain ⟨u,hu,_⟩:=I.slots t x hq;exact ⟨u,by rw [cr hN,if_neg e];exact hu,trivial⟩
  · subst e
    refine ⟨v,by rw [cr hN,if_pos rfl], ?_⟩
    by_cases hx:∃sz n cs,m.v= .ex sz n cs
    · obtain ⟨sz,n,cs,hx⟩:=hx
      obtain ⟨_,o,cap,vs,h1,h2,h3,h4,h5,h6,h7,_⟩:=fG sz n cs hx
      rw [hx];simp only [dJ]
      exact ⟨o,cap,vs,by rw [hk2];exact h1,h2,h3,h4,by rw [hk2];exact h5,by rw [hk2];exact h6,by rw [hk2];exact h7⟩
    · have hv:=h.val (fun sz n cs e=>hx ⟨sz,n,cs,e⟩) (t+1)
      have:=dJ.put (u:=v) (st':=st.made (some t) m) (aQ:=aQ) hN dj (qH (t+1) (by omega)) hex (fun k cs e=>⟨cs,e,rfl⟩) hr hv
      cases hm:m.v with
      |ex sz n cs=>exact absurd ⟨sz,n,cs,hm⟩ hx
      |_=>rw [hm] at this;exact this
  · obtain ⟨u,hu,hv⟩:=I.slots t av hq
    exact ⟨u,by rw [cr hN,if_neg e];exact hu,dJ.put hN dj (qH t e) hex (fun k cs e=>⟨cs,e,rfl⟩) hr hv⟩
 ·
  intro x hx
  rcases bU x hx with ⟨e,hx⟩|⟨rfl,hz⟩
  · rw [fI x e];exact I.own x hx
  · obtain ⟨h4,h5,_⟩:=MN hz
    rw [hk2];exact ⟨h4,h5⟩
 ·
  intro x y hx hy he
  rcases bU x hx with ⟨e,hx⟩|⟨rfl,hz⟩
  · rcases bU y hy with ⟨e',hy⟩|⟨rfl,dX⟩
    · rw [fI x e,fI y e'] at he;exact I.inj x y hx hy he
    · obtain ⟨_,_,h6⟩:=MN dX
      rw [fI x e,hk2] at he;exact absurd he (h6 x hx)
  · rcases bU y hy with ⟨e',hy⟩|⟨rfl,dX⟩
    · obtain ⟨_,_,h6⟩:=MN hz
      rw [hk2,fI y e'] at he;exact absurd he.symm (h6 y hy)
    · rfl
 ·
  intro k cs hk
  rw [dj];exact I.boxes k cs hk
 ·
  intro t z hz
  rw [fY] at hz
  by_cases e:t=d
  · subst e;rw [if_pos rfl] at hz
    obtain ⟨o,n,cap,cs,h1,h2,h3,h0,_⟩:=hb0 z hz
    exact ⟨o,n,cap,cs,by rw [jR,if_pos rfl,h1];rfl,by rw [cr hN,if_pos rfl,hk2,h2],by rw [hk2];exact h3,h0⟩
  · rw [if_neg (by simpa using e)] at hz
    obtain ⟨o,n,cap,cs,h1,h2,h3,h0⟩:=I.gQ t z hz
    exact ⟨o,n,cap,cs,by rw [jR,if_neg e,h1];rfl,by rw [cr hN,if_neg e,qH t e];exact h2,by rw [qH t e];exact h3,h0⟩
 ·
  intro k i z hz
  rw [fY,if_neg (by simp)] at hz
  obtain ⟨o,n,cap,cs,di,h1,h2,h3,h4,h0⟩:=I.iA k i z hz
  exact ⟨o,n,cap,cs,di,h1,h2,by rw [dj,Cf];exact h3,by rw [Cf];exact h4,h0⟩
 ·
  intro t q ht hq
  rw [vo] at ht
  by_cases e:t=d
  · subst e
    rw [if_pos rfl] at ht
    cases hm:m.tg with
    |none=>simp [hm] at ht
    |some p=>
     simp only [hm,Option.map_some,Option.some.injEq] at ht;subst ht
     rw [cr hN,if_pos rfl]
     by_cases hp:p= .s t
     · subst hp;simp [cP,cr hN]
     · obtain ⟨z,hz⟩:=hq
       rw [fY,if_neg hp] at hz
       have:=h.tg p hm ⟨z,hz⟩
       cases p with
       |s u=>simp only [cP] at this ⊢;rw [cr hN,if_neg (by simpa using hp)];exact this
       |c k o=>simp only [cP] at this ⊢;rw [dj];exact this
  · rw [if_neg e] at ht
    cases hm:look st.tg t with
    |none=>simp [hm] at ht
    |some p=>
     simp only [hm,Option.map_some,Option.some.injEq] at ht
     split at ht
     · simp at ht
     · rename_i hp
       subst ht
       have hp':q≠ .s d:=fun e=>hp (by rw [e])
       obtain ⟨z,hz⟩:=hq
       rw [fY,if_neg hp'] at hz
       have:=I.tags t q hm ⟨z,hz⟩
       rw [cr hN,if_neg e,←this]
       cases q with
       |s u=>simp only [cP];rw [cr hN,if_neg (by simpa using hp')]
       |c k o=>simp only [cP];rw [dj]
end
end Go.Proofs.YtibbgjafjhcemaaDoor.Cul
namespace Go.Proofs.YtibbgjafjhcemaaDoor.Cul
open Go Go.RowKit
structure C7 (w:World) (Pr:aC) (w':World) (aD:aC) (r:RV) (v:Value):Prop where
 fw:Fw w Pr w' aD
 rp:Rp w' aD r.v v
 gr:∀z,r.gr=some z→∃b o n cap cs,r.v= .sl z n cs∧v= .slice (some ⟨b,o,none⟩) n cap∧Room w' aD b o n cap z∧o=0∧w.heap.size≤b∧b<w'.heap.size
def oD (P:Program) (f:Nat):Prop:=∃fn c,P.funcs[f]? =some fn∧fn.body=some c∧(fn.name== "runtime.NumGoroutine")=false
def az (P:Program) (f:Nat) (args:List PV) (r:RV):Prop:=
 oD P f∧∀(vs:List Value) (w:World) (Pr:aC),(∀b o,Pr b o→b<w.heap.size)→aO w Pr args vs→
  Calls P f vs.toArray w (fun e w'=>∃v aD,e= .returned v∧C7 w Pr w' aD r v)
structure C5 (w:World) (Pr:aC) (b:Nat) (T:TypeId) (c:Array Value) (cs:List PV):Prop where
 qF:w.heap[b]? =some (.cells c T (0,0))
 pre:∃us,us<+:c.toList∧aO w Pr cs us∧One us
 free:∀o,¬Pr b o
def BS (b size:Nat) (cs:List PV) (off sz n:Nat) (v:Value):Prop:=∃o cap,v= .slice (some ⟨b,o,none⟩) n cap∧(o=off∨(n=0∧0<off))∧off+n* sz≤cs.length∧0<sz∧n≤cap∧o+cap* sz≤size
inductive mK (w:World) (Pr:aC) (b size:Nat) (lT:List PV) (jr:Nat):List MA→List Value→Prop
 |nil:mK w Pr b size lT jr [] []
 |p {p:PV} {v:Value} {ms:List MA} {vs:List Value} (h:Rp w Pr p v) (hs:mK w Pr b size lT jr ms vs):mK w Pr b size lT jr (.p p::ms) (v::vs)
 |g {off n:Nat} {v:Value} {ms:List MA} {vs:List Value} (h:BS b size lT off jr n v) (hs:mK w Pr b size lT jr ms vs):mK w Pr b size lT jr (.g lT off jr n::ms) (v::vs)
def LU (w:World) (Pr:aC) (b size:Nat) (cs:List PV) (sz:Nat):MR→Value→Prop
 | .pv p,v=>Rp w Pr p v
 | .gs off n,v=>BS b size cs off sz n v
 | .gt off n rest,v=>∃u us,v= .tuple (u::us).toArray∧BS b size cs off sz n u∧aO w Pr rest us
structure LS (w:World) (Pr:aC) (w':World) (b:Nat) (T:TypeId) (c:Array Value) (sz:Nat) (cs:List PV) (r:MR) (cs':List PV) (v:Value):Prop where
 os:w'.os=w.os
 tape:w'.tape=w.tape
 output:w'.output=w.output
 size:w.heap.size≤w'.heap.size
 other:∀k,k<w.heap.size→k≠b→w'.heap[k]? =w.heap[k]?
 Pk:∃c',C5 w' Pr b T c' cs'∧c'.size=c.size
 len:cs'.length=cs.length
 res:LU w' Pr b c.size cs' sz r v
def jb (P:Program) (f:Nat) (ms:List MA) (r:MR) (cs':List PV):Prop:=
 oD P f∧∀(cs:List PV) (sz:Nat) (vs:List Value) (w:World) (Pr:aC) (b:Nat) (T:TypeId) (c:Array Value),dn ms=some cs→(∀b o,Pr b o→b<w.heap.size)→C5 w Pr b T c cs→mK w Pr b c.size cs sz ms vs→
  Calls P f vs.toArray w (fun e w'=>∃v,e= .returned v∧LS w Pr w' b T c sz cs r cs' v)
structure aI (P:Program) (call:Cl):Prop where
 fn:∀f args r,call.fn f args=some r→az P f args r
 mu:∀f ms r cs',call.mu f ms=some (r,cs')→jb P f ms r cs'
section
variable {P:Program} {base:Nat} {w:World} {Pr:aC} {bk:Key→Nat} {st:St} {a:Act} {N:Nat}
theorem gU {t:Nat} {v:Value} (h:a.tmps[t]? =some v):a.eval (.tmp t)=v:=by simp [Act.eval,h]
theorem eP (I:Inv base w Pr bk st a N) {x:Operand} {av:AV} (h:st.ev x=some av):∃t,dJ st a w Pr bk t av (a.eval x):=by
 cases x with
 |tmp t=>obtain ⟨v,h1,h2⟩:=I.slots t av h;exact ⟨t,by rw [gU h1];exact h2⟩
 |const v=>
  simp only [St.ev,Option.map_eq_some_iff] at h
  obtain ⟨p,hp,rfl⟩:=h
  exact ⟨0,oY hp⟩
 |func f=>simp only [St.ev,Option.some.injEq] at h;subst h;exact ⟨0,Rp.fn .nil⟩
 |global g=>simp [St.ev] at h
theorem eO (I:Inv base w Pr bk st a N) {x:Operand} {p:PV} (h:st.ev x=some (.pv p)):Rp w Pr p (a.eval x):=by obtain ⟨t,h1⟩:=eP I h;exact h1
theorem yU {x:Operand} {p:PV} (h:st.pv x=some p):st.ev x=some (.pv p):=by
 unfold St.pv at h;split at h
 · simp at h;subst h;assumption
 · simp at h
theorem iF (I:Inv base w Pr bk st a N) {x:Operand} {p:PV} (h:st.pv x=some p):Rp w Pr p (a.eval x):=eO I (yU h)
theorem fO (I:Inv base w Pr bk st a N) {x:Operand} {v:Value} (h:st.val x=some v):a.eval x=v:=by
 simp only [St.val,Option.bind_eq_some_iff] at h
 obtain ⟨p,h1,h2⟩:=h
 exact qC h2 (iF I h1)
theorem sD (I:Inv base w Pr bk st a N) {x:Operand} {k off:Nat} (h:st.ev x=some (.bp k off)):a.eval x= .pointer (some ⟨bk (.bx k),off,none⟩):=by obtain ⟨t,h1⟩:=eP I h;exact h1
theorem yO (I:Inv base w Pr bk st a N) {x:Operand} {k off sz n:Nat} (h:st.ev x=some (.bs k off sz n)):gS st w bk k off sz n (a.eval x):=by obtain ⟨t,h1⟩:=eP I h;exact h1
theorem Pg (I:Inv base w Pr bk st a N) {x:Operand} {f k off sz n:Nat} (h:st.ev x=some (.mv f k off sz n)):∃u,a.eval x= .func (.func f) #[u] #[]∧gS st w bk k off sz n u:=by obtain ⟨t,h1⟩:=eP I h;exact h1
theorem Ph (I:Inv base w Pr bk st a N) {x:Operand} {k off sz n:Nat} {rest:List PV} (h:st.ev x=some (.tg k off sz n rest)):∃u us,a.eval x= .tuple (u::us).toArray∧gS st w bk k off sz n u∧aO w Pr rest us:=by obtain ⟨t,h1⟩:=eP I h;exact h1
theorem iW {b:Nat} {c:Array Value} {T:TypeId} {vs:List Value} (h:w.heap[b]? =some (.cells c T (0,0))) (hp:vs<+:c.toList):w.rangeAt b 0 vs:=fun j v hj=>by
 rw [cell_of_row _ _ _ _ _ _ h,Nat.zero_add]
 obtain ⟨t,ht⟩:=hp
 have hlt:j<vs.length:=(List.getElem?_eq_some_iff.1 hj).1
 rw [←Array.getElem?_toList,←ht,List.getElem?_append_left hlt,hj]
theorem JG (I:Inv base w Pr bk st a N) {x:Operand} {u:Nat} (h:st.ev x=some (.xr u)):a.tmps[u]? =some (a.eval x)∧ee st u:=by obtain ⟨t,h1⟩:=eP I h;exact h1
theorem int_eq (I:Inv base w Pr bk st a N) {x:Operand} {n:Int} (h:(st.pv x).bind cn=some n):∃k,a.eval x= .int k n:=by
 simp only [Option.bind_eq_some_iff] at h
 obtain ⟨p,h1,h2⟩:=h
 have:=iF I h1
 generalize a.eval x=u at this ⊢
 unfold cn at h2
 split at h2
 · simp at h2;subst h2;cases this;exact ⟨_,rfl⟩
 · simp at h2
theorem nJ {o:Oper} {K:Act→World→Prop} {Q:Exit→Act→World→Prop} {v:Value} (h:(execOp a.eval o).run P w= .ok (.value v) w) (k:K (a.put o.dst v) w):o.wp P a w K Q:=by
 unfold Oper.wp;rw [h];exact k
theorem dH {s:Sem Value} {v:Value} {w':World} (h:s.run P w= .ok v w'):(do pure (Next.value (←s)):Sem Next).run P w= .ok (.value v) w':=by simp [h]
def gY (P:Program) (base:Nat) (w:World) (Pr:aC) (bk:Key→Nat) (st:St) (a:Act) (o:Oper) (m:Made):Prop:=
 ∀(K:Act→World→Prop) (Q:Exit→Act→World→Prop),(∀v w' aD,Fw w Pr w' aD→dy base w' aD bk st a m v→K (a.put o.dst v) w')→o.wp P a w K Q
theorem bA {p:PV} {v:Value} (h:Rp w Pr p v):dy base w Pr bk st a { v:= .pv p} v:=
 ⟨fun _ _=>h,fun _ _ _ h=>by simp at h,fun z h=>by simp at h,fun q h=>by simp at h⟩
theorem bh (I:Inv base w Pr bk st a N) {o:Oper} {m:Made} {v:Value} (h:(execOp a.eval o).run P w= .ok (.value v) w) (hm:dy base w Pr bk st a m v):gY P base w Pr bk st a o m:=
 fun K Q hK=>nJ h (hK v w Pr (Fw.refl I.bL) hm)
theorem iT (I:Inv base w Pr bk st a N) {o:Oper} {m:Made} {s:Sem Value} (he:execOp a.eval o=(do pure (Next.value (←s)):Sem Next)) (h:dY (cM P s)=some m):gY P base w Pr bk st a o m:=by
 simp only [dY,Option.map_eq_some_iff] at h
 obtain ⟨p,hp,rfl⟩:=h
 obtain ⟨v,h1,h2⟩:=me hp w Pr
 exact bh I (by rw [he];exact dH h1) (bA h2)
theorem jd {t:TypeId} {s:Nat} (h:bV P t=some s):∃i,P.info? t=some i∧i.size=s:=by
 simp only [bV,Option.map_eq_some_iff] at h;exact h
theorem fZ {t:TypeId} {s:Nat} (h:bV P t=some s) (w:World):(sizeOf t).run P w= .ok s w:=by
 obtain ⟨i,h1,h2⟩:=jd h
 simp [sizeOf,typeInfo,h1,h2]
theorem fA {t:TypeId} {d:TypeDesc} (h:P.underlying t=some d) (w:World):(underlying t).run P w= .ok d w:=run_underlying h w
theorem rV {t:TypeId} (h:(P.underlying t).isSome=true) (w:World):(isAgg t).run P w= .ok (ei P t) w:=by
 obtain ⟨d,hd⟩:=Option.isSome_iff_exists.1 h
 unfold isAgg ei
 rw [Sem.run_bind,fA hd]
 rw [hd]
 cases d<;>simp
theorem tv {t:TypeId} (h:ei P t=true):∃d,P.underlying t=some d∧d.isRow=true:=by
 unfold ei at h
 split at h
 · exact ⟨_,‹_›,rfl⟩
 · exact ⟨_,‹_›,rfl⟩
 · simp at h
theorem mz {t:TypeId} {cs:List PV} {off:Nat} {p:PV} {vs:List Value} {b o:Nat} (h:eA P t cs off=some p) (hr:aO w Pr cs vs) (h1:One vs) (hc:w.rangeAt b o vs):
  ∃v,(loadVar t ⟨b,o+off,none⟩).run P w= .ok v w∧Rp w Pr p v∧(ei P t=false→vs[off]? =some v∧cs[off]? =some p):=by
 simp only [eA,Option.bind_eq_some_iff] at h
 obtain ⟨s,hs,h⟩:=h
 split at h
 · rename_i hle
   have hlen:=hr.length
   split at h
   · rename_i hrow
     simp only [Option.some.injEq] at h;subst h
     obtain ⟨d,hd,rz⟩:=tv hrow
     refine ⟨_,run_loadVar_mid w b (o+off) t ((vs.drop off).take s) d (iV (dF hc off) s) hd rz ?_, .ag ((hr.drop off).take s) (fun v hv=>h1 v (List.mem_of_mem_drop (List.mem_of_mem_take hv))),by simp [hrow]⟩
     obtain ⟨i,hi1,hi2⟩:=jd hs
     rw [hi1];simp [hi2];omega
   · rename_i hrow
     split at h
     · rename_i hs1
       obtain ⟨v,hv,hp⟩:=hr.get off p h
       refine ⟨v, ?_,hp,fun _=>⟨hv,h⟩⟩
       have hcell:w.cell? ⟨b,o+off,none⟩=some v:=hc off v hv
       unfold loadVar
       rw [Sem.run_bind,rV hs1.2]
       simp only [Bool.not_eq_true] at hrow
       simp [hrow,load,Sem.run,hcell]
     · simp at h
 · simp at h
theorem wv {t:TypeId} {cs:List PV} {off:Nat} {p:PV} {vs:List Value} (h:eA P t cs off=some p) (hr:aO w Pr cs vs) (h1:One vs):
  ∃v,(part t vs.toArray off).run P w= .ok v w∧Rp w Pr p v:=by
 simp only [eA,Option.bind_eq_some_iff] at h
 obtain ⟨s,hs,h⟩:=h
 split at h
 · split at h
   · rename_i hle hrow
     simp only [Option.some.injEq] at h;subst h
     obtain ⟨d,hd,rz⟩:=tv hrow
     refine ⟨.agg ((vs.drop off).take s).toArray, ?_, .ag ((hr.drop off).take s) (fun v hv=>h1 v (List.mem_of_mem_drop (List.mem_of_mem_take hv)))⟩
     unfold part
     rw [Sem.run_bind,rV (by rw [hd];rfl)]
     simp only [hrow,Result.andThen_ok,if_true,Sem.run_bind,fZ hs,Sem.run_pure]
     rw [List.extract_toArray,List.extract_eq_take_drop,Nat.add_sub_cancel_left]
   · rename_i hle hrow
     split at h
     · rename_i hs1
       obtain ⟨v,hv,hp⟩:=hr.get off p h
       refine ⟨v, ?_,hp⟩
       unfold part
       rw [Sem.run_bind,rV hs1.2]
       simp only [Bool.not_eq_true] at hrow
       simp [hrow,hv]
     · simp at h
 · simp at h
theorem dJ.any {t t':Nat} {av:AV} {v:Value} (hn:∀sz n cs,av≠ .ex sz n cs) (h:dJ st a w Pr bk t av v):dJ st a w Pr bk t' av v:=by
 cases av with
 |ex sz n cs=>exact absurd rfl (hn sz n cs)
 |_=>exact h
theorem cz {av:AV} {v:Value} {t:Nat} (hn:∀sz n cs,av≠ .ex sz n cs) (h:dJ st a w Pr bk t av v):dy base w Pr bk st a { v:=av} v:=
 ⟨fun _ _=>h.any hn,fun sz n cs e=>absurd e (hn sz n cs),fun z h=>by simp at h,fun q h=>by simp at h⟩
theorem IZ (I:Inv base w Pr bk st a N) {o:Oper} {m:Made} {call:Cl} {x:Operand} (ho:o.op= .move x) (h:quiet P call o st=some m):gY P base w Pr bk st a o m:=by
 have he:(execOp a.eval o).run P w= .ok (.value (a.eval x)) w:=by simp [execOp,ho]
 refine bh I he ?_
 simp only [quiet,ho] at h
 split at h
 · rename_i t heq
   simp only [Option.some.injEq] at h;subst h
   obtain ⟨t',hv⟩:=eP I heq
   exact cz (by simp) hv
 · rename_i t off heq
   simp only [Option.some.injEq] at h;subst h
   obtain ⟨t',hv⟩:=eP I heq
   exact cz (by simp) hv
 · simp at h
 · rename_i t sz n cs heq
   simp only [Option.some.injEq] at h;subst h
   obtain ⟨v,h1,h2⟩:=I.slots t _ heq
   exact cz (t:=0) (by simp) ⟨by rw [gU h1];exact h1,_,_,_,heq⟩
 · rename_i t v hx1 Nv Nw JV heq
   simp only [Option.some.injEq] at h;subst h
   obtain ⟨u,h1,h2⟩:=I.slots t v heq
   have hn:∀sz n cs,v≠ .ex sz n cs:=fun sz n cs e=>JV sz n cs e
   rw [gU h1]
   refine ⟨fun _ _=>h2.any hn,fun sz n cs e=>absurd e (hn sz n cs),fun z h=>by simp at h,fun q hq hg=> ?_⟩
   simp only at hq
   split at hq
   · simp only [Option.some.injEq] at hq;subst hq;exact h1
   · simp only [St.tag,Option.bind_eq_some_iff,id] at hq
     obtain ⟨q',Wm,rfl⟩:=hq
     rw [I.tags t q Wm hg,h1]
 · simp at h
 · rename_i v hx1 Nv Nw JV WG hx5 heq
   simp only [Option.some.injEq] at h;subst h
   obtain ⟨t',hv⟩:=eP I heq
   exact cz (fun sz n cs e=>JV sz n cs e) hv
 · simp at h
theorem I5 (I:Inv base w Pr bk st a N) {o:Oper} {m:Made} {call:Cl} {c x y:Operand} (ho:o.op= .pick c x y) (h:quiet P call o st=some m):gY P base w Pr bk st a o m:=by
 simp only [quiet,ho,Option.bind_eq_some_iff] at h
 obtain ⟨cv,hc,h⟩:=h
 split at h
 · rename_i t
   simp only [Option.map_eq_some_iff] at h
   obtain ⟨p,hp,rfl⟩:=h
   have VV:=fO I hc
   refine bh I (v:=a.eval (if t then x else y)) ?_ (bA (iF I hp))
   simp only [execOp,ho,VV]
   cases t<;>simp [asBool]
 · simp at h
theorem Gf (I:Inv base w Pr bk st a N) {o:Oper} {m:Made} {call:Cl} {op:BinOp} {t u:TypeId} {x y:Operand} (ho:o.op= .binOp op t x y u) (h:quiet P call o st=some m):gY P base w Pr bk st a o m:=by
 simp only [quiet,ho,Option.bind_eq_some_iff] at h
 obtain ⟨p,hp,q,hq,h⟩:=h
 refine iT I ?_ h
 simp only [execOp,ho,fO I hp,fO I hq]
theorem I6 (I:Inv base w Pr bk st a N) {o:Oper} {m:Made} {call:Cl} {op:UnOp} {t:TypeId} {x:Operand} (ho:o.op= .unOp op t x) (h:quiet P call o st=some m):gY P base w Pr bk st a o m:=by
 simp only [quiet,ho,Option.bind_eq_some_iff] at h
 obtain ⟨p,hp,h⟩:=h
 refine iT I ?_ h
 simp only [execOp,ho,fO I hp]
theorem yJ (I:Inv base w Pr bk st a N) {o:Oper} {m:Made} {call:Cl} {s:TypeId} {x:Operand} {f:Nat} (ho:o.op= .fieldAddr s x f) (h:quiet P call o st=some m):gY P base w Pr bk st a o m:=by
 simp only [quiet,ho,Option.bind_eq_some_iff] at h
 obtain ⟨⟨off,ty⟩,hf,h⟩:=h
 have run:∀b o',a.eval x= .pointer (some ⟨b,o',none⟩)→(execOp a.eval o).run P w= .ok (.value (.pointer (some ⟨b,o'+off,none⟩))) w:=by
  intro b o' hx
  unfold uZ at hf
  split at hf
  · rename_i fs hu
    simp only [Option.bind_eq_some_iff] at hf
    obtain ⟨fd,jQ,hf⟩:=hf
    split at hf
    · simp at hf
    · rename_i hz
      simp only [Option.map_eq_some_iff,Prod.mk.injEq] at hf
      obtain ⟨sz,hsz,rfl,rfl⟩:=hf
      have RO:sz≠0:=fun e=>hz (by rw [hsz,e])
      simp only [execOp,ho]
      refine dH ?_
      simp [Instr.fieldAt,fA hu,jQ,hx,Instr.sureAddr,fieldPlace,fZ hsz,RO,Addr.add_mid]
  · simp at hf
 split at h
 · rename_i k o' heq
   simp only [Option.some.injEq] at h;subst h
   exact bh I (run _ _ (sD I heq)) (cz (t:=0) (by simp) rfl)
 · rename_i t o' heq
   simp only [Option.some.injEq] at h;subst h
   obtain ⟨t',⟨b,o2,n,cap,h1,h2⟩,h3⟩:=eP I heq
   exact bh I (run _ _ h2) (cz (t:=0) (by simp) ⟨⟨b,o2,n,cap,h1,by rw [Nat.add_assoc]⟩,h3⟩)
 · rename_i cs heq
   simp only [Option.some.injEq] at h;subst h
   have hv:=eO I heq
   generalize hx:a.eval x=v at hv
   cases hv with
   |el hr h1 hc hp=>
    refine bh I (run _ _ hx) (bA (.el (hr.drop off) (fun v hv=>h1 v (List.mem_of_mem_drop hv)) (dF hc off) (fun i hi=> ?_)))
    rw [Nat.add_assoc]
    refine hp _ ?_
    simp at hi;omega
 · simp at h
theorem Gh (I:Inv base w Pr bk st a N) {o:Oper} {m:Made} {call:Cl} {s:TypeId} {x:Operand} {f:Nat} (ho:o.op= .field s x f) (h:quiet P call o st=some m):gY P base w Pr bk st a o m:=by
 simp only [quiet,ho,Option.bind_eq_some_iff] at h
 obtain ⟨⟨off,ty⟩,hf,h⟩:=h
 split at h
 · rename_i cs heq
   have hv:=iF I heq
   generalize hx:a.eval x=v at hv
   cases hv with
   |ag hr h1=>
    simp only [dY,Option.map_eq_some_iff] at h
    obtain ⟨p,hp,rfl⟩:=h
    obtain ⟨v,cT,eS⟩:=wv (P:=P) hp hr h1
    refine bh I (v:=v) ?_ (bA eS)
    unfold uZ at hf
    split at hf
    · rename_i fs hu
      simp only [Option.bind_eq_some_iff] at hf
      obtain ⟨fd,jQ,hf⟩:=hf
      split at hf
      · simp at hf
      · simp only [Option.map_eq_some_iff,Prod.mk.injEq] at hf
        obtain ⟨sz,hsz,rfl,rfl⟩:=hf
        simp only [execOp,ho]
        refine dH ?_
        simp [Instr.field,fA hu,jQ,hx,asAgg,cT]
    · simp at hf
 · simp at h
end
end Go.Proofs.YtibbgjafjhcemaaDoor.Cul
namespace Go.Proofs.YtibbgjafjhcemaaDoor.Cul
open Go Go.RowKit
section
variable {P:Program} {base:Nat} {w:World} {Pr:aC} {bk:Key→Nat} {st:St} {a:Act} {N:Nat}
theorem run_indexAt_slice {t e:TypeId} {s:Nat} (hu:P.underlying t=some (.slice e)) (hs:bV P e=some s) (k:IntKind) (n:Int) (b o len cap:Nat) (h0:0≤n) (h1:n<len):
  (Instr.indexAt t (.slice (some ⟨b,o,none⟩) len cap) (.int k n)).run P w= .ok (.pointer (some ⟨b,o+n.toNat* s,none⟩)) w:=by
 simp [Instr.indexAt,asIntOf,fA hu,h0,h1,fZ hs,Addr.add_mid]
theorem run_indexAt_array {t e:TypeId} {s len:Nat} (hu:P.underlying t=some (.array len e)) (hs:bV P e=some s) (k:IntKind) (n:Int) (b o:Nat) (h0:0≤n) (h1:n<len):
  (Instr.indexAt t (.pointer (some ⟨b,o,none⟩)) (.int k n)).run P w= .ok (.pointer (some ⟨b,o+n.toNat* s,none⟩)) w:=by
 simp [Instr.indexAt,asIntOf,fA hu,h0,h1,fZ hs,Addr.add_mid,Instr.sureAddr]
theorem Ov {cs:List PV} {vs:List Value} {b o sz n i:Nat} (hr:aO w Pr cs vs) (h1:One vs) (hc:w.rangeAt b o vs) (hp:∀i,i<vs.length→Pr b (o+i)):
  Rp w Pr (.el (row cs sz i)) (.pointer (some ⟨b,o+i* sz,none⟩)):=by
 refine .el ((hr.drop (i* sz)).take sz) (fun v hv=>h1 v (List.mem_of_mem_drop (List.mem_of_mem_take hv))) (iV (dF hc _) _) (fun j hj=> ?_)
 rw [Nat.add_assoc]
 refine hp _ ?_
 simp at hj;omega
theorem yK (I:Inv base w Pr bk st a N) {o:Oper} {m:Made} {call:Cl} {t:TypeId} {x i:Operand} (ho:o.op= .indexAddr t x i) (h:quiet P call o st=some m):gY P base w Pr bk st a o m:=by
 simp only [quiet,ho] at h
 rw [Option.bind_eq_some_iff] at h
 obtain ⟨n,hn,h⟩:=h
 obtain ⟨k,hk⟩:=int_eq I hn
 have he:∀v,(Instr.indexAt t (a.eval x) (.int k n)).run P w= .ok v w→(execOp a.eval o).run P w= .ok (.value v) w:=fun v hv=>by
  simp only [execOp,ho,hk];exact dH hv
 split at h
 · rename_i len e hu
   rw [Option.bind_eq_some_iff] at h
   obtain ⟨s,hs,h⟩:=h
   split at h
   · rename_i hb
     split at h
     · rename_i k' o' heq
       simp only [Option.some.injEq] at h;subst h
       exact bh I (he _ (by rw [sD I heq];exact run_indexAt_array hu hs k n _ _ hb.1 hb.2)) (cz (t:=0) (by simp) rfl)
     · rename_i cs heq
       simp only [Option.some.injEq] at h;subst h
       have hv:=eO I heq
       generalize hx:a.eval x=v at hv
       cases hv with
       |el hr h1 hc hp=>
        refine bh I (he _ (by rw [hx];exact run_indexAt_array hu hs k n _ _ hb.1 hb.2)) (bA (.el (hr.drop _) (fun v hv=>h1 v (List.mem_of_mem_drop hv)) (dF hc _) (fun i hi=> ?_)))
        rw [Nat.add_assoc]
        refine hp _ ?_
        simp at hi;omega
     · simp at h
   · simp at h
 · rename_i e hu
   rw [Option.bind_eq_some_iff] at h
   obtain ⟨s,hs,h⟩:=h
   split at h
   · rename_i sz len cs heq
     split at h
     · rename_i hb
       obtain ⟨rfl,hb0,fG⟩:=hb
       simp only [Option.some.injEq] at h;subst h
       have hv:=eO I heq
       generalize hx:a.eval x=v at hv
       cases hv with
       |sl hr h1 hl hn hc hp=>exact bh I (he _ (by rw [hx];exact run_indexAt_slice hu hs k n _ _ _ _ hb0 fG)) (bA (Ov (n:=len) hr h1 hc hp))
       |n8=>omega
     · simp at h
   · rename_i u heq
     split at h
     · rename_i sz len cs hl
       split at h
       · rename_i hb
         obtain ⟨rfl,hb0,fG⟩:=hb
         simp only [Option.some.injEq] at h;subst h
         obtain ⟨h1,h2⟩:=JG I heq
         obtain ⟨v,cT,o',cap,vs,rfl,eS⟩:=I.slots u _ hl
         rw [cT] at h1
         have hx:a.eval x=_:=(Option.some.inj h1).symm
         exact bh I (he _ (by rw [hx];exact run_indexAt_slice hu hs k n _ _ _ _ hb0 fG)) (cz (t:=0) (by simp) ⟨⟨_,_,_,_,cT,rfl⟩,h2⟩)
       · simp at h
     · simp at h
   · rename_i k' off sz len heq
     split at h
     · rename_i hb
       obtain ⟨rfl,hb0,fG⟩:=hb
       simp only [Option.some.injEq] at h;subst h
       obtain ⟨o',cap,cs,c,T,hx,h0,_⟩:=yO I heq
       obtain rfl:o'=off:=h0.resolve_right (fun h=>by omega)
       exact bh I (he _ (by rw [hx];exact run_indexAt_slice hu hs k n _ _ _ _ hb0 fG)) (cz (t:=0) (by simp) rfl)
     · simp at h
   · simp at h
 · simp at h
theorem Gi (I:Inv base w Pr bk st a N) {o:Oper} {m:Made} {call:Cl} {t:TypeId} {x i:Operand} (ho:o.op= .index t x i) (h:quiet P call o st=some m):gY P base w Pr bk st a o m:=by
 simp only [quiet,ho] at h
 split at h
 · rename_i len e cs hu heq
   rw [Option.bind_eq_some_iff] at h
   obtain ⟨n,hn,h⟩:=h
   rw [Option.bind_eq_some_iff] at h
   obtain ⟨s,hs,h⟩:=h
   obtain ⟨k,hk⟩:=int_eq I hn
   split at h
   · rename_i hb
     have hv:=iF I heq
     generalize hx:a.eval x=v at hv
     cases hv with
     |ag hr h1=>
      simp only [dY,Option.map_eq_some_iff] at h
      obtain ⟨p,hp,rfl⟩:=h
      obtain ⟨v,cT,eS⟩:=wv (P:=P) hp hr h1
      refine bh I (v:=v) ?_ (bA eS)
      simp only [execOp,ho,hk]
      refine dH ?_
      simp [Instr.index,asIntOf,fA hu,hx,hb.1,hb.2,fZ hs,cT]
   · simp at h
 · simp only [Option.bind_eq_some_iff] at h
   obtain ⟨p,hp,q,hq,h⟩:=h
   refine iT I ?_ h
   simp only [execOp,ho,fO I hp,fO I hq]
theorem IY (I:Inv base w Pr bk st a N) {o:Oper} {m:Made} {call:Cl} {t:TypeId} {x:Operand} (ho:o.op= .load t x) (h:quiet P call o st=some m):gY P base w Pr bk st a o m:=by
 simp only [quiet,ho] at h
 have he:∀b o' v,a.eval x= .pointer (some ⟨b,o',none⟩)→(loadVar t ⟨b,o',none⟩).run P w= .ok v w→(execOp a.eval o).run P w= .ok (.value v) w:=fun b o' v hx hv=>by
  simp only [execOp,ho,hx];exact dH (by simpa [Instr.loadAt,Instr.sureAddr] using hv)
 split at h
 · rename_i k o' heq
   rw [Option.bind_eq_some_iff] at h
   obtain ⟨cs,hk,h⟩:=h
   simp only [Option.map_eq_some_iff] at h
   obtain ⟨p,hp,rfl⟩:=h
   obtain ⟨⟨T,c,vs,cT,mX,eS,tq⟩,FA⟩:=I.boxes k cs hk
   have hc:w.rangeAt (bk (.bx k)) 0 vs:=iW cT mX
   obtain ⟨v,xS,mT,mU⟩:=mz (P:=P) hp eS tq hc
   rw [Nat.zero_add] at xS
   refine bh I (he _ _ _ (sD I heq) xS) ⟨fun _ _=>mT,fun _ _ _ h=>by simp at h,fun z h=>by simp at h,fun q hq hg=> ?_⟩
   simp only at hq
   split at hq
   · rename_i gW
     simp only [Option.some.injEq] at hq;subst hq
     simp only [Bool.and_eq_true,Bool.not_eq_eq_eq_not,Bool.not_true] at gW
     have:=(mU gW.1).1
     have h2:=hc o' v this
     simpa [cP] using h2
   · simp at hq
 · rename_i cs heq
   simp only [dY,Option.map_eq_some_iff] at h
   obtain ⟨p,hp,rfl⟩:=h
   have hv:=eO I heq
   generalize hx:a.eval x=v at hv
   cases hv with
   |el hr h1 hc JS=>
    obtain ⟨v,xS,mT,mU⟩:=mz (P:=P) hp hr h1 hc
    exact bh I (he _ _ _ hx xS) (bA mT)
 · rename_i u o' heq
   split at h
   · rename_i sz n cs hl
     simp only [dY,Option.map_eq_some_iff] at h
     obtain ⟨p,hp,rfl⟩:=h
     obtain ⟨t',⟨b,o2,n',cap',h1,h2⟩,h3⟩:=eP I heq
     obtain ⟨v,cT,o3,cap,vs,rfl,eS,tq,FA,Qy,hv6⟩:=I.slots u _ hl
     rw [cT] at h1
     simp only [Option.some.injEq,Value.slice.injEq,Addr.mk.injEq] at h1
     obtain ⟨⟨rfl,rfl,_⟩,_,_⟩:=h1
     obtain ⟨v,xS,mT,mU⟩:=mz (P:=P) hp eS tq Qy
     exact bh I (he _ _ _ h2 xS) (bA mT)
   · simp at h
 · simp at h
theorem BE (I:Inv base w Pr bk st a N) {o:Oper} {m:Made} {call:Cl} {x:Operand} {i:Nat} (ho:o.op= .extract x i) (h:quiet P call o st=some m):gY P base w Pr bk st a o m:=by
 simp only [quiet,ho] at h
 split at h
 · rename_i ps heq
   simp only [dY,Option.map_eq_some_iff] at h
   obtain ⟨p,hp,rfl⟩:=h
   have hv:=eO I heq
   generalize hx:a.eval x=v at hv
   cases hv with
   |aG hr=>
    obtain ⟨v,cT,eS⟩:=hr.get i p hp
    refine bh I (v:=v) ?_ (bA eS)
    simp only [execOp,ho,hx]
    refine dH ?_
    simp [Instr.extract,cT]
 · rename_i k off sz n rest heq
   obtain ⟨u,us,hx,hu,hr⟩:=Ph I heq
   split at h
   · simp only [Option.some.injEq] at h;subst h
     refine bh I (v:=u) ?_ (cz (t:=0) (by simp) hu)
     simp only [execOp,ho,hx]
     refine dH ?_
     simp [Instr.extract]
   · rename_i i
     simp only [dY,Option.map_eq_some_iff] at h
     obtain ⟨p,hp,rfl⟩:=h
     obtain ⟨v,cT,eS⟩:=hr.get i p hp
     refine bh I (v:=v) ?_ (bA eS)
     simp only [execOp,ho,hx]
     refine dH ?_
     simp [Instr.extract,cT]
 · simp at h
theorem lP (I:Inv base w Pr bk st a N):∀{l:List Operand} {caps:List Cap},eG st l=some caps→(l.map a.eval).length=caps.length∧∀(i:Nat) (c:Cap) (u:Value),caps[i]? =some c→(l.map a.eval)[i]? =some u→gT w Pr bk c u
 |[],caps,h=>by simp [eG] at h;subst h;simp
 |x::l,caps,h=>by
  simp only [eG] at h
  split at h
  · rename_i p heq
    simp only [Option.map_eq_some_iff] at h
    obtain ⟨cs,hcs,rfl⟩:=h
    obtain ⟨h1,h2⟩:=lP I hcs
    refine ⟨by simpa using h1,fun i c u hc hu=> ?_⟩
    cases i with
    |zero=>simp at hc hu;subst hc hu;exact eO I heq
    |succ i=>exact h2 i c u (by simpa using hc) (by simpa using hu)
  · rename_i k o heq
    simp only [Option.map_eq_some_iff] at h
    obtain ⟨cs,hcs,rfl⟩:=h
    obtain ⟨h1,h2⟩:=lP I hcs
    refine ⟨by simpa using h1,fun i c u hc hu=> ?_⟩
    cases i with
    |zero=>simp at hc hu;subst hc hu;exact sD I heq
    |succ i=>exact h2 i c u (by simpa using hc) (by simpa using hu)
  · simp at h
theorem AN (I:Inv base w Pr bk st a N) {o:Oper} {m:Made} {call:Cl} {f:Fn} {first captured:Array Operand} (ho:o.op= .makeFunc f first captured) (h:quiet P call o st=some m):gY P base w Pr bk st a o m:=by
 cases f with
 |func f'=>
  simp only [quiet,ho] at h
  split at h
  · rename_i h0
    simp only [Option.map_eq_some_iff] at h
    obtain ⟨caps,hc,rfl⟩:=h
    obtain ⟨h1,h2⟩:=lP I hc
    refine bh I (v:= .func (.func f') #[] (captured.map a.eval)) ?_ (cz (t:=0) (by simp) ⟨captured.toList.map a.eval, ?_,h1,h2⟩)
    · simp only [execOp,ho]
      refine dH ?_
      have:first= #[]:=Array.ext' (by simpa using h0)
      simp [Instr.makeFunc,this]
    · congr 1;exact Array.ext' (by simp)
  · rename_i x hx1 Nv
    split at h
    · rename_i k off sz n heq
      simp only [Option.some.injEq] at h;subst h
      have hb:=yO I heq
      have e1:first= #[x]:=Array.ext' (by simpa using hx1)
      have e2:captured= #[]:=Array.ext' (by simpa using Nv)
      refine bh I (v:= .func (.func f') #[a.eval x] #[]) ?_ (cz (t:=0) (by simp) ⟨_,rfl,hb⟩)
      simp only [execOp,ho]
      refine dH ?_
      simp [Instr.makeFunc,e1,e2]
    · simp at h
  · simp at h
 |_=>simp [quiet,ho] at h
theorem AO (I:Inv base w Pr bk st a N) {o:Oper} {m:Made} {call:Cl} {x:Operand} (ho:o.op= .nilCheck x) (h:quiet P call o st=some m):gY P base w Pr bk st a o m:=by
 simp only [quiet,ho] at h
 split at h
 · rename_i k o' heq
   simp only [Option.some.injEq] at h;subst h
   have hx:=sD I heq
   exact bh I (v:=a.eval x) (by simp [execOp,ho,hx]) (cz (t:=0) (by simp) hx)
 · rename_i cs heq
   simp only [Option.some.injEq] at h;subst h
   have hv:=eO I heq
   refine bh I (v:=a.eval x) ?_ (bA hv)
   generalize hx:a.eval x=v at hv
   cases hv with
   |el hr h1 hc JS=>simp [execOp,ho,hx]
 · rename_i f caps heq
   simp only [Option.some.injEq] at h;subst h
   have hv:=eO I heq
   refine bh I (v:=a.eval x) ?_ (bA hv)
   generalize hx:a.eval x=v at hv
   cases hv with
   |fn hr=>simp [execOp,ho,hx]
 · simp at h
end
end Go.Proofs.YtibbgjafjhcemaaDoor.Cul
namespace Go.Proofs.YtibbgjafjhcemaaDoor.Cul
open Go Go.RowKit
section
variable {P:Program} {base:Nat} {w:World} {Pr:aC} {bk:Key→Nat} {st:St} {a:Act} {N:Nat}
theorem args1 {args:Array Operand} {x:Operand} (h:args.toList=[x]):args= #[x]:=Array.ext' (by simpa using h)
theorem args2 {args:Array Operand} {x y:Operand} (h:args.toList=[x,y]):args= #[x,y]:=Array.ext' (by simpa using h)
theorem j5 {o:Oper} {b:Builtin} {args:Array Operand} {ts:Array TypeId} (ho:o.op= .call { callee:= .builtin b,args:=args,argTypes:=ts}):
  (execOp a.eval o).run P w=(builtin b ts o.type (args.map fun| .const _=>true|_=>false) (args.map a.eval)).run P w:=by
 simp [execOp,ho,resolve,invoke];rfl
theorem Ly (I:Inv base w Pr bk st a N) {o:Oper} {m:Made} {call:Cl} {args:Array Operand} {ts:Array TypeId} (ho:o.op= .call { callee:= .builtin .len,args:=args,argTypes:=ts}) (h:quiet P call o st=some m):gY P base w Pr bk st a o m:=by
 simp only [quiet,ho] at h
 have he:=j5 (P:=P) (w:=w) (a:=a) ho
 split at h
 · rename_i x hx
   rw [args1 hx] at he
   simp only [builtin,List.map_toArray,List.map_cons,List.map_nil] at he
   have hlen:∀A n cap e,a.eval x= .slice A n cap→(ts[0]?).bind P.underlying=some (.slice e)→(execOp a.eval o).run P w= .ok (.value (.int .i64 n)) w:=fun A n cap e Af ht=>by
    rw [he,Af]
    simp only [Option.bind_eq_some_iff] at ht
    obtain ⟨t,Nn,Wy⟩:=ht
    refine dH ?_
    simp [Builtin.len_,Nn,fA Wy,goInt]
   split at h
   · rename_i sz n cs heq
     split at h
     · rename_i e ht
       simp only [Option.some.injEq] at h;subst h
       have hv:=eO I heq
       generalize Af:a.eval x=v at hv
       cases hv with
       |sl hr h1 hl hn hc hp=>exact bh I (hlen _ _ _ _ Af ht) (bA (.lit rfl))
       |n8=>exact bh I (hlen _ _ _ _ Af ht) (bA (.lit rfl))
     · simp at h
   · rename_i u heq
     split at h
     · rename_i sz n cs e hl ht
       simp only [Option.some.injEq] at h;subst h
       obtain ⟨h1,h2⟩:=JG I heq
       obtain ⟨v,cT,o',cap,vs,rfl,eS⟩:=I.slots u _ hl
       rw [cT] at h1
       exact bh I (hlen _ _ _ _ (Option.some.inj h1).symm ht) (bA (.lit rfl))
     · simp at h
   · rename_i k off sz n heq
     split at h
     · rename_i e ht
       simp only [Option.some.injEq] at h;subst h
       obtain ⟨o',cap,cs,c,T,hx,_⟩:=yO I heq
       exact bh I (hlen _ _ _ _ hx ht) (bA (.lit rfl))
     · simp at h
   · rename_i p hne heq
     rw [Option.bind_eq_some_iff] at h
     obtain ⟨v,hv,h⟩:=h
     have eS:=qC hv (eO I heq)
     simp only [dY,Option.map_eq_some_iff] at h
     obtain ⟨p',hp',rfl⟩:=h
     obtain ⟨u,h1,h2⟩:=me hp' w Pr
     exact bh I (by rw [he,eS];exact dH h1) (bA h2)
   · simp at h
 · simp at h
theorem Lz (I:Inv base w Pr bk st a N) {o:Oper} {m:Made} {call:Cl} {args:Array Operand} {ts:Array TypeId} (ho:o.op= .call { callee:= .builtin .max,args:=args,argTypes:=ts}) (h:quiet P call o st=some m):gY P base w Pr bk st a o m:=by
 simp only [quiet,ho] at h
 have he:=j5 (P:=P) (w:=w) (a:=a) ho
 split at h
 · rename_i x y hx
   rw [args2 hx] at he
   simp only [Option.bind_eq_some_iff] at h
   obtain ⟨p,hp,q,hq,h⟩:=h
   simp only [dY,Option.map_eq_some_iff] at h
   obtain ⟨p',hp',rfl⟩:=h
   obtain ⟨u,h1,h2⟩:=me hp' w Pr
   refine bh I (v:=u) ?_ (bA h2)
   rw [he];simp only [builtin,List.map_toArray,List.map_cons,List.map_nil,fO I hp,fO I hq];exact dH h1
 · simp at h
theorem LA (I:Inv base w Pr bk st a N) {o:Oper} {m:Made} {call:Cl} {args:Array Operand} {ts:Array TypeId} (ho:o.op= .call { callee:= .builtin .min,args:=args,argTypes:=ts}) (h:quiet P call o st=some m):gY P base w Pr bk st a o m:=by
 simp only [quiet,ho] at h
 have he:=j5 (P:=P) (w:=w) (a:=a) ho
 split at h
 · rename_i x y hx
   rw [args2 hx] at he
   simp only [Option.bind_eq_some_iff] at h
   obtain ⟨p,hp,q,hq,h⟩:=h
   simp only [dY,Option.map_eq_some_iff] at h
   obtain ⟨p',hp',rfl⟩:=h
   obtain ⟨u,h1,h2⟩:=me hp' w Pr
   refine bh I (v:=u) ?_ (bA h2)
   rw [he];simp only [builtin,List.map_toArray,List.map_cons,List.map_nil,fO I hp,fO I hq];exact dH h1
 · simp at h
theorem qS (I:Inv base w Pr bk st a N) {jL:aC} (hP:∀b o,Pr b o→jL b o) (hB:∀k cs,look st.bx k=some cs→∀o,jL (bk (.bx k)) o):
  ∀{caps:List Cap} {ps:List PV} {vs:List Value},dK st caps=some ps→vs.length=caps.length→(∀(i:Nat) (c:Cap) (u:Value),caps[i]? =some c→vs[i]? =some u→gT w Pr bk c u)→aO w jL ps vs
 |[],ps,vs,h,hl,_=>by simp [dK] at h;subst h;simp at hl;subst hl;exact .nil
 | .pv p::caps,ps,[],h,hl,hc=>by simp at hl
 | .bp k off::caps,ps,[],h,hl,hc=>by simp at hl
 | .pv p::caps,ps,v::vs,h,hl,hc=>by
   simp only [dK,Option.map_eq_some_iff] at h
   obtain ⟨qs,hq,rfl⟩:=h
   exact .cons (Rp.mono ⟨hP,fun _ _ _=>rfl⟩ (hc 0 _ _ rfl rfl)) (qS I hP hB hq (by simpa using hl) (fun i c u h1 h2=>hc (i+1) c u (by simpa using h1) (by simpa using h2)))
 | .bp k off::caps,ps,v::vs,h,hl,hc=>by
   simp only [dK,Option.bind_eq_some_iff,Option.map_eq_some_iff] at h
   obtain ⟨cs,hk,qs,hq,rfl⟩:=h
   have hv:v=_:=hc 0 _ _ rfl rfl
   refine .cons ?_ (qS I hP hB hq (by simpa using hl) (fun i c u h1 h2=>hc (i+1) c u (by simpa using h1) (by simpa using h2)))
   rw [hv]
   obtain ⟨⟨T,c,us,cT,mX,eS,tq⟩,FA⟩:=I.boxes k cs hk
   have hr:w.rangeAt (bk (.bx k)) 0 us:=iW cT mX
   have h2:=Rp.el (w:=w) (Pr:=jL) (aO.mono ⟨hP,fun _ _ _=>rfl⟩ (eS.drop off)) (fun v hv=>tq v (List.mem_of_mem_drop hv)) (dF hr off) (fun i _=>hB k cs hk _)
   simpa using h2
theorem zm (I:Inv base w Pr bk st a N) {jL:aC} (hP:∀b o,Pr b o→jL b o) (hB:∀k cs,look st.bx k=some cs→∀o,jL (bk (.bx k)) o) {x:Operand} {av:AV} {p:PV}
  (hx:st.ev x=some av) (h:st.eN av=some p):Rp w jL p (a.eval x):=by
 obtain ⟨t,hv⟩:=eP I hx
 cases av with
 |pv q=>simp only [St.eN,Option.some.injEq] at h;subst h;exact Rp.mono ⟨hP,fun _ _ _=>rfl⟩ hv
 |bp k off=>
  simp only [St.eN,Option.map_eq_some_iff] at h
  obtain ⟨cs,hk,rfl⟩:=h
  have hv:a.eval x=_:=hv
  rw [hv]
  obtain ⟨⟨T,c,us,cT,mX,eS,tq⟩,FA⟩:=I.boxes k cs hk
  have hr:w.rangeAt (bk (.bx k)) 0 us:=iW cT mX
  have h2:=Rp.el (w:=w) (Pr:=jL) (aO.mono ⟨hP,fun _ _ _=>rfl⟩ (eS.drop off)) (fun v hv=>tq v (List.mem_of_mem_drop hv)) (dF hr off) (fun i _=>hB k cs hk _)
  simpa using h2
 |bs k off sz n=>
  simp only [St.eN,Option.map_eq_some_iff] at h
  obtain ⟨cs,hk,rfl⟩:=h
  obtain ⟨o',cap,cs',c',T',hx',ho',hk',hle,hsz,hcap,_,_⟩:=hv
  rw [hk] at hk';cases hk'
  rw [hx']
  by_cases hn0:n=0
  · subst hn0
    simpa using Rp.sl (w:=w) (Pr:=jL) (sz:=sz) (n:=0) (cap:=cap) (b:=bk (.bx k)) (o:=o') .nil (by simp) (by simp) (Nat.zero_le _) (fun j v hj=>by simp at hj) (fun i hi=>by simp at hi)
  obtain rfl:o'=off:=ho'.resolve_right (fun h=>hn0 h.1)
  obtain ⟨⟨T,c,us,cT,mX,eS,tq⟩,FA⟩:=I.boxes k cs hk
  have hr:w.rangeAt (bk (.bx k)) 0 us:=iW cT mX
  have hH:=iV (dF hr o') (n* sz)
  rw [Nat.zero_add] at hH
  refine .sl (aO.mono ⟨hP,fun _ _ _=>rfl⟩ ((eS.drop o').take (n* sz))) (fun v hv=>tq v (List.mem_of_mem_drop (List.mem_of_mem_take hv))) (by simp;omega) hcap hH (fun i _=>hB k cs hk _)
 |cl f caps=>
  simp only [St.eN,Option.map_eq_some_iff] at h
  obtain ⟨ps,hps,rfl⟩:=h
  obtain ⟨vs,h1,h2,h3⟩:=hv
  rw [h1]
  exact .fn (qS I hP hB hps h2 h3)
 |_=>simp [St.eN] at h
theorem xE (I:Inv base w Pr bk st a N) {jL:aC} (hP:∀b o,Pr b o→jL b o) (hB:∀k cs,look st.bx k=some cs→∀o,jL (bk (.bx k)) o):
  ∀{l:List Operand} {ps:List PV},eB st l=some ps→aO w jL ps (l.map a.eval)
 |[],ps,h=>by simp [eB] at h;subst h;exact .nil
 |x::l,ps,h=>by
  simp only [eB,Option.bind_eq_some_iff,Option.map_eq_some_iff] at h
  obtain ⟨p,⟨av,hx,hp⟩,qs,hq,rfl⟩:=h
  exact .cons (zm I hP hB hx hp) (xE I hP hB hq)
theorem xD (I:Inv base w Pr bk st a N) {x:Operand} {av:AV} {p:PV} (hx:st.ev x=some av) (ho:cc av=false) (h:st.eN av=some p):Rp w Pr p (a.eval x):=by
 obtain ⟨t,hv⟩:=eP I hx
 cases av with
 |pv q=>simp only [St.eN,Option.some.injEq] at h;subst h;exact hv
 |bp k off=>simp [cc] at ho
 |bs k off sz n=>simp [cc] at ho
 |cl f caps=>
  simp only [St.eN,Option.map_eq_some_iff] at h
  obtain ⟨ps,hps,rfl⟩:=h
  obtain ⟨vs,h1,h2,h3⟩:=hv
  rw [h1]
  refine .fn ?_
  clear h1 hx
  induction caps generalizing ps vs with
  |nil=>simp [dK] at hps;subst hps;simp at h2;subst h2;exact .nil
  |cons c caps ih=>
   simp only [cc,List.any_cons,Bool.or_eq_false_iff] at ho
   cases c with
   |bp k off=>simp [EF] at ho
   |pv q=>
    simp only [dK,Option.map_eq_some_iff] at hps
    obtain ⟨qs,hq,rfl⟩:=hps
    cases vs with
    |nil=>simp at h2
    |cons v vs=>exact .cons (h3 0 _ _ rfl rfl) (ih (by simpa [cc] using ho.2) _ hq vs (by simpa using h2) (fun i c u h1 h2=>h3 (i+1) c u (by simpa using h1) (by simpa using h2)))
 |_=>simp [St.eN] at h
theorem j4 (I:Inv base w Pr bk st a N):∀{l:List Operand} {ps:List PV},(l.any fun x=>((st.ev x).map cc).getD true)=false→eB st l=some ps→aO w Pr ps (l.map a.eval)
 |[],ps,_,h=>by simp [eB] at h;subst h;exact .nil
 |x::l,ps,hn,h=>by
  simp only [eB,Option.bind_eq_some_iff,Option.map_eq_some_iff] at h
  obtain ⟨p,⟨av,hx,hp⟩,qs,hq,rfl⟩:=h
  simp only [List.any_cons,Bool.or_eq_false_iff,hx,Option.map_some,Option.getD_some] at hn
  exact .cons (xD I hx hn.1 hp) (j4 I hn.2 hq)
theorem lE {o:Oper} {g:Operand} {args:Array Operand} {ts:Array TypeId} (ho:o.op= .call { callee:= .value g,args:=args,argTypes:=ts}) {f:Nat} {cs:List Value} (hg:a.eval g= .func (.func f) #[] cs.toArray):
  execOp a.eval o=callFunc f ((args.toList.map a.eval)++cs).toArray:=by
 have:args.map a.eval++cs.toArray=((args.toList.map a.eval)++cs).toArray:=Array.ext' (by simp)
 simp [execOp,ho,resolve,hg,Deferred.ofValue,invoke,this]
theorem nI {o:Oper} {f:Nat} {args:Array Value} {K:Act→World→Prop} {Q:Exit→Act→World→Prop} {R:Ending→World→Prop} (he:execOp a.eval o=callFunc f args) (hb:oD P f)
  (hc:Calls P f args w R) (hR:∀e w',R e w'→∃v,e= .returned v∧K (a.put o.dst v) w'):o.wp P a w K Q:=by
 obtain ⟨fn,c,h1,h2,h3⟩:=hb
 unfold Oper.wp
 have:(execOp a.eval o).run P w= .ok (.enter f args) w:=by simp [he,callFunc,program,Sem.run,h1,h2,show ¬fn.name= "runtime.NumGoroutine" from by simpa using h3]
 rw [this]
 refine hc.mono fun e w' h=> ?_
 obtain ⟨v,rfl,hk⟩:=hR e w' h
 exact hk
theorem IX (I:Inv base w Pr bk st a N) {o:Oper} {m:Made} {call:Cl} (hC:aI P call) {g:Operand} {args:Array Operand} {ts:Array TypeId} (ho:o.op= .call { callee:= .value g,args:=args,argTypes:=ts}) (h:quiet P call o st=some m):gY P base w Pr bk st a o m:=by
 simp only [quiet,ho] at h
 split at h
 · rename_i av hg
   rw [Option.bind_eq_some_iff] at h
   obtain ⟨p,hp,h⟩:=h
   split at h
   · rename_i f caps
     rw [Option.bind_eq_some_iff] at h
     obtain ⟨gm,has,h⟩:=h
     simp only [sw,Option.bind_eq_some_iff] at h
     obtain ⟨r,hr,h⟩:=h
     obtain ⟨hbody,bZ⟩:=hC.fn f _ r hr
     generalize hout:(cc av||args.toList.any fun x=>((st.ev x).map cc).getD true)=out at h
     intro K Q hK
     cases out with
     |false=>
      simp only [Bool.false_eq_true,if_false,Option.some.injEq] at h
      simp only [Bool.or_eq_false_iff] at hout
      have oP:=xD I hg hout.1 hp
      generalize hge:a.eval g=gv at oP
      cases oP with
      |fn hcs=>
       have hargs:=(j4 I hout.2 has).app hcs
       refine nI (lE ho hge) hbody (bZ _ w Pr I.bL hargs) ?_
       rintro e w' ⟨v,aD,rfl,ef⟩
       refine ⟨v,rfl,hK v w' aD ef.fw ?_⟩
       subst h
       refine ⟨fun _ _=>ef.rp,fun _ _ _ h=>by simp at h,fun z hz=> ?_,fun q h=>by simp at h⟩
       obtain ⟨b,o',n,cap,cs,h1,h2,h3,h0,h4,h5⟩:=ef.gr z hz
       exact ⟨b,o',n,cap,cs,by rw [h1],h2,h3,h0,Nat.le_trans I.hb h4,h5,fun x hx=>by have:=(I.own x hx).2;omega⟩
     |true=>
      simp only [if_true] at h
      split at h
      · rename_i hv
        simp only [Option.some.injEq] at h
        obtain ⟨jL,MC⟩:∃jL:aC,∀b o',jL b o'↔(Pr b o'∨∃k cs,look st.bx k=some cs∧b=bk (.bx k)):=⟨fun b o'=>_,fun _ _=>Iff.rfl⟩
        have hP:∀b o,Pr b o→jL b o:=fun b o h=>(MC b o).2 (.inl h)
        have hB:∀k cs,look st.bx k=some cs→∀o,jL (bk (.bx k)) o:=fun k cs h o=>(MC _ o).2 (.inr ⟨k,cs,h,rfl⟩)
        have oP:=zm I hP hB hg hp
        generalize hge:a.eval g=gv at oP
        cases oP with
        |fn hcs=>
         have hargs:=(xE I hP hB has).app hcs
         refine nI (lE ho hge) hbody (bZ _ w jL (fun b o h=> ?_) hargs) ?_
         · rcases (MC b o).1 h with h|⟨k,cs,hk2,rfl⟩
           · exact I.bL b o h
           · exact (I.own (.bx k) ⟨cs,hk2⟩).2
         rintro e w' ⟨v,aD,rfl,ef⟩
         have V0:Fw w Pr w' Pr:=⟨ef.fw.gO,fun _ _ h=>h,fun _ _ _ h=>h,fun b o h=>Nat.lt_of_lt_of_le (I.bL b o h) ef.fw.gO.size⟩
         refine ⟨v,rfl,hK v w' Pr V0 ?_⟩
         subst h
         have cS:Rp w' Pr r.v v:=by
          have h0:=ef.rp
          unfold ki at hv
          split at hv
          · rename_i he
            rw [he] at h0 ⊢
            cases h0 with
            |aG hr=>cases hr;exact .aG .nil
          · obtain ⟨u,Nr⟩:=Option.isSome_iff_exists.1 hv
            exact yD Nr h0
         exact bA cS
      · simp at h
   · simp at h
 · simp at h
end
end Go.Proofs.YtibbgjafjhcemaaDoor.Cul
namespace Go.Proofs.YtibbgjafjhcemaaDoor.Cul
open Go Go.RowKit
section
variable {P:Program} {base:Nat} {w:World} {Pr:aC} {bk:Key→Nat} {st:St} {a:Act} {N:Nat}
theorem Df (I:Inv base w Pr bk st a N) {lo hi:Option Operand} {n:Nat} {hh ll:Int} (hhi:(match (generalizing:=false) hi with|none=>some (n:Int)|some y=>(st.pv y).bind cn)=some hh) (hlo:(match (generalizing:=false) lo with|none=>some (0:Int)|some y=>(st.pv y).bind cn)=some ll)
  (hb0:0≤ll) (fG:ll≤hh) (ck:hh≤n):∀cap,n≤cap→(Instr.sliceBounds true n cap (lo.map a.eval) (hi.map a.eval) none).run P w= .ok (ll.toNat,hh.toNat,cap) w:=by
 intro cap hcap
 have h1:∀(k:IntKind),(Instr.sliceBound (.int k hh) cap .sliceAcap).run P w= .ok hh.toNat w:=fun k=>by
  simp [Instr.sliceBound,asIntOf,show 0≤hh by omega,show hh≤(cap:Int) by omega]
 have h2:∀(k:IntKind),(Instr.sliceBound (.int k ll) hh.toNat .sliceB).run P w= .ok ll.toNat w:=fun k=>by
  simp [Instr.sliceBound,asIntOf,show 0≤ll by omega,show ll≤(hh.toNat:Int) by omega,show ll≤max hh 0 by omega]
 cases hi with
 |none=>
  simp only [Option.some.injEq] at hhi;subst hhi
  cases lo with
  |none=>simp only [Option.some.injEq] at hlo;subst hlo;simp [Instr.sliceBounds]
  |some y=>obtain ⟨k,hk⟩:=int_eq I hlo;have E7:=h2 k;simp only [Int.toNat_natCast] at E7;simp [Instr.sliceBounds,hk,E7]
 |some z=>
  obtain ⟨k,hk⟩:=int_eq I hhi
  cases lo with
  |none=>simp only [Option.some.injEq] at hlo;subst hlo;simp [Instr.sliceBounds,hk,h1]
  |some y=>obtain ⟨k',hk'⟩:=int_eq I hlo;simp [Instr.sliceBounds,hk,h1,hk',h2]
theorem yy (I:Inv base w Pr bk st a N) {o:Oper} {t e:TypeId} {x:Operand} {lo hi:Option Operand} {n sz:Nat} {hh ll:Int} (ho:o.op= .slice t x lo hi none) (hu:P.underlying t=some (.slice e)) (hsz:bV P e=some sz)
  (hhi:(match (generalizing:=false) hi with|none=>some (n:Int)|some y=>(st.pv y).bind cn)=some hh) (hlo:(match (generalizing:=false) lo with|none=>some (0:Int)|some y=>(st.pv y).bind cn)=some ll) (hb0:0≤ll) (fG:ll≤hh) (ck:hh≤n):
  ∀A cap,n≤cap→a.eval x= .slice A n cap→(execOp a.eval o).run P w= .ok (.value (.slice (if cap=ll.toNat then A else A.map (·.add (ll.toNat* sz))) (hh.toNat - ll.toNat) (cap - ll.toNat))) w:=by
 intro A cap hcap hx
 simp only [execOp,ho,hx]
 refine dH ?_
 simp [Instr.sliceAt,Instr.slice,fA hu,Df I hhi hlo hb0 fG ck cap hcap,fZ hsz]
theorem Gj (I:Inv base w Pr bk st a N) {o:Oper} {m:Made} {call:Cl} {t:TypeId} {x:Operand} {lo hi mx:Option Operand} (ho:o.op= .slice t x lo hi mx) (h:quiet P call o st=some m):gY P base w Pr bk st a o m:=by
 simp only [quiet,ho] at h
 split at h
 · rename_i k off sz n heq
   split at h
   · rename_i e hu
     split at h
     · rename_i hsz
       rw [Option.bind_eq_some_iff] at h
       obtain ⟨hh,hhi,h⟩:=h
       rw [Option.bind_eq_some_iff] at h
       obtain ⟨ll,hlo,h⟩:=h
       split at h
       · rename_i hb
         obtain ⟨hb0,fG,ck⟩:=hb
         simp only [Option.some.injEq] at h;subst h
         obtain ⟨o',cap,cs,c,T,hx,h0,hk,hle,hz,hn,Ic,hroom⟩:=yO I heq
         refine bh I (yy I ho hu hsz hhi hlo hb0 fG ck _ _ hn hx) (cz (t:=0) (by simp) ?_)
         have hmul:hh.toNat* sz≤n* sz:=Nat.mul_le_mul_right _ (by omega)
         have hsub:(hh.toNat - ll.toNat)* sz=hh.toNat* sz - ll.toNat* sz:=Nat.sub_mul ..
         have We:ll.toNat* sz≤hh.toNat* sz:=Nat.mul_le_mul_right _ (by omega)
         have hcs:(cap - ll.toNat)* sz=cap* sz - ll.toNat* sz:=Nat.sub_mul ..
         have hlc:ll.toNat* sz≤cap* sz:=Nat.mul_le_mul_right _ (by omega)
         by_cases hcl:cap=ll.toNat
         · rw [if_pos hcl]
           have hnn:hh.toNat - ll.toNat=0:=by omega
           by_cases JO:ll.toNat=0
           · refine ⟨o',_,cs,c,T,rfl, ?_,hk,by omega,hz,by omega,Ic,by omega⟩
             rcases h0 with h0|⟨_,h0⟩
             · exact .inl (by rw [JO,h0];simp)
             · exact .inr ⟨hnn,by omega⟩
           · have:0<ll.toNat* sz:=Nat.mul_pos (by omega) hz
             exact ⟨o',_,cs,c,T,rfl, .inr ⟨hnn,by omega⟩,hk,by omega,hz,by omega,Ic,by omega⟩
         · rw [if_neg hcl]
           simp only [Option.map_some,Addr.add_mid]
           refine ⟨_,_,cs,c,T,rfl, ?_,hk,by omega,hz,by omega,Ic,by omega⟩
           rcases h0 with rfl|⟨h0,h1⟩
           · exact .inl rfl
           · exact .inr ⟨by omega,by omega⟩
       · simp at h
     · simp at h
   · simp at h
 · rename_i sz n cs heq
   split at h
   · rename_i e hu
     split at h
     · rename_i hsz
       rw [Option.bind_eq_some_iff] at h
       obtain ⟨hh,hhi,h⟩:=h
       rw [Option.bind_eq_some_iff] at h
       obtain ⟨ll,hlo,h⟩:=h
       split at h
       · rename_i hb
         obtain ⟨hb0,fG,ck⟩:=hb
         simp only [Option.some.injEq] at h;subst h
         have hv:=eO I heq
         have he:=yy I ho hu hsz hhi hlo hb0 fG ck
         generalize Af:a.eval x=v at hv
         cases hv with
         |n8=>
          obtain rfl:ll=0:=by omega
          obtain rfl:hh=0:=by omega
          refine bh I (he _ _ (Nat.le_refl _) Af) (bA ?_)
          simp;exact .n8
         |sl hr h1 hl hn hc hp=>
          rename_i cap b o' vs
          refine bh I (he _ _ hn Af) (bA ?_)
          have hlen:=hr.length
          have hmul:hh.toNat* sz≤n* sz:=Nat.mul_le_mul_right _ (by omega)
          have hsub:(hh.toNat - ll.toNat)* sz=hh.toNat* sz - ll.toNat* sz:=Nat.sub_mul ..
          have We:ll.toNat* sz≤hh.toNat* sz:=Nat.mul_le_mul_right _ (by omega)
          by_cases hcl:cap=ll.toNat
          · rw [if_pos hcl]
            have h0:hh.toNat - ll.toNat=0:=by omega
            rw [h0]
            have:=Rp.sl (w:=w) (Pr:=Pr) (sz:=sz) (n:=0) (cap:=cap - ll.toNat) (b:=b) (o:=o') .nil (by simp) (by simp) (Nat.zero_le _) (fun j v hj=>by simp at hj) (fun i hi=>by simp at hi)
            simpa using this
          · rw [if_neg hcl]
            simp only [Option.map_some,Addr.add_mid]
            refine .sl ((hr.drop _).take _) (fun v hv=>h1 v (List.mem_of_mem_drop (List.mem_of_mem_take hv))) ?_ (by omega) (iV (dF hc _) _) (fun i hi=> ?_)
            · simp only [List.length_take,List.length_drop];omega
            · rw [Nat.add_assoc];refine hp _ ?_;simp at hi;omega
       · simp at h
     · simp at h
   · simp at h
 · rename_i p hne heq
   rw [Option.bind_eq_some_iff] at h
   obtain ⟨v,hv,h⟩:=h
   have hx:=qC hv (eO I heq)
   split at h
   · refine iT I ?_ h;simp only [execOp,ho,hx];rfl
   · rw [Option.bind_eq_some_iff] at h
     obtain ⟨l,hl,h⟩:=h
     refine iT I ?_ h;simp only [execOp,ho,hx,Option.map_some,fO I hl];rfl
   · rw [Option.bind_eq_some_iff] at h
     obtain ⟨l,hl,h⟩:=h
     refine iT I ?_ h;simp only [execOp,ho,hx,Option.map_some,fO I hl];rfl
   · rw [Option.bind_eq_some_iff] at h
     obtain ⟨l,hl,h⟩:=h
     rw [Option.bind_eq_some_iff] at h
     obtain ⟨l',hl',h⟩:=h
     refine iT I ?_ h;simp only [execOp,ho,hx,Option.map_some,fO I hl,fO I hl'];rfl
   · simp at h
 · simp at h
theorem uM:∀{cs:List PV} {l:List UInt8} {vs:List Value},bytesOf cs=some l→aO w Pr cs vs→∃xs:List Int,vs=xs.map (Value.int .u8)∧l=xs.map fun n=>UInt8.ofNat n.toNat
 |[],l,vs,h,k=>by simp [bytesOf] at h;cases k;subst h;exact ⟨[],rfl,rfl⟩
 | .lit v::cs,l,vs,h,k=>by
   cases k with
   |cons h1 h2=>
    cases h1
    unfold bytesOf at h
    split at h
    · simp at*
    · rename_i n cs' heq
      simp only [List.cons.injEq,PV.lit.injEq] at heq
      obtain ⟨rfl,rfl⟩:=heq
      simp only [Option.map_eq_some_iff] at h
      obtain ⟨q,hq,rfl⟩:=h
      obtain ⟨xs,rfl,rfl⟩:=uM hq h2
      exact ⟨n::xs,rfl,rfl⟩
    · simp at h
 | .sl .. ::_,l,vs,h,k=>by simp [bytesOf] at h
 | .el .. ::_,l,vs,h,k=>by simp [bytesOf] at h
 | .fn .. ::_,l,vs,h,k=>by simp [bytesOf] at h
 | .ag .. ::_,l,vs,h,k=>by simp [bytesOf] at h
 | .aG .. ::_,l,vs,h,k=>by simp [bytesOf] at h
theorem BD (I:Inv base w Pr bk st a N) {o:Oper} {m:Made} {call:Cl} {src dst:TypeId} {x:Operand} (ho:o.op= .convert src dst x) (h:quiet P call o st=some m):gY P base w Pr bk st a o m:=by
 simp only [quiet,ho] at h
 split at h
 · rename_i n cs heq
   split at h
   · rename_i e hs hd
     split at h
     · rename_i he
       simp only [Option.map_eq_some_iff] at h
       obtain ⟨l,hl,rfl⟩:=h
       have hv:=iF I heq
       generalize hx:a.eval x=v at hv
       cases hv with
       |n8=>
        simp [bytesOf] at hl;subst hl
        refine bh I (v:= .string ByteArray.empty) ?_ (bA ?_)
        · simp only [execOp,ho,hx];exact dH (run_convert_bytes_nil w src e hs he 0 0 dst hd)
        · exact Rp.lit rfl
       |sl hr h1 hlen hn hc hp=>
        obtain ⟨xs,rfl,rfl⟩:=uM hl hr
        have mT:=hr.length
        simp at mT
        refine bh I (v:= .string (strOfNums xs)) ?_ (bA ?_)
        · simp only [execOp,ho,hx]
          refine dH (run_convert_bytes_arg w src e hs he _ _ n _ xs (by omega) (fun i hi=> ?_) dst hd)
          have:=hc i (.int .u8 (xs.getD i 0)) (by simp [List.getElem?_eq_getElem (show i<xs.length by omega)])
          exact this
        · exact Rp.lit rfl
     · simp at h
   · simp at h
 · rename_i p hne heq
   rw [Option.bind_eq_some_iff] at h
   obtain ⟨v,hv,h⟩:=h
   refine iT I ?_ h
   simp only [execOp,ho,qC hv (iF I heq)]
 · simp at h
theorem xL:∀(l:List Value) (k off:Nat) (arr:Array Value),off+k+l.length≤arr.size→
  ((l.zipIdx k).foldl (fun cs x=>cs.setIfInBounds (off+x.2) x.1) arr).toList=arr.toList.take (off+k)++l++arr.toList.drop (off+k+l.length)
 |[],k,off,arr,h=>by simp
 |v::l,k,off,arr,h=>by
  simp only [List.length_cons] at h
  simp only [List.zipIdx_cons,List.foldl_cons]
  rw [xL l (k+1) off _ (by simp;omega)]
  simp only [Array.toList_setIfInBounds,List.length_cons]
  have e1:off+(k+1)=off+k+1:=by omega
  have e2:off+k+1+l.length=off+k+(l.length+1):=by omega
  rw [e1,e2,List.take_set,List.drop_set_of_lt (by omega)]
  have hlt:off+k<arr.toList.length:=by simp;omega
  rw [List.take_succ_eq_append_getElem hlt,List.set_append_right _ _ (by simp;omega)]
  simp [Nat.min_eq_left (show off+k≤arr.size by omega)]
inductive oE (w:World) (Pr:aC):List (Nat×PV)→List (Nat×Value)→Prop
 |nil:oE w Pr [] []
 |cons {i:Nat} {p:PV} {v:Value} {l:List (Nat×PV)} {k:List (Nat×Value)} (h:Rp w Pr p v) (ht:gu p=false) (hs:oE w Pr l k):oE w Pr ((i,p)::l) ((i,v)::k)
def aZ (vs:List Value) (off:Nat) (new:List Value):List Value:=vs.take off++new++vs.drop (off+new.length)
theorem nP {place:Nat→Option (Nat×Nat)}:∀{l:List (Nat×PV)} {k:List (Nat×Value)} {cells out:List PV} {vs:List Value},oE w Pr l k→jq place cells l=some out→aO w Pr cells vs→One vs→
  ∃us,Instr.fill place vs.toArray k=some us.toArray∧aO w Pr out us∧One us
 |_,_,cells,out,vs, .nil,h,hr,h1=>by simp [jq] at h;subst h;exact ⟨vs,by simp [Instr.fill],hr,h1⟩
 |_,_,cells,out,vs, .cons (i:=i) (p:=p) (v:=v) hp ht hs,h,hr,h1=>by
  simp only [jq] at h
  split at h
  · simp at h
  · rename_i off size oR
    split at h
    · simp at h
    · rename_i hsz
      simp only [not_or,Decidable.not_not,Nat.not_lt] at hsz
      obtain ⟨fW,gE⟩:=hp.iI (fun us e=>by rw [e] at ht;simp [gu] at ht)
      have hl:=fW.length
      have hlen:=hr.length
      have hv:v.cells.toList.length=size:=by rw [←hl];exact hsz.1
      have hvs:v.cells.size=size:=by rw [←hv];simp
      have Pn:(v.cells.zipIdx.foldl (fun cs (x:Value×Nat)=>cs.setIfInBounds (off+x.2) x.1) vs.toArray)=(aZ vs off v.cells.toList).toArray:=by
       apply Array.ext'
       have:=xL v.cells.toList 0 off vs.toArray (by simp only [List.size_toArray,Nat.add_zero];omega)
       rw [←Array.foldl_toList,Array.toList_zipIdx]
       simpa [aZ] using this
      obtain ⟨us,mW,ji,Ab⟩:=nP hs h (show aO w Pr (splice cells off p.cells) (aZ vs off v.cells.toList) by
       unfold splice aZ
       rw [hl]
       exact ((hr.take off).app fW).app (hr.drop _)) (fun u hu=>by
       unfold aZ at hu
       simp only [List.mem_append] at hu
       rcases hu with (hu|hu)|hu
       · exact h1 u (List.mem_of_mem_take hu)
       · exact gE u hu
       · exact h1 u (List.mem_of_mem_drop hu))
      refine ⟨us, ?_,ji,Ab⟩
      rw [←mW,←Pn]
      simp only [Instr.fill,oR]
      rw [if_neg]
      simp only [List.size_toArray,bne_iff_ne,ne_eq,Bool.or_eq_true,decide_eq_true_eq,not_or,Decidable.not_not,Nat.not_lt]
      omega
end
end Go.Proofs.YtibbgjafjhcemaaDoor.Cul
namespace Go.Proofs.YtibbgjafjhcemaaDoor.Cul
open Go Go.RowKit
section
variable {P:Program} {base:Nat} {w:World} {Pr:aC} {bk:Key→Nat} {st:St} {a:Act} {N:Nat}
theorem qm (I:Inv base w Pr bk st a N):∀{l:List (Nat×Operand)} {ps:List (Nat×PV)},partsOf st l=some ps→oE w Pr ps (l.map fun x=>(x.1,a.eval x.2))
 |[],ps,h=>by simp [partsOf] at h;subst h;exact .nil
 |(i,x)::l,ps,h=>by
  simp only [partsOf,Option.bind_eq_some_iff] at h
  obtain ⟨p,hp,h⟩:=h
  split at h
  · simp at h
  · rename_i ht
    simp only [Option.map_eq_some_iff] at h
    obtain ⟨qs,hq,rfl⟩:=h
    exact .cons (iF I hp) (by simpa using ht) (qm I hq)
theorem tD (P:Program):∀(l:List Field) (pl:List (Nat×Nat)),placesOf P l=some pl→l.mapM (fun f=>(P.info? f.type).map fun i=>(f.offset,i.size))=some pl
 |[],pl,h=>by simp [placesOf] at h;subst h;rfl
 |f::l,pl,h=>by
  simp only [placesOf,Option.bind_eq_some_iff,Option.map_eq_some_iff] at h
  obtain ⟨s,hs,q,hq,rfl⟩:=h
  obtain ⟨i,h1,h2⟩:=jd hs
  simp [List.mapM_cons,h1,h2,tD P l q hq]
theorem kT {t:TypeId} {z:PV} (h:jz P t=some z):∃i v,P.info? t=some i∧i.zero=some v∧Rp w Pr z v:=by
 simp only [jz,Option.bind_eq_some_iff] at h
 obtain ⟨v,⟨i,h1,h2⟩,h3⟩:=h
 exact ⟨i,v,h1,h2,oY h3⟩
theorem BC {v:Value} {p:PV} (h:iS v=some p):gu p=false:=by
 unfold iS at h
 split at h
 · simp only [Option.map_eq_some_iff] at h;obtain ⟨_,_,rfl⟩:=h;rfl
 · split at h
   · simp at h;subst h;rfl
   · simp at h
theorem iZ {t:TypeId} {z:PV} (h:jz P t=some z):gu z=false:=by
 simp only [jz,Option.bind_eq_some_iff] at h
 obtain ⟨v,_,h3⟩:=h
 exact BC h3
theorem iQ {p:PV} (h:gu p=false):∀vs,p≠ .aG vs:=fun vs e=>by rw [e] at h;simp [gu] at h
theorem Gg (I:Inv base w Pr bk st a N) {o:Oper} {m:Made} {call:Cl} {t:TypeId} {parts:Array (Nat×Operand)} (ho:o.op= .build t parts) (h:quiet P call o st=some m):gY P base w Pr bk st a o m:=by
 simp only [quiet,ho] at h
 split at h
 · rename_i z ps hz hps
   have Fu:=qm I hps
   obtain ⟨i,zv,hi,qK,qJ⟩:=kT (w:=w) (Pr:=Pr) hz
   have oR:(parts.map fun (i,x)=>(i,a.eval x)).toList=parts.toList.map fun x=>(x.1,a.eval x.2):=by simp
   have fin:∀out vs,aO w Pr out vs→One vs→P.built t (parts.toList.map fun x=>(x.1,a.eval x.2))=some vs.toArray→gY P base w Pr bk st a o { v:= .pv (.ag out)}:=fun out vs h1 h2 h3=>by
    refine bh I (v:= .agg vs.toArray) ?_ (bA (.ag h1 h2))
    simp only [execOp,ho]
    refine dH (run_build w t _ _ ?_)
    rw [oR];exact h3
   generalize QD:zv=zz at qJ
   cases qJ with
   |ag hzl Ci=>
    split at h
    · rename_i fs hu
      rw [Option.bind_eq_some_iff] at h
      obtain ⟨pl,RK,h⟩:=h
      simp only [Option.map_eq_some_iff] at h
      obtain ⟨out,hf,rfl⟩:=h
      obtain ⟨us,h1,h2,h3⟩:=nP Fu hf hzl Ci
      refine fin out us h2 h3 ?_
      have JR:=tD P _ _ RK
      simp only [Program.built,hi,hu,qK,QD,JR]
      rw [←h1];simp [Value.cells]
    · rename_i n e hu
      rw [Option.bind_eq_some_iff] at h
      obtain ⟨s,hs,h⟩:=h
      simp only [Option.map_eq_some_iff] at h
      obtain ⟨out,hf,rfl⟩:=h
      obtain ⟨us,h1,h2,h3⟩:=nP Fu hf hzl Ci
      refine fin out us h2 h3 ?_
      obtain ⟨ie,V7,RD⟩:=jd hs
      simp only [Program.built,hi,hu,qK,QD,V7,RD]
      rw [←h1];simp [Value.cells]
    · simp at h
 · simp at h
theorem qE {z:List PV} {zv:List Value} (h:aO w Pr z zv):∀n,aO w Pr (bq z n) (bq zv n)
 |0=> .nil
 |n+1=>h.app (qE h n)
theorem tO {zv:List Value} (h:One zv):∀n,One (bq zv n)
 |0=>fun v hv=>by simp [bq] at hv
 |n+1=>fun v hv=>by
  simp only [bq,List.mem_append] at hv
  rcases hv with hv|hv
  · exact h v hv
  · exact tO h n v hv
theorem fC {α:Type} (z:List α):∀n,(bq z n).length=n* z.length
 |0=>by simp [bq]
 |n+1=>by simp [bq,fC z n,Nat.add_mul,Nat.add_comm]
theorem tL {α:Type} (z:List α):∀(n i:Nat),i<n* z.length→(bq z n)[i]? =z[i%z.length]?
 |0,i,h=>by simp at h
 |n+1,i,h=>by
  simp only [bq]
  by_cases hi:i<z.length
  · rw [List.getElem?_append_left hi,Nat.mod_eq_of_lt hi]
  · rw [List.getElem?_append_right (by omega),tL z n (i - z.length) (by rw [Nat.add_mul] at h;omega)]
    congr 1
    rw [←Nat.mod_eq_sub_mod (by omega)]
theorem Br (zv:Array Value) (n:Nat):((Array.range (n* zv.size)).map (zv[· %zv.size]!))=(bq zv.toList n).toArray:=by
 apply Array.ext'
 apply List.ext_getElem?
 intro i
 have hl:zv.toList.length=zv.size:=by simp
 by_cases hi:i<n* zv.size
 · have hlt:i%zv.size<zv.size:=Nat.mod_lt _ (by rcases Nat.eq_zero_or_pos zv.size with h|h<;>simp_all)
   have:=tL zv.toList n i (by rw [hl];exact hi)
   rw [show (bq zv.toList n).toArray.toList=bq zv.toList n from rfl,this,hl]
   simp [hi,getElem!_pos,hlt]
 · rw [List.getElem?_eq_none (by simpa using hi),List.getElem?_eq_none (by simp [fC];omega)]
theorem zH (I:Inv base w Pr bk st a N) (ob:Obj) (n:Nat):Fw w Pr (w.alloc ob) (fun b o=>Pr b o∨(b=w.heap.size∧o<n)):=
 ⟨(Below.refl _ _).alloc (Nat.le_refl _) _,fun b o h=> .inl h,fun b o hb h=>h.resolve_right (fun h=>by omega),fun b o h=>by
   simp only [World.size_alloc]
   rcases h with h|h
   · have:=I.bL b o h;omega
   · omega⟩
theorem heap_alloc (w:World) (ob:Obj):(w.alloc ob).heap[w.heap.size]? =some ob:=heap_alloc_new w ob
theorem GC (I:Inv base w Pr bk st a N) {cs:List PV} {vs:List Value} {sz n:Nat} {T:TypeId} (hr:aO w Pr cs vs) (h1:One vs) (hl:cs.length=n* sz):
  Rp (w.alloc (.cells vs.toArray T)) (fun b o=>Pr b o∨(b=w.heap.size∧o<n* sz)) (.sl sz n cs) (.slice (some ⟨w.heap.size,0,none⟩) n n):=by
 have hf:=zH I (.cells vs.toArray T) (n* sz)
 have hlen:=hr.length
 refine .sl (aO.mono (hf.kp I.bL) hr) h1 hl (Nat.le_refl _) (fun j v hj=> ?_) (fun i hi=> .inr ⟨rfl,by omega⟩)
 rw [cell_of_row _ _ _ _ _ _ (heap_alloc w _)]
 simpa using hj
theorem BH (I:Inv base w Pr bk st a N) {vs:List Value} {sz n:Nat} {T:TypeId} (hsz:0<sz) (hl:vs.length=n* sz):
  Room (w.alloc (.cells vs.toArray T)) (fun b o=>Pr b o∨(b=w.heap.size∧o<n* sz)) w.heap.size 0 n n sz:=
 ⟨hsz,Nat.le_refl _,⟨_,_,heap_alloc w _,by simp [hl]⟩,fun o' h=>by
  rcases h with h|h
  · exact absurd (I.bL _ _ h) (by omega)
  · omega⟩
theorem vR (T:TypeId) (c:Array Value) (w:World):(newRow T c).run P w= .ok ⟨w.heap.size,0,none⟩ (w.alloc (.cells c T)):=by
 rfl
theorem xm (I:Inv base w Pr bk st a N) {o:Oper} {m:Made} {call:Cl} {t:TypeId} {len:Nat} {parts:Array (Nat×Operand)} (ho:o.op= .buildSlice t len parts) (h:quiet P call o st=some m):gY P base w Pr bk st a o m:=by
 simp only [quiet,ho] at h
 split at h
 · rename_i e hu
   rw [Option.bind_eq_some_iff] at h
   obtain ⟨s,hs,h⟩:=h
   rw [Option.bind_eq_some_iff] at h
   obtain ⟨z,hz,h⟩:=h
   split at h
   · rename_i gW
     rw [Option.bind_eq_some_iff] at h
     obtain ⟨ps,hps,h⟩:=h
     simp only [Option.map_eq_some_iff] at h
     obtain ⟨out,hf,rfl⟩:=h
     obtain ⟨i,zv,hi,qK,qJ⟩:=kT (w:=w) (Pr:=Pr) hz
     obtain ⟨Ag,Ci⟩:=qJ.iI (iQ (iZ hz))
     have hzl:=Ag.length
     have hsz:zv.cells.size=s:=by rw [←gW.2,hzl];simp
     obtain ⟨us,h1,h2,h3⟩:=nP (qm I hps) hf (qE Ag len) (tO Ci len)
     have Qx:us.length=len* s:=by
      have:=h2.length
      have hout:∀{l:List (Nat×PV)} {c d:List PV},jq (fun i=>some (i* s,s)) c l=some d→d.length=c.length:=by
       intro l
       induction l with
       |nil=>intro c d h;simp [jq] at h;subst h;rfl
       |cons x l ih=>
        intro c d h
        simp only [jq] at h
        split at h
        · simp at h
        · rename_i gE
          rw [ih h]
          simp only [splice,List.length_append,List.length_take,List.length_drop]
          omega
      rw [←this,hout hf,fC,gW.2]
     intro K Q hK
     have hrun:(execOp a.eval o).run P w= .ok (.value (.slice (some ⟨w.heap.size,0,none⟩) len len)) (w.alloc (.cells us.toArray e)):=by
      simp only [execOp,ho]
      refine dH ?_
      have Nz:((Array.range (len* s)).map (zv.cells[· %zv.cells.size]!))=(bq zv.cells.toList len).toArray:=by rw [←hsz];exact Br _ _
      have oR:(parts.map fun (i,x)=>(i,a.eval x)).toList=parts.toList.map fun x=>(x.1,a.eval x.2):=by simp
      have hno:¬16777216<len* s:=by have:=gW.1;omega
      simp only [Instr.buildSlice,Sem.run_bind,fA hu,Result.andThen_ok,fZ hs]
      have zL:Instr.fill (fun i=>some (i* s,s)) (bq zv.cells.toList len).toArray (Array.map (fun x=>(x.fst,a.eval x.snd)) parts).toList=some us.toArray:=by
       rw [Array.toList_map];exact h1
      rw [if_neg (by simpa using hno)]
      have rE:=vR (P:=P) e us.toArray w
      by_cases h0:len* s=0
      · rw [if_pos h0]
        have VX:(bq zv.cells.toList len).toArray= #[]:=by
         have:(bq zv.cells.toList len).length=0:=by rw [fC];simp [hsz,h0]
         simp [List.length_eq_zero_iff.1 this]
        rw [VX] at zL
        simp only [Sem.run_bind,Sem.run_pure,Result.andThen_ok,h0]
        have Cg:Array.range 0= #[]:=rfl
        simp only [Cg,List.map_toArray,List.map_nil,zL,Sem.run_bind,rE,Result.andThen_ok,Sem.run_pure]
      · rw [if_neg h0]
        simp only [Sem.run_bind,Sem.run_pure,Result.andThen_ok,zeroValue,typeInfo,program,Sem.run,hi,qK,Nz,zL,rE]
     unfold Oper.wp
     rw [hrun]
     refine hK _ _ _ (zH I _ (len* s)) ⟨fun _ _=>GC I h2 h3 (by rw [h2.length];exact Qx),fun _ _ _ h=>by simp at h,fun z' dX=> ?_,fun q h=>by simp at h⟩
     simp only at dX
     split at dX
     · simp at dX
     · rename_i Wg
       simp only [Option.some.injEq] at dX;subst dX
       simp only [not_or] at Wg
       exact ⟨w.heap.size,0,len,len,out,rfl,rfl,BH I (by omega) Qx,rfl,I.hb,by simp,fun x hx=>by have:=(I.own x hx).2;omega⟩
   · simp at h
 · simp at h
end
end Go.Proofs.YtibbgjafjhcemaaDoor.Cul
namespace Go.Proofs.YtibbgjafjhcemaaDoor.Cul
open Go Go.RowKit
section
variable {P:Program} {base:Nat} {w:World} {Pr:aC} {bk:Key→Nat} {st:St} {a:Act} {N:Nat}
theorem AS {call:Cl} (hC:aI P call) (I:Inv base w Pr bk st a N) {o:Oper} {m:Made} (h:quiet P call o st=some m):gY P base w Pr bk st a o m:=by
 cases ho:o.op with
 |move x=>exact IZ I ho h
 |pick c x y=>exact I5 I ho h
 |binOp op t x y u=>exact Gf I ho h
 |unOp op t x=>exact I6 I ho h
 |convert s d x=>exact BD I ho h
 |fieldAddr s x f=>exact yJ I ho h
 |field s x f=>exact Gh I ho h
 |indexAddr t x i=>exact yK I ho h
 |index t x i=>exact Gi I ho h
 |load t x=>exact IY I ho h
 |build t ps=>exact Gg I ho h
 |buildSlice t n ps=>exact xm I ho h
 |extract x i=>exact BE I ho h
 |slice t x lo hi mx=>exact Gj I ho h
 |makeFunc f fi ca=>exact AN I ho h
 |nilCheck x=>exact AO I ho h
 |call c=>
  obtain ⟨callee,args,ts⟩:=c
  cases callee with
  |value g=>exact IX I hC ho h
  |builtin b=>
   cases b with
   |len=>exact Ly I ho h
   |max=>exact Lz I ho h
   |min=>exact LA I ho h
   |_=>simp [quiet,ho] at h
  |invoke r n=>simp [quiet,ho] at h
 |_=>simp [quiet,ho] at h
def jK (P:Program) (base:Nat) (w:World) (Pr:aC) (bk:Key→Nat) (st:St) (a:Act) (N:Nat) (o:Oper) (st':St):Prop:=
 ∀(K:Act→World→Prop) (Q:Exit→Act→World→Prop),
  (∀a' w' aD aQ,Inv base w' aD aQ st' a' N→Below base w w'→Kp w Pr w' aD→(∀b o,b<base→aD b o→Pr b o)→KO w w'→(∀k,o.dst≠some k→aQ (.bx k)=bk (.bx k))→a'.defers=a.defers→K a' w')→o.wp P a w K Q
theorem Inv.less (I:Inv base w Pr bk st a N) {st':St} (hs:∀t av,look st'.sl t=some av→look st.sl t=some av∨av= .dead∧∃v,a.tmps[t]? =some v)
  (hb:∀k cs,look st'.bx k=some cs→look st.bx k=some cs) (hg:∀p z,aJ st'.gr p=some z→aJ st.gr p=some z∧(match p with| .s t=>look st'.sl t=look st.sl t| .c k _=>look st'.bx k=look st.bx k))
  (ht:∀t q,look st'.tg t=some (some q)→look st.tg t=some (some q))
  (hr:∀t u,(look st'.sl t=some (.xr u)∨∃off,look st'.sl t=some (.xe u off))→ee st u→ee st' u)
  (j7:∀t av k,look st'.sl t=some av→k∈oA av→∀cs,look st.bx k=some cs→look st'.bx k=some cs):Inv base w Pr bk st' a N:=by
 have bU:∀x,live st' x→live st x:=by
  intro x hx
  cases x with
  |bx k=>obtain ⟨cs,h⟩:=hx;exact ⟨cs,hb k cs h⟩
  |sx t=>
   rcases hx with ⟨sz,n,cs,h⟩|⟨z,h⟩
   · rcases hs t _ h with h|⟨h,_⟩
     · exact .inl ⟨sz,n,cs,h⟩
     · simp at h
   · exact .inr ⟨z,(hg _ z h).1⟩
  |cx k o=>obtain ⟨z,h⟩:=hx;exact ⟨z,(hg _ z h).1⟩
 constructor
 · exact I.size
 · exact I.defers
 · exact I.hb
 · exact I.bL
 · intro t av h
   rcases hs t av h with h'|⟨rfl,v,hv⟩
   · obtain ⟨v,hv,hr'⟩:=I.slots t av h'
     refine ⟨v,hv, ?_⟩
     cases av with
     |xr u=>exact ⟨hr'.1,hr t u (.inl h) hr'.2⟩
     |xe u off=>exact ⟨hr'.1,hr t u (.inr ⟨off,h⟩) hr'.2⟩
     |bs k off sz n=>exact hr'.frame rfl fun cs e=>⟨cs,j7 t _ k h (by simp [oA]) cs e,rfl⟩
     |mv f k off sz n=>obtain ⟨u,h1,h2⟩:=hr';exact ⟨u,h1,h2.frame rfl fun cs e=>⟨cs,j7 t _ k h (by simp [oA]) cs e,rfl⟩⟩
     |tg k off sz n rest=>obtain ⟨u,us,h1,h2,h3⟩:=hr';exact ⟨u,us,h1,h2.frame rfl fun cs e=>⟨cs,j7 t _ k h (by simp [oA]) cs e,rfl⟩,h3⟩
     |_=>exact hr'
   · exact ⟨v,hv,trivial⟩
 · exact fun x hx=>I.own x (bU x hx)
 · exact fun x y hx hy=>I.inj x y (bU x hx) (bU y hy)
 · exact fun k cs h=>I.boxes k cs (hb k cs h)
 · intro t z h
   obtain ⟨h1,h2⟩:=hg _ z h
   obtain ⟨o,n,cap,cs,h3,h4,h5⟩:=I.gQ t z h1
   exact ⟨o,n,cap,cs,h2.trans h3,h4,h5⟩
 · intro k i z h
   obtain ⟨h1,h2⟩:=hg _ z h
   obtain ⟨o,n,cap,cs,di,h3,h4⟩:=I.iA k i z h1
   exact ⟨o,n,cap,cs,di,h2.trans h3,h4⟩
 · intro t q h hq
   obtain ⟨z,hz⟩:=hq
   exact I.tags t q (ht t q h) ⟨z,(hg _ z hz).1⟩
theorem Inv.iC (I:Inv base w Pr bk st a N) {d:Nat} (hd:d<N) {m:Made} {v:Value} (h:dy base w Pr bk st a m v):∃aQ,Inv base w Pr aQ (st.made (some d) m) (a.put (some d) v) N∧∀k,aQ (.bx k)=bk (.bx k):=by
 obtain ⟨aQ,h1,h2⟩:=I.made hd h;exact ⟨aQ,h1,fun k=>h2 _ (by simp)⟩
theorem eV (st:St) (d:Nat) (v:AV):st.put (some d) v=st.made (some d) { v:=v}:=rfl
theorem gP (I:Inv base w Pr bk st a N) {o:Oper} {d:Nat} (j8:o.dst=some d) (hd:d<N) {m:Made} {v:Value} (he:(execOp a.eval o).run P w= .ok (.value v) w) (h:dy base w Pr bk st a m v):jK P base w Pr bk st a N o (st.made (some d) m):=by
 intro K Q hK
 obtain ⟨aQ,h1,hbk⟩:=I.iC hd h
 refine nJ he ?_
 rw [j8]
 exact hK _ _ _ _ h1 (Below.refl _ _) (Kp.refl _ _) (fun _ _ _ h=>h) (KO.refl _) (fun k _=>hbk k) rfl
theorem pZ (st:St) (p q:Pl):aJ (st.gr.filter (fun x=>x.1≠p)) q=if q=p then none else aJ st.gr q:=by
 have:=ek (fun x=>decide (x≠p)) st.gr q
 simp only [ne_eq,decide_not,Bool.not_eq_eq_eq_not,Bool.not_true,decide_eq_false_iff_not,ite_not] at this ⊢
 exact this
theorem vr (p:Pl) (l:List (Nat×Option Pl)) (t:Nat):look (l.map (fX p)) t=(look l t).map fun q=>if q=some p then none else q:=
 bT (fX p) (fun _ q=>if q=some p then none else q) (fun _=>rfl) l t
theorem Inv.release (I:Inv base w Pr bk st a N) (p:Pl):Inv base w Pr bk { st with gr:=st.gr.filter (fun x=>x.1≠p),tg:=st.tg.map (fX p)} a N:=by
 refine I.less (fun t av h=> .inl h) (fun k cs h=>h) (fun q z h=> ?_) (fun t q h=> ?_) (fun t u _ h=>h) (fun _ _ _ _ _ _ e=>e)
 · simp only at h
   rw [pZ] at h
   split at h
   · simp at h
   · exact ⟨h,by cases q<;>rfl⟩
 · simp only at h
   rw [vr] at h
   cases hq:look st.tg t with
   |none=>simp [hq] at h
   |some x=>
    simp only [hq,Option.map_some,Option.some.injEq] at h
    split at h
    · simp at h
    · rw [h]
theorem ke {p:Pl} {x:Key} (h:live { st with gr:=st.gr.filter (fun x=>x.1≠p),tg:=st.tg.map (fX p)} x) (hp:∀t,p= .s t→¬ee st t):live st x∧x≠p.key:=by
 cases x with
 |bx k=>exact ⟨h,by cases p<;>simp [Pl.key]⟩
 |sx t=>
  rcases h with h|⟨z,h⟩
  · refine ⟨.inl h,fun e=> ?_⟩
    cases p with
    |s u=>simp [Pl.key] at e;subst e;exact hp t rfl h
    |c k o=>simp [Pl.key] at e
  · simp only at h;rw [pZ] at h
    split at h
    · simp at h
    · rename_i hne;exact ⟨.inr ⟨z,h⟩,fun e=>hne (by cases p with|s u=>simp [Pl.key] at e;rw [e]|c k o=>simp [Pl.key] at e)⟩
 |cx k o=>
  obtain ⟨z,h⟩:=h
  simp only at h;rw [pZ] at h
  split at h
  · simp at h
  · rename_i hne;exact ⟨⟨z,h⟩,fun e=>hne (by cases p with|s u=>simp [Pl.key] at e|c k' o'=>simp [Pl.key] at e;rw [e.1,e.2])⟩
theorem Dm (I:Inv base w Pr bk st a N) {o:Oper} {x:Operand} {st':St} (ho:o.op= .assign x) (hN:∀d,o.dst=some d→d<N) (h:effect P o st=some st'):jK P base w Pr bk st a N o st':=by
 have he:(execOp a.eval o).run P w= .ok (.value (a.eval x)) w:=by simp [execOp,ho]
 simp only [effect,ho] at h
 split at h
 · rename_i t sz n cs heq
   simp only [Option.map_eq_some_iff] at h
   obtain ⟨d,hd,rfl⟩:=h
   obtain ⟨v,cT,eS⟩:=I.slots t _ heq
   have hx:a.eval (.tmp t)=v:=gU cT
   have hlk:∀u,look (bH st.sl t) u=if u=t then none else look st.sl u:=bD st.sl t
   have zX:aJ st.gr (.s t)=none:=by
    cases e:aJ st.gr (.s t) with
    |none=>rfl
    |some z=>obtain ⟨o',n',cap',cs',h1,_⟩:=I.gQ t z e;rw [show look st.sl t=_ from heq] at h1;simp at h1
   have I2:Inv base w Pr bk { st with sl:=(bH st.sl t).map (dG t)} a N:=by
    refine I.less (fun u av h=> ?_) (fun k cs h=>h) (fun q z h=>⟨h, ?_⟩) (fun t q h=>h) (fun u x h hx=> ?_) (fun _ _ _ _ _ _ e=>e)
    · simp only at h
      rw [bT (dG t) (fun _ av=>if bu t av then .dead else av) (fun _=>rfl),hlk] at h
      by_cases e:u=t
      · simp [e] at h
      · rw [if_neg e] at h
        cases hq:look st.sl u with
        |none=>simp [hq] at h
        |some y=>
         simp only [hq,Option.map_some,Option.some.injEq] at h
         split at h
         · obtain ⟨v,hv,_⟩:=I.slots u y hq;exact .inr ⟨h.symm,v,hv⟩
         · exact .inl (by rw [h])
    · cases q with
      |s u=>
       simp only
       rw [bT (dG t) (fun _ av=>if bu t av then .dead else av) (fun _=>rfl),hlk]
       have e:u≠t:=fun e=>by subst e;rw [zX] at h;simp at h
       rw [if_neg e]
       obtain ⟨o',n',cap',cs',h1,_⟩:=I.gQ u z h
       rw [h1];rfl
      |c k o=>rfl
    · simp only at h
      obtain ⟨sz',n',cs',hx⟩:=hx
      have FB:x≠t:=by
       intro e;subst e
       rcases h with h|⟨off,h⟩<;>
       · rw [bT (dG x) (fun _ av=>if bu x av then .dead else av) (fun _=>rfl)] at h
         cases hq:look (bH st.sl x) u with
         |none=>simp [hq] at h
         |some y=>simp only [hq,Option.map_some,Option.some.injEq] at h;split at h<;>simp_all [bu]
      refine ⟨sz',n',cs', ?_⟩
      simp only
      rw [bT (dG t) (fun _ av=>if bu t av then .dead else av) (fun _=>rfl),hlk,if_neg FB,hx];rfl
   obtain ⟨o',cap,vs,h1,h2,h3,h4,h5,h6,h7⟩:=eS
   have hown:=I.own (.sx t) (.inl ⟨sz,n,cs,heq⟩)
   have hm:dy base w Pr bk { st with sl:=(bH st.sl t).map (dG t)} a { v:= .ex sz n cs} v:=by
    refine ⟨fun h=>absurd rfl (h sz n cs),fun sz' n' cs' h=> ?_,fun z h=>by simp at h,fun q h=>by simp at h⟩
    cases h
    refine ⟨rfl,_,o',cap,vs,h1,h2,h3,h4,h5,h6,h7,hown.1,hown.2,fun x hx e=> ?_⟩
    have Ft:live st x∧x≠ .sx t:=by
     cases x with
     |bx k=>exact ⟨hx,by simp⟩
     |cx k o=>exact ⟨hx,by simp⟩
     |sx u=>
      have Ac:u≠t:=by
       intro e2;subst e2
       rcases hx with ⟨_,_,_,hx⟩|⟨z,hx⟩
       · simp only at hx
         rw [bT (dG u) (fun _ av=>if bu u av then .dead else av) (fun _=>rfl),hlk,if_pos rfl] at hx;simp at hx
       · simp only at hx;rw [zX] at hx;simp at hx
      refine ⟨?_,by simpa using Ac⟩
      rcases hx with ⟨sz',n',cs',hx⟩|hx
      · simp only at hx
        rw [bT (dG t) (fun _ av=>if bu t av then .dead else av) (fun _=>rfl),hlk,if_neg Ac] at hx
        cases hq:look st.sl u with
        |none=>simp [hq] at hx
        |some y=>simp only [hq,Option.map_some,Option.some.injEq] at hx;split at hx<;>simp_all [live,ee]
      · exact .inr hx
    exact Ft.2 (I.inj x (.sx t) Ft.1 (.inl ⟨sz,n,cs,heq⟩) e)
   intro K Q hK
   obtain ⟨aQ,hI,hbk⟩:=I2.iC (hN d hd) hm
   refine nJ he ?_
   rw [hd,hx]
   exact hK _ _ _ _ hI (Below.refl _ _) (Kp.refl _ _) (fun _ _ _ h=>h) (KO.refl _) (fun k _=>hbk k) rfl
 · rename_i t p heq
   simp only [Option.map_eq_some_iff] at h
   obtain ⟨d,hd,h⟩:=h
   obtain ⟨v,cT,eS⟩:=I.slots t _ heq
   have hx:a.eval (.tmp t)=v:=gU cT
   split at h
   · rename_i z hz
     split at h
     · subst h;rw [eV]
       exact gP I hd (hN d hd) he (bA (eO I heq))
     · rename_i JU
       subst h
       have I2:=I.release (.s t)
       obtain ⟨o',n,cap,cs,h1,h2,h3,h0⟩:=I.gQ t z hz
       have hp:p= .sl z n cs:=by
        have e:look st.sl t=some (.pv p):=heq
        rw [h1] at e;simpa using e.symm
       subst hp
       have hval:v= .slice (some ⟨bk (.sx t),o',none⟩) n cap:=by rw [cT] at h2;exact Option.some.inj h2
       have hown:=I.own (.sx t) (.inr ⟨z,hz⟩)
       have hne:¬ee st t:=fun ⟨_,_,_,e⟩=>by rw [h1] at e;simp at e
       intro K Q hK
       have hm:dy base w Pr bk { st with gr:=st.gr.filter (fun x=>x.1≠ .s t),tg:=st.tg.map (fX (.s t))} a { v:= .pv (.sl z n cs),gr:=some z} v:=by
        refine ⟨fun _ _=>eS,fun _ _ _ h=>by simp at h,fun z' dX=> ?_,fun q h=>by simp at h⟩
        simp only [Option.some.injEq] at dX;subst dX
        refine ⟨bk (.sx t),o',n,cap,cs,rfl,hval,h3,h0,hown.1,hown.2,fun x hx e=> ?_⟩
        obtain ⟨hl,hk⟩:=ke hx (fun u hu=>by cases hu;exact hne)
        exact hk (I.inj x (.sx t) hl (.inr ⟨z,hz⟩) e)
       obtain ⟨aQ,hI,hbk⟩:=I2.iC (hN d hd) hm
       refine nJ he ?_
       rw [hd,hx]
       exact hK _ _ _ _ hI (Below.refl _ _) (Kp.refl _ _) (fun _ _ _ h=>h) (KO.refl _) (fun k _=>hbk k) rfl
   · subst h;rw [eV]
     exact gP I hd (hN d hd) he (bA (eO I heq))
 · rename_i p hx heq
   simp only [Option.map_eq_some_iff] at h
   obtain ⟨d,hd,rfl⟩:=h
   rw [eV]
   exact gP I hd (hN d hd) he (bA (eO I heq))
 · rename_i f caps heq
   simp only [Option.map_eq_some_iff] at h
   obtain ⟨d,hd,rfl⟩:=h
   rw [eV]
   obtain ⟨t,hv⟩:=eP I heq
   exact gP I hd (hN d hd) he (cz (by simp) hv)
 · rename_i k off heq
   simp only [Option.map_eq_some_iff] at h
   obtain ⟨d,hd,rfl⟩:=h
   rw [eV]
   obtain ⟨t,hv⟩:=eP I heq
   exact gP I hd (hN d hd) he (cz (by simp) hv)
 · rename_i k off sz n heq
   simp only [Option.map_eq_some_iff] at h
   obtain ⟨d,hd,rfl⟩:=h
   rw [eV]
   obtain ⟨t,hv⟩:=eP I heq
   exact gP I hd (hN d hd) he (cz (by simp) hv)
 · rename_i f k off sz n heq
   simp only [Option.map_eq_some_iff] at h
   obtain ⟨d,hd,rfl⟩:=h
   rw [eV]
   obtain ⟨t,hv⟩:=eP I heq
   exact gP I hd (hN d hd) he (cz (by simp) hv)
 · simp at h
end
end Go.Proofs.YtibbgjafjhcemaaDoor.Cul
namespace Go.Proofs.YtibbgjafjhcemaaDoor.Cul
open Go Go.RowKit
section
variable {P:Program} {base:Nat} {w:World} {Pr:aC} {bk:Key→Nat} {st:St} {a:Act} {N:Nat}
theorem Am {α:Type}:∀{l:List (Nat×α)} {t:Nat} {v:α},look l t=some v→(t,v)∈l
 |[],t,v,h=>by simp [look] at h
 |(k,u)::l,t,v,h=>by
  simp only [look] at h
  split at h
  · rename_i e;simp at h;subst h;subst e;simp
  · exact List.mem_cons_of_mem _ (Am h)
theorem iO (gr:List (Pl×Nat)) (d:Nat) (q:Pl):aJ (gr.filter (fun x=>x.1.eK d)) q=if q.eK d then aJ gr q else none:=ek (Pl.eK d) gr q
theorem Inv.dw (I:Inv base w Pr bk st a N) {d b:Nat} {cs:List PV} {vs:List Value} {c:Array Value} {T:TypeId} {st':St} {uJ:AV} {v0:Value} (hd:d<N) (hb:w.heap[b]? =some (.cells c T (0,0))) (hpre:vs<+:c.toList) (fG:base≤b) (ck:∀x,live st x→bk x≠b) (nR:∀o,¬Pr b o)
  (hr:aO w Pr cs vs) (h1:One vs) (u7:bu d uJ=false) (RH:∀sz n cs,uJ≠ .ex sz n cs) (mX:∀(tI:St) (a2:Act) (gA:Key→Nat) (t:Nat),look tI.bx d=some cs→gA (.bx d)=b→dJ tI a2 w Pr gA t uJ v0)
  (h:st.dw d cs uJ=some st'):∃aQ,Inv base w Pr aQ st' (a.put (some d) v0) N∧(∀x,live st' x→(x= .bx d∧aQ x=b)∨(live st x∧aQ x=bk x))∧∀k,k≠d→aQ (.bx k)=bk (.bx k):=by
 have hN:d<a.tmps.size:=by rw [I.size];exact hd
 have pT:b<w.heap.size:=(Array.getElem?_eq_some_iff.1 hb).1
 simp only [St.dw] at h
 split at h
 · rename_i hall
   simp only [Option.some.injEq] at h
   obtain ⟨aQ,fI,hk2⟩:∃aQ:Key→Nat,(∀x,x≠ .bx d→aQ x=bk x)∧aQ (.bx d)=b:=⟨fun x=>if x= .bx d then b else bk x,fun x hx=>if_neg hx,if_pos rfl⟩
   have mV:∀t av,look st'.sl t=some av→(t=d∧av=uJ)∨(t≠d∧(av= .dead∧(∃L4,look st.sl t=some L4)∨(bu d av=false∧look st.sl t=some av))∧iD d av=true):=by
    intro t av ht
    rw [←h] at ht;simp only at ht
    by_cases e:t=d
    · rw [jI,if_pos e] at ht;simp [u7] at ht;exact .inl ⟨e,ht.symm⟩
    · refine .inr ⟨e, ?_, ?_⟩
      · rw [jI,if_neg e] at ht
        cases hq:look st.sl t with
        |none=>simp [hq] at ht
        |some x=>
         simp only [hq,Option.map_some,Option.some.injEq] at ht
         split at ht
         · exact .inl ⟨ht.symm,x,rfl⟩
         · rename_i hx;subst ht;exact .inr ⟨by simpa using hx,rfl⟩
      · have:look (bH (st.put (some d) uJ).sl d) t=some av:=by rw [bD,if_neg e];exact ht
        exact List.all_eq_true.1 hall _ (Am this)
   have dj:∀k cs',look st'.bx k=some cs'→(k=d∧cs'=cs)∨(k≠d∧look st.bx k=some cs'):=by
    intro k cs' hk
    rw [←h] at hk;simp only [look] at hk
    split at hk
    · rename_i e;simp at hk;exact .inl ⟨e.symm,hk.symm⟩
    · rename_i e;rw [bD,if_neg (Ne.symm e)] at hk;exact .inr ⟨Ne.symm e,hk⟩
   have dO:∀p z,aJ st'.gr p=some z→p≠ .s d∧p.eK d=true∧aJ st.gr p=some z:=by
    intro p z hp
    rw [←h] at hp;simp only at hp
    rw [iO,xY] at hp
    split at hp
    · rename_i hnb
      split at hp
      · simp at hp
      · exact ⟨‹_›,hnb,hp⟩
    · simp at hp
   have hbk:∀k,k≠d→aQ (.bx k)=bk (.bx k):=fun k hk=>fI _ (by simpa using hk)
   have qH:∀t,aQ (.sx t)=bk (.sx t):=fun t=>fI _ (by simp)
   have Cf:∀k o,aQ (.cx k o)=bk (.cx k o):=fun k o=>fI _ (by simp)
   have hex:∀x,x≠d→ee st x→ee st' x:=by
    rintro x hx ⟨sz,n,c,hl⟩
    refine ⟨sz,n,c, ?_⟩
    rw [←h];simp only;rw [jI,if_neg hx,hl];rfl
   have bU:∀x,live st' x→(x≠ .bx d∧live st x)∨x= .bx d:=by
    intro x hx
    cases x with
    |bx k=>
     obtain ⟨cs',hk⟩:=hx
     rcases dj k cs' hk with ⟨rfl,_⟩|⟨hne,hk⟩
     · exact .inr rfl
     · exact .inl ⟨by simpa using hne,cs',hk⟩
    |sx t=>
     refine .inl ⟨by simp, ?_⟩
     rcases hx with ⟨sz,n,c,hl⟩|⟨z,hz⟩
     · rcases mV t _ hl with ⟨_,e⟩|⟨_,⟨e,_⟩|⟨_,e⟩,_⟩
       · exact absurd e.symm (RH _ _ _)
       · simp at e
       · exact .inl ⟨sz,n,c,e⟩
     · exact .inr ⟨z,(dO _ z hz).2.2⟩
    |cx k o=>obtain ⟨z,hz⟩:=hx;exact .inl ⟨by simp,z,(dO _ z hz).2.2⟩
   refine ⟨aQ, ?_,fun x hx=>(bU x hx).elim (fun h=> .inr ⟨h.2,fI x h.1⟩) (fun h=> .inl ⟨h,h ▸hk2⟩),hbk⟩
   constructor
   · simp [Act.put,I.size]
   · exact I.defers
   · exact I.hb
   · exact I.bL
   · intro t av ht
     rcases mV t av ht with ⟨rfl,rfl⟩|⟨hne,u7,hnp⟩
     · exact ⟨_,by rw [cr hN,if_pos rfl],mX _ _ _ _ (by rw [←h];simp [look]) hk2⟩
     · rcases u7 with ⟨rfl,L4,Ro⟩|⟨DD,u7⟩
       · obtain ⟨v,hv,_⟩:=I.slots t L4 Ro
         exact ⟨v,by rw [cr hN,if_neg hne];exact hv,trivial⟩
       · obtain ⟨v,hv,cS⟩:=I.slots t av u7
         refine ⟨v,by rw [cr hN,if_neg hne];exact hv, ?_⟩
         cases av with
         |pv p=>exact cS
         |bp k off=>simp only [dJ] at cS ⊢;rw [hbk k (by simpa [iD] using hnp)];exact cS
         |cl f caps=>
          obtain ⟨us,e1,e2,e3⟩:=cS
          refine ⟨us,e1,e2,fun i c x hc hx=> ?_⟩
          have e4:=e3 i c x hc hx
          cases c with
          |pv p=>exact e4
          |bp k off=>
           have:k≠d:=by
            have:=List.all_eq_true.1 hnp (.bp k off) (List.mem_of_getElem? hc)
            simpa [EG] using this
           simp only [gT] at e4 ⊢;rw [hbk k this];exact e4
         |ex sz n c=>simp only [dJ] at cS ⊢;rw [qH];exact cS
         |xr u=>
          have hu:u≠d:=by intro e;simp [bu,e] at DD
          exact ⟨by rw [cr hN,if_neg hu];exact cS.1,hex u hu cS.2⟩
         |xe u off=>
          have hu:u≠d:=by intro e;simp [bu,e] at DD
          obtain ⟨⟨b',o',n',cap',e1,e2⟩,e3⟩:=cS
          exact ⟨⟨b',o',n',cap',by rw [cr hN,if_neg hu];exact e1,e2⟩,hex u hu e3⟩
         |bX _ _=>exact cS
         |dead=>trivial
         |bs k off sz n=>
          have hk:k≠d:=by simpa [iD] using hnp
          exact cS.frame (hbk k hk) fun cs' e=>⟨cs',by rw [←h];simp only [look];rw [if_neg (Ne.symm hk),bD,if_neg hk];exact e,rfl⟩
         |mv f k off sz n=>
          have hk:k≠d:=by simpa [iD] using hnp
          obtain ⟨u,e1,e2⟩:=cS
          exact ⟨u,e1,e2.frame (hbk k hk) fun cs' e=>⟨cs',by rw [←h];simp only [look];rw [if_neg (Ne.symm hk),bD,if_neg hk];exact e,rfl⟩⟩
         |tg k off sz n rest=>
          have hk:k≠d:=by simpa [iD] using hnp
          obtain ⟨u,us,e1,e2,e3⟩:=cS
          exact ⟨u,us,e1,e2.frame (hbk k hk) fun cs' e=>⟨cs',by rw [←h];simp only [look];rw [if_neg (Ne.symm hk),bD,if_neg hk];exact e,rfl⟩,e3⟩
   · intro x hx
     rcases bU x hx with ⟨hne,hx⟩|rfl
     · rw [fI x hne];exact I.own x hx
     · rw [hk2];exact ⟨fG,pT⟩
   · intro x y hx hy e
     rcases bU x hx with ⟨hne,hx⟩|rfl
     · rcases bU y hy with ⟨Il,hy⟩|rfl
       · rw [fI x hne,fI y Il] at e;exact I.inj x y hx hy e
       · rw [fI x hne,hk2] at e;exact absurd e (ck x hx)
     · rcases bU y hy with ⟨Il,hy⟩|rfl
       · rw [hk2,fI y Il] at e;exact absurd e.symm (ck y hy)
       · rfl
   · intro k cs' hk
     rcases dj k cs' hk with ⟨rfl,rfl⟩|⟨hne,hk⟩
     · rw [hk2];exact ⟨⟨T,c,vs,hb,hpre,hr,h1⟩,nR⟩
     · rw [hbk k hne];exact I.boxes k cs' hk
   · intro t z hz
     obtain ⟨hne,_,hz⟩:=dO _ z hz
     have hne:t≠d:=fun e=>hne (by rw [e])
     obtain ⟨o,n,cap,c,e1,e2,e3,e0⟩:=I.gQ t z hz
     refine ⟨o,n,cap,c, ?_,by rw [cr hN,if_neg hne,qH];exact e2,by rw [qH];exact e3,e0⟩
     rw [←h];simp only;rw [jI,if_neg hne,e1];rfl
   · intro k i z hz
     obtain ⟨_,hnb,hz⟩:=dO _ z hz
     have hne:k≠d:=by simpa [Pl.eK] using hnb
     obtain ⟨o,n,cap,c,di,e1,e2,e3,e4,e0⟩:=I.iA k i z hz
     refine ⟨o,n,cap,c,di, ?_,e2,by rw [hbk k hne,Cf];exact e3,by rw [Cf];exact e4,e0⟩
     rw [←h];simp only [look];rw [if_neg (Ne.symm hne),bD,if_neg hne];exact e1
   · intro t q ht hq
     rw [←h] at ht;simp only at ht
     rw [bT (mB d) (fun _ x=>x.bind fun p=>if p.eK d then some p else none) (fun _=>rfl),xZ] at ht
     by_cases e:t=d
     · simp [e] at ht
     · rw [if_neg e] at ht
       cases hm:look st.tg t with
       |none=>simp [hm] at ht
       |some p=>
        simp only [hm,Option.map_some,Option.some.injEq,Option.bind_eq_some_iff] at ht
        obtain ⟨p',hp',ht⟩:=ht
        split at hp'
        · simp at hp'
        · rename_i hps
          subst hp'
          split at ht
          · rename_i hnb
            simp only [Option.some.injEq] at ht;subst ht
            obtain ⟨z,hz⟩:=hq
            obtain ⟨rD,_,hz⟩:=dO _ z hz
            rw [cr hN,if_neg e,←I.tags t _ hm ⟨z,hz⟩]
            cases p' with
            |s u=>simp only [cP];rw [cr hN,if_neg (fun e=>rD (by rw [e]))]
            |c k o=>simp only [cP];rw [hbk k (by simpa [Pl.eK] using hnb)]
          · simp at ht
 · simp at h
theorem Inv.m5 (I:Inv base w Pr bk st a N) {d b:Nat} {cs:List PV} {vs:List Value} {T:TypeId} {st':St} (hd:d<N) (hb:w.heap[b]? =some (.cells vs.toArray T (0,0))) (fG:base≤b) (ck:∀x,live st x→bk x≠b) (nR:∀o,¬Pr b o)
  (hr:aO w Pr cs vs) (h1:One vs) (h:st.m5 d cs=some st'):∃aQ,Inv base w Pr aQ st' (a.put (some d) (.pointer (some ⟨b,0,none⟩))) N∧(∀x,live st' x→(x= .bx d∧aQ x=b)∨(live st x∧aQ x=bk x))∧∀k,k≠d→aQ (.bx k)=bk (.bx k):=
 I.dw hd hb (by simp) fG ck nR hr h1 rfl (by simp) (fun tI a2 gA t _ e=>by simp only [dJ];rw [e]) h
theorem ru (I:Inv base w Pr bk st a N) (ob:Obj):Fw w Pr (w.alloc ob) Pr:=
 ⟨(Below.refl _ _).alloc (Nat.le_refl _) _,fun _ _ h=>h,fun _ _ _ h=>h,fun b o h=>by have:=I.bL b o h;simp;omega⟩
theorem qw (T:TypeId) (v:Value) (w:World):(newVar T v).run P w= .ok ⟨w.heap.size,0,none⟩ (w.alloc (.cells v.cells T)):=rfl
theorem uU (I:Inv base w Pr bk st a N) {o:Oper} {d:Nat} {T:TypeId} {v:Value} {p:PV} {st':St} (j8:o.dst=some d) (hd:d<N) (hv:Rp w Pr p v) (ht:gu p=false)
  (he:(execOp a.eval o).run P w= .ok (.value (.pointer (some ⟨w.heap.size,0,none⟩))) (w.alloc (.cells v.cells T))) (h:st.m5 d p.cells=some st'):jK P base w Pr bk st a N o st':=by
 intro K Q hK
 have hf:=ru I (.cells v.cells T)
 obtain ⟨fW,gE⟩:=hv.iI (iQ ht)
 obtain ⟨aQ,hI,_,hbk⟩:=(I.fw hf).m5 (b:=w.heap.size) (vs:=v.cells.toList) (T:=T) hd (by rw [heap_alloc]) I.hb (fun x hx e=>by have:=(I.own x hx).2;omega) (fun o h=>by have:=I.bL _ _ h;omega)
  (aO.mono (hf.kp I.bL) fW) gE h
 unfold Oper.wp
 rw [he]
 show K (a.put o.dst _) _
 rw [j8]
 exact hK _ _ _ _ hI (hf.gO.mono I.hb) (hf.kp I.bL) (fun _ _ _ h=>h) hf.ko (fun k hk=>hbk k (fun e=>hk (by rw [j8,e]))) rfl
theorem EW (I:Inv base w Pr bk st a N) {o:Oper} {t:TypeId} {st':St} (ho:o.op= .alloc t) (hN:∀d,o.dst=some d→d<N) (h:effect P o st=some st'):jK P base w Pr bk st a N o st':=by
 simp only [effect,ho,Option.bind_eq_some_iff] at h
 obtain ⟨d,hd,z,hz,h⟩:=h
 obtain ⟨i,zv,hi,qK,qJ⟩:=kT (w:=w) (Pr:=Pr) hz
 refine uU (T:=t) I hd (hN d hd) qJ (iZ hz) ?_ h
 simp only [execOp,ho]
 refine dH ?_
 simp [Instr.alloc,zeroValue,typeInfo,hi,qK,qw]
theorem KT (I:Inv base w Pr bk st a N) {o:Oper} {t:TypeId} {x:Operand} {st':St} (ho:o.op= .box t x) (hN:∀d,o.dst=some d→d<N) (h:effect P o st=some st'):jK P base w Pr bk st a N o st':=by
 simp only [effect,ho,Option.bind_eq_some_iff] at h
 obtain ⟨d,hd,p,hp,h⟩:=h
 split at h
 · rename_i hc
   refine uU (T:=t) I hd (hN d hd) (iF I hp) (by simpa using hc.2) ?_ h
   simp only [execOp,ho]
   refine dH ?_
   simp [Instr.box,qw]
 · simp at h
end
end Go.Proofs.YtibbgjafjhcemaaDoor.Cul
namespace Go.Proofs.YtibbgjafjhcemaaDoor.Cul
open Go Go.RowKit
section
variable {P:Program} {base:Nat} {w:World} {Pr:aC} {bk:Key→Nat} {st:St} {a:Act} {N:Nat}
structure Wr (w w':World) (g:Nat):Prop where
 os:w'.os=w.os
 tape:w'.tape=w.tape
 output:w'.output=w.output
 size:w'.heap.size=w.heap.size
 other:∀k,k≠g→w'.heap[k]? =w.heap[k]?
 row:∃c T fz,w.heap[g]? =some (.cells c T fz)
 sized:∀c T fz,w.heap[g]? =some (.cells c T fz)→∃c',w'.heap[g]? =some (.cells c' T fz)∧c'.size=c.size
theorem lO (w:World) (g:Nat) (cs:Array Value) {c:Array Value} {T:TypeId} {fz:Nat×Nat} (h:w.heap[g]? =some (.cells c T fz)) (hs:cs.size=c.size):Wr w (w.setRow g cs) g:=⟨rfl,rfl,rfl,by simp,fun k hk=>setRow_other w g k cs hk,⟨_,_,_,h⟩,fun c2 T2 Vc h2=>by
 rw [h] at h2;cases h2
 exact ⟨cs,setRow_heap w g _ _ _ _ h,hs⟩⟩
theorem Wr.ko {w w':World} {g:Nat} (W:Wr w w' g):KO w w':=
 ⟨⟨Nat.le_of_eq W.size.symm,fun k o h ho=>by
   have:k≠g:=fun e=>by subst e;obtain ⟨c,T,fz,h2⟩:=W.row;rw [h] at h2;cases h2;simp [Obj.isCells] at ho
   exact (W.other k this).trans h⟩,fun k c T fz h=>by
   by_cases e:k=g
   · subst e;exact W.sized c T fz h
   · exact ⟨c,(W.other k e).trans h,rfl⟩⟩
theorem Mark.ko {base:Nat} {w w':World} {d:Deferred} (h:Mark base w d) (k:KO w w'):Mark base w' d:=by
 obtain ⟨D,h1,h2,h3⟩:=h
 exact ⟨D,h1,k.same D _ h2 rfl,h3⟩
theorem Wr.below {w w':World} {g B:Nat} (h:Wr w w' g) (hg:B≤g):Below B w w':=⟨h.os,h.tape,h.output,by rw [h.size];exact Nat.le_refl _,fun k hk=>h.other k (by omega)⟩
theorem dJ.wr {w':World} {g t:Nat} {av:AV} {v:Value} (W:Wr w w' g) (k:Kp w Pr w' Pr) (hex:∀sz n cs,av= .ex sz n cs→bk (.sx t)≠g) (h:dJ st a w Pr bk t av v):dJ st a w' Pr bk t av v:=by
 cases av with
 |pv p=>exact Rp.mono k h
 |bp k off=>exact h
 |cl f caps=>obtain ⟨vs,h1,h2,h3⟩:=h;exact ⟨vs,h1,h2,fun i c u hc hu=>gT.mono k (h3 i c u hc hu)⟩
 |ex sz n cs=>
  obtain ⟨o,cap,vs,h1,h2,h3,h4,h5,h6,h7⟩:=h
  have hne:=W.other _ (hex sz n cs rfl)
  exact ⟨o,cap,vs,h1,aO.mono k h2,h3,h4,iU hne h5,⟨h6.hz,h6.le,by obtain ⟨c,T,e1,e2⟩:=h6.there;exact ⟨c,T,hne.trans e1,e2⟩,h6.pr⟩,h7⟩
 |xr u=>exact h
 |xe u off=>exact h
 |bX _ _=>exact h
 |dead=>exact h
 |bs j off sz n=>exact h.world fun c T e=>W.ko.sized _ c T _ e
 |mv f j off sz n=>obtain ⟨u,h1,h2⟩:=h;exact ⟨u,h1,h2.world fun c T e=>W.ko.sized _ c T _ e⟩
 |tg j off sz n rest=>obtain ⟨u,us,h1,h2,h3⟩:=h;exact ⟨u,us,h1,h2.world fun c T e=>W.ko.sized _ c T _ e,aO.mono k h3⟩
theorem Room.wr {w':World} {g b o n cap sz:Nat} (W:Wr w w' g) (hne:b≠g) (h:Room w Pr b o n cap sz):Room w' Pr b o n cap sz:=
 ⟨h.hz,h.le,by obtain ⟨c,T,e1,e2⟩:=h.there;exact ⟨c,T,(W.other _ hne).trans e1,e2⟩,h.pr⟩
theorem rK (gr:List (Pl×Nat)) (k off n:Nat) (q:Pl):aJ (gr.filter (fun x=>x.1.out k off n)) q=if q.out k off n then aJ gr q else none:=ek (Pl.out k off n) gr q
theorem jf {α:Type} (cs:List α) (off:Nat) (new:List α) (h:off+new.length≤cs.length) (i:Nat) (hi:i<off∨off+new.length≤i):(cs.take off++new++cs.drop (off+new.length))[i]? =cs[i]? :=by
 rcases hi with hi|hi
 · rw [List.append_assoc,List.getElem?_append_left (by simp;omega),List.getElem?_take_of_lt hi]
 · rw [List.getElem?_append_right (by simp;omega),List.getElem?_drop]
   congr 1
   simp;omega
theorem BN {us cl vs:List Value} {off:Nat} (h:us<+:cl) (hle:off+vs.length≤us.length):aZ us off vs<+:aZ cl off vs:=by
 obtain ⟨t,rfl⟩:=h
 refine ⟨t, ?_⟩
 unfold aZ
 rw [List.take_append_of_le_length (by omega),List.drop_append_of_le_length hle]
 simp
theorem iY {us vs:List Value} {off:Nat} (hle:off+vs.length≤us.length):(aZ us off vs).length=us.length:=by
 unfold aZ
 simp;omega
theorem Inv.iX (I:Inv base w Pr bk st a N) {k off:Nat} {new:List PV} {vs:List Value} {st':St} (h:st.iX k off new=some st') (hr:aO w Pr new vs) (h1:One vs):
  ∃cur T,w.heap[bk (.bx k)]? =some (.cells cur T (0,0))∧off+vs.length≤cur.size∧base≤bk (.bx k)∧Kp w Pr (w.setRow (bk (.bx k)) (aZ cur.toList off vs).toArray) Pr∧
   Inv base (w.setRow (bk (.bx k)) (aZ cur.toList off vs).toArray) Pr bk st' a N:=by
 simp only [St.iX,Option.bind_eq_some_iff] at h
 obtain ⟨cs,hk,h⟩:=h
 split at h
 · rename_i hle
   simp only [Option.some.injEq] at h
   obtain ⟨⟨T,c0,us,mW,Qv,ji,Ab⟩,Np⟩:=I.boxes k cs hk
   have hcl:us.length≤c0.size:=by have:=Qv.length_le;simpa using this
   have hlen:=hr.length
   have l8:=ji.length
   have hown:=I.own (.bx k) ⟨cs,hk⟩
   have hW:=lO w (bk (.bx k)) (aZ c0.toList off vs).toArray mW (by rw [List.size_toArray,iY (by simp;omega)];simp)
   have hK:Kp w Pr (w.setRow (bk (.bx k)) (aZ c0.toList off vs).toArray) Pr:=⟨fun _ _ h=>h,fun b o hp=>by
    have hne:b≠bk (.bx k):=fun e=>Np o (by rw [←e];exact hp)
    exact World.cell?_of_block (w:=w) (hW.other b hne)⟩
   have hh:(w.setRow (bk (.bx k)) (aZ c0.toList off vs).toArray).heap[bk (.bx k)]? =some (.cells (aZ c0.toList off vs).toArray T (0,0)):=setRow_heap w _ _ _ _ _ mW
   have hne:∀x,live st x→x≠ .bx k→bk x≠bk (.bx k):=fun x hx oS e=>oS (I.inj x (.bx k) hx ⟨cs,hk⟩ e)
   refine ⟨c0,T,mW,by omega,hown.1,hK, ?_⟩
   have mV:(splice cs off new).length=cs.length:=by unfold splice;simp;omega
   have dj:∀k' cs',look st'.bx k'=some cs'→(k'=k∧cs'=splice cs off new)∨(k'≠k∧look st.bx k'=some cs'):=by
    intro k' cs' hq
    rw [←h] at hq;simp only [look] at hq
    split at hq
    · rename_i e;simp at hq;exact .inl ⟨e.symm,hq.symm⟩
    · rename_i e;rw [bD,if_neg (Ne.symm e)] at hq;exact .inr ⟨Ne.symm e,hq⟩
   have dO:∀p z,aJ st'.gr p=some z→p.out k off new.length=true∧aJ st.gr p=some z:=by
    intro p z hp
    rw [←h] at hp;simp only at hp
    rw [rK] at hp
    split at hp
    · exact ⟨‹_›,hp⟩
    · simp at hp
   have bU:∀x,live st' x→live st x:=by
    intro x hx
    cases x with
    |bx k'=>
     obtain ⟨cs',hq⟩:=hx
     rcases dj k' cs' hq with ⟨rfl,_⟩|⟨_,hq⟩
     · exact ⟨cs,hk⟩
     · exact ⟨cs',hq⟩
    |sx t=>
     rcases hx with hx|⟨z,hz⟩
     · rw [←h] at hx;exact .inl hx
     · exact .inr ⟨z,(dO _ z hz).2⟩
    |cx k' o=>obtain ⟨z,hz⟩:=hx;exact ⟨z,(dO _ z hz).2⟩
   constructor
   · exact I.size
   · exact ⟨fun d hd=>(I.defers.1 d hd).ko hW.ko,I.defers.2⟩
   · simpa using I.hb
   · simpa using I.bL
   · intro t av ht
     have ht':look st.sl t=some av:=by rw [←h] at ht;exact ht
     obtain ⟨v,hv,cS⟩:=I.slots t av ht'
     refine ⟨v,hv, ?_⟩
     have:=dJ.wr hW hK (fun sz n c e=>hne (.sx t) (.inl ⟨sz,n,c,by rw [←e];exact ht'⟩) (by simp)) cS
     have zR:∀j dL,look st.bx j=some dL→∃B2,look st'.bx j=some B2∧B2.length=dL.length:=fun j dL e=>by
      rw [←h];simp only [look]
      by_cases hj:k=j
      · subst hj;rw [if_pos rfl];rw [hk] at e;cases e;exact ⟨_,rfl,mV⟩
      · rw [if_neg hj,bD,if_neg (Ne.symm hj)];exact ⟨dL,e,rfl⟩
     cases av with
     |xr u=>rw [←h];exact this
     |xe u off=>rw [←h];exact this
     |bs j o' sz n=>exact this.frame rfl (zR j)
     |mv f j o' sz n=>obtain ⟨u,h1,h2⟩:=this;exact ⟨u,h1,h2.frame rfl (zR j)⟩
     |tg j o' sz n rest=>obtain ⟨u,us,h1,h2,h3⟩:=this;exact ⟨u,us,h1,h2.frame rfl (zR j),h3⟩
     |_=>exact this
   · exact fun x hx=>by simpa using I.own x (bU x hx)
   · exact fun x y hx hy=>I.inj x y (bU x hx) (bU y hy)
   · intro k' cs' hq
     rcases dj k' cs' hq with ⟨rfl,rfl⟩|⟨hkk,hq⟩
     · refine ⟨⟨T,_,aZ us off vs,hh,by simpa using BN Qv (by omega),aO.mono hK ?_, ?_⟩,Np⟩
       · unfold splice aZ;rw [hlen];exact ((ji.take off).app hr).app (ji.drop _)
       · intro u hu
         unfold aZ at hu
         simp only [List.mem_append] at hu
         rcases hu with (hu|hu)|hu
         · exact Ab u (List.mem_of_mem_take hu)
         · exact h1 u hu
         · exact Ab u (List.mem_of_mem_drop hu)
     · obtain ⟨⟨T',c',us',e1,e0,e2,e3⟩,e4⟩:=I.boxes k' cs' hq
       exact ⟨⟨T',c',us',(hW.other _ (hne (.bx k') ⟨cs',hq⟩ (by simpa using hkk))).trans e1,e0,aO.mono hK e2,e3⟩,e4⟩
   · intro t z hz
     obtain ⟨_,hz⟩:=dO _ z hz
     obtain ⟨o,n,cap,c,e1,e2,e3,e0⟩:=I.gQ t z hz
     exact ⟨o,n,cap,c,by rw [←h];exact e1,e2,e3.wr hW (hne (.sx t) (.inr ⟨z,hz⟩) (by simp)),e0⟩
   · intro k' i z hz
     obtain ⟨hout,hz⟩:=dO _ z hz
     obtain ⟨o,n,cap,c,di,e1,e2,e3,e4,e0⟩:=I.iA k' i z hz
     have Qa:=e4.wr hW (hne (.cx k' i) ⟨z,hz⟩ (by simp))
     by_cases hkk:k'=k
     · subst hkk
       rw [hk] at e1;cases e1
       have hi:i<off∨off+new.length≤i:=by
        simp [Pl.out] at hout;omega
       refine ⟨o,n,cap,c,splice cs off new,by rw [←h];simp [look],by rw [←e2];exact jf cs off new hle i hi, ?_,Qa,e0⟩
       rw [←e3,cell_of_row _ _ _ _ _ _ hh,cell_of_row _ _ _ _ _ _ mW]
       simp only [List.getElem?_toArray]
       exact (jf c0.toList off vs (by simp;omega) i (by omega)).trans (Array.getElem?_toList ..)
     · refine ⟨o,n,cap,c,di,by rw [←h];simp only [look];rw [if_neg (Ne.symm hkk),bD,if_neg hkk];exact e1,e2, ?_,Qa,e0⟩
       rw [←e3];exact World.cell?_of_block (w:=w) (hW.other _ (hne (.bx k') ⟨di,e1⟩ (by simpa using hkk)))
   · intro t q ht hq
     rw [←h] at ht;simp only at ht
     rw [bT (mC k off new.length) (fun _ x=>x.bind fun p=>if p.out k off new.length then some p else none) (fun _=>rfl)] at ht
     cases hm:look st.tg t with
     |none=>simp [hm] at ht
     |some p=>
      simp only [hm,Option.map_some,Option.some.injEq,Option.bind_eq_some_iff] at ht
      obtain ⟨p',rfl,ht⟩:=ht
      split at ht
      · rename_i hout
        simp only [Option.some.injEq] at ht;subst ht
        obtain ⟨z,hz⟩:=hq
        obtain ⟨_,hz⟩:=dO _ z hz
        rw [←I.tags t _ hm ⟨z,hz⟩]
        cases p' with
        |s u=>rfl
        |c k' i=>
         simp only [cP]
         obtain ⟨o,n,cap,c,di,e1,e2,e3,e4,e0⟩:=I.iA k' i z hz
         by_cases hkk:k'=k
         · subst hkk
           have hi:i<off∨off+new.length≤i:=by simp [Pl.out] at hout;omega
           rw [cell_of_row _ _ _ _ _ _ hh,cell_of_row _ _ _ _ _ _ mW]
           simp only [List.getElem?_toArray]
           exact (jf c0.toList off vs (by simp;omega) i (by omega)).trans (Array.getElem?_toList ..)
         · exact World.cell?_of_block (w:=w) (hW.other _ (hne (.bx k') ⟨di,e1⟩ (by simpa using hkk)))
      · simp at ht
 · simp at h
end
end Go.Proofs.YtibbgjafjhcemaaDoor.Cul
namespace Go.Proofs.YtibbgjafjhcemaaDoor.Cul
open Go Go.RowKit
section
variable {P:Program} {base:Nat} {w:World} {Pr:aC} {bk:Key→Nat} {st:St} {a:Act} {N:Nat}
theorem lV (w:World) (g o:Nat) (t:TypeId) (ty:TypeId) (cur:Array Value) (v:Value) (hg:w.heap[g]? =some (.cells cur t (0,0))) (hle:o+v.cells.toList.length≤cur.size)
  (hi:bV P ty=some v.cells.toList.length) (h1:One v.cells.toList):(storeVar ty ⟨g,o,none⟩ v).run P w= .ok () (w.setRow g (aZ cur.toList o v.cells.toList).toArray):=by
 have h:=run_storeCells_at (P:=P) g o t v.cells.toList 0 cur w hg (by omega) h1
 simp only [storeVar,Sem.run_bind,fZ hi,Result.andThen_ok]
 rw [if_neg (by rw [Array.length_toList];simp)]
 simpa [aZ] using h
theorem Inv.Mw (I:Inv base w Pr bk st a N) {u k off z:Nat} (hz:aJ st.gr (.s u)=some z) {di:List PV} (hb:look st.bx k=some di) {n:Nat} {cs:List PV} (hp:di[off]? =some (.sl z n cs))
  (hv:w.cell? ⟨bk (.bx k),off,none⟩=a.tmps[u]?) (hu:look st.sl u=some (.pv (.sl z n cs)))
  (Nn:∀t,look st.tg t≠some (some (.c k off))):
  ∃aQ,Inv base w Pr aQ { st with gr:=(.c k off,z)::st.gr.filter (fun x=>x.1≠ .s u),tg:=st.tg.map (fX (.s u))} a N∧∀j,aQ (.bx j)=bk (.bx j):=by
 obtain ⟨o,n',cap,cs',e1,e2,e3,e0⟩:=I.gQ u z hz
 rw [hu] at e1;cases e1
 have hne:∀t,Pl.s u= .s t→¬ee st t:=fun t e ⟨sz,m,c,h⟩=>by cases e;rw [hu] at h;simp at h
 have I2:=I.release (.s u)
 have ve:∀x,live { st with gr:=(.c k off,z)::st.gr.filter (fun x=>x.1≠ .s u),tg:=st.tg.map (fX (.s u))} x→x= .cx k off∨(x≠ .cx k off∧live st x∧x≠ .sx u):=by
  intro x hx
  by_cases oS:x= .cx k off
  · exact .inl oS
  · have:live { st with gr:=st.gr.filter (fun x=>x.1≠ .s u),tg:=st.tg.map (fX (.s u))} x:=by
      cases x with
      |bx k'=>exact hx
      |sx t=>
       rcases hx with hx|⟨z',hx⟩
       · exact .inl hx
       · simp only [aJ] at hx;rw [if_neg (by simp)] at hx;exact .inr ⟨z',hx⟩
      |cx k' o'=>
       obtain ⟨z',hx⟩:=hx
       simp only [aJ] at hx
       rw [if_neg (fun e=>oS (by cases e;rfl))] at hx;exact ⟨z',hx⟩
    obtain ⟨h1,h2⟩:=ke this hne
    exact .inr ⟨oS,h1,h2⟩
 obtain ⟨aQ,fI,hk2⟩:∃aQ:Key→Nat,(∀x,x≠ .cx k off→aQ x=bk x)∧aQ (.cx k off)=bk (.sx u):=⟨fun x=>if x= .cx k off then bk (.sx u) else bk x,fun x hx=>if_neg hx,if_pos rfl⟩
 have dj:∀k,aQ (.bx k)=bk (.bx k):=fun k=>fI _ (by simp)
 have qH:∀t,aQ (.sx t)=bk (.sx t):=fun t=>fI _ (by simp)
 have Fq:live st (.sx u):= .inr ⟨z,hz⟩
 refine ⟨aQ, ?_,dj⟩
 constructor
 · exact I.size
 · exact I.defers
 · exact I.hb
 · exact I.bL
 · intro t av ht
   obtain ⟨v,h1,h2⟩:=I2.slots t av ht
   refine ⟨v,h1, ?_⟩
   cases av with
   |pv p=>exact h2
   |bp k off=>simp only [dJ] at h2 ⊢;rw [dj];exact h2
   |cl f caps=>
    obtain ⟨us,e1,e2,e3⟩:=h2
    refine ⟨us,e1,e2,fun i c x hc hx=> ?_⟩
    have e4:=e3 i c x hc hx
    cases c with
    |pv p=>exact e4
    |bp k off=>simp only [gT] at e4 ⊢;rw [dj];exact e4
   |ex sz n c=>simp only [dJ] at h2 ⊢;rw [qH];exact h2
   |xr u=>exact h2
   |xe u off=>exact h2
   |bX _ _=>exact h2
   |dead=>trivial
   |bs j o' sz n=>exact h2.frame (dj j) fun cs e=>⟨cs,e,rfl⟩
   |mv f j o' sz n=>obtain ⟨u,e1,e2⟩:=h2;exact ⟨u,e1,e2.frame (dj j) fun cs e=>⟨cs,e,rfl⟩⟩
   |tg j o' sz n rest=>obtain ⟨u,us,e1,e2,e3⟩:=h2;exact ⟨u,us,e1,e2.frame (dj j) fun cs e=>⟨cs,e,rfl⟩,e3⟩
 · intro x hx
   rcases ve x hx with rfl|⟨h0,h1,_⟩
   · rw [hk2];exact I.own _ Fq
   · rw [fI x h0];exact I.own x h1
 · intro x y hx hy e
   rcases ve x hx with rfl|⟨h0,h1,h2⟩
   · rcases ve y hy with rfl|⟨h0',zL,E7⟩
     · rfl
     · rw [hk2,fI y h0'] at e;exact absurd (I.inj _ _ Fq zL e).symm E7
   · rcases ve y hy with rfl|⟨h0',zL,E7⟩
     · rw [hk2,fI x h0] at e;exact absurd (I.inj _ _ h1 Fq e) h2
     · rw [fI x h0,fI y h0'] at e;exact I.inj x y h1 zL e
 · intro k' cs' hk
   rw [dj];exact I.boxes k' cs' hk
 · intro t z' dX
   simp only [aJ] at dX
   rw [if_neg (by simp)] at dX
   obtain ⟨o',NX,cap',c,h1,h2,h3,h0⟩:=I2.gQ t z' dX
   exact ⟨o',NX,cap',c,h1,by rw [qH];exact h2,by rw [qH];exact h3,h0⟩
 · intro k' i z' dX
   simp only [aJ] at dX
   by_cases e:Pl.c k off=Pl.c k' i
   · cases e
     simp only [if_true,Option.some.injEq] at dX
     subst dX
     exact ⟨o,n,cap,cs,di,hb,hp,by rw [dj,hk2,hv];exact e2,by rw [hk2];exact e3,e0⟩
   · rw [if_neg e] at dX
     obtain ⟨o',NX,cap',c,Ra,h1,h2,h3,h4,h0⟩:=I2.iA k' i z' dX
     have:aQ (.cx k' i)=bk (.cx k' i):=fI _ (fun e2=>e (by cases e2;rfl))
     exact ⟨o',NX,cap',c,Ra,h1,h2,by rw [dj,this];exact h3,by rw [this];exact h4,h0⟩
 · intro t q ht hq
   simp only at ht
   rw [vr] at ht
   cases hm:look st.tg t with
   |none=>simp [hm] at ht
   |some p=>
    simp only [hm,Option.map_some,Option.some.injEq] at ht
    split at ht
    · simp at ht
    · rename_i hps
      subst ht
      obtain ⟨z',dX⟩:=hq
      simp only [aJ] at dX
      by_cases e:Pl.c k off=q
      · subst e
        exact absurd hm (Nn t)
      · rw [if_neg e] at dX
        rw [pZ] at dX
        split at dX
        · simp at dX
        · have:=I.tags t q hm ⟨z',dX⟩
          cases q with
          |s u=>exact this
          |c k o=>simp only [cP] at this ⊢;rw [dj];exact this
theorem Inv.PN (I:Inv base w Pr bk st a N) {u off sz n:Nat} {cs new:List PV} {vs:List Value} (hu:look st.sl u=some (.ex sz n cs)) (hle:off+new.length≤cs.length) (hr:aO w Pr new vs) (h1:One vs)
  {b o:Nat} {n' cap':Nat} (hv:a.tmps[u]? =some (.slice (some ⟨b,o,none⟩) n' cap')):
  ∃cur T,w.heap[b]? =some (.cells cur T (0,0))∧o+off+vs.length≤cur.size∧base≤b∧Kp w Pr (w.setRow b (aZ cur.toList (o+off) vs).toArray) Pr∧
   Inv base (w.setRow b (aZ cur.toList (o+off) vs).toArray) Pr bk { st with sl:=(u, .ex sz n (splice cs off new))::bH st.sl u} a N:=by
 obtain ⟨v,cT,o2,cap,us,Nq,ji,Ab,Np,WB,Fz,Qw⟩:=I.slots u _ hu
 rw [hv] at cT
 simp only [Option.some.injEq] at cT
 rw [←cT] at Nq
 simp only [Value.slice.injEq,Option.some.injEq,Addr.mk.injEq] at Nq
 obtain ⟨⟨rfl,rfl,_⟩,rfl,rfl⟩:=Nq
 obtain ⟨cur,T,fW,gE⟩:=Fz.there
 have bU:live st (.sx u):= .inl ⟨sz,n',cs,hu⟩
 have hown:=I.own _ bU
 have hlen:=hr.length
 have l8:=ji.length
 have hcap:n'* sz≤cap'* sz:=Nat.mul_le_mul_right _ Fz.le
 have hW:=lO w (bk (.sx u)) (aZ cur.toList (o+off) vs).toArray fW (by rw [List.size_toArray,iY (by simp;omega)];simp)
 have hK:Kp w Pr (w.setRow (bk (.sx u)) (aZ cur.toList (o+off) vs).toArray) Pr:=⟨fun _ _ h=>h,fun b o' hp=>by
  have hne:b≠bk (.sx u):=fun e=>Qw o' (by rw [←e];exact hp)
  exact World.cell?_of_block (w:=w) (hW.other b hne)⟩
 have hh:(w.setRow (bk (.sx u)) (aZ cur.toList (o+off) vs).toArray).heap[bk (.sx u)]? =some (.cells (aZ cur.toList (o+off) vs).toArray T (0,0)):=setRow_heap w _ _ _ _ _ fW
 have hsz:(aZ cur.toList (o+off) vs).length=cur.size:=by unfold aZ;simp;omega
 have hne:∀x,live st x→x≠ .sx u→bk x≠bk (.sx u):=fun x hx oS e=>oS (I.inj x (.sx u) hx bU e)
 have mV:∀t,look ((u,AV.ex sz n' (splice cs off new))::bH st.sl u) t=if t=u then some (.ex sz n' (splice cs off new)) else look st.sl t:=by
  intro t;simp only [look]
  by_cases e:u=t
  · simp [e]
  · rw [if_neg e,bD,if_neg (Ne.symm e),if_neg (Ne.symm e)]
 have hex:∀x,ee { st with sl:=(u,AV.ex sz n' (splice cs off new))::bH st.sl u} x↔ee st x:=by
  intro x;simp only [ee,mV]
  by_cases e:x=u
  · subst e;simp only [if_true];exact ⟨fun _=>⟨_,_,_,hu⟩,fun _=>⟨_,_,_,rfl⟩⟩
  · rw [if_neg e]
 have hlv:∀x,live { st with sl:=(u,AV.ex sz n' (splice cs off new))::bH st.sl u} x→live st x:=by
  intro x hx
  cases x with
  |sx t=>exact hx.imp (hex t).1 id
  |bx k=>exact hx
  |cx k o=>exact hx
 refine ⟨cur,T,fW,by omega,hown.1,hK, ?_⟩
 constructor
 · exact I.size
 · exact ⟨fun d hd=>(I.defers.1 d hd).ko hW.ko,I.defers.2⟩
 · simpa using I.hb
 · simpa using I.bL
 · intro t av ht
   rw [mV] at ht
   by_cases e:t=u
   · subst e
     rw [if_pos rfl] at ht
     simp only [Option.some.injEq] at ht;subst ht
     refine ⟨_,hv,o,cap',aZ us off vs,rfl,aO.mono hK ?_, ?_, ?_, ?_,⟨Fz.hz,Fz.le,⟨_,_,hh,by simp [hsz];exact gE⟩,Fz.pr⟩,Qw⟩
     · unfold splice aZ;rw [hlen];exact ((ji.take off).app hr).app (ji.drop _)
     · intro x hx
       unfold aZ at hx
       simp only [List.mem_append] at hx
       rcases hx with (hx|hx)|hx
       · exact Ab x (List.mem_of_mem_take hx)
       · exact h1 x hx
       · exact Ab x (List.mem_of_mem_drop hx)
     · unfold splice;simp;omega
     · intro j x hx
       rw [cell_of_row _ _ _ _ _ _ hh]
       simp only [List.getElem?_toArray]
       by_cases hj:off≤j∧j<off+vs.length
       · unfold aZ at hx ⊢
         rw [List.append_assoc,List.getElem?_append_right (by simp;omega),List.getElem?_append_left (by simp;omega)] at hx
         rw [List.append_assoc,List.getElem?_append_right (by simp;omega),List.getElem?_append_left (by simp;omega),←hx]
         congr 1
         simp only [List.length_take,Array.length_toList]
         omega
       · have V9:us[j]? =some x:=by rw [←hx];exact (jf us off vs (by omega) j (by omega)).symm
         have hc:=WB j x V9
         rw [cell_of_row _ _ _ _ _ _ fW] at hc
         rw [←hc]
         have:=jf cur.toList (o+off) vs (by simp;omega) (o+j) (by omega)
         simpa [aZ] using this
   · rw [if_neg e] at ht
     obtain ⟨v,Ad,cS⟩:=I.slots t av ht
     refine ⟨v,Ad, ?_⟩
     have:=dJ.wr hW hK (fun sz n c e2=>hne (.sx t) (.inl ⟨sz,n,c,by rw [←e2];exact ht⟩) (by simpa using e)) cS
     cases av with
     |xr x=>exact ⟨this.1,(hex x).2 this.2⟩
     |xe x off=>exact ⟨this.1,(hex x).2 this.2⟩
     |_=>exact this
 · exact fun x hx=>by simpa using I.own x (hlv x hx)
 · exact fun x y hx hy=>I.inj x y (hlv x hx) (hlv y hy)
 · intro k' cs' hq
   obtain ⟨⟨T',c',us',e1,e0,e2,e3⟩,e4⟩:=I.boxes k' cs' hq
   exact ⟨⟨T',c',us',(hW.other _ (hne (.bx k') ⟨cs',hq⟩ (by simp))).trans e1,e0,aO.mono hK e2,e3⟩,e4⟩
 · intro t z hz
   obtain ⟨o',n,cap,c,e1,e2,e3,e0⟩:=I.gQ t z hz
   have htu:t≠u:=fun e=>by subst e;rw [hu] at e1;simp at e1
   exact ⟨o',n,cap,c,by rw [mV,if_neg htu];exact e1,e2,e3.wr hW (hne (.sx t) (.inr ⟨z,hz⟩) (by simpa using htu)),e0⟩
 · intro k' i z hz
   obtain ⟨o',n,cap,c,di,e1,e2,e3,e4,e0⟩:=I.iA k' i z hz
   exact ⟨o',n,cap,c,di,e1,e2,(World.cell?_of_block (w:=w) (hW.other _ (hne (.bx k') ⟨di,e1⟩ (by simp)))).trans e3,e4.wr hW (hne (.cx k' i) ⟨z,hz⟩ (by simp)),e0⟩
 · intro t q ht hq
   rw [←I.tags t q ht hq]
   cases q with
   |s x=>rfl
   |c k' i=>
    obtain ⟨z,hz⟩:=hq
    obtain ⟨o',n,cap,c,di,e1,e2,e3,e4,e0⟩:=I.iA k' i z hz
    exact World.cell?_of_block (w:=w) (hW.other _ (hne (.bx k') ⟨di,e1⟩ (by simp)))
theorem EZ (I:Inv base w Pr bk st a N) {o:Oper} {t:TypeId} {x y:Operand} {st':St} (ho:o.op= .store t x y) (h:effect P o st=some st'):jK P base w Pr bk st a N o st':=by
 simp only [effect,ho] at h
 split at h
 · rename_i j8
   have he:∀b o' w',a.eval x= .pointer (some ⟨b,o',none⟩)→(storeVar t ⟨b,o',none⟩ (a.eval y)).run P w= .ok () w'→(execOp a.eval o).run P w= .ok .skip w':=fun b o' w' hx hs=>by
    simp only [execOp,ho,hx,Sem.run_bind]
    simp [Instr.storeAt,Instr.sureAddr,hs]
   have hput:a.put o.dst undef=a:=by rw [j8];rfl
   split at h
   · rename_i k off heq
     have main:∀p cR,st.ev y=some (.pv p)→some p.cells.length=bV P t→gu p=false→st.iX k off p.cells=some cR→
       ∃w',(execOp a.eval o).run P w= .ok .skip w'∧base≤bk (.bx k)∧Wr w w' (bk (.bx k))∧Kp w Pr w' Pr∧Inv base w' Pr bk cR a N∧(∀v0,(a.eval y).cells.toList=[v0]→w'.cell? ⟨bk (.bx k),off,none⟩=some v0):=by
      intro p cR hy hsz RQ fJ
      have hv:=eO I hy
      obtain ⟨fW,gE⟩:=hv.iI (iQ RQ)
      have hl:=fW.length
      obtain ⟨cur,T,h1,h2,h3,h4,h5⟩:=I.iX fJ fW gE
      exact ⟨_,he _ _ _ (sD I heq) (lV w _ off T t cur _ h1 h2 (by rw [←hl];exact hsz.symm) gE),h3,lO _ _ _ h1 (by rw [List.size_toArray,iY (by simpa using h2)];simp),h4,h5,fun v0 h0=>by
       rw [cell_of_row _ _ _ _ _ _ (setRow_heap w _ _ _ _ _ h1),h0]
       rw [h0] at h2
       simp only [List.length_singleton] at h2
       simp only [List.getElem?_toArray,aZ]
       rw [List.append_assoc,List.getElem?_append_right (by simp;omega)]
       simp [Nat.min_eq_left (show off≤cur.size by omega)]⟩
     split at h
     · rename_i u p hy
       split at h
       · rename_i hc
         simp only [Option.map_eq_some_iff] at h
         obtain ⟨s1,fJ,h⟩:=h
         obtain ⟨w',hr,hb,hW,hK,hI,hcell⟩:=main p s1 hy hc.1 hc.2 fJ
         have fin:∀aQ,Inv base w' Pr aQ st' a N→(∀j,aQ (.bx j)=bk (.bx j))→jK P base w Pr bk st a N o st':=fun aQ Mz hbk K Q zM=>by
          unfold Oper.wp;rw [hr]
          show K (a.put o.dst undef) w'
          rw [hput]
          exact zM _ _ _ _ Mz (hW.below hb) hK (fun _ _ _ h=>h) hW.ko (fun k _=>hbk k) rfl
         split at h
         · rename_i z hz hrow
           subst h
           have ZW:=fJ
           simp only [St.iX,Option.bind_eq_some_iff] at fJ
           obtain ⟨cs,hk,fJ⟩:=fJ
           split at fJ
           · rename_i hle
             simp only [Option.some.injEq] at fJ
             have Ny:aJ st.gr (.s u)=some z:=by
              rw [←fJ] at hz;simp only at hz;rw [rK] at hz;simpa [Pl.out] using hz
             obtain ⟨o2,n,cap,c,e1,e2,e3,_⟩:=I.gQ u z Ny
             have hp:p= .sl z n c:=by
              have:look st.sl u=some (.pv p):=hy
              rw [e1] at this;simpa using this.symm
             subst hp
             have q1:look s1.bx k=some (splice cs off [.sl z n c]):=by rw [←fJ];simp [look,PV.cells]
             have q2:(splice cs off [.sl z n c])[off]? =some (.sl z n c):=by
              simp only [PV.cells,List.length_singleton] at hle
              unfold splice
              rw [List.append_assoc,List.getElem?_append_right (by simp;omega)]
              simp [Nat.min_eq_left (show off≤cs.length by omega)]
             have q3:w'.cell? ⟨bk (.bx k),off,none⟩=a.tmps[u]? :=by
              rw [e2];refine hcell _ ?_
              rw [gU e2];rfl
             have q4:look s1.sl u=some (.pv (.sl z n c)):=by rw [←fJ];exact e1
             have q5:∀t,look s1.tg t≠some (some (.c k off)):=by
              intro t' ht'
              rw [←fJ] at ht';simp only at ht'
              rw [bT (mC k off _) (fun _ x=>x.bind fun p=>if p.out k off _ then some p else none) (fun _=>rfl)] at ht'
              cases hm:look st.tg t' with
              |none=>simp [hm] at ht'
              |some p0=>
               simp only [hm,Option.map_some,Option.some.injEq,Option.bind_eq_some_iff] at ht'
               obtain ⟨p',_,ht'⟩:=ht'
               split at ht'
               · rename_i hout
                 simp only [Option.some.injEq] at ht';subst ht'
                 simp [Pl.out,PV.cells] at hout
               · simp at ht'
             obtain ⟨aQ,Mz,hbk⟩:=hI.Mw hz q1 q2 q3 q4 q5
             exact fin aQ Mz hbk
           · simp at fJ
         · subst h;exact fin bk hI (fun _=>rfl)
       · simp at h
     · rename_i p hy1 hy
       split at h
       · rename_i hc
         obtain ⟨w',hr,hb,hW,hK,hI,_⟩:=main p st' hy hc.1 hc.2 h
         intro K Q zM
         unfold Oper.wp;rw [hr]
         show K (a.put o.dst undef) w'
         rw [hput]
         exact zM _ _ _ _ hI (hW.below hb) hK (fun _ _ _ h=>h) hW.ko (fun _ _=>rfl) rfl
       · simp at h
     · simp at h
   · rename_i u off heq
     split at h
     · rename_i sz n cs p hu hp
       split at h
       · rename_i hc
         simp only [Option.some.injEq] at h;subst h
         obtain ⟨t',⟨b,o2,n2,L8,h1,h2⟩,h3⟩:=eP I heq
         have hv:=iF I hp
         obtain ⟨fW,gE⟩:=hv.iI (iQ hc.2.1)
         obtain ⟨cur,T,e1,e2,e3,e4,e5⟩:=I.PN hu hc.2.2 fW gE h1
         intro K Q zM
         unfold Oper.wp
         rw [he _ _ _ h2 (lV w _ _ T t cur _ e1 e2 (by rw [←fW.length];exact hc.1.symm) gE)]
         show K (a.put o.dst undef) _
         rw [hput]
         have hW:=lO w b (aZ cur.toList (o2+off) (a.eval y).cells.toList).toArray e1 (by rw [List.size_toArray,iY (by simpa using e2)];simp)
         exact zM _ _ _ _ e5 (hW.below e3) e4 (fun _ _ _ h=>h) hW.ko (fun _ _=>rfl) rfl
       · simp at h
     · simp at h
   · simp at h
 · simp at h
end
end Go.Proofs.YtibbgjafjhcemaaDoor.Cul
namespace Go.Proofs.YtibbgjafjhcemaaDoor.Cul
open Go Go.RowKit
section
variable {P:Program} {base:Nat} {w:World} {Pr:aC} {bk:Key→Nat} {st:St} {a:Act} {N:Nat}
theorem tG {b:Nat} {T:TypeId}:∀(vs:List Value) (o:Nat) (cur:Array Value) (w:World),w.heap[b]? =some (.cells cur T (0,0))→o+vs.length≤cur.size→
  w.setCells b o vs=w.setRow b (aZ cur.toList o vs).toArray
 |[],o,cur,w,hg,h=>by
  simp only [World.setCells,aZ,List.append_nil,List.length_nil,Nat.add_zero,List.take_append_drop,Array.toArray_toList]
  exact (setRow_self w b cur T (0,0) hg).symm
 |v::r,o,cur,w,hg,h=>by
  simp only [List.length_cons] at h
  rw [World.setCells,setCell_eq_setRow w b o cur T (0,0) v hg]
  rw [tG r (o+1) (cur.setIfInBounds o v) _ (setRow_heap w b cur _ T _ hg) (by simp;omega),setRow_setRow]
  congr 2
  unfold aZ
  simp only [Array.toList_setIfInBounds,List.length_cons]
  have e2:o+1+r.length=o+(r.length+1):=by omega
  rw [e2,List.take_set,List.drop_set_of_lt (by omega)]
  have hlt:o<cur.toList.length:=by simp;omega
  rw [List.take_succ_eq_append_getElem hlt,List.set_append_right _ _ (by simp;omega)]
  simp [Nat.min_eq_left (show o≤cur.size by omega)]
theorem Inv.xB (I:Inv base w Pr bk st a N) {w':World} {aD:aC} {g:Nat} (W:Wr w w' g) (hg:g<w.heap.size) (hfree:∀x,live st x→bk x≠g) (k:Kp w Pr w' aD) (hP:∀b o,aD b o→b≠g→Pr b o):Inv base w' aD bk st a N:=by
 have xO:∀x,live st x→∀o,aD (bk x) o→Pr (bk x) o:=fun x hx o h=>hP _ _ h (hfree x hx)
 have hroom:∀x,live st x→∀{o n cap sz},Room w Pr (bk x) o n cap sz→Room w' aD (bk x) o n cap sz:=fun x hx {o n cap sz} h=>
  ⟨h.hz,h.le,by obtain ⟨c,T,e1,e2⟩:=h.there;exact ⟨c,T,(W.other _ (hfree x hx)).trans e1,e2⟩,fun o' ho=>h.pr o' (xO x hx _ ho)⟩
 constructor
 · exact I.size
 · exact ⟨fun d hd=>(I.defers.1 d hd).ko W.ko,I.defers.2⟩
 · rw [W.size];exact I.hb
 · intro b o h
   rw [W.size]
   by_cases e:b=g
   · rw [e];exact hg
   · exact I.bL b o (hP b o h e)
 · intro t av ht
   obtain ⟨v,hv,hr⟩:=I.slots t av ht
   refine ⟨v,hv, ?_⟩
   cases av with
   |pv p=>exact Rp.mono k hr
   |bp k off=>exact hr
   |cl f caps=>obtain ⟨vs,h1,h2,h3⟩:=hr;exact ⟨vs,h1,h2,fun i c u hc hu=>gT.mono k (h3 i c u hc hu)⟩
   |ex sz n cs=>
    obtain ⟨o,cap,vs,h1,h2,h3,h4,h5,h6,h7⟩:=hr
    have hl:live st (.sx t):= .inl ⟨sz,n,cs,ht⟩
    exact ⟨o,cap,vs,h1,aO.mono k h2,h3,h4,iU (W.other _ (hfree _ hl)) h5,hroom _ hl h6,fun o' ho=>h7 o' (xO _ hl _ ho)⟩
   |xr u=>exact hr
   |xe u off=>exact hr
   |bX _ _=>exact hr
   |dead=>trivial
   |bs j off sz n=>exact hr.world fun c T e=>W.ko.sized _ c T _ e
   |mv f j off sz n=>obtain ⟨u,h1,h2⟩:=hr;exact ⟨u,h1,h2.world fun c T e=>W.ko.sized _ c T _ e⟩
   |tg j off sz n rest=>obtain ⟨u,us,h1,h2,h3⟩:=hr;exact ⟨u,us,h1,h2.world fun c T e=>W.ko.sized _ c T _ e,aO.mono k h3⟩
 · exact fun x hx=>by rw [W.size];exact I.own x hx
 · exact I.inj
 · intro k' cs' hq
   obtain ⟨⟨T',c',us',e1,e0,e2,e3⟩,e4⟩:=I.boxes k' cs' hq
   have hl:live st (.bx k'):=⟨cs',hq⟩
   exact ⟨⟨T',c',us',(W.other _ (hfree _ hl)).trans e1,e0,aO.mono k e2,e3⟩,fun o ho=>e4 o (xO _ hl _ ho)⟩
 · intro t z hz
   obtain ⟨o',n,cap,c,e1,e2,e3,e0⟩:=I.gQ t z hz
   exact ⟨o',n,cap,c,e1,e2,hroom (.sx t) (.inr ⟨z,hz⟩) e3,e0⟩
 · intro k' i z hz
   obtain ⟨o',n,cap,c,di,e1,e2,e3,e4,e0⟩:=I.iA k' i z hz
   exact ⟨o',n,cap,c,di,e1,e2,(World.cell?_of_block (w:=w) (W.other _ (hfree (.bx k') ⟨di,e1⟩))).trans e3,hroom (.cx k' i) ⟨z,hz⟩ e4,e0⟩
 · intro t q ht hq
   rw [←I.tags t q ht hq]
   cases q with
   |s x=>rfl
   |c k' i=>
    obtain ⟨z,hz⟩:=hq
    obtain ⟨o',n,cap,c,di,e1,e2,e3,e4,e0⟩:=I.iA k' i z hz
    exact World.cell?_of_block (w:=w) (W.other _ (hfree (.bx k') ⟨di,e1⟩))
theorem Bp {p:PV} {n:Nat} {cs:List PV} {v:Value} (h:qD p=some (n,cs)) (hr:Rp w Pr p v):
  (n=0∧cs=[]∧v= .slice none 0 0)∨∃sz b o cap vs,p= .sl sz n cs∧v= .slice (some ⟨b,o,none⟩) n cap∧aO w Pr cs vs∧One vs∧cs.length=n* sz∧n≤cap∧w.rangeAt b o vs∧∀i,i<vs.length→Pr b (o+i):=by
 unfold qD at h
 split at h
 · simp at h;obtain ⟨rfl,rfl⟩:=h;cases hr;exact .inl ⟨rfl,rfl,rfl⟩
 · simp at h;obtain ⟨rfl,rfl⟩:=h
   cases hr with
   |sl hr h1 hl hn hc hp=>exact .inr ⟨_,_,_,_,_,rfl,rfl,hr,h1,hl,hn,hc,hp⟩
   |n8=>exact .inl ⟨rfl,rfl,rfl⟩
 · simp at h
theorem OI {y:Operand} {m s:Nat} {new:List PV} {U e':TypeId} (I:Inv base w Pr bk st a N) (hy:(st.pv y).bind qD=some (m,new)) (hl:new.length=m* s) (hU:P.underlying U=some (.slice e')):
  ∃news,aO w Pr new news∧One news∧Src P s U (a.eval y) m news w:=by
 rw [Option.bind_eq_some_iff] at hy
 obtain ⟨p,hp,hv⟩:=hy
 rcases Bp hv (iF I hp) with ⟨rfl,rfl,h⟩|⟨sz,b,o,cap,vs,rfl,h,hr,h1,mT,hn,hc,JS⟩
 · exact ⟨[], .nil,fun _ h=>by simp at h,by rw [h];exact Src.ofNil w hU 0⟩
 · refine ⟨vs,hr,h1, ?_⟩
   rw [h]
   exact Src.ofSlice w hU ⟨b,o,none⟩ m cap vs (by rw [←hr.length];exact hl) (fun j u hj=>by rw [Addr.add_mid];exact hc j u hj) h1
theorem ot {o:Oper} {x y:Operand} {T U:TypeId} {args:Array Operand} {ts:Array TypeId} (ho:o.op= .call { callee:= .builtin .append,args:=args,argTypes:=ts}) (ha:args.toList=[x,y]) (ht:ts.toList=[T,U]) {v:Value} {w':World}
  (h:(Builtin.append_ #[T,U] o.type #[a.eval x,a.eval y]).run P w= .ok v w'):(execOp a.eval o).run P w= .ok (.value v) w':=by
 have he:=j5 (P:=P) (w:=w) (a:=a) ho
 rw [args2 ha] at he
 have hts:ts= #[T,U]:=Array.ext' (by simpa using ht)
 rw [he,hts]
 exact dH (by simpa using h)
theorem EX (I:Inv base w Pr bk st a N) {o:Oper} {d s c:Nat} {cs:List PV} {vs:List Value} {n:Nat} {e:TypeId} {tail:Array Value} (j8:o.dst=some d) (hd:d<N) (hs:0<s)
  (hr:aO w Pr cs vs) (h1:One vs) (hl:cs.length=n* s) (hn:n≤c) (Pq:tail.size=(c - n)* s)
  (he:(execOp a.eval o).run P w= .ok (.value (.slice (some ⟨w.heap.size,0,none⟩) n c)) (w.drew.alloc (.cells (vs.toArray++tail) e))):
  jK P base w Pr bk st a N o (st.made (some d) { v:= .pv (.sl s n cs),gr:=some s}):=by
 have hlen:=hr.length
 have hf:Fw w Pr (w.drew.alloc (.cells (vs.toArray++tail) e)) (fun b o=>Pr b o∨(b=w.heap.size∧o<n* s)):=
  ⟨((Below.refl _ _).drew).alloc (by simp) _,fun b o h=> .inl h,fun b o hb h=>h.resolve_right (fun h=>by omega),fun b o h=>by
    simp only [World.size_alloc,World.size_drew]
    rcases h with h|h
    · have:=I.bL b o h;omega
    · omega⟩
 have hh:(w.drew.alloc (.cells (vs.toArray++tail) e)).heap[w.heap.size]? =some (.cells (vs.toArray++tail) e (0,0)):=heap_alloc w.drew _
 have hsz:(vs.toArray++tail).size=c* s:=by
  simp only [Array.size_append,List.size_toArray,Pq,←hlen,hl]
  rw [←Nat.add_mul];congr 1;omega
 have hroom:Room (w.drew.alloc (.cells (vs.toArray++tail) e)) (fun b o=>Pr b o∨(b=w.heap.size∧o<n* s)) w.heap.size 0 n c s:=
  ⟨hs,hn,⟨_,_,hh,by rw [hsz];omega⟩,fun o' h=>by
   rcases h with h|h
   · exact absurd (I.bL _ _ h) (by omega)
   · omega⟩
 have cS:Rp (w.drew.alloc (.cells (vs.toArray++tail) e)) (fun b o=>Pr b o∨(b=w.heap.size∧o<n* s)) (.sl s n cs) (.slice (some ⟨w.heap.size,0,none⟩) n c):=by
  refine .sl (aO.mono (hf.kp I.bL) hr) h1 hl hn (fun j v hj=> ?_) (fun i hi=> .inr ⟨rfl,by omega⟩)
  rw [cell_of_row _ _ _ _ _ _ hh,Nat.zero_add,←hj]
  have hlt:j<vs.length:=(List.getElem?_eq_some_iff.1 hj).1
  rw [Array.getElem?_append_left (by simpa using hlt)];simp
 have I2:=I.fw hf
 have hm:dy base (w.drew.alloc (.cells (vs.toArray++tail) e)) (fun b o=>Pr b o∨(b=w.heap.size∧o<n* s)) bk st a { v:= .pv (.sl s n cs),gr:=some s} (.slice (some ⟨w.heap.size,0,none⟩) n c):=by
  refine ⟨fun _ _=>cS,fun _ _ _ h=>by simp at h,fun z hz=> ?_,fun q h=>by simp at h⟩
  simp only [Option.some.injEq] at hz;subst hz
  exact ⟨w.heap.size,0,n,c,cs,rfl,rfl,hroom,rfl,I.hb,by simp,fun x hx e=>by have:=(I.own x hx).2;omega⟩
 obtain ⟨aQ,hI,hbk⟩:=I2.iC hd hm
 intro K Q hK
 unfold Oper.wp
 rw [he]
 show K (a.put o.dst _) _
 rw [j8]
 exact hK _ _ _ _ hI (hf.gO.mono I.hb) (hf.kp I.bL) (fun b o hb h=>hf.old b o (Nat.lt_of_lt_of_le hb I.hb) h) hf.ko (fun k _=>hbk k) rfl
end
end Go.Proofs.YtibbgjafjhcemaaDoor.Cul
