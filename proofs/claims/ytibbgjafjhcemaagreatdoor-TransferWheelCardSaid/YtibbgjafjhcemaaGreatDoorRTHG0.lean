/- Part of a proof by an abstract machine for the program's code: lemmas, without conditions of their own beyond those that each states. (Made smaller by a program: short names, no comments.) -/
import Derived.WalkKit
import Derived.WalkSpells
import Derived.WalkLawsBesides
import Derived.Deep.MidRow
import Derived.StillTail
import Derived.KernelRfl
import Derived.RangeFuncOwn
import Derived.RangeFuncWrites
import Derived.Laws.CopyRow
import Derived.Deep.AppendSrc
set_option linter.unusedVariables false
set_option linter.unusedSimpArgs false
namespace Go.Proofs.YtibbgjafjhcemaaGreatDoor.Cul
open Go Go.RowKit
inductive PV where
 |lit (v:Value)
 |sl (sz n:Nat) (cs:List PV)
 |el (cs:List PV)
 |fn (f:Nat) (caps:List PV)
 |ag (cs:List PV)
 |aQ (vs:List PV)
 deriving Inhabited
def g9:Value→Bool
 | .bool _| .int .. | .string _| .nilFunc| .slice none 0 0| .pointer none| .map none| .nilIface=>true
 | .func (.yield _) fi ca=>fi.isEmpty&&ca.isEmpty
 |_=>false
inductive Cap where
 |pv (p:PV)
 |bp (k off:Nat)
inductive AV where
 |pv (p:PV)
 |bp (k off:Nat)
 |cl (f:Nat) (caps:List Cap)
 |ex (sz n:Nat) (cs:List PV)
 |xr (t:Nat)
 |xe (t off:Nat)
 |bV (cs:List PV) (s:Option (Nat×Nat))
 |dead
 |bs (k off sz n:Nat)
 |mv (f k off sz n:Nat)
 |tg (k off sz n:Nat) (rest:List PV)
inductive Pl where
 |s (t:Nat)
 |c (k off:Nat)
 deriving DecidableEq
def Pl.kept (ks:List Nat):Pl→Bool
 | .s t=>ks.contains t
 | .c k _=>ks.contains k
def Pl.eC (d:Nat):Pl→Bool
 | .c k _=>decide (k≠d)
 |_=>true
def me (d:Nat) (x:Nat×Option Pl):Nat×Option Pl:=(x.1,x.2.bind fun p=>if p.eC d then some p else none)
def Pl.out (k off n:Nat):Pl→Bool
 | .c j o=> !(decide (j=k)&&decide (off≤o)&&decide (o<off+n))
 |_=>true
def mh (k off n:Nat) (x:Nat×Option Pl):Nat×Option Pl:=(x.1,x.2.bind fun p=>if p.out k off n then some p else none)
structure St where
 sl:List (Nat×AV)
 bx:List (Nat×List PV)
 gr:List (Pl×Nat)
 tg:List (Nat×Option Pl)
def aG:List (Pl×Nat)→Pl→Option Nat
 |[],_=>none
 |(k,v)::l,t=>if k=t then some v else aG l t
def look {α:Type}:List (Nat×α)→Nat→Option α
 |[],_=>none
 |(k,v)::l,t=>if k=t then some v else look l t
def bF {α:Type}:List (Nat×α)→Nat→List (Nat×α)
 |[],_=>[]
 |(k,v)::l,t=>if k=t then bF l t else (k,v)::bF l t
def bn (t:Nat):AV→Bool
 | .xr u=>decide (u=t)
 | .xe u _=>decide (u=t)
 |_=>false
def dA (d:Nat) (x:Nat×AV):Nat×AV:=(x.1,if bn d x.2 then .dead else x.2)
def fL (p:Pl) (x:Nat×Option Pl):Nat×Option Pl:=(x.1,if x.2=some p then none else x.2)
def St.tag (st:St) (t:Nat):Option Pl:=(look st.tg t).bind id
def St.put (st:St) (dst:Option Tmp) (v:AV):St:=
 match dst with
 |none=>st
 |some d=>{ sl:=dA d (d,v)::(bF st.sl d).map (dA d),bx:=st.bx,gr:=st.gr.filter (fun p=>p.1≠ .s d),tg:=(bF st.tg d).map (fL (.s d))}
def aB {α:Type} (P:Program):Sem α→Option α
 | .pure a=>some a
 | .program k=>aB P (k P)
 | .mark _ k=>aB P k
 |_=>none
def ru:List Value→Option (List PV)
 |[]=>some []
 |v::l=>if g9 v then (ru l).map (PV.lit v:: ·) else none
def iM:Value→Option PV
 | .agg cs=>(ru cs.toList).map .ag
 |v=>if g9 v then some (.lit v) else none
def eD:List PV→Option (List Value)
 |[]=>some []
 | .lit v::l=>(eD l).map (v:: ·)
 |_::_=>none
def valOf:PV→Option Value
 | .lit v=>some v
 | .ag cs=>(eD cs).map fun l=> .agg l.toArray
 | .fn f []=>some (.func (.func f) #[] #[])
 |_=>none
def fA:AV:= .pv (.aQ [])
def St.ev (st:St):Operand→Option AV
 | .tmp t=>look st.sl t
 | .const v=>(iM v).map .pv
 | .func f=>some (.pv (.fn f []))
 | .global _=>none
def St.pv (st:St) (x:Operand):Option PV:=
 match st.ev x with
 |some (.pv p)=>some p
 |_=>none
def St.val (st:St) (x:Operand):Option Value:=(st.pv x).bind valOf
def cK (P:Program) (s:Sem Value):Option PV:=(aB P s).bind iM
def ep (P:Program) (t:TypeId):Bool:=match P.underlying t with|some (.struct _)|some (.array _ _)=>true|_=>false
def bT (P:Program) (t:TypeId):Option Nat:=(P.info? t).map (·.size)
def ju (P:Program) (t:TypeId):Option PV:=((P.info? t).bind (·.zero)).bind iM
def PV.cells:PV→List PV
 | .ag cs=>cs
 |p=>[p]
def uG (P:Program) (s:TypeId) (f:Nat):Option (Nat×TypeId):=
 match P.underlying s with
 |some (.struct fs)=>(fs[f]?).bind fun f=>if bT P f.type=some 0 then none else (bT P f.type).map fun _=>(f.offset,f.type)
 |_=>none
def ek (P:Program) (t:TypeId) (cs:List PV) (off:Nat):Option PV:=
 (bT P t).bind fun s=>if off+s≤cs.length then (if ep P t then some (.ag ((cs.drop off).take s)) else if s=1∧(P.underlying t).isSome=true then cs[off]? else none) else none
def row (cs:List PV) (sz i:Nat):List PV:=(cs.drop (i* sz)).take sz
def splice (cs:List PV) (off:Nat) (new:List PV):List PV:=cs.take off++new++cs.drop (off+new.length)
def qw:PV→Option (Nat×List PV)
 | .lit (.slice none 0 0)=>some (0,[])
 | .sl _ n cs=>some (n,cs)
 |_=>none
def cg:PV→Option Int
 | .lit (.int _ n)=>some n
 |_=>none
structure Made where
 v:AV
 gr:Option Nat:=none
 tg:Option Pl:=none
def dQ (v:Option PV):Option Made:=v.map fun p=>{ v:= .pv p}
def D7:Cap→Bool
 | .bp .. =>true
 |_=>false
def dF (st:St):List Cap→Option (List PV)
 |[]=>some []
 | .pv p::l=>(dF st l).map (p:: ·)
 | .bp k off::l=>(look st.bx k).bind fun cs=>(dF st l).map (PV.el (cs.drop off):: ·)
structure RV where
 v:PV
 gr:Option Nat
inductive MA where
 |p (p:PV)
 |g (cs:List PV) (off sz n:Nat)
inductive MR where
 |pv (p:PV)
 |gs (off n:Nat)
 |gt (off n:Nat) (rest:List PV)
structure Cl where
 fn:Nat→List PV→Option RV
 ex:Nat→Nat→Bool:=fun _ _=>false
 im:Nat→Bool:=fun _=>false
 mu:Nat→List MA→Option (MR×List PV):=fun _ _=>none
def St.eG (st:St):AV→Option PV
 | .pv p=>some p
 | .bp k off=>(look st.bx k).map fun cs=> .el (cs.drop off)
 | .bs k off sz n=>(look st.bx k).map fun cs=> .sl sz n ((cs.drop off).take (n* sz))
 | .cl f caps=>(dF st caps).map (PV.fn f)
 |_=>none
def bY:AV→Bool
 | .bp .. =>true
 | .bs .. =>true
 | .mv .. =>true
 | .tg .. =>true
 | .cl _ caps=>caps.any D7
 |_=>false
def jj (place:Nat→Option (Nat×Nat)) (cells:List PV):List (Nat×PV)→Option (List PV)
 |[]=>some cells
 |(i,v)::rest=>
  match place i with
  |none=>none
  |some (off,size)=>if v.cells.length≠size∨off+size>cells.length then none else jj place (splice cells off v.cells) rest
def fX:PV→Bool
 | .aQ _=>true
 |_=>false
def partsOf (st:St):List (Nat×Operand)→Option (List (Nat×PV))
 |[]=>some []
 |(i,x)::l=>(st.pv x).bind fun p=>if fX p then none else (partsOf st l).map ((i,p):: ·)
def bl {α:Type} (z:List α):Nat→List α
 |0=>[]
 |n+1=>z++bl z n
def bytesOf:List PV→Option (List UInt8)
 |[]=>some []
 | .lit (.int .u8 n)::l=>(bytesOf l).map (UInt8.ofNat n.toNat:: ·)
 |_::_=>none
def eo (st:St):List Operand→Option (List PV)
 |[]=>some []
 |x::l=>((st.ev x).bind st.eG).bind fun p=>(eo st l).map (p:: ·)
def ew (st:St):List Operand→Option (List Cap)
 |[]=>some []
 |x::l=>match st.ev x with
  |some (.pv p)=>(ew st l).map (Cap.pv p:: ·)
  |some (.bp k o)=>(ew st l).map (Cap.bp k o:: ·)
  |_=>none
def j7:PV→Bool
 | .aQ []=>true
 |p=>(valOf p).isSome
def rV (call:Cl) (out:Bool) (f:Nat) (args:List PV):Option Made:=
 (call.fn f args).bind fun r=>if out then (if j7 r.v then some { v:= .pv r.v} else none) else some { v:= .pv r.v,gr:=r.gr}
def placesOf (P:Program):List Field→Option (List (Nat×Nat))
 |[]=>some []
 |f::l=>(bT P f.type).bind fun s=>(placesOf P l).map ((f.offset,s):: ·)
def quiet (P:Program) (call:Cl) (o:Oper) (st:St):Option Made:=
 match o.op with
 | .move x=>
   match x,st.ev x with
   |_,some (.xr t)=>some { v:= .xr t}
   |_,some (.xe t off)=>some { v:= .xe t off}
   |_,some (.bV _ _)=>none
   | .tmp t,some (.ex ..)=>some { v:= .xr t}
   | .tmp t,some v=>some { v,tg:=if (aG st.gr (.s t)).isSome then some (.s t) else st.tag t}
   |_,some (.ex ..)=>none
   |_,some v=>some { v}
   |_,none=>none
 | .pick c a b=>(st.val c).bind fun
   | .bool t=>(st.pv (if t then a else b)).map fun p=>{ v:= .pv p}
   |_=>none
 | .binOp op t x y _=>(st.val x).bind fun a=>(st.val y).bind fun b=>dQ (cK P (do eqGuard op t x y a b;binOp op t a b))
 | .unOp op _ x=>(st.val x).bind fun a=>dQ (cK P (Op.unary op a))
 | .convert src dst x=>match st.pv x with
   |some (.sl 1 n cs)=>match P.underlying src,P.underlying dst with
    |some (.slice e),some .string=>match P.underlying e with
     |some (.int .u8)=>(bytesOf cs).map fun l=>{ v:= .pv (.lit (.string ⟨l.toArray⟩))}
     |_=>none
    |_,_=>none
   |some p=>(valOf p).bind fun a=>dQ (cK P (convert src dst a))
   |none=>none
 | .fieldAddr s x f=>(uG P s f).bind fun (off,_)=>match st.ev x with
   |some (.bp k o)=>some { v:= .bp k (o+off)}
   |some (.xe t o)=>some { v:= .xe t (o+off)}
   |some (.pv (.el cs))=>some { v:= .pv (.el (cs.drop off))}
   |_=>none
 | .field s x f=>(uG P s f).bind fun (off,t)=>match st.pv x with
   |some (.ag cs)=>dQ (ek P t cs off)
   |_=>none
 | .indexAddr t x i=>((st.pv i).bind cg).bind fun n=>match P.underlying t with
   |some (.array len e)=>(bT P e).bind fun s=>if 0≤n∧n<len then match st.ev x with
    |some (.bp k o)=>some { v:= .bp k (o+n.toNat* s)}
    |some (.pv (.el cs))=>some { v:= .pv (.el (cs.drop (n.toNat* s)))}
    |_=>none else none
   |some (.slice e)=>(bT P e).bind fun s=>match st.ev x with
    |some (.pv (.sl sz len cs))=>if sz=s∧0≤n∧n<len then some { v:= .pv (.el (row cs sz n.toNat))} else none
    |some (.xr u)=>match look st.sl u with
     |some (.ex sz len cs)=>if sz=s∧0≤n∧n<len then some { v:= .xe u (n.toNat* sz)} else none
     |_=>none
    |some (.bs k off sz len)=>if sz=s∧0≤n∧n<len then some { v:= .bp k (off+n.toNat* sz)} else none
    |_=>none
   |_=>none
 | .index t x i=>match P.underlying t,st.pv x with
   |some (.array len e),some (.ag cs)=>((st.pv i).bind cg).bind fun n=>(bT P e).bind fun s=>if 0≤n∧n<len then dQ (ek P e cs (n.toNat* s)) else none
   |_,_=>(st.val x).bind fun a=>(st.val i).bind fun b=>dQ (cK P (Instr.index t a b))
 | .load t x=>match st.ev x with
   |some (.bp k o)=>(look st.bx k).bind fun cs=>(ek P t cs o).map fun p=>{ v:= .pv p,tg:=if !ep P t&&(aG st.gr (.c k o)).isSome then some (.c k o) else none}
   |some (.pv (.el cs))=>dQ (ek P t cs 0)
   |some (.xe u o)=>match look st.sl u with
    |some (.ex _ _ cs)=>dQ (ek P t cs o)
    |_=>none
   |_=>none
 | .build t parts=>match ju P t,partsOf st parts.toList with
   |some (.ag z),some ps=>match P.underlying t with
    |some (.struct fs)=>(placesOf P fs.toList).bind fun pl=>(jj (fun i=>pl[i]?) z ps).map fun cs=>{ v:= .pv (.ag cs)}
    |some (.array _ e)=>(bT P e).bind fun s=>(jj (fun i=>some (i* s,s)) z ps).map fun cs=>{ v:= .pv (.ag cs)}
    |_=>none
   |_,_=>none
 | .buildSlice t len parts=>match P.underlying t with
   |some (.slice e)=>(bT P e).bind fun s=>(ju P e).bind fun z=>if len* s≤2^24∧z.cells.length=s then
    (partsOf st parts.toList).bind fun ps=>(jj (fun i=>some (i* s,s)) (bl z.cells len) ps).map fun cs=>{ v:= .pv (.sl s len cs),gr:=if len=0∨s=0 then none else some s} else none
   |_=>none
 | .extract x i=>match st.ev x with
   |some (.pv (.aQ vs))=>dQ vs[i]?
   |some (.tg k off sz n rest)=>match i with
    |0=>some { v:= .bs k off sz n}
    |i+1=>dQ rest[i]?
   |_=>none
 | .slice t x lo hi mx=>match st.ev x with
   |some (.bs k off sz n)=>match P.underlying t,mx with
    |some (.slice e),none=>if bT P e=some sz then
     (match hi with|none=>some (n:Int)|some y=>(st.pv y).bind cg).bind fun h=>
     (match lo with|none=>some (0:Int)|some y=>(st.pv y).bind cg).bind fun l=>
     if 0≤l∧l≤h∧h≤n then some { v:= .bs k (off+l.toNat* sz) sz (h.toNat - l.toNat)} else none else none
    |_,_=>none
   |some (.pv (.sl sz n cs))=>match P.underlying t,mx with
    |some (.slice e),none=>if bT P e=some sz then
     (match hi with|none=>some (n:Int)|some y=>(st.pv y).bind cg).bind fun h=>
     (match lo with|none=>some (0:Int)|some y=>(st.pv y).bind cg).bind fun l=>
     if 0≤l∧l≤h∧h≤n then some { v:= .pv (.sl sz (h.toNat - l.toNat) ((cs.drop (l.toNat* sz)).take ((h.toNat - l.toNat)* sz)))} else none else none
    |_,_=>none
   |some (.pv p)=>(valOf p).bind fun a=>match mx,lo,hi with
    |none,none,none=>dQ (cK P (Instr.sliceAt t a none none none))
    |none,some l,none=>(st.val l).bind fun l=>dQ (cK P (Instr.sliceAt t a (some l) none none))
    |none,none,some h=>(st.val h).bind fun h=>dQ (cK P (Instr.sliceAt t a none (some h) none))
    |none,some l,some h=>(st.val l).bind fun l=>(st.val h).bind fun h=>dQ (cK P (Instr.sliceAt t a (some l) (some h) none))
    |_,_,_=>none
   |_=>none
 | .makeFunc (.func f) first captured=>match first.toList,captured.toList with
   |[],cs=>(ew st cs).map fun caps=>{ v:= .cl f caps}
   |[x],[]=>match st.ev x with
    |some (.bs k off sz n)=>some { v:= .mv f k off sz n}
    |_=>none
   |_,_=>none
 | .nilCheck x=>match st.ev x with
   |some (.bp k o)=>some { v:= .bp k o}
   |some (.pv (.el cs))=>some { v:= .pv (.el cs)}
   |some (.pv (.fn f caps))=>some { v:= .pv (.fn f caps)}
   |_=>none
 | .call { callee:= .builtin .len,args,argTypes}=>match args.toList with
   |[x]=>match st.ev x with
    |some (.pv (.sl _ n _))=>match (argTypes[0]?).bind P.underlying with|some (.slice _)=>some { v:= .pv (.lit (.int .i64 n))}|_=>none
    |some (.xr u)=>match look st.sl u,(argTypes[0]?).bind P.underlying with|some (.ex _ n _),some (.slice _)=>some { v:= .pv (.lit (.int .i64 n))}|_,_=>none
    |some (.bs _ _ _ n)=>match (argTypes[0]?).bind P.underlying with|some (.slice _)=>some { v:= .pv (.lit (.int .i64 n))}|_=>none
    |some (.pv p)=>(valOf p).bind fun a=>dQ (cK P (Builtin.len_ argTypes o.type #[a]))
    |_=>none
   |_=>none
 | .call { callee:= .builtin .max,args,argTypes}=>match args.toList with
   |[x,y]=>(st.val x).bind fun a=>(st.val y).bind fun b=>dQ (cK P (Builtin.max_ argTypes o.type #[a,b]))
   |_=>none
 | .call { callee:= .builtin .min,args,argTypes}=>match args.toList with
   |[x,y]=>(st.val x).bind fun a=>(st.val y).bind fun b=>dQ (cK P (Builtin.min_ argTypes o.type #[a,b]))
   |_=>none
 | .call { callee:= .value g,args, .. }=>match (st.ev g) with
   |some v=>(st.eG v).bind fun p=>match p with
    | .fn f caps=>(eo st args.toList).bind fun fU=>rV call (bY v||args.toList.any fun x=>((st.ev x).map bY).getD true) f (fU++caps)
    |_=>none
   |_=>none
 |_=>none
def St.made (st:St) (dst:Option Tmp) (m:Made):St:=
 let s:=st.put dst m.v
 match dst with
 |none=>s
 |some d=>{ s with gr:=match m.gr with|some z=>(.s d,z)::s.gr|none=>s.gr,tg:=match m.tg with|some p=>(d,some p)::s.tg|none=>s.tg}
def D8 (k:Nat):Cap→Bool
 | .bp j _=>decide (j≠k)
 |_=>true
def ir (k:Nat):AV→Bool
 | .bp j _=>decide (j≠k)
 | .bs j _ _ _=>decide (j≠k)
 | .mv _ j _ _ _=>decide (j≠k)
 | .tg j _ _ _ _=>decide (j≠k)
 | .cl _ caps=>caps.all (D8 k)
 |_=>true
def St.dj (st:St) (d:Nat) (cs:List PV) (v:AV):Option St:=
 let s:=st.put (some d) v
 if (bF s.sl d).all (fun x=>ir d x.2) then
  some { s with bx:=(d,cs)::bF s.bx d,gr:=s.gr.filter (fun x=>x.1.eC d),tg:=s.tg.map (me d)}
 else none
def St.mT (st:St) (d:Nat) (cs:List PV):Option St:=st.dj d cs (.bp d 0)
def St.iR (st:St) (k off:Nat) (new:List PV):Option St:=
 (look st.bx k).bind fun cs=>if off+new.length≤cs.length then
  some { st with bx:=(k,splice cs off new)::bF st.bx k,
                 gr:=st.gr.filter (fun x=>x.1.out k off new.length),
                 tg:=st.tg.map (mh k off new.length)} else none
def room:Nat:=140737488355328
def effect (P:Program) (o:Oper) (st:St):Option St:=
 match o.op with
 | .assign x=>
   match x,st.ev x with
   | .tmp t,some (.ex sz n cs)=>o.dst.map fun d=>({ st with sl:=(bF st.sl t).map (dA t)}).put (some d) (.ex sz n cs)
   | .tmp t,some (.pv p)=>o.dst.map fun d=>match aG st.gr (.s t) with
     |some z=>if t=d then st.put (some d) (.pv p) else
      ({ st with gr:=st.gr.filter (fun x=>x.1≠Pl.s t),tg:=st.tg.map (fL (.s t))}).made (some d) { v:= .pv p,gr:=some z}
     |none=>st.put (some d) (.pv p)
   |_,some (.pv p)=>o.dst.map fun d=>st.put (some d) (.pv p)
   |_,some (.cl f caps)=>o.dst.map fun d=>st.put (some d) (.cl f caps)
   |_,some (.bp k off)=>o.dst.map fun d=>st.put (some d) (.bp k off)
   |_,some (.bs k off sz n)=>o.dst.map fun d=>st.put (some d) (.bs k off sz n)
   |_,some (.mv f k off sz n)=>o.dst.map fun d=>st.put (some d) (.mv f k off sz n)
   |_,_=>none
 | .alloc t=>o.dst.bind fun d=>(ju P t).bind fun z=>st.mT d z.cells
 | .box t x=>o.dst.bind fun d=>(st.pv x).bind fun p=>if some p.cells.length=bT P t∧fX p=false then st.mT d p.cells else none
 | .store t a x=>if o.dst=none then match st.ev a with
   |some (.bp k off)=>match x,st.ev x with
    | .tmp u,some (.pv p)=>if some p.cells.length=bT P t∧fX p=false then (st.iR k off p.cells).map fun s=>
     match aG s.gr (.s u),ep P t with
     |some z,false=>{ s with gr:=(.c k off,z)::s.gr.filter (fun x=>x.1≠ .s u),tg:=s.tg.map (fL (.s u))}
     |_,_=>s else none
    |_,some (.pv p)=>if some p.cells.length=bT P t∧fX p=false then st.iR k off p.cells else none
    |_,_=>none
   |some (.xe u off)=>match look st.sl u,st.pv x with
    |some (.ex sz n cs),some p=>if some p.cells.length=bT P t∧fX p=false∧off+p.cells.length≤cs.length then some { st with sl:=(u, .ex sz n (splice cs off p.cells))::bF st.sl u} else none
    |_,_=>none
   |_=>none else none
 | .makeSlice t l c=>o.dst.bind fun d=>match P.underlying t,(st.pv l).bind cg,(st.pv c).bind cg with
   |some (.slice e),some n,some m=>(bT P e).bind fun s=>(ju P e).bind fun z=>
    if 0≤n∧n≤m∧m* P.bytesOf e≤room∧m≤room∧z.cells.length=s∧0<s then
     (if n=0 then some (st.made (some d) { v:= .pv (.sl s 0 []),gr:=some s}) else st.dj d (bl z.cells n.toNat) (.bs d 0 s n.toNat)) else none
   |_,_,_=>none
 | .call { callee:= .builtin .append,args,argTypes}=>o.dst.bind fun d=>match args.toList,argTypes.toList with
   |[x,y],[T,U]=>match P.underlying T,P.underlying U with
    |some (.slice e),some (.slice _)=>(bT P e).bind fun s=>(ju P e).bind fun z=>(st.pv x).bind fun p=>(qw p).bind fun v=>((st.pv y).bind qw).bind fun u=>
     if (v.1+u.1)* P.bytesOf e≤room∧v.1+u.1≤room∧0<s∧z.cells.length=s∧u.2.length=u.1* s∧v.2.length=v.1* s then
      match p with
      | .lit _=>if u.1=0 then some (st.put (some d) (.pv p)) else some (st.made (some d) { v:= .pv (.sl s u.1 u.2),gr:=some s})
      |_=>match x with
       | .tmp t=>
         (if aG st.gr (.s t)=some s then some (Pl.s t) else match st.tag t with|some q=>if aG st.gr q=some s then some q else none|none=>none).map fun q=>
          ({ st with gr:=st.gr.filter (fun x=>x.1≠q),tg:=st.tg.map (fL q)}).made (some d) { v:= .pv (.sl s (v.1+u.1) (v.2++u.2)),gr:=some s}
       |_=>none
     else none
    |_,_=>none
   |_,_=>none
 |_=>none
def cH:PV→Bool
 | .lit v=>g9 v
 |_=>false
def gZ:Op→Bool
 | .move _| .pick .. | .binOp .. | .unOp .. | .convert .. | .fieldAddr .. | .field .. | .indexAddr .. | .index .. | .load .. | .build .. | .buildSlice .. | .extract .. | .slice .. | .makeFunc .. | .nilCheck _=>true
 | .call { callee:= .builtin .append, .. }=>false
 | .call _=>true
 |_=>false
def wJ (st:St):AV→Option MA
 | .pv p=>some (.p p)
 | .bs k off sz n=>(look st.bx k).map fun cs=> .g cs off sz n
 |_=>none
def nM (st:St):List AV→Option (List MA)
 |[]=>some []
 |v::l=>(wJ st v).bind fun m=>(nM st l).map (m:: ·)
def gj:List AV→Option (Nat×Nat)
 |[]=>none
 | .bs k _ sz _::l=>if l.any bY then none else some (k,sz)
 |v::l=>if bY v then none else gj l
def r5 (st:St):List Operand→Option (List AV)
 |[]=>some []
 |x::l=>(st.ev x).bind fun v=>(r5 st l).map (v:: ·)
def wS (k sz:Nat):MR→AV
 | .pv p=> .pv p
 | .gs off n=> .bs k off sz n
 | .gt off n rest=> .tg k off sz n rest
def MU:MR→Bool
 | .pv p=>j7 p
 | .gs .. =>true
 | .gt _ _ rest=>rest.all j7
def St.cX (st:St) (k:Nat) (cs:List PV):St:={ st with bx:=(k,cs)::bF st.bx k,gr:=st.gr.filter (fun x=>x.1.eC k),tg:=st.tg.map (me k)}
def kz (st:St) (o:Oper):Option (Nat×List AV):=
 match o.op with
 | .call { callee:= .value g,args, .. }=>match st.ev g with
   |some (.pv (.fn f []))=>(r5 st args.toList).map (f, ·)
   |some (.mv f k off sz n)=>(r5 st args.toList).map fun l=>(f, .bs k off sz n::l)
   |_=>none
 |_=>none
def sr (call:Cl) (o:Oper) (st:St) (f:Nat) (vs:List AV):Option St:=
 (gj vs).bind fun g=>(nM st vs).bind fun ms=>(call.mu f ms).bind fun r=>
  if MU r.1 then some ((st.cX g.1 r.2).put o.dst (wS g.1 g.2 r.1)) else none
def uE (call:Cl) (o:Oper) (st:St):Option St:=
 match o.op with
 | .call { callee:= .value g,args, .. }=>match st.ev g with
   |some (.pv (.fn f caps))=>if args.toList.any (fun x=>((st.ev x).map bY).getD true) then none else
    (eo st args.toList).bind fun fU=>(call.fn f (fU++caps)).bind fun r=>o.dst.bind fun d=>match r.v,r.gr with
     | .sl sz n cs,some z=>if z=sz∧cs.all cH=true then st.dj d cs (.bs d 0 sz n) else none
     |_,_=>none
   |_=>none
 |_=>none
def kY (P:Program) (call:Cl) (o:Oper) (st:St):Option St:=
 match kz st o with
 |some (f,vs)=>if call.im f then sr call o st f vs else if call.ex f (o.dst.getD 0) then uE call o st else if gZ o.op then (quiet P call o st).map (st.made o.dst) else effect P o st
 |none=>if gZ o.op then (quiet P call o st).map (st.made o.dst) else effect P o st
def jC:AV→Bool
 | .ex .. =>true
 |_=>false
def BH (call:Cl) (o:Oper):Bool:=
 match o.op with
 | .call { callee:= .value (.func f), .. }=>call.ex f (o.dst.getD 0)
 |_=>false
def oF (call:Cl) (o:Oper) (st:St):Option Made:=
 match o.op with
 | .call { callee:= .value (.func f),args, .. }=>if args.toList.any (fun x=>((st.ev x).map bY).getD true) then none else
   (eo st args.toList).bind fun fU=>(call.fn f fU).bind fun r=>match r.v,r.gr with
    | .sl sz n cs,some z=>if z=sz∧cs.all cH=true then some { v:= .bV cs (some (sz,n))} else none
    |_,_=>none
 |_=>none
def eS (P:Program) (call:Cl) (o:Oper) (st:St):Option Made:=
 if BH call o then oF call o st else match o.op with
 | .assign x=>match st.ev x with
   |some (.pv p)=>some { v:= .pv p}
   |some (.bp k off)=>some { v:= .bp k off}
   |some (.cl f caps)=>some { v:= .cl f caps}
   |_=>none
 | .alloc t=>(ju P t).map fun z=>{ v:= .bV z.cells none}
 |_=>(quiet P call o st).bind fun m=>if jC m.v then none else some { m with gr:=none}
def St.gu (st:St) (dst:Option Tmp) (m:Made):St:=
 match dst with
 |none=>st
 |some d=>{ st with sl:=(d,m.v)::bF st.sl d,tg:=(d,m.tg)::bF st.tg d}
def dZ (ops:List Oper) (o:Oper) (st:St):Option Bool:=
 match o.guard with
 |none=>some true
 |some (j,want)=>((ops[j]?).bind (·.dst)).bind fun t=>match look st.sl t with
  |some (.pv (.lit (.bool b)))=>some (b==want)
  |some (.pv (.aQ []))=>some false
  |_=>none
def n9 (step:Oper→St→Option St) (ops:List Oper):List Oper→St→Option St
 |[],st=>some st
 |o::l,st=>(dZ ops o st).bind fun
  |true=>(step o st).bind (n9 step ops l)
  |false=>n9 step ops l (st.put o.dst fA)
def jU (P:Program) (call:Cl) (ops:List Oper):List Oper→St→Option St
 |[],st=>some st
 |o::l,st=>(dZ ops o st).bind fun
  |true=>(eS P call o st).bind fun m=>jU P call ops l (st.gu o.dst m)
  |false=>jU P call ops l (st.gu o.dst { v:=fA})
def zP:Op→Bool
 | .assign _| .alloc _=>true
 |op=>gZ op
def vo (ops:List Oper):Nat:=
 let n:=(ops.takeWhile fun o=>zP o.op).length
 if n=ops.length then n - 1 else n
def pN (st:St) (o:Oper):Bool:=
 match o.dst with
 |some d=>(aG st.gr (.s d)).isNone&&(match look st.sl d with|some (.ex ..)=>false|_=>true)
 |none=>false
def St.Ch (st:St) (o:Oper):Option St:=
 match o.dst with
 |some d=>match look st.sl d with
  |some (.bV cs none)=>st.mT d cs
  |some (.bV cs (some (sz,n)))=>st.dj d cs (.bs d 0 sz n)
  |_=>some st
 |none=>some st
def St.settle (st:St):List Oper→Option St
 |[]=>some st
 |o::l=>(st.Ch o).bind fun s=>s.settle l
def tmpsOf (o:Oper):List Nat:=o.op.operands.toList.filterMap fun| .tmp t=>some t|_=>none
def jI (o:Oper) (j:Nat):Bool:=o.after.any fun e=>Region.binds .any e&&e.on==j
def mU (ops:List Oper) (n i:Nat) (o:Oper):Bool:=
 (match o.guard with|some (j,_)=>decide (j<i)&&jI o j|none=>true)&&
 (o.after.all fun e=> !Region.binds .any e||decide (e.on<i))&&
 (List.range n).all fun j=>match (ops[j]?).bind (·.dst) with
  |some d=>(!(tmpsOf o).contains d||(decide (j<i)&&jI o j)||(decide (i<j)&&(match ops[j]? with|some oj=>jI oj i|none=>false))||j==i)&&(j==i||o.dst !=some d)
  |none=>false
def pT (m n:Nat):Array Bool:=((List.range m).map fun i=>decide (i<n)).toArray
def mj (n:Nat) (ops:Array Oper):Bool:=
 decide (n<ops.size)&&Region.sinkB .any ops n&&Region.chainB .any ops n&&Region.seqB .any ops (ops.size - n) n (pT ops.size n)&&
 (List.range n).all fun i=>match ops[i]? with|some o=>zP o.op&&mU ops.toList n i o|none=>false
def BS:Op→Bool
 | .store .. =>true
 |_=>false
def E1:Op→Bool
 | .extract .. =>true
 |_=>false
def DP (ops:List Oper):Bool:=decide (ops.length≤12)&&(decide (2≤(ops.filter fun o=>BS o.op).length)||(decide (ops.length≤8)&&ops.any (fun o=>BS o.op)&&decide (2≤(ops.filter fun o=>E1 o.op).length)))
def uL (call:Cl) (ops:List Oper):Nat:=if ops.any (BH call) then (ops.takeWhile fun o=>gZ o.op).length else vo ops
def zw (call:Cl) (ops:List Oper) (n:Nat):Bool:= !(ops.any (BH call))||mj n ops.toArray
def kr (P:Program) (call:Cl) (ops:List Oper) (draw:Bool) (st:St):Option St:=
 if draw then
  let n:=uL call ops
  if ((ops.take n).all (pN st)&&zw call ops n&&(!DP ops||mj (vo ops) ops.toArray))=true then (jU P call ops (ops.take n) st).bind fun s=>(s.settle (ops.take n)).bind (n9 (kY P call) ops (ops.drop n)) else none
 else n9 (kY P call) ops ops st
structure eL where
 keep:List Nat
 still:List Nat:=[]
 perm:Bool:=false
def Je (k:Nat) (x:Nat×AV):Nat×AV:=(x.1,if ir k x.2 then x.2 else .dead)
def St.ec (st:St) (t k:Nat):St:={ sl:=(bF st.sl t).map (Je k),bx:=bF st.bx k,gr:=(st.gr.filter (fun x=>x.1.eC k)).filter (fun x=>x.1≠ .s t),tg:=(bF st.tg t).map (me k)}
def wD (g:Bool) (off sz:Nat):Option Nat:=match g with
 |true=>if off=0 then some sz else none
 |false=>none
def St.fO (g:Bool) (st:St) (t:Nat):St:=
 match look st.sl t with
 |some (.ex sz n cs)=>({ st with sl:=(bF st.sl t).map (dA t)}:St).made (some t) { v:= .pv (.sl sz n cs)}
 |some (.bs k off sz n)=>match look st.bx k with
  |some cs=>(st.ec t k).made (some t) { v:= .pv (.sl sz n ((cs.drop off).take (n* sz))),gr:=wD g off sz}
  |none=>st
 |_=>st
abbrev St.NG (st:St) (t:Nat):St:=st.fO true t
def St.pK (st:St) (t:Nat):St:=st.fO false t
def isRef:AV→Bool
 | .xr _| .xe .. =>true
 |_=>false
def JG (v:AV):AV:=if isRef v then .dead else v
def lV (l:List (Nat×AV)):List Nat→List (Nat×AV)
 |[]=>[]
 |k::ks=>match look l k with
  |some v=>(k,JG v)::lV l ks
  |none=>lV l ks
def r8 (l:List (Nat×List PV)):List Nat→List (Nat×List PV)
 |[]=>[]
 |k::ks=>match look l k with
  |some v=>(k,v)::r8 l ks
  |none=>r8 l ks
def Pl.of (k:Nat):Pl→Bool
 | .s t=>decide (t=k)
 | .c j _=>decide (j=k)
def uV (l:List (Pl×Nat)):List Nat→List (Pl×Nat)
 |[]=>[]
 |k::ks=>l.filter (fun x=>x.1.of k)++uV l ks
def ot:AV→List Nat
 | .bs k .. =>[k]
 | .mv _ k .. =>[k]
 | .tg k .. =>[k]
 |_=>[]
def refsOf:List (Nat×AV)→List Nat
 |[]=>[]
 |x::l=>ot x.2++refsOf l
def gk:Nat:=1000000
def oT (ks:List Nat):List Nat→List Nat
 |[]=>[]
 |k::l=>if ks.contains k||l.contains k then oT ks l else k::oT ks l
def kD (st:St) (ks:List Nat):List Nat:=ks++oT ks (refsOf (lV st.sl ks)++(st.bx.map (·.1)).filter (fun k=>gk≤k))
def St.bG (st:St) (ks:List Nat):St:=
 { sl:=lV st.sl ks,bx:=r8 st.bx (kD st ks),gr:=uV st.gr ks,tg:=[]}
inductive Xt where
 |normal|exit (id:Nat)|ret
 deriving DecidableEq
def dstsOf:Code→List Nat
 | .region _ ops _=>ops.toList.filterMap (·.dst)
 | .seq a b| .cond _ a b=>dstsOf a++dstsOf b
 | .block _ c| .loop c=>dstsOf c
 | .rangeFunc _ ps a b=>ps.toList++(dstsOf a++dstsOf b)
 |_=>[]
def flat:Code→Bool
 | .seq a b| .cond _ a b=>flat a&&flat b
 | .block _ c| .loop c=>flat c
 | .rangeFunc .. =>false
 |_=>true
def ym (ks:List Nat):Cap→Bool
 | .bp k _=>ks.contains k
 |_=>false
def qq (ks:List Nat):AV→AV
 | .pv p=> .pv p
 | .bp k off=>if ks.contains k then .dead else .bp k off
 | .cl f caps=>if caps.any (ym ks) then .dead else .cl f caps
 |_=> .dead
def JH (ks:List Nat) (x:Nat×AV):Nat×AV:=(x.1,qq ks x.2)
def Pl.sW (f:Nat→Bool):Pl→Bool
 | .s _=>false
 | .c k _=>f k
def St.hH (st:St) (ks:List Nat):St:=
 { sl:=st.sl.map (JH ks),bx:=st.bx.filter (fun x=> !ks.contains x.1),gr:=st.gr.filter (fun x=>x.1.sW fun k=> !ks.contains k),tg:=[]}
def St.after (cP cur:St):St:=
 { sl:=cP.sl,bx:=cur.bx.filter (fun x=>(look cP.bx x.1).isSome),gr:=cur.gr.filter (fun x=>x.1.sW fun k=>(look cP.bx k).isSome),tg:=[]}
def mw:List Nat→List PV→St→St
 |p::ps,x::xs,st=>mw ps xs (st.put (some p) (.pv x))
 |_,_,st=>st
def fF (fV body:St→Option (Xt×St)) (cP:St) (ps:List Nat):List (List PV)→St→Option (Xt×St)
 |[],cur=>some (.normal,cP.after cur)
 |x::xs,cur=>(fV (mw ps x (cP.after cur))).bind fun
  |(.normal,s)=>(body s).bind fun
   |(.normal,s2)=>fF fV body cP ps xs s2
   |(e,s2)=>some (e,cP.after s2)
  |_=>none
def yI (step:Oper→St→Option St) (ops:Array Oper) (i:Nat) (st:St):Option St:=
 (ops[i]?).bind fun o=>(dZ ops.toList o st).bind fun
  |true=>step o st
  |false=>some (st.put o.dst fA)
def pz (step:Oper→St→Option St) (ops:Array Oper):Nat→Array Bool→St→Option (List St)
 |0,listed,st=>if (Region.ready .any ops listed).isEmpty then some [st] else none
 |g+1,listed,st=>if (Region.ready .any ops listed).isEmpty then none else
   (Region.ready .any ops listed).foldr (fun i acc=>((yI step ops i st).bind (pz step ops g (listed.setIfInBounds i true))).bind fun l=>acc.map (l++ ·)) (some [])
open Classical in
noncomputable def oneOf (ks:List Nat):List St→Option St
 |[]=>none
 |s::l=>if ∀x∈l,x.bG ks=s.bG ks then some (s.bG ks) else none
noncomputable def cV (P:Program) (call:Cl) (it:Nat→List PV→Option (Nat×List (List PV))) (loop:(St→Option (Xt×St))→St→Option (Xt×St)) (note:Nat→eL):Code→St→Option (Xt×St)
 | .skip,st=>some (.normal,st)
 | .region id ops dr,st=>if dr&&(note id).perm then
     ((pz (kY P call) ops ops.size (Array.replicate ops.size false) ((note id).still.foldl St.pK st)).bind (oneOf (note id).keep)).map fun s=>(.normal,s)
   else (kr P call ops.toList dr ((note id).still.foldl St.pK st)).map fun s=>(.normal,s.bG (note id).keep)
 | .seq a b,st=>(cV P call it loop note a st).bind fun
   |(.normal,s)=>cV P call it loop note b s
   |r=>some r
 | .cond c t e,st=>(st.val c).bind fun
   | .bool true=>cV P call it loop note t st
   | .bool false=>cV P call it loop note e st
   |_=>none
 | .block id c,st=>(cV P call it loop note c st).map fun
   |(.exit j,s)=>if j=id then (.normal,s) else (.exit j,s)
   |r=>r
 | .loop c,st=>loop (cV P call it loop note c) st
 | .rangeFunc g ps fV body,st=>(st.pv g).bind fun
   | .fn f caps=>(it f caps).bind fun x=>if x.1=ps.size then
    fF (cV P call it loop note fV) (cV P call it loop note body) (st.hH (ps.toList++(dstsOf fV++dstsOf body))) ps.toList x.2 (st.hH (ps.toList++(dstsOf fV++dstsOf body))) else none
   |_=>none
 | .exit id,st=>some (.exit id,st)
 | .ret,st=>some (.ret,st)
 |_,_=>none
def St.fix (st:St):ResultVar→St
 | .tmp t=>st.NG t
 | .cell _ _=>st
def ku (P:Program) (st:St):ResultVar→Option RV
 | .tmp t=>match look st.sl t with
   |some (.pv p)=>some ⟨p,aG st.gr (.s t)⟩
   |_=>none
 | .cell t ty=>match look st.sl t with
   |some (.bp k o)=>(look st.bx k).bind fun cs=>(ek P ty cs o).map fun p=>⟨p,if ep P ty then none else aG st.gr (.c k o)⟩
   |_=>none
def gA (P:Program) (st:St):List ResultVar→Option (List PV)
 |[]=>some []
 |r::l=>(ku P (st.fix r) r).bind fun v=>(gA P (st.fix r) l).map (v.v:: ·)
def pG (P:Program) (st:St):ResultVar→Option RV
 | .tmp t=>match look st.sl t with
   |some (.cl f caps)=>(dF st caps).map fun ps=>⟨.fn f ps,none⟩
   |_=>ku P st (.tmp t)
 |r=>ku P st r
def jz (P:Program) (st:St):List ResultVar→Option RV
 |[r]=>pG P (st.fix r) r
 |l=>(gA P st l).map fun vs=>⟨.aQ vs,none⟩
def slotsOf:Nat→List PV→List (Nat×AV)
 |_,[]=>[]
 |i,p::l=>(i, .pv p)::slotsOf (i+1) l
def St.enter (args:List PV):St:={ sl:=slotsOf 0 args,bx:=[],gr:=[],tg:=[]}
noncomputable def ug (P:Program) (call:Cl) (it:Nat→List PV→Option (Nat×List (List PV))) (loop:(St→Option (Xt×St))→St→Option (Xt×St)) (note:Nat→eL) (fn:Func) (args:List PV):Option RV:=
 fn.body.bind fun c=>(cV P call it loop note c (.enter args)).bind fun
   |(.exit _,_)=>none
   |(_,st)=>jz P st fn.results.toList
def bh (f:St→Option (Xt×St)):Nat→St→Option (Xt×St)
 |0,_=>none
 |n+1,st=>(f st).bind fun
  |(.normal,s)=>bh f n s
  |r=>some r
def m5:Nat→List MA→List (Nat×AV)
 |_,[]=>[]
 |i, .p p::l=>(i, .pv p)::m5 (i+1) l
 |i, .g _ off sz n::l=>(i, .bs gk off sz n)::m5 (i+1) l
def di:List MA→Option (List PV)
 |[]=>none
 | .g cs _ _ _::_=>some cs
 | .p _::l=>di l
def jK:List MA→Nat
 |[]=>0
 | .g _ _ sz _::_=>sz
 | .p _::l=>jK l
def St.fI (ms:List MA):St:={ sl:=m5 0 ms,bx:=match di ms with|some cs=>[(gk,cs)]|none=>[],gr:=[],tg:=[]}
def kH (st:St):List ResultVar→Option (List PV)
 |[]=>some []
 | .tmp t::l=>match look st.sl t with
   |some (.pv p)=>if j7 p then (kH st l).map (p:: ·) else none
   |_=>none
 |_::_=>none
def tR (st:St) (jk:Nat):List ResultVar→Option MR
 |[]=>some (.pv (.aQ []))
 |[.tmp t]=>match look st.sl t with
  |some (.pv p)=>if j7 p then some (.pv p) else none
  |some (.bs k off s n)=>if k=gk∧s=jk then some (.gs off n) else none
  |_=>none
 | .tmp t::l=>match look st.sl t with
   |some (.bs k off s n)=>if k=gk∧s=jk then (kH st l).map (.gt off n) else none
   |_=>none
 |_=>none
noncomputable def qH (P:Program) (call:Cl) (it:Nat→List PV→Option (Nat×List (List PV))) (loop:(St→Option (Xt×St))→St→Option (Xt×St)) (note:Nat→eL) (fn:Func) (ms:List MA):Option (MR×List PV):=
 fn.body.bind fun c=>if flat c&&(dstsOf c).all (fun d=>d !=gk) then (cV P call it loop note c (.fI ms)).bind fun
   |(.exit _,_)=>none
   |(_,st)=>(tR st (jK ms) fn.results.toList).bind fun r=>(look st.bx gk).bind fun cs'=>(di ms).bind fun cs=>if cs'.all cH=true∧cs'.length=cs.length then some (r,cs') else none
   else none
structure jy where
 P:Program
 tU:Nat→Option ((Nat→List PV→Option RV)→List PV→Option RV)
 note:Nat→Nat→eL
 iter:Nat→List PV→Option (Nat×List (List PV)):=fun _ _=>none
 ex:Nat→Nat→Nat→Bool:=fun _ _ _=>false
 im:Nat→Bool:=fun _=>false
noncomputable def acl (M:jy):Nat→Cl
 |0=>{ fn:=fun _ _=>none}
 |n+1=>
  { fn:=fun f args=>match M.tU f with
      |some g=>g (acl M n).fn args
      |none=>(M.P.funcs[f]?).bind fun fn=>ug M.P { acl M n with ex:=M.ex f,im:=M.im} M.iter (fun g=>bh g n) (M.note f) fn args
    mu:=fun f ms=>match M.tU f with
     |some _=>none
     |none=>(M.P.funcs[f]?).bind fun fn=>qH M.P { acl M n with ex:=M.ex f,im:=M.im} M.iter (fun g=>bh g n) (M.note f) fn ms}
noncomputable def IN (M:jy) (n:Nat):Nat→List PV→Option RV:=(acl M n).fn
end Go.Proofs.YtibbgjafjhcemaaGreatDoor.Cul
namespace Go.Proofs.YtibbgjafjhcemaaGreatDoor.Cul
open Go
def Ai (ops:Array Oper):Bool:=mj (vo ops.toList) ops
def lX (N:Nat) (ops:Array Oper) (draw:Bool):Bool:=
 (ops.toList.all fun o=>match o.dst with|some d=>decide (d<N)|none=>true)&&(!draw||Ai ops||DP ops.toList)
def bN (N:Nat):Code→Bool
 | .region _ ops dr=>lX N ops dr
 | .seq a b=>bN N a&&bN N b
 | .cond _ a b=>bN N a&&bN N b
 | .block _ c=>bN N c
 | .loop c=>bN N c
 | .rangeFunc _ ps a b=>flat a&&flat b&&bN N a&&bN N b&&ps.toList.all fun p=>decide (p<N)
 | .skip| .exit _| .ret=>true
 |_=>false
def tS (fn:Func):Bool:=match fn.body with|some c=>bN fn.ntmps c&& !(fn.name== "runtime.NumGoroutine")|none=>true
end Go.Proofs.YtibbgjafjhcemaaGreatDoor.Cul
namespace Go.Proofs.YtibbgjafjhcemaaGreatDoor.Cul
open Go Go.RowKit
abbrev aC:=Nat→Nat→Prop
mutual
inductive Rp (w:World) (Pr:aC):PV→Value→Prop
 |lit {v:Value} (h:g9 v=true):Rp w Pr (.lit v) v
 |sl {sz n cap b o:Nat} {cs:List PV} {vs:List Value} (hr:aM w Pr cs vs) (h1:∀v∈vs,v.oneCell'=true) (hl:cs.length=n* sz) (hn:n≤cap)
  (hc:w.rangeAt b o vs) (hp:∀i,i<vs.length→Pr b (o+i)):Rp w Pr (.sl sz n cs) (.slice (some ⟨b,o,none⟩) n cap)
 |nV {sz:Nat}:Rp w Pr (.sl sz 0 []) (.slice none 0 0)
 |el {b o:Nat} {cs:List PV} {vs:List Value} (hr:aM w Pr cs vs) (h1:∀v∈vs,v.oneCell'=true)
  (hc:w.rangeAt b o vs) (hp:∀i,i<vs.length→Pr b (o+i)):Rp w Pr (.el cs) (.pointer (some ⟨b,o,none⟩))
 |fn {f:Nat} {cs:List PV} {vs:List Value} (hr:aM w Pr cs vs):Rp w Pr (.fn f cs) (.func (.func f) #[] vs.toArray)
 |ag {cs:List PV} {vs:List Value} (hr:aM w Pr cs vs) (h1:∀v∈vs,v.oneCell'=true):Rp w Pr (.ag cs) (.agg vs.toArray)
 |aQ {cs:List PV} {vs:List Value} (hr:aM w Pr cs vs):Rp w Pr (.aQ cs) (.tuple vs.toArray)
inductive aM (w:World) (Pr:aC):List PV→List Value→Prop
 |nil:aM w Pr [] []
 |cons {p:PV} {v:Value} {cs:List PV} {vs:List Value} (h:Rp w Pr p v) (hs:aM w Pr cs vs):aM w Pr (p::cs) (v::vs)
end
structure Kp (w:World) (Pr:aC) (w':World) (aD:aC):Prop where
 pr:∀b o,Pr b o→aD b o
 cell:∀b o,Pr b o→w'.cell? ⟨b,o,none⟩=w.cell? ⟨b,o,none⟩
theorem Kp.refl (w:World) (Pr:aC):Kp w Pr w Pr:=⟨fun _ _ h=>h,fun _ _ _=>rfl⟩
theorem Kp.trans {w w1 w2:World} {Pr lJ kV:aC} (h:Kp w Pr w1 lJ) (k:Kp w1 lJ w2 kV):Kp w Pr w2 kV:=
 ⟨fun b o x=>k.pr b o (h.pr b o x),fun b o x=>(k.cell b o (h.pr b o x)).trans (h.cell b o x)⟩
theorem Kp.range {w w':World} {Pr aD:aC} (h:Kp w Pr w' aD) {b o:Nat} {vs:List Value} (hc:w.rangeAt b o vs) (hp:∀i,i<vs.length→Pr b (o+i)):w'.rangeAt b o vs:=fun j v hj=>by
 have hlt:j<vs.length:=(List.getElem?_eq_some_iff.1 hj).1
 rw [h.cell b (o+j) (hp j hlt)];exact hc j v hj
mutual
theorem Rp.mono {w w':World} {Pr aD:aC} (k:Kp w Pr w' aD):∀{p:PV} {v:Value},Rp w Pr p v→Rp w' aD p v
 |_,_, .lit h=> .lit h
 |_,_, .sl hr h1 hl hn hc hp=> .sl (aM.mono k hr) h1 hl hn (k.range hc hp) (fun i hi=>k.pr _ _ (hp i hi))
 |_,_, .nV=> .nV
 |_,_, .el hr h1 hc hp=> .el (aM.mono k hr) h1 (k.range hc hp) (fun i hi=>k.pr _ _ (hp i hi))
 |_,_, .fn hr=> .fn (aM.mono k hr)
 |_,_, .ag hr h1=> .ag (aM.mono k hr) h1
 |_,_, .aQ hr=> .aQ (aM.mono k hr)
theorem aM.mono {w w':World} {Pr aD:aC} (k:Kp w Pr w' aD):∀{cs:List PV} {vs:List Value},aM w Pr cs vs→aM w' aD cs vs
 |_,_, .nil=> .nil
 |_,_, .cons h hs=> .cons (Rp.mono k h) (aM.mono k hs)
end
section
variable {w:World} {Pr:aC}
theorem aM.length:∀{cs:List PV} {vs:List Value},aM w Pr cs vs→cs.length=vs.length
 |_,_, .nil=>rfl
 |_,_, .cons _ hs=>by simp [aM.length hs]
theorem aM.get:∀{cs:List PV} {vs:List Value},aM w Pr cs vs→∀(i:Nat) (p:PV),cs[i]? =some p→∃v,vs[i]? =some v∧Rp w Pr p v
 |_,_, .nil,i,p,h=>by simp at h
 |_,_, .cons h hs,0,p,e=>by simp at e;subst e;exact ⟨_,rfl,h⟩
 |_,_, .cons h hs,i+1,p,e=>by simpa using aM.get hs i p (by simpa using e)
theorem aM.take:∀{cs:List PV} {vs:List Value},aM w Pr cs vs→∀n,aM w Pr (cs.take n) (vs.take n)
 |_,_, .nil,n=>by simp;exact .nil
 |_,_, .cons h hs,0=>by simp;exact .nil
 |_,_, .cons h hs,n+1=>by simp only [List.take_succ_cons];exact .cons h (aM.take hs n)
theorem aM.drop:∀{cs:List PV} {vs:List Value},aM w Pr cs vs→∀n,aM w Pr (cs.drop n) (vs.drop n)
 |_,_, .nil,n=>by simp;exact .nil
 |_,_, .cons h hs,0=> .cons h hs
 |_,_, .cons h hs,n+1=>by simp only [List.drop_succ_cons];exact aM.drop hs n
theorem aM.app:∀{cs:List PV} {vs:List Value},aM w Pr cs vs→∀{ds:List PV} {us:List Value},aM w Pr ds us→aM w Pr (cs++ds) (vs++us)
 |_,_, .nil,_,_,k=>k
 |_,_, .cons h hs,_,_,k=> .cons h (aM.app hs k)
theorem xD:∀{l:List Value} {ps:List PV},ru l=some ps→aM w Pr ps l∧(∀v∈l,v.oneCell'=true)
 |[],ps,h=>by simp [ru] at h;subst h;exact ⟨.nil,by simp⟩
 |v::l,ps,h=>by
  simp only [ru] at h
  split at h
  · rename_i hs
    simp only [Option.map_eq_some_iff] at h
    obtain ⟨qs,hq,rfl⟩:=h
    obtain ⟨h1,h2⟩:=xD hq
    refine ⟨.cons (.lit hs) h1,fun u hu=> ?_⟩
    rcases List.mem_cons.1 hu with rfl|hu
    · cases u<;>simp_all [g9,Value.oneCell']
    · exact h2 u hu
  · simp at h
theorem sA {v:Value} {p:PV} (h:iM v=some p):Rp w Pr p v:=by
 unfold iM at h
 split at h
 · simp only [Option.map_eq_some_iff] at h
   obtain ⟨ps,hp,rfl⟩:=h
   obtain ⟨h1,h2⟩:=xD (w:=w) (Pr:=Pr) hp
   exact .ag h1 h2
 · split at h
   · simp at h;subst h;exact .lit ‹_›
   · simp at h
theorem ye:∀{ps:List PV} {l vs:List Value},eD ps=some l→aM w Pr ps vs→vs=l
 |[],l,vs,h,k=>by simp [eD] at h;cases k;exact h.symm
 | .lit v::ps,l,vs,h,k=>by
   simp only [eD,Option.map_eq_some_iff] at h
   obtain ⟨q,hq,rfl⟩:=h
   cases k with
   |cons h1 h2=>cases h1;rw [ye hq h2]
 | .sl .. ::ps,l,vs,h,k=>by simp [eD] at h
 | .el .. ::ps,l,vs,h,k=>by simp [eD] at h
 | .fn .. ::ps,l,vs,h,k=>by simp [eD] at h
 | .ag .. ::ps,l,vs,h,k=>by simp [eD] at h
 | .aQ .. ::ps,l,vs,h,k=>by simp [eD] at h
theorem qu {p:PV} {v u:Value} (h:valOf p=some v) (k:Rp w Pr p u):u=v:=by
 unfold valOf at h
 split at h
 · simp at h;subst h;cases k;rfl
 · simp only [Option.map_eq_some_iff] at h
   obtain ⟨l,hl,rfl⟩:=h
   cases k with
   |ag hr h1=>rw [ye hl hr]
 · simp at h;subst h
   cases k with
   |fn hr=>cases hr;rfl
 · simp at h
theorem vW:∀{ps:List PV} {l:List Value},eD ps=some l→∀{w':World} {aD:aC} {vs:List Value},aM w Pr ps vs→aM w' aD ps vs
 |[],l,h,_,_,vs,k=>by cases k;exact .nil
 | .lit v::ps,l,h,_,_,vs,k=>by
   simp only [eD,Option.map_eq_some_iff] at h
   obtain ⟨q,hq,rfl⟩:=h
   cases k with
   |cons h1 h2=>cases h1 with|lit hs=>exact .cons (.lit hs) (vW hq h2)
 | .sl .. ::ps,l,h,_,_,vs,k=>by simp [eD] at h
 | .el .. ::ps,l,h,_,_,vs,k=>by simp [eD] at h
 | .fn .. ::ps,l,h,_,_,vs,k=>by simp [eD] at h
 | .ag .. ::ps,l,h,_,_,vs,k=>by simp [eD] at h
 | .aQ .. ::ps,l,h,_,_,vs,k=>by simp [eD] at h
theorem yc {p:PV} {v u:Value} (h:valOf p=some v) (k:Rp w Pr p u) {w':World} {aD:aC}:Rp w' aD p u:=by
 unfold valOf at h
 split at h
 · cases k with|lit hs=>exact .lit hs
 · simp only [Option.map_eq_some_iff] at h
   obtain ⟨l,hl,rfl⟩:=h
   cases k with
   |ag hr h1=>exact .ag (vW hl hr) h1
 · cases k with
   |fn hr=>cases hr;exact .fn .nil
 · simp at h
theorem Rp.iB {p:PV} {v:Value} (h:Rp w Pr p v) (ht:∀vs,p≠ .aQ vs):aM w Pr p.cells v.cells.toList∧∀u∈v.cells.toList,u.oneCell'=true:=by
 cases h with
 |lit hs=>
  have:v.cells= #[v]:=by cases v<;>simp_all [g9,Value.cells]
  rw [this];refine ⟨.cons (.lit hs) .nil, ?_⟩
  simp;cases v<;>simp_all [g9,Value.oneCell']
 |sl hr h1 hl hn hc hp=>exact ⟨.cons (.sl hr h1 hl hn hc hp) .nil,by simp [Value.cells,Value.oneCell']⟩
 |nV=>exact ⟨.cons .nV .nil,by simp [Value.cells,Value.oneCell']⟩
 |el hr h1 hc hp=>exact ⟨.cons (.el hr h1 hc hp) .nil,by simp [Value.cells,Value.oneCell']⟩
 |fn hr=>exact ⟨.cons (.fn hr) .nil,by simp [Value.cells,Value.oneCell']⟩
 |ag hr h1=>simpa [PV.cells,Value.cells] using ⟨hr,h1⟩
 |aQ hr=>exact absurd rfl (ht _)
end
theorem iP {w:World} {b o:Nat} {vs:List Value} (h:w.rangeAt b o vs) (n:Nat):w.rangeAt b o (vs.take n):=fun j v hj=>by
 rw [List.getElem?_take] at hj;split at hj
 · exact h j v hj
 · simp at hj
theorem dy {w:World} {b o:Nat} {vs:List Value} (h:w.rangeAt b o vs) (n:Nat):w.rangeAt b (o+n) (vs.drop n):=fun j v hj=>by
 rw [List.getElem?_drop] at hj
 have:=h (n+j) v hj
 rwa [←Nat.add_assoc] at this
theorem mK {α:Type} (P:Program):∀(s:Sem α) (a:α),aB P s=some a→∀w,s.run P w= .ok a w
 | .pure b,a,h,w=>by simp [aB] at h;subst h;rfl
 | .program k,a,h,w=>by simp only [aB] at h;simp only [Sem.run];exact mK P (k P) a h w
 | .mark _ k,a,h,w=>by simp only [aB] at h;simp only [Sem.run];exact mK P k a h w
 | .load ..,a,h,_| .store ..,a,h,_| .new ..,a,h,_| .shape ..,a,h,_| .freeze ..,a,h,_| .frozen ..,a,h,_| .getObj ..,a,h,_| .setObj ..,a,h,_| .choose ..,a,h,_| .sys ..,a,h,_| .halt ..,a,h,_=>by simp [aB] at h
theorem lZ {P:Program} {s:Sem Value} {p:PV} (h:cK P s=some p) (w:World) (Pr:aC):∃v,s.run P w= .ok v w∧Rp w Pr p v:=by
 unfold cK at h
 simp only [Option.bind_eq_some_iff] at h
 obtain ⟨v,hv,hp⟩:=h
 exact ⟨v,mK P s v hv w,sA hp⟩
end Go.Proofs.YtibbgjafjhcemaaGreatDoor.Cul
namespace Go.Proofs.YtibbgjafjhcemaaGreatDoor.Cul
open Go Go.RowKit
inductive Key where
 |bx (k:Nat)
 |sx (t:Nat)
 |cx (k off:Nat)
 deriving DecidableEq
def Pl.key:Pl→Key
 | .s t=> .sx t
 | .c k o=> .cx k o
def dS (st:St) (t:Nat):Prop:=∃sz n cs,look st.sl t=some (.ex sz n cs)
def tM (st:St) (p:Pl):Prop:=∃z,aG st.gr p=some z
def live (st:St):Key→Prop
 | .bx k=>∃cs,look st.bx k=some cs
 | .sx t=>dS st t∨tM st (.s t)
 | .cx k o=>tM st (.c k o)
def One (vs:List Value):Prop:=∀v∈vs,v.oneCell'=true
def gJ (w:World) (Pr:aC) (bk:Key→Nat):Cap→Value→Prop
 | .pv p,v=>Rp w Pr p v
 | .bp k off,v=>v= .pointer (some ⟨bk (.bx k),off,none⟩)
structure Room (w:World) (Pr:aC) (b o n cap sz:Nat):Prop where
 hz:0<sz
 le:n≤cap
 there:∃cells T,w.heap[b]? =some (.cells cells T (0,0))∧o+cap* sz≤cells.size
 pr:∀o',Pr b o'→o'<o+n* sz
def gH (st:St) (w:World) (bk:Key→Nat) (k off sz n:Nat) (v:Value):Prop:=
 ∃o cap cs c T,v= .slice (some ⟨bk (.bx k),o,none⟩) n cap∧(o=off∨(n=0∧0<off))∧look st.bx k=some cs∧off+n* sz≤cs.length∧0<sz∧n≤cap∧w.heap[bk (.bx k)]? =some (.cells c T (0,0))∧o+cap* sz≤c.size
theorem gH.to {st st':St} {w w':World} {bk aN:Key→Nat} {k off sz n:Nat} {v:Value} (hb:aN (.bx k)=bk (.bx k)) (hx:∀cs,look st.bx k=some cs→∃cs',look st'.bx k=some cs'∧cs'.length=cs.length)
  (hh:∀c T,w.heap[bk (.bx k)]? =some (.cells c T (0,0))→∃c',w'.heap[bk (.bx k)]? =some (.cells c' T (0,0))∧c'.size=c.size) (h:gH st w bk k off sz n v):gH st' w' aN k off sz n v:=by
 obtain ⟨o,cap,cs,c,T,h1,h0,h2,h3,h4,h5,h6,h7⟩:=h
 obtain ⟨cs',h8,h9⟩:=hx cs h2
 obtain ⟨c',h10,h11⟩:=hh c T h6
 exact ⟨o,cap,cs',c',T,by rw [hb];exact h1,h0,h8,by omega,h4,h5,by rw [hb];exact h10,by omega⟩
theorem gH.world {st:St} {w w':World} {bk:Key→Nat} {k off sz n:Nat} {v:Value} (hh:∀c T,w.heap[bk (.bx k)]? =some (.cells c T (0,0))→∃c',w'.heap[bk (.bx k)]? =some (.cells c' T (0,0))∧c'.size=c.size) (h:gH st w bk k off sz n v):gH st w' bk k off sz n v:=
 h.to rfl (fun cs e=>⟨cs,e,rfl⟩) hh
theorem gH.frame {st st':St} {w:World} {bk aN:Key→Nat} {k off sz n:Nat} {v:Value} (hb:aN (.bx k)=bk (.bx k)) (hx:∀cs,look st.bx k=some cs→∃cs',look st'.bx k=some cs'∧cs'.length=cs.length) (h:gH st w bk k off sz n v):gH st' w aN k off sz n v:=
 h.to hb hx (fun c T e=>⟨c,e,rfl⟩)
def dD (st:St) (a:Act) (w:World) (Pr:aC) (bk:Key→Nat) (t:Nat):AV→Value→Prop
 | .pv p,v=>Rp w Pr p v
 | .bp k off,v=>v= .pointer (some ⟨bk (.bx k),off,none⟩)
 | .cl f caps,v=>∃vs:List Value,v= .func (.func f) #[] vs.toArray∧vs.length=caps.length∧∀(i:Nat) (c:Cap) (u:Value),caps[i]? =some c→vs[i]? =some u→gJ w Pr bk c u
 | .ex sz n cs,v=>∃(o cap:Nat) (vs:List Value),v= .slice (some ⟨bk (.sx t),o,none⟩) n cap∧aM w Pr cs vs∧One vs∧cs.length=n* sz∧w.rangeAt (bk (.sx t)) o vs∧Room w Pr (bk (.sx t)) o n cap sz∧∀o',¬Pr (bk (.sx t)) o'
 | .xr u,v=>a.tmps[u]? =some v∧dS st u
 | .xe u off,v=>(∃b o n cap,a.tmps[u]? =some (.slice (some ⟨b,o,none⟩) n cap)∧v= .pointer (some ⟨b,o+off,none⟩))∧dS st u
 | .bV _ _,_=>False
 | .dead,_=>True
 | .bs k off sz n,v=>gH st w bk k off sz n v
 | .mv f k off sz n,v=>∃u,v= .func (.func f) #[u] #[]∧gH st w bk k off sz n u
 | .tg k off sz n rest,v=>∃u us,v= .tuple (u::us).toArray∧gH st w bk k off sz n u∧aM w Pr rest us
def cN (a:Act) (w:World) (bk:Key→Nat):Pl→Option Value
 | .s t=>a.tmps[t]?
 | .c k o=>w.cell? ⟨bk (.bx k),o,none⟩
def Mark (base:Nat) (w:World) (d:Deferred):Prop:=∃D,d={ target:= .collected D,args:= #[]}∧w.heap[D]? =some (.deferred (some []))∧base≤D
structure Inv (base:Nat) (w:World) (Pr:aC) (bk:Key→Nat) (st:St) (a:Act) (N:Nat):Prop where
 size:a.tmps.size=N
 defers:(∀d∈a.defers,Mark base w d)∧a.defers.Nodup
 hb:base≤w.heap.size
 bH:∀b o,Pr b o→b<w.heap.size
 slots:∀t av,look st.sl t=some av→∃v,a.tmps[t]? =some v∧dD st a w Pr bk t av v
 own:∀x,live st x→base≤bk x∧bk x<w.heap.size
 inj:∀x y,live st x→live st y→bk x=bk y→x=y
 boxes:∀k cs,look st.bx k=some cs→(∃T c vs,w.heap[bk (.bx k)]? =some (.cells c T (0,0))∧vs<+:c.toList∧aM w Pr cs vs∧One vs)∧∀o,¬Pr (bk (.bx k)) o
 gE:∀t z,aG st.gr (.s t)=some z→∃o n cap cs,look st.sl t=some (.pv (.sl z n cs))∧a.tmps[t]? =some (.slice (some ⟨bk (.sx t),o,none⟩) n cap)∧Room w Pr (bk (.sx t)) o n cap z∧o=0
 ig:∀k i z,aG st.gr (.c k i)=some z→∃o n cap cs dc,look st.bx k=some dc∧dc[i]? =some (.sl z n cs)∧w.cell? ⟨bk (.bx k),i,none⟩=some (.slice (some ⟨bk (.cx k i),o,none⟩) n cap)∧Room w Pr (bk (.cx k i)) o n cap z∧o=0
 tags:∀t q,look st.tg t=some (some q)→tM st q→cN a w bk q=a.tmps[t]?
structure Fw (w:World) (Pr:aC) (w':World) (aD:aC):Prop where
 gB:Below w.heap.size w w'
 pr:∀b o,Pr b o→aD b o
 old:∀b o,b<w.heap.size→aD b o→Pr b o
 new:∀b o,aD b o→b<w'.heap.size
theorem Fw.heap {w w':World} {Pr aD:aC} (x:Fw w Pr w' aD) {b:Nat} (h:b<w.heap.size):w'.heap[b]? =w.heap[b]? :=x.gB.block b h
theorem Fw.kp {w w':World} {Pr aD:aC} (x:Fw w Pr w' aD) (hp:∀b o,Pr b o→b<w.heap.size):Kp w Pr w' aD:=
 ⟨x.pr,fun b o h=>x.gB.cell (p:=⟨b,o,none⟩) (hp b o h)⟩
theorem Fw.refl {w:World} {Pr:aC} (hp:∀b o,Pr b o→b<w.heap.size):Fw w Pr w Pr:=⟨Below.refl _ _,fun _ _ h=>h,fun _ _ _ h=>h,hp⟩
theorem Fw.trans {w w1 w2:World} {Pr lJ kV:aC} (x:Fw w Pr w1 lJ) (y:Fw w1 lJ w2 kV):Fw w Pr w2 kV:=
 ⟨x.gB.trans (y.gB.mono x.gB.size),fun b o h=>y.pr b o (x.pr b o h),fun b o hb h=>x.old b o hb (y.old b o (Nat.lt_of_lt_of_le hb x.gB.size) h),y.new⟩
structure KO (w w':World):Prop extends KeepsOthers w w' where
 sized:∀(k:Nat) (c:Array Value) (T:TypeId) (fz:Nat×Nat),w.heap[k]? =some (.cells c T fz)→∃c',w'.heap[k]? =some (.cells c' T fz)∧c'.size=c.size
theorem KO.refl (w:World):KO w w:=⟨KeepsOthers.refl w,fun k c T fz h=>⟨c,h,rfl⟩⟩
theorem KO.trans {a b c:World} (h:KO a b) (k:KO b c):KO a c:=⟨h.toKeepsOthers.trans k.toKeepsOthers,fun i x T fz e=>by
 obtain ⟨y,e1,e2⟩:=h.sized i x T fz e
 obtain ⟨z,e3,e4⟩:=k.sized i y T fz e1
 exact ⟨z,e3,e4.trans e2⟩⟩
theorem KO.from {w w':World} (h:KO w w') (B:Nat):KeepsFrom B w w':=h.toKeepsOthers.from B
theorem Fw.ko {w w':World} {Pr aD:aC} (x:Fw w Pr w' aD):KO w w':=
 ⟨⟨x.gB.size,fun k o h _=>(x.heap (Array.getElem?_eq_some_iff.1 h).1).trans h⟩,fun k c T fz h=>⟨c,(x.heap (Array.getElem?_eq_some_iff.1 h).1).trans h,rfl⟩⟩
theorem Room.fw {w w':World} {Pr aD:aC} (x:Fw w Pr w' aD) {b o n cap sz:Nat} (h:Room w Pr b o n cap sz) (hb:b<w.heap.size):Room w' aD b o n cap sz:=
 ⟨h.hz,h.le,by obtain ⟨c,T,h1,h2⟩:=h.there;exact ⟨c,T,(x.heap hb).trans h1,h2⟩,fun o' ho=>h.pr o' (x.old b o' hb ho)⟩
theorem iO {w w':World} {b o:Nat} {vs:List Value} (h:w'.heap[b]? =w.heap[b]?) (hc:w.rangeAt b o vs):w'.rangeAt b o vs:=fun j v hj=>by
 have:=hc j v hj;rw [←this];exact World.cell?_of_block (w:=w) h
section
variable {base:Nat} {w w':World} {Pr aD:aC} {bk:Key→Nat} {st:St} {a:Act} {N:Nat}
theorem gJ.mono (k:Kp w Pr w' aD) {c:Cap} {v:Value} (h:gJ w Pr bk c v):gJ w' aD bk c v:=by
 cases c with
 |pv p=>exact Rp.mono k h
 |bp k off=>exact h
theorem dD.fw (I:Inv base w Pr bk st a N) (x:Fw w Pr w' aD) {t:Nat} {av:AV} {v:Value} (ht:look st.sl t=some av) (h:dD st a w Pr bk t av v):dD st a w' aD bk t av v:=by
 have k:=x.kp I.bH
 cases av with
 |pv p=>exact Rp.mono k h
 |bp k off=>exact h
 |cl f caps=>obtain ⟨vs,h1,h2,h3⟩:=h;exact ⟨vs,h1,h2,fun i c u hc hu=>gJ.mono k (h3 i c u hc hu)⟩
 |ex sz n cs=>
  obtain ⟨o,cap,vs,h1,h2,h3,h4,h5,h6,h7⟩:=h
  have hb:=(I.own (.sx t) (.inl ⟨sz,n,cs,ht⟩)).2
  exact ⟨o,cap,vs,h1,aM.mono k h2,h3,h4,iO (x.heap hb) h5,h6.fw x hb,fun o' ho=>h7 o' (x.old _ _ hb ho)⟩
 |xr u=>exact h
 |xe u off=>exact h
 |bV _ _=>exact h
 |dead=>exact h
 |bs k off sz n=>exact h.world fun c T e=>⟨c,(x.heap (Array.getElem?_eq_some_iff.1 e).1).trans e,rfl⟩
 |mv f k off sz n=>obtain ⟨u,h1,h2⟩:=h;exact ⟨u,h1,h2.world fun c T e=>⟨c,(x.heap (Array.getElem?_eq_some_iff.1 e).1).trans e,rfl⟩⟩
 |tg k2 off sz n rest=>obtain ⟨u,us,h1,h2,h3⟩:=h;exact ⟨u,us,h1,h2.world fun c T e=>⟨c,(x.heap (Array.getElem?_eq_some_iff.1 e).1).trans e,rfl⟩,aM.mono k h3⟩
theorem Inv.fw (I:Inv base w Pr bk st a N) (x:Fw w Pr w' aD):Inv base w' aD bk st a N where
 size:=I.size
 defers:=⟨fun d hd=>by
  obtain ⟨D,h1,h2,h3⟩:=I.defers.1 d hd
  exact ⟨D,h1,(x.heap (Array.getElem?_eq_some_iff.1 h2).1).trans h2,h3⟩,I.defers.2⟩
 hb:=Nat.le_trans I.hb x.gB.size
 bH:=x.new
 slots t av ht:=by obtain ⟨v,h1,h2⟩:=I.slots t av ht;exact ⟨v,h1,dD.fw I x ht h2⟩
 own y hy:=⟨(I.own y hy).1,Nat.lt_of_lt_of_le (I.own y hy).2 x.gB.size⟩
 inj:=I.inj
 boxes k cs hk:=by
  obtain ⟨⟨T,c,vs,h1,h0,h2,h3⟩,h4⟩:=I.boxes k cs hk
  have hb:=(I.own (.bx k) ⟨cs,hk⟩).2
  exact ⟨⟨T,c,vs,(x.heap hb).trans h1,h0,aM.mono (x.kp I.bH) h2,h3⟩,fun o ho=>h4 o (x.old _ _ hb ho)⟩
 gE t z h:=by
  obtain ⟨o,n,cap,cs,h1,h2,h3,h0⟩:=I.gE t z h
  exact ⟨o,n,cap,cs,h1,h2,h3.fw x (I.own (.sx t) (.inr ⟨z,h⟩)).2,h0⟩
 ig k i z h:=by
  obtain ⟨o,n,cap,cs,dc,h1,h2,h3,h4,h0⟩:=I.ig k i z h
  exact ⟨o,n,cap,cs,dc,h1,h2,(x.gB.cell (p:=⟨_,_,none⟩) (I.own (.bx k) ⟨dc,h1⟩).2).trans h3,h4.fw x (I.own (.cx k i) ⟨z,h⟩).2,h0⟩
 tags t q h hg:=by
  have:=I.tags t q h hg
  cases q with
  |s u=>exact this
  |c k o=>
   obtain ⟨z,hz⟩:=hg
   obtain ⟨_,_,_,_,dc,h1,_⟩:=I.ig k o z hz
   exact (x.gB.cell (p:=⟨_,_,none⟩) (I.own (.bx k) ⟨dc,h1⟩).2).trans this
end
theorem bC {α:Type}:∀(l:List (Nat×α)) (d t:Nat),look (bF l d) t=if t=d then none else look l t
 |[],d,t=>by simp [bF,look]
 |(k,v)::l,d,t=>by
  simp only [bF]
  have ih:=bC l d t
  by_cases h:k=d
  · rw [if_pos h,ih];subst h
    by_cases ht:t=k
    · simp [ht]
    · simp [ht,look,Ne.symm ht]
  · rw [if_neg h];simp only [look]
    by_cases hk:k=t
    · subst hk;simp [h]
    · rw [if_neg hk,ih,if_neg hk]
theorem bQ {α β:Type} (f:Nat×α→Nat×β) (g:Nat→α→β) (hf:∀x,f x=(x.1,g x.1 x.2)):∀(l:List (Nat×α)) (t:Nat),look (l.map f) t=(look l t).map (g t)
 |[],t=>rfl
 |(k,v)::l,t=>by
  simp only [List.map_cons,hf,look]
  by_cases h:k=t
  · subst h;simp
  · rw [if_neg h,if_neg h];exact bQ f g hf l t
theorem dY (p:Pl→Bool):∀(l:List (Pl×Nat)) (t:Pl),aG (l.filter (fun x=>p x.1)) t=if p t then aG l t else none
 |[],t=>by simp [aG]
 |(k,v)::l,t=>by
  have ih:=dY p l t
  simp only [List.filter_cons]
  by_cases hk:p k=true
  · simp only [hk,if_true,aG]
    by_cases h:k=t
    · subst h;simp [hk]
    · rw [if_neg h,if_neg h];exact ih
  · simp only [hk,Bool.false_eq_true,if_false,ih,aG]
    by_cases h:k=t
    · subst h;simp [hk]
    · rw [if_neg h]
theorem jm {α:Type} (p:Nat→Bool):∀(l:List (Nat×α)) (t:Nat),look (l.filter (fun x=>p x.1)) t=if p t then look l t else none
 |[],t=>by simp [look]
 |(k,v)::l,t=>by
  have ih:=jm p l t
  simp only [List.filter_cons]
  by_cases hk:p k=true
  · simp only [hk,if_true,look]
    by_cases h:k=t
    · subst h;simp [hk]
    · rw [if_neg h,if_neg h];exact ih
  · simp only [hk,Bool.false_eq_true,if_false,ih,look]
    by_cases h:k=t
    · subst h;simp [hk]
    · rw [if_neg h]
theorem jD (st:St) (d:Nat) (v:AV) (t:Nat):look (st.put (some d) v).sl t=(if t=d then some v else look st.sl t).map fun av=>if bn d av then .dead else av:=by
 simp only [St.put,look,dA]
 by_cases h:d=t
 · simp [h]
 · rw [if_neg h,if_neg (Ne.symm h),bQ (dA d) (fun _ av=>if bn d av then .dead else av) (fun _=>rfl),bC,if_neg (Ne.symm h)]
theorem xE (st:St) (d:Nat) (v:AV) (p:Pl):aG (st.put (some d) v).gr p=if p= .s d then none else aG st.gr p:=by
 simp only [St.put]
 have:=dY (fun q=>decide (q≠Pl.s d)) st.gr p
 simp only [ne_eq,decide_not,Bool.not_eq_eq_eq_not,Bool.not_true,decide_eq_false_iff_not,ite_not] at this ⊢
 exact this
theorem xF (st:St) (d:Nat) (v:AV) (t:Nat):look (st.put (some d) v).tg t=if t=d then none else (look st.tg t).map fun q=>if q=some (.s d) then none else q:=by
 simp only [St.put]
 rw [bQ (fL (.s d)) (fun _ q=>if q=some (.s d) then none else q) (fun _=>rfl),bC]
 by_cases h:t=d
 · simp [h]
 · simp [h]
end Go.Proofs.YtibbgjafjhcemaaGreatDoor.Cul
namespace Go.Proofs.YtibbgjafjhcemaaGreatDoor.Cul
open Go Go.RowKit
theorem ck {a:Act} {d:Nat} {v:Value} (h:d<a.tmps.size) (t:Nat):(a.put (some d) v).tmps[t]? =if t=d then some v else a.tmps[t]? :=by
 simp only [Act.put]
 by_cases e:t=d
 · subst e;simp [Array.getElem?_setIfInBounds_self_of_lt,h]
 · rw [if_neg e,Array.getElem?_setIfInBounds_ne (Ne.symm e)]
structure dn (base:Nat) (w:World) (Pr:aC) (bk:Key→Nat) (st:St) (a:Act) (m:Made) (v:Value):Prop where
 val:(∀sz n cs,m.v≠ .ex sz n cs)→∀t,dD st a w Pr bk t m.v v
 ex:∀sz n cs,m.v= .ex sz n cs→m.gr=none∧∃(b o cap:Nat) (vs:List Value),v= .slice (some ⟨b,o,none⟩) n cap∧aM w Pr cs vs∧One vs∧cs.length=n* sz∧w.rangeAt b o vs∧Room w Pr b o n cap sz∧
  (∀o',¬Pr b o')∧base≤b∧b<w.heap.size∧∀x,live st x→bk x≠b
 gr:∀z,m.gr=some z→∃b o n cap cs,m.v= .pv (.sl z n cs)∧v= .slice (some ⟨b,o,none⟩) n cap∧Room w Pr b o n cap z∧o=0∧base≤b∧b<w.heap.size∧∀x,live st x→bk x≠b
 tg:∀q,m.tg=some q→tM st q→cN a w bk q=some v
section
variable {base:Nat} {w:World} {Pr:aC} {bk:Key→Nat} {st:St} {a:Act} {N d:Nat} {m:Made} {v:Value}
theorem jM (st:St) (d:Nat) (m:Made) (t:Nat):look (st.made (some d) m).sl t=(if t=d then some m.v else look st.sl t).map fun av=>if bn d av then .dead else av:=jD st d m.v t
theorem fM (st:St) (d:Nat) (m:Made) (p:Pl):aG (st.made (some d) m).gr p=if p= .s d then m.gr else aG st.gr p:=by
 have h:=xE st d m.v p
 cases e:m.gr with
 |none=>simp only [St.made,e];rw [h]
 |some z=>
  simp only [St.made,e,aG]
  by_cases hp:p= .s d
  · subst hp;simp
  · rw [if_neg (Ne.symm hp),h,if_neg hp,if_neg hp]
theorem uZ (st:St) (d:Nat) (m:Made) (t:Nat):look (st.made (some d) m).tg t=if t=d then m.tg.map some else (look st.tg t).map fun q=>if q=some (.s d) then none else q:=by
 have h:=xF st d m.v t
 cases e:m.tg with
 |none=>simp only [St.made,e];rw [h];simp
 |some p=>
  simp only [St.made,e,look]
  by_cases hp:t=d
  · subst hp;simp
  · rw [if_neg (Ne.symm hp),h,if_neg hp,if_neg hp]
theorem dD.put (hN:d<a.tmps.size) {st':St} {aN:Key→Nat} {u:Value} (hb:∀k,aN (.bx k)=bk (.bx k)) {t:Nat} (hs:aN (.sx t)=bk (.sx t))
  (hex:∀x,x≠d→dS st x→dS st' x) (jY:∀k cs,look st.bx k=some cs→∃cs',look st'.bx k=some cs'∧cs'.length=cs.length) {av:AV} (hr:bn d av=false) (h:dD st a w Pr bk t av v):dD st' (a.put (some d) u) w Pr aN t av v:=by
 cases av with
 |pv p=>exact h
 |bp k off=>simp only [dD] at h ⊢;rw [hb];exact h
 |cl f caps=>
  obtain ⟨vs,h1,h2,h3⟩:=h
  refine ⟨vs,h1,h2,fun i c x hc hx=> ?_⟩
  have:=h3 i c x hc hx
  cases c with
  |pv p=>exact this
  |bp k off=>simp only [gJ] at this ⊢;rw [hb];exact this
 |ex sz n cs=>simp only [dD] at h ⊢;rw [hs];exact h
 |xr x=>
  have hx:x≠d:=by intro e;simp [bn,e] at hr
  exact ⟨by rw [ck hN,if_neg hx];exact h.1,hex x hx h.2⟩
 |xe x off=>
  have hx:x≠d:=by intro e;simp [bn,e] at hr
  obtain ⟨⟨b,o,n,cap,h1,h2⟩,h3⟩:=h
  exact ⟨⟨b,o,n,cap,by rw [ck hN,if_neg hx];exact h1,h2⟩,hex x hx h3⟩
 |bV _ _=>exact h
 |dead=>trivial
 |bs k off sz n=>exact h.frame (hb k) (jY k)
 |mv f k off sz n=>obtain ⟨u,h1,h2⟩:=h;exact ⟨u,h1,h2.frame (hb k) (jY k)⟩
 |tg k off sz n rest=>obtain ⟨u,us,h1,h2,h3⟩:=h;exact ⟨u,us,h1,h2.frame (hb k) (jY k),h3⟩
theorem Inv.made (I:Inv base w Pr bk st a N) (hd:d<N) (h:dn base w Pr bk st a m v):
  ∃aN,Inv base w Pr aN (st.made (some d) m) (a.put (some d) v) N∧∀x,x≠ .sx d→aN x=bk x:=by
 have hN:d<a.tmps.size:=by rw [I.size];exact hd
 obtain ⟨b0,hb0,fk⟩:∃b0:Nat,(∀z,m.gr=some z→∃o n cap cs,m.v= .pv (.sl z n cs)∧v= .slice (some ⟨b0,o,none⟩) n cap∧Room w Pr b0 o n cap z∧o=0∧base≤b0∧b0<w.heap.size∧∀x,live st x→bk x≠b0)∧
   (∀sz n cs,m.v= .ex sz n cs→m.gr=none∧∃(o cap:Nat) (vs:List Value),v= .slice (some ⟨b0,o,none⟩) n cap∧aM w Pr cs vs∧One vs∧cs.length=n* sz∧w.rangeAt b0 o vs∧Room w Pr b0 o n cap sz∧
    (∀o',¬Pr b0 o')∧base≤b0∧b0<w.heap.size∧∀x,live st x→bk x≠b0):=by
  by_cases hx:∃sz n cs,m.v= .ex sz n cs
  · obtain ⟨sz,n,cs,hx⟩:=hx
    obtain ⟨h0,b,o,cap,vs,h1⟩:=h.ex sz n cs hx
    refine ⟨b,fun z hz=>by rw [h0] at hz;simp at hz,fun sz' n' cs' hx'=> ?_⟩
    rw [hx] at hx';cases hx'
    exact ⟨h0,o,cap,vs,h1⟩
  · cases e:m.gr with
    |none=>exact ⟨0,fun z hz=>by simp at hz,fun sz n cs hx'=>absurd ⟨sz,n,cs,hx'⟩ hx⟩
    |some z=>
     obtain ⟨b,o,n,cap,cs,h1⟩:=h.gr z e
     exact ⟨b,fun z' hz=>by cases hz;exact ⟨o,n,cap,cs,h1⟩,fun sz n cs hx'=>absurd ⟨sz,n,cs,hx'⟩ hx⟩
 have LR:(∃z,m.gr=some z)∨(∃sz n cs,m.v= .ex sz n cs)→base≤b0∧b0<w.heap.size∧∀x,live st x→bk x≠b0:=by
  rintro (⟨z,hz⟩|⟨sz,n,cs,hx⟩)
  · obtain ⟨_,_,_,_,_,_,_,_,h1⟩:=hb0 z hz;exact h1
  · obtain ⟨_,_,_,_,_,_,_,_,_,_,_,h1⟩:=fk sz n cs hx;exact h1
 obtain ⟨aN,fm,hk2⟩:∃aN:Key→Nat,(∀x,x≠ .sx d→aN x=bk x)∧aN (.sx d)=b0:=⟨fun x=>if x= .sx d then b0 else bk x,fun x hx=>if_neg hx,if_pos rfl⟩
 have de:∀k,aN (.bx k)=bk (.bx k):=fun k=>fm _ (by simp)
 have BO:∀k o,aN (.cx k o)=bk (.cx k o):=fun k o=>fm _ (by simp)
 have qA:∀t,t≠d→aN (.sx t)=bk (.sx t):=fun t ht=>fm _ (by simpa using ht)
 have hl:∀t av,look (st.made (some d) m).sl t=some av→av= .dead∨(bn d av=false∧((t=d∧av=m.v)∨(t≠d∧look st.sl t=some av))):=by
  intro t av ht
  rw [jM] at ht
  by_cases e:t=d
  · rw [if_pos e] at ht;simp only [Option.map_some,Option.some.injEq] at ht
    split at ht
    · exact .inl ht.symm
    · rename_i hr;exact .inr ⟨by rw [←ht];simpa using hr, .inl ⟨e,ht.symm⟩⟩
  · rw [if_neg e] at ht
    cases hq:look st.sl t with
    |none=>simp [hq] at ht
    |some x=>
     simp only [hq,Option.map_some,Option.some.injEq] at ht
     split at ht
     · exact .inl ht.symm
     · rename_i hr;exact .inr ⟨by rw [←ht];simpa using hr, .inr ⟨e,by rw [ht]⟩⟩
 have hex:∀x,x≠d→dS st x→dS (st.made (some d) m) x:=fun x hx ⟨sz,n,cs,hl⟩=>⟨sz,n,cs,by rw [jM,if_neg hx,hl];rfl⟩
 have bS:∀x,live (st.made (some d) m) x→(x≠ .sx d∧live st x)∨(x= .sx d∧((∃z,m.gr=some z)∨(∃sz n cs,m.v= .ex sz n cs))):=by
  intro x hx
  cases x with
  |bx k=>exact .inl ⟨by simp,hx⟩
  |sx t=>
   rcases hx with ⟨sz,n,cs,hq⟩|⟨z,hz⟩
   · rcases hl t _ hq with hq|⟨_,⟨e,hq⟩|⟨e,hq⟩⟩
     · simp at hq
     · exact .inr ⟨by rw [e], .inr ⟨sz,n,cs,hq.symm⟩⟩
     · exact .inl ⟨by simpa using e, .inl ⟨sz,n,cs,hq⟩⟩
   · rw [fM] at hz
     by_cases e:t=d
     · subst e;rw [if_pos rfl] at hz;exact .inr ⟨rfl, .inl ⟨z,hz⟩⟩
     · rw [if_neg (by simpa using e)] at hz;exact .inl ⟨by simpa using e, .inr ⟨z,hz⟩⟩
  |cx k o=>
   obtain ⟨z,hz⟩:=hx
   rw [fM,if_neg (by simp)] at hz
   exact .inl ⟨by simp,z,hz⟩
 refine ⟨aN, ?_,fm⟩
 constructor
 · simp [Act.put,I.size]
 · exact I.defers
 · exact I.hb
 · exact I.bH
 ·
  intro t av ht
  rcases hl t av ht with rfl|⟨hr,⟨e,rfl⟩|⟨e,hq⟩⟩
  · by_cases e:t=d
    · exact ⟨v,by rw [ck hN,if_pos e],trivial⟩
    · cases hq:look st.sl t with
      |none=>rw [jM,if_neg e,hq] at ht;simp at ht
      |some x=>obtain ⟨u,hu,_⟩:=I.slots t x hq;exact ⟨u,by rw [ck hN,if_neg e];exact hu,trivial⟩
  · subst e
    refine ⟨v,by rw [ck hN,if_pos rfl], ?_⟩
    by_cases hx:∃sz n cs,m.v= .ex sz n cs
    · obtain ⟨sz,n,cs,hx⟩:=hx
      obtain ⟨_,o,cap,vs,h1,h2,h3,h4,h5,h6,h7,_⟩:=fk sz n cs hx
      rw [hx];simp only [dD]
      exact ⟨o,cap,vs,by rw [hk2];exact h1,h2,h3,h4,by rw [hk2];exact h5,by rw [hk2];exact h6,by rw [hk2];exact h7⟩
    · have hv:=h.val (fun sz n cs e=>hx ⟨sz,n,cs,e⟩) (t+1)
      have:=dD.put (u:=v) (st':=st.made (some t) m) (aN:=aN) hN de (qA (t+1) (by omega)) hex (fun k cs e=>⟨cs,e,rfl⟩) hr hv
      cases hm:m.v with
      |ex sz n cs=>exact absurd ⟨sz,n,cs,hm⟩ hx
      |_=>rw [hm] at this;exact this
  · obtain ⟨u,hu,hv⟩:=I.slots t av hq
    exact ⟨u,by rw [ck hN,if_neg e];exact hu,dD.put hN de (qA t e) hex (fun k cs e=>⟨cs,e,rfl⟩) hr hv⟩
 ·
  intro x hx
  rcases bS x hx with ⟨e,hx⟩|⟨rfl,hz⟩
  · rw [fm x e];exact I.own x hx
  · obtain ⟨h4,h5,_⟩:=LR hz
    rw [hk2];exact ⟨h4,h5⟩
 ·
  intro x y hx hy he
  rcases bS x hx with ⟨e,hx⟩|⟨rfl,hz⟩
  · rcases bS y hy with ⟨e',hy⟩|⟨rfl,dP⟩
    · rw [fm x e,fm y e'] at he;exact I.inj x y hx hy he
    · obtain ⟨_,_,h6⟩:=LR dP
      rw [fm x e,hk2] at he;exact absurd he (h6 x hx)
  · rcases bS y hy with ⟨e',hy⟩|⟨rfl,dP⟩
    · obtain ⟨_,_,h6⟩:=LR hz
      rw [hk2,fm y e'] at he;exact absurd he.symm (h6 y hy)
    · rfl
 ·
  intro k cs hk
  rw [de];exact I.boxes k cs hk
 ·
  intro t z hz
  rw [fM] at hz
  by_cases e:t=d
  · subst e;rw [if_pos rfl] at hz
    obtain ⟨o,n,cap,cs,h1,h2,h3,h0,_⟩:=hb0 z hz
    exact ⟨o,n,cap,cs,by rw [jM,if_pos rfl,h1];rfl,by rw [ck hN,if_pos rfl,hk2,h2],by rw [hk2];exact h3,h0⟩
  · rw [if_neg (by simpa using e)] at hz
    obtain ⟨o,n,cap,cs,h1,h2,h3,h0⟩:=I.gE t z hz
    exact ⟨o,n,cap,cs,by rw [jM,if_neg e,h1];rfl,by rw [ck hN,if_neg e,qA t e];exact h2,by rw [qA t e];exact h3,h0⟩
 ·
  intro k i z hz
  rw [fM,if_neg (by simp)] at hz
  obtain ⟨o,n,cap,cs,dc,h1,h2,h3,h4,h0⟩:=I.ig k i z hz
  exact ⟨o,n,cap,cs,dc,h1,h2,by rw [de,BO];exact h3,by rw [BO];exact h4,h0⟩
 ·
  intro t q ht hq
  rw [uZ] at ht
  by_cases e:t=d
  · subst e
    rw [if_pos rfl] at ht
    cases hm:m.tg with
    |none=>simp [hm] at ht
    |some p=>
     simp only [hm,Option.map_some,Option.some.injEq] at ht;subst ht
     rw [ck hN,if_pos rfl]
     by_cases hp:p= .s t
     · subst hp;simp [cN,ck hN]
     · obtain ⟨z,hz⟩:=hq
       rw [fM,if_neg hp] at hz
       have:=h.tg p hm ⟨z,hz⟩
       cases p with
       |s u=>simp only [cN] at this ⊢;rw [ck hN,if_neg (by simpa using hp)];exact this
       |c k o=>simp only [cN] at this ⊢;rw [de];exact this
  · rw [if_neg e] at ht
    cases hm:look st.tg t with
    |none=>simp [hm] at ht
    |some p=>
     simp only [hm,Option.map_some,Option.some.injEq] at ht
     split at ht
     · simp at ht
     · rename_i hp
       subst ht
       have hp':q≠ .s d:=fun e=>hp (by rw [e])
       obtain ⟨z,hz⟩:=hq
       rw [fM,if_neg hp'] at hz
       have:=I.tags t q hm ⟨z,hz⟩
       rw [ck hN,if_neg e,←this]
       cases q with
       |s u=>simp only [cN];rw [ck hN,if_neg (by simpa using hp')]
       |c k o=>simp only [cN];rw [de]
end
end Go.Proofs.YtibbgjafjhcemaaGreatDoor.Cul
namespace Go.Proofs.YtibbgjafjhcemaaGreatDoor.Cul
open Go Go.RowKit
structure CD (w:World) (Pr:aC) (w':World) (aD:aC) (r:RV) (v:Value):Prop where
 fw:Fw w Pr w' aD
 rp:Rp w' aD r.v v
 gr:∀z,r.gr=some z→∃b o n cap cs,r.v= .sl z n cs∧v= .slice (some ⟨b,o,none⟩) n cap∧Room w' aD b o n cap z∧o=0∧w.heap.size≤b∧b<w'.heap.size
def ov (P:Program) (f:Nat):Prop:=∃fn c,P.funcs[f]? =some fn∧fn.body=some c∧(fn.name== "runtime.NumGoroutine")=false
def az (P:Program) (f:Nat) (args:List PV) (r:RV):Prop:=
 ov P f∧∀(vs:List Value) (w:World) (Pr:aC),(∀b o,Pr b o→b<w.heap.size)→aM w Pr args vs→
  Calls P f vs.toArray w (fun e w'=>∃v aD,e= .returned v∧CD w Pr w' aD r v)
structure CB (w:World) (Pr:aC) (b:Nat) (T:TypeId) (c:Array Value) (cs:List PV):Prop where
 qy:w.heap[b]? =some (.cells c T (0,0))
 pre:∃us,us<+:c.toList∧aM w Pr cs us∧One us
 free:∀o,¬Pr b o
def Br (b size:Nat) (cs:List PV) (off sz n:Nat) (v:Value):Prop:=∃o cap,v= .slice (some ⟨b,o,none⟩) n cap∧(o=off∨(n=0∧0<off))∧off+n* sz≤cs.length∧0<sz∧n≤cap∧o+cap* sz≤size
inductive mD (w:World) (Pr:aC) (b size:Nat) (lK:List PV) (jk:Nat):List MA→List Value→Prop
 |nil:mD w Pr b size lK jk [] []
 |p {p:PV} {v:Value} {ms:List MA} {vs:List Value} (h:Rp w Pr p v) (hs:mD w Pr b size lK jk ms vs):mD w Pr b size lK jk (.p p::ms) (v::vs)
 |g {off n:Nat} {v:Value} {ms:List MA} {vs:List Value} (h:Br b size lK off jk n v) (hs:mD w Pr b size lK jk ms vs):mD w Pr b size lK jk (.g lK off jk n::ms) (v::vs)
def K5 (w:World) (Pr:aC) (b size:Nat) (cs:List PV) (sz:Nat):MR→Value→Prop
 | .pv p,v=>Rp w Pr p v
 | .gs off n,v=>Br b size cs off sz n v
 | .gt off n rest,v=>∃u us,v= .tuple (u::us).toArray∧Br b size cs off sz n u∧aM w Pr rest us
structure K4 (w:World) (Pr:aC) (w':World) (b:Nat) (T:TypeId) (c:Array Value) (sz:Nat) (cs:List PV) (r:MR) (cs':List PV) (v:Value):Prop where
 os:w'.os=w.os
 tape:w'.tape=w.tape
 output:w'.output=w.output
 size:w.heap.size≤w'.heap.size
 other:∀k,k<w.heap.size→k≠b→w'.heap[k]? =w.heap[k]?
 Oc:∃c',CB w' Pr b T c' cs'∧c'.size=c.size
 len:cs'.length=cs.length
 res:K5 w' Pr b c.size cs' sz r v
def iV (P:Program) (f:Nat) (ms:List MA) (r:MR) (cs':List PV):Prop:=
 ov P f∧∀(cs:List PV) (sz:Nat) (vs:List Value) (w:World) (Pr:aC) (b:Nat) (T:TypeId) (c:Array Value),di ms=some cs→(∀b o,Pr b o→b<w.heap.size)→CB w Pr b T c cs→mD w Pr b c.size cs sz ms vs→
  Calls P f vs.toArray w (fun e w'=>∃v,e= .returned v∧K4 w Pr w' b T c sz cs r cs' v)
structure aH (P:Program) (call:Cl):Prop where
 fn:∀f args r,call.fn f args=some r→az P f args r
 mu:∀f ms r cs',call.mu f ms=some (r,cs')→iV P f ms r cs'
section
variable {P:Program} {base:Nat} {w:World} {Pr:aC} {bk:Key→Nat} {st:St} {a:Act} {N:Nat}
theorem gL {t:Nat} {v:Value} (h:a.tmps[t]? =some v):a.eval (.tmp t)=v:=by simp [Act.eval,h]
theorem eI (I:Inv base w Pr bk st a N) {x:Operand} {av:AV} (h:st.ev x=some av):∃t,dD st a w Pr bk t av (a.eval x):=by
 cases x with
 |tmp t=>obtain ⟨v,h1,h2⟩:=I.slots t av h;exact ⟨t,by rw [gL h1];exact h2⟩
 |const v=>
  simp only [St.ev,Option.map_eq_some_iff] at h
  obtain ⟨p,hp,rfl⟩:=h
  exact ⟨0,sA hp⟩
 |func f=>simp only [St.ev,Option.some.injEq] at h;subst h;exact ⟨0,Rp.fn .nil⟩
 |global g=>simp [St.ev] at h
theorem eH (I:Inv base w Pr bk st a N) {x:Operand} {p:PV} (h:st.ev x=some (.pv p)):Rp w Pr p (a.eval x):=by obtain ⟨t,h1⟩:=eI I h;exact h1
theorem yy {x:Operand} {p:PV} (h:st.pv x=some p):st.ev x=some (.pv p):=by
 unfold St.pv at h;split at h
 · simp at h;subst h;assumption
 · simp at h
theorem iw (I:Inv base w Pr bk st a N) {x:Operand} {p:PV} (h:st.pv x=some p):Rp w Pr p (a.eval x):=eH I (yy h)
theorem fB (I:Inv base w Pr bk st a N) {x:Operand} {v:Value} (h:st.val x=some v):a.eval x=v:=by
 simp only [St.val,Option.bind_eq_some_iff] at h
 obtain ⟨p,h1,h2⟩:=h
 exact qu h2 (iw I h1)
theorem r4 (I:Inv base w Pr bk st a N) {x:Operand} {k off:Nat} (h:st.ev x=some (.bp k off)):a.eval x= .pointer (some ⟨bk (.bx k),off,none⟩):=by obtain ⟨t,h1⟩:=eI I h;exact h1
theorem yp (I:Inv base w Pr bk st a N) {x:Operand} {k off sz n:Nat} (h:st.ev x=some (.bs k off sz n)):gH st w bk k off sz n (a.eval x):=by obtain ⟨t,h1⟩:=eI I h;exact h1
theorem N9 (I:Inv base w Pr bk st a N) {x:Operand} {f k off sz n:Nat} (h:st.ev x=some (.mv f k off sz n)):∃u,a.eval x= .func (.func f) #[u] #[]∧gH st w bk k off sz n u:=by obtain ⟨t,h1⟩:=eI I h;exact h1
theorem Oa (I:Inv base w Pr bk st a N) {x:Operand} {k off sz n:Nat} {rest:List PV} (h:st.ev x=some (.tg k off sz n rest)):∃u us,a.eval x= .tuple (u::us).toArray∧gH st w bk k off sz n u∧aM w Pr rest us:=by obtain ⟨t,h1⟩:=eI I h;exact h1
theorem iQ {b:Nat} {c:Array Value} {T:TypeId} {vs:List Value} (h:w.heap[b]? =some (.cells c T (0,0))) (hp:vs<+:c.toList):w.rangeAt b 0 vs:=fun j v hj=>by
 rw [cell_of_row _ _ _ _ _ _ h,Nat.zero_add]
 obtain ⟨t,ht⟩:=hp
 have hlt:j<vs.length:=(List.getElem?_eq_some_iff.1 hj).1
 rw [←Array.getElem?_toList,←ht,List.getElem?_append_left hlt,hj]
theorem IQ (I:Inv base w Pr bk st a N) {x:Operand} {u:Nat} (h:st.ev x=some (.xr u)):a.tmps[u]? =some (a.eval x)∧dS st u:=by obtain ⟨t,h1⟩:=eI I h;exact h1
theorem int_eq (I:Inv base w Pr bk st a N) {x:Operand} {n:Int} (h:(st.pv x).bind cg=some n):∃k,a.eval x= .int k n:=by
 simp only [Option.bind_eq_some_iff] at h
 obtain ⟨p,h1,h2⟩:=h
 have:=iw I h1
 generalize a.eval x=u at this ⊢
 unfold cg at h2
 split at h2
 · simp at h2;subst h2;cases this;exact ⟨_,rfl⟩
 · simp at h2
theorem nu {o:Oper} {K:Act→World→Prop} {Q:Exit→Act→World→Prop} {v:Value} (h:(execOp a.eval o).run P w= .ok (.value v) w) (k:K (a.put o.dst v) w):o.wp P a w K Q:=by
 unfold Oper.wp;rw [h];exact k
theorem dB {s:Sem Value} {v:Value} {w':World} (h:s.run P w= .ok v w'):(do pure (Next.value (←s)):Sem Next).run P w= .ok (.value v) w':=by simp [h]
def gR (P:Program) (base:Nat) (w:World) (Pr:aC) (bk:Key→Nat) (st:St) (a:Act) (o:Oper) (m:Made):Prop:=
 ∀(K:Act→World→Prop) (Q:Exit→Act→World→Prop),(∀v w' aD,Fw w Pr w' aD→dn base w' aD bk st a m v→K (a.put o.dst v) w')→o.wp P a w K Q
theorem bu {p:PV} {v:Value} (h:Rp w Pr p v):dn base w Pr bk st a { v:= .pv p} v:=
 ⟨fun _ _=>h,fun _ _ _ h=>by simp at h,fun z h=>by simp at h,fun q h=>by simp at h⟩
theorem bg (I:Inv base w Pr bk st a N) {o:Oper} {m:Made} {v:Value} (h:(execOp a.eval o).run P w= .ok (.value v) w) (hm:dn base w Pr bk st a m v):gR P base w Pr bk st a o m:=
 fun K Q hK=>nu h (hK v w Pr (Fw.refl I.bH) hm)
theorem iN (I:Inv base w Pr bk st a N) {o:Oper} {m:Made} {s:Sem Value} (he:execOp a.eval o=(do pure (Next.value (←s)):Sem Next)) (h:dQ (cK P s)=some m):gR P base w Pr bk st a o m:=by
 simp only [dQ,Option.map_eq_some_iff] at h
 obtain ⟨p,hp,rfl⟩:=h
 obtain ⟨v,h1,h2⟩:=lZ hp w Pr
 exact bg I (by rw [he];exact dB h1) (bu h2)
theorem iX {t:TypeId} {s:Nat} (h:bT P t=some s):∃i,P.info? t=some i∧i.size=s:=by
 simp only [bT,Option.map_eq_some_iff] at h;exact h
theorem fN {t:TypeId} {s:Nat} (h:bT P t=some s) (w:World):(sizeOf t).run P w= .ok s w:=by
 obtain ⟨i,h1,h2⟩:=iX h
 simp [sizeOf,typeInfo,h1,h2]
theorem eX {t:TypeId} {d:TypeDesc} (h:P.underlying t=some d) (w:World):(underlying t).run P w= .ok d w:=run_underlying h w
theorem rI {t:TypeId} (h:(P.underlying t).isSome=true) (w:World):(isAgg t).run P w= .ok (ep P t) w:=by
 obtain ⟨d,hd⟩:=Option.isSome_iff_exists.1 h
 unfold isAgg ep
 rw [Sem.run_bind,eX hd]
 rw [hd]
 cases d<;>simp
theorem sX {t:TypeId} (h:ep P t=true):∃d,P.underlying t=some d∧d.isRow=true:=by
 unfold ep at h
 split at h
 · exact ⟨_,‹_›,rfl⟩
 · exact ⟨_,‹_›,rfl⟩
 · simp at h
theorem mb {t:TypeId} {cs:List PV} {off:Nat} {p:PV} {vs:List Value} {b o:Nat} (h:ek P t cs off=some p) (hr:aM w Pr cs vs) (h1:One vs) (hc:w.rangeAt b o vs):
  ∃v,(loadVar t ⟨b,o+off,none⟩).run P w= .ok v w∧Rp w Pr p v∧(ep P t=false→vs[off]? =some v∧cs[off]? =some p):=by
 simp only [ek,Option.bind_eq_some_iff] at h
 obtain ⟨s,hs,h⟩:=h
 split at h
 · rename_i hle
   have hlen:=hr.length
   split at h
   · rename_i hrow
     simp only [Option.some.injEq] at h;subst h
     obtain ⟨d,hd,qY⟩:=sX hrow
     refine ⟨_,run_loadVar_mid w b (o+off) t ((vs.drop off).take s) d (iP (dy hc off) s) hd qY ?_, .ag ((hr.drop off).take s) (fun v hv=>h1 v (List.mem_of_mem_drop (List.mem_of_mem_take hv))),by simp [hrow]⟩
     obtain ⟨i,hi1,hi2⟩:=iX hs
     rw [hi1];simp [hi2];omega
   · rename_i hrow
     split at h
     · rename_i hs1
       obtain ⟨v,hv,hp⟩:=hr.get off p h
       refine ⟨v, ?_,hp,fun _=>⟨hv,h⟩⟩
       have hcell:w.cell? ⟨b,o+off,none⟩=some v:=hc off v hv
       unfold loadVar
       rw [Sem.run_bind,rI hs1.2]
       simp only [Bool.not_eq_true] at hrow
       simp [hrow,load,Sem.run,hcell]
     · simp at h
 · simp at h
theorem vQ {t:TypeId} {cs:List PV} {off:Nat} {p:PV} {vs:List Value} (h:ek P t cs off=some p) (hr:aM w Pr cs vs) (h1:One vs):
  ∃v,(part t vs.toArray off).run P w= .ok v w∧Rp w Pr p v:=by
 simp only [ek,Option.bind_eq_some_iff] at h
 obtain ⟨s,hs,h⟩:=h
 split at h
 · split at h
   · rename_i hle hrow
     simp only [Option.some.injEq] at h;subst h
     obtain ⟨d,hd,qY⟩:=sX hrow
     refine ⟨.agg ((vs.drop off).take s).toArray, ?_, .ag ((hr.drop off).take s) (fun v hv=>h1 v (List.mem_of_mem_drop (List.mem_of_mem_take hv)))⟩
     unfold part
     rw [Sem.run_bind,rI (by rw [hd];rfl)]
     simp only [hrow,Result.andThen_ok,if_true,Sem.run_bind,fN hs,Sem.run_pure]
     rw [List.extract_toArray,List.extract_eq_take_drop,Nat.add_sub_cancel_left]
   · rename_i hle hrow
     split at h
     · rename_i hs1
       obtain ⟨v,hv,hp⟩:=hr.get off p h
       refine ⟨v, ?_,hp⟩
       unfold part
       rw [Sem.run_bind,rI hs1.2]
       simp only [Bool.not_eq_true] at hrow
       simp [hrow,hv]
     · simp at h
 · simp at h
theorem dD.any {t t':Nat} {av:AV} {v:Value} (hn:∀sz n cs,av≠ .ex sz n cs) (h:dD st a w Pr bk t av v):dD st a w Pr bk t' av v:=by
 cases av with
 |ex sz n cs=>exact absurd rfl (hn sz n cs)
 |_=>exact h
theorem cu {av:AV} {v:Value} {t:Nat} (hn:∀sz n cs,av≠ .ex sz n cs) (h:dD st a w Pr bk t av v):dn base w Pr bk st a { v:=av} v:=
 ⟨fun _ _=>h.any hn,fun sz n cs e=>absurd e (hn sz n cs),fun z h=>by simp at h,fun q h=>by simp at h⟩
theorem HW (I:Inv base w Pr bk st a N) {o:Oper} {m:Made} {call:Cl} {x:Operand} (ho:o.op= .move x) (h:quiet P call o st=some m):gR P base w Pr bk st a o m:=by
 have he:(execOp a.eval o).run P w= .ok (.value (a.eval x)) w:=by simp [execOp,ho]
 refine bg I he ?_
 simp only [quiet,ho] at h
 split at h
 · rename_i t heq
   simp only [Option.some.injEq] at h;subst h
   obtain ⟨t',hv⟩:=eI I heq
   exact cu (by simp) hv
 · rename_i t off heq
   simp only [Option.some.injEq] at h;subst h
   obtain ⟨t',hv⟩:=eI I heq
   exact cu (by simp) hv
 · simp at h
 · rename_i t sz n cs heq
   simp only [Option.some.injEq] at h;subst h
   obtain ⟨v,h1,h2⟩:=I.slots t _ heq
   exact cu (t:=0) (by simp) ⟨by rw [gL h1];exact h1,_,_,_,heq⟩
 · rename_i t v hx1 Mw Mx Jd heq
   simp only [Option.some.injEq] at h;subst h
   obtain ⟨u,h1,h2⟩:=I.slots t v heq
   have hn:∀sz n cs,v≠ .ex sz n cs:=fun sz n cs e=>Jd sz n cs e
   rw [gL h1]
   refine ⟨fun _ _=>h2.any hn,fun sz n cs e=>absurd e (hn sz n cs),fun z h=>by simp at h,fun q hq hg=> ?_⟩
   simp only at hq
   split at hq
   · simp only [Option.some.injEq] at hq;subst hq;exact h1
   · simp only [St.tag,Option.bind_eq_some_iff,id] at hq
     obtain ⟨q',UF,rfl⟩:=hq
     rw [I.tags t q UF hg,h1]
 · simp at h
 · rename_i v hx1 Mw Mx Jd UY Yy heq
   simp only [Option.some.injEq] at h;subst h
   obtain ⟨t',hv⟩:=eI I heq
   exact cu (fun sz n cs e=>Jd sz n cs e) hv
 · simp at h
theorem HX (I:Inv base w Pr bk st a N) {o:Oper} {m:Made} {call:Cl} {c x y:Operand} (ho:o.op= .pick c x y) (h:quiet P call o st=some m):gR P base w Pr bk st a o m:=by
 simp only [quiet,ho,Option.bind_eq_some_iff] at h
 obtain ⟨cv,hc,h⟩:=h
 split at h
 · rename_i t
   simp only [Option.map_eq_some_iff] at h
   obtain ⟨p,hp,rfl⟩:=h
   have Uf:=fB I hc
   refine bg I (v:=a.eval (if t then x else y)) ?_ (bu (iw I hp))
   simp only [execOp,ho,Uf]
   cases t<;>simp [asBool]
 · simp at h
theorem Fz (I:Inv base w Pr bk st a N) {o:Oper} {m:Made} {call:Cl} {op:BinOp} {t u:TypeId} {x y:Operand} (ho:o.op= .binOp op t x y u) (h:quiet P call o st=some m):gR P base w Pr bk st a o m:=by
 simp only [quiet,ho,Option.bind_eq_some_iff] at h
 obtain ⟨p,hp,q,hq,h⟩:=h
 refine iN I ?_ h
 simp only [execOp,ho,fB I hp,fB I hq]
theorem HY (I:Inv base w Pr bk st a N) {o:Oper} {m:Made} {call:Cl} {op:UnOp} {t:TypeId} {x:Operand} (ho:o.op= .unOp op t x) (h:quiet P call o st=some m):gR P base w Pr bk st a o m:=by
 simp only [quiet,ho,Option.bind_eq_some_iff] at h
 obtain ⟨p,hp,h⟩:=h
 refine iN I ?_ h
 simp only [execOp,ho,fB I hp]
theorem yh (I:Inv base w Pr bk st a N) {o:Oper} {m:Made} {call:Cl} {s:TypeId} {x:Operand} {f:Nat} (ho:o.op= .fieldAddr s x f) (h:quiet P call o st=some m):gR P base w Pr bk st a o m:=by
 simp only [quiet,ho,Option.bind_eq_some_iff] at h
 obtain ⟨⟨off,ty⟩,hf,h⟩:=h
 have run:∀b o',a.eval x= .pointer (some ⟨b,o',none⟩)→(execOp a.eval o).run P w= .ok (.value (.pointer (some ⟨b,o'+off,none⟩))) w:=by
  intro b o' hx
  unfold uG at hf
  split at hf
  · rename_i fs hu
    simp only [Option.bind_eq_some_iff] at hf
    obtain ⟨fd,jL,hf⟩:=hf
    split at hf
    · simp at hf
    · rename_i hz
      simp only [Option.map_eq_some_iff,Prod.mk.injEq] at hf
      obtain ⟨sz,hsz,rfl,rfl⟩:=hf
      have QF:sz≠0:=fun e=>hz (by rw [hsz,e])
      simp only [execOp,ho]
      refine dB ?_
      simp [Instr.fieldAt,eX hu,jL,hx,Instr.sureAddr,fieldPlace,fN hsz,QF,Addr.add_mid]
  · simp at hf
 split at h
 · rename_i k o' heq
   simp only [Option.some.injEq] at h;subst h
   exact bg I (run _ _ (r4 I heq)) (cu (t:=0) (by simp) rfl)
 · rename_i t o' heq
   simp only [Option.some.injEq] at h;subst h
   obtain ⟨t',⟨b,o2,n,cap,h1,h2⟩,h3⟩:=eI I heq
   exact bg I (run _ _ h2) (cu (t:=0) (by simp) ⟨⟨b,o2,n,cap,h1,by rw [Nat.add_assoc]⟩,h3⟩)
 · rename_i cs heq
   simp only [Option.some.injEq] at h;subst h
   have hv:=eH I heq
   generalize hx:a.eval x=v at hv
   cases hv with
   |el hr h1 hc hp=>
    refine bg I (run _ _ hx) (bu (.el (hr.drop off) (fun v hv=>h1 v (List.mem_of_mem_drop hv)) (dy hc off) (fun i hi=> ?_)))
    rw [Nat.add_assoc]
    refine hp _ ?_
    simp at hi;omega
 · simp at h
theorem FB (I:Inv base w Pr bk st a N) {o:Oper} {m:Made} {call:Cl} {s:TypeId} {x:Operand} {f:Nat} (ho:o.op= .field s x f) (h:quiet P call o st=some m):gR P base w Pr bk st a o m:=by
 simp only [quiet,ho,Option.bind_eq_some_iff] at h
 obtain ⟨⟨off,ty⟩,hf,h⟩:=h
 split at h
 · rename_i cs heq
   have hv:=iw I heq
   generalize hx:a.eval x=v at hv
   cases hv with
   |ag hr h1=>
    simp only [dQ,Option.map_eq_some_iff] at h
    obtain ⟨p,hp,rfl⟩:=h
    obtain ⟨v,cR,eJ⟩:=vQ (P:=P) hp hr h1
    refine bg I (v:=v) ?_ (bu eJ)
    unfold uG at hf
    split at hf
    · rename_i fs hu
      simp only [Option.bind_eq_some_iff] at hf
      obtain ⟨fd,jL,hf⟩:=hf
      split at hf
      · simp at hf
      · simp only [Option.map_eq_some_iff,Prod.mk.injEq] at hf
        obtain ⟨sz,hsz,rfl,rfl⟩:=hf
        simp only [execOp,ho]
        refine dB ?_
        simp [Instr.field,eX hu,jL,hx,asAgg,cR]
    · simp at hf
 · simp at h
end
end Go.Proofs.YtibbgjafjhcemaaGreatDoor.Cul
namespace Go.Proofs.YtibbgjafjhcemaaGreatDoor.Cul
open Go Go.RowKit
section
variable {P:Program} {base:Nat} {w:World} {Pr:aC} {bk:Key→Nat} {st:St} {a:Act} {N:Nat}
theorem run_indexAt_slice {t e:TypeId} {s:Nat} (hu:P.underlying t=some (.slice e)) (hs:bT P e=some s) (k:IntKind) (n:Int) (b o len cap:Nat) (h0:0≤n) (h1:n<len):
  (Instr.indexAt t (.slice (some ⟨b,o,none⟩) len cap) (.int k n)).run P w= .ok (.pointer (some ⟨b,o+n.toNat* s,none⟩)) w:=by
 simp [Instr.indexAt,asIntOf,eX hu,h0,h1,fN hs,Addr.add_mid]
theorem run_indexAt_array {t e:TypeId} {s len:Nat} (hu:P.underlying t=some (.array len e)) (hs:bT P e=some s) (k:IntKind) (n:Int) (b o:Nat) (h0:0≤n) (h1:n<len):
  (Instr.indexAt t (.pointer (some ⟨b,o,none⟩)) (.int k n)).run P w= .ok (.pointer (some ⟨b,o+n.toNat* s,none⟩)) w:=by
 simp [Instr.indexAt,asIntOf,eX hu,h0,h1,fN hs,Addr.add_mid,Instr.sureAddr]
theorem Ns {cs:List PV} {vs:List Value} {b o sz n i:Nat} (hr:aM w Pr cs vs) (h1:One vs) (hc:w.rangeAt b o vs) (hp:∀i,i<vs.length→Pr b (o+i)):
  Rp w Pr (.el (row cs sz i)) (.pointer (some ⟨b,o+i* sz,none⟩)):=by
 refine .el ((hr.drop (i* sz)).take sz) (fun v hv=>h1 v (List.mem_of_mem_drop (List.mem_of_mem_take hv))) (iP (dy hc _) _) (fun j hj=> ?_)
 rw [Nat.add_assoc]
 refine hp _ ?_
 simp at hj;omega
theorem yj (I:Inv base w Pr bk st a N) {o:Oper} {m:Made} {call:Cl} {t:TypeId} {x i:Operand} (ho:o.op= .indexAddr t x i) (h:quiet P call o st=some m):gR P base w Pr bk st a o m:=by
 simp only [quiet,ho] at h
 rw [Option.bind_eq_some_iff] at h
 obtain ⟨n,hn,h⟩:=h
 obtain ⟨k,hk⟩:=int_eq I hn
 have he:∀v,(Instr.indexAt t (a.eval x) (.int k n)).run P w= .ok v w→(execOp a.eval o).run P w= .ok (.value v) w:=fun v hv=>by
  simp only [execOp,ho,hk];exact dB hv
 split at h
 · rename_i len e hu
   rw [Option.bind_eq_some_iff] at h
   obtain ⟨s,hs,h⟩:=h
   split at h
   · rename_i hb
     split at h
     · rename_i k' o' heq
       simp only [Option.some.injEq] at h;subst h
       exact bg I (he _ (by rw [r4 I heq];exact run_indexAt_array hu hs k n _ _ hb.1 hb.2)) (cu (t:=0) (by simp) rfl)
     · rename_i cs heq
       simp only [Option.some.injEq] at h;subst h
       have hv:=eH I heq
       generalize hx:a.eval x=v at hv
       cases hv with
       |el hr h1 hc hp=>
        refine bg I (he _ (by rw [hx];exact run_indexAt_array hu hs k n _ _ hb.1 hb.2)) (bu (.el (hr.drop _) (fun v hv=>h1 v (List.mem_of_mem_drop hv)) (dy hc _) (fun i hi=> ?_)))
        rw [Nat.add_assoc]
        refine hp _ ?_
        simp at hi;omega
     · simp at h
   · simp at h
 · rename_i e hu
   rw [Option.bind_eq_some_iff] at h
   obtain ⟨s,hs,h⟩:=h
   split at h
   · rename_i sz len cs heq
     split at h
     · rename_i hb
       obtain ⟨rfl,hb0,fk⟩:=hb
       simp only [Option.some.injEq] at h;subst h
       have hv:=eH I heq
       generalize hx:a.eval x=v at hv
       cases hv with
       |sl hr h1 hl hn hc hp=>exact bg I (he _ (by rw [hx];exact run_indexAt_slice hu hs k n _ _ _ _ hb0 fk)) (bu (Ns (n:=len) hr h1 hc hp))
       |nV=>omega
     · simp at h
   · rename_i u heq
     split at h
     · rename_i sz len cs hl
       split at h
       · rename_i hb
         obtain ⟨rfl,hb0,fk⟩:=hb
         simp only [Option.some.injEq] at h;subst h
         obtain ⟨h1,h2⟩:=IQ I heq
         obtain ⟨v,cR,o',cap,vs,rfl,eJ⟩:=I.slots u _ hl
         rw [cR] at h1
         have hx:a.eval x=_:=(Option.some.inj h1).symm
         exact bg I (he _ (by rw [hx];exact run_indexAt_slice hu hs k n _ _ _ _ hb0 fk)) (cu (t:=0) (by simp) ⟨⟨_,_,_,_,cR,rfl⟩,h2⟩)
       · simp at h
     · simp at h
   · rename_i k' off sz len heq
     split at h
     · rename_i hb
       obtain ⟨rfl,hb0,fk⟩:=hb
       simp only [Option.some.injEq] at h;subst h
       obtain ⟨o',cap,cs,c,T,hx,h0,_⟩:=yp I heq
       obtain rfl:o'=off:=h0.resolve_right (fun h=>by omega)
       exact bg I (he _ (by rw [hx];exact run_indexAt_slice hu hs k n _ _ _ _ hb0 fk)) (cu (t:=0) (by simp) rfl)
     · simp at h
   · simp at h
 · simp at h
theorem FC (I:Inv base w Pr bk st a N) {o:Oper} {m:Made} {call:Cl} {t:TypeId} {x i:Operand} (ho:o.op= .index t x i) (h:quiet P call o st=some m):gR P base w Pr bk st a o m:=by
 simp only [quiet,ho] at h
 split at h
 · rename_i len e cs hu heq
   rw [Option.bind_eq_some_iff] at h
   obtain ⟨n,hn,h⟩:=h
   rw [Option.bind_eq_some_iff] at h
   obtain ⟨s,hs,h⟩:=h
   obtain ⟨k,hk⟩:=int_eq I hn
   split at h
   · rename_i hb
     have hv:=iw I heq
     generalize hx:a.eval x=v at hv
     cases hv with
     |ag hr h1=>
      simp only [dQ,Option.map_eq_some_iff] at h
      obtain ⟨p,hp,rfl⟩:=h
      obtain ⟨v,cR,eJ⟩:=vQ (P:=P) hp hr h1
      refine bg I (v:=v) ?_ (bu eJ)
      simp only [execOp,ho,hk]
      refine dB ?_
      simp [Instr.index,asIntOf,eX hu,hx,hb.1,hb.2,fN hs,cR]
   · simp at h
 · simp only [Option.bind_eq_some_iff] at h
   obtain ⟨p,hp,q,hq,h⟩:=h
   refine iN I ?_ h
   simp only [execOp,ho,fB I hp,fB I hq]
theorem HV (I:Inv base w Pr bk st a N) {o:Oper} {m:Made} {call:Cl} {t:TypeId} {x:Operand} (ho:o.op= .load t x) (h:quiet P call o st=some m):gR P base w Pr bk st a o m:=by
 simp only [quiet,ho] at h
 have he:∀b o' v,a.eval x= .pointer (some ⟨b,o',none⟩)→(loadVar t ⟨b,o',none⟩).run P w= .ok v w→(execOp a.eval o).run P w= .ok (.value v) w:=fun b o' v hx hv=>by
  simp only [execOp,ho,hx];exact dB (by simpa [Instr.loadAt,Instr.sureAddr] using hv)
 split at h
 · rename_i k o' heq
   rw [Option.bind_eq_some_iff] at h
   obtain ⟨cs,hk,h⟩:=h
   simp only [Option.map_eq_some_iff] at h
   obtain ⟨p,hp,rfl⟩:=h
   obtain ⟨⟨T,c,vs,cR,oO,eJ,sV⟩,EW⟩:=I.boxes k cs hk
   have hc:w.rangeAt (bk (.bx k)) 0 vs:=iQ cR oO
   obtain ⟨v,xz,mN,mO⟩:=mb (P:=P) hp eJ sV hc
   rw [Nat.zero_add] at xz
   refine bg I (he _ _ _ (r4 I heq) xz) ⟨fun _ _=>mN,fun _ _ _ h=>by simp at h,fun z h=>by simp at h,fun q hq hg=> ?_⟩
   simp only at hq
   split at hq
   · rename_i gN
     simp only [Option.some.injEq] at hq;subst hq
     simp only [Bool.and_eq_true,Bool.not_eq_eq_eq_not,Bool.not_true] at gN
     have:=(mO gN.1).1
     have h2:=hc o' v this
     simpa [cN] using h2
   · simp at hq
 · rename_i cs heq
   simp only [dQ,Option.map_eq_some_iff] at h
   obtain ⟨p,hp,rfl⟩:=h
   have hv:=eH I heq
   generalize hx:a.eval x=v at hv
   cases hv with
   |el hr h1 hc Ja=>
    obtain ⟨v,xz,mN,mO⟩:=mb (P:=P) hp hr h1 hc
    exact bg I (he _ _ _ hx xz) (bu mN)
 · rename_i u o' heq
   split at h
   · rename_i sz n cs hl
     simp only [dQ,Option.map_eq_some_iff] at h
     obtain ⟨p,hp,rfl⟩:=h
     obtain ⟨t',⟨b,o2,n',cap',h1,h2⟩,h3⟩:=eI I heq
     obtain ⟨v,cR,o3,cap,vs,rfl,eJ,sV,EW,Pp,Yx⟩:=I.slots u _ hl
     rw [cR] at h1
     simp only [Option.some.injEq,Value.slice.injEq,Addr.mk.injEq] at h1
     obtain ⟨⟨rfl,rfl,_⟩,_,_⟩:=h1
     obtain ⟨v,xz,mN,mO⟩:=mb (P:=P) hp eJ sV Pp
     exact bg I (he _ _ _ h2 xz) (bu mN)
   · simp at h
 · simp at h
theorem Bh (I:Inv base w Pr bk st a N) {o:Oper} {m:Made} {call:Cl} {x:Operand} {i:Nat} (ho:o.op= .extract x i) (h:quiet P call o st=some m):gR P base w Pr bk st a o m:=by
 simp only [quiet,ho] at h
 split at h
 · rename_i ps heq
   simp only [dQ,Option.map_eq_some_iff] at h
   obtain ⟨p,hp,rfl⟩:=h
   have hv:=eH I heq
   generalize hx:a.eval x=v at hv
   cases hv with
   |aQ hr=>
    obtain ⟨v,cR,eJ⟩:=hr.get i p hp
    refine bg I (v:=v) ?_ (bu eJ)
    simp only [execOp,ho,hx]
    refine dB ?_
    simp [Instr.extract,cR]
 · rename_i k off sz n rest heq
   obtain ⟨u,us,hx,hu,hr⟩:=Oa I heq
   split at h
   · simp only [Option.some.injEq] at h;subst h
     refine bg I (v:=u) ?_ (cu (t:=0) (by simp) hu)
     simp only [execOp,ho,hx]
     refine dB ?_
     simp [Instr.extract]
   · rename_i i
     simp only [dQ,Option.map_eq_some_iff] at h
     obtain ⟨p,hp,rfl⟩:=h
     obtain ⟨v,cR,eJ⟩:=hr.get i p hp
     refine bg I (v:=v) ?_ (bu eJ)
     simp only [execOp,ho,hx]
     refine dB ?_
     simp [Instr.extract,cR]
 · simp at h
theorem lH (I:Inv base w Pr bk st a N):∀{l:List Operand} {caps:List Cap},ew st l=some caps→(l.map a.eval).length=caps.length∧∀(i:Nat) (c:Cap) (u:Value),caps[i]? =some c→(l.map a.eval)[i]? =some u→gJ w Pr bk c u
 |[],caps,h=>by simp [ew] at h;subst h;simp
 |x::l,caps,h=>by
  simp only [ew] at h
  split at h
  · rename_i p heq
    simp only [Option.map_eq_some_iff] at h
    obtain ⟨cs,hcs,rfl⟩:=h
    obtain ⟨h1,h2⟩:=lH I hcs
    refine ⟨by simpa using h1,fun i c u hc hu=> ?_⟩
    cases i with
    |zero=>simp at hc hu;subst hc hu;exact eH I heq
    |succ i=>exact h2 i c u (by simpa using hc) (by simpa using hu)
  · rename_i k o heq
    simp only [Option.map_eq_some_iff] at h
    obtain ⟨cs,hcs,rfl⟩:=h
    obtain ⟨h1,h2⟩:=lH I hcs
    refine ⟨by simpa using h1,fun i c u hc hu=> ?_⟩
    cases i with
    |zero=>simp at hc hu;subst hc hu;exact r4 I heq
    |succ i=>exact h2 i c u (by simpa using hc) (by simpa using hu)
  · simp at h
theorem At (I:Inv base w Pr bk st a N) {o:Oper} {m:Made} {call:Cl} {f:Fn} {first captured:Array Operand} (ho:o.op= .makeFunc f first captured) (h:quiet P call o st=some m):gR P base w Pr bk st a o m:=by
 cases f with
 |func f'=>
  simp only [quiet,ho] at h
  split at h
  · rename_i h0
    simp only [Option.map_eq_some_iff] at h
    obtain ⟨caps,hc,rfl⟩:=h
    obtain ⟨h1,h2⟩:=lH I hc
    refine bg I (v:= .func (.func f') #[] (captured.map a.eval)) ?_ (cu (t:=0) (by simp) ⟨captured.toList.map a.eval, ?_,h1,h2⟩)
    · simp only [execOp,ho]
      refine dB ?_
      have:first= #[]:=Array.ext' (by simpa using h0)
      simp [Instr.makeFunc,this]
    · congr 1;exact Array.ext' (by simp)
  · rename_i x hx1 Mw
    split at h
    · rename_i k off sz n heq
      simp only [Option.some.injEq] at h;subst h
      have hb:=yp I heq
      have e1:first= #[x]:=Array.ext' (by simpa using hx1)
      have e2:captured= #[]:=Array.ext' (by simpa using Mw)
      refine bg I (v:= .func (.func f') #[a.eval x] #[]) ?_ (cu (t:=0) (by simp) ⟨_,rfl,hb⟩)
      simp only [execOp,ho]
      refine dB ?_
      simp [Instr.makeFunc,e1,e2]
    · simp at h
  · simp at h
 |_=>simp [quiet,ho] at h
theorem Au (I:Inv base w Pr bk st a N) {o:Oper} {m:Made} {call:Cl} {x:Operand} (ho:o.op= .nilCheck x) (h:quiet P call o st=some m):gR P base w Pr bk st a o m:=by
 simp only [quiet,ho] at h
 split at h
 · rename_i k o' heq
   simp only [Option.some.injEq] at h;subst h
   have hx:=r4 I heq
   exact bg I (v:=a.eval x) (by simp [execOp,ho,hx]) (cu (t:=0) (by simp) hx)
 · rename_i cs heq
   simp only [Option.some.injEq] at h;subst h
   have hv:=eH I heq
   refine bg I (v:=a.eval x) ?_ (bu hv)
   generalize hx:a.eval x=v at hv
   cases hv with
   |el hr h1 hc Ja=>simp [execOp,ho,hx]
 · rename_i f caps heq
   simp only [Option.some.injEq] at h;subst h
   have hv:=eH I heq
   refine bg I (v:=a.eval x) ?_ (bu hv)
   generalize hx:a.eval x=v at hv
   cases hv with
   |fn hr=>simp [execOp,ho,hx]
 · simp at h
end
end Go.Proofs.YtibbgjafjhcemaaGreatDoor.Cul
namespace Go.Proofs.YtibbgjafjhcemaaGreatDoor.Cul
open Go Go.RowKit
section
variable {P:Program} {base:Nat} {w:World} {Pr:aC} {bk:Key→Nat} {st:St} {a:Act} {N:Nat}
theorem args1 {args:Array Operand} {x:Operand} (h:args.toList=[x]):args= #[x]:=Array.ext' (by simpa using h)
theorem args2 {args:Array Operand} {x y:Operand} (h:args.toList=[x,y]):args= #[x,y]:=Array.ext' (by simpa using h)
theorem jW {o:Oper} {b:Builtin} {args:Array Operand} {ts:Array TypeId} (ho:o.op= .call { callee:= .builtin b,args:=args,argTypes:=ts}):
  (execOp a.eval o).run P w=(builtin b ts o.type (args.map fun| .const _=>true|_=>false) (args.map a.eval)).run P w:=by
 simp [execOp,ho,resolve,invoke];rfl
theorem KG (I:Inv base w Pr bk st a N) {o:Oper} {m:Made} {call:Cl} {args:Array Operand} {ts:Array TypeId} (ho:o.op= .call { callee:= .builtin .len,args:=args,argTypes:=ts}) (h:quiet P call o st=some m):gR P base w Pr bk st a o m:=by
 simp only [quiet,ho] at h
 have he:=jW (P:=P) (w:=w) (a:=a) ho
 split at h
 · rename_i x hx
   rw [args1 hx] at he
   simp only [builtin,List.map_toArray,List.map_cons,List.map_nil] at he
   have hlen:∀A n cap e,a.eval x= .slice A n cap→(ts[0]?).bind P.underlying=some (.slice e)→(execOp a.eval o).run P w= .ok (.value (.int .i64 n)) w:=fun A n cap e zL ht=>by
    rw [he,zL]
    simp only [Option.bind_eq_some_iff] at ht
    obtain ⟨t,Mo,UQ⟩:=ht
    refine dB ?_
    simp [Builtin.len_,Mo,eX UQ,goInt]
   split at h
   · rename_i sz n cs heq
     split at h
     · rename_i e ht
       simp only [Option.some.injEq] at h;subst h
       have hv:=eH I heq
       generalize zL:a.eval x=v at hv
       cases hv with
       |sl hr h1 hl hn hc hp=>exact bg I (hlen _ _ _ _ zL ht) (bu (.lit rfl))
       |nV=>exact bg I (hlen _ _ _ _ zL ht) (bu (.lit rfl))
     · simp at h
   · rename_i u heq
     split at h
     · rename_i sz n cs e hl ht
       simp only [Option.some.injEq] at h;subst h
       obtain ⟨h1,h2⟩:=IQ I heq
       obtain ⟨v,cR,o',cap,vs,rfl,eJ⟩:=I.slots u _ hl
       rw [cR] at h1
       exact bg I (hlen _ _ _ _ (Option.some.inj h1).symm ht) (bu (.lit rfl))
     · simp at h
   · rename_i k off sz n heq
     split at h
     · rename_i e ht
       simp only [Option.some.injEq] at h;subst h
       obtain ⟨o',cap,cs,c,T,hx,_⟩:=yp I heq
       exact bg I (hlen _ _ _ _ hx ht) (bu (.lit rfl))
     · simp at h
   · rename_i p hne heq
     rw [Option.bind_eq_some_iff] at h
     obtain ⟨v,hv,h⟩:=h
     have eJ:=qu hv (eH I heq)
     simp only [dQ,Option.map_eq_some_iff] at h
     obtain ⟨p',hp',rfl⟩:=h
     obtain ⟨u,h1,h2⟩:=lZ hp' w Pr
     exact bg I (by rw [he,eJ];exact dB h1) (bu h2)
   · simp at h
 · simp at h
theorem KH (I:Inv base w Pr bk st a N) {o:Oper} {m:Made} {call:Cl} {args:Array Operand} {ts:Array TypeId} (ho:o.op= .call { callee:= .builtin .max,args:=args,argTypes:=ts}) (h:quiet P call o st=some m):gR P base w Pr bk st a o m:=by
 simp only [quiet,ho] at h
 have he:=jW (P:=P) (w:=w) (a:=a) ho
 split at h
 · rename_i x y hx
   rw [args2 hx] at he
   simp only [Option.bind_eq_some_iff] at h
   obtain ⟨p,hp,q,hq,h⟩:=h
   simp only [dQ,Option.map_eq_some_iff] at h
   obtain ⟨p',hp',rfl⟩:=h
   obtain ⟨u,h1,h2⟩:=lZ hp' w Pr
   refine bg I (v:=u) ?_ (bu h2)
   rw [he];simp only [builtin,List.map_toArray,List.map_cons,List.map_nil,fB I hp,fB I hq];exact dB h1
 · simp at h
theorem KI (I:Inv base w Pr bk st a N) {o:Oper} {m:Made} {call:Cl} {args:Array Operand} {ts:Array TypeId} (ho:o.op= .call { callee:= .builtin .min,args:=args,argTypes:=ts}) (h:quiet P call o st=some m):gR P base w Pr bk st a o m:=by
 simp only [quiet,ho] at h
 have he:=jW (P:=P) (w:=w) (a:=a) ho
 split at h
 · rename_i x y hx
   rw [args2 hx] at he
   simp only [Option.bind_eq_some_iff] at h
   obtain ⟨p,hp,q,hq,h⟩:=h
   simp only [dQ,Option.map_eq_some_iff] at h
   obtain ⟨p',hp',rfl⟩:=h
   obtain ⟨u,h1,h2⟩:=lZ hp' w Pr
   refine bg I (v:=u) ?_ (bu h2)
   rw [he];simp only [builtin,List.map_toArray,List.map_cons,List.map_nil,fB I hp,fB I hq];exact dB h1
 · simp at h
theorem qL (I:Inv base w Pr bk st a N) {jG:aC} (hP:∀b o,Pr b o→jG b o) (hB:∀k cs,look st.bx k=some cs→∀o,jG (bk (.bx k)) o):
  ∀{caps:List Cap} {ps:List PV} {vs:List Value},dF st caps=some ps→vs.length=caps.length→(∀(i:Nat) (c:Cap) (u:Value),caps[i]? =some c→vs[i]? =some u→gJ w Pr bk c u)→aM w jG ps vs
 |[],ps,vs,h,hl,_=>by simp [dF] at h;subst h;simp at hl;subst hl;exact .nil
 | .pv p::caps,ps,[],h,hl,hc=>by simp at hl
 | .bp k off::caps,ps,[],h,hl,hc=>by simp at hl
 | .pv p::caps,ps,v::vs,h,hl,hc=>by
   simp only [dF,Option.map_eq_some_iff] at h
   obtain ⟨qs,hq,rfl⟩:=h
   exact .cons (Rp.mono ⟨hP,fun _ _ _=>rfl⟩ (hc 0 _ _ rfl rfl)) (qL I hP hB hq (by simpa using hl) (fun i c u h1 h2=>hc (i+1) c u (by simpa using h1) (by simpa using h2)))
 | .bp k off::caps,ps,v::vs,h,hl,hc=>by
   simp only [dF,Option.bind_eq_some_iff,Option.map_eq_some_iff] at h
   obtain ⟨cs,hk,qs,hq,rfl⟩:=h
   have hv:v=_:=hc 0 _ _ rfl rfl
   refine .cons ?_ (qL I hP hB hq (by simpa using hl) (fun i c u h1 h2=>hc (i+1) c u (by simpa using h1) (by simpa using h2)))
   rw [hv]
   obtain ⟨⟨T,c,us,cR,oO,eJ,sV⟩,EW⟩:=I.boxes k cs hk
   have hr:w.rangeAt (bk (.bx k)) 0 us:=iQ cR oO
   have h2:=Rp.el (w:=w) (Pr:=jG) (aM.mono ⟨hP,fun _ _ _=>rfl⟩ (eJ.drop off)) (fun v hv=>sV v (List.mem_of_mem_drop hv)) (dy hr off) (fun i _=>hB k cs hk _)
   simpa using h2
theorem yQ (I:Inv base w Pr bk st a N) {jG:aC} (hP:∀b o,Pr b o→jG b o) (hB:∀k cs,look st.bx k=some cs→∀o,jG (bk (.bx k)) o) {x:Operand} {av:AV} {p:PV}
  (hx:st.ev x=some av) (h:st.eG av=some p):Rp w jG p (a.eval x):=by
 obtain ⟨t,hv⟩:=eI I hx
 cases av with
 |pv q=>simp only [St.eG,Option.some.injEq] at h;subst h;exact Rp.mono ⟨hP,fun _ _ _=>rfl⟩ hv
 |bp k off=>
  simp only [St.eG,Option.map_eq_some_iff] at h
  obtain ⟨cs,hk,rfl⟩:=h
  have hv:a.eval x=_:=hv
  rw [hv]
  obtain ⟨⟨T,c,us,cR,oO,eJ,sV⟩,EW⟩:=I.boxes k cs hk
  have hr:w.rangeAt (bk (.bx k)) 0 us:=iQ cR oO
  have h2:=Rp.el (w:=w) (Pr:=jG) (aM.mono ⟨hP,fun _ _ _=>rfl⟩ (eJ.drop off)) (fun v hv=>sV v (List.mem_of_mem_drop hv)) (dy hr off) (fun i _=>hB k cs hk _)
  simpa using h2
 |bs k off sz n=>
  simp only [St.eG,Option.map_eq_some_iff] at h
  obtain ⟨cs,hk,rfl⟩:=h
  obtain ⟨o',cap,cs',c',T',hx',ho',hk',hle,hsz,hcap,_,_⟩:=hv
  rw [hk] at hk';cases hk'
  rw [hx']
  by_cases hn0:n=0
  · subst hn0
    simpa using Rp.sl (w:=w) (Pr:=jG) (sz:=sz) (n:=0) (cap:=cap) (b:=bk (.bx k)) (o:=o') .nil (by simp) (by simp) (Nat.zero_le _) (fun j v hj=>by simp at hj) (fun i hi=>by simp at hi)
  obtain rfl:o'=off:=ho'.resolve_right (fun h=>hn0 h.1)
  obtain ⟨⟨T,c,us,cR,oO,eJ,sV⟩,EW⟩:=I.boxes k cs hk
  have hr:w.rangeAt (bk (.bx k)) 0 us:=iQ cR oO
  have gW:=iP (dy hr o') (n* sz)
  rw [Nat.zero_add] at gW
  refine .sl (aM.mono ⟨hP,fun _ _ _=>rfl⟩ ((eJ.drop o').take (n* sz))) (fun v hv=>sV v (List.mem_of_mem_drop (List.mem_of_mem_take hv))) (by simp;omega) hcap gW (fun i _=>hB k cs hk _)
 |cl f caps=>
  simp only [St.eG,Option.map_eq_some_iff] at h
  obtain ⟨ps,hps,rfl⟩:=h
  obtain ⟨vs,h1,h2,h3⟩:=hv
  rw [h1]
  exact .fn (qL I hP hB hps h2 h3)
 |_=>simp [St.eG] at h
theorem xd (I:Inv base w Pr bk st a N) {jG:aC} (hP:∀b o,Pr b o→jG b o) (hB:∀k cs,look st.bx k=some cs→∀o,jG (bk (.bx k)) o):
  ∀{l:List Operand} {ps:List PV},eo st l=some ps→aM w jG ps (l.map a.eval)
 |[],ps,h=>by simp [eo] at h;subst h;exact .nil
 |x::l,ps,h=>by
  simp only [eo,Option.bind_eq_some_iff,Option.map_eq_some_iff] at h
  obtain ⟨p,⟨av,hx,hp⟩,qs,hq,rfl⟩:=h
  exact .cons (yQ I hP hB hx hp) (xd I hP hB hq)
theorem w9 (I:Inv base w Pr bk st a N) {x:Operand} {av:AV} {p:PV} (hx:st.ev x=some av) (ho:bY av=false) (h:st.eG av=some p):Rp w Pr p (a.eval x):=by
 obtain ⟨t,hv⟩:=eI I hx
 cases av with
 |pv q=>simp only [St.eG,Option.some.injEq] at h;subst h;exact hv
 |bp k off=>simp [bY] at ho
 |bs k off sz n=>simp [bY] at ho
 |cl f caps=>
  simp only [St.eG,Option.map_eq_some_iff] at h
  obtain ⟨ps,hps,rfl⟩:=h
  obtain ⟨vs,h1,h2,h3⟩:=hv
  rw [h1]
  refine .fn ?_
  clear h1 hx
  induction caps generalizing ps vs with
  |nil=>simp [dF] at hps;subst hps;simp at h2;subst h2;exact .nil
  |cons c caps ih=>
   simp only [bY,List.any_cons,Bool.or_eq_false_iff] at ho
   cases c with
   |bp k off=>simp [D7] at ho
   |pv q=>
    simp only [dF,Option.map_eq_some_iff] at hps
    obtain ⟨qs,hq,rfl⟩:=hps
    cases vs with
    |nil=>simp at h2
    |cons v vs=>exact .cons (h3 0 _ _ rfl rfl) (ih (by simpa [bY] using ho.2) _ hq vs (by simpa using h2) (fun i c u h1 h2=>h3 (i+1) c u (by simpa using h1) (by simpa using h2)))
 |_=>simp [St.eG] at h
theorem jV (I:Inv base w Pr bk st a N):∀{l:List Operand} {ps:List PV},(l.any fun x=>((st.ev x).map bY).getD true)=false→eo st l=some ps→aM w Pr ps (l.map a.eval)
 |[],ps,_,h=>by simp [eo] at h;subst h;exact .nil
 |x::l,ps,hn,h=>by
  simp only [eo,Option.bind_eq_some_iff,Option.map_eq_some_iff] at h
  obtain ⟨p,⟨av,hx,hp⟩,qs,hq,rfl⟩:=h
  simp only [List.any_cons,Bool.or_eq_false_iff,hx,Option.map_some,Option.getD_some] at hn
  exact .cons (w9 I hx hn.1 hp) (jV I hn.2 hq)
theorem k9 {o:Oper} {g:Operand} {args:Array Operand} {ts:Array TypeId} (ho:o.op= .call { callee:= .value g,args:=args,argTypes:=ts}) {f:Nat} {cs:List Value} (hg:a.eval g= .func (.func f) #[] cs.toArray):
  execOp a.eval o=callFunc f ((args.toList.map a.eval)++cs).toArray:=by
 have:args.map a.eval++cs.toArray=((args.toList.map a.eval)++cs).toArray:=Array.ext' (by simp)
 simp [execOp,ho,resolve,hg,Deferred.ofValue,invoke,this]
theorem nt {o:Oper} {f:Nat} {args:Array Value} {K:Act→World→Prop} {Q:Exit→Act→World→Prop} {R:Ending→World→Prop} (he:execOp a.eval o=callFunc f args) (hb:ov P f)
  (hc:Calls P f args w R) (hR:∀e w',R e w'→∃v,e= .returned v∧K (a.put o.dst v) w'):o.wp P a w K Q:=by
 obtain ⟨fn,c,h1,h2,h3⟩:=hb
 unfold Oper.wp
 have:(execOp a.eval o).run P w= .ok (.enter f args) w:=by simp [he,callFunc,program,Sem.run,h1,h2,show ¬fn.name= "runtime.NumGoroutine" from by simpa using h3]
 rw [this]
 refine hc.mono fun e w' h=> ?_
 obtain ⟨v,rfl,hk⟩:=hR e w' h
 exact hk
theorem HU (I:Inv base w Pr bk st a N) {o:Oper} {m:Made} {call:Cl} (hC:aH P call) {g:Operand} {args:Array Operand} {ts:Array TypeId} (ho:o.op= .call { callee:= .value g,args:=args,argTypes:=ts}) (h:quiet P call o st=some m):gR P base w Pr bk st a o m:=by
 simp only [quiet,ho] at h
 split at h
 · rename_i av hg
   rw [Option.bind_eq_some_iff] at h
   obtain ⟨p,hp,h⟩:=h
   split at h
   · rename_i f caps
     rw [Option.bind_eq_some_iff] at h
     obtain ⟨fU,has,h⟩:=h
     simp only [rV,Option.bind_eq_some_iff] at h
     obtain ⟨r,hr,h⟩:=h
     obtain ⟨hbody,bX⟩:=hC.fn f _ r hr
     generalize hout:(bY av||args.toList.any fun x=>((st.ev x).map bY).getD true)=out at h
     intro K Q hK
     cases out with
     |false=>
      simp only [Bool.false_eq_true,if_false,Option.some.injEq] at h
      simp only [Bool.or_eq_false_iff] at hout
      have oL:=w9 I hg hout.1 hp
      generalize hge:a.eval g=gv at oL
      cases oL with
      |fn hcs=>
       have hargs:=(jV I hout.2 has).app hcs
       refine nt (k9 ho hge) hbody (bX _ w Pr I.bH hargs) ?_
       rintro e w' ⟨v,aD,rfl,dX⟩
       refine ⟨v,rfl,hK v w' aD dX.fw ?_⟩
       subst h
       refine ⟨fun _ _=>dX.rp,fun _ _ _ h=>by simp at h,fun z hz=> ?_,fun q h=>by simp at h⟩
       obtain ⟨b,o',n,cap,cs,h1,h2,h3,h0,h4,h5⟩:=dX.gr z hz
       exact ⟨b,o',n,cap,cs,by rw [h1],h2,h3,h0,Nat.le_trans I.hb h4,h5,fun x hx=>by have:=(I.own x hx).2;omega⟩
     |true=>
      simp only [if_true] at h
      split at h
      · rename_i hv
        simp only [Option.some.injEq] at h
        obtain ⟨jG,LH⟩:∃jG:aC,∀b o',jG b o'↔(Pr b o'∨∃k cs,look st.bx k=some cs∧b=bk (.bx k)):=⟨fun b o'=>_,fun _ _=>Iff.rfl⟩
        have hP:∀b o,Pr b o→jG b o:=fun b o h=>(LH b o).2 (.inl h)
        have hB:∀k cs,look st.bx k=some cs→∀o,jG (bk (.bx k)) o:=fun k cs h o=>(LH _ o).2 (.inr ⟨k,cs,h,rfl⟩)
        have oL:=yQ I hP hB hg hp
        generalize hge:a.eval g=gv at oL
        cases oL with
        |fn hcs=>
         have hargs:=(xd I hP hB has).app hcs
         refine nt (k9 ho hge) hbody (bX _ w jG (fun b o h=> ?_) hargs) ?_
         · rcases (LH b o).1 h with h|⟨k,cs,hk2,rfl⟩
           · exact I.bH b o h
           · exact (I.own (.bx k) ⟨cs,hk2⟩).2
         rintro e w' ⟨v,aD,rfl,dX⟩
         have Uk:Fw w Pr w' Pr:=⟨dX.fw.gB,fun _ _ h=>h,fun _ _ _ h=>h,fun b o h=>Nat.lt_of_lt_of_le (I.bH b o h) dX.fw.gB.size⟩
         refine ⟨v,rfl,hK v w' Pr Uk ?_⟩
         subst h
         have cQ:Rp w' Pr r.v v:=by
          have h0:=dX.rp
          unfold j7 at hv
          split at hv
          · rename_i he
            rw [he] at h0 ⊢
            cases h0 with
            |aQ hr=>cases hr;exact .aQ .nil
          · obtain ⟨u,Ms⟩:=Option.isSome_iff_exists.1 hv
            exact yc Ms h0
         exact bu cQ
      · simp at h
   · simp at h
 · simp at h
end
end Go.Proofs.YtibbgjafjhcemaaGreatDoor.Cul
namespace Go.Proofs.YtibbgjafjhcemaaGreatDoor.Cul
open Go Go.RowKit
section
variable {P:Program} {base:Nat} {w:World} {Pr:aC} {bk:Key→Nat} {st:St} {a:Act} {N:Nat}
theorem CL (I:Inv base w Pr bk st a N) {lo hi:Option Operand} {n:Nat} {hh ll:Int} (hhi:(match (generalizing:=false) hi with|none=>some (n:Int)|some y=>(st.pv y).bind cg)=some hh) (hlo:(match (generalizing:=false) lo with|none=>some (0:Int)|some y=>(st.pv y).bind cg)=some ll)
  (hb0:0≤ll) (fk:ll≤hh) (cc:hh≤n):∀cap,n≤cap→(Instr.sliceBounds true n cap (lo.map a.eval) (hi.map a.eval) none).run P w= .ok (ll.toNat,hh.toNat,cap) w:=by
 intro cap hcap
 have h1:∀(k:IntKind),(Instr.sliceBound (.int k hh) cap .sliceAcap).run P w= .ok hh.toNat w:=fun k=>by
  simp [Instr.sliceBound,asIntOf,show 0≤hh by omega,show hh≤(cap:Int) by omega]
 have h2:∀(k:IntKind),(Instr.sliceBound (.int k ll) hh.toNat .sliceB).run P w= .ok ll.toNat w:=fun k=>by
  simp [Instr.sliceBound,asIntOf,show 0≤ll by omega,show ll≤(hh.toNat:Int) by omega,show ll≤max hh 0 by omega]
 cases hi with
 |none=>
  simp only [Option.some.injEq] at hhi;subst hhi
  cases lo with
  |none=>simp only [Option.some.injEq] at hlo;subst hlo;simp [Instr.sliceBounds]
  |some y=>obtain ⟨k,hk⟩:=int_eq I hlo;have Ey:=h2 k;simp only [Int.toNat_natCast] at Ey;simp [Instr.sliceBounds,hk,Ey]
 |some z=>
  obtain ⟨k,hk⟩:=int_eq I hhi
  cases lo with
  |none=>simp only [Option.some.injEq] at hlo;subst hlo;simp [Instr.sliceBounds,hk,h1]
  |some y=>obtain ⟨k',hk'⟩:=int_eq I hlo;simp [Instr.sliceBounds,hk,h1,hk',h2]
theorem xY (I:Inv base w Pr bk st a N) {o:Oper} {t e:TypeId} {x:Operand} {lo hi:Option Operand} {n sz:Nat} {hh ll:Int} (ho:o.op= .slice t x lo hi none) (hu:P.underlying t=some (.slice e)) (hsz:bT P e=some sz)
  (hhi:(match (generalizing:=false) hi with|none=>some (n:Int)|some y=>(st.pv y).bind cg)=some hh) (hlo:(match (generalizing:=false) lo with|none=>some (0:Int)|some y=>(st.pv y).bind cg)=some ll) (hb0:0≤ll) (fk:ll≤hh) (cc:hh≤n):
  ∀A cap,n≤cap→a.eval x= .slice A n cap→(execOp a.eval o).run P w= .ok (.value (.slice (if cap=ll.toNat then A else A.map (·.add (ll.toNat* sz))) (hh.toNat - ll.toNat) (cap - ll.toNat))) w:=by
 intro A cap hcap hx
 simp only [execOp,ho,hx]
 refine dB ?_
 simp [Instr.sliceAt,Instr.slice,eX hu,CL I hhi hlo hb0 fk cc cap hcap,fN hsz]
theorem FD (I:Inv base w Pr bk st a N) {o:Oper} {m:Made} {call:Cl} {t:TypeId} {x:Operand} {lo hi mx:Option Operand} (ho:o.op= .slice t x lo hi mx) (h:quiet P call o st=some m):gR P base w Pr bk st a o m:=by
 simp only [quiet,ho] at h
 split at h
 · rename_i k off sz n heq
   split at h
   · rename_i e hu
     split at h
     · rename_i hsz
       rw [Option.bind_eq_some_iff] at h
       obtain ⟨hh,hhi,h⟩:=h
       rw [Option.bind_eq_some_iff] at h
       obtain ⟨ll,hlo,h⟩:=h
       split at h
       · rename_i hb
         obtain ⟨hb0,fk,cc⟩:=hb
         simp only [Option.some.injEq] at h;subst h
         obtain ⟨o',cap,cs,c,T,hx,h0,hk,hle,hz,hn,Hg,hroom⟩:=yp I heq
         refine bg I (xY I ho hu hsz hhi hlo hb0 fk cc _ _ hn hx) (cu (t:=0) (by simp) ?_)
         have hmul:hh.toNat* sz≤n* sz:=Nat.mul_le_mul_right _ (by omega)
         have hsub:(hh.toNat - ll.toNat)* sz=hh.toNat* sz - ll.toNat* sz:=Nat.sub_mul ..
         have Ux:ll.toNat* sz≤hh.toNat* sz:=Nat.mul_le_mul_right _ (by omega)
         have hcs:(cap - ll.toNat)* sz=cap* sz - ll.toNat* sz:=Nat.sub_mul ..
         have hlc:ll.toNat* sz≤cap* sz:=Nat.mul_le_mul_right _ (by omega)
         by_cases hcl:cap=ll.toNat
         · rw [if_pos hcl]
           have hnn:hh.toNat - ll.toNat=0:=by omega
           by_cases I6:ll.toNat=0
           · refine ⟨o',_,cs,c,T,rfl, ?_,hk,by omega,hz,by omega,Hg,by omega⟩
             rcases h0 with h0|⟨_,h0⟩
             · exact .inl (by rw [I6,h0];simp)
             · exact .inr ⟨hnn,by omega⟩
           · have:0<ll.toNat* sz:=Nat.mul_pos (by omega) hz
             exact ⟨o',_,cs,c,T,rfl, .inr ⟨hnn,by omega⟩,hk,by omega,hz,by omega,Hg,by omega⟩
         · rw [if_neg hcl]
           simp only [Option.map_some,Addr.add_mid]
           refine ⟨_,_,cs,c,T,rfl, ?_,hk,by omega,hz,by omega,Hg,by omega⟩
           rcases h0 with rfl|⟨h0,h1⟩
           · exact .inl rfl
           · exact .inr ⟨by omega,by omega⟩
       · simp at h
     · simp at h
   · simp at h
 · rename_i sz n cs heq
   split at h
   · rename_i e hu
     split at h
     · rename_i hsz
       rw [Option.bind_eq_some_iff] at h
       obtain ⟨hh,hhi,h⟩:=h
       rw [Option.bind_eq_some_iff] at h
       obtain ⟨ll,hlo,h⟩:=h
       split at h
       · rename_i hb
         obtain ⟨hb0,fk,cc⟩:=hb
         simp only [Option.some.injEq] at h;subst h
         have hv:=eH I heq
         have he:=xY I ho hu hsz hhi hlo hb0 fk cc
         generalize zL:a.eval x=v at hv
         cases hv with
         |nV=>
          obtain rfl:ll=0:=by omega
          obtain rfl:hh=0:=by omega
          refine bg I (he _ _ (Nat.le_refl _) zL) (bu ?_)
          simp;exact .nV
         |sl hr h1 hl hn hc hp=>
          rename_i cap b o' vs
          refine bg I (he _ _ hn zL) (bu ?_)
          have hlen:=hr.length
          have hmul:hh.toNat* sz≤n* sz:=Nat.mul_le_mul_right _ (by omega)
          have hsub:(hh.toNat - ll.toNat)* sz=hh.toNat* sz - ll.toNat* sz:=Nat.sub_mul ..
          have Ux:ll.toNat* sz≤hh.toNat* sz:=Nat.mul_le_mul_right _ (by omega)
          by_cases hcl:cap=ll.toNat
          · rw [if_pos hcl]
            have h0:hh.toNat - ll.toNat=0:=by omega
            rw [h0]
            have:=Rp.sl (w:=w) (Pr:=Pr) (sz:=sz) (n:=0) (cap:=cap - ll.toNat) (b:=b) (o:=o') .nil (by simp) (by simp) (Nat.zero_le _) (fun j v hj=>by simp at hj) (fun i hi=>by simp at hi)
            simpa using this
          · rw [if_neg hcl]
            simp only [Option.map_some,Addr.add_mid]
            refine .sl ((hr.drop _).take _) (fun v hv=>h1 v (List.mem_of_mem_drop (List.mem_of_mem_take hv))) ?_ (by omega) (iP (dy hc _) _) (fun i hi=> ?_)
            · simp only [List.length_take,List.length_drop];omega
            · rw [Nat.add_assoc];refine hp _ ?_;simp at hi;omega
       · simp at h
     · simp at h
   · simp at h
 · rename_i p hne heq
   rw [Option.bind_eq_some_iff] at h
   obtain ⟨v,hv,h⟩:=h
   have hx:=qu hv (eH I heq)
   split at h
   · refine iN I ?_ h;simp only [execOp,ho,hx];rfl
   · rw [Option.bind_eq_some_iff] at h
     obtain ⟨l,hl,h⟩:=h
     refine iN I ?_ h;simp only [execOp,ho,hx,Option.map_some,fB I hl];rfl
   · rw [Option.bind_eq_some_iff] at h
     obtain ⟨l,hl,h⟩:=h
     refine iN I ?_ h;simp only [execOp,ho,hx,Option.map_some,fB I hl];rfl
   · rw [Option.bind_eq_some_iff] at h
     obtain ⟨l,hl,h⟩:=h
     rw [Option.bind_eq_some_iff] at h
     obtain ⟨l',hl',h⟩:=h
     refine iN I ?_ h;simp only [execOp,ho,hx,Option.map_some,fB I hl,fB I hl'];rfl
   · simp at h
 · simp at h
theorem ur:∀{cs:List PV} {l:List UInt8} {vs:List Value},bytesOf cs=some l→aM w Pr cs vs→∃xs:List Int,vs=xs.map (Value.int .u8)∧l=xs.map fun n=>UInt8.ofNat n.toNat
 |[],l,vs,h,k=>by simp [bytesOf] at h;cases k;subst h;exact ⟨[],rfl,rfl⟩
 | .lit v::cs,l,vs,h,k=>by
   cases k with
   |cons h1 h2=>
    cases h1
    unfold bytesOf at h
    split at h
    · simp at*
    · rename_i n cs' heq
      simp only [List.cons.injEq,PV.lit.injEq] at heq
      obtain ⟨rfl,rfl⟩:=heq
      simp only [Option.map_eq_some_iff] at h
      obtain ⟨q,hq,rfl⟩:=h
      obtain ⟨xs,rfl,rfl⟩:=ur hq h2
      exact ⟨n::xs,rfl,rfl⟩
    · simp at h
 | .sl .. ::_,l,vs,h,k=>by simp [bytesOf] at h
 | .el .. ::_,l,vs,h,k=>by simp [bytesOf] at h
 | .fn .. ::_,l,vs,h,k=>by simp [bytesOf] at h
 | .ag .. ::_,l,vs,h,k=>by simp [bytesOf] at h
 | .aQ .. ::_,l,vs,h,k=>by simp [bytesOf] at h
theorem Bg (I:Inv base w Pr bk st a N) {o:Oper} {m:Made} {call:Cl} {src dst:TypeId} {x:Operand} (ho:o.op= .convert src dst x) (h:quiet P call o st=some m):gR P base w Pr bk st a o m:=by
 simp only [quiet,ho] at h
 split at h
 · rename_i n cs heq
   split at h
   · rename_i e hs hd
     split at h
     · rename_i he
       simp only [Option.map_eq_some_iff] at h
       obtain ⟨l,hl,rfl⟩:=h
       have hv:=iw I heq
       generalize hx:a.eval x=v at hv
       cases hv with
       |nV=>
        simp [bytesOf] at hl;subst hl
        refine bg I (v:= .string ByteArray.empty) ?_ (bu ?_)
        · simp only [execOp,ho,hx];exact dB (run_convert_bytes_nil w src e hs he 0 0 dst hd)
        · exact Rp.lit rfl
       |sl hr h1 hlen hn hc hp=>
        obtain ⟨xs,rfl,rfl⟩:=ur hl hr
        have mN:=hr.length
        simp at mN
        refine bg I (v:= .string (strOfNums xs)) ?_ (bu ?_)
        · simp only [execOp,ho,hx]
          refine dB (run_convert_bytes_arg w src e hs he _ _ n _ xs (by omega) (fun i hi=> ?_) dst hd)
          have:=hc i (.int .u8 (xs.getD i 0)) (by simp [List.getElem?_eq_getElem (show i<xs.length by omega)])
          exact this
        · exact Rp.lit rfl
     · simp at h
   · simp at h
 · rename_i p hne heq
   rw [Option.bind_eq_some_iff] at h
   obtain ⟨v,hv,h⟩:=h
   refine iN I ?_ h
   simp only [execOp,ho,qu hv (iw I heq)]
 · simp at h
theorem xo:∀(l:List Value) (k off:Nat) (arr:Array Value),off+k+l.length≤arr.size→
  ((l.zipIdx k).foldl (fun cs x=>cs.setIfInBounds (off+x.2) x.1) arr).toList=arr.toList.take (off+k)++l++arr.toList.drop (off+k+l.length)
 |[],k,off,arr,h=>by simp
 |v::l,k,off,arr,h=>by
  simp only [List.length_cons] at h
  simp only [List.zipIdx_cons,List.foldl_cons]
  rw [xo l (k+1) off _ (by simp;omega)]
  simp only [Array.toList_setIfInBounds,List.length_cons]
  have e1:off+(k+1)=off+k+1:=by omega
  have e2:off+k+1+l.length=off+k+(l.length+1):=by omega
  rw [e1,e2,List.take_set,List.drop_set_of_lt (by omega)]
  have hlt:off+k<arr.toList.length:=by simp;omega
  rw [List.take_succ_eq_append_getElem hlt,List.set_append_right _ _ (by simp;omega)]
  simp [Nat.min_eq_left (show off+k≤arr.size by omega)]
inductive oA (w:World) (Pr:aC):List (Nat×PV)→List (Nat×Value)→Prop
 |nil:oA w Pr [] []
 |cons {i:Nat} {p:PV} {v:Value} {l:List (Nat×PV)} {k:List (Nat×Value)} (h:Rp w Pr p v) (ht:fX p=false) (hs:oA w Pr l k):oA w Pr ((i,p)::l) ((i,v)::k)
def aY (vs:List Value) (off:Nat) (new:List Value):List Value:=vs.take off++new++vs.drop (off+new.length)
theorem nG {place:Nat→Option (Nat×Nat)}:∀{l:List (Nat×PV)} {k:List (Nat×Value)} {cells out:List PV} {vs:List Value},oA w Pr l k→jj place cells l=some out→aM w Pr cells vs→One vs→
  ∃us,Instr.fill place vs.toArray k=some us.toArray∧aM w Pr out us∧One us
 |_,_,cells,out,vs, .nil,h,hr,h1=>by simp [jj] at h;subst h;exact ⟨vs,by simp [Instr.fill],hr,h1⟩
 |_,_,cells,out,vs, .cons (i:=i) (p:=p) (v:=v) hp ht hs,h,hr,h1=>by
  simp only [jj] at h
  split at h
  · simp at h
  · rename_i off size oN
    split at h
    · simp at h
    · rename_i hsz
      simp only [not_or,Decidable.not_not,Nat.not_lt] at hsz
      obtain ⟨fK,gl⟩:=hp.iB (fun us e=>by rw [e] at ht;simp [fX] at ht)
      have hl:=fK.length
      have hlen:=hr.length
      have hv:v.cells.toList.length=size:=by rw [←hl];exact hsz.1
      have hvs:v.cells.size=size:=by rw [←hv];simp
      have Oe:(v.cells.zipIdx.foldl (fun cs (x:Value×Nat)=>cs.setIfInBounds (off+x.2) x.1) vs.toArray)=(aY vs off v.cells.toList).toArray:=by
       apply Array.ext'
       have:=xo v.cells.toList 0 off vs.toArray (by simp only [List.size_toArray,Nat.add_zero];omega)
       rw [←Array.foldl_toList,Array.toList_zipIdx]
       simpa [aY] using this
      obtain ⟨us,mQ,jc,zH⟩:=nG hs h (show aM w Pr (splice cells off p.cells) (aY vs off v.cells.toList) by
       unfold splice aY
       rw [hl]
       exact ((hr.take off).app fK).app (hr.drop _)) (fun u hu=>by
       unfold aY at hu
       simp only [List.mem_append] at hu
       rcases hu with (hu|hu)|hu
       · exact h1 u (List.mem_of_mem_take hu)
       · exact gl u hu
       · exact h1 u (List.mem_of_mem_drop hu))
      refine ⟨us, ?_,jc,zH⟩
      rw [←mQ,←Oe]
      simp only [Instr.fill,oN]
      rw [if_neg]
      simp only [List.size_toArray,bne_iff_ne,ne_eq,Bool.or_eq_true,decide_eq_true_eq,not_or,Decidable.not_not,Nat.not_lt]
      omega
end
end Go.Proofs.YtibbgjafjhcemaaGreatDoor.Cul
namespace Go.Proofs.YtibbgjafjhcemaaGreatDoor.Cul
open Go Go.RowKit
section
variable {P:Program} {base:Nat} {w:World} {Pr:aC} {bk:Key→Nat} {st:St} {a:Act} {N:Nat}
theorem qf (I:Inv base w Pr bk st a N):∀{l:List (Nat×Operand)} {ps:List (Nat×PV)},partsOf st l=some ps→oA w Pr ps (l.map fun x=>(x.1,a.eval x.2))
 |[],ps,h=>by simp [partsOf] at h;subst h;exact .nil
 |(i,x)::l,ps,h=>by
  simp only [partsOf,Option.bind_eq_some_iff] at h
  obtain ⟨p,hp,h⟩:=h
  split at h
  · simp at h
  · rename_i ht
    simp only [Option.map_eq_some_iff] at h
    obtain ⟨qs,hq,rfl⟩:=h
    exact .cons (iw I hp) (by simpa using ht) (qf I hq)
theorem s7 (P:Program):∀(l:List Field) (pl:List (Nat×Nat)),placesOf P l=some pl→l.mapM (fun f=>(P.info? f.type).map fun i=>(f.offset,i.size))=some pl
 |[],pl,h=>by simp [placesOf] at h;subst h;rfl
 |f::l,pl,h=>by
  simp only [placesOf,Option.bind_eq_some_iff,Option.map_eq_some_iff] at h
  obtain ⟨s,hs,q,hq,rfl⟩:=h
  obtain ⟨i,h1,h2⟩:=iX hs
  simp [List.mapM_cons,h1,h2,s7 P l q hq]
theorem kN {t:TypeId} {z:PV} (h:ju P t=some z):∃i v,P.info? t=some i∧i.zero=some v∧Rp w Pr z v:=by
 simp only [ju,Option.bind_eq_some_iff] at h
 obtain ⟨v,⟨i,h1,h2⟩,h3⟩:=h
 exact ⟨i,v,h1,h2,sA h3⟩
theorem Bf {v:Value} {p:PV} (h:iM v=some p):fX p=false:=by
 unfold iM at h
 split at h
 · simp only [Option.map_eq_some_iff] at h;obtain ⟨_,_,rfl⟩:=h;rfl
 · split at h
   · simp at h;subst h;rfl
   · simp at h
theorem iT {t:TypeId} {z:PV} (h:ju P t=some z):fX z=false:=by
 simp only [ju,Option.bind_eq_some_iff] at h
 obtain ⟨v,_,h3⟩:=h
 exact Bf h3
theorem iJ {p:PV} (h:fX p=false):∀vs,p≠ .aQ vs:=fun vs e=>by rw [e] at h;simp [fX] at h
theorem FA (I:Inv base w Pr bk st a N) {o:Oper} {m:Made} {call:Cl} {t:TypeId} {parts:Array (Nat×Operand)} (ho:o.op= .build t parts) (h:quiet P call o st=some m):gR P base w Pr bk st a o m:=by
 simp only [quiet,ho] at h
 split at h
 · rename_i z ps hz hps
   have ER:=qf I hps
   obtain ⟨i,zv,hi,qD,qC⟩:=kN (w:=w) (Pr:=Pr) hz
   have oN:(parts.map fun (i,x)=>(i,a.eval x)).toList=parts.toList.map fun x=>(x.1,a.eval x.2):=by simp
   have fin:∀out vs,aM w Pr out vs→One vs→P.built t (parts.toList.map fun x=>(x.1,a.eval x.2))=some vs.toArray→gR P base w Pr bk st a o { v:= .pv (.ag out)}:=fun out vs h1 h2 h3=>by
    refine bg I (v:= .agg vs.toArray) ?_ (bu (.ag h1 h2))
    simp only [execOp,ho]
    refine dB (run_build w t _ _ ?_)
    rw [oN];exact h3
   generalize Pw:zv=zz at qC
   cases qC with
   |ag hzl BR=>
    split at h
    · rename_i fs hu
      rw [Option.bind_eq_some_iff] at h
      obtain ⟨pl,QB,h⟩:=h
      simp only [Option.map_eq_some_iff] at h
      obtain ⟨out,hf,rfl⟩:=h
      obtain ⟨us,h1,h2,h3⟩:=nG ER hf hzl BR
      refine fin out us h2 h3 ?_
      have I9:=s7 P _ _ QB
      simp only [Program.built,hi,hu,qD,Pw,I9]
      rw [←h1];simp [Value.cells]
    · rename_i n e hu
      rw [Option.bind_eq_some_iff] at h
      obtain ⟨s,hs,h⟩:=h
      simp only [Option.map_eq_some_iff] at h
      obtain ⟨out,hf,rfl⟩:=h
      obtain ⟨us,h1,h2,h3⟩:=nG ER hf hzl BR
      refine fin out us h2 h3 ?_
      obtain ⟨ie,Ur,Qv⟩:=iX hs
      simp only [Program.built,hi,hu,qD,Pw,Ur,Qv]
      rw [←h1];simp [Value.cells]
    · simp at h
 · simp at h
theorem qx {z:List PV} {zv:List Value} (h:aM w Pr z zv):∀n,aM w Pr (bl z n) (bl zv n)
 |0=> .nil
 |n+1=>h.app (qx h n)
theorem tA {zv:List Value} (h:One zv):∀n,One (bl zv n)
 |0=>fun v hv=>by simp [bl] at hv
 |n+1=>fun v hv=>by
  simp only [bl,List.mem_append] at hv
  rcases hv with hv|hv
  · exact h v hv
  · exact tA h n v hv
theorem ff {α:Type} (z:List α):∀n,(bl z n).length=n* z.length
 |0=>by simp [bl]
 |n+1=>by simp [bl,ff z n,Nat.add_mul,Nat.add_comm]
theorem tv {α:Type} (z:List α):∀(n i:Nat),i<n* z.length→(bl z n)[i]? =z[i%z.length]?
 |0,i,h=>by simp at h
 |n+1,i,h=>by
  simp only [bl]
  by_cases hi:i<z.length
  · rw [List.getElem?_append_left hi,Nat.mod_eq_of_lt hi]
  · rw [List.getElem?_append_right (by omega),tv z n (i - z.length) (by rw [Nat.add_mul] at h;omega)]
    congr 1
    rw [←Nat.mod_eq_sub_mod (by omega)]
theorem A4 (zv:Array Value) (n:Nat):((Array.range (n* zv.size)).map (zv[· %zv.size]!))=(bl zv.toList n).toArray:=by
 apply Array.ext'
 apply List.ext_getElem?
 intro i
 have hl:zv.toList.length=zv.size:=by simp
 by_cases hi:i<n* zv.size
 · have hlt:i%zv.size<zv.size:=Nat.mod_lt _ (by rcases Nat.eq_zero_or_pos zv.size with h|h<;>simp_all)
   have:=tv zv.toList n i (by rw [hl];exact hi)
   rw [show (bl zv.toList n).toArray.toList=bl zv.toList n from rfl,this,hl]
   simp [hi,getElem!_pos,hlt]
 · rw [List.getElem?_eq_none (by simpa using hi),List.getElem?_eq_none (by simp [ff];omega)]
theorem ze (I:Inv base w Pr bk st a N) (ob:Obj) (n:Nat):Fw w Pr (w.alloc ob) (fun b o=>Pr b o∨(b=w.heap.size∧o<n)):=
 ⟨(Below.refl _ _).alloc (Nat.le_refl _) _,fun b o h=> .inl h,fun b o hb h=>h.resolve_right (fun h=>by omega),fun b o h=>by
   simp only [World.size_alloc]
   rcases h with h|h
   · have:=I.bH b o h;omega
   · omega⟩
theorem heap_alloc (w:World) (ob:Obj):(w.alloc ob).heap[w.heap.size]? =some ob:=heap_alloc_new w ob
theorem FO (I:Inv base w Pr bk st a N) {cs:List PV} {vs:List Value} {sz n:Nat} {T:TypeId} (hr:aM w Pr cs vs) (h1:One vs) (hl:cs.length=n* sz):
  Rp (w.alloc (.cells vs.toArray T)) (fun b o=>Pr b o∨(b=w.heap.size∧o<n* sz)) (.sl sz n cs) (.slice (some ⟨w.heap.size,0,none⟩) n n):=by
 have hf:=ze I (.cells vs.toArray T) (n* sz)
 have hlen:=hr.length
 refine .sl (aM.mono (hf.kp I.bH) hr) h1 hl (Nat.le_refl _) (fun j v hj=> ?_) (fun i hi=> .inr ⟨rfl,by omega⟩)
 rw [cell_of_row _ _ _ _ _ _ (heap_alloc w _)]
 simpa using hj
theorem Bj (I:Inv base w Pr bk st a N) {vs:List Value} {sz n:Nat} {T:TypeId} (hsz:0<sz) (hl:vs.length=n* sz):
  Room (w.alloc (.cells vs.toArray T)) (fun b o=>Pr b o∨(b=w.heap.size∧o<n* sz)) w.heap.size 0 n n sz:=
 ⟨hsz,Nat.le_refl _,⟨_,_,heap_alloc w _,by simp [hl]⟩,fun o' h=>by
  rcases h with h|h
  · exact absurd (I.bH _ _ h) (by omega)
  · omega⟩
theorem vw (T:TypeId) (c:Array Value) (w:World):(newRow T c).run P w= .ok ⟨w.heap.size,0,none⟩ (w.alloc (.cells c T)):=by
 rfl
theorem wQ (I:Inv base w Pr bk st a N) {o:Oper} {m:Made} {call:Cl} {t:TypeId} {len:Nat} {parts:Array (Nat×Operand)} (ho:o.op= .buildSlice t len parts) (h:quiet P call o st=some m):gR P base w Pr bk st a o m:=by
 simp only [quiet,ho] at h
 split at h
 · rename_i e hu
   rw [Option.bind_eq_some_iff] at h
   obtain ⟨s,hs,h⟩:=h
   rw [Option.bind_eq_some_iff] at h
   obtain ⟨z,hz,h⟩:=h
   split at h
   · rename_i gN
     rw [Option.bind_eq_some_iff] at h
     obtain ⟨ps,hps,h⟩:=h
     simp only [Option.map_eq_some_iff] at h
     obtain ⟨out,hf,rfl⟩:=h
     obtain ⟨i,zv,hi,qD,qC⟩:=kN (w:=w) (Pr:=Pr) hz
     obtain ⟨zM,BR⟩:=qC.iB (iJ (iT hz))
     have hzl:=zM.length
     have hsz:zv.cells.size=s:=by rw [←gN.2,hzl];simp
     obtain ⟨us,h1,h2,h3⟩:=nG (qf I hps) hf (qx zM len) (tA BR len)
     have Po:us.length=len* s:=by
      have:=h2.length
      have hout:∀{l:List (Nat×PV)} {c d:List PV},jj (fun i=>some (i* s,s)) c l=some d→d.length=c.length:=by
       intro l
       induction l with
       |nil=>intro c d h;simp [jj] at h;subst h;rfl
       |cons x l ih=>
        intro c d h
        simp only [jj] at h
        split at h
        · simp at h
        · rename_i gl
          rw [ih h]
          simp only [splice,List.length_append,List.length_take,List.length_drop]
          omega
      rw [←this,hout hf,ff,gN.2]
     intro K Q hK
     have hrun:(execOp a.eval o).run P w= .ok (.value (.slice (some ⟨w.heap.size,0,none⟩) len len)) (w.alloc (.cells us.toArray e)):=by
      simp only [execOp,ho]
      refine dB ?_
      have MB:((Array.range (len* s)).map (zv.cells[· %zv.cells.size]!))=(bl zv.cells.toList len).toArray:=by rw [←hsz];exact A4 _ _
      have oN:(parts.map fun (i,x)=>(i,a.eval x)).toList=parts.toList.map fun x=>(x.1,a.eval x.2):=by simp
      have hno:¬16777216<len* s:=by have:=gN.1;omega
      simp only [Instr.buildSlice,Sem.run_bind,eX hu,Result.andThen_ok,fN hs]
      have zi:Instr.fill (fun i=>some (i* s,s)) (bl zv.cells.toList len).toArray (Array.map (fun x=>(x.fst,a.eval x.snd)) parts).toList=some us.toArray:=by
       rw [Array.toList_map];exact h1
      rw [if_neg (by simpa using hno)]
      have rj:=vw (P:=P) e us.toArray w
      by_cases h0:len* s=0
      · rw [if_pos h0]
        have Uh:(bl zv.cells.toList len).toArray= #[]:=by
         have:(bl zv.cells.toList len).length=0:=by rw [ff];simp [hsz,h0]
         simp [List.length_eq_zero_iff.1 this]
        rw [Uh] at zi
        simp only [Sem.run_bind,Sem.run_pure,Result.andThen_ok,h0]
        have BP:Array.range 0= #[]:=rfl
        simp only [BP,List.map_toArray,List.map_nil,zi,Sem.run_bind,rj,Result.andThen_ok,Sem.run_pure]
      · rw [if_neg h0]
        simp only [Sem.run_bind,Sem.run_pure,Result.andThen_ok,zeroValue,typeInfo,program,Sem.run,hi,qD,MB,zi,rj]
     unfold Oper.wp
     rw [hrun]
     refine hK _ _ _ (ze I _ (len* s)) ⟨fun _ _=>FO I h2 h3 (by rw [h2.length];exact Po),fun _ _ _ h=>by simp at h,fun z' dP=> ?_,fun q h=>by simp at h⟩
     simp only at dP
     split at dP
     · simp at dP
     · rename_i Uz
       simp only [Option.some.injEq] at dP;subst dP
       simp only [not_or] at Uz
       exact ⟨w.heap.size,0,len,len,out,rfl,rfl,Bj I (by omega) Po,rfl,I.hb,by simp,fun x hx=>by have:=(I.own x hx).2;omega⟩
   · simp at h
 · simp at h
end
end Go.Proofs.YtibbgjafjhcemaaGreatDoor.Cul
namespace Go.Proofs.YtibbgjafjhcemaaGreatDoor.Cul
open Go Go.RowKit
section
variable {P:Program} {base:Nat} {w:World} {Pr:aC} {bk:Key→Nat} {st:St} {a:Act} {N:Nat}
theorem Az {call:Cl} (hC:aH P call) (I:Inv base w Pr bk st a N) {o:Oper} {m:Made} (h:quiet P call o st=some m):gR P base w Pr bk st a o m:=by
 cases ho:o.op with
 |move x=>exact HW I ho h
 |pick c x y=>exact HX I ho h
 |binOp op t x y u=>exact Fz I ho h
 |unOp op t x=>exact HY I ho h
 |convert s d x=>exact Bg I ho h
 |fieldAddr s x f=>exact yh I ho h
 |field s x f=>exact FB I ho h
 |indexAddr t x i=>exact yj I ho h
 |index t x i=>exact FC I ho h
 |load t x=>exact HV I ho h
 |build t ps=>exact FA I ho h
 |buildSlice t n ps=>exact wQ I ho h
 |extract x i=>exact Bh I ho h
 |slice t x lo hi mx=>exact FD I ho h
 |makeFunc f fi ca=>exact At I ho h
 |nilCheck x=>exact Au I ho h
 |call c=>
  obtain ⟨callee,args,ts⟩:=c
  cases callee with
  |value g=>exact HU I hC ho h
  |builtin b=>
   cases b with
   |len=>exact KG I ho h
   |max=>exact KH I ho h
   |min=>exact KI I ho h
   |_=>simp [quiet,ho] at h
  |invoke r n=>simp [quiet,ho] at h
 |_=>simp [quiet,ho] at h
def jF (P:Program) (base:Nat) (w:World) (Pr:aC) (bk:Key→Nat) (st:St) (a:Act) (N:Nat) (o:Oper) (st':St):Prop:=
 ∀(K:Act→World→Prop) (Q:Exit→Act→World→Prop),
  (∀a' w' aD aN,Inv base w' aD aN st' a' N→Below base w w'→Kp w Pr w' aD→(∀b o,b<base→aD b o→Pr b o)→KO w w'→(∀k,o.dst≠some k→aN (.bx k)=bk (.bx k))→a'.defers=a.defers→K a' w')→o.wp P a w K Q
theorem Inv.less (I:Inv base w Pr bk st a N) {st':St} (hs:∀t av,look st'.sl t=some av→look st.sl t=some av∨av= .dead∧∃v,a.tmps[t]? =some v)
  (hb:∀k cs,look st'.bx k=some cs→look st.bx k=some cs) (hg:∀p z,aG st'.gr p=some z→aG st.gr p=some z∧(match p with| .s t=>look st'.sl t=look st.sl t| .c k _=>look st'.bx k=look st.bx k))
  (ht:∀t q,look st'.tg t=some (some q)→look st.tg t=some (some q))
  (hr:∀t u,(look st'.sl t=some (.xr u)∨∃off,look st'.sl t=some (.xe u off))→dS st u→dS st' u)
  (jY:∀t av k,look st'.sl t=some av→k∈ot av→∀cs,look st.bx k=some cs→look st'.bx k=some cs):Inv base w Pr bk st' a N:=by
 have bS:∀x,live st' x→live st x:=by
  intro x hx
  cases x with
  |bx k=>obtain ⟨cs,h⟩:=hx;exact ⟨cs,hb k cs h⟩
  |sx t=>
   rcases hx with ⟨sz,n,cs,h⟩|⟨z,h⟩
   · rcases hs t _ h with h|⟨h,_⟩
     · exact .inl ⟨sz,n,cs,h⟩
     · simp at h
   · exact .inr ⟨z,(hg _ z h).1⟩
  |cx k o=>obtain ⟨z,h⟩:=hx;exact ⟨z,(hg _ z h).1⟩
 constructor
 · exact I.size
 · exact I.defers
 · exact I.hb
 · exact I.bH
 · intro t av h
   rcases hs t av h with h'|⟨rfl,v,hv⟩
   · obtain ⟨v,hv,hr'⟩:=I.slots t av h'
     refine ⟨v,hv, ?_⟩
     cases av with
     |xr u=>exact ⟨hr'.1,hr t u (.inl h) hr'.2⟩
     |xe u off=>exact ⟨hr'.1,hr t u (.inr ⟨off,h⟩) hr'.2⟩
     |bs k off sz n=>exact hr'.frame rfl fun cs e=>⟨cs,jY t _ k h (by simp [ot]) cs e,rfl⟩
     |mv f k off sz n=>obtain ⟨u,h1,h2⟩:=hr';exact ⟨u,h1,h2.frame rfl fun cs e=>⟨cs,jY t _ k h (by simp [ot]) cs e,rfl⟩⟩
     |tg k off sz n rest=>obtain ⟨u,us,h1,h2,h3⟩:=hr';exact ⟨u,us,h1,h2.frame rfl fun cs e=>⟨cs,jY t _ k h (by simp [ot]) cs e,rfl⟩,h3⟩
     |_=>exact hr'
   · exact ⟨v,hv,trivial⟩
 · exact fun x hx=>I.own x (bS x hx)
 · exact fun x y hx hy=>I.inj x y (bS x hx) (bS y hy)
 · exact fun k cs h=>I.boxes k cs (hb k cs h)
 · intro t z h
   obtain ⟨h1,h2⟩:=hg _ z h
   obtain ⟨o,n,cap,cs,h3,h4,h5⟩:=I.gE t z h1
   exact ⟨o,n,cap,cs,h2.trans h3,h4,h5⟩
 · intro k i z h
   obtain ⟨h1,h2⟩:=hg _ z h
   obtain ⟨o,n,cap,cs,dc,h3,h4⟩:=I.ig k i z h1
   exact ⟨o,n,cap,cs,dc,h2.trans h3,h4⟩
 · intro t q h hq
   obtain ⟨z,hz⟩:=hq
   exact I.tags t q (ht t q h) ⟨z,(hg _ z hz).1⟩
theorem Inv.iq (I:Inv base w Pr bk st a N) {d:Nat} (hd:d<N) {m:Made} {v:Value} (h:dn base w Pr bk st a m v):∃aN,Inv base w Pr aN (st.made (some d) m) (a.put (some d) v) N∧∀k,aN (.bx k)=bk (.bx k):=by
 obtain ⟨aN,h1,h2⟩:=I.made hd h;exact ⟨aN,h1,fun k=>h2 _ (by simp)⟩
theorem eN (st:St) (d:Nat) (v:AV):st.put (some d) v=st.made (some d) { v:=v}:=rfl
theorem gD (I:Inv base w Pr bk st a N) {o:Oper} {d:Nat} (jZ:o.dst=some d) (hd:d<N) {m:Made} {v:Value} (he:(execOp a.eval o).run P w= .ok (.value v) w) (h:dn base w Pr bk st a m v):jF P base w Pr bk st a N o (st.made (some d) m):=by
 intro K Q hK
 obtain ⟨aN,h1,hbk⟩:=I.iq hd h
 refine nu he ?_
 rw [jZ]
 exact hK _ _ _ _ h1 (Below.refl _ _) (Kp.refl _ _) (fun _ _ _ h=>h) (KO.refl _) (fun k _=>hbk k) rfl
theorem pV (st:St) (p q:Pl):aG (st.gr.filter (fun x=>x.1≠p)) q=if q=p then none else aG st.gr q:=by
 have:=dY (fun x=>decide (x≠p)) st.gr q
 simp only [ne_eq,decide_not,Bool.not_eq_eq_eq_not,Bool.not_true,decide_eq_false_iff_not,ite_not] at this ⊢
 exact this
theorem u7 (p:Pl) (l:List (Nat×Option Pl)) (t:Nat):look (l.map (fL p)) t=(look l t).map fun q=>if q=some p then none else q:=
 bQ (fL p) (fun _ q=>if q=some p then none else q) (fun _=>rfl) l t
theorem Inv.release (I:Inv base w Pr bk st a N) (p:Pl):Inv base w Pr bk { st with gr:=st.gr.filter (fun x=>x.1≠p),tg:=st.tg.map (fL p)} a N:=by
 refine I.less (fun t av h=> .inl h) (fun k cs h=>h) (fun q z h=> ?_) (fun t q h=> ?_) (fun t u _ h=>h) (fun _ _ _ _ _ _ e=>e)
 · simp only at h
   rw [pV] at h
   split at h
   · simp at h
   · exact ⟨h,by cases q<;>rfl⟩
 · simp only at h
   rw [u7] at h
   cases hq:look st.tg t with
   |none=>simp [hq] at h
   |some x=>
    simp only [hq,Option.map_some,Option.some.injEq] at h
    split at h
    · simp at h
    · rw [h]
theorem j4 {p:Pl} {x:Key} (h:live { st with gr:=st.gr.filter (fun x=>x.1≠p),tg:=st.tg.map (fL p)} x) (hp:∀t,p= .s t→¬dS st t):live st x∧x≠p.key:=by
 cases x with
 |bx k=>exact ⟨h,by cases p<;>simp [Pl.key]⟩
 |sx t=>
  rcases h with h|⟨z,h⟩
  · refine ⟨.inl h,fun e=> ?_⟩
    cases p with
    |s u=>simp [Pl.key] at e;subst e;exact hp t rfl h
    |c k o=>simp [Pl.key] at e
  · simp only at h;rw [pV] at h
    split at h
    · simp at h
    · rename_i hne;exact ⟨.inr ⟨z,h⟩,fun e=>hne (by cases p with|s u=>simp [Pl.key] at e;rw [e]|c k o=>simp [Pl.key] at e)⟩
 |cx k o=>
  obtain ⟨z,h⟩:=h
  simp only at h;rw [pV] at h
  split at h
  · simp at h
  · rename_i hne;exact ⟨⟨z,h⟩,fun e=>hne (by cases p with|s u=>simp [Pl.key] at e|c k' o'=>simp [Pl.key] at e;rw [e.1,e.2])⟩
theorem CS (I:Inv base w Pr bk st a N) {o:Oper} {x:Operand} {st':St} (ho:o.op= .assign x) (hN:∀d,o.dst=some d→d<N) (h:effect P o st=some st'):jF P base w Pr bk st a N o st':=by
 have he:(execOp a.eval o).run P w= .ok (.value (a.eval x)) w:=by simp [execOp,ho]
 simp only [effect,ho] at h
 split at h
 · rename_i t sz n cs heq
   simp only [Option.map_eq_some_iff] at h
   obtain ⟨d,hd,rfl⟩:=h
   obtain ⟨v,cR,eJ⟩:=I.slots t _ heq
   have hx:a.eval (.tmp t)=v:=gL cR
   have hlk:∀u,look (bF st.sl t) u=if u=t then none else look st.sl u:=bC st.sl t
   have zA:aG st.gr (.s t)=none:=by
    cases e:aG st.gr (.s t) with
    |none=>rfl
    |some z=>obtain ⟨o',n',cap',cs',h1,_⟩:=I.gE t z e;rw [show look st.sl t=_ from heq] at h1;simp at h1
   have I2:Inv base w Pr bk { st with sl:=(bF st.sl t).map (dA t)} a N:=by
    refine I.less (fun u av h=> ?_) (fun k cs h=>h) (fun q z h=>⟨h, ?_⟩) (fun t q h=>h) (fun u x h hx=> ?_) (fun _ _ _ _ _ _ e=>e)
    · simp only at h
      rw [bQ (dA t) (fun _ av=>if bn t av then .dead else av) (fun _=>rfl),hlk] at h
      by_cases e:u=t
      · simp [e] at h
      · rw [if_neg e] at h
        cases hq:look st.sl u with
        |none=>simp [hq] at h
        |some y=>
         simp only [hq,Option.map_some,Option.some.injEq] at h
         split at h
         · obtain ⟨v,hv,_⟩:=I.slots u y hq;exact .inr ⟨h.symm,v,hv⟩
         · exact .inl (by rw [h])
    · cases q with
      |s u=>
       simp only
       rw [bQ (dA t) (fun _ av=>if bn t av then .dead else av) (fun _=>rfl),hlk]
       have e:u≠t:=fun e=>by subst e;rw [zA] at h;simp at h
       rw [if_neg e]
       obtain ⟨o',n',cap',cs',h1,_⟩:=I.gE u z h
       rw [h1];rfl
      |c k o=>rfl
    · simp only at h
      obtain ⟨sz',n',cs',hx⟩:=hx
      have EX:x≠t:=by
       intro e;subst e
       rcases h with h|⟨off,h⟩<;>
       · rw [bQ (dA x) (fun _ av=>if bn x av then .dead else av) (fun _=>rfl)] at h
         cases hq:look (bF st.sl x) u with
         |none=>simp [hq] at h
         |some y=>simp only [hq,Option.map_some,Option.some.injEq] at h;split at h<;>simp_all [bn]
      refine ⟨sz',n',cs', ?_⟩
      simp only
      rw [bQ (dA t) (fun _ av=>if bn t av then .dead else av) (fun _=>rfl),hlk,if_neg EX,hx];rfl
   obtain ⟨o',cap,vs,h1,h2,h3,h4,h5,h6,h7⟩:=eJ
   have hown:=I.own (.sx t) (.inl ⟨sz,n,cs,heq⟩)
   have hm:dn base w Pr bk { st with sl:=(bF st.sl t).map (dA t)} a { v:= .ex sz n cs} v:=by
    refine ⟨fun h=>absurd rfl (h sz n cs),fun sz' n' cs' h=> ?_,fun z h=>by simp at h,fun q h=>by simp at h⟩
    cases h
    refine ⟨rfl,_,o',cap,vs,h1,h2,h3,h4,h5,h6,h7,hown.1,hown.2,fun x hx e=> ?_⟩
    have EP:live st x∧x≠ .sx t:=by
     cases x with
     |bx k=>exact ⟨hx,by simp⟩
     |cx k o=>exact ⟨hx,by simp⟩
     |sx u=>
      have zI:u≠t:=by
       intro e2;subst e2
       rcases hx with ⟨_,_,_,hx⟩|⟨z,hx⟩
       · simp only at hx
         rw [bQ (dA u) (fun _ av=>if bn u av then .dead else av) (fun _=>rfl),hlk,if_pos rfl] at hx;simp at hx
       · simp only at hx;rw [zA] at hx;simp at hx
      refine ⟨?_,by simpa using zI⟩
      rcases hx with ⟨sz',n',cs',hx⟩|hx
      · simp only at hx
        rw [bQ (dA t) (fun _ av=>if bn t av then .dead else av) (fun _=>rfl),hlk,if_neg zI] at hx
        cases hq:look st.sl u with
        |none=>simp [hq] at hx
        |some y=>simp only [hq,Option.map_some,Option.some.injEq] at hx;split at hx<;>simp_all [live,dS]
      · exact .inr hx
    exact EP.2 (I.inj x (.sx t) EP.1 (.inl ⟨sz,n,cs,heq⟩) e)
   intro K Q hK
   obtain ⟨aN,hI,hbk⟩:=I2.iq (hN d hd) hm
   refine nu he ?_
   rw [hd,hx]
   exact hK _ _ _ _ hI (Below.refl _ _) (Kp.refl _ _) (fun _ _ _ h=>h) (KO.refl _) (fun k _=>hbk k) rfl
 · rename_i t p heq
   simp only [Option.map_eq_some_iff] at h
   obtain ⟨d,hd,h⟩:=h
   obtain ⟨v,cR,eJ⟩:=I.slots t _ heq
   have hx:a.eval (.tmp t)=v:=gL cR
   split at h
   · rename_i z hz
     split at h
     · subst h;rw [eN]
       exact gD I hd (hN d hd) he (bu (eH I heq))
     · rename_i Jc
       subst h
       have I2:=I.release (.s t)
       obtain ⟨o',n,cap,cs,h1,h2,h3,h0⟩:=I.gE t z hz
       have hp:p= .sl z n cs:=by
        have e:look st.sl t=some (.pv p):=heq
        rw [h1] at e;simpa using e.symm
       subst hp
       have hval:v= .slice (some ⟨bk (.sx t),o',none⟩) n cap:=by rw [cR] at h2;exact Option.some.inj h2
       have hown:=I.own (.sx t) (.inr ⟨z,hz⟩)
       have hne:¬dS st t:=fun ⟨_,_,_,e⟩=>by rw [h1] at e;simp at e
       intro K Q hK
       have hm:dn base w Pr bk { st with gr:=st.gr.filter (fun x=>x.1≠ .s t),tg:=st.tg.map (fL (.s t))} a { v:= .pv (.sl z n cs),gr:=some z} v:=by
        refine ⟨fun _ _=>eJ,fun _ _ _ h=>by simp at h,fun z' dP=> ?_,fun q h=>by simp at h⟩
        simp only [Option.some.injEq] at dP;subst dP
        refine ⟨bk (.sx t),o',n,cap,cs,rfl,hval,h3,h0,hown.1,hown.2,fun x hx e=> ?_⟩
        obtain ⟨hl,hk⟩:=j4 hx (fun u hu=>by cases hu;exact hne)
        exact hk (I.inj x (.sx t) hl (.inr ⟨z,hz⟩) e)
       obtain ⟨aN,hI,hbk⟩:=I2.iq (hN d hd) hm
       refine nu he ?_
       rw [hd,hx]
       exact hK _ _ _ _ hI (Below.refl _ _) (Kp.refl _ _) (fun _ _ _ h=>h) (KO.refl _) (fun k _=>hbk k) rfl
   · subst h;rw [eN]
     exact gD I hd (hN d hd) he (bu (eH I heq))
 · rename_i p hx heq
   simp only [Option.map_eq_some_iff] at h
   obtain ⟨d,hd,rfl⟩:=h
   rw [eN]
   exact gD I hd (hN d hd) he (bu (eH I heq))
 · rename_i f caps heq
   simp only [Option.map_eq_some_iff] at h
   obtain ⟨d,hd,rfl⟩:=h
   rw [eN]
   obtain ⟨t,hv⟩:=eI I heq
   exact gD I hd (hN d hd) he (cu (by simp) hv)
 · rename_i k off heq
   simp only [Option.map_eq_some_iff] at h
   obtain ⟨d,hd,rfl⟩:=h
   rw [eN]
   obtain ⟨t,hv⟩:=eI I heq
   exact gD I hd (hN d hd) he (cu (by simp) hv)
 · rename_i k off sz n heq
   simp only [Option.map_eq_some_iff] at h
   obtain ⟨d,hd,rfl⟩:=h
   rw [eN]
   obtain ⟨t,hv⟩:=eI I heq
   exact gD I hd (hN d hd) he (cu (by simp) hv)
 · rename_i f k off sz n heq
   simp only [Option.map_eq_some_iff] at h
   obtain ⟨d,hd,rfl⟩:=h
   rw [eN]
   obtain ⟨t,hv⟩:=eI I heq
   exact gD I hd (hN d hd) he (cu (by simp) hv)
 · simp at h
end
end Go.Proofs.YtibbgjafjhcemaaGreatDoor.Cul
namespace Go.Proofs.YtibbgjafjhcemaaGreatDoor.Cul
open Go Go.RowKit
section
variable {P:Program} {base:Nat} {w:World} {Pr:aC} {bk:Key→Nat} {st:St} {a:Act} {N:Nat}
theorem zU {α:Type}:∀{l:List (Nat×α)} {t:Nat} {v:α},look l t=some v→(t,v)∈l
 |[],t,v,h=>by simp [look] at h
 |(k,u)::l,t,v,h=>by
  simp only [look] at h
  split at h
  · rename_i e;simp at h;subst h;subst e;simp
  · exact List.mem_cons_of_mem _ (zU h)
theorem iG (gr:List (Pl×Nat)) (d:Nat) (q:Pl):aG (gr.filter (fun x=>x.1.eC d)) q=if q.eC d then aG gr q else none:=dY (Pl.eC d) gr q
theorem Inv.dj (I:Inv base w Pr bk st a N) {d b:Nat} {cs:List PV} {vs:List Value} {c:Array Value} {T:TypeId} {st':St} {um:AV} {v0:Value} (hd:d<N) (hb:w.heap[b]? =some (.cells c T (0,0))) (hpre:vs<+:c.toList) (fk:base≤b) (cc:∀x,live st x→bk x≠b) (nI:∀o,¬Pr b o)
  (hr:aM w Pr cs vs) (h1:One vs) (uK:bn d um=false) (Qz:∀sz n cs,um≠ .ex sz n cs) (oO:∀(tj:St) (a2:Act) (gh:Key→Nat) (t:Nat),look tj.bx d=some cs→gh (.bx d)=b→dD tj a2 w Pr gh t um v0)
  (h:st.dj d cs um=some st'):∃aN,Inv base w Pr aN st' (a.put (some d) v0) N∧(∀x,live st' x→(x= .bx d∧aN x=b)∨(live st x∧aN x=bk x))∧∀k,k≠d→aN (.bx k)=bk (.bx k):=by
 have hN:d<a.tmps.size:=by rw [I.size];exact hd
 have pQ:b<w.heap.size:=(Array.getElem?_eq_some_iff.1 hb).1
 simp only [St.dj] at h
 split at h
 · rename_i hall
   simp only [Option.some.injEq] at h
   obtain ⟨aN,fm,hk2⟩:∃aN:Key→Nat,(∀x,x≠ .bx d→aN x=bk x)∧aN (.bx d)=b:=⟨fun x=>if x= .bx d then b else bk x,fun x hx=>if_neg hx,if_pos rfl⟩
   have mP:∀t av,look st'.sl t=some av→(t=d∧av=um)∨(t≠d∧(av= .dead∧(∃Le,look st.sl t=some Le)∨(bn d av=false∧look st.sl t=some av))∧ir d av=true):=by
    intro t av ht
    rw [←h] at ht;simp only at ht
    by_cases e:t=d
    · rw [jD,if_pos e] at ht;simp [uK] at ht;exact .inl ⟨e,ht.symm⟩
    · refine .inr ⟨e, ?_, ?_⟩
      · rw [jD,if_neg e] at ht
        cases hq:look st.sl t with
        |none=>simp [hq] at ht
        |some x=>
         simp only [hq,Option.map_some,Option.some.injEq] at ht
         split at ht
         · exact .inl ⟨ht.symm,x,rfl⟩
         · rename_i hx;subst ht;exact .inr ⟨by simpa using hx,rfl⟩
      · have:look (bF (st.put (some d) um).sl d) t=some av:=by rw [bC,if_neg e];exact ht
        exact List.all_eq_true.1 hall _ (zU this)
   have de:∀k cs',look st'.bx k=some cs'→(k=d∧cs'=cs)∨(k≠d∧look st.bx k=some cs'):=by
    intro k cs' hk
    rw [←h] at hk;simp only [look] at hk
    split at hk
    · rename_i e;simp at hk;exact .inl ⟨e.symm,hk.symm⟩
    · rename_i e;rw [bC,if_neg (Ne.symm e)] at hk;exact .inr ⟨Ne.symm e,hk⟩
   have dJ:∀p z,aG st'.gr p=some z→p≠ .s d∧p.eC d=true∧aG st.gr p=some z:=by
    intro p z hp
    rw [←h] at hp;simp only at hp
    rw [iG,xE] at hp
    split at hp
    · rename_i hnb
      split at hp
      · simp at hp
      · exact ⟨‹_›,hnb,hp⟩
    · simp at hp
   have hbk:∀k,k≠d→aN (.bx k)=bk (.bx k):=fun k hk=>fm _ (by simpa using hk)
   have qA:∀t,aN (.sx t)=bk (.sx t):=fun t=>fm _ (by simp)
   have BO:∀k o,aN (.cx k o)=bk (.cx k o):=fun k o=>fm _ (by simp)
   have hex:∀x,x≠d→dS st x→dS st' x:=by
    rintro x hx ⟨sz,n,c,hl⟩
    refine ⟨sz,n,c, ?_⟩
    rw [←h];simp only;rw [jD,if_neg hx,hl];rfl
   have bS:∀x,live st' x→(x≠ .bx d∧live st x)∨x= .bx d:=by
    intro x hx
    cases x with
    |bx k=>
     obtain ⟨cs',hk⟩:=hx
     rcases de k cs' hk with ⟨rfl,_⟩|⟨hne,hk⟩
     · exact .inr rfl
     · exact .inl ⟨by simpa using hne,cs',hk⟩
    |sx t=>
     refine .inl ⟨by simp, ?_⟩
     rcases hx with ⟨sz,n,c,hl⟩|⟨z,hz⟩
     · rcases mP t _ hl with ⟨_,e⟩|⟨_,⟨e,_⟩|⟨_,e⟩,_⟩
       · exact absurd e.symm (Qz _ _ _)
       · simp at e
       · exact .inl ⟨sz,n,c,e⟩
     · exact .inr ⟨z,(dJ _ z hz).2.2⟩
    |cx k o=>obtain ⟨z,hz⟩:=hx;exact .inl ⟨by simp,z,(dJ _ z hz).2.2⟩
   refine ⟨aN, ?_,fun x hx=>(bS x hx).elim (fun h=> .inr ⟨h.2,fm x h.1⟩) (fun h=> .inl ⟨h,h ▸hk2⟩),hbk⟩
   constructor
   · simp [Act.put,I.size]
   · exact I.defers
   · exact I.hb
   · exact I.bH
   · intro t av ht
     rcases mP t av ht with ⟨rfl,rfl⟩|⟨hne,uK,hnp⟩
     · exact ⟨_,by rw [ck hN,if_pos rfl],oO _ _ _ _ (by rw [←h];simp [look]) hk2⟩
     · rcases uK with ⟨rfl,Le,Qh⟩|⟨C8,uK⟩
       · obtain ⟨v,hv,_⟩:=I.slots t Le Qh
         exact ⟨v,by rw [ck hN,if_neg hne];exact hv,trivial⟩
       · obtain ⟨v,hv,cQ⟩:=I.slots t av uK
         refine ⟨v,by rw [ck hN,if_neg hne];exact hv, ?_⟩
         cases av with
         |pv p=>exact cQ
         |bp k off=>simp only [dD] at cQ ⊢;rw [hbk k (by simpa [ir] using hnp)];exact cQ
         |cl f caps=>
          obtain ⟨us,e1,e2,e3⟩:=cQ
          refine ⟨us,e1,e2,fun i c x hc hx=> ?_⟩
          have e4:=e3 i c x hc hx
          cases c with
          |pv p=>exact e4
          |bp k off=>
           have:k≠d:=by
            have:=List.all_eq_true.1 hnp (.bp k off) (List.mem_of_getElem? hc)
            simpa [D8] using this
           simp only [gJ] at e4 ⊢;rw [hbk k this];exact e4
         |ex sz n c=>simp only [dD] at cQ ⊢;rw [qA];exact cQ
         |xr u=>
          have hu:u≠d:=by intro e;simp [bn,e] at C8
          exact ⟨by rw [ck hN,if_neg hu];exact cQ.1,hex u hu cQ.2⟩
         |xe u off=>
          have hu:u≠d:=by intro e;simp [bn,e] at C8
          obtain ⟨⟨b',o',n',cap',e1,e2⟩,e3⟩:=cQ
          exact ⟨⟨b',o',n',cap',by rw [ck hN,if_neg hu];exact e1,e2⟩,hex u hu e3⟩
         |bV _ _=>exact cQ
         |dead=>trivial
         |bs k off sz n=>
          have hk:k≠d:=by simpa [ir] using hnp
          exact cQ.frame (hbk k hk) fun cs' e=>⟨cs',by rw [←h];simp only [look];rw [if_neg (Ne.symm hk),bC,if_neg hk];exact e,rfl⟩
         |mv f k off sz n=>
          have hk:k≠d:=by simpa [ir] using hnp
          obtain ⟨u,e1,e2⟩:=cQ
          exact ⟨u,e1,e2.frame (hbk k hk) fun cs' e=>⟨cs',by rw [←h];simp only [look];rw [if_neg (Ne.symm hk),bC,if_neg hk];exact e,rfl⟩⟩
         |tg k off sz n rest=>
          have hk:k≠d:=by simpa [ir] using hnp
          obtain ⟨u,us,e1,e2,e3⟩:=cQ
          exact ⟨u,us,e1,e2.frame (hbk k hk) fun cs' e=>⟨cs',by rw [←h];simp only [look];rw [if_neg (Ne.symm hk),bC,if_neg hk];exact e,rfl⟩,e3⟩
   · intro x hx
     rcases bS x hx with ⟨hne,hx⟩|rfl
     · rw [fm x hne];exact I.own x hx
     · rw [hk2];exact ⟨fk,pQ⟩
   · intro x y hx hy e
     rcases bS x hx with ⟨hne,hx⟩|rfl
     · rcases bS y hy with ⟨Hq,hy⟩|rfl
       · rw [fm x hne,fm y Hq] at e;exact I.inj x y hx hy e
       · rw [fm x hne,hk2] at e;exact absurd e (cc x hx)
     · rcases bS y hy with ⟨Hq,hy⟩|rfl
       · rw [hk2,fm y Hq] at e;exact absurd e.symm (cc y hy)
       · rfl
   · intro k cs' hk
     rcases de k cs' hk with ⟨rfl,rfl⟩|⟨hne,hk⟩
     · rw [hk2];exact ⟨⟨T,c,vs,hb,hpre,hr,h1⟩,nI⟩
     · rw [hbk k hne];exact I.boxes k cs' hk
   · intro t z hz
     obtain ⟨hne,_,hz⟩:=dJ _ z hz
     have hne:t≠d:=fun e=>hne (by rw [e])
     obtain ⟨o,n,cap,c,e1,e2,e3,e0⟩:=I.gE t z hz
     refine ⟨o,n,cap,c, ?_,by rw [ck hN,if_neg hne,qA];exact e2,by rw [qA];exact e3,e0⟩
     rw [←h];simp only;rw [jD,if_neg hne,e1];rfl
   · intro k i z hz
     obtain ⟨_,hnb,hz⟩:=dJ _ z hz
     have hne:k≠d:=by simpa [Pl.eC] using hnb
     obtain ⟨o,n,cap,c,dc,e1,e2,e3,e4,e0⟩:=I.ig k i z hz
     refine ⟨o,n,cap,c,dc, ?_,e2,by rw [hbk k hne,BO];exact e3,by rw [BO];exact e4,e0⟩
     rw [←h];simp only [look];rw [if_neg (Ne.symm hne),bC,if_neg hne];exact e1
   · intro t q ht hq
     rw [←h] at ht;simp only at ht
     rw [bQ (me d) (fun _ x=>x.bind fun p=>if p.eC d then some p else none) (fun _=>rfl),xF] at ht
     by_cases e:t=d
     · simp [e] at ht
     · rw [if_neg e] at ht
       cases hm:look st.tg t with
       |none=>simp [hm] at ht
       |some p=>
        simp only [hm,Option.map_some,Option.some.injEq,Option.bind_eq_some_iff] at ht
        obtain ⟨p',hp',ht⟩:=ht
        split at hp'
        · simp at hp'
        · rename_i hps
          subst hp'
          split at ht
          · rename_i hnb
            simp only [Option.some.injEq] at ht;subst ht
            obtain ⟨z,hz⟩:=hq
            obtain ⟨sU,_,hz⟩:=dJ _ z hz
            rw [ck hN,if_neg e,←I.tags t _ hm ⟨z,hz⟩]
            cases p' with
            |s u=>simp only [cN];rw [ck hN,if_neg (fun e=>sU (by rw [e]))]
            |c k o=>simp only [cN];rw [hbk k (by simpa [Pl.eC] using hnb)]
          · simp at ht
 · simp at h
theorem Inv.mT (I:Inv base w Pr bk st a N) {d b:Nat} {cs:List PV} {vs:List Value} {T:TypeId} {st':St} (hd:d<N) (hb:w.heap[b]? =some (.cells vs.toArray T (0,0))) (fk:base≤b) (cc:∀x,live st x→bk x≠b) (nI:∀o,¬Pr b o)
  (hr:aM w Pr cs vs) (h1:One vs) (h:st.mT d cs=some st'):∃aN,Inv base w Pr aN st' (a.put (some d) (.pointer (some ⟨b,0,none⟩))) N∧(∀x,live st' x→(x= .bx d∧aN x=b)∨(live st x∧aN x=bk x))∧∀k,k≠d→aN (.bx k)=bk (.bx k):=
 I.dj hd hb (by simp) fk cc nI hr h1 rfl (by simp) (fun tj a2 gh t _ e=>by simp only [dD];rw [e]) h
theorem qW (I:Inv base w Pr bk st a N) (ob:Obj):Fw w Pr (w.alloc ob) Pr:=
 ⟨(Below.refl _ _).alloc (Nat.le_refl _) _,fun _ _ h=>h,fun _ _ _ h=>h,fun b o h=>by have:=I.bH b o h;simp;omega⟩
theorem ql (T:TypeId) (v:Value) (w:World):(newVar T v).run P w= .ok ⟨w.heap.size,0,none⟩ (w.alloc (.cells v.cells T)):=rfl
theorem uB (I:Inv base w Pr bk st a N) {o:Oper} {d:Nat} {T:TypeId} {v:Value} {p:PV} {st':St} (jZ:o.dst=some d) (hd:d<N) (hv:Rp w Pr p v) (ht:fX p=false)
  (he:(execOp a.eval o).run P w= .ok (.value (.pointer (some ⟨w.heap.size,0,none⟩))) (w.alloc (.cells v.cells T))) (h:st.mT d p.cells=some st'):jF P base w Pr bk st a N o st':=by
 intro K Q hK
 have hf:=qW I (.cells v.cells T)
 obtain ⟨fK,gl⟩:=hv.iB (iJ ht)
 obtain ⟨aN,hI,_,hbk⟩:=(I.fw hf).mT (b:=w.heap.size) (vs:=v.cells.toList) (T:=T) hd (by rw [heap_alloc]) I.hb (fun x hx e=>by have:=(I.own x hx).2;omega) (fun o h=>by have:=I.bH _ _ h;omega)
  (aM.mono (hf.kp I.bH) fK) gl h
 unfold Oper.wp
 rw [he]
 show K (a.put o.dst _) _
 rw [jZ]
 exact hK _ _ _ _ hI (hf.gB.mono I.hb) (hf.kp I.bH) (fun _ _ _ h=>h) hf.ko (fun k hk=>hbk k (fun e=>hk (by rw [jZ,e]))) rfl
theorem Eo (I:Inv base w Pr bk st a N) {o:Oper} {t:TypeId} {st':St} (ho:o.op= .alloc t) (hN:∀d,o.dst=some d→d<N) (h:effect P o st=some st'):jF P base w Pr bk st a N o st':=by
 simp only [effect,ho,Option.bind_eq_some_iff] at h
 obtain ⟨d,hd,z,hz,h⟩:=h
 obtain ⟨i,zv,hi,qD,qC⟩:=kN (w:=w) (Pr:=Pr) hz
 refine uB (T:=t) I hd (hN d hd) qC (iT hz) ?_ h
 simp only [execOp,ho]
 refine dB ?_
 simp [Instr.alloc,zeroValue,typeInfo,hi,qD,ql]
theorem J2 (I:Inv base w Pr bk st a N) {o:Oper} {t:TypeId} {x:Operand} {st':St} (ho:o.op= .box t x) (hN:∀d,o.dst=some d→d<N) (h:effect P o st=some st'):jF P base w Pr bk st a N o st':=by
 simp only [effect,ho,Option.bind_eq_some_iff] at h
 obtain ⟨d,hd,p,hp,h⟩:=h
 split at h
 · rename_i hc
   refine uB (T:=t) I hd (hN d hd) (iw I hp) (by simpa using hc.2) ?_ h
   simp only [execOp,ho]
   refine dB ?_
   simp [Instr.box,ql]
 · simp at h
end
end Go.Proofs.YtibbgjafjhcemaaGreatDoor.Cul
namespace Go.Proofs.YtibbgjafjhcemaaGreatDoor.Cul
open Go Go.RowKit
section
variable {P:Program} {base:Nat} {w:World} {Pr:aC} {bk:Key→Nat} {st:St} {a:Act} {N:Nat}
structure Wr (w w':World) (g:Nat):Prop where
 os:w'.os=w.os
 tape:w'.tape=w.tape
 output:w'.output=w.output
 size:w'.heap.size=w.heap.size
 other:∀k,k≠g→w'.heap[k]? =w.heap[k]?
 row:∃c T fz,w.heap[g]? =some (.cells c T fz)
 sized:∀c T fz,w.heap[g]? =some (.cells c T fz)→∃c',w'.heap[g]? =some (.cells c' T fz)∧c'.size=c.size
theorem lG (w:World) (g:Nat) (cs:Array Value) {c:Array Value} {T:TypeId} {fz:Nat×Nat} (h:w.heap[g]? =some (.cells c T fz)) (hs:cs.size=c.size):Wr w (w.setRow g cs) g:=⟨rfl,rfl,rfl,by simp,fun k hk=>setRow_other w g k cs hk,⟨_,_,_,h⟩,fun c2 T2 Tt h2=>by
 rw [h] at h2;cases h2
 exact ⟨cs,setRow_heap w g _ _ _ _ h,hs⟩⟩
theorem Wr.ko {w w':World} {g:Nat} (W:Wr w w' g):KO w w':=
 ⟨⟨Nat.le_of_eq W.size.symm,fun k o h ho=>by
   have:k≠g:=fun e=>by subst e;obtain ⟨c,T,fz,h2⟩:=W.row;rw [h] at h2;cases h2;simp [Obj.isCells] at ho
   exact (W.other k this).trans h⟩,fun k c T fz h=>by
   by_cases e:k=g
   · subst e;exact W.sized c T fz h
   · exact ⟨c,(W.other k e).trans h,rfl⟩⟩
theorem Mark.ko {base:Nat} {w w':World} {d:Deferred} (h:Mark base w d) (k:KO w w'):Mark base w' d:=by
 obtain ⟨D,h1,h2,h3⟩:=h
 exact ⟨D,h1,k.same D _ h2 rfl,h3⟩
theorem Wr.below {w w':World} {g B:Nat} (h:Wr w w' g) (hg:B≤g):Below B w w':=⟨h.os,h.tape,h.output,by rw [h.size];exact Nat.le_refl _,fun k hk=>h.other k (by omega)⟩
theorem dD.wr {w':World} {g t:Nat} {av:AV} {v:Value} (W:Wr w w' g) (k:Kp w Pr w' Pr) (hex:∀sz n cs,av= .ex sz n cs→bk (.sx t)≠g) (h:dD st a w Pr bk t av v):dD st a w' Pr bk t av v:=by
 cases av with
 |pv p=>exact Rp.mono k h
 |bp k off=>exact h
 |cl f caps=>obtain ⟨vs,h1,h2,h3⟩:=h;exact ⟨vs,h1,h2,fun i c u hc hu=>gJ.mono k (h3 i c u hc hu)⟩
 |ex sz n cs=>
  obtain ⟨o,cap,vs,h1,h2,h3,h4,h5,h6,h7⟩:=h
  have hne:=W.other _ (hex sz n cs rfl)
  exact ⟨o,cap,vs,h1,aM.mono k h2,h3,h4,iO hne h5,⟨h6.hz,h6.le,by obtain ⟨c,T,e1,e2⟩:=h6.there;exact ⟨c,T,hne.trans e1,e2⟩,h6.pr⟩,h7⟩
 |xr u=>exact h
 |xe u off=>exact h
 |bV _ _=>exact h
 |dead=>exact h
 |bs j off sz n=>exact h.world fun c T e=>W.ko.sized _ c T _ e
 |mv f j off sz n=>obtain ⟨u,h1,h2⟩:=h;exact ⟨u,h1,h2.world fun c T e=>W.ko.sized _ c T _ e⟩
 |tg j off sz n rest=>obtain ⟨u,us,h1,h2,h3⟩:=h;exact ⟨u,us,h1,h2.world fun c T e=>W.ko.sized _ c T _ e,aM.mono k h3⟩
theorem Room.wr {w':World} {g b o n cap sz:Nat} (W:Wr w w' g) (hne:b≠g) (h:Room w Pr b o n cap sz):Room w' Pr b o n cap sz:=
 ⟨h.hz,h.le,by obtain ⟨c,T,e1,e2⟩:=h.there;exact ⟨c,T,(W.other _ hne).trans e1,e2⟩,h.pr⟩
theorem rz (gr:List (Pl×Nat)) (k off n:Nat) (q:Pl):aG (gr.filter (fun x=>x.1.out k off n)) q=if q.out k off n then aG gr q else none:=dY (Pl.out k off n) gr q
theorem iZ {α:Type} (cs:List α) (off:Nat) (new:List α) (h:off+new.length≤cs.length) (i:Nat) (hi:i<off∨off+new.length≤i):(cs.take off++new++cs.drop (off+new.length))[i]? =cs[i]? :=by
 rcases hi with hi|hi
 · rw [List.append_assoc,List.getElem?_append_left (by simp;omega),List.getElem?_take_of_lt hi]
 · rw [List.getElem?_append_right (by simp;omega),List.getElem?_drop]
   congr 1
   simp;omega
theorem Bm {us cl vs:List Value} {off:Nat} (h:us<+:cl) (hle:off+vs.length≤us.length):aY us off vs<+:aY cl off vs:=by
 obtain ⟨t,rfl⟩:=h
 refine ⟨t, ?_⟩
 unfold aY
 rw [List.take_append_of_le_length (by omega),List.drop_append_of_le_length hle]
 simp
theorem iS {us vs:List Value} {off:Nat} (hle:off+vs.length≤us.length):(aY us off vs).length=us.length:=by
 unfold aY
 simp;omega
theorem Inv.iR (I:Inv base w Pr bk st a N) {k off:Nat} {new:List PV} {vs:List Value} {st':St} (h:st.iR k off new=some st') (hr:aM w Pr new vs) (h1:One vs):
  ∃cur T,w.heap[bk (.bx k)]? =some (.cells cur T (0,0))∧off+vs.length≤cur.size∧base≤bk (.bx k)∧Kp w Pr (w.setRow (bk (.bx k)) (aY cur.toList off vs).toArray) Pr∧
   Inv base (w.setRow (bk (.bx k)) (aY cur.toList off vs).toArray) Pr bk st' a N:=by
 simp only [St.iR,Option.bind_eq_some_iff] at h
 obtain ⟨cs,hk,h⟩:=h
 split at h
 · rename_i hle
   simp only [Option.some.injEq] at h
   obtain ⟨⟨T,c0,us,mQ,Pm,jc,zH⟩,Mq⟩:=I.boxes k cs hk
   have hcl:us.length≤c0.size:=by have:=Pm.length_le;simpa using this
   have hlen:=hr.length
   have lT:=jc.length
   have hown:=I.own (.bx k) ⟨cs,hk⟩
   have hW:=lG w (bk (.bx k)) (aY c0.toList off vs).toArray mQ (by rw [List.size_toArray,iS (by simp;omega)];simp)
   have hK:Kp w Pr (w.setRow (bk (.bx k)) (aY c0.toList off vs).toArray) Pr:=⟨fun _ _ h=>h,fun b o hp=>by
    have hne:b≠bk (.bx k):=fun e=>Mq o (by rw [←e];exact hp)
    exact World.cell?_of_block (w:=w) (hW.other b hne)⟩
   have hh:(w.setRow (bk (.bx k)) (aY c0.toList off vs).toArray).heap[bk (.bx k)]? =some (.cells (aY c0.toList off vs).toArray T (0,0)):=setRow_heap w _ _ _ _ _ mQ
   have hne:∀x,live st x→x≠ .bx k→bk x≠bk (.bx k):=fun x hx oP e=>oP (I.inj x (.bx k) hx ⟨cs,hk⟩ e)
   refine ⟨c0,T,mQ,by omega,hown.1,hK, ?_⟩
   have mP:(splice cs off new).length=cs.length:=by unfold splice;simp;omega
   have de:∀k' cs',look st'.bx k'=some cs'→(k'=k∧cs'=splice cs off new)∨(k'≠k∧look st.bx k'=some cs'):=by
    intro k' cs' hq
    rw [←h] at hq;simp only [look] at hq
    split at hq
    · rename_i e;simp at hq;exact .inl ⟨e.symm,hq.symm⟩
    · rename_i e;rw [bC,if_neg (Ne.symm e)] at hq;exact .inr ⟨Ne.symm e,hq⟩
   have dJ:∀p z,aG st'.gr p=some z→p.out k off new.length=true∧aG st.gr p=some z:=by
    intro p z hp
    rw [←h] at hp;simp only at hp
    rw [rz] at hp
    split at hp
    · exact ⟨‹_›,hp⟩
    · simp at hp
   have bS:∀x,live st' x→live st x:=by
    intro x hx
    cases x with
    |bx k'=>
     obtain ⟨cs',hq⟩:=hx
     rcases de k' cs' hq with ⟨rfl,_⟩|⟨_,hq⟩
     · exact ⟨cs,hk⟩
     · exact ⟨cs',hq⟩
    |sx t=>
     rcases hx with hx|⟨z,hz⟩
     · rw [←h] at hx;exact .inl hx
     · exact .inr ⟨z,(dJ _ z hz).2⟩
    |cx k' o=>obtain ⟨z,hz⟩:=hx;exact ⟨z,(dJ _ z hz).2⟩
   constructor
   · exact I.size
   · exact ⟨fun d hd=>(I.defers.1 d hd).ko hW.ko,I.defers.2⟩
   · simpa using I.hb
   · simpa using I.bH
   · intro t av ht
     have ht':look st.sl t=some av:=by rw [←h] at ht;exact ht
     obtain ⟨v,hv,cQ⟩:=I.slots t av ht'
     refine ⟨v,hv, ?_⟩
     have:=dD.wr hW hK (fun sz n c e=>hne (.sx t) (.inl ⟨sz,n,c,by rw [←e];exact ht'⟩) (by simp)) cQ
     have zo:∀j dG,look st.bx j=some dG→∃BB,look st'.bx j=some BB∧BB.length=dG.length:=fun j dG e=>by
      rw [←h];simp only [look]
      by_cases hj:k=j
      · subst hj;rw [if_pos rfl];rw [hk] at e;cases e;exact ⟨_,rfl,mP⟩
      · rw [if_neg hj,bC,if_neg (Ne.symm hj)];exact ⟨dG,e,rfl⟩
     cases av with
     |xr u=>rw [←h];exact this
     |xe u off=>rw [←h];exact this
     |bs j o' sz n=>exact this.frame rfl (zo j)
     |mv f j o' sz n=>obtain ⟨u,h1,h2⟩:=this;exact ⟨u,h1,h2.frame rfl (zo j)⟩
     |tg j o' sz n rest=>obtain ⟨u,us,h1,h2,h3⟩:=this;exact ⟨u,us,h1,h2.frame rfl (zo j),h3⟩
     |_=>exact this
   · exact fun x hx=>by simpa using I.own x (bS x hx)
   · exact fun x y hx hy=>I.inj x y (bS x hx) (bS y hy)
   · intro k' cs' hq
     rcases de k' cs' hq with ⟨rfl,rfl⟩|⟨hkk,hq⟩
     · refine ⟨⟨T,_,aY us off vs,hh,by simpa using Bm Pm (by omega),aM.mono hK ?_, ?_⟩,Mq⟩
       · unfold splice aY;rw [hlen];exact ((jc.take off).app hr).app (jc.drop _)
       · intro u hu
         unfold aY at hu
         simp only [List.mem_append] at hu
         rcases hu with (hu|hu)|hu
         · exact zH u (List.mem_of_mem_take hu)
         · exact h1 u hu
         · exact zH u (List.mem_of_mem_drop hu)
     · obtain ⟨⟨T',c',us',e1,e0,e2,e3⟩,e4⟩:=I.boxes k' cs' hq
       exact ⟨⟨T',c',us',(hW.other _ (hne (.bx k') ⟨cs',hq⟩ (by simpa using hkk))).trans e1,e0,aM.mono hK e2,e3⟩,e4⟩
   · intro t z hz
     obtain ⟨_,hz⟩:=dJ _ z hz
     obtain ⟨o,n,cap,c,e1,e2,e3,e0⟩:=I.gE t z hz
     exact ⟨o,n,cap,c,by rw [←h];exact e1,e2,e3.wr hW (hne (.sx t) (.inr ⟨z,hz⟩) (by simp)),e0⟩
   · intro k' i z hz
     obtain ⟨hout,hz⟩:=dJ _ z hz
     obtain ⟨o,n,cap,c,dc,e1,e2,e3,e4,e0⟩:=I.ig k' i z hz
     have OW:=e4.wr hW (hne (.cx k' i) ⟨z,hz⟩ (by simp))
     by_cases hkk:k'=k
     · subst hkk
       rw [hk] at e1;cases e1
       have hi:i<off∨off+new.length≤i:=by
        simp [Pl.out] at hout;omega
       refine ⟨o,n,cap,c,splice cs off new,by rw [←h];simp [look],by rw [←e2];exact iZ cs off new hle i hi, ?_,OW,e0⟩
       rw [←e3,cell_of_row _ _ _ _ _ _ hh,cell_of_row _ _ _ _ _ _ mQ]
       simp only [List.getElem?_toArray]
       exact (iZ c0.toList off vs (by simp;omega) i (by omega)).trans (Array.getElem?_toList ..)
     · refine ⟨o,n,cap,c,dc,by rw [←h];simp only [look];rw [if_neg (Ne.symm hkk),bC,if_neg hkk];exact e1,e2, ?_,OW,e0⟩
       rw [←e3];exact World.cell?_of_block (w:=w) (hW.other _ (hne (.bx k') ⟨dc,e1⟩ (by simpa using hkk)))
   · intro t q ht hq
     rw [←h] at ht;simp only at ht
     rw [bQ (mh k off new.length) (fun _ x=>x.bind fun p=>if p.out k off new.length then some p else none) (fun _=>rfl)] at ht
     cases hm:look st.tg t with
     |none=>simp [hm] at ht
     |some p=>
      simp only [hm,Option.map_some,Option.some.injEq,Option.bind_eq_some_iff] at ht
      obtain ⟨p',rfl,ht⟩:=ht
      split at ht
      · rename_i hout
        simp only [Option.some.injEq] at ht;subst ht
        obtain ⟨z,hz⟩:=hq
        obtain ⟨_,hz⟩:=dJ _ z hz
        rw [←I.tags t _ hm ⟨z,hz⟩]
        cases p' with
        |s u=>rfl
        |c k' i=>
         simp only [cN]
         obtain ⟨o,n,cap,c,dc,e1,e2,e3,e4,e0⟩:=I.ig k' i z hz
         by_cases hkk:k'=k
         · subst hkk
           have hi:i<off∨off+new.length≤i:=by simp [Pl.out] at hout;omega
           rw [cell_of_row _ _ _ _ _ _ hh,cell_of_row _ _ _ _ _ _ mQ]
           simp only [List.getElem?_toArray]
           exact (iZ c0.toList off vs (by simp;omega) i (by omega)).trans (Array.getElem?_toList ..)
         · exact World.cell?_of_block (w:=w) (hW.other _ (hne (.bx k') ⟨dc,e1⟩ (by simpa using hkk)))
      · simp at ht
 · simp at h
end
end Go.Proofs.YtibbgjafjhcemaaGreatDoor.Cul
namespace Go.Proofs.YtibbgjafjhcemaaGreatDoor.Cul
open Go Go.RowKit
section
variable {P:Program} {base:Nat} {w:World} {Pr:aC} {bk:Key→Nat} {st:St} {a:Act} {N:Nat}
theorem lM (w:World) (g o:Nat) (t:TypeId) (ty:TypeId) (cur:Array Value) (v:Value) (hg:w.heap[g]? =some (.cells cur t (0,0))) (hle:o+v.cells.toList.length≤cur.size)
  (hi:bT P ty=some v.cells.toList.length) (h1:One v.cells.toList):(storeVar ty ⟨g,o,none⟩ v).run P w= .ok () (w.setRow g (aY cur.toList o v.cells.toList).toArray):=by
 have h:=run_storeCells_at (P:=P) g o t v.cells.toList 0 cur w hg (by omega) h1
 simp only [storeVar,Sem.run_bind,fN hi,Result.andThen_ok]
 rw [if_neg (by rw [Array.length_toList];simp)]
 simpa [aY] using h
theorem Inv.LB (I:Inv base w Pr bk st a N) {u k off z:Nat} (hz:aG st.gr (.s u)=some z) {dc:List PV} (hb:look st.bx k=some dc) {n:Nat} {cs:List PV} (hp:dc[off]? =some (.sl z n cs))
  (hv:w.cell? ⟨bk (.bx k),off,none⟩=a.tmps[u]?) (hu:look st.sl u=some (.pv (.sl z n cs)))
  (Mo:∀t,look st.tg t≠some (some (.c k off))):
  ∃aN,Inv base w Pr aN { st with gr:=(.c k off,z)::st.gr.filter (fun x=>x.1≠ .s u),tg:=st.tg.map (fL (.s u))} a N∧∀j,aN (.bx j)=bk (.bx j):=by
 obtain ⟨o,n',cap,cs',e1,e2,e3,e0⟩:=I.gE u z hz
 rw [hu] at e1;cases e1
 have hne:∀t,Pl.s u= .s t→¬dS st t:=fun t e ⟨sz,m,c,h⟩=>by cases e;rw [hu] at h;simp at h
 have I2:=I.release (.s u)
 have uP:∀x,live { st with gr:=(.c k off,z)::st.gr.filter (fun x=>x.1≠ .s u),tg:=st.tg.map (fL (.s u))} x→x= .cx k off∨(x≠ .cx k off∧live st x∧x≠ .sx u):=by
  intro x hx
  by_cases oP:x= .cx k off
  · exact .inl oP
  · have:live { st with gr:=st.gr.filter (fun x=>x.1≠ .s u),tg:=st.tg.map (fL (.s u))} x:=by
      cases x with
      |bx k'=>exact hx
      |sx t=>
       rcases hx with hx|⟨z',hx⟩
       · exact .inl hx
       · simp only [aG] at hx;rw [if_neg (by simp)] at hx;exact .inr ⟨z',hx⟩
      |cx k' o'=>
       obtain ⟨z',hx⟩:=hx
       simp only [aG] at hx
       rw [if_neg (fun e=>oP (by cases e;rfl))] at hx;exact ⟨z',hx⟩
    obtain ⟨h1,h2⟩:=j4 this hne
    exact .inr ⟨oP,h1,h2⟩
 obtain ⟨aN,fm,hk2⟩:∃aN:Key→Nat,(∀x,x≠ .cx k off→aN x=bk x)∧aN (.cx k off)=bk (.sx u):=⟨fun x=>if x= .cx k off then bk (.sx u) else bk x,fun x hx=>if_neg hx,if_pos rfl⟩
 have de:∀k,aN (.bx k)=bk (.bx k):=fun k=>fm _ (by simp)
 have qA:∀t,aN (.sx t)=bk (.sx t):=fun t=>fm _ (by simp)
 have EN:live st (.sx u):= .inr ⟨z,hz⟩
 refine ⟨aN, ?_,de⟩
 constructor
 · exact I.size
 · exact I.defers
 · exact I.hb
 · exact I.bH
 · intro t av ht
   obtain ⟨v,h1,h2⟩:=I2.slots t av ht
   refine ⟨v,h1, ?_⟩
   cases av with
   |pv p=>exact h2
   |bp k off=>simp only [dD] at h2 ⊢;rw [de];exact h2
   |cl f caps=>
    obtain ⟨us,e1,e2,e3⟩:=h2
    refine ⟨us,e1,e2,fun i c x hc hx=> ?_⟩
    have e4:=e3 i c x hc hx
    cases c with
    |pv p=>exact e4
    |bp k off=>simp only [gJ] at e4 ⊢;rw [de];exact e4
   |ex sz n c=>simp only [dD] at h2 ⊢;rw [qA];exact h2
   |xr u=>exact h2
   |xe u off=>exact h2
   |bV _ _=>exact h2
   |dead=>trivial
   |bs j o' sz n=>exact h2.frame (de j) fun cs e=>⟨cs,e,rfl⟩
   |mv f j o' sz n=>obtain ⟨u,e1,e2⟩:=h2;exact ⟨u,e1,e2.frame (de j) fun cs e=>⟨cs,e,rfl⟩⟩
   |tg j o' sz n rest=>obtain ⟨u,us,e1,e2,e3⟩:=h2;exact ⟨u,us,e1,e2.frame (de j) fun cs e=>⟨cs,e,rfl⟩,e3⟩
 · intro x hx
   rcases uP x hx with rfl|⟨h0,h1,_⟩
   · rw [hk2];exact I.own _ EN
   · rw [fm x h0];exact I.own x h1
 · intro x y hx hy e
   rcases uP x hx with rfl|⟨h0,h1,h2⟩
   · rcases uP y hy with rfl|⟨h0',zi,Ey⟩
     · rfl
     · rw [hk2,fm y h0'] at e;exact absurd (I.inj _ _ EN zi e).symm Ey
   · rcases uP y hy with rfl|⟨h0',zi,Ey⟩
     · rw [hk2,fm x h0] at e;exact absurd (I.inj _ _ h1 EN e) h2
     · rw [fm x h0,fm y h0'] at e;exact I.inj x y h1 zi e
 · intro k' cs' hk
   rw [de];exact I.boxes k' cs' hk
 · intro t z' dP
   simp only [aG] at dP
   rw [if_neg (by simp)] at dP
   obtain ⟨o',MX,cap',c,h1,h2,h3,h0⟩:=I2.gE t z' dP
   exact ⟨o',MX,cap',c,h1,by rw [qA];exact h2,by rw [qA];exact h3,h0⟩
 · intro k' i z' dP
   simp only [aG] at dP
   by_cases e:Pl.c k off=Pl.c k' i
   · cases e
     simp only [if_true,Option.some.injEq] at dP
     subst dP
     exact ⟨o,n,cap,cs,dc,hb,hp,by rw [de,hk2,hv];exact e2,by rw [hk2];exact e3,e0⟩
   · rw [if_neg e] at dP
     obtain ⟨o',MX,cap',c,Qb,h1,h2,h3,h4,h0⟩:=I2.ig k' i z' dP
     have:aN (.cx k' i)=bk (.cx k' i):=fm _ (fun e2=>e (by cases e2;rfl))
     exact ⟨o',MX,cap',c,Qb,h1,h2,by rw [de,this];exact h3,by rw [this];exact h4,h0⟩
 · intro t q ht hq
   simp only at ht
   rw [u7] at ht
   cases hm:look st.tg t with
   |none=>simp [hm] at ht
   |some p=>
    simp only [hm,Option.map_some,Option.some.injEq] at ht
    split at ht
    · simp at ht
    · rename_i hps
      subst ht
      obtain ⟨z',dP⟩:=hq
      simp only [aG] at dP
      by_cases e:Pl.c k off=q
      · subst e
        exact absurd hm (Mo t)
      · rw [if_neg e] at dP
        rw [pV] at dP
        split at dP
        · simp at dP
        · have:=I.tags t q hm ⟨z',dP⟩
          cases q with
          |s u=>exact this
          |c k o=>simp only [cN] at this ⊢;rw [de];exact this
theorem Inv.OC (I:Inv base w Pr bk st a N) {u off sz n:Nat} {cs new:List PV} {vs:List Value} (hu:look st.sl u=some (.ex sz n cs)) (hle:off+new.length≤cs.length) (hr:aM w Pr new vs) (h1:One vs)
  {b o:Nat} {n' cap':Nat} (hv:a.tmps[u]? =some (.slice (some ⟨b,o,none⟩) n' cap')):
  ∃cur T,w.heap[b]? =some (.cells cur T (0,0))∧o+off+vs.length≤cur.size∧base≤b∧Kp w Pr (w.setRow b (aY cur.toList (o+off) vs).toArray) Pr∧
   Inv base (w.setRow b (aY cur.toList (o+off) vs).toArray) Pr bk { st with sl:=(u, .ex sz n (splice cs off new))::bF st.sl u} a N:=by
 obtain ⟨v,cR,o2,cap,us,Mr,jc,zH,Mq,UT,EV,Pn⟩:=I.slots u _ hu
 rw [hv] at cR
 simp only [Option.some.injEq] at cR
 rw [←cR] at Mr
 simp only [Value.slice.injEq,Option.some.injEq,Addr.mk.injEq] at Mr
 obtain ⟨⟨rfl,rfl,_⟩,rfl,rfl⟩:=Mr
 obtain ⟨cur,T,fK,gl⟩:=EV.there
 have bS:live st (.sx u):= .inl ⟨sz,n',cs,hu⟩
 have hown:=I.own _ bS
 have hlen:=hr.length
 have lT:=jc.length
 have hcap:n'* sz≤cap'* sz:=Nat.mul_le_mul_right _ EV.le
 have hW:=lG w (bk (.sx u)) (aY cur.toList (o+off) vs).toArray fK (by rw [List.size_toArray,iS (by simp;omega)];simp)
 have hK:Kp w Pr (w.setRow (bk (.sx u)) (aY cur.toList (o+off) vs).toArray) Pr:=⟨fun _ _ h=>h,fun b o' hp=>by
  have hne:b≠bk (.sx u):=fun e=>Pn o' (by rw [←e];exact hp)
  exact World.cell?_of_block (w:=w) (hW.other b hne)⟩
 have hh:(w.setRow (bk (.sx u)) (aY cur.toList (o+off) vs).toArray).heap[bk (.sx u)]? =some (.cells (aY cur.toList (o+off) vs).toArray T (0,0)):=setRow_heap w _ _ _ _ _ fK
 have hsz:(aY cur.toList (o+off) vs).length=cur.size:=by unfold aY;simp;omega
 have hne:∀x,live st x→x≠ .sx u→bk x≠bk (.sx u):=fun x hx oP e=>oP (I.inj x (.sx u) hx bS e)
 have mP:∀t,look ((u,AV.ex sz n' (splice cs off new))::bF st.sl u) t=if t=u then some (.ex sz n' (splice cs off new)) else look st.sl t:=by
  intro t;simp only [look]
  by_cases e:u=t
  · simp [e]
  · rw [if_neg e,bC,if_neg (Ne.symm e),if_neg (Ne.symm e)]
 have hex:∀x,dS { st with sl:=(u,AV.ex sz n' (splice cs off new))::bF st.sl u} x↔dS st x:=by
  intro x;simp only [dS,mP]
  by_cases e:x=u
  · subst e;simp only [if_true];exact ⟨fun _=>⟨_,_,_,hu⟩,fun _=>⟨_,_,_,rfl⟩⟩
  · rw [if_neg e]
 have hlv:∀x,live { st with sl:=(u,AV.ex sz n' (splice cs off new))::bF st.sl u} x→live st x:=by
  intro x hx
  cases x with
  |sx t=>exact hx.imp (hex t).1 id
  |bx k=>exact hx
  |cx k o=>exact hx
 refine ⟨cur,T,fK,by omega,hown.1,hK, ?_⟩
 constructor
 · exact I.size
 · exact ⟨fun d hd=>(I.defers.1 d hd).ko hW.ko,I.defers.2⟩
 · simpa using I.hb
 · simpa using I.bH
 · intro t av ht
   rw [mP] at ht
   by_cases e:t=u
   · subst e
     rw [if_pos rfl] at ht
     simp only [Option.some.injEq] at ht;subst ht
     refine ⟨_,hv,o,cap',aY us off vs,rfl,aM.mono hK ?_, ?_, ?_, ?_,⟨EV.hz,EV.le,⟨_,_,hh,by simp [hsz];exact gl⟩,EV.pr⟩,Pn⟩
     · unfold splice aY;rw [hlen];exact ((jc.take off).app hr).app (jc.drop _)
     · intro x hx
       unfold aY at hx
       simp only [List.mem_append] at hx
       rcases hx with (hx|hx)|hx
       · exact zH x (List.mem_of_mem_take hx)
       · exact h1 x hx
       · exact zH x (List.mem_of_mem_drop hx)
     · unfold splice;simp;omega
     · intro j x hx
       rw [cell_of_row _ _ _ _ _ _ hh]
       simp only [List.getElem?_toArray]
       by_cases hj:off≤j∧j<off+vs.length
       · unfold aY at hx ⊢
         rw [List.append_assoc,List.getElem?_append_right (by simp;omega),List.getElem?_append_left (by simp;omega)] at hx
         rw [List.append_assoc,List.getElem?_append_right (by simp;omega),List.getElem?_append_left (by simp;omega),←hx]
         congr 1
         simp only [List.length_take,Array.length_toList]
         omega
       · have Ut:us[j]? =some x:=by rw [←hx];exact (iZ us off vs (by omega) j (by omega)).symm
         have hc:=UT j x Ut
         rw [cell_of_row _ _ _ _ _ _ fK] at hc
         rw [←hc]
         have:=iZ cur.toList (o+off) vs (by simp;omega) (o+j) (by omega)
         simpa [aY] using this
   · rw [if_neg e] at ht
     obtain ⟨v,zJ,cQ⟩:=I.slots t av ht
     refine ⟨v,zJ, ?_⟩
     have:=dD.wr hW hK (fun sz n c e2=>hne (.sx t) (.inl ⟨sz,n,c,by rw [←e2];exact ht⟩) (by simpa using e)) cQ
     cases av with
     |xr x=>exact ⟨this.1,(hex x).2 this.2⟩
     |xe x off=>exact ⟨this.1,(hex x).2 this.2⟩
     |_=>exact this
 · exact fun x hx=>by simpa using I.own x (hlv x hx)
 · exact fun x y hx hy=>I.inj x y (hlv x hx) (hlv y hy)
 · intro k' cs' hq
   obtain ⟨⟨T',c',us',e1,e0,e2,e3⟩,e4⟩:=I.boxes k' cs' hq
   exact ⟨⟨T',c',us',(hW.other _ (hne (.bx k') ⟨cs',hq⟩ (by simp))).trans e1,e0,aM.mono hK e2,e3⟩,e4⟩
 · intro t z hz
   obtain ⟨o',n,cap,c,e1,e2,e3,e0⟩:=I.gE t z hz
   have htu:t≠u:=fun e=>by subst e;rw [hu] at e1;simp at e1
   exact ⟨o',n,cap,c,by rw [mP,if_neg htu];exact e1,e2,e3.wr hW (hne (.sx t) (.inr ⟨z,hz⟩) (by simpa using htu)),e0⟩
 · intro k' i z hz
   obtain ⟨o',n,cap,c,dc,e1,e2,e3,e4,e0⟩:=I.ig k' i z hz
   exact ⟨o',n,cap,c,dc,e1,e2,(World.cell?_of_block (w:=w) (hW.other _ (hne (.bx k') ⟨dc,e1⟩ (by simp)))).trans e3,e4.wr hW (hne (.cx k' i) ⟨z,hz⟩ (by simp)),e0⟩
 · intro t q ht hq
   rw [←I.tags t q ht hq]
   cases q with
   |s x=>rfl
   |c k' i=>
    obtain ⟨z,hz⟩:=hq
    obtain ⟨o',n,cap,c,dc,e1,e2,e3,e4,e0⟩:=I.ig k' i z hz
    exact World.cell?_of_block (w:=w) (hW.other _ (hne (.bx k') ⟨dc,e1⟩ (by simp)))
theorem Es (I:Inv base w Pr bk st a N) {o:Oper} {t:TypeId} {x y:Operand} {st':St} (ho:o.op= .store t x y) (h:effect P o st=some st'):jF P base w Pr bk st a N o st':=by
 simp only [effect,ho] at h
 split at h
 · rename_i jZ
   have he:∀b o' w',a.eval x= .pointer (some ⟨b,o',none⟩)→(storeVar t ⟨b,o',none⟩ (a.eval y)).run P w= .ok () w'→(execOp a.eval o).run P w= .ok .skip w':=fun b o' w' hx hs=>by
    simp only [execOp,ho,hx,Sem.run_bind]
    simp [Instr.storeAt,Instr.sureAddr,hs]
   have hput:a.put o.dst undef=a:=by rw [jZ];rfl
   split at h
   · rename_i k off heq
     have main:∀p cP,st.ev y=some (.pv p)→some p.cells.length=bT P t→fX p=false→st.iR k off p.cells=some cP→
       ∃w',(execOp a.eval o).run P w= .ok .skip w'∧base≤bk (.bx k)∧Wr w w' (bk (.bx k))∧Kp w Pr w' Pr∧Inv base w' Pr bk cP a N∧(∀v0,(a.eval y).cells.toList=[v0]→w'.cell? ⟨bk (.bx k),off,none⟩=some v0):=by
      intro p cP hy hsz QH fo
      have hv:=eH I hy
      obtain ⟨fK,gl⟩:=hv.iB (iJ QH)
      have hl:=fK.length
      obtain ⟨cur,T,h1,h2,h3,h4,h5⟩:=I.iR fo fK gl
      exact ⟨_,he _ _ _ (r4 I heq) (lM w _ off T t cur _ h1 h2 (by rw [←hl];exact hsz.symm) gl),h3,lG _ _ _ h1 (by rw [List.size_toArray,iS (by simpa using h2)];simp),h4,h5,fun v0 h0=>by
       rw [cell_of_row _ _ _ _ _ _ (setRow_heap w _ _ _ _ _ h1),h0]
       rw [h0] at h2
       simp only [List.length_singleton] at h2
       simp only [List.getElem?_toArray,aY]
       rw [List.append_assoc,List.getElem?_append_right (by simp;omega)]
       simp [Nat.min_eq_left (show off≤cur.size by omega)]⟩
     split at h
     · rename_i u p hy
       split at h
       · rename_i hc
         simp only [Option.map_eq_some_iff] at h
         obtain ⟨s1,fo,h⟩:=h
         obtain ⟨w',hr,hb,hW,hK,hI,hcell⟩:=main p s1 hy hc.1 hc.2 fo
         have fin:∀aN,Inv base w' Pr aN st' a N→(∀j,aN (.bx j)=bk (.bx j))→jF P base w Pr bk st a N o st':=fun aN LF hbk K Q zj=>by
          unfold Oper.wp;rw [hr]
          show K (a.put o.dst undef) w'
          rw [hput]
          exact zj _ _ _ _ LF (hW.below hb) hK (fun _ _ _ h=>h) hW.ko (fun k _=>hbk k) rfl
         split at h
         · rename_i z hz hrow
           subst h
           have X9:=fo
           simp only [St.iR,Option.bind_eq_some_iff] at fo
           obtain ⟨cs,hk,fo⟩:=fo
           split at fo
           · rename_i hle
             simp only [Option.some.injEq] at fo
             have Mz:aG st.gr (.s u)=some z:=by
              rw [←fo] at hz;simp only at hz;rw [rz] at hz;simpa [Pl.out] using hz
             obtain ⟨o2,n,cap,c,e1,e2,e3,_⟩:=I.gE u z Mz
             have hp:p= .sl z n c:=by
              have:look st.sl u=some (.pv p):=hy
              rw [e1] at this;simpa using this.symm
             subst hp
             have q1:look s1.bx k=some (splice cs off [.sl z n c]):=by rw [←fo];simp [look,PV.cells]
             have q2:(splice cs off [.sl z n c])[off]? =some (.sl z n c):=by
              simp only [PV.cells,List.length_singleton] at hle
              unfold splice
              rw [List.append_assoc,List.getElem?_append_right (by simp;omega)]
              simp [Nat.min_eq_left (show off≤cs.length by omega)]
             have q3:w'.cell? ⟨bk (.bx k),off,none⟩=a.tmps[u]? :=by
              rw [e2];refine hcell _ ?_
              rw [gL e2];rfl
             have q4:look s1.sl u=some (.pv (.sl z n c)):=by rw [←fo];exact e1
             have q5:∀t,look s1.tg t≠some (some (.c k off)):=by
              intro t' ht'
              rw [←fo] at ht';simp only at ht'
              rw [bQ (mh k off _) (fun _ x=>x.bind fun p=>if p.out k off _ then some p else none) (fun _=>rfl)] at ht'
              cases hm:look st.tg t' with
              |none=>simp [hm] at ht'
              |some p0=>
               simp only [hm,Option.map_some,Option.some.injEq,Option.bind_eq_some_iff] at ht'
               obtain ⟨p',_,ht'⟩:=ht'
               split at ht'
               · rename_i hout
                 simp only [Option.some.injEq] at ht';subst ht'
                 simp [Pl.out,PV.cells] at hout
               · simp at ht'
             obtain ⟨aN,LF,hbk⟩:=hI.LB hz q1 q2 q3 q4 q5
             exact fin aN LF hbk
           · simp at fo
         · subst h;exact fin bk hI (fun _=>rfl)
       · simp at h
     · rename_i p hy1 hy
       split at h
       · rename_i hc
         obtain ⟨w',hr,hb,hW,hK,hI,_⟩:=main p st' hy hc.1 hc.2 h
         intro K Q zj
         unfold Oper.wp;rw [hr]
         show K (a.put o.dst undef) w'
         rw [hput]
         exact zj _ _ _ _ hI (hW.below hb) hK (fun _ _ _ h=>h) hW.ko (fun _ _=>rfl) rfl
       · simp at h
     · simp at h
   · rename_i u off heq
     split at h
     · rename_i sz n cs p hu hp
       split at h
       · rename_i hc
         simp only [Option.some.injEq] at h;subst h
         obtain ⟨t',⟨b,o2,n2,Lh,h1,h2⟩,h3⟩:=eI I heq
         have hv:=iw I hp
         obtain ⟨fK,gl⟩:=hv.iB (iJ hc.2.1)
         obtain ⟨cur,T,e1,e2,e3,e4,e5⟩:=I.OC hu hc.2.2 fK gl h1
         intro K Q zj
         unfold Oper.wp
         rw [he _ _ _ h2 (lM w _ _ T t cur _ e1 e2 (by rw [←fK.length];exact hc.1.symm) gl)]
         show K (a.put o.dst undef) _
         rw [hput]
         have hW:=lG w b (aY cur.toList (o2+off) (a.eval y).cells.toList).toArray e1 (by rw [List.size_toArray,iS (by simpa using e2)];simp)
         exact zj _ _ _ _ e5 (hW.below e3) e4 (fun _ _ _ h=>h) hW.ko (fun _ _=>rfl) rfl
       · simp at h
     · simp at h
   · simp at h
 · simp at h
end
end Go.Proofs.YtibbgjafjhcemaaGreatDoor.Cul
namespace Go.Proofs.YtibbgjafjhcemaaGreatDoor.Cul
open Go Go.RowKit
section
variable {P:Program} {base:Nat} {w:World} {Pr:aC} {bk:Key→Nat} {st:St} {a:Act} {N:Nat}
theorem td {b:Nat} {T:TypeId}:∀(vs:List Value) (o:Nat) (cur:Array Value) (w:World),w.heap[b]? =some (.cells cur T (0,0))→o+vs.length≤cur.size→
  w.setCells b o vs=w.setRow b (aY cur.toList o vs).toArray
 |[],o,cur,w,hg,h=>by
  simp only [World.setCells,aY,List.append_nil,List.length_nil,Nat.add_zero,List.take_append_drop,Array.toArray_toList]
  exact (setRow_self w b cur T (0,0) hg).symm
 |v::r,o,cur,w,hg,h=>by
  simp only [List.length_cons] at h
  rw [World.setCells,setCell_eq_setRow w b o cur T (0,0) v hg]
  rw [td r (o+1) (cur.setIfInBounds o v) _ (setRow_heap w b cur _ T _ hg) (by simp;omega),setRow_setRow]
  congr 2
  unfold aY
  simp only [Array.toList_setIfInBounds,List.length_cons]
  have e2:o+1+r.length=o+(r.length+1):=by omega
  rw [e2,List.take_set,List.drop_set_of_lt (by omega)]
  have hlt:o<cur.toList.length:=by simp;omega
  rw [List.take_succ_eq_append_getElem hlt,List.set_append_right _ _ (by simp;omega)]
  simp [Nat.min_eq_left (show o≤cur.size by omega)]
theorem Inv.wZ (I:Inv base w Pr bk st a N) {w':World} {aD:aC} {g:Nat} (W:Wr w w' g) (hg:g<w.heap.size) (hfree:∀x,live st x→bk x≠g) (k:Kp w Pr w' aD) (hP:∀b o,aD b o→b≠g→Pr b o):Inv base w' aD bk st a N:=by
 have xu:∀x,live st x→∀o,aD (bk x) o→Pr (bk x) o:=fun x hx o h=>hP _ _ h (hfree x hx)
 have hroom:∀x,live st x→∀{o n cap sz},Room w Pr (bk x) o n cap sz→Room w' aD (bk x) o n cap sz:=fun x hx {o n cap sz} h=>
  ⟨h.hz,h.le,by obtain ⟨c,T,e1,e2⟩:=h.there;exact ⟨c,T,(W.other _ (hfree x hx)).trans e1,e2⟩,fun o' ho=>h.pr o' (xu x hx _ ho)⟩
 constructor
 · exact I.size
 · exact ⟨fun d hd=>(I.defers.1 d hd).ko W.ko,I.defers.2⟩
 · rw [W.size];exact I.hb
 · intro b o h
   rw [W.size]
   by_cases e:b=g
   · rw [e];exact hg
   · exact I.bH b o (hP b o h e)
 · intro t av ht
   obtain ⟨v,hv,hr⟩:=I.slots t av ht
   refine ⟨v,hv, ?_⟩
   cases av with
   |pv p=>exact Rp.mono k hr
   |bp k off=>exact hr
   |cl f caps=>obtain ⟨vs,h1,h2,h3⟩:=hr;exact ⟨vs,h1,h2,fun i c u hc hu=>gJ.mono k (h3 i c u hc hu)⟩
   |ex sz n cs=>
    obtain ⟨o,cap,vs,h1,h2,h3,h4,h5,h6,h7⟩:=hr
    have hl:live st (.sx t):= .inl ⟨sz,n,cs,ht⟩
    exact ⟨o,cap,vs,h1,aM.mono k h2,h3,h4,iO (W.other _ (hfree _ hl)) h5,hroom _ hl h6,fun o' ho=>h7 o' (xu _ hl _ ho)⟩
   |xr u=>exact hr
   |xe u off=>exact hr
   |bV _ _=>exact hr
   |dead=>trivial
   |bs j off sz n=>exact hr.world fun c T e=>W.ko.sized _ c T _ e
   |mv f j off sz n=>obtain ⟨u,h1,h2⟩:=hr;exact ⟨u,h1,h2.world fun c T e=>W.ko.sized _ c T _ e⟩
   |tg j off sz n rest=>obtain ⟨u,us,h1,h2,h3⟩:=hr;exact ⟨u,us,h1,h2.world fun c T e=>W.ko.sized _ c T _ e,aM.mono k h3⟩
 · exact fun x hx=>by rw [W.size];exact I.own x hx
 · exact I.inj
 · intro k' cs' hq
   obtain ⟨⟨T',c',us',e1,e0,e2,e3⟩,e4⟩:=I.boxes k' cs' hq
   have hl:live st (.bx k'):=⟨cs',hq⟩
   exact ⟨⟨T',c',us',(W.other _ (hfree _ hl)).trans e1,e0,aM.mono k e2,e3⟩,fun o ho=>e4 o (xu _ hl _ ho)⟩
 · intro t z hz
   obtain ⟨o',n,cap,c,e1,e2,e3,e0⟩:=I.gE t z hz
   exact ⟨o',n,cap,c,e1,e2,hroom (.sx t) (.inr ⟨z,hz⟩) e3,e0⟩
 · intro k' i z hz
   obtain ⟨o',n,cap,c,dc,e1,e2,e3,e4,e0⟩:=I.ig k' i z hz
   exact ⟨o',n,cap,c,dc,e1,e2,(World.cell?_of_block (w:=w) (W.other _ (hfree (.bx k') ⟨dc,e1⟩))).trans e3,hroom (.cx k' i) ⟨z,hz⟩ e4,e0⟩
 · intro t q ht hq
   rw [←I.tags t q ht hq]
   cases q with
   |s x=>rfl
   |c k' i=>
    obtain ⟨z,hz⟩:=hq
    obtain ⟨o',n,cap,c,dc,e1,e2,e3,e4,e0⟩:=I.ig k' i z hz
    exact World.cell?_of_block (w:=w) (W.other _ (hfree (.bx k') ⟨dc,e1⟩))
theorem A1 {p:PV} {n:Nat} {cs:List PV} {v:Value} (h:qw p=some (n,cs)) (hr:Rp w Pr p v):
  (n=0∧cs=[]∧v= .slice none 0 0)∨∃sz b o cap vs,p= .sl sz n cs∧v= .slice (some ⟨b,o,none⟩) n cap∧aM w Pr cs vs∧One vs∧cs.length=n* sz∧n≤cap∧w.rangeAt b o vs∧∀i,i<vs.length→Pr b (o+i):=by
 unfold qw at h
 split at h
 · simp at h;obtain ⟨rfl,rfl⟩:=h;cases hr;exact .inl ⟨rfl,rfl,rfl⟩
 · simp at h;obtain ⟨rfl,rfl⟩:=h
   cases hr with
   |sl hr h1 hl hn hc hp=>exact .inr ⟨_,_,_,_,_,rfl,rfl,hr,h1,hl,hn,hc,hp⟩
   |nV=>exact .inl ⟨rfl,rfl,rfl⟩
 · simp at h
theorem NF {y:Operand} {m s:Nat} {new:List PV} {U e':TypeId} (I:Inv base w Pr bk st a N) (hy:(st.pv y).bind qw=some (m,new)) (hl:new.length=m* s) (hU:P.underlying U=some (.slice e')):
  ∃news,aM w Pr new news∧One news∧Src P s U (a.eval y) m news w:=by
 rw [Option.bind_eq_some_iff] at hy
 obtain ⟨p,hp,hv⟩:=hy
 rcases A1 hv (iw I hp) with ⟨rfl,rfl,h⟩|⟨sz,b,o,cap,vs,rfl,h,hr,h1,mN,hn,hc,Ja⟩
 · exact ⟨[], .nil,fun _ h=>by simp at h,by rw [h];exact Src.ofNil w hU 0⟩
 · refine ⟨vs,hr,h1, ?_⟩
   rw [h]
   exact Src.ofSlice w hU ⟨b,o,none⟩ m cap vs (by rw [←hr.length];exact hl) (fun j u hj=>by rw [Addr.add_mid];exact hc j u hj) h1
theorem oh {o:Oper} {x y:Operand} {T U:TypeId} {args:Array Operand} {ts:Array TypeId} (ho:o.op= .call { callee:= .builtin .append,args:=args,argTypes:=ts}) (ha:args.toList=[x,y]) (ht:ts.toList=[T,U]) {v:Value} {w':World}
  (h:(Builtin.append_ #[T,U] o.type #[a.eval x,a.eval y]).run P w= .ok v w'):(execOp a.eval o).run P w= .ok (.value v) w':=by
 have he:=jW (P:=P) (w:=w) (a:=a) ho
 rw [args2 ha] at he
 have hts:ts= #[T,U]:=Array.ext' (by simpa using ht)
 rw [he,hts]
 exact dB (by simpa using h)
theorem Ep (I:Inv base w Pr bk st a N) {o:Oper} {d s c:Nat} {cs:List PV} {vs:List Value} {n:Nat} {e:TypeId} {tail:Array Value} (jZ:o.dst=some d) (hd:d<N) (hs:0<s)
  (hr:aM w Pr cs vs) (h1:One vs) (hl:cs.length=n* s) (hn:n≤c) (Oh:tail.size=(c - n)* s)
  (he:(execOp a.eval o).run P w= .ok (.value (.slice (some ⟨w.heap.size,0,none⟩) n c)) (w.drew.alloc (.cells (vs.toArray++tail) e))):
  jF P base w Pr bk st a N o (st.made (some d) { v:= .pv (.sl s n cs),gr:=some s}):=by
 have hlen:=hr.length
 have hf:Fw w Pr (w.drew.alloc (.cells (vs.toArray++tail) e)) (fun b o=>Pr b o∨(b=w.heap.size∧o<n* s)):=
  ⟨((Below.refl _ _).drew).alloc (by simp) _,fun b o h=> .inl h,fun b o hb h=>h.resolve_right (fun h=>by omega),fun b o h=>by
    simp only [World.size_alloc,World.size_drew]
    rcases h with h|h
    · have:=I.bH b o h;omega
    · omega⟩
 have hh:(w.drew.alloc (.cells (vs.toArray++tail) e)).heap[w.heap.size]? =some (.cells (vs.toArray++tail) e (0,0)):=heap_alloc w.drew _
 have hsz:(vs.toArray++tail).size=c* s:=by
  simp only [Array.size_append,List.size_toArray,Oh,←hlen,hl]
  rw [←Nat.add_mul];congr 1;omega
 have hroom:Room (w.drew.alloc (.cells (vs.toArray++tail) e)) (fun b o=>Pr b o∨(b=w.heap.size∧o<n* s)) w.heap.size 0 n c s:=
  ⟨hs,hn,⟨_,_,hh,by rw [hsz];omega⟩,fun o' h=>by
   rcases h with h|h
   · exact absurd (I.bH _ _ h) (by omega)
   · omega⟩
 have cQ:Rp (w.drew.alloc (.cells (vs.toArray++tail) e)) (fun b o=>Pr b o∨(b=w.heap.size∧o<n* s)) (.sl s n cs) (.slice (some ⟨w.heap.size,0,none⟩) n c):=by
  refine .sl (aM.mono (hf.kp I.bH) hr) h1 hl hn (fun j v hj=> ?_) (fun i hi=> .inr ⟨rfl,by omega⟩)
  rw [cell_of_row _ _ _ _ _ _ hh,Nat.zero_add,←hj]
  have hlt:j<vs.length:=(List.getElem?_eq_some_iff.1 hj).1
  rw [Array.getElem?_append_left (by simpa using hlt)];simp
 have I2:=I.fw hf
 have hm:dn base (w.drew.alloc (.cells (vs.toArray++tail) e)) (fun b o=>Pr b o∨(b=w.heap.size∧o<n* s)) bk st a { v:= .pv (.sl s n cs),gr:=some s} (.slice (some ⟨w.heap.size,0,none⟩) n c):=by
  refine ⟨fun _ _=>cQ,fun _ _ _ h=>by simp at h,fun z hz=> ?_,fun q h=>by simp at h⟩
  simp only [Option.some.injEq] at hz;subst hz
  exact ⟨w.heap.size,0,n,c,cs,rfl,rfl,hroom,rfl,I.hb,by simp,fun x hx e=>by have:=(I.own x hx).2;omega⟩
 obtain ⟨aN,hI,hbk⟩:=I2.iq hd hm
 intro K Q hK
 unfold Oper.wp
 rw [he]
 show K (a.put o.dst _) _
 rw [jZ]
 exact hK _ _ _ _ hI (hf.gB.mono I.hb) (hf.kp I.bH) (fun b o hb h=>hf.old b o (Nat.lt_of_lt_of_le hb I.hb) h) hf.ko (fun k _=>hbk k) rfl
end
end Go.Proofs.YtibbgjafjhcemaaGreatDoor.Cul
