/- Part of a proof by an abstract machine for the program's code: lemmas, without conditions of their own beyond those that each states. (Made smaller by a program: short names, no comments.) -/
import Derived.Test.YtibbgjafjhcemaaDoorProg
import Derived.Maps.RangeRun
import Derived.Maps.Range
import Derived.WideMake
import Derived.Test.YtibbgjafjhcemaaDoorRTSG5
set_option linter.unusedVariables false
set_option linter.unusedSimpArgs false
set_option maxRecDepth 100000
set_option maxHeartbeats 2000000
namespace Go.Proofs.YtibbgjafjhcemaaDoor.Cul
open Go Go.RowKit
def aq.cw (n:Int):aq:=⟨RI.of n, .zero, .zero, .zero,RI.of 1⟩
def bl.cw (x y z:Int):bl:=⟨aq.cw x,aq.cw y,aq.cw z⟩
def bl.ok (v:bl):Bool:=(v.x.ok&&v.y.ok)&&v.z.ok
def bl.tw (v:bl):Bool:=v.dB (bl.cw 0 0 0)
def bF.ok (p:bF):Bool:=(p.n.ok&& !p.n.tw)&&p.d.ok
def bl.over (v:bl):bl:=if v.ok then ⟨v.x,v.y.neg,v.z.neg⟩ else .zero
def bF.over (p:bF):bF×Int:=if p.ok then (⟨p.n.over,p.d⟩,0) else (.zero,1)
def aY.ok (s:aY):Bool:=decide ((0≤s.h∧s.h≤1000)∧(-1000≤s.v∧s.v≤1000)∧Nat.gcd s.h.natAbs s.v.natAbs=1)&&decide ((0≤s.i∧s.i<24)∧(s.h≠0∨s.i=0))
def aY.over (s:aY):aY×Int:=if s.ok then (⟨s.h, -s.v,(-s.i)%24⟩,0) else (.zero,1)
def aq.raw (x:aq) (n:Int):Bool:=decide ((x.c0.s.size:Int)≤n)&&(decide ((x.c1.s.size:Int)≤n)&&(decide ((x.c2.s.size:Int)≤n)&&(decide ((x.c3.s.size:Int)≤n)&&decide ((x.d.s.size:Int)≤n))))
def bl.raw (v:bl) (n:Int):Bool:=(v.x.raw n&&v.y.raw n)&&v.z.raw n
def bF.raw (p:bF) (n:Int):Bool:=p.n.raw n&&p.d.raw n
def bl.small (v:bl):Prop:=v.x.small∧v.y.small∧v.z.small
def bF.small (p:bF):Prop:=p.n.small∧p.d.small
noncomputable def um:List PV→Option RV:=bJ (fun n:Int=> -(2^63)≤n∧n<2^63) (fun n=>[iv n]) (fun n=>one (.ag (aq.cw n).cells))
noncomputable def Jt:List PV→Option RV:=bJ (fun x:Int×Int×Int=>(-(2^63)≤x.1∧x.1<2^63)∧(-(2^63)≤x.2.1∧x.2.1<2^63)∧(-(2^63)≤x.2.2∧x.2.2<2^63)) (fun x=>[iv x.1,iv x.2.1,iv x.2.2]) (fun x=>one (.ag (bl.cw x.1 x.2.1 x.2.2).cells))
noncomputable def FY:List PV→Option RV:=bJ aq.small (fun x=>[.ag x.cells]) (fun x=>one (.ag x.neg.cells))
noncomputable def Au:List PV→Option RV:=bJ (fun _:bl=>True) (fun v=>[.ag v.cells]) (fun v=>one (.fn 70 [.el v.cells]))
noncomputable def KK:List PV→Option RV:=bJ bl.small (fun v=>[.ag v.cells]) (fun v=>one (bv v.ok))
noncomputable def O7:List PV→Option RV:=bJ (fun _:bl=>True) (fun v=>[.ag v.cells]) (fun v=>one (bv v.tw))
noncomputable def Oj:List PV→Option RV:=bJ bF.small (fun p=>[.ag p.cells]) (fun p=>one (bv p.ok))
noncomputable def Hu:List PV→Option RV:=bJ bl.small (fun v=>[.ag v.cells]) (fun v=>one (.ag v.over.cells))
noncomputable def Kf:List PV→Option RV:=bJ bF.small (fun p=>[.ag p.cells]) (fun p=>one (.aG [.ag p.over.1.cells,iv p.over.2]))
noncomputable def Ky:List PV→Option RV:=bJ (fun _:aY=>True) (fun s=>[.ag s.cells]) (fun s=>one (bv s.ok))
noncomputable def Kv:List PV→Option RV:=bJ (fun _:aY=>True) (fun s=>[.ag s.cells]) (fun s=>one (.aG [.ag s.over.1.cells,iv s.over.2]))
noncomputable def Mt:List PV→Option RV:=bJ (fun _:Nat×Nat=>True) (fun x=>[iv x.1,iv x.2]) (fun x=>one (iv (Nat.gcd x.1 x.2:Nat)))
noncomputable def N0:List PV→Option RV:=bJ (fun _:aq×Int=>True) (fun x=>[.ag x.1.cells,iv x.2]) (fun x=>one (bv (x.1.raw x.2)))
noncomputable def O5:List PV→Option RV:=bJ (fun _:bl×Int=>True) (fun x=>[.ag x.1.cells,iv x.2]) (fun x=>one (bv (x.1.raw x.2)))
noncomputable def Oe:List PV→Option RV:=bJ (fun _:bF×Int=>True) (fun x=>[.ag x.1.cells,iv x.2]) (fun x=>one (bv (x.1.raw x.2)))
def L5:List PV→Option RV:=Kw (bv true)
noncomputable def s1:Cl:=bI [(66,xl),(61,Ea)]
noncomputable def s2:Cl:=bI [(44,um),(48,um)]
noncomputable def s3:Cl:=bI [(69,Jt),(29,Jt)]
noncomputable def s4:Cl:=bI [(53,Au),(43,yd),(39,yd)]
noncomputable def s5:Cl:=bI [(36,KK),(22,KK),(49,O7),(50,O7),(43,yd),(39,yd),(37,FY),(38,FY)]
noncomputable def s6:Cl:=bI [(32,Oj),(33,Oj),(20,Hu),(21,Hu)]
noncomputable def s7:Cl:=bI [(51,Mt),(52,Mt)]
noncomputable def s8:Cl:=bI [(34,Ky),(35,Ky),(30,oC (· %24)),(13,oC (· %24))]
noncomputable def s9:Cl:=bI [(31,N0)]
noncomputable def CK:Cl:=bI [(31,N0),(14,O5)]
noncomputable def jY:Cl:=bI [(8,L5),(14,O5),(15,Oe),(16,Kf),(17,Kf),(18,Kv),(19,Kv),(20,Hu),(21,Hu),(22,KK)]
theorem XG (k:Nat) (n:Int) (y o:RI):ay MD s1 k 44 [iv n] [.r (one (.ag y.cells)), .r (one (.ag o.cells))]=
 some (RV.mk (PV.ag [bv y.g,sv y.s,bv false,sv (ByteArray.mk #[]),bv false,sv (ByteArray.mk #[]),bv false,sv (ByteArray.mk #[]),bv o.g,sv o.s]) none,[aa s1 66 [iv n] (RV.mk (PV.ag y.cells) none),aa s1 66 [iv (1:Int)] (RV.mk (PV.ag o.cells) none)]):=by kernel_rfl
theorem XH (k:Nat) (n:Int) (y o:RI):ay MD s1 k 48 [iv n] [.r (one (.ag y.cells)), .r (one (.ag o.cells))]=
 some (RV.mk (PV.ag [bv y.g,sv y.s,bv false,sv (ByteArray.mk #[]),bv false,sv (ByteArray.mk #[]),bv false,sv (ByteArray.mk #[]),bv o.g,sv o.s]) none,[aa s1 61 [iv n] (RV.mk (PV.ag y.cells) none),aa s1 61 [iv (1:Int)] (RV.mk (PV.ag o.cells) none)]):=by kernel_rfl
theorem XI (k:Nat) (a b c:Int) (x y z:aq):ay MD s2 k 69 [iv a,iv b,iv c] [.r (one (.ag x.cells)), .r (one (.ag y.cells)), .r (one (.ag z.cells))]=
 some (RV.mk (PV.ag [bv x.c0.g,sv x.c0.s,bv x.c1.g,sv x.c1.s,bv x.c2.g,sv x.c2.s,bv x.c3.g,sv x.c3.s,bv x.d.g,sv x.d.s,bv y.c0.g,sv y.c0.s,bv y.c1.g,sv y.c1.s,bv y.c2.g,sv y.c2.s,bv y.c3.g,sv y.c3.s,bv y.d.g,sv y.d.s,bv z.c0.g,sv z.c0.s,bv z.c1.g,sv z.c1.s,bv z.c2.g,sv z.c2.s,bv z.c3.g,sv z.c3.s,bv z.d.g,sv z.d.s]) none,[aa s2 44 [iv a] (RV.mk (PV.ag x.cells) none),aa s2 44 [iv b] (RV.mk (PV.ag y.cells) none),aa s2 44 [iv c] (RV.mk (PV.ag z.cells) none)]):=by kernel_rfl
theorem XJ (k:Nat) (a b c:Int) (x y z:aq):ay MD s2 k 29 [iv a,iv b,iv c] [.r (one (.ag x.cells)), .r (one (.ag y.cells)), .r (one (.ag z.cells))]=
 some (RV.mk (PV.ag [bv x.c0.g,sv x.c0.s,bv x.c1.g,sv x.c1.s,bv x.c2.g,sv x.c2.s,bv x.c3.g,sv x.c3.s,bv x.d.g,sv x.d.s,bv y.c0.g,sv y.c0.s,bv y.c1.g,sv y.c1.s,bv y.c2.g,sv y.c2.s,bv y.c3.g,sv y.c3.s,bv y.d.g,sv y.d.s,bv z.c0.g,sv z.c0.s,bv z.c1.g,sv z.c1.s,bv z.c2.g,sv z.c2.s,bv z.c3.g,sv z.c3.s,bv z.d.g,sv z.d.s]) none,[aa s2 48 [iv a] (RV.mk (PV.ag x.cells) none),aa s2 48 [iv b] (RV.mk (PV.ag y.cells) none),aa s2 48 [iv c] (RV.mk (PV.ag z.cells) none)]):=by kernel_rfl
theorem XP (k:Nat) (v w:bl) (b:Bool):ay MD s3 k 49 [.ag v.cells] [.r (one (.ag w.cells)), .g b]=
 some (RV.mk (bv b) none,[aa s3 69 [iv (0:Int),iv (0:Int),iv (0:Int)] (RV.mk (PV.ag w.cells) none),gw MD.P BinOp.eql 32 (Operand.tmp (3:Nat)) (Operand.tmp (4:Nat)) (Value.agg v.vals.toArray) (Value.agg w.vals.toArray) b]):=by kernel_rfl
theorem XQ (k:Nat) (v w:bl) (b:Bool):ay MD s3 k 50 [.ag v.cells] [.r (one (.ag w.cells)), .g b]=
 some (RV.mk (bv b) none,[aa s3 29 [iv (0:Int),iv (0:Int),iv (0:Int)] (RV.mk (PV.ag w.cells) none),gw MD.P BinOp.eql 32 (Operand.tmp (3:Nat)) (Operand.tmp (4:Nat)) (Value.agg v.vals.toArray) (Value.agg w.vals.toArray) b]):=by kernel_rfl
theorem XA (k:Nat) (v:bl):ay MD t0 k 53 [.ag v.cells] []=
 some (RV.mk (PV.fn 70 [PV.el v.cells]) none,[]):=by kernel_rfl
theorem Ze (k:Nat) (v:bl):ay MD s4 k 36 [.ag v.cells] [.r (one (.fn 70 [.el v.cells])), .r (one (bv false))]=
 some (RV.mk (bv false) none,[aa s4 53 [PV.ag v.cells] (RV.mk (PV.fn 70 [PV.el v.cells]) none),aa s4 43 [PV.ag v.x.cells] (RV.mk (bv false) none)]):=by kernel_rfl
theorem Zf (k:Nat) (v:bl):ay MD s4 k 36 [.ag v.cells] [.r (one (.fn 70 [.el v.cells])), .r (one (bv true)), .r (one (bv false))]=
 some (RV.mk (bv false) none,[aa s4 53 [PV.ag v.cells] (RV.mk (PV.fn 70 [PV.el v.cells]) none),aa s4 43 [PV.ag v.x.cells] (RV.mk (bv true) none),aa s4 43 [PV.ag v.y.cells] (RV.mk (bv false) none)]):=by kernel_rfl
theorem vec (k:Nat) (v:bl):ay MD s4 k 36 [.ag v.cells] [.r (one (.fn 70 [.el v.cells])), .r (one (bv true)), .r (one (bv true)), .r (one (bv false))]=
 some (RV.mk (bv false) none,[aa s4 53 [PV.ag v.cells] (RV.mk (PV.fn 70 [PV.el v.cells]) none),aa s4 43 [PV.ag v.x.cells] (RV.mk (bv true) none),aa s4 43 [PV.ag v.y.cells] (RV.mk (bv true) none),aa s4 43 [PV.ag v.z.cells] (RV.mk (bv false) none)]):=by kernel_rfl
theorem Zg (k:Nat) (v:bl):ay MD s4 k 36 [.ag v.cells] [.r (one (.fn 70 [.el v.cells])), .r (one (bv true)), .r (one (bv true)), .r (one (bv true))]=
 some (RV.mk (bv true) none,[aa s4 53 [PV.ag v.cells] (RV.mk (PV.fn 70 [PV.el v.cells]) none),aa s4 43 [PV.ag v.x.cells] (RV.mk (bv true) none),aa s4 43 [PV.ag v.y.cells] (RV.mk (bv true) none),aa s4 43 [PV.ag v.z.cells] (RV.mk (bv true) none)]):=by kernel_rfl
theorem Zh (k:Nat) (v:bl):ay MD s4 k 22 [.ag v.cells] [.r (one (bv false))]=
 some (RV.mk (bv false) none,[aa s4 39 [PV.ag v.x.cells] (RV.mk (bv false) none)]):=by kernel_rfl
theorem Zi (k:Nat) (v:bl):ay MD s4 k 22 [.ag v.cells] [.r (one (bv true)), .r (one (bv false))]=
 some (RV.mk (bv false) none,[aa s4 39 [PV.ag v.x.cells] (RV.mk (bv true) none),aa s4 39 [PV.ag v.y.cells] (RV.mk (bv false) none)]):=by kernel_rfl
theorem Zj (k:Nat) (v:bl) (b:Bool):ay MD s4 k 22 [.ag v.cells] [.r (one (bv true)), .r (one (bv true)), .r (one (bv b))]=
 some (RV.mk (bv b) none,[aa s4 39 [PV.ag v.x.cells] (RV.mk (bv true) none),aa s4 39 [PV.ag v.y.cells] (RV.mk (bv true) none),aa s4 39 [PV.ag v.z.cells] (RV.mk (bv b) none)]):=by kernel_rfl
theorem S7 (k:Nat) (p:bF):ay MD s5 k 32 [.ag p.cells] [.r (one (bv false))]=
 some (RV.mk (bv false) none,[aa s5 36 [PV.ag p.n.cells] (RV.mk (bv false) none)]):=by kernel_rfl
theorem S8 (k:Nat) (p:bF):ay MD s5 k 32 [.ag p.cells] [.r (one (bv true)), .r (one (bv true))]=
 some (RV.mk (bv false) none,[aa s5 36 [PV.ag p.n.cells] (RV.mk (bv true) none),aa s5 49 [PV.ag p.n.cells] (RV.mk (bv true) none)]):=by kernel_rfl
theorem S9 (k:Nat) (p:bF) (b:Bool):ay MD s5 k 32 [.ag p.cells] [.r (one (bv true)), .r (one (bv false)), .r (one (bv b))]=
 some (RV.mk (bv b) none,[aa s5 36 [PV.ag p.n.cells] (RV.mk (bv true) none),aa s5 49 [PV.ag p.n.cells] (RV.mk (bv false) none),aa s5 43 [PV.ag p.d.cells] (RV.mk (bv b) none)]):=by kernel_rfl
theorem Ta (k:Nat) (p:bF):ay MD s5 k 33 [.ag p.cells] [.r (one (bv false))]=
 some (RV.mk (bv false) none,[aa s5 22 [PV.ag p.n.cells] (RV.mk (bv false) none)]):=by kernel_rfl
theorem Tb (k:Nat) (p:bF):ay MD s5 k 33 [.ag p.cells] [.r (one (bv true)), .r (one (bv true))]=
 some (RV.mk (bv false) none,[aa s5 22 [PV.ag p.n.cells] (RV.mk (bv true) none),aa s5 50 [PV.ag p.n.cells] (RV.mk (bv true) none)]):=by kernel_rfl
theorem Tc (k:Nat) (p:bF) (b:Bool):ay MD s5 k 33 [.ag p.cells] [.r (one (bv true)), .r (one (bv false)), .r (one (bv b))]=
 some (RV.mk (bv b) none,[aa s5 22 [PV.ag p.n.cells] (RV.mk (bv true) none),aa s5 50 [PV.ag p.n.cells] (RV.mk (bv false) none),aa s5 39 [PV.ag p.d.cells] (RV.mk (bv b) none)]):=by kernel_rfl
theorem SY (k:Nat) (v:bl):ay MD s5 k 20 [.ag v.cells] [.r (one (bv false))]=
 some (RV.mk (PV.ag [bv false,sv (ByteArray.mk #[]),bv false,sv (ByteArray.mk #[]),bv false,sv (ByteArray.mk #[]),bv false,sv (ByteArray.mk #[]),bv false,sv (ByteArray.mk #[]),bv false,sv (ByteArray.mk #[]),bv false,sv (ByteArray.mk #[]),bv false,sv (ByteArray.mk #[]),bv false,sv (ByteArray.mk #[]),bv false,sv (ByteArray.mk #[]),bv false,sv (ByteArray.mk #[]),bv false,sv (ByteArray.mk #[]),bv false,sv (ByteArray.mk #[]),bv false,sv (ByteArray.mk #[]),bv false,sv (ByteArray.mk #[])]) none,[aa s5 36 [PV.ag v.cells] (RV.mk (bv false) none)]):=by kernel_rfl
theorem SZ (k:Nat) (v:bl) (y z:aq):ay MD s5 k 20 [.ag v.cells] [.r (one (bv true)), .r (one (.ag y.cells)), .r (one (.ag z.cells))]=
 some (RV.mk (PV.ag [bv v.x.c0.g,sv v.x.c0.s,bv v.x.c1.g,sv v.x.c1.s,bv v.x.c2.g,sv v.x.c2.s,bv v.x.c3.g,sv v.x.c3.s,bv v.x.d.g,sv v.x.d.s,bv y.c0.g,sv y.c0.s,bv y.c1.g,sv y.c1.s,bv y.c2.g,sv y.c2.s,bv y.c3.g,sv y.c3.s,bv y.d.g,sv y.d.s,bv z.c0.g,sv z.c0.s,bv z.c1.g,sv z.c1.s,bv z.c2.g,sv z.c2.s,bv z.c3.g,sv z.c3.s,bv z.d.g,sv z.d.s]) none,[aa s5 36 [PV.ag v.cells] (RV.mk (bv true) none),aa s5 37 [PV.ag v.y.cells] (RV.mk (PV.ag y.cells) none),aa s5 37 [PV.ag v.z.cells] (RV.mk (PV.ag z.cells) none)]):=by kernel_rfl
theorem S0 (k:Nat) (v:bl):ay MD s5 k 21 [.ag v.cells] [.r (one (bv false))]=
 some (RV.mk (PV.ag [bv false,sv (ByteArray.mk #[]),bv false,sv (ByteArray.mk #[]),bv false,sv (ByteArray.mk #[]),bv false,sv (ByteArray.mk #[]),bv false,sv (ByteArray.mk #[]),bv false,sv (ByteArray.mk #[]),bv false,sv (ByteArray.mk #[]),bv false,sv (ByteArray.mk #[]),bv false,sv (ByteArray.mk #[]),bv false,sv (ByteArray.mk #[]),bv false,sv (ByteArray.mk #[]),bv false,sv (ByteArray.mk #[]),bv false,sv (ByteArray.mk #[]),bv false,sv (ByteArray.mk #[]),bv false,sv (ByteArray.mk #[])]) none,[aa s5 22 [PV.ag v.cells] (RV.mk (bv false) none)]):=by kernel_rfl
theorem S3 (k:Nat) (v:bl) (y z:aq):ay MD s5 k 21 [.ag v.cells] [.r (one (bv true)), .r (one (.ag y.cells)), .r (one (.ag z.cells))]=
 some (RV.mk (PV.ag [bv v.x.c0.g,sv v.x.c0.s,bv v.x.c1.g,sv v.x.c1.s,bv v.x.c2.g,sv v.x.c2.s,bv v.x.c3.g,sv v.x.c3.s,bv v.x.d.g,sv v.x.d.s,bv y.c0.g,sv y.c0.s,bv y.c1.g,sv y.c1.s,bv y.c2.g,sv y.c2.s,bv y.c3.g,sv y.c3.s,bv y.d.g,sv y.d.s,bv z.c0.g,sv z.c0.s,bv z.c1.g,sv z.c1.s,bv z.c2.g,sv z.c2.s,bv z.c3.g,sv z.c3.s,bv z.d.g,sv z.d.s]) none,[aa s5 22 [PV.ag v.cells] (RV.mk (bv true) none),aa s5 38 [PV.ag v.y.cells] (RV.mk (PV.ag y.cells) none),aa s5 38 [PV.ag v.z.cells] (RV.mk (PV.ag z.cells) none)]):=by kernel_rfl
theorem SK (k:Nat) (p:bF):ay MD s6 k 16 [.ag p.cells] [.r (one (bv false))]=
 some (RV.mk (PV.aG [PV.ag [bv false,sv (ByteArray.mk #[]),bv false,sv (ByteArray.mk #[]),bv false,sv (ByteArray.mk #[]),bv false,sv (ByteArray.mk #[]),bv false,sv (ByteArray.mk #[]),bv false,sv (ByteArray.mk #[]),bv false,sv (ByteArray.mk #[]),bv false,sv (ByteArray.mk #[]),bv false,sv (ByteArray.mk #[]),bv false,sv (ByteArray.mk #[]),bv false,sv (ByteArray.mk #[]),bv false,sv (ByteArray.mk #[]),bv false,sv (ByteArray.mk #[]),bv false,sv (ByteArray.mk #[]),bv false,sv (ByteArray.mk #[]),bv false,sv (ByteArray.mk #[]),bv false,sv (ByteArray.mk #[]),bv false,sv (ByteArray.mk #[]),bv false,sv (ByteArray.mk #[]),bv false,sv (ByteArray.mk #[])],iv (1:Int)]) none,[aa s6 32 [PV.ag p.cells] (RV.mk (bv false) none)]):=by kernel_rfl
theorem SL (k:Nat) (p:bF) (w:bl):ay MD s6 k 16 [.ag p.cells] [.r (one (bv true)), .r (one (.ag w.cells))]=
 some (RV.mk (PV.aG [PV.ag [bv w.x.c0.g,sv w.x.c0.s,bv w.x.c1.g,sv w.x.c1.s,bv w.x.c2.g,sv w.x.c2.s,bv w.x.c3.g,sv w.x.c3.s,bv w.x.d.g,sv w.x.d.s,bv w.y.c0.g,sv w.y.c0.s,bv w.y.c1.g,sv w.y.c1.s,bv w.y.c2.g,sv w.y.c2.s,bv w.y.c3.g,sv w.y.c3.s,bv w.y.d.g,sv w.y.d.s,bv w.z.c0.g,sv w.z.c0.s,bv w.z.c1.g,sv w.z.c1.s,bv w.z.c2.g,sv w.z.c2.s,bv w.z.c3.g,sv w.z.c3.s,bv w.z.d.g,sv w.z.d.s,bv p.d.c0.g,sv p.d.c0.s,bv p.d.c1.g,sv p.d.c1.s,bv p.d.c2.g,sv p.d.c2.s,bv p.d.c3.g,sv p.d.c3.s,bv p.d.d.g,sv p.d.d.s],iv (0:Int)]) none,[aa s6 32 [PV.ag p.cells] (RV.mk (bv true) none),aa s6 20 [PV.ag p.n.cells] (RV.mk (PV.ag w.cells) none)]):=by kernel_rfl
theorem SN (k:Nat) (p:bF):ay MD s6 k 17 [.ag p.cells] [.r (one (bv false))]=
 some (RV.mk (PV.aG [PV.ag [bv false,sv (ByteArray.mk #[]),bv false,sv (ByteArray.mk #[]),bv false,sv (ByteArray.mk #[]),bv false,sv (ByteArray.mk #[]),bv false,sv (ByteArray.mk #[]),bv false,sv (ByteArray.mk #[]),bv false,sv (ByteArray.mk #[]),bv false,sv (ByteArray.mk #[]),bv false,sv (ByteArray.mk #[]),bv false,sv (ByteArray.mk #[]),bv false,sv (ByteArray.mk #[]),bv false,sv (ByteArray.mk #[]),bv false,sv (ByteArray.mk #[]),bv false,sv (ByteArray.mk #[]),bv false,sv (ByteArray.mk #[]),bv false,sv (ByteArray.mk #[]),bv false,sv (ByteArray.mk #[]),bv false,sv (ByteArray.mk #[]),bv false,sv (ByteArray.mk #[]),bv false,sv (ByteArray.mk #[])],iv (1:Int)]) none,[aa s6 33 [PV.ag p.cells] (RV.mk (bv false) none)]):=by kernel_rfl
theorem SQ (k:Nat) (p:bF) (w:bl):ay MD s6 k 17 [.ag p.cells] [.r (one (bv true)), .r (one (.ag w.cells))]=
 some (RV.mk (PV.aG [PV.ag [bv w.x.c0.g,sv w.x.c0.s,bv w.x.c1.g,sv w.x.c1.s,bv w.x.c2.g,sv w.x.c2.s,bv w.x.c3.g,sv w.x.c3.s,bv w.x.d.g,sv w.x.d.s,bv w.y.c0.g,sv w.y.c0.s,bv w.y.c1.g,sv w.y.c1.s,bv w.y.c2.g,sv w.y.c2.s,bv w.y.c3.g,sv w.y.c3.s,bv w.y.d.g,sv w.y.d.s,bv w.z.c0.g,sv w.z.c0.s,bv w.z.c1.g,sv w.z.c1.s,bv w.z.c2.g,sv w.z.c2.s,bv w.z.c3.g,sv w.z.c3.s,bv w.z.d.g,sv w.z.d.s,bv p.d.c0.g,sv p.d.c0.s,bv p.d.c1.g,sv p.d.c1.s,bv p.d.c2.g,sv p.d.c2.s,bv p.d.c3.g,sv p.d.c3.s,bv p.d.d.g,sv p.d.d.s],iv (0:Int)]) none,[aa s6 33 [PV.ag p.cells] (RV.mk (bv true) none),aa s6 21 [PV.ag p.n.cells] (RV.mk (PV.ag w.cells) none)]):=by kernel_rfl
theorem Re (k:Nat) (a b:Int):aA MD t0 k 51 0 ⟨[(0, .pv (iv a)),(1, .pv (iv b))],[],[],[]⟩ [.c false]=
 some ((Xt.exit 0,St.mk [(0,AV.pv (iv a)),(1,AV.pv (iv b)),(6,AV.pv (bv false))] [] [] []),[],[(b !=(0:Int))=false]):=by kernel_rfl
theorem Rf (k:Nat) (a b r:Int):aA MD t0 k 51 0 ⟨[(0, .pv (iv a)),(1, .pv (iv b))],[],[],[]⟩ [.c true, .i 10 r]=
 some ((Xt.normal,St.mk [(0,AV.pv (iv b)),(1,AV.pv (iv r))] [] [] []),[],[(b !=(0:Int))=true,a.tmod b=r,decide (b=(0:Int))=false]):=by kernel_rfl
theorem Rg (k:Nat) (a b g:Int):ay MD t0 k 51 [iv a,iv b] [.l (.exit 0) ⟨[(0, .pv (iv g)),(1, .pv (iv 0)),(6, .pv (bv false))],[],[],[]⟩]=
 some (RV.mk (iv g) none,[aW MD t0 k (51:Nat) (0:Nat) (St.mk [(0,AV.pv (iv a)),(1,AV.pv (iv b))] [] [] []) (Xt.exit 0) (St.mk [(0,AV.pv (iv g)),(1,AV.pv (iv (0:Int))),(6,AV.pv (bv false))] [] [] [])]):=by kernel_rfl
theorem Rh (k:Nat) (a b:Int):aA MD t0 k 52 0 ⟨[(0, .pv (iv a)),(1, .pv (iv b))],[],[],[]⟩ [.c false]=
 some ((Xt.exit 0,St.mk [(0,AV.pv (iv a)),(1,AV.pv (iv b)),(6,AV.pv (bv false))] [] [] []),[],[(b !=(0:Int))=false]):=by kernel_rfl
theorem Ri (k:Nat) (a b r:Int):aA MD t0 k 52 0 ⟨[(0, .pv (iv a)),(1, .pv (iv b))],[],[],[]⟩ [.c true, .i 10 r]=
 some ((Xt.normal,St.mk [(0,AV.pv (iv b)),(1,AV.pv (iv r))] [] [] []),[],[(b !=(0:Int))=true,a.tmod b=r,decide (b=(0:Int))=false]):=by kernel_rfl
theorem Rj (k:Nat) (a b g:Int):ay MD t0 k 52 [iv a,iv b] [.l (.exit 0) ⟨[(0, .pv (iv g)),(1, .pv (iv 0)),(6, .pv (bv false))],[],[],[]⟩]=
 some (RV.mk (iv g) none,[aW MD t0 k (52:Nat) (0:Nat) (St.mk [(0,AV.pv (iv a)),(1,AV.pv (iv b))] [] [] []) (Xt.exit 0) (St.mk [(0,AV.pv (iv g)),(1,AV.pv (iv (0:Int))),(6,AV.pv (bv false))] [] [] [])]):=by kernel_rfl
theorem TI (k:Nat) (s:aY):ay MD s7 k 34 [.ag s.cells] [.c true]=
 some (RV.mk (bv false) none,[decide (s.h<(0:Int))=true]):=by kernel_rfl
theorem TJ (k:Nat) (s:aY):ay MD s7 k 34 [.ag s.cells] [.c false, .c true]=
 some (RV.mk (bv false) none,[decide (s.h<(0:Int))=false,decide (s.h>(1000:Int))=true]):=by kernel_rfl
theorem TK (k:Nat) (s:aY):ay MD s7 k 34 [.ag s.cells] [.c false, .c false, .c true]=
 some (RV.mk (bv false) none,[decide (s.h<(0:Int))=false,decide (s.h>(1000:Int))=false,decide (s.v<(-1000:Int))=true]):=by kernel_rfl
theorem TL (k:Nat) (s:aY):ay MD s7 k 34 [.ag s.cells] [.c false, .c false, .c false, .c true]=
 some (RV.mk (bv false) none,[decide (s.h<(0:Int))=false,decide (s.h>(1000:Int))=false,decide (s.v<(-1000:Int))=false,decide (s.v>(1000:Int))=true]):=by kernel_rfl
theorem TM (k:Nat) (s:aY) (nv m g:Int):ay MD s7 k 34 [.ag s.cells] [.c false, .c false, .c false, .c false, .i 28 nv, .i 29 m, .r (one (iv g)), .c true]=
 some (RV.mk (bv false) none,[decide (s.h<(0:Int))=false,decide (s.h>(1000:Int))=false,decide (s.v<(-1000:Int))=false,decide (s.v>(1000:Int))=false,IntKind.i64.wrap ((0:Int) - s.v)=nv,(if nv>s.v then nv else s.v)=m,aa s7 51 [iv s.h,iv m] (RV.mk (iv g) none),(g !=(1:Int))=true]):=by kernel_rfl
theorem TN (k:Nat) (s:aY) (nv m g:Int):ay MD s7 k 34 [.ag s.cells] [.c false, .c false, .c false, .c false, .i 28 nv, .i 29 m, .r (one (iv g)), .c false, .c false]=
 some (RV.mk (bv false) none,[decide (s.h<(0:Int))=false,decide (s.h>(1000:Int))=false,decide (s.v<(-1000:Int))=false,decide (s.v>(1000:Int))=false,IntKind.i64.wrap ((0:Int) - s.v)=nv,(if nv>s.v then nv else s.v)=m,aa s7 51 [iv s.h,iv m] (RV.mk (iv g) none),(g !=(1:Int))=false,decide (s.i≥(0:Int))=false]):=by kernel_rfl
theorem TO (k:Nat) (s:aY) (nv m g:Int):ay MD s7 k 34 [.ag s.cells] [.c false, .c false, .c false, .c false, .i 28 nv, .i 29 m, .r (one (iv g)), .c false, .c true, .c false]=
 some (RV.mk (bv false) none,[decide (s.h<(0:Int))=false,decide (s.h>(1000:Int))=false,decide (s.v<(-1000:Int))=false,decide (s.v>(1000:Int))=false,IntKind.i64.wrap ((0:Int) - s.v)=nv,(if nv>s.v then nv else s.v)=m,aa s7 51 [iv s.h,iv m] (RV.mk (iv g) none),(g !=(1:Int))=false,decide (s.i≥(0:Int))=true,decide (s.i<(24:Int))=false]):=by kernel_rfl
theorem TP (k:Nat) (s:aY) (nv m g:Int):ay MD s7 k 34 [.ag s.cells] [.c false, .c false, .c false, .c false, .i 28 nv, .i 29 m, .r (one (iv g)), .c false, .c true, .c true, .c true]=
 some (RV.mk (bv true) none,[decide (s.h<(0:Int))=false,decide (s.h>(1000:Int))=false,decide (s.v<(-1000:Int))=false,decide (s.v>(1000:Int))=false,IntKind.i64.wrap ((0:Int) - s.v)=nv,(if nv>s.v then nv else s.v)=m,aa s7 51 [iv s.h,iv m] (RV.mk (iv g) none),(g !=(1:Int))=false,decide (s.i≥(0:Int))=true,decide (s.i<(24:Int))=true,(s.h !=(0:Int))=true]):=by kernel_rfl
theorem TQ (k:Nat) (s:aY) (nv m g:Int) (b:Bool):ay MD s7 k 34 [.ag s.cells] [.c false, .c false, .c false, .c false, .i 28 nv, .i 29 m, .r (one (iv g)), .c false, .c true, .c true, .c false, .c b]=
 some (RV.mk (bv b) none,[decide (s.h<(0:Int))=false,decide (s.h>(1000:Int))=false,decide (s.v<(-1000:Int))=false,decide (s.v>(1000:Int))=false,IntKind.i64.wrap ((0:Int) - s.v)=nv,(if nv>s.v then nv else s.v)=m,aa s7 51 [iv s.h,iv m] (RV.mk (iv g) none),(g !=(1:Int))=false,decide (s.i≥(0:Int))=true,decide (s.i<(24:Int))=true,(s.h !=(0:Int))=false,(s.i==(0:Int))=b]):=by kernel_rfl
theorem TR (k:Nat) (s:aY):ay MD s7 k 35 [.ag s.cells] [.c false]=
 some (RV.mk (bv false) none,[decide (s.h≥(0:Int))=false]):=by kernel_rfl
theorem TS (k:Nat) (s:aY):ay MD s7 k 35 [.ag s.cells] [.c true, .c false]=
 some (RV.mk (bv false) none,[decide (s.h≥(0:Int))=true,decide (s.h≤(1000:Int))=false]):=by kernel_rfl
theorem TT (k:Nat) (s:aY):ay MD s7 k 35 [.ag s.cells] [.c true, .c true, .c false]=
 some (RV.mk (bv false) none,[decide (s.h≥(0:Int))=true,decide (s.h≤(1000:Int))=true,decide (s.v≥(-1000:Int))=false]):=by kernel_rfl
theorem TU (k:Nat) (s:aY):ay MD s7 k 35 [.ag s.cells] [.c true, .c true, .c true, .c false]=
 some (RV.mk (bv false) none,[decide (s.h≥(0:Int))=true,decide (s.h≤(1000:Int))=true,decide (s.v≥(-1000:Int))=true,decide (s.v≤(1000:Int))=false]):=by kernel_rfl
theorem TV (k:Nat) (s:aY) (nv m g:Int):ay MD s7 k 35 [.ag s.cells] [.c true, .c true, .c true, .c true, .i 28 nv, .i 29 m, .r (one (iv g)), .c false]=
 some (RV.mk (bv false) none,[decide (s.h≥(0:Int))=true,decide (s.h≤(1000:Int))=true,decide (s.v≥(-1000:Int))=true,decide (s.v≤(1000:Int))=true,IntKind.i64.wrap ((0:Int) - s.v)=nv,(if nv>s.v then nv else s.v)=m,aa s7 52 [iv s.h,iv m] (RV.mk (iv g) none),(g==(1:Int))=false]):=by kernel_rfl
theorem TW (k:Nat) (s:aY) (nv m g:Int):ay MD s7 k 35 [.ag s.cells] [.c true, .c true, .c true, .c true, .i 28 nv, .i 29 m, .r (one (iv g)), .c true, .c false]=
 some (RV.mk (bv false) none,[decide (s.h≥(0:Int))=true,decide (s.h≤(1000:Int))=true,decide (s.v≥(-1000:Int))=true,decide (s.v≤(1000:Int))=true,IntKind.i64.wrap ((0:Int) - s.v)=nv,(if nv>s.v then nv else s.v)=m,aa s7 52 [iv s.h,iv m] (RV.mk (iv g) none),(g==(1:Int))=true,decide (s.i≥(0:Int))=false]):=by kernel_rfl
theorem TX (k:Nat) (s:aY) (nv m g:Int):ay MD s7 k 35 [.ag s.cells] [.c true, .c true, .c true, .c true, .i 28 nv, .i 29 m, .r (one (iv g)), .c true, .c true, .c false]=
 some (RV.mk (bv false) none,[decide (s.h≥(0:Int))=true,decide (s.h≤(1000:Int))=true,decide (s.v≥(-1000:Int))=true,decide (s.v≤(1000:Int))=true,IntKind.i64.wrap ((0:Int) - s.v)=nv,(if nv>s.v then nv else s.v)=m,aa s7 52 [iv s.h,iv m] (RV.mk (iv g) none),(g==(1:Int))=true,decide (s.i≥(0:Int))=true,decide (s.i<(24:Int))=false]):=by kernel_rfl
theorem TY (k:Nat) (s:aY) (nv m g:Int):ay MD s7 k 35 [.ag s.cells] [.c true, .c true, .c true, .c true, .i 28 nv, .i 29 m, .r (one (iv g)), .c true, .c true, .c true, .c true]=
 some (RV.mk (bv true) none,[decide (s.h≥(0:Int))=true,decide (s.h≤(1000:Int))=true,decide (s.v≥(-1000:Int))=true,decide (s.v≤(1000:Int))=true,IntKind.i64.wrap ((0:Int) - s.v)=nv,(if nv>s.v then nv else s.v)=m,aa s7 52 [iv s.h,iv m] (RV.mk (iv g) none),(g==(1:Int))=true,decide (s.i≥(0:Int))=true,decide (s.i<(24:Int))=true,decide (s.h>(0:Int))=true]):=by kernel_rfl
theorem TZ (k:Nat) (s:aY) (nv m g:Int) (b:Bool):ay MD s7 k 35 [.ag s.cells] [.c true, .c true, .c true, .c true, .i 28 nv, .i 29 m, .r (one (iv g)), .c true, .c true, .c true, .c false, .c b]=
 some (RV.mk (bv b) none,[decide (s.h≥(0:Int))=true,decide (s.h≤(1000:Int))=true,decide (s.v≥(-1000:Int))=true,decide (s.v≤(1000:Int))=true,IntKind.i64.wrap ((0:Int) - s.v)=nv,(if nv>s.v then nv else s.v)=m,aa s7 52 [iv s.h,iv m] (RV.mk (iv g) none),(g==(1:Int))=true,decide (s.i≥(0:Int))=true,decide (s.i<(24:Int))=true,decide (s.h>(0:Int))=false,(s.i==(0:Int))=b]):=by kernel_rfl
theorem TD (k:Nat) (s:aY):ay MD s8 k 18 [.ag s.cells] [.r (one (bv false))]=
 some (RV.mk (PV.aG [PV.ag [iv (0:Int),iv (0:Int),iv (0:Int)],iv (1:Int)]) none,[aa s8 34 [PV.ag s.cells] (RV.mk (bv false) none)]):=by kernel_rfl
theorem TE (k:Nat) (s:aY) (nv ni m:Int):ay MD s8 k 18 [.ag s.cells] [.r (one (bv true)), .i 12 nv, .i 15 ni, .r (one (iv m))]=
 some (RV.mk (PV.aG [PV.ag [iv s.h,iv nv,iv m],iv (0:Int)]) none,[aa s8 34 [PV.ag s.cells] (RV.mk (bv true) none),IntKind.i64.wrap ((0:Int) - s.v)=nv,IntKind.i64.wrap ((0:Int) - s.i)=ni,aa s8 30 [iv ni] (RV.mk (iv m) none)]):=by kernel_rfl
theorem TF (k:Nat) (s:aY):ay MD s8 k 19 [.ag s.cells] [.r (one (bv false))]=
 some (RV.mk (PV.aG [PV.ag [iv (0:Int),iv (0:Int),iv (0:Int)],iv (1:Int)]) none,[aa s8 35 [PV.ag s.cells] (RV.mk (bv false) none)]):=by kernel_rfl
theorem TG (k:Nat) (s:aY) (nv ni m:Int):ay MD s8 k 19 [.ag s.cells] [.r (one (bv true)), .i 12 nv, .i 15 ni, .r (one (iv m))]=
 some (RV.mk (PV.aG [PV.ag [iv s.h,iv nv,iv m],iv (0:Int)]) none,[aa s8 35 [PV.ag s.cells] (RV.mk (bv true) none),IntKind.i64.wrap ((0:Int) - s.v)=nv,IntKind.i64.wrap ((0:Int) - s.i)=ni,aa s8 13 [iv ni] (RV.mk (iv m) none)]):=by kernel_rfl
theorem Tn (k:Nat) (x:aq) (n:Int):ay MD t0 k 31 [.ag x.cells,iv n] [.u 5, .c true, .c true]=
 some (RV.mk (bv false) none,[5≤k,true=true,decide ((↑x.c0.s.size:Int)>n)=true]):=by kernel_rfl
theorem To (k:Nat) (x:aq) (n:Int):ay MD t0 k 31 [.ag x.cells,iv n] [.u 5, .c true, .c false, .c true, .c true]=
 some (RV.mk (bv false) none,[5≤k,true=true,decide ((↑x.c0.s.size:Int)>n)=false,true=true,decide ((↑x.c1.s.size:Int)>n)=true]):=by kernel_rfl
theorem Tp (k:Nat) (x:aq) (n:Int):ay MD t0 k 31 [.ag x.cells,iv n] [.u 5, .c true, .c false, .c true, .c false, .c true, .c true]=
 some (RV.mk (bv false) none,[5≤k,true=true,decide ((↑x.c0.s.size:Int)>n)=false,true=true,decide ((↑x.c1.s.size:Int)>n)=false,true=true,decide ((↑x.c2.s.size:Int)>n)=true]):=by kernel_rfl
theorem Tq (k:Nat) (x:aq) (n:Int):ay MD t0 k 31 [.ag x.cells,iv n] [.u 5, .c true, .c false, .c true, .c false, .c true, .c false, .c true, .c true]=
 some (RV.mk (bv false) none,[5≤k,true=true,decide ((↑x.c0.s.size:Int)>n)=false,true=true,decide ((↑x.c1.s.size:Int)>n)=false,true=true,decide ((↑x.c2.s.size:Int)>n)=false,true=true,decide ((↑x.c3.s.size:Int)>n)=true]):=by kernel_rfl
theorem Tr (k:Nat) (x:aq) (n:Int) (b:Bool):ay MD t0 k 31 [.ag x.cells,iv n] [.u 5, .c true, .c false, .c true, .c false, .c true, .c false, .c true, .c false, .c false, .c b]=
 some (RV.mk (bv b) none,[5≤k,true=true,decide ((↑x.c0.s.size:Int)>n)=false,true=true,decide ((↑x.c1.s.size:Int)>n)=false,true=true,decide ((↑x.c2.s.size:Int)>n)=false,true=true,decide ((↑x.c3.s.size:Int)>n)=false,false=false,decide ((↑x.d.s.size:Int)≤n)=b]):=by kernel_rfl
theorem Ty (k:Nat) (v:bl) (n:Int):ay MD s9 k 14 [.ag v.cells,iv n] [.r (one (bv false))]=
 some (RV.mk (bv false) none,[aa s9 31 [PV.ag v.x.cells,iv n] (RV.mk (bv false) none)]):=by kernel_rfl
theorem Tz (k:Nat) (v:bl) (n:Int):ay MD s9 k 14 [.ag v.cells,iv n] [.r (one (bv true)), .r (one (bv false))]=
 some (RV.mk (bv false) none,[aa s9 31 [PV.ag v.x.cells,iv n] (RV.mk (bv true) none),aa s9 31 [PV.ag v.y.cells,iv n] (RV.mk (bv false) none)]):=by kernel_rfl
theorem TA (k:Nat) (v:bl) (n:Int) (b:Bool):ay MD s9 k 14 [.ag v.cells,iv n] [.r (one (bv true)), .r (one (bv true)), .r (one (bv b))]=
 some (RV.mk (bv b) none,[aa s9 31 [PV.ag v.x.cells,iv n] (RV.mk (bv true) none),aa s9 31 [PV.ag v.y.cells,iv n] (RV.mk (bv true) none),aa s9 31 [PV.ag v.z.cells,iv n] (RV.mk (bv b) none)]):=by kernel_rfl
theorem Yo (k:Nat) (p:bF) (n:Int):ay MD CK k 15 [.ag p.cells,iv n] [.r (one (bv false))]=
 some (RV.mk (bv false) none,[aa CK 14 [PV.ag p.n.cells,iv n] (RV.mk (bv false) none)]):=by kernel_rfl
theorem Yp (k:Nat) (p:bF) (n:Int) (b:Bool):ay MD CK k 15 [.ag p.cells,iv n] [.r (one (bv true)), .r (one (bv b))]=
 some (RV.mk (bv b) none,[aa CK 14 [PV.ag p.n.cells,iv n] (RV.mk (bv true) none),aa CK 31 [PV.ag p.d.cells,iv n] (RV.mk (bv b) none)]):=by kernel_rfl
theorem WX (k:Nat) (v:bl) (p:bF) (s:aY):ay MD jY k 4 [.ag v.cells, .ag p.cells, .ag s.cells] [.r (one (bv true)), .r (one (bv false)), .r (one (bv true))]=
 some (RV.mk (bv true) none,[aa jY 8 [] (RV.mk (bv true) none),aa jY 14 [PV.ag v.cells,iv (40:Int)] (RV.mk (bv false) none),aa jY 8 [] (RV.mk (bv true) none)]):=by kernel_rfl
theorem WY (k:Nat) (v:bl) (p:bF) (s:aY):ay MD jY k 4 [.ag v.cells, .ag p.cells, .ag s.cells] [.r (one (bv true)), .r (one (bv true)), .r (one (bv false)), .r (one (bv true))]=
 some (RV.mk (bv true) none,[aa jY 8 [] (RV.mk (bv true) none),aa jY 14 [PV.ag v.cells,iv (40:Int)] (RV.mk (bv true) none),aa jY 15 [PV.ag p.cells,iv (40:Int)] (RV.mk (bv false) none),aa jY 8 [] (RV.mk (bv true) none)]):=by kernel_rfl
theorem WZ (k:Nat) (v:bl) (p:bF) (s:aY) (q:bF) (t:aY) (w:bl) (e f:Int):ay MD jY k 4 [.ag v.cells, .ag p.cells, .ag s.cells] [.r (one (bv true)), .r (one (bv true)), .r (one (bv true)), .r (one (.aG [.ag q.cells,iv e])), .r (one (.aG [.ag q.cells,iv e])), .r (one (.aG [.ag t.cells,iv f])), .r (one (.aG [.ag t.cells,iv f])), .r (one (.ag w.cells)), .r (one (.ag w.cells)), .g true, .g true, .c true, .g true, .c true]=
 some (RV.mk (bv true) none,[aa jY 8 [] (RV.mk (bv true) none),aa jY 14 [PV.ag v.cells,iv (40:Int)] (RV.mk (bv true) none),aa jY 15 [PV.ag p.cells,iv (40:Int)] (RV.mk (bv true) none),aa jY 16 [PV.ag p.cells] (RV.mk (PV.aG [PV.ag q.cells,iv e]) none),aa jY 17 [PV.ag p.cells] (RV.mk (PV.aG [PV.ag q.cells,iv e]) none),aa jY 18 [PV.ag s.cells] (RV.mk (PV.aG [PV.ag t.cells,iv f]) none),aa jY 19 [PV.ag s.cells] (RV.mk (PV.aG [PV.ag t.cells,iv f]) none),aa jY 20 [PV.ag v.cells] (RV.mk (PV.ag w.cells) none),aa jY 21 [PV.ag v.cells] (RV.mk (PV.ag w.cells) none),gw MD.P BinOp.eql 32 (Operand.tmp (49:Nat)) (Operand.tmp (51:Nat)) (Value.agg w.vals.toArray) (Value.agg w.vals.toArray) true,gw MD.P BinOp.eql 34 (Operand.tmp (54:Nat)) (Operand.tmp (55:Nat)) (Value.agg q.vals.toArray) (Value.agg q.vals.toArray) true,(e==e)=true,gw MD.P BinOp.eql 36 (Operand.tmp (64:Nat)) (Operand.tmp (65:Nat)) (Value.agg t.vals.toArray) (Value.agg t.vals.toArray) true,(f==f)=true]):=by kernel_rfl
theorem bl.aX {a b:bl} (e:a.cells=b.cells):a=b:=by
 obtain ⟨a0,a1,a2⟩:=a;obtain ⟨b0,b1,b2⟩:=b
 have l:∀r:aq,r.cells.length=10:=fun _=>rfl
 unfold bl.cells at e
 have k1:=List.append_inj e (by simp [l])
 have k2:=List.append_inj k1.1 (by simp [l])
 rw [bl.mk.injEq]
 exact ⟨aq.aX k2.1,aq.aX k2.2,aq.aX k1.2⟩
theorem bF.aX {a b:bF} (e:a.cells=b.cells):a=b:=by
 obtain ⟨a0,a1⟩:=a;obtain ⟨b0,b1⟩:=b
 have l:∀r:aq,r.cells.length=10:=fun _=>rfl
 unfold bF.cells at e
 have k1:=List.append_inj' e (by simp [l])
 rw [bF.mk.injEq]
 exact ⟨bl.aX k1.1,aq.aX k1.2⟩
theorem aY.aX {a b:aY} (e:a.cells=b.cells):a=b:=by
 obtain ⟨a0,a1,a2⟩:=a;obtain ⟨b0,b1,b2⟩:=b
 simp only [aY.cells,List.cons.injEq,and_true] at e
 rw [aY.mk.injEq]
 exact ⟨dA e.1,dA e.2.1,dA e.2.2⟩
theorem uG {α:Type} {c:α→List PV} (hi:∀a b,c a=c b→a=b) {β:Type} {g:α→β}:∀a b,[PV.ag (c a)]=[PV.ag (c b)]→g a=g b:=fun a b e=>by
 simp only [List.cons.injEq,and_true,PV.ag.injEq] at e
 rw [hi _ _ e]
theorem eD {n:Int} (h1: -(2^63)≤n) (h2:n<2^63):um [iv n]=some (one (.ag (aq.cw n).cells)):=
 aM (enc:=fun n:Int=>[iv n]) (fun a b e=>by rw [dA (List.cons.inj e).1]) ⟨h1,h2⟩
theorem Km:aI MD.P s1:=aH (aj (au fun n h=>oX n h.1 h.2) (aj (au fun n h=>AZ n h.1 h.2) aE))
theorem rq (n:Int) (h: -(2^63)≤n∧n<2^63):az P0 44 [iv n] (one (.ag (aq.cw n).cells)):=
 ah af Km (by rfl) (XG 1 n (RI.of n) (RI.of 1)) ⟨jU h.1 h.2,jU (by decide) (by decide),trivial⟩
theorem LB (n:Int) (h: -(2^63)≤n∧n<2^63):az P0 48 [iv n] (one (.ag (aq.cw n).cells)):=
 ah af Km (by rfl) (XH 1 n (RI.of n) (RI.of 1)) ⟨sM h.1 h.2,sM (by decide) (by decide),trivial⟩
theorem Kn:aI MD.P s2:=aH (aj (au fun n h=>rq n h) (aj (au fun n h=>LB n h) aE))
theorem O4 (x:Int×Int×Int) (h:(-(2^63)≤x.1∧x.1<2^63)∧(-(2^63)≤x.2.1∧x.2.1<2^63)∧(-(2^63)≤x.2.2∧x.2.2<2^63)):az P0 69 [iv x.1,iv x.2.1,iv x.2.2] (one (.ag (bl.cw x.1 x.2.1 x.2.2).cells)):=
 ah af Kn (by rfl) (XI 1 _ _ _ (aq.cw x.1) (aq.cw x.2.1) (aq.cw x.2.2)) ⟨eD h.1.1 h.1.2,eD h.2.1.1 h.2.1.2,eD h.2.2.1 h.2.2.2,trivial⟩
theorem LH (x:Int×Int×Int) (h:(-(2^63)≤x.1∧x.1<2^63)∧(-(2^63)≤x.2.1∧x.2.1<2^63)∧(-(2^63)≤x.2.2∧x.2.2<2^63)):az P0 29 [iv x.1,iv x.2.1,iv x.2.2] (one (.ag (bl.cw x.1 x.2.1 x.2.2).cells)):=
 ah af Kn (by rfl) (XJ 1 _ _ _ (aq.cw x.1) (aq.cw x.2.1) (aq.cw x.2.2)) ⟨eD h.1.1 h.1.2,eD h.2.1.1 h.2.1.2,eD h.2.2.1 h.2.2.2,trivial⟩
theorem CY (x:Int×Int×Int) (h:(-(2^63)≤x.1∧x.1<2^63)∧(-(2^63)≤x.2.1∧x.2.1<2^63)∧(-(2^63)≤x.2.2∧x.2.2<2^63)):Jt [iv x.1,iv x.2.1,iv x.2.2]=some (one (.ag (bl.cw x.1 x.2.1 x.2.2).cells)):=
 aM (enc:=fun x:Int×Int×Int=>[iv x.1,iv x.2.1,iv x.2.2]) (fun a b e=>by
  simp only [List.cons.injEq,and_true] at e
  rw [dA e.1,dA e.2.1,dA e.2.2]) h
theorem Ko:aI MD.P s3:=aH (aj (au fun x h=>O4 x h) (aj (au fun x h=>LH x h) aE))
theorem PY (v:bl):az P0 49 [.ag v.cells] (one (bv v.tw)):=
 ah af Ko (by rfl) (XP 1 v (bl.cw 0 0 0) v.tw) ⟨CY (0,0,0) (by decide),zB rfl,trivial⟩
theorem OC (v:bl):az P0 50 [.ag v.cells] (one (bv v.tw)):=
 ah af Ko (by rfl) (XQ 1 v (bl.cw 0 0 0) v.tw) ⟨CY (0,0,0) (by decide),zB rfl,trivial⟩
theorem DR (v:bl):az P0 53 [.ag v.cells] (one (.fn 70 [.el v.cells])):=
 ah af (aH aE) (by rfl) (XA 1 v) trivial
theorem BB (v:bl):Au [.ag v.cells]=some (one (.fn 70 [.el v.cells])):=
 aM (enc:=fun v:bl=>[.ag v.cells]) (uG fun _ _=>bl.aX) trivial
theorem qx:aI MD.P s4:=aH (aj (au fun v _=>DR v) (aj (au fun x h=>nW x h) (aj (au fun x h=>qp x h) aE)))
theorem Hw (v:bl) (h:v.small):az P0 36 [.ag v.cells] (one (bv v.ok)):=by
 have hn:=BB v
 have h0:=hO h.1
 have h1:=hO h.2.1
 have h2:=hO h.2.2
 unfold bl.ok
 cases e0:v.x.ok with
 |false=>rw [e0] at h0;exact ah af qx (by rfl) (Ze 4 v) ⟨hn,h0,trivial⟩
 |true=>
  rw [e0] at h0
  cases e1:v.y.ok with
  |false=>rw [e1] at h1;exact ah af qx (by rfl) (Zf 4 v) ⟨hn,h0,h1,trivial⟩
  |true=>
   rw [e1] at h1
   cases e2:v.z.ok with
   |false=>rw [e2] at h2;exact ah af qx (by rfl) (vec 4 v) ⟨hn,h0,h1,h2,trivial⟩
   |true=>rw [e2] at h2;exact ah af qx (by rfl) (Zg 4 v) ⟨hn,h0,h1,h2,trivial⟩
theorem vS (v:bl) (h:v.small):az P0 22 [.ag v.cells] (one (bv v.ok)):=by
 have h0:=hO h.1
 have h1:=hO h.2.1
 have h2:=hO h.2.2
 unfold bl.ok
 cases e0:v.x.ok with
 |false=>rw [e0] at h0;exact ah af qx (by rfl) (Zh 4 v) ⟨h0,trivial⟩
 |true=>
  rw [e0] at h0
  cases e1:v.y.ok with
  |false=>rw [e1] at h1;exact ah af qx (by rfl) (Zi 4 v) ⟨h0,h1,trivial⟩
  |true=>rw [e1] at h1;exact ah af qx (by rfl) (Zj 4 v v.z.ok) ⟨h0,h1,h2,trivial⟩
theorem wG {v:bl} (h:v.small):KK [.ag v.cells]=some (one (bv v.ok)):=aM (enc:=fun v:bl=>[.ag v.cells]) (uG fun _ _=>bl.aX) h
theorem Hx (v:bl):O7 [.ag v.cells]=some (one (bv v.tw)):=aM (enc:=fun v:bl=>[.ag v.cells]) (uG fun _ _=>bl.aX) trivial
theorem rM {x:aq} (h:x.small):FY [.ag x.cells]=some (one (.ag x.neg.cells)):=aM (enc:=fun x:aq=>[.ag x.cells]) (uG fun _ _=>aq.aX) h
theorem k8:aI MD.P s5:=aH
 (aj (au fun v h=>Hw v h) (aj (au fun v h=>vS v h) (aj (au fun v _=>PY v) (aj (au fun v _=>OC v)
 (aj (au fun x h=>nW x h) (aj (au fun x h=>qp x h) (aj (au fun x h=>Cz x h) (aj (au fun x h=>I8 x h) aE))))))))
theorem D0 (p:bF) (h:p.small):az P0 32 [.ag p.cells] (one (bv p.ok)):=by
 have h0:=wG h.1
 have h1:=Hx p.n
 have h2:=hO h.2
 unfold bF.ok
 cases e0:p.n.ok with
 |false=>rw [e0] at h0;exact ah af k8 (by rfl) (S7 4 p) ⟨h0,trivial⟩
 |true=>
  rw [e0] at h0
  cases e1:p.n.tw with
  |true=>rw [e1] at h1;exact ah af k8 (by rfl) (S8 4 p) ⟨h0,h1,trivial⟩
  |false=>rw [e1] at h1;exact ah af k8 (by rfl) (S9 4 p p.d.ok) ⟨h0,h1,h2,trivial⟩
theorem BI (p:bF) (h:p.small):az P0 33 [.ag p.cells] (one (bv p.ok)):=by
 have h0:=wG h.1
 have h1:=Hx p.n
 have h2:=hO h.2
 unfold bF.ok
 cases e0:p.n.ok with
 |false=>rw [e0] at h0;exact ah af k8 (by rfl) (Ta 4 p) ⟨h0,trivial⟩
 |true=>
  rw [e0] at h0
  cases e1:p.n.tw with
  |true=>rw [e1] at h1;exact ah af k8 (by rfl) (Tb 4 p) ⟨h0,h1,trivial⟩
  |false=>rw [e1] at h1;exact ah af k8 (by rfl) (Tc 4 p p.d.ok) ⟨h0,h1,h2,trivial⟩
theorem Cv (v:bl) (h:v.small):az P0 20 [.ag v.cells] (one (.ag v.over.cells)):=by
 have h0:=wG h
 unfold bl.over
 cases e0:v.ok with
 |false=>rw [e0] at h0;exact ah af k8 (by rfl) (SY 4 v) ⟨h0,trivial⟩
 |true=>rw [e0] at h0;exact ah af k8 (by rfl) (SZ 4 v _ _) ⟨h0,rM h.2.1,rM h.2.2,trivial⟩
theorem A0 (v:bl) (h:v.small):az P0 21 [.ag v.cells] (one (.ag v.over.cells)):=by
 have h0:=wG h
 unfold bl.over
 cases e0:v.ok with
 |false=>rw [e0] at h0;exact ah af k8 (by rfl) (S0 4 v) ⟨h0,trivial⟩
 |true=>rw [e0] at h0;exact ah af k8 (by rfl) (S3 4 v _ _) ⟨h0,rM h.2.1,rM h.2.2,trivial⟩
theorem Ge {p:bF} (h:p.small):Oj [.ag p.cells]=some (one (bv p.ok)):=aM (enc:=fun p:bF=>[.ag p.cells]) (uG fun _ _=>bF.aX) h
theorem wF {v:bl} (h:v.small):Hu [.ag v.cells]=some (one (.ag v.over.cells)):=aM (enc:=fun v:bl=>[.ag v.cells]) (uG fun _ _=>bl.aX) h
theorem yW:aI MD.P s6:=aH (aj (au fun p h=>D0 p h) (aj (au fun p h=>BI p h) (aj (au fun v h=>Cv v h) (aj (au fun v h=>A0 v h) aE))))
theorem AJ (p:bF) (h:p.small):az P0 16 [.ag p.cells] (one (.aG [.ag p.over.1.cells,iv p.over.2])):=by
 have h0:=Ge h
 unfold bF.over
 cases e0:p.ok with
 |false=>rw [e0] at h0;exact ah af yW (by rfl) (SK 4 p) ⟨h0,trivial⟩
 |true=>rw [e0] at h0;exact ah af yW (by rfl) (SL 4 p _) ⟨h0,wF h.1,trivial⟩
theorem GD (p:bF) (h:p.small):az P0 17 [.ag p.cells] (one (.aG [.ag p.over.1.cells,iv p.over.2])):=by
 have h0:=Ge h
 unfold bF.over
 cases e0:p.ok with
 |false=>rw [e0] at h0;exact ah af yW (by rfl) (SN 4 p) ⟨h0,trivial⟩
 |true=>rw [e0] at h0;exact ah af yW (by rfl) (SQ 4 p _) ⟨h0,wF h.1,trivial⟩
theorem H9 (k:Nat):∀(m n:Nat),bg (aP MD t0 k 51 0) (m+1) ⟨[(0, .pv (iv n)),(1, .pv (iv m))],[],[],[]⟩=some (.exit 0,⟨[(0, .pv (iv (Nat.gcd n m:Nat))),(1, .pv (iv 0)),(6, .pv (bv false))],[],[],[]⟩):=by
 intro m
 induction m using Nat.strongRecOn with
 |_ m ih=>
  intro n
  by_cases h:m=0
  · subst h
    rw [Nat.gcd_zero_right]
    exact aV (an (Re k n 0) ⟨rfl,trivial⟩) (by simp)
  · have hr:n%m<m:=Nat.mod_lt _ (by omega)
    have:=ih (n%m) hr m
    rw [jG] at this
    exact bn (an (Rf k n m (n%m:Nat)) ⟨bne_iff_ne.2 (by omega),fl _ _,decide_eq_false (by omega),trivial⟩) (bP (by omega) this)
theorem Ib (k:Nat):∀(m n:Nat),bg (aP MD t0 k 52 0) (m+1) ⟨[(0, .pv (iv n)),(1, .pv (iv m))],[],[],[]⟩=some (.exit 0,⟨[(0, .pv (iv (Nat.gcd n m:Nat))),(1, .pv (iv 0)),(6, .pv (bv false))],[],[],[]⟩):=by
 intro m
 induction m using Nat.strongRecOn with
 |_ m ih=>
  intro n
  by_cases h:m=0
  · subst h
    rw [Nat.gcd_zero_right]
    exact aV (an (Rh k n 0) ⟨rfl,trivial⟩) (by simp)
  · have hr:n%m<m:=Nat.mod_lt _ (by omega)
    have:=ih (n%m) hr m
    rw [jG] at this
    exact bn (an (Ri k n m (n%m:Nat)) ⟨bne_iff_ne.2 (by omega),fl _ _,decide_eq_false (by omega),trivial⟩) (bP (by omega) this)
theorem Mu (x:Nat×Nat):az P0 51 [iv x.1,iv x.2] (one (iv (Nat.gcd x.1 x.2:Nat))):=
 ah af (aH aE) (by rfl) (Rg (x.2+1) _ _ _) ⟨H9 _ x.2 x.1,trivial⟩
theorem Mv (x:Nat×Nat):az P0 52 [iv x.1,iv x.2] (one (iv (Nat.gcd x.1 x.2:Nat))):=
 ah af (aH aE) (by rfl) (Rj (x.2+1) _ _ _) ⟨Ib _ x.2 x.1,trivial⟩
theorem E6 (a b:Nat):Mt [iv a,iv b]=some (one (iv (Nat.gcd a b:Nat))):=
 aM (a:=(a,b)) (enc:=fun x:Nat×Nat=>[iv x.1,iv x.2]) (fun p q e=>by
  simp only [List.cons.injEq,and_true] at e
  have h1:=dA e.1
  have h2:=dA e.2
  rw [show p=q from Prod.ext (by omega) (by omega)]) trivial
theorem fQ:aI MD.P s7:=aH (aj (au fun x _=>Mu x) (aj (au fun x _=>Mv x) aE))
theorem FT (v:Int):(if -v>v then -v else v)=((v.natAbs:Nat):Int):=by split<;>omega
theorem yB (s:aY):az P0 34 [.ag s.cells] (one (bv s.ok)):=by
 unfold aY.ok
 by_cases h1:s.h<0
 · rw [decide_eq_false (by omega)];exact ah af fQ (by rfl) (TI 1 s) ⟨decide_eq_true h1,trivial⟩
 by_cases h2:s.h>1000
 · rw [decide_eq_false (by omega)];exact ah af fQ (by rfl) (TJ 1 s) ⟨decide_eq_false h1,decide_eq_true h2,trivial⟩
 by_cases h3:s.v< -1000
 · rw [decide_eq_false (by omega)];exact ah af fQ (by rfl) (TK 1 s) ⟨decide_eq_false h1,decide_eq_false h2,decide_eq_true h3,trivial⟩
 by_cases h4:s.v>1000
 · rw [decide_eq_false (by omega)];exact ah af fQ (by rfl) (TL 1 s) ⟨decide_eq_false h1,decide_eq_false h2,decide_eq_false h3,decide_eq_true h4,trivial⟩
 have hg:=E6 s.h.natAbs s.v.natAbs
 rw [show ((s.h.natAbs:Nat):Int)=s.h by omega] at hg
 have rF:IntKind.i64.wrap (0 - s.v)= -s.v:=by rw [wrap64]<;>omega
 have hm:=FT s.v
 by_cases h5:Nat.gcd s.h.natAbs s.v.natAbs=1
 · rw [decide_eq_true ⟨⟨by omega,by omega⟩,⟨by omega,by omega⟩,h5⟩,Bool.true_and]
   rw [h5] at hg
   by_cases h6:s.i≥0
   · by_cases h7:s.i<24
     · by_cases h8:s.h=0
       · have e:decide ((0≤s.i∧s.i<24)∧(s.h≠0∨s.i=0))=(s.i==0):=by
           by_cases h9:s.i=0
           · rw [decide_eq_true (by omega),h9];rfl
           · rw [decide_eq_false (by omega)];exact (beq_false_of_ne h9).symm
         rw [e]
         exact ah af fQ (by rfl) (TQ 1 s (-s.v) (s.v.natAbs:Nat) 1 _) ⟨decide_eq_false h1,decide_eq_false h2,decide_eq_false h3,decide_eq_false h4,rF,hm,hg,rfl,decide_eq_true h6,decide_eq_true h7,by rw [h8];rfl,rfl,trivial⟩
       · rw [decide_eq_true (by omega)]
         exact ah af fQ (by rfl) (TP 1 s (-s.v) (s.v.natAbs:Nat) 1) ⟨decide_eq_false h1,decide_eq_false h2,decide_eq_false h3,decide_eq_false h4,rF,hm,hg,rfl,decide_eq_true h6,decide_eq_true h7,bne_iff_ne.2 h8,trivial⟩
     · rw [decide_eq_false (by omega)]
       exact ah af fQ (by rfl) (TO 1 s (-s.v) (s.v.natAbs:Nat) 1) ⟨decide_eq_false h1,decide_eq_false h2,decide_eq_false h3,decide_eq_false h4,rF,hm,hg,rfl,decide_eq_true h6,decide_eq_false h7,trivial⟩
   · rw [decide_eq_false (by omega)]
     exact ah af fQ (by rfl) (TN 1 s (-s.v) (s.v.natAbs:Nat) 1) ⟨decide_eq_false h1,decide_eq_false h2,decide_eq_false h3,decide_eq_false h4,rF,hm,hg,rfl,decide_eq_false h6,trivial⟩
 · rw [decide_eq_false (fun h=>h5 h.2.2)]
   exact ah af fQ (by rfl) (TM 1 s (-s.v) (s.v.natAbs:Nat) (Nat.gcd s.h.natAbs s.v.natAbs:Nat)) ⟨decide_eq_false h1,decide_eq_false h2,decide_eq_false h3,decide_eq_false h4,rF,hm,hg,bne_iff_ne.2 (by omega),trivial⟩
theorem Eb (s:aY):az P0 35 [.ag s.cells] (one (bv s.ok)):=by
 unfold aY.ok
 by_cases h1:s.h≥0
 case neg=>rw [decide_eq_false (by omega)];exact ah af fQ (by rfl) (TR 1 s) ⟨decide_eq_false h1,trivial⟩
 by_cases h2:s.h≤1000
 case neg=>rw [decide_eq_false (by omega)];exact ah af fQ (by rfl) (TS 1 s) ⟨decide_eq_true h1,decide_eq_false h2,trivial⟩
 by_cases h3:s.v≥ -1000
 case neg=>rw [decide_eq_false (by omega)];exact ah af fQ (by rfl) (TT 1 s) ⟨decide_eq_true h1,decide_eq_true h2,decide_eq_false h3,trivial⟩
 by_cases h4:s.v≤1000
 case neg=>rw [decide_eq_false (by omega)];exact ah af fQ (by rfl) (TU 1 s) ⟨decide_eq_true h1,decide_eq_true h2,decide_eq_true h3,decide_eq_false h4,trivial⟩
 have hg:=E6 s.h.natAbs s.v.natAbs
 rw [show ((s.h.natAbs:Nat):Int)=s.h by omega] at hg
 have rF:IntKind.i64.wrap (0 - s.v)= -s.v:=by rw [wrap64]<;>omega
 have hm:=FT s.v
 by_cases h5:Nat.gcd s.h.natAbs s.v.natAbs=1
 · rw [decide_eq_true ⟨⟨by omega,by omega⟩,⟨by omega,by omega⟩,h5⟩,Bool.true_and]
   rw [h5] at hg
   by_cases h6:s.i≥0
   · by_cases h7:s.i<24
     · by_cases h8:s.h>0
       · rw [decide_eq_true (by omega)]
         exact ah af fQ (by rfl) (TY 1 s (-s.v) (s.v.natAbs:Nat) 1) ⟨decide_eq_true h1,decide_eq_true h2,decide_eq_true h3,decide_eq_true h4,rF,hm,hg,rfl,decide_eq_true h6,decide_eq_true h7,decide_eq_true h8,trivial⟩
       · have e:decide ((0≤s.i∧s.i<24)∧(s.h≠0∨s.i=0))=(s.i==0):=by
           by_cases h9:s.i=0
           · rw [decide_eq_true (by omega),h9];rfl
           · rw [decide_eq_false (by omega)];exact (beq_false_of_ne h9).symm
         rw [e]
         exact ah af fQ (by rfl) (TZ 1 s (-s.v) (s.v.natAbs:Nat) 1 _) ⟨decide_eq_true h1,decide_eq_true h2,decide_eq_true h3,decide_eq_true h4,rF,hm,hg,rfl,decide_eq_true h6,decide_eq_true h7,decide_eq_false h8,rfl,trivial⟩
     · rw [decide_eq_false (by omega)]
       exact ah af fQ (by rfl) (TX 1 s (-s.v) (s.v.natAbs:Nat) 1) ⟨decide_eq_true h1,decide_eq_true h2,decide_eq_true h3,decide_eq_true h4,rF,hm,hg,rfl,decide_eq_true h6,decide_eq_false h7,trivial⟩
   · rw [decide_eq_false (by omega)]
     exact ah af fQ (by rfl) (TW 1 s (-s.v) (s.v.natAbs:Nat) 1) ⟨decide_eq_true h1,decide_eq_true h2,decide_eq_true h3,decide_eq_true h4,rF,hm,hg,rfl,decide_eq_false h6,trivial⟩
 · rw [decide_eq_false (fun h=>h5 h.2.2)]
   exact ah af fQ (by rfl) (TV 1 s (-s.v) (s.v.natAbs:Nat) (Nat.gcd s.h.natAbs s.v.natAbs:Nat)) ⟨decide_eq_true h1,decide_eq_true h2,decide_eq_true h3,decide_eq_true h4,rF,hm,hg,beq_false_of_ne (by omega),trivial⟩
theorem wg (s:aY):Ky [.ag s.cells]=some (one (bv s.ok)):=aM (enc:=fun s:aY=>[.ag s.cells]) (uG fun _ _=>aY.aX) trivial
theorem yX:aI MD.P s8:=aH (aj (au fun s _=>yB s) (aj (au fun s _=>Eb s) (aj (kR fun x=>vB x) (aj (kR fun x=>rT x) aE))))
theorem aY.fK {s:aY} (h:s.ok=true):((0≤s.h∧s.h≤1000)∧(-1000≤s.v∧s.v≤1000)∧Nat.gcd s.h.natAbs s.v.natAbs=1)∧((0≤s.i∧s.i<24)∧(s.h≠0∨s.i=0)):=by
 unfold aY.ok at h
 simp only [Bool.and_eq_true] at h
 exact ⟨of_decide_eq_true h.1,of_decide_eq_true h.2⟩
theorem vT (s:aY):az P0 18 [.ag s.cells] (one (.aG [.ag s.over.1.cells,iv s.over.2])):=by
 have h0:=wg s
 unfold aY.over
 cases e0:s.ok with
 |false=>rw [e0] at h0;exact ah af yX (by rfl) (TD 4 s) ⟨h0,trivial⟩
 |true=>
  rw [e0] at h0
  have hp:=aY.fK e0
  exact ah af yX (by rfl) (TE 4 s (-s.v) (-s.i) ((-s.i)%24)) ⟨h0,by rw [wrap64]<;>omega,by rw [wrap64]<;>omega,rfl,trivial⟩
theorem BJ (s:aY):az P0 19 [.ag s.cells] (one (.aG [.ag s.over.1.cells,iv s.over.2])):=by
 have h0:=wg s
 unfold aY.over
 cases e0:s.ok with
 |false=>rw [e0] at h0;exact ah af yX (by rfl) (TF 4 s) ⟨h0,trivial⟩
 |true=>
  rw [e0] at h0
  have hp:=aY.fK e0
  exact ah af yX (by rfl) (TG 4 s (-s.v) (-s.i) ((-s.i)%24)) ⟨h0,by rw [wrap64]<;>omega,by rw [wrap64]<;>omega,rfl,trivial⟩
theorem Ct (x:aq×Int):az P0 31 [.ag x.1.cells,iv x.2] (one (bv (x.1.raw x.2))):=by
 obtain ⟨x,n⟩:=x
 show az P0 31 [.ag x.cells,iv n] (one (bv (x.raw n)))
 unfold aq.raw
 by_cases h0:(x.c0.s.size:Int)>n
 · rw [decide_eq_false (show ¬(x.c0.s.size:Int)≤n by omega)];exact ah af (aH aE) (by rfl) (Tn 5 x n) ⟨by omega,rfl,decide_eq_true h0,trivial⟩
 rw [decide_eq_true (show (x.c0.s.size:Int)≤n by omega),Bool.true_and]
 by_cases h1:(x.c1.s.size:Int)>n
 · rw [decide_eq_false (show ¬(x.c1.s.size:Int)≤n by omega)];exact ah af (aH aE) (by rfl) (To 5 x n) ⟨by omega,rfl,decide_eq_false h0,rfl,decide_eq_true h1,trivial⟩
 rw [decide_eq_true (show (x.c1.s.size:Int)≤n by omega),Bool.true_and]
 by_cases h2:(x.c2.s.size:Int)>n
 · rw [decide_eq_false (show ¬(x.c2.s.size:Int)≤n by omega)];exact ah af (aH aE) (by rfl) (Tp 5 x n) ⟨by omega,rfl,decide_eq_false h0,rfl,decide_eq_false h1,rfl,decide_eq_true h2,trivial⟩
 rw [decide_eq_true (show (x.c2.s.size:Int)≤n by omega),Bool.true_and]
 by_cases h3:(x.c3.s.size:Int)>n
 · rw [decide_eq_false (show ¬(x.c3.s.size:Int)≤n by omega)];exact ah af (aH aE) (by rfl) (Tq 5 x n) ⟨by omega,rfl,decide_eq_false h0,rfl,decide_eq_false h1,rfl,decide_eq_false h2,rfl,decide_eq_true h3,trivial⟩
 rw [decide_eq_true (show (x.c3.s.size:Int)≤n by omega),Bool.true_and]
 exact ah af (aH aE) (by rfl) (Tr 5 x n _) ⟨by omega,rfl,decide_eq_false h0,rfl,decide_eq_false h1,rfl,decide_eq_false h2,rfl,decide_eq_false h3,rfl,rfl,trivial⟩
theorem LZ {α:Type} {c:α→List PV} (hi:∀a b,c a=c b→a=b) {β:Type} {g:α×Int→β}:∀a b:α×Int,[PV.ag (c a.1),iv a.2]=[PV.ag (c b.1),iv b.2]→g a=g b:=fun a b e=>by
 simp only [List.cons.injEq,and_true,PV.ag.injEq] at e
 rw [show a=b from Prod.ext (hi _ _ e.1) (dA e.2)]
theorem vD (x:aq) (n:Int):N0 [.ag x.cells,iv n]=some (one (bv (x.raw n))):=aM (a:=(x,n)) (enc:=fun x:aq×Int=>[.ag x.1.cells,iv x.2]) (LZ fun _ _=>aq.aX) trivial
theorem Ee:aI MD.P s9:=aH (aj (au fun x _=>Ct x) aE)
theorem CZ (x:bl×Int):az P0 14 [.ag x.1.cells,iv x.2] (one (bv (x.1.raw x.2))):=by
 obtain ⟨v,n⟩:=x
 show az P0 14 [.ag v.cells,iv n] (one (bv (v.raw n)))
 have h0:=vD v.x n
 have h1:=vD v.y n
 have h2:=vD v.z n
 unfold bl.raw
 cases e0:v.x.raw n with
 |false=>rw [e0] at h0;exact ah af Ee (by rfl) (Ty 4 v n) ⟨h0,trivial⟩
 |true=>
  rw [e0] at h0
  cases e1:v.y.raw n with
  |false=>rw [e1] at h1;exact ah af Ee (by rfl) (Tz 4 v n) ⟨h0,h1,trivial⟩
  |true=>rw [e1] at h1;exact ah af Ee (by rfl) (TA 4 v n _) ⟨h0,h1,h2,trivial⟩
theorem Hv (x:bl) (n:Int):O5 [.ag x.cells,iv n]=some (one (bv (x.raw n))):=aM (a:=(x,n)) (enc:=fun x:bl×Int=>[.ag x.1.cells,iv x.2]) (LZ fun _ _=>bl.aX) trivial
theorem GL:aI MD.P CK:=aH (aj (au fun x _=>Ct x) (aj (au fun x _=>CZ x) aE))
theorem CA (x:bF×Int):az P0 15 [.ag x.1.cells,iv x.2] (one (bv (x.1.raw x.2))):=by
 obtain ⟨p,n⟩:=x
 show az P0 15 [.ag p.cells,iv n] (one (bv (p.raw n)))
 have h0:=Hv p.n n
 have h1:=vD p.d n
 unfold bF.raw
 cases e0:p.n.raw n with
 |false=>rw [e0] at h0;exact ah af GL (by rfl) (Yo 4 p n) ⟨h0,trivial⟩
 |true=>rw [e0] at h0;exact ah af GL (by rfl) (Yp 4 p n _) ⟨h0,h1,trivial⟩
theorem F8 (x:bF) (n:Int):Oe [.ag x.cells,iv n]=some (one (bv (x.raw n))):=aM (a:=(x,n)) (enc:=fun x:bF×Int=>[.ag x.1.cells,iv x.2]) (LZ fun _ _=>bF.aX) trivial
theorem AK {p:bF} (h:p.small):Kf [.ag p.cells]=some (one (.aG [.ag p.over.1.cells,iv p.over.2])):=aM (enc:=fun p:bF=>[.ag p.cells]) (uG fun _ _=>bF.aX) h
theorem Bb (s:aY):Kv [.ag s.cells]=some (one (.aG [.ag s.over.1.cells,iv s.over.2])):=aM (enc:=fun s:aY=>[.ag s.cells]) (uG fun _ _=>aY.aX) trivial
theorem A2:aI MD.P jY:=aH
 (aj (Bc tW) (aj (au fun x _=>CZ x) (aj (au fun x _=>CA x) (aj (au fun p h=>AJ p h) (aj (au fun p h=>GD p h)
 (aj (au fun s _=>vT s) (aj (au fun s _=>BJ s) (aj (au fun v h=>Cv v h) (aj (au fun v h=>A0 v h) (aj (au fun v h=>vS v h) aE))))))))))
theorem aq.fq {x:aq} {n:Int} (hn:n<2^30) (h:x.raw n=true):x.small:=by
 unfold aq.raw at h
 simp only [Bool.and_eq_true,decide_eq_true_eq] at h
 intro r hr
 simp only [aq.dm,List.mem_cons,List.not_mem_nil,or_false] at hr
 rcases hr with rfl|rfl|rfl|rfl|rfl<;>omega
theorem bl.fq {v:bl} {n:Int} (hn:n<2^30) (h:v.raw n=true):v.small:=by
 unfold bl.raw at h
 simp only [Bool.and_eq_true] at h
 exact ⟨aq.fq hn h.1.1,aq.fq hn h.1.2,aq.fq hn h.2⟩
theorem bF.fq {p:bF} {n:Int} (hn:n<2^30) (h:p.raw n=true):p.small:=by
 unfold bF.raw at h
 simp only [Bool.and_eq_true] at h
 exact ⟨bl.fq hn h.1,aq.fq hn h.2⟩
theorem Rd (v:bl) (p:bF) (s:aY):az P0 4 [.ag v.cells, .ag p.cells, .ag s.cells] (one (bv true)):=by
 have hv:=Hv v 40
 have hp:=F8 p 40
 cases e0:v.raw 40 with
 |false=>rw [e0] at hv;exact ah af A2 (by rfl) (WX 4 v p s) ⟨rfl,hv,rfl,trivial⟩
 |true=>
  rw [e0] at hv
  cases e1:p.raw 40 with
  |false=>rw [e1] at hp;exact ah af A2 (by rfl) (WY 4 v p s) ⟨rfl,hv,hp,rfl,trivial⟩
  |true=>
   rw [e1] at hp
   have QZ:=bl.fq (by decide) e0
   have sp':=bF.fq (by decide) e1
   exact ah af A2 (by rfl) (WZ 4 v p s _ _ _ _ _) ⟨rfl,hv,hp,AK sp',AK sp',Bb s,Bb s,wF QZ,wF QZ,zB (bl.er.2 rfl),E1 (bF.er.2 rfl),by simp,Mm (aY.er.2 rfl),by simp,trivial⟩
end Go.Proofs.YtibbgjafjhcemaaDoor.Cul
namespace Go.Proofs.YtibbgjafjhcemaaDoor.Cul
open Go Go.RowKit
def qv:Nat→ax
 |0=>⟨1,0,0,0,1⟩
 |1=>⟨0,1,0,1,4⟩
 |2=>⟨0,0,1,0,2⟩
 |3=>⟨0,1,0,0,2⟩
 |4=>⟨1,0,0,0,2⟩
 |5=>⟨0, -1,0,1,4⟩
 |_=>⟨0,0,0,0,1⟩
def ax.neg (x:ax):ax:=⟨-x.a, -x.b, -x.c, -x.d,x.n⟩
def foldI (i:Int):Int:=if i%24>12 then 24 - i%24 else i%24
def bQ (i:Int):ax:=if foldI i>6 then (qv (12 - foldI i).toNat).neg else qv (foldI i).toNat
noncomputable def qT:List PV→Option RV:=bJ (fun k:Nat=>k≤6) (fun k=>[iv k]) (fun k=>one (.ag (aq.of (qv k)).cells))
noncomputable def HO:List PV→Option RV:=bJ (fun i:Int=> -(2^62)≤i∧i≤2^62) (fun i=>[iv i]) (fun i=>one (.ag (aq.of (bQ i)).cells))
noncomputable def OG:List PV→Option RV:=bJ (fun i:Int=> -(2^62)≤i∧i≤2^62) (fun i=>[iv i]) (fun i=>one (.ag (aq.of (bQ (i%24 - 6))).cells))
noncomputable def Mr:List PV→Option RV:=bJ (fun p:ax×ax=>(∃K,K<2^20∧p.1.Fit K∧p.2.Fit K)∧p.1.ok=true∧p.2.ok=true) (fun p=>[.ag p.1.cells, .ag p.2.cells]) (fun p=>one (.ag (aq.of (p.1.dR p.2).low).cells))
noncomputable def t40:Cl:=bI [(30,oC (· %24)),(68,qT),(37,FY)]
noncomputable def t41:Cl:=bI [(30,oC (· %24)),(46,HO)]
noncomputable def t42:Cl:=bI [(43,yd),(34,Ky),(44,um),(45,Mr),(46,HO),(47,OG)]
theorem Up (k:Nat) (i m:Int) (x:aq):ay MD t40 k 46 [iv i] [.r (one (iv m)), .c false, .c false, .r (one (.ag x.cells))]=
 some (RV.mk (PV.ag x.cells) none,[aa t40 30 [iv i] (RV.mk (iv m) none),decide (m>(12:Int))=false,decide (m>(6:Int))=false,aa t40 68 [iv m] (RV.mk (PV.ag x.cells) none)]):=by kernel_rfl
theorem Uq (k:Nat) (i m j:Int) (x y:aq):ay MD t40 k 46 [iv i] [.r (one (iv m)), .c false, .c true, .i 12 j, .r (one (.ag x.cells)), .r (one (.ag y.cells))]=
 some (RV.mk (PV.ag y.cells) none,[aa t40 30 [iv i] (RV.mk (iv m) none),decide (m>(12:Int))=false,decide (m>(6:Int))=true,IntKind.i64.wrap ((12:Int) - m)=j,aa t40 68 [iv j] (RV.mk (PV.ag x.cells) none),aa t40 37 [PV.ag x.cells] (RV.mk (PV.ag y.cells) none)]):=by kernel_rfl
theorem Ur (k:Nat) (i m m2:Int) (x:aq):ay MD t40 k 46 [iv i] [.r (one (iv m)), .c true, .i 8 m2, .c false, .r (one (.ag x.cells))]=
 some (RV.mk (PV.ag x.cells) none,[aa t40 30 [iv i] (RV.mk (iv m) none),decide (m>(12:Int))=true,IntKind.i64.wrap ((24:Int) - m)=m2,decide (m2>(6:Int))=false,aa t40 68 [iv m2] (RV.mk (PV.ag x.cells) none)]):=by kernel_rfl
theorem Us (k:Nat) (i m m2 j:Int) (x y:aq):ay MD t40 k 46 [iv i] [.r (one (iv m)), .c true, .i 8 m2, .c true, .i 12 j, .r (one (.ag x.cells)), .r (one (.ag y.cells))]=
 some (RV.mk (PV.ag y.cells) none,[aa t40 30 [iv i] (RV.mk (iv m) none),decide (m>(12:Int))=true,IntKind.i64.wrap ((24:Int) - m)=m2,decide (m2>(6:Int))=true,IntKind.i64.wrap ((12:Int) - m2)=j,aa t40 68 [iv j] (RV.mk (PV.ag x.cells) none),aa t40 37 [PV.ag x.cells] (RV.mk (PV.ag y.cells) none)]):=by kernel_rfl
theorem YE (k:Nat) (i m j:Int) (x:aq):ay MD t41 k 47 [iv i] [.r (one (iv m)), .i 5 j, .r (one (.ag x.cells))]=
 some (RV.mk (PV.ag x.cells) none,[aa t41 30 [iv i] (RV.mk (iv m) none),IntKind.i64.wrap (m - (6:Int))=j,aa t41 46 [iv j] (RV.mk (PV.ag x.cells) none)]):=by kernel_rfl
theorem X1 (k:Nat) (s:aY) (o r c p q t z:aq):ay MD t42 k 28 [.ag s.cells, .ag o.cells] [.r (one (bv true)), .r (one (bv true)), .r (one (.ag r.cells)), .r (one (.ag c.cells)), .r (one (.ag p.cells)), .r (one (.ag t.cells)), .r (one (.ag q.cells)), .r (one (.ag z.cells))]=
 some (RV.mk (PV.aG [PV.ag [bv p.c0.g,sv p.c0.s,bv p.c1.g,sv p.c1.s,bv p.c2.g,sv p.c2.s,bv p.c3.g,sv p.c3.s,bv p.d.g,sv p.d.s,bv q.c0.g,sv q.c0.s,bv q.c1.g,sv q.c1.s,bv q.c2.g,sv q.c2.s,bv q.c3.g,sv q.c3.s,bv q.d.g,sv q.d.s,bv z.c0.g,sv z.c0.s,bv z.c1.g,sv z.c1.s,bv z.c2.g,sv z.c2.s,bv z.c3.g,sv z.c3.s,bv z.d.g,sv z.d.s,bv o.c0.g,sv o.c0.s,bv o.c1.g,sv o.c1.s,bv o.c2.g,sv o.c2.s,bv o.c3.g,sv o.c3.s,bv o.d.g,sv o.d.s],iv (0:Int)]) none,[aa t42 43 [PV.ag o.cells] (RV.mk (bv true) none),aa t42 34 [PV.ag s.cells] (RV.mk (bv true) none),aa t42 44 [iv s.h] (RV.mk (PV.ag r.cells) none),aa t42 46 [iv s.i] (RV.mk (PV.ag c.cells) none),aa t42 45 [PV.ag r.cells,PV.ag c.cells] (RV.mk (PV.ag p.cells) none),aa t42 47 [iv s.i] (RV.mk (PV.ag t.cells) none),aa t42 45 [PV.ag r.cells,PV.ag t.cells] (RV.mk (PV.ag q.cells) none),aa t42 44 [iv s.v] (RV.mk (PV.ag z.cells) none)]):=by kernel_rfl
def fm:Prop:=∀k:Nat,k≤6→az P0 68 [iv k] (one (.ag (aq.of (qv k)).cells))
theorem RI.lH (z:Int):(RI.of z).neg=RI.of (-z):=by
 have h:=Cr z
 unfold ov at h
 rw [mc,if_pos rfl] at h
 simp only [iz,zc,PV.ag.injEq,List.cons.injEq,bv,sv,PV.lit.injEq,Value.bool.injEq,Value.string.injEq,and_true] at h
 show RI.mk _ _=RI.mk _ _
 rw [RI.mk.injEq]
 exact ⟨h.1,h.2⟩
theorem aq.lH {y:ax} (h:y.ok=true):(aq.of y).neg=aq.of y.neg:=by
 unfold aq.neg
 rw [aq.qj,h,if_pos rfl]
 show aq.mk _ _ _ _ _=aq.mk _ _ _ _ _
 rw [aq.mk.injEq]
 exact ⟨RI.lH _,RI.lH _,RI.lH _,RI.lH _,rfl⟩
theorem K4 (i:Int):0≤foldI i∧foldI i≤12:=by
 unfold foldI
 have h1:=Int.emod_nonneg i (show (24:Int)≠0 by decide)
 have h2:=Int.emod_lt_of_pos i (show (0:Int)<24 by decide)
 split<;>omega
theorem D6 {k:Nat} (h:k≤6):(qv k).ok=true:=by
 have:k=0∨k=1∨k=2∨k=3∨k=4∨k=5∨k=6:=by omega
 rcases this with rfl|rfl|rfl|rfl|rfl|rfl|rfl<;>decide
theorem AT (k:Nat):(qv k).Fit 1:=by
 unfold qv ax.Fit
 split<;>decide
theorem Ls {K:Nat} {x:ax} (h:x.Fit K):x.neg.Fit K:=by
 unfold ax.Fit ax.neg at*
 simp only [Int.natAbs_neg]
 exact h
theorem ax.gcd_neg (x:ax):x.neg.gcd=x.gcd:=by
 unfold ax.neg ax.gcd
 simp only [Int.natAbs_neg]
theorem NZ (x:ax):x.neg.ok=x.ok:=by
 unfold ax.ok
 rw [ax.gcd_neg];rfl
theorem IG {y:ax} (h:y.small):(aq.of y).small:=by
 obtain ⟨⟨h1,h2⟩,⟨h3,h4⟩,h5⟩:=h
 intro r hr
 simp only [aq.dm,aq.of,List.mem_cons,List.not_mem_nil,or_false] at hr
 rcases hr with rfl|rfl|rfl|rfl|rfl
 · exact h1
 · exact h2
 · exact h3
 · exact h4
 · exact h5
theorem rm {K:Nat} {y:ax} (hK:K<2^28) (h:y.Fit K):(aq.of y).small:=IG (h.rY hK).small
theorem yV {m:Int} (h0:0≤m) (h:m≤6):qT [iv m]=some (one (.ag (aq.of (qv m.toNat)).cells)):=by
 obtain ⟨k,rfl⟩:∃k:Nat,m=(k:Int):=⟨m.toNat,by omega⟩
 rw [Int.toNat_natCast]
 exact aM (enc:=fun k:Nat=>[iv k]) (fun a b e=>by
  have e:=dA (List.cons.inj e).1
  obtain rfl:a=b:=by omega
  rfl) (show k≤6 by omega)
theorem FU (i:Int):oC (· %24) [iv i]=some (one (iv (i%24))):=rfl
theorem wu (hq:fm):aI MD.P t40:=aH (aj (kR fun x=>vB x) (aj (au fun k h=>hq k h) (aj (au fun x h=>Cz x h) aE)))
theorem EK (hq:fm) (i:Int):az P0 46 [iv i] (one (.ag (aq.of (bQ i)).cells)):=by
 have h1:=Int.emod_nonneg i (show (24:Int)≠0 by decide)
 have h2:=Int.emod_lt_of_pos i (show (0:Int)<24 by decide)
 have hm:=FU i
 unfold bQ foldI
 generalize i%24=m at*
 have ng:∀j:Int,0≤j→j≤6→FY [.ag (aq.of (qv j.toNat)).cells]=some (one (.ag (aq.of (qv j.toNat).neg).cells)):=by
  intro j h0 h6
  have:=rM (rm (K:=1) (by decide) (AT j.toNat))
  rwa [aq.lH (D6 (by omega))] at this
 by_cases h12:m>12
 · simp only [if_pos h12]
   by_cases h6:24 - m>6
   · simp only [if_pos h6]
     exact ah af (wu hq) (by rfl) (Us 1 i m (24 - m) (12 - (24 - m)) (aq.of (qv (12 - (24 - m)).toNat)) (aq.of (qv (12 - (24 - m)).toNat).neg)) ⟨hm,decide_eq_true h12,wrap64 (by omega) (by omega),decide_eq_true h6,wrap64 (by omega) (by omega),yV (by omega) (by omega),ng _ (by omega) (by omega),trivial⟩
   · simp only [if_neg h6]
     exact ah af (wu hq) (by rfl) (Ur 1 i m (24 - m) (aq.of (qv (24 - m).toNat))) ⟨hm,decide_eq_true h12,wrap64 (by omega) (by omega),decide_eq_false h6,yV (by omega) (by omega),trivial⟩
 · simp only [if_neg h12]
   by_cases h6:m>6
   · simp only [if_pos h6]
     exact ah af (wu hq) (by rfl) (Uq 1 i m (12 - m) (aq.of (qv (12 - m).toNat)) (aq.of (qv (12 - m).toNat).neg)) ⟨hm,decide_eq_false h12,decide_eq_true h6,wrap64 (by omega) (by omega),yV (by omega) (by omega),ng _ (by omega) (by omega),trivial⟩
   · simp only [if_neg h6]
     exact ah af (wu hq) (by rfl) (Up 1 i m (aq.of (qv m.toNat))) ⟨hm,decide_eq_false h12,decide_eq_false h6,yV (by omega) (by omega),trivial⟩
theorem B1 {i:Int} (h1: -(2^62)≤i) (h2:i≤2^62):HO [iv i]=some (one (.ag (aq.of (bQ i)).cells)):=
 aM (enc:=fun i:Int=>[iv i]) (fun a b e=>by rw [dA (List.cons.inj e).1]) ⟨h1,h2⟩
theorem LK {i:Int} (h1: -(2^62)≤i) (h2:i≤2^62):OG [iv i]=some (one (.ag (aq.of (bQ (i%24 - 6))).cells)):=
 aM (enc:=fun i:Int=>[iv i]) (fun a b e=>by rw [dA (List.cons.inj e).1]) ⟨h1,h2⟩
theorem OR (hq:fm):aI MD.P t41:=aH (aj (kR fun x=>vB x) (aj (au fun i _=>EK hq i) aE))
theorem OH (hq:fm) (i:Int):az P0 47 [iv i] (one (.ag (aq.of (bQ (i%24 - 6))).cells)):=by
 have h1:=Int.emod_nonneg i (show (24:Int)≠0 by decide)
 have h2:=Int.emod_lt_of_pos i (show (0:Int)<24 by decide)
 exact ah af (OR hq) (by rfl) (YE 1 i (i%24) (i%24 - 6) (aq.of (bQ (i%24 - 6)))) ⟨FU i,wrap64 (by omega) (by omega),B1 (by omega) (by omega),trivial⟩
theorem zw (i:Int):(bQ i).Fit 1:=by
 unfold bQ
 split
 · exact Ls (AT _)
 · exact AT _
theorem wO (i:Int):(bQ i).ok=true:=by
 have:=K4 i
 unfold bQ
 split
 · rw [NZ];exact D6 (by omega)
 · exact D6 (by omega)
theorem zF {x y:ax} {K:Nat} (hK:K<2^20) (hx:x.Fit K) (hy:y.Fit K) (ox:x.ok=true) (oy:y.ok=true):Mr [.ag x.cells, .ag y.cells]=some (one (.ag (aq.of (x.dR y).low).cells)):=
 aM (a:=(x,y)) (enc:=fun p:ax×ax=>[.ag p.1.cells, .ag p.2.cells]) (fun a b e=>by
  simp only [List.cons.injEq,and_true,PV.ag.injEq] at e
  have:a=b:=Prod.ext (aX e.1) (aX e.2)
  rw [this]) ⟨⟨K,hK,hx,hy⟩,ox,oy⟩
theorem Pj (p:ax×ax) (h:(∃K,K<2^20∧p.1.Fit K∧p.2.Fit K)∧p.1.ok=true∧p.2.ok=true):az P0 45 [.ag p.1.cells, .ag p.2.cells] (one (.ag (aq.of (p.1.dR p.2).low).cells)):=by
 obtain ⟨⟨K,hK,hx,hy⟩,ox,oy⟩:=h
 exact Cd p.1 p.2 hK hx hy ox oy
theorem Bj (hq:fm):aI MD.P t42:=aH
 (aj (au fun x h=>nW x h)
 (aj (au fun s _=>yB s)
 (aj (au fun n h=>rq n h)
 (aj (au Pj)
 (aj (au fun i _=>EK hq i)
 (aj (au fun i _=>OH hq i) aE))))))
def ax.cw (n:Int):ax:=⟨n,0,0,0,1⟩
theorem ax.vF (n:Int):(ax.cw n).ok=true:=by
 unfold ax.ok ax.gcd ax.cw
 simp
theorem m8 (n:Int):aq.cw n=aq.of (ax.cw n):=rfl
def fM (s:aY) (i:Int):ax:=((ax.cw s.h).dR (bQ i)).low
def aY.vec (s:aY):bl:=⟨aq.of (fM s s.i),aq.of (fM s (s.i%24 - 6)),aq.cw s.v⟩
theorem DZ (hq:fm) (s:aY) (o:aq) (hs:s.ok=true) (ho:o.small) (hok:o.ok=true):az P0 28 [.ag s.cells, .ag o.cells] (one (.aG [.ag (bF.mk s.vec o).cells,iv 0])):=by
 obtain ⟨⟨hh,hv,_⟩,hi,_⟩:=aY.fK hs
 have v1:=hO ho
 rw [hok] at v1
 have v2:=wg s
 rw [hs] at v2
 have fh:(ax.cw s.h).Fit 2:=⟨⟨⟨by show s.h.natAbs<65536;omega,by show (0:Int).natAbs<65536;decide⟩,by show (0:Int).natAbs<65536;decide,by show (0:Int).natAbs<65536;decide⟩,by show (1:Int).natAbs<65536;decide⟩
 have fc:∀i,(bQ i).Fit 2:=fun i=>by
  obtain ⟨⟨⟨h1,h2⟩,h3,h4⟩,h5⟩:=zw i
  have e1:256^1=256:=rfl
  have e2:256^2=65536:=rfl
  rw [e1] at*
  unfold ax.Fit
  rw [e2]
  exact ⟨⟨⟨by omega,by omega⟩,by omega,by omega⟩,by omega⟩
 have m1:=zF (K:=2) (by decide) fh (fc s.i) (ax.vF _) (wO _)
 have m2:=zF (K:=2) (by decide) fh (fc (s.i%24 - 6)) (ax.vF _) (wO _)
 exact ah af (Bj hq) (by rfl) (X1 1 s o (aq.cw s.h) (aq.of (bQ s.i)) (aq.of (fM s s.i)) (aq.of (fM s (s.i%24 - 6))) (aq.of (bQ (s.i%24 - 6))) (aq.cw s.v)) ⟨v1,v2,eD (by omega) (by omega),B1 (by omega) (by omega),m1,LK (by omega) (by omega),m2,eD (by omega) (by omega),trivial⟩
end Go.Proofs.YtibbgjafjhcemaaDoor.Cul
namespace Go.Proofs.YtibbgjafjhcemaaDoor.Cul
open Go Go.RowKit
noncomputable def aY.fk (s:aY) (o:aq):bF×Int:=if o.ok then (if s.ok then (⟨s.vec,o⟩,0) else (.zero,15)) else (.zero,1)
noncomputable def QT:List PV→Option RV:=bJ (fun x:aY×aq=>x.2.small) (fun x=>[.ag x.1.cells, .ag x.2.cells]) (fun x=>one (.aG [.ag (x.1.fk x.2).1.cells,iv (x.1.fk x.2).2]))
noncomputable def kA:Cl:=bI [(8,L5),(15,Oe),(28,QT),(18,Kv),(16,Kf)]
theorem X2 (k:Nat) (s:aY) (o:aq):ay MD t42 k 28 [.ag s.cells, .ag o.cells] [.r (one (bv false))]=
 some (RV.mk (PV.aG [PV.ag [bv false,sv (ByteArray.mk #[]),bv false,sv (ByteArray.mk #[]),bv false,sv (ByteArray.mk #[]),bv false,sv (ByteArray.mk #[]),bv false,sv (ByteArray.mk #[]),bv false,sv (ByteArray.mk #[]),bv false,sv (ByteArray.mk #[]),bv false,sv (ByteArray.mk #[]),bv false,sv (ByteArray.mk #[]),bv false,sv (ByteArray.mk #[]),bv false,sv (ByteArray.mk #[]),bv false,sv (ByteArray.mk #[]),bv false,sv (ByteArray.mk #[]),bv false,sv (ByteArray.mk #[]),bv false,sv (ByteArray.mk #[]),bv false,sv (ByteArray.mk #[]),bv false,sv (ByteArray.mk #[]),bv false,sv (ByteArray.mk #[]),bv false,sv (ByteArray.mk #[]),bv false,sv (ByteArray.mk #[])],iv (1:Int)]) none,[aa t42 43 [PV.ag o.cells] (RV.mk (bv false) none)]):=by kernel_rfl
theorem X3 (k:Nat) (s:aY) (o:aq):ay MD t42 k 28 [.ag s.cells, .ag o.cells] [.r (one (bv true)), .r (one (bv false))]=
 some (RV.mk (PV.aG [PV.ag [bv false,sv (ByteArray.mk #[]),bv false,sv (ByteArray.mk #[]),bv false,sv (ByteArray.mk #[]),bv false,sv (ByteArray.mk #[]),bv false,sv (ByteArray.mk #[]),bv false,sv (ByteArray.mk #[]),bv false,sv (ByteArray.mk #[]),bv false,sv (ByteArray.mk #[]),bv false,sv (ByteArray.mk #[]),bv false,sv (ByteArray.mk #[]),bv false,sv (ByteArray.mk #[]),bv false,sv (ByteArray.mk #[]),bv false,sv (ByteArray.mk #[]),bv false,sv (ByteArray.mk #[]),bv false,sv (ByteArray.mk #[]),bv false,sv (ByteArray.mk #[]),bv false,sv (ByteArray.mk #[]),bv false,sv (ByteArray.mk #[]),bv false,sv (ByteArray.mk #[]),bv false,sv (ByteArray.mk #[])],iv (15:Int)]) none,[aa t42 43 [PV.ag o.cells] (RV.mk (bv true) none),aa t42 34 [PV.ag s.cells] (RV.mk (bv false) none)]):=by kernel_rfl
theorem Xa (k:Nat) (s:aY) (p:bF):ay MD kA k 7 [.ag s.cells, .ag p.cells] [.r (one (bv true)), .r (one (bv false)), .r (one (bv true))]=
 some (RV.mk (bv true) none,[aa kA 8 [] (RV.mk (bv true) none),aa kA 15 [PV.ag p.cells,iv (40:Int)] (RV.mk (bv false) none),aa kA 8 [] (RV.mk (bv true) none)]):=by kernel_rfl
theorem Xb (k:Nat) (s s2:aY) (p q q2:bF) (e1 e2 e3:Int):ay MD kA k 7 [.ag s.cells, .ag p.cells] [.r (one (bv true)), .r (one (bv true)), .r (one (.aG [.ag q.cells,iv e1])), .r (one (.aG [.ag s2.cells,iv e2])), .r (one (.aG [.ag q2.cells,iv e3])), .c true, .c true]=
 some (RV.mk (bv true) none,[aa kA 8 [] (RV.mk (bv true) none),aa kA 15 [PV.ag p.cells,iv (40:Int)] (RV.mk (bv true) none),aa kA 28 [PV.ag s.cells,PV.ag p.d.cells] (RV.mk (PV.aG [PV.ag q.cells,iv e1]) none),aa kA 18 [PV.ag s.cells] (RV.mk (PV.aG [PV.ag s2.cells,iv e2]) none),aa kA 28 [PV.ag s2.cells,PV.ag p.d.cells] (RV.mk (PV.aG [PV.ag q2.cells,iv e3]) none),(e1 !=(0:Int))=true,(e1 !=(0:Int))=true]):=by kernel_rfl
theorem QI (k:Nat) (s s2:aY) (p q q2 q3:bF) (e1 e2 e3 e4:Int) (b:Bool):ay MD kA k 7 [.ag s.cells, .ag p.cells] [.r (one (bv true)), .r (one (bv true)), .r (one (.aG [.ag q.cells,iv e1])), .r (one (.aG [.ag s2.cells,iv e2])), .r (one (.aG [.ag q2.cells,iv e3])), .c false, .c false, .r (one (.aG [.ag q3.cells,iv e4])), .c true, .c true, .g b]=
 some (RV.mk (bv b) none,[aa kA 8 [] (RV.mk (bv true) none),aa kA 15 [PV.ag p.cells,iv (40:Int)] (RV.mk (bv true) none),aa kA 28 [PV.ag s.cells,PV.ag p.d.cells] (RV.mk (PV.aG [PV.ag q.cells,iv e1]) none),aa kA 18 [PV.ag s.cells] (RV.mk (PV.aG [PV.ag s2.cells,iv e2]) none),aa kA 28 [PV.ag s2.cells,PV.ag p.d.cells] (RV.mk (PV.aG [PV.ag q2.cells,iv e3]) none),(e1 !=(0:Int))=false,(e2 !=(0:Int))=false,aa kA 16 [PV.ag q.cells] (RV.mk (PV.aG [PV.ag q3.cells,iv e4]) none),(e3==(0:Int))=true,(e4==(0:Int))=true,gw MD.P BinOp.eql 34 (Operand.tmp (60:Nat)) (Operand.tmp (61:Nat)) (Value.agg q3.vals.toArray) (Value.agg q2.vals.toArray) b]):=by kernel_rfl
deriving instance DecidableEq for ax
theorem PB (hq:fm) (s:aY) (o:aq) (ho:o.small):az P0 28 [.ag s.cells, .ag o.cells] (one (.aG [.ag (s.fk o).1.cells,iv (s.fk o).2])):=by
 have v1:=hO ho
 have v2:=wg s
 unfold aY.fk
 cases e1:o.ok with
 |false=>
  rw [e1] at v1
  exact ah af (Bj hq) (by rfl) (X2 1 s o) ⟨v1,trivial⟩
 |true=>
  rw [e1] at v1
  cases e2:s.ok with
  |false=>
   rw [e2] at v2
   exact ah af (Bj hq) (by rfl) (X3 1 s o) ⟨v1,v2,trivial⟩
  |true=>exact DZ hq s o e2 ho e1
theorem tR (x y f:Nat→Int) (i:Nat):∀j k,kC x (fun j=> -(y j)) (fun k=> -(f k)) i j k= -(kC x y f i j k)
 |0,k=>rfl
 |j+1,k=>by
  simp only [kC,wC]
  rw [tR x y f i j,tR x y f i j]
  split
  · rw [Int.mul_neg,Int.mul_neg,Int.neg_add]
  · rfl
theorem zh (x y:Nat→Int):∀i,ey x (fun j=> -(y j)) i=fun k=> -(ey x y i k)
 |0=>by funext k;simp [ey]
 |i+1=>by
  funext k
  simp only [ey]
  rw [zh x y i]
  exact tR x y (ey x y i) i 4 k
theorem L3 (y:ax):y.neg.at=fun j=> -(y.at j):=by
 funext j
 unfold ax.at ax.neg
 split<;>rfl
theorem IB (x y:ax):x.dR y.neg=(x.dR y).neg:=by
 unfold ax.dR
 rw [L3,zh]
 rfl
theorem Le (x:ax):x.neg.low=x.low.neg:=by
 have hs:x.neg.sg=x.sg:=by
  unfold ax.sg
  rw [ax.gcd_neg];rfl
 have hd:=x.rW
 unfold ax.low
 rw [hs]
 show ax.mk (-x.a / x.sg) (-x.b / x.sg) (-x.c / x.sg) (-x.d / x.sg) (x.n / x.sg)=ax.mk _ _ _ _ _
 rw [Int.neg_ediv_of_dvd hd.1.1,Int.neg_ediv_of_dvd hd.1.2,Int.neg_ediv_of_dvd hd.2.1.1,Int.neg_ediv_of_dvd hd.2.1.2]
theorem OY:∀i:Fin 24,(bQ ((-(i.val:Int))%24)=bQ (i.val:Int)∧bQ ((-(i.val:Int))%24%24 - 6)=(bQ ((i.val:Int)%24 - 6)).neg)∧¬(((bQ (i.val:Int)).a=0∧(bQ (i.val:Int)).b=0∧(bQ (i.val:Int)).c=0∧(bQ (i.val:Int)).d=0)∧((bQ ((i.val:Int)%24 - 6)).a=0∧(bQ ((i.val:Int)%24 - 6)).b=0∧(bQ ((i.val:Int)%24 - 6)).c=0∧(bQ ((i.val:Int)%24 - 6)).d=0)):=by decide
theorem CW {i:Int} (h0:0≤i) (h:i<24):(bQ ((-i)%24)=bQ i∧bQ ((-i)%24%24 - 6)=(bQ (i%24 - 6)).neg)∧¬(((bQ i).a=0∧(bQ i).b=0∧(bQ i).c=0∧(bQ i).d=0)∧((bQ (i%24 - 6)).a=0∧(bQ (i%24 - 6)).b=0∧(bQ (i%24 - 6)).c=0∧(bQ (i%24 - 6)).d=0)):=by
 obtain ⟨n,rfl⟩:∃n:Nat,i=(n:Int):=⟨i.toNat,by omega⟩
 exact OY ⟨n,by omega⟩
theorem uk (h:Int) (c:ax):(ax.cw h).dR c=⟨h* c.a,h* c.b,h* c.c,h* c.d,c.n⟩:=by
 unfold ax.dR
 simp [ey,kC,wC,mm,ax.at,ax.cw]
theorem Gm (s:aY) (i:Int):((ax.cw s.h).dR (bQ i)).n≠0:=by
 rw [uk]
 have:=ax.rO (wO i)
 show (bQ i).n≠0
 omega
theorem Gn (s:aY) (i:Int):(aq.of (fM s i)).ok=true:=by
 rw [aq.qj]
 exact ax.NL (Gm s i)
theorem qo {s z:Int} (h:s∣z) (h0:z / s=0):z=0:=by
 have:=Int.ediv_mul_cancel h
 rw [h0,Int.zero_mul] at this
 exact this.symm
theorem AU {s:aY} {i:Int} (h1:s.h=1) (h:aq.of (fM s i)=aq.cw 0):(bQ i).a=0∧(bQ i).b=0∧(bQ i).c=0∧(bQ i).d=0:=by
 have e:=congrArg aq.i5 h
 rw [m8,aq.qi,aq.qi] at e
 have hd:=((ax.cw s.h).dR (bQ i)).rW
 unfold fM ax.low ax.cw at e
 simp only [ax.mk.injEq] at e
 have ha:=qo hd.1.1 e.1
 have hb:=qo hd.1.2 e.2.1
 have hc:=qo hd.2.1.1 e.2.2.1
 have MO:=qo hd.2.1.2 e.2.2.2.1
 rw [uk,h1] at ha hb hc MO
 simp only [Int.one_mul] at ha hb hc MO
 exact ⟨ha,hb,hc,MO⟩
theorem DS (n:Int):(aq.cw n).ok=true:=by
 rw [m8,aq.qj];exact ax.vF n
theorem Ht (s:aY):s.vec.ok=true:=by
 unfold bl.ok aY.vec
 simp only [Gn,DS,Bool.and_self]
theorem O3 {s:aY} (hs:s.ok=true):s.vec.tw=false:=by
 obtain ⟨⟨hh,hv,hg⟩,hi,_⟩:=aY.fK hs
 refine Bool.eq_false_iff.2 fun h=> ?_
 have e:=bl.er.1 h
 unfold aY.vec bl.cw at e
 simp only [bl.mk.injEq] at e
 obtain ⟨e1,e2,e3⟩:=e
 have mX:s.v=0:=by
  have:=congrArg aq.i5 e3
  rw [m8,m8,aq.qi,aq.qi] at this
  unfold ax.cw at this
  simp only [ax.mk.injEq] at this
  exact this.1
 rw [mX] at hg
 simp only [Int.natAbs_zero,Nat.gcd_zero_right] at hg
 have h1:s.h=1:=by omega
 exact (CW hi.1 hi.2).2 ⟨AU h1 e1,AU h1 e2⟩
theorem Gp {s t:aY} (h:s.h=t.h) (i:Int):fM s i=fM t i:=by unfold fM;rw [h]
theorem I7 (s:aY) {i j:Int} (h:bQ j=(bQ i).neg):fM s j=(fM s i).neg:=by unfold fM;rw [h,IB,Le]
theorem Gq (s:aY) {i j:Int} (h:bQ j=bQ i):fM s i=fM s j:=by unfold fM;rw [h]
def aY.de (s:aY):aY:=⟨s.h, -s.v,(-s.i)%24⟩
theorem LM {s:aY} (hs:s.ok=true):s.de.ok=true:=by
 obtain ⟨⟨hh,hv,hg⟩,hi,hz⟩:=aY.fK hs
 have h1:=Int.emod_nonneg (-s.i) (show (24:Int)≠0 by decide)
 have h2:=Int.emod_lt_of_pos (-s.i) (show (0:Int)<24 by decide)
 unfold aY.ok aY.de
 simp only [Bool.and_eq_true,decide_eq_true_eq]
 refine ⟨⟨hh,⟨by omega,by omega⟩,by rw [Int.natAbs_neg];exact hg⟩,⟨h1,h2⟩, ?_⟩
 rcases hz with h|h
 · exact Or.inl h
 · right;rw [h];rfl
theorem OZ {s:aY} {o:aq} (hs:s.ok=true) (ho:o.ok=true):(bF.mk s.vec o).over=(bF.mk s.de.vec o,0):=by
 obtain ⟨⟨hh,hv,hg⟩,hi,_⟩:=aY.fK hs
 have t:=(CW hi.1 hi.2).1
 have hp:(bF.mk s.vec o).ok=true:=by
  unfold bF.ok
  simp only [Ht,O3 hs,ho,Bool.not_false,Bool.and_self]
 unfold bF.over
 rw [hp,if_pos rfl]
 have RT:s.vec.over=s.de.vec:=by
  have e2:(aq.of (fM s (s.i%24 - 6))).neg=aq.of (fM s.de ((-s.i)%24%24 - 6)):=by
   rw [aq.lH (by have:=Gn s (s.i%24 - 6);rwa [aq.qj] at this),←I7 s t.2,Gp (s:=s) (t:=s.de) rfl]
  have e1:aq.of (fM s s.i)=aq.of (fM s.de ((-s.i)%24)):=by
   rw [Gq s t.1,Gp (s:=s) (t:=s.de) rfl]
  have e3:(aq.cw s.v).neg=aq.cw (-s.v):=by
   rw [m8,aq.lH (ax.vF _),m8];rfl
  have e4:s.de.vec=⟨aq.of (fM s.de ((-s.i)%24)),aq.of (fM s.de ((-s.i)%24%24 - 6)),aq.cw (-s.v)⟩:=rfl
  unfold bl.over
  rw [Ht,if_pos rfl,e4,←e1,←e2,←e3]
  rfl
 show (bF.mk s.vec.over o,(0:Int))=_
 rw [RT]
theorem F7 {s:aY} {o:aq} (h:o.small):QT [.ag s.cells, .ag o.cells]=some (one (.aG [.ag (s.fk o).1.cells,iv (s.fk o).2])):=
 aM (a:=(s,o)) (enc:=fun x:aY×aq=>[.ag x.1.cells, .ag x.2.cells]) (fun a b e=>by
  simp only [List.cons.injEq,and_true,PV.ag.injEq] at e
  have:a=b:=Prod.ext (aY.aX e.1) (aq.aX e.2)
  rw [this]) h
theorem A3 (hq:fm):aI MD.P kA:=aH
 (aj (Bc tW) (aj (au fun x _=>CA x) (aj (au fun x h=>PB hq x.1 x.2 h) (aj (au fun s _=>vT s) (aj (au fun p h=>AJ p h) aE)))))
theorem yl {s:aY} (hs:s.ok=true) (i:Int):(aq.of (fM s i)).small:=by
 obtain ⟨⟨hh,_,_⟩,_,_⟩:=aY.fK hs
 have hf:((ax.cw s.h).dR (bQ i)).Fit 3:=by
  rw [uk]
  obtain ⟨⟨⟨h1,h2⟩,h3,h4⟩,h5⟩:=zw i
  have e1:256^1=256:=rfl
  have e2:256^3=16777216:=rfl
  rw [e1] at*
  unfold ax.Fit
  rw [e2]
  have key:∀z:Int,z.natAbs<256→(s.h* z).natAbs<16777216:=by
   intro z hz
   rw [Int.natAbs_mul]
   have:s.h.natAbs* z.natAbs≤1000* 255:=Nat.mul_le_mul (by omega) (by omega)
   omega
  exact ⟨⟨⟨key _ h1,key _ h2⟩,key _ h3,key _ h4⟩,by show (bQ i).n.natAbs<16777216;omega⟩
 exact rm (K:=3) (by decide) (hf.low (Gm s i))
theorem BK (hq:fm) (s:aY) (p:bF):az P0 7 [.ag s.cells, .ag p.cells] (one (bv true)):=by
 have hp:=F8 p 40
 have aw:L5 []=some (one (bv true)):=rfl
 cases e0:p.raw 40 with
 |false=>
  rw [e0] at hp
  exact ah af (A3 hq) (by rfl) (Xa 1 s p) ⟨aw,hp,aw,trivial⟩
 |true=>
  rw [e0] at hp
  have sp:=bF.fq (by decide) e0
  have c1:=F7 (s:=s) sp.2
  have c2:=Bb s
  have c3:=F7 (s:=s.over.1) sp.2
  by_cases he:(s.fk p.d).2=0
  · have hd:p.d.ok=true:=by
      unfold aY.fk at he
      cases h:p.d.ok with
      |true=>rfl
      |false=>rw [h] at he;simp at he
    have hs:s.ok=true:=by
     unfold aY.fk at he
     rw [hd,if_pos rfl] at he
     cases h:s.ok with
     |true=>rfl
     |false=>rw [h] at he;simp at he
    have e1:s.fk p.d=(⟨s.vec,p.d⟩,0):=by unfold aY.fk;rw [hd,hs];rfl
    have e2:s.over=(s.de,0):=by unfold aY.over;rw [hs];rfl
    have e3:s.de.fk p.d=(⟨s.de.vec,p.d⟩,0):=by unfold aY.fk;rw [hd,LM hs];rfl
    rw [e1] at c1
    rw [e2] at c2 c3
    simp only at c3
    rw [e3] at c3
    have ss:(bF.mk s.vec p.d).small:=⟨⟨yl hs _,yl hs _,rm (K:=2) (y:=ax.cw s.v) (by decide) ⟨⟨⟨by have:=(aY.fK hs).1.2.1;show s.v.natAbs<65536;omega,by show (0:Int).natAbs<65536;decide⟩,by show (0:Int).natAbs<65536;decide,by show (0:Int).natAbs<65536;decide⟩,by show (1:Int).natAbs<65536;decide⟩⟩,sp.2⟩
    have c4:=AK ss
    rw [OZ hs hd] at c4
    exact ah af (A3 hq) (by rfl) (QI 1 s s.de p ⟨s.vec,p.d⟩ ⟨s.de.vec,p.d⟩ ⟨s.de.vec,p.d⟩ 0 0 0 0 true) ⟨aw,hp,c1,c2,c3,rfl,rfl,c4,rfl,rfl,E1 (bF.er.2 rfl),trivial⟩
  · have hb:((s.fk p.d).2 !=0)=true:=by simpa using he
    exact ah af (A3 hq) (by rfl) (Xb 1 s s.over.1 p (s.fk p.d).1 (s.over.1.fk p.d).1 (s.fk p.d).2 s.over.2 (s.over.1.fk p.d).2) ⟨aw,hp,c1,c2,c3,hb,hb,trivial⟩
end Go.Proofs.YtibbgjafjhcemaaDoor.Cul
namespace Go.Proofs.YtibbgjafjhcemaaDoor.Cul
open Go Go.RowKit
def ax.l6 (x:ax):ax:=⟨x.a,x.b, -x.c, -x.d,x.n⟩
def ax.yN (x:ax):ax:=⟨x.a, -x.b,x.c, -x.d,x.n⟩
noncomputable def L9:List PV→Option RV:=tC (bJ (fun _:ax=>True) (fun x=>[.ag x.cells,iv 2]) (fun x=>one (.ag x.l6.cells))) (bJ (fun _:ax=>True) (fun x=>[.ag x.cells,iv 1]) (fun x=>one (.ag x.yN.cells)))
noncomputable def t43:Cl:=bI [(43,JH),(84,Da),(85,DM),(86,DJ)]
noncomputable def t44:Cl:=bI [(44,um),(66,xl)]
noncomputable def t45:Cl:=bI [(54,DN)]
noncomputable def t46:Cl:=bI [(43,JH),(44,um),(67,D1),(86,DJ),(115,L9)]
def rv (c:Nat):ax:=match c with
 |2=>⟨0,1,0,0,1⟩
 |3=>⟨0,0,1,0,1⟩
 |_=>⟨0,0,0,1,1⟩
theorem U1 (k:Nat) (x y l:aq) (a0 b0 c0 a1 b1 c1 a2 b2 c2 a3 b3 c3 d:RI):ay MD t43 k 102 [.ag x.cells, .ag y.cells] [.r (one (bv true)), .r (one (bv true)), .u 5, .c true, .r (one (.ag a0.cells)), .r (one (.ag b0.cells)), .r (one (.ag c0.cells)), .c true, .r (one (.ag a1.cells)), .r (one (.ag b1.cells)), .r (one (.ag c1.cells)), .c true, .r (one (.ag a2.cells)), .r (one (.ag b2.cells)), .r (one (.ag c2.cells)), .c true, .r (one (.ag a3.cells)), .r (one (.ag b3.cells)), .r (one (.ag c3.cells)), .c false, .r (one (.ag d.cells)), .r (one (.ag l.cells))]=
 some (RV.mk (PV.ag l.cells) none,[aa t43 43 [PV.ag x.cells] (RV.mk (bv true) none),aa t43 43 [PV.ag y.cells] (RV.mk (bv true) none),5≤k,true=true,aa t43 85 [PV.ag x.c0.cells,PV.ag y.d.cells] (RV.mk (PV.ag a0.cells) none),aa t43 85 [PV.ag y.c0.cells,PV.ag x.d.cells] (RV.mk (PV.ag b0.cells) none),aa t43 84 [PV.ag a0.cells,PV.ag b0.cells] (RV.mk (PV.ag c0.cells) none),true=true,aa t43 85 [PV.ag x.c1.cells,PV.ag y.d.cells] (RV.mk (PV.ag a1.cells) none),aa t43 85 [PV.ag y.c1.cells,PV.ag x.d.cells] (RV.mk (PV.ag b1.cells) none),aa t43 84 [PV.ag a1.cells,PV.ag b1.cells] (RV.mk (PV.ag c1.cells) none),true=true,aa t43 85 [PV.ag x.c2.cells,PV.ag y.d.cells] (RV.mk (PV.ag a2.cells) none),aa t43 85 [PV.ag y.c2.cells,PV.ag x.d.cells] (RV.mk (PV.ag b2.cells) none),aa t43 84 [PV.ag a2.cells,PV.ag b2.cells] (RV.mk (PV.ag c2.cells) none),true=true,aa t43 85 [PV.ag x.c3.cells,PV.ag y.d.cells] (RV.mk (PV.ag a3.cells) none),aa t43 85 [PV.ag y.c3.cells,PV.ag x.d.cells] (RV.mk (PV.ag b3.cells) none),aa t43 84 [PV.ag a3.cells,PV.ag b3.cells] (RV.mk (PV.ag c3.cells) none),false=false,aa t43 85 [PV.ag x.d.cells,PV.ag y.d.cells] (RV.mk (PV.ag d.cells) none),aa t43 86 [PV.ag [bv c0.g,sv c0.s,bv c1.g,sv c1.s,bv c2.g,sv c2.s,bv c3.g,sv c3.s],PV.ag d.cells] (RV.mk (PV.ag l.cells) none)]):=by kernel_rfl
theorem Yl (k:Nat) (x:aq) (d:RI):ay MD t44 k 103 [iv 2] [.r (one (.ag x.cells)), .c true, .r (one (.ag d.cells))]=
 some (RV.mk (PV.ag [bv x.c0.g,sv x.c0.s,bv d.g,sv d.s,bv x.c2.g,sv x.c2.s,bv x.c3.g,sv x.c3.s,bv x.d.g,sv x.d.s]) none,[aa t44 44 [iv (0:Int)] (RV.mk (PV.ag x.cells) none),true=true,aa t44 66 [iv (1:Int)] (RV.mk (PV.ag d.cells) none)]):=by kernel_rfl
theorem Ym (k:Nat) (x:aq) (d:RI):ay MD t44 k 103 [iv 3] [.r (one (.ag x.cells)), .c false, .c true, .r (one (.ag d.cells))]=
 some (RV.mk (PV.ag [bv x.c0.g,sv x.c0.s,bv x.c1.g,sv x.c1.s,bv d.g,sv d.s,bv x.c3.g,sv x.c3.s,bv x.d.g,sv x.d.s]) none,[aa t44 44 [iv (0:Int)] (RV.mk (PV.ag x.cells) none),false=false,true=true,aa t44 66 [iv (1:Int)] (RV.mk (PV.ag d.cells) none)]):=by kernel_rfl
theorem Yn (k:Nat) (x:aq) (d:RI):ay MD t44 k 103 [iv 6] [.r (one (.ag x.cells)), .c false, .c false, .c true, .r (one (.ag d.cells))]=
 some (RV.mk (PV.ag [bv x.c0.g,sv x.c0.s,bv x.c1.g,sv x.c1.s,bv x.c2.g,sv x.c2.s,bv d.g,sv d.s,bv x.d.g,sv x.d.s]) none,[aa t44 44 [iv (0:Int)] (RV.mk (PV.ag x.cells) none),false=false,false=false,true=true,aa t44 66 [iv (1:Int)] (RV.mk (PV.ag d.cells) none)]):=by kernel_rfl
theorem Uj (k:Nat) (x:aq) (d e:RI):ay MD t45 k 115 [.ag x.cells,iv 2] [.u 5, .c true, .c false, .c true, .c false, .c true, .c true, .r (one (.ag d.cells)), .c true, .c true, .r (one (.ag e.cells)), .c false]=
 some (RV.mk (PV.ag [bv x.c0.g,sv x.c0.s,bv x.c1.g,sv x.c1.s,bv d.g,sv d.s,bv e.g,sv e.s,bv x.d.g,sv x.d.s]) none,[5≤k,true=true,false=false,true=true,false=false,true=true,true=true,aa t45 54 [PV.ag x.c2.cells] (RV.mk (PV.ag d.cells) none),true=true,true=true,aa t45 54 [PV.ag x.c3.cells] (RV.mk (PV.ag e.cells) none),false=false]):=by kernel_rfl
theorem Ui (k:Nat) (x:aq) (d e:RI):ay MD t45 k 115 [.ag x.cells,iv 1] [.u 5, .c true, .c false, .c true, .c true, .r (one (.ag d.cells)), .c true, .c false, .c true, .c true, .r (one (.ag e.cells)), .c false]=
 some (RV.mk (PV.ag [bv x.c0.g,sv x.c0.s,bv d.g,sv d.s,bv x.c2.g,sv x.c2.s,bv e.g,sv e.s,bv x.d.g,sv x.d.s]) none,[5≤k,true=true,false=false,true=true,true=true,aa t45 54 [PV.ag x.c1.cells] (RV.mk (PV.ag d.cells) none),true=true,false=false,true=true,true=true,aa t45 54 [PV.ag x.c3.cells] (RV.mk (PV.ag e.cells) none),false=false]):=by kernel_rfl
theorem UY (k:Nat) (x y z c p e q i u v r:aq):ay MD t46 k 104 [.ag x.cells, .ag y.cells] [.r (one (bv true)), .r (one (bv true)), .r (one (.ag z.cells)), .g false, .r (one (.ag c.cells)), .r (one (.ag p.cells)), .r (one (.ag e.cells)), .r (one (.ag q.cells)), .r (one (.ag i.cells)), .r (one (.ag u.cells)), .r (one (.ag v.cells)), .r (one (.ag r.cells))]=
 some (RV.mk (PV.aG [PV.ag r.cells,iv (0:Int)]) none,[aa t46 43 [PV.ag x.cells] (RV.mk (bv true) none),aa t46 43 [PV.ag y.cells] (RV.mk (bv true) none),aa t46 44 [iv (0:Int)] (RV.mk (PV.ag z.cells) none),gw MD.P BinOp.eql 30 (Operand.tmp (22:Nat)) (Operand.tmp (23:Nat)) (Value.agg y.vals.toArray) (Value.agg z.vals.toArray) false,aa t46 115 [PV.ag y.cells,iv (2:Int)] (RV.mk (PV.ag c.cells) none),aa t46 67 [PV.ag y.cells,PV.ag c.cells] (RV.mk (PV.ag p.cells) none),aa t46 115 [PV.ag p.cells,iv (1:Int)] (RV.mk (PV.ag e.cells) none),aa t46 67 [PV.ag p.cells,PV.ag e.cells] (RV.mk (PV.ag q.cells) none),aa t46 86 [PV.ag [bv q.d.g,sv q.d.s,bv false,sv (ByteArray.mk #[]),bv false,sv (ByteArray.mk #[]),bv false,sv (ByteArray.mk #[])],PV.ag q.c0.cells] (RV.mk (PV.ag i.cells) none),aa t46 67 [PV.ag x.cells,PV.ag c.cells] (RV.mk (PV.ag u.cells) none),aa t46 67 [PV.ag e.cells,PV.ag i.cells] (RV.mk (PV.ag v.cells) none),aa t46 67 [PV.ag u.cells,PV.ag v.cells] (RV.mk (PV.ag r.cells) none)]):=by kernel_rfl
theorem OS:aI MD.P t43:=aH
 (aj (au fun x h=>nQ x h)
 (aj (au fun x h=>BV x.1 x.2 h.1 h.2)
 (aj (au fun x h=>Cp x.1 x.2 h.1 h.2)
 (aj (au fun x h=>Ap x h.1 h.2) aE))))
def ax.tS (x y:ax):ax:=⟨x.a* y.n+y.a* x.n,x.b* y.n+y.b* x.n,x.c* y.n+y.c* x.n,x.d* y.n+y.d* x.n,x.n* y.n⟩
theorem xj {K:Nat} {a b:Int} (ha:a.natAbs<256^K) (hb:b.natAbs<256^K):(a* b).natAbs<256^(K+K):=by
 rw [Int.natAbs_mul,Nat.pow_add];exact Nat.mul_lt_mul'' ha hb
theorem we {K:Nat} {a b c d:Int} (ha:a.natAbs<256^K) (hb:b.natAbs<256^K) (hc:c.natAbs<256^K) (hd:d.natAbs<256^K):(a* b+c* d).natAbs<256^(K+K+1):=by
 have h1:=xj ha hb
 have h2:=xj hc hd
 have h3:=Int.natAbs_add_le (a* b) (c* d)
 rw [Nat.pow_succ]
 omega
theorem ax.Fit.add {K:Nat} {x y:ax} (hx:x.Fit K) (hy:y.Fit K):(x.tS y).Fit (K+K+1):=by
 obtain ⟨⟨⟨a1,b1⟩,c1,d1⟩,n1⟩:=hx
 obtain ⟨⟨⟨a2,b2⟩,c2,d2⟩,n2⟩:=hy
 refine ⟨⟨⟨we a1 n2 a2 n1,we b1 n2 b2 n1⟩,we c1 n2 c2 n1,we d1 n2 d2 n1⟩, ?_⟩
 have:=xj n1 n2
 rw [Nat.pow_succ]
 show (x.n* y.n).natAbs<_
 omega
theorem KZ (x y:ax) {K:Nat} (hK:K<2^20) (hx:x.Fit K) (hy:y.Fit K) (ox:x.ok=true) (oy:y.ok=true):az P0 102 [.ag x.cells, .ag y.cells] (one (.ag (x.tS y).low.cells)):=by
 have v1:=oL (hx.rY (by omega)).small
 have v2:=oL (hy.rY (by omega)).small
 rw [ox] at v1
 rw [oy] at v2
 have h0:(x.tS y).n≠0:=by
  have:=Int.mul_pos (ax.rO ox) (ax.rO oy)
  show x.n* y.n≠0
  omega
 have sx:=hx.rY (by omega)
 have sy:=hy.rY (by omega)
 have hl:=xd h0 ((hx.add hy).rY (by omega))
 obtain ⟨⟨⟨a1,b1⟩,c1,d1⟩,n1⟩:=hx
 obtain ⟨⟨⟨a2,b2⟩,c2,d2⟩,n2⟩:=hy
 exact ah af OS (by rfl) (U1 5 (aq.of x) (aq.of y) (aq.of (x.tS y).low) (RI.of (x.a* y.n)) (RI.of (y.a* x.n)) (RI.of (x.a* y.n+y.a* x.n)) (RI.of (x.b* y.n)) (RI.of (y.b* x.n)) (RI.of (x.b* y.n+y.b* x.n)) (RI.of (x.c* y.n)) (RI.of (y.c* x.n)) (RI.of (x.c* y.n+y.c* x.n)) (RI.of (x.d* y.n)) (RI.of (y.d* x.n)) (RI.of (x.d* y.n+y.d* x.n)) (RI.of (x.n* y.n)))
  ⟨v1,v2,Nat.le_refl _,rfl,eW sx.1.1.1 sy.2,eW sy.1.1.1 sx.2,mL (kg hK a1 n2) (kg hK a2 n1),rfl,eW sx.1.1.2 sy.2,eW sy.1.1.2 sx.2,mL (kg hK b1 n2) (kg hK b2 n1),rfl,eW sx.1.2.1 sy.2,eW sy.1.2.1 sx.2,mL (kg hK c1 n2) (kg hK c2 n1),rfl,eW sx.1.2.2 sy.2,eW sy.1.2.2 sx.2,mL (kg hK d1 n2) (kg hK d2 n1),rfl,eW sx.2 sy.2,hl,trivial⟩
theorem Bk:aI MD.P t44:=aH (aj (au fun n h=>rq n h) (aj (au fun n h=>oX n h.1 h.2) aE))
theorem Ja:az P0 103 [iv 2] (one (.ag (aq.of (rv 2)).cells)):=ah af Bk (by rfl) (Yl 1 (aq.cw 0) (RI.of 1)) ⟨eD (by decide) (by decide),rfl,jU (by decide) (by decide),trivial⟩
theorem Jb:az P0 103 [iv 3] (one (.ag (aq.of (rv 3)).cells)):=ah af Bk (by rfl) (Ym 1 (aq.cw 0) (RI.of 1)) ⟨eD (by decide) (by decide),rfl,rfl,jU (by decide) (by decide),trivial⟩
theorem Jc:az P0 103 [iv 6] (one (.ag (aq.of (rv 6)).cells)):=ah af Bk (by rfl) (Yn 1 (aq.cw 0) (RI.of 1)) ⟨eD (by decide) (by decide),rfl,rfl,rfl,jU (by decide) (by decide),trivial⟩
theorem Hg:aI MD.P t45:=aH (aj (au fun z _=>Cs z) aE)
theorem HN (x:ax):az P0 115 [.ag x.cells,iv 2] (one (.ag x.l6.cells)):=
 ah af Hg (by rfl) (Uj 5 (aq.of x) (RI.of (-x.c)) (RI.of (-x.d))) ⟨Nat.le_refl _,rfl,rfl,rfl,rfl,rfl,rfl,mZ x.c,rfl,rfl,mZ x.d,rfl,trivial⟩
theorem HM (x:ax):az P0 115 [.ag x.cells,iv 1] (one (.ag x.yN.cells)):=
 ah af Hg (by rfl) (Ui 5 (aq.of x) (RI.of (-x.b)) (RI.of (-x.d))) ⟨Nat.le_refl _,rfl,rfl,rfl,rfl,mZ x.b,rfl,rfl,rfl,rfl,mZ x.d,rfl,trivial⟩
theorem Ml {m n:Nat} {a b:aq} {c:Bool} (h:a.dB b=c):gw MD.P .eql 30 (.tmp m) (.tmp n) (.agg a.vals.toArray) (.agg b.vals.toArray) c:=by subst h;exact oI (by kernel_rfl) (qZ 9996 a b)
theorem EJ {m:Int} {a b:ax} (e:[PV.ag a.cells,iv m]=[PV.ag b.cells,iv m]):a=b:=by
 simp only [List.cons.injEq,and_true,PV.ag.injEq] at e
 exact aX e
theorem Pb (x:ax):L9 [.ag x.cells,iv 2]=some (one (.ag x.l6.cells)):=
 DX (aM (enc:=fun x:ax=>[.ag x.cells,iv 2]) (fun a b e=>by rw [EJ e]) trivial)
theorem Pa (x:ax):L9 [.ag x.cells,iv 1]=some (one (.ag x.yN.cells)):=
 Kc (Bd fun y _ e=>by simp [iv] at e) (aM (enc:=fun x:ax=>[.ag x.cells,iv 1]) (fun a b e=>by rw [EJ e]) trivial)
theorem OT:aI MD.P t46:=aH
 (aj (au fun x h=>nQ x h)
 (aj (au fun n h=>rq n h)
 (aj (au CB)
 (aj (au fun x h=>Ap x h.1 h.2)
 (aj (F5 (au fun x _=>HN x) (au fun x _=>HM x)) aE)))))
def wV (y:ax):ax:=(y.dR y.l6).low
def wU (y:ax):ax:=(wV y).yN
def rj (y:ax):ax:=((wV y).dR (wU y)).low
def Dp (y:ax):ax:=(ax.mk (rj y).n 0 0 0 (rj y).a).low
def Dq (x y:ax):ax:=(x.dR y.l6).low
def Dr (y:ax):ax:=((wU y).dR (Dp y)).low
def zD (x y:ax):ax:=((Dq x y).dR (Dr y)).low
instance (K:Nat) (x:ax):Decidable (x.Fit K):=by unfold ax.Fit;infer_instance
def sr (K:Nat) (x y:ax):Prop:=((x.Fit K∧y.Fit K∧y.l6.Fit K)∧(wV y).Fit K∧(wU y).Fit K∧(ax.mk (rj y).n 0 0 0 (rj y).a).Fit K∧(Dp y).Fit K∧(Dq x y).Fit K∧(Dr y).Fit K)∧((x.ok=true∧y.ok=true)∧y≠ax.cw 0)∧((y.n* y.l6.n≠0∧(wV y).n* (wU y).n≠0)∧(rj y).a≠0∧x.n* y.l6.n≠0∧(wU y).n* (Dp y).n≠0∧(Dq x y).n* (Dr y).n≠0)
instance (K:Nat) (x y:ax):Decidable (sr K x y):=by unfold sr;infer_instance
theorem K3 {K:Nat} (hK:K<2^20) {x y:ax} (h:sr K x y):az P0 104 [.ag x.cells, .ag y.cells] (one (.aG [.ag (zD x y).cells,iv 0])):=by
 obtain ⟨⟨⟨fx,fy,fc⟩,fp,fe,U2,fi,fu,fv⟩,⟨⟨ox,oy⟩,hy⟩,⟨n1,n2⟩,n3,n4,n5,n6⟩:=h
 have v1:=oL (fx.rY (by omega)).small
 have v2:=oL (fy.rY (by omega)).small
 rw [ox] at v1
 rw [oy] at v2
 have ne:(aq.of y).dB (aq.cw 0)=false:=by
  refine Bool.eq_false_iff.2 fun h=>hy ?_
  have e:=congrArg aq.i5 (aq.er.1 h)
  rwa [m8,aq.qi,aq.qi] at e
 exact ah af OT (by rfl) (UY 1 (aq.of x) (aq.of y) (aq.cw 0) (aq.of y.l6) (aq.of (wV y)) (aq.of (wU y)) (aq.of (rj y)) (aq.of (Dp y)) (aq.of (Dq x y)) (aq.of (Dr y)) (aq.of (zD x y)))
  ⟨v1,v2,eD (by decide) (by decide),Ml ne,Pb y,kN hK fy fc n1,Pa (wV y),kN hK fp fe n2,xd (x:=ax.mk (rj y).n 0 0 0 (rj y).a) n3 (U2.rY (by omega)),kN hK fx fc n4,kN hK fe fi n5,kN hK fu fv n6,trivial⟩
def IV:Nat→ax
 |0=>⟨1,0,0,0,1⟩
 |1=>⟨0,1,0,1,1⟩
 |2=>⟨0,0,1,0,1⟩
 |3=>⟨0,1,0,0,1⟩
 |4=>⟨1,0,0,0,1⟩
 |5=>⟨0, -1,0,1,1⟩
 |_=>⟨0,0,0,0,1⟩
def AM:Nat→Int
 |0=>1
 |1=>4
 |2=>2
 |3=>2
 |4=>2
 |5=>4
 |_=>1
theorem Tk:∀k:Fin 7,sr 3 (IV k.val) (ax.cw (AM k.val))∧zD (IV k.val) (ax.cw (AM k.val))=qv k.val:=by decide
end Go.Proofs.YtibbgjafjhcemaaDoor.Cul
namespace Go.Proofs.YtibbgjafjhcemaaDoor.Cul
open Go Go.RowKit
def cU:Nat→Int×Int×Int×Int×Int
 |0=>(1,0,0,0,1)
 |1=>(0,1,0,1,4)
 |2=>(0,0,1,0,2)
 |3=>(0,1,0,0,2)
 |4=>(1,0,0,0,2)
 |5=>(0, -1,0,1,4)
 |_=>(0,0,0,0,1)
def rU (k:Nat):List PV:=[iv (cU k).1,iv (cU k).2.1,iv (cU k).2.2.1,iv (cU k).2.2.2.1,iv (cU k).2.2.2.2]
def tQ:Prop:=∀k:Nat,k≤6→az P0 87 (rU k) (one (.ag (aq.of (qv k)).cells))
noncomputable def N1:List PV→Option RV:=bJ (fun k:Nat=>k≤6) rU (fun k=>one (.ag (aq.of (qv k)).cells))
noncomputable def t47:Cl:=bI [(87,N1)]
theorem X5 (k:Nat) (x:aq):ay MD t47 k 68 [iv 0] [.r (one (.ag x.cells))]=
 some (RV.mk (PV.ag x.cells) none,[aa t47 87 [iv (1:Int),iv (0:Int),iv (0:Int),iv (0:Int),iv (1:Int)] (RV.mk (PV.ag x.cells) none)]):=by kernel_rfl
theorem X6 (k:Nat) (x:aq):ay MD t47 k 68 [iv 1] [.r (one (.ag x.cells))]=
 some (RV.mk (PV.ag x.cells) none,[aa t47 87 [iv (0:Int),iv (1:Int),iv (0:Int),iv (1:Int),iv (4:Int)] (RV.mk (PV.ag x.cells) none)]):=by kernel_rfl
theorem X7 (k:Nat) (x:aq):ay MD t47 k 68 [iv 2] [.r (one (.ag x.cells))]=
 some (RV.mk (PV.ag x.cells) none,[aa t47 87 [iv (0:Int),iv (0:Int),iv (1:Int),iv (0:Int),iv (2:Int)] (RV.mk (PV.ag x.cells) none)]):=by kernel_rfl
theorem X8 (k:Nat) (x:aq):ay MD t47 k 68 [iv 3] [.r (one (.ag x.cells))]=
 some (RV.mk (PV.ag x.cells) none,[aa t47 87 [iv (0:Int),iv (1:Int),iv (0:Int),iv (0:Int),iv (2:Int)] (RV.mk (PV.ag x.cells) none)]):=by kernel_rfl
theorem X9 (k:Nat) (x:aq):ay MD t47 k 68 [iv 4] [.r (one (.ag x.cells))]=
 some (RV.mk (PV.ag x.cells) none,[aa t47 87 [iv (1:Int),iv (0:Int),iv (0:Int),iv (0:Int),iv (2:Int)] (RV.mk (PV.ag x.cells) none)]):=by kernel_rfl
theorem Ya (k:Nat) (x:aq):ay MD t47 k 68 [iv 5] [.r (one (.ag x.cells))]=
 some (RV.mk (PV.ag x.cells) none,[aa t47 87 [iv (0:Int),iv (-1:Int),iv (0:Int),iv (1:Int),iv (4:Int)] (RV.mk (PV.ag x.cells) none)]):=by kernel_rfl
theorem Yb (k:Nat) (x:aq):ay MD t47 k 68 [iv 6] [.r (one (.ag x.cells))]=
 some (RV.mk (PV.ag x.cells) none,[aa t47 87 [iv (0:Int),iv (0:Int),iv (0:Int),iv (0:Int),iv (1:Int)] (RV.mk (PV.ag x.cells) none)]):=by kernel_rfl
theorem On {a b:Nat} (e:rU a=rU b):qv a=qv b:=by
 have h:cU a=cU b:=by
  unfold rU at e
  simp only [List.cons.injEq,and_true] at e
  exact Prod.ext (dA e.1) (Prod.ext (dA e.2.1) (Prod.ext (dA e.2.2.1) (Prod.ext (dA e.2.2.2.1) (dA e.2.2.2.2))))
 have key:∀a b:Fin 7,cU a.val=cU b.val→qv a.val=qv b.val:=by decide
 have m7:∀a,∃c,c<7∧cU a=cU c∧qv a=qv c:=fun a=>by
  rcases Nat.lt_or_ge a 7 with h|h
  · exact ⟨a,h,rfl,rfl⟩
  · obtain ⟨d,rfl⟩:∃d,a=d+7:=⟨a - 7,by omega⟩
    exact ⟨6,by omega,rfl,rfl⟩
 obtain ⟨c,hc,e1,e2⟩:=m7 a
 obtain ⟨d,hd,e3,e4⟩:=m7 b
 rw [e2,e4]
 exact key ⟨c,hc⟩ ⟨d,hd⟩ (by show cU c=cU d;rw [←e1,←e3,h])
theorem kL {k:Nat} (h:k≤6):N1 (rU k)=some (one (.ag (aq.of (qv k)).cells)):=
 aM (enc:=rU) (fun a b e=>by rw [On e]) h
theorem nF (hn:tQ):aI MD.P t47:=aH (aj (au fun k h=>hn k h) aE)
theorem D3 (hn:tQ):fm:=by
 intro k hk
 have:k=0∨k=1∨k=2∨k=3∨k=4∨k=5∨k=6:=by omega
 rcases this with rfl|rfl|rfl|rfl|rfl|rfl|rfl
 · exact ah af (nF hn) (by rfl) (X5 1 _) ⟨kL (k:=0) hk,trivial⟩
 · exact ah af (nF hn) (by rfl) (X6 1 _) ⟨kL (k:=1) hk,trivial⟩
 · exact ah af (nF hn) (by rfl) (X7 1 _) ⟨kL (k:=2) hk,trivial⟩
 · exact ah af (nF hn) (by rfl) (X8 1 _) ⟨kL (k:=3) hk,trivial⟩
 · exact ah af (nF hn) (by rfl) (X9 1 _) ⟨kL (k:=4) hk,trivial⟩
 · exact ah af (nF hn) (by rfl) (Ya 1 _) ⟨kL (k:=5) hk,trivial⟩
 · exact ah af (nF hn) (by rfl) (Yb 1 _) ⟨kL (k:=6) hk,trivial⟩
end Go.Proofs.YtibbgjafjhcemaaDoor.Cul
namespace Go.Proofs.YtibbgjafjhcemaaDoor.Cul
open Go Go.RowKit Go.ChangeMaps Go.MapKept Go.WideShapes
noncomputable abbrev PM:Program:=Go.Proofs.Tryd.prog
section
variable {a:Act} {w:World} {K:Act→World→Prop} {Q:Exit→Act→World→Prop}
theorem Bn:PM.underlying 116=some (.map 3 3):=by kernel_rfl
theorem Hs:PM.underlying 3=some (.int .i64):=by kernel_rfl
theorem Eu {o:Oper} (ho:o.op= .makeMap 116 none) (h:K (a.put o.dst (.map (some w.heap.size))) (w.alloc (.map #[] 0))):o.wp PM a w K Q:=by
 unfold Oper.wp
 have e:(execOp a.eval o).run PM w= .ok (.value (.map (some w.heap.size))) (w.alloc (.map #[] 0)):=by
  unfold execOp
  simp only [ho]
  rfl
 rw [e];exact h
theorem Jw {o:Oper} {x:Operand} {m:Nat} {es:Array MapEntry} {clock:Nat} (ho:o.op= .range 116 x) (hx:a.eval x= .map (some m)) (hm:w.heap[m]? =some (.map es clock)) (h:K (a.put o.dst (.pointer (some ⟨w.heap.size,0,none⟩))) (w.alloc (.mapIter (some m) clock #[] clock))):o.wp PM a w K Q:=by
 have e:=run_range_map (P:=PM) w 116 3 3 m es clock Bn hm
 unfold Oper.wp
 simp [execOp,ho,hx,e,Result.andThen]
 exact h
theorem LQ {o:Oper} {x:Operand} {r m since c0 clock:Nat} {seen:Array Nat} {es:Array MapEntry} (ho:o.op= .next x false) (hx:a.eval x= .pointer (some ⟨r,0,none⟩)) (hr:w.heap[r]? =some (.mapIter (some m) since seen c0)) (hb:w.heap[m]? =some (.map es clock)) (hold:∀x∈es.toList,x.born<since) (hsc:since≤c0)
  (hDone:(leftOf es seen).size=0→K (a.put o.dst (.tuple #[.bool false])) w)
  (hMore:∀e∈(leftOf es seen).toList,∀w1:World,(w1=w∨w1=w.drew)→K (a.put o.dst (.tuple #[.bool true,e.key,e.val])) (setBlock w1 r (.mapIter (some m) since (seen.push e.born) clock))):o.wp PM a w K Q:=by
 unfold Oper.wp
 rcases run_next_at (P:=PM) w o.type r m since c0 seen es clock hr hb hold hsc with ⟨h0,hrun⟩|⟨e,he,w1,hw1,hrun⟩
 · simp [execOp,ho,hx,hrun,Result.andThen]
   exact hDone h0
 · simp [execOp,ho,hx,hrun,Result.andThen]
   exact hMore e he w1 hw1
theorem Jv {o:Oper} {x:Operand} {r m since clock:Nat} {seen:Array Nat} {es:Array MapEntry} {e:MapEntry} (ho:o.op= .entry x) (hx:a.eval x= .pointer (some ⟨r,0,none⟩)) (hr:w.heap[r]? =some (.mapIter (some m) since (seen.push e.born) clock)) (hb:w.heap[m]? =some (.map es clock)) (he:e∈es.toList) (hn:(es.toList.map (·.born)).Nodup)
  (h:K (a.put o.dst (.tuple #[e.key,e.val])) w):o.wp PM a w K Q:=by
 have hrun:=run_entry_at (P:=PM) w r m since seen es clock e hr hb he hn
 unfold Oper.wp
 simp [execOp,ho,hx,hrun,Result.andThen]
 exact h
theorem LG {m clock:Nat} {es:Array MapEntry} {x:Int} {val:Value} (hb:w.heap[m]? =some (.map es clock)) (hf:Instr.findNow (.int .i64) (.int .i64 x) es.toList 0=some none):
  (Instr.mapUpdate 116 (.map (some m)) (.int .i64 x) val).run PM w= .ok () { w with heap:=w.heap.setIfInBounds m (.map (es.push { key:= .int .i64 x,val:=val,born:=clock}) (clock+1))}:=by
 have hc:(Instr.checkKey false 10000 3 (.int .i64 x)).run PM w= .ok () w:=MapKept.run_checkKey Hs (by simp [MapKept.IsKey]) false 9999
 simp [Instr.mapUpdate,run_underlying Bn,MapKept.run_getObj_map hb,hc,MapKept.run_findKey Hs hf,MapKept.run_setObj_map _ hb,Result.andThen]
theorem sk {o:Oper} {y z v:Operand} {m clock:Nat} {es:Array MapEntry} {x:Int} {val:Value} (ho:o.op= .insert 116 y z v) (hy:a.eval y= .map (some m)) (hz:a.eval z= .int .i64 x) (hv:a.eval v=val) (hb:w.heap[m]? =some (.map es clock)) (hf:Instr.findNow (.int .i64) (.int .i64 x) es.toList 0=some none)
  (h:K (a.put o.dst (.tuple #[])) { w with heap:=w.heap.setIfInBounds m (.map (es.push { key:= .int .i64 x,val:=val,born:=clock}) (clock+1))}):o.wp PM a w K Q:=by
 have e:=LG (x:=x) (val:=val) hb hf
 unfold Oper.wp
 simp [execOp,ho,hy,hz,hv,e,Result.andThen]
 exact h
end
end Go.Proofs.YtibbgjafjhcemaaDoor.Cul
namespace Go.Proofs.YtibbgjafjhcemaaDoor.Cul
open Go Go.RowKit
section
variable {aS:ew} {P:Program} {base:Nat} {w w' w0:World} {Pr aD aN:aC} {bk aQ:Key→Nat} {st cR s2:St} {a a':Act} {N m:Nat}
theorem Good.toP (G:Good base w0 aN N aS st a w):fj base w0 aN N aS (fun _ _=>False) st a w:=by
 obtain ⟨Pr,bk,I,h1,h2,h3,h4,h5,h6⟩:=G
 exact ⟨Pr,bk,I,h1,h2,h3,h4,h5,h6,fun _ _ h=>h.elim⟩
theorem Good.de (hds:aS.ds=some []) (qG:base≤w0.heap.size) (G:Good base w0 aN N aS st a w) {l:Nat} {o o':Obj} (hl:w0.heap.size≤l) (ho:w.heap[l]? =some o) (hc:o.isCells=false):Good base w0 aN N aS st a (w.putObj l o'):=
 (fj.de hds (fun d hd=>by simp at hd) qG G.toP hl ho hc).good
theorem Good.grow (qG:base≤w0.heap.size) (G:Good base w0 aN N aS st a w) (hg:w.grownBy w' none):Good base w0 aN N aS st a w':=
 (fj.grow qG G.toP hg).good
theorem BA {v:Value}:dy base w Pr bk st a { v:= .dead} v:=
 ⟨fun _ _=>trivial,fun _ _ _ h=>by simp at h,fun z h=>by simp at h,fun q h=>by simp at h⟩
theorem Good.mG (G:Good base w0 aN N aS st a w) {d:Nat} (hd:d<N) (hp:aS.k d=none) (v:Value):Good base w0 aN N aS (st.put (some d) .dead) (a.put (some d) v) w:=by
 obtain ⟨Pr,bk,I,h1,h2,h3,h4,h5,h6⟩:=G
 rw [eV]
 obtain ⟨aQ,I',hbk⟩:=I.iC hd (BA (v:=v))
 exact ⟨Pr,aQ,I',h1,h2,h3,fun k b e=>(hbk k).trans (h4 k b e),h5,fun ds e=>h6 ds e⟩
theorem Good.mh (G:Good base w0 aN N aS st a w) {d:Nat} (hd:d<N) (hp:aS.k d=none) {p:PV} {v:Value} (hr:∀Pr,Rp w Pr p v):Good base w0 aN N aS (st.put (some d) (.pv p)) (a.put (some d) v) w:=by
 obtain ⟨Pr,bk,I,h1,h2,h3,h4,h5,h6⟩:=G
 rw [eV]
 obtain ⟨aQ,I',hbk⟩:=I.iC hd (bA (hr Pr))
 exact ⟨Pr,aQ,I',h1,h2,h3,fun k b e=>(hbk k).trans (h4 k b e),h5,fun ds e=>h6 ds e⟩
theorem lB {call:Cl} {it:Nat→List PV→Option (Nat×List (List PV))} (hC:aI P call) (hI:mJ P it) (hm:P.follows .mixedOrders=true) (note:Nat→fD) (k:Nat) (c:Code) (hok:bR N c=true) {F:Fence} (E:iG F) (n:Nat) (hfl:flat c=true) (fo:∀d∈dstsOf c,aS.k d=none)
  (G:Good base w0 aN N aS st a w) (qG:base≤w.heap.size) {x:Xt} (h:cW P call it (fun g=>bg g k) note c st=some (x,s2)) {Q:Exit→Act→World→Prop} (hQ:∀a' w',Good base w0 aN N aS s2 a' w'→KO w w'→Q (toExit x) a' w'):c.wpIn F n P Q a w:=by
 obtain ⟨Pr,bk,I,h1,h2,h3,h4,h5,h6⟩:=G
 refine gx hC hI hm note k c hok F E n w Pr aS (.inl hfl) fo st a w x s2 ⟨Pr,bk,I,Below.refl _ _,fun _ _ _ h=>h,KO.refl _,h4,fun _ _ _ e1 e2=>⟨e1,e2⟩,h6⟩ h Q fun a' w' G'=> ?_
 obtain ⟨aD,aQ,I',k1,k2,k3,k4,k5,k6⟩:=G'
 exact hQ a' w' ⟨aD,aQ,I',h1.trans k1,fun b o hlt h=>h2 b o hlt (k2 b o hlt h),h3.trans k3,k4,fun b o v e1 e2=>by
  obtain ⟨e3,e4⟩:=h5 b o v e1 e2
  exact k5 b o v e3 e4,k6⟩ k3
theorem Good.known {d b:Nat} (G:Good base w0 aN N aS st a w) (dj:look st.bx d=none) (hv:a.tmps[d]? =some (.pointer (some ⟨b,0,none⟩))) (mV:∀t av,look st.sl t=some av→(∃p,av= .pv p)∨(∃j off,av= .bp j off∧j≠d)) (dO:st.gr=[]) (Fy:st.tg=[]):
  Good base w0 aN N ⟨fun j=>if j=d then some b else aS.k j,aS.ds⟩ { st with sl:=(d, .bp d 0)::bH st.sl d} a w:=by
 obtain ⟨Pr,bk,I,h1,h2,h3,h4,h5,h6⟩:=G
 have hlk:∀t,look ((d,AV.bp d 0)::bH st.sl d) t=if d=t then some (.bp d 0) else look st.sl t:=by
  intro t
  simp only [look]
  by_cases h:d=t
  · simp [h]
  · have h2:¬t=d:=fun e=>h e.symm
    simp only [if_neg h,bD,if_neg h2]
 have hkey:∀k:Nat,Key.bx k=Key.bx d→k=d:=fun k e=>by injection e
 have hbk:∀k,k≠d→(if Key.bx k=Key.bx d then b else bk (.bx k))=bk (.bx k):=fun k hk=>if_neg fun e=>hk (hkey k e)
 have bU:∀x,live ({ st with sl:=(d, .bp d 0)::bH st.sl d}:St) x→∃k,x= .bx k∧k≠d∧live st (.bx k):=by
  intro x hx
  cases x with
  |bx k=>
   refine ⟨k,rfl,fun e=> ?_,hx⟩
   obtain ⟨cs,hc⟩:=hx
   subst e
   have zS:look st.bx k=some cs:=hc
   rw [dj] at zS;simp at zS
  |sx t=>
   rcases hx with ⟨sz,n,cs,hx⟩|hx
   · have hx':look ((d,AV.bp d 0)::bH st.sl d) t=some (.ex sz n cs):=hx
     rw [hlk] at hx'
     split at hx'
     · simp at hx'
     · rcases mV t _ hx' with ⟨p,e⟩|⟨j,off,e,_⟩<;>simp at e
   · obtain ⟨z,hx⟩:=hx
     have hx':aJ st.gr (.s t)=some z:=hx
     rw [dO] at hx';simp [aJ] at hx'
  |cx k o=>
   obtain ⟨z,hx⟩:=hx
   have hx':aJ st.gr (.c k o)=some z:=hx
   rw [dO] at hx';simp [aJ] at hx'
 refine ⟨Pr,fun x=>if x= .bx d then b else bk x,⟨I.size,I.defers,I.hb,I.bL,fun t av h=> ?_,fun x hx=> ?_,fun x y hx hy e=> ?_,fun k cs h=> ?_,fun t z h=> ?_,fun k i z h=> ?_,fun t q h=> ?_⟩,h1,h2,h3,fun k b' e=> ?_,h5,h6⟩
 · have h':look ((d,AV.bp d 0)::bH st.sl d) t=some av:=h
   rw [hlk] at h'
   split at h'
   · rename_i e
     simp only [Option.some.injEq] at h'
     subst e h'
     exact ⟨_,hv,by show _=Value.pointer (some ⟨if Key.bx d=Key.bx d then b else _,0,none⟩);rw [if_pos rfl]⟩
   · obtain ⟨v,e1,e2⟩:=I.slots t av h'
     refine ⟨v,e1, ?_⟩
     rcases mV t av h' with ⟨p,rfl⟩|⟨j,off,rfl,hj⟩
     · exact e2
     · show v= .pointer (some ⟨if Key.bx j=Key.bx d then b else bk (.bx j),off,none⟩)
       rw [hbk j hj];exact e2
 · obtain ⟨k,rfl,hk,hl⟩:=bU x hx
   show base≤(if Key.bx k=Key.bx d then b else bk (.bx k))∧(if Key.bx k=Key.bx d then b else bk (.bx k))<_
   rw [hbk k hk];exact I.own _ hl
 · obtain ⟨k,rfl,hk,hl⟩:=bU x hx
   obtain ⟨k2,rfl,hk2,mT⟩:=bU y hy
   have e':(if Key.bx k=Key.bx d then b else bk (.bx k))=(if Key.bx k2=Key.bx d then b else bk (.bx k2)):=e
   rw [hbk k hk,hbk k2 hk2] at e'
   exact I.inj _ _ hl mT e'
 · have h':look st.bx k=some cs:=h
   have hk:k≠d:=fun e=>by subst e;rw [dj] at h';simp at h'
   have:=I.boxes k cs h'
   show (∃T c vs,w.heap[if Key.bx k=Key.bx d then b else bk (.bx k)]? =_∧_)∧∀o,¬Pr (if Key.bx k=Key.bx d then b else bk (.bx k)) o
   rw [hbk k hk];exact this
 · have h':aJ st.gr (.s t)=some z:=h
   rw [dO] at h';simp [aJ] at h'
 · have h':aJ st.gr (.c k i)=some z:=h
   rw [dO] at h';simp [aJ] at h'
 · have h':look st.tg t=some (some q):=h
   rw [Fy] at h';simp [look] at h'
 · show (if Key.bx k=Key.bx d then b else bk (.bx k))=b'
   have e':(if k=d then some b else aS.k k)=some b':=e
   by_cases hk:k=d
   · rw [if_pos hk] at e'
     rw [if_pos (by rw [hk])]
     simpa using e'
   · rw [if_neg hk] at e'
     rw [hbk k hk];exact h4 k b' e'
end
end Go.Proofs.YtibbgjafjhcemaaDoor.Cul
namespace Go.Proofs.YtibbgjafjhcemaaDoor.Cul
open Go Go.RowKit
def cA:Code→Code
 | .seq a _=>a
 | .cond _ a _=>a
 | .block _ c=>c
 | .loop c=>c
 |c=>c
def cB:Code→Code
 | .seq _ b=>b
 | .cond _ _ b=>b
 |c=>c
noncomputable abbrev n0:Code:=uK 87
noncomputable abbrev n1:Code:=cB n0
noncomputable abbrev n2:Code:=cB n1
noncomputable abbrev n3:Code:=cB n2
noncomputable abbrev n4:Code:=cB n3
noncomputable abbrev n5:Code:=cB n4
theorem Sj:n0= .seq (cA n0) n1:=by kernel_rfl
theorem Sk:n1= .seq (cA n1) n2:=by kernel_rfl
theorem Sl:n2= .seq (cA n2) n3:=by kernel_rfl
theorem Sn:n3= .seq (cA n3) n4:=by kernel_rfl
theorem So:n4= .seq (cA n4) n5:=by kernel_rfl
theorem Sh:n5= .ret:=by kernel_rfl
theorem Sf:cA n2= .seq (cA (cA n2)) (cB (cA n2)):=by kernel_rfl
theorem NY:cB (cA n2)= .block 0 (cA (cB (cA n2))):=by kernel_rfl
theorem Pz:cA (cB (cA n2))= .loop (cA (cA (cB (cA n2)))):=by kernel_rfl
noncomputable abbrev nl:Code:=cA (cA (cB (cA n2)))
theorem Xx:nl= .seq (cA nl) (cB nl):=by kernel_rfl
theorem QM:cB nl= .seq (cA (cB nl)) (cB (cB nl)):=by kernel_rfl
theorem QN:cA (cB nl)= .cond (.tmp 23) .skip (.exit 0):=by kernel_rfl
theorem Xy:cB (cB nl)= .block 1 (cA (cB (cB nl))):=by kernel_rfl
theorem Xz:cA (cB (cB nl))= .seq (cA (cA (cB (cB nl)))) (cB (cA (cB (cB nl)))):=by kernel_rfl
end Go.Proofs.YtibbgjafjhcemaaDoor.Cul
namespace Go.Proofs.YtibbgjafjhcemaaDoor.Cul
open Go Go.RowKit
noncomputable def Qc:List PV→Option RV:=bJ (fun p:ax×ax=>(∃K,K<2^20∧p.1.Fit K∧p.2.Fit K)∧p.1.ok=true∧p.2.ok=true) (fun p=>[.ag p.1.cells, .ag p.2.cells]) (fun p=>one (.ag (p.1.tS p.2).low.cells))
noncomputable def QV:List PV→Option RV:=bJ (fun c:Nat=>c=2∨c=3∨c=6) (fun c=>[iv c]) (fun c=>one (.ag (aq.of (rv c)).cells))
noncomputable def Qd:List PV→Option RV:=bJ (fun p:ax×ax=>sr 3 p.1 p.2) (fun p=>[.ag p.1.cells, .ag p.2.cells]) (fun p=>one (.aG [.ag (zD p.1 p.2).cells,iv 0]))
noncomputable def tn:Cl:=bI [(44,um),(45,Mr),(102,Qc),(103,QV),(104,Qd)]
theorem Sq (k:Nat) (a b c d e:Int):cX MD.P tn MD.iter k (MD.note 87) (cA n0) (St.enter [iv a,iv b,iv c,iv d,iv e]) []=
 some ((Xt.normal,St.mk [(0,AV.pv (iv a)),(1,AV.pv (iv b)),(2,AV.pv (iv c)),(3,AV.pv (iv d)),(4,AV.pv (iv e)),(10,AV.bp 10 0)] [(10,[bv false,sv (ByteArray.mk #[]),bv false,sv (ByteArray.mk #[]),bv false,sv (ByteArray.mk #[]),bv false,sv (ByteArray.mk #[]),bv false,sv (ByteArray.mk #[])])] [] []),[],[]):=by kernel_rfl
theorem Sr (k:Nat) (a b c d e:Int) (u x:aq):cX MD.P tn MD.iter k (MD.note 87) (cA n1) ⟨[(0, .pv (iv a)),(1, .pv (iv b)),(2, .pv (iv c)),(3, .pv (iv d)),(4, .pv (iv e)),(10, .bp 10 0)],[(10,u.cells)],[],[]⟩ [.r (one (.ag x.cells))]=
 some ((Xt.normal,St.mk [(1,AV.pv (iv b)),(2,AV.pv (iv c)),(3,AV.pv (iv d)),(4,AV.pv (iv e)),(10,AV.bp 10 0),(11,AV.bp 11 0)] [(10,u.cells),(11,x.cells)] [] []),[],[aa tn 44 [iv a] (RV.mk (PV.ag x.cells) none)]):=by kernel_rfl
theorem Ss (k:Nat) (e key v:Int) (u x y z p s:aq):cX MD.P tn MD.iter k (MD.note 87) (cB (cA (cB (cB nl)))) ⟨[(4, .pv (iv e)),(10, .bp 10 0),(11, .bp 11 0),(12, .pv (iv key)),(13, .pv (iv v)),(21, .bp 21 0)],[(10,u.cells),(11,x.cells)],[],[]⟩ [.r (one (.ag y.cells)), .r (one (.ag z.cells)), .r (one (.ag p.cells)), .r (one (.ag s.cells))]=
 some ((Xt.normal,St.mk [(4,AV.pv (iv e)),(10,AV.bp 10 0),(11,AV.bp 11 0),(21,AV.bp 21 0)] [(10,u.cells),(11,s.cells)] [] []),[],[aa tn 44 [iv v] (RV.mk (PV.ag y.cells) none),aa tn 103 [iv key] (RV.mk (PV.ag z.cells) none),aa tn 45 [PV.ag y.cells,PV.ag z.cells] (RV.mk (PV.ag p.cells) none),aa tn 102 [PV.ag x.cells,PV.ag p.cells] (RV.mk (PV.ag s.cells) none)]):=by kernel_rfl
theorem Su (k:Nat) (e:Int) (u x y q:aq):cX MD.P tn MD.iter k (MD.note 87) (cA n3) ⟨[(4, .pv (iv e)),(10, .bp 10 0),(11, .bp 11 0),(21, .bp 21 0)],[(10,u.cells),(11,x.cells)],[],[]⟩ ((List.replicate 3 [El.r (one (.ag y.cells)),El.r (one (.aG [.ag q.cells,iv 0]))]).flatten)=
 some ((Xt.normal,St.mk [(10,AV.bp 10 0),(11,AV.bp 11 0)] [(10,u.cells),(11,q.cells)] [] []),[],[aa tn 44 [iv e] (RV.mk (PV.ag y.cells) none),aa tn 104 [PV.ag x.cells,PV.ag y.cells] (RV.mk (PV.aG [PV.ag q.cells,iv (0:Int)]) none),aa tn 44 [iv e] (RV.mk (PV.ag y.cells) none),aa tn 104 [PV.ag x.cells,PV.ag y.cells] (RV.mk (PV.aG [PV.ag q.cells,iv (0:Int)]) none),aa tn 44 [iv e] (RV.mk (PV.ag y.cells) none),aa tn 104 [PV.ag x.cells,PV.ag y.cells] (RV.mk (PV.aG [PV.ag q.cells,iv (0:Int)]) none),St.mk [(10,AV.bp 10 0),(11,AV.bp 11 0)] [(10,u.cells),(11,q.cells)] [] []=St.mk [(10,AV.bp 10 0),(11,AV.bp 11 0)] [(10,u.cells),(11,q.cells)] [] [],St.mk [(10,AV.bp 10 0),(11,AV.bp 11 0)] [(10,u.cells),(11,q.cells)] [] []=St.mk [(10,AV.bp 10 0),(11,AV.bp 11 0)] [(10,u.cells),(11,q.cells)] [] [],St.mk [(10,AV.bp 10 0),(11,AV.bp 11 0)] [(10,u.cells),(11,q.cells)] [] []=St.mk [(10,AV.bp 10 0),(11,AV.bp 11 0)] [(10,u.cells),(11,q.cells)] [] [],St.mk [(10,AV.bp 10 0),(11,AV.bp 11 0)] [(10,u.cells),(11,q.cells)] [] []=St.mk [(10,AV.bp 10 0),(11,AV.bp 11 0)] [(10,u.cells),(11,q.cells)] [] [],St.mk [(10,AV.bp 10 0),(11,AV.bp 11 0)] [(10,u.cells),(11,q.cells)] [] []=St.mk [(10,AV.bp 10 0),(11,AV.bp 11 0)] [(10,u.cells),(11,q.cells)] [] [],St.mk [(10,AV.bp 10 0),(11,AV.bp 11 0)] [(10,u.cells),(11,q.cells)] [] []=St.mk [(10,AV.bp 10 0),(11,AV.bp 11 0)] [(10,u.cells),(11,q.cells)] [] [],St.mk [(10,AV.bp 10 0),(11,AV.bp 11 0)] [(10,u.cells),(11,q.cells)] [] []=St.mk [(10,AV.bp 10 0),(11,AV.bp 11 0)] [(10,u.cells),(11,q.cells)] [] [],St.mk [(10,AV.bp 10 0),(11,AV.bp 11 0)] [(10,u.cells),(11,q.cells)] [] []=St.mk [(10,AV.bp 10 0),(11,AV.bp 11 0)] [(10,u.cells),(11,q.cells)] [] []]):=by kernel_rfl
theorem Sv (k:Nat) (u x:aq):cX MD.P tn MD.iter k (MD.note 87) (cA n4) ⟨[(10, .bp 10 0),(11, .bp 11 0)],[(10,u.cells),(11,x.cells)],[],[]⟩ []=
 some ((Xt.normal,St.mk [(10,AV.bp 10 0)] [(10,x.cells)] [] []),[],[]):=by kernel_rfl
end Go.Proofs.YtibbgjafjhcemaaDoor.Cul
namespace Go.Proofs.YtibbgjafjhcemaaDoor.Cul
open Go Go.RowKit Go.ChangeMaps
theorem Mo {x y:ax} {K:Nat} (hK:K<2^20) (hx:x.Fit K) (hy:y.Fit K) (ox:x.ok=true) (oy:y.ok=true):Qc [.ag x.cells, .ag y.cells]=some (one (.ag (x.tS y).low.cells)):=
 aM (enc:=fun p:ax×ax=>[.ag p.1.cells, .ag p.2.cells]) (a:=(x,y)) (fun a b e=>by
  simp only [List.cons.injEq,and_true,PV.ag.injEq] at e
  rw [aX e.1,aX e.2]) ⟨⟨K,hK,hx,hy⟩,ox,oy⟩
theorem OA {c:Nat} (h:c=2∨c=3∨c=6):QV [iv c]=some (one (.ag (aq.of (rv c)).cells)):=
 aM (enc:=fun c:Nat=>[iv c]) (fun a b e=>by
  simp only [List.cons.injEq,and_true] at e
  have:=dA e
  have e2:a=b:=by omega
  rw [e2]) h
theorem Mp {x y:ax} (h:sr 3 x y):Qd [.ag x.cells, .ag y.cells]=some (one (.aG [.ag (zD x y).cells,iv 0])):=
 aM (enc:=fun p:ax×ax=>[.ag p.1.cells, .ag p.2.cells]) (a:=(x,y)) (fun a b e=>by
  simp only [List.cons.injEq,and_true,PV.ag.injEq] at e
  rw [aX e.1,aX e.2]) h
theorem wz:aI MD.P tn:=aH
 (aj (au fun n h=>rq n h)
 (aj (au fun p h=>by obtain ⟨⟨K,hK,hx,hy⟩,ox,oy⟩:=h;exact Cd p.1 p.2 hK hx hy ox oy)
 (aj (au fun p h=>by obtain ⟨⟨K,hK,hx,hy⟩,ox,oy⟩:=h;exact KZ p.1 p.2 hK hx hy ox oy)
 (aj (au fun c h=>by
  rcases h with rfl|rfl|rfl
  · exact Ja
  · exact Jb
  · exact Jc)
 (aj (au fun p h=>K3 (by decide) h) aE)))))
def iH (k:Nat) (s:Bool×Bool×Bool):ax:=⟨(cU k).1,if s.1 then (cU k).2.1 else 0,if s.2.1 then (cU k).2.2.1 else 0,if s.2.2 then (cU k).2.2.2.1 else 0,1⟩
def iq:Nat→Nat
 |0=>2
 |1=>3
 |_=>6
def dx (k:Nat):Nat→Int
 |0=>(cU k).2.1
 |1=>(cU k).2.2.1
 |_=>(cU k).2.2.2.1
def qz (s:Bool×Bool×Bool):Nat→Bool×Bool×Bool
 |0=>(true,s.2)
 |1=>(s.1,true,s.2.2)
 |_=>(s.1,s.2.1,true)
def kH (s:Bool×Bool×Bool):Nat→Bool
 |0=>s.1
 |1=>s.2.1
 |_=>s.2.2
def yT (k i:Nat):ax:=((ax.cw (dx k i)).dR (rv (iq i))).low
theorem HB:∀(k:Fin 7) (a b c:Bool) (i:Fin 3),kH (a,b,c) i.val=false→
 ((iH k.val (a,b,c)).Fit 1∧(yT k.val i.val).Fit 1∧(iH k.val (a,b,c)).ok=true∧(yT k.val i.val).ok=true∧((iH k.val (a,b,c)).tS (yT k.val i.val)).low=iH k.val (qz (a,b,c) i.val))∧
 (ax.cw (dx k.val i.val)).Fit 1∧(rv (iq i.val)).Fit 1∧(ax.cw (dx k.val i.val)).ok=true∧(rv (iq i.val)).ok=true∧ -(2^63)≤dx k.val i.val∧dx k.val i.val<2^63:=by decide+kernel
theorem KL:∀k:Fin 7,iH k.val (true,true,true)=IV k.val∧(cU k.val).2.2.2.2=AM k.val∧ -(2^63)≤AM k.val∧AM k.val<2^63∧iH k.val (false,false,false)=ax.cw (cU k.val).1∧ -(2^63)≤(cU k.val).1∧(cU k.val).1<2^63:=by decide+kernel
end Go.Proofs.YtibbgjafjhcemaaDoor.Cul
namespace Go.Proofs.YtibbgjafjhcemaaDoor.Cul
open Go Go.RowKit Go.ChangeMaps
def opsL:Code→List Oper
 | .region _ ops _=>ops.toList
 |_=>[]
section
variable {a:Act} {w w0:World} {K:Act→World→Prop} {Q:Exit→Act→World→Prop} {base N:Nat} {aN:aC} {aS:ew} {st:St} {F:Fence} {n:Nat}
theorem Bq {o:Oper} {v:Value} (h:(execOp a.eval o).run PM w= .ok (.value v) w) (hK:K (a.put o.dst v) w):o.wp PM a w K Q:=by
 unfold Oper.wp
 rw [h]
 exact hK
theorem wp_move {o:Oper} {x:Operand} {v:Value} (ho:o.op= .move x) (hx:a.eval x=v) (hK:K (a.put o.dst v) w):o.wp PM a w K Q:=
 Bq (by simp [execOp,ho,hx]) hK
theorem wp_assign {o:Oper} {x:Operand} {v:Value} (ho:o.op= .assign x) (hx:a.eval x=v) (hK:K (a.put o.dst v) w):o.wp PM a w K Q:=
 Bq (by simp [execOp,ho,hx]) hK
theorem mA {o:Oper} {x:Operand} {i:Nat} {vs:Array Value} {v:Value} (ho:o.op= .extract x i) (hx:a.eval x= .tuple vs) (hv:vs[i]? =some v) (hK:K (a.put o.dst v) w):o.wp PM a w K Q:=
 Bq (by simp [execOp,ho,hx,Instr.extract,hv]) hK
theorem dQ {ops:Array Oper} {o:Oper} {rest:List Oper} (E:iG F) (hg:o.guard=none) (rD:∀c,o.op≠ .defer c) (h:∀K:Act→World→Prop,(∀a w,wpListIn F n PM ops Q rest a w→K a w)→o.wp PM a w K Q):wpListIn F n PM ops Q (o::rest) a w:=
 wpListIn_plain hg fun K hK=>mE E rD (h K hK)
theorem eval_put {d t:Nat} {v:Value} (h:d<a.tmps.size):(a.put (some d) v).eval (.tmp t)=if t=d then v else a.eval (.tmp t):=by
 simp only [Act.put,Act.eval,Array.getD_eq_getD_getElem?]
 by_cases e:t=d
 · subst e;simp [h]
 · have e2:¬d=t:=fun x=>e x.symm
   simp [e,e2]
theorem Good.len (G:Good base w0 aN N aS st a w):a.tmps.size=N:=by
 obtain ⟨Pr,bk,I,_⟩:=G
 exact I.size
theorem Good.ge (G:Good base w0 aN N aS st a w):w0.heap.size≤w.heap.size:=by
 obtain ⟨Pr,bk,I,h,_⟩:=G
 exact h.size
theorem Good.nt (G:Good base w0 aN N aS st a w) {d t:Nat} {v:Value} (h:d<N) (ht:t≠d):(a.put (some d) v).eval (.tmp t)=a.eval (.tmp t):=by
 rw [eval_put (by rw [G.len];exact h),if_neg ht]
theorem Good.kP (G:Good base w0 aN N aS st a w) {d:Nat} {v:Value} (h:d<N):(a.put (some d) v).eval (.tmp d)=v:=by
 rw [eval_put (by rw [G.len];exact h),if_pos rfl]
theorem Good.pinned (G:Good base w0 aN N aS st a w) {d r:Nat} (hl:look st.sl d=some (.bp d 0)) (hp:aS.k d=some r):a.eval (.tmp d)= .pointer (some ⟨r,0,none⟩):=by
 obtain ⟨Pr,bk,I,_,_,_,h4,_⟩:=G
 obtain ⟨v,e1,e2⟩:=I.slots d _ hl
 have e3:v= .pointer (some ⟨bk (.bx d),0,none⟩):=e2
 rw [gU e1,e3,h4 d r hp]
end
theorem Jp {a:Act} {d:Nat} {v:Value} (h:d<a.tmps.size):(a.put (some d) v).tmps[d]? =some v:=by
 simp [Act.put,h]
def cI (k:Nat) (i:Nat):MapEntry:={ key:= .int .i64 (iq i:Nat),val:= .int .i64 (dx k i),born:=i}
def jk (k:Nat):Array MapEntry:= #[cI k 0,cI k 1,cI k 2]
theorem sO {h:Array Obj} {m:Nat} {o o':Obj} (e:h[m]? =some o):(h.setIfInBounds m o')[m]? =some o':=by
 have:=(Array.getElem?_eq_some_iff.1 e).1
 simp [this]
theorem Db {w:World} {o x:Obj} {j:Nat} (e:w.heap[j]? =some x):(w.alloc o).heap[j]? =some x:=by
 have h:=(Array.getElem?_eq_some_iff.1 e).1
 show (w.heap.push o)[j]? =_
 rw [Array.getElem?_push,if_neg (Nat.ne_of_lt h),e]
theorem GM {h:Array Obj} {m j:Nat} {o':Obj} (e:m≠j):(h.setIfInBounds m o')[j]? =h[j]? :=by
 simp [e]
noncomputable abbrev mo (i:Nat):Oper:=(opsL (cA (cA n2))).getD i default
theorem NT:cA (cA n2)= .region 2 ((List.range 9).map mo).toArray false:=by kernel_rfl
abbrev IJ:ew:=⟨fun _=>none,some []⟩
abbrev gH (r:Nat):ew:=⟨fun j=>if j=21 then some r else none,some []⟩
theorem jV {r d:Nat} (h:d≠21):(gH r).k d=none:=if_neg h
structure uC (w0 w:World) (k m r:Nat) (seen:Array Nat) (s:Bool×Bool×Bool):Prop where
 hm:w0.heap.size≤m
 hr:w0.heap.size≤r
 ne:m≠r
 map:w.heap[m]? =some (.map (jk k) 3)
 it:∃c0,3≤c0∧w.heap[r]? =some (.mapIter (some m) 3 seen c0)
 bits:∀i,i<3→seen.contains i=kH s i
abbrev YM (a b c e:Int) (u x:aq):St:=⟨[(1, .pv (iv a)),(2, .pv (iv b)),(3, .pv (iv c)),(4, .pv (iv e)),(10, .bp 10 0),(11, .bp 11 0)],[(10,u.cells),(11,x.cells)],[],[]⟩
abbrev tJ (e:Int) (u x:aq):St:=⟨[(4, .pv (iv e)),(10, .bp 10 0),(11, .bp 11 0),(21, .bp 21 0)],[(10,u.cells),(11,x.cells)],[],[]⟩
section
variable {a:Act} {w w0:World} {Q:Exit→Act→World→Prop} {base N:Nat} {aN:aC} {F:Fence} {n:Nat}
theorem qq (w:World) (Pr:aC) (x:Int):Rp w Pr (iv x) (.int .i64 x):= .lit rfl
theorem Oo {A:Act} {x5:World} {e:Int} {u x:aq} {st:St} {m r k:Nat} (hst:st.bK [4,10,11]=⟨[(4, .pv (iv e)),(10, .bp 10 0),(11, .bp 11 0)],[(10,u.cells),(11,x.cells)],[],[]⟩) (H6:Good base w0 aN N IJ st A x5) (t6:A.tmps[21]? =some (.pointer (some ⟨r,0,none⟩)))
  (hm:w0.heap.size≤m) (hge:w0.heap.size≤r) (hne:m≠r) (m6:x5.heap[m]? =some (.map (jk k) 3)) (r6:x5.heap[r]? =some (.mapIter (some m) 3 #[] 3))
  (hQ:∀a' w' m r,Good base w0 aN N (gH r) (tJ e u x) a' w'→uC w0 w' k m r #[] (false,false,false)→Q .normal a' w'):Q .normal A x5:=by
 have H8:=H6.bK [4,10,11]
 rw [hst] at H8
 have H7:=H8.known (d:=21) (b:=r) rfl t6 (fun t av h=>by
  simp only [look] at h
  split at h
  · exact .inl ⟨_,(Option.some.inj h).symm⟩
  · split at h
    · exact .inr ⟨10,0,(Option.some.inj h).symm,by decide⟩
    · split at h
      · exact .inr ⟨11,0,(Option.some.inj h).symm,by decide⟩
      · simp at h) rfl rfl
 refine hQ _ _ m r (H7.bK [4,10,11,21]) { hm:=hm,hr:=hge,ne:=hne,map:=m6,it:=⟨3,Nat.le_refl _,r6⟩,bits:=fun i hi=> ?_}
 have:i=0∨i=1∨i=2:=by omega
 rcases this with rfl|rfl|rfl<;>simp [kH]
theorem PC (E:iG F) (hb:base≤w0.heap.size) (hN:42≤N) (k:Nat) {e:Int} {u x:aq} (G:Good base w0 aN N IJ (YM (dx k 0) (dx k 1) (dx k 2) e u x) a w)
  (hQ:∀a' w' m r,Good base w0 aN N (gH r) (tJ e u x) a' w'→uC w0 w' k m r #[] (false,false,false)→Q .normal a' w'):(cA (cA n2)).wpIn F n PM Q a w:=by
 rw [NT]
 refine wpIn_region_list ?_
 show wpListIn F n PM _ Q [mo 0,mo 1,mo 2,mo 3,mo 4,mo 5,mo 6,mo 7,mo 8] a w
 have v1:a.eval (.tmp 1)= .int .i64 (dx k 0):=G.val (x:= .tmp 1) rfl
 have v2:a.eval (.tmp 2)= .int .i64 (dx k 1):=G.val (x:= .tmp 2) rfl
 have v3:a.eval (.tmp 3)= .int .i64 (dx k 2):=G.val (x:= .tmp 3) rfl
 refine dQ E (by kernel_rfl) (fun c=>by rw [show (mo 0).op= .makeMap 116 none by kernel_rfl];exact Op.noConfusion) fun K0 h0=>Eu (show (mo 0).op= .makeMap 116 none by kernel_rfl) (h0 _ _ ?_)
 rw [show (mo 0).dst=some 16 by kernel_rfl]
 have hm:w0.heap.size≤w.heap.size:=G.ge
 have G0:=(G.grow hb (World.grownBy_alloc w (.map #[] 0) none)).mG (d:=16) (by omega) rfl (.map (some w.heap.size))
 have m0:(w.alloc (.map #[] 0)).heap[w.heap.size]? =some (.map #[] 0):=heap_alloc_new _ _
 have e0:(a.put (some 16) (.map (some w.heap.size))).eval (.tmp 16)= .map (some w.heap.size):=G.kP (by omega)
 generalize hmm:w.heap.size=m at*
 generalize ha0:a.put (some 16) (.map (some m))=a0 at*
 generalize hw0:w.alloc (.map #[] 0)=w1 at*
 refine dQ E (by kernel_rfl) (fun c=>by rw [show (mo 1).op= .move (.tmp 1) by kernel_rfl];exact Op.noConfusion) fun K1 h1=>wp_move (show (mo 1).op= .move (.tmp 1) by kernel_rfl) (G0.val (x:= .tmp 1) rfl) (h1 _ _ ?_)
 rw [show (mo 1).dst=some 17 by kernel_rfl]
 have G1:=G0.mh (d:=17) (p:=iv (dx k 0)) (v:= .int .i64 (dx k 0)) (by omega) rfl (fun Pr=>qq w1 Pr _)
 have e1:=(G0.nt (d:=17) (t:=16) (v:= .int .i64 (dx k 0)) (by omega) (by decide)).trans e0
 generalize Z8:a0.put (some 17) (.int .i64 (dx k 0))=a1 at*
 refine dQ E (by kernel_rfl) (fun c=>by rw [show (mo 2).op= .insert 116 (.tmp 16) (.const (.int .i64 2)) (.tmp 17) by kernel_rfl];exact Op.noConfusion) fun K2 h2=>sk (show (mo 2).op= .insert 116 (.tmp 16) (.const (.int .i64 2)) (.tmp 17) by kernel_rfl) e1 rfl (G1.val (x:= .tmp 17) rfl) m0 rfl (h2 _ _ ?_)
 rw [show (mo 2).dst=none by kernel_rfl,uu]
 have G2:=G1.de rfl hb hm m0 rfl (o':= .map #[cI k 0] 1)
 have m2:(w1.putObj m (.map #[cI k 0] 1)).heap[m]? =some (.map #[cI k 0] 1):=sO m0
 show wpListIn F n PM _ Q [mo 3,mo 4,mo 5,mo 6,mo 7,mo 8] a1 (w1.putObj m (.map #[cI k 0] 1))
 generalize Ae:w1.putObj m (.map #[cI k 0] 1)=w2 at*
 refine dQ E (by kernel_rfl) (fun c=>by rw [show (mo 3).op= .move (.tmp 2) by kernel_rfl];exact Op.noConfusion) fun K1 h1=>wp_move (show (mo 3).op= .move (.tmp 2) by kernel_rfl) (G2.val (x:= .tmp 2) rfl) (h1 _ _ ?_)
 rw [show (mo 3).dst=some 18 by kernel_rfl]
 have H3:=G2.mh (d:=18) (p:=iv (dx k 1)) (v:= .int .i64 (dx k 1)) (by omega) rfl (fun Pr=>qq w2 Pr _)
 have f3:=(G2.nt (d:=18) (t:=16) (v:= .int .i64 (dx k 1)) (by omega) (by decide)).trans e1
 generalize nR:Act.put _ (some 18) (.int .i64 (dx k 1))=b3 at*
 refine dQ E (by kernel_rfl) (fun c=>by rw [show (mo 4).op= .insert 116 (.tmp 16) (.const (.int .i64 3)) (.tmp 18) by kernel_rfl];exact Op.noConfusion) fun K2 h2=>sk (show (mo 4).op= .insert 116 (.tmp 16) (.const (.int .i64 3)) (.tmp 18) by kernel_rfl) f3 rfl (H3.val (x:= .tmp 18) rfl) m2 rfl (h2 _ _ ?_)
 rw [show (mo 4).dst=none by kernel_rfl,uu]
 have J3:=H3.de rfl hb hm m2 rfl (o':= .map #[cI k 0,cI k 1] 2)
 have k3:(w2.putObj m (.map #[cI k 0,cI k 1] 2)).heap[m]? =some (.map #[cI k 0,cI k 1] 2):=sO m2
 show wpListIn F n PM _ Q [mo 5,mo 6,mo 7,mo 8] b3 (w2.putObj m (.map #[cI k 0,cI k 1] 2))
 generalize JV:w2.putObj m (.map #[cI k 0,cI k 1] 2)=x3 at*
 refine dQ E (by kernel_rfl) (fun c=>by rw [show (mo 5).op= .move (.tmp 3) by kernel_rfl];exact Op.noConfusion) fun K1 h1=>wp_move (show (mo 5).op= .move (.tmp 3) by kernel_rfl) (J3.val (x:= .tmp 3) rfl) (h1 _ _ ?_)
 rw [show (mo 5).dst=some 19 by kernel_rfl]
 have H4:=J3.mh (d:=19) (p:=iv (dx k 2)) (v:= .int .i64 (dx k 2)) (by omega) rfl (fun Pr=>qq x3 Pr _)
 have f4:=(J3.nt (d:=19) (t:=16) (v:= .int .i64 (dx k 2)) (by omega) (by decide)).trans f3
 generalize Z9:Act.put _ (some 19) (.int .i64 (dx k 2))=b4 at*
 refine dQ E (by kernel_rfl) (fun c=>by rw [show (mo 6).op= .insert 116 (.tmp 16) (.const (.int .i64 6)) (.tmp 19) by kernel_rfl];exact Op.noConfusion) fun K2 h2=>sk (show (mo 6).op= .insert 116 (.tmp 16) (.const (.int .i64 6)) (.tmp 19) by kernel_rfl) f4 rfl (H4.val (x:= .tmp 19) rfl) k3 rfl (h2 _ _ ?_)
 rw [show (mo 6).dst=none by kernel_rfl,uu]
 have J4:=H4.de rfl hb hm k3 rfl (o':= .map #[cI k 0,cI k 1,cI k 2] 3)
 have k4:(x3.putObj m (.map #[cI k 0,cI k 1,cI k 2] 3)).heap[m]? =some (.map #[cI k 0,cI k 1,cI k 2] 3):=sO k3
 show wpListIn F n PM _ Q [mo 7,mo 8] b4 (x3.putObj m (.map #[cI k 0,cI k 1,cI k 2] 3))
 generalize WG:x3.putObj m (.map #[cI k 0,cI k 1,cI k 2] 3)=x4 at*
 refine dQ E (by kernel_rfl) (fun c=>by rw [show (mo 7).op= .move (.tmp 16) by kernel_rfl];exact Op.noConfusion) fun K1 h1=>wp_move (show (mo 7).op= .move (.tmp 16) by kernel_rfl) f4 (h1 _ _ ?_)
 rw [show (mo 7).dst=some 20 by kernel_rfl]
 have H5:=J4.mG (d:=20) (by omega) rfl (.map (some m))
 have f5:=J4.kP (d:=20) (v:= .map (some m)) (by omega)
 generalize hb5:Act.put _ (some 20) (.map (some m))=b5 at*
 refine dQ E (by kernel_rfl) (fun c=>by rw [show (mo 8).op= .range 116 (.tmp 20) by kernel_rfl];exact Op.noConfusion) fun K2 h2=>Jw (show (mo 8).op= .range 116 (.tmp 20) by kernel_rfl) f5 k4 (h2 _ _ ?_)
 rw [show (mo 8).dst=some 21 by kernel_rfl]
 have hml:m<x4.heap.size:=(Array.getElem?_eq_some_iff.1 k4).1
 have H6:=(H5.grow hb (World.grownBy_alloc x4 (.mapIter (some m) 3 #[] 3) none)).mG (d:=21) (by omega) rfl (.pointer (some ⟨x4.heap.size,0,none⟩))
 have f6:=H5.kP (d:=21) (v:= .pointer (some ⟨x4.heap.size,0,none⟩)) (by omega)
 have r6:(x4.alloc (.mapIter (some m) 3 #[] 3)).heap[x4.heap.size]? =some (.mapIter (some m) 3 #[] 3):=heap_alloc_new _ _
 have m6:(x4.alloc (.mapIter (some m) 3 #[] 3)).heap[m]? =some (.map (jk k) 3):=by
  exact Db k4
 have t6:(b5.put (some 21) (.pointer (some ⟨x4.heap.size,0,none⟩))).tmps[21]? =some (.pointer (some ⟨x4.heap.size,0,none⟩)):=by
  exact Jp (a:=b5) (d:=21) (by rw [H5.len];omega)
 exact wpListIn_nil (Oo (by kernel_rfl) H6 t6 hm H5.ge (Nat.ne_of_lt hml) m6 r6 hQ)
theorem FK {k:Nat} {seen:Array Nat} {s:Bool×Bool×Bool} (hb:∀i,i<3→seen.contains i=kH s i) (h:(leftOf (jk k) seen).size=0):s=(true,true,true):=by
 have key:∀i,i<3→kH s i=true:=by
  intro i hi
  rw [←hb i hi]
  refine Classical.byContradiction fun hn=> ?_
  have hm:cI k i∈leftOf (jk k) seen:=by
   unfold leftOf
   rw [Array.mem_filter]
   refine ⟨?_,by simpa [cI] using hn⟩
   have:i=0∨i=1∨i=2:=by omega
   rcases this with rfl|rfl|rfl<;>simp [jk]
  rw [Array.eq_empty_of_size_eq_zero h] at hm
  simp at hm
 have h0:=key 0 (by decide)
 have h1:=key 1 (by decide)
 have h2:=key 2 (by decide)
 obtain ⟨a,b,c⟩:=s
 simp only [kH] at h0 h1 h2
 rw [h0,h1,h2]
theorem FL {k:Nat} {seen:Array Nat} {s:Bool×Bool×Bool} (hb:∀i,i<3→seen.contains i=kH s i) {e:MapEntry} (h:e∈(leftOf (jk k) seen).toList):∃i,i<3∧e=cI k i∧kH s i=false:=by
 unfold leftOf at h
 have h':e∈(jk k).filter fun e=> !seen.contains e.born:=by simpa using h
 rw [Array.mem_filter] at h'
 obtain ⟨h1,h2⟩:=h'
 have:∃i,i<3∧e=cI k i:=by
  simp only [jk,List.mem_toArray,List.mem_cons,List.not_mem_nil,or_false] at h1
  rcases h1 with rfl|rfl|rfl
  · exact ⟨0,by decide,rfl⟩
  · exact ⟨1,by decide,rfl⟩
  · exact ⟨2,by decide,rfl⟩
 obtain ⟨i,hi,rfl⟩:=this
 refine ⟨i,hi,rfl, ?_⟩
 rw [←hb i hi]
 simpa [cI] using h2
noncomputable abbrev pn (i:Nat):Oper:=(opsL (cA nl)).getD i default
theorem Od:cA nl= .region 3 #[pn 0,pn 1] false:=by kernel_rfl
noncomputable abbrev qn (i:Nat):Oper:=(opsL (cA (cA (cB (cB nl))))).getD i default
theorem Om:cA (cA (cB (cB nl)))= .region 4 #[qn 0,qn 1,qn 2,qn 3,qn 4] false:=by kernel_rfl
theorem PE (E:iG F) (hb:base≤w0.heap.size) (hN:42≤N) {k:Nat} (hk:k<7) {i:Nat} (hi:i<3) {s:Bool×Bool×Bool} (hs:kH s i=false) {r:Nat} {e:Int} {u:aq}
  (G:Good base w0 aN N (gH r) ⟨[(4, .pv (iv e)),(10, .bp 10 0),(11, .bp 11 0),(12, .pv (iv (iq i:Nat))),(13, .pv (iv (dx k i))),(21, .bp 21 0)],[(10,u.cells),(11,(aq.of (iH k s)).cells)],[],[]⟩ a w)
  (hQ:∀a' w',Good base w0 aN N (gH r) (tJ e u (aq.of (iH k (qz s i)))) a' w'→KO w w'→Q .normal a' w'):(cB (cA (cB (cB nl)))).wpIn F n PM Q a w:=by
 obtain ⟨s0,s1,s2⟩:=s
 obtain ⟨⟨f1,f2,o1,o2,e1⟩,f3,f4,o3,o4,b1,b2⟩:=HB ⟨k,hk⟩ s0 s1 s2 ⟨i,hi⟩ hs
 simp only at f1 f2 o1 o2 e1 f3 f4 o3 o4 b1 b2
 have hkey:iq i=2∨iq i=3∨iq i=6:=by
  have:i=0∨i=1∨i=2:=by omega
  rcases this with rfl|rfl|rfl<;>simp [iq]
 have hrun:=ct _ _ _ _ _ _ (Ss 5 e (iq i:Nat) (dx k i) u (aq.of (iH k (s0,s1,s2))) (aq.cw (dx k i)) (aq.of (rv (iq i))) (aq.of (yT k i)) (aq.of (iH k (qz (s0,s1,s2) i))))
  ⟨eD b1 b2,OA hkey,zF (K:=1) (by decide) f3 f4 o3 o4,by rw [←e1];exact Mo (K:=1) (by decide) f1 f2 o1 o2,trivial⟩
 exact lB wz af.kW af.jv _ 5 _ (dh (N:=42) hN (by kernel_rfl)) E n (by kernel_rfl) (fun d hd=>if_neg fun e=>by subst e;exact absurd hd (by decide+kernel)) G (Nat.le_trans hb G.ge) hrun hQ
theorem PD (E:iG F) (hb:base≤w0.heap.size) (hN:42≤N) {k:Nat} {i:Nat} {m r:Nat} {seen:Array Nat} {e:Int} {u x:aq} (hi:i<3)
  (G:Good base w0 aN N (gH r) (tJ e u x) a w) (hm:w.heap[m]? =some (.map (jk k) 3)) (hr:w.heap[r]? =some (.mapIter (some m) 3 (seen.push i) 3))
  (hQ:∀a',Good base w0 aN N (gH r) ⟨[(4, .pv (iv e)),(10, .bp 10 0),(11, .bp 11 0),(12, .pv (iv (iq i:Nat))),(13, .pv (iv (dx k i))),(21, .bp 21 0)],[(10,u.cells),(11,x.cells)],[],[]⟩ a' w→Q .normal a' w):(cA (cA (cB (cB nl)))).wpIn F n PM Q a w:=by
 rw [Om]
 refine wpIn_region_list ?_
 show wpListIn F n PM _ Q [qn 0,qn 1,qn 2,qn 3,qn 4] a w
 have Oc:a.eval (.tmp 21)= .pointer (some ⟨r,0,none⟩):=G.pinned (d:=21) rfl rfl
 have he:cI k i∈(jk k).toList:=by
  have:i=0∨i=1∨i=2:=by omega
  rcases this with rfl|rfl|rfl<;>simp [jk]
 refine dQ E (by kernel_rfl) (fun c=>by rw [show (qn 0).op= .entry (.tmp 21) by kernel_rfl];exact Op.noConfusion) fun K0 h0=>Jv (show (qn 0).op= .entry (.tmp 21) by kernel_rfl) Oc (e:=cI k i) hr hm he (by simp [jk,cI]) (h0 _ _ ?_)
 rw [show (qn 0).dst=some 24 by kernel_rfl]
 have G0:=G.mG (d:=24) (by omega) rfl (.tuple #[(cI k i).key,(cI k i).val])
 have e0:=G.kP (d:=24) (v:= .tuple #[(cI k i).key,(cI k i).val]) (by omega)
 generalize Act.put _ (some 24) _=a0 at*
 refine dQ E (by kernel_rfl) (fun c=>by rw [show (qn 1).op= .extract (.tmp 24) 0 by kernel_rfl];exact Op.noConfusion) fun K1 h1=>mA (show (qn 1).op= .extract (.tmp 24) 0 by kernel_rfl) e0 (v:= .int .i64 ((iq i:Nat))) rfl (h1 _ _ ?_)
 rw [show (qn 1).dst=some 25 by kernel_rfl]
 have G1:=G0.mh (d:=25) (p:=iv ((iq i:Nat))) (v:= .int .i64 ((iq i:Nat))) (by omega) (jV (by decide)) (fun Pr=>qq w Pr _)
 have e1:=(G0.nt (d:=25) (t:=24) (v:= .int .i64 ((iq i:Nat))) (by omega) (by decide)).trans e0
 generalize Act.put _ (some 25) _=b1 at*
 refine dQ E (by kernel_rfl) (fun c=>by rw [show (qn 2).op= .extract (.tmp 24) 1 by kernel_rfl];exact Op.noConfusion) fun K1 h1=>mA (show (qn 2).op= .extract (.tmp 24) 1 by kernel_rfl) e1 (v:= .int .i64 (dx k i)) rfl (h1 _ _ ?_)
 rw [show (qn 2).dst=some 26 by kernel_rfl]
 have G2:=G1.mh (d:=26) (p:=iv (dx k i)) (v:= .int .i64 (dx k i)) (by omega) (jV (by decide)) (fun Pr=>qq w Pr _)
 have e2:=(G1.nt (d:=26) (t:=24) (v:= .int .i64 (dx k i)) (by omega) (by decide)).trans e1
 generalize Act.put _ (some 26) _=b2 at*
 refine dQ E (by kernel_rfl) (fun c=>by rw [show (qn 3).op= .assign (.tmp 25) by kernel_rfl];exact Op.noConfusion) fun K1 h1=>wp_assign (show (qn 3).op= .assign (.tmp 25) by kernel_rfl) (G2.val (x:= .tmp 25) rfl) (h1 _ _ ?_)
 rw [show (qn 3).dst=some 12 by kernel_rfl]
 have G3:=G2.mh (d:=12) (p:=iv ((iq i:Nat))) (v:= .int .i64 ((iq i:Nat))) (by omega) (jV (by decide)) (fun Pr=>qq w Pr _)
 generalize Act.put _ (some 12) _=b3 at*
 refine dQ E (by kernel_rfl) (fun c=>by rw [show (qn 4).op= .assign (.tmp 26) by kernel_rfl];exact Op.noConfusion) fun K1 h1=>wp_assign (show (qn 4).op= .assign (.tmp 26) by kernel_rfl) (G3.val (x:= .tmp 26) rfl) (h1 _ _ ?_)
 rw [show (qn 4).dst=some 13 by kernel_rfl]
 have G4:=G3.mh (d:=13) (p:=iv (dx k i)) (v:= .int .i64 (dx k i)) (by omega) (jV (by decide)) (fun Pr=>qq w Pr _)
 generalize Act.put _ (some 13) _=b4 at*
 exact wpListIn_nil (hQ _ (G4.bK [4,10,11,12,13,21]))
theorem Je (E:iG F) (hb:base≤w0.heap.size) (hN:42≤N) {k:Nat} (hk:k<7) {s:Bool×Bool×Bool} {m r:Nat} {seen:Array Nat} {e:Int} {u:aq}
  (G:Good base w0 aN N (gH r) (tJ e u (aq.of (iH k s))) a w) (M:uC w0 w k m r seen s)
  (hD:s=(true,true,true)→∀a' w',Good base w0 aN N (gH r) (tJ e u (aq.of (iH k s))) a' w'→Q (.exit 0) a' w')
  (hS:∀i a' w',i<3→kH s i=false→Good base w0 aN N (gH r) (tJ e u (aq.of (iH k (qz s i)))) a' w'→uC w0 w' k m r (seen.push i) (qz s i)→Q .normal a' w'):nl.wpIn F n PM Q a w:=by
 rw [Xx]
 refine wpIn_seq ?_
 rw [Od]
 refine wpIn_region_list ?_
 show wpListIn F n PM _ _ [pn 0,pn 1] a w
 have Oc:a.eval (.tmp 21)= .pointer (some ⟨r,0,none⟩):=G.pinned (d:=21) rfl rfl
 obtain ⟨c0,hc0,hit⟩:=M.it
 have hold:∀x∈(jk k).toList,x.born<3:=by
  intro x hx
  simp only [jk,List.mem_cons,List.not_mem_nil,or_false] at hx
  rcases hx with rfl|rfl|rfl<;>simp [cI]
 refine dQ E (by kernel_rfl) (fun c=>by rw [show (pn 0).op= .next (.tmp 21) false by kernel_rfl];exact Op.noConfusion) fun K0 h0=>LQ (show (pn 0).op= .next (.tmp 21) false by kernel_rfl) Oc hit M.map hold hc0 (fun hz=>h0 _ _ ?_) (fun en VZ w1 hw1=>h0 _ _ ?_)
 · rw [show (pn 0).dst=some 22 by kernel_rfl]
   have G0:=G.mG (d:=22) (by omega) rfl (.tuple #[.bool false])
   have e0:=G.kP (d:=22) (v:= .tuple #[.bool false]) (by omega)
   generalize Act.put _ (some 22) _=a0 at*
   refine dQ E (by kernel_rfl) (fun c=>by rw [show (pn 1).op= .extract (.tmp 22) 0 by kernel_rfl];exact Op.noConfusion) fun K1 h1=>mA (show (pn 1).op= .extract (.tmp 22) 0 by kernel_rfl) e0 (v:= .bool false) rfl (h1 _ _ ?_)
   rw [show (pn 1).dst=some 23 by kernel_rfl]
   have G1:=G0.mh (d:=23) (p:=bv false) (v:= .bool false) (by omega) (jV (by decide)) (fun Pr=> .lit rfl)
   generalize Act.put _ (some 23) _=a1 at*
   refine wpListIn_nil ?_
   show (cB nl).wpIn F n PM Q a1 w
   rw [QM]
   refine wpIn_seq ?_
   rw [QN]
   exact wpIn_cond_false (G1.val (x:= .tmp 23) rfl) (wpIn_exit (hD (FK M.bits hz) _ _ (G1.bK [4,10,11,21])))
 · obtain ⟨i,hi,rfl,hs⟩:=FL M.bits VZ
   rw [show (pn 0).dst=some 22 by kernel_rfl]
   have hml:m<w.heap.size:=(Array.getElem?_eq_some_iff.1 M.map).1
   have Gw:Good base w0 aN N (gH r) (tJ e u (aq.of (iH k s))) a w1:=by
    rcases hw1 with rfl|rfl
    · exact G
    · exact G.drew
   have hh:w1.heap=w.heap:=by rcases hw1 with rfl|rfl<;>rfl
   have Gt:=Gw.de rfl hb M.hr (l:=r) (o:= .mapIter (some m) 3 seen c0) (by rw [hh];exact hit) rfl (o':= .mapIter (some m) 3 (seen.push (cI k i).born) 3)
   have r2:(w1.putObj r (.mapIter (some m) 3 (seen.push (cI k i).born) 3)).heap[r]? =some (.mapIter (some m) 3 (seen.push i) 3):=sO (by rw [hh];exact hit)
   have m2:(w1.putObj r (.mapIter (some m) 3 (seen.push (cI k i).born) 3)).heap[m]? =some (.map (jk k) 3):=(GM (fun e=>M.ne e.symm)).trans (by rw [hh];exact M.map)
   show wpListIn F n PM _ _ [pn 1] _ (w1.putObj r (.mapIter (some m) 3 (seen.push (cI k i).born) 3))
   generalize w1.putObj r (.mapIter (some m) 3 (seen.push (cI k i).born) 3)=w2 at*
   have G0:=Gt.mG (d:=22) (by omega) rfl (.tuple #[.bool true,(cI k i).key,(cI k i).val])
   have e0:=Gt.kP (d:=22) (v:= .tuple #[.bool true,(cI k i).key,(cI k i).val]) (by omega)
   generalize Act.put _ (some 22) _=a0 at*
   refine dQ E (by kernel_rfl) (fun c=>by rw [show (pn 1).op= .extract (.tmp 22) 0 by kernel_rfl];exact Op.noConfusion) fun K1 h1=>mA (show (pn 1).op= .extract (.tmp 22) 0 by kernel_rfl) e0 (v:= .bool true) rfl (h1 _ _ ?_)
   rw [show (pn 1).dst=some 23 by kernel_rfl]
   have G1:=G0.mh (d:=23) (p:=bv true) (v:= .bool true) (by omega) (jV (by decide)) (fun Pr=> .lit rfl)
   generalize Act.put _ (some 23) _=a1 at*
   refine wpListIn_nil ?_
   show (cB nl).wpIn F n PM Q a1 w2
   rw [QM]
   refine wpIn_seq ?_
   rw [QN]
   refine wpIn_cond_true (G1.val (x:= .tmp 23) rfl) (wpIn_skip ?_)
   show (cB (cB nl)).wpIn F n PM Q a1 w2
   rw [Xy]
   refine wpIn_block ?_
   rw [Xz]
   refine wpIn_seq ?_
   refine PD E hb hN hi (G1.bK [4,10,11,21]) m2 r2 fun a2 G2=> ?_
   refine PE E hb hN hk hi hs G2 fun a3 w3 G3 ko=> ?_
   refine hS i a3 w3 hi hs G3 { hm:=M.hm,hr:=M.hr,ne:=M.ne,map:=ko.same _ _ m2 rfl,it:=⟨3,Nat.le_refl _,ko.same _ _ r2 rfl⟩,bits:=fun j hj=> ?_}
   have ck:=M.bits j hj
   obtain ⟨s0,s1,s2⟩:=s
   have va:i=0∨i=1∨i=2:=by omega
   have Wb:j=0∨j=1∨j=2:=by omega
   rw [show (seen.push i).contains j=(seen.contains j||decide (j=i)) by simp [Array.contains_push],ck]
   rcases va with rfl|rfl|rfl<;>rcases Wb with rfl|rfl|rfl<;>simp [kH,qz]
def Dg (s:Bool×Bool×Bool):Nat:=(if s.1 then 0 else 1)+(if s.2.1 then 0 else 1)+(if s.2.2 then 0 else 1)
theorem HH {s:Bool×Bool×Bool} {i:Nat} (hi:i<3) (h:kH s i=false):Dg (qz s i)+1=Dg s:=by
 obtain ⟨a,b,c⟩:=s
 have va:i=0∨i=1∨i=2:=by omega
 rcases va with rfl|rfl|rfl<;>cases a<;>cases b<;>cases c<;>simp_all [kH,qz,Dg]
theorem CG (E:iG F) (hb:base≤w0.heap.size) (hN:42≤N) {k:Nat} (hk:k<7) {m r:Nat} {e:Int} {u:aq}
  (hQ:∀a' w',Good base w0 aN N (gH r) (tJ e u (aq.of (iH k (true,true,true)))) a' w'→Q (.exit 0) a' w'):
  ∀(g:Nat) (s:Bool×Bool×Bool) (seen:Array Nat) (a:Act) (w:World),Dg s<g→Good base w0 aN N (gH r) (tJ e u (aq.of (iH k s))) a w→uC w0 w k m r seen s→Code.roundsIn F n PM nl Q g a w
 |0,s,seen,a,w,hc,G,M=>by omega
 |g+1,s,seen,a,w,hc,G,M=>by
  rw [roundsIn_succ]
  refine Je E hb hN hk G M (fun hs a' w' G'=> ?_) fun i a' w' hi hs G' M'=> ?_
  · subst hs;exact hQ a' w' G'
  · exact CG E hb hN hk hQ g (qz s i) _ a' w' (by have:=HH hi hs;omega) G' M'
end
def ID:aq:=⟨⟨false,⟨#[]⟩⟩,⟨false,⟨#[]⟩⟩,⟨false,⟨#[]⟩⟩,⟨false,⟨#[]⟩⟩,⟨false,⟨#[]⟩⟩⟩
theorem F0:tQ:=by
 intro k hk
 have hfn:P0.funcs[87]? =some Go.Proofs.Tryd.f87:=by kernel_rfl
 have hc:Go.Proofs.Tryd.f87.body=some n0:=by kernel_rfl
 have hnt:Go.Proofs.Tryd.f87.ntmps=42:=by kernel_rfl
 have Wv:jD P0 ⟨[(10, .bp 10 0)],[(10,(aq.of (qv k)).cells)],[],[]⟩ Go.Proofs.Tryd.f87.results.toList=some (one (.ag (aq.of (qv k)).cells)):=by kernel_rfl
 refine ⟨⟨_,n0,hfn,hc,by kernel_rfl⟩,fun vs w Pr hp hr=>callsIn_wide.1 (callsIn_of_wp (F:=Fence.wide) (n:=2) hfn hc trivial ?_ rfl)⟩
 have hlen:vs.length=5:=by rw [←hr.length];rfl
 have I0:=qY hp hr (Go.Proofs.Tryd.f87.ntmps - vs.toArray.size)
 have hN:vs.length+(Go.Proofs.Tryd.f87.ntmps - vs.toArray.size)=42:=by rw [hnt,List.size_toArray,hlen]
 have G0:Good w.heap.size w Pr _ IJ (St.enter (rU k)) _ w:=⟨Pr,_,I0,Below.refl _ _,fun _ _ _ h=>h,KO.refl _,fun k b e=>by simp at e,fun _ _ _ h1 h2=>⟨h1,h2⟩,fun ds e=>by simpa using e⟩
 rw [hN] at G0
 generalize ({ tmps:=vs.toArray++Array.replicate (Go.Proofs.Tryd.f87.ntmps - vs.toArray.size) undef,defers:=[]}:Act)=a0 at*
 have E:=jO
 obtain ⟨q1,q2,q3,q4,q5,q6,q7⟩:=KL ⟨k,by omega⟩
 simp only at q1 q2 q3 q4 q5 q6 q7
 obtain ⟨d1,d2⟩:=Tk ⟨k,by omega⟩
 simp only at d1 d2
 have h0:=ct _ _ _ _ _ _ (Sq 5 (cU k).1 (cU k).2.1 (cU k).2.2.1 (cU k).2.2.2.1 (cU k).2.2.2.2) trivial
 rw [Sj]
 refine wpIn_seq (lB wz af.kW af.jv _ 5 _ (by kernel_rfl) E 2 (by kernel_rfl) (fun d hd=>rfl) G0 (Nat.le_refl _) h0 fun a1 w1 G1 ko1=> ?_)
 have b1:=G1.ge
 show n1.wpIn Fence.wide 2 PM _ a1 w1
 have h1:=ct _ _ _ _ _ _ (Sr 5 (cU k).1 (cU k).2.1 (cU k).2.2.1 (cU k).2.2.2.1 (cU k).2.2.2.2 ID (aq.cw (cU k).1)) ⟨eD q6 q7,trivial⟩
 rw [Sk]
 refine wpIn_seq (lB wz af.kW af.jv _ 5 _ (by kernel_rfl) E 2 (by kernel_rfl) (fun d hd=>rfl) G1 b1 h1 fun a2 w2 G2 ko2=> ?_)
 show n2.wpIn Fence.wide 2 PM _ a2 w2
 rw [Sl]
 refine wpIn_seq ?_
 rw [Sf]
 refine wpIn_seq (PC E (Nat.le_refl _) (Nat.le_refl _) k G2 fun a3 w3 m r G3 M3=> ?_)
 show (cB (cA n2)).wpIn Fence.wide 2 PM _ a3 w3
 rw [NY]
 refine wpIn_block ?_
 rw [Pz]
 refine wpIn_loop_rounds 4 (CG E (Nat.le_refl _) (Nat.le_refl _) (k:=k) (by omega) (fun a4 w4 G4=> ?_) 4 (false,false,false) #[] a3 w3 (by decide) (by rw [q5];exact G3) M3)
 show n3.wpIn Fence.wide 2 PM _ a4 w4
 have h6:=ct _ _ _ _ _ _ (Su 5 (cU k).2.2.2.2 ID (aq.of (iH k (true,true,true))) (aq.cw (cU k).2.2.2.2) (aq.of (qv k)))
  (by
   have c1:=eD (n:=(cU k).2.2.2.2) (by rw [q2];exact q3) (by rw [q2];exact q4)
   have c2:=Mp d1
   rw [d2,←q1,←q2] at c2
   exact ⟨c1,c2,c1,c2,c1,c2,rfl,rfl,rfl,rfl,rfl,rfl,rfl,rfl,trivial⟩)
 rw [Sn]
 refine wpIn_seq (lB wz af.kW af.jv _ 5 _ (by kernel_rfl) E 2 (by kernel_rfl) (fun d hd=>if_neg fun e=>by subst e;exact absurd hd (by decide+kernel)) G4 G4.ge h6 fun a5 w5 G5 ko5=> ?_)
 show n4.wpIn Fence.wide 2 PM _ a5 w5
 have h7:=ct _ _ _ _ _ _ (Sv 5 ID (aq.of (qv k))) trivial
 rw [So]
 refine wpIn_seq (lB wz af.kW af.jv _ 5 _ (by kernel_rfl) E 2 (by kernel_rfl) (fun d hd=>if_neg fun e=>by subst e;exact absurd hd (by decide+kernel)) G5 G5.ge h7 fun a6 w6 G6 ko6=> ?_)
 show n5.wpIn Fence.wide 2 PM _ a6 w6
 rw [Sh]
 refine wpIn_ret ?_
 obtain ⟨v,aD,hv,ef⟩:=sX hp G6 Wv
 refine ⟨?_,v,hv,v,aD,rfl,ef⟩
 obtain ⟨_,_,_,_,_,_,_,_,hd⟩:=G6
 exact hd [] rfl
end Go.Proofs.YtibbgjafjhcemaaDoor.Cul
