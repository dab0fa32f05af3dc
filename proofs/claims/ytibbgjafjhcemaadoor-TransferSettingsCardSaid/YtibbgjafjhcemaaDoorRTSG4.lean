/- Part of a proof by an abstract machine for the program's code: lemmas, without conditions of their own beyond those that each states. (Made smaller by a program: short names, no comments.) -/
import Derived.Test.YtibbgjafjhcemaaDoorRTSG3
set_option linter.unusedVariables false
set_option linter.unusedSimpArgs false
set_option maxRecDepth 100000
set_option maxHeartbeats 2000000
namespace Go.Proofs.YtibbgjafjhcemaaDoor.Cul
open Go Go.RowKit
noncomputable def Du:List PV→Option RV:=bJ (fun x:Int×Int=>(ai x.1.natAbs).size<2^30∧(ai x.2.natAbs).size<2^30) (fun x=>[.ag (zc x.1), .ag (zc x.2)]) (fun x=>one (.ag (zc (Nat.gcd x.1.natAbs x.2.natAbs:Nat))))
noncomputable def A8:List PV→Option RV:=bJ (fun _:Bool×ByteArray=>True) (fun x=>[iz x.1 x.2]) (fun x=>one (iv (oB x.1 x.2)))
noncomputable def xl:List PV→Option RV:=bJ (fun n:Int=> -(2^63)≤n∧n<2^63) (fun n=>[iv n]) (fun n=>one (.ag (zc n)))
noncomputable def t13:Cl:=bI [(81,Du)]
structure ax where
 a:Int
 b:Int
 c:Int
 d:Int
 n:Int
def ax.gcd (x:ax):Nat:=Nat.gcd (Nat.gcd (Nat.gcd (Nat.gcd x.n.natAbs x.a.natAbs) x.b.natAbs) x.c.natAbs) x.d.natAbs
def ax.small (x:ax):Prop:=((ai x.a.natAbs).size<2^30∧(ai x.b.natAbs).size<2^30)∧((ai x.c.natAbs).size<2^30∧(ai x.d.natAbs).size<2^30)∧(ai x.n.natAbs).size<2^30
noncomputable def HL:List PV→Option RV:=bJ ax.small (fun x=>[.ag (zc x.a++zc x.b++zc x.c++zc x.d), .ag (zc x.n)]) (fun x=>one (.ag (zc (x.gcd:Nat))))
noncomputable def t14:Cl:=bI [(63,ff),(64,A8),(65,HL),(66,xl)]
def ic (g:Bool) (s:ByteArray):List PV:=[bv g,sv s]
theorem cm (k:Nat) (g0 g1 g2 g3 gd e0 e1 e2 e3:Bool) (s0 s1 s2 s3 sd u0 u1 u2 u3:ByteArray):ay MD t13 k 65 [.ag [bv g0,sv s0,bv g1,sv s1,bv g2,sv s2,bv g3,sv s3],iz gd sd] [.u 5, .c true, .r (one (iz e0 u0)), .c true, .r (one (iz e1 u1)), .c true, .r (one (iz e2 u2)), .c true, .r (one (iz e3 u3)), .c false]=
 some (RV.mk (PV.ag [PV.lit (Value.bool e3),PV.lit (Value.string u3)]) none,[(5:Nat)≤k,true=true,aa t13 81 [PV.ag [PV.lit (Value.bool gd),PV.lit (Value.string sd)],PV.ag [PV.lit (Value.bool g0),PV.lit (Value.string s0)]] (RV.mk (PV.ag [PV.lit (Value.bool e0),PV.lit (Value.string u0)]) none),true=true,aa t13 81 [PV.ag [PV.lit (Value.bool e0),PV.lit (Value.string u0)],PV.ag [PV.lit (Value.bool g1),PV.lit (Value.string s1)]] (RV.mk (PV.ag [PV.lit (Value.bool e1),PV.lit (Value.string u1)]) none),true=true,aa t13 81 [PV.ag [PV.lit (Value.bool e1),PV.lit (Value.string u1)],PV.ag [PV.lit (Value.bool g2),PV.lit (Value.string s2)]] (RV.mk (PV.ag [PV.lit (Value.bool e2),PV.lit (Value.string u2)]) none),true=true,aa t13 81 [PV.ag [PV.lit (Value.bool e2),PV.lit (Value.string u2)],PV.ag [PV.lit (Value.bool g3),PV.lit (Value.string s3)]] (RV.mk (PV.ag [PV.lit (Value.bool e3),PV.lit (Value.string u3)]) none),false=false]):=by kernel_rfl
theorem U5 (k:Nat) (g0 g1 g2 g3 gd:Bool) (s0 s1 s2 s3 sd:ByteArray):ay MD t14 k 43 [.ag [bv g0,sv s0,bv g1,sv s1,bv g2,sv s2,bv g3,sv s3,bv gd,sv sd]] [.u 5, .c true, .r (one (bv false))]=
 some (RV.mk (PV.lit (Value.bool false)) none,[(5:Nat)≤k,true=true,aa t14 63 [PV.ag [PV.lit (Value.bool g0),PV.lit (Value.string s0)]] (RV.mk (PV.lit (Value.bool false)) none)]):=by kernel_rfl
theorem U6 (k:Nat) (g0 g1 g2 g3 gd:Bool) (s0 s1 s2 s3 sd:ByteArray):ay MD t14 k 43 [.ag [bv g0,sv s0,bv g1,sv s1,bv g2,sv s2,bv g3,sv s3,bv gd,sv sd]] [.u 5, .c true, .r (one (bv true)), .c true, .r (one (bv false))]=
 some (RV.mk (PV.lit (Value.bool false)) none,[(5:Nat)≤k,true=true,aa t14 63 [PV.ag [PV.lit (Value.bool g0),PV.lit (Value.string s0)]] (RV.mk (PV.lit (Value.bool true)) none),true=true,aa t14 63 [PV.ag [PV.lit (Value.bool g1),PV.lit (Value.string s1)]] (RV.mk (PV.lit (Value.bool false)) none)]):=by kernel_rfl
theorem U7 (k:Nat) (g0 g1 g2 g3 gd:Bool) (s0 s1 s2 s3 sd:ByteArray):ay MD t14 k 43 [.ag [bv g0,sv s0,bv g1,sv s1,bv g2,sv s2,bv g3,sv s3,bv gd,sv sd]] [.u 5, .c true, .r (one (bv true)), .c true, .r (one (bv true)), .c true, .r (one (bv false))]=
 some (RV.mk (PV.lit (Value.bool false)) none,[(5:Nat)≤k,true=true,aa t14 63 [PV.ag [PV.lit (Value.bool g0),PV.lit (Value.string s0)]] (RV.mk (PV.lit (Value.bool true)) none),true=true,aa t14 63 [PV.ag [PV.lit (Value.bool g1),PV.lit (Value.string s1)]] (RV.mk (PV.lit (Value.bool true)) none),true=true,aa t14 63 [PV.ag [PV.lit (Value.bool g2),PV.lit (Value.string s2)]] (RV.mk (PV.lit (Value.bool false)) none)]):=by kernel_rfl
theorem U8 (k:Nat) (g0 g1 g2 g3 gd:Bool) (s0 s1 s2 s3 sd:ByteArray):ay MD t14 k 43 [.ag [bv g0,sv s0,bv g1,sv s1,bv g2,sv s2,bv g3,sv s3,bv gd,sv sd]] [.u 5, .c true, .r (one (bv true)), .c true, .r (one (bv true)), .c true, .r (one (bv true)), .c true, .r (one (bv false))]=
 some (RV.mk (PV.lit (Value.bool false)) none,[(5:Nat)≤k,true=true,aa t14 63 [PV.ag [PV.lit (Value.bool g0),PV.lit (Value.string s0)]] (RV.mk (PV.lit (Value.bool true)) none),true=true,aa t14 63 [PV.ag [PV.lit (Value.bool g1),PV.lit (Value.string s1)]] (RV.mk (PV.lit (Value.bool true)) none),true=true,aa t14 63 [PV.ag [PV.lit (Value.bool g2),PV.lit (Value.string s2)]] (RV.mk (PV.lit (Value.bool true)) none),true=true,aa t14 63 [PV.ag [PV.lit (Value.bool g3),PV.lit (Value.string s3)]] (RV.mk (PV.lit (Value.bool false)) none)]):=by kernel_rfl
theorem U9 (k:Nat) (g0 g1 g2 g3 gd:Bool) (s0 s1 s2 s3 sd:ByteArray):ay MD t14 k 43 [.ag [bv g0,sv s0,bv g1,sv s1,bv g2,sv s2,bv g3,sv s3,bv gd,sv sd]] [.u 5, .c true, .r (one (bv true)), .c true, .r (one (bv true)), .c true, .r (one (bv true)), .c true, .r (one (bv true)), .c false, .r (one (bv false))]=
 some (RV.mk (PV.lit (Value.bool false)) none,[(5:Nat)≤k,true=true,aa t14 63 [PV.ag [PV.lit (Value.bool g0),PV.lit (Value.string s0)]] (RV.mk (PV.lit (Value.bool true)) none),true=true,aa t14 63 [PV.ag [PV.lit (Value.bool g1),PV.lit (Value.string s1)]] (RV.mk (PV.lit (Value.bool true)) none),true=true,aa t14 63 [PV.ag [PV.lit (Value.bool g2),PV.lit (Value.string s2)]] (RV.mk (PV.lit (Value.bool true)) none),true=true,aa t14 63 [PV.ag [PV.lit (Value.bool g3),PV.lit (Value.string s3)]] (RV.mk (PV.lit (Value.bool true)) none),false=false,aa t14 63 [PV.ag [PV.lit (Value.bool gd),PV.lit (Value.string sd)]] (RV.mk (PV.lit (Value.bool false)) none)]):=by kernel_rfl
theorem Va (k:Nat) (g0 g1 g2 g3 gd:Bool) (s0 s1 s2 s3 sd:ByteArray) (n:Int):ay MD t14 k 43 [.ag [bv g0,sv s0,bv g1,sv s1,bv g2,sv s2,bv g3,sv s3,bv gd,sv sd]] [.u 5, .c true, .r (one (bv true)), .c true, .r (one (bv true)), .c true, .r (one (bv true)), .c true, .r (one (bv true)), .c false, .r (one (bv true)), .r (one (iv n)), .c false]=
 some (RV.mk (PV.lit (Value.bool false)) none,[(5:Nat)≤k,true=true,aa t14 63 [PV.ag [PV.lit (Value.bool g0),PV.lit (Value.string s0)]] (RV.mk (PV.lit (Value.bool true)) none),true=true,aa t14 63 [PV.ag [PV.lit (Value.bool g1),PV.lit (Value.string s1)]] (RV.mk (PV.lit (Value.bool true)) none),true=true,aa t14 63 [PV.ag [PV.lit (Value.bool g2),PV.lit (Value.string s2)]] (RV.mk (PV.lit (Value.bool true)) none),true=true,aa t14 63 [PV.ag [PV.lit (Value.bool g3),PV.lit (Value.string s3)]] (RV.mk (PV.lit (Value.bool true)) none),false=false,aa t14 63 [PV.ag [PV.lit (Value.bool gd),PV.lit (Value.string sd)]] (RV.mk (PV.lit (Value.bool true)) none),aa t14 64 [PV.ag [PV.lit (Value.bool gd),PV.lit (Value.string sd)]] (RV.mk (PV.lit (Value.int IntKind.i64 n)) none),decide (n>(0:Int))=false]):=by kernel_rfl
theorem Vb (k:Nat) (g0 g1 g2 g3 gd b:Bool) (s0 s1 s2 s3 sd u v:ByteArray) (n:Int):ay MD t14 k 43 [.ag [bv g0,sv s0,bv g1,sv s1,bv g2,sv s2,bv g3,sv s3,bv gd,sv sd]] [.u 5, .c true, .r (one (bv true)), .c true, .r (one (bv true)), .c true, .r (one (bv true)), .c true, .r (one (bv true)), .c false, .r (one (bv true)), .r (one (iv n)), .c true, .r (one (iz false u)), .r (one (iz false v)), .g b]=
 some (RV.mk (PV.lit (Value.bool b)) none,[(5:Nat)≤k,true=true,aa t14 63 [PV.ag [PV.lit (Value.bool g0),PV.lit (Value.string s0)]] (RV.mk (PV.lit (Value.bool true)) none),true=true,aa t14 63 [PV.ag [PV.lit (Value.bool g1),PV.lit (Value.string s1)]] (RV.mk (PV.lit (Value.bool true)) none),true=true,aa t14 63 [PV.ag [PV.lit (Value.bool g2),PV.lit (Value.string s2)]] (RV.mk (PV.lit (Value.bool true)) none),true=true,aa t14 63 [PV.ag [PV.lit (Value.bool g3),PV.lit (Value.string s3)]] (RV.mk (PV.lit (Value.bool true)) none),false=false,aa t14 63 [PV.ag [PV.lit (Value.bool gd),PV.lit (Value.string sd)]] (RV.mk (PV.lit (Value.bool true)) none),aa t14 64 [PV.ag [PV.lit (Value.bool gd),PV.lit (Value.string sd)]] (RV.mk (PV.lit (Value.int IntKind.i64 n)) none),decide (n>(0:Int))=true,aa t14 65 [PV.ag [PV.lit (Value.bool g0),PV.lit (Value.string s0),PV.lit (Value.bool g1),PV.lit (Value.string s1),PV.lit (Value.bool g2),PV.lit (Value.string s2),PV.lit (Value.bool g3),PV.lit (Value.string s3)],PV.ag [PV.lit (Value.bool gd),PV.lit (Value.string sd)]] (RV.mk (PV.ag [PV.lit (Value.bool false),PV.lit (Value.string u)]) none),aa t14 66 [PV.lit (Value.int IntKind.i64 (1:Int))] (RV.mk (PV.ag [PV.lit (Value.bool false),PV.lit (Value.string v)]) none),gw MD.P BinOp.eql 27 (Operand.tmp (28:Nat)) (Operand.tmp (29:Nat)) (Value.agg (Array.mk [Value.bool false,Value.string u])) (Value.agg (Array.mk [Value.bool false,Value.string v])) b]):=by kernel_rfl
theorem eM {a b:Int} (e:zc a=zc b):a=b:=by
 simp only [zc,bv,sv,List.cons.injEq,and_true,PV.lit.injEq,Value.bool.injEq,Value.string.injEq] at e
 have h1:a.natAbs=b.natAbs:=by have:=congrArg bM e.2;rwa [gi,gi] at this
 have h2:(a<0)↔(b<0):=by simpa using e.1
 omega
theorem oM {a b:Int} (ha:(ai a.natAbs).size<2^30) (hb:(ai b.natAbs).size<2^30):Du [.ag (zc a), .ag (zc b)]=some (one (.ag (zc (Nat.gcd a.natAbs b.natAbs:Nat)))):=
 aM (a:=(a,b)) (enc:=fun x:Int×Int=>[.ag (zc x.1), .ag (zc x.2)]) (fun a b e=>by
  simp only [List.cons.injEq,and_true,PV.ag.injEq] at e
  rw [eM e.1,eM e.2]) ⟨ha,hb⟩
theorem OK:aI MD.P t13:=aH (aj (au fun x h=>Ms x.1 x.2 h.1 h.2) aE)
theorem yx {a b:Nat} (h:a≤b):(ai a).size≤(ai b).size:=by
 have e:∀n,(ai n).size=(dg 256 n).length:=fun n=>by rw [←cV,bO]
 rw [e,e]
 rcases Nat.eq_zero_or_pos a with rfl|ha
 · simp [dM]
 · have h1:=nN (b:=256) (by decide) ha
   have h2:=cE (b:=256) (n:=b) (by decide)
   rcases Nat.lt_or_ge (dg 256 b).length (dg 256 a).length with h3|h3
   · have:256^(dg 256 b).length≤256^((dg 256 a).length - 1):=Nat.pow_le_pow_right (by decide) (by omega)
     omega
   · exact h3
theorem pR {x y:Nat} (hx:(ai x).size<2^30) (hy:(ai y).size<2^30):(ai (Nat.gcd x y)).size<2^30:=by
 rcases Nat.eq_zero_or_pos y with rfl|h
 · rwa [Nat.gcd_zero_right]
 · exact Nat.lt_of_le_of_lt (yx (Nat.gcd_le_right x h)) hy
theorem xG (x:ax) (h:x.small):az P0 65 [.ag (zc x.a++zc x.b++zc x.c++zc x.d), .ag (zc x.n)] (one (.ag (zc (x.gcd:Nat)))):=by
 obtain ⟨⟨ha,hb⟩,⟨hc,hd⟩,hn⟩:=h
 have s1:=pR hn ha
 have s2:=pR s1 hb
 have s3:=pR s2 hc
 have c1:=oM hn ha
 have c2:=oM (a:=(Nat.gcd x.n.natAbs x.a.natAbs:Nat)) (b:=x.b) (by simpa using s1) hb
 have c3:=oM (a:=(Nat.gcd (Nat.gcd x.n.natAbs x.a.natAbs) x.b.natAbs:Nat)) (b:=x.c) (by simpa using s2) hc
 have c4:=oM (a:=(Nat.gcd (Nat.gcd (Nat.gcd x.n.natAbs x.a.natAbs) x.b.natAbs) x.c.natAbs:Nat)) (b:=x.d) (by simpa using s3) hd
 simp only [Int.natAbs_natCast] at c2 c3 c4
 exact ah af OK (by rfl) (cm 5 _ _ _ _ _ _ _ _ _ _ _ _ _ _ _ _ _ _) ⟨by omega,rfl,c1,rfl,c2,rfl,c3,rfl,c4,rfl,trivial⟩
end Go.Proofs.YtibbgjafjhcemaaDoor.Cul
namespace Go.Proofs.YtibbgjafjhcemaaDoor.Cul
open Go Go.RowKit
theorem aU {α β:Type} {P:Program} {f:α→Sem β}:∀{m:Sem α} {a:α},aB P m=some a→aB P (m.bind f)=aB P (f a):=by
 intro m
 induction m with
 |pure x=>intro a h;simp only [aB,Option.some.injEq] at h;subst h;rfl
 |program k ih=>intro a h;simp only [aB] at h;simp only [Sem.bind,aB];exact ih P h
 |mark x k ih=>intro a h;simp only [aB] at h;simp only [Sem.bind,aB];exact ih h
 |_=>intro a h;simp [aB] at h
theorem uV {P:Program} {d:Nat} {t:TypeId} {f g:Field} {xs ys:Array Value} {a1 a2 b1 b2:Value} {c1 c2:Bool}
  (hu:P.underlying t=some (.struct #[f,g])) (hh:P.stoodInHeld t=false) (hf:f.name≠ "_") (hg:g.name≠ "_")
  (p1:aB P (part f.type xs f.offset)=some a1) (p2:aB P (part f.type ys f.offset)=some b1)
  (p3:aB P (part g.type xs g.offset)=some a2) (p4:aB P (part g.type ys g.offset)=some b2)
  (e1:aB P (Op.equalIn d f.type a1 b1)=some c1) (e2:aB P (Op.equalIn d g.type a2 b2)=some c2):
  aB P (Op.equalIn (d+1) t (.agg xs) (.agg ys))=some (c1&&c2):=by
 simp only [Op.equalIn,underlying,program,Bind.bind,Sem.bind,aB,hu,hh,pure,Pure.pure,Bool.false_eq_true,if_false]
 rw [←Array.forIn_toList]
 simp only [List.forIn_cons,List.forIn_nil,Bind.bind,pure,Pure.pure,hf,hg,ne_eq,not_false_eq_true,if_true]
 have assoc:∀{α β γ:Type} (m:Sem α) (f:α→Sem β) (g:β→Sem γ),(m.bind f).bind g=m.bind fun a=>(f a).bind g:=by
  intro α β γ m
  induction m with
  |pure a=>intro f g;rfl
  |halt h=>intro f g;rfl
  |_=>rename_i ih;intro f g;simp only [Sem.bind];first|(congr 1;funext x;exact ih x f g)|(congr 1;exact ih f g)
 simp only [assoc]
 rw [aU p1,aU p2,aU e1]
 cases c1 with
 |false=>simp [Sem.bind,aB]
 |true=>
  simp only [Bool.not_true,Bool.false_eq_true,if_false,Sem.bind,assoc]
  rw [aU p3,aU p4,aU e2]
  cases c2<;>simp [Sem.bind,aB]
theorem Er:MD.P.underlying 27=some (TypeDesc.struct #[{ name:= "Neg",type:=4,offset:=0,embedded:=false,tag:= "",pkgPath:= "",byteOffset:=0},{ name:= "Mag",type:=9,offset:=1,embedded:=false,tag:= "",pkgPath:= "",byteOffset:=8}]):=by kernel_rfl
theorem Fg:MD.P.stoodInHeld 27=false:=by kernel_rfl
theorem KV (u v:ByteArray):aB MD.P (Op.equalIn (9999+1) 27 (.agg #[.bool false, .string u]) (.agg #[.bool false, .string v]))=some (true&&(u==v)):=
 uV (a1:= .bool false) (b1:= .bool false) (a2:= .string u) (b2:= .string v) Er Fg (by decide) (by decide) (by kernel_rfl) (by kernel_rfl) (by kernel_rfl) (by kernel_rfl) (by kernel_rfl) (by kernel_rfl)
theorem Mk {u v:ByteArray} {b:Bool} (h:(u==v)=b):gw MD.P .eql 27 (.tmp 28) (.tmp 29) (.agg #[.bool false, .string u]) (.agg #[.bool false, .string v]) b:=by
 subst h
 have h1:aB MD.P (eqGuard .eql 27 (.tmp 28) (.tmp 29) (.agg #[.bool false, .string u]) (.agg #[.bool false, .string v]))=some ():=by kernel_rfl
 have h2:=KV u v
 rw [Bool.true_and] at h2
 show (aB MD.P ((eqGuard .eql 27 (.tmp 28) (.tmp 29) (.agg #[.bool false, .string u]) (.agg #[.bool false, .string v])).bind fun _=>binOp .eql 27 (.agg #[.bool false, .string u]) (.agg #[.bool false, .string v]))).bind iS=some (.lit (.bool (u==v)))
 rw [aU h1]
 show (aB MD.P ((Op.equalIn (9999+1) 27 (.agg #[.bool false, .string u]) (.agg #[.bool false, .string v])).bind fun r=> .pure (.bool r))).bind iS=some (.lit (.bool (u==v)))
 rw [aU h2];rfl
theorem II {g:Bool} {s:ByteArray} (h:cF g s=true):∃z:Int,z.natAbs=bM s∧g=decide (z<0)∧s=ai z.natAbs:=by
 unfold cF at h
 by_cases hz:s.size=0
 · rw [if_pos hz] at h
   have e:aT s=[]:=List.length_eq_zero_iff.1 (by rw [bO];exact hz)
   have hv:bM s=0:=by simp [bM,e,val]
   refine ⟨0,by rw [hv];rfl,by simpa using h, ?_⟩
   have:=lG (s:=s) (.inl e)
   rw [hv] at this;exact this.symm
 · rw [if_neg hz] at h
   obtain ⟨n,hn⟩:∃n,s.size=n+1:=⟨s.size - 1,by omega⟩
   obtain ⟨b,hb,zQ⟩:=jm hn
   rw [hb] at h
   have hb0:0<b.toNat:=by simp at h;omega
   have hm:=lG (rH zQ hb0)
   have hp:0<bM s:=by
    rw [bM,zQ,jh]
    have:0<256^(aT (s.extract 1 s.size)).length* val 256 [b.toNat]:=Nat.mul_pos (Nat.pow_pos (by decide)) (by simp [val];exact hb0)
    omega
   cases g with
   |true=>exact ⟨-(bM s:Int),by omega,by simp;omega,by rw [show (-(bM s:Int)).natAbs=bM s by omega,hm]⟩
   |false=>exact ⟨(bM s:Int),by omega,by simp,by rw [show ((bM s:Int)).natAbs=bM s by omega,hm]⟩
end Go.Proofs.YtibbgjafjhcemaaDoor.Cul
namespace Go.Proofs.YtibbgjafjhcemaaDoor.Cul
open Go Go.RowKit
theorem nD:aI MD.P t14:=aH
 (aj (au fun x _=>nG x.1 x.2)
 (aj (au fun x _=>CR x.1 x.2)
 (aj (au fun x h=>xG x h)
 (aj (au fun n h=>oX n h.1 h.2) aE))))
theorem p9 {a b:Nat} (h:ai a=ai b):a=b:=by
 have:=congrArg bM h
 rwa [gi,gi] at this
theorem beq_toList (u v:ByteArray):(u==v)=(u.data==v.data):=by cases u;cases v;rfl
theorem Aq (a b:Nat):(ai a==ai b)=decide (a=b):=by
 rw [beq_toList]
 by_cases h:a=b
 · subst h;simp
 · rw [decide_eq_false h]
   refine beq_false_of_ne (fun e=>h (p9 ?_))
   exact ByteArray.ext e
theorem qf {n:Nat} (h:(ai n).size=0):n=0:=by
 have h1:=bS (b:=256) (by decide) n
 have h2:(dg 256 n).length=0:=by rw [←cV,bO,h]
 rw [List.length_eq_zero_iff.1 h2] at h1
 exact h1.symm
theorem A9 (z:Int):oB (decide (z<0)) (ai z.natAbs)=if z<0 then -1 else if z=0 then 0 else 1:=by
 unfold oB
 rw [mc,if_pos rfl]
 by_cases h0:z=0
 · subst h0;rfl
 · have hs:(ai z.natAbs).size≠0:=fun h=>h0 (by have:=qf h;omega)
   rw [if_neg hs]
   by_cases hn:z<0
   · simp [hn]
   · simp [hn,h0]
theorem xq (g:Bool) (s:ByteArray):A8 [iz g s]=some (one (iv (oB g s))):=
 aM (a:=(g,s)) (enc:=fun x:Bool×ByteArray=>[iz x.1 x.2]) (fun a b e=>by rw [FH e]) trivial
theorem jU {n:Int} (h1: -(2^63)≤n) (h2:n<2^63):xl [iv n]=some (one (.ag (zc n))):=
 aM (enc:=fun n:Int=>[iv n]) (fun a b e=>by
  simp only [iv,List.cons.injEq,and_true,PV.lit.injEq,Value.int.injEq,true_and] at e;rw [e]) ⟨h1,h2⟩
theorem B0 {x:ax} (h:x.small):HL [.ag (zc x.a++zc x.b++zc x.c++zc x.d), .ag (zc x.n)]=some (one (.ag (zc (x.gcd:Nat)))):=
 aM (enc:=fun x:ax=>[.ag (zc x.a++zc x.b++zc x.c++zc x.d), .ag (zc x.n)]) (fun p q e=>by
  obtain ⟨a,b,c,d,n⟩:=p
  obtain ⟨a',b',c',d',n'⟩:=q
  simp only [List.cons.injEq,and_true,PV.ag.injEq] at e
  obtain ⟨e1,e2⟩:=e
  have l:∀z:Int,(zc z).length=2:=fun _=>rfl
  have k1:=List.append_inj e1 (by simp [l])
  have k2:=List.append_inj k1.1 (by simp [l])
  have k3:=List.append_inj k2.1 (by simp [l])
  rw [eM k3.1,eM k3.2,eM k2.2,eM k1.2,eM e2]) h
def ax.ok (x:ax):Bool:=decide (0<x.n)&&decide (x.gcd=1)
def ax.cells (x:ax):List PV:=zc x.a++zc x.b++zc x.c++zc x.d++zc x.n
theorem nQ (x:ax) (h:x.small):az P0 43 [.ag x.cells] (one (bv x.ok)):=by
 have vt:∀z:Int,ff [iz (decide (z<0)) (ai z.natAbs)]=some (one (bv true)):=fun z=>by rw [cD,mc]
 have st:=xq (decide (x.n<0)) (ai x.n.natAbs)
 rw [A9] at st
 by_cases hn:0<x.n
 · rw [if_neg (by omega),if_neg (by omega)] at st
   have e:x.ok=decide (x.gcd=1):=by simp [ax.ok,hn]
   rw [e]
   have hq:=Mk (Aq x.gcd 1)
   exact ah af nD (by rfl) (Vb 5 _ _ _ _ _ (decide (x.gcd=1)) _ _ _ _ _ (ai x.gcd) (ai 1) 1) ⟨by omega,rfl,vt x.a,rfl,vt x.b,rfl,vt x.c,rfl,vt x.d,rfl,vt x.n,st,rfl,B0 h,jU (by decide) (by decide),hq,trivial⟩
 · have e:x.ok=false:=by simp [ax.ok,hn]
   rw [e]
   exact ah af nD (by rfl) (Va 5 _ _ _ _ _ _ _ _ _ _ _) ⟨by omega,rfl,vt x.a,rfl,vt x.b,rfl,vt x.c,rfl,vt x.d,rfl,vt x.n,st,by split<;>first|rfl|(split<;>first|rfl|omega),trivial⟩
theorem Dt (g0 g1 g2 g3 gd:Bool) (s0 s1 s2 s3 sd:ByteArray) (h:(cF g0 s0&&cF g1 s1&&cF g2 s2&&cF g3 s3&&cF gd sd)=false):az P0 43 [.ag [bv g0,sv s0,bv g1,sv s1,bv g2,sv s2,bv g3,sv s3,bv gd,sv sd]] (one (bv false)):=by
 have v0:=cD g0 s0
 have v1:=cD g1 s1
 have v2:=cD g2 s2
 have v3:=cD g3 s3
 have vd:=cD gd sd
 cases h0:cF g0 s0 with
 |false=>rw [h0] at v0;exact ah af nD (by rfl) (U5 5 _ _ _ _ _ _ _ _ _ _) ⟨by omega,rfl,v0,trivial⟩
 |true=>
  rw [h0] at v0
  cases h1:cF g1 s1 with
  |false=>rw [h1] at v1;exact ah af nD (by rfl) (U6 5 _ _ _ _ _ _ _ _ _ _) ⟨by omega,rfl,v0,rfl,v1,trivial⟩
  |true=>
   rw [h1] at v1
   cases h2:cF g2 s2 with
   |false=>rw [h2] at v2;exact ah af nD (by rfl) (U7 5 _ _ _ _ _ _ _ _ _ _) ⟨by omega,rfl,v0,rfl,v1,rfl,v2,trivial⟩
   |true=>
    rw [h2] at v2
    cases h3:cF g3 s3 with
    |false=>rw [h3] at v3;exact ah af nD (by rfl) (U8 5 _ _ _ _ _ _ _ _ _ _) ⟨by omega,rfl,v0,rfl,v1,rfl,v2,rfl,v3,trivial⟩
    |true=>
     rw [h3] at v3
     cases h4:cF gd sd with
     |false=>rw [h4] at vd;exact ah af nD (by rfl) (U9 5 _ _ _ _ _ _ _ _ _ _) ⟨by omega,rfl,v0,rfl,v1,rfl,v2,rfl,v3,rfl,vd,trivial⟩
     |true=>rw [h0,h1,h2,h3,h4] at h;simp at h
end Go.Proofs.YtibbgjafjhcemaaDoor.Cul
namespace Go.Proofs.YtibbgjafjhcemaaDoor.Cul
open Go Go.RowKit
noncomputable def t16:Cl:=bI [(58,ff)]
theorem Yu (k:Nat) (g:Bool) (s:ByteArray):ay MD t3 k 58 [iz g s] [.c true]=
 some (RV.mk (PV.lit (Value.bool !g)) none,[(s.toList==(ByteArray.mk #[]).toList)=true]):=by kernel_rfl
theorem Yv (k b:Nat) (g r:Bool) (s:ByteArray):ay MD t3 k 58 [iz g s] [.c false, .i 11 b, .c r]=
 some (RV.mk (PV.lit (Value.bool r)) none,[(s.toList==(ByteArray.mk #[]).toList)=false,eE s (0:Int) (↑b:Int),((↑b:Int) !=(0:Int))=r]):=by kernel_rfl
theorem Yq (k:Nat) (g:Bool) (s:ByteArray):ay MD t16 k 60 [iz g s] [.r (one (bv false))]=
 some (RV.mk (PV.lit (Value.int IntKind.i64 (0:Int))) none,[aa t16 58 [PV.ag [PV.lit (Value.bool g),PV.lit (Value.string s)]] (RV.mk (PV.lit (Value.bool false)) none)]):=by kernel_rfl
theorem Yr (k:Nat) (g:Bool) (s:ByteArray):ay MD t16 k 60 [iz g s] [.r (one (bv true)), .c true]=
 some (RV.mk (PV.lit (Value.int IntKind.i64 (0:Int))) none,[aa t16 58 [PV.ag [PV.lit (Value.bool g),PV.lit (Value.string s)]] (RV.mk (PV.lit (Value.bool true)) none),(s.toList==(ByteArray.mk #[]).toList)=true]):=by kernel_rfl
theorem Ys (k:Nat) (s:ByteArray):ay MD t16 k 60 [iz true s] [.r (one (bv true)), .c false]=
 some (RV.mk (PV.lit (Value.int IntKind.i64 (-1:Int))) none,[aa t16 58 [PV.ag [PV.lit (Value.bool true),PV.lit (Value.string s)]] (RV.mk (PV.lit (Value.bool true)) none),(s.toList==(ByteArray.mk #[]).toList)=false]):=by kernel_rfl
theorem Yt (k:Nat) (s:ByteArray):ay MD t16 k 60 [iz false s] [.r (one (bv true)), .c false]=
 some (RV.mk (PV.lit (Value.int IntKind.i64 (1:Int))) none,[aa t16 58 [PV.ag [PV.lit (Value.bool false),PV.lit (Value.string s)]] (RV.mk (PV.lit (Value.bool true)) none),(s.toList==(ByteArray.mk #[]).toList)=false]):=by kernel_rfl
theorem Yg (k:Nat) (g:Bool) (s:ByteArray):ay MD t16 k 55 [iz g s] [.r (one (bv false))]=
 some (RV.mk (PV.ag [PV.lit (Value.bool false),PV.lit (Value.string (ByteArray.mk #[]))]) none,[aa t16 58 [PV.ag [PV.lit (Value.bool g),PV.lit (Value.string s)]] (RV.mk (PV.lit (Value.bool false)) none)]):=by kernel_rfl
theorem Yh (k:Nat) (g:Bool) (s:ByteArray):ay MD t16 k 55 [iz g s] [.r (one (bv true)), .c true]=
 some (RV.mk (PV.ag [PV.lit (Value.bool false),PV.lit (Value.string (ByteArray.mk #[]))]) none,[aa t16 58 [PV.ag [PV.lit (Value.bool g),PV.lit (Value.string s)]] (RV.mk (PV.lit (Value.bool true)) none),(s.toList==(ByteArray.mk #[]).toList)=true]):=by kernel_rfl
theorem Yi (k:Nat) (g:Bool) (s:ByteArray):ay MD t16 k 55 [iz g s] [.r (one (bv true)), .c false]=
 some (RV.mk (PV.ag [PV.lit (Value.bool !g),PV.lit (Value.string s)]) none,[aa t16 58 [PV.ag [PV.lit (Value.bool g),PV.lit (Value.string s)]] (RV.mk (PV.lit (Value.bool true)) none),(s.toList==(ByteArray.mk #[]).toList)=false]):=by kernel_rfl
theorem jX (g:Bool) (s:ByteArray):az P0 58 [iz g s] (one (bv (cF g s))):=by
 by_cases h:s.size=0
 · have:=ah af ku (by rfl) (Yu 1 g s) ⟨by rw [cL];simpa using h,trivial⟩
   simp only [cF,h,if_true]
   exact this
 · obtain ⟨n,hn⟩:∃n,s.size=n+1:=⟨s.size - 1,by omega⟩
   obtain ⟨b,hb,_⟩:=jm hn
   have e:cF g s=decide (b.toNat≠0):=by
    simp only [cF,h,if_false,hb,Option.map_some,ne_eq,Option.some.injEq]
   rw [e]
   refine ah af ku (by rfl) (Yv 1 b.toNat g (decide (b.toNat≠0)) s) ⟨by rw [cL];simpa using h,lM hb, ?_,trivial⟩
   by_cases h0:b.toNat=0
   · simp [h0]
   · simp [h0]
theorem nE:aI MD.P t16:=aH (aj (au fun x _=>jX x.1 x.2) aE)
theorem Jg (g:Bool) (s:ByteArray):az P0 60 [iz g s] (one (iv (oB g s))):=by
 have v:=cD g s
 unfold oB
 cases h:cF g s with
 |false=>rw [h] at v;exact ah af nE (by rfl) (Yq 1 g s) ⟨v,trivial⟩
 |true=>
  rw [h] at v
  by_cases hz:s.size=0
  · have:=ah af nE (by rfl) (Yr 1 g s) ⟨v,by rw [cL];simpa using hz,trivial⟩
    simp only [hz,if_true];exact this
  · simp only [hz,if_true,if_false]
    cases g with
    |true=>exact ah af nE (by rfl) (Ys 1 s) ⟨v,by rw [cL];simpa using hz,trivial⟩
    |false=>exact ah af nE (by rfl) (Yt 1 s) ⟨v,by rw [cL];simpa using hz,trivial⟩
theorem LD (g:Bool) (s:ByteArray):az P0 55 [iz g s] (one (ov g s)):=by
 have v:=cD g s
 unfold ov
 cases h:cF g s with
 |false=>rw [h] at v;exact ah af nE (by rfl) (Yg 1 g s) ⟨v,trivial⟩
 |true=>
  rw [h] at v
  by_cases hz:s.size=0
  · have:=ah af nE (by rfl) (Yh 1 g s) ⟨v,by rw [cL];simpa using hz,trivial⟩
    have hs:s=⟨#[]⟩:=uL (by
     have e:aT s=[]:=List.length_eq_zero_iff.1 (by rw [bO];exact hz)
     rw [e];rfl)
    have e:iz (!g&& !decide (s.size=0)) s=iz false ⟨#[]⟩:=by rw [show decide (s.size=0)=true by simpa using hz,hs];cases g<;>rfl
    rw [if_pos rfl,e];exact this
  · have:=ah af nE (by rfl) (Yi 1 g s) ⟨v,by rw [cL];simpa using hz,trivial⟩
    have e:iz (!g&& !decide (s.size=0)) s=iz (!g) s:=by simp [hz]
    rw [if_pos rfl,e];exact this
end Go.Proofs.YtibbgjafjhcemaaDoor.Cul
namespace Go.Proofs.YtibbgjafjhcemaaDoor.Cul
theorem uY {b:Nat} (hb:2≤b):∀{n v:Nat},v<b^n→fd b n v=dg b v++List.replicate (n - (dg b v).length) 0
 |0,v,h=>by
  have:v=0:=by simpa using h
  subst this;simp [fd,dM]
 |n+1,v,h=>by
  rcases Nat.eq_zero_or_pos v with rfl|hv
  · rw [wT (by omega),dM];simp
  · have h2:v / b<b^n:=by
      rw [Nat.div_lt_iff_lt_mul (by omega)];rwa [Nat.pow_succ] at h
    rw [dz hb hv]
    show v%b::fd b n (v / b)=_
    rw [uY hb h2]
    simp
theorem lR {x:Nat} (hx:x%2=1) (k y:Nat):Nat.gcd x (2^k* y)=Nat.gcd x y:=by
 have h2:Nat.Coprime 2 x:=by
  show Nat.gcd 2 x=1
  rw [Nat.gcd_rec,hx];rfl
 exact Nat.Coprime.gcd_mul_left_cancel_right y (h2.pow_left k)
theorem zJ {x:Nat} (hx:x%2=1) (k y:Nat):Nat.gcd (2^k* y) x=Nat.gcd y x:=by
 rw [Nat.gcd_comm,lR hx,Nat.gcd_comm]
theorem HZ {x y:Nat} (hx:x%2=1) (hy:y%2=1) (n m:Nat):Nat.gcd (2^n* x) (2^m* y)=2^(min n m)* Nat.gcd x y:=by
 rcases Nat.le_total n m with h|h
 · obtain ⟨d,rfl⟩:=Nat.exists_eq_add_of_le h
   rw [Nat.min_eq_left h,Nat.pow_add,Nat.mul_assoc,Nat.gcd_mul_left,lR hx]
 · obtain ⟨d,rfl⟩:=Nat.exists_eq_add_of_le h
   rw [Nat.min_eq_right h,Nat.pow_add,Nat.mul_assoc,Nat.gcd_mul_left,zJ hy]
def wB:Nat→Nat→Nat
 |0,_=>0
 |f+1,n=>if n%2=0 then wB f (n / 2)+1 else 0
def tz (n:Nat):Nat:=wB n n
theorem Bm:∀{f n:Nat},0<n→n≤f→(n / 2^wB f n)%2=1∧2^wB f n* (n / 2^wB f n)=n
 |0,n,h,k=>by omega
 |f+1,n,h,k=>by
  unfold wB
  by_cases e:n%2=0
  · rw [if_pos e]
    obtain ⟨h1,h2⟩:=Bm (f:=f) (n:=n / 2) (by omega) (by omega)
    have e2:n / 2^(wB f (n / 2)+1)=n / 2 / 2^wB f (n / 2):=by
     rw [Nat.pow_succ,Nat.mul_comm,Nat.div_div_eq_div_mul]
    rw [e2]
    refine ⟨h1, ?_⟩
    rw [Nat.pow_succ,Nat.mul_comm (2^wB f (n / 2)) 2,Nat.mul_assoc,h2];omega
  · rw [if_neg e];simp;omega
def od (n:Nat):Nat:=n / 2^tz n
theorem ju {n:Nat} (h:0<n):od n%2=1:=(Bm h (Nat.le_refl n)).1
theorem vE {n:Nat} (h:0<n):2^tz n* od n=n:=(Bm h (Nat.le_refl n)).2
theorem N4 {n:Nat} (h:0<n):0<od n:=by have:=ju h;omega
theorem sJ {n:Nat} (h:0<n):od n≤n:=Nat.div_le_self _ _
theorem zI {x y:Nat} (hx:x%2=1) (hy:0<y):Nat.gcd x (od y)=Nat.gcd x y:=by
 conv=>rhs;rw [←vE hy]
 exact (lR hx _ _).symm
theorem pS {x y:Nat} (hx:x%2=1) (h:x<y):Nat.gcd x (od (y - x))=Nat.gcd x y:=by
 rw [zI hx (by omega)]
 exact Nat.gcd_sub_self_right (by omega)
theorem K6 {x y:Nat} (hx:0<x) (hy:0<y):Nat.gcd x y=2^(min (tz x) (tz y))* Nat.gcd (od x) (od y):=by
 conv=>lhs;rw [←vE hx,←vE hy]
 exact HZ (ju hx) (ju hy) _ _
def shr (k:Nat):List Nat→List Nat
 |[]=>[]
 |[x]=>[x / 2^k]
 |x::y::l=>(x / 2^k+y* 2^(24 - k)%2^24)::shr k (y::l)
theorem gL (k:Nat):∀l,(shr k l).length=l.length
 |[]=>rfl
 |[x]=>rfl
 |x::y::l=>by simp [shr,gL k (y::l)]
theorem CN {k y:Nat} (hk:k≤24):y* 2^(24 - k)%2^24=y%2^k* 2^(24 - k):=by
 have e:(2:Nat)^24=2^k* 2^(24 - k):=by rw [←Nat.pow_add];congr 1;omega
 rw [e,Nat.mul_mod_mul_right]
theorem CQ {k:Nat} (hk:k≤24):∀(x:Nat) (l:List Nat),2^k* val (2^24) (shr k (x::l))+x%2^k=val (2^24) (x::l)
 |x,[]=>by simp only [shr,val];have:=Nat.div_add_mod x (2^k);omega
 |x,y::l=>by
  have ih:=CQ hk y l
  simp only [shr]
  rw [CN hk]
  have e:(2:Nat)^24=2^k* 2^(24 - k):=by rw [←Nat.pow_add];congr 1;omega
  have h1:=Nat.div_add_mod x (2^k)
  show 2^k* (x / 2^k+y%2^k* 2^(24 - k)+2^24* val (2^24) (shr k (y::l)))+x%2^k=x+2^24* val (2^24) (y::l)
  rw [←ih,Nat.mul_add,Nat.mul_add,Nat.mul_add]
  have h2:2^k* (y%2^k* 2^(24 - k))=2^24* (y%2^k):=by rw [e,Nat.mul_comm (y%2^k),Nat.mul_assoc]
  have h3:2^k* (2^24* val (2^24) (shr k (y::l)))=2^24* (2^k* val (2^24) (shr k (y::l))):=Nat.mul_left_comm _ _ _
  rw [h2,h3];omega
theorem CO {k:Nat} (hk:k≤24):∀{l:List Nat},bf (2^24) l→bf (2^24) (shr k l)
 |[],_=>by simp [shr,bf]
 |[x],h=>by
  intro z hz
  simp only [shr,List.mem_singleton] at hz
  subst hz
  exact Nat.lt_of_le_of_lt (Nat.div_le_self _ _) h.head
 |x::y::l,h=>by
  intro z hz
  simp only [shr,List.mem_cons] at hz
  rcases hz with rfl|hz
  · rw [CN hk]
    have hx:=h.head
    have e:(2:Nat)^24=2^(24 - k)* 2^k:=by rw [←Nat.pow_add];congr 1;omega
    have h1:x / 2^k<2^(24 - k):=by
     rw [Nat.div_lt_iff_lt_mul (Nat.pow_pos (by omega)),←e];exact hx
    have h2:y%2^k<2^k:=Nat.mod_lt _ (Nat.pow_pos (by omega))
    have h3:(y%2^k+1)* 2^(24 - k)≤2^k* 2^(24 - k):=Nat.mul_le_mul_right _ h2
    rw [Nat.add_mul,Nat.mul_comm (2^k),←e] at h3
    omega
  · exact CO hk h.tail z hz
theorem CP {k:Nat}:∀{l:List Nat} {i x:Nat},l[i]? =some x→(shr k l)[i]? =some (x / 2^k+(match l[i+1]? with|some y=>y* 2^(24 - k)%2^24|none=>0))
 |[],i,x,h=>by simp at h
 |[z],0,x,h=>by simp at h;subst h;simp [shr]
 |[z],i+1,x,h=>by simp at h
 |z::y::l,0,x,h=>by simp at h;subst h;simp [shr]
 |z::y::l,i+1,x,h=>by
  simp only [shr,List.getElem?_cons_succ] at h ⊢
  exact CP h
end Go.Proofs.YtibbgjafjhcemaaDoor.Cul
namespace Go.Proofs.YtibbgjafjhcemaaDoor.Cul
open Go Go.RowKit
section
variable {c:Nat→PV}
theorem PJ {l:List Nat} {i x:Nat} (h:l[i]? =some x):row (l.map c) 1 i=[c x]:=by
 have hi:=gB h
 have:(l.map c)[i]? =some (c x):=by simp [h]
 simp only [row,Nat.mul_one]
 rw [List.drop_eq_getElem_cons (by simpa using hi),List.take_succ_cons,List.take_zero]
 congr 1
 simpa [List.getElem?_eq_getElem (show i<(l.map c).length by simpa using hi)] using this
theorem jW {l:List Nat} {i x:Nat} {n:Int} (h:l[i]? =some x) (hn:n=(i:Int)):aL (l.map c) 1 n l.length [c x]:=by
 have hi:=gB h
 subst hn
 exact ⟨⟨by omega,by omega⟩,by rw [Int.toNat_natCast];exact PJ h⟩
theorem o9 (l:List Nat) (a n:Nat) {m:List Nat} (h:(l.drop a).take n=m):cH (l.map c) a n (m.map c):=by
 show ((l.map c).drop a).take n=m.map c
 rw [←List.map_drop,←List.map_take,h]
theorem NH {P:Program} {T:TypeId} (hs:bV P T=some 1) (hr:ei P T=false) (hu:(P.underlying T).isSome=true) {l:List Nat} {o i x:Nat} (h:l[i]? =some x) (ho:o=i):Ld P T (l.map c) o (c x):=by
 subst ho
 have:=gB h
 show eA P T (l.map c) o=some (c x)
 simp only [eA,hs,Option.bind_some,hr,hu]
 rw [if_pos (by rw [List.length_map];omega)]
 simp [h]
theorem mw {l m:List Nat} {o i y:Nat} (h:l.set i y=m) (hi:i<l.length) (ho:o=i):cg (l.map c) o [c y] (m.map c):=by
 subst ho h
 show splice (l.map c) o [c y]=(l.set o y).map c
 simp only [splice,List.map_set,List.length_singleton]
 rw [List.set_eq_take_append_cons_drop,if_pos (by simpa using hi),List.append_assoc];rfl
theorem kU {n:Nat}:fP [c 0] n ((List.replicate n 0).map c):=by
 show bq _ n=_
 induction n with
 |zero=>rfl
 |succ n ih=>simp only [bq,List.replicate_succ,List.map_cons] at ih ⊢;rw [ih];rfl
theorem FO (h:∀x,cJ (c x)=true) (l:List Nat):(l.map c).all cJ=true:=by
 rw [List.all_map,List.all_eq_true];intro x _;exact h x
end
def aF (x:Nat):PV:=iv x
def ni (l:List Nat):PV:= .sl 1 l.length (l.map aF)
theorem Ku:bV MD.P 3=some 1:=by kernel_rfl
theorem Ou:ei MD.P 3=false:=by kernel_rfl
theorem O1:(MD.P.underlying 3).isSome=true:=by kernel_rfl
theorem EC:MD.P.bytesOf 3=8:=by kernel_rfl
theorem PR:bV MD.P 5=some 1:=by kernel_rfl
theorem Tw:ei MD.P 5=false:=by kernel_rfl
theorem Ub:(MD.P.underlying 5).isSome=true:=by kernel_rfl
theorem ED:MD.P.bytesOf 5=1:=by kernel_rfl
theorem pW {l:List Nat} {o i x:Nat} (h:l[i]? =some x) (ho:o=i):Ld MD.P 3 (l.map aF) o (aF x):=NH Ku Ou O1 h ho
theorem DG {l:List Nat} {o i x:Nat} (h:l[i]? =some x) (ho:o=i):Ld MD.P 5 (l.map bt) o (bt x):=NH PR Tw Ub h ho
theorem ug {l m:List Nat} (h:l.map aF=m.map aF):l=m:=by
 refine (List.map_inj_right ?_).1 h
 intro x y e
 simp only [aF,iv,PV.lit.injEq,Value.int.injEq,true_and] at e;omega
theorem rL {l m:List Nat} (h:ni l=ni m):l=m:=by
 simp only [ni,PV.sl.injEq] at h
 exact ug h.2.2
theorem dA {a b:Int} (h:iv a=iv b):a=b:=by simpa [iv] using h
theorem EB {a b:Bool} (h:bv a=bv b):a=b:=by simpa [bv] using h
theorem pO {a b:Nat} (h:dg (16777216:Nat) a=dg (16777216:Nat) b):a=b:=by
 have:=congrArg (val (16777216:Nat)) h
 rwa [bS (by decide),bS (by decide)] at this
theorem Ba {x r:Nat} {k:Int} (hk:k=(r:Int)) (hr:r<64):(x:Int).fdiv (2^min k.toNat IntKind.i64.bits)=((x / 2^r:Nat):Int):=by
 subst hk
 have e:min ((r:Int).toNat) IntKind.i64.bits=r:=by rw [Int.toNat_natCast];show min r 64=r;omega
 rw [e,Int.fdiv_eq_ediv_of_nonneg _ (by exact_mod_cast Nat.zero_le _)]
 norm_cast
theorem P1 (a:Nat):IntKind.u8.wrap (a:Int)=((a%256:Nat):Int):=by
 unfold IntKind.wrap IntKind.bits IntKind.signed
 simp only
 have e1:(2:Int)^8=256:=by decide
 rw [e1];simp
end Go.Proofs.YtibbgjafjhcemaaDoor.Cul
namespace Go.Proofs.YtibbgjafjhcemaaDoor.Cul
open Go Go.RowKit
noncomputable def t17:Cl:=bI []
theorem ZE (k n m:Nat) (cs ds es fs:List PV) (s:ByteArray) (o:Nat):ay MD t17 k 89 [.sl 1 n cs] [.i 7 (3* n:Nat), .c false, .f ds, .l (.exit 0) ⟨[(0, .pv (.sl 1 n cs)),(3, .bs 8 0 1 (3* n)),(4, .pv (iv (3* n:Nat))),(12, .pv (bv false))],[(8,es)],[],[]⟩, .l (.exit 2) ⟨[(3, .bs 8 0 1 m),(40, .pv (bv false))],[(8,es)],[],[]⟩, .f fs, .w 44 s]=
 some (RV.mk (PV.lit (Value.string s)) none,[IntKind.i64.wrap ((3:Int)* (↑n:Int))=(↑((3:Nat)* n):Int),(0:Int)≤(↑((3:Nat)* n):Int)∧(↑((3:Nat)* n):Int)≤(↑((3:Nat)* n):Int)∧(↑((3:Nat)* n):Int)* (↑(MD.P.bytesOf (5:Nat)):Int)≤(↑room:Int)∧(↑((3:Nat)* n):Int)≤(↑room:Int),decide ((↑((3:Nat)* n):Int)=(0:Int))=false,fP [PV.lit (Value.int IntKind.u8 (0:Int))] (↑((3:Nat)* n):Int).toNat ds,aW MD t17 k (89:Nat) (0:Nat) (St.mk [(0,AV.pv (PV.sl 1 n cs)),(3,AV.bs 8 0 1 (↑((3:Nat)* n):Int).toNat),(4,AV.pv (PV.lit (Value.int IntKind.i64 (0:Int))))] [(8,ds)] [] []) (Xt.exit 0) (St.mk [(0,AV.pv (PV.sl 1 n cs)),(3,AV.bs 8 0 1 ((3:Nat)* n)),(4,AV.pv (PV.lit (Value.int IntKind.i64 (↑((3:Nat)* n):Int)))),(12,AV.pv (PV.lit (Value.bool false)))] [(8,es)] [] []),aW MD t17 k (89:Nat) (1:Nat) (St.mk [(0,AV.pv (PV.sl 1 n cs)),(3,AV.bs 8 0 1 ((3:Nat)* n)),(4,AV.pv (PV.lit (Value.int IntKind.i64 (↑((3:Nat)* n):Int)))),(12,AV.pv (PV.lit (Value.bool false)))] [(8,es)] [] []) (Xt.exit 2) (St.mk [(3,AV.bs 8 0 1 m),(40,AV.pv (PV.lit (Value.bool false)))] [(8,es)] [] []),cH es 0 (m* (1:Nat)) fs,jA fs s]):=by kernel_rfl
theorem ZF (k n m:Nat) (cs ds es fs:List PV) (s:ByteArray) (o:Nat):ay MD t17 k 89 [.sl 1 n cs] [.i 7 (3* n:Nat), .c false, .f ds, .l (.exit 0) ⟨[(0, .pv (.sl 1 n cs)),(3, .bs 8 0 1 (3* n)),(4, .pv (iv (3* n:Nat))),(12, .pv (bv false))],[(8,es)],[],[]⟩, .l (.exit 2) ⟨[(3, .bs 8 (o+1) 1 m),(40, .pv (bv false))],[(8,es)],[],[]⟩, .f fs, .w 44 s]=
 some (RV.mk (PV.lit (Value.string s)) none,[IntKind.i64.wrap ((3:Int)* (↑n:Int))=(↑((3:Nat)* n):Int),(0:Int)≤(↑((3:Nat)* n):Int)∧(↑((3:Nat)* n):Int)≤(↑((3:Nat)* n):Int)∧(↑((3:Nat)* n):Int)* (↑(MD.P.bytesOf (5:Nat)):Int)≤(↑room:Int)∧(↑((3:Nat)* n):Int)≤(↑room:Int),decide ((↑((3:Nat)* n):Int)=(0:Int))=false,fP [PV.lit (Value.int IntKind.u8 (0:Int))] (↑((3:Nat)* n):Int).toNat ds,aW MD t17 k (89:Nat) (0:Nat) (St.mk [(0,AV.pv (PV.sl 1 n cs)),(3,AV.bs 8 0 1 (↑((3:Nat)* n):Int).toNat),(4,AV.pv (PV.lit (Value.int IntKind.i64 (0:Int))))] [(8,ds)] [] []) (Xt.exit 0) (St.mk [(0,AV.pv (PV.sl 1 n cs)),(3,AV.bs 8 0 1 ((3:Nat)* n)),(4,AV.pv (PV.lit (Value.int IntKind.i64 (↑((3:Nat)* n):Int)))),(12,AV.pv (PV.lit (Value.bool false)))] [(8,es)] [] []),aW MD t17 k (89:Nat) (1:Nat) (St.mk [(0,AV.pv (PV.sl 1 n cs)),(3,AV.bs 8 0 1 ((3:Nat)* n)),(4,AV.pv (PV.lit (Value.int IntKind.i64 (↑((3:Nat)* n):Int)))),(12,AV.pv (PV.lit (Value.bool false)))] [(8,es)] [] []) (Xt.exit 2) (St.mk [(3,AV.bs 8 (o+(1:Nat)) 1 m),(40,AV.pv (PV.lit (Value.bool false)))] [(8,es)] [] []),cH es (o+(1:Nat)) (m* (1:Nat)) fs,jA fs s]):=by kernel_rfl
theorem ZG (k n i x y z:Nat) (cs es es':List PV):aA MD t17 k 89 0 ⟨[(0, .pv (.sl 1 n cs)),(3, .bs 8 0 1 (3* n)),(4, .pv (iv i))],[(8,es)],[],[]⟩ [.c true, .i 18 (3* n - 1:Nat), .i 20 (3* n - 1 - i:Nat), .i 23 (i / 3:Nat), .a 24 [iv x], .i 27 (i%3:Nat), .i 28 (8* (i%3):Nat), .i 29 y, .i 30 z, .j 31 (3* n - 1 - i), .s es', .i 14 (i+1:Nat)]=
 some ((Xt.normal,St.mk [(0,AV.pv (PV.sl 1 n cs)),(3,AV.bs 8 0 1 ((3:Nat)* n)),(4,AV.pv (PV.lit (Value.int IntKind.i64 (↑(i+(1:Nat)):Int))))] [(8,es')] [] []),[],[decide ((↑i:Int)<(↑((3:Nat)* n):Int))=true,IntKind.i64.wrap ((↑((3:Nat)* n):Int) - (1:Int))=(↑((3:Nat)* n - (1:Nat)):Int),IntKind.i64.wrap ((↑((3:Nat)* n - (1:Nat)):Int) - (↑i:Int))=(↑((3:Nat)* n - (1:Nat) - i):Int),IntKind.i64.wrap ((↑i:Int).tdiv (3:Int))=(↑(i / (3:Nat)):Int),false=false,aL cs 1 (↑(i / (3:Nat)):Int) n [PV.lit (Value.int IntKind.i64 (↑x:Int))],(↑i:Int).tmod (3:Int)=(↑(i%(3:Nat)):Int),false=false,IntKind.i64.wrap ((8:Int)* (↑(i%(3:Nat)):Int))=(↑((8:Nat)* (i%(3:Nat))):Int),(↑x:Int).fdiv ((2:Int)^min (↑((8:Nat)* (i%(3:Nat))):Int).toNat IntKind.i64.bits)=(↑y:Int),decide ((↑((8:Nat)* (i%(3:Nat))):Int)<(0:Int))=false,IntKind.u8.wrap (↑y:Int)=(↑z:Int),aK (↑((3:Nat)* n - (1:Nat) - i):Int) ((3:Nat)* n) ((3:Nat)* n - (1:Nat) - i),(0:Nat)+((3:Nat)* n - (1:Nat) - i)* (1:Nat)+(PV.lit (Value.int IntKind.u8 (↑z:Int))).cells.length≤es.length,cg es ((0:Nat)+((3:Nat)* n - (1:Nat) - i)* (1:Nat)) [PV.lit (Value.int IntKind.u8 (↑z:Int))] es',IntKind.i64.wrap ((↑i:Int)+(1:Int))=(↑(i+(1:Nat)):Int)]):=by kernel_rfl
theorem ZH (k n i:Nat) (cs es:List PV):aA MD t17 k 89 0 ⟨[(0, .pv (.sl 1 n cs)),(3, .bs 8 0 1 (3* n)),(4, .pv (iv i))],[(8,es)],[],[]⟩ [.c false]=
 some ((Xt.exit 0,St.mk [(0,AV.pv (PV.sl 1 n cs)),(3,AV.bs 8 0 1 ((3:Nat)* n)),(4,AV.pv (PV.lit (Value.int IntKind.i64 (↑i:Int)))),(12,AV.pv (PV.lit (Value.bool false)))] [(8,es)] [] []),[],[decide ((↑i:Int)<(↑((3:Nat)* n):Int))=false]):=by kernel_rfl
theorem ZI (k o m:Nat) (es:List PV):aA MD t17 k 89 1 ⟨[(3, .bs 8 o 1 m)],[(8,es)],[],[]⟩ [.c false]=
 some ((Xt.exit 2,St.mk [(3,AV.bs 8 o 1 m),(40,AV.pv (PV.lit (Value.bool false)))] [(8,es)] [] []),[],[decide ((↑m:Int)>(0:Int))=false]):=by kernel_rfl
theorem ZJ (k o m x:Nat) (es:List PV):aA MD t17 k 89 1 ⟨[(3, .bs 8 o 1 m)],[(8,es)],[],[]⟩ [.c true, .j 37 0, .e 38 (bt x), .c false]=
 some ((Xt.exit 2,St.mk [(3,AV.bs 8 o 1 m),(40,AV.pv (PV.lit (Value.bool false)))] [(8,es)] [] []),[],[decide ((↑m:Int)>(0:Int))=true,aK (0:Int) m 0,Ld MD.P 5 es o (PV.lit (Value.int IntKind.u8 (↑x:Int))),((↑x:Int)==(0:Int))=false]):=by kernel_rfl
theorem ZK (k o m x:Nat) (es:List PV):aA MD t17 k 89 1 ⟨[(3, .bs 8 o 1 m)],[(8,es)],[],[]⟩ [.c true, .j 37 0, .e 38 (bt x), .c true, .o 42 (o+1) (m - 1)]=
 some ((Xt.normal,St.mk [(3,AV.bs 8 (o+(1:Nat)) 1 (m - (1:Nat)))] [(8,es)] [] []),[],[decide ((↑m:Int)>(0:Int))=true,aK (0:Int) m 0,Ld MD.P 5 es o (PV.lit (Value.int IntKind.u8 (↑x:Int))),((↑x:Int)==(0:Int))=true,(0:Int)≤(1:Int)∧(1:Int)≤(↑m:Int)∧(↑m:Int)≤(↑m:Int),o+Int.toNat (1:Int)* (1:Nat)=o+(1:Nat),(↑m:Int).toNat - Int.toNat (1:Int)=m - (1:Nat)]):=by kernel_rfl
theorem ZL (k o m:Nat) (p q r:PV) (es:List PV):aA MD t17 k 89 1 ⟨[(0, .pv p),(3, .bs 8 o 1 m),(4, .pv q),(12, .pv r)],[(8,es)],[],[]⟩ [.c false]=
 some ((Xt.exit 2,St.mk [(3,AV.bs 8 o 1 m),(40,AV.pv (PV.lit (Value.bool false)))] [(8,es)] [] []),[],[decide ((↑m:Int)>(0:Int))=false]):=by kernel_rfl
theorem ZM (k o m x:Nat) (p q r:PV) (es:List PV):aA MD t17 k 89 1 ⟨[(0, .pv p),(3, .bs 8 o 1 m),(4, .pv q),(12, .pv r)],[(8,es)],[],[]⟩ [.c true, .j 37 0, .e 38 (bt x), .c false]=
 some ((Xt.exit 2,St.mk [(3,AV.bs 8 o 1 m),(40,AV.pv (PV.lit (Value.bool false)))] [(8,es)] [] []),[],[decide ((↑m:Int)>(0:Int))=true,aK (0:Int) m 0,Ld MD.P 5 es o (PV.lit (Value.int IntKind.u8 (↑x:Int))),((↑x:Int)==(0:Int))=false]):=by kernel_rfl
theorem ZN (k o m x:Nat) (p q r:PV) (es:List PV):aA MD t17 k 89 1 ⟨[(0, .pv p),(3, .bs 8 o 1 m),(4, .pv q),(12, .pv r)],[(8,es)],[],[]⟩ [.c true, .j 37 0, .e 38 (bt x), .c true, .o 42 (o+1) (m - 1)]=
 some ((Xt.normal,St.mk [(3,AV.bs 8 (o+(1:Nat)) 1 (m - (1:Nat)))] [(8,es)] [] []),[],[decide ((↑m:Int)>(0:Int))=true,aK (0:Int) m 0,Ld MD.P 5 es o (PV.lit (Value.int IntKind.u8 (↑x:Int))),((↑x:Int)==(0:Int))=true,(0:Int)≤(1:Int)∧(1:Int)≤(↑m:Int)∧(↑m:Int)≤(↑m:Int),o+Int.toNat (1:Int)* (1:Nat)=o+(1:Nat),(↑m:Int).toNat - Int.toNat (1:Int)=m - (1:Nat)]):=by kernel_rfl
theorem ZO (k:Nat) (s:ByteArray):ay MD t17 k 89 [.sl 1 0 []] [.i 7 0, .c true, .u 1, .c false, .u 1, .c false, .w 44 s]=
 some (RV.mk (PV.lit (Value.string s)) none,[(0:Int)=(0:Int),(0:Int)≤(0:Int)∧(0:Int)≤(0:Int)∧(0:Int)* (↑(MD.P.bytesOf (5:Nat)):Int)≤(↑room:Int)∧(0:Int)≤(↑room:Int),true=true,(1:Nat)≤k,false=false,(1:Nat)≤k,false=false,jA [] s]):=by kernel_rfl
theorem KP (v i:Nat):(v / (16777216:Nat)^(i / 3)%(16777216:Nat)) / 2^(8* (i%3))%256=v / 256^i%256:=by
 have hr:i%3<3:=Nat.mod_lt _ (by decide)
 have e1:(16777216:Nat)^(i / 3)=2^(24* (i / 3)):=by rw [Nat.pow_mul]
 have e2:256^i=2^(24* (i / 3))* 2^(8* (i%3)):=by
  rw [←Nat.pow_add,show (256:Nat)=2^8 by decide,←Nat.pow_mul];congr 1;omega
 have e3:(16777216:Nat)=2^(8* (i%3))* 2^(24 - 8* (i%3)):=by
  rw [←Nat.pow_add,show 8* (i%3)+(24 - 8* (i%3))=24 by omega]
 rw [e1,e2,←Nat.div_div_eq_div_mul]
 generalize v / 2^(24* (i / 3))=u
 rw [e3,Nat.mod_mul_right_div_self]
 refine Nat.mod_mod_of_dvd _ ?_
 rw [show (256:Nat)=2^8 by decide]
 exact Nat.pow_dvd_pow 2 (by omega)
def es (N v i:Nat):List Nat:=(List.range N).map fun p=>if N - 1 - p<i then v / 256^(N - 1 - p)%256 else 0
theorem mQ (N v i:Nat):(es N v i).length=N:=by simp [es]
theorem uW {N v i p:Nat} (h:p<N):(es N v i)[p]? =some (if N - 1 - p<i then v / 256^(N - 1 - p)%256 else 0):=by
 simp [es,h]
theorem KY (N v:Nat):es N v 0=List.replicate N 0:=by
 apply List.ext_getElem?
 intro p
 by_cases h:p<N
 · rw [uW h];simp [h]
 · rw [List.getElem?_eq_none (by rw [mQ];omega),List.getElem?_eq_none (by simp;omega)]
theorem KX {N v i:Nat} (h:i<N):(es N v i).set (N - 1 - i) (v / 256^i%256)=es N v (i+1):=by
 apply List.ext_getElem?
 intro p
 by_cases hp:p<N
 · rw [List.getElem?_set,uW hp,uW hp,mQ]
   by_cases e:N - 1 - i=p
   · have:N - 1 - p=i:=by omega
     rw [if_pos e,if_pos (by omega),this,if_pos (by omega)]
   · rw [if_neg e]
     have:N - 1 - p<i↔N - 1 - p<i+1:=by omega
     simp only [this]
 · rw [List.getElem?_eq_none (by rw [List.length_set,mQ];omega),List.getElem?_eq_none (by rw [mQ];omega)]
theorem Mn (N v:Nat):es N v N=(fd 256 N v).reverse:=by
 apply List.ext_getElem?
 intro p
 by_cases hp:p<N
 · rw [uW hp,if_pos (by omega),List.getElem?_reverse (by rw [bG];exact hp),bG,g8 (by omega)]
 · rw [List.getElem?_eq_none (by rw [mQ];omega),List.getElem?_eq_none (by simp [bG];omega)]
theorem Jz (k i n v:Nat) (hi:i<3* n) (hn:n<2^40):aP MD t17 k 89 0 ⟨[(0, .pv (ni (fd (16777216:Nat) n v))),(3, .bs 8 0 1 (3* n)),(4, .pv (iv i))],[(8,(es (3* n) v i).map bt)],[],[]⟩=some (.normal,⟨[(0, .pv (ni (fd (16777216:Nat) n v))),(3, .bs 8 0 1 (3* n)),(4, .pv (iv (i+1:Nat)))],[(8,(es (3* n) v (i+1)).map bt)],[],[]⟩):=by
 have hx:(fd (16777216:Nat) n v)[i / 3]? =some (v / (16777216:Nat)^(i / 3)%(16777216:Nat)):=g8 (by omega)
 have hr:=jW (c:=aF) hx (n:=((i / 3:Nat):Int)) rfl
 have hl:(fd (16777216:Nat) n v).length=n:=bG _ _ _
 have hxl:v / (16777216:Nat)^(i / 3)%(16777216:Nat)<(16777216:Nat):=Nat.mod_lt _ (by decide)
 have key:=ZG k n i (v / (16777216:Nat)^(i / 3)%(16777216:Nat)) ((v / (16777216:Nat)^(i / 3)%(16777216:Nat)) / 2^(8* (i%3))) (v / 256^i%256) ((fd (16777216:Nat) n v).map aF) ((es (3* n) v i).map bt) ((es (3* n) v (i+1)).map bt)
 simp only [ni,hl] at hr ⊢
 have h1:IntKind.i64.wrap ((i:Int).tdiv 3)=((i / 3:Nat):Int):=aR (gX i 3) (by omega)
 have h2:(i:Int).tmod 3=((i%3:Nat):Int):=fl i 3
 have h3:=Ba (x:=v / (16777216:Nat)^(i / 3)%(16777216:Nat)) (r:=8* (i%3)) (k:=((8* (i%3):Nat):Int)) rfl (by omega)
 have h4:IntKind.u8.wrap (((v / (16777216:Nat)^(i / 3)%(16777216:Nat)) / 2^(8* (i%3)):Nat):Int)=((v / 256^i%256:Nat):Int):=by rw [←KP];exact P1 _
 have h5:cg ((es (3* n) v i).map bt) (0+(3* n - 1 - i)* 1) [bt (v / 256^i%256)] ((es (3* n) v (i+1)).map bt):=mw (KX hi) (by rw [mQ];omega) (by omega)
 have h6:0+(3* n - 1 - i)* 1+(bt (v / 256^i%256)).cells.length≤((es (3* n) v i).map bt).length:=by
  rw [List.length_map,mQ]
  show _+1≤_
  omega
 exact an key ⟨decide_eq_true (by omega),aR (by omega) (by omega),aR (by omega) (by omega),h1,rfl,hr,h2,rfl,aR (by omega) (by omega),h3,decide_eq_false (by omega),h4,⟨rfl,by omega⟩,h6,h5,aR (by omega) (by omega),trivial⟩
theorem lZ {v:Nat}:(ai v).size=(dg 256 v).length:=by rw [←cV,bO]
theorem zx {v:Nat} (h:(dg 256 v).reverse≠[]):∃x l,(dg 256 v).reverse=x::l∧0<x:=by
 have hv:0<v:=by
  rcases Nat.eq_zero_or_pos v with rfl|h'
  · simp [dM] at h
  · exact h'
 obtain ⟨m,x,h1,h2,_⟩:=B3 (b:=256) (by decide) hv
 exact ⟨x,m.reverse,by rw [h1];simp,h2⟩
theorem C2 (k z v:Nat) (hb:z+(dg 256 v).length<2^50):∀j o,o+j=z→bg (aP MD t17 k 89 1) (j+1) ⟨[(3, .bs 8 o 1 (j+(dg 256 v).length))],[(8,(List.replicate z 0++(dg 256 v).reverse).map bt)],[],[]⟩=some (.exit 2,⟨[(3, .bs 8 z 1 (dg 256 v).length),(40, .pv (bv false))],[(8,(List.replicate z 0++(dg 256 v).reverse).map bt)],[],[]⟩)
 |0,o,h=>by
  have ho:o=z:=by omega
  subst ho
  rw [Nat.zero_add,Nat.zero_add]
  by_cases e:(dg 256 v).reverse=[]
  · have el:(dg 256 v).length=0:=by simpa using e
    rw [el]
    exact aV (an (ZI k o 0 _) ⟨rfl,trivial⟩) (by simp)
  · obtain ⟨x,l,e1,hx⟩:=zx e
    have el:(dg 256 v).length=l.length+1:=by
     have:=congrArg List.length e1;simpa using this
    have hg:(List.replicate o 0++(dg 256 v).reverse)[o]? =some x:=by
     rw [e1,List.getElem?_append_right (by simp)];simp
    refine aV (an (ZJ k o _ x _) ⟨?_,⟨rfl,by omega⟩,DG hg (by omega), ?_,trivial⟩) (by simp)
    · exact decide_eq_true (by omega)
    · exact beq_false_of_ne (by omega)
 |j+1,o,h=>by
  have hg:(List.replicate z 0++(dg 256 v).reverse)[o]? =some 0:=by
   rw [List.getElem?_append_left (by simp;omega),List.getElem?_replicate,if_pos (by omega)]
  have key:=ZK k o (j+1+(dg 256 v).length) 0 ((List.replicate z 0++(dg 256 v).reverse).map bt)
  rw [show j+1+(dg 256 v).length - 1=j+(dg 256 v).length by omega] at key
  exact bn (an key ⟨by simp;omega,⟨rfl,by omega⟩,DG hg (by omega),rfl,⟨by omega,by omega,by omega⟩,by simp,by omega,trivial⟩) (C2 k z v hb j (o+1) (by omega))
theorem LR (k z v:Nat) (p q r:PV) (hb:z+(dg 256 v).length<2^50):bg (aP MD t17 k 89 1) (z+1) ⟨[(0, .pv p),(3, .bs 8 0 1 (z+(dg 256 v).length)),(4, .pv q),(12, .pv r)],[(8,(List.replicate z 0++(dg 256 v).reverse).map bt)],[],[]⟩=some (.exit 2,⟨[(3, .bs 8 z 1 (dg 256 v).length),(40, .pv (bv false))],[(8,(List.replicate z 0++(dg 256 v).reverse).map bt)],[],[]⟩):=by
 cases z with
 |zero=>
  rw [Nat.zero_add,Nat.zero_add]
  by_cases e:(dg 256 v).reverse=[]
  · have el:(dg 256 v).length=0:=by simpa using e
    rw [el]
    exact aV (an (ZL k 0 0 p q r _) ⟨rfl,trivial⟩) (by simp)
  · obtain ⟨x,l,e1,hx⟩:=zx e
    have el:(dg 256 v).length=l.length+1:=by
     have:=congrArg List.length e1;simpa using this
    have hg:(List.replicate 0 0++(dg 256 v).reverse)[0]? =some x:=by
     rw [e1];rfl
    refine aV (an (ZM k 0 _ x p q r _) ⟨?_,⟨rfl,by omega⟩,DG hg (by omega), ?_,trivial⟩) (by simp)
    · exact decide_eq_true (by omega)
    · exact beq_false_of_ne (by omega)
 |succ j=>
  have hg:(List.replicate (j+1) 0++(dg 256 v).reverse)[0]? =some 0:=by
   rw [List.getElem?_append_left (by simp)]
   simp
  have key:=ZN k 0 (j+1+(dg 256 v).length) 0 p q r ((List.replicate (j+1) 0++(dg 256 v).reverse).map bt)
  rw [show j+1+(dg 256 v).length - 1=j+(dg 256 v).length by omega] at key
  exact bn (an key ⟨by simp;omega,⟨rfl,by omega⟩,DG hg (by omega),rfl,⟨by omega,by omega,by omega⟩,by simp,by omega,trivial⟩) (C2 k (j+1) v hb j (0+1) (by omega))
theorem xF (v:Nat):jA ((dg 256 v).reverse.map bt) (ai v):=by
 have:=om (dg 256 v).reverse
 unfold tc at this
 show (bytesOf ((dg 256 v).reverse.map bt)).map _=_
 rw [this];rfl
theorem Gr (l:List Nat) (h:l.length<2^40) (hd:bf (16777216:Nat) l):az P0 89 [ni l] (one (sv (ai (val (16777216:Nat) l)))):=by
 obtain ⟨v,hv⟩:∃v,v=val (16777216:Nat) l:=⟨_,rfl⟩
 rw [←hv]
 have el:l=fd (16777216:Nat) l.length v:=jc (by decide) hd rfl hv.symm
 obtain ⟨n,hn⟩:∃n,n=l.length:=⟨_,rfl⟩
 rw [←hn] at el h
 have hlt:v<256^(3* n):=by
  have:=cY hd
  rw [←hv,←hn] at this
  rwa [Nat.pow_mul,show (256:Nat)^3=(16777216:Nat) by decide]
 rcases Nat.eq_zero_or_pos n with h0|h0
 · have hl:l=[]:=List.length_eq_zero_iff.1 (by omega)
   have mX:v=0:=by rw [hv,hl];rfl
   subst hl mX
   exact ah af (aH aE) (by rfl) (ZO 2 (ai 0)) ⟨rfl,⟨by decide,by decide,by decide,by decide⟩,rfl,by omega,rfl,by omega,rfl,by rfl,trivial⟩
 · rw [el]
   have jQ:=uY (b:=256) (by decide) hlt
   obtain ⟨z,hz⟩:∃z,z=3* n - (dg 256 v).length:=⟨_,rfl⟩
   have hdl:=gZ (b:=256) (by decide) hlt
   rw [←hz] at jQ
   have RL:es (3* n) v (3* n)=List.replicate z 0++(dg 256 v).reverse:=by
    rw [Mn,jQ,List.reverse_append,List.reverse_replicate]
   obtain ⟨k,hk⟩:∃k,k=3* n+5:=⟨_,rfl⟩
   have l1:=bN (f:=aP MD t17 k 89 0) (S:=fun i=>⟨[(0, .pv (ni (fd (16777216:Nat) n v))),(3, .bs 8 0 1 (3* n)),(4, .pv (iv (i:Nat)))],[(8,(es (3* n) v i).map bt)],[],[]⟩) (n:=3* n) (fun i hi=>Jz k i n v hi h) (r:=(.exit 0,⟨[(0, .pv (ni (fd (16777216:Nat) n v))),(3, .bs 8 0 1 (3* n)),(4, .pv (iv (3* n:Nat))),(12, .pv (bv false))],[(8,(es (3* n) v (3* n)).map bt)],[],[]⟩))
    (by
     have:=ZH k n (3* n) ((fd (16777216:Nat) n v).map aF) ((es (3* n) v (3* n)).map bt)
     simp only [ni,bG]
     exact an this ⟨by simp,trivial⟩) (by simp) k (by omega)
   have l2:=bP (show z+1≤k by omega) (LR k z v (ni (fd (16777216:Nat) n v)) (iv (3* n:Nat)) (bv false) (by omega))
   rw [show z+(dg 256 v).length=3* n by omega] at l2
   rw [KY,RL] at l1
   simp only [ni,bG] at l1 l2 ⊢
   have Qk:cH ((List.replicate z 0++(dg 256 v).reverse).map bt) z ((dg 256 v).length* 1) ((dg 256 v).reverse.map bt):=o9 _ _ _ (by
    rw [List.drop_left' (by simp),List.take_of_length_le (by simp)])
   have hlen:IntKind.i64.wrap (3* (n:Int))=((3* n:Nat):Int):=aR (by omega) (by omega)
   cases z with
   |zero=>
    refine ah af (aH aE) (by rfl) (ZE k n _ ((fd (16777216:Nat) n v).map aF) _ _ _ (ai v) 0) ⟨hlen, ?_, ?_,kU (c:=bt),l1,l2,Qk,xF v,trivial⟩
    · refine ⟨by omega,by omega, ?_, ?_⟩
      · rw [ED];show _≤((140737488355328:Nat):Int);omega
      · show _≤((140737488355328:Nat):Int);omega
    · simp;omega
   |succ o=>
    refine ah af (aH aE) (by rfl) (ZF k n _ ((fd (16777216:Nat) n v).map aF) _ _ _ (ai v) o) ⟨hlen, ?_, ?_,kU (c:=bt),l1,l2,Qk,xF v,trivial⟩
    · refine ⟨by omega,by omega, ?_, ?_⟩
      · rw [ED];show _≤((140737488355328:Nat):Int);omega
      · show _≤((140737488355328:Nat):Int);omega
    · simp;omega
end Go.Proofs.YtibbgjafjhcemaaDoor.Cul
namespace Go.Proofs.YtibbgjafjhcemaaDoor.Cul
open Go Go.RowKit
noncomputable def P7:List PV→Option RV:=bJ (fun l:List Nat=>l.length<2^40∧bf (16777216:Nat) l) (fun l=>[ni l]) (fun l=>one (sv (ai (val (16777216:Nat) l))))
noncomputable def t18:Cl:=bI [(89,P7)]
noncomputable def vU:List PV→Option RV:=bJ (fun x:Bool×List Nat=>x.2.length<2^40∧bf (16777216:Nat) x.2) (fun x=>[bv x.1,ni x.2]) (fun x=>one (.ag (zc (if x.1 then -(val (16777216:Nat) x.2:Int) else (val (16777216:Nat) x.2:Int)))))
noncomputable def t19:Cl:=bI [(73,vU)]
theorem YY (k o m:Nat) (cs:List PV):aA MD t0 k 90 0 ⟨[(0, .bs gk o 1 m)],[(gk,cs)],[],[]⟩ [.c false]=
 some ((Xt.exit 0,St.mk [(0,AV.bs 1000000 o 1 m),(14,AV.pv (PV.lit (Value.bool false)))] [(1000000,cs)] [] []),[],[decide ((↑m:Int)>(0:Int))=false]):=by kernel_rfl
theorem YZ (k o m x:Nat) (cs:List PV):aA MD t0 k 90 0 ⟨[(0, .bs gk o 1 m)],[(gk,cs)],[],[]⟩ [.c true, .j 11 (m - 1), .e 12 (iv x), .c false]=
 some ((Xt.exit 0,St.mk [(0,AV.bs 1000000 o 1 m),(14,AV.pv (PV.lit (Value.bool false)))] [(1000000,cs)] [] []),[],[decide ((↑m:Int)>(0:Int))=true,aK (IntKind.i64.wrap ((↑m:Int) - (1:Int))) m (m - (1:Nat)),Ld MD.P 3 cs (o+(m - (1:Nat))* (1:Nat)) (PV.lit (Value.int IntKind.i64 (↑x:Int))),((↑x:Int)==(0:Int))=false]):=by kernel_rfl
theorem Y0 (k o m x:Nat) (cs:List PV):aA MD t0 k 90 0 ⟨[(0, .bs gk o 1 m)],[(gk,cs)],[],[]⟩ [.c true, .j 11 (m - 1), .e 12 (iv x), .c true, .o 19 o (m - 1)]=
 some ((Xt.normal,St.mk [(0,AV.bs 1000000 o 1 (m - (1:Nat)))] [(1000000,cs)] [] []),[],[decide ((↑m:Int)>(0:Int))=true,aK (IntKind.i64.wrap ((↑m:Int) - (1:Int))) m (m - (1:Nat)),Ld MD.P 3 cs (o+(m - (1:Nat))* (1:Nat)) (PV.lit (Value.int IntKind.i64 (↑x:Int))),((↑x:Int)==(0:Int))=true,(0:Int)≤(0:Int)∧(0:Int)≤IntKind.i64.wrap ((↑m:Int) - (1:Int))∧IntKind.i64.wrap ((↑m:Int) - (1:Int))≤(↑m:Int),o=o,(IntKind.i64.wrap ((↑m:Int) - (1:Int))).toNat - Int.toNat (0:Int)=m - (1:Nat)]):=by kernel_rfl
theorem Y1 (k o m n:Nat) (cs:List PV):mq MD t0 k 90 [.g cs o 1 n] [.l (.exit 0) ⟨[(0, .bs gk o 1 m),(14, .pv (bv false))],[(gk,cs)],[],[]⟩]=
 some ((MR.gs o m,cs),[cs.all cJ=true,cs.length=cs.length,aW MD t0 k (90:Nat) (0:Nat) (St.mk [(0,AV.bs 1000000 o 1 n)] [(1000000,cs)] [] []) (Xt.exit 0) (St.mk [(0,AV.bs 1000000 o 1 m),(14,AV.pv (PV.lit (Value.bool false)))] [(1000000,cs)] [] [])]):=by kernel_rfl
theorem Ts (k n:Nat) (s:ByteArray) (cs0 cs ds:List PV):ay MD t0 k 72 [sv s] [.i 8 (s.size+2:Nat), .i 9 n, .c false, .f cs0, .l (.exit 0) ⟨[(0, .pv (sv s)),(3, .bs 10 0 1 n),(4, .pv (iv s.size)),(14, .pv (bv false))],[(10,cs)],[],[]⟩, .f ds]=
 some (RV.mk (PV.sl 1 n ds) (some 1),[IntKind.i64.wrap ((↑s.size:Int)+(2:Int))=(↑(s.size+(2:Nat)):Int),IntKind.i64.wrap ((↑(s.size+(2:Nat)):Int).tdiv (3:Int))=(↑n:Int),false=false,(0:Int)≤(↑n:Int)∧(↑n:Int)≤(↑n:Int)∧(↑n:Int)* (↑(MD.P.bytesOf (3:Nat)):Int)≤(↑room:Int)∧(↑n:Int)≤(↑room:Int),decide ((↑n:Int)=(0:Int))=false,fP [PV.lit (Value.int IntKind.i64 (0:Int))] n cs0,aW MD t0 k (72:Nat) (0:Nat) (St.mk [(0,AV.pv (PV.lit (Value.string s))),(3,AV.bs 10 0 1 n),(4,AV.pv (PV.lit (Value.int IntKind.i64 (0:Int))))] [(10,cs0)] [] []) (Xt.exit 0) (St.mk [(0,AV.pv (PV.lit (Value.string s))),(3,AV.bs 10 0 1 n),(4,AV.pv (PV.lit (Value.int IntKind.i64 (↑s.size:Int)))),(14,AV.pv (PV.lit (Value.bool false)))] [(10,cs)] [] []),cH cs 0 (n* (1:Nat)) ds]):=by kernel_rfl
theorem Tv (k:Nat) (s:ByteArray):ay MD t0 k 72 [sv s] [.i 8 2, .i 9 0, .c true, .u 1, .c false]=
 some (RV.mk (PV.sl 1 0 []) none,[IntKind.i64.wrap ((↑s.size:Int)+(2:Int))=(2:Int),(0:Int)=(0:Int),false=false,(0:Int)≤(0:Int)∧(0:Int)≤(0:Int)∧(0:Int)* (↑(MD.P.bytesOf (3:Nat)):Int)≤(↑room:Int)∧(0:Int)≤(↑room:Int),true=true,(1:Nat)≤k,decide ((0:Int)<(↑s.size:Int))=false]):=by kernel_rfl
theorem Tt (k n i b x y:Nat) (s:ByteArray) (cs cs':List PV):aA MD t0 k 72 0 ⟨[(0, .pv (sv s)),(3, .bs 10 0 1 n),(4, .pv (iv i))],[(10,cs)],[],[]⟩ [.c true, .i 19 (s.size - 1), .i 21 (s.size - 1 - i:Nat), .i 24 (i/3:Nat), .j 25 (i/3), .e 26 (iv x), .i 29 b, .i 30 b, .i 32 (i%3:Nat), .i 33 (8*(i%3):Nat), .i 34 (256^(i%3)* b:Nat), .i 35 y, .j 36 (i/3), .s cs', .i 16 ((i+1:Nat):Int)]=
 some ((Xt.normal,St.mk [(0,AV.pv (PV.lit (Value.string s))),(3,AV.bs 10 0 1 n),(4,AV.pv (PV.lit (Value.int IntKind.i64 (↑(i+(1:Nat)):Int))))] [(10,cs')] [] []),[],[decide ((↑i:Int)<(↑s.size:Int))=true,IntKind.i64.wrap ((↑s.size:Int) - (1:Int))=(↑s.size:Int) - (1:Int),IntKind.i64.wrap ((↑s.size:Int) - (1:Int) - (↑i:Int))=(↑(s.size - (1:Nat) - i):Int),IntKind.i64.wrap ((↑i:Int).tdiv (3:Int))=(↑(i / (3:Nat)):Int),false=false,aK (↑(i / (3:Nat)):Int) n (i / (3:Nat)),Ld MD.P 3 cs ((0:Nat)+i / (3:Nat)* (1:Nat)) (PV.lit (Value.int IntKind.i64 (↑x:Int))),eE s (↑(s.size - (1:Nat) - i):Int) (↑b:Int),IntKind.i64.wrap (↑b:Int)=(↑b:Int),(↑i:Int).tmod (3:Int)=(↑(i%(3:Nat)):Int),false=false,IntKind.i64.wrap ((8:Int)* (↑(i%(3:Nat)):Int))=(↑((8:Nat)* (i%(3:Nat))):Int),IntKind.i64.wrap ((↑b:Int)* (2:Int)^min (↑((8:Nat)* (i%(3:Nat))):Int).toNat IntKind.i64.bits)=(↑((256:Nat)^(i%(3:Nat))* b):Int),decide ((↑((8:Nat)* (i%(3:Nat))):Int)<(0:Int))=false,IntKind.i64.wrap ((↑x:Int)+(↑((256:Nat)^(i%(3:Nat))* b):Int))=(↑y:Int),aK (↑(i / (3:Nat)):Int) n (i / (3:Nat)),(0:Nat)+i / (3:Nat)* (1:Nat)+(PV.lit (Value.int IntKind.i64 (↑y:Int))).cells.length≤cs.length,cg cs ((0:Nat)+i / (3:Nat)* (1:Nat)) [PV.lit (Value.int IntKind.i64 (↑y:Int))] cs',IntKind.i64.wrap ((↑i:Int)+(1:Int))=(↑(i+(1:Nat)):Int)]):=by kernel_rfl
theorem Tu (k n i:Nat) (s:ByteArray) (cs:List PV):aA MD t0 k 72 0 ⟨[(0, .pv (sv s)),(3, .bs 10 0 1 n),(4, .pv (iv i))],[(10,cs)],[],[]⟩ [.c false]=
 some ((Xt.exit 0,St.mk [(0,AV.pv (PV.lit (Value.string s))),(3,AV.bs 10 0 1 n),(4,AV.pv (PV.lit (Value.int IntKind.i64 (↑i:Int)))),(14,AV.pv (PV.lit (Value.bool false)))] [(10,cs)] [] []),[],[decide ((↑i:Int)<(↑s.size:Int))=false]):=by kernel_rfl
theorem Yy (k n:Nat) (cs:List PV) (c:Bool) (s:ByteArray):ay MD t18 k 73 [bv true, .sl 1 n cs] [.r (one (sv s)), .c c]=
 some (RV.mk (PV.ag [PV.lit (Value.bool c),PV.lit (Value.string s)]) none,[aa t18 89 [PV.sl 1 n cs] (RV.mk (PV.lit (Value.string s)) none),(!s.toList==(ByteArray.mk #[]).toList)=c]):=by kernel_rfl
theorem Yx (k n:Nat) (cs:List PV) (s:ByteArray):ay MD t18 k 73 [bv false, .sl 1 n cs] [.r (one (sv s))]=
 some (RV.mk (PV.ag [PV.lit (Value.bool false),PV.lit (Value.string s)]) none,[aa t18 89 [PV.sl 1 n cs] (RV.mk (PV.lit (Value.string s)) none)]):=by kernel_rfl
theorem Yj (k:Nat) (n u w d0 d1 d2:Int) (e:Bool) (s:ByteArray):ay MD t19 k 61 [iv n] [.i 5 u, .c true, .i 9 w, .c true, .i 14 d0, .i 18 d1, .i 22 d2, .r (one (iz e s))]=
 some (RV.mk (PV.ag [PV.lit (Value.bool e),PV.lit (Value.string s)]) none,[IntKind.u64.wrap n=u,decide (n<(0:Int))=true,IntKind.u64.wrap ((0:Int) - u)=w,decide (n<(0:Int))=true,false=false,IntKind.i64.wrap (w.tmod (16777216:Int))=d0,false=false,false=false,IntKind.i64.wrap ((IntKind.u64.wrap (w.tdiv (16777216:Int))).tmod (16777216:Int))=d1,false=false,false=false,IntKind.i64.wrap (IntKind.u64.wrap ((IntKind.u64.wrap (w.tdiv (16777216:Int))).tdiv (16777216:Int)))=d2,aa t19 73 [PV.lit (Value.bool true),PV.sl 1 3 [PV.lit (Value.int IntKind.i64 d0),PV.lit (Value.int IntKind.i64 d1),PV.lit (Value.int IntKind.i64 d2)]] (RV.mk (PV.ag [PV.lit (Value.bool e),PV.lit (Value.string s)]) none)]):=by kernel_rfl
theorem Yk (k:Nat) (n u d0 d1 d2:Int) (e:Bool) (s:ByteArray):ay MD t19 k 61 [iv n] [.i 5 u, .c false, .c false, .i 14 d0, .i 18 d1, .i 22 d2, .r (one (iz e s))]=
 some (RV.mk (PV.ag [PV.lit (Value.bool e),PV.lit (Value.string s)]) none,[IntKind.u64.wrap n=u,decide (n<(0:Int))=false,decide (n<(0:Int))=false,false=false,IntKind.i64.wrap (u.tmod (16777216:Int))=d0,false=false,false=false,IntKind.i64.wrap ((IntKind.u64.wrap (u.tdiv (16777216:Int))).tmod (16777216:Int))=d1,false=false,false=false,IntKind.i64.wrap (IntKind.u64.wrap ((IntKind.u64.wrap (u.tdiv (16777216:Int))).tdiv (16777216:Int)))=d2,aa t19 73 [PV.lit (Value.bool false),PV.sl 1 3 [PV.lit (Value.int IntKind.i64 d0),PV.lit (Value.int IntKind.i64 d1),PV.lit (Value.int IntKind.i64 d2)]] (RV.mk (PV.ag [PV.lit (Value.bool e),PV.lit (Value.string s)]) none)]):=by kernel_rfl
theorem KR {b:Nat} (hb:2≤b) {l:List Nat} (h:bf b l):dg b (val b l)=l.take (dg b (val b l)).length:=by
 have h1:l=fd b l.length (val b l):=jc (by omega) h rfl rfl
 have h2:=uY hb (cY h)
 rw [←h1] at h2
 exact ((congrArg (List.take (dg b (val b l)).length) h2).trans (List.take_left' rfl)).symm
theorem wA (k:Nat) (p:List Nat):∀(n:Nat) (l q:List Nat),l.length=n→n<2^40→bf (16777216:Nat) l→bg (aP MD t0 k 90 0) (n+1) ⟨[(0, .bs gk p.length 1 l.length)],[(gk,(p++l++q).map aF)],[],[]⟩=some (.exit 0,⟨[(0, .bs gk p.length 1 (dg (16777216:Nat) (val (16777216:Nat) l)).length),(14, .pv (bv false))],[(gk,(p++l++q).map aF)],[],[]⟩)
 |0,l,q,hl,_,_=>by
  have:l=[]:=List.length_eq_zero_iff.1 hl
  subst this
  exact aV (an (YY k p.length 0 _) ⟨rfl,trivial⟩) (by simp)
 |n+1,l,q,hl,hn,hd=>by
  have hne:l≠[]:=by intro h;subst h;simp at hl
  have e:=List.dropLast_concat_getLast hne
  obtain ⟨x,hx⟩:∃x,x=l.getLast hne:=⟨_,rfl⟩
  obtain ⟨m,hm⟩:∃m,m=l.dropLast:=⟨_,rfl⟩
  rw [←hx,←hm] at e
  subst e
  have hl':m.length=n:=by simpa using hl
  have hw:IntKind.i64.wrap (((m++[x]).length:Int) - 1)=(((m++[x]).length - 1:Nat):Int):=aR (by omega) (by omega)
  have hg:(p++(m++[x])++q)[p.length+n]? =some x:=by
   rw [List.append_assoc,List.getElem?_append_right (by omega),Nat.add_sub_cancel_left,List.append_assoc,List.getElem?_append_right (by omega),hl',Nat.sub_self];rfl
  have vc:=pW hg (o:=p.length+((m++[x]).length - 1)* 1) (by omega)
  have h0:decide (((m++[x]).length:Int)>0)=true:=decide_eq_true (by omega)
  have ha:aK (IntKind.i64.wrap (((m++[x]).length:Int) - 1)) (m++[x]).length ((m++[x]).length - 1):=⟨hw,by omega⟩
  by_cases h:x=0
  · subst h
    refine bn (an (Y0 k p.length _ 0 _) ⟨h0,ha,vc,rfl,⟨by omega,by omega,by omega⟩,rfl, ?_,trivial⟩) ?_
    · rw [hw];simp
    · have:=wA k p n m (0::q) hl' (by omega) hd.left
      have e1:p++(m++[0])++q=p++m++0::q:=by simp
      have e2:(m++[0]).length - 1=m.length:=by simp
      rw [r7,e1,e2]
      exact this
  · have:=aV (n:=n+1) (an (YZ k p.length (m++[x]).length x _) ⟨h0,ha,vc,beq_false_of_ne (by omega),trivial⟩) (by simp)
    rw [Dh (by decide) hd (.inr ⟨m,x,rfl,by omega⟩)]
    exact this
theorem gl (l:List Nat):(l.map aF).all cJ=true:=FO (fun _=>rfl) l
theorem Jh (p l:List Nat) (h:l.length<2^40) (hd:bf (16777216:Nat) l):jb P0 90 [.g ((p++l).map aF) p.length 1 l.length] (.gs p.length (dg (16777216:Nat) (val (16777216:Nat) l)).length) ((p++l).map aF):=by
 have:=wA (l.length+1) p l.length l [] rfl h hd
 rw [List.append_nil] at this
 exact jJ af (aH aE) (by rfl) (Y1 (l.length+1) p.length _ l.length _) ⟨gl _,rfl,this,trivial⟩
noncomputable def A1:List MA→Option (MR×List PV):=yz (fun x:List Nat×List Nat=>x.2.length<2^40∧bf (16777216:Nat) x.2) (fun x=>[.g ((x.1++x.2).map aF) x.1.length 1 x.2.length]) (fun x=>(.gs x.1.length (dg (16777216:Nat) (val (16777216:Nat) x.2)).length,(x.1++x.2).map aF))
theorem yt {p l:List Nat} (h:l.length<2^40) (hd:bf (16777216:Nat) l):A1 [.g ((p++l).map aF) p.length 1 l.length]=some (.gs p.length (dg (16777216:Nat) (val (16777216:Nat) l)).length,(p++l).map aF):=
 v5 (a:=(p,l)) (enc:=fun x:List Nat×List Nat=>[.g ((x.1++x.2).map aF) x.1.length 1 x.2.length]) (fun a b e=>by
  simp only [List.cons.injEq,and_true,MA.g.injEq,true_and] at e
  have h1:=ug e.1
  have h2:=List.append_inj h1 e.2.1
  have:a=b:=Prod.ext h2.1 h2.2
  rw [this]) ⟨h,hd⟩
theorem GH:∀ms r cs',A1 ms=some (r,cs')→jb P0 90 ms r cs':=v7 fun x h=>Jh x.1 x.2 h.1 h.2
theorem Eg {b r:Nat} (hb:b<256) (hr:r<3):IntKind.i64.wrap ((b:Int)* (2:Int)^min ((8* r:Nat):Int).toNat IntKind.i64.bits)=((256^r* b:Nat):Int):=by
 have e:min ((8* r:Nat):Int).toNat IntKind.i64.bits=8* r:=by
  rw [Int.toNat_natCast];show min (8* r) 64=8* r;omega
 rw [e]
 have e2:(2:Int)^(8* r)=((256^r:Nat):Int):=by
  rw [Int.pow_mul];simp
 rw [e2]
 have h1:256^r* b<2^24:=by
  have:256^r≤256^2:=Nat.pow_le_pow_right (by omega) (by omega)
  calc 256^r* b≤256^2* 255:=Nat.mul_le_mul this (by omega)
   _<2^24:=by decide
 exact aR (by rw [Int.mul_comm];simp) (by omega)
theorem EN (k i n:Nat) (s:ByteArray) (hi:i<s.size) (hs:s.size<2^30) (hn:n=(s.size+2) / 3):aP MD t0 k 72 0 ⟨[(0, .pv (sv s)),(3, .bs 10 0 1 n),(4, .pv (iv i))],[(10,(bE 3 (aT s) i n).map aF)],[],[]⟩=some (.normal,⟨[(0, .pv (sv s)),(3, .bs 10 0 1 n),(4, .pv (iv (i+1:Nat)))],[(10,(bE 3 (aT s) (i+1) n).map aF)],[],[]⟩):=by
 obtain ⟨b,hb,ck⟩:=lY hi
 have nR:b<256:=ec s b (List.mem_of_getElem? hb)
 have hd:=ec s
 have hin:i / 3<n:=by omega
 have hx:(bE 3 (aT s) i n)[i / 3]? =some (cellAt 3 (aT s) i (i / 3)):=by simp [bE,hin]
 have hlt:=qU (c:=3) hd i (i / 3)
 have hm:min 3 (i - 3* (i / 3))=i%3:=by omega
 rw [hm] at hlt
 have hr:i%3<3:=by omega
 have hp:256^(i%3)* 256≤2^24:=by
  have:256^(i%3)≤256^2:=Nat.pow_le_pow_right (by omega) (by omega)
  omega
 have hsum:cellAt 3 (aT s) i (i / 3)+256^(i%3)* b<2^24:=by
  have h1:256^(i%3)* (b+1)≤256^(i%3)* 256:=Nat.mul_le_mul_left _ (by omega)
  rw [Nat.mul_add] at h1
  omega
 have vc:=pW hx (o:=0+i / 3* 1) (by omega)
 have Aa:eE s ((s.size - 1 - i:Nat):Int) (b:Int):=by
  show jg s _=_
  unfold jg
  rw [if_pos (by omega),Int.toNat_natCast]
  cases h:s[s.size - 1 - i]? with
  |none=>rw [h] at ck;simp at ck
  |some c=>rw [h] at ck;simp at ck;simp [ck]
 have h1:IntKind.i64.wrap ((i:Int).tdiv 3)=((i / 3:Nat):Int):=aR (gX i 3) (by omega)
 have h2:(i:Int).tmod 3=((i%3:Nat):Int):=fl i 3
 have h3:IntKind.i64.wrap ((s.size:Int) - 1)=(s.size:Int) - 1:=by rw [wrap64]<;>omega
 have Pp:IntKind.i64.wrap (((cellAt 3 (aT s) i (i / 3):Nat):Int)+((256^(i%3)* b:Nat):Int))=((cellAt 3 (aT s) i (i / 3)+256^(i%3)* b:Nat):Int):=aR (by simp) (by omega)
 have h6:0+i / 3* 1+(aF (cellAt 3 (aT s) i (i / 3)+256^(i%3)* b)).cells.length≤((bE 3 (aT s) i n).map aF).length:=by
  rw [List.length_map,dZ]
  show _+1≤_
  omega
 have h5:cg ((bE 3 (aT s) i n).map aF) (0+i / 3* 1) [aF (cellAt 3 (aT s) i (i / 3)+256^(i%3)* b)] ((bE 3 (aT s) (i+1) n).map aF):=mw (qV (by omega) hb) (by rw [dZ];exact hin) (by omega)
 exact an (Tt k n i b (cellAt 3 (aT s) i (i / 3)) (cellAt 3 (aT s) i (i / 3)+256^(i%3)* b) s _ ((bE 3 (aT s) (i+1) n).map aF)) ⟨decide_eq_true (by omega),h3,aR (by omega) (by omega),h1,rfl,⟨rfl,hin⟩,vc,Aa,aR rfl (by omega),h2,rfl,aR (by omega) (by omega),Eg nR hr,decide_eq_false (by omega),Pp,⟨rfl,hin⟩,h6,h5,aR (by omega) (by omega),trivial⟩
theorem ER (v:Nat):bE 3 (dg 256 v) (dg 256 v).length (((dg 256 v).length+2) / 3)=dg (16777216:Nat) v:=by
 obtain ⟨n,hn⟩:∃n,n=((dg 256 v).length+2) / 3:=⟨_,rfl⟩
 rw [←hn]
 have hend:=oo (c:=3) (by omega) n (dg 256 v) (by omega)
 rw [bS (by decide)] at hend
 have Ie:=td (c:=3) (bW (b:=256) (by decide) v) (dg 256 v).length n
 rw [show (256:Nat)^3=(16777216:Nat) by decide] at hend Ie
 have h1:=jc (by decide) Ie (dZ _ _ _ _) hend
 have hlt:v<(16777216:Nat)^n:=by have:=cY Ie;rw [hend,dZ] at this;exact this
 rw [h1,uY (by decide) hlt]
 have hle:=gZ (b:=(16777216:Nat)) (by decide) hlt
 have hge:n≤(dg (16777216:Nat) v).length:=by
  rcases Nat.eq_zero_or_pos v with rfl|hv
  · rw [dM] at hn ⊢;simp at hn;omega
  · have h2:=nN (b:=256) (by decide) hv
    have h3:v<256^(3* (dg (16777216:Nat) v).length):=by
     have:=cE (b:=(16777216:Nat)) (n:=v) (by decide)
     rwa [Nat.pow_mul,show (256:Nat)^3=(16777216:Nat) by decide]
    have:(dg 256 v).length - 1<3* (dg (16777216:Nat) v).length:=by
     apply Classical.byContradiction
     intro hc
     have:=Nat.pow_le_pow_right (n:=256) (by decide) (Nat.le_of_not_lt hc)
     omega
    omega
 have:n - (dg (16777216:Nat) v).length=0:=by omega
 rw [this];simp
theorem BF (s:ByteArray) (h:s.size=0):az P0 72 [sv s] (one (ni (dg (16777216:Nat) (bM s)))):=by
 have hv:bM s=0:=by
  have e:aT s=[]:=List.length_eq_zero_iff.1 (by rw [bO];exact h)
  simp [bM,e,val]
 rw [hv]
 refine ah af (aH aE) (by rfl) (Tv 1 s) ⟨?_,rfl,rfl,⟨by decide,by decide,by decide,by decide⟩,rfl,by omega,decide_eq_false (by omega),trivial⟩
 rw [h];rfl
theorem vM (v:Nat) (hs:(ai v).size<2^30) (h0:0<v):az P0 72 [sv (ai v)] ⟨ni (dg (16777216:Nat) v),some 1⟩:=by
 have hsz:(ai v).size=(dg 256 v).length:=lZ
 have hb:=cV v
 obtain ⟨n,hn⟩:∃n,n=((ai v).size+2) / 3:=⟨_,rfl⟩
 have hn0:0<(ai v).size:=by
  rw [hsz]
  have:=dz (b:=256) (by decide) h0
  rw [this];simp
 have hend:bE 3 (aT (ai v)) (ai v).size n=dg (16777216:Nat) v:=by rw [hb,hsz,hn,hsz];exact ER v
 have hlen:(dg (16777216:Nat) v).length=n:=by rw [←hend,dZ]
 have lp:=bN (f:=aP MD t0 ((ai v).size+1) 72 0) (S:=fun i=>⟨[(0, .pv (sv (ai v))),(3, .bs 10 0 1 n),(4, .pv (iv i))],[(10,(bE 3 (aT (ai v)) i n).map aF)],[],[]⟩) (n:=(ai v).size) (fun i hi=>EN _ i n _ hi hs hn) (an (Tu _ n _ _ _) ⟨decide_eq_false (by omega),trivial⟩) (by simp) ((ai v).size+1) (by omega)
 rw [qW,hend] at lp
 have h1:IntKind.i64.wrap (((ai v).size:Int)+2)=(((ai v).size+2:Nat):Int):=aR (by omega) (by omega)
 have h2:IntKind.i64.wrap ((((ai v).size+2:Nat):Int).tdiv 3)=(n:Int):=aR (by rw [hn];exact gX _ 3) (by omega)
 have:=ah af (aH aE) (by rfl) (Ts ((ai v).size+1) n (ai v) ((List.replicate n 0).map aF) ((dg (16777216:Nat) v).map aF) ((dg (16777216:Nat) v).map aF)) ⟨h1,h2,rfl,⟨by omega,by omega,by rw [EC];show _≤((140737488355328:Nat):Int);omega,by show _≤((140737488355328:Nat):Int);omega⟩,decide_eq_false (by omega),kU (c:=aF),lp,o9 _ 0 (n* 1) (by rw [List.drop_zero,List.take_of_length_le (by omega)]),trivial⟩
 unfold ni
 rw [hlen]
 exact this
theorem L7 {l:List Nat} (h:l.length<2^40) (hd:bf (16777216:Nat) l):P7 [ni l]=some (one (sv (ai (val (16777216:Nat) l)))):=
 aM (enc:=fun l:List Nat=>[ni l]) (fun a b e=>by rw [rL (List.cons.inj e).1]) ⟨h,hd⟩
theorem GX:aI MD.P t18:=aH (aj (au fun l h=>Gr l h.1 h.2) aE)
theorem qt (g:Bool) (l:List Nat) (h:l.length<2^40) (hd:bf (16777216:Nat) l):az P0 73 [bv g,ni l] (one (.ag (zc (if g then -(val (16777216:Nat) l:Int) else (val (16777216:Nat) l:Int))))):=by
 have hb:=L7 h hd
 cases g with
 |false=>
  simp only [Bool.false_eq_true,if_false]
  have:=ah af GX (by rfl) (Yx 1 _ _ _) ⟨hb,trivial⟩
  have e:zc (val (16777216:Nat) l:Int)=[bv false,sv (ai (val (16777216:Nat) l))]:=by
   simp only [zc,Int.natAbs_natCast]
   rw [decide_eq_false (by omega)]
  rw [e];exact this
 |true=>
  simp only [if_true]
  have:=ah af GX (by rfl) (Yy 1 _ _ (!decide ((ai (val (16777216:Nat) l)).size=0)) _) ⟨hb,by rw [cL],trivial⟩
  have e:zc (-(val (16777216:Nat) l:Int))=[bv (!decide ((ai (val (16777216:Nat) l)).size=0)),sv (ai (val (16777216:Nat) l))]:=by
   simp only [zc,Int.natAbs_neg,Int.natAbs_natCast,List.cons.injEq,and_true]
   congr 1
   by_cases h0:(ai (val (16777216:Nat) l)).size=0
   · have:=qf h0;rw [this];rfl
   · have:val (16777216:Nat) l≠0:=fun e=>h0 (by rw [e];rfl)
     rw [decide_eq_true (by omega),decide_eq_false h0];rfl
  rw [e];exact this
theorem yu {g:Bool} {l:List Nat} (h:l.length<2^40) (hd:bf (16777216:Nat) l):vU [bv g,ni l]=some (one (.ag (zc (if g then -(val (16777216:Nat) l:Int) else (val (16777216:Nat) l:Int))))):=
 aM (a:=(g,l)) (enc:=fun x:Bool×List Nat=>[bv x.1,ni x.2]) (fun a b e=>by
  simp only [List.cons.injEq,and_true] at e
  have:a=b:=Prod.ext (EB e.1) (rL e.2)
  rw [this]) ⟨h,hd⟩
theorem GY:aI MD.P t19:=aH (aj (au fun x h=>qt x.1 x.2 h.1 h.2) aE)
theorem AZ (n:Int) (h1: -(2^63)≤n) (h2:n<2^63):az P0 61 [iv n] (one (.ag (zc n))):=by
 obtain ⟨m,hm⟩:∃m:Nat,m=n.natAbs:=⟨_,rfl⟩
 have hd:bf (16777216:Nat) [m%(16777216:Nat),m / (16777216:Nat)%(16777216:Nat),m / (16777216:Nat) / (16777216:Nat)]:=by
  intro x hx
  simp at hx
  omega
 have hv:val (16777216:Nat) [m%(16777216:Nat),m / (16777216:Nat)%(16777216:Nat),m / (16777216:Nat) / (16777216:Nat)]=m:=by simp [val];omega
 have hT:=fun g=>yu (g:=g) (l:=[m%(16777216:Nat),m / (16777216:Nat)%(16777216:Nat),m / (16777216:Nat) / (16777216:Nat)]) (by simp) hd
 rw [hv] at hT
 have e0:IntKind.i64.wrap ((m:Int).tmod 16777216)=((m%(16777216:Nat):Nat):Int):=aR (fl m (16777216:Nat)) (by omega)
 have e1:IntKind.u64.wrap ((m:Int).tdiv 16777216)=((m / (16777216:Nat):Nat):Int):=bz (gX m (16777216:Nat)) (by omega)
 have e2:IntKind.i64.wrap (((m / (16777216:Nat):Nat):Int).tmod 16777216)=((m / (16777216:Nat)%(16777216:Nat):Nat):Int):=aR (fl (m / (16777216:Nat)) (16777216:Nat)) (by omega)
 have e3:IntKind.u64.wrap (((m / (16777216:Nat):Nat):Int).tdiv 16777216)=((m / (16777216:Nat) / (16777216:Nat):Nat):Int):=bz (gX (m / (16777216:Nat)) (16777216:Nat)) (by omega)
 have e4:IntKind.i64.wrap (((m / (16777216:Nat) / (16777216:Nat):Nat):Int))=((m / (16777216:Nat) / (16777216:Nat):Nat):Int):=aR rfl (by omega)
 by_cases hn:n<0
 · have:=hT true
   simp only [if_true] at this
   rw [show -(m:Int)=n by omega] at this
   exact ah af GY (by rfl) (Yj 1 n (n+18446744073709551616) (m:Int) _ _ _ _ _) ⟨by rw [wrap_u64];omega,decide_eq_true hn,by rw [wrap_u64];omega,decide_eq_true hn,rfl,e0,rfl,rfl,by rw [e1];exact e2,rfl,rfl,by rw [e1,e3];exact e4,this,trivial⟩
 · have:=hT false
   simp only [Bool.false_eq_true,if_false] at this
   rw [show (m:Int)=n by omega] at this
   exact ah af GY (by rfl) (Yk 1 n (m:Int) _ _ _ _ _) ⟨by rw [wrap_u64];omega,decide_eq_false hn,decide_eq_false hn,rfl,e0,rfl,rfl,by rw [e1];exact e2,rfl,rfl,by rw [e1,e3];exact e4,this,trivial⟩
end Go.Proofs.YtibbgjafjhcemaaDoor.Cul
namespace Go.Proofs.YtibbgjafjhcemaaDoor.Cul
def bY (b n i v:Nat):List Nat:=fd b i v++List.replicate (n - i) 0
theorem eu {b n i v:Nat} (h:i≤n):(bY b n i v).length=n:=by simp [bY,bG];omega
theorem jF (b n v:Nat):bY b n 0 v=List.replicate n 0:=by simp [bY,fd]
theorem oK (b n v:Nat):bY b n n v=fd b n v:=by simp [bY]
theorem Cb (b:Nat):∀(i v:Nat),fd b (i+1) v=fd b i v++[v / b^i%b]
 |0,v=>by simp [fd]
 |i+1,v=>by
  have h:fd b (i+1+1) v=v%b::fd b (i+1) (v / b):=rfl
  have h2:fd b (i+1) v=v%b::fd b i (v / b):=rfl
  rw [h,h2,Cb b i (v / b),Nat.div_div_eq_div_mul,Nat.pow_succ,Nat.mul_comm b];rfl
theorem iK {b n i v:Nat} (h:i<n):(bY b n i v).set i (v / b^i%b)=bY b n (i+1) v:=by
 unfold bY
 rw [Cb]
 obtain ⟨m,hm⟩:∃m,n - i=m+1:=⟨n - i - 1,by omega⟩
 have hm2:n - (i+1)=m:=by omega
 rw [hm,hm2,List.replicate_succ]
 rw [List.set_append_right _ _ (by rw [bG];omega),bG,Nat.sub_self,List.set_cons_zero,List.append_assoc];rfl
theorem Pe {b:Nat} (hb:2≤b) (v:Nat):dg b v=fd b (dg b v).length v:=jc (by omega) (bW hb v) rfl (bS hb v)
theorem iJ {b v i:Nat} (hb:2≤b) (h:i<(dg b v).length):(dg b v)[i]? =some (v / b^i%b):=by
 rw [Pe hb v];exact g8 h
theorem l7 {b v i:Nat} (hb:2≤b) (h:(dg b v).length≤i):v / b^i=0:=by
 rw [Nat.div_eq_zero_iff]
 right
 exact Nat.lt_of_lt_of_le (cE hb) (Nat.pow_le_pow_right (by omega) h)
theorem cu (v b i:Nat):v / b^(i+1)=v / b^i / b:=by rw [Nat.pow_succ,Nat.div_div_eq_div_mul]
theorem zi (a b:Nat):∀i,a / (16777216:Nat)^i+b / (16777216:Nat)^i≤(a+b) / (16777216:Nat)^i∧(a+b) / (16777216:Nat)^i≤a / (16777216:Nat)^i+b / (16777216:Nat)^i+1
 |0=>by simp
 |i+1=>by
  have:=zi a b i
  rw [cu,cu,cu]
  omega
theorem Jr (a e:Nat) (he:e≤1):∀i,2* (a / (16777216:Nat)^i)≤(2* a+e) / (16777216:Nat)^i∧(2* a+e) / (16777216:Nat)^i≤2* (a / (16777216:Nat)^i)+1
 |0=>by simp;omega
 |i+1=>by
  have:=Jr a e he i
  rw [cu,cu]
  omega
theorem dc {b x y:Nat} (hb:2≤b) (h:x≤y):(dg b x).length≤(dg b y).length:=
 gZ hb (Nat.lt_of_le_of_lt h (cE hb))
theorem uc {b n v:Nat} (hb:2≤b) (h:v<b^n):(fd b n v).take (dg b v).length=dg b v:=by
 rw [uY hb h];exact List.take_left' rfl
theorem EM {b x y:Nat} (hb:2≤b) (h:(dg b x).length<(dg b y).length):x<y:=by
 have h1:=cE (b:=b) (n:=x) hb
 rcases Nat.eq_zero_or_pos y with rfl|hy
 · simp [dM] at h
 · have h2:=nN (b:=b) hb hy
   have:b^(dg b x).length≤b^((dg b y).length - 1):=Nat.pow_le_pow_right (by omega) (by omega)
   omega
end Go.Proofs.YtibbgjafjhcemaaDoor.Cul
namespace Go.Proofs.YtibbgjafjhcemaaDoor.Cul
open Go Go.RowKit
noncomputable def t20:Cl:=xy [] [(90,A1)] []
noncomputable def t21:Cl:=bI [(58,ff)]
theorem WK (k:Nat) (u m1 m2 m3 m4:Int) (s:ByteArray):ay MD t21 k 88 [iz true s] [.r (one (bv true)), .c false, .l (.exit 0) ⟨[(1, .bp 1 0),(4, .pv (.lit (.int .u64 u))),(5, .pv (iv s.size)),(19, .pv (bv false))],[(1,[bv true,sv s])],[],[]⟩, .c true, .i 38 m1, .i 39 m2, .i 40 m3, .i 41 m4]=
 some (RV.mk (PV.aG [PV.lit (Value.int IntKind.i64 m4),PV.lit (Value.bool true)]) none,[aa t21 58 [PV.ag [PV.lit (Value.bool true),PV.lit (Value.string s)]] (RV.mk (PV.lit (Value.bool true)) none),decide ((↑s.size:Int)>(8:Int))=false,aW MD t21 k (88:Nat) (0:Nat) (St.mk [(1,AV.bp 1 0),(4,AV.pv (PV.lit (Value.int IntKind.u64 (0:Int)))),(5,AV.pv (PV.lit (Value.int IntKind.i64 (0:Int))))] [(1,[PV.lit (Value.bool true),PV.lit (Value.string s)])] [] []) (Xt.exit 0) (St.mk [(1,AV.bp 1 0),(4,AV.pv (PV.lit (Value.int IntKind.u64 u))),(5,AV.pv (PV.lit (Value.int IntKind.i64 (↑s.size:Int)))),(19,AV.pv (PV.lit (Value.bool false)))] [(1,[PV.lit (Value.bool true),PV.lit (Value.string s)])] [] []),decide (u≤(9223372036854775808:Int))=true,IntKind.u64.wrap (u - (1:Int))=m1,IntKind.i64.wrap m1=m2,IntKind.i64.wrap ((0:Int) - m2)=m3,IntKind.i64.wrap (m3 - (1:Int))=m4]):=by kernel_rfl
theorem WL (k:Nat) (u m1:Int) (s:ByteArray):ay MD t21 k 88 [iz false s] [.r (one (bv true)), .c false, .l (.exit 0) ⟨[(1, .bp 1 0),(4, .pv (.lit (.int .u64 u))),(5, .pv (iv s.size)),(19, .pv (bv false))],[(1,[bv false,sv s])],[],[]⟩, .c true, .i 51 m1]=
 some (RV.mk (PV.aG [PV.lit (Value.int IntKind.i64 m1),PV.lit (Value.bool true)]) none,[aa t21 58 [PV.ag [PV.lit (Value.bool false),PV.lit (Value.string s)]] (RV.mk (PV.lit (Value.bool true)) none),decide ((↑s.size:Int)>(8:Int))=false,aW MD t21 k (88:Nat) (0:Nat) (St.mk [(1,AV.bp 1 0),(4,AV.pv (PV.lit (Value.int IntKind.u64 (0:Int)))),(5,AV.pv (PV.lit (Value.int IntKind.i64 (0:Int))))] [(1,[PV.lit (Value.bool false),PV.lit (Value.string s)])] [] []) (Xt.exit 0) (St.mk [(1,AV.bp 1 0),(4,AV.pv (PV.lit (Value.int IntKind.u64 u))),(5,AV.pv (PV.lit (Value.int IntKind.i64 (↑s.size:Int)))),(19,AV.pv (PV.lit (Value.bool false)))] [(1,[PV.lit (Value.bool false),PV.lit (Value.string s)])] [] []),decide (u<(9223372036854775808:Int))=true,IntKind.i64.wrap u=m1]):=by kernel_rfl
theorem WM (k i b:Nat) (u u1 u2:Int) (g:Bool) (s:ByteArray):aA MD t21 k 88 0 ⟨[(1, .bp 1 0),(4, .pv (.lit (.int .u64 u))),(5, .pv (iv i))],[(1,[bv g,sv s])],[],[]⟩ [.c true, .i 23 u1, .i 27 b, .i 28 b, .i 29 u2, .i 21 (i+1:Nat)]=
 some ((Xt.normal,St.mk [(1,AV.bp 1 0),(4,AV.pv (PV.lit (Value.int IntKind.u64 u2))),(5,AV.pv (PV.lit (Value.int IntKind.i64 (↑(i+(1:Nat)):Int))))] [(1,[PV.lit (Value.bool g),PV.lit (Value.string s)])] [] []),[],[decide ((↑i:Int)<(↑s.size:Int))=true,IntKind.u64.wrap (u* (2:Int)^min (Int.toNat (8:Int)) IntKind.u64.bits)=u1,false=false,eE s (↑i:Int) (↑b:Int),IntKind.u64.wrap (↑b:Int)=(↑b:Int),IntKind.u64.wrap (u1+(↑b:Int))=u2,IntKind.i64.wrap ((↑i:Int)+(1:Int))=(↑(i+(1:Nat)):Int)]):=by kernel_rfl
theorem WN (k i:Nat) (u:Int) (g:Bool) (s:ByteArray):aA MD t21 k 88 0 ⟨[(1, .bp 1 0),(4, .pv (.lit (.int .u64 u))),(5, .pv (iv i))],[(1,[bv g,sv s])],[],[]⟩ [.c false]=
 some ((Xt.exit 0,St.mk [(1,AV.bp 1 0),(4,AV.pv (PV.lit (Value.int IntKind.u64 u))),(5,AV.pv (PV.lit (Value.int IntKind.i64 (↑i:Int)))),(19,AV.pv (PV.lit (Value.bool false)))] [(1,[PV.lit (Value.bool g),PV.lit (Value.string s)])] [] []),[],[decide ((↑i:Int)<(↑s.size:Int))=false]):=by kernel_rfl
noncomputable def FD:List PV→Option RV:=bJ (fun z:Int=>(ai z.natAbs).size≤7) (fun z=>[.ag (zc z)]) (fun z=>one (.aG [iv z,bv true]))
noncomputable def t22:Cl:=bI [(88,FD)]
theorem Tx (k:Nat) (g:Bool) (s:ByteArray) (z:Int):ay MD t22 k 71 [iz g s] [.c false, .r (one (.aG [iv z,bv true]))]=
 some (RV.mk (PV.aG [PV.lit (Value.int IntKind.i64 z),PV.lit (Value.bool true)]) none,[decide ((↑s.size:Int)>(7:Int))=false,aa t22 88 [PV.ag [PV.lit (Value.bool g),PV.lit (Value.string s)]] (RV.mk (PV.aG [PV.lit (Value.int IntKind.i64 z),PV.lit (Value.bool true)]) none)]):=by kernel_rfl
theorem XS (k n m r:Nat) (c:Int) (cs ds cs0 es fs gs:List PV):ay MD t20 k 74 [.sl 1 n cs, .sl 1 m ds] [.c false, .i 17 (n+1:Nat), .c false, .f cs0, .l (.exit 0) ⟨[(0, .pv (.sl 1 n cs)),(1, .pv (.sl 1 m ds)),(5, .bs 18 0 1 (n+1)),(6, .pv (iv c)),(7, .pv (iv n)),(22, .pv (bv false))],[(18,es)],[],[]⟩, .j 52 n, .s fs, .m (.gs 0 r) fs, .f gs]=
 some (RV.mk (PV.sl 1 r gs) (some 1),[decide ((↑n:Int)<(↑m:Int))=false,IntKind.i64.wrap ((↑n:Int)+(1:Int))=(↑(n+(1:Nat)):Int),(0:Int)≤(↑(n+(1:Nat)):Int)∧(↑(n+(1:Nat)):Int)≤(↑(n+(1:Nat)):Int)∧(↑(n+(1:Nat)):Int)* (↑(MD.P.bytesOf (3:Nat)):Int)≤(↑room:Int)∧(↑(n+(1:Nat)):Int)≤(↑room:Int),decide ((↑(n+(1:Nat)):Int)=(0:Int))=false,fP [PV.lit (Value.int IntKind.i64 (0:Int))] (↑(n+(1:Nat)):Int).toNat cs0,aW MD t20 k (74:Nat) (0:Nat) (St.mk [(0,AV.pv (PV.sl 1 n cs)),(1,AV.pv (PV.sl 1 m ds)),(5,AV.bs 18 0 1 (↑(n+(1:Nat)):Int).toNat),(6,AV.pv (PV.lit (Value.int IntKind.i64 (0:Int)))),(7,AV.pv (PV.lit (Value.int IntKind.i64 (0:Int))))] [(18,cs0)] [] []) (Xt.exit 0) (St.mk [(0,AV.pv (PV.sl 1 n cs)),(1,AV.pv (PV.sl 1 m ds)),(5,AV.bs 18 0 1 (n+(1:Nat))),(6,AV.pv (PV.lit (Value.int IntKind.i64 c))),(7,AV.pv (PV.lit (Value.int IntKind.i64 (↑n:Int)))),(22,AV.pv (PV.lit (Value.bool false)))] [(18,es)] [] []),aK (↑n:Int) (n+(1:Nat)) n,(0:Nat)+n* (1:Nat)+(iv c).cells.length≤es.length,cg es ((0:Nat)+n* (1:Nat)) [PV.lit (Value.int IntKind.i64 c)] fs,eH t20 90 [MA.g fs 0 1 (n+(1:Nat))] (MR.gs 0 r) fs,cH fs 0 (r* ((18:Nat),(1:Nat)).snd) gs]):=by kernel_rfl
theorem XT (k n m r:Nat) (c:Int) (cs ds cs0 es fs gs:List PV):ay MD t20 k 74 [.sl 1 m ds, .sl 1 n cs] [.c true, .i 17 (n+1:Nat), .c false, .f cs0, .l (.exit 0) ⟨[(0, .pv (.sl 1 n cs)),(1, .pv (.sl 1 m ds)),(5, .bs 18 0 1 (n+1)),(6, .pv (iv c)),(7, .pv (iv n)),(22, .pv (bv false))],[(18,es)],[],[]⟩, .j 52 n, .s fs, .m (.gs 0 r) fs, .f gs]=
 some (RV.mk (PV.sl 1 r gs) (some 1),[decide ((↑m:Int)<(↑n:Int))=true,IntKind.i64.wrap ((↑n:Int)+(1:Int))=(↑(n+(1:Nat)):Int),(0:Int)≤(↑(n+(1:Nat)):Int)∧(↑(n+(1:Nat)):Int)≤(↑(n+(1:Nat)):Int)∧(↑(n+(1:Nat)):Int)* (↑(MD.P.bytesOf (3:Nat)):Int)≤(↑room:Int)∧(↑(n+(1:Nat)):Int)≤(↑room:Int),decide ((↑(n+(1:Nat)):Int)=(0:Int))=false,fP [PV.lit (Value.int IntKind.i64 (0:Int))] (↑(n+(1:Nat)):Int).toNat cs0,aW MD t20 k (74:Nat) (0:Nat) (St.mk [(0,AV.pv (PV.sl 1 n cs)),(1,AV.pv (PV.sl 1 m ds)),(5,AV.bs 18 0 1 (↑(n+(1:Nat)):Int).toNat),(6,AV.pv (PV.lit (Value.int IntKind.i64 (0:Int)))),(7,AV.pv (PV.lit (Value.int IntKind.i64 (0:Int))))] [(18,cs0)] [] []) (Xt.exit 0) (St.mk [(0,AV.pv (PV.sl 1 n cs)),(1,AV.pv (PV.sl 1 m ds)),(5,AV.bs 18 0 1 (n+(1:Nat))),(6,AV.pv (PV.lit (Value.int IntKind.i64 c))),(7,AV.pv (PV.lit (Value.int IntKind.i64 (↑n:Int)))),(22,AV.pv (PV.lit (Value.bool false)))] [(18,es)] [] []),aK (↑n:Int) (n+(1:Nat)) n,(0:Nat)+n* (1:Nat)+(iv c).cells.length≤es.length,cg es ((0:Nat)+n* (1:Nat)) [PV.lit (Value.int IntKind.i64 c)] fs,eH t20 90 [MA.g fs 0 1 (n+(1:Nat))] (MR.gs 0 r) fs,cH fs 0 (r* ((18:Nat),(1:Nat)).snd) gs]):=by kernel_rfl
theorem S4 (k n m i x y:Nat) (c c1 c2 c3 d:Int) (cs ds es es':List PV):aA MD t20 k 74 0 ⟨[(0, .pv (.sl 1 n cs)),(1, .pv (.sl 1 m ds)),(5, .bs 18 0 1 (n+1)),(6, .pv (iv c)),(7, .pv (iv i))],[(18,es)],[],[]⟩ [.c true, .a 28 [iv x], .i 30 c1, .c true, .a 38 [iv y], .i 40 c2, .i 44 d, .j 45 i, .s es', .i 47 c3, .i 24 (i+1:Nat)]=
 some ((Xt.normal,St.mk [(0,AV.pv (PV.sl 1 n cs)),(1,AV.pv (PV.sl 1 m ds)),(5,AV.bs 18 0 1 (n+(1:Nat))),(6,AV.pv (PV.lit (Value.int IntKind.i64 c3))),(7,AV.pv (PV.lit (Value.int IntKind.i64 (↑(i+(1:Nat)):Int))))] [(18,es')] [] []),[],[decide ((↑i:Int)<(↑n:Int))=true,aL cs 1 (↑i:Int) n [PV.lit (Value.int IntKind.i64 (↑x:Int))],IntKind.i64.wrap (c+(↑x:Int))=c1,decide ((↑i:Int)<(↑m:Int))=true,aL ds 1 (↑i:Int) m [PV.lit (Value.int IntKind.i64 (↑y:Int))],IntKind.i64.wrap (c1+(↑y:Int))=c2,c2.tmod (16777216:Int)=d,false=false,aK (↑i:Int) (n+(1:Nat)) i,(0:Nat)+i* (1:Nat)+(PV.lit (Value.int IntKind.i64 d)).cells.length≤es.length,cg es ((0:Nat)+i* (1:Nat)) [PV.lit (Value.int IntKind.i64 d)] es',IntKind.i64.wrap (c2.tdiv (16777216:Int))=c3,false=false,IntKind.i64.wrap ((↑i:Int)+(1:Int))=(↑(i+(1:Nat)):Int)]):=by kernel_rfl
theorem S5 (k n m i x:Nat) (c c1 c3 d:Int) (cs ds es es':List PV):aA MD t20 k 74 0 ⟨[(0, .pv (.sl 1 n cs)),(1, .pv (.sl 1 m ds)),(5, .bs 18 0 1 (n+1)),(6, .pv (iv c)),(7, .pv (iv i))],[(18,es)],[],[]⟩ [.c true, .a 28 [iv x], .i 30 c1, .c false, .i 44 d, .j 45 i, .s es', .i 47 c3, .i 24 (i+1:Nat)]=
 some ((Xt.normal,St.mk [(0,AV.pv (PV.sl 1 n cs)),(1,AV.pv (PV.sl 1 m ds)),(5,AV.bs 18 0 1 (n+(1:Nat))),(6,AV.pv (PV.lit (Value.int IntKind.i64 c3))),(7,AV.pv (PV.lit (Value.int IntKind.i64 (↑(i+(1:Nat)):Int))))] [(18,es')] [] []),[],[decide ((↑i:Int)<(↑n:Int))=true,aL cs 1 (↑i:Int) n [PV.lit (Value.int IntKind.i64 (↑x:Int))],IntKind.i64.wrap (c+(↑x:Int))=c1,decide ((↑i:Int)<(↑m:Int))=false,c1.tmod (16777216:Int)=d,false=false,aK (↑i:Int) (n+(1:Nat)) i,(0:Nat)+i* (1:Nat)+(PV.lit (Value.int IntKind.i64 d)).cells.length≤es.length,cg es ((0:Nat)+i* (1:Nat)) [PV.lit (Value.int IntKind.i64 d)] es',IntKind.i64.wrap (c1.tdiv (16777216:Int))=c3,false=false,IntKind.i64.wrap ((↑i:Int)+(1:Int))=(↑(i+(1:Nat)):Int)]):=by kernel_rfl
theorem S6 (k n m i:Nat) (c:Int) (cs ds es:List PV):aA MD t20 k 74 0 ⟨[(0, .pv (.sl 1 n cs)),(1, .pv (.sl 1 m ds)),(5, .bs 18 0 1 (n+1)),(6, .pv (iv c)),(7, .pv (iv i))],[(18,es)],[],[]⟩ [.c false]=
 some ((Xt.exit 0,St.mk [(0,AV.pv (PV.sl 1 n cs)),(1,AV.pv (PV.sl 1 m ds)),(5,AV.bs 18 0 1 (n+(1:Nat))),(6,AV.pv (PV.lit (Value.int IntKind.i64 c))),(7,AV.pv (PV.lit (Value.int IntKind.i64 (↑i:Int)))),(22,AV.pv (PV.lit (Value.bool false)))] [(18,es)] [] []),[],[decide ((↑i:Int)<(↑n:Int))=false]):=by kernel_rfl
theorem Xm (k n m r:Nat) (c:Int) (cs ds cs0 es gs:List PV):ay MD t20 k 77 [.sl 1 n cs, .sl 1 m ds] [.c false, .f cs0, .l (.exit 0) ⟨[(0, .pv (.sl 1 n cs)),(1, .pv (.sl 1 m ds)),(5, .bs 11 0 1 n),(6, .pv (iv c)),(7, .pv (iv n)),(15, .pv (bv false))],[(11,es)],[],[]⟩, .m (.gs 0 r) es, .f gs]=
 some (RV.mk (PV.sl 1 r gs) (some 1),[(0:Int)≤(↑n:Int)∧(↑n:Int)≤(↑n:Int)∧(↑n:Int)* (↑(MD.P.bytesOf (3:Nat)):Int)≤(↑room:Int)∧(↑n:Int)≤(↑room:Int),decide ((↑n:Int)=(0:Int))=false,fP [PV.lit (Value.int IntKind.i64 (0:Int))] n cs0,aW MD t20 k (77:Nat) (0:Nat) (St.mk [(0,AV.pv (PV.sl 1 n cs)),(1,AV.pv (PV.sl 1 m ds)),(5,AV.bs 11 0 1 n),(6,AV.pv (PV.lit (Value.int IntKind.i64 (0:Int)))),(7,AV.pv (PV.lit (Value.int IntKind.i64 (0:Int))))] [(11,cs0)] [] []) (Xt.exit 0) (St.mk [(0,AV.pv (PV.sl 1 n cs)),(1,AV.pv (PV.sl 1 m ds)),(5,AV.bs 11 0 1 n),(6,AV.pv (PV.lit (Value.int IntKind.i64 c))),(7,AV.pv (PV.lit (Value.int IntKind.i64 (↑n:Int)))),(15,AV.pv (PV.lit (Value.bool false)))] [(11,es)] [] []),eH t20 90 [MA.g es 0 1 n] (MR.gs 0 r) es,cH es 0 (r* ((11:Nat),(1:Nat)).snd) gs]):=by kernel_rfl
theorem R5 (k n m i x y:Nat) (c c1 c2:Int) (cs ds es es':List PV):aA MD t20 k 77 0 ⟨[(0, .pv (.sl 1 n cs)),(1, .pv (.sl 1 m ds)),(5, .bs 11 0 1 n),(6, .pv (iv c)),(7, .pv (iv i))],[(11,es)],[],[]⟩ [.c true, .a 20 [iv x], .i 23 c1, .c true, .a 31 [iv y], .i 33 c2, .c false, .j 41 i, .s es', .i 17 (i+1:Nat)]=
 some ((Xt.normal,St.mk [(0,AV.pv (PV.sl 1 n cs)),(1,AV.pv (PV.sl 1 m ds)),(5,AV.bs 11 0 1 n),(6,AV.pv (PV.lit (Value.int IntKind.i64 (0:Int)))),(7,AV.pv (PV.lit (Value.int IntKind.i64 (↑(i+(1:Nat)):Int))))] [(11,es')] [] []),[],[decide ((↑i:Int)<(↑n:Int))=true,aL cs 1 (↑i:Int) n [PV.lit (Value.int IntKind.i64 (↑x:Int))],IntKind.i64.wrap ((↑x:Int) - c)=c1,decide ((↑i:Int)<(↑m:Int))=true,aL ds 1 (↑i:Int) m [PV.lit (Value.int IntKind.i64 (↑y:Int))],IntKind.i64.wrap (c1 - (↑y:Int))=c2,decide (c2<(0:Int))=false,aK (↑i:Int) n i,(0:Nat)+i* (1:Nat)+(PV.lit (Value.int IntKind.i64 c2)).cells.length≤es.length,cg es ((0:Nat)+i* (1:Nat)) [PV.lit (Value.int IntKind.i64 c2)] es',IntKind.i64.wrap ((↑i:Int)+(1:Int))=(↑(i+(1:Nat)):Int)]):=by kernel_rfl
theorem R6 (k n m i x y:Nat) (c c1 c2 c3:Int) (cs ds es es':List PV):aA MD t20 k 77 0 ⟨[(0, .pv (.sl 1 n cs)),(1, .pv (.sl 1 m ds)),(5, .bs 11 0 1 n),(6, .pv (iv c)),(7, .pv (iv i))],[(11,es)],[],[]⟩ [.c true, .a 20 [iv x], .i 23 c1, .c true, .a 31 [iv y], .i 33 c2, .c true, .i 37 c3, .j 41 i, .s es', .i 17 (i+1:Nat)]=
 some ((Xt.normal,St.mk [(0,AV.pv (PV.sl 1 n cs)),(1,AV.pv (PV.sl 1 m ds)),(5,AV.bs 11 0 1 n),(6,AV.pv (PV.lit (Value.int IntKind.i64 (1:Int)))),(7,AV.pv (PV.lit (Value.int IntKind.i64 (↑(i+(1:Nat)):Int))))] [(11,es')] [] []),[],[decide ((↑i:Int)<(↑n:Int))=true,aL cs 1 (↑i:Int) n [PV.lit (Value.int IntKind.i64 (↑x:Int))],IntKind.i64.wrap ((↑x:Int) - c)=c1,decide ((↑i:Int)<(↑m:Int))=true,aL ds 1 (↑i:Int) m [PV.lit (Value.int IntKind.i64 (↑y:Int))],IntKind.i64.wrap (c1 - (↑y:Int))=c2,decide (c2<(0:Int))=true,IntKind.i64.wrap (c2+(16777216:Int))=c3,aK (↑i:Int) n i,(0:Nat)+i* (1:Nat)+(PV.lit (Value.int IntKind.i64 c3)).cells.length≤es.length,cg es ((0:Nat)+i* (1:Nat)) [PV.lit (Value.int IntKind.i64 c3)] es',IntKind.i64.wrap ((↑i:Int)+(1:Int))=(↑(i+(1:Nat)):Int)]):=by kernel_rfl
theorem R7 (k n m i x:Nat) (c c1:Int) (cs ds es es':List PV):aA MD t20 k 77 0 ⟨[(0, .pv (.sl 1 n cs)),(1, .pv (.sl 1 m ds)),(5, .bs 11 0 1 n),(6, .pv (iv c)),(7, .pv (iv i))],[(11,es)],[],[]⟩ [.c true, .a 20 [iv x], .i 23 c1, .c false, .c false, .j 41 i, .s es', .i 17 (i+1:Nat)]=
 some ((Xt.normal,St.mk [(0,AV.pv (PV.sl 1 n cs)),(1,AV.pv (PV.sl 1 m ds)),(5,AV.bs 11 0 1 n),(6,AV.pv (PV.lit (Value.int IntKind.i64 (0:Int)))),(7,AV.pv (PV.lit (Value.int IntKind.i64 (↑(i+(1:Nat)):Int))))] [(11,es')] [] []),[],[decide ((↑i:Int)<(↑n:Int))=true,aL cs 1 (↑i:Int) n [PV.lit (Value.int IntKind.i64 (↑x:Int))],IntKind.i64.wrap ((↑x:Int) - c)=c1,decide ((↑i:Int)<(↑m:Int))=false,decide (c1<(0:Int))=false,aK (↑i:Int) n i,(0:Nat)+i* (1:Nat)+(PV.lit (Value.int IntKind.i64 c1)).cells.length≤es.length,cg es ((0:Nat)+i* (1:Nat)) [PV.lit (Value.int IntKind.i64 c1)] es',IntKind.i64.wrap ((↑i:Int)+(1:Int))=(↑(i+(1:Nat)):Int)]):=by kernel_rfl
theorem R8 (k n m i x:Nat) (c c1 c3:Int) (cs ds es es':List PV):aA MD t20 k 77 0 ⟨[(0, .pv (.sl 1 n cs)),(1, .pv (.sl 1 m ds)),(5, .bs 11 0 1 n),(6, .pv (iv c)),(7, .pv (iv i))],[(11,es)],[],[]⟩ [.c true, .a 20 [iv x], .i 23 c1, .c false, .c true, .i 37 c3, .j 41 i, .s es', .i 17 (i+1:Nat)]=
 some ((Xt.normal,St.mk [(0,AV.pv (PV.sl 1 n cs)),(1,AV.pv (PV.sl 1 m ds)),(5,AV.bs 11 0 1 n),(6,AV.pv (PV.lit (Value.int IntKind.i64 (1:Int)))),(7,AV.pv (PV.lit (Value.int IntKind.i64 (↑(i+(1:Nat)):Int))))] [(11,es')] [] []),[],[decide ((↑i:Int)<(↑n:Int))=true,aL cs 1 (↑i:Int) n [PV.lit (Value.int IntKind.i64 (↑x:Int))],IntKind.i64.wrap ((↑x:Int) - c)=c1,decide ((↑i:Int)<(↑m:Int))=false,decide (c1<(0:Int))=true,IntKind.i64.wrap (c1+(16777216:Int))=c3,aK (↑i:Int) n i,(0:Nat)+i* (1:Nat)+(PV.lit (Value.int IntKind.i64 c3)).cells.length≤es.length,cg es ((0:Nat)+i* (1:Nat)) [PV.lit (Value.int IntKind.i64 c3)] es',IntKind.i64.wrap ((↑i:Int)+(1:Int))=(↑(i+(1:Nat)):Int)]):=by kernel_rfl
theorem R9 (k n m i:Nat) (c:Int) (cs ds es:List PV):aA MD t20 k 77 0 ⟨[(0, .pv (.sl 1 n cs)),(1, .pv (.sl 1 m ds)),(5, .bs 11 0 1 n),(6, .pv (iv c)),(7, .pv (iv i))],[(11,es)],[],[]⟩ [.c false]=
 some ((Xt.exit 0,St.mk [(0,AV.pv (PV.sl 1 n cs)),(1,AV.pv (PV.sl 1 m ds)),(5,AV.bs 11 0 1 n),(6,AV.pv (PV.lit (Value.int IntKind.i64 c))),(7,AV.pv (PV.lit (Value.int IntKind.i64 (↑i:Int)))),(15,AV.pv (PV.lit (Value.bool false)))] [(11,es)] [] []),[],[decide ((↑i:Int)<(↑n:Int))=false]):=by kernel_rfl
theorem Y2 (k n r:Nat) (c b:Int) (cs cs0 es fs gs:List PV):ay MD t20 k 78 [.sl 1 n cs,iv b] [.i 10 (n+1:Nat), .c false, .f cs0, .l (.exit 0) ⟨[(0, .pv (.sl 1 n cs)),(5, .bs 11 0 1 (n+1)),(6, .pv (iv c)),(7, .pv (iv n)),(16, .pv (bv false))],[(11,es)],[],[]⟩, .j 37 n, .s fs, .m (.gs 0 r) fs, .f gs]=
 some (RV.mk (PV.sl 1 r gs) (some 1),[IntKind.i64.wrap ((↑n:Int)+(1:Int))=(↑(n+(1:Nat)):Int),(0:Int)≤(↑(n+(1:Nat)):Int)∧(↑(n+(1:Nat)):Int)≤(↑(n+(1:Nat)):Int)∧(↑(n+(1:Nat)):Int)* (↑(MD.P.bytesOf (3:Nat)):Int)≤(↑room:Int)∧(↑(n+(1:Nat)):Int)≤(↑room:Int),decide ((↑(n+(1:Nat)):Int)=(0:Int))=false,fP [PV.lit (Value.int IntKind.i64 (0:Int))] (↑(n+(1:Nat)):Int).toNat cs0,aW MD t20 k (78:Nat) (0:Nat) (St.mk [(0,AV.pv (PV.sl 1 n cs)),(5,AV.bs 11 0 1 (↑(n+(1:Nat)):Int).toNat),(6,AV.pv (PV.lit (Value.int IntKind.i64 b))),(7,AV.pv (PV.lit (Value.int IntKind.i64 (0:Int))))] [(11,cs0)] [] []) (Xt.exit 0) (St.mk [(0,AV.pv (PV.sl 1 n cs)),(5,AV.bs 11 0 1 (n+(1:Nat))),(6,AV.pv (PV.lit (Value.int IntKind.i64 c))),(7,AV.pv (PV.lit (Value.int IntKind.i64 (↑n:Int)))),(16,AV.pv (PV.lit (Value.bool false)))] [(11,es)] [] []),aK (↑n:Int) (n+(1:Nat)) n,(0:Nat)+n* (1:Nat)+(iv c).cells.length≤es.length,cg es ((0:Nat)+n* (1:Nat)) [PV.lit (Value.int IntKind.i64 c)] fs,eH t20 90 [MA.g fs 0 1 (n+(1:Nat))] (MR.gs 0 r) fs,cH fs 0 (r* ((11:Nat),(1:Nat)).snd) gs]):=by kernel_rfl
theorem T8 (k n i x:Nat) (c c1 c2 c3 d:Int) (cs es es':List PV):aA MD t20 k 78 0 ⟨[(0, .pv (.sl 1 n cs)),(5, .bs 11 0 1 (n+1)),(6, .pv (iv c)),(7, .pv (iv i))],[(11,es)],[],[]⟩ [.c true, .a 22 [iv x], .i 24 c1, .i 25 c2, .i 29 d, .j 30 i, .s es', .i 32 c3, .i 18 (i+1:Nat)]=
 some ((Xt.normal,St.mk [(0,AV.pv (PV.sl 1 n cs)),(5,AV.bs 11 0 1 (n+(1:Nat))),(6,AV.pv (PV.lit (Value.int IntKind.i64 c3))),(7,AV.pv (PV.lit (Value.int IntKind.i64 (↑(i+(1:Nat)):Int))))] [(11,es')] [] []),[],[decide ((↑i:Int)<(↑n:Int))=true,aL cs 1 (↑i:Int) n [PV.lit (Value.int IntKind.i64 (↑x:Int))],IntKind.i64.wrap ((2:Int)* (↑x:Int))=c1,IntKind.i64.wrap (c+c1)=c2,c2.tmod (16777216:Int)=d,false=false,aK (↑i:Int) (n+(1:Nat)) i,(0:Nat)+i* (1:Nat)+(PV.lit (Value.int IntKind.i64 d)).cells.length≤es.length,cg es ((0:Nat)+i* (1:Nat)) [PV.lit (Value.int IntKind.i64 d)] es',IntKind.i64.wrap (c2.tdiv (16777216:Int))=c3,false=false,IntKind.i64.wrap ((↑i:Int)+(1:Int))=(↑(i+(1:Nat)):Int)]):=by kernel_rfl
theorem T9 (k n i:Nat) (c:Int) (cs es:List PV):aA MD t20 k 78 0 ⟨[(0, .pv (.sl 1 n cs)),(5, .bs 11 0 1 (n+1)),(6, .pv (iv c)),(7, .pv (iv i))],[(11,es)],[],[]⟩ [.c false]=
 some ((Xt.exit 0,St.mk [(0,AV.pv (PV.sl 1 n cs)),(5,AV.bs 11 0 1 (n+(1:Nat))),(6,AV.pv (PV.lit (Value.int IntKind.i64 c))),(7,AV.pv (PV.lit (Value.int IntKind.i64 (↑i:Int)))),(16,AV.pv (PV.lit (Value.bool false)))] [(11,es)] [] []),[],[decide ((↑i:Int)<(↑n:Int))=false]):=by kernel_rfl
theorem XL (k n m:Nat) (cs ds:List PV):ay MD t0 k 76 [.sl 1 n cs, .sl 1 m ds] [.c true, .c true]=
 some (RV.mk (PV.lit (Value.int IntKind.i64 (-1:Int))) none,[((↑n:Int) !=(↑m:Int))=true,decide ((↑n:Int)<(↑m:Int))=true]):=by kernel_rfl
theorem XM (k n m:Nat) (cs ds:List PV):ay MD t0 k 76 [.sl 1 n cs, .sl 1 m ds] [.c true, .c false]=
 some (RV.mk (PV.lit (Value.int IntKind.i64 (1:Int))) none,[((↑n:Int) !=(↑m:Int))=true,decide ((↑n:Int)<(↑m:Int))=false]):=by kernel_rfl
theorem QO (k n m:Nat) (cs ds:List PV) (i r:Int):ay MD t0 k 76 [.sl 1 n cs, .sl 1 m ds] [.c false, .i 18 i, .l .ret ⟨[(4, .pv (iv r))],[],[],[]⟩]=
 some (RV.mk (PV.lit (Value.int IntKind.i64 r)) none,[((↑n:Int) !=(↑m:Int))=false,IntKind.i64.wrap ((↑n:Int) - (1:Int))=i,aW MD t0 k (76:Nat) (0:Nat) (St.mk [(0,AV.pv (PV.sl 1 n cs)),(1,AV.pv (PV.sl 1 m ds)),(5,AV.pv (PV.lit (Value.int IntKind.i64 i)))] [] [] []) Xt.ret (St.mk [(4,AV.pv (PV.lit (Value.int IntKind.i64 r)))] [] [] [])]):=by kernel_rfl
theorem XN (k n m:Nat) (cs ds:List PV) (i:Int):ay MD t0 k 76 [.sl 1 n cs, .sl 1 m ds] [.c false, .i 18 i, .l (.exit 0) ⟨[(0, .pv (.sl 1 n cs)),(1, .pv (.sl 1 m ds)),(5, .pv (iv (-1))),(20, .pv (bv false))],[],[],[]⟩]=
 some (RV.mk (PV.lit (Value.int IntKind.i64 (0:Int))) none,[((↑n:Int) !=(↑m:Int))=false,IntKind.i64.wrap ((↑n:Int) - (1:Int))=i,aW MD t0 k (76:Nat) (0:Nat) (St.mk [(0,AV.pv (PV.sl 1 n cs)),(1,AV.pv (PV.sl 1 m ds)),(5,AV.pv (PV.lit (Value.int IntKind.i64 i)))] [] [] []) (Xt.exit 0) (St.mk [(0,AV.pv (PV.sl 1 n cs)),(1,AV.pv (PV.sl 1 m ds)),(5,AV.pv (PV.lit (Value.int IntKind.i64 (-1:Int)))),(20,AV.pv (PV.lit (Value.bool false)))] [] [] [])]):=by kernel_rfl
theorem SR (k n m:Nat) (cs ds:List PV) (i:Int):aA MD t0 k 76 0 ⟨[(0, .pv (.sl 1 n cs)),(1, .pv (.sl 1 m ds)),(5, .pv (iv i))],[],[],[]⟩ [.c false]=
 some ((Xt.exit 0,St.mk [(0,AV.pv (PV.sl 1 n cs)),(1,AV.pv (PV.sl 1 m ds)),(5,AV.pv (PV.lit (Value.int IntKind.i64 i))),(20,AV.pv (PV.lit (Value.bool false)))] [] [] []),[],[decide (i≥(0:Int))=false]):=by kernel_rfl
theorem SU (k n m x y:Nat) (cs ds:List PV) (i j:Int):aA MD t0 k 76 0 ⟨[(0, .pv (.sl 1 n cs)),(1, .pv (.sl 1 m ds)),(5, .pv (iv i))],[],[],[]⟩ [.c true, .a 25 [iv x], .a 29 [iv y], .c false, .i 22 j]=
 some ((Xt.normal,St.mk [(0,AV.pv (PV.sl 1 n cs)),(1,AV.pv (PV.sl 1 m ds)),(5,AV.pv (PV.lit (Value.int IntKind.i64 j)))] [] [] []),[],[decide (i≥(0:Int))=true,aL cs 1 i n [PV.lit (Value.int IntKind.i64 (↑x:Int))],aL ds 1 i m [PV.lit (Value.int IntKind.i64 (↑y:Int))],((↑x:Int) !=(↑y:Int))=false,IntKind.i64.wrap (i - (1:Int))=j]):=by kernel_rfl
theorem SV (k n m x y:Nat) (cs ds:List PV) (i:Int):aA MD t0 k 76 0 ⟨[(0, .pv (.sl 1 n cs)),(1, .pv (.sl 1 m ds)),(5, .pv (iv i))],[],[],[]⟩ [.c true, .a 25 [iv x], .a 29 [iv y], .c true, .a 34 [iv x], .a 38 [iv y], .c true]=
 some ((Xt.ret,St.mk [(4,AV.pv (PV.lit (Value.int IntKind.i64 (-1:Int))))] [] [] []),[],[decide (i≥(0:Int))=true,aL cs 1 i n [PV.lit (Value.int IntKind.i64 (↑x:Int))],aL ds 1 i m [PV.lit (Value.int IntKind.i64 (↑y:Int))],((↑x:Int) !=(↑y:Int))=true,aL cs 1 i n [PV.lit (Value.int IntKind.i64 (↑x:Int))],aL ds 1 i m [PV.lit (Value.int IntKind.i64 (↑y:Int))],decide ((↑x:Int)<(↑y:Int))=true]):=by kernel_rfl
theorem SX (k n m x y:Nat) (cs ds:List PV) (i:Int):aA MD t0 k 76 0 ⟨[(0, .pv (.sl 1 n cs)),(1, .pv (.sl 1 m ds)),(5, .pv (iv i))],[],[],[]⟩ [.c true, .a 25 [iv x], .a 29 [iv y], .c true, .a 34 [iv x], .a 38 [iv y], .c false]=
 some ((Xt.ret,St.mk [(4,AV.pv (PV.lit (Value.int IntKind.i64 (1:Int))))] [] [] []),[],[decide (i≥(0:Int))=true,aL cs 1 i n [PV.lit (Value.int IntKind.i64 (↑x:Int))],aL ds 1 i m [PV.lit (Value.int IntKind.i64 (↑y:Int))],((↑x:Int) !=(↑y:Int))=true,aL cs 1 i n [PV.lit (Value.int IntKind.i64 (↑x:Int))],aL ds 1 i m [PV.lit (Value.int IntKind.i64 (↑y:Int))],decide ((↑x:Int)<(↑y:Int))=false]):=by kernel_rfl
theorem r5:aI MD.P t20:=sQ aE (qh GH oU)
theorem qu {n v:Nat} (hn:n<2^40) (h:v<(16777216:Nat)^n):eH t20 90 [.g ((fd (16777216:Nat) n v).map aF) 0 1 n] (.gs 0 (dg (16777216:Nat) v).length) ((fd (16777216:Nat) n v).map aF):=by
 have:=yt (p:=[]) (l:=fd (16777216:Nat) n v) (by rw [bG];exact hn) (fV (by decide) _ _)
 rw [jo (by decide),Nat.mod_eq_of_lt h,bG] at this
 exact this
theorem sN {n:Nat} (h:n<2^41):(0:Int)≤(n:Int)∧(n:Int)≤(n:Int)∧(n:Int)* ((MD.P.bytesOf 3:Nat):Int)≤((room:Nat):Int)∧(n:Int)≤((room:Nat):Int):=by
 rw [EC]
 have:((room:Nat):Int)=140737488355328:=rfl
 omega
def SP (a b n m i:Nat) (e:List (Nat×AV)):St:=⟨(0, .pv (.sl 1 n ((dg (16777216:Nat) a).map aF)))::(1, .pv (.sl 1 m ((dg (16777216:Nat) b).map aF)))::(5, .bs 18 0 1 (n+1))::(6, .pv (iv ((a+b) / (16777216:Nat)^i - a / (16777216:Nat)^i - b / (16777216:Nat)^i:Nat)))::(7, .pv (iv i))::e,[(18,(bY (16777216:Nat) (n+1) i (a+b)).map aF)],[],[]⟩
theorem IK (k a b n m i:Nat) (hn:n=(dg (16777216:Nat) a).length) (hm:m=(dg (16777216:Nat) b).length) (hi:i<n) (hs:n<2^40):aP MD t20 k 74 0 (SP a b n m i [])=some (.normal,SP a b n m (i+1) []):=by
 have hx:=iJ (b:=(16777216:Nat)) (v:=a) (by decide) (i:=i) (by omega)
 have hc:=zi a b i
 have s1:=cu a (16777216:Nat) i
 have s2:=cu b (16777216:Nat) i
 have s3:=cu (a+b) (16777216:Nat) i
 have hstep:=iK (b:=(16777216:Nat)) (n:=n+1) (i:=i) (v:=a+b) (by omega)
 have hsp:cg ((bY (16777216:Nat) (n+1) i (a+b)).map aF) (0+i* 1) [aF ((a+b) / (16777216:Nat)^i%(16777216:Nat))] ((bY (16777216:Nat) (n+1) (i+1) (a+b)).map aF):=mw hstep (by rw [eu (by omega)];omega) (by omega)
 have hle:0+i* 1+(aF ((a+b) / (16777216:Nat)^i%(16777216:Nat))).cells.length≤((bY (16777216:Nat) (n+1) i (a+b)).map aF).length:=by
  rw [List.length_map,eu (by omega)];show _+1≤_;omega
 have gF:aL ((dg (16777216:Nat) a).map aF) 1 (i:Int) n [aF (a / (16777216:Nat)^i%(16777216:Nat))]:=by rw [hn];exact jW hx rfl
 unfold SP
 rw [s1,s2,s3]
 generalize hu:a / (16777216:Nat)^i=u at*
 generalize hv:b / (16777216:Nat)^i=v at*
 generalize hw:(a+b) / (16777216:Nat)^i=w at*
 obtain ⟨x,hx0⟩:∃x,x=u%(16777216:Nat):=⟨_,rfl⟩
 obtain ⟨y,hy0⟩:∃y,y=v%(16777216:Nat):=⟨_,rfl⟩
 rw [←hx0] at gF
 obtain ⟨c,hc0⟩:∃c,c=w - u - v:=⟨_,rfl⟩
 by_cases zZ:i<m
 · have hy:=iJ (b:=(16777216:Nat)) (v:=b) (by decide) (i:=i) (by omega)
   rw [hv,←hy0] at hy
   have hH:aL ((dg (16777216:Nat) b).map aF) 1 (i:Int) m [aF y]:=by rw [hm];exact jW hy rfl
   have e1:(c+x+y)%(16777216:Nat)=w%(16777216:Nat):=by omega
   have e2:(c+x+y) / (16777216:Nat)=w / (16777216:Nat) - u / (16777216:Nat) - v / (16777216:Nat):=by omega
   have key:=S4 k n m i x y (c:Nat) ((c+x:Nat):Int) ((c+x+y:Nat):Int) ((w / (16777216:Nat) - u / (16777216:Nat) - v / (16777216:Nat):Nat):Int) ((w%(16777216:Nat):Nat):Int) ((dg (16777216:Nat) a).map aF) ((dg (16777216:Nat) b).map aF) ((bY (16777216:Nat) (n+1) i (a+b)).map aF) ((bY (16777216:Nat) (n+1) (i+1) (a+b)).map aF)
   rw [←hc0]
   exact an key ⟨decide_eq_true (by omega),gF,aR (by omega) (by omega),decide_eq_true (by omega),hH,aR (by omega) (by omega),by rw [←e1];exact fl _ _,rfl,⟨rfl,by omega⟩,hle,hsp,by rw [←e2];exact aR (gX _ _) (by omega),rfl,aR (by omega) (by omega),trivial⟩
 · have hy:=l7 (b:=(16777216:Nat)) (v:=b) (by decide) (i:=i) (by omega)
   rw [hv] at hy
   have e1:(c+x)%(16777216:Nat)=w%(16777216:Nat):=by omega
   have e2:(c+x) / (16777216:Nat)=w / (16777216:Nat) - u / (16777216:Nat) - v / (16777216:Nat):=by omega
   have key:=S5 k n m i x (c:Nat) ((c+x:Nat):Int) ((w / (16777216:Nat) - u / (16777216:Nat) - v / (16777216:Nat):Nat):Int) ((w%(16777216:Nat):Nat):Int) ((dg (16777216:Nat) a).map aF) ((dg (16777216:Nat) b).map aF) ((bY (16777216:Nat) (n+1) i (a+b)).map aF) ((bY (16777216:Nat) (n+1) (i+1) (a+b)).map aF)
   rw [←hc0]
   exact an key ⟨decide_eq_true (by omega),gF,aR (by omega) (by omega),decide_eq_false (by omega),by rw [←e1];exact fl _ _,rfl,⟨rfl,by omega⟩,hle,hsp,by rw [←e2];exact aR (gX _ _) (by omega),rfl,aR (by omega) (by omega),trivial⟩
theorem Cy (k a b n m:Nat) (hn:n=(dg (16777216:Nat) a).length) (hm:m=(dg (16777216:Nat) b).length) (hk:n<k) (hs:n<2^40):bg (aP MD t20 k 74 0) k (SP a b n m 0 [])=some (.exit 0,SP a b n m n [(22, .pv (bv false))]):=
 bN (f:=aP MD t20 k 74 0) (S:=fun i=>SP a b n m i []) (n:=n) (fun i hi=>IK k a b n m i hn hm hi hs)
  (an (S6 k n m n ((a+b) / (16777216:Nat)^n - a / (16777216:Nat)^n - b / (16777216:Nat)^n:Nat) ((dg (16777216:Nat) a).map aF) ((dg (16777216:Nat) b).map aF) ((bY (16777216:Nat) (n+1) n (a+b)).map aF)) ⟨decide_eq_false (by omega),trivial⟩) (by simp) k hk
theorem Jf (a b:Nat) (ha:(dg (16777216:Nat) a).length<2^39) (hb:(dg (16777216:Nat) b).length<2^39):az P0 74 [ni (dg (16777216:Nat) a),ni (dg (16777216:Nat) b)] ⟨ni (dg (16777216:Nat) (a+b)),some 1⟩:=by
 have key:∀a b n m:Nat,n=(dg (16777216:Nat) a).length→m=(dg (16777216:Nat) b).length→n<2^39→m≤n→
   a+b<(16777216:Nat)^(n+1)∧cg ((bY (16777216:Nat) (n+1) n (a+b)).map aF) (0+n* 1) [iv ((a+b) / (16777216:Nat)^n - a / (16777216:Nat)^n - b / (16777216:Nat)^n:Nat)] ((fd (16777216:Nat) (n+1) (a+b)).map aF)∧0+n* 1+(iv ((a+b) / (16777216:Nat)^n - a / (16777216:Nat)^n - b / (16777216:Nat)^n:Nat)).cells.length≤((bY (16777216:Nat) (n+1) n (a+b)).map aF).length:=by
  intro a b n m hn hm hs hmn
  have h1:=cE (b:=(16777216:Nat)) (n:=a) (by decide)
  have h2:=cE (b:=(16777216:Nat)) (n:=b) (by decide)
  have h3:(16777216:Nat)^(dg (16777216:Nat) b).length≤(16777216:Nat)^n:=Nat.pow_le_pow_right (by decide) (by omega)
  rw [←hn] at h1
  have hlt:a+b<(16777216:Nat)^(n+1):=by rw [Nat.pow_succ];omega
  have z1:=l7 (b:=(16777216:Nat)) (v:=a) (i:=n) (by decide) (by omega)
  have z2:=l7 (b:=(16777216:Nat)) (v:=b) (i:=n) (by decide) (by omega)
  have hc:=zi a b n
  rw [z1,z2,Nat.sub_zero,Nat.sub_zero]
  rw [z1,z2] at hc
  have hstep:=iK (b:=(16777216:Nat)) (n:=n+1) (i:=n) (v:=a+b) (by omega)
  rw [oK,Nat.mod_eq_of_lt (by omega)] at hstep
  refine ⟨hlt,mw (c:=aF) hstep (by rw [eu (by omega)];omega) (by omega), ?_⟩
  rw [List.length_map,eu (by omega)];show _+1≤_;omega
 have fin:∀v n:Nat,v<(16777216:Nat)^(n+1)→cH ((fd (16777216:Nat) (n+1) v).map aF) 0 ((dg (16777216:Nat) v).length* 1) ((dg (16777216:Nat) v).map aF):=fun v n h=>o9 _ _ _ (by rw [List.drop_zero,Nat.mul_one];exact uc (by decide) h)
 obtain ⟨k,hk⟩:∃k,k=(dg (16777216:Nat) a).length+(dg (16777216:Nat) b).length+1:=⟨_,rfl⟩
 by_cases h:(dg (16777216:Nat) a).length<(dg (16777216:Nat) b).length
 · obtain ⟨k1,k2,k3⟩:=key b a _ _ rfl rfl hb (by omega)
   have lp:=Cy k b a _ _ rfl rfl (by omega) (by omega)
   have z:=kU (c:=aF) (n:=(dg (16777216:Nat) b).length+1)
   rw [←jF (16777216:Nat) ((dg (16777216:Nat) b).length+1) (b+a)] at z
   have tr:=qu (n:=(dg (16777216:Nat) b).length+1) (v:=b+a) (by omega) k1
   rw [Nat.add_comm a b]
   have c0:((b+a) / (16777216:Nat)^0 - b / (16777216:Nat)^0 - a / (16777216:Nat)^0:Nat)=0:=by simp
   unfold SP at lp
   rw [c0] at lp
   exact ah af r5 (by rfl) (XT k _ _ _ _ _ _ ((bY (16777216:Nat) ((dg (16777216:Nat) b).length+1) 0 (b+a)).map aF) _ ((fd (16777216:Nat) ((dg (16777216:Nat) b).length+1) (b+a)).map aF) _) ⟨decide_eq_true (by omega),aR (by omega) (by omega),sN (by omega),decide_eq_false (by omega),z,lp,⟨rfl,by omega⟩,k3,k2,tr,fin _ _ k1,trivial⟩
 · obtain ⟨k1,k2,k3⟩:=key a b _ _ rfl rfl ha (by omega)
   have lp:=Cy k a b _ _ rfl rfl (by omega) (by omega)
   have z:=kU (c:=aF) (n:=(dg (16777216:Nat) a).length+1)
   rw [←jF (16777216:Nat) ((dg (16777216:Nat) a).length+1) (a+b)] at z
   have tr:=qu (n:=(dg (16777216:Nat) a).length+1) (v:=a+b) (by omega) k1
   have c0:((a+b) / (16777216:Nat)^0 - a / (16777216:Nat)^0 - b / (16777216:Nat)^0:Nat)=0:=by simp
   unfold SP at lp
   rw [c0] at lp
   exact ah af r5 (by rfl) (XS k _ _ _ _ _ _ ((bY (16777216:Nat) ((dg (16777216:Nat) a).length+1) 0 (a+b)).map aF) _ ((fd (16777216:Nat) ((dg (16777216:Nat) a).length+1) (a+b)).map aF) _) ⟨decide_eq_false (by omega),aR (by omega) (by omega),sN (by omega),decide_eq_false (by omega),z,lp,⟨rfl,by omega⟩,k3,k2,tr,fin _ _ k1,trivial⟩
def SM (v b n m i:Nat) (e:List (Nat×AV)):St:=⟨(0, .pv (.sl 1 n ((dg (16777216:Nat) (b+v)).map aF)))::(1, .pv (.sl 1 m ((dg (16777216:Nat) b).map aF)))::(5, .bs 11 0 1 n)::(6, .pv (iv ((b+v) / (16777216:Nat)^i - b / (16777216:Nat)^i - v / (16777216:Nat)^i:Nat)))::(7, .pv (iv i))::e,[(11,(bY (16777216:Nat) n i v).map aF)],[],[]⟩
theorem Iw (k v b n m i:Nat) (hn:n=(dg (16777216:Nat) (b+v)).length) (hm:m=(dg (16777216:Nat) b).length) (hi:i<n) (hs:n<2^40):aP MD t20 k 77 0 (SM v b n m i [])=some (.normal,SM v b n m (i+1) []):=by
 have hx:=iJ (b:=(16777216:Nat)) (v:=b+v) (by decide) (i:=i) (by omega)
 have hc:=zi b v i
 have zS:=zi b v (i+1)
 have s1:=cu (b+v) (16777216:Nat) i
 have s2:=cu b (16777216:Nat) i
 have s3:=cu v (16777216:Nat) i
 have hstep:=iK (b:=(16777216:Nat)) (n:=n) (i:=i) (v:=v) (by omega)
 have hsp:cg ((bY (16777216:Nat) n i v).map aF) (0+i* 1) [aF (v / (16777216:Nat)^i%(16777216:Nat))] ((bY (16777216:Nat) n (i+1) v).map aF):=mw hstep (by rw [eu (by omega)];omega) (by omega)
 have hle:0+i* 1+(aF (v / (16777216:Nat)^i%(16777216:Nat))).cells.length≤((bY (16777216:Nat) n i v).map aF).length:=by
  rw [List.length_map,eu (by omega)];show _+1≤_;omega
 have gF:aL ((dg (16777216:Nat) (b+v)).map aF) 1 (i:Int) n [aF ((b+v) / (16777216:Nat)^i%(16777216:Nat))]:=by rw [hn];exact jW hx rfl
 unfold SM
 rw [s1,s2,s3] at*
 generalize hu:(b+v) / (16777216:Nat)^i=u at*
 generalize hw:b / (16777216:Nat)^i=y0 at*
 generalize hv:v / (16777216:Nat)^i=w at*
 obtain ⟨x,hx0⟩:∃x,x=u%(16777216:Nat):=⟨_,rfl⟩
 obtain ⟨y,hy0⟩:∃y,y=y0%(16777216:Nat):=⟨_,rfl⟩
 rw [←hx0] at gF
 obtain ⟨c,hc0⟩:∃c,c=u - y0 - w:=⟨_,rfl⟩
 rw [←hc0]
 by_cases zZ:i<m
 · have hy:=iJ (b:=(16777216:Nat)) (v:=b) (by decide) (i:=i) (by omega)
   rw [hw,←hy0] at hy
   have hH:aL ((dg (16777216:Nat) b).map aF) 1 (i:Int) m [aF y]:=by rw [hm];exact jW hy rfl
   by_cases hneg:x<c+y
   · have e1:u / (16777216:Nat) - y0 / (16777216:Nat) - w / (16777216:Nat)=1:=by omega
     rw [e1]
     have key:=R6 k n m i x y (c:Nat) ((x:Int) - (c:Int)) ((x:Int) - (c:Int) - (y:Int)) ((w%(16777216:Nat):Nat):Int) ((dg (16777216:Nat) (b+v)).map aF) ((dg (16777216:Nat) b).map aF) ((bY (16777216:Nat) n i v).map aF) ((bY (16777216:Nat) n (i+1) v).map aF)
     exact an key ⟨decide_eq_true (by omega),gF,wrap64 (by omega) (by omega),decide_eq_true (by omega),hH,wrap64 (by omega) (by omega),decide_eq_true (by omega),aR (by omega) (by omega),⟨rfl,by omega⟩,hle,hsp,aR (by omega) (by omega),trivial⟩
   · have e1:u / (16777216:Nat) - y0 / (16777216:Nat) - w / (16777216:Nat)=0:=by omega
     rw [e1]
     have key:=R5 k n m i x y (c:Nat) ((x:Int) - (c:Int)) ((w%(16777216:Nat):Nat):Int) ((dg (16777216:Nat) (b+v)).map aF) ((dg (16777216:Nat) b).map aF) ((bY (16777216:Nat) n i v).map aF) ((bY (16777216:Nat) n (i+1) v).map aF)
     exact an key ⟨decide_eq_true (by omega),gF,wrap64 (by omega) (by omega),decide_eq_true (by omega),hH,aR (by omega) (by omega),decide_eq_false (by omega),⟨rfl,by omega⟩,hle,hsp,aR (by omega) (by omega),trivial⟩
 · have hy:=l7 (b:=(16777216:Nat)) (v:=b) (by decide) (i:=i) (by omega)
   rw [hw] at hy
   by_cases hneg:x<c
   · have e1:u / (16777216:Nat) - y0 / (16777216:Nat) - w / (16777216:Nat)=1:=by omega
     rw [e1]
     have key:=R8 k n m i x (c:Nat) ((x:Int) - (c:Int)) ((w%(16777216:Nat):Nat):Int) ((dg (16777216:Nat) (b+v)).map aF) ((dg (16777216:Nat) b).map aF) ((bY (16777216:Nat) n i v).map aF) ((bY (16777216:Nat) n (i+1) v).map aF)
     exact an key ⟨decide_eq_true (by omega),gF,wrap64 (by omega) (by omega),decide_eq_false (by omega),decide_eq_true (by omega),aR (by omega) (by omega),⟨rfl,by omega⟩,hle,hsp,aR (by omega) (by omega),trivial⟩
   · have e1:u / (16777216:Nat) - y0 / (16777216:Nat) - w / (16777216:Nat)=0:=by omega
     rw [e1]
     have key:=R7 k n m i x (c:Nat) ((w%(16777216:Nat):Nat):Int) ((dg (16777216:Nat) (b+v)).map aF) ((dg (16777216:Nat) b).map aF) ((bY (16777216:Nat) n i v).map aF) ((bY (16777216:Nat) n (i+1) v).map aF)
     exact an key ⟨decide_eq_true (by omega),gF,aR (by omega) (by omega),decide_eq_false (by omega),decide_eq_false (by omega),⟨rfl,by omega⟩,hle,hsp,aR (by omega) (by omega),trivial⟩
theorem GA (a b:Nat) (h:b≤a) (ha0:0<a) (ha:(dg (16777216:Nat) a).length<2^39):az P0 77 [ni (dg (16777216:Nat) a),ni (dg (16777216:Nat) b)] ⟨ni (dg (16777216:Nat) (a - b)),some 1⟩:=by
 obtain ⟨v,rfl⟩:=Nat.exists_eq_add_of_le h
 rw [Nat.add_sub_cancel_left]
 obtain ⟨n,hn⟩:∃n,n=(dg (16777216:Nat) (b+v)).length:=⟨_,rfl⟩
 have hn0:0<n:=by rw [hn,dz (by decide) ha0];simp
 have hlt:v<(16777216:Nat)^n:=by have:=cE (b:=(16777216:Nat)) (n:=b+v) (by decide);rw [←hn] at this;omega
 have lp:=bN (f:=aP MD t20 (n+1) 77 0) (S:=fun i=>SM v b n (dg (16777216:Nat) b).length i []) (n:=n) (fun i hi=>Iw (n+1) v b n _ i hn rfl hi (by omega))
  (an (R9 (n+1) n (dg (16777216:Nat) b).length n ((b+v) / (16777216:Nat)^n - b / (16777216:Nat)^n - v / (16777216:Nat)^n:Nat) ((dg (16777216:Nat) (b+v)).map aF) ((dg (16777216:Nat) b).map aF) ((bY (16777216:Nat) n n v).map aF)) ⟨decide_eq_false (by omega),trivial⟩) (by simp) (n+1) (by omega)
 have c0:((b+v) / (16777216:Nat)^0 - b / (16777216:Nat)^0 - v / (16777216:Nat)^0:Nat)=0:=by simp
 unfold SM at lp
 rw [c0] at lp
 have z:=kU (c:=aF) (n:=n)
 rw [←jF (16777216:Nat) n v] at z
 rw [oK] at lp
 have tr:=qu (n:=n) (v:=v) (by omega) hlt
 have fin:cH ((fd (16777216:Nat) n v).map aF) 0 ((dg (16777216:Nat) v).length* 1) ((dg (16777216:Nat) v).map aF):=o9 _ _ _ (by rw [List.drop_zero,Nat.mul_one];exact uc (by decide) hlt)
 have:=ah af r5 (by rfl) (Xm (n+1) n _ _ _ ((dg (16777216:Nat) (b+v)).map aF) _ _ _ _) ⟨sN (by omega),decide_eq_false (by omega),z,lp,tr,fin,trivial⟩
 unfold ni
 rw [←hn]
 exact this
def SW (a e n i:Nat) (l:List (Nat×AV)):St:=⟨(0, .pv (.sl 1 n ((dg (16777216:Nat) a).map aF)))::(5, .bs 11 0 1 (n+1))::(6, .pv (iv ((2* a+e) / (16777216:Nat)^i - 2* (a / (16777216:Nat)^i):Nat)))::(7, .pv (iv i))::l,[(11,(bY (16777216:Nat) (n+1) i (2* a+e)).map aF)],[],[]⟩
theorem Jq (k a e n i:Nat) (he:e≤1) (hn:n=(dg (16777216:Nat) a).length) (hi:i<n) (hs:n<2^40):aP MD t20 k 78 0 (SW a e n i [])=some (.normal,SW a e n (i+1) []):=by
 have hx:=iJ (b:=(16777216:Nat)) (v:=a) (by decide) (i:=i) (by omega)
 have hc:=Jr a e he i
 have s1:=cu a (16777216:Nat) i
 have s3:=cu (2* a+e) (16777216:Nat) i
 have hstep:=iK (b:=(16777216:Nat)) (n:=n+1) (i:=i) (v:=2* a+e) (by omega)
 have hsp:cg ((bY (16777216:Nat) (n+1) i (2* a+e)).map aF) (0+i* 1) [aF ((2* a+e) / (16777216:Nat)^i%(16777216:Nat))] ((bY (16777216:Nat) (n+1) (i+1) (2* a+e)).map aF):=mw hstep (by rw [eu (by omega)];omega) (by omega)
 have hle:0+i* 1+(aF ((2* a+e) / (16777216:Nat)^i%(16777216:Nat))).cells.length≤((bY (16777216:Nat) (n+1) i (2* a+e)).map aF).length:=by
  rw [List.length_map,eu (by omega)];show _+1≤_;omega
 have gF:aL ((dg (16777216:Nat) a).map aF) 1 (i:Int) n [aF (a / (16777216:Nat)^i%(16777216:Nat))]:=by rw [hn];exact jW hx rfl
 unfold SW
 rw [s1,s3]
 generalize hu:a / (16777216:Nat)^i=u at*
 generalize hw:(2* a+e) / (16777216:Nat)^i=w at*
 obtain ⟨x,hx0⟩:∃x,x=u%(16777216:Nat):=⟨_,rfl⟩
 rw [←hx0] at gF
 obtain ⟨c,hc0⟩:∃c,c=w - 2* u:=⟨_,rfl⟩
 have e1:(c+2* x)%(16777216:Nat)=w%(16777216:Nat):=by omega
 have e2:(c+2* x) / (16777216:Nat)=w / (16777216:Nat) - 2* (u / (16777216:Nat)):=by omega
 have key:=T8 k n i x (c:Nat) ((2* x:Nat):Int) ((c+2* x:Nat):Int) ((w / (16777216:Nat) - 2* (u / (16777216:Nat)):Nat):Int) ((w%(16777216:Nat):Nat):Int) ((dg (16777216:Nat) a).map aF) ((bY (16777216:Nat) (n+1) i (2* a+e)).map aF) ((bY (16777216:Nat) (n+1) (i+1) (2* a+e)).map aF)
 rw [←hc0]
 exact an key ⟨decide_eq_true (by omega),gF,aR (by omega) (by omega),aR (by omega) (by omega),by rw [←e1];exact fl _ _,rfl,⟨rfl,by omega⟩,hle,hsp,by rw [←e2];exact aR (gX _ _) (by omega),rfl,aR (by omega) (by omega),trivial⟩
theorem GJ (a e:Nat) (he:e≤1) (ha:(dg (16777216:Nat) a).length<2^39):az P0 78 [ni (dg (16777216:Nat) a),iv e] ⟨ni (dg (16777216:Nat) (2* a+e)),some 1⟩:=by
 obtain ⟨n,hn⟩:∃n,n=(dg (16777216:Nat) a).length:=⟨_,rfl⟩
 have h1:=cE (b:=(16777216:Nat)) (n:=a) (by decide)
 rw [←hn] at h1
 have hlt:2* a+e<(16777216:Nat)^(n+1):=by rw [Nat.pow_succ];omega
 have lp:=bN (f:=aP MD t20 (n+1) 78 0) (S:=fun i=>SW a e n i []) (n:=n) (fun i hi=>Jq (n+1) a e n i he hn hi (by omega))
  (an (T9 (n+1) n n ((2* a+e) / (16777216:Nat)^n - 2* (a / (16777216:Nat)^n):Nat) ((dg (16777216:Nat) a).map aF) ((bY (16777216:Nat) (n+1) n (2* a+e)).map aF)) ⟨decide_eq_false (by omega),trivial⟩) (by simp) (n+1) (by omega)
 have c0:((2* a+e) / (16777216:Nat)^0 - 2* (a / (16777216:Nat)^0):Nat)=e:=by simp
 have z1:=l7 (b:=(16777216:Nat)) (v:=a) (i:=n) (by decide) (by omega)
 have hc:=Jr a e he n
 rw [z1] at hc
 unfold SW at lp
 rw [c0,z1,Nat.mul_zero,Nat.sub_zero] at lp
 have z:=kU (c:=aF) (n:=n+1)
 rw [←jF (16777216:Nat) (n+1) (2* a+e)] at z
 have hstep:=iK (b:=(16777216:Nat)) (n:=n+1) (i:=n) (v:=2* a+e) (by omega)
 rw [oK,Nat.mod_eq_of_lt (by omega)] at hstep
 have hsp:cg ((bY (16777216:Nat) (n+1) n (2* a+e)).map aF) (0+n* 1) [iv ((2* a+e) / (16777216:Nat)^n:Nat)] ((fd (16777216:Nat) (n+1) (2* a+e)).map aF):=mw (c:=aF) hstep (by rw [eu (by omega)];omega) (by omega)
 have hle:0+n* 1+(iv ((2* a+e) / (16777216:Nat)^n:Nat)).cells.length≤((bY (16777216:Nat) (n+1) n (2* a+e)).map aF).length:=by
  rw [List.length_map,eu (by omega)];show _+1≤_;omega
 have tr:=qu (n:=n+1) (v:=2* a+e) (by omega) hlt
 have fin:cH ((fd (16777216:Nat) (n+1) (2* a+e)).map aF) 0 ((dg (16777216:Nat) (2* a+e)).length* 1) ((dg (16777216:Nat) (2* a+e)).map aF):=o9 _ _ _ (by rw [List.drop_zero,Nat.mul_one];exact uc (by decide) hlt)
 have:=ah af r5 (by rfl) (Y2 (n+1) n _ _ e ((dg (16777216:Nat) a).map aF) _ _ _ _) ⟨aR (by omega) (by omega),sN (by omega),decide_eq_false (by omega),z,lp,⟨rfl,by omega⟩,hle,hsp,tr,fin,trivial⟩
 unfold ni
 rw [←hn]
 exact this
def iR (a b:Nat):Int:=if a<b then -1 else if b<a then 1 else 0
def lI (l m:List Nat) (j:Nat):Xt×St:=
 if val (16777216:Nat) (l.take j)<val (16777216:Nat) (m.take j) then (.ret,⟨[(4, .pv (iv (-1)))],[],[],[]⟩)
 else if val (16777216:Nat) (m.take j)<val (16777216:Nat) (l.take j) then (.ret,⟨[(4, .pv (iv 1))],[],[],[]⟩)
 else (.exit 0,⟨[(0, .pv (ni l)),(1, .pv (ni m)),(5, .pv (iv (-1))),(20, .pv (bv false))],[],[],[]⟩)
theorem AB (k:Nat) (l m:List Nat) (hl:bf (16777216:Nat) l) (hm:bf (16777216:Nat) m) (e:l.length=m.length) (hs:l.length<2^40):∀j,j≤l.length→bg (aP MD t0 k 76 0) (j+1) ⟨[(0, .pv (ni l)),(1, .pv (ni m)),(5, .pv (iv ((j:Int) - 1)))],[],[],[]⟩=some (lI l m j)
 |0,_=>by
  simp only [lI,List.take_zero,Nat.lt_irrefl,if_false]
  exact aV (an (SR k _ _ _ _ _) ⟨by decide,trivial⟩) (by simp)
 |j+1,hj=>by
  obtain ⟨x,hx⟩:=get_some (l:=l) (i:=j) (by omega)
  obtain ⟨y,hy⟩:=get_some (l:=m) (i:=j) (by omega)
  have v1:=cy (b:=(16777216:Nat)) hx
  have v2:=cy (b:=(16777216:Nat)) hy
  have l1:=cY (eU hl j)
  have l2:=cY (eU hm j)
  have e1:(l.take j).length=j:=by rw [List.length_take];omega
  have e2:(m.take j).length=j:=by rw [List.length_take];omega
  rw [e1] at l1;rw [e2] at l2
  have hi:(((j+1:Nat):Int) - 1)=(j:Int):=by omega
  rw [hi]
  have r1:aL (l.map aF) 1 (j:Int) l.length [aF x]:=jW hx rfl
  have r2:aL (m.map aF) 1 (j:Int) m.length [aF y]:=jW hy rfl
  have h0:decide ((j:Int)≥0)=true:=decide_eq_true (by omega)
  rcases Nat.lt_trichotomy x y with h|h|h
  · have hv:val (16777216:Nat) (l.take (j+1))<val (16777216:Nat) (m.take (j+1)):=by
      rw [v1,v2]
      have:(16777216:Nat)^j* (x+1)≤(16777216:Nat)^j* y:=Nat.mul_le_mul_left _ h
      rw [Nat.mul_add] at this
      omega
    simp only [lI,if_pos hv]
    exact aV (an (SV k _ _ x y _ _ _) ⟨h0,r1,r2,bne_iff_ne.2 (by omega),r1,r2,decide_eq_true (by omega),trivial⟩) (by simp)
  · subst h
    have hc:lI l m (j+1)=lI l m j:=by
     simp only [lI,v1,v2,Nat.add_lt_add_iff_right]
    rw [hc]
    exact bn (an (SU k _ _ x x _ _ _ ((j:Int) - 1)) ⟨h0,r1,r2,by simp,wrap64 (by omega) (by omega),trivial⟩) (AB k l m hl hm e hs j (by omega))
  · have hv:val (16777216:Nat) (m.take (j+1))<val (16777216:Nat) (l.take (j+1)):=by
      rw [v1,v2]
      have:(16777216:Nat)^j* (y+1)≤(16777216:Nat)^j* x:=Nat.mul_le_mul_left _ h
      rw [Nat.mul_add] at this
      omega
    have Ad:¬val (16777216:Nat) (l.take (j+1))<val (16777216:Nat) (m.take (j+1)):=by omega
    simp only [lI,if_pos hv,if_neg Ad]
    exact aV (an (SX k _ _ x y _ _ _) ⟨h0,r1,r2,bne_iff_ne.2 (by omega),r1,r2,decide_eq_false (by omega),trivial⟩) (by simp)
theorem GB (a b:Nat) (ha:(dg (16777216:Nat) a).length<2^40) (hb:(dg (16777216:Nat) b).length<2^40):az P0 76 [ni (dg (16777216:Nat) a),ni (dg (16777216:Nat) b)] (one (iv (iR a b))):=by
 by_cases e:(dg (16777216:Nat) a).length=(dg (16777216:Nat) b).length
 · have lp:=AB ((dg (16777216:Nat) a).length+1) _ _ (bW (by decide) a) (bW (by decide) b) e ha (dg (16777216:Nat) a).length (Nat.le_refl _)
   have hne:(((dg (16777216:Nat) a).length:Int) !=((dg (16777216:Nat) b).length:Int))=false:=by simp [e]
   have hw:IntKind.i64.wrap (((dg (16777216:Nat) a).length:Int) - 1)=((dg (16777216:Nat) a).length:Int) - 1:=wrap64 (by omega) (by omega)
   have t1:(dg (16777216:Nat) a).take (dg (16777216:Nat) a).length=dg (16777216:Nat) a:=List.take_length
   have t2:(dg (16777216:Nat) b).take (dg (16777216:Nat) a).length=dg (16777216:Nat) b:=by rw [e];exact List.take_length
   unfold lI at lp
   rw [t1,t2,bS (by decide),bS (by decide)] at lp
   unfold iR
   by_cases v1:a<b
   · rw [if_pos v1] at lp ⊢
     exact ah af (aH aE) (by rfl) (QO ((dg (16777216:Nat) a).length+1) _ _ _ _ _ (-1)) ⟨hne,hw,lp,trivial⟩
   · rw [if_neg v1] at lp ⊢
     by_cases v2:b<a
     · rw [if_pos v2] at lp ⊢
       exact ah af (aH aE) (by rfl) (QO ((dg (16777216:Nat) a).length+1) _ _ _ _ _ 1) ⟨hne,hw,lp,trivial⟩
     · rw [if_neg v2] at lp ⊢
       exact ah af (aH aE) (by rfl) (XN ((dg (16777216:Nat) a).length+1) _ _ _ _ _) ⟨hne,hw,lp,trivial⟩
 · have hne:(((dg (16777216:Nat) a).length:Int) !=((dg (16777216:Nat) b).length:Int))=true:=bne_iff_ne.2 (by omega)
   unfold iR
   by_cases h:(dg (16777216:Nat) a).length<(dg (16777216:Nat) b).length
   · rw [if_pos (EM (by decide) h)]
     exact ah af (aH aE) (by rfl) (XL 1 _ _ _ _) ⟨hne,decide_eq_true (by omega),trivial⟩
   · have h2:=EM (b:=(16777216:Nat)) (by decide) (show (dg (16777216:Nat) b).length<(dg (16777216:Nat) a).length by omega)
     rw [if_neg (by omega),if_pos h2]
     exact ah af (aH aE) (by rfl) (XM 1 _ _ _ _) ⟨hne,decide_eq_false (by omega),trivial⟩
theorem GZ:aI MD.P t21:=aH (aj (au fun x _=>jX x.1 x.2) aE)
def Si (g:Bool) (s:ByteArray) (i:Nat) (e:List (Nat×AV)):St:=⟨(1, .bp 1 0)::(4, .pv (.lit (.int .u64 (val 256 ((aT s).drop (s.size - i)):Nat))))::(5, .pv (iv i))::e,[(1,[bv g,sv s])],[],[]⟩
theorem Iq (k i:Nat) (g:Bool) (s:ByteArray) (hi:i<s.size) (hs:s.size≤7):aP MD t21 k 88 0 (Si g s i [])=some (.normal,Si g s (i+1) []):=by
 obtain ⟨b,hb,ck⟩:=lY (s:=s) (i:=s.size - 1 - i) (by omega)
 have nR:b<256:=ec s b (List.mem_of_getElem? hb)
 rw [show s.size - 1 - (s.size - 1 - i)=i by omega] at ck
 have hd:=tX (b:=256) hb
 rw [show s.size - 1 - i+1=s.size - i by omega,show s.size - 1 - i=s.size - (i+1) by omega] at hd
 have hlt:=cY (jE (ec s) (s.size - (i+1)))
 rw [List.length_drop,bO] at hlt
 have h7:256^(s.size - (s.size - (i+1)))≤256^7:=Nat.pow_le_pow_right (by decide) (by omega)
 have Aa:eE s (i:Int) (b:Int):=by
  show jg s _=_
  unfold jg
  rw [if_pos (by omega),Int.toNat_natCast]
  cases h:s[i]? with
  |none=>rw [h] at ck;simp at ck
  |some c=>rw [h] at ck;simp at ck;simp [ck]
 obtain ⟨u,hu⟩:∃u,u=val 256 ((aT s).drop (s.size - i)):=⟨_,rfl⟩
 obtain ⟨u2,ji⟩:∃u2,u2=val 256 ((aT s).drop (s.size - (i+1))):=⟨_,rfl⟩
 rw [←hu,←ji] at hd
 rw [←ji] at hlt
 unfold Si
 rw [←hu,←ji]
 have hp:(2:Int)^min (Int.toNat 8) IntKind.u64.bits=256:=by decide
 exact an (WM k i b u ((256* u:Nat):Int) (u2:Nat) g s) ⟨decide_eq_true (by omega),by rw [hp];exact bz (by omega) (by omega),rfl,Aa,bz rfl (by omega),bz (by omega) (by omega),aR (by omega) (by omega),trivial⟩
theorem Gz (z:Int) (h:(ai z.natAbs).size≤7):az P0 88 [.ag (zc z)] (one (.aG [iv z,bv true])):=by
 obtain ⟨s,hs⟩:∃s,s=ai z.natAbs:=⟨_,rfl⟩
 rw [←hs] at h
 have hval:val 256 ((aT s).drop (s.size - s.size))=z.natAbs:=by rw [Nat.sub_self,List.drop_zero,hs,cV,bS (by decide)]
 have hlt:z.natAbs<256^7:=by
  have h1:=cE (b:=256) (n:=z.natAbs) (by decide)
  have h2:(dg 256 z.natAbs).length≤7:=by rw [←lZ,←hs];exact h
  exact Nat.lt_of_lt_of_le h1 (Nat.pow_le_pow_right (by decide) h2)
 have lp:=fun g=>bN (f:=aP MD t21 8 88 0) (S:=fun i=>Si g s i []) (n:=s.size) (fun i hi=>Iq 8 i g s hi h) (an (WN 8 s.size (val 256 ((aT s).drop (s.size - s.size)):Nat) g s) ⟨decide_eq_false (by omega),trivial⟩) (by simp) 8 (by omega)
 have v0:val 256 ((aT s).drop (s.size - 0))=0:=by
  rw [Nat.sub_zero,List.drop_of_length_le (by rw [bO];omega)];rfl
 have vt:ff [iz (decide (z<0)) s]=some (one (bv true)):=by rw [cD,hs,mc]
 unfold Si at lp
 rw [hval,v0] at lp
 have e:(.ag (zc z):PV)=iz (decide (z<0)) s:=by rw [hs];rfl
 rw [e]
 by_cases hz:z<0
 · rw [decide_eq_true hz] at vt ⊢
   exact ah af GZ (by rfl) (WK 8 (z.natAbs:Nat) (-z - 1) (-z - 1) (z+1) z s) ⟨vt,decide_eq_false (by omega),lp true,decide_eq_true (by omega),by rw [wrap_u64];omega,wrap64 (by omega) (by omega),by rw [wrap64]<;>omega,by rw [wrap64]<;>omega,trivial⟩
 · rw [decide_eq_false hz] at vt ⊢
   exact ah af GZ (by rfl) (WL 8 (z.natAbs:Nat) z s) ⟨vt,decide_eq_false (by omega),lp false,decide_eq_true (by omega),by rw [wrap64]<;>omega,trivial⟩
theorem FE {z:Int} (h:(ai z.natAbs).size≤7):FD [.ag (zc z)]=some (one (.aG [iv z,bv true])):=
 aM (enc:=fun z:Int=>[.ag (zc z)]) (fun a b e=>by
  simp only [List.cons.injEq,and_true,PV.ag.injEq] at e
  rw [eM e]) h
theorem GG (z:Int) (h:(ai z.natAbs).size≤7):az P0 71 [.ag (zc z)] (one (.aG [iv z,bv true])):=
 ah af (aH (aj (au fun z h=>Gz z h) aE)) (by rfl) (Tx 1 (decide (z<0)) (ai z.natAbs) z) ⟨decide_eq_false (by omega),FE h,trivial⟩
end Go.Proofs.YtibbgjafjhcemaaDoor.Cul
namespace Go.Proofs.YtibbgjafjhcemaaDoor.Cul
theorem pP {b:Nat} (hb:2≤b) {w:Nat} (hw:0<w):∀z,dg b (b^z* w)=List.replicate z 0++dg b w
 |0=>by simp
 |z+1=>by
  have h:0<b^z* w:=Nat.mul_pos (Nat.pow_pos (by omega)) hw
  have e:b^(z+1)* w=0+b* (b^z* w):=by rw [Nat.pow_succ,Nat.mul_comm (b^z) b,Nat.mul_assoc];omega
  rw [e,wP hb (by omega) _ (.inr h),pP hb hw z,List.replicate_succ];rfl
def oz (v:Nat):Nat:=tz v / 24
def ok' (v:Nat):Nat:=tz v%24
def ow (v:Nat):Nat:=2^ok' v* od v
theorem nV (v:Nat):ok' v<24:=Nat.mod_lt _ (by decide)
theorem rR {v:Nat} (h:0<v):0<ow v:=Nat.mul_pos (Nat.pow_pos (by decide)) (N4 h)
theorem DY {v:Nat} (h:0<v):(16777216:Nat)^oz v* ow v=v:=by
 conv=>rhs;rw [←vE h]
 unfold ow
 rw [←Nat.mul_assoc]
 congr 1
 rw [show (16777216:Nat)=2^24 by decide,←Nat.pow_mul,←Nat.pow_add]
 congr 1
 unfold oz ok'
 omega
theorem BZ {w j:Nat} (h:j<24):(w%(16777216:Nat)) / 2^j%2=w / 2^j%2:=by
 rw [show (16777216:Nat)=2^j* 2^(24 - j) by rw [←Nat.pow_add,show j+(24 - j)=24 by omega],Nat.mod_mul_right_div_self]
 refine Nat.mod_mod_of_dvd _ ?_
 exact ⟨2^(24 - j - 1),by rw [←Nat.pow_succ'];congr 1;omega⟩
theorem N9 {v j:Nat} (h:j<ok' v):(ow v%(16777216:Nat)) / 2^j%2=0:=by
 have:=nV v
 rw [BZ (by omega)]
 unfold ow
 obtain ⟨d,hd⟩:∃d,ok' v=j+(d+1):=⟨ok' v - j - 1,by omega⟩
 rw [hd,Nat.pow_add,Nat.mul_assoc,Nat.mul_div_cancel_left _ (Nat.pow_pos (by decide)),Nat.pow_succ']
 rw [Nat.mul_assoc];simp
theorem Cw {v:Nat} (h:0<v):(ow v%(16777216:Nat)) / 2^ok' v%2=1:=by
 rw [BZ (nV v)]
 unfold ow
 rw [Nat.mul_div_cancel_left _ (Nat.pow_pos (by decide))]
 exact ju h
theorem Oa {v:Nat}:ow v%(16777216:Nat)%2^ok' v=0:=by
 have:=nV v
 rw [Nat.mod_mod_of_dvd _ (by rw [show (16777216:Nat)=2^24 by decide];exact Nat.pow_dvd_pow 2 (by omega))]
 unfold ow
 simp
def gG (v:Nat):List Nat:=List.replicate (oz v) 0++shr (ok' v) (dg (16777216:Nat) (ow v))
theorem Ay {v:Nat} (h:0<v):val (16777216:Nat) (shr (ok' v) (dg (16777216:Nat) (ow v)))=od v:=by
 have hw:=rR h
 have e:=dz (b:=(16777216:Nat)) (by decide) hw
 have h1:=CQ (k:=ok' v) (by have:=nV v;omega) (ow v%(16777216:Nat)) (dg (16777216:Nat) (ow v / (16777216:Nat)))
 rw [←e] at h1
 rw [show (2:Nat)^24=(16777216:Nat) by decide,bS (by decide),Oa,Nat.add_zero] at h1
 exact Nat.eq_of_mul_eq_mul_left (Nat.pow_pos (by decide)) h1
theorem Aw (v:Nat):bf (16777216:Nat) (shr (ok' v) (dg (16777216:Nat) (ow v))):=by
 have:=CO (k:=ok' v) (by have:=nV v;omega) (l:=dg (16777216:Nat) (ow v)) (by rw [show (2:Nat)^24=(16777216:Nat) by decide];exact bW (by decide) _)
 rwa [show (2:Nat)^24=(16777216:Nat) by decide] at this
def cK (k:Nat) (l:List Nat) (i:Nat):List Nat:=(shr k l).take i++l.drop i
theorem GP (k:Nat) (l:List Nat) (i:Nat):(cK k l i).length=l.length:=by
 simp [cK,gL];omega
theorem Ej (k:Nat) (l:List Nat):cK k l 0=l:=by simp [cK]
theorem GN (k:Nat) (l:List Nat):cK k l l.length=shr k l:=by
 simp [cK]
 exact List.take_of_length_le (by rw [gL];omega)
theorem GO {k:Nat} {l:List Nat} {i x:Nat} (h:l[i]? =some x):(cK k l i)[i]? =some x:=by
 have hi:i<l.length:=by
  rcases Nat.lt_or_ge i l.length with h'|h'
  · exact h'
  · simp [List.getElem?_eq_none h'] at h
 unfold cK
 rw [List.getElem?_append_right (by rw [List.length_take,gL];omega),List.length_take,gL,List.getElem?_drop]
 rw [show i+(i - min i l.length)=i by omega];exact h
theorem Eh {k:Nat} {l:List Nat} {i y:Nat} (h:l[i+1]? =some y) (z:Nat):((cK k l i).set i z)[i+1]? =some y:=by
 have hi:i+1<l.length:=by
  rcases Nat.lt_or_ge (i+1) l.length with h'|h'
  · exact h'
  · simp [List.getElem?_eq_none h'] at h
 rw [List.getElem?_set_ne (by omega)]
 unfold cK
 rw [List.getElem?_append_right (by rw [List.length_take,gL];omega),List.length_take,gL,List.getElem?_drop]
 rw [show i+(i+1 - min i l.length)=i+1 by omega];exact h
theorem Ei {k:Nat} {l:List Nat} {i x:Nat} (h:l[i]? =some x):(cK k l i).set i (x / 2^k+(match l[i+1]? with|some y=>y* 2^(24 - k)%2^24|none=>0))=cK k l (i+1):=by
 have hi:i<l.length:=by
  rcases Nat.lt_or_ge i l.length with h'|h'
  · exact h'
  · simp [List.getElem?_eq_none h'] at h
 have hg:=CP (k:=k) h
 have hl:((shr k l).take i).length=i:=by rw [List.length_take,gL];omega
 have hs:(shr k l).take (i+1)=(shr k l).take i++[x / 2^k+(match l[i+1]? with|some y=>y* 2^(24 - k)%2^24|none=>0)]:=by
  rw [List.take_add_one,hg];rfl
 unfold cK
 rw [List.set_append_right _ _ (by omega),hl,Nat.sub_self,List.drop_eq_getElem_cons hi,List.set_cons_zero,hs,List.append_assoc];rfl
end Go.Proofs.YtibbgjafjhcemaaDoor.Cul
namespace Go.Proofs.YtibbgjafjhcemaaDoor.Cul
open Go Go.RowKit
theorem Sx (k o m x:Nat) (c:Int) (cs:List PV):aA MD t20 k 75 0 ⟨[(0, .bs gk o 1 m),(4, .pv (iv c))],[(gk,cs)],[],[]⟩ [.j 8 0, .e 9 (iv x), .c false]=
 some ((Xt.exit 0,St.mk [(0,AV.bs 1000000 o 1 m),(4,AV.pv (PV.lit (Value.int IntKind.i64 c))),(10,AV.pv (PV.lit (Value.bool false)))] [(1000000,cs)] [] []),[],[aK (0:Int) m 0,Ld MD.P 3 cs o (PV.lit (Value.int IntKind.i64 (↑x:Int))),((↑x:Int)==(0:Int))=false]):=by kernel_rfl
theorem Sy (k o m x:Nat) (c d:Int) (cs:List PV):aA MD t20 k 75 0 ⟨[(0, .bs gk o 1 m),(4, .pv (iv c))],[(gk,cs)],[],[]⟩ [.j 8 0, .e 9 (iv x), .c true, .o 12 (o+1) (m - 1), .i 14 d]=
 some ((Xt.normal,St.mk [(0,AV.bs 1000000 (o+(1:Nat)) 1 (m - (1:Nat))),(4,AV.pv (PV.lit (Value.int IntKind.i64 d)))] [(1000000,cs)] [] []),[],[aK (0:Int) m 0,Ld MD.P 3 cs o (PV.lit (Value.int IntKind.i64 (↑x:Int))),((↑x:Int)==(0:Int))=true,(0:Int)≤(1:Int)∧(1:Int)≤(↑m:Int)∧(↑m:Int)≤(↑m:Int),o+Int.toNat (1:Int)* (1:Nat)=o+(1:Nat),(↑m:Int).toNat - Int.toNat (1:Int)=m - (1:Nat),IntKind.i64.wrap (c+(24:Int))=d]):=by kernel_rfl
theorem Sz (k o m x j y z:Nat) (c:Int) (cs:List PV):aA MD t20 k 75 1 ⟨[(0, .bs gk o 1 m),(4, .pv (iv c)),(5, .pv (iv j))],[(gk,cs)],[],[]⟩ [.j 16 0, .e 17 (iv x), .i 19 y, .i 20 z, .c false]=
 some ((Xt.exit 2,St.mk [(0,AV.bs 1000000 o 1 m),(4,AV.pv (PV.lit (Value.int IntKind.i64 c))),(5,AV.pv (PV.lit (Value.int IntKind.i64 (↑j:Int)))),(21,AV.pv (PV.lit (Value.bool false)))] [(1000000,cs)] [] []),[],[aK (0:Int) m 0,Ld MD.P 3 cs o (PV.lit (Value.int IntKind.i64 (↑x:Int))),(↑x:Int).fdiv ((2:Int)^min (↑j:Int).toNat IntKind.i64.bits)=(↑y:Int),decide ((↑j:Int)<(0:Int))=false,IntKind.i64.wrap (↑(BitVec.ofInt IntKind.i64.bits (↑y:Int)&&&BitVec.ofInt IntKind.i64.bits (1:Int)).toNat:Int)=(↑z:Int),((↑z:Int)==(0:Int))=false]):=by kernel_rfl
theorem SD (k o m x j y z:Nat) (c:Int) (cs:List PV):aA MD t20 k 75 1 ⟨[(0, .bs gk o 1 m),(4, .pv (iv c)),(5, .pv (iv j))],[(gk,cs)],[],[]⟩ [.j 16 0, .e 17 (iv x), .i 19 y, .i 20 z, .c true, .i 23 (j+1:Nat)]=
 some ((Xt.normal,St.mk [(0,AV.bs 1000000 o 1 m),(4,AV.pv (PV.lit (Value.int IntKind.i64 c))),(5,AV.pv (PV.lit (Value.int IntKind.i64 (↑(j+(1:Nat)):Int))))] [(1000000,cs)] [] []),[],[aK (0:Int) m 0,Ld MD.P 3 cs o (PV.lit (Value.int IntKind.i64 (↑x:Int))),(↑x:Int).fdiv ((2:Int)^min (↑j:Int).toNat IntKind.i64.bits)=(↑y:Int),decide ((↑j:Int)<(0:Int))=false,IntKind.i64.wrap (↑(BitVec.ofInt IntKind.i64.bits (↑y:Int)&&&BitVec.ofInt IntKind.i64.bits (1:Int)).toNat:Int)=(↑z:Int),((↑z:Int)==(0:Int))=true,IntKind.i64.wrap ((↑j:Int)+(1:Int))=(↑(j+(1:Nat)):Int)]):=by kernel_rfl
theorem SE (k o m i:Nat) (c q:Int) (cs:List PV):aA MD t20 k 75 2 ⟨[(0, .bs gk o 1 m),(4, .pv (iv c)),(5, .pv (iv q)),(6, .pv (iv i))],[(gk,cs)],[],[]⟩ [.c false]=
 some ((Xt.exit 4,St.mk [(0,AV.bs 1000000 o 1 m),(4,AV.pv (PV.lit (Value.int IntKind.i64 c))),(5,AV.pv (PV.lit (Value.int IntKind.i64 q))),(6,AV.pv (PV.lit (Value.int IntKind.i64 (↑i:Int)))),(27,AV.pv (PV.lit (Value.bool false)))] [(1000000,cs)] [] []),[],[decide ((↑i:Int)<(↑m:Int))=false]):=by kernel_rfl
theorem SF (k o m i x y:Nat) (c q:Int) (cs cs':List PV):aA MD t20 k 75 2 ⟨[(0, .bs gk o 1 m),(4, .pv (iv c)),(5, .pv (iv q)),(6, .pv (iv i))],[(gk,cs)],[],[]⟩ [.c true, .j 32 i, .e 33 (iv x), .i 35 y, .j 36 i, .s cs', .i 38 (i+1:Nat), .c false, .i 29 (i+1:Nat)]=
 some ((Xt.normal,St.mk [(0,AV.bs 1000000 o 1 m),(4,AV.pv (PV.lit (Value.int IntKind.i64 c))),(5,AV.pv (PV.lit (Value.int IntKind.i64 q))),(6,AV.pv (PV.lit (Value.int IntKind.i64 (↑(i+(1:Nat)):Int))))] [(1000000,cs')] [] []),[],[decide ((↑i:Int)<(↑m:Int))=true,aK (↑i:Int) m i,Ld MD.P 3 cs (o+i* (1:Nat)) (PV.lit (Value.int IntKind.i64 (↑x:Int))),(↑x:Int).fdiv ((2:Int)^min q.toNat IntKind.i64.bits)=(↑y:Int),decide (q<(0:Int))=false,aK (↑i:Int) m i,o+i* (1:Nat)+(PV.lit (Value.int IntKind.i64 (↑y:Int))).cells.length≤cs.length,cg cs (o+i* (1:Nat)) [PV.lit (Value.int IntKind.i64 (↑y:Int))] cs',IntKind.i64.wrap ((↑i:Int)+(1:Int))=(↑(i+(1:Nat)):Int),decide ((↑(i+(1:Nat)):Int)<(↑m:Int))=false,IntKind.i64.wrap ((↑i:Int)+(1:Int))=(↑(i+(1:Nat)):Int)]):=by kernel_rfl
theorem SG (k o m i x y u Kh s1 s2 s3:Nat) (c q:Int) (cs cs' dL:List PV):aA MD t20 k 75 2 ⟨[(0, .bs gk o 1 m),(4, .pv (iv c)),(5, .pv (iv q)),(6, .pv (iv i))],[(gk,cs)],[],[]⟩ [.c true, .j 32 i, .e 33 (iv x), .i 35 y, .j 36 i, .s cs', .i 38 (i+1:Nat), .c true, .j 44 i, .e 45 (iv y), .i 48 (i+1:Nat), .j 49 (i+1), .e 50 (iv u), .i 52 Kh, .i 53 s1, .i 54 s2, .i 55 s3, .j 56 i, .s dL, .i 29 (i+1:Nat)]=
 some ((Xt.normal,St.mk [(0,AV.bs 1000000 o 1 m),(4,AV.pv (PV.lit (Value.int IntKind.i64 c))),(5,AV.pv (PV.lit (Value.int IntKind.i64 q))),(6,AV.pv (PV.lit (Value.int IntKind.i64 (↑(i+(1:Nat)):Int))))] [(1000000,dL)] [] []),[],[decide ((↑i:Int)<(↑m:Int))=true,aK (↑i:Int) m i,Ld MD.P 3 cs (o+i* (1:Nat)) (PV.lit (Value.int IntKind.i64 (↑x:Int))),(↑x:Int).fdiv ((2:Int)^min q.toNat IntKind.i64.bits)=(↑y:Int),decide (q<(0:Int))=false,aK (↑i:Int) m i,o+i* (1:Nat)+(PV.lit (Value.int IntKind.i64 (↑y:Int))).cells.length≤cs.length,cg cs (o+i* (1:Nat)) [PV.lit (Value.int IntKind.i64 (↑y:Int))] cs',IntKind.i64.wrap ((↑i:Int)+(1:Int))=(↑(i+(1:Nat)):Int),decide ((↑(i+(1:Nat)):Int)<(↑m:Int))=true,aK (↑i:Int) m i,Ld MD.P 3 cs' (o+i* (1:Nat)) (PV.lit (Value.int IntKind.i64 (↑y:Int))),IntKind.i64.wrap ((↑i:Int)+(1:Int))=(↑(i+(1:Nat)):Int),aK (↑(i+(1:Nat)):Int) m (i+(1:Nat)),Ld MD.P 3 cs' (o+(i+(1:Nat))* (1:Nat)) (PV.lit (Value.int IntKind.i64 (↑u:Int))),IntKind.i64.wrap ((24:Int) - q)=(↑Kh:Int),IntKind.i64.wrap ((↑u:Int)* (2:Int)^min (↑Kh:Int).toNat IntKind.i64.bits)=(↑s1:Int),decide ((↑Kh:Int)<(0:Int))=false,(↑s1:Int).tmod (16777216:Int)=(↑s2:Int),false=false,IntKind.i64.wrap ((↑y:Int)+(↑s2:Int))=(↑s3:Int),aK (↑i:Int) m i,o+i* (1:Nat)+(PV.lit (Value.int IntKind.i64 (↑s3:Int))).cells.length≤cs'.length,cg cs' (o+i* (1:Nat)) [PV.lit (Value.int IntKind.i64 (↑s3:Int))] dL,IntKind.i64.wrap ((↑i:Int)+(1:Int))=(↑(i+(1:Nat)):Int)]):=by kernel_rfl
theorem SH (k o m n r:Nat) (c q f:Int) (cs cs':List PV):mq MD t20 k 75 [.g cs 0 1 n] [.l (.exit 0) ⟨[(0, .bs gk o 1 m),(4, .pv (iv c)),(10, .pv (bv false))],[(gk,cs)],[],[]⟩, .l (.exit 2) ⟨[(0, .bs gk o 1 m),(4, .pv (iv c)),(5, .pv (iv q)),(21, .pv (bv false))],[(gk,cs)],[],[]⟩, .l (.exit 4) ⟨[(0, .bs gk o 1 m),(4, .pv (iv c)),(5, .pv (iv q)),(6, .pv (iv m)),(27, .pv (bv false))],[(gk,cs')],[],[]⟩, .m (.gs o r) cs', .i 61 f]=
 some ((MR.gt o r [PV.lit (Value.int IntKind.i64 f)],cs'),[cs'.all cJ=true,cs'.length=cs.length,aW MD t20 k (75:Nat) (0:Nat) (St.mk [(0,AV.bs 1000000 0 1 n),(4,AV.pv (PV.lit (Value.int IntKind.i64 (0:Int))))] [(1000000,cs)] [] []) (Xt.exit 0) (St.mk [(0,AV.bs 1000000 o 1 m),(4,AV.pv (PV.lit (Value.int IntKind.i64 c))),(10,AV.pv (PV.lit (Value.bool false)))] [(1000000,cs)] [] []),aW MD t20 k (75:Nat) (1:Nat) (St.mk [(0,AV.bs 1000000 o 1 m),(4,AV.pv (PV.lit (Value.int IntKind.i64 c))),(5,AV.pv (PV.lit (Value.int IntKind.i64 (0:Int))))] [(1000000,cs)] [] []) (Xt.exit 2) (St.mk [(0,AV.bs 1000000 o 1 m),(4,AV.pv (PV.lit (Value.int IntKind.i64 c))),(5,AV.pv (PV.lit (Value.int IntKind.i64 q))),(21,AV.pv (PV.lit (Value.bool false)))] [(1000000,cs)] [] []),aW MD t20 k (75:Nat) (2:Nat) (St.mk [(0,AV.bs 1000000 o 1 m),(4,AV.pv (PV.lit (Value.int IntKind.i64 c))),(5,AV.pv (PV.lit (Value.int IntKind.i64 q))),(6,AV.pv (PV.lit (Value.int IntKind.i64 (0:Int))))] [(1000000,cs)] [] []) (Xt.exit 4) (St.mk [(0,AV.bs 1000000 o 1 m),(4,AV.pv (PV.lit (Value.int IntKind.i64 c))),(5,AV.pv (PV.lit (Value.int IntKind.i64 q))),(6,AV.pv (PV.lit (Value.int IntKind.i64 (↑m:Int)))),(27,AV.pv (PV.lit (Value.bool false)))] [(1000000,cs')] [] []),eH t20 90 [MA.g cs' o 1 m] (MR.gs o r) cs',IntKind.i64.wrap (c+q)=f]):=by kernel_rfl
theorem L2 (y:Nat) (h:y<2^63):IntKind.i64.wrap (((BitVec.ofInt IntKind.i64.bits (y:Int)&&&BitVec.ofInt IntKind.i64.bits 1).toNat:Nat):Int)=((y%2:Nat):Int):=by
 have e:(BitVec.ofInt IntKind.i64.bits (y:Int)&&&BitVec.ofInt IntKind.i64.bits 1).toNat=y%2:=by
  rw [BitVec.toNat_and,show (1:Int)=((1:Nat):Int) from rfl,BitVec.ofInt_natCast,BitVec.ofInt_natCast,BitVec.toNat_ofNat,BitVec.toNat_ofNat]
  show y%2^64&&&1%2^64=y%2
  rw [Nat.mod_eq_of_lt (by omega),show 1%2^64=1 by decide,Nat.and_one_is_mod]
 rw [e]
 exact aR rfl (by omega)
theorem TC {x r:Nat} {k:Int} (hk:k=(r:Int)) (hr:r<64) (hb:x* 2^r<2^63):IntKind.i64.wrap ((x:Int)* 2^min k.toNat IntKind.i64.bits)=((x* 2^r:Nat):Int):=by
 subst hk
 have e:min ((r:Int).toNat) IntKind.i64.bits=r:=by rw [Int.toNat_natCast];show min r 64=r;omega
 rw [e]
 exact aR (by norm_cast) hb
theorem Cx {v:Nat} (h:0<v):∃l,dg (16777216:Nat) (ow v)=(ow v%(16777216:Nat))::l∧0<ow v%(16777216:Nat):=by
 refine ⟨_,dz (by decide) (rR h), ?_⟩
 rcases Nat.eq_zero_or_pos (ow v%(16777216:Nat)) with h0|h0
 · have:=Cw h
   rw [show (16777216:Nat)=(16777216:Nat) from rfl,h0] at this;simp at this
 · exact h0
theorem Av (k v:Nat) (hv:0<v) (hb:(dg (16777216:Nat) v).length<2^40):∀j o,o+j=oz v→bg (aP MD t20 k 75 0) (j+1) ⟨[(0, .bs gk o 1 (j+(dg (16777216:Nat) (ow v)).length)),(4, .pv (iv (24* o:Nat)))],[(gk,(List.replicate (oz v) 0++dg (16777216:Nat) (ow v)).map aF)],[],[]⟩=some (.exit 0,⟨[(0, .bs gk (oz v) 1 (dg (16777216:Nat) (ow v)).length),(4, .pv (iv (24* oz v:Nat))),(10, .pv (bv false))],[(gk,(List.replicate (oz v) 0++dg (16777216:Nat) (ow v)).map aF)],[],[]⟩)
 |0,o,h=>by
  have ho:o=oz v:=by omega
  subst ho
  rw [Nat.zero_add,Nat.zero_add]
  obtain ⟨l,e1,hx⟩:=Cx hv
  have el:(dg (16777216:Nat) (ow v)).length=l.length+1:=by rw [e1];rfl
  have hg:(List.replicate (oz v) 0++dg (16777216:Nat) (ow v))[oz v]? =some (ow v%(16777216:Nat)):=by
   rw [e1,List.getElem?_append_right (by simp)];simp
  exact aV (an (Sx k _ _ _ _ _) ⟨⟨rfl,by omega⟩,pW hg rfl,beq_false_of_ne (by omega),trivial⟩) (by simp)
 |j+1,o,h=>by
  have hg:(List.replicate (oz v) 0++dg (16777216:Nat) (ow v))[o]? =some 0:=by
   rw [List.getElem?_append_left (by simp;omega),List.getElem?_replicate,if_pos (by omega)]
  have ho:oz v<2^40:=by
   have:=pP (b:=(16777216:Nat)) (by decide) (rR hv) (oz v)
   rw [DY hv] at this
   have:=congrArg List.length this
   rw [List.length_append,List.length_replicate] at this
   omega
  have key:=Sy k o (j+1+(dg (16777216:Nat) (ow v)).length) 0 (24* o:Nat) (24* (o+1):Nat) ((List.replicate (oz v) 0++dg (16777216:Nat) (ow v)).map aF)
  rw [show j+1+(dg (16777216:Nat) (ow v)).length - 1=j+(dg (16777216:Nat) (ow v)).length by omega] at key
  exact bn (an key ⟨⟨rfl,by omega⟩,pW hg rfl,rfl,⟨by omega,by omega,by omega⟩,rfl,by show _ - 1=_;omega,aR (by omega) (by omega),trivial⟩) (Av k v hv hb j (o+1) (by omega))
theorem IE (k v:Nat) (c:Int) (hv:0<v):∀j i,i+j=ok' v→bg (aP MD t20 k 75 1) (j+1) ⟨[(0, .bs gk (oz v) 1 (dg (16777216:Nat) (ow v)).length),(4, .pv (iv c)),(5, .pv (iv i))],[(gk,(List.replicate (oz v) 0++dg (16777216:Nat) (ow v)).map aF)],[],[]⟩=some (.exit 2,⟨[(0, .bs gk (oz v) 1 (dg (16777216:Nat) (ow v)).length),(4, .pv (iv c)),(5, .pv (iv (ok' v))),(21, .pv (bv false))],[(gk,(List.replicate (oz v) 0++dg (16777216:Nat) (ow v)).map aF)],[],[]⟩):=by
 have hok:=nV v
 obtain ⟨l,e1,hx⟩:=Cx hv
 have el:(dg (16777216:Nat) (ow v)).length=l.length+1:=by rw [e1];rfl
 have hg:(List.replicate (oz v) 0++dg (16777216:Nat) (ow v))[oz v]? =some (ow v%(16777216:Nat)):=by
  rw [e1,List.getElem?_append_right (by simp)];simp
 have hlt:ow v%(16777216:Nat)<(16777216:Nat):=Nat.mod_lt _ (by decide)
 intro j
 induction j with
 |zero=>
  intro i h
  have hi:i=ok' v:=by omega
  subst hi
  have hb:=Cw hv
  have hle:=Nat.div_le_self (ow v%(16777216:Nat)) (2^ok' v)
  exact aV (an (Sz k _ _ (ow v%(16777216:Nat)) (ok' v) ((ow v%(16777216:Nat)) / 2^ok' v) ((ow v%(16777216:Nat)) / 2^ok' v%2) c _) ⟨⟨rfl,by omega⟩,pW hg rfl,Ba rfl (by omega),decide_eq_false (by omega),L2 _ (by omega),beq_false_of_ne (by rw [show (16777216:Nat)=(16777216:Nat) from rfl,hb];decide),trivial⟩) (by simp)
 |succ j ih=>
  intro i h
  have hb:=N9 (v:=v) (j:=i) (by omega)
  have hle:=Nat.div_le_self (ow v%(16777216:Nat)) (2^i)
  exact bn (an (SD k _ _ (ow v%(16777216:Nat)) i ((ow v%(16777216:Nat)) / 2^i) ((ow v%(16777216:Nat)) / 2^i%2) c _) ⟨⟨rfl,by omega⟩,pW hg rfl,Ba rfl (by omega),decide_eq_false (by omega),L2 _ (by omega),by rw [show (16777216:Nat)=(16777216:Nat) from rfl,hb];rfl,aR (by omega) (by omega),trivial⟩) (ih (i+1) (by omega))
theorem CL {l m:List Nat} {i y:Nat}:(l++m).set (l.length+i) y=l++m.set i y:=by
 rw [List.set_append_right _ _ (by omega),Nat.add_sub_cancel_left]
theorem wX {l m:List Nat} {i x:Nat} (h:m[i]? =some x):(l++m)[l.length+i]? =some x:=by
 rw [List.getElem?_append_right (by omega),Nat.add_sub_cancel_left];exact h
def SC (v i:Nat) (c:Int) (e:List (Nat×AV)):St:=⟨(0, .bs gk (oz v) 1 (dg (16777216:Nat) (ow v)).length)::(4, .pv (iv c))::(5, .pv (iv (ok' v)))::(6, .pv (iv i))::e,[(gk,(List.replicate (oz v) 0++cK (ok' v) (dg (16777216:Nat) (ow v)) i).map aF)],[],[]⟩
theorem F1 (k v i:Nat) (c:Int) (hi:i<(dg (16777216:Nat) (ow v)).length) (hb:(dg (16777216:Nat) (ow v)).length<2^40):aP MD t20 k 75 2 (SC v i c [])=some (.normal,SC v (i+1) c []):=by
 have hok:=nV v
 obtain ⟨x,hx⟩:=get_some hi
 have hxl:=cN (bW (b:=(16777216:Nat)) (by decide) (ow v)) hx
 have hst:=Ei (k:=ok' v) hx
 have V2:=GO (k:=ok' v) hx
 have hz:(List.replicate (oz v) 0).length=oz v:=List.length_replicate
 have hle:=Nat.div_le_self x (2^ok' v)
 generalize hW:dg (16777216:Nat) (ow v)=W at*
 have ll:=GP (ok' v) W i
 have hg:(List.replicate (oz v) 0++cK (ok' v) W i)[oz v+i]? =some x:=by
  have:=wX (l:=List.replicate (oz v) 0) V2;rwa [hz] at this
 have vc:=pW hg (o:=oz v+i* 1) (by omega)
 have M6:∀y,oz v+i* 1+(aF y).cells.length≤((List.replicate (oz v) 0++cK (ok' v) W i).map aF).length:=by
  intro y
  rw [List.length_map,List.length_append,hz,ll];show _+1≤_;omega
 have hsp:∀y,cg ((List.replicate (oz v) 0++cK (ok' v) W i).map aF) (oz v+i* 1) [aF y] ((List.replicate (oz v) 0++(cK (ok' v) W i).set i y).map aF):=by
  intro y
  refine mw (i:=oz v+i) ?_ (by rw [List.length_append,hz,ll];omega) (by omega)
  have:=CL (l:=List.replicate (oz v) 0) (m:=cK (ok' v) W i) (i:=i) (y:=y)
  rwa [hz] at this
 unfold SC
 rw [hW]
 cases hn:W[i+1]? with
 |none=>
  rw [hn] at hst
  simp only [Nat.add_zero] at hst
  have ZR:W.length≤i+1:=List.getElem?_eq_none_iff.1 hn
  have h1:=hsp (x / 2^ok' v)
  rw [hst] at h1
  have key:=SF k (oz v) W.length i x (x / 2^ok' v) c (ok' v) ((List.replicate (oz v) 0++cK (ok' v) W i).map aF) ((List.replicate (oz v) 0++cK (ok' v) W (i+1)).map aF)
  exact an key ⟨decide_eq_true (by omega),⟨rfl,hi⟩,vc,Ba rfl (by omega),decide_eq_false (by omega),⟨rfl,hi⟩,M6 _,h1,aR (by omega) (by omega),decide_eq_false (by omega),aR (by omega) (by omega),trivial⟩
 |some u=>
  rw [hn] at hst
  simp only at hst
  have hul:=gB hn
  have WC:u<(16777216:Nat):=cN (hW ▸bW (b:=(16777216:Nat)) (by decide) (ow v)) hn
  have V3:=Eh (k:=ok' v) hn (x / 2^ok' v)
  have l2:((cK (ok' v) W i).set i (x / 2^ok' v)).length=W.length:=by rw [List.length_set,ll]
  have V5:(List.replicate (oz v) 0++(cK (ok' v) W i).set i (x / 2^ok' v))[oz v+(i+1)]? =some u:=by
   have:=wX (l:=List.replicate (oz v) 0) V3;rwa [hz] at this
  have M4:(List.replicate (oz v) 0++(cK (ok' v) W i).set i (x / 2^ok' v))[oz v+i]? =some (x / 2^ok' v):=by
   have:=wX (l:=List.replicate (oz v) 0) (m:=(cK (ok' v) W i).set i (x / 2^ok' v)) (i:=i) (x:=x / 2^ok' v) (by rw [List.getElem?_set_self (by omega)])
   rwa [hz] at this
  have hp:u* 2^(24 - ok' v)<2^48:=by
   have h1:2^(24 - ok' v)≤2^24:=Nat.pow_le_pow_right (by decide) (by omega)
   calc u* 2^(24 - ok' v)≤u* 2^24:=Nat.mul_le_mul_left _ h1
    _<2^24* 2^24:=Nat.mul_lt_mul_of_pos_right WC (by decide)
    _=2^48:=by decide
  obtain ⟨s2,js⟩:∃s2,s2=u* 2^(24 - ok' v)%(16777216:Nat):=⟨_,rfl⟩
  have Z2:s2<(16777216:Nat):=by rw [js];exact Nat.mod_lt _ (by decide)
  have RN:cg ((List.replicate (oz v) 0++(cK (ok' v) W i).set i (x / 2^ok' v)).map aF) (oz v+i* 1) [aF (x / 2^ok' v+s2)] ((List.replicate (oz v) 0++cK (ok' v) W (i+1)).map aF):=by
   refine mw (i:=oz v+i) ?_ (by rw [List.length_append,hz,l2];omega) (by omega)
   have:=CL (l:=List.replicate (oz v) 0) (m:=(cK (ok' v) W i).set i (x / 2^ok' v)) (i:=i) (y:=x / 2^ok' v+s2)
   rw [hz,List.set_set] at this
   rw [js,show (16777216:Nat)=2^24 by decide] at this
   rw [js,show (16777216:Nat)=2^24 by decide,this,hst]
  have RG:oz v+i* 1+(aF (x / 2^ok' v+s2)).cells.length≤((List.replicate (oz v) 0++(cK (ok' v) W i).set i (x / 2^ok' v)).map aF).length:=by
   rw [List.length_map,List.length_append,hz,l2];show _+1≤_;omega
  have key:=SG k (oz v) W.length i x (x / 2^ok' v) u (24 - ok' v) (u* 2^(24 - ok' v)) s2 (x / 2^ok' v+s2) c (ok' v) ((List.replicate (oz v) 0++cK (ok' v) W i).map aF) ((List.replicate (oz v) 0++(cK (ok' v) W i).set i (x / 2^ok' v)).map aF) ((List.replicate (oz v) 0++cK (ok' v) W (i+1)).map aF)
  exact an key ⟨decide_eq_true (by omega),⟨rfl,hi⟩,vc,Ba rfl (by omega),decide_eq_false (by omega),⟨rfl,hi⟩,M6 _,hsp _,aR (by omega) (by omega),decide_eq_true (by omega),⟨rfl,hi⟩,pW M4 (by omega),aR (by omega) (by omega),⟨rfl,by omega⟩,pW V5 (by omega),aR (by omega) (by omega),TC rfl (by omega) (by omega),decide_eq_false (by omega),by rw [js];exact fl _ _,rfl,aR (by omega) (by omega),⟨rfl,hi⟩,RG,RN,aR (by omega) (by omega),trivial⟩
theorem LF (v:Nat) (hv:0<v) (hb:(dg (16777216:Nat) v).length<2^39):jb P0 75 [.g ((dg (16777216:Nat) v).map aF) 0 1 (dg (16777216:Nat) v).length] (.gt (oz v) (dg (16777216:Nat) (od v)).length [iv (tz v)]) ((gG v).map aF):=by
 have hz:(List.replicate (oz v) 0).length=oz v:=List.length_replicate
 have e0:=pP (b:=(16777216:Nat)) (by decide) (rR hv) (oz v)
 rw [DY hv] at e0
 have el:(dg (16777216:Nat) v).length=oz v+(dg (16777216:Nat) (ow v)).length:=by rw [e0,List.length_append,hz]
 obtain ⟨k,hk⟩:∃k,k=(dg (16777216:Nat) v).length+30:=⟨_,rfl⟩
 have hok:=nV v
 have l1:=bP (show oz v+1≤k by omega) (Av k v hv (by omega) (oz v) 0 (by omega))
 have l2:=bP (show ok' v+1≤k by omega) (IE k v ((24* oz v:Nat):Int) hv (ok' v) 0 (by omega))
 have l3:=bN (f:=aP MD t20 k 75 2) (S:=fun i=>SC v i ((24* oz v:Nat):Int) []) (n:=(dg (16777216:Nat) (ow v)).length) (fun i hi=>F1 k v i _ hi (by omega))
  (an (SE k (oz v) (dg (16777216:Nat) (ow v)).length (dg (16777216:Nat) (ow v)).length _ _ _) ⟨decide_eq_false (by omega),trivial⟩) (by simp) k (by omega)
 unfold SC at l3
 rw [Ej,GN] at l3
 have tr:=yt (p:=List.replicate (oz v) 0) (l:=shr (ok' v) (dg (16777216:Nat) (ow v))) (by rw [gL];omega) (Aw v)
 rw [show (16777216:Nat)=(16777216:Nat) from rfl,Ay hv,hz,gL] at tr
 have hlen:((gG v).map aF).length=((dg (16777216:Nat) v).map aF).length:=by
  rw [List.length_map,List.length_map,gG,List.length_append,gL,hz,el]
 rw [←el,←e0] at l1
 have hw:IntKind.i64.wrap (((24* oz v:Nat):Int)+((ok' v:Nat):Int))=((tz v:Nat):Int):=by
  refine aR ?_ ?_
  · unfold oz ok';omega
  · have:tz v=24* oz v+ok' v:=by unfold oz ok';omega
    omega
 rw [←e0] at l2
 rw [←e0] at l3
 exact jJ af r5 (by rfl) (SH k (oz v) (dg (16777216:Nat) (ow v)).length (dg (16777216:Nat) v).length _ ((24* oz v:Nat):Int) (ok' v:Nat) (tz v:Nat) ((dg (16777216:Nat) v).map aF) ((gG v).map aF)) ⟨gl _,hlen,l1,l2,l3,tr,hw,trivial⟩
end Go.Proofs.YtibbgjafjhcemaaDoor.Cul
namespace Go.Proofs.YtibbgjafjhcemaaDoor.Cul
open Go Go.RowKit
noncomputable def Ea:List PV→Option RV:=bJ (fun n:Int=> -(2^63)≤n∧n<2^63) (fun n=>[iv n]) (fun n=>one (.ag (zc n)))
noncomputable def CH:List PV→Option RV:=bJ (fun z:Int=>(ai z.natAbs).size≤7) (fun z=>[.ag (zc z)]) (fun z=>one (.aG [iv z,bv true]))
noncomputable def Kk:List PV→Option RV:=bJ (fun v:Nat=>(ai v).size<2^30∧0<v) (fun v=>[sv (ai v)]) (fun v=>⟨ni (dg (16777216:Nat) v),some 1⟩)
noncomputable def Gu:List PV→Option RV:=bJ (fun v:Nat=>(ai v).size<2^30) (fun v=>[sv (ai v)]) (fun v=>one (ni (dg (16777216:Nat) v)))
noncomputable def GF:List PV→Option RV:=bJ (fun x:Nat×Nat=>(dg (16777216:Nat) x.1).length<2^39∧(dg (16777216:Nat) x.2).length<2^39) (fun x=>[ni (dg (16777216:Nat) x.1),ni (dg (16777216:Nat) x.2)]) (fun x=>⟨ni (dg (16777216:Nat) (x.1+x.2)),some 1⟩)
noncomputable def CE:List PV→Option RV:=bJ (fun x:Nat×Nat=>x.2≤x.1∧0<x.1∧(dg (16777216:Nat) x.1).length<2^39) (fun x=>[ni (dg (16777216:Nat) x.1),ni (dg (16777216:Nat) x.2)]) (fun x=>⟨ni (dg (16777216:Nat) (x.1 - x.2)),some 1⟩)
noncomputable def CI:List PV→Option RV:=bJ (fun a:Nat=>(dg (16777216:Nat) a).length<2^39) (fun a=>[ni (dg (16777216:Nat) a),iv 0]) (fun a=>one (ni (dg (16777216:Nat) (2* a))))
noncomputable def CF:List PV→Option RV:=bJ (fun x:Nat×Nat=>(dg (16777216:Nat) x.1).length<2^40∧(dg (16777216:Nat) x.2).length<2^40) (fun x=>[ni (dg (16777216:Nat) x.1),ni (dg (16777216:Nat) x.2)]) (fun x=>one (iv (iR x.1 x.2)))
noncomputable def Kl:List MA→Option (MR×List PV):=yz (fun v:Nat=>0<v∧(dg (16777216:Nat) v).length<2^39) (fun v=>[.g ((dg (16777216:Nat) v).map aF) 0 1 (dg (16777216:Nat) v).length]) (fun v=>(.gt (oz v) (dg (16777216:Nat) (od v)).length [iv (tz v)],(gG v).map aF))
noncomputable def t24:Cl:=xy [(58,ff),(61,Ea),(71,CH),(72,Kk),(73,vU),(76,CF),(77,CE),(78,CI)] [(75,Kl)] [(72,58),(72,61),(77,96)]
noncomputable def t25:Cl:=bI [(58,ff),(72,Gu),(73,vU),(74,GF)]
theorem gC (k:Nat) (g h:Bool) (s t:ByteArray) (n0 m0 n:Int) (e:Bool) (u:ByteArray):ay MD t24 k 59 [iz g s,iz h t] [.r (one (bv true)), .r (one (bv true)), .c true, .c true, .r (one (.aG [iv n0,bv true])), .r (one (.aG [iv m0,bv true])), .l (.exit 0) ⟨[(4, .bp 4 0),(5, .pv (iv n)),(7, .pv (iv 0)),(49, .pv (bv false))],[(4,[bv false,sv ⟨#[]⟩])],[],[]⟩, .r (one (iz e u))]=
 some (RV.mk (PV.ag [PV.lit (Value.bool e),PV.lit (Value.string u)]) none,[aa t24 58 [PV.ag [PV.lit (Value.bool g),PV.lit (Value.string s)]] (RV.mk (PV.lit (Value.bool true)) none),aa t24 58 [PV.ag [PV.lit (Value.bool h),PV.lit (Value.string t)]] (RV.mk (PV.lit (Value.bool true)) none),decide ((↑s.size:Int)≤(7:Int))=true,decide ((↑t.size:Int)≤(7:Int))=true,aa t24 71 [PV.ag [PV.lit (Value.bool false),PV.lit (Value.string s)]] (RV.mk (PV.aG [PV.lit (Value.int IntKind.i64 n0),PV.lit (Value.bool true)]) none),aa t24 71 [PV.ag [PV.lit (Value.bool false),PV.lit (Value.string t)]] (RV.mk (PV.aG [PV.lit (Value.int IntKind.i64 m0),PV.lit (Value.bool true)]) none),aW MD t24 k (59:Nat) (0:Nat) (St.mk [(4,AV.bp 4 0),(5,AV.pv (PV.lit (Value.int IntKind.i64 n0))),(7,AV.pv (PV.lit (Value.int IntKind.i64 m0)))] [(4,[PV.lit (Value.bool false),PV.lit (Value.string (ByteArray.mk #[]))])] [] []) (Xt.exit 0) (St.mk [(4,AV.bp 4 0),(5,AV.pv (PV.lit (Value.int IntKind.i64 n))),(7,AV.pv (PV.lit (Value.int IntKind.i64 (0:Int)))),(49,AV.pv (PV.lit (Value.bool false)))] [(4,[PV.lit (Value.bool false),PV.lit (Value.string (ByteArray.mk #[]))])] [] []),aa t24 61 [PV.lit (Value.int IntKind.i64 n)] (RV.mk (PV.ag [PV.lit (Value.bool e),PV.lit (Value.string u)]) none)]):=by kernel_rfl
theorem Vd (k:Nat) (n m:Int):aA MD t24 k 59 0 ⟨[(4, .bp 4 0),(5, .pv (iv n)),(7, .pv (iv m))],[(4,[bv false,sv ⟨#[]⟩])],[],[]⟩ [.c false]=
 some ((Xt.exit 0,St.mk [(4,AV.bp 4 0),(5,AV.pv (PV.lit (Value.int IntKind.i64 n))),(7,AV.pv (PV.lit (Value.int IntKind.i64 m))),(49,AV.pv (PV.lit (Value.bool false)))] [(4,[PV.lit (Value.bool false),PV.lit (Value.string (ByteArray.mk #[]))])] [] []),[],[(m !=(0:Int))=false]):=by kernel_rfl
theorem Ve (k:Nat) (n m r:Int):aA MD t24 k 59 0 ⟨[(4, .bp 4 0),(5, .pv (iv n)),(7, .pv (iv m))],[(4,[bv false,sv ⟨#[]⟩])],[],[]⟩ [.c true, .i 53 r]=
 some ((Xt.normal,St.mk [(4,AV.bp 4 0),(5,AV.pv (PV.lit (Value.int IntKind.i64 m))),(7,AV.pv (PV.lit (Value.int IntKind.i64 r)))] [(4,[PV.lit (Value.bool false),PV.lit (Value.string (ByteArray.mk #[]))])] [] []),[],[(m !=(0:Int))=true,n.tmod m=r,decide (m=(0:Int))=false]):=by kernel_rfl
theorem Vf (k n m p:Nat) (g h e:Bool) (s t u:ByteArray) (cs ds es:List PV):ay MD t25 k 59 [iz g s,iz h t] [.r (one (bv true)), .r (one (bv true)), .c true, .c false, .r (one (.sl 1 n cs)), .r (one (.sl 1 m ds)), .c true, .r ⟨.sl 1 p es,some 1⟩, .r (one (iz e u))]=
 some (RV.mk (PV.ag [PV.lit (Value.bool e),PV.lit (Value.string u)]) none,[aa t25 58 [PV.ag [PV.lit (Value.bool g),PV.lit (Value.string s)]] (RV.mk (PV.lit (Value.bool true)) none),aa t25 58 [PV.ag [PV.lit (Value.bool h),PV.lit (Value.string t)]] (RV.mk (PV.lit (Value.bool true)) none),decide ((↑s.size:Int)≤(7:Int))=true,decide ((↑t.size:Int)≤(7:Int))=false,aa t25 72 [PV.lit (Value.string s)] (RV.mk (PV.sl 1 n cs) none),aa t25 72 [PV.lit (Value.string t)] (RV.mk (PV.sl 1 m ds) none),((↑n:Int)==(0:Int))=true,aa t25 74 [PV.sl 1 n cs,PV.sl 1 m ds] (RV.mk (PV.sl 1 p es) (some 1)),aa t25 73 [PV.lit (Value.bool false),PV.sl 1 p es] (RV.mk (PV.ag [PV.lit (Value.bool e),PV.lit (Value.string u)]) none)]):=by kernel_rfl
theorem Vg (k n m p:Nat) (g h e:Bool) (s t u:ByteArray) (cs ds es:List PV):ay MD t25 k 59 [iz g s,iz h t] [.r (one (bv true)), .r (one (bv true)), .c false, .r (one (.sl 1 n cs)), .r (one (.sl 1 m ds)), .c false, .c true, .r ⟨.sl 1 p es,some 1⟩, .r (one (iz e u))]=
 some (RV.mk (PV.ag [PV.lit (Value.bool e),PV.lit (Value.string u)]) none,[aa t25 58 [PV.ag [PV.lit (Value.bool g),PV.lit (Value.string s)]] (RV.mk (PV.lit (Value.bool true)) none),aa t25 58 [PV.ag [PV.lit (Value.bool h),PV.lit (Value.string t)]] (RV.mk (PV.lit (Value.bool true)) none),decide ((↑s.size:Int)≤(7:Int))=false,aa t25 72 [PV.lit (Value.string s)] (RV.mk (PV.sl 1 n cs) none),aa t25 72 [PV.lit (Value.string t)] (RV.mk (PV.sl 1 m ds) none),((↑n:Int)==(0:Int))=false,((↑m:Int)==(0:Int))=true,aa t25 74 [PV.sl 1 n cs,PV.sl 1 m ds] (RV.mk (PV.sl 1 p es) (some 1)),aa t25 73 [PV.lit (Value.bool false),PV.sl 1 p es] (RV.mk (PV.ag [PV.lit (Value.bool e),PV.lit (Value.string u)]) none)]):=by kernel_rfl
theorem Vh (k n m o1 r1 o2 r2 r r':Nat) (g h e:Bool) (s t u:ByteArray) (a b j:Int) (cs ds uP uS xs ys:List PV):ay MD t24 k 59 [iz g s,iz h t] [.r (one (bv true)), .r (one (bv true)), .c true, .c false, .r ⟨.sl 1 n cs,some 1⟩, .r ⟨.sl 1 m ds,some 1⟩, .c false, .c false, .m (.gt o1 r1 [iv a]) uP, .m (.gt o2 r2 [iv b]) uS, .l (.exit 2) ⟨[(4, .bp 4 0),(9, .pv (.sl 1 r xs)),(10, .pv (.sl 1 r xs)),(11, .pv (iv a)),(12, .pv (iv b)),(13, .pv (iv 0)),(88, .pv (bv true))],[(4,[bv false,sv ⟨#[]⟩])],[],[]⟩, .l (.exit 4) ⟨[(4, .bp 4 0),(9, .pv (.sl 1 r' ys)),(11, .pv (iv a)),(12, .pv (iv b)),(14, .pv (iv j)),(104, .pv (bv false))],[(4,[bv false,sv ⟨#[]⟩])],[],[]⟩, .r (one (iz e u))]=
 some (RV.mk (PV.ag [PV.lit (Value.bool e),PV.lit (Value.string u)]) none,[aa t24 58 [PV.ag [PV.lit (Value.bool g),PV.lit (Value.string s)]] (RV.mk (PV.lit (Value.bool true)) none),aa t24 58 [PV.ag [PV.lit (Value.bool h),PV.lit (Value.string t)]] (RV.mk (PV.lit (Value.bool true)) none),decide ((↑s.size:Int)≤(7:Int))=true,decide ((↑t.size:Int)≤(7:Int))=false,aa t24 72 [PV.lit (Value.string s)] (RV.mk (PV.sl 1 n cs) (some 1)),cs.all cJ=true,aa t24 72 [PV.lit (Value.string t)] (RV.mk (PV.sl 1 m ds) (some 1)),ds.all cJ=true,((↑n:Int)==(0:Int))=false,((↑m:Int)==(0:Int))=false,eH t24 75 [MA.g cs 0 1 n] (MR.gt o1 r1 [PV.lit (Value.int IntKind.i64 a)]) uP,eH t24 75 [MA.g ds 0 1 m] (MR.gt o2 r2 [PV.lit (Value.int IntKind.i64 b)]) uS,aW MD t24 k (59:Nat) (1:Nat) (St.mk [(4,AV.bp 4 0),(9,AV.bs 58 o1 1 r1),(10,AV.bs 61 o2 1 r2),(11,AV.pv (PV.lit (Value.int IntKind.i64 a))),(12,AV.pv (PV.lit (Value.int IntKind.i64 b)))] [(4,[PV.lit (Value.bool false),PV.lit (Value.string (ByteArray.mk #[]))]),(58,uP),(61,uS)] [] []) (Xt.exit 2) (St.mk [(4,AV.bp 4 0),(9,AV.pv (PV.sl 1 r xs)),(10,AV.pv (PV.sl 1 r xs)),(11,AV.pv (PV.lit (Value.int IntKind.i64 a))),(12,AV.pv (PV.lit (Value.int IntKind.i64 b))),(13,AV.pv (PV.lit (Value.int IntKind.i64 (0:Int)))),(88,AV.pv (PV.lit (Value.bool true)))] [(4,[PV.lit (Value.bool false),PV.lit (Value.string (ByteArray.mk #[]))])] [] []),aW MD t24 k (59:Nat) (2:Nat) (St.mk [(4,AV.bp 4 0),(9,AV.pv (PV.sl 1 r xs)),(11,AV.pv (PV.lit (Value.int IntKind.i64 a))),(12,AV.pv (PV.lit (Value.int IntKind.i64 b))),(14,AV.pv (PV.lit (Value.int IntKind.i64 (0:Int))))] [(4,[PV.lit (Value.bool false),PV.lit (Value.string (ByteArray.mk #[]))])] [] []) (Xt.exit 4) (St.mk [(4,AV.bp 4 0),(9,AV.pv (PV.sl 1 r' ys)),(11,AV.pv (PV.lit (Value.int IntKind.i64 a))),(12,AV.pv (PV.lit (Value.int IntKind.i64 b))),(14,AV.pv (PV.lit (Value.int IntKind.i64 j))),(104,AV.pv (PV.lit (Value.bool false)))] [(4,[PV.lit (Value.bool false),PV.lit (Value.string (ByteArray.mk #[]))])] [] []),aa t24 73 [PV.lit (Value.bool false),PV.sl 1 r' ys] (RV.mk (PV.ag [PV.lit (Value.bool e),PV.lit (Value.string u)]) none)]):=by kernel_rfl
theorem Vi (k n m o1 r1 o2 r2 r r':Nat) (g h e:Bool) (s t u:ByteArray) (a b j:Int) (cs ds uP uS xs ys:List PV):ay MD t24 k 59 [iz g s,iz h t] [.r (one (bv true)), .r (one (bv true)), .c false, .r ⟨.sl 1 n cs,some 1⟩, .r ⟨.sl 1 m ds,some 1⟩, .c false, .c false, .m (.gt o1 r1 [iv a]) uP, .m (.gt o2 r2 [iv b]) uS, .l (.exit 2) ⟨[(4, .bp 4 0),(9, .pv (.sl 1 r xs)),(10, .pv (.sl 1 r xs)),(11, .pv (iv a)),(12, .pv (iv b)),(13, .pv (iv 0)),(88, .pv (bv true))],[(4,[bv false,sv ⟨#[]⟩])],[],[]⟩, .l (.exit 4) ⟨[(4, .bp 4 0),(9, .pv (.sl 1 r' ys)),(11, .pv (iv a)),(12, .pv (iv b)),(14, .pv (iv j)),(104, .pv (bv false))],[(4,[bv false,sv ⟨#[]⟩])],[],[]⟩, .r (one (iz e u))]=
 some (RV.mk (PV.ag [PV.lit (Value.bool e),PV.lit (Value.string u)]) none,[aa t24 58 [PV.ag [PV.lit (Value.bool g),PV.lit (Value.string s)]] (RV.mk (PV.lit (Value.bool true)) none),aa t24 58 [PV.ag [PV.lit (Value.bool h),PV.lit (Value.string t)]] (RV.mk (PV.lit (Value.bool true)) none),decide ((↑s.size:Int)≤(7:Int))=false,aa t24 72 [PV.lit (Value.string s)] (RV.mk (PV.sl 1 n cs) (some 1)),cs.all cJ=true,aa t24 72 [PV.lit (Value.string t)] (RV.mk (PV.sl 1 m ds) (some 1)),ds.all cJ=true,((↑n:Int)==(0:Int))=false,((↑m:Int)==(0:Int))=false,eH t24 75 [MA.g cs 0 1 n] (MR.gt o1 r1 [PV.lit (Value.int IntKind.i64 a)]) uP,eH t24 75 [MA.g ds 0 1 m] (MR.gt o2 r2 [PV.lit (Value.int IntKind.i64 b)]) uS,aW MD t24 k (59:Nat) (1:Nat) (St.mk [(4,AV.bp 4 0),(9,AV.bs 58 o1 1 r1),(10,AV.bs 61 o2 1 r2),(11,AV.pv (PV.lit (Value.int IntKind.i64 a))),(12,AV.pv (PV.lit (Value.int IntKind.i64 b)))] [(4,[PV.lit (Value.bool false),PV.lit (Value.string (ByteArray.mk #[]))]),(58,uP),(61,uS)] [] []) (Xt.exit 2) (St.mk [(4,AV.bp 4 0),(9,AV.pv (PV.sl 1 r xs)),(10,AV.pv (PV.sl 1 r xs)),(11,AV.pv (PV.lit (Value.int IntKind.i64 a))),(12,AV.pv (PV.lit (Value.int IntKind.i64 b))),(13,AV.pv (PV.lit (Value.int IntKind.i64 (0:Int)))),(88,AV.pv (PV.lit (Value.bool true)))] [(4,[PV.lit (Value.bool false),PV.lit (Value.string (ByteArray.mk #[]))])] [] []),aW MD t24 k (59:Nat) (2:Nat) (St.mk [(4,AV.bp 4 0),(9,AV.pv (PV.sl 1 r xs)),(11,AV.pv (PV.lit (Value.int IntKind.i64 a))),(12,AV.pv (PV.lit (Value.int IntKind.i64 b))),(14,AV.pv (PV.lit (Value.int IntKind.i64 (0:Int))))] [(4,[PV.lit (Value.bool false),PV.lit (Value.string (ByteArray.mk #[]))])] [] []) (Xt.exit 4) (St.mk [(4,AV.bp 4 0),(9,AV.pv (PV.sl 1 r' ys)),(11,AV.pv (PV.lit (Value.int IntKind.i64 a))),(12,AV.pv (PV.lit (Value.int IntKind.i64 b))),(14,AV.pv (PV.lit (Value.int IntKind.i64 j))),(104,AV.pv (PV.lit (Value.bool false)))] [(4,[PV.lit (Value.bool false),PV.lit (Value.string (ByteArray.mk #[]))])] [] []),aa t24 73 [PV.lit (Value.bool false),PV.sl 1 r' ys] (RV.mk (PV.ag [PV.lit (Value.bool e),PV.lit (Value.string u)]) none)]):=by kernel_rfl
theorem Vj (k o1 r1 o2 r2:Nat) (a b:Int) (cs ds xs ys:List PV):aA MD t24 k 59 1 ⟨[(4, .bp 4 0),(9, .bs 58 o1 1 r1),(10, .bs 61 o2 1 r2),(11, .pv (iv a)),(12, .pv (iv b))],[(4,[bv false,sv ⟨#[]⟩]),(58,cs),(61,ds)],[],[]⟩ [.f xs, .f ys, .r (one (iv 0)), .c true]=
 some ((Xt.exit 2,St.mk [(4,AV.bp 4 0),(9,AV.pv (PV.sl 1 r1 xs)),(10,AV.pv (PV.sl 1 r2 ys)),(11,AV.pv (PV.lit (Value.int IntKind.i64 a))),(12,AV.pv (PV.lit (Value.int IntKind.i64 b))),(13,AV.pv (PV.lit (Value.int IntKind.i64 (0:Int)))),(88,AV.pv (PV.lit (Value.bool true)))] [(4,[PV.lit (Value.bool false),PV.lit (Value.string (ByteArray.mk #[]))])] [] []),[],[cH cs o1 (r1* (1:Nat)) xs,cH ds o2 (r2* (1:Nat)) ys,aa t24 76 [PV.sl 1 r1 xs,PV.sl 1 r2 ys] (RV.mk (PV.lit (Value.int IntKind.i64 (0:Int))) none),true=true]):=by kernel_rfl
theorem Vk (k o1 r1 o2 r2 n o3 r3:Nat) (a b:Int) (d:Int) (cs ds xs ys es jn:List PV):aA MD t24 k 59 1 ⟨[(4, .bp 4 0),(9, .bs 58 o1 1 r1),(10, .bs 61 o2 1 r2),(11, .pv (iv a)),(12, .pv (iv b))],[(4,[bv false,sv ⟨#[]⟩]),(58,cs),(61,ds)],[],[]⟩ [.f xs, .f ys, .r (one (iv (-1))), .c false, .c false, .r ⟨.sl 1 n es,some 1⟩, .m (.gt o3 r3 [iv d]) jn]=
 some ((Xt.normal,St.mk [(4,AV.bp 4 0),(9,AV.pv (PV.sl 1 r1 xs)),(10,AV.bs 96 o3 1 r3),(11,AV.pv (PV.lit (Value.int IntKind.i64 a))),(12,AV.pv (PV.lit (Value.int IntKind.i64 b)))] [(4,[PV.lit (Value.bool false),PV.lit (Value.string (ByteArray.mk #[]))]),(96,jn)] [] []),[],[cH cs o1 (r1* (1:Nat)) xs,cH ds o2 (r2* (1:Nat)) ys,aa t24 76 [PV.sl 1 r1 xs,PV.sl 1 r2 ys] (RV.mk (PV.lit (Value.int IntKind.i64 (-1:Int))) none),false=false,false=false,aa t24 77 [PV.sl 1 r2 ys,PV.sl 1 r1 xs] (RV.mk (PV.sl 1 n es) (some 1)),es.all cJ=true,eH t24 75 [MA.g es 0 1 n] (MR.gt o3 r3 [PV.lit (Value.int IntKind.i64 d)]) jn]):=by kernel_rfl
theorem Vl (k o1 r1 o2 r2 n o3 r3:Nat) (a b:Int) (d:Int) (cs ds xs ys es jn:List PV):aA MD t24 k 59 1 ⟨[(4, .bp 4 0),(9, .bs 58 o1 1 r1),(10, .bs 61 o2 1 r2),(11, .pv (iv a)),(12, .pv (iv b))],[(4,[bv false,sv ⟨#[]⟩]),(58,cs),(61,ds)],[],[]⟩ [.f xs, .f ys, .r (one (iv 1)), .c false, .c true, .r ⟨.sl 1 n es,some 1⟩, .m (.gt o3 r3 [iv d]) jn]=
 some ((Xt.normal,St.mk [(4,AV.bp 4 0),(9,AV.pv (PV.sl 1 r2 ys)),(10,AV.bs 96 o3 1 r3),(11,AV.pv (PV.lit (Value.int IntKind.i64 a))),(12,AV.pv (PV.lit (Value.int IntKind.i64 b)))] [(4,[PV.lit (Value.bool false),PV.lit (Value.string (ByteArray.mk #[]))]),(96,jn)] [] []),[],[cH cs o1 (r1* (1:Nat)) xs,cH ds o2 (r2* (1:Nat)) ys,aa t24 76 [PV.sl 1 r1 xs,PV.sl 1 r2 ys] (RV.mk (PV.lit (Value.int IntKind.i64 (1:Int))) none),false=false,true=true,aa t24 77 [PV.sl 1 r1 xs,PV.sl 1 r2 ys] (RV.mk (PV.sl 1 n es) (some 1)),es.all cJ=true,eH t24 75 [MA.g es 0 1 n] (MR.gt o3 r3 [PV.lit (Value.int IntKind.i64 d)]) jn]):=by kernel_rfl
theorem Vm (k r1 o2 r2:Nat) (a b:Int) (xs ds ys:List PV):aA MD t24 k 59 1 ⟨[(4, .bp 4 0),(9, .pv (.sl 1 r1 xs)),(10, .bs 96 o2 1 r2),(11, .pv (iv a)),(12, .pv (iv b))],[(4,[bv false,sv ⟨#[]⟩]),(96,ds)],[],[]⟩ [.f ys, .r (one (iv 0)), .c true]=
 some ((Xt.exit 2,St.mk [(4,AV.bp 4 0),(9,AV.pv (PV.sl 1 r1 xs)),(10,AV.pv (PV.sl 1 r2 ys)),(11,AV.pv (PV.lit (Value.int IntKind.i64 a))),(12,AV.pv (PV.lit (Value.int IntKind.i64 b))),(13,AV.pv (PV.lit (Value.int IntKind.i64 (0:Int)))),(88,AV.pv (PV.lit (Value.bool true)))] [(4,[PV.lit (Value.bool false),PV.lit (Value.string (ByteArray.mk #[]))])] [] []),[],[cH ds o2 (r2* (1:Nat)) ys,aa t24 76 [PV.sl 1 r1 xs,PV.sl 1 r2 ys] (RV.mk (PV.lit (Value.int IntKind.i64 (0:Int))) none),true=true]):=by kernel_rfl
theorem Vn (k r1 o2 r2 n o3 r3:Nat) (a b:Int) (d:Int) (xs ds ys es jn:List PV):aA MD t24 k 59 1 ⟨[(4, .bp 4 0),(9, .pv (.sl 1 r1 xs)),(10, .bs 96 o2 1 r2),(11, .pv (iv a)),(12, .pv (iv b))],[(4,[bv false,sv ⟨#[]⟩]),(96,ds)],[],[]⟩ [.f ys, .r (one (iv (-1))), .c false, .c false, .r ⟨.sl 1 n es,some 1⟩, .m (.gt o3 r3 [iv d]) jn]=
 some ((Xt.normal,St.mk [(4,AV.bp 4 0),(9,AV.pv (PV.sl 1 r1 xs)),(10,AV.bs 96 o3 1 r3),(11,AV.pv (PV.lit (Value.int IntKind.i64 a))),(12,AV.pv (PV.lit (Value.int IntKind.i64 b)))] [(4,[PV.lit (Value.bool false),PV.lit (Value.string (ByteArray.mk #[]))]),(96,jn)] [] []),[],[cH ds o2 (r2* (1:Nat)) ys,aa t24 76 [PV.sl 1 r1 xs,PV.sl 1 r2 ys] (RV.mk (PV.lit (Value.int IntKind.i64 (-1:Int))) none),false=false,false=false,aa t24 77 [PV.sl 1 r2 ys,PV.sl 1 r1 xs] (RV.mk (PV.sl 1 n es) (some 1)),es.all cJ=true,eH t24 75 [MA.g es 0 1 n] (MR.gt o3 r3 [PV.lit (Value.int IntKind.i64 d)]) jn]):=by kernel_rfl
theorem Vo (k r1 o2 r2 n o3 r3:Nat) (a b:Int) (d:Int) (xs ds ys es jn:List PV):aA MD t24 k 59 1 ⟨[(4, .bp 4 0),(9, .pv (.sl 1 r1 xs)),(10, .bs 96 o2 1 r2),(11, .pv (iv a)),(12, .pv (iv b))],[(4,[bv false,sv ⟨#[]⟩]),(96,ds)],[],[]⟩ [.f ys, .r (one (iv 1)), .c false, .c true, .r ⟨.sl 1 n es,some 1⟩, .m (.gt o3 r3 [iv d]) jn]=
 some ((Xt.normal,St.mk [(4,AV.bp 4 0),(9,AV.pv (PV.sl 1 r2 ys)),(10,AV.bs 96 o3 1 r3),(11,AV.pv (PV.lit (Value.int IntKind.i64 a))),(12,AV.pv (PV.lit (Value.int IntKind.i64 b)))] [(4,[PV.lit (Value.bool false),PV.lit (Value.string (ByteArray.mk #[]))]),(96,jn)] [] []),[],[cH ds o2 (r2* (1:Nat)) ys,aa t24 76 [PV.sl 1 r1 xs,PV.sl 1 r2 ys] (RV.mk (PV.lit (Value.int IntKind.i64 (1:Int))) none),false=false,true=true,aa t24 77 [PV.sl 1 r1 xs,PV.sl 1 r2 ys] (RV.mk (PV.sl 1 n es) (some 1)),es.all cJ=true,eH t24 75 [MA.g es 0 1 n] (MR.gt o3 r3 [PV.lit (Value.int IntKind.i64 d)]) jn]):=by kernel_rfl
theorem Vp (k n i:Nat) (a b c:Int) (xs:List PV):aA MD t24 k 59 2 ⟨[(4, .bp 4 0),(9, .pv (.sl 1 n xs)),(11, .pv (iv a)),(12, .pv (iv b)),(14, .pv (iv i))],[(4,[bv false,sv ⟨#[]⟩])],[],[]⟩ [.i 103 c, .c false]=
 some ((Xt.exit 4,St.mk [(4,AV.bp 4 0),(9,AV.pv (PV.sl 1 n xs)),(11,AV.pv (PV.lit (Value.int IntKind.i64 a))),(12,AV.pv (PV.lit (Value.int IntKind.i64 b))),(14,AV.pv (PV.lit (Value.int IntKind.i64 (↑i:Int)))),(104,AV.pv (PV.lit (Value.bool false)))] [(4,[PV.lit (Value.bool false),PV.lit (Value.string (ByteArray.mk #[]))])] [] []),[],[(if b<a then b else a)=c,decide ((↑i:Int)<c)=false]):=by kernel_rfl
theorem Vq (k n i m:Nat) (a b c:Int) (xs ys:List PV):aA MD t24 k 59 2 ⟨[(4, .bp 4 0),(9, .pv (.sl 1 n xs)),(11, .pv (iv a)),(12, .pv (iv b)),(14, .pv (iv i))],[(4,[bv false,sv ⟨#[]⟩])],[],[]⟩ [.i 103 c, .c true, .r (one (.sl 1 m ys)), .i 106 (i+1:Nat)]=
 some ((Xt.normal,St.mk [(4,AV.bp 4 0),(9,AV.pv (PV.sl 1 m ys)),(11,AV.pv (PV.lit (Value.int IntKind.i64 a))),(12,AV.pv (PV.lit (Value.int IntKind.i64 b))),(14,AV.pv (PV.lit (Value.int IntKind.i64 (↑(i+(1:Nat)):Int))))] [(4,[PV.lit (Value.bool false),PV.lit (Value.string (ByteArray.mk #[]))])] [] []),[],[(if b<a then b else a)=c,decide ((↑i:Int)<c)=true,aa t24 78 [PV.sl 1 n xs,PV.lit (Value.int IntKind.i64 (0:Int))] (RV.mk (PV.sl 1 m ys) none),IntKind.i64.wrap ((↑i:Int)+(1:Int))=(↑(i+(1:Nat)):Int)]):=by kernel_rfl
theorem az.calm {P:Program} {f:Nat} {args:List PV} {r:RV} (h:az P f args r):az P f args (one r.v):=
 ⟨h.1,fun vs w Pr hp hr=>(h.2 vs w Pr hp hr).mono fun e w' ⟨v,aD,he,ef⟩=>⟨v,aD,he,⟨ef.fw,ef.rp,fun z hz=>by simp at hz⟩⟩⟩
theorem sM {n:Int} (h1: -(2^63)≤n) (h2:n<2^63):Ea [iv n]=some (one (.ag (zc n))):=
 aM (enc:=fun n:Int=>[iv n]) (fun a b e=>by rw [dA (List.cons.inj e).1]) ⟨h1,h2⟩
theorem vQ {z:Int} (h:(ai z.natAbs).size≤7):CH [.ag (zc z)]=some (one (.aG [iv z,bv true])):=
 aM (enc:=fun z:Int=>[.ag (zc z)]) (fun a b e=>by
  simp only [List.cons.injEq,and_true,PV.ag.injEq] at e
  rw [eM e]) h
theorem AX {v:Nat} (h:(ai v).size<2^30) (h0:0<v):Kk [sv (ai v)]=some ⟨ni (dg (16777216:Nat) v),some 1⟩:=
 aM (enc:=fun v:Nat=>[sv (ai v)]) (fun a b e=>by rw [p9 (wh (List.cons.inj e).1)]) ⟨h,h0⟩
theorem nZ {v:Nat} (h:(ai v).size<2^30):Gu [sv (ai v)]=some (one (ni (dg (16777216:Nat) v))):=
 aM (enc:=fun v:Nat=>[sv (ai v)]) (fun a b e=>by rw [p9 (wh (List.cons.inj e).1)]) h
theorem xk {a b:Nat×Nat} (e:[ni (dg (16777216:Nat) a.1),ni (dg (16777216:Nat) a.2)]=[ni (dg (16777216:Nat) b.1),ni (dg (16777216:Nat) b.2)]):a=b:=by
 simp only [List.cons.injEq,and_true] at e
 exact Prod.ext (pO (rL e.1)) (pO (rL e.2))
theorem yq {a b:Nat} (h1:(dg (16777216:Nat) a).length<2^39) (h2:(dg (16777216:Nat) b).length<2^39):GF [ni (dg (16777216:Nat) a),ni (dg (16777216:Nat) b)]=some ⟨ni (dg (16777216:Nat) (a+b)),some 1⟩:=
 aM (a:=(a,b)) (enc:=fun x:Nat×Nat=>[ni (dg (16777216:Nat) x.1),ni (dg (16777216:Nat) x.2)]) (fun a b e=>by rw [xk e]) ⟨h1,h2⟩
theorem mj {a b:Nat} (h:b≤a) (h0:0<a) (h1:(dg (16777216:Nat) a).length<2^39):CE [ni (dg (16777216:Nat) a),ni (dg (16777216:Nat) b)]=some ⟨ni (dg (16777216:Nat) (a - b)),some 1⟩:=
 aM (a:=(a,b)) (enc:=fun x:Nat×Nat=>[ni (dg (16777216:Nat) x.1),ni (dg (16777216:Nat) x.2)]) (fun a b e=>by rw [xk e]) ⟨h,h0,h1⟩
theorem Ec {a:Nat} (h1:(dg (16777216:Nat) a).length<2^39):CI [ni (dg (16777216:Nat) a),iv 0]=some (one (ni (dg (16777216:Nat) (2* a)))):=
 aM (enc:=fun a:Nat=>[ni (dg (16777216:Nat) a),iv 0]) (fun a b e=>by rw [pO (rL (List.cons.inj e).1)]) h1
theorem vP {a b:Nat} (h1:(dg (16777216:Nat) a).length<2^40) (h2:(dg (16777216:Nat) b).length<2^40):CF [ni (dg (16777216:Nat) a),ni (dg (16777216:Nat) b)]=some (one (iv (iR a b))):=
 aM (a:=(a,b)) (enc:=fun x:Nat×Nat=>[ni (dg (16777216:Nat) x.1),ni (dg (16777216:Nat) x.2)]) (fun a b e=>by rw [xk e]) ⟨h1,h2⟩
theorem kQ {v:Nat} (h0:0<v) (h1:(dg (16777216:Nat) v).length<2^39):Kl [.g ((dg (16777216:Nat) v).map aF) 0 1 (dg (16777216:Nat) v).length]=some (.gt (oz v) (dg (16777216:Nat) (od v)).length [iv (tz v)],(gG v).map aF):=
 v5 (enc:=fun v:Nat=>[.g ((dg (16777216:Nat) v).map aF) 0 1 (dg (16777216:Nat) v).length]) (fun a b e=>by
  simp only [List.cons.injEq,and_true,MA.g.injEq] at e
  rw [pO (ug e.1)]) ⟨h0,h1⟩
theorem Bg:aI MD.P t24:=sQ
 (aj (au fun x _=>jX x.1 x.2)
 (aj (au fun n h=>AZ n h.1 h.2)
 (aj (au fun z h=>GG z h)
 (aj (au fun v h=>vM v h.1 h.2)
 (aj (au fun x h=>qt x.1 x.2 h.1 h.2)
 (aj (au fun x h=>GB x.1 x.2 h.1 h.2)
 (aj (au fun x h=>GA x.1 x.2 h.1 h.2.1 h.2.2)
 (aj (au fun a h=>(GJ a 0 (by omega) h).calm) aE))))))))
 (qh (v7 fun v h=>LF v h.1 h.2) oU)
theorem G7:aI MD.P t25:=aH
 (aj (au fun x _=>jX x.1 x.2)
 (aj (au fun v h=>by
  rcases Nat.eq_zero_or_pos v with rfl|h0
  · have:=BF (ai 0) rfl
    rwa [gi] at this
  · exact (vM v h h0).calm)
 (aj (au fun x h=>qt x.1 x.2 h.1 h.2)
 (aj (au fun x h=>Jf x.1 x.2 h.1 h.2) aE))))
theorem oW {v:Nat} (h:0<v):cH ((gG v).map aF) (oz v) ((dg (16777216:Nat) (od v)).length* 1) ((dg (16777216:Nat) (od v)).map aF):=by
 refine o9 _ _ _ ?_
 unfold gG
 rw [List.drop_left' (by simp),Nat.mul_one]
 have:=KR (b:=(16777216:Nat)) (by decide) (Aw v)
 rw [show (16777216:Nat)=(16777216:Nat) from rfl,Ay h] at this
 exact this.symm
theorem PA {v:Nat} (h:0<v):oz v≤(dg (16777216:Nat) v).length:=by
 have e0:=pP (b:=(16777216:Nat)) (by decide) (rR h) (oz v)
 rw [DY h] at e0
 rw [e0,List.length_append,List.length_replicate];omega
theorem KE {v:Nat} (h:0<v) (hl:(dg (16777216:Nat) v).length<2^39):tz v<2^50:=by
 have:=PA h
 unfold oz at this
 omega
theorem J2 {v:Nat} (h:(ai v).size<2^30):(dg (16777216:Nat) v).length<2^39:=by
 have h1:=cE (b:=256) (n:=v) (by decide)
 rw [←lZ] at h1
 have h3:256^(ai v).size≤(16777216:Nat)^(ai v).size:=Nat.pow_le_pow_left (by decide) _
 have:=gZ (b:=(16777216:Nat)) (n:=v) (k:=(ai v).size) (by decide) (by omega)
 omega
def P3 (n m:Nat) (e:List (Nat×AV)):St:=⟨(4, .bp 4 0)::(5, .pv (iv n))::(7, .pv (iv m))::e,[(4,[bv false,sv ⟨#[]⟩])],[],[]⟩
theorem D9 (k:Nat):∀(m n:Nat),bg (aP MD t24 k 59 0) (m+1) (P3 n m [])=some (.exit 0,P3 (Nat.gcd n m) 0 [(49, .pv (bv false))]):=by
 intro m
 induction m using Nat.strongRecOn with
 |_ m ih=>
  intro n
  by_cases h:m=0
  · subst h
    rw [Nat.gcd_zero_right]
    exact aV (an (Vd k n 0) ⟨rfl,trivial⟩) (by simp)
  · have hr:n%m<m:=Nat.mod_lt _ (by omega)
    have:=ih (n%m) hr m
    rw [jG] at this
    exact bn (an (Ve k n m (n%m:Nat)) ⟨bne_iff_ne.2 (by omega),fl _ _,decide_eq_false (by omega),trivial⟩) (bP (by omega) this)
def Uf (x y o:Nat) (a b:Int) (ds:List PV):St:=⟨[(4, .bp 4 0),(9, .pv (ni (dg (16777216:Nat) x))),(10, .bs 96 o 1 (dg (16777216:Nat) y).length),(11, .pv (iv a)),(12, .pv (iv b))],[(4,[bv false,sv ⟨#[]⟩]),(96,ds)],[],[]⟩
def P4 (x:Nat) (a b:Int):St:=⟨[(4, .bp 4 0),(9, .pv (ni (dg (16777216:Nat) x))),(10, .pv (ni (dg (16777216:Nat) x))),(11, .pv (iv a)),(12, .pv (iv b)),(13, .pv (iv 0)),(88, .pv (bv true))],[(4,[bv false,sv ⟨#[]⟩])],[],[]⟩
theorem yo (k:Nat) (a b:Int):∀(n x y o:Nat) (ds:List PV),x+y=n→x%2=1→y%2=1→(dg (16777216:Nat) x).length<2^39→(dg (16777216:Nat) y).length<2^39→cH ds o ((dg (16777216:Nat) y).length* 1) ((dg (16777216:Nat) y).map aF)→
  bg (aP MD t24 k 59 1) (n+1) (Uf x y o a b ds)=some (.exit 2,P4 (Nat.gcd x y) a b):=by
 intro n
 induction n using Nat.strongRecOn with
 |_ n ih=>
  intro x y o ds hn hx hy lx ly hs
  have ho:=vP (a:=x) (b:=y) (by omega) (by omega)
  rcases Nat.lt_trichotomy x y with h|h|h
  · rw [show iR x y= -1 by unfold iR;rw [if_pos h]] at ho
    have hlen:=Nat.lt_of_le_of_lt (dc (b:=(16777216:Nat)) (by decide) (show y - x≤y by omega)) ly
    have hm:=mj (a:=y) (b:=x) (by omega) (by omega) ly
    have hd:=kQ (v:=y - x) (by omega) hlen
    have hle:=sJ (n:=y - x) (by omega)
    have l8:=Nat.lt_of_le_of_lt (dc (b:=(16777216:Nat)) (by decide) hle) hlen
    have nx:=ih (x+od (y - x)) (by omega) x (od (y - x)) (oz (y - x)) ((gG (y - x)).map aF) rfl hx (ju (by omega)) lx l8 (oW (by omega))
    rw [pS hx h] at nx
    exact bn (an (Vn k (dg (16777216:Nat) x).length o (dg (16777216:Nat) y).length (dg (16777216:Nat) (y - x)).length (oz (y - x)) (dg (16777216:Nat) (od (y - x))).length a b (tz (y - x):Nat) ((dg (16777216:Nat) x).map aF) ds ((dg (16777216:Nat) y).map aF) ((dg (16777216:Nat) (y - x)).map aF) ((gG (y - x)).map aF)) ⟨hs,ho,rfl,rfl,hm,gl _,hd,trivial⟩) (bP (by omega) nx)
  · subst h
    rw [show iR x x=0 by unfold iR;simp] at ho
    rw [Nat.gcd_self]
    exact aV (an (Vm k (dg (16777216:Nat) x).length o (dg (16777216:Nat) x).length a b ((dg (16777216:Nat) x).map aF) ds ((dg (16777216:Nat) x).map aF)) ⟨hs,ho,rfl,trivial⟩) (by simp)
  · rw [show iR x y=1 by unfold iR;rw [if_neg (by omega),if_pos h]] at ho
    have hlen:=Nat.lt_of_le_of_lt (dc (b:=(16777216:Nat)) (by decide) (show x - y≤x by omega)) lx
    have hm:=mj (a:=x) (b:=y) (by omega) (by omega) lx
    have hd:=kQ (v:=x - y) (by omega) hlen
    have hle:=sJ (n:=x - y) (by omega)
    have l8:=Nat.lt_of_le_of_lt (dc (b:=(16777216:Nat)) (by decide) hle) hlen
    have nx:=ih (y+od (x - y)) (by omega) y (od (x - y)) (oz (x - y)) ((gG (x - y)).map aF) rfl hy (ju (by omega)) ly l8 (oW (by omega))
    rw [pS hy h,Nat.gcd_comm] at nx
    exact bn (an (Vo k (dg (16777216:Nat) x).length o (dg (16777216:Nat) y).length (dg (16777216:Nat) (x - y)).length (oz (x - y)) (dg (16777216:Nat) (od (x - y))).length a b (tz (x - y):Nat) ((dg (16777216:Nat) x).map aF) ds ((dg (16777216:Nat) y).map aF) ((dg (16777216:Nat) (x - y)).map aF) ((gG (x - y)).map aF)) ⟨hs,ho,rfl,rfl,hm,gl _,hd,trivial⟩) (bP (by omega) nx)
def Ue (x y o1 o2:Nat) (a b:Int) (cs ds:List PV):St:=⟨[(4, .bp 4 0),(9, .bs 58 o1 1 (dg (16777216:Nat) x).length),(10, .bs 61 o2 1 (dg (16777216:Nat) y).length),(11, .pv (iv a)),(12, .pv (iv b))],[(4,[bv false,sv ⟨#[]⟩]),(58,cs),(61,ds)],[],[]⟩
theorem D8 (k:Nat) (a b:Int) (x y o1 o2:Nat) (cs ds:List PV) (hx:x%2=1) (hy:y%2=1) (lx:(dg (16777216:Nat) x).length<2^39) (ly:(dg (16777216:Nat) y).length<2^39) (hr:cH cs o1 ((dg (16777216:Nat) x).length* 1) ((dg (16777216:Nat) x).map aF)) (hs:cH ds o2 ((dg (16777216:Nat) y).length* 1) ((dg (16777216:Nat) y).map aF)):
  bg (aP MD t24 k 59 1) (x+y+1) (Ue x y o1 o2 a b cs ds)=some (.exit 2,P4 (Nat.gcd x y) a b):=by
 have ho:=vP (a:=x) (b:=y) (by omega) (by omega)
 rcases Nat.lt_trichotomy x y with h|h|h
 · rw [show iR x y= -1 by unfold iR;rw [if_pos h]] at ho
   have hlen:=Nat.lt_of_le_of_lt (dc (b:=(16777216:Nat)) (by decide) (show y - x≤y by omega)) ly
   have hm:=mj (a:=y) (b:=x) (by omega) (by omega) ly
   have hd:=kQ (v:=y - x) (by omega) hlen
   have hle:=sJ (n:=y - x) (by omega)
   have l8:=Nat.lt_of_le_of_lt (dc (b:=(16777216:Nat)) (by decide) hle) hlen
   have nx:=yo k a b _ x (od (y - x)) (oz (y - x)) ((gG (y - x)).map aF) rfl hx (ju (by omega)) lx l8 (oW (by omega))
   rw [pS hx h] at nx
   exact bn (an (Vk k o1 (dg (16777216:Nat) x).length o2 (dg (16777216:Nat) y).length (dg (16777216:Nat) (y - x)).length (oz (y - x)) (dg (16777216:Nat) (od (y - x))).length a b (tz (y - x):Nat) cs ds ((dg (16777216:Nat) x).map aF) ((dg (16777216:Nat) y).map aF) ((dg (16777216:Nat) (y - x)).map aF) ((gG (y - x)).map aF)) ⟨hr,hs,ho,rfl,rfl,hm,gl _,hd,trivial⟩) (bP (by omega) nx)
 · subst h
   rw [show iR x x=0 by unfold iR;simp] at ho
   rw [Nat.gcd_self]
   exact aV (an (Vj k o1 (dg (16777216:Nat) x).length o2 (dg (16777216:Nat) x).length a b cs ds ((dg (16777216:Nat) x).map aF) ((dg (16777216:Nat) x).map aF)) ⟨hr,hs,ho,rfl,trivial⟩) (by simp)
 · rw [show iR x y=1 by unfold iR;rw [if_neg (by omega),if_pos h]] at ho
   have hlen:=Nat.lt_of_le_of_lt (dc (b:=(16777216:Nat)) (by decide) (show x - y≤x by omega)) lx
   have hm:=mj (a:=x) (b:=y) (by omega) (by omega) lx
   have hd:=kQ (v:=x - y) (by omega) hlen
   have hle:=sJ (n:=x - y) (by omega)
   have l8:=Nat.lt_of_le_of_lt (dc (b:=(16777216:Nat)) (by decide) hle) hlen
   have nx:=yo k a b _ y (od (x - y)) (oz (x - y)) ((gG (x - y)).map aF) rfl hy (ju (by omega)) ly l8 (oW (by omega))
   rw [pS hy h,Nat.gcd_comm] at nx
   exact bn (an (Vl k o1 (dg (16777216:Nat) x).length o2 (dg (16777216:Nat) y).length (dg (16777216:Nat) (x - y)).length (oz (x - y)) (dg (16777216:Nat) (od (x - y))).length a b (tz (x - y):Nat) cs ds ((dg (16777216:Nat) x).map aF) ((dg (16777216:Nat) y).map aF) ((dg (16777216:Nat) (x - y)).map aF) ((gG (x - y)).map aF)) ⟨hr,hs,ho,rfl,rfl,hm,gl _,hd,trivial⟩) (bP (by omega) nx)
def JD (x ta tb i:Nat) (e:List (Nat×AV)):St:=⟨(4, .bp 4 0)::(9, .pv (ni (dg (16777216:Nat) (2^i* x))))::(11, .pv (iv ta))::(12, .pv (iv tb))::(14, .pv (iv i))::e,[(4,[bv false,sv ⟨#[]⟩])],[],[]⟩
theorem NS (ta tb:Nat):(if (tb:Int)<(ta:Int) then (tb:Int) else (ta:Int))=((min ta tb:Nat):Int):=by
 split<;>omega
theorem Gy (k x ta tb:Nat) (h1:ta<2^50) (h2:tb<2^50) (hl:(dg (16777216:Nat) (2^min ta tb* x)).length<2^39) (hk:min ta tb<k):bg (aP MD t24 k 59 2) k (JD x ta tb 0 [])=some (.exit 4,JD x ta tb (min ta tb) [(104, .pv (bv false))]):=by
 refine bN (f:=aP MD t24 k 59 2) (S:=fun i=>JD x ta tb i []) (n:=min ta tb) (fun i hi=> ?_) (an (Vp k _ (min ta tb) ta tb (min ta tb:Nat) _) ⟨NS _ _,decide_eq_false (by omega),trivial⟩) (by simp) k hk
 have hle:2^i* x≤2^min ta tb* x:=Nat.mul_le_mul_right _ (Nat.pow_le_pow_right (by decide) (by omega))
 have ht:=Ec (a:=2^i* x) (Nat.lt_of_le_of_lt (dc (by decide) hle) hl)
 rw [show 2* (2^i* x)=2^(i+1)* x by rw [Nat.pow_succ,←Nat.mul_assoc,Nat.mul_comm 2]] at ht
 exact an (Vq k _ i _ ta tb (min ta tb:Nat) _ _) ⟨NS _ _,decide_eq_true (by omega),ht,aR (by omega) (by omega),trivial⟩
theorem pF (n:Nat):zc ((n:Nat):Int)=[bv false,sv (ai n)]:=by
 simp only [zc,Int.natAbs_natCast]
 rw [decide_eq_false (by omega)]
theorem LC (a b:Int) (ha:(ai a.natAbs).size<2^30) (hb:(ai b.natAbs).size<2^30):az P0 59 [.ag (zc a), .ag (zc b)] (one (.ag (zc (Nat.gcd a.natAbs b.natAbs:Nat)))):=by
 have v1:=cD (decide (a<0)) (ai a.natAbs)
 have v2:=cD (decide (b<0)) (ai b.natAbs)
 rw [mc] at v1 v2
 generalize hna:a.natAbs=x at*
 generalize hnb:b.natAbs=y at*
 have ea:(.ag (zc a):PV)=iz (decide (a<0)) (ai x):=by rw [←hna];rfl
 have eb:(.ag (zc b):PV)=iz (decide (b<0)) (ai y):=by rw [←hnb];rfl
 rw [ea,eb]
 have sg:=fun (l:List Nat) (h:l.length<2^40) (hd:bf (16777216:Nat) l)=>yu (g:=false) (l:=l) h hd
 simp only [Bool.false_eq_true,if_false] at sg
 obtain ⟨g,hg⟩:∃g,g=Nat.gcd x y:=⟨_,rfl⟩
 have eg:(.ag (zc (g:Int)):PV)=iz false (ai g):=by rw [pF];rfl
 rw [←hg,eg]
 have lx:=J2 ha
 have ly:=J2 hb
 by_cases hs:(ai x).size≤7∧(ai y).size≤7
 · have small:∀n,(ai n).size≤7→n<2^56:=by
     intro n hn
     have h1:=cE (b:=256) (n:=n) (by decide)
     rw [←lZ] at h1
     have:256^(ai n).size≤256^7:=Nat.pow_le_pow_right (by decide) hn
     omega
   have hx:=small x hs.1
   have hy:=small y hs.2
   have s1:=vQ (z:=(x:Int)) (by simpa using hs.1)
   have s2:=vQ (z:=(y:Int)) (by simpa using hs.2)
   rw [pF] at s1 s2
   have Ql:g<2^63:=by
    rw [hg]
    rcases Nat.eq_zero_or_pos y with h0|h0
    · rw [h0,Nat.gcd_zero_right];omega
    · have:=Nat.gcd_le_right x h0;omega
   have Qq:=sM (n:=(g:Int)) (by omega) (by omega)
   rw [pF] at Qq
   have lp:=bP (show y+1≤y+2 by omega) (D9 (y+2) y x)
   rw [←hg] at lp
   exact ah af Bg (by rfl) (gC (y+2) _ _ _ _ x y g false (ai g)) ⟨v1,v2,decide_eq_true (by omega),decide_eq_true (by omega),s1,s2,lp,Qq,trivial⟩
 · rcases Nat.eq_zero_or_pos x with h0|h0
   · have hz:(ai x).size=0:=by rw [h0];rfl
     have M4:g=0+y:=by rw [hg,h0,Nat.gcd_zero_left,Nat.zero_add]
     have d1:=nZ (v:=0) (by decide)
     have d2:=nZ hb
     have dp:=yq (a:=0) (b:=y) (by simp [dM]) ly
     have QY:=sg (dg (16777216:Nat) (0+y)) (by rw [Nat.zero_add];omega) (bW (by decide) _)
     rw [bS (by decide),pF] at QY
     rw [M4]
     subst h0
     exact ah af G7 (by rfl) (Vf 1 _ _ _ _ _ _ _ _ _ _ _ _) ⟨v1,v2,decide_eq_true (by omega),decide_eq_false (by omega),d1,d2,rfl,dp,QY,trivial⟩
   · rcases Nat.eq_zero_or_pos y with k0|k0
     · have hz:(ai y).size=0:=by rw [k0];rfl
       have V6:g=x+0:=by rw [hg,k0,Nat.gcd_zero_right,Nat.add_zero]
       have d1:=nZ ha
       have d2:=nZ (v:=0) (by decide)
       have dp:=yq (a:=x) (b:=0) lx (by simp [dM])
       have QX:=sg (dg (16777216:Nat) (x+0)) (by rw [Nat.add_zero];omega) (bW (by decide) _)
       rw [bS (by decide),pF] at QX
       rw [V6]
       subst k0
       have hne:(((dg (16777216:Nat) x).length:Int)==0)=false:=beq_false_of_ne (by
        have:=dz (b:=(16777216:Nat)) (by decide) h0
        rw [this];simp;omega)
       exact ah af G7 (by rfl) (Vg 1 _ _ _ _ _ _ _ _ _ _ _ _) ⟨v1,v2,decide_eq_false (by omega),d1,d2,hne,rfl,dp,QX,trivial⟩
     · have d1:=AX ha h0
       have d2:=AX hb k0
       have o1:=kQ h0 lx
       have o2:=kQ k0 ly
       have Xh:=Nat.lt_of_le_of_lt (dc (b:=(16777216:Nat)) (by decide) (sJ h0)) lx
       have Xi:=Nat.lt_of_le_of_lt (dc (b:=(16777216:Nat)) (by decide) (sJ k0)) ly
       obtain ⟨k,hk⟩:∃k,k=od x+od y+tz x+tz y+5:=⟨_,rfl⟩
       have FQ:=bP (show od x+od y+1≤k by omega) (D8 k (tz x:Nat) (tz y:Nat) (od x) (od y) (oz x) (oz y) _ _ (ju h0) (ju k0) Xh Xi (oW h0) (oW k0))
       have M1:=K6 h0 k0
       rw [←hg] at M1
       have RB:g≤x:=by rw [hg];exact Nat.gcd_le_left y h0
       have lg:=Nat.lt_of_le_of_lt (dc (b:=(16777216:Nat)) (by decide) RB) lx
       have J8:=Gy k (Nat.gcd (od x) (od y)) (tz x) (tz y) (KE h0 lx) (KE k0 ly) (by rw [←M1];exact lg) (by omega)
       unfold JD at J8
       rw [←M1,Nat.pow_zero,Nat.one_mul] at J8
       have OE:=sg (dg (16777216:Nat) g) (by omega) (bW (by decide) _)
       rw [bS (by decide),pF] at OE
       have hne:∀v,0<v→(((dg (16777216:Nat) v).length:Int)==0)=false:=fun v hv=>beq_false_of_ne (by
        have:=dz (b:=(16777216:Nat)) (by decide) hv
        rw [this];simp;omega)
       by_cases hx7:(ai x).size≤7
       · exact ah af Bg (by rfl) (Vh k _ _ (oz x) (dg (16777216:Nat) (od x)).length (oz y) (dg (16777216:Nat) (od y)).length _ _ _ _ false (ai x) (ai y) (ai g) (tz x:Nat) (tz y:Nat) (min (tz x) (tz y):Nat) _ _ ((gG x).map aF) ((gG y).map aF) _ _) ⟨v1,v2,decide_eq_true (by omega),decide_eq_false (by omega),d1,gl _,d2,gl _,hne x h0,hne y k0,o1,o2,FQ,J8,OE,trivial⟩
       · exact ah af Bg (by rfl) (Vi k _ _ (oz x) (dg (16777216:Nat) (od x)).length (oz y) (dg (16777216:Nat) (od y)).length _ _ _ _ false (ai x) (ai y) (ai g) (tz x:Nat) (tz y:Nat) (min (tz x) (tz y):Nat) _ _ ((gG x).map aF) ((gG y).map aF) _ _) ⟨v1,v2,decide_eq_false (by omega),d1,gl _,d2,gl _,hne x h0,hne y k0,o1,o2,FQ,J8,OE,trivial⟩
end Go.Proofs.YtibbgjafjhcemaaDoor.Cul
namespace Go.Proofs.YtibbgjafjhcemaaDoor.Cul
open Go Go.RowKit
theorem bind_assoc' {α β γ:Type} (m:Sem α):∀(f:α→Sem β) (g:β→Sem γ),(m.bind f).bind g=m.bind fun a=>(f a).bind g:=by
 induction m with
 |pure a=>intro f g;rfl
 |halt h=>intro f g;rfl
 |_=>rename_i ih;intro f g;simp only [Sem.bind];first|(congr 1;funext x;exact ih x f g)|(congr 1;exact ih f g)
theorem B7 {P:Program} {d:Nat} {t:TypeId} {f g h:Field} {xs ys:Array Value} {a1 a2 a3 b1 b2 b3:Value} {c1 c2 c3:Bool}
  (hu:P.underlying t=some (.struct #[f,g,h])) (hh:P.stoodInHeld t=false) (hf:f.name≠ "_") (hg:g.name≠ "_") (hk:h.name≠ "_")
  (p1:aB P (part f.type xs f.offset)=some a1) (p2:aB P (part f.type ys f.offset)=some b1)
  (p3:aB P (part g.type xs g.offset)=some a2) (p4:aB P (part g.type ys g.offset)=some b2)
  (p5:aB P (part h.type xs h.offset)=some a3) (p6:aB P (part h.type ys h.offset)=some b3)
  (e1:aB P (Op.equalIn d f.type a1 b1)=some c1) (e2:aB P (Op.equalIn d g.type a2 b2)=some c2) (e3:aB P (Op.equalIn d h.type a3 b3)=some c3):
  aB P (Op.equalIn (d+1) t (.agg xs) (.agg ys))=some (c1&&(c2&&c3)):=by
 simp only [Op.equalIn,underlying,program,Bind.bind,Sem.bind,aB,hu,hh,pure,Pure.pure,Bool.false_eq_true,if_false]
 rw [←Array.forIn_toList]
 simp only [List.forIn_cons,List.forIn_nil,Bind.bind,pure,Pure.pure,hf,hg,hk,ne_eq,not_false_eq_true,if_true]
 simp only [bind_assoc']
 rw [aU p1,aU p2,aU e1]
 cases c1 with
 |false=>simp [Sem.bind,aB]
 |true=>
  simp only [Bool.not_true,Bool.false_eq_true,if_false,Sem.bind,bind_assoc']
  rw [aU p3,aU p4,aU e2]
  cases c2 with
  |false=>simp [Sem.bind,aB]
  |true=>
   simp only [Bool.not_true,Bool.false_eq_true,if_false,Sem.bind,bind_assoc']
   rw [aU p5,aU p6,aU e3]
   cases c3<;>simp [Sem.bind,aB]
theorem Mg {P:Program} {d:Nat} {t e:TypeId} {n:Nat} {xs ys:Array Value} {a0 a1 a2 a3 b0 b1 b2 b3:Value} {c0 c1 c2 c3:Bool}
  (hu:P.underlying t=some (.array 4 e)) (hn:aB P (sizeOf e)=some n)
  (p0:aB P (part e xs (0* n))=some a0) (q0:aB P (part e ys (0* n))=some b0)
  (p1:aB P (part e xs (1* n))=some a1) (q1:aB P (part e ys (1* n))=some b1)
  (p2:aB P (part e xs (2* n))=some a2) (q2:aB P (part e ys (2* n))=some b2)
  (p3:aB P (part e xs (3* n))=some a3) (q3:aB P (part e ys (3* n))=some b3)
  (e0:aB P (Op.equalIn d e a0 b0)=some c0) (e1:aB P (Op.equalIn d e a1 b1)=some c1) (e2:aB P (Op.equalIn d e a2 b2)=some c2) (e3:aB P (Op.equalIn d e a3 b3)=some c3):
  aB P (Op.equalIn (d+1) t (.agg xs) (.agg ys))=some (c0&&(c1&&(c2&&c3))):=by
 simp only [Op.equalIn,underlying,program,Bind.bind,Sem.bind,aB,hu,pure,Pure.pure,Bool.false_eq_true,if_false]
 rw [aU hn]
 simp only [Std.Legacy.Range.forIn_eq_forIn_range',Std.Legacy.Range.size,Nat.sub_zero,Nat.add_sub_cancel,Nat.div_one,List.range',List.forIn_cons,List.forIn_nil,Bind.bind,pure,Pure.pure,Nat.zero_add,Nat.reduceAdd]
 simp only [bind_assoc']
 rw [aU p0,aU q0,aU e0]
 cases c0 with
 |false=>simp [Sem.bind,aB]
 |true=>
  simp only [Bool.not_true,Bool.false_eq_true,if_false,Sem.bind,bind_assoc']
  rw [aU p1,aU q1,aU e1]
  cases c1 with
  |false=>simp [Sem.bind,aB]
  |true=>
   simp only [Bool.not_true,Bool.false_eq_true,if_false,Sem.bind,bind_assoc']
   rw [aU p2,aU q2,aU e2]
   cases c2 with
   |false=>simp [Sem.bind,aB]
   |true=>
    simp only [Bool.not_true,Bool.false_eq_true,if_false,Sem.bind,bind_assoc']
    rw [aU p3,aU q3,aU e3]
    cases c3<;>simp [Sem.bind,aB]
end Go.Proofs.YtibbgjafjhcemaaDoor.Cul
namespace Go.Proofs.YtibbgjafjhcemaaDoor.Cul
open Go Go.RowKit
structure RI where
 g:Bool
 s:ByteArray
def RI.cells (r:RI):List PV:=[bv r.g,sv r.s]
def RI.vals (r:RI):List Value:=[.bool r.g, .string r.s]
def RI.zero:RI:=⟨false,⟨#[]⟩⟩
structure aq where
 c0:RI
 c1:RI
 c2:RI
 c3:RI
 d:RI
def aq.cells (x:aq):List PV:=x.c0.cells++x.c1.cells++x.c2.cells++x.c3.cells++x.d.cells
def aq.uQ (x:aq):List Value:=x.c0.vals++x.c1.vals++x.c2.vals++x.c3.vals
def aq.vals (x:aq):List Value:=x.uQ++x.d.vals
def aq.zero:aq:=⟨.zero, .zero, .zero, .zero, .zero⟩
structure bl where
 x:aq
 y:aq
 z:aq
def bl.cells (v:bl):List PV:=v.x.cells++v.y.cells++v.z.cells
def bl.vals (v:bl):List Value:=v.x.vals++v.y.vals++v.z.vals
def bl.zero:bl:=⟨.zero, .zero, .zero⟩
structure bF where
 n:bl
 d:aq
def bF.cells (p:bF):List PV:=p.n.cells++p.d.cells
def bF.vals (p:bF):List Value:=p.n.vals++p.d.vals
def bF.zero:bF:=⟨.zero, .zero⟩
structure aY where
 h:Int
 v:Int
 i:Int
def aY.cells (s:aY):List PV:=[iv s.h,iv s.v,iv s.i]
def aY.vals (s:aY):List Value:=[.int .i64 s.h, .int .i64 s.v, .int .i64 s.i]
def aY.zero:aY:=⟨0,0,0⟩
def RI.dB (a b:RI):Bool:=(a.g==b.g)&&(a.s==b.s)
def aq.dB (a b:aq):Bool:=(a.c0.dB b.c0&&(a.c1.dB b.c1&&(a.c2.dB b.c2&&a.c3.dB b.c3)))&&a.d.dB b.d
def bl.dB (a b:bl):Bool:=a.x.dB b.x&&(a.y.dB b.y&&a.z.dB b.z)
def bF.dB (a b:bF):Bool:=a.n.dB b.n&&a.d.dB b.d
def aY.dB (a b:aY):Bool:=(a.h==b.h)&&((a.v==b.v)&&(a.i==b.i))
theorem L6 {u v:ByteArray}:(u==v)=true↔u=v:=by
 rw [beq_toList]
 constructor
 · intro h;exact ByteArray.ext (by simpa using h)
 · intro h;subst h;simp
theorem RI.er {a b:RI}:a.dB b=true↔a=b:=by
 obtain ⟨g,s⟩:=a;obtain ⟨g',s'⟩:=b
 simp only [RI.dB,Bool.and_eq_true,L6,beq_iff_eq,RI.mk.injEq]
theorem aq.er {a b:aq}:a.dB b=true↔a=b:=by
 obtain ⟨a0,a1,a2,a3,a4⟩:=a;obtain ⟨b0,b1,b2,b3,b4⟩:=b
 simp only [aq.dB,Bool.and_eq_true,RI.er,aq.mk.injEq,and_assoc]
theorem bl.er {a b:bl}:a.dB b=true↔a=b:=by
 obtain ⟨a0,a1,a2⟩:=a;obtain ⟨b0,b1,b2⟩:=b
 simp only [bl.dB,Bool.and_eq_true,aq.er,bl.mk.injEq]
theorem bF.er {a b:bF}:a.dB b=true↔a=b:=by
 obtain ⟨a0,a1⟩:=a;obtain ⟨b0,b1⟩:=b
 simp only [bF.dB,Bool.and_eq_true,bl.er,aq.er,bF.mk.injEq]
theorem aY.er {a b:aY}:a.dB b=true↔a=b:=by
 obtain ⟨a0,a1,a2⟩:=a;obtain ⟨b0,b1,b2⟩:=b
 simp only [aY.dB,Bool.and_eq_true,beq_iff_eq,aY.mk.injEq]
theorem KF:MD.P.underlying 28=some (TypeDesc.array 4 27):=by kernel_rfl
theorem KG:MD.P.underlying 30=some (TypeDesc.struct #[Field.mk "C" 28 0 false "" "" 0,Field.mk "D" 27 8 false "" "" 96]):=by kernel_rfl
theorem KH:MD.P.underlying 32=some (TypeDesc.struct #[Field.mk "X" 30 0 false "" "" 0,Field.mk "Y" 30 10 false "" "" 120,Field.mk "Z" 30 20 false "" "" 240]):=by kernel_rfl
theorem KI:MD.P.underlying 34=some (TypeDesc.struct #[Field.mk "N" 32 0 false "" "" 0,Field.mk "D" 30 30 false "" "" 360]):=by kernel_rfl
theorem KJ:MD.P.underlying 36=some (TypeDesc.struct #[Field.mk "H" 3 0 false "" "" 0,Field.mk "V" 3 1 false "" "" 8,Field.mk "Index" 3 2 false "" "" 16]):=by kernel_rfl
theorem MT:MD.P.stoodInHeld 30=false:=by kernel_rfl
theorem MU:MD.P.stoodInHeld 32=false:=by kernel_rfl
theorem MV:MD.P.stoodInHeld 34=false:=by kernel_rfl
theorem MW:MD.P.stoodInHeld 36=false:=by kernel_rfl
theorem oH (d:Nat) (a b:RI):aB MD.P (Op.equalIn (d+1+1) 27 (.agg a.vals.toArray) (.agg b.vals.toArray))=some (a.dB b):=
 uV (a1:= .bool a.g) (b1:= .bool b.g) (a2:= .string a.s) (b2:= .string b.s) Er Fg (by decide) (by decide) (by kernel_rfl) (by kernel_rfl) (by kernel_rfl) (by kernel_rfl) (by kernel_rfl) (by kernel_rfl)
theorem Mh (d:Nat) (a b:aq):aB MD.P (Op.equalIn (d+1+1+1) 28 (.agg a.uQ.toArray) (.agg b.uQ.toArray))=some (a.c0.dB b.c0&&(a.c1.dB b.c1&&(a.c2.dB b.c2&&a.c3.dB b.c3))):=
 Mg (n:=2) (a0:= .agg a.c0.vals.toArray) (a1:= .agg a.c1.vals.toArray) (a2:= .agg a.c2.vals.toArray) (a3:= .agg a.c3.vals.toArray) (b0:= .agg b.c0.vals.toArray) (b1:= .agg b.c1.vals.toArray) (b2:= .agg b.c2.vals.toArray) (b3:= .agg b.c3.vals.toArray) KF (by kernel_rfl)
  (by kernel_rfl) (by kernel_rfl) (by kernel_rfl) (by kernel_rfl) (by kernel_rfl) (by kernel_rfl) (by kernel_rfl) (by kernel_rfl) (oH d _ _) (oH d _ _) (oH d _ _) (oH d _ _)
theorem qZ (d:Nat) (a b:aq):aB MD.P (Op.equalIn (d+1+1+1+1) 30 (.agg a.vals.toArray) (.agg b.vals.toArray))=some (a.dB b):=
 uV (a1:= .agg a.uQ.toArray) (b1:= .agg b.uQ.toArray) (a2:= .agg a.d.vals.toArray) (b2:= .agg b.d.vals.toArray) KG MT (by decide) (by decide) (by kernel_rfl) (by kernel_rfl) (by kernel_rfl) (by kernel_rfl) (Mh d _ _) (oH (d+1) _ _)
theorem E0 (d:Nat) (a b:bl):aB MD.P (Op.equalIn (d+1+1+1+1+1) 32 (.agg a.vals.toArray) (.agg b.vals.toArray))=some (a.dB b):=
 B7 (a1:= .agg a.x.vals.toArray) (b1:= .agg b.x.vals.toArray) (a2:= .agg a.y.vals.toArray) (b2:= .agg b.y.vals.toArray) (a3:= .agg a.z.vals.toArray) (b3:= .agg b.z.vals.toArray) KH MU (by decide) (by decide) (by decide)
  (by kernel_rfl) (by kernel_rfl) (by kernel_rfl) (by kernel_rfl) (by kernel_rfl) (by kernel_rfl) (qZ d _ _) (qZ d _ _) (qZ d _ _)
theorem Mi (d:Nat) (a b:bF):aB MD.P (Op.equalIn (d+1+1+1+1+1+1) 34 (.agg a.vals.toArray) (.agg b.vals.toArray))=some (a.dB b):=
 uV (a1:= .agg a.n.vals.toArray) (b1:= .agg b.n.vals.toArray) (a2:= .agg a.d.vals.toArray) (b2:= .agg b.d.vals.toArray) KI MV (by decide) (by decide) (by kernel_rfl) (by kernel_rfl) (by kernel_rfl) (by kernel_rfl) (E0 d _ _) (qZ (d+1) _ _)
theorem Mj (d:Nat) (a b:aY):aB MD.P (Op.equalIn (d+1+1) 36 (.agg a.vals.toArray) (.agg b.vals.toArray))=some (a.dB b):=
 B7 (a1:= .int .i64 a.h) (b1:= .int .i64 b.h) (a2:= .int .i64 a.v) (b2:= .int .i64 b.v) (a3:= .int .i64 a.i) (b3:= .int .i64 b.i) KJ MW (by decide) (by decide) (by decide)
  (by kernel_rfl) (by kernel_rfl) (by kernel_rfl) (by kernel_rfl) (by kernel_rfl) (by kernel_rfl) (by kernel_rfl) (by kernel_rfl) (by kernel_rfl)
theorem oI {t:TypeId} {x y:Operand} {xs ys:Array Value} {c:Bool} (hg:aB MD.P (eqGuard .eql t x y (.agg xs) (.agg ys))=some ()) (h:aB MD.P (Op.equalIn (9999+1) t (.agg xs) (.agg ys))=some c):gw MD.P .eql t x y (.agg xs) (.agg ys) c:=by
 show (aB MD.P ((eqGuard .eql t x y (.agg xs) (.agg ys)).bind fun _=>binOp .eql t (.agg xs) (.agg ys))).bind iS=some (.lit (.bool c))
 rw [aU hg]
 show (aB MD.P ((Op.equalIn (9999+1) t (.agg xs) (.agg ys)).bind fun r=> .pure (.bool r))).bind iS=some (.lit (.bool c))
 rw [aU h];rfl
theorem wR {m n:Nat} {a b:RI} {c:Bool} (h:a.dB b=c):gw MD.P .eql 27 (.tmp m) (.tmp n) (.agg a.vals.toArray) (.agg b.vals.toArray) c:=by subst h;exact oI (by kernel_rfl) (oH 9998 a b)
theorem zB {m n:Nat} {a b:bl} {c:Bool} (h:a.dB b=c):gw MD.P .eql 32 (.tmp m) (.tmp n) (.agg a.vals.toArray) (.agg b.vals.toArray) c:=by subst h;exact oI (by kernel_rfl) (E0 9995 a b)
theorem E1 {m n:Nat} {a b:bF} {c:Bool} (h:a.dB b=c):gw MD.P .eql 34 (.tmp m) (.tmp n) (.agg a.vals.toArray) (.agg b.vals.toArray) c:=by subst h;exact oI (by kernel_rfl) (Mi 9994 a b)
theorem Mm {m n:Nat} {a b:aY} {c:Bool} (h:a.dB b=c):gw MD.P .eql 36 (.tmp m) (.tmp n) (.agg a.vals.toArray) (.agg b.vals.toArray) c:=by subst h;exact oI (by kernel_rfl) (Mj 9998 a b)
end Go.Proofs.YtibbgjafjhcemaaDoor.Cul
