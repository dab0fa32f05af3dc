/- Part of a proof by an abstract machine for the program's code: lemmas, without conditions of their own beyond those that each states. (Made smaller by a program: short names, no comments.) -/
import Derived.Test.YtibbgjafjhcemaaGreatDoorRTHG4
set_option linter.unusedVariables false
set_option linter.unusedSimpArgs false
set_option maxRecDepth 100000
set_option maxHeartbeats 2000000
namespace Go.Proofs.YtibbgjafjhcemaaGreatDoor.Cul
open Go Go.RowKit
noncomputable def DC:List PV→Option RV:=bJ (fun n:Int=> -(2^63)≤n∧n<2^63) (fun n=>[iv n]) (fun n=>one (.ag (zc n)))
noncomputable def Cd:List PV→Option RV:=bJ (fun z:Int=>(af z.natAbs).size≤7) (fun z=>[.ag (zc z)]) (fun z=>one (.aQ [iv z,bv true]))
noncomputable def Jy:List PV→Option RV:=bJ (fun v:Nat=>(af v).size<2^30∧0<v) (fun v=>[sv (af v)]) (fun v=>⟨ni (dg (16777216:Nat) v),some 1⟩)
noncomputable def FH:List PV→Option RV:=bJ (fun v:Nat=>(af v).size<2^30) (fun v=>[sv (af v)]) (fun v=>one (ni (dg (16777216:Nat) v)))
noncomputable def FP:List PV→Option RV:=bJ (fun x:Nat×Nat=>(dg (16777216:Nat) x.1).length<2^39∧(dg (16777216:Nat) x.2).length<2^39) (fun x=>[ni (dg (16777216:Nat) x.1),ni (dg (16777216:Nat) x.2)]) (fun x=>⟨ni (dg (16777216:Nat) (x.1+x.2)),some 1⟩)
noncomputable def Ca:List PV→Option RV:=bJ (fun x:Nat×Nat=>x.2≤x.1∧0<x.1∧(dg (16777216:Nat) x.1).length<2^39) (fun x=>[ni (dg (16777216:Nat) x.1),ni (dg (16777216:Nat) x.2)]) (fun x=>⟨ni (dg (16777216:Nat) (x.1 - x.2)),some 1⟩)
noncomputable def Ce:List PV→Option RV:=bJ (fun a:Nat=>(dg (16777216:Nat) a).length<2^39) (fun a=>[ni (dg (16777216:Nat) a),iv 0]) (fun a=>one (ni (dg (16777216:Nat) (2* a))))
noncomputable def Cb:List PV→Option RV:=bJ (fun x:Nat×Nat=>(dg (16777216:Nat) x.1).length<2^40∧(dg (16777216:Nat) x.2).length<2^40) (fun x=>[ni (dg (16777216:Nat) x.1),ni (dg (16777216:Nat) x.2)]) (fun x=>one (iv (iL x.1 x.2)))
noncomputable def Jz:List MA→Option (MR×List PV):=xZ (fun v:Nat=>0<v∧(dg (16777216:Nat) v).length<2^39) (fun v=>[.g ((dg (16777216:Nat) v).map aE) 0 1 (dg (16777216:Nat) v).length]) (fun v=>(.gt (oz v) (dg (16777216:Nat) (od v)).length [iv (tz v)],(gp v).map aE))
noncomputable def t24:Cl:=wW [(46,eU),(49,DC),(85,Cd),(86,Jy),(87,vB),(90,Cb),(91,Ca),(92,Ce)] [(89,Jz)] [(86,58),(86,61),(91,96)]
noncomputable def t25:Cl:=bM [(46,eU),(86,FH),(87,vB),(88,FP)]
theorem gC (k:Nat) (g h:Bool) (s t:ByteArray) (n0 m0 n:Int) (e:Bool) (u:ByteArray):aA MD t24 k 47 [iz g s,iz h t] [.r (one (bv true)), .r (one (bv true)), .c true, .c true, .r (one (.aQ [iv n0,bv true])), .r (one (.aQ [iv m0,bv true])), .l (.exit 0) ⟨[(4, .bp 4 0),(5, .pv (iv n)),(7, .pv (iv 0)),(49, .pv (bv false))],[(4,[bv false,sv ⟨#[]⟩])],[],[]⟩, .r (one (iz e u))]=
 some (RV.mk (PV.ag [PV.lit (Value.bool e),PV.lit (Value.string u)]) none,[aa t24 46 [PV.ag [PV.lit (Value.bool g),PV.lit (Value.string s)]] (RV.mk (PV.lit (Value.bool true)) none),aa t24 46 [PV.ag [PV.lit (Value.bool h),PV.lit (Value.string t)]] (RV.mk (PV.lit (Value.bool true)) none),decide ((↑s.size:Int)≤(7:Int))=true,decide ((↑t.size:Int)≤(7:Int))=true,aa t24 85 [PV.ag [PV.lit (Value.bool false),PV.lit (Value.string s)]] (RV.mk (PV.aQ [PV.lit (Value.int IntKind.i64 n0),PV.lit (Value.bool true)]) none),aa t24 85 [PV.ag [PV.lit (Value.bool false),PV.lit (Value.string t)]] (RV.mk (PV.aQ [PV.lit (Value.int IntKind.i64 m0),PV.lit (Value.bool true)]) none),aX MD t24 k (47:Nat) (0:Nat) (St.mk [(4,AV.bp 4 0),(5,AV.pv (PV.lit (Value.int IntKind.i64 n0))),(7,AV.pv (PV.lit (Value.int IntKind.i64 m0)))] [(4,[PV.lit (Value.bool false),PV.lit (Value.string (ByteArray.mk #[]))])] [] []) (Xt.exit 0) (St.mk [(4,AV.bp 4 0),(5,AV.pv (PV.lit (Value.int IntKind.i64 n))),(7,AV.pv (PV.lit (Value.int IntKind.i64 (0:Int)))),(49,AV.pv (PV.lit (Value.bool false)))] [(4,[PV.lit (Value.bool false),PV.lit (Value.string (ByteArray.mk #[]))])] [] []),aa t24 49 [PV.lit (Value.int IntKind.i64 n)] (RV.mk (PV.ag [PV.lit (Value.bool e),PV.lit (Value.string u)]) none)]):=by kernel_rfl
theorem Tu (k:Nat) (n m:Int):ay MD t24 k 47 0 ⟨[(4, .bp 4 0),(5, .pv (iv n)),(7, .pv (iv m))],[(4,[bv false,sv ⟨#[]⟩])],[],[]⟩ [.c false]=
 some ((Xt.exit 0,St.mk [(4,AV.bp 4 0),(5,AV.pv (PV.lit (Value.int IntKind.i64 n))),(7,AV.pv (PV.lit (Value.int IntKind.i64 m))),(49,AV.pv (PV.lit (Value.bool false)))] [(4,[PV.lit (Value.bool false),PV.lit (Value.string (ByteArray.mk #[]))])] [] []),[],[(m !=(0:Int))=false]):=by kernel_rfl
theorem Tv (k:Nat) (n m r:Int):ay MD t24 k 47 0 ⟨[(4, .bp 4 0),(5, .pv (iv n)),(7, .pv (iv m))],[(4,[bv false,sv ⟨#[]⟩])],[],[]⟩ [.c true, .i 53 r]=
 some ((Xt.normal,St.mk [(4,AV.bp 4 0),(5,AV.pv (PV.lit (Value.int IntKind.i64 m))),(7,AV.pv (PV.lit (Value.int IntKind.i64 r)))] [(4,[PV.lit (Value.bool false),PV.lit (Value.string (ByteArray.mk #[]))])] [] []),[],[(m !=(0:Int))=true,n.tmod m=r,decide (m=(0:Int))=false]):=by kernel_rfl
theorem Tw (k n m p:Nat) (g h e:Bool) (s t u:ByteArray) (cs ds es:List PV):aA MD t25 k 47 [iz g s,iz h t] [.r (one (bv true)), .r (one (bv true)), .c true, .c false, .r (one (.sl 1 n cs)), .r (one (.sl 1 m ds)), .c true, .r ⟨.sl 1 p es,some 1⟩, .r (one (iz e u))]=
 some (RV.mk (PV.ag [PV.lit (Value.bool e),PV.lit (Value.string u)]) none,[aa t25 46 [PV.ag [PV.lit (Value.bool g),PV.lit (Value.string s)]] (RV.mk (PV.lit (Value.bool true)) none),aa t25 46 [PV.ag [PV.lit (Value.bool h),PV.lit (Value.string t)]] (RV.mk (PV.lit (Value.bool true)) none),decide ((↑s.size:Int)≤(7:Int))=true,decide ((↑t.size:Int)≤(7:Int))=false,aa t25 86 [PV.lit (Value.string s)] (RV.mk (PV.sl 1 n cs) none),aa t25 86 [PV.lit (Value.string t)] (RV.mk (PV.sl 1 m ds) none),((↑n:Int)==(0:Int))=true,aa t25 88 [PV.sl 1 n cs,PV.sl 1 m ds] (RV.mk (PV.sl 1 p es) (some 1)),aa t25 87 [PV.lit (Value.bool false),PV.sl 1 p es] (RV.mk (PV.ag [PV.lit (Value.bool e),PV.lit (Value.string u)]) none)]):=by kernel_rfl
theorem Tx (k n m p:Nat) (g h e:Bool) (s t u:ByteArray) (cs ds es:List PV):aA MD t25 k 47 [iz g s,iz h t] [.r (one (bv true)), .r (one (bv true)), .c false, .r (one (.sl 1 n cs)), .r (one (.sl 1 m ds)), .c false, .c true, .r ⟨.sl 1 p es,some 1⟩, .r (one (iz e u))]=
 some (RV.mk (PV.ag [PV.lit (Value.bool e),PV.lit (Value.string u)]) none,[aa t25 46 [PV.ag [PV.lit (Value.bool g),PV.lit (Value.string s)]] (RV.mk (PV.lit (Value.bool true)) none),aa t25 46 [PV.ag [PV.lit (Value.bool h),PV.lit (Value.string t)]] (RV.mk (PV.lit (Value.bool true)) none),decide ((↑s.size:Int)≤(7:Int))=false,aa t25 86 [PV.lit (Value.string s)] (RV.mk (PV.sl 1 n cs) none),aa t25 86 [PV.lit (Value.string t)] (RV.mk (PV.sl 1 m ds) none),((↑n:Int)==(0:Int))=false,((↑m:Int)==(0:Int))=true,aa t25 88 [PV.sl 1 n cs,PV.sl 1 m ds] (RV.mk (PV.sl 1 p es) (some 1)),aa t25 87 [PV.lit (Value.bool false),PV.sl 1 p es] (RV.mk (PV.ag [PV.lit (Value.bool e),PV.lit (Value.string u)]) none)]):=by kernel_rfl
theorem Ty (k n m o1 r1 o2 r2 r r':Nat) (g h e:Bool) (s t u:ByteArray) (a b j:Int) (cs ds uw uz xs ys:List PV):aA MD t24 k 47 [iz g s,iz h t] [.r (one (bv true)), .r (one (bv true)), .c true, .c false, .r ⟨.sl 1 n cs,some 1⟩, .r ⟨.sl 1 m ds,some 1⟩, .c false, .c false, .m (.gt o1 r1 [iv a]) uw, .m (.gt o2 r2 [iv b]) uz, .l (.exit 2) ⟨[(4, .bp 4 0),(9, .pv (.sl 1 r xs)),(10, .pv (.sl 1 r xs)),(11, .pv (iv a)),(12, .pv (iv b)),(13, .pv (iv 0)),(88, .pv (bv true))],[(4,[bv false,sv ⟨#[]⟩])],[],[]⟩, .l (.exit 4) ⟨[(4, .bp 4 0),(9, .pv (.sl 1 r' ys)),(11, .pv (iv a)),(12, .pv (iv b)),(14, .pv (iv j)),(104, .pv (bv false))],[(4,[bv false,sv ⟨#[]⟩])],[],[]⟩, .r (one (iz e u))]=
 some (RV.mk (PV.ag [PV.lit (Value.bool e),PV.lit (Value.string u)]) none,[aa t24 46 [PV.ag [PV.lit (Value.bool g),PV.lit (Value.string s)]] (RV.mk (PV.lit (Value.bool true)) none),aa t24 46 [PV.ag [PV.lit (Value.bool h),PV.lit (Value.string t)]] (RV.mk (PV.lit (Value.bool true)) none),decide ((↑s.size:Int)≤(7:Int))=true,decide ((↑t.size:Int)≤(7:Int))=false,aa t24 86 [PV.lit (Value.string s)] (RV.mk (PV.sl 1 n cs) (some 1)),cs.all cH=true,aa t24 86 [PV.lit (Value.string t)] (RV.mk (PV.sl 1 m ds) (some 1)),ds.all cH=true,((↑n:Int)==(0:Int))=false,((↑m:Int)==(0:Int))=false,ey t24 89 [MA.g cs 0 1 n] (MR.gt o1 r1 [PV.lit (Value.int IntKind.i64 a)]) uw,ey t24 89 [MA.g ds 0 1 m] (MR.gt o2 r2 [PV.lit (Value.int IntKind.i64 b)]) uz,aX MD t24 k (47:Nat) (1:Nat) (St.mk [(4,AV.bp 4 0),(9,AV.bs 58 o1 1 r1),(10,AV.bs 61 o2 1 r2),(11,AV.pv (PV.lit (Value.int IntKind.i64 a))),(12,AV.pv (PV.lit (Value.int IntKind.i64 b)))] [(4,[PV.lit (Value.bool false),PV.lit (Value.string (ByteArray.mk #[]))]),(58,uw),(61,uz)] [] []) (Xt.exit 2) (St.mk [(4,AV.bp 4 0),(9,AV.pv (PV.sl 1 r xs)),(10,AV.pv (PV.sl 1 r xs)),(11,AV.pv (PV.lit (Value.int IntKind.i64 a))),(12,AV.pv (PV.lit (Value.int IntKind.i64 b))),(13,AV.pv (PV.lit (Value.int IntKind.i64 (0:Int)))),(88,AV.pv (PV.lit (Value.bool true)))] [(4,[PV.lit (Value.bool false),PV.lit (Value.string (ByteArray.mk #[]))])] [] []),aX MD t24 k (47:Nat) (2:Nat) (St.mk [(4,AV.bp 4 0),(9,AV.pv (PV.sl 1 r xs)),(11,AV.pv (PV.lit (Value.int IntKind.i64 a))),(12,AV.pv (PV.lit (Value.int IntKind.i64 b))),(14,AV.pv (PV.lit (Value.int IntKind.i64 (0:Int))))] [(4,[PV.lit (Value.bool false),PV.lit (Value.string (ByteArray.mk #[]))])] [] []) (Xt.exit 4) (St.mk [(4,AV.bp 4 0),(9,AV.pv (PV.sl 1 r' ys)),(11,AV.pv (PV.lit (Value.int IntKind.i64 a))),(12,AV.pv (PV.lit (Value.int IntKind.i64 b))),(14,AV.pv (PV.lit (Value.int IntKind.i64 j))),(104,AV.pv (PV.lit (Value.bool false)))] [(4,[PV.lit (Value.bool false),PV.lit (Value.string (ByteArray.mk #[]))])] [] []),aa t24 87 [PV.lit (Value.bool false),PV.sl 1 r' ys] (RV.mk (PV.ag [PV.lit (Value.bool e),PV.lit (Value.string u)]) none)]):=by kernel_rfl
theorem Tz (k n m o1 r1 o2 r2 r r':Nat) (g h e:Bool) (s t u:ByteArray) (a b j:Int) (cs ds uw uz xs ys:List PV):aA MD t24 k 47 [iz g s,iz h t] [.r (one (bv true)), .r (one (bv true)), .c false, .r ⟨.sl 1 n cs,some 1⟩, .r ⟨.sl 1 m ds,some 1⟩, .c false, .c false, .m (.gt o1 r1 [iv a]) uw, .m (.gt o2 r2 [iv b]) uz, .l (.exit 2) ⟨[(4, .bp 4 0),(9, .pv (.sl 1 r xs)),(10, .pv (.sl 1 r xs)),(11, .pv (iv a)),(12, .pv (iv b)),(13, .pv (iv 0)),(88, .pv (bv true))],[(4,[bv false,sv ⟨#[]⟩])],[],[]⟩, .l (.exit 4) ⟨[(4, .bp 4 0),(9, .pv (.sl 1 r' ys)),(11, .pv (iv a)),(12, .pv (iv b)),(14, .pv (iv j)),(104, .pv (bv false))],[(4,[bv false,sv ⟨#[]⟩])],[],[]⟩, .r (one (iz e u))]=
 some (RV.mk (PV.ag [PV.lit (Value.bool e),PV.lit (Value.string u)]) none,[aa t24 46 [PV.ag [PV.lit (Value.bool g),PV.lit (Value.string s)]] (RV.mk (PV.lit (Value.bool true)) none),aa t24 46 [PV.ag [PV.lit (Value.bool h),PV.lit (Value.string t)]] (RV.mk (PV.lit (Value.bool true)) none),decide ((↑s.size:Int)≤(7:Int))=false,aa t24 86 [PV.lit (Value.string s)] (RV.mk (PV.sl 1 n cs) (some 1)),cs.all cH=true,aa t24 86 [PV.lit (Value.string t)] (RV.mk (PV.sl 1 m ds) (some 1)),ds.all cH=true,((↑n:Int)==(0:Int))=false,((↑m:Int)==(0:Int))=false,ey t24 89 [MA.g cs 0 1 n] (MR.gt o1 r1 [PV.lit (Value.int IntKind.i64 a)]) uw,ey t24 89 [MA.g ds 0 1 m] (MR.gt o2 r2 [PV.lit (Value.int IntKind.i64 b)]) uz,aX MD t24 k (47:Nat) (1:Nat) (St.mk [(4,AV.bp 4 0),(9,AV.bs 58 o1 1 r1),(10,AV.bs 61 o2 1 r2),(11,AV.pv (PV.lit (Value.int IntKind.i64 a))),(12,AV.pv (PV.lit (Value.int IntKind.i64 b)))] [(4,[PV.lit (Value.bool false),PV.lit (Value.string (ByteArray.mk #[]))]),(58,uw),(61,uz)] [] []) (Xt.exit 2) (St.mk [(4,AV.bp 4 0),(9,AV.pv (PV.sl 1 r xs)),(10,AV.pv (PV.sl 1 r xs)),(11,AV.pv (PV.lit (Value.int IntKind.i64 a))),(12,AV.pv (PV.lit (Value.int IntKind.i64 b))),(13,AV.pv (PV.lit (Value.int IntKind.i64 (0:Int)))),(88,AV.pv (PV.lit (Value.bool true)))] [(4,[PV.lit (Value.bool false),PV.lit (Value.string (ByteArray.mk #[]))])] [] []),aX MD t24 k (47:Nat) (2:Nat) (St.mk [(4,AV.bp 4 0),(9,AV.pv (PV.sl 1 r xs)),(11,AV.pv (PV.lit (Value.int IntKind.i64 a))),(12,AV.pv (PV.lit (Value.int IntKind.i64 b))),(14,AV.pv (PV.lit (Value.int IntKind.i64 (0:Int))))] [(4,[PV.lit (Value.bool false),PV.lit (Value.string (ByteArray.mk #[]))])] [] []) (Xt.exit 4) (St.mk [(4,AV.bp 4 0),(9,AV.pv (PV.sl 1 r' ys)),(11,AV.pv (PV.lit (Value.int IntKind.i64 a))),(12,AV.pv (PV.lit (Value.int IntKind.i64 b))),(14,AV.pv (PV.lit (Value.int IntKind.i64 j))),(104,AV.pv (PV.lit (Value.bool false)))] [(4,[PV.lit (Value.bool false),PV.lit (Value.string (ByteArray.mk #[]))])] [] []),aa t24 87 [PV.lit (Value.bool false),PV.sl 1 r' ys] (RV.mk (PV.ag [PV.lit (Value.bool e),PV.lit (Value.string u)]) none)]):=by kernel_rfl
theorem TA (k o1 r1 o2 r2:Nat) (a b:Int) (cs ds xs ys:List PV):ay MD t24 k 47 1 ⟨[(4, .bp 4 0),(9, .bs 58 o1 1 r1),(10, .bs 61 o2 1 r2),(11, .pv (iv a)),(12, .pv (iv b))],[(4,[bv false,sv ⟨#[]⟩]),(58,cs),(61,ds)],[],[]⟩ [.f xs, .f ys, .r (one (iv 0)), .c true]=
 some ((Xt.exit 2,St.mk [(4,AV.bp 4 0),(9,AV.pv (PV.sl 1 r1 xs)),(10,AV.pv (PV.sl 1 r2 ys)),(11,AV.pv (PV.lit (Value.int IntKind.i64 a))),(12,AV.pv (PV.lit (Value.int IntKind.i64 b))),(13,AV.pv (PV.lit (Value.int IntKind.i64 (0:Int)))),(88,AV.pv (PV.lit (Value.bool true)))] [(4,[PV.lit (Value.bool false),PV.lit (Value.string (ByteArray.mk #[]))])] [] []),[],[cF cs o1 (r1* (1:Nat)) xs,cF ds o2 (r2* (1:Nat)) ys,aa t24 90 [PV.sl 1 r1 xs,PV.sl 1 r2 ys] (RV.mk (PV.lit (Value.int IntKind.i64 (0:Int))) none),true=true]):=by kernel_rfl
theorem TB (k o1 r1 o2 r2 n o3 r3:Nat) (a b:Int) (d:Int) (cs ds xs ys es jh:List PV):ay MD t24 k 47 1 ⟨[(4, .bp 4 0),(9, .bs 58 o1 1 r1),(10, .bs 61 o2 1 r2),(11, .pv (iv a)),(12, .pv (iv b))],[(4,[bv false,sv ⟨#[]⟩]),(58,cs),(61,ds)],[],[]⟩ [.f xs, .f ys, .r (one (iv (-1))), .c false, .c false, .r ⟨.sl 1 n es,some 1⟩, .m (.gt o3 r3 [iv d]) jh]=
 some ((Xt.normal,St.mk [(4,AV.bp 4 0),(9,AV.pv (PV.sl 1 r1 xs)),(10,AV.bs 96 o3 1 r3),(11,AV.pv (PV.lit (Value.int IntKind.i64 a))),(12,AV.pv (PV.lit (Value.int IntKind.i64 b)))] [(4,[PV.lit (Value.bool false),PV.lit (Value.string (ByteArray.mk #[]))]),(96,jh)] [] []),[],[cF cs o1 (r1* (1:Nat)) xs,cF ds o2 (r2* (1:Nat)) ys,aa t24 90 [PV.sl 1 r1 xs,PV.sl 1 r2 ys] (RV.mk (PV.lit (Value.int IntKind.i64 (-1:Int))) none),false=false,false=false,aa t24 91 [PV.sl 1 r2 ys,PV.sl 1 r1 xs] (RV.mk (PV.sl 1 n es) (some 1)),es.all cH=true,ey t24 89 [MA.g es 0 1 n] (MR.gt o3 r3 [PV.lit (Value.int IntKind.i64 d)]) jh]):=by kernel_rfl
theorem TC (k o1 r1 o2 r2 n o3 r3:Nat) (a b:Int) (d:Int) (cs ds xs ys es jh:List PV):ay MD t24 k 47 1 ⟨[(4, .bp 4 0),(9, .bs 58 o1 1 r1),(10, .bs 61 o2 1 r2),(11, .pv (iv a)),(12, .pv (iv b))],[(4,[bv false,sv ⟨#[]⟩]),(58,cs),(61,ds)],[],[]⟩ [.f xs, .f ys, .r (one (iv 1)), .c false, .c true, .r ⟨.sl 1 n es,some 1⟩, .m (.gt o3 r3 [iv d]) jh]=
 some ((Xt.normal,St.mk [(4,AV.bp 4 0),(9,AV.pv (PV.sl 1 r2 ys)),(10,AV.bs 96 o3 1 r3),(11,AV.pv (PV.lit (Value.int IntKind.i64 a))),(12,AV.pv (PV.lit (Value.int IntKind.i64 b)))] [(4,[PV.lit (Value.bool false),PV.lit (Value.string (ByteArray.mk #[]))]),(96,jh)] [] []),[],[cF cs o1 (r1* (1:Nat)) xs,cF ds o2 (r2* (1:Nat)) ys,aa t24 90 [PV.sl 1 r1 xs,PV.sl 1 r2 ys] (RV.mk (PV.lit (Value.int IntKind.i64 (1:Int))) none),false=false,true=true,aa t24 91 [PV.sl 1 r1 xs,PV.sl 1 r2 ys] (RV.mk (PV.sl 1 n es) (some 1)),es.all cH=true,ey t24 89 [MA.g es 0 1 n] (MR.gt o3 r3 [PV.lit (Value.int IntKind.i64 d)]) jh]):=by kernel_rfl
theorem TD (k r1 o2 r2:Nat) (a b:Int) (xs ds ys:List PV):ay MD t24 k 47 1 ⟨[(4, .bp 4 0),(9, .pv (.sl 1 r1 xs)),(10, .bs 96 o2 1 r2),(11, .pv (iv a)),(12, .pv (iv b))],[(4,[bv false,sv ⟨#[]⟩]),(96,ds)],[],[]⟩ [.f ys, .r (one (iv 0)), .c true]=
 some ((Xt.exit 2,St.mk [(4,AV.bp 4 0),(9,AV.pv (PV.sl 1 r1 xs)),(10,AV.pv (PV.sl 1 r2 ys)),(11,AV.pv (PV.lit (Value.int IntKind.i64 a))),(12,AV.pv (PV.lit (Value.int IntKind.i64 b))),(13,AV.pv (PV.lit (Value.int IntKind.i64 (0:Int)))),(88,AV.pv (PV.lit (Value.bool true)))] [(4,[PV.lit (Value.bool false),PV.lit (Value.string (ByteArray.mk #[]))])] [] []),[],[cF ds o2 (r2* (1:Nat)) ys,aa t24 90 [PV.sl 1 r1 xs,PV.sl 1 r2 ys] (RV.mk (PV.lit (Value.int IntKind.i64 (0:Int))) none),true=true]):=by kernel_rfl
theorem TE (k r1 o2 r2 n o3 r3:Nat) (a b:Int) (d:Int) (xs ds ys es jh:List PV):ay MD t24 k 47 1 ⟨[(4, .bp 4 0),(9, .pv (.sl 1 r1 xs)),(10, .bs 96 o2 1 r2),(11, .pv (iv a)),(12, .pv (iv b))],[(4,[bv false,sv ⟨#[]⟩]),(96,ds)],[],[]⟩ [.f ys, .r (one (iv (-1))), .c false, .c false, .r ⟨.sl 1 n es,some 1⟩, .m (.gt o3 r3 [iv d]) jh]=
 some ((Xt.normal,St.mk [(4,AV.bp 4 0),(9,AV.pv (PV.sl 1 r1 xs)),(10,AV.bs 96 o3 1 r3),(11,AV.pv (PV.lit (Value.int IntKind.i64 a))),(12,AV.pv (PV.lit (Value.int IntKind.i64 b)))] [(4,[PV.lit (Value.bool false),PV.lit (Value.string (ByteArray.mk #[]))]),(96,jh)] [] []),[],[cF ds o2 (r2* (1:Nat)) ys,aa t24 90 [PV.sl 1 r1 xs,PV.sl 1 r2 ys] (RV.mk (PV.lit (Value.int IntKind.i64 (-1:Int))) none),false=false,false=false,aa t24 91 [PV.sl 1 r2 ys,PV.sl 1 r1 xs] (RV.mk (PV.sl 1 n es) (some 1)),es.all cH=true,ey t24 89 [MA.g es 0 1 n] (MR.gt o3 r3 [PV.lit (Value.int IntKind.i64 d)]) jh]):=by kernel_rfl
theorem TF (k r1 o2 r2 n o3 r3:Nat) (a b:Int) (d:Int) (xs ds ys es jh:List PV):ay MD t24 k 47 1 ⟨[(4, .bp 4 0),(9, .pv (.sl 1 r1 xs)),(10, .bs 96 o2 1 r2),(11, .pv (iv a)),(12, .pv (iv b))],[(4,[bv false,sv ⟨#[]⟩]),(96,ds)],[],[]⟩ [.f ys, .r (one (iv 1)), .c false, .c true, .r ⟨.sl 1 n es,some 1⟩, .m (.gt o3 r3 [iv d]) jh]=
 some ((Xt.normal,St.mk [(4,AV.bp 4 0),(9,AV.pv (PV.sl 1 r2 ys)),(10,AV.bs 96 o3 1 r3),(11,AV.pv (PV.lit (Value.int IntKind.i64 a))),(12,AV.pv (PV.lit (Value.int IntKind.i64 b)))] [(4,[PV.lit (Value.bool false),PV.lit (Value.string (ByteArray.mk #[]))]),(96,jh)] [] []),[],[cF ds o2 (r2* (1:Nat)) ys,aa t24 90 [PV.sl 1 r1 xs,PV.sl 1 r2 ys] (RV.mk (PV.lit (Value.int IntKind.i64 (1:Int))) none),false=false,true=true,aa t24 91 [PV.sl 1 r1 xs,PV.sl 1 r2 ys] (RV.mk (PV.sl 1 n es) (some 1)),es.all cH=true,ey t24 89 [MA.g es 0 1 n] (MR.gt o3 r3 [PV.lit (Value.int IntKind.i64 d)]) jh]):=by kernel_rfl
theorem TG (k n i:Nat) (a b c:Int) (xs:List PV):ay MD t24 k 47 2 ⟨[(4, .bp 4 0),(9, .pv (.sl 1 n xs)),(11, .pv (iv a)),(12, .pv (iv b)),(14, .pv (iv i))],[(4,[bv false,sv ⟨#[]⟩])],[],[]⟩ [.i 103 c, .c false]=
 some ((Xt.exit 4,St.mk [(4,AV.bp 4 0),(9,AV.pv (PV.sl 1 n xs)),(11,AV.pv (PV.lit (Value.int IntKind.i64 a))),(12,AV.pv (PV.lit (Value.int IntKind.i64 b))),(14,AV.pv (PV.lit (Value.int IntKind.i64 (↑i:Int)))),(104,AV.pv (PV.lit (Value.bool false)))] [(4,[PV.lit (Value.bool false),PV.lit (Value.string (ByteArray.mk #[]))])] [] []),[],[(if b<a then b else a)=c,decide ((↑i:Int)<c)=false]):=by kernel_rfl
theorem TH (k n i m:Nat) (a b c:Int) (xs ys:List PV):ay MD t24 k 47 2 ⟨[(4, .bp 4 0),(9, .pv (.sl 1 n xs)),(11, .pv (iv a)),(12, .pv (iv b)),(14, .pv (iv i))],[(4,[bv false,sv ⟨#[]⟩])],[],[]⟩ [.i 103 c, .c true, .r (one (.sl 1 m ys)), .i 106 (i+1:Nat)]=
 some ((Xt.normal,St.mk [(4,AV.bp 4 0),(9,AV.pv (PV.sl 1 m ys)),(11,AV.pv (PV.lit (Value.int IntKind.i64 a))),(12,AV.pv (PV.lit (Value.int IntKind.i64 b))),(14,AV.pv (PV.lit (Value.int IntKind.i64 (↑(i+(1:Nat)):Int))))] [(4,[PV.lit (Value.bool false),PV.lit (Value.string (ByteArray.mk #[]))])] [] []),[],[(if b<a then b else a)=c,decide ((↑i:Int)<c)=true,aa t24 92 [PV.sl 1 n xs,PV.lit (Value.int IntKind.i64 (0:Int))] (RV.mk (PV.sl 1 m ys) none),IntKind.i64.wrap ((↑i:Int)+(1:Int))=(↑(i+(1:Nat)):Int)]):=by kernel_rfl
theorem az.calm {P:Program} {f:Nat} {args:List PV} {r:RV} (h:az P f args r):az P f args (one r.v):=
 ⟨h.1,fun vs w Pr hp hr=>(h.2 vs w Pr hp hr).mono fun e w' ⟨v,aD,he,dX⟩=>⟨v,aD,he,⟨dX.fw,dX.rp,fun z hz=>by simp at hz⟩⟩⟩
theorem sB {n:Int} (h1: -(2^63)≤n) (h2:n<2^63):DC [iv n]=some (one (.ag (zc n))):=
 aO (enc:=fun n:Int=>[iv n]) (fun a b e=>by rw [dL (List.cons.inj e).1]) ⟨h1,h2⟩
theorem vv {z:Int} (h:(af z.natAbs).size≤7):Cd [.ag (zc z)]=some (one (.aQ [iv z,bv true])):=
 aO (enc:=fun z:Int=>[.ag (zc z)]) (fun a b e=>by
  simp only [List.cons.injEq,and_true,PV.ag.injEq] at e
  rw [eE e]) h
theorem AD {v:Nat} (h:(af v).size<2^30) (h0:0<v):Jy [sv (af v)]=some ⟨ni (dg (16777216:Nat) v),some 1⟩:=
 aO (enc:=fun v:Nat=>[sv (af v)]) (fun a b e=>by rw [pX (vM (List.cons.inj e).1)]) ⟨h,h0⟩
theorem nT {v:Nat} (h:(af v).size<2^30):FH [sv (af v)]=some (one (ni (dg (16777216:Nat) v))):=
 aO (enc:=fun v:Nat=>[sv (af v)]) (fun a b e=>by rw [pX (vM (List.cons.inj e).1)]) h
theorem wM {a b:Nat×Nat} (e:[ni (dg (16777216:Nat) a.1),ni (dg (16777216:Nat) a.2)]=[ni (dg (16777216:Nat) b.1),ni (dg (16777216:Nat) b.2)]):a=b:=by
 simp only [List.cons.injEq,and_true] at e
 exact Prod.ext (pL (rA e.1)) (pL (rA e.2))
theorem xT {a b:Nat} (h1:(dg (16777216:Nat) a).length<2^39) (h2:(dg (16777216:Nat) b).length<2^39):FP [ni (dg (16777216:Nat) a),ni (dg (16777216:Nat) b)]=some ⟨ni (dg (16777216:Nat) (a+b)),some 1⟩:=
 aO (a:=(a,b)) (enc:=fun x:Nat×Nat=>[ni (dg (16777216:Nat) x.1),ni (dg (16777216:Nat) x.2)]) (fun a b e=>by rw [wM e]) ⟨h1,h2⟩
theorem l7 {a b:Nat} (h:b≤a) (h0:0<a) (h1:(dg (16777216:Nat) a).length<2^39):Ca [ni (dg (16777216:Nat) a),ni (dg (16777216:Nat) b)]=some ⟨ni (dg (16777216:Nat) (a - b)),some 1⟩:=
 aO (a:=(a,b)) (enc:=fun x:Nat×Nat=>[ni (dg (16777216:Nat) x.1),ni (dg (16777216:Nat) x.2)]) (fun a b e=>by rw [wM e]) ⟨h,h0,h1⟩
theorem DD {a:Nat} (h1:(dg (16777216:Nat) a).length<2^39):Ce [ni (dg (16777216:Nat) a),iv 0]=some (one (ni (dg (16777216:Nat) (2* a)))):=
 aO (enc:=fun a:Nat=>[ni (dg (16777216:Nat) a),iv 0]) (fun a b e=>by rw [pL (rA (List.cons.inj e).1)]) h1
theorem vu {a b:Nat} (h1:(dg (16777216:Nat) a).length<2^40) (h2:(dg (16777216:Nat) b).length<2^40):Cb [ni (dg (16777216:Nat) a),ni (dg (16777216:Nat) b)]=some (one (iv (iL a b))):=
 aO (a:=(a,b)) (enc:=fun x:Nat×Nat=>[ni (dg (16777216:Nat) x.1),ni (dg (16777216:Nat) x.2)]) (fun a b e=>by rw [wM e]) ⟨h1,h2⟩
theorem kL {v:Nat} (h0:0<v) (h1:(dg (16777216:Nat) v).length<2^39):Jz [.g ((dg (16777216:Nat) v).map aE) 0 1 (dg (16777216:Nat) v).length]=some (.gt (oz v) (dg (16777216:Nat) (od v)).length [iv (tz v)],(gp v).map aE):=
 vH (enc:=fun v:Nat=>[.g ((dg (16777216:Nat) v).map aE) 0 1 (dg (16777216:Nat) v).length]) (fun a b e=>by
  simp only [List.cons.injEq,and_true,MA.g.injEq] at e
  rw [pL (tP e.1)]) ⟨h0,h1⟩
theorem AR:aH MD.P t24:=sE
 (ak (ax fun x _=>jS x.1 x.2)
 (ak (ax fun n h=>AE n h.1 h.2)
 (ak (ax fun z h=>FQ z h)
 (ak (ax fun v h=>vp v h.1 h.2)
 (ak (ax fun x h=>qi x.1 x.2 h.1 h.2)
 (ak (ax fun x h=>FN x.1 x.2 h.1 h.2)
 (ak (ax fun x h=>FM x.1 x.2 h.1 h.2.1 h.2.2)
 (ak (ax fun a h=>(FT a 0 (by omega) h).calm) aF))))))))
 (p7 (vI fun v h=>KM v h.1 h.2) oS)
theorem F8:aH MD.P t25:=aI
 (ak (ax fun x _=>jS x.1 x.2)
 (ak (ax fun v h=>by
  rcases Nat.eq_zero_or_pos v with rfl|h0
  · have:=Bi (af 0) rfl
    rwa [fP] at this
  · exact (vp v h h0).calm)
 (ak (ax fun x h=>qi x.1 x.2 h.1 h.2)
 (ak (ax fun x h=>Ij x.1 x.2 h.1 h.2) aF))))
theorem oU {v:Nat} (h:0<v):cF ((gp v).map aE) (oz v) ((dg (16777216:Nat) (od v)).length* 1) ((dg (16777216:Nat) (od v)).map aE):=by
 refine o7 _ _ _ ?_
 unfold gp
 rw [List.drop_left' (by simp),Nat.mul_one]
 have:=JZ (b:=(16777216:Nat)) (by decide) (Af v)
 rw [show (16777216:Nat)=(16777216:Nat) from rfl,Ag h] at this
 exact this.symm
theorem Oq {v:Nat} (h:0<v):oz v≤(dg (16777216:Nat) v).length:=by
 have e0:=pM (b:=(16777216:Nat)) (by decide) (rE h) (oz v)
 rw [Dt h] at e0
 rw [e0,List.length_append,List.length_replicate];omega
theorem JP {v:Nat} (h:0<v) (hl:(dg (16777216:Nat) v).length<2^39):tz v<2^50:=by
 have:=Oq h
 unfold oz at this
 omega
theorem Jj {v:Nat} (h:(af v).size<2^30):(dg (16777216:Nat) v).length<2^39:=by
 have h1:=cz (b:=256) (n:=v) (by decide)
 rw [←lP] at h1
 have h3:256^(af v).size≤(16777216:Nat)^(af v).size:=Nat.pow_le_pow_left (by decide) _
 have:=gS (b:=(16777216:Nat)) (n:=v) (k:=(af v).size) (by decide) (by omega)
 omega
def OO (n m:Nat) (e:List (Nat×AV)):St:=⟨(4, .bp 4 0)::(5, .pv (iv n))::(7, .pv (iv m))::e,[(4,[bv false,sv ⟨#[]⟩])],[],[]⟩
theorem DB (k:Nat):∀(m n:Nat),bh (aU MD t24 k 47 0) (m+1) (OO n m [])=some (.exit 0,OO (Nat.gcd n m) 0 [(49, .pv (bv false))]):=by
 intro m
 induction m using Nat.strongRecOn with
 |_ m ih=>
  intro n
  by_cases h:m=0
  · subst h
    rw [Nat.gcd_zero_right]
    exact aW (aq (Tu k n 0) ⟨rfl,trivial⟩) (by simp)
  · have hr:n%m<m:=Nat.mod_lt _ (by omega)
    have:=ih (n%m) hr m
    rw [mL] at this
    exact bz (aq (Tv k n m (n%m:Nat)) ⟨bne_iff_ne.2 (by omega),fQ _ _,decide_eq_false (by omega),trivial⟩) (bR (by omega) this)
def Sf (x y o:Nat) (a b:Int) (ds:List PV):St:=⟨[(4, .bp 4 0),(9, .pv (ni (dg (16777216:Nat) x))),(10, .bs 96 o 1 (dg (16777216:Nat) y).length),(11, .pv (iv a)),(12, .pv (iv b))],[(4,[bv false,sv ⟨#[]⟩]),(96,ds)],[],[]⟩
def OP (x:Nat) (a b:Int):St:=⟨[(4, .bp 4 0),(9, .pv (ni (dg (16777216:Nat) x))),(10, .pv (ni (dg (16777216:Nat) x))),(11, .pv (iv a)),(12, .pv (iv b)),(13, .pv (iv 0)),(88, .pv (bv true))],[(4,[bv false,sv ⟨#[]⟩])],[],[]⟩
theorem xR (k:Nat) (a b:Int):∀(n x y o:Nat) (ds:List PV),x+y=n→x%2=1→y%2=1→(dg (16777216:Nat) x).length<2^39→(dg (16777216:Nat) y).length<2^39→cF ds o ((dg (16777216:Nat) y).length* 1) ((dg (16777216:Nat) y).map aE)→
  bh (aU MD t24 k 47 1) (n+1) (Sf x y o a b ds)=some (.exit 2,OP (Nat.gcd x y) a b):=by
 intro n
 induction n using Nat.strongRecOn with
 |_ n ih=>
  intro x y o ds hn hx hy lx ly hs
  have ho:=vu (a:=x) (b:=y) (by omega) (by omega)
  rcases Nat.lt_trichotomy x y with h|h|h
  · rw [show iL x y= -1 by unfold iL;rw [if_pos h]] at ho
    have hlen:=Nat.lt_of_le_of_lt (cY (b:=(16777216:Nat)) (by decide) (show y - x≤y by omega)) ly
    have hm:=l7 (a:=y) (b:=x) (by omega) (by omega) ly
    have hd:=kL (v:=y - x) (by omega) hlen
    have hle:=su (n:=y - x) (by omega)
    have lT:=Nat.lt_of_le_of_lt (cY (b:=(16777216:Nat)) (by decide) hle) hlen
    have nx:=ih (x+od (y - x)) (by omega) x (od (y - x)) (oz (y - x)) ((gp (y - x)).map aE) rfl hx (jn (by omega)) lx lT (oU (by omega))
    rw [pP hx h] at nx
    exact bz (aq (TE k (dg (16777216:Nat) x).length o (dg (16777216:Nat) y).length (dg (16777216:Nat) (y - x)).length (oz (y - x)) (dg (16777216:Nat) (od (y - x))).length a b (tz (y - x):Nat) ((dg (16777216:Nat) x).map aE) ds ((dg (16777216:Nat) y).map aE) ((dg (16777216:Nat) (y - x)).map aE) ((gp (y - x)).map aE)) ⟨hs,ho,rfl,rfl,hm,fS _,hd,trivial⟩) (bR (by omega) nx)
  · subst h
    rw [show iL x x=0 by unfold iL;simp] at ho
    rw [Nat.gcd_self]
    exact aW (aq (TD k (dg (16777216:Nat) x).length o (dg (16777216:Nat) x).length a b ((dg (16777216:Nat) x).map aE) ds ((dg (16777216:Nat) x).map aE)) ⟨hs,ho,rfl,trivial⟩) (by simp)
  · rw [show iL x y=1 by unfold iL;rw [if_neg (by omega),if_pos h]] at ho
    have hlen:=Nat.lt_of_le_of_lt (cY (b:=(16777216:Nat)) (by decide) (show x - y≤x by omega)) lx
    have hm:=l7 (a:=x) (b:=y) (by omega) (by omega) lx
    have hd:=kL (v:=x - y) (by omega) hlen
    have hle:=su (n:=x - y) (by omega)
    have lT:=Nat.lt_of_le_of_lt (cY (b:=(16777216:Nat)) (by decide) hle) hlen
    have nx:=ih (y+od (x - y)) (by omega) y (od (x - y)) (oz (x - y)) ((gp (x - y)).map aE) rfl hy (jn (by omega)) ly lT (oU (by omega))
    rw [pP hy h,Nat.gcd_comm] at nx
    exact bz (aq (TF k (dg (16777216:Nat) x).length o (dg (16777216:Nat) y).length (dg (16777216:Nat) (x - y)).length (oz (x - y)) (dg (16777216:Nat) (od (x - y))).length a b (tz (x - y):Nat) ((dg (16777216:Nat) x).map aE) ds ((dg (16777216:Nat) y).map aE) ((dg (16777216:Nat) (x - y)).map aE) ((gp (x - y)).map aE)) ⟨hs,ho,rfl,rfl,hm,fS _,hd,trivial⟩) (bR (by omega) nx)
def Se (x y o1 o2:Nat) (a b:Int) (cs ds:List PV):St:=⟨[(4, .bp 4 0),(9, .bs 58 o1 1 (dg (16777216:Nat) x).length),(10, .bs 61 o2 1 (dg (16777216:Nat) y).length),(11, .pv (iv a)),(12, .pv (iv b))],[(4,[bv false,sv ⟨#[]⟩]),(58,cs),(61,ds)],[],[]⟩
theorem DA (k:Nat) (a b:Int) (x y o1 o2:Nat) (cs ds:List PV) (hx:x%2=1) (hy:y%2=1) (lx:(dg (16777216:Nat) x).length<2^39) (ly:(dg (16777216:Nat) y).length<2^39) (hr:cF cs o1 ((dg (16777216:Nat) x).length* 1) ((dg (16777216:Nat) x).map aE)) (hs:cF ds o2 ((dg (16777216:Nat) y).length* 1) ((dg (16777216:Nat) y).map aE)):
  bh (aU MD t24 k 47 1) (x+y+1) (Se x y o1 o2 a b cs ds)=some (.exit 2,OP (Nat.gcd x y) a b):=by
 have ho:=vu (a:=x) (b:=y) (by omega) (by omega)
 rcases Nat.lt_trichotomy x y with h|h|h
 · rw [show iL x y= -1 by unfold iL;rw [if_pos h]] at ho
   have hlen:=Nat.lt_of_le_of_lt (cY (b:=(16777216:Nat)) (by decide) (show y - x≤y by omega)) ly
   have hm:=l7 (a:=y) (b:=x) (by omega) (by omega) ly
   have hd:=kL (v:=y - x) (by omega) hlen
   have hle:=su (n:=y - x) (by omega)
   have lT:=Nat.lt_of_le_of_lt (cY (b:=(16777216:Nat)) (by decide) hle) hlen
   have nx:=xR k a b _ x (od (y - x)) (oz (y - x)) ((gp (y - x)).map aE) rfl hx (jn (by omega)) lx lT (oU (by omega))
   rw [pP hx h] at nx
   exact bz (aq (TB k o1 (dg (16777216:Nat) x).length o2 (dg (16777216:Nat) y).length (dg (16777216:Nat) (y - x)).length (oz (y - x)) (dg (16777216:Nat) (od (y - x))).length a b (tz (y - x):Nat) cs ds ((dg (16777216:Nat) x).map aE) ((dg (16777216:Nat) y).map aE) ((dg (16777216:Nat) (y - x)).map aE) ((gp (y - x)).map aE)) ⟨hr,hs,ho,rfl,rfl,hm,fS _,hd,trivial⟩) (bR (by omega) nx)
 · subst h
   rw [show iL x x=0 by unfold iL;simp] at ho
   rw [Nat.gcd_self]
   exact aW (aq (TA k o1 (dg (16777216:Nat) x).length o2 (dg (16777216:Nat) x).length a b cs ds ((dg (16777216:Nat) x).map aE) ((dg (16777216:Nat) x).map aE)) ⟨hr,hs,ho,rfl,trivial⟩) (by simp)
 · rw [show iL x y=1 by unfold iL;rw [if_neg (by omega),if_pos h]] at ho
   have hlen:=Nat.lt_of_le_of_lt (cY (b:=(16777216:Nat)) (by decide) (show x - y≤x by omega)) lx
   have hm:=l7 (a:=x) (b:=y) (by omega) (by omega) lx
   have hd:=kL (v:=x - y) (by omega) hlen
   have hle:=su (n:=x - y) (by omega)
   have lT:=Nat.lt_of_le_of_lt (cY (b:=(16777216:Nat)) (by decide) hle) hlen
   have nx:=xR k a b _ y (od (x - y)) (oz (x - y)) ((gp (x - y)).map aE) rfl hy (jn (by omega)) ly lT (oU (by omega))
   rw [pP hy h,Nat.gcd_comm] at nx
   exact bz (aq (TC k o1 (dg (16777216:Nat) x).length o2 (dg (16777216:Nat) y).length (dg (16777216:Nat) (x - y)).length (oz (x - y)) (dg (16777216:Nat) (od (x - y))).length a b (tz (x - y):Nat) cs ds ((dg (16777216:Nat) x).map aE) ((dg (16777216:Nat) y).map aE) ((dg (16777216:Nat) (x - y)).map aE) ((gp (x - y)).map aE)) ⟨hr,hs,ho,rfl,rfl,hm,fS _,hd,trivial⟩) (bR (by omega) nx)
def IM (x ta tb i:Nat) (e:List (Nat×AV)):St:=⟨(4, .bp 4 0)::(9, .pv (ni (dg (16777216:Nat) (2^i* x))))::(11, .pv (iv ta))::(12, .pv (iv tb))::(14, .pv (iv i))::e,[(4,[bv false,sv ⟨#[]⟩])],[],[]⟩
theorem MS (ta tb:Nat):(if (tb:Int)<(ta:Int) then (tb:Int) else (ta:Int))=((min ta tb:Nat):Int):=by
 split<;>omega
theorem FK (k x ta tb:Nat) (h1:ta<2^50) (h2:tb<2^50) (hl:(dg (16777216:Nat) (2^min ta tb* x)).length<2^39) (hk:min ta tb<k):bh (aU MD t24 k 47 2) k (IM x ta tb 0 [])=some (.exit 4,IM x ta tb (min ta tb) [(104, .pv (bv false))]):=by
 refine bK (f:=aU MD t24 k 47 2) (S:=fun i=>IM x ta tb i []) (n:=min ta tb) (fun i hi=> ?_) (aq (TG k _ (min ta tb) ta tb (min ta tb:Nat) _) ⟨MS _ _,decide_eq_false (by omega),trivial⟩) (by simp) k hk
 have hle:2^i* x≤2^min ta tb* x:=Nat.mul_le_mul_right _ (Nat.pow_le_pow_right (by decide) (by omega))
 have ht:=DD (a:=2^i* x) (Nat.lt_of_le_of_lt (cY (by decide) hle) hl)
 rw [show 2* (2^i* x)=2^(i+1)* x by rw [Nat.pow_succ,←Nat.mul_assoc,Nat.mul_comm 2]] at ht
 exact aq (TH k _ i _ ta tb (min ta tb:Nat) _ _) ⟨MS _ _,decide_eq_true (by omega),ht,aR (by omega) (by omega),trivial⟩
theorem pq (n:Nat):zc ((n:Nat):Int)=[bv false,sv (af n)]:=by
 simp only [zc,Int.natAbs_natCast]
 rw [decide_eq_false (by omega)]
theorem KK (a b:Int) (ha:(af a.natAbs).size<2^30) (hb:(af b.natAbs).size<2^30):az P0 47 [.ag (zc a), .ag (zc b)] (one (.ag (zc (Nat.gcd a.natAbs b.natAbs:Nat)))):=by
 have v1:=cy (decide (a<0)) (af a.natAbs)
 have v2:=cy (decide (b<0)) (af b.natAbs)
 rw [lY] at v1 v2
 generalize hna:a.natAbs=x at*
 generalize hnb:b.natAbs=y at*
 have ea:(.ag (zc a):PV)=iz (decide (a<0)) (af x):=by rw [←hna];rfl
 have eb:(.ag (zc b):PV)=iz (decide (b<0)) (af y):=by rw [←hnb];rfl
 rw [ea,eb]
 have sg:=fun (l:List Nat) (h:l.length<2^40) (hd:aZ (16777216:Nat) l)=>xV (g:=false) (l:=l) h hd
 simp only [Bool.false_eq_true,if_false] at sg
 obtain ⟨g,hg⟩:∃g,g=Nat.gcd x y:=⟨_,rfl⟩
 have eg:(.ag (zc (g:Int)):PV)=iz false (af g):=by rw [pq];rfl
 rw [←hg,eg]
 have lx:=Jj ha
 have ly:=Jj hb
 by_cases hs:(af x).size≤7∧(af y).size≤7
 · have small:∀n,(af n).size≤7→n<2^56:=by
     intro n hn
     have h1:=cz (b:=256) (n:=n) (by decide)
     rw [←lP] at h1
     have:256^(af n).size≤256^7:=Nat.pow_le_pow_right (by decide) hn
     omega
   have hx:=small x hs.1
   have hy:=small y hs.2
   have s1:=vv (z:=(x:Int)) (by simpa using hs.1)
   have s2:=vv (z:=(y:Int)) (by simpa using hs.2)
   rw [pq] at s1 s2
   have O9:g<2^63:=by
    rw [hg]
    rcases Nat.eq_zero_or_pos y with h0|h0
    · rw [h0,Nat.gcd_zero_right];omega
    · have:=Nat.gcd_le_right x h0;omega
   have Pf:=sB (n:=(g:Int)) (by omega) (by omega)
   rw [pq] at Pf
   have lp:=bR (show y+1≤y+2 by omega) (DB (y+2) y x)
   rw [←hg] at lp
   exact aj ah AR (by rfl) (gC (y+2) _ _ _ _ x y g false (af g)) ⟨v1,v2,decide_eq_true (by omega),decide_eq_true (by omega),s1,s2,lp,Pf,trivial⟩
 · rcases Nat.eq_zero_or_pos x with h0|h0
   · have hz:(af x).size=0:=by rw [h0];rfl
     have L5:g=0+y:=by rw [hg,h0,Nat.gcd_zero_left,Nat.zero_add]
     have d1:=nT (v:=0) (by decide)
     have d2:=nT hb
     have dp:=xT (a:=0) (b:=y) (by simp [dH]) ly
     have PU:=sg (dg (16777216:Nat) (0+y)) (by rw [Nat.zero_add];omega) (bU (by decide) _)
     rw [bP (by decide),pq] at PU
     rw [L5]
     subst h0
     exact aj ah F8 (by rfl) (Tw 1 _ _ _ _ _ _ _ _ _ _ _ _) ⟨v1,v2,decide_eq_true (by omega),decide_eq_false (by omega),d1,d2,rfl,dp,PU,trivial⟩
   · rcases Nat.eq_zero_or_pos y with k0|k0
     · have hz:(af y).size=0:=by rw [k0];rfl
       have Uq:g=x+0:=by rw [hg,k0,Nat.gcd_zero_right,Nat.add_zero]
       have d1:=nT ha
       have d2:=nT (v:=0) (by decide)
       have dp:=xT (a:=x) (b:=0) lx (by simp [dH])
       have PS:=sg (dg (16777216:Nat) (x+0)) (by rw [Nat.add_zero];omega) (bU (by decide) _)
       rw [bP (by decide),pq] at PS
       rw [Uq]
       subst k0
       have hne:(((dg (16777216:Nat) x).length:Int)==0)=false:=beq_false_of_ne (by
        have:=dw (b:=(16777216:Nat)) (by decide) h0
        rw [this];simp;omega)
       exact aj ah F8 (by rfl) (Tx 1 _ _ _ _ _ _ _ _ _ _ _ _) ⟨v1,v2,decide_eq_false (by omega),d1,d2,hne,rfl,dp,PS,trivial⟩
     · have d1:=AD ha h0
       have d2:=AD hb k0
       have o1:=kL h0 lx
       have o2:=kL k0 ly
       have Vq:=Nat.lt_of_le_of_lt (cY (b:=(16777216:Nat)) (by decide) (su h0)) lx
       have Vr:=Nat.lt_of_le_of_lt (cY (b:=(16777216:Nat)) (by decide) (su k0)) ly
       obtain ⟨k,hk⟩:∃k,k=od x+od y+tz x+tz y+5:=⟨_,rfl⟩
       have Fe:=bR (show od x+od y+1≤k by omega) (DA k (tz x:Nat) (tz y:Nat) (od x) (od y) (oz x) (oz y) _ _ (jn h0) (jn k0) Vq Vr (oU h0) (oU k0))
       have L4:=Kg h0 k0
       rw [←hg] at L4
       have Qt:g≤x:=by rw [hg];exact Nat.gcd_le_left y h0
       have lg:=Nat.lt_of_le_of_lt (cY (b:=(16777216:Nat)) (by decide) Qt) lx
       have Jn:=FK k (Nat.gcd (od x) (od y)) (tz x) (tz y) (JP h0 lx) (JP k0 ly) (by rw [←L4];exact lg) (by omega)
       unfold IM at Jn
       rw [←L4,Nat.pow_zero,Nat.one_mul] at Jn
       have NA:=sg (dg (16777216:Nat) g) (by omega) (bU (by decide) _)
       rw [bP (by decide),pq] at NA
       have hne:∀v,0<v→(((dg (16777216:Nat) v).length:Int)==0)=false:=fun v hv=>beq_false_of_ne (by
        have:=dw (b:=(16777216:Nat)) (by decide) hv
        rw [this];simp;omega)
       by_cases Yz:(af x).size≤7
       · exact aj ah AR (by rfl) (Ty k _ _ (oz x) (dg (16777216:Nat) (od x)).length (oz y) (dg (16777216:Nat) (od y)).length _ _ _ _ false (af x) (af y) (af g) (tz x:Nat) (tz y:Nat) (min (tz x) (tz y):Nat) _ _ ((gp x).map aE) ((gp y).map aE) _ _) ⟨v1,v2,decide_eq_true (by omega),decide_eq_false (by omega),d1,fS _,d2,fS _,hne x h0,hne y k0,o1,o2,Fe,Jn,NA,trivial⟩
       · exact aj ah AR (by rfl) (Tz k _ _ (oz x) (dg (16777216:Nat) (od x)).length (oz y) (dg (16777216:Nat) (od y)).length _ _ _ _ false (af x) (af y) (af g) (tz x:Nat) (tz y:Nat) (min (tz x) (tz y):Nat) _ _ ((gp x).map aE) ((gp y).map aE) _ _) ⟨v1,v2,decide_eq_false (by omega),d1,fS _,d2,fS _,hne x h0,hne y k0,o1,o2,Fe,Jn,NA,trivial⟩
end Go.Proofs.YtibbgjafjhcemaaGreatDoor.Cul
namespace Go.Proofs.YtibbgjafjhcemaaGreatDoor.Cul
open Go Go.RowKit
theorem bind_assoc' {α β γ:Type} (m:Sem α):∀(f:α→Sem β) (g:β→Sem γ),(m.bind f).bind g=m.bind fun a=>(f a).bind g:=by
 induction m with
 |pure a=>intro f g;rfl
 |halt h=>intro f g;rfl
 |_=>rename_i ih;intro f g;simp only [Sem.bind];first|(congr 1;funext x;exact ih x f g)|(congr 1;exact ih f g)
theorem J7 {P:Program} {d:Nat} {t:TypeId} {f g h:Field} {xs ys:Array Value} {a1 a2 a3 b1 b2 b3:Value} {c1 c2 c3:Bool}
  (hu:P.underlying t=some (.struct #[f,g,h])) (hh:P.stoodInHeld t=false) (hf:f.name≠ "_") (hg:g.name≠ "_") (hk:h.name≠ "_")
  (p1:aB P (part f.type xs f.offset)=some a1) (p2:aB P (part f.type ys f.offset)=some b1)
  (p3:aB P (part g.type xs g.offset)=some a2) (p4:aB P (part g.type ys g.offset)=some b2)
  (p5:aB P (part h.type xs h.offset)=some a3) (p6:aB P (part h.type ys h.offset)=some b3)
  (e1:aB P (Op.equalIn d f.type a1 b1)=some c1) (e2:aB P (Op.equalIn d g.type a2 b2)=some c2) (e3:aB P (Op.equalIn d h.type a3 b3)=some c3):
  aB P (Op.equalIn (d+1) t (.agg xs) (.agg ys))=some (c1&&(c2&&c3)):=by
 simp only [Op.equalIn,underlying,program,Bind.bind,Sem.bind,aB,hu,hh,pure,Pure.pure,Bool.false_eq_true,if_false]
 rw [←Array.forIn_toList]
 simp only [List.forIn_cons,List.forIn_nil,Bind.bind,pure,Pure.pure,hf,hg,hk,ne_eq,not_false_eq_true,if_true]
 simp only [bind_assoc']
 rw [aV p1,aV p2,aV e1]
 cases c1 with
 |false=>simp [Sem.bind,aB]
 |true=>
  simp only [Bool.not_true,Bool.false_eq_true,if_false,Sem.bind,bind_assoc']
  rw [aV p3,aV p4,aV e2]
  cases c2 with
  |false=>simp [Sem.bind,aB]
  |true=>
   simp only [Bool.not_true,Bool.false_eq_true,if_false,Sem.bind,bind_assoc']
   rw [aV p5,aV p6,aV e3]
   cases c3<;>simp [Sem.bind,aB]
theorem Lr {P:Program} {d:Nat} {t e:TypeId} {n:Nat} {xs ys:Array Value} {a0 a1 a2 a3 b0 b1 b2 b3:Value} {c0 c1 c2 c3:Bool}
  (hu:P.underlying t=some (.array 4 e)) (hn:aB P (sizeOf e)=some n)
  (p0:aB P (part e xs (0* n))=some a0) (q0:aB P (part e ys (0* n))=some b0)
  (p1:aB P (part e xs (1* n))=some a1) (q1:aB P (part e ys (1* n))=some b1)
  (p2:aB P (part e xs (2* n))=some a2) (q2:aB P (part e ys (2* n))=some b2)
  (p3:aB P (part e xs (3* n))=some a3) (q3:aB P (part e ys (3* n))=some b3)
  (e0:aB P (Op.equalIn d e a0 b0)=some c0) (e1:aB P (Op.equalIn d e a1 b1)=some c1) (e2:aB P (Op.equalIn d e a2 b2)=some c2) (e3:aB P (Op.equalIn d e a3 b3)=some c3):
  aB P (Op.equalIn (d+1) t (.agg xs) (.agg ys))=some (c0&&(c1&&(c2&&c3))):=by
 simp only [Op.equalIn,underlying,program,Bind.bind,Sem.bind,aB,hu,pure,Pure.pure,Bool.false_eq_true,if_false]
 rw [aV hn]
 simp only [Std.Legacy.Range.forIn_eq_forIn_range',Std.Legacy.Range.size,Nat.sub_zero,Nat.add_sub_cancel,Nat.div_one,List.range',List.forIn_cons,List.forIn_nil,Bind.bind,pure,Pure.pure,Nat.zero_add,Nat.reduceAdd]
 simp only [bind_assoc']
 rw [aV p0,aV q0,aV e0]
 cases c0 with
 |false=>simp [Sem.bind,aB]
 |true=>
  simp only [Bool.not_true,Bool.false_eq_true,if_false,Sem.bind,bind_assoc']
  rw [aV p1,aV q1,aV e1]
  cases c1 with
  |false=>simp [Sem.bind,aB]
  |true=>
   simp only [Bool.not_true,Bool.false_eq_true,if_false,Sem.bind,bind_assoc']
   rw [aV p2,aV q2,aV e2]
   cases c2 with
   |false=>simp [Sem.bind,aB]
   |true=>
    simp only [Bool.not_true,Bool.false_eq_true,if_false,Sem.bind,bind_assoc']
    rw [aV p3,aV q3,aV e3]
    cases c3<;>simp [Sem.bind,aB]
end Go.Proofs.YtibbgjafjhcemaaGreatDoor.Cul
namespace Go.Proofs.YtibbgjafjhcemaaGreatDoor.Cul
open Go Go.RowKit
structure RI where
 g:Bool
 s:ByteArray
def RI.cells (r:RI):List PV:=[bv r.g,sv r.s]
def RI.vals (r:RI):List Value:=[.bool r.g, .string r.s]
def RI.zero:RI:=⟨false,⟨#[]⟩⟩
structure an where
 c0:RI
 c1:RI
 c2:RI
 c3:RI
 d:RI
def an.cells (x:an):List PV:=x.c0.cells++x.c1.cells++x.c2.cells++x.c3.cells++x.d.cells
def an.ux (x:an):List Value:=x.c0.vals++x.c1.vals++x.c2.vals++x.c3.vals
def an.vals (x:an):List Value:=x.ux++x.d.vals
def an.zero:an:=⟨.zero, .zero, .zero, .zero, .zero⟩
structure aP where
 x:an
 y:an
 z:an
def aP.cells (v:aP):List PV:=v.x.cells++v.y.cells++v.z.cells
def aP.vals (v:aP):List Value:=v.x.vals++v.y.vals++v.z.vals
def aP.zero:aP:=⟨.zero, .zero, .zero⟩
structure fT where
 n:aP
 d:an
def fT.cells (p:fT):List PV:=p.n.cells++p.d.cells
def fT.vals (p:fT):List Value:=p.n.vals++p.d.vals
def fT.zero:fT:=⟨.zero, .zero⟩
structure fD where
 h:Int
 v:Int
 i:Int
def fD.cells (s:fD):List PV:=[iv s.h,iv s.v,iv s.i]
def fD.vals (s:fD):List Value:=[.int .i64 s.h, .int .i64 s.v, .int .i64 s.i]
def fD.zero:fD:=⟨0,0,0⟩
def RI.dO (a b:RI):Bool:=(a.g==b.g)&&(a.s==b.s)
def an.dO (a b:an):Bool:=(a.c0.dO b.c0&&(a.c1.dO b.c1&&(a.c2.dO b.c2&&a.c3.dO b.c3)))&&a.d.dO b.d
def aP.dO (a b:aP):Bool:=a.x.dO b.x&&(a.y.dO b.y&&a.z.dO b.z)
def fT.dO (a b:fT):Bool:=a.n.dO b.n&&a.d.dO b.d
def fD.dO (a b:fD):Bool:=(a.h==b.h)&&((a.v==b.v)&&(a.i==b.i))
theorem Lf {u v:ByteArray}:(u==v)=true↔u=v:=by
 rw [beq_toList]
 constructor
 · intro h;exact ByteArray.ext (by simpa using h)
 · intro h;subst h;simp
theorem RI.fG {a b:RI}:a.dO b=true↔a=b:=by
 obtain ⟨g,s⟩:=a;obtain ⟨g',s'⟩:=b
 simp only [RI.dO,Bool.and_eq_true,Lf,beq_iff_eq,RI.mk.injEq]
theorem an.fG {a b:an}:a.dO b=true↔a=b:=by
 obtain ⟨a0,a1,a2,a3,a4⟩:=a;obtain ⟨b0,b1,b2,b3,b4⟩:=b
 simp only [an.dO,Bool.and_eq_true,RI.fG,an.mk.injEq,and_assoc]
theorem aP.fG {a b:aP}:a.dO b=true↔a=b:=by
 obtain ⟨a0,a1,a2⟩:=a;obtain ⟨b0,b1,b2⟩:=b
 simp only [aP.dO,Bool.and_eq_true,an.fG,aP.mk.injEq]
theorem fT.fG {a b:fT}:a.dO b=true↔a=b:=by
 obtain ⟨a0,a1⟩:=a;obtain ⟨b0,b1⟩:=b
 simp only [fT.dO,Bool.and_eq_true,aP.fG,an.fG,fT.mk.injEq]
theorem fD.fG {a b:fD}:a.dO b=true↔a=b:=by
 obtain ⟨a0,a1,a2⟩:=a;obtain ⟨b0,b1,b2⟩:=b
 simp only [fD.dO,Bool.and_eq_true,beq_iff_eq,fD.mk.injEq]
theorem JQ:MD.P.underlying 24=some (TypeDesc.array 4 23):=by kernel_rfl
theorem JR:MD.P.underlying 26=some (TypeDesc.struct #[Field.mk "C" 24 0 false "" "" 0,Field.mk "D" 23 8 false "" "" 96]):=by kernel_rfl
theorem JS:MD.P.underlying 28=some (TypeDesc.struct #[Field.mk "X" 26 0 false "" "" 0,Field.mk "Y" 26 10 false "" "" 120,Field.mk "Z" 26 20 false "" "" 240]):=by kernel_rfl
theorem LW:MD.P.stoodInHeld 26=false:=by kernel_rfl
theorem LX:MD.P.stoodInHeld 28=false:=by kernel_rfl
theorem oE (d:Nat) (a b:RI):aB MD.P (Op.equalIn (d+1+1) 23 (.agg a.vals.toArray) (.agg b.vals.toArray))=some (a.dO b):=
 y7 (a1:= .bool a.g) (b1:= .bool b.g) (a2:= .string a.s) (b2:= .string b.s) DS EE (by decide) (by decide) (by kernel_rfl) (by kernel_rfl) (by kernel_rfl) (by kernel_rfl) (by kernel_rfl) (by kernel_rfl)
theorem Ls (d:Nat) (a b:an):aB MD.P (Op.equalIn (d+1+1+1) 24 (.agg a.ux.toArray) (.agg b.ux.toArray))=some (a.c0.dO b.c0&&(a.c1.dO b.c1&&(a.c2.dO b.c2&&a.c3.dO b.c3))):=
 Lr (n:=2) (a0:= .agg a.c0.vals.toArray) (a1:= .agg a.c1.vals.toArray) (a2:= .agg a.c2.vals.toArray) (a3:= .agg a.c3.vals.toArray) (b0:= .agg b.c0.vals.toArray) (b1:= .agg b.c1.vals.toArray) (b2:= .agg b.c2.vals.toArray) (b3:= .agg b.c3.vals.toArray) JQ (by kernel_rfl)
  (by kernel_rfl) (by kernel_rfl) (by kernel_rfl) (by kernel_rfl) (by kernel_rfl) (by kernel_rfl) (by kernel_rfl) (by kernel_rfl) (oE d _ _) (oE d _ _) (oE d _ _) (oE d _ _)
theorem uC (d:Nat) (a b:an):aB MD.P (Op.equalIn (d+1+1+1+1) 26 (.agg a.vals.toArray) (.agg b.vals.toArray))=some (a.dO b):=
 y7 (a1:= .agg a.ux.toArray) (b1:= .agg b.ux.toArray) (a2:= .agg a.d.vals.toArray) (b2:= .agg b.d.vals.toArray) JR LW (by decide) (by decide) (by kernel_rfl) (by kernel_rfl) (by kernel_rfl) (by kernel_rfl) (Ls d _ _) (oE (d+1) _ _)
theorem Lt (d:Nat) (a b:aP):aB MD.P (Op.equalIn (d+1+1+1+1+1) 28 (.agg a.vals.toArray) (.agg b.vals.toArray))=some (a.dO b):=
 J7 (a1:= .agg a.x.vals.toArray) (b1:= .agg b.x.vals.toArray) (a2:= .agg a.y.vals.toArray) (b2:= .agg b.y.vals.toArray) (a3:= .agg a.z.vals.toArray) (b3:= .agg b.z.vals.toArray) JS LX (by decide) (by decide) (by decide)
  (by kernel_rfl) (by kernel_rfl) (by kernel_rfl) (by kernel_rfl) (by kernel_rfl) (by kernel_rfl) (uC d _ _) (uC d _ _) (uC d _ _)
theorem wk {t:TypeId} {x y:Operand} {xs ys:Array Value} {c:Bool} (hg:aB MD.P (eqGuard .eql t x y (.agg xs) (.agg ys))=some ()) (h:aB MD.P (Op.equalIn (9999+1) t (.agg xs) (.agg ys))=some c):jx MD.P .eql t x y (.agg xs) (.agg ys) c:=by
 show (aB MD.P ((eqGuard .eql t x y (.agg xs) (.agg ys)).bind fun _=>binOp .eql t (.agg xs) (.agg ys))).bind iM=some (.lit (.bool c))
 rw [aV hg]
 show (aB MD.P ((Op.equalIn (9999+1) t (.agg xs) (.agg ys)).bind fun r=> .pure (.bool r))).bind iM=some (.lit (.bool c))
 rw [aV h];rfl
theorem wh {m n:Nat} {a b:RI} {c:Bool} (h:a.dO b=c):jx MD.P .eql 23 (.tmp m) (.tmp n) (.agg a.vals.toArray) (.agg b.vals.toArray) c:=by subst h;exact wk (by kernel_rfl) (oE 9998 a b)
theorem y6 {m n:Nat} {a b:aP} {c:Bool} (h:a.dO b=c):jx MD.P .eql 28 (.tmp m) (.tmp n) (.agg a.vals.toArray) (.agg b.vals.toArray) c:=by subst h;exact wk (by kernel_rfl) (Lt 9995 a b)
end Go.Proofs.YtibbgjafjhcemaaGreatDoor.Cul
namespace Go.Proofs.YtibbgjafjhcemaaGreatDoor.Cul
open Go Go.RowKit Go.ChangeShapes Go.WideShapes Go.ChangeAt
def PT (P:Program) (C:List Value→Prop) (t:TypeId):Prop:=
 ∀(H:Type) (enc:TypeId×Value→H) (fuel:Nat) (w:World) (base:Nat) (sp:Nat→Bool) (held:Bool) (cs:List Value) (d:DataW H) (ps:List MemPlace),
  DataW.trod enc P w base sp held fuel t cs=some (d,ps)→C cs∧ps=[]∧∀(w':World) (base':Nat) (sp':Nat→Bool) (held':Bool),DataW.trod enc P w' base' sp' held' fuel t cs=some (d,[])
section
variable {P:Program}
theorem KD {t:TypeId} (ht:P.underlying t=some .bool):PT P (fun cs=>∃b,cs=[.bool b]) t:=by
 intro H enc fuel w base sp held cs d ps h
 cases fuel with
 |zero=>simp [DataW.trod] at h
 |succ fuel=>
  simp only [DataW.trod,ht] at h ⊢
  split at h<;>simp_all
theorem Fx {t:TypeId} (ht:P.underlying t=some .string):PT P (fun cs=>∃s,cs=[.string s]) t:=by
 intro H enc fuel w base sp held cs d ps h
 cases fuel with
 |zero=>simp [DataW.trod] at h
 |succ fuel=>
  simp only [DataW.trod,ht] at h ⊢
  split at h<;>simp_all
theorem pZ {α H:Type} {f:α→Option (DataW H×List MemPlace)} {g:α→Option (DataW H×List MemPlace)} {Q:α→Prop}:∀(l:List α) (xs:List (DataW H×List MemPlace)),(∀a∈l,∀d ps,f a=some (d,ps)→Q a∧ps=[]∧g a=some (d,[]))→l.mapM f=some xs→(∀a∈l,Q a)∧xs.flatMap (·.2)=[]∧l.mapM g=some xs
 |[],xs,_,h=>by simp at h;subst h;simp
 |a::l,xs,hl,h=>by
  simp only [List.mapM_cons,Option.bind_eq_bind,Option.bind_eq_some_iff,Option.pure_def,Option.some.injEq] at h
  obtain ⟨⟨d,ps⟩,h1,ys,h2,rfl⟩:=h
  obtain ⟨q,rfl,hg⟩:=hl a (by simp) d ps h1
  obtain ⟨q2,e2,oL⟩:=pZ l ys (fun b hb=>hl b (by simp [hb])) h2
  refine ⟨fun b hb=> ?_,by simp [e2], ?_⟩
  · rcases List.mem_cons.1 hb with rfl|hb
    · exact q
    · exact q2 b hb
  · simp only [List.mapM_cons,Option.bind_eq_bind,Option.bind_eq_some_iff,Option.pure_def]
    exact ⟨_,hg,ys,oL,rfl⟩
theorem rG {t:TypeId} {fs:Array Field} {C:TypeId→List Value→Prop} (ht:P.underlying t=some (.struct fs)) (hf:∀f∈fs.toList,PT P (C f.type) f.type):
  PT P (fun cs=>cs.length=P.cellsOf t∧∀f∈fs.toList,C f.type ((cs.drop f.offset).take (P.cellsOf f.type))) t:=by
 intro H enc fuel w base sp held cs d ps h
 cases fuel with
 |zero=>simp [DataW.trod] at h
 |succ fuel=>
  simp only [DataW.trod,ht] at h ⊢
  split at h
  · rename_i hl
    simp only [Option.map_eq_some_iff,Prod.mk.injEq] at h
    obtain ⟨xs,hx,rfl,rfl⟩:=h
    have key:=fun (w':World) (base':Nat) (sp':Nat→Bool) (held':Bool)=>pZ (Q:=fun f:Field=>C f.type ((cs.drop f.offset).take (P.cellsOf f.type))) (g:=fun f=>DataW.trod enc P w' base' sp' held' fuel f.type ((cs.drop f.offset).take (P.cellsOf f.type))) fs.toList xs (fun f hf' d ps h=>by
     obtain ⟨h1,h2,h3⟩:=hf f hf' H enc fuel w base sp held _ d ps h
     exact ⟨h1,h2,h3 w' base' sp' held'⟩) hx
    refine ⟨⟨hl,(key w base sp held).1⟩,(key w base sp held).2.1,fun w' base' sp' held'=> ?_⟩
    rw [if_pos hl,(key w' base' sp' held').2.2]
    simp [(key w base sp held).2.1]
  · simp at h
theorem HR {t e:TypeId} {n:Nat} {C:List Value→Prop} (ht:P.underlying t=some (.array n e)) (he:PT P C e):
  PT P (fun cs=>cs.length=P.cellsOf t∧∀i∈List.range n,C ((cs.drop (i* P.cellsOf e)).take (P.cellsOf e))) t:=by
 intro H enc fuel w base sp held cs d ps h
 cases fuel with
 |zero=>simp [DataW.trod] at h
 |succ fuel=>
  simp only [DataW.trod,ht] at h ⊢
  split at h
  · rename_i hl
    simp only [Option.map_eq_some_iff,Prod.mk.injEq] at h
    obtain ⟨xs,hx,rfl,rfl⟩:=h
    have key:=fun (w':World) (base':Nat) (sp':Nat→Bool) (held':Bool)=>pZ (Q:=fun i:Nat=>C ((cs.drop (i* P.cellsOf e)).take (P.cellsOf e))) (g:=fun i=>DataW.trod enc P w' base' sp' held' fuel e ((cs.drop (i* P.cellsOf e)).take (P.cellsOf e))) (List.range n) xs (fun i _ d ps h=>by
     obtain ⟨h1,h2,h3⟩:=he H enc fuel w base sp held _ d ps h
     exact ⟨h1,h2,h3 w' base' sp' held'⟩) hx
    refine ⟨⟨hl,(key w base sp held).1⟩,(key w base sp held).2.1,fun w' base' sp' held'=> ?_⟩
    rw [if_pos hl,(key w' base' sp' held').2.2]
    simp [(key w base sp held).2.1]
  · simp at h
theorem PT.weak {C D:List Value→Prop} {t:TypeId} (h:PT P C t) (hc:∀cs,C cs→D cs):PT P D t:=fun H enc fuel w base sp held cs d ps hh=>by
 obtain ⟨h1,h2,h3⟩:=h H enc fuel w base sp held cs d ps hh
 exact ⟨hc _ h1,h2,h3⟩
end
theorem Sa:MD.P.underlying 4=some .bool:=by kernel_rfl
theorem OJ:MD.P.underlying 9=some .string:=by kernel_rfl
theorem Sn:MD.P.cellsOf 4=1:=by kernel_rfl
theorem So:MD.P.cellsOf 9=1:=by kernel_rfl
theorem GH:MD.P.cellsOf 23=2:=by kernel_rfl
theorem Lj:MD.P.cellsOf 24=8:=by kernel_rfl
theorem Ll:MD.P.cellsOf 26=10:=by kernel_rfl
theorem Qc:MD.P.cellsOf 28=30:=by kernel_rfl
theorem MK {α:Type} {l:List α} (h:l.length=2):∃a b,l=[a,b]:=by
 match l,h with
 |[a,b],_=>exact ⟨a,b,rfl⟩
theorem Ng:PT MD.P (fun cs=>∃r:RI,cs=r.vals) 23:=by
 refine (rG (C:=fun t cs=>if t=4 then ∃b,cs=[.bool b] else ∃s,cs=[.string s]) DS ?_).weak ?_
 · intro f hf
   simp only [List.mem_cons,List.not_mem_nil,or_false] at hf
   rcases hf with rfl|rfl
   · exact KD Sa
   · exact Fx OJ
 · rintro cs ⟨hl,h⟩
   rw [GH] at hl
   obtain ⟨a,b,rfl⟩:=MK hl
   have h1:=h _ (.head _)
   have h2:=h _ (.tail _ (.head _))
   simp only [Sn,So,if_true,show ¬(9:Nat)=4 by decide,if_false] at h1 h2
   obtain ⟨x,hx⟩:=h1
   obtain ⟨y,hy⟩:=h2
   simp at hx hy
   exact ⟨⟨x,y⟩,by rw [hx,hy];rfl⟩
theorem RC:PT MD.P (fun cs=>∃a b c d:RI,cs=a.vals++b.vals++c.vals++d.vals) 24:=by
 refine (HR JQ Ng).weak ?_
 rintro cs ⟨hl,h⟩
 rw [Lj] at hl
 simp only [GH] at h
 obtain ⟨a,ha⟩:=h 0 (by decide)
 obtain ⟨b,hb⟩:=h 1 (by decide)
 obtain ⟨c,hc⟩:=h 2 (by decide)
 obtain ⟨d,hd⟩:=h 3 (by decide)
 refine ⟨a,b,c,d, ?_⟩
 rw [←ha,←hb,←hc,←hd]
 match cs,hl with
 |[x0,x1,x2,x3,x4,x5,x6,x7],_=>rfl
theorem RD:PT MD.P (fun cs=>∃x:an,cs=x.vals) 26:=by
 refine (rG (C:=fun t cs=>if t=24 then ∃a b c d:RI,cs=a.vals++b.vals++c.vals++d.vals else ∃r:RI,cs=r.vals) JR ?_).weak ?_
 · intro f hf
   simp only [List.mem_cons,List.not_mem_nil,or_false] at hf
   rcases hf with rfl|rfl
   · exact RC
   · exact Ng
 · rintro cs ⟨hl,h⟩
   rw [Ll] at hl
   have h1:=h _ (.head _)
   have h2:=h _ (.tail _ (.head _))
   simp only [Lj,GH,if_true,show ¬(23:Nat)=24 by decide,if_false,List.drop_zero] at h1 h2
   obtain ⟨a,b,c,d,hx⟩:=h1
   obtain ⟨e,hy⟩:=h2
   refine ⟨⟨a,b,c,d,e⟩, ?_⟩
   show cs=(a.vals++b.vals++c.vals++d.vals)++e.vals
   rw [←hx,←hy,List.take_of_length_le (l:=cs.drop 8) (by simp;omega),List.take_append_drop]
theorem RE:PT MD.P (fun cs=>∃v:aP,cs=v.vals) 28:=by
 refine (rG (C:=fun _ cs=>∃x:an,cs=x.vals) JS ?_).weak ?_
 · intro f hf
   simp only [List.mem_cons,List.not_mem_nil,or_false] at hf
   rcases hf with rfl|rfl|rfl<;>exact RD
 · rintro cs ⟨hl,h⟩
   rw [Qc] at hl
   have h1:=h _ (.head _)
   have h2:=h _ (.tail _ (.head _))
   have h3:=h _ (.tail _ (.tail _ (.head _)))
   simp only [Ll,List.drop_zero] at h1 h2 h3
   obtain ⟨a,ha⟩:=h1
   obtain ⟨b,hb⟩:=h2
   obtain ⟨c,hc⟩:=h3
   refine ⟨⟨a,b,c⟩, ?_⟩
   show cs=a.vals++b.vals++c.vals
   rw [←ha,←hb,←hc,List.take_of_length_le (l:=cs.drop 20) (by simp;omega),List.append_assoc]
   have e:cs.drop 20=(cs.drop 10).drop 10:=by rw [List.drop_drop]
   rw [e,List.take_append_drop,List.take_append_drop]
def dI (H:Type):DataW H:= .agg [.lit (.bool false), .lit (.string [])]
def dN (H:Type):DataW H:= .agg [.agg [dI H,dI H,dI H,dI H],dI H]
def dV (H:Type):DataW H:= .agg [dN H,dN H,dN H]
theorem PT.open {P:Program} {C:List Value→Prop} {t:TypeId} (h:PT P C t) (ht:ep P t=true) {w:World} {r:Reach} {b0:Nat} {v:Value} (hv:Value.okWide P w r b0 t v)
  {H:Type} {enc:TypeId×Value→H} {base:Nat} {sp:Nat→Bool} {held:Bool} {d:DataW H} {ps:List MemPlace} (hd:DataW.Trod enc P w base sp held t v d ps):
  (∃cs,v= .agg cs∧C cs.toList)∧ps=[]∧∀(w':World) (base':Nat) (sp':Nat→Bool) (held':Bool),DataW.Trod enc P w' base' sp' held' t v d []:=by
 obtain ⟨fuel,hf⟩:=hd
 obtain ⟨h1,h2,h3⟩:=h H enc fuel w base sp held _ d ps hf
 refine ⟨?_,h2,fun w' base' sp' held'=>⟨fuel,h3 w' base' sp' held'⟩⟩
 unfold Value.okWide at hv
 unfold ep at ht
 split at ht
 · rename_i fs hu;rw [hu] at hv;obtain ⟨cs,rfl,_⟩:=hv;exact ⟨cs,rfl,h1⟩
 · rename_i n e hu;rw [hu] at hv;obtain ⟨cs,rfl,_⟩:=hv;exact ⟨cs,rfl,h1⟩
 · simp at ht
theorem Oy:ep MD.P 28=true:=by kernel_rfl
theorem Nu (w:World) (Pr:aC) (v:aP):Rp w Pr (.ag v.cells) (.agg v.vals.toArray):=sA (by kernel_rfl)
end Go.Proofs.YtibbgjafjhcemaaGreatDoor.Cul
namespace Go.Proofs.YtibbgjafjhcemaaGreatDoor.Cul
open Go Go.RowKit Go.ChangeShapes Go.WideShapes Go.ChangeAt
open Go.Proofs Go.Proofs.YtibbgjafjhcemaaGreatDoor
theorem E4 {f:Nat} {PK:List PV} (h:az P0 f PK (one (bv true))) (W:World) (Pr:aC) (hp:∀b o,Pr b o→b<W.heap.size) {vs:List Value} (hr:aM W Pr PK vs):
  Calls Tryz.prog f vs.toArray W fun e W'=>e= .returned (.bool true)∧Below W.heap.size W W':=
 (h.2 vs W Pr hp hr).mono fun e W' ⟨v,aD,he,dX⟩=>by
   have:=dX.rp
   cases this
   exact ⟨he,dX.fw.gB⟩
end Go.Proofs.YtibbgjafjhcemaaGreatDoor.Cul
namespace Go.Proofs.YtibbgjafjhcemaaGreatDoor.Cul
open Go Go.RowKit
noncomputable def t30:Cl:=bM [(147,qG),(146,js)]
noncomputable def t31:Cl:=bM [(149,rN),(146,js)]
theorem Sh (k n m r:Nat) (c:Int) (cs ds cs0 es fs gs:List PV) (p:PV):aA MD t30 k 100 [.sl 1 n cs, .sl 1 m ds] [.c false, .i 19 (n+1:Nat), .c false, .f cs0, .l (.exit 0) ⟨[(0, .pv (.sl 1 n cs)),(1, .pv (.sl 1 m ds)),(5, .bs 20 0 1 (n+1)),(6, .pv (.lit (.int .u32 c))),(21, .pv (.sl 1 n cs)),(22, .pv (iv n)),(23, .pv (iv n)),(24, .pv (bv false))],[(20,es)],[],[]⟩, .j 51 n, .s fs, .f gs, .r (one p)]=
 some (RV.mk p none,[decide ((↑n:Int)<(↑m:Int))=false,IntKind.i64.wrap ((↑n:Int)+(1:Int))=(↑(n+(1:Nat)):Int),(0:Int)≤(↑(n+(1:Nat)):Int)∧(↑(n+(1:Nat)):Int)≤(↑(n+(1:Nat)):Int)∧(↑(n+(1:Nat)):Int)* (↑(MD.P.bytesOf (150:Nat)):Int)≤(↑room:Int)∧(↑(n+(1:Nat)):Int)≤(↑room:Int),decide ((↑(n+(1:Nat)):Int)=(0:Int))=false,fC [PV.lit (Value.int IntKind.u32 (0:Int))] (↑(n+(1:Nat)):Int).toNat cs0,aX MD t30 k (100:Nat) (0:Nat) (St.mk [(0,AV.pv (PV.sl 1 n cs)),(1,AV.pv (PV.sl 1 m ds)),(5,AV.bs 20 0 1 (↑(n+(1:Nat)):Int).toNat),(6,AV.pv (PV.lit (Value.int IntKind.u32 (0:Int)))),(21,AV.pv (PV.sl 1 n cs)),(22,AV.pv (PV.lit (Value.int IntKind.i64 (↑n:Int)))),(23,AV.pv (PV.lit (Value.int IntKind.i64 (0:Int))))] [(20,cs0)] [] []) (Xt.exit 0) (St.mk [(0,AV.pv (PV.sl 1 n cs)),(1,AV.pv (PV.sl 1 m ds)),(5,AV.bs 20 0 1 (n+1)),(6,AV.pv (PV.lit (Value.int IntKind.u32 c))),(21,AV.pv (PV.sl 1 n cs)),(22,AV.pv (PV.lit (Value.int IntKind.i64 (↑n:Int)))),(23,AV.pv (PV.lit (Value.int IntKind.i64 (↑n:Int)))),(24,AV.pv (PV.lit (Value.bool false)))] [(20,es)] [] []),aJ (↑n:Int) (n+1) n,0+n* 1+1≤es.length,bZ es (0+n* 1) [PV.lit (Value.int IntKind.u32 c)] fs,cF fs 0 ((n+1)* 1) gs,aa t30 146 [PV.sl 1 (n+1) gs] (RV.mk p none)]):=by kernel_rfl
theorem Sj (k n m r:Nat) (c:Int) (cs ds cs0 es fs gs:List PV) (p:PV):aA MD t30 k 100 [.sl 1 m ds, .sl 1 n cs] [.c true, .i 19 (n+1:Nat), .c false, .f cs0, .l (.exit 0) ⟨[(0, .pv (.sl 1 n cs)),(1, .pv (.sl 1 m ds)),(5, .bs 20 0 1 (n+1)),(6, .pv (.lit (.int .u32 c))),(21, .pv (.sl 1 n cs)),(22, .pv (iv n)),(23, .pv (iv n)),(24, .pv (bv false))],[(20,es)],[],[]⟩, .j 51 n, .s fs, .f gs, .r (one p)]=
 some (RV.mk p none,[decide ((↑m:Int)<(↑n:Int))=true,IntKind.i64.wrap ((↑n:Int)+(1:Int))=(↑(n+(1:Nat)):Int),(0:Int)≤(↑(n+(1:Nat)):Int)∧(↑(n+(1:Nat)):Int)≤(↑(n+(1:Nat)):Int)∧(↑(n+(1:Nat)):Int)* (↑(MD.P.bytesOf (150:Nat)):Int)≤(↑room:Int)∧(↑(n+(1:Nat)):Int)≤(↑room:Int),decide ((↑(n+(1:Nat)):Int)=(0:Int))=false,fC [PV.lit (Value.int IntKind.u32 (0:Int))] (↑(n+(1:Nat)):Int).toNat cs0,aX MD t30 k (100:Nat) (0:Nat) (St.mk [(0,AV.pv (PV.sl 1 n cs)),(1,AV.pv (PV.sl 1 m ds)),(5,AV.bs 20 0 1 (↑(n+(1:Nat)):Int).toNat),(6,AV.pv (PV.lit (Value.int IntKind.u32 (0:Int)))),(21,AV.pv (PV.sl 1 n cs)),(22,AV.pv (PV.lit (Value.int IntKind.i64 (↑n:Int)))),(23,AV.pv (PV.lit (Value.int IntKind.i64 (0:Int))))] [(20,cs0)] [] []) (Xt.exit 0) (St.mk [(0,AV.pv (PV.sl 1 n cs)),(1,AV.pv (PV.sl 1 m ds)),(5,AV.bs 20 0 1 (n+1)),(6,AV.pv (PV.lit (Value.int IntKind.u32 c))),(21,AV.pv (PV.sl 1 n cs)),(22,AV.pv (PV.lit (Value.int IntKind.i64 (↑n:Int)))),(23,AV.pv (PV.lit (Value.int IntKind.i64 (↑n:Int)))),(24,AV.pv (PV.lit (Value.bool false)))] [(20,es)] [] []),aJ (↑n:Int) (n+1) n,0+n* 1+1≤es.length,bZ es (0+n* 1) [PV.lit (Value.int IntKind.u32 c)] fs,cF fs 0 ((n+1)* 1) gs,aa t30 146 [PV.sl 1 (n+1) gs] (RV.mk p none)]):=by kernel_rfl
theorem P8 (k n m i c x y s d:Nat) (cs ds es es':List PV):ay MD t30 k 100 0 ⟨[(0, .pv (.sl 1 n cs)),(1, .pv (.sl 1 m ds)),(5, .bs 20 0 1 (n+1)),(6, .pv (ai c)),(21, .pv (.sl 1 n cs)),(22, .pv (iv n)),(23, .pv (iv i))],[(20,es)],[],[]⟩ [.c true, .a 26 [ai x], .c true, .a 34 [ai y], .r (one (.aQ [ai s,ai d])), .j 45 i, .s es', .i 46 (i+1:Nat)]=
 some ((Xt.normal,St.mk [(0,AV.pv (PV.sl 1 n cs)),(1,AV.pv (PV.sl 1 m ds)),(5,AV.bs 20 0 1 (n+1)),(6,AV.pv (PV.lit (Value.int IntKind.u32 (↑d:Int)))),(21,AV.pv (PV.sl 1 n cs)),(22,AV.pv (PV.lit (Value.int IntKind.i64 (↑n:Int)))),(23,AV.pv (PV.lit (Value.int IntKind.i64 (↑(i+(1:Nat)):Int))))] [(20,es')] [] []),[],[decide ((↑i:Int)<(↑n:Int))=true,aK cs 1 (↑i:Int) n [PV.lit (Value.int IntKind.u32 (↑x:Int))],decide ((↑i:Int)<(↑m:Int))=true,aK ds 1 (↑i:Int) m [PV.lit (Value.int IntKind.u32 (↑y:Int))],aa t30 147 [PV.lit (Value.int IntKind.u32 (↑x:Int)),PV.lit (Value.int IntKind.u32 (↑y:Int)),PV.lit (Value.int IntKind.u32 (↑c:Int))] (RV.mk (PV.aQ [PV.lit (Value.int IntKind.u32 (↑s:Int)),PV.lit (Value.int IntKind.u32 (↑d:Int))]) none),aJ (↑i:Int) (n+1) i,0+i* 1+1≤es.length,bZ es (0+i* 1) [PV.lit (Value.int IntKind.u32 (↑s:Int))] es',IntKind.i64.wrap ((↑i:Int)+(1:Int))=(↑(i+(1:Nat)):Int)]):=by kernel_rfl
theorem P9 (k n m i c x s d:Nat) (cs ds es es':List PV):ay MD t30 k 100 0 ⟨[(0, .pv (.sl 1 n cs)),(1, .pv (.sl 1 m ds)),(5, .bs 20 0 1 (n+1)),(6, .pv (ai c)),(21, .pv (.sl 1 n cs)),(22, .pv (iv n)),(23, .pv (iv i))],[(20,es)],[],[]⟩ [.c true, .a 26 [ai x], .c false, .r (one (.aQ [ai s,ai d])), .j 45 i, .s es', .i 46 (i+1:Nat)]=
 some ((Xt.normal,St.mk [(0,AV.pv (PV.sl 1 n cs)),(1,AV.pv (PV.sl 1 m ds)),(5,AV.bs 20 0 1 (n+1)),(6,AV.pv (PV.lit (Value.int IntKind.u32 (↑d:Int)))),(21,AV.pv (PV.sl 1 n cs)),(22,AV.pv (PV.lit (Value.int IntKind.i64 (↑n:Int)))),(23,AV.pv (PV.lit (Value.int IntKind.i64 (↑(i+(1:Nat)):Int))))] [(20,es')] [] []),[],[decide ((↑i:Int)<(↑n:Int))=true,aK cs 1 (↑i:Int) n [PV.lit (Value.int IntKind.u32 (↑x:Int))],decide ((↑i:Int)<(↑m:Int))=false,aa t30 147 [PV.lit (Value.int IntKind.u32 (↑x:Int)),PV.lit (Value.int IntKind.u32 (0:Int)),PV.lit (Value.int IntKind.u32 (↑c:Int))] (RV.mk (PV.aQ [PV.lit (Value.int IntKind.u32 (↑s:Int)),PV.lit (Value.int IntKind.u32 (↑d:Int))]) none),aJ (↑i:Int) (n+1) i,0+i* 1+1≤es.length,bZ es (0+i* 1) [PV.lit (Value.int IntKind.u32 (↑s:Int))] es',IntKind.i64.wrap ((↑i:Int)+(1:Int))=(↑(i+(1:Nat)):Int)]):=by kernel_rfl
theorem Qa (k n m i c:Nat) (cs ds es:List PV):ay MD t30 k 100 0 ⟨[(0, .pv (.sl 1 n cs)),(1, .pv (.sl 1 m ds)),(5, .bs 20 0 1 (n+1)),(6, .pv (ai c)),(21, .pv (.sl 1 n cs)),(22, .pv (iv n)),(23, .pv (iv i))],[(20,es)],[],[]⟩ [.c false]=
 some ((Xt.exit 0,St.mk [(0,AV.pv (PV.sl 1 n cs)),(1,AV.pv (PV.sl 1 m ds)),(5,AV.bs 20 0 1 (n+1)),(6,AV.pv (PV.lit (Value.int IntKind.u32 (↑c:Int)))),(21,AV.pv (PV.sl 1 n cs)),(22,AV.pv (PV.lit (Value.int IntKind.i64 (↑n:Int)))),(23,AV.pv (PV.lit (Value.int IntKind.i64 (↑i:Int)))),(24,AV.pv (PV.lit (Value.bool false)))] [(20,es)] [] []),[],[decide ((↑i:Int)<(↑n:Int))=false]):=by kernel_rfl
theorem Vb (k n m r:Nat) (c:Int) (cs ds cs0 es fs gs:List PV) (p:PV):aA MD t31 k 103 [.sl 1 n cs, .sl 1 m ds] [.c false, .f cs0, .l (.exit 0) ⟨[(1, .pv (.sl 1 m ds)),(5, .bs 12 0 1 n),(6, .pv (.lit (.int .u32 c))),(13, .pv (.sl 1 n cs)),(14, .pv (iv n)),(15, .pv (iv n)),(16, .pv (bv false))],[(12,es)],[],[]⟩, .f gs, .r (one p)]=
 some (RV.mk p none,[(0:Int)≤(↑n:Int)∧(↑n:Int)≤(↑n:Int)∧(↑n:Int)* (↑(MD.P.bytesOf (150:Nat)):Int)≤(↑room:Int)∧(↑n:Int)≤(↑room:Int),decide ((↑n:Int)=(0:Int))=false,fC [PV.lit (Value.int IntKind.u32 (0:Int))] n cs0,aX MD t31 k (103:Nat) (0:Nat) (St.mk [(1,AV.pv (PV.sl 1 m ds)),(5,AV.bs 12 0 1 n),(6,AV.pv (PV.lit (Value.int IntKind.u32 (0:Int)))),(13,AV.pv (PV.sl 1 n cs)),(14,AV.pv (PV.lit (Value.int IntKind.i64 (↑n:Int)))),(15,AV.pv (PV.lit (Value.int IntKind.i64 (0:Int))))] [(12,cs0)] [] []) (Xt.exit 0) (St.mk [(1,AV.pv (PV.sl 1 m ds)),(5,AV.bs 12 0 1 n),(6,AV.pv (PV.lit (Value.int IntKind.u32 c))),(13,AV.pv (PV.sl 1 n cs)),(14,AV.pv (PV.lit (Value.int IntKind.i64 (↑n:Int)))),(15,AV.pv (PV.lit (Value.int IntKind.i64 (↑n:Int)))),(16,AV.pv (PV.lit (Value.bool false)))] [(12,es)] [] []),cF es 0 (n* 1) gs,aa t31 146 [PV.sl 1 n gs] (RV.mk p none)]):=by kernel_rfl
theorem QS (k n m i c x y s d:Nat) (cs ds es es':List PV):ay MD t31 k 103 0 ⟨[(1, .pv (.sl 1 m ds)),(5, .bs 12 0 1 n),(6, .pv (ai c)),(13, .pv (.sl 1 n cs)),(14, .pv (iv n)),(15, .pv (iv i))],[(12,es)],[],[]⟩ [.c true, .a 18 [ai x], .c true, .a 26 [ai y], .r (one (.aQ [ai s,ai d])), .j 37 i, .s es', .i 38 (i+1:Nat)]=
 some ((Xt.normal,St.mk [(1,AV.pv (PV.sl 1 m ds)),(5,AV.bs 12 0 1 n),(6,AV.pv (PV.lit (Value.int IntKind.u32 (↑d:Int)))),(13,AV.pv (PV.sl 1 n cs)),(14,AV.pv (PV.lit (Value.int IntKind.i64 (↑n:Int)))),(15,AV.pv (PV.lit (Value.int IntKind.i64 (↑(i+(1:Nat)):Int))))] [(12,es')] [] []),[],[decide ((↑i:Int)<(↑n:Int))=true,aK cs 1 (↑i:Int) n [PV.lit (Value.int IntKind.u32 (↑x:Int))],decide ((↑i:Int)<(↑m:Int))=true,aK ds 1 (↑i:Int) m [PV.lit (Value.int IntKind.u32 (↑y:Int))],aa t31 149 [PV.lit (Value.int IntKind.u32 (↑x:Int)),PV.lit (Value.int IntKind.u32 (↑y:Int)),PV.lit (Value.int IntKind.u32 (↑c:Int))] (RV.mk (PV.aQ [PV.lit (Value.int IntKind.u32 (↑s:Int)),PV.lit (Value.int IntKind.u32 (↑d:Int))]) none),aJ (↑i:Int) n i,0+i* 1+1≤es.length,bZ es (0+i* 1) [PV.lit (Value.int IntKind.u32 (↑s:Int))] es',IntKind.i64.wrap ((↑i:Int)+(1:Int))=(↑(i+(1:Nat)):Int)]):=by kernel_rfl
theorem QT (k n m i c x s d:Nat) (cs ds es es':List PV):ay MD t31 k 103 0 ⟨[(1, .pv (.sl 1 m ds)),(5, .bs 12 0 1 n),(6, .pv (ai c)),(13, .pv (.sl 1 n cs)),(14, .pv (iv n)),(15, .pv (iv i))],[(12,es)],[],[]⟩ [.c true, .a 18 [ai x], .c false, .r (one (.aQ [ai s,ai d])), .j 37 i, .s es', .i 38 (i+1:Nat)]=
 some ((Xt.normal,St.mk [(1,AV.pv (PV.sl 1 m ds)),(5,AV.bs 12 0 1 n),(6,AV.pv (PV.lit (Value.int IntKind.u32 (↑d:Int)))),(13,AV.pv (PV.sl 1 n cs)),(14,AV.pv (PV.lit (Value.int IntKind.i64 (↑n:Int)))),(15,AV.pv (PV.lit (Value.int IntKind.i64 (↑(i+(1:Nat)):Int))))] [(12,es')] [] []),[],[decide ((↑i:Int)<(↑n:Int))=true,aK cs 1 (↑i:Int) n [PV.lit (Value.int IntKind.u32 (↑x:Int))],decide ((↑i:Int)<(↑m:Int))=false,aa t31 149 [PV.lit (Value.int IntKind.u32 (↑x:Int)),PV.lit (Value.int IntKind.u32 (0:Int)),PV.lit (Value.int IntKind.u32 (↑c:Int))] (RV.mk (PV.aQ [PV.lit (Value.int IntKind.u32 (↑s:Int)),PV.lit (Value.int IntKind.u32 (↑d:Int))]) none),aJ (↑i:Int) n i,0+i* 1+1≤es.length,bZ es (0+i* 1) [PV.lit (Value.int IntKind.u32 (↑s:Int))] es',IntKind.i64.wrap ((↑i:Int)+(1:Int))=(↑(i+(1:Nat)):Int)]):=by kernel_rfl
theorem QU (k n m i c:Nat) (cs ds es:List PV):ay MD t31 k 103 0 ⟨[(1, .pv (.sl 1 m ds)),(5, .bs 12 0 1 n),(6, .pv (ai c)),(13, .pv (.sl 1 n cs)),(14, .pv (iv n)),(15, .pv (iv i))],[(12,es)],[],[]⟩ [.c false]=
 some ((Xt.exit 0,St.mk [(1,AV.pv (PV.sl 1 m ds)),(5,AV.bs 12 0 1 n),(6,AV.pv (PV.lit (Value.int IntKind.u32 (↑c:Int)))),(13,AV.pv (PV.sl 1 n cs)),(14,AV.pv (PV.lit (Value.int IntKind.i64 (↑n:Int)))),(15,AV.pv (PV.lit (Value.int IntKind.i64 (↑i:Int)))),(16,AV.pv (PV.lit (Value.bool false)))] [(12,es)] [] []),[],[decide ((↑i:Int)<(↑n:Int))=false]):=by kernel_rfl
theorem Gc:aH MD.P t30:=aI (ak (ax fun x h=>tE x.1 x.2.1 x.2.2 h.1 h.2.1 h.2.2) (ak (ax fun l h=>mB l h.1 h.2) aF))
theorem NI:aH MD.P t31:=aI (ak (ax fun x h=>AP x.1 x.2.1 x.2.2 h.1 h.2.1 h.2.2) (ak (ax fun l h=>mB l h.1 h.2) aF))
theorem vr {n:Nat} (h:n<2^41):(0:Int)≤(n:Int)∧(n:Int)≤(n:Int)∧(n:Int)* ((MD.P.bytesOf 150:Nat):Int)≤((room:Nat):Int)∧(n:Int)≤((room:Nat):Int):=by
 rw [mI]
 have:((room:Nat):Int)=140737488355328:=rfl
 omega
theorem uh (a b:Nat):∀i,a / (4294967296:Nat)^i+b / (4294967296:Nat)^i≤(a+b) / (4294967296:Nat)^i∧(a+b) / (4294967296:Nat)^i≤a / (4294967296:Nat)^i+b / (4294967296:Nat)^i+1
 |0=>by simp
 |i+1=>by
  have:=uh a b i
  rw [cr,cr,cr]
  omega
theorem sF {n v:Nat} (hn:n<2^40) (h:v<(4294967296:Nat)^n):js [.sl 1 n (us (fd (4294967296:Nat) n v))]=some (one (nat (dg (4294967296:Nat) v))):=by
 have:=kM (l:=fd (4294967296:Nat) n v) (by rw [bE];exact hn) (fJ (by decide) _ _)
 rw [ji (by decide),Nat.mod_eq_of_lt h] at this
 simp only [nat,bE] at this
 exact this
def SA (a b n m i:Nat) (e:List (Nat×AV)):St:=⟨(0, .pv (.sl 1 n (us (dg (4294967296:Nat) a))))::(1, .pv (.sl 1 m (us (dg (4294967296:Nat) b))))::(5, .bs 20 0 1 (n+1))::(6, .pv (ai ((a+b) / (4294967296:Nat)^i - a / (4294967296:Nat)^i - b / (4294967296:Nat)^i)))::(21, .pv (.sl 1 n (us (dg (4294967296:Nat) a))))::(22, .pv (iv n))::(23, .pv (iv i))::e,[(20,us (bW (4294967296:Nat) (n+1) i (a+b)))],[],[]⟩
theorem GB (k a b n m i:Nat) (hn:n=(dg (4294967296:Nat) a).length) (hm:m=(dg (4294967296:Nat) b).length) (hi:i<n) (hs:n<2^40):aU MD t30 k 100 0 (SA a b n m i [])=some (.normal,SA a b n m (i+1) []):=by
 have hx:=iC (b:=(4294967296:Nat)) (v:=a) (by decide) (i:=i) (by omega)
 have hc:=uh a b i
 have s1:=cr a (4294967296:Nat) i
 have s2:=cr b (4294967296:Nat) i
 have s3:=cr (a+b) (4294967296:Nat) i
 have hstep:=iD (b:=(4294967296:Nat)) (n:=n+1) (i:=i) (v:=a+b) (by omega)
 have hsp:bZ (us (bW (4294967296:Nat) (n+1) i (a+b))) (0+i* 1) [ai ((a+b) / (4294967296:Nat)^i%(4294967296:Nat))] (us (bW (4294967296:Nat) (n+1) (i+1) (a+b))):=eT hstep (by rw [ee (by omega)];omega) (by omega)
 have hle:0+i* 1+(ai ((a+b) / (4294967296:Nat)^i%(4294967296:Nat))).cells.length≤(us (bW (4294967296:Nat) (n+1) i (a+b))).length:=by
  rw [cw,ee (by omega)];show _+1≤_;omega
 have gm:aK (us (dg (4294967296:Nat) a)) 1 (i:Int) n [ai (a / (4294967296:Nat)^i%(4294967296:Nat))]:=by rw [hn];exact cO hx rfl
 unfold SA
 rw [s1,s2,s3]
 generalize hu:a / (4294967296:Nat)^i=u at*
 generalize hv:b / (4294967296:Nat)^i=v at*
 generalize hw:(a+b) / (4294967296:Nat)^i=w at*
 obtain ⟨x,hx0⟩:∃x,x=u%(4294967296:Nat):=⟨_,rfl⟩
 obtain ⟨y,hy0⟩:∃y,y=v%(4294967296:Nat):=⟨_,rfl⟩
 rw [←hx0] at gm
 obtain ⟨c,hc0⟩:∃c,c=w - u - v:=⟨_,rfl⟩
 rw [←hc0]
 by_cases zC:i<m
 · have hy:=iC (b:=(4294967296:Nat)) (v:=b) (by decide) (i:=i) (by omega)
   rw [hv,←hy0] at hy
   have gW:aK (us (dg (4294967296:Nat) b)) 1 (i:Int) m [ai y]:=by rw [hm];exact cO hy rfl
   have e1:(x+y+c)%(4294967296:Nat)=w%(4294967296:Nat):=by omega
   have e2:(x+y+c) / (4294967296:Nat)=w / (4294967296:Nat) - u / (4294967296:Nat) - v / (4294967296:Nat):=by omega
   have bX:=jH (a:=x) (b:=y) (c:=c) (by omega) (by omega) (by omega)
   rw [e1,e2] at bX
   have key:=P8 k n m i c x y (w%(4294967296:Nat)) (w / (4294967296:Nat) - u / (4294967296:Nat) - v / (4294967296:Nat)) (us (dg (4294967296:Nat) a)) (us (dg (4294967296:Nat) b)) (us (bW (4294967296:Nat) (n+1) i (a+b))) (us (bW (4294967296:Nat) (n+1) (i+1) (a+b)))
   exact aq key ⟨decide_eq_true (by omega),gm,decide_eq_true (by omega),gW,bX,⟨rfl,by omega⟩,hle,hsp,aR (by omega) (by omega),trivial⟩
 · have hy:=lS (b:=(4294967296:Nat)) (v:=b) (by decide) (i:=i) (by omega)
   rw [hv] at hy
   have e1:(x+0+c)%(4294967296:Nat)=w%(4294967296:Nat):=by omega
   have e2:(x+0+c) / (4294967296:Nat)=w / (4294967296:Nat) - u / (4294967296:Nat) - v / (4294967296:Nat):=by omega
   have bX:=jH (a:=x) (b:=0) (c:=c) (by omega) (by omega) (by omega)
   rw [e1,e2] at bX
   have key:=P9 k n m i c x (w%(4294967296:Nat)) (w / (4294967296:Nat) - u / (4294967296:Nat) - v / (4294967296:Nat)) (us (dg (4294967296:Nat) a)) (us (dg (4294967296:Nat) b)) (us (bW (4294967296:Nat) (n+1) i (a+b))) (us (bW (4294967296:Nat) (n+1) (i+1) (a+b)))
   exact aq key ⟨decide_eq_true (by omega),gm,decide_eq_false (by omega),bX,⟨rfl,by omega⟩,hle,hsp,aR (by omega) (by omega),trivial⟩
theorem Bt (k a b n m:Nat) (hn:n=(dg (4294967296:Nat) a).length) (hm:m=(dg (4294967296:Nat) b).length) (hk:n<k) (hs:n<2^40):bh (aU MD t30 k 100 0) k (SA a b n m 0 [])=some (.exit 0,SA a b n m n [(24, .pv (bv false))]):=
 bK (f:=aU MD t30 k 100 0) (S:=fun i=>SA a b n m i []) (n:=n) (fun i hi=>GB k a b n m i hn hm hi hs)
  (aq (Qa k n m n ((a+b) / (4294967296:Nat)^n - a / (4294967296:Nat)^n - b / (4294967296:Nat)^n) (us (dg (4294967296:Nat) a)) (us (dg (4294967296:Nat) b)) (us (bW (4294967296:Nat) (n+1) n (a+b)))) ⟨decide_eq_false (by omega),trivial⟩) (by simp) k hk
theorem K9 (a b:Nat) (ha:(dg (4294967296:Nat) a).length<2^39) (hb:(dg (4294967296:Nat) b).length<2^39):az P0 100 [nat (dg (4294967296:Nat) a),nat (dg (4294967296:Nat) b)] (one (nat (dg (4294967296:Nat) (a+b)))):=by
 have key:∀a b n m:Nat,n=(dg (4294967296:Nat) a).length→m=(dg (4294967296:Nat) b).length→n<2^39→m≤n→
   a+b<(4294967296:Nat)^(n+1)∧bZ (us (bW (4294967296:Nat) (n+1) n (a+b))) (0+n* 1) [ai ((a+b) / (4294967296:Nat)^n - a / (4294967296:Nat)^n - b / (4294967296:Nat)^n)] (us (fd (4294967296:Nat) (n+1) (a+b)))∧0+n* 1+(ai ((a+b) / (4294967296:Nat)^n - a / (4294967296:Nat)^n - b / (4294967296:Nat)^n)).cells.length≤(us (bW (4294967296:Nat) (n+1) n (a+b))).length:=by
  intro a b n m hn hm hs hmn
  have h1:=cz (b:=(4294967296:Nat)) (n:=a) (by decide)
  have h2:=cz (b:=(4294967296:Nat)) (n:=b) (by decide)
  have h3:(4294967296:Nat)^(dg (4294967296:Nat) b).length≤(4294967296:Nat)^n:=Nat.pow_le_pow_right (by decide) (by omega)
  rw [←hn] at h1
  have hlt:a+b<(4294967296:Nat)^(n+1):=by rw [Nat.pow_succ];omega
  have z1:=lS (b:=(4294967296:Nat)) (v:=a) (i:=n) (by decide) (by omega)
  have z2:=lS (b:=(4294967296:Nat)) (v:=b) (i:=n) (by decide) (by omega)
  have hc:=uh a b n
  rw [z1,z2,Nat.sub_zero,Nat.sub_zero]
  rw [z1,z2] at hc
  have hstep:=iD (b:=(4294967296:Nat)) (n:=n+1) (i:=n) (v:=a+b) (by omega)
  rw [oG,Nat.mod_eq_of_lt (by omega)] at hstep
  refine ⟨hlt,eT hstep (by rw [ee (by omega)];omega) (by omega), ?_⟩
  rw [cw,ee (by omega)];show _+1≤_;omega
 have fin:∀v n:Nat,cF (us (fd (4294967296:Nat) (n+1) v)) 0 ((n+1)* 1) (us (fd (4294967296:Nat) (n+1) v)):=fun v n=>iY _ _ _ (by rw [List.drop_zero,Nat.mul_one,List.take_of_length_le (by rw [bE];omega)])
 obtain ⟨k,hk⟩:∃k,k=(dg (4294967296:Nat) a).length+(dg (4294967296:Nat) b).length+1:=⟨_,rfl⟩
 by_cases h:(dg (4294967296:Nat) a).length<(dg (4294967296:Nat) b).length
 · obtain ⟨k1,k2,k3⟩:=key b a _ _ rfl rfl hb (by omega)
   have lp:=Bt k b a _ _ rfl rfl (by omega) (by omega)
   have z:=iU (n:=(dg (4294967296:Nat) b).length+1)
   rw [←jB (4294967296:Nat) ((dg (4294967296:Nat) b).length+1) (b+a)] at z
   have tr:=sF (n:=(dg (4294967296:Nat) b).length+1) (v:=b+a) (by omega) k1
   rw [Nat.add_comm a b]
   have c0:((b+a) / (4294967296:Nat)^0 - b / (4294967296:Nat)^0 - a / (4294967296:Nat)^0:Nat)=0:=by simp
   unfold SA at lp
   rw [c0] at lp
   exact aj ah Gc (by rfl) (Sj k _ _ 0 _ _ _ (us (bW (4294967296:Nat) ((dg (4294967296:Nat) b).length+1) 0 (b+a))) _ (us (fd (4294967296:Nat) ((dg (4294967296:Nat) b).length+1) (b+a))) _ _) ⟨decide_eq_true (by omega),aR (by omega) (by omega),vr (by omega),decide_eq_false (by omega),z,lp,⟨rfl,by omega⟩,k3,k2,fin _ _,tr,trivial⟩
 · obtain ⟨k1,k2,k3⟩:=key a b _ _ rfl rfl ha (by omega)
   have lp:=Bt k a b _ _ rfl rfl (by omega) (by omega)
   have z:=iU (n:=(dg (4294967296:Nat) a).length+1)
   rw [←jB (4294967296:Nat) ((dg (4294967296:Nat) a).length+1) (a+b)] at z
   have tr:=sF (n:=(dg (4294967296:Nat) a).length+1) (v:=a+b) (by omega) k1
   have c0:((a+b) / (4294967296:Nat)^0 - a / (4294967296:Nat)^0 - b / (4294967296:Nat)^0:Nat)=0:=by simp
   unfold SA at lp
   rw [c0] at lp
   exact aj ah Gc (by rfl) (Sh k _ _ 0 _ _ _ (us (bW (4294967296:Nat) ((dg (4294967296:Nat) a).length+1) 0 (a+b))) _ (us (fd (4294967296:Nat) ((dg (4294967296:Nat) a).length+1) (a+b))) _ _) ⟨decide_eq_false (by omega),aR (by omega) (by omega),vr (by omega),decide_eq_false (by omega),z,lp,⟨rfl,by omega⟩,k3,k2,fin _ _,tr,trivial⟩
def SB (v b n m i:Nat) (e:List (Nat×AV)):St:=⟨(1, .pv (.sl 1 m (us (dg (4294967296:Nat) b))))::(5, .bs 12 0 1 n)::(6, .pv (ai ((b+v) / (4294967296:Nat)^i - b / (4294967296:Nat)^i - v / (4294967296:Nat)^i)))::(13, .pv (.sl 1 n (us (dg (4294967296:Nat) (b+v)))))::(14, .pv (iv n))::(15, .pv (iv i))::e,[(12,us (bW (4294967296:Nat) n i v))],[],[]⟩
theorem Hw (k v b n m i:Nat) (hn:n=(dg (4294967296:Nat) (b+v)).length) (hm:m=(dg (4294967296:Nat) b).length) (hi:i<n) (hs:n<2^40):aU MD t31 k 103 0 (SB v b n m i [])=some (.normal,SB v b n m (i+1) []):=by
 have hx:=iC (b:=(4294967296:Nat)) (v:=b+v) (by decide) (i:=i) (by omega)
 have hc:=uh b v i
 have s1:=cr (b+v) (4294967296:Nat) i
 have s2:=cr b (4294967296:Nat) i
 have s3:=cr v (4294967296:Nat) i
 have hstep:=iD (b:=(4294967296:Nat)) (n:=n) (i:=i) (v:=v) (by omega)
 have hsp:bZ (us (bW (4294967296:Nat) n i v)) (0+i* 1) [ai (v / (4294967296:Nat)^i%(4294967296:Nat))] (us (bW (4294967296:Nat) n (i+1) v)):=eT hstep (by rw [ee (by omega)];omega) (by omega)
 have hle:0+i* 1+(ai (v / (4294967296:Nat)^i%(4294967296:Nat))).cells.length≤(us (bW (4294967296:Nat) n i v)).length:=by
  rw [cw,ee (by omega)];show _+1≤_;omega
 have gm:aK (us (dg (4294967296:Nat) (b+v))) 1 (i:Int) n [ai ((b+v) / (4294967296:Nat)^i%(4294967296:Nat))]:=by rw [hn];exact cO hx rfl
 unfold SB
 rw [s1,s2,s3] at*
 generalize hu:(b+v) / (4294967296:Nat)^i=u at*
 generalize hw:b / (4294967296:Nat)^i=y0 at*
 generalize hv:v / (4294967296:Nat)^i=w at*
 obtain ⟨x,hx0⟩:∃x,x=u%(4294967296:Nat):=⟨_,rfl⟩
 obtain ⟨y,hy0⟩:∃y,y=y0%(4294967296:Nat):=⟨_,rfl⟩
 rw [←hx0] at gm
 obtain ⟨c,hc0⟩:∃c,c=u - y0 - w:=⟨_,rfl⟩
 rw [←hc0]
 have core:∀y',y'=y→(x+(4294967296:Nat)+(4294967296:Nat) - y' - c)%(4294967296:Nat)=w%(4294967296:Nat)∧(if x<y'+c then 1 else 0)=u / (4294967296:Nat) - y0 / (4294967296:Nat) - w / (4294967296:Nat):=by
  intro y' e
  subst e
  constructor
  · rw [Nat.sub_sub];omega
  · split<;>omega
 by_cases zC:i<m
 · have hy:=iC (b:=(4294967296:Nat)) (v:=b) (by decide) (i:=i) (by omega)
   rw [hw,←hy0] at hy
   have gW:aK (us (dg (4294967296:Nat) b)) 1 (i:Int) m [ai y]:=by rw [hm];exact cO hy rfl
   have bX:=nW (a:=x) (b:=y) (c:=c) (by omega) (by omega) (by omega)
   rw [(core y rfl).1,(core y rfl).2] at bX
   have key:=QS k n m i c x y (w%(4294967296:Nat)) (u / (4294967296:Nat) - y0 / (4294967296:Nat) - w / (4294967296:Nat)) (us (dg (4294967296:Nat) (b+v))) (us (dg (4294967296:Nat) b)) (us (bW (4294967296:Nat) n i v)) (us (bW (4294967296:Nat) n (i+1) v))
   exact aq key ⟨decide_eq_true (by omega),gm,decide_eq_true (by omega),gW,bX,⟨rfl,by omega⟩,hle,hsp,aR (by omega) (by omega),trivial⟩
 · have hy:=lS (b:=(4294967296:Nat)) (v:=b) (by decide) (i:=i) (by omega)
   rw [hw] at hy
   have bX:=nW (a:=x) (b:=0) (c:=c) (by omega) (by omega) (by omega)
   rw [(core 0 (by omega)).1,(core 0 (by omega)).2] at bX
   have key:=QT k n m i c x (w%(4294967296:Nat)) (u / (4294967296:Nat) - y0 / (4294967296:Nat) - w / (4294967296:Nat)) (us (dg (4294967296:Nat) (b+v))) (us (dg (4294967296:Nat) b)) (us (bW (4294967296:Nat) n i v)) (us (bW (4294967296:Nat) n (i+1) v))
   exact aq key ⟨decide_eq_true (by omega),gm,decide_eq_false (by omega),bX,⟨rfl,by omega⟩,hle,hsp,aR (by omega) (by omega),trivial⟩
theorem Kl (a b:Nat) (h:b≤a) (ha0:0<a) (ha:(dg (4294967296:Nat) a).length<2^39):az P0 103 [nat (dg (4294967296:Nat) a),nat (dg (4294967296:Nat) b)] (one (nat (dg (4294967296:Nat) (a - b)))):=by
 obtain ⟨v,rfl⟩:=Nat.exists_eq_add_of_le h
 rw [Nat.add_sub_cancel_left]
 obtain ⟨n,hn⟩:∃n,n=(dg (4294967296:Nat) (b+v)).length:=⟨_,rfl⟩
 have hn0:0<n:=by rw [hn,dw (by decide) ha0];simp
 have hlt:v<(4294967296:Nat)^n:=by have:=cz (b:=(4294967296:Nat)) (n:=b+v) (by decide);rw [←hn] at this;omega
 have lp:=bK (f:=aU MD t31 (n+1) 103 0) (S:=fun i=>SB v b n (dg (4294967296:Nat) b).length i []) (n:=n) (fun i hi=>Hw (n+1) v b n _ i hn rfl hi (by omega))
  (aq (QU (n+1) n (dg (4294967296:Nat) b).length n ((b+v) / (4294967296:Nat)^n - b / (4294967296:Nat)^n - v / (4294967296:Nat)^n) (us (dg (4294967296:Nat) (b+v))) (us (dg (4294967296:Nat) b)) (us (bW (4294967296:Nat) n n v))) ⟨decide_eq_false (by omega),trivial⟩) (by simp) (n+1) (by omega)
 have c0:((b+v) / (4294967296:Nat)^0 - b / (4294967296:Nat)^0 - v / (4294967296:Nat)^0:Nat)=0:=by simp
 unfold SB at lp
 rw [c0] at lp
 have z:=iU (n:=n)
 rw [←jB (4294967296:Nat) n v] at z
 rw [oG] at lp
 have tr:=sF (n:=n) (v:=v) (by omega) hlt
 have fin:cF (us (fd (4294967296:Nat) n v)) 0 (n* 1) (us (fd (4294967296:Nat) n v)):=iY _ _ _ (by rw [List.drop_zero,Nat.mul_one,List.take_of_length_le (by rw [bE];omega)])
 have:=aj ah NI (by rfl) (Vb (n+1) n _ 0 _ (us (dg (4294967296:Nat) (b+v))) _ _ _ (us []) _ _) ⟨vr (by omega),decide_eq_false (by omega),z,lp,fin,tr,trivial⟩
 unfold nat
 rw [←hn]
 exact this
end Go.Proofs.YtibbgjafjhcemaaGreatDoor.Cul
namespace Go.Proofs.YtibbgjafjhcemaaGreatDoor.Cul
open Go Go.RowKit
noncomputable def t32:Cl:=bM [(147,qG),(190,Fi)]
theorem V9 (k p n x y h l a s c b s2 c2 i:Nat) (es jh fh gT:List PV):l8 MD t32 k 150 [.g es 0 1 n, .p (iv p), .p (ai x), .p (ai y)] [.r (one (.aQ [ai h,ai l])), .j 23 p, .e 24 (ai a), .r (one (.aQ [ai s,ai c])), .j 29 p, .s jh, .i 33 (p+1:Nat), .i 36 (p+1:Nat), .j 37 (p+1), .e 38 (ai b), .r (one (.aQ [ai s2,ai c2])), .j 44 (p+1), .s fh, .i 46 (p+2:Nat), .l (.exit 0) ⟨[(0, .bs gk 0 1 n),(10, .pv (ai 0)),(11, .pv (iv i)),(48, .pv (bv false))],[(gk,gT)],[],[]⟩]=
 some ((MR.pv (PV.aQ []),gT),[gT.all cH=true,gT.length=es.length,aa t32 190 [PV.lit (Value.int IntKind.u32 (↑x:Int)),PV.lit (Value.int IntKind.u32 (↑y:Int))] (RV.mk (PV.aQ [PV.lit (Value.int IntKind.u32 (↑h:Int)),PV.lit (Value.int IntKind.u32 (↑l:Int))]) none),aJ (↑p:Int) n p,Ld MD.P 150 es (0+p* 1) (PV.lit (Value.int IntKind.u32 (↑a:Int))),aa t32 147 [PV.lit (Value.int IntKind.u32 (↑a:Int)),PV.lit (Value.int IntKind.u32 (↑l:Int)),PV.lit (Value.int IntKind.u32 (0:Int))] (RV.mk (PV.aQ [PV.lit (Value.int IntKind.u32 (↑s:Int)),PV.lit (Value.int IntKind.u32 (↑c:Int))]) none),aJ (↑p:Int) n p,0+p* 1+1≤es.length,bZ es (0+p* 1) [PV.lit (Value.int IntKind.u32 (↑s:Int))] jh,IntKind.i64.wrap ((↑p:Int)+(1:Int))=(↑(p+(1:Nat)):Int),IntKind.i64.wrap ((↑p:Int)+(1:Int))=(↑(p+(1:Nat)):Int),aJ (↑(p+(1:Nat)):Int) n (p+1),Ld MD.P 150 jh (0+(p+1)* 1) (PV.lit (Value.int IntKind.u32 (↑b:Int))),aa t32 147 [PV.lit (Value.int IntKind.u32 (↑b:Int)),PV.lit (Value.int IntKind.u32 (↑h:Int)),PV.lit (Value.int IntKind.u32 (↑c:Int))] (RV.mk (PV.aQ [PV.lit (Value.int IntKind.u32 (↑s2:Int)),PV.lit (Value.int IntKind.u32 (↑c2:Int))]) none),aJ (↑(p+(1:Nat)):Int) n (p+1),0+(p+1)* 1+1≤jh.length,bZ jh (0+(p+1)* 1) [PV.lit (Value.int IntKind.u32 (↑s2:Int))] fh,IntKind.i64.wrap ((↑p:Int)+(2:Int))=(↑(p+(2:Nat)):Int),aX MD t32 k (150:Nat) (0:Nat) (St.mk [(0,AV.bs 1000000 0 1 n),(10,AV.pv (PV.lit (Value.int IntKind.u32 (↑c2:Int)))),(11,AV.pv (PV.lit (Value.int IntKind.i64 (↑(p+(2:Nat)):Int))))] [(1000000,fh)] [] []) (Xt.exit 0) (St.mk [(0,AV.bs 1000000 0 1 n),(10,AV.pv (PV.lit (Value.int IntKind.u32 (0:Int)))),(11,AV.pv (PV.lit (Value.int IntKind.i64 (↑i:Int)))),(48,AV.pv (PV.lit (Value.bool false)))] [(1000000,gT)] [] [])]):=by kernel_rfl
theorem RF (k n i c a s d:Nat) (es es':List PV):ay MD t32 k 150 0 ⟨[(0, .bs gk 0 1 n),(10, .pv (ai c)),(11, .pv (iv i))],[(gk,es)],[],[]⟩ [.c true, .j 56 i, .e 57 (ai a), .r (one (.aQ [ai s,ai d])), .j 62 i, .s es', .i 50 (i+1:Nat)]=
 some ((Xt.normal,St.mk [(0,AV.bs 1000000 0 1 n),(10,AV.pv (PV.lit (Value.int IntKind.u32 (↑d:Int)))),(11,AV.pv (PV.lit (Value.int IntKind.i64 (↑(i+(1:Nat)):Int))))] [(1000000,es')] [] []),[],[((↑c:Int) !=(0:Int))=true,aJ (↑i:Int) n i,Ld MD.P 150 es (0+i* 1) (PV.lit (Value.int IntKind.u32 (↑a:Int))),aa t32 147 [PV.lit (Value.int IntKind.u32 (↑a:Int)),PV.lit (Value.int IntKind.u32 (0:Int)),PV.lit (Value.int IntKind.u32 (↑c:Int))] (RV.mk (PV.aQ [PV.lit (Value.int IntKind.u32 (↑s:Int)),PV.lit (Value.int IntKind.u32 (↑d:Int))]) none),aJ (↑i:Int) n i,0+i* 1+1≤es.length,bZ es (0+i* 1) [PV.lit (Value.int IntKind.u32 (↑s:Int))] es',IntKind.i64.wrap ((↑i:Int)+(1:Int))=(↑(i+(1:Nat)):Int)]):=by kernel_rfl
theorem RG (k n i c:Nat) (es:List PV):ay MD t32 k 150 0 ⟨[(0, .bs gk 0 1 n),(10, .pv (ai c)),(11, .pv (iv i))],[(gk,es)],[],[]⟩ [.c false]=
 some ((Xt.exit 0,St.mk [(0,AV.bs 1000000 0 1 n),(10,AV.pv (PV.lit (Value.int IntKind.u32 (↑c:Int)))),(11,AV.pv (PV.lit (Value.int IntKind.i64 (↑i:Int)))),(48,AV.pv (PV.lit (Value.bool false)))] [(1000000,es)] [] []),[],[((↑c:Int) !=(0:Int))=false]):=by kernel_rfl
theorem NJ:aH MD.P t32:=aI (ak (ax fun x h=>tE x.1 x.2.1 x.2.2 h.1 h.2.1 h.2.2) (ak (ax fun x h=>HC x.1 x.2 h.1 h.2) aF))
theorem Fj {a b:Nat} (ha:a<(4294967296:Nat)) (hb:b<(4294967296:Nat)):Fi [ai a,ai b]=some (one (dx (a* b / (4294967296:Nat)) (a* b%(4294967296:Nat)))):=
 aO (a:=(a,b)) (enc:=fun x:Nat×Nat=>[ai x.1,ai x.2]) (fun a b e=>by
  simp only [List.cons.injEq,and_true] at e
  obtain ⟨a1,a2⟩:=a;obtain ⟨b1,b2⟩:=b
  simp only at e
  rw [g7 e.1,g7 e.2]) ⟨ha,hb⟩
def OQ (n c i:Nat) (W:List Nat) (e:List (Nat×AV)):St:=⟨(0, .bs gk 0 1 n)::(10, .pv (ai c))::(11, .pv (iv i))::e,[(gk,us W)],[],[]⟩
theorem DG {W:List Nat} {i n s:Nat} (hl:W.length=n) (hi:i<n):0+i* 1+(ai s).cells.length≤(us W).length:=by
 rw [cw,hl];show _+1≤_;omega
theorem B9 (k n T:Nat) (hn:n<2^41) (hT:T<(4294967296:Nat)^n):∀(d i c:Nat) (W:List Nat),i+d=n→W.length=n→aZ (4294967296:Nat) W→c<(4294967296:Nat)→val (4294967296:Nat) W+(4294967296:Nat)^i* c=T→
  ∃i2,bh (aU MD t32 k 150 0) (d+1) (OQ n c i W [])=some (.exit 0,OQ n 0 i2 (fd (4294967296:Nat) n T) [(48, .pv (bv false))])
 |d,i,0,W,hi,hl,hd,hc,he=>by
  have hw:W=fd (4294967296:Nat) n T:=iW (by omega) hd hl (by omega)
  subst hw
  exact ⟨i,bR (show 1≤d+1 by omega) (aW (aq (RG k n i 0 _) ⟨rfl,trivial⟩) (by simp))⟩
 |0,i,c+1,W,hi,hl,hd,hc,he=>by
  exfalso
  have:i=n:=by omega
  subst this
  have:(4294967296:Nat)^i* 1≤(4294967296:Nat)^i* (c+1):=Nat.mul_le_mul_left _ (by omega)
  omega
 |d+1,i,c+1,W,hi,hl,hd,hc,he=>by
  obtain ⟨a,ha⟩:=get_some (l:=W) (i:=i) (by omega)
  have hab:=cL hd ha
  have hv:=gy (b:=(4294967296:Nat)) ha ((a+0+(c+1))%(4294967296:Nat))
  have bX:=jH (a:=a) (b:=0) (c:=c+1) hab (by omega) hc
  obtain ⟨s,hs⟩:∃s,s=(a+0+(c+1))%(4294967296:Nat):=⟨_,rfl⟩
  obtain ⟨c',zq⟩:∃c',c'=(a+0+(c+1)) / (4294967296:Nat):=⟨_,rfl⟩
  rw [←hs] at hv bX
  rw [←zq] at bX
  have nJ:val (4294967296:Nat) (W.set i s)+(4294967296:Nat)^(i+1)* c'=T:=by
   have k1:(4294967296:Nat)^(i+1)* c'=(4294967296:Nat)^i* ((4294967296:Nat)* c'):=by rw [Nat.pow_succ,Nat.mul_assoc]
   have k2:(4294967296:Nat)^i* s+(4294967296:Nat)^i* ((4294967296:Nat)* c')=(4294967296:Nat)^i* a+(4294967296:Nat)^i* (c+1):=by
    rw [←Nat.mul_add,←Nat.mul_add];congr 1;omega
   rw [k1]
   omega
  obtain ⟨i2,h2⟩:=B9 k n T hn hT d (i+1) c' (W.set i s) (by omega) (by simpa using hl) (gY hd (by omega) i) (by omega) nJ
  refine ⟨i2,bz (aq (RF k n i (c+1) a s c' _ (us (W.set i s))) ⟨?_,⟨rfl,by omega⟩,ij ha (by omega),bX,⟨rfl,by omega⟩,DG (s:=s) hl (by omega),eT rfl (by omega) (by omega),aR (by omega) (by omega),trivial⟩) h2⟩
  simp;omega
theorem Nh (W:List Nat) (p n x y:Nat) (hn:n<2^41) (hl:W.length=n) (hd:aZ (4294967296:Nat) W) (hx:x<(4294967296:Nat)) (hy:y<(4294967296:Nat)) (hp:p+2≤n) (hT:val (4294967296:Nat) W+(4294967296:Nat)^p* (x* y)<(4294967296:Nat)^n):
  iV P0 150 [.g (us W) 0 1 n, .p (iv p), .p (ai x), .p (ai y)] (.pv (.aQ [])) (us (fd (4294967296:Nat) n (val (4294967296:Nat) W+(4294967296:Nat)^p* (x* y)))):=by
 obtain ⟨a,ha⟩:=get_some (l:=W) (i:=p) (by omega)
 have hab:=cL hd ha
 have hh:x* y / (4294967296:Nat)<(4294967296:Nat):=Nat.div_lt_of_lt_mul (Nat.mul_lt_mul'' hx hy)
 have hlo:x* y%(4294967296:Nat)<(4294967296:Nat):=Nat.mod_lt _ (by decide)
 have hxy:=Nat.div_add_mod (x* y) (4294967296:Nat)
 have c1:=Fj hx hy
 obtain ⟨h,Pa⟩:∃h,h=x* y / (4294967296:Nat):=⟨_,rfl⟩
 obtain ⟨l,I6⟩:∃l,l=x* y%(4294967296:Nat):=⟨_,rfl⟩
 obtain ⟨z,Mz⟩:∃z,z=x* y:=⟨_,rfl⟩
 rw [←Pa,←I6] at c1 hxy
 rw [←Pa] at hh
 rw [←I6] at hlo
 rw [←Mz] at hT hxy ⊢
 have c2:=jH (a:=a) (b:=l) (c:=0) hab hlo (by omega)
 have v1:=gy (b:=(4294967296:Nat)) ha ((a+l+0)%(4294967296:Nat))
 obtain ⟨s,hs⟩:∃s,s=(a+l+0)%(4294967296:Nat):=⟨_,rfl⟩
 obtain ⟨c,hc⟩:∃c,c=(a+l+0) / (4294967296:Nat):=⟨_,rfl⟩
 rw [←hs] at c2 v1
 rw [←hc] at c2
 have oK:aZ (4294967296:Nat) (W.set p s):=gY hd (by omega) p
 obtain ⟨b,hb⟩:=get_some (l:=W.set p s) (i:=p+1) (by simp;omega)
 have LL:=cL oK hb
 have c3:=jH (a:=b) (b:=h) (c:=c) LL hh (by omega)
 have v2:=gy (b:=(4294967296:Nat)) hb ((b+h+c)%(4294967296:Nat))
 obtain ⟨s2,jl⟩:∃s2,s2=(b+h+c)%(4294967296:Nat):=⟨_,rfl⟩
 obtain ⟨c4,LN⟩:∃c4,c4=(b+h+c) / (4294967296:Nat):=⟨_,rfl⟩
 rw [←jl] at c3 v2
 rw [←LN] at c3
 have xz:(W.set p s).length=n:=by simpa using hl
 have he:val (4294967296:Nat) ((W.set p s).set (p+1) s2)+(4294967296:Nat)^(p+2)* c4=val (4294967296:Nat) W+(4294967296:Nat)^p* z:=by
  have k0:(4294967296:Nat)^(p+2)=(4294967296:Nat)^p* ((4294967296:Nat)* (4294967296:Nat)):=by rw [Nat.pow_succ,Nat.pow_succ,Nat.mul_assoc]
  have k1:(4294967296:Nat)^(p+1)=(4294967296:Nat)^p* (4294967296:Nat):=Nat.pow_succ ..
  rw [k1] at v2
  rw [k0]
  simp only [Nat.mul_assoc] at v2 ⊢
  have k2:(4294967296:Nat)^p* ((4294967296:Nat)* ((4294967296:Nat)* c4))+(4294967296:Nat)^p* ((4294967296:Nat)* s2)=(4294967296:Nat)^p* ((4294967296:Nat)* b)+(4294967296:Nat)^p* ((4294967296:Nat)* h)+(4294967296:Nat)^p* ((4294967296:Nat)* c):=by
   have e:(4294967296:Nat)* ((4294967296:Nat)* c4)+(4294967296:Nat)* s2=(4294967296:Nat)* b+(4294967296:Nat)* h+(4294967296:Nat)* c:=by omega
   have e2:=congrArg (fun t=>(4294967296:Nat)^p* t) e
   simp only [Nat.mul_add] at e2
   exact e2
  have k3:(4294967296:Nat)^p* s+(4294967296:Nat)^p* ((4294967296:Nat)* c)=(4294967296:Nat)^p* a+(4294967296:Nat)^p* l:=by
   rw [←Nat.mul_add,←Nat.mul_add];congr 1;omega
  have k4:(4294967296:Nat)^p* z=(4294967296:Nat)^p* ((4294967296:Nat)* h)+(4294967296:Nat)^p* l:=by rw [←Nat.mul_add,hxy]
  rw [k4]
  omega
 obtain ⟨i2,lp⟩:=B9 (n+1) n (val (4294967296:Nat) W+(4294967296:Nat)^p* z) hn hT (n - (p+2)) (p+2) c4 ((W.set p s).set (p+1) s2) (by omega) (by simpa using hl) (gY oK (by omega) _) (by omega) he
 have lp:=bR (show n - (p+2)+1≤n+1 by omega) lp
 refine jE ah NJ (by rfl) (V9 (n+1) p n x y h l a s c b s2 c4 i2 (us W) (us (W.set p s)) (us ((W.set p s).set (p+1) s2)) (us (fd (4294967296:Nat) n (val (4294967296:Nat) W+(4294967296:Nat)^p* z)))) ⟨Fb (fun _=>rfl) _,by rw [cw,cw,bE,hl],c1,⟨rfl,by omega⟩,ij ha (by omega),c2,⟨rfl,by omega⟩,DG (s:=s) hl (by omega),eT rfl (by omega) (by omega),aR (by omega) (by omega),aR (by omega) (by omega),⟨rfl,by omega⟩,ij hb (by omega),c3,⟨rfl,by omega⟩,DG (s:=s2) xz (by omega),eT rfl (by omega) (by omega),aR (by omega) (by omega),lp,trivial⟩
noncomputable def HS:List MA→Option (MR×List PV):=xZ (fun x:List Nat×Nat×Nat×Nat=>(x.1.length<2^41∧aZ (4294967296:Nat) x.1)∧(x.2.2.1<(4294967296:Nat)∧x.2.2.2<(4294967296:Nat))∧x.2.1+2≤x.1.length∧val (4294967296:Nat) x.1+(4294967296:Nat)^x.2.1* (x.2.2.1* x.2.2.2)<(4294967296:Nat)^x.1.length) (fun x=>[.g (us x.1) 0 1 x.1.length, .p (iv x.2.1), .p (ai x.2.2.1), .p (ai x.2.2.2)]) (fun x=>(.pv (.aQ []),us (fd (4294967296:Nat) x.1.length (val (4294967296:Nat) x.1+(4294967296:Nat)^x.2.1* (x.2.2.1* x.2.2.2)))))
theorem KF:∀ms r cs',HS ms=some (r,cs')→iV P0 150 ms r cs':=vI fun x h=>Nh x.1 x.2.1 x.1.length x.2.2.1 x.2.2.2 h.1.1 rfl h.1.2 h.2.1.1 h.2.1.2 h.2.2.1 h.2.2.2
theorem KE {W:List Nat} {p x y:Nat} (hn:W.length<2^41) (hd:aZ (4294967296:Nat) W) (hx:x<(4294967296:Nat)) (hy:y<(4294967296:Nat)) (hp:p+2≤W.length) (hT:val (4294967296:Nat) W+(4294967296:Nat)^p* (x* y)<(4294967296:Nat)^W.length):HS [.g (us W) 0 1 W.length, .p (iv p), .p (ai x), .p (ai y)]=some (.pv (.aQ []),us (fd (4294967296:Nat) W.length (val (4294967296:Nat) W+(4294967296:Nat)^p* (x* y)))):=
 vH (a:=(W,p,x,y)) (enc:=fun x:List Nat×Nat×Nat×Nat=>[.g (us x.1) 0 1 x.1.length, .p (iv x.2.1), .p (ai x.2.2.1), .p (ai x.2.2.2)]) (fun a b e=>by
  obtain ⟨a1,a2,a3,a4⟩:=a;obtain ⟨b1,b2,b3,b4⟩:=b
  simp only [List.cons.injEq,and_true,MA.g.injEq,MA.p.injEq] at e
  obtain ⟨⟨e1,_⟩,e2,e3,e4⟩:=e
  have e2:=dL e2
  obtain rfl:a2=b2:=by omega
  rw [vV e1,g7 e3,g7 e4]) ⟨⟨hn,hd⟩,⟨hx,hy⟩,hp,hT⟩
end Go.Proofs.YtibbgjafjhcemaaGreatDoor.Cul
namespace Go.Proofs.YtibbgjafjhcemaaGreatDoor.Cul
open Go Go.RowKit
noncomputable def t33:Cl:=wW [(146,js)] [(150,HS)] []
theorem Vx (k n m L:Nat) (cs ds cs0 es gs:List PV) (p:PV):aA MD t33 k 104 [.sl 1 n cs, .sl 1 m ds] [.i 15 (n+m:Nat), .i 16 (L+1:Nat), .c false, .f cs0, .l (.exit 0) ⟨[(1, .pv (.sl 1 m ds)),(5, .bs 17 0 1 (L+1)),(6, .mv 150 17 0 1 (L+1)),(20, .pv (.sl 1 n cs)),(21, .pv (iv n)),(22, .pv (iv n)),(23, .pv (bv false))],[(17,es)],[],[]⟩, .f gs, .r (one p)]=
 some (RV.mk p none,[IntKind.i64.wrap ((↑n:Int)+(↑m:Int))=(↑(n+m):Int),IntKind.i64.wrap ((↑(n+m):Int)+(1:Int))=(↑(L+(1:Nat)):Int),(0:Int)≤(↑(L+(1:Nat)):Int)∧(↑(L+(1:Nat)):Int)≤(↑(L+(1:Nat)):Int)∧(↑(L+(1:Nat)):Int)* (↑(MD.P.bytesOf (150:Nat)):Int)≤(↑room:Int)∧(↑(L+(1:Nat)):Int)≤(↑room:Int),decide ((↑(L+(1:Nat)):Int)=(0:Int))=false,fC [PV.lit (Value.int IntKind.u32 (0:Int))] (↑(L+(1:Nat)):Int).toNat cs0,aX MD t33 k (104:Nat) (0:Nat) (St.mk [(1,AV.pv (PV.sl 1 m ds)),(5,AV.bs 17 0 1 (↑(L+(1:Nat)):Int).toNat),(6,AV.mv 150 17 0 1 (↑(L+(1:Nat)):Int).toNat),(20,AV.pv (PV.sl 1 n cs)),(21,AV.pv (PV.lit (Value.int IntKind.i64 (↑n:Int)))),(22,AV.pv (PV.lit (Value.int IntKind.i64 (0:Int))))] [(17,cs0)] [] []) (Xt.exit 0) (St.mk [(1,AV.pv (PV.sl 1 m ds)),(5,AV.bs 17 0 1 (L+1)),(6,AV.mv 150 17 0 1 (L+1)),(20,AV.pv (PV.sl 1 n cs)),(21,AV.pv (PV.lit (Value.int IntKind.i64 (↑n:Int)))),(22,AV.pv (PV.lit (Value.int IntKind.i64 (↑n:Int)))),(23,AV.pv (PV.lit (Value.bool false)))] [(17,es)] [] []),cF es 0 ((L+1)* 1) gs,aa t33 146 [PV.sl 1 (L+1) gs] (RV.mk p none)]):=by kernel_rfl
theorem Q2 (k n m L i x:Nat) (cs ds es es':List PV):ay MD t33 k 104 0 ⟨[(1, .pv (.sl 1 m ds)),(5, .bs 17 0 1 L),(6, .mv 150 17 0 1 L),(20, .pv (.sl 1 n cs)),(21, .pv (iv n)),(22, .pv (iv i))],[(17,es)],[],[]⟩ [.c true, .a 25 [ai x], .l (.exit 2) ⟨[(1, .pv (.sl 1 m ds)),(5, .bs 17 0 1 L),(6, .mv 150 17 0 1 L),(7, .pv (iv i)),(8, .pv (ai x)),(20, .pv (.sl 1 n cs)),(21, .pv (iv n)),(22, .pv (iv i)),(27, .pv (.sl 1 m ds)),(28, .pv (iv m)),(29, .pv (iv m)),(30, .pv (bv false))],[(17,es')],[],[]⟩, .i 42 (i+1:Nat)]=
 some ((Xt.normal,St.mk [(1,AV.pv (PV.sl 1 m ds)),(5,AV.bs 17 0 1 L),(6,AV.mv 150 17 0 1 L),(20,AV.pv (PV.sl 1 n cs)),(21,AV.pv (PV.lit (Value.int IntKind.i64 (↑n:Int)))),(22,AV.pv (PV.lit (Value.int IntKind.i64 (↑(i+(1:Nat)):Int))))] [(17,es')] [] []),[],[decide ((↑i:Int)<(↑n:Int))=true,aK cs 1 (↑i:Int) n [PV.lit (Value.int IntKind.u32 (↑x:Int))],aX MD t33 k (104:Nat) (1:Nat) (St.mk [(1,AV.pv (PV.sl 1 m ds)),(5,AV.bs 17 0 1 L),(6,AV.mv 150 17 0 1 L),(7,AV.pv (PV.lit (Value.int IntKind.i64 (↑i:Int)))),(8,AV.pv (PV.lit (Value.int IntKind.u32 (↑x:Int)))),(20,AV.pv (PV.sl 1 n cs)),(21,AV.pv (PV.lit (Value.int IntKind.i64 (↑n:Int)))),(22,AV.pv (PV.lit (Value.int IntKind.i64 (↑i:Int)))),(27,AV.pv (PV.sl 1 m ds)),(28,AV.pv (PV.lit (Value.int IntKind.i64 (↑m:Int)))),(29,AV.pv (PV.lit (Value.int IntKind.i64 (0:Int))))] [(17,es)] [] []) (Xt.exit 2) (St.mk [(1,AV.pv (PV.sl 1 m ds)),(5,AV.bs 17 0 1 L),(6,AV.mv 150 17 0 1 L),(7,AV.pv (PV.lit (Value.int IntKind.i64 (↑i:Int)))),(8,AV.pv (PV.lit (Value.int IntKind.u32 (↑x:Int)))),(20,AV.pv (PV.sl 1 n cs)),(21,AV.pv (PV.lit (Value.int IntKind.i64 (↑n:Int)))),(22,AV.pv (PV.lit (Value.int IntKind.i64 (↑i:Int)))),(27,AV.pv (PV.sl 1 m ds)),(28,AV.pv (PV.lit (Value.int IntKind.i64 (↑m:Int)))),(29,AV.pv (PV.lit (Value.int IntKind.i64 (↑m:Int)))),(30,AV.pv (PV.lit (Value.bool false)))] [(17,es')] [] []),IntKind.i64.wrap ((↑i:Int)+(1:Int))=(↑(i+(1:Nat)):Int)]):=by kernel_rfl
theorem Q3 (k n m L i:Nat) (cs ds es:List PV):ay MD t33 k 104 0 ⟨[(1, .pv (.sl 1 m ds)),(5, .bs 17 0 1 L),(6, .mv 150 17 0 1 L),(20, .pv (.sl 1 n cs)),(21, .pv (iv n)),(22, .pv (iv i))],[(17,es)],[],[]⟩ [.c false]=
 some ((Xt.exit 0,St.mk [(1,AV.pv (PV.sl 1 m ds)),(5,AV.bs 17 0 1 L),(6,AV.mv 150 17 0 1 L),(20,AV.pv (PV.sl 1 n cs)),(21,AV.pv (PV.lit (Value.int IntKind.i64 (↑n:Int)))),(22,AV.pv (PV.lit (Value.int IntKind.i64 (↑i:Int)))),(23,AV.pv (PV.lit (Value.bool false)))] [(17,es)] [] []),[],[decide ((↑i:Int)<(↑n:Int))=false]):=by kernel_rfl
theorem Q4 (k n m L i j x y:Nat) (cs ds es es':List PV):ay MD t33 k 104 1 ⟨[(1, .pv (.sl 1 m ds)),(5, .bs 17 0 1 L),(6, .mv 150 17 0 1 L),(7, .pv (iv i)),(8, .pv (ai x)),(20, .pv (.sl 1 n cs)),(21, .pv (iv n)),(22, .pv (iv i)),(27, .pv (.sl 1 m ds)),(28, .pv (iv m)),(29, .pv (iv j))],[(17,es)],[],[]⟩ [.c true, .a 32 [ai y], .i 37 (i+j:Nat), .m (.pv (.aQ [])) es', .i 41 (j+1:Nat)]=
 some ((Xt.normal,St.mk [(1,AV.pv (PV.sl 1 m ds)),(5,AV.bs 17 0 1 L),(6,AV.mv 150 17 0 1 L),(7,AV.pv (PV.lit (Value.int IntKind.i64 (↑i:Int)))),(8,AV.pv (PV.lit (Value.int IntKind.u32 (↑x:Int)))),(20,AV.pv (PV.sl 1 n cs)),(21,AV.pv (PV.lit (Value.int IntKind.i64 (↑n:Int)))),(22,AV.pv (PV.lit (Value.int IntKind.i64 (↑i:Int)))),(27,AV.pv (PV.sl 1 m ds)),(28,AV.pv (PV.lit (Value.int IntKind.i64 (↑m:Int)))),(29,AV.pv (PV.lit (Value.int IntKind.i64 (↑(j+(1:Nat)):Int))))] [(17,es')] [] []),[],[decide ((↑j:Int)<(↑m:Int))=true,aK ds 1 (↑j:Int) m [PV.lit (Value.int IntKind.u32 (↑y:Int))],IntKind.i64.wrap ((↑i:Int)+(↑j:Int))=(↑(i+j):Int),ey t33 150 [MA.g es 0 1 L,MA.p (PV.lit (Value.int IntKind.i64 (↑(i+j):Int))),MA.p (PV.lit (Value.int IntKind.u32 (↑x:Int))),MA.p (PV.lit (Value.int IntKind.u32 (↑y:Int)))] (MR.pv (PV.aQ [])) es',IntKind.i64.wrap ((↑j:Int)+(1:Int))=(↑(j+(1:Nat)):Int)]):=by kernel_rfl
theorem Q5 (k n m L i j x:Nat) (cs ds es:List PV):ay MD t33 k 104 1 ⟨[(1, .pv (.sl 1 m ds)),(5, .bs 17 0 1 L),(6, .mv 150 17 0 1 L),(7, .pv (iv i)),(8, .pv (ai x)),(20, .pv (.sl 1 n cs)),(21, .pv (iv n)),(22, .pv (iv i)),(27, .pv (.sl 1 m ds)),(28, .pv (iv m)),(29, .pv (iv j))],[(17,es)],[],[]⟩ [.c false]=
 some ((Xt.exit 2,St.mk [(1,AV.pv (PV.sl 1 m ds)),(5,AV.bs 17 0 1 L),(6,AV.mv 150 17 0 1 L),(7,AV.pv (PV.lit (Value.int IntKind.i64 (↑i:Int)))),(8,AV.pv (PV.lit (Value.int IntKind.u32 (↑x:Int)))),(20,AV.pv (PV.sl 1 n cs)),(21,AV.pv (PV.lit (Value.int IntKind.i64 (↑n:Int)))),(22,AV.pv (PV.lit (Value.int IntKind.i64 (↑i:Int)))),(27,AV.pv (PV.sl 1 m ds)),(28,AV.pv (PV.lit (Value.int IntKind.i64 (↑m:Int)))),(29,AV.pv (PV.lit (Value.int IntKind.i64 (↑j:Int)))),(30,AV.pv (PV.lit (Value.bool false)))] [(17,es)] [] []),[],[decide ((↑j:Int)<(↑m:Int))=false]):=by kernel_rfl
theorem NK:aH MD.P t33:=sE (ak (ax fun l h=>mB l h.1 h.2) aF) (p7 KF oS)
theorem BJ (b:Nat):∀n,fd b n 0=List.replicate n 0
 |0=>rfl
 |n+1=>by
  have h:fd b (n+1) 0=0%b::fd b n (0 / b):=rfl
  rw [h,Nat.zero_mod,Nat.zero_div,BJ b n];rfl
def iu (b x y i j:Nat):Nat:=x%b^i* y+x / b^i%b* (y%b^j)* b^i
theorem HP (b x y i j:Nat):iu b x y i (j+1)=iu b x y i j+b^(i+j)* (x / b^i%b* (y / b^j%b)):=by
 unfold iu
 rw [Nat.mod_pow_succ,Nat.mul_add,Nat.add_mul,Nat.pow_add,Nat.add_assoc]
 congr 2
 ac_rfl
theorem HO (b x y i m:Nat) (h:y<b^m):iu b x y i m=iu b x y (i+1) 0:=by
 unfold iu
 rw [Nat.mod_eq_of_lt h,Nat.pow_zero,Nat.mod_one,Nat.mul_zero,Nat.zero_mul,Nat.add_zero,Nat.mod_pow_succ,Nat.add_mul]
 congr 1
 ac_rfl
theorem Fv (b x y i j:Nat):iu b x y i j≤x* y:=by
 have h:x%b^(i+1)≤x:=Nat.mod_le _ _
 have h2:iu b x y i j≤x%b^(i+1)* y:=by
  unfold iu
  rw [Nat.mod_pow_succ,Nat.add_mul]
  have:x / b^i%b* (y%b^j)* b^i≤x / b^i%b* y* b^i:=Nat.mul_le_mul_right _ (Nat.mul_le_mul_left _ (Nat.mod_le _ _))
  have e:b^i* (x / b^i%b)* y=x / b^i%b* y* b^i:=by ac_rfl
  rw [e];omega
 exact Nat.le_trans h2 (Nat.mul_le_mul_right _ h)
theorem HQ (b x y:Nat):iu b x y 0 0=0:=by
 unfold iu
 simp [Nat.mod_one]
theorem KC (b x y n:Nat) (h:x<b^n):iu b x y n 0=x* y:=by
 unfold iu
 rw [Nat.mod_eq_of_lt h,Nat.pow_zero,Nat.mod_one,Nat.mul_zero,Nat.zero_mul,Nat.add_zero]
def SO (a b n m L i:Nat) (e:List (Nat×AV)):St:=⟨(1, .pv (.sl 1 m (us (dg (4294967296:Nat) b))))::(5, .bs 17 0 1 L)::(6, .mv 150 17 0 1 L)::(20, .pv (.sl 1 n (us (dg (4294967296:Nat) a))))::(21, .pv (iv n))::(22, .pv (iv i))::e,[(17,us (fd (4294967296:Nat) L (iu (4294967296:Nat) a b i 0)))],[],[]⟩
def SI (a b n m L i x j:Nat) (e:List (Nat×AV)):St:=⟨(1, .pv (.sl 1 m (us (dg (4294967296:Nat) b))))::(5, .bs 17 0 1 L)::(6, .mv 150 17 0 1 L)::(7, .pv (iv i))::(8, .pv (ai x))::(20, .pv (.sl 1 n (us (dg (4294967296:Nat) a))))::(21, .pv (iv n))::(22, .pv (iv i))::(27, .pv (.sl 1 m (us (dg (4294967296:Nat) b))))::(28, .pv (iv m))::(29, .pv (iv j))::e,[(17,us (fd (4294967296:Nat) L (iu (4294967296:Nat) a b i j)))],[],[]⟩
theorem B8 {a b n m L:Nat} (hn:n=(dg (4294967296:Nat) a).length) (hm:m=(dg (4294967296:Nat) b).length) (hL:L=n+m+1):a* b<(4294967296:Nat)^L:=by
 have h1:=cz (b:=(4294967296:Nat)) (n:=a) (by decide)
 have h2:=cz (b:=(4294967296:Nat)) (n:=b) (by decide)
 rw [←hn] at h1;rw [←hm] at h2
 have h3:=Nat.mul_lt_mul'' h1 h2
 rw [←Nat.pow_add] at h3
 exact Nat.lt_of_lt_of_le h3 (Nat.pow_le_pow_right (by decide) (by omega))
theorem HA (k a b n m L i x:Nat) (hn:n=(dg (4294967296:Nat) a).length) (hm:m=(dg (4294967296:Nat) b).length) (hL:L=n+m+1) (hs:L<2^41) (hi:i<n) (hx:x=a / (4294967296:Nat)^i%(4294967296:Nat)) (hk:m<k):bh (aU MD t33 k 104 1) k (SI a b n m L i x 0 [])=some (.exit 2,SI a b n m L i x m [(30, .pv (bv false))]):=by
 have hP:=B8 hn hm hL
 refine bK (f:=aU MD t33 k 104 1) (S:=fun j=>SI a b n m L i x j []) (n:=m) (fun j hj=> ?_)
  (aq (Q5 k n m L i m x (us (dg (4294967296:Nat) a)) (us (dg (4294967296:Nat) b)) (us (fd (4294967296:Nat) L (iu (4294967296:Nat) a b i m)))) ⟨decide_eq_false (by omega),trivial⟩) (by simp) k hk
 have hy:=iC (b:=(4294967296:Nat)) (v:=b) (by decide) (i:=j) (by omega)
 have hr:aK (us (dg (4294967296:Nat) b)) 1 (j:Int) m [ai (b / (4294967296:Nat)^j%(4294967296:Nat))]:=by rw [hm];exact cO hy rfl
 have My:b / (4294967296:Nat)^j%(4294967296:Nat)<(4294967296:Nat):=Nat.mod_lt _ (by decide)
 have hxl:x<(4294967296:Nat):=by rw [hx];exact Nat.mod_lt _ (by decide)
 have st:=HP (4294967296:Nat) a b i j
 rw [←hx] at st
 have l1:=Fv (4294967296:Nat) a b i j
 have l2:=Fv (4294967296:Nat) a b i (j+1)
 have hv:val (4294967296:Nat) (fd (4294967296:Nat) L (iu (4294967296:Nat) a b i j))=iu (4294967296:Nat) a b i j:=by rw [ji (by decide),Nat.mod_eq_of_lt (by omega)]
 have hp:=KE (W:=fd (4294967296:Nat) L (iu (4294967296:Nat) a b i j)) (p:=i+j) (x:=x) (y:=b / (4294967296:Nat)^j%(4294967296:Nat)) (by rw [bE];exact hs) (fJ (by decide) _ _) hxl My (by rw [bE];omega) (by rw [hv,bE,←st];omega)
 rw [hv,bE,←st] at hp
 exact aq (Q4 k n m L i j x (b / (4294967296:Nat)^j%(4294967296:Nat)) (us (dg (4294967296:Nat) a)) (us (dg (4294967296:Nat) b)) (us (fd (4294967296:Nat) L (iu (4294967296:Nat) a b i j))) (us (fd (4294967296:Nat) L (iu (4294967296:Nat) a b i (j+1))))) ⟨decide_eq_true (by omega),hr,aR (by omega) (by omega),hp,aR (by omega) (by omega),trivial⟩
theorem HB (k a b n m L:Nat) (hn:n=(dg (4294967296:Nat) a).length) (hm:m=(dg (4294967296:Nat) b).length) (hL:L=n+m+1) (hs:L<2^41) (hk:n+m<k):bh (aU MD t33 k 104 0) k (SO a b n m L 0 [])=some (.exit 0,SO a b n m L n [(23, .pv (bv false))]):=by
 refine bK (f:=aU MD t33 k 104 0) (S:=fun i=>SO a b n m L i []) (n:=n) (fun i hi=> ?_)
  (aq (Q3 k n m L n (us (dg (4294967296:Nat) a)) (us (dg (4294967296:Nat) b)) (us (fd (4294967296:Nat) L (iu (4294967296:Nat) a b n 0)))) ⟨decide_eq_false (by omega),trivial⟩) (by simp) k (by omega)
 have hx:=iC (b:=(4294967296:Nat)) (v:=a) (by decide) (i:=i) (by omega)
 have hr:aK (us (dg (4294967296:Nat) a)) 1 (i:Int) n [ai (a / (4294967296:Nat)^i%(4294967296:Nat))]:=by rw [hn];exact cO hx rfl
 have lp:=HA k a b n m L i (a / (4294967296:Nat)^i%(4294967296:Nat)) hn hm hL hs hi rfl (by omega)
 have nx:=HO (4294967296:Nat) a b i m (by rw [hm];exact cz (by decide))
 unfold SI at lp
 rw [nx] at lp
 exact aq (Q2 k n m L i (a / (4294967296:Nat)^i%(4294967296:Nat)) (us (dg (4294967296:Nat) a)) (us (dg (4294967296:Nat) b)) (us (fd (4294967296:Nat) L (iu (4294967296:Nat) a b i 0))) (us (fd (4294967296:Nat) L (iu (4294967296:Nat) a b (i+1) 0)))) ⟨decide_eq_true (by omega),hr,lp,aR (by omega) (by omega),trivial⟩
theorem MW (a b:Nat) (ha:(dg (4294967296:Nat) a).length<2^38) (hb:(dg (4294967296:Nat) b).length<2^38):az P0 104 [nat (dg (4294967296:Nat) a),nat (dg (4294967296:Nat) b)] (one (nat (dg (4294967296:Nat) (a* b)))):=by
 obtain ⟨n,hn⟩:∃n,n=(dg (4294967296:Nat) a).length:=⟨_,rfl⟩
 obtain ⟨m,hm⟩:∃m,m=(dg (4294967296:Nat) b).length:=⟨_,rfl⟩
 have lp:=HB (n+m+1) a b n m (n+m+1) hn hm rfl (by omega) (by omega)
 have hP:=B8 (L:=n+m+1) hn hm rfl
 have hend:=KC (4294967296:Nat) a b n (by rw [hn];exact cz (by decide))
 unfold SO at lp
 rw [hend,HQ,BJ] at lp
 have z:=iU (n:=n+m+1)
 have tr:=sF (n:=n+m+1) (v:=a* b) (by omega) hP
 have fin:cF (us (fd (4294967296:Nat) (n+m+1) (a* b))) 0 ((n+m+1)* 1) (us (fd (4294967296:Nat) (n+m+1) (a* b))):=iY _ _ _ (by rw [List.drop_zero,Nat.mul_one,List.take_of_length_le (by rw [bE];omega)])
 have:=aj ah NK (by rfl) (Vx (n+m+1) n m (n+m) (us (dg (4294967296:Nat) a)) (us (dg (4294967296:Nat) b)) (us (List.replicate (n+m+1) 0)) (us (fd (4294967296:Nat) (n+m+1) (a* b))) (us (fd (4294967296:Nat) (n+m+1) (a* b))) (nat (dg (4294967296:Nat) (a* b)))) ⟨aR (by omega) (by omega),aR (by omega) (by omega),vr (by omega),decide_eq_false (by omega),z,lp,fin,tr,trivial⟩
 unfold nat at this ⊢
 rw [←hn,←hm]
 exact this
end Go.Proofs.YtibbgjafjhcemaaGreatDoor.Cul
namespace Go.Proofs.YtibbgjafjhcemaaGreatDoor.Cul
open Go Go.RowKit
noncomputable def K8:List PV→Option RV:=bJ (fun x:Nat×Nat=>(dg (4294967296:Nat) x.1).length<2^39∧(dg (4294967296:Nat) x.2).length<2^39) (fun x=>[nat (dg (4294967296:Nat) x.1),nat (dg (4294967296:Nat) x.2)]) (fun x=>one (nat (dg (4294967296:Nat) (x.1+x.2))))
noncomputable def Jl:List PV→Option RV:=bJ (fun x:Nat×Nat=>x.2≤x.1∧0<x.1∧(dg (4294967296:Nat) x.1).length<2^39) (fun x=>[nat (dg (4294967296:Nat) x.1),nat (dg (4294967296:Nat) x.2)]) (fun x=>one (nat (dg (4294967296:Nat) (x.1 - x.2))))
noncomputable def MV:List PV→Option RV:=bJ (fun x:Nat×Nat=>(dg (4294967296:Nat) x.1).length<2^38∧(dg (4294967296:Nat) x.2).length<2^38) (fun x=>[nat (dg (4294967296:Nat) x.1),nat (dg (4294967296:Nat) x.2)]) (fun x=>one (nat (dg (4294967296:Nat) (x.1* x.2))))
noncomputable def t34:Cl:=bM [(94,eU),(99,Fp),(100,K8),(102,v9),(103,Jl),(104,MV),(101,n7)]
theorem U5 (k na nb nc:Nat) (g h e:Bool) (s t u:ByteArray) (xs ys zs:List PV):aA MD t34 k 55 [iz g s,iz h t] [.r (one (bv true)), .r (one (bv true)), .r (one (.sl 1 na xs)), .r (one (.sl 1 nb ys)), .c true, .r (one (.sl 1 nc zs)), .r (one (iz e u))]=
 some (RV.mk (PV.ag [PV.lit (Value.bool e),PV.lit (Value.string u)]) none,[aa t34 94 [PV.ag [PV.lit (Value.bool g),PV.lit (Value.string s)]] (RV.mk (PV.lit (Value.bool true)) none),aa t34 94 [PV.ag [PV.lit (Value.bool h),PV.lit (Value.string t)]] (RV.mk (PV.lit (Value.bool true)) none),aa t34 99 [PV.lit (Value.string s)] (RV.mk (PV.sl 1 na xs) none),aa t34 99 [PV.lit (Value.string t)] (RV.mk (PV.sl 1 nb ys) none),(g==h)=true,aa t34 100 [PV.sl 1 na xs,PV.sl 1 nb ys] (RV.mk (PV.sl 1 nc zs) none),aa t34 101 [PV.sl 1 nc zs,PV.lit (Value.bool g)] (RV.mk (PV.ag [PV.lit (Value.bool e),PV.lit (Value.string u)]) none)]):=by kernel_rfl
theorem U6 (k na nb nc:Nat) (g h e:Bool) (s t u:ByteArray) (xs ys zs:List PV) (c:Int):aA MD t34 k 55 [iz g s,iz h t] [.r (one (bv true)), .r (one (bv true)), .r (one (.sl 1 na xs)), .r (one (.sl 1 nb ys)), .c false, .r (one (iv c)), .c true, .r (one (.sl 1 nc zs)), .r (one (iz e u))]=
 some (RV.mk (PV.ag [PV.lit (Value.bool e),PV.lit (Value.string u)]) none,[aa t34 94 [PV.ag [PV.lit (Value.bool g),PV.lit (Value.string s)]] (RV.mk (PV.lit (Value.bool true)) none),aa t34 94 [PV.ag [PV.lit (Value.bool h),PV.lit (Value.string t)]] (RV.mk (PV.lit (Value.bool true)) none),aa t34 99 [PV.lit (Value.string s)] (RV.mk (PV.sl 1 na xs) none),aa t34 99 [PV.lit (Value.string t)] (RV.mk (PV.sl 1 nb ys) none),(g==h)=false,aa t34 102 [PV.sl 1 na xs,PV.sl 1 nb ys] (RV.mk (PV.lit (Value.int IntKind.i64 c)) none),decide (c≥(0:Int))=true,aa t34 103 [PV.sl 1 na xs,PV.sl 1 nb ys] (RV.mk (PV.sl 1 nc zs) none),aa t34 101 [PV.sl 1 nc zs,PV.lit (Value.bool g)] (RV.mk (PV.ag [PV.lit (Value.bool e),PV.lit (Value.string u)]) none)]):=by kernel_rfl
theorem U7 (k na nb nc:Nat) (g h e:Bool) (s t u:ByteArray) (xs ys zs:List PV) (c:Int):aA MD t34 k 55 [iz g s,iz h t] [.r (one (bv true)), .r (one (bv true)), .r (one (.sl 1 na xs)), .r (one (.sl 1 nb ys)), .c false, .r (one (iv c)), .c false, .r (one (.sl 1 nc zs)), .r (one (iz e u))]=
 some (RV.mk (PV.ag [PV.lit (Value.bool e),PV.lit (Value.string u)]) none,[aa t34 94 [PV.ag [PV.lit (Value.bool g),PV.lit (Value.string s)]] (RV.mk (PV.lit (Value.bool true)) none),aa t34 94 [PV.ag [PV.lit (Value.bool h),PV.lit (Value.string t)]] (RV.mk (PV.lit (Value.bool true)) none),aa t34 99 [PV.lit (Value.string s)] (RV.mk (PV.sl 1 na xs) none),aa t34 99 [PV.lit (Value.string t)] (RV.mk (PV.sl 1 nb ys) none),(g==h)=false,aa t34 102 [PV.sl 1 na xs,PV.sl 1 nb ys] (RV.mk (PV.lit (Value.int IntKind.i64 c)) none),decide (c≥(0:Int))=false,aa t34 103 [PV.sl 1 nb ys,PV.sl 1 na xs] (RV.mk (PV.sl 1 nc zs) none),aa t34 101 [PV.sl 1 nc zs,PV.lit (Value.bool h)] (RV.mk (PV.ag [PV.lit (Value.bool e),PV.lit (Value.string u)]) none)]):=by kernel_rfl
theorem U8 (k na nb nc:Nat) (g h e d:Bool) (s t u:ByteArray) (xs ys zs:List PV):aA MD t34 k 56 [iz g s,iz h t] [.r (one (bv true)), .r (one (bv true)), .r (one (.sl 1 na xs)), .r (one (.sl 1 nb ys)), .r (one (.sl 1 nc zs)), .c d, .r (one (iz e u))]=
 some (RV.mk (PV.ag [PV.lit (Value.bool e),PV.lit (Value.string u)]) none,[aa t34 94 [PV.ag [PV.lit (Value.bool g),PV.lit (Value.string s)]] (RV.mk (PV.lit (Value.bool true)) none),aa t34 94 [PV.ag [PV.lit (Value.bool h),PV.lit (Value.string t)]] (RV.mk (PV.lit (Value.bool true)) none),aa t34 99 [PV.lit (Value.string s)] (RV.mk (PV.sl 1 na xs) none),aa t34 99 [PV.lit (Value.string t)] (RV.mk (PV.sl 1 nb ys) none),aa t34 104 [PV.sl 1 na xs,PV.sl 1 nb ys] (RV.mk (PV.sl 1 nc zs) none),(!g==h)=d,aa t34 101 [PV.sl 1 nc zs,PV.lit (Value.bool d)] (RV.mk (PV.ag [PV.lit (Value.bool e),PV.lit (Value.string u)]) none)]):=by kernel_rfl
theorem vO:aH MD.P t34:=aI
 (ak (ax fun x _=>nj x.1 x.2)
 (ak (ax fun s h=>Dn s h)
 (ak (ax fun x h=>K9 x.1 x.2 h.1 h.2)
 (ak (ax fun x h=>uv x.1 x.2 h.1.1 h.1.2 h.2.1 h.2.2)
 (ak (ax fun x h=>Kl x.1 x.2 h.1 h.2.1 h.2.2)
 (ak (ax fun x h=>MW x.1 x.2 h.1 h.2)
 (ak (ax fun x h=>sH x.1 h.1 h.2 x.2) aF)))))))
theorem tI {a b:Nat×Nat} (e:[nat (dg (4294967296:Nat) a.1),nat (dg (4294967296:Nat) a.2)]=[nat (dg (4294967296:Nat) b.1),nat (dg (4294967296:Nat) b.2)]):a=b:=by
 simp only [List.cons.injEq,and_true] at e
 exact Prod.ext (uy (fH e.1)) (uy (fH e.2))
theorem JV {a b:Nat} (h1:(dg (4294967296:Nat) a).length<2^39) (h2:(dg (4294967296:Nat) b).length<2^39):K8 [nat (dg (4294967296:Nat) a),nat (dg (4294967296:Nat) b)]=some (one (nat (dg (4294967296:Nat) (a+b)))):=
 aO (a:=(a,b)) (enc:=fun x:Nat×Nat=>[nat (dg (4294967296:Nat) x.1),nat (dg (4294967296:Nat) x.2)]) (fun a b e=>by rw [tI e]) ⟨h1,h2⟩
theorem zS {a b:Nat} (h:b≤a) (h0:0<a) (h1:(dg (4294967296:Nat) a).length<2^39):Jl [nat (dg (4294967296:Nat) a),nat (dg (4294967296:Nat) b)]=some (one (nat (dg (4294967296:Nat) (a - b)))):=
 aO (a:=(a,b)) (enc:=fun x:Nat×Nat=>[nat (dg (4294967296:Nat) x.1),nat (dg (4294967296:Nat) x.2)]) (fun a b e=>by rw [tI e]) ⟨h,h0,h1⟩
theorem Kv {a b:Nat} (h1:(dg (4294967296:Nat) a).length<2^38) (h2:(dg (4294967296:Nat) b).length<2^38):MV [nat (dg (4294967296:Nat) a),nat (dg (4294967296:Nat) b)]=some (one (nat (dg (4294967296:Nat) (a* b)))):=
 aO (a:=(a,b)) (enc:=fun x:Nat×Nat=>[nat (dg (4294967296:Nat) x.1),nat (dg (4294967296:Nat) x.2)]) (fun a b e=>by rw [tI e]) ⟨h1,h2⟩
theorem sG (v:Nat) (hv:(dg (4294967296:Nat) v).length<2^40) (g:Bool) (z:Int) (hz:(if g then -(v:Int) else v)=z):n7 [nat (dg (4294967296:Nat) v),bv g]=some (one (.ag (zc z))):=by
 have:=nk hv (bU (by decide) v) g
 rw [bP (by decide),hz] at this
 exact this
def Sm (z:Int):Prop:=(af z.natAbs).size<2^28
theorem Sm.len {z:Int} (h:Sm z):(dg (4294967296:Nat) z.natAbs).length<2^28:=by
 unfold Sm at h
 have h1:=cz (b:=256) (n:=z.natAbs) (by decide)
 have h2:(dg 256 z.natAbs).length=(af z.natAbs).size:=by rw [←cU,bL]
 rw [h2] at h1
 have h3:256^(af z.natAbs).size≤(4294967296:Nat)^(af z.natAbs).size:=Nat.pow_le_pow_left (by decide) _
 have:=gS (b:=(4294967296:Nat)) (n:=z.natAbs) (k:=(af z.natAbs).size) (by decide) (by omega)
 omega
theorem Sm.of_lt {z:Int} {k:Nat} (h:z.natAbs<256^k) (hk:k<2^28):Sm z:=by
 have:=gS (b:=256) (n:=z.natAbs) (k:=k) (by decide) h
 have h2:(dg 256 z.natAbs).length=(af z.natAbs).size:=by rw [←cU,bL]
 unfold Sm;omega
theorem o9 (z:Int):eU [.ag (zc z)]=some (one (bv true)):=by
 have:=cy (decide (z<0)) (af z.natAbs)
 rwa [lY] at this
theorem B3 {z:Int} (h:Sm z):Fp [sv (af z.natAbs)]=some (one (nat (dg (4294967296:Nat) z.natAbs))):=by
 have h':(af z.natAbs).size<2^30:=by unfold Sm at h;omega
 have:=Ah h'
 rwa [fP] at this
theorem Bu (a b:Int) (ha:Sm a) (hb:Sm b):az P0 55 [.ag (zc a), .ag (zc b)] (one (.ag (zc (a+b)))):=by
 have v1:=o9 a
 have v2:=o9 b
 have o1:=B3 ha
 have o2:=B3 hb
 have l1:=ha.len
 have l2:=hb.len
 by_cases hs:(decide (a<0))=(decide (b<0))
 · have c:=JV (a:=a.natAbs) (b:=b.natAbs) (by omega) (by omega)
   have hl:(dg (4294967296:Nat) (a.natAbs+b.natAbs)).length<2^40:=by
    have h1:=cz (b:=(4294967296:Nat)) (n:=a.natAbs) (by decide)
    have h2:=cz (b:=(4294967296:Nat)) (n:=b.natAbs) (by decide)
    obtain ⟨L,hL⟩:∃L,L=(dg (4294967296:Nat) a.natAbs).length+(dg (4294967296:Nat) b.natAbs).length:=⟨_,rfl⟩
    have h3:(4294967296:Nat)^(dg (4294967296:Nat) a.natAbs).length≤(4294967296:Nat)^L:=Nat.pow_le_pow_right (by decide) (by omega)
    have h4:(4294967296:Nat)^(dg (4294967296:Nat) b.natAbs).length≤(4294967296:Nat)^L:=Nat.pow_le_pow_right (by decide) (by omega)
    have:=gS (b:=(4294967296:Nat)) (n:=a.natAbs+b.natAbs) (k:=L+1) (by decide) (by rw [Nat.pow_succ];omega)
    omega
   have w:=sG (a.natAbs+b.natAbs) hl (decide (a<0)) (a+b) (by
    by_cases h:a<0<;>by_cases h2:b<0<;>simp [h,h2] at hs ⊢<;>omega)
   exact aj ah vO (by rfl) (U5 1 _ _ _ (decide (a<0)) (decide (b<0)) (decide (a+b<0)) (af a.natAbs) (af b.natAbs) (af (a+b).natAbs) _ _ _) ⟨v1,v2,o1,o2,by rw [hs];exact beq_self_eq_true _,c,w,trivial⟩
 · have hc:=rX (l:=dg (4294967296:Nat) a.natAbs) (m:=dg (4294967296:Nat) b.natAbs) (bU (by decide) _) (bU (by decide) _) (by omega) (by omega)
   have hlt:=uu a.natAbs b.natAbs
   by_cases Hl:a.natAbs<b.natAbs
   · have c:=zS (a:=b.natAbs) (b:=a.natAbs) (by omega) (by omega) (by omega)
     have hl:=cY (b:=(4294967296:Nat)) (x:=b.natAbs - a.natAbs) (y:=b.natAbs) (by decide) (by omega)
     have w:=sG (b.natAbs - a.natAbs) (by omega) (decide (b<0)) (a+b) (by
      by_cases h:a<0<;>by_cases h2:b<0<;>simp [h,h2] at hs ⊢<;>omega)
     exact aj ah vO (by rfl) (U7 1 _ _ _ (decide (a<0)) (decide (b<0)) (decide (a+b<0)) (af a.natAbs) (af b.natAbs) (af (a+b).natAbs) _ _ _ _) ⟨v1,v2,o1,o2,beq_eq_false_iff_ne.2 hs,hc,decide_eq_false (by have:=hlt.2 Hl;omega),c,w,trivial⟩
   · have h0:0<a.natAbs:=by
       rcases Nat.eq_zero_or_pos a.natAbs with h|h
       · exfalso
         apply hs
         have e1:a=0:=by omega
         have e2:b=0:=by omega
         rw [e1,e2]
       · exact h
     have c:=zS (a:=a.natAbs) (b:=b.natAbs) (by omega) h0 (by omega)
     have hl:=cY (b:=(4294967296:Nat)) (x:=a.natAbs - b.natAbs) (y:=a.natAbs) (by decide) (by omega)
     have w:=sG (a.natAbs - b.natAbs) (by omega) (decide (a<0)) (a+b) (by
      by_cases h:a<0<;>by_cases h2:b<0<;>simp [h,h2] at hs ⊢<;>omega)
     exact aj ah vO (by rfl) (U6 1 _ _ _ (decide (a<0)) (decide (b<0)) (decide (a+b<0)) (af a.natAbs) (af b.natAbs) (af (a+b).natAbs) _ _ _ _) ⟨v1,v2,o1,o2,beq_eq_false_iff_ne.2 hs,hc,decide_eq_true (by have:=mt hlt.1 Hl;omega),c,w,trivial⟩
theorem Kw {a b:Int} (ha:Sm a) (hb:Sm b):(dg (4294967296:Nat) (a.natAbs* b.natAbs)).length<2^40:=by
 have l1:=ha.len
 have l2:=hb.len
 have h1:=cz (b:=(4294967296:Nat)) (n:=a.natAbs) (by decide)
 have h2:=cz (b:=(4294967296:Nat)) (n:=b.natAbs) (by decide)
 have h3:=Nat.mul_lt_mul'' h1 h2
 rw [←Nat.pow_add] at h3
 have:=gS (b:=(4294967296:Nat)) (by decide) h3
 omega
theorem BY (a b:Int) (ha:Sm a) (hb:Sm b):az P0 56 [.ag (zc a), .ag (zc b)] (one (.ag (zc (a* b)))):=by
 have v1:=o9 a
 have v2:=o9 b
 have o1:=B3 ha
 have o2:=B3 hb
 have l1:=ha.len
 have l2:=hb.len
 have c:=Kv (a:=a.natAbs) (b:=b.natAbs) (by omega) (by omega)
 have w:=sG (a.natAbs* b.natAbs) (Kw ha hb) (!(decide (a<0))==(decide (b<0))) (a* b) (by
  rw [Int.natCast_mul]
  by_cases h:a<0<;>by_cases h2:b<0<;>simp [h,h2]
  · rw [Int.ofNat_natAbs_of_nonpos (by omega),Int.ofNat_natAbs_of_nonpos (by omega),Int.neg_mul_neg]
  · rw [Int.ofNat_natAbs_of_nonpos (by omega),Int.natAbs_of_nonneg (by omega),Int.neg_mul,Int.neg_neg]
  · rw [Int.natAbs_of_nonneg (by omega),Int.ofNat_natAbs_of_nonpos (by omega),Int.mul_neg,Int.neg_neg]
  · rw [Int.natAbs_of_nonneg (by omega),Int.natAbs_of_nonneg (by omega)])
 exact aj ah vO (by rfl) (U8 1 _ _ _ (decide (a<0)) (decide (b<0)) (decide (a* b<0)) (!(decide (a<0))==(decide (b<0))) (af a.natAbs) (af b.natAbs) (af (a* b).natAbs) _ _ _) ⟨v1,v2,o1,o2,c,rfl,w,trivial⟩
end Go.Proofs.YtibbgjafjhcemaaGreatDoor.Cul
namespace Go.Proofs.YtibbgjafjhcemaaGreatDoor.Cul
open Go Go.RowKit
def kF:PV:= .lit (.slice none 0 0)
noncomputable def s6 (f g:List PV→Option RV):List PV→Option RV:=fun a=>match f a with
 |some r=>some r
 |none=>g a
noncomputable def Jp:List PV→Option RV:=bJ (fun _:Unit=>True) (fun _=>[kF]) (fun _=>one (sv ⟨#[]⟩))
noncomputable def Gf:Cl:=bM [(148,Jp)]
noncomputable def yD:List PV→Option RV:=bJ (fun _:Bool=>True) (fun b=>[kF,bv b]) (fun _=>one (.ag (zc 0)))
noncomputable def t35:Cl:=bM [(94,eU),(99,Fp),(186,GW),(101,s6 n7 yD)]
theorem Vu (k:Nat):aA MD t5 k 148 [kF] [.i 7 0, .c true, .i 11 (-1), .u 1, .c false, .w 43 ⟨#[]⟩, .r (one (sv ⟨#[]⟩))]=
 some (RV.mk (PV.lit (Value.string (ByteArray.mk #[]))) none,[(0:Int)=(0:Int),(0:Int)≤(0:Int)∧(0:Int)≤(0:Int)∧(0:Int)* (↑(MD.P.bytesOf (5:Nat)):Int)≤(↑room:Int)∧(0:Int)≤(↑room:Int),true=true,(-1:Int)=(-1:Int),1≤k,false=false,jv [] (ByteArray.mk #[]),aa t5 189 [PV.lit (Value.string (ByteArray.mk #[])),PV.lit (Value.string (ByteArray.mk #[(0:UInt8)]))] (RV.mk (PV.lit (Value.string (ByteArray.mk #[]))) none)]):=by kernel_rfl
theorem XO (k:Nat):aA MD Gf k 101 [kF,bv false] [.r (one (sv ⟨#[]⟩))]=
 some (RV.mk (PV.ag [PV.lit (Value.bool false),PV.lit (Value.string (ByteArray.mk #[]))]) none,[aa Gf 148 [PV.lit (Value.slice none 0 0)] (RV.mk (PV.lit (Value.string (ByteArray.mk #[]))) none)]):=by kernel_rfl
theorem XP (k:Nat):aA MD Gf k 101 [kF,bv true] [.r (one (sv ⟨#[]⟩)), .c false]=
 some (RV.mk (PV.ag [PV.lit (Value.bool false),PV.lit (Value.string (ByteArray.mk #[]))]) none,[aa Gf 148 [PV.lit (Value.slice none 0 0)] (RV.mk (PV.lit (Value.string (ByteArray.mk #[]))) none),false=false]):=by kernel_rfl
theorem S5 (k na nb nq nr:Nat) (g h e d:Bool) (s t u:ByteArray) (xs ys zs ws:List PV):aA MD t35 k 151 [iz g s,iz h t] [.r (one (bv true)), .r (one (bv true)), .c false, .r (one (.sl 1 na xs)), .r (one (.sl 1 nb ys)), .r (one (.aQ [.sl 1 nq zs, .sl 1 nr ws])), .c d, .r (one (iz e u)), .r (one (iz false ⟨#[]⟩)), .c false]=
 some (RV.mk (PV.aQ [PV.ag [PV.lit (Value.bool e),PV.lit (Value.string u)],PV.ag [PV.lit (Value.bool false),PV.lit (Value.string (ByteArray.mk #[]))],PV.lit (Value.int IntKind.i64 (0:Int))]) none,[aa t35 94 [PV.ag [PV.lit (Value.bool g),PV.lit (Value.string s)]] (RV.mk (PV.lit (Value.bool true)) none),aa t35 94 [PV.ag [PV.lit (Value.bool h),PV.lit (Value.string t)]] (RV.mk (PV.lit (Value.bool true)) none),(t.toList==(ByteArray.mk #[]).toList)=false,aa t35 99 [PV.lit (Value.string s)] (RV.mk (PV.sl 1 na xs) none),aa t35 99 [PV.lit (Value.string t)] (RV.mk (PV.sl 1 nb ys) none),aa t35 186 [PV.sl 1 na xs,PV.sl 1 nb ys] (RV.mk (PV.aQ [PV.sl 1 nq zs,PV.sl 1 nr ws]) none),(!g==h)=d,aa t35 101 [PV.sl 1 nq zs,PV.lit (Value.bool d)] (RV.mk (PV.ag [PV.lit (Value.bool e),PV.lit (Value.string u)]) none),aa t35 101 [PV.sl 1 nr ws,PV.lit (Value.bool g)] (RV.mk (PV.ag [PV.lit (Value.bool false),PV.lit (Value.string (ByteArray.mk #[]))]) none),false=false,St.mk [(4,AV.bp 4 0),(5,AV.bp 5 0),(6,AV.pv (PV.lit (Value.int IntKind.i64 (0:Int))))] [(4,[PV.lit (Value.bool e),PV.lit (Value.string u)]),(5,[PV.lit (Value.bool false),PV.lit (Value.string (ByteArray.mk #[]))])] [] []=St.mk [(4,AV.bp 4 0),(5,AV.bp 5 0),(6,AV.pv (PV.lit (Value.int IntKind.i64 (0:Int))))] [(4,[PV.lit (Value.bool e),PV.lit (Value.string u)]),(5,[PV.lit (Value.bool false),PV.lit (Value.string (ByteArray.mk #[]))])] [] [],St.mk [(4,AV.bp 4 0),(5,AV.bp 5 0),(6,AV.pv (PV.lit (Value.int IntKind.i64 (0:Int))))] [(4,[PV.lit (Value.bool e),PV.lit (Value.string u)]),(5,[PV.lit (Value.bool false),PV.lit (Value.string (ByteArray.mk #[]))])] [] []=St.mk [(4,AV.bp 4 0),(5,AV.bp 5 0),(6,AV.pv (PV.lit (Value.int IntKind.i64 (0:Int))))] [(4,[PV.lit (Value.bool e),PV.lit (Value.string u)]),(5,[PV.lit (Value.bool false),PV.lit (Value.string (ByteArray.mk #[]))])] [] []]):=by kernel_rfl
theorem S6 (k na nb nq nr:Nat) (g h e d:Bool) (s t u:ByteArray) (xs ys zs ws:List PV):aA MD t35 k 151 [iz g s,iz h t] [.r (one (bv true)), .r (one (bv true)), .c false, .r (one (.sl 1 na xs)), .r (one (.sl 1 nb ys)), .r (one (.aQ [kF, .sl 1 nr ws])), .c d, .r (one (iz e u)), .r (one (iz false ⟨#[]⟩)), .c false]=
 some (RV.mk (PV.aQ [PV.ag [PV.lit (Value.bool e),PV.lit (Value.string u)],PV.ag [PV.lit (Value.bool false),PV.lit (Value.string (ByteArray.mk #[]))],PV.lit (Value.int IntKind.i64 (0:Int))]) none,[aa t35 94 [PV.ag [PV.lit (Value.bool g),PV.lit (Value.string s)]] (RV.mk (PV.lit (Value.bool true)) none),aa t35 94 [PV.ag [PV.lit (Value.bool h),PV.lit (Value.string t)]] (RV.mk (PV.lit (Value.bool true)) none),(t.toList==(ByteArray.mk #[]).toList)=false,aa t35 99 [PV.lit (Value.string s)] (RV.mk (PV.sl 1 na xs) none),aa t35 99 [PV.lit (Value.string t)] (RV.mk (PV.sl 1 nb ys) none),aa t35 186 [PV.sl 1 na xs,PV.sl 1 nb ys] (RV.mk (PV.aQ [PV.lit (Value.slice none 0 0),PV.sl 1 nr ws]) none),(!g==h)=d,aa t35 101 [PV.lit (Value.slice none 0 0),PV.lit (Value.bool d)] (RV.mk (PV.ag [PV.lit (Value.bool e),PV.lit (Value.string u)]) none),aa t35 101 [PV.sl 1 nr ws,PV.lit (Value.bool g)] (RV.mk (PV.ag [PV.lit (Value.bool false),PV.lit (Value.string (ByteArray.mk #[]))]) none),false=false,St.mk [(4,AV.bp 4 0),(5,AV.bp 5 0),(6,AV.pv (PV.lit (Value.int IntKind.i64 (0:Int))))] [(4,[PV.lit (Value.bool e),PV.lit (Value.string u)]),(5,[PV.lit (Value.bool false),PV.lit (Value.string (ByteArray.mk #[]))])] [] []=St.mk [(4,AV.bp 4 0),(5,AV.bp 5 0),(6,AV.pv (PV.lit (Value.int IntKind.i64 (0:Int))))] [(4,[PV.lit (Value.bool e),PV.lit (Value.string u)]),(5,[PV.lit (Value.bool false),PV.lit (Value.string (ByteArray.mk #[]))])] [] [],St.mk [(4,AV.bp 4 0),(5,AV.bp 5 0),(6,AV.pv (PV.lit (Value.int IntKind.i64 (0:Int))))] [(4,[PV.lit (Value.bool e),PV.lit (Value.string u)]),(5,[PV.lit (Value.bool false),PV.lit (Value.string (ByteArray.mk #[]))])] [] []=St.mk [(4,AV.bp 4 0),(5,AV.bp 5 0),(6,AV.pv (PV.lit (Value.int IntKind.i64 (0:Int))))] [(4,[PV.lit (Value.bool e),PV.lit (Value.string u)]),(5,[PV.lit (Value.bool false),PV.lit (Value.string (ByteArray.mk #[]))])] [] []]):=by kernel_rfl
theorem Ds {f g:List PV→Option RV} {a:List PV} {r:RV} (h:f a=some r):s6 f g a=some r:=by unfold s6;rw [h]
theorem Jr {f g:List PV→Option RV} {a:List PV} {r:RV} (h0:f a=none) (h:g a=some r):s6 f g a=some r:=by unfold s6;rw [h0];exact h
theorem Fs {P:Program} {n:Nat} {f g:List PV→Option RV} (hf:∀a r,f a=some r→az P n a r) (hg:∀a r,g a=some r→az P n a r):∀a r,s6 f g a=some r→az P n a r:=by
 intro a r h
 unfold s6 at h
 split at h
 · rename_i x hx
   simp only [Option.some.injEq] at h
   subst h;exact hf a _ hx
 · exact hg a r h
theorem AN {α:Type} {pre:α→Prop} {enc:α→List PV} {g:α→RV} {args:List PV} (h:∀a,pre a→enc a≠args):bJ pre enc g args=none:=by
 unfold bJ
 exact dif_neg fun ⟨a,h1,h2⟩=>h a h1 h2
theorem QV:af (bI ⟨#[]⟩)=⟨#[]⟩:=by
 have:bI (af 0)=0:=fP 0
 rw [Ff] at this
 rw [this];rfl
theorem Ks:az P0 148 [kF] (one (sv ⟨#[]⟩)):=by
 have c:=Gi ⟨#[]⟩
 rw [QV] at c
 exact aj ah JM (by rfl) (Vu 1) ⟨rfl,⟨by decide,by decide,by rw [Int.zero_mul];exact Int.natCast_nonneg _,Int.natCast_nonneg _⟩,rfl,rfl,Nat.le_refl _,rfl,rfl,c,trivial⟩
theorem Gg:aH MD.P Gf:=aI (ak (ax fun _ _=>Ks) aF)
theorem ID (b:Bool):az P0 101 [kF,bv b] (one (.ag (zc 0))):=by
 have c:Jp [kF]=some (one (sv ⟨#[]⟩)):=aO (a:=()) (enc:=fun _:Unit=>[kF]) (fun _ _ _=>rfl) trivial
 cases b with
 |false=>exact aj ah Gg (by rfl) (XO 1) ⟨c,trivial⟩
 |true=>exact aj ah Gg (by rfl) (XP 1) ⟨c,rfl,trivial⟩
theorem Gd:aH MD.P t35:=aI
 (ak (ax fun x _=>nj x.1 x.2)
 (ak (ax fun s h=>Dn s h)
 (ak (ax fun x h=>xk h.1 h.2.1 h.2.2)
 (ak (Fs (ax fun x h=>sH x.1 h.1 h.2 x.2) (ax fun b _=>ID b)) aF))))
theorem KY (b:Bool):s6 n7 yD [kF,bv b]=some (one (.ag (zc 0))):=by
 refine Jr (AN fun x _ e=> ?_) (aO (enc:=fun b:Bool=>[kF,bv b]) (fun _ _ _=>rfl) trivial)
 simp [nat,kF] at e
theorem KR {b c:Int} (hb:b≠0):(if (!(decide (b* c<0))==(decide (b<0)))=true then -(c.natAbs:Int) else (c.natAbs:Int))=c:=by
 rcases Int.lt_trichotomy c 0 with hc|hc|hc
 · rcases Int.lt_trichotomy b 0 with h|h|h
   · have:0<b* c:=Int.mul_pos_of_neg_of_neg h hc
     have h1:¬b* c<0:=by omega
     simp [h,h1];omega
   · exact absurd h hb
   · have:b* c<0:=Int.mul_neg_of_pos_of_neg h hc
     have h1:¬b<0:=by omega
     simp [this,h1];omega
 · subst hc;split<;>rfl
 · rcases Int.lt_trichotomy b 0 with h|h|h
   · have:b* c<0:=Int.mul_neg_of_neg_of_pos h hc
     simp [h,this];omega
   · exact absurd h hb
   · have:0<b* c:=Int.mul_pos h hc
     have h1:¬b<0:=by omega
     have h2:¬b* c<0:=by omega
     simp [h1,h2];omega
theorem J1 (b c:Int) (hb:b≠0) (hs:Sm (b* c)) (BQ:Sm b):az P0 151 [.ag (zc (b* c)), .ag (zc b)] (one (.aQ [.ag (zc c), .ag (zc 0),iv 0])):=by
 have v1:=o9 (b* c)
 have v2:=o9 b
 have o1:=B3 hs
 have o2:=B3 BQ
 have l1:=hs.len
 have l2:=BQ.len
 have hb0:0<b.natAbs:=by omega
 have hne:((af b.natAbs).toList==(ByteArray.mk #[]).toList)=false:=oR (by omega)
 have d:=wg (a:=(b* c).natAbs) (b:=b.natAbs) hb0 (by omega) (by omega)
 have hm:(b* c).natAbs%b.natAbs=0:=by rw [Int.natAbs_mul];exact Nat.mul_mod_right _ _
 have hq:(b* c).natAbs / b.natAbs=c.natAbs:=by rw [Int.natAbs_mul];exact Nat.mul_div_cancel_left _ hb0
 rw [hm] at d
 unfold tX at d
 have wr:s6 n7 yD [nat (dg (4294967296:Nat) 0),bv (decide (b* c<0))]=some (one (.ag (zc 0))):=Ds (sG 0 (by rw [dH];decide) (decide (b* c<0)) 0 (by split<;>rfl))
 by_cases hlt:(b* c).natAbs<b.natAbs
 · rw [if_pos hlt] at d
   have hc:c=0:=by
    rw [Nat.div_eq_of_lt hlt] at hq;omega
   subst hc
   exact aj ah Gd (by rfl) (S6 1 _ _ 0 _ (decide (b* 0<0)) (decide (b<0)) false (!(decide (b* 0<0))==(decide (b<0))) (af (b* 0).natAbs) (af b.natAbs) ⟨#[]⟩ _ _ [] _) ⟨v1,v2,hne,o1,o2,d,rfl,KY _,wr,rfl,rfl,rfl,trivial⟩
 · rw [if_neg hlt,hq] at d
   have hl:=cY (b:=(4294967296:Nat)) (x:=c.natAbs) (y:=(b* c).natAbs) (by decide) (by rw [←hq];exact Nat.div_le_self _ _)
   have wq:=Ds (g:=yD) (sG c.natAbs (by omega) (!(decide (b* c<0))==(decide (b<0))) c (KR hb))
   exact aj ah Gd (by rfl) (S5 1 _ _ _ _ (decide (b* c<0)) (decide (b<0)) (decide (c<0)) (!(decide (b* c<0))==(decide (b<0))) (af (b* c).natAbs) (af b.natAbs) (af c.natAbs) _ _ _ _) ⟨v1,v2,hne,o1,o2,d,rfl,wq,wr,rfl,rfl,rfl,trivial⟩
end Go.Proofs.YtibbgjafjhcemaaGreatDoor.Cul
namespace Go.Proofs.YtibbgjafjhcemaaGreatDoor.Cul
open Go Go.RowKit
noncomputable def OV:List PV→Option RV:=bJ (fun x:Int×Int=>x.2≠0∧x.2∣x.1∧Sm x.1∧Sm x.2) (fun x=>[.ag (zc x.1), .ag (zc x.2)]) (fun x=>one (.aQ [.ag (zc (x.1 / x.2)), .ag (zc 0),iv 0]))
noncomputable def Js:List PV→Option RV:=bJ (fun x:Int×Int=>x.2≠0∧x.2∣x.1∧Sm x.1∧Sm x.2) (fun x=>[.ag (zc x.1), .ag (zc x.2)]) (fun x=>one (.ag (zc (x.1 / x.2))))
noncomputable def Di:List PV→Option RV:=bJ (fun _:Int=>True) (fun z=>[.ag (zc z)]) (fun z=>one (.ag (zc (-z))))
noncomputable def t36:Cl:=bM [(151,OV)]
noncomputable def t37:Cl:=bM [(96,GN),(95,AK),(52,Di),(97,wO),(105,Js)]
theorem VW (k:Nat) (g h e f:Bool) (s t u v:ByteArray):aA MD t36 k 105 [iz g s,iz h t] [.r (one (.aQ [iz e u,iz f v,iv 0]))]=
 some (RV.mk (PV.ag [PV.lit (Value.bool e),PV.lit (Value.string u)]) none,[aa t36 151 [PV.ag [PV.lit (Value.bool g),PV.lit (Value.string s)],PV.ag [PV.lit (Value.bool h),PV.lit (Value.string t)]] (RV.mk (PV.aQ [PV.ag [PV.lit (Value.bool e),PV.lit (Value.string u)],PV.ag [PV.lit (Value.bool f),PV.lit (Value.string v)],PV.lit (Value.int IntKind.i64 (0:Int))]) none)]):=by kernel_rfl
theorem Vk (k:Nat) (g0 g1 g2 g3 gd gg:Bool) (s0 s1 s2 s3 sd sg u:ByteArray) (n:Int):aA MD t37 k 57 [.ag [bv g0,sv s0,bv g1,sv s1,bv g2,sv s2,bv g3,sv s3],iz gd sd] [.r (one (iz gg sg)), .r (one (iv n)), .c false, .r (one (iz false u)), .g true]=
 some (RV.mk (PV.ag [PV.lit (Value.bool g0),PV.lit (Value.string s0),PV.lit (Value.bool g1),PV.lit (Value.string s1),PV.lit (Value.bool g2),PV.lit (Value.string s2),PV.lit (Value.bool g3),PV.lit (Value.string s3),PV.lit (Value.bool gd),PV.lit (Value.string sd)]) none,[aa t37 96 [PV.ag [PV.lit (Value.bool g0),PV.lit (Value.string s0),PV.lit (Value.bool g1),PV.lit (Value.string s1),PV.lit (Value.bool g2),PV.lit (Value.string s2),PV.lit (Value.bool g3),PV.lit (Value.string s3)],PV.ag [PV.lit (Value.bool gd),PV.lit (Value.string sd)]] (RV.mk (PV.ag [PV.lit (Value.bool gg),PV.lit (Value.string sg)]) none),aa t37 95 [PV.ag [PV.lit (Value.bool gd),PV.lit (Value.string sd)]] (RV.mk (PV.lit (Value.int IntKind.i64 n)) none),decide (n<(0:Int))=false,aa t37 97 [PV.lit (Value.int IntKind.i64 (1:Int))] (RV.mk (PV.ag [PV.lit (Value.bool false),PV.lit (Value.string u)]) none),jx MD.P BinOp.eql 23 (Operand.tmp (15:Nat)) (Operand.tmp (16:Nat)) (Value.agg (Array.mk [Value.bool gg,Value.string sg])) (Value.agg (Array.mk [Value.bool false,Value.string u])) true]):=by kernel_rfl
theorem Vl (k:Nat) (g0 g1 g2 g3 gd gg e0 e1 e2 e3 e4:Bool) (s0 s1 s2 s3 sd sg u u0 u1 u2 u3 u4:ByteArray) (n:Int):aA MD t37 k 57 [.ag [bv g0,sv s0,bv g1,sv s1,bv g2,sv s2,bv g3,sv s3],iz gd sd] [.r (one (iz gg sg)), .r (one (iv n)), .c false, .r (one (iz false u)), .g false, .u 5, .c true, .r (one (iz e0 u0)), .c true, .r (one (iz e1 u1)), .c true, .r (one (iz e2 u2)), .c true, .r (one (iz e3 u3)), .c false, .r (one (iz e4 u4))]=
 some (RV.mk (PV.ag [PV.lit (Value.bool e0),PV.lit (Value.string u0),PV.lit (Value.bool e1),PV.lit (Value.string u1),PV.lit (Value.bool e2),PV.lit (Value.string u2),PV.lit (Value.bool e3),PV.lit (Value.string u3),PV.lit (Value.bool e4),PV.lit (Value.string u4)]) none,[aa t37 96 [PV.ag [PV.lit (Value.bool g0),PV.lit (Value.string s0),PV.lit (Value.bool g1),PV.lit (Value.string s1),PV.lit (Value.bool g2),PV.lit (Value.string s2),PV.lit (Value.bool g3),PV.lit (Value.string s3)],PV.ag [PV.lit (Value.bool gd),PV.lit (Value.string sd)]] (RV.mk (PV.ag [PV.lit (Value.bool gg),PV.lit (Value.string sg)]) none),aa t37 95 [PV.ag [PV.lit (Value.bool gd),PV.lit (Value.string sd)]] (RV.mk (PV.lit (Value.int IntKind.i64 n)) none),decide (n<(0:Int))=false,aa t37 97 [PV.lit (Value.int IntKind.i64 (1:Int))] (RV.mk (PV.ag [PV.lit (Value.bool false),PV.lit (Value.string u)]) none),jx MD.P BinOp.eql 23 (Operand.tmp (15:Nat)) (Operand.tmp (16:Nat)) (Value.agg (Array.mk [Value.bool gg,Value.string sg])) (Value.agg (Array.mk [Value.bool false,Value.string u])) false,5≤k,true=true,aa t37 105 [PV.ag [PV.lit (Value.bool g0),PV.lit (Value.string s0)],PV.ag [PV.lit (Value.bool gg),PV.lit (Value.string sg)]] (RV.mk (PV.ag [PV.lit (Value.bool e0),PV.lit (Value.string u0)]) none),true=true,aa t37 105 [PV.ag [PV.lit (Value.bool g1),PV.lit (Value.string s1)],PV.ag [PV.lit (Value.bool gg),PV.lit (Value.string sg)]] (RV.mk (PV.ag [PV.lit (Value.bool e1),PV.lit (Value.string u1)]) none),true=true,aa t37 105 [PV.ag [PV.lit (Value.bool g2),PV.lit (Value.string s2)],PV.ag [PV.lit (Value.bool gg),PV.lit (Value.string sg)]] (RV.mk (PV.ag [PV.lit (Value.bool e2),PV.lit (Value.string u2)]) none),true=true,aa t37 105 [PV.ag [PV.lit (Value.bool g3),PV.lit (Value.string s3)],PV.ag [PV.lit (Value.bool gg),PV.lit (Value.string sg)]] (RV.mk (PV.ag [PV.lit (Value.bool e3),PV.lit (Value.string u3)]) none),false=false,aa t37 105 [PV.ag [PV.lit (Value.bool gd),PV.lit (Value.string sd)],PV.ag [PV.lit (Value.bool gg),PV.lit (Value.string sg)]] (RV.mk (PV.ag [PV.lit (Value.bool e4),PV.lit (Value.string u4)]) none)]):=by kernel_rfl
theorem Vm (k:Nat) (g0 g1 g2 g3 gd gg gn e0 e1 e2 e3 e4:Bool) (s0 s1 s2 s3 sd sg sn u u0 u1 u2 u3 u4:ByteArray) (n:Int):aA MD t37 k 57 [.ag [bv g0,sv s0,bv g1,sv s1,bv g2,sv s2,bv g3,sv s3],iz gd sd] [.r (one (iz gg sg)), .r (one (iv n)), .c true, .r (one (iz gn sn)), .r (one (iz false u)), .g false, .u 5, .c true, .r (one (iz e0 u0)), .c true, .r (one (iz e1 u1)), .c true, .r (one (iz e2 u2)), .c true, .r (one (iz e3 u3)), .c false, .r (one (iz e4 u4))]=
 some (RV.mk (PV.ag [PV.lit (Value.bool e0),PV.lit (Value.string u0),PV.lit (Value.bool e1),PV.lit (Value.string u1),PV.lit (Value.bool e2),PV.lit (Value.string u2),PV.lit (Value.bool e3),PV.lit (Value.string u3),PV.lit (Value.bool e4),PV.lit (Value.string u4)]) none,[aa t37 96 [PV.ag [PV.lit (Value.bool g0),PV.lit (Value.string s0),PV.lit (Value.bool g1),PV.lit (Value.string s1),PV.lit (Value.bool g2),PV.lit (Value.string s2),PV.lit (Value.bool g3),PV.lit (Value.string s3)],PV.ag [PV.lit (Value.bool gd),PV.lit (Value.string sd)]] (RV.mk (PV.ag [PV.lit (Value.bool gg),PV.lit (Value.string sg)]) none),aa t37 95 [PV.ag [PV.lit (Value.bool gd),PV.lit (Value.string sd)]] (RV.mk (PV.lit (Value.int IntKind.i64 n)) none),decide (n<(0:Int))=true,aa t37 52 [PV.ag [PV.lit (Value.bool gg),PV.lit (Value.string sg)]] (RV.mk (PV.ag [PV.lit (Value.bool gn),PV.lit (Value.string sn)]) none),aa t37 97 [PV.lit (Value.int IntKind.i64 (1:Int))] (RV.mk (PV.ag [PV.lit (Value.bool false),PV.lit (Value.string u)]) none),jx MD.P BinOp.eql 23 (Operand.tmp (15:Nat)) (Operand.tmp (16:Nat)) (Value.agg (Array.mk [Value.bool gn,Value.string sn])) (Value.agg (Array.mk [Value.bool false,Value.string u])) false,5≤k,true=true,aa t37 105 [PV.ag [PV.lit (Value.bool g0),PV.lit (Value.string s0)],PV.ag [PV.lit (Value.bool gn),PV.lit (Value.string sn)]] (RV.mk (PV.ag [PV.lit (Value.bool e0),PV.lit (Value.string u0)]) none),true=true,aa t37 105 [PV.ag [PV.lit (Value.bool g1),PV.lit (Value.string s1)],PV.ag [PV.lit (Value.bool gn),PV.lit (Value.string sn)]] (RV.mk (PV.ag [PV.lit (Value.bool e1),PV.lit (Value.string u1)]) none),true=true,aa t37 105 [PV.ag [PV.lit (Value.bool g2),PV.lit (Value.string s2)],PV.ag [PV.lit (Value.bool gn),PV.lit (Value.string sn)]] (RV.mk (PV.ag [PV.lit (Value.bool e2),PV.lit (Value.string u2)]) none),true=true,aa t37 105 [PV.ag [PV.lit (Value.bool g3),PV.lit (Value.string s3)],PV.ag [PV.lit (Value.bool gn),PV.lit (Value.string sn)]] (RV.mk (PV.ag [PV.lit (Value.bool e3),PV.lit (Value.string u3)]) none),false=false,aa t37 105 [PV.ag [PV.lit (Value.bool gd),PV.lit (Value.string sd)],PV.ag [PV.lit (Value.bool gn),PV.lit (Value.string sn)]] (RV.mk (PV.ag [PV.lit (Value.bool e4),PV.lit (Value.string u4)]) none)]):=by kernel_rfl
theorem N8 (a b:Int) (h0:b≠0) (h1:b∣a) (h2:Sm a) (h3:Sm b):az P0 151 [.ag (zc a), .ag (zc b)] (one (.aQ [.ag (zc (a / b)), .ag (zc 0),iv 0])):=by
 obtain ⟨c,rfl⟩:=h1
 rw [Int.mul_ediv_cancel_left _ h0]
 exact J1 b c h0 h2 h3
theorem NL:aH MD.P t36:=aI (ak (ax fun x h=>N8 x.1 x.2 h.1 h.2.1 h.2.2.1 h.2.2.2) aF)
theorem sI {a b:Int×Int} (e:[PV.ag (zc a.1), .ag (zc a.2)]=[.ag (zc b.1), .ag (zc b.2)]):a=b:=by
 simp only [List.cons.injEq,and_true,PV.ag.injEq] at e
 exact Prod.ext (eE e.1) (eE e.2)
theorem G9 (a b:Int) (h0:b≠0) (hd:b∣a) (ha:Sm a) (hb:Sm b):az P0 105 [.ag (zc a), .ag (zc b)] (one (.ag (zc (a / b)))):=by
 have d:OV [.ag (zc a), .ag (zc b)]=some (one (.aQ [.ag (zc (a / b)), .ag (zc 0),iv 0])):=aO (a:=(a,b)) (enc:=fun x:Int×Int=>[.ag (zc x.1), .ag (zc x.2)]) (fun a b e=>by rw [sI e]) ⟨h0,hd,ha,hb⟩
 exact aj ah NL (by rfl) (VW 1 (decide (a<0)) (decide (b<0)) (decide (a / b<0)) false (af a.natAbs) (af b.natAbs) (af (a / b).natAbs) ⟨#[]⟩) ⟨d,trivial⟩
theorem mW {a b:Int} (h0:b≠0) (hd:b∣a) (ha:Sm a) (hb:Sm b):Js [.ag (zc a), .ag (zc b)]=some (one (.ag (zc (a / b)))):=
 aO (a:=(a,b)) (enc:=fun x:Int×Int=>[.ag (zc x.1), .ag (zc x.2)]) (fun a b e=>by rw [sI e]) ⟨h0,hd,ha,hb⟩
theorem B0 (z:Int):oq (decide (z<0)) (af z.natAbs)= .ag (zc (-z)):=by
 unfold oq
 rw [lY,if_pos rfl]
 have h1:(!(decide (z<0))&& !(decide ((af z.natAbs).size=0)))=decide (-z<0):=by
  by_cases hz:z=0
  · subst hz;rfl
  · have:(af z.natAbs).size≠0:=fun h=>hz (by have:=pY h;omega)
    by_cases h:z<0
    · have h2:¬ -z<0:=by omega
      simp only [h,h2,decide_true,decide_false,Bool.not_true,Bool.false_and]
    · have h2: -z<0:=by omega
      simp only [h,h2,this,decide_true,decide_false,Bool.not_false,Bool.true_and]
 unfold iz zc
 rw [h1,Int.natAbs_neg]
theorem B1 (z:Int):az P0 52 [.ag (zc z)] (one (.ag (zc (-z)))):=by
 have:=Fk (decide (z<0)) (af z.natAbs)
 rw [B0] at this
 exact this
theorem mS (z:Int):Di [.ag (zc z)]=some (one (.ag (zc (-z)))):=
 aO (enc:=fun z:Int=>[.ag (zc z)]) (fun a b e=>by
  simp only [List.cons.injEq,and_true,PV.ag.injEq] at e
  rw [eE e]) trivial
theorem AT:aH MD.P t37:=aI
 (ak (ax fun x h=>xh x h)
 (ak (ax fun x _=>Cn x.1 x.2)
 (ak (ax fun z _=>B1 z)
 (ak (ax fun n h=>oV n h.1 h.2)
 (ak (ax fun x h=>G9 x.1 x.2 h.1 h.2.1 h.2.2.1 h.2.2.2) aF)))))
def au.Bs (x:au):Prop:=((Sm x.a∧Sm x.b)∧(Sm x.c∧Sm x.d))∧Sm x.n
theorem au.Bs.small {x:au} (h:x.Bs):x.small:=by
 obtain ⟨⟨⟨h1,h2⟩,h3,h4⟩,h5⟩:=h
 unfold Sm at*
 exact ⟨⟨by omega,by omega⟩,⟨by omega,by omega⟩,by omega⟩
def au.sg (x:au):Int:=if x.n<0 then -(x.gcd:Int) else x.gcd
def au.low (x:au):au:=⟨x.a / x.sg,x.b / x.sg,x.c / x.sg,x.d / x.sg,x.n / x.sg⟩
theorem au.gcd_dvd (x:au):((x.gcd:Int)∣x.a∧(x.gcd:Int)∣x.b)∧((x.gcd:Int)∣x.c∧(x.gcd:Int)∣x.d)∧(x.gcd:Int)∣x.n:=by
 have d4:=Nat.gcd_dvd_left (Nat.gcd (Nat.gcd (Nat.gcd x.n.natAbs x.a.natAbs) x.b.natAbs) x.c.natAbs) x.d.natAbs
 have d3:=Nat.dvd_trans d4 (Nat.gcd_dvd_left (Nat.gcd (Nat.gcd x.n.natAbs x.a.natAbs) x.b.natAbs) x.c.natAbs)
 have d2:=Nat.dvd_trans d3 (Nat.gcd_dvd_left (Nat.gcd x.n.natAbs x.a.natAbs) x.b.natAbs)
 have d1:=Nat.dvd_trans d2 (Nat.gcd_dvd_left x.n.natAbs x.a.natAbs)
 simp only [Int.ofNat_dvd_left]
 exact ⟨⟨Nat.dvd_trans d2 (Nat.gcd_dvd_right _ _),Nat.dvd_trans d3 (Nat.gcd_dvd_right _ _)⟩,⟨Nat.dvd_trans d4 (Nat.gcd_dvd_right _ _),Nat.gcd_dvd_right _ _⟩,d1⟩
theorem au.wB {x:au} (h:x.n≠0):0<x.gcd:=by
 rcases Nat.eq_zero_or_pos x.gcd with h0|h0
 · have:=x.gcd_dvd.2.2
   rw [h0] at this
   exact absurd (Int.zero_dvd.1 this) h
 · exact h0
theorem au.vA (x:au):(x.sg∣x.a∧x.sg∣x.b)∧(x.sg∣x.c∧x.sg∣x.d)∧x.sg∣x.n:=by
 have:=x.gcd_dvd
 unfold au.sg
 split
 · simpa [Int.neg_dvd] using this
 · exact this
theorem au.OD {x:au} (h:x.n≠0) (hs:Sm x.n):Sm (x.gcd:Int)∧Sm x.sg:=by
 have h1:x.gcd≤x.n.natAbs:=Nat.le_of_dvd (by omega) (by have:=x.gcd_dvd.2.2;rwa [Int.ofNat_dvd_left] at this)
 have h2:Sm (x.gcd:Int):=by
  unfold Sm at*
  exact Nat.lt_of_le_of_lt (xX (by simpa using h1)) hs
 refine ⟨h2, ?_⟩
 unfold au.sg
 split
 · unfold Sm at *;rw [Int.natAbs_neg];exact h2
 · exact h2
theorem zX (x:au) (h0:x.n≠0) (hs:x.Bs):az P0 57 [.ag (zc x.a++zc x.b++zc x.c++zc x.d), .ag (zc x.n)] (one (.ag x.low.cells)):=by
 have c:=Bz hs.small
 have s:=wT (decide (x.n<0)) (af x.n.natAbs)
 rw [AL] at s
 have o:=jP (n:=1) (by decide) (by decide)
 have hg:=au.wB h0
 have ET:=au.OD h0 hs.2
 have hd:=x.vA
 have hne:x.sg≠0:=by unfold au.sg;split<;>omega
 obtain ⟨⟨⟨ha,hb⟩,hc,hd'⟩,hn⟩:=hs
 have qa:=mW hne hd.1.1 ha ET.2
 have qb:=mW hne hd.1.2 hb ET.2
 have qc:=mW hne hd.2.1.1 hc ET.2
 have qd:=mW hne hd.2.1.2 hd' ET.2
 have qn:=mW hne hd.2.2 hn ET.2
 have OX:∀z:Int,(RI.mk (decide (z<0)) (af z.natAbs)).dO (RI.mk (decide ((1:Int)<0)) (af (1:Int).natAbs))=decide (z=1):=by
  intro z
  by_cases hz:z=1
  · subst hz;rw [decide_eq_true rfl];exact RI.fG.2 rfl
  · rw [decide_eq_false hz]
    refine Bool.eq_false_iff.2 fun h=>hz ?_
    have:=RI.fG.1 h
    simp only [RI.mk.injEq] at this
    have h1:=pX this.2
    have h2:(z<0)↔((1:Int)<0):=by simpa using this.1
    omega
 by_cases hneg:x.n<0
 · have es:x.sg= -(x.gcd:Int):=by unfold au.sg;rw [if_pos hneg]
   rw [if_pos hneg] at s
   have ng:=mS (x.gcd:Int)
   rw [←es] at ng
   have e:=wh (m:=15) (n:=16) (OX x.sg)
   have e0:decide (x.sg=1)=false:=decide_eq_false (by omega)
   rw [e0] at e
   exact aj ah AT (by rfl) (Vm 5 (decide (x.a<0)) (decide (x.b<0)) (decide (x.c<0)) (decide (x.d<0)) (decide (x.n<0)) (decide ((x.gcd:Int)<0)) (decide (x.sg<0)) (decide (x.a / x.sg<0)) (decide (x.b / x.sg<0)) (decide (x.c / x.sg<0)) (decide (x.d / x.sg<0)) (decide (x.n / x.sg<0)) (af x.a.natAbs) (af x.b.natAbs) (af x.c.natAbs) (af x.d.natAbs) (af x.n.natAbs) (af (x.gcd:Int).natAbs) (af x.sg.natAbs) (af (1:Int).natAbs) (af (x.a / x.sg).natAbs) (af (x.b / x.sg).natAbs) (af (x.c / x.sg).natAbs) (af (x.d / x.sg).natAbs) (af (x.n / x.sg).natAbs) (-1)) ⟨c,s,rfl,ng,o,e,Nat.le_refl _,rfl,qa,rfl,qb,rfl,qc,rfl,qd,rfl,qn,trivial⟩
 · have es:x.sg=(x.gcd:Int):=by unfold au.sg;rw [if_neg hneg]
   rw [if_neg hneg,if_neg h0] at s
   have e:=wh (m:=15) (n:=16) (OX x.sg)
   by_cases h1:x.sg=1
   · have e0:decide (x.sg=1)=true:=decide_eq_true h1
     rw [e0,es] at e
     have el:x.low=x:=by
      unfold au.low
      rw [h1]
      simp only [Int.ediv_one]
     rw [el]
     exact aj ah AT (by rfl) (Vk 5 (decide (x.a<0)) (decide (x.b<0)) (decide (x.c<0)) (decide (x.d<0)) (decide (x.n<0)) (decide ((x.gcd:Int)<0)) (af x.a.natAbs) (af x.b.natAbs) (af x.c.natAbs) (af x.d.natAbs) (af x.n.natAbs) (af (x.gcd:Int).natAbs) (af (1:Int).natAbs) 1) ⟨c,s,rfl,o,e,trivial⟩
   · have e0:decide (x.sg=1)=false:=decide_eq_false h1
     rw [e0] at e
     rw [←es] at c
     exact aj ah AT (by rfl) (Vl 5 (decide (x.a<0)) (decide (x.b<0)) (decide (x.c<0)) (decide (x.d<0)) (decide (x.n<0)) (decide (x.sg<0)) (decide (x.a / x.sg<0)) (decide (x.b / x.sg<0)) (decide (x.c / x.sg<0)) (decide (x.d / x.sg<0)) (decide (x.n / x.sg<0)) (af x.a.natAbs) (af x.b.natAbs) (af x.c.natAbs) (af x.d.natAbs) (af x.n.natAbs) (af x.sg.natAbs) (af (1:Int).natAbs) (af (x.a / x.sg).natAbs) (af (x.b / x.sg).natAbs) (af (x.c / x.sg).natAbs) (af (x.d / x.sg).natAbs) (af (x.n / x.sg).natAbs) 1) ⟨c,s,rfl,o,e,Nat.le_refl _,rfl,qa,rfl,qb,rfl,qc,rfl,qd,rfl,qn,trivial⟩
end Go.Proofs.YtibbgjafjhcemaaGreatDoor.Cul
namespace Go.Proofs.YtibbgjafjhcemaaGreatDoor.Cul
open Go Go.RowKit
noncomputable def Dh:List PV→Option RV:=bJ (fun x:Int×Int=>Sm x.1∧Sm x.2) (fun x=>[.ag (zc x.1), .ag (zc x.2)]) (fun x=>one (.ag (zc (x.1* x.2))))
noncomputable def CG:List PV→Option RV:=bJ (fun x:Int×Int=>Sm x.1∧Sm x.2) (fun x=>[.ag (zc x.1), .ag (zc x.2)]) (fun x=>one (.ag (zc (x.1+x.2))))
noncomputable def De:List PV→Option RV:=bJ (fun x:au=>x.n≠0∧x.Bs) (fun x=>[.ag (zc x.a++zc x.b++zc x.c++zc x.d), .ag (zc x.n)]) (fun x=>one (.ag x.low.cells))
noncomputable def t38:Cl:=bM [(55,CG),(56,Dh),(57,De),(97,wO)]
theorem V5 (k i j:Nat) (g h:Bool) (s t:ByteArray) (X Y Z A xs ys:List PV):ay MD t38 k 54 1 ⟨[(2, .bp 2 0),(3, .bp 3 0),(4, .bp 4 0),(5, .bp 5 0),(6, .pv (iv i)),(7, .bp 7 0),(12, .pv (.ag xs)),(13, .pv (iv i)),(18, .pv (.ag ys)),(19, .pv (iv j))],[(2,X),(3,Y),(4,Z),(5,A),(7,[bv g,sv s])],[],[]⟩ [.c true, .e 22 (iz h t), .c true, .i 53 (j+1:Nat)]=
 some ((Xt.normal,St.mk [(2,AV.bp 2 0),(3,AV.bp 3 0),(4,AV.bp 4 0),(5,AV.bp 5 0),(6,AV.pv (PV.lit (Value.int IntKind.i64 (↑i:Int)))),(7,AV.bp 7 0),(12,AV.pv (PV.ag xs)),(13,AV.pv (PV.lit (Value.int IntKind.i64 (↑i:Int)))),(18,AV.pv (PV.ag ys)),(19,AV.pv (PV.lit (Value.int IntKind.i64 (↑(j+(1:Nat)):Int))))] [(2,X),(3,Y),(4,Z),(5,A),(7,[PV.lit (Value.bool g),PV.lit (Value.string s)])] [] []),[],[decide ((↑j:Int)<(4:Int))=true,(0:Int)≤(↑j:Int)∧(↑j:Int)<(↑(4:Nat):Int),Ld MD.P 23 ys ((↑j:Int).toNat* 2) (PV.ag [PV.lit (Value.bool h),PV.lit (Value.string t)]),(s.toList==(ByteArray.mk #[]).toList)=true,IntKind.i64.wrap ((↑j:Int)+(1:Int))=(↑(j+(1:Nat)):Int)]):=by kernel_rfl
theorem V6 (k i j:Nat) (g h:Bool) (s t:ByteArray) (X Y Z A xs ys:List PV):ay MD t38 k 54 1 ⟨[(2, .bp 2 0),(3, .bp 3 0),(4, .bp 4 0),(5, .bp 5 0),(6, .pv (iv i)),(7, .bp 7 0),(12, .pv (.ag xs)),(13, .pv (iv i)),(18, .pv (.ag ys)),(19, .pv (iv j))],[(2,X),(3,Y),(4,Z),(5,A),(7,[bv g,sv s])],[],[]⟩ [.c true, .e 22 (iz h t), .c false, .c true, .i 53 (j+1:Nat)]=
 some ((Xt.normal,St.mk [(2,AV.bp 2 0),(3,AV.bp 3 0),(4,AV.bp 4 0),(5,AV.bp 5 0),(6,AV.pv (PV.lit (Value.int IntKind.i64 (↑i:Int)))),(7,AV.bp 7 0),(12,AV.pv (PV.ag xs)),(13,AV.pv (PV.lit (Value.int IntKind.i64 (↑i:Int)))),(18,AV.pv (PV.ag ys)),(19,AV.pv (PV.lit (Value.int IntKind.i64 (↑(j+(1:Nat)):Int))))] [(2,X),(3,Y),(4,Z),(5,A),(7,[PV.lit (Value.bool g),PV.lit (Value.string s)])] [] []),[],[decide ((↑j:Int)<(4:Int))=true,(0:Int)≤(↑j:Int)∧(↑j:Int)<(↑(4:Nat):Int),Ld MD.P 23 ys ((↑j:Int).toNat* 2) (PV.ag [PV.lit (Value.bool h),PV.lit (Value.string t)]),(s.toList==(ByteArray.mk #[]).toList)=false,(t.toList==(ByteArray.mk #[]).toList)=true,IntKind.i64.wrap ((↑j:Int)+(1:Int))=(↑(j+(1:Nat)):Int)]):=by kernel_rfl
theorem V7 (k i j m b v q:Nat) (g h e f e2 e3 e4:Bool) (s t u w u2 u3 u4:ByteArray) (X Y Z A A' xs ys:List PV):ay MD t38 k 54 1 ⟨[(2, .bp 2 0),(3, .bp 3 0),(4, .bp 4 0),(5, .bp 5 0),(6, .pv (iv i)),(7, .bp 7 0),(12, .pv (.ag xs)),(13, .pv (iv i)),(18, .pv (.ag ys)),(19, .pv (iv j))],[(2,X),(3,Y),(4,Z),(5,A),(7,[bv g,sv s])],[],[]⟩ [.c true, .e 22 (iz h t), .c false, .c false, .i 33 m, .i 34 b, .i 35 v, .i 36 v, .r (one (iz e u)), .i 40 q, .i 43 q, .j 44 q, .e 45 (iz f w), .r (one (iz e2 u2)), .r (one (iz e3 u3)), .r (one (iz e4 u4)), .j 52 q, .s A', .i 53 (j+1:Nat)]=
 some ((Xt.normal,St.mk [(2,AV.bp 2 0),(3,AV.bp 3 0),(4,AV.bp 4 0),(5,AV.bp 5 0),(6,AV.pv (PV.lit (Value.int IntKind.i64 (↑i:Int)))),(7,AV.bp 7 0),(12,AV.pv (PV.ag xs)),(13,AV.pv (PV.lit (Value.int IntKind.i64 (↑i:Int)))),(18,AV.pv (PV.ag ys)),(19,AV.pv (PV.lit (Value.int IntKind.i64 (↑(j+(1:Nat)):Int))))] [(2,X),(3,Y),(4,Z),(5,A'),(7,[PV.lit (Value.bool g),PV.lit (Value.string s)])] [] []),[],[decide ((↑j:Int)<(4:Int))=true,(0:Int)≤(↑j:Int)∧(↑j:Int)<(↑(4:Nat):Int),Ld MD.P 23 ys ((↑j:Int).toNat* 2) (PV.ag [PV.lit (Value.bool h),PV.lit (Value.string t)]),(s.toList==(ByteArray.mk #[]).toList)=false,(t.toList==(ByteArray.mk #[]).toList)=false,IntKind.i64.wrap (↑(BitVec.ofInt IntKind.i64.bits (↑i:Int)&&&BitVec.ofInt IntKind.i64.bits (↑j:Int)).toNat:Int)=(↑m:Int),eu (ByteArray.mk #[(49:UInt8),(50:UInt8),(51:UInt8),(54:UInt8)]) (↑m:Int) (↑b:Int),IntKind.u8.wrap ((↑b:Int) - (48:Int))=(↑v:Int),IntKind.i64.wrap (↑v:Int)=(↑v:Int),aa t38 97 [PV.lit (Value.int IntKind.i64 (↑v:Int))] (RV.mk (PV.ag [PV.lit (Value.bool e),PV.lit (Value.string u)]) none),IntKind.i64.wrap (↑(BitVec.ofInt IntKind.i64.bits (↑i:Int)^^^BitVec.ofInt IntKind.i64.bits (↑j:Int)).toNat:Int)=(↑q:Int),IntKind.i64.wrap (↑(BitVec.ofInt IntKind.i64.bits (↑i:Int)^^^BitVec.ofInt IntKind.i64.bits (↑j:Int)).toNat:Int)=(↑q:Int),aJ (↑q:Int) 4 q,Ld MD.P 23 A (0+q* 2) (PV.ag [PV.lit (Value.bool f),PV.lit (Value.string w)]),aa t38 56 [PV.ag [PV.lit (Value.bool g),PV.lit (Value.string s)],PV.ag [PV.lit (Value.bool h),PV.lit (Value.string t)]] (RV.mk (PV.ag [PV.lit (Value.bool e2),PV.lit (Value.string u2)]) none),aa t38 56 [PV.ag [PV.lit (Value.bool e),PV.lit (Value.string u)],PV.ag [PV.lit (Value.bool e2),PV.lit (Value.string u2)]] (RV.mk (PV.ag [PV.lit (Value.bool e3),PV.lit (Value.string u3)]) none),aa t38 55 [PV.ag [PV.lit (Value.bool f),PV.lit (Value.string w)],PV.ag [PV.lit (Value.bool e3),PV.lit (Value.string u3)]] (RV.mk (PV.ag [PV.lit (Value.bool e4),PV.lit (Value.string u4)]) none),aJ (↑q:Int) 4 q,0+q* 2+2≤A.length,bZ A (0+q* 2) [PV.lit (Value.bool e4),PV.lit (Value.string u4)] A',IntKind.i64.wrap ((↑j:Int)+(1:Int))=(↑(j+(1:Nat)):Int)]):=by kernel_rfl
theorem V8 (k i j:Nat) (g:Bool) (s:ByteArray) (X Y Z A xs ys:List PV):ay MD t38 k 54 1 ⟨[(2, .bp 2 0),(3, .bp 3 0),(4, .bp 4 0),(5, .bp 5 0),(6, .pv (iv i)),(7, .bp 7 0),(12, .pv (.ag xs)),(13, .pv (iv i)),(18, .pv (.ag ys)),(19, .pv (iv j))],[(2,X),(3,Y),(4,Z),(5,A),(7,[bv g,sv s])],[],[]⟩ [.c false]=
 some ((Xt.exit 2,St.mk [(2,AV.bp 2 0),(3,AV.bp 3 0),(4,AV.bp 4 0),(5,AV.bp 5 0),(6,AV.pv (PV.lit (Value.int IntKind.i64 (↑i:Int)))),(7,AV.bp 7 0),(12,AV.pv (PV.ag xs)),(13,AV.pv (PV.lit (Value.int IntKind.i64 (↑i:Int)))),(18,AV.pv (PV.ag ys)),(19,AV.pv (PV.lit (Value.int IntKind.i64 (↑j:Int)))),(20,AV.pv (PV.lit (Value.bool false)))] [(2,X),(3,Y),(4,Z),(5,A),(7,[PV.lit (Value.bool g),PV.lit (Value.string s)])] [] []),[],[decide ((↑j:Int)<(4:Int))=false]):=by kernel_rfl
theorem V3 (k i:Nat) (g:Bool) (s:ByteArray) (x0 x1 x2 x3 xn y0 y1 y2 y3 yn:Int) (Z A A':List PV):ay MD t38 k 54 0 ⟨[(2, .bp 2 0),(3, .bp 3 0),(4, .bp 4 0),(5, .bp 5 0),(12, .pv (.ag (zc x0++zc x1++zc x2++zc x3))),(13, .pv (iv i))],[(2,zc x0++zc x1++zc x2++zc x3++zc xn),(3,zc y0++zc y1++zc y2++zc y3++zc yn),(4,Z),(5,A)],[],[]⟩ [.c true, .e 16 (iz g s), .l (.exit 2) ⟨[(2, .bp 2 0),(3, .bp 3 0),(4, .bp 4 0),(5, .bp 5 0),(6, .pv (iv i)),(7, .bp 7 0),(12, .pv (.ag (zc x0++zc x1++zc x2++zc x3))),(13, .pv (iv i)),(18, .pv (.ag (zc y0++zc y1++zc y2++zc y3))),(19, .pv (iv 4)),(20, .pv (bv false))],[(2,zc x0++zc x1++zc x2++zc x3++zc xn),(3,zc y0++zc y1++zc y2++zc y3++zc yn),(4,Z),(5,A'),(7,[bv g,sv s])],[],[]⟩, .i 54 (i+1:Nat)]=
 some ((Xt.normal,St.mk [(2,AV.bp 2 0),(3,AV.bp 3 0),(4,AV.bp 4 0),(5,AV.bp 5 0),(12,AV.pv (PV.ag [PV.lit (Value.bool (decide (x0<(0:Int)))),PV.lit (Value.string (af x0.natAbs)),PV.lit (Value.bool (decide (x1<(0:Int)))),PV.lit (Value.string (af x1.natAbs)),PV.lit (Value.bool (decide (x2<(0:Int)))),PV.lit (Value.string (af x2.natAbs)),PV.lit (Value.bool (decide (x3<(0:Int)))),PV.lit (Value.string (af x3.natAbs))])),(13,AV.pv (PV.lit (Value.int IntKind.i64 (↑(i+(1:Nat)):Int))))] [(2,[PV.lit (Value.bool (decide (x0<(0:Int)))),PV.lit (Value.string (af x0.natAbs)),PV.lit (Value.bool (decide (x1<(0:Int)))),PV.lit (Value.string (af x1.natAbs)),PV.lit (Value.bool (decide (x2<(0:Int)))),PV.lit (Value.string (af x2.natAbs)),PV.lit (Value.bool (decide (x3<(0:Int)))),PV.lit (Value.string (af x3.natAbs)),PV.lit (Value.bool (decide (xn<(0:Int)))),PV.lit (Value.string (af xn.natAbs))]),(3,[PV.lit (Value.bool (decide (y0<(0:Int)))),PV.lit (Value.string (af y0.natAbs)),PV.lit (Value.bool (decide (y1<(0:Int)))),PV.lit (Value.string (af y1.natAbs)),PV.lit (Value.bool (decide (y2<(0:Int)))),PV.lit (Value.string (af y2.natAbs)),PV.lit (Value.bool (decide (y3<(0:Int)))),PV.lit (Value.string (af y3.natAbs)),PV.lit (Value.bool (decide (yn<(0:Int)))),PV.lit (Value.string (af yn.natAbs))]),(4,Z),(5,A')] [] []),[],[decide ((↑i:Int)<(4:Int))=true,(0:Int)≤(↑i:Int)∧(↑i:Int)<(↑(4:Nat):Int),Ld MD.P 23 [PV.lit (Value.bool (decide (x0<(0:Int)))),PV.lit (Value.string (af x0.natAbs)),PV.lit (Value.bool (decide (x1<(0:Int)))),PV.lit (Value.string (af x1.natAbs)),PV.lit (Value.bool (decide (x2<(0:Int)))),PV.lit (Value.string (af x2.natAbs)),PV.lit (Value.bool (decide (x3<(0:Int)))),PV.lit (Value.string (af x3.natAbs))] ((↑i:Int).toNat* 2) (PV.ag [PV.lit (Value.bool g),PV.lit (Value.string s)]),aX MD t38 k (54:Nat) (1:Nat) (St.mk [(2,AV.bp 2 0),(3,AV.bp 3 0),(4,AV.bp 4 0),(5,AV.bp 5 0),(6,AV.pv (PV.lit (Value.int IntKind.i64 (↑i:Int)))),(7,AV.bp 7 0),(12,AV.pv (PV.ag [PV.lit (Value.bool (decide (x0<(0:Int)))),PV.lit (Value.string (af x0.natAbs)),PV.lit (Value.bool (decide (x1<(0:Int)))),PV.lit (Value.string (af x1.natAbs)),PV.lit (Value.bool (decide (x2<(0:Int)))),PV.lit (Value.string (af x2.natAbs)),PV.lit (Value.bool (decide (x3<(0:Int)))),PV.lit (Value.string (af x3.natAbs))])),(13,AV.pv (PV.lit (Value.int IntKind.i64 (↑i:Int)))),(18,AV.pv (PV.ag [PV.lit (Value.bool (decide (y0<(0:Int)))),PV.lit (Value.string (af y0.natAbs)),PV.lit (Value.bool (decide (y1<(0:Int)))),PV.lit (Value.string (af y1.natAbs)),PV.lit (Value.bool (decide (y2<(0:Int)))),PV.lit (Value.string (af y2.natAbs)),PV.lit (Value.bool (decide (y3<(0:Int)))),PV.lit (Value.string (af y3.natAbs))])),(19,AV.pv (PV.lit (Value.int IntKind.i64 (0:Int))))] [(2,[PV.lit (Value.bool (decide (x0<(0:Int)))),PV.lit (Value.string (af x0.natAbs)),PV.lit (Value.bool (decide (x1<(0:Int)))),PV.lit (Value.string (af x1.natAbs)),PV.lit (Value.bool (decide (x2<(0:Int)))),PV.lit (Value.string (af x2.natAbs)),PV.lit (Value.bool (decide (x3<(0:Int)))),PV.lit (Value.string (af x3.natAbs)),PV.lit (Value.bool (decide (xn<(0:Int)))),PV.lit (Value.string (af xn.natAbs))]),(3,[PV.lit (Value.bool (decide (y0<(0:Int)))),PV.lit (Value.string (af y0.natAbs)),PV.lit (Value.bool (decide (y1<(0:Int)))),PV.lit (Value.string (af y1.natAbs)),PV.lit (Value.bool (decide (y2<(0:Int)))),PV.lit (Value.string (af y2.natAbs)),PV.lit (Value.bool (decide (y3<(0:Int)))),PV.lit (Value.string (af y3.natAbs)),PV.lit (Value.bool (decide (yn<(0:Int)))),PV.lit (Value.string (af yn.natAbs))]),(4,Z),(5,A),(7,[PV.lit (Value.bool g),PV.lit (Value.string s)])] [] []) (Xt.exit 2) (St.mk [(2,AV.bp 2 0),(3,AV.bp 3 0),(4,AV.bp 4 0),(5,AV.bp 5 0),(6,AV.pv (PV.lit (Value.int IntKind.i64 (↑i:Int)))),(7,AV.bp 7 0),(12,AV.pv (PV.ag [PV.lit (Value.bool (decide (x0<(0:Int)))),PV.lit (Value.string (af x0.natAbs)),PV.lit (Value.bool (decide (x1<(0:Int)))),PV.lit (Value.string (af x1.natAbs)),PV.lit (Value.bool (decide (x2<(0:Int)))),PV.lit (Value.string (af x2.natAbs)),PV.lit (Value.bool (decide (x3<(0:Int)))),PV.lit (Value.string (af x3.natAbs))])),(13,AV.pv (PV.lit (Value.int IntKind.i64 (↑i:Int)))),(18,AV.pv (PV.ag [PV.lit (Value.bool (decide (y0<(0:Int)))),PV.lit (Value.string (af y0.natAbs)),PV.lit (Value.bool (decide (y1<(0:Int)))),PV.lit (Value.string (af y1.natAbs)),PV.lit (Value.bool (decide (y2<(0:Int)))),PV.lit (Value.string (af y2.natAbs)),PV.lit (Value.bool (decide (y3<(0:Int)))),PV.lit (Value.string (af y3.natAbs))])),(19,AV.pv (PV.lit (Value.int IntKind.i64 (4:Int)))),(20,AV.pv (PV.lit (Value.bool false)))] [(2,[PV.lit (Value.bool (decide (x0<(0:Int)))),PV.lit (Value.string (af x0.natAbs)),PV.lit (Value.bool (decide (x1<(0:Int)))),PV.lit (Value.string (af x1.natAbs)),PV.lit (Value.bool (decide (x2<(0:Int)))),PV.lit (Value.string (af x2.natAbs)),PV.lit (Value.bool (decide (x3<(0:Int)))),PV.lit (Value.string (af x3.natAbs)),PV.lit (Value.bool (decide (xn<(0:Int)))),PV.lit (Value.string (af xn.natAbs))]),(3,[PV.lit (Value.bool (decide (y0<(0:Int)))),PV.lit (Value.string (af y0.natAbs)),PV.lit (Value.bool (decide (y1<(0:Int)))),PV.lit (Value.string (af y1.natAbs)),PV.lit (Value.bool (decide (y2<(0:Int)))),PV.lit (Value.string (af y2.natAbs)),PV.lit (Value.bool (decide (y3<(0:Int)))),PV.lit (Value.string (af y3.natAbs)),PV.lit (Value.bool (decide (yn<(0:Int)))),PV.lit (Value.string (af yn.natAbs))]),(4,Z),(5,A'),(7,[PV.lit (Value.bool g),PV.lit (Value.string s)])] [] []),IntKind.i64.wrap ((↑i:Int)+(1:Int))=(↑(i+(1:Nat)):Int)]):=by kernel_rfl
theorem V0 (k:Nat) (x0 x1 x2 x3 xn y0 y1 y2 y3 yn p0 p1 p2 p3 n l0 l1 l2 l3 ln:Int):aA MD t38 k 54 [.ag (zc x0++zc x1++zc x2++zc x3++zc xn), .ag (zc y0++zc y1++zc y2++zc y3++zc yn)] [.l (.exit 0) ⟨[(2, .bp 2 0),(3, .bp 3 0),(4, .bp 4 0),(5, .bp 5 0),(12, .pv (.ag (zc x0++zc x1++zc x2++zc x3))),(13, .pv (iv 4)),(14, .pv (bv false))],[(2,zc x0++zc x1++zc x2++zc x3++zc xn),(3,zc y0++zc y1++zc y2++zc y3++zc yn),(4,zc 0++zc 0++zc 0++zc 0++zc 0),(5,zc p0++zc p1++zc p2++zc p3)],[],[]⟩, .r (one (.ag (zc n))), .r (one (.ag (zc l0++zc l1++zc l2++zc l3++zc ln)))]=
 some (RV.mk (PV.ag [PV.lit (Value.bool (decide (l0<(0:Int)))),PV.lit (Value.string (af l0.natAbs)),PV.lit (Value.bool (decide (l1<(0:Int)))),PV.lit (Value.string (af l1.natAbs)),PV.lit (Value.bool (decide (l2<(0:Int)))),PV.lit (Value.string (af l2.natAbs)),PV.lit (Value.bool (decide (l3<(0:Int)))),PV.lit (Value.string (af l3.natAbs)),PV.lit (Value.bool (decide (ln<(0:Int)))),PV.lit (Value.string (af ln.natAbs))]) none,[aX MD t38 k (54:Nat) (0:Nat) (St.mk [(2,AV.bp 2 0),(3,AV.bp 3 0),(4,AV.bp 4 0),(5,AV.bp 5 0),(12,AV.pv (PV.ag [PV.lit (Value.bool (decide (x0<(0:Int)))),PV.lit (Value.string (af x0.natAbs)),PV.lit (Value.bool (decide (x1<(0:Int)))),PV.lit (Value.string (af x1.natAbs)),PV.lit (Value.bool (decide (x2<(0:Int)))),PV.lit (Value.string (af x2.natAbs)),PV.lit (Value.bool (decide (x3<(0:Int)))),PV.lit (Value.string (af x3.natAbs))])),(13,AV.pv (PV.lit (Value.int IntKind.i64 (0:Int))))] [(2,[PV.lit (Value.bool (decide (x0<(0:Int)))),PV.lit (Value.string (af x0.natAbs)),PV.lit (Value.bool (decide (x1<(0:Int)))),PV.lit (Value.string (af x1.natAbs)),PV.lit (Value.bool (decide (x2<(0:Int)))),PV.lit (Value.string (af x2.natAbs)),PV.lit (Value.bool (decide (x3<(0:Int)))),PV.lit (Value.string (af x3.natAbs)),PV.lit (Value.bool (decide (xn<(0:Int)))),PV.lit (Value.string (af xn.natAbs))]),(3,[PV.lit (Value.bool (decide (y0<(0:Int)))),PV.lit (Value.string (af y0.natAbs)),PV.lit (Value.bool (decide (y1<(0:Int)))),PV.lit (Value.string (af y1.natAbs)),PV.lit (Value.bool (decide (y2<(0:Int)))),PV.lit (Value.string (af y2.natAbs)),PV.lit (Value.bool (decide (y3<(0:Int)))),PV.lit (Value.string (af y3.natAbs)),PV.lit (Value.bool (decide (yn<(0:Int)))),PV.lit (Value.string (af yn.natAbs))]),(4,[PV.lit (Value.bool false),PV.lit (Value.string (ByteArray.mk #[])),PV.lit (Value.bool false),PV.lit (Value.string (ByteArray.mk #[])),PV.lit (Value.bool false),PV.lit (Value.string (ByteArray.mk #[])),PV.lit (Value.bool false),PV.lit (Value.string (ByteArray.mk #[])),PV.lit (Value.bool false),PV.lit (Value.string (ByteArray.mk #[]))]),(5,[PV.lit (Value.bool false),PV.lit (Value.string (ByteArray.mk #[])),PV.lit (Value.bool false),PV.lit (Value.string (ByteArray.mk #[])),PV.lit (Value.bool false),PV.lit (Value.string (ByteArray.mk #[])),PV.lit (Value.bool false),PV.lit (Value.string (ByteArray.mk #[]))])] [] []) (Xt.exit 0) (St.mk [(2,AV.bp 2 0),(3,AV.bp 3 0),(4,AV.bp 4 0),(5,AV.bp 5 0),(12,AV.pv (PV.ag [PV.lit (Value.bool (decide (x0<(0:Int)))),PV.lit (Value.string (af x0.natAbs)),PV.lit (Value.bool (decide (x1<(0:Int)))),PV.lit (Value.string (af x1.natAbs)),PV.lit (Value.bool (decide (x2<(0:Int)))),PV.lit (Value.string (af x2.natAbs)),PV.lit (Value.bool (decide (x3<(0:Int)))),PV.lit (Value.string (af x3.natAbs))])),(13,AV.pv (PV.lit (Value.int IntKind.i64 (4:Int)))),(14,AV.pv (PV.lit (Value.bool false)))] [(2,[PV.lit (Value.bool (decide (x0<(0:Int)))),PV.lit (Value.string (af x0.natAbs)),PV.lit (Value.bool (decide (x1<(0:Int)))),PV.lit (Value.string (af x1.natAbs)),PV.lit (Value.bool (decide (x2<(0:Int)))),PV.lit (Value.string (af x2.natAbs)),PV.lit (Value.bool (decide (x3<(0:Int)))),PV.lit (Value.string (af x3.natAbs)),PV.lit (Value.bool (decide (xn<(0:Int)))),PV.lit (Value.string (af xn.natAbs))]),(3,[PV.lit (Value.bool (decide (y0<(0:Int)))),PV.lit (Value.string (af y0.natAbs)),PV.lit (Value.bool (decide (y1<(0:Int)))),PV.lit (Value.string (af y1.natAbs)),PV.lit (Value.bool (decide (y2<(0:Int)))),PV.lit (Value.string (af y2.natAbs)),PV.lit (Value.bool (decide (y3<(0:Int)))),PV.lit (Value.string (af y3.natAbs)),PV.lit (Value.bool (decide (yn<(0:Int)))),PV.lit (Value.string (af yn.natAbs))]),(4,[PV.lit (Value.bool false),PV.lit (Value.string (ByteArray.mk (List.map (fun x=>UInt8.ofNat x) (dg (256:Nat) (Int.natAbs (0:Int))).reverse).toArray)),PV.lit (Value.bool false),PV.lit (Value.string (ByteArray.mk (List.map (fun x=>UInt8.ofNat x) (dg (256:Nat) (Int.natAbs (0:Int))).reverse).toArray)),PV.lit (Value.bool false),PV.lit (Value.string (ByteArray.mk (List.map (fun x=>UInt8.ofNat x) (dg (256:Nat) (Int.natAbs (0:Int))).reverse).toArray)),PV.lit (Value.bool false),PV.lit (Value.string (ByteArray.mk (List.map (fun x=>UInt8.ofNat x) (dg (256:Nat) (Int.natAbs (0:Int))).reverse).toArray)),PV.lit (Value.bool false),PV.lit (Value.string (ByteArray.mk (List.map (fun x=>UInt8.ofNat x) (dg (256:Nat) (Int.natAbs (0:Int))).reverse).toArray))]),(5,[PV.lit (Value.bool (decide (p0<(0:Int)))),PV.lit (Value.string (af p0.natAbs)),PV.lit (Value.bool (decide (p1<(0:Int)))),PV.lit (Value.string (af p1.natAbs)),PV.lit (Value.bool (decide (p2<(0:Int)))),PV.lit (Value.string (af p2.natAbs)),PV.lit (Value.bool (decide (p3<(0:Int)))),PV.lit (Value.string (af p3.natAbs))])] [] []),aa t38 56 [PV.ag [PV.lit (Value.bool (decide (xn<(0:Int)))),PV.lit (Value.string (af xn.natAbs))],PV.ag [PV.lit (Value.bool (decide (yn<(0:Int)))),PV.lit (Value.string (af yn.natAbs))]] (RV.mk (PV.ag [PV.lit (Value.bool (decide (n<(0:Int)))),PV.lit (Value.string (af n.natAbs))]) none),aa t38 57 [PV.ag [PV.lit (Value.bool (decide (p0<(0:Int)))),PV.lit (Value.string (af p0.natAbs)),PV.lit (Value.bool (decide (p1<(0:Int)))),PV.lit (Value.string (af p1.natAbs)),PV.lit (Value.bool (decide (p2<(0:Int)))),PV.lit (Value.string (af p2.natAbs)),PV.lit (Value.bool (decide (p3<(0:Int)))),PV.lit (Value.string (af p3.natAbs))],PV.ag [PV.lit (Value.bool (decide (n<(0:Int)))),PV.lit (Value.string (af n.natAbs))]] (RV.mk (PV.ag [PV.lit (Value.bool (decide (l0<(0:Int)))),PV.lit (Value.string (af l0.natAbs)),PV.lit (Value.bool (decide (l1<(0:Int)))),PV.lit (Value.string (af l1.natAbs)),PV.lit (Value.bool (decide (l2<(0:Int)))),PV.lit (Value.string (af l2.natAbs)),PV.lit (Value.bool (decide (l3<(0:Int)))),PV.lit (Value.string (af l3.natAbs)),PV.lit (Value.bool (decide (ln<(0:Int)))),PV.lit (Value.string (af ln.natAbs))]) none)]):=by kernel_rfl
theorem V4 (k i:Nat) (X Y Z A xs:List PV):ay MD t38 k 54 0 ⟨[(2, .bp 2 0),(3, .bp 3 0),(4, .bp 4 0),(5, .bp 5 0),(12, .pv (.ag xs)),(13, .pv (iv i))],[(2,X),(3,Y),(4,Z),(5,A)],[],[]⟩ [.c false]=
 some ((Xt.exit 0,St.mk [(2,AV.bp 2 0),(3,AV.bp 3 0),(4,AV.bp 4 0),(5,AV.bp 5 0),(12,AV.pv (PV.ag xs)),(13,AV.pv (PV.lit (Value.int IntKind.i64 (↑i:Int)))),(14,AV.pv (PV.lit (Value.bool false)))] [(2,X),(3,Y),(4,Z),(5,A)] [] []),[],[decide ((↑i:Int)<(4:Int))=false]):=by kernel_rfl
theorem eO {a b:Int} (ha:Sm a) (hb:Sm b):Dh [.ag (zc a), .ag (zc b)]=some (one (.ag (zc (a* b)))):=
 aO (a:=(a,b)) (enc:=fun x:Int×Int=>[.ag (zc x.1), .ag (zc x.2)]) (fun a b e=>by rw [sI e]) ⟨ha,hb⟩
theorem mE {a b:Int} (ha:Sm a) (hb:Sm b):CG [.ag (zc a), .ag (zc b)]=some (one (.ag (zc (a+b)))):=
 aO (a:=(a,b)) (enc:=fun x:Int×Int=>[.ag (zc x.1), .ag (zc x.2)]) (fun a b e=>by rw [sI e]) ⟨ha,hb⟩
theorem zN {x y:au} (e:[PV.ag (zc x.a++zc x.b++zc x.c++zc x.d), .ag (zc x.n)]=[.ag (zc y.a++zc y.b++zc y.c++zc y.d), .ag (zc y.n)]):x=y:=by
 obtain ⟨a,b,c,d,n⟩:=x
 obtain ⟨a',b',c',d',n'⟩:=y
 simp only [List.cons.injEq,and_true,PV.ag.injEq] at e
 obtain ⟨e1,e2⟩:=e
 have hl:∀z:Int,(zc z).length=2:=fun _=>rfl
 obtain ⟨e1,h4⟩:=List.append_inj' e1 (by rw [hl,hl])
 obtain ⟨e1,h3⟩:=List.append_inj' e1 (by rw [hl,hl])
 obtain ⟨h1,h2⟩:=List.append_inj' e1 (by rw [hl,hl])
 rw [eE h1,eE h2,eE h3,eE h4,eE e2]
theorem wH {x:au} (h0:x.n≠0) (hs:x.Bs):De [.ag (zc x.a++zc x.b++zc x.c++zc x.d), .ag (zc x.n)]=some (one (.ag x.low.cells)):=
 aO (enc:=fun x:au=>[.ag (zc x.a++zc x.b++zc x.c++zc x.d), .ag (zc x.n)]) (fun a b e=>by rw [zN e]) ⟨h0,hs⟩
theorem NM:aH MD.P t38:=aI
 (ak (ax fun x h=>Bu x.1 x.2 h.1 h.2)
 (ak (ax fun x h=>BY x.1 x.2 h.1 h.2)
 (ak (ax fun x h=>zX x h.1 h.2)
 (ak (ax fun n h=>oV n h.1 h.2) aF))))
def c4 (f:Nat→Int):List PV:=zc (f 0)++zc (f 1)++zc (f 2)++zc (f 3)
def vU (f:Nat→Int) (q:Nat) (z:Int):Nat→Int:=fun k=>if k=q then z else f k
def mm (i j:Nat):Nat:=match i&&&j with
 |0=>1
 |1=>2
 |2=>3
 |_=>6
theorem vb {i:Nat} (h:i<4):i=0∨i=1∨i=2∨i=3:=by omega
theorem Va {f:Nat→Int} {q:Nat} (h:q<4):Ld MD.P 23 (c4 f) (0+q* 2) (.ag (zc (f q))):=by
 rcases vb h with rfl|rfl|rfl|rfl<;>(unfold Ld;kernel_rfl)
theorem PA {f:Nat→Int} {q:Nat} (h:q<4):Ld MD.P 23 (c4 f) ((q:Int).toNat* 2) (.ag (zc (f q))):=by
 rcases vb h with rfl|rfl|rfl|rfl<;>(unfold Ld;kernel_rfl)
theorem R1 {f:Nat→Int} {q:Nat} (h:q<4) (z:Int):bZ (c4 f) (0+q* 2) (zc z) (c4 (vU f q z)):=by
 rcases vb h with rfl|rfl|rfl|rfl<;>rfl
theorem CK {i j:Nat} (hi:i<4) (hj:j<4):(IntKind.i64.wrap (((BitVec.ofInt IntKind.i64.bits (i:Int)&&&BitVec.ofInt IntKind.i64.bits (j:Int)).toNat:Nat):Int)=((i&&&j:Nat):Int)∧IntKind.i64.wrap (((BitVec.ofInt IntKind.i64.bits (i:Int)^^^BitVec.ofInt IntKind.i64.bits (j:Int)).toNat:Nat):Int)=((i^^^j:Nat):Int))∧eu ⟨#[49,50,51,54]⟩ ((i&&&j:Nat):Int) ((48+mm i j:Nat):Int)∧(i^^^j<4∧mm i j≤6):=by
 rcases vb hi with rfl|rfl|rfl|rfl<;>rcases vb hj with rfl|rfl|rfl|rfl<;>exact ⟨⟨by decide,by decide⟩,rfl,by decide,by decide⟩
def kq (x y f:Nat→Int) (i:Nat):Nat→Nat→Int
 |0=>f
 |j+1=>vU (kq x y f i j) (i^^^j) (kq x y f i j (i^^^j)+(mm i j:Int)* (x i* y j))
def ei (x y:Nat→Int):Nat→Nat→Int
 |0=>fun _=>0
 |i+1=>kq x y (ei x y i) i 4
theorem A0 (f:Nat→Int) (q:Nat):vU f q (f q+0)=f:=by
 funext k
 unfold vU
 split
 · rename_i h;rw [h,Int.add_zero]
 · rfl
def SJ (x y f:Nat→Int) (xn yn:Int) (i j:Nat) (e:List (Nat×AV)):St:=⟨(2, .bp 2 0)::(3, .bp 3 0)::(4, .bp 4 0)::(5, .bp 5 0)::(6, .pv (iv i))::(7, .bp 7 0)::(12, .pv (.ag (c4 x)))::(13, .pv (iv i))::(18, .pv (.ag (c4 y)))::(19, .pv (iv j))::e,[(2,c4 x++zc xn),(3,c4 y++zc yn),(4,zc 0++zc 0++zc 0++zc 0++zc 0),(5,c4 f),(7,zc (x i))],[],[]⟩
theorem HN (k i j:Nat) (x y f:Nat→Int) (xn yn:Int) (hi:i<4) (hj:j<4) (sx:Sm (x i)) (sy:Sm (y j)) (WW:Sm (x i* y j)) (sm:Sm ((mm i j:Int)* (x i* y j))) (sf:Sm (f (i^^^j))) (s1:∀n:Nat,n≤6→Sm (n:Int)):
  aU MD t38 k 54 1 (SJ x y f xn yn i j [])=some (.normal,SJ x y (vU f (i^^^j) (f (i^^^j)+(mm i j:Int)* (x i* y j))) xn yn i (j+1) []):=by
 obtain ⟨⟨b1,b2⟩,b3,b4,b5⟩:=CK hi hj
 have hl:=PA (f:=y) hj
 have wj:IntKind.i64.wrap ((j:Int)+1)=((j+1:Nat):Int):=aR (by omega) (by omega)
 by_cases hx:x i=0
 · rw [show (mm i j:Int)* (x i* y j)=0 by rw [hx,Int.zero_mul,Int.mul_zero],A0]
   exact aq (V5 k i j (decide (x i<0)) (decide (y j<0)) (af (x i).natAbs) (af (y j).natAbs) (c4 x++zc xn) (c4 y++zc yn) (zc 0++zc 0++zc 0++zc 0++zc 0) (c4 f) (c4 x) (c4 y)) ⟨decide_eq_true (by omega),⟨by omega,by omega⟩,hl,tQ (by rw [hx];rfl),wj,trivial⟩
 · by_cases hy:y j=0
   · rw [show (mm i j:Int)* (x i* y j)=0 by rw [hy,Int.mul_zero,Int.mul_zero],A0]
     exact aq (V6 k i j (decide (x i<0)) (decide (y j<0)) (af (x i).natAbs) (af (y j).natAbs) (c4 x++zc xn) (c4 y++zc yn) (zc 0++zc 0++zc 0++zc 0++zc 0) (c4 f) (c4 x) (c4 y)) ⟨decide_eq_true (by omega),⟨by omega,by omega⟩,hl,oR (by omega),tQ (by rw [hy];rfl),wj,trivial⟩
   · have m1:=eO sx sy
     have m2:=eO (s1 (mm i j) b5) WW
     have m3:=mE sf sm
     have o:=jP (n:=(mm i j:Int)) (by omega) (by omega)
     have w8:IntKind.u8.wrap (((48+mm i j:Nat):Int) - 48)=((mm i j:Nat):Int):=by
      have:((48+mm i j:Nat):Int) - 48=((mm i j:Nat):Int):=by omega
      rw [this]
      obtain ⟨m,hm⟩:∃m,m=mm i j:=⟨_,rfl⟩
      rw [←hm] at b5 ⊢
      have:m=0∨m=1∨m=2∨m=3∨m=4∨m=5∨m=6:=by omega
      rcases this with rfl|rfl|rfl|rfl|rfl|rfl|rfl<;>rfl
     exact aq (V7 k i j (i&&&j) (48+mm i j) (mm i j) (i^^^j) (decide (x i<0)) (decide (y j<0)) (decide ((mm i j:Int)<0)) (decide (f (i^^^j)<0)) (decide (x i* y j<0)) (decide ((mm i j:Int)* (x i* y j)<0)) (decide (f (i^^^j)+(mm i j:Int)* (x i* y j)<0)) (af (x i).natAbs) (af (y j).natAbs) (af (mm i j:Int).natAbs) (af (f (i^^^j)).natAbs) (af (x i* y j).natAbs) (af ((mm i j:Int)* (x i* y j)).natAbs) (af (f (i^^^j)+(mm i j:Int)* (x i* y j)).natAbs) (c4 x++zc xn) (c4 y++zc yn) (zc 0++zc 0++zc 0++zc 0++zc 0) (c4 f) (c4 (vU f (i^^^j) (f (i^^^j)+(mm i j:Int)* (x i* y j)))) (c4 x) (c4 y))
      ⟨decide_eq_true (by omega),⟨by omega,by omega⟩,hl,oR (by omega),oR (by omega),b1,b3,w8,aR rfl (by omega),o,b2,b2,⟨rfl,by omega⟩,Va b4,m1,m2,m3,⟨rfl,by omega⟩,by show _≤8;omega,R1 b4 _,wj,trivial⟩
theorem v5 {x y f:Nat→Int} {i:Nat} {B C:Nat} (hi:i<4) (hf:∀k,(f k).natAbs≤B) (hC:∀j,j<4→6* ((x i).natAbs* (y j).natAbs)≤C):∀j,j≤4→∀k,(kq x y f i j k).natAbs≤B+j* C
 |0,_,k=>by have:=hf k;simp only [kq];omega
 |j+1,hj,k=>by
  have ih:=v5 hi hf hC j (by omega)
  have hb:=(CK hi (show j<4 by omega)).2.2.2
  have hc:=hC j (by omega)
  have hm:((mm i j:Int)* (x i* y j)).natAbs≤C:=by
   rw [Int.natAbs_mul,Int.natAbs_mul,Int.natAbs_natCast]
   exact Nat.le_trans (Nat.mul_le_mul_right _ hb) hc
  simp only [kq,vU]
  rw [Nat.succ_mul]
  split
  · have:=ih (i^^^j)
    have h2:=Int.natAbs_add_le (kq x y f i j (i^^^j)) ((mm i j:Int)* (x i* y j))
    omega
  · have:=ih k;omega
theorem vZ {x y:Nat→Int} {C:Nat} (hC:∀i j,i<4→j<4→6* ((x i).natAbs* (y j).natAbs)≤C):∀i,i≤4→∀k,(ei x y i k).natAbs≤i* (4* C)
 |0,_,k=>by simp [ei]
 |i+1,hi,k=>by
  have:=v5 (B:=i* (4* C)) (C:=C) (show i<4 by omega) (vZ hC i (by omega)) (fun j hj=>hC i j (by omega) hj) 4 (Nat.le_refl _) k
  simp only [ei]
  rw [Nat.succ_mul];exact this
structure Pc (x y:Nat→Int) (C:Nat):Prop where
 le:∀i j,i<4→j<4→6* ((x i).natAbs* (y j).natAbs)≤C
 sm:∀z:Int,z.natAbs≤16* C+6→Sm z
 sx:∀i,i<4→Sm (x i)∧Sm (y i)
theorem HL (k i:Nat) (x y:Nat→Int) (xn yn:Int) {C:Nat} (h:Pc x y C) (hi:i<4) (hk:4<k):bh (aU MD t38 k 54 1) k (SJ x y (ei x y i) xn yn i 0 [])=some (.exit 2,SJ x y (ei x y (i+1)) xn yn i 4 [(20, .pv (bv false))]):=by
 refine bK (f:=aU MD t38 k 54 1) (S:=fun j=>SJ x y (kq x y (ei x y i) i j) xn yn i j []) (n:=4) (fun j hj=> ?_)
  (aq (V8 k i 4 (decide (x i<0)) (af (x i).natAbs) (c4 x++zc xn) (c4 y++zc yn) (zc 0++zc 0++zc 0++zc 0++zc 0) (c4 (kq x y (ei x y i) i 4)) (c4 x) (c4 y)) ⟨rfl,trivial⟩) (by simp) k hk
 have hc:=h.le i j hi hj
 have hb:=(CK hi hj).2.2.2
 have h1:(x i* y j).natAbs≤C:=by rw [Int.natAbs_mul];omega
 have h2:((mm i j:Int)* (x i* y j)).natAbs≤C:=by
  rw [Int.natAbs_mul,Int.natAbs_mul,Int.natAbs_natCast]
  exact Nat.le_trans (Nat.mul_le_mul_right _ hb) hc
 have h3:=v5 (B:=i* (4* C)) (C:=C) hi (vZ h.le i (by omega)) (fun j hj=>h.le i j hi hj) j (by omega) (i^^^j)
 have h4:i* (4* C)+j* C≤16* C:=by
  rcases vb hi with rfl|rfl|rfl|rfl<;>rcases vb hj with rfl|rfl|rfl|rfl<;>omega
 exact HN k i j x y _ xn yn hi hj (h.sx i hi).1 (h.sx j hj).2 (h.sm _ (by omega)) (h.sm _ (by omega)) (h.sm _ (by omega)) (fun n hn=>h.sm _ (by rw [Int.natAbs_natCast];omega))
def K6 (x y f:Nat→Int) (xn yn:Int) (i:Nat) (e:List (Nat×AV)):St:=⟨(2, .bp 2 0)::(3, .bp 3 0)::(4, .bp 4 0)::(5, .bp 5 0)::(12, .pv (.ag (c4 x)))::(13, .pv (iv i))::e,[(2,c4 x++zc xn),(3,c4 y++zc yn),(4,zc 0++zc 0++zc 0++zc 0++zc 0),(5,c4 f)],[],[]⟩
theorem HM (k:Nat) (x y:Nat→Int) (xn yn:Int) {C:Nat} (h:Pc x y C) (hk:4<k):bh (aU MD t38 k 54 0) k (K6 x y (fun _=>0) xn yn 0 [])=some (.exit 0,K6 x y (ei x y 4) xn yn 4 [(14, .pv (bv false))]):=by
 refine bK (f:=aU MD t38 k 54 0) (S:=fun i=>K6 x y (ei x y i) xn yn i []) (n:=4) (fun i hi=> ?_)
  (aq (V4 k 4 (c4 x++zc xn) (c4 y++zc yn) (zc 0++zc 0++zc 0++zc 0++zc 0) (c4 (ei x y 4)) (c4 x)) ⟨rfl,trivial⟩) (by simp) k hk
 have lp:=HL k i x y xn yn h hi hk
 exact aq (V3 k i (decide (x i<0)) (af (x i).natAbs) (x 0) (x 1) (x 2) (x 3) xn (y 0) (y 1) (y 2) (y 3) yn (zc 0++zc 0++zc 0++zc 0++zc 0) (c4 (ei x y i)) (c4 (ei x y (i+1)))) ⟨decide_eq_true (by omega),⟨by omega,by omega⟩,PA hi,lp,aR (by omega) (by omega),trivial⟩
def au.at (x:au):Nat→Int:=fun k=>match k with
 |0=>x.a
 |1=>x.b
 |2=>x.c
 |_=>x.d
def au.cE (x y:au):au:=⟨ei x.at y.at 4 0,ei x.at y.at 4 1,ei x.at y.at 4 2,ei x.at y.at 4 3,x.n* y.n⟩
theorem Dv (x y:au) {C:Nat} (h:Pc x.at y.at C) (hx:Sm x.n) (hy:Sm y.n) (hn:Sm (x.n* y.n)) (h0:x.n* y.n≠0):az P0 54 [.ag x.cells, .ag y.cells] (one (.ag (x.cE y).low.cells)):=by
 have lp:=HM 5 x.at y.at x.n y.n h (by omega)
 have m:=eO hx hy
 have ha:∀k,Sm (ei x.at y.at 4 k):=fun k=>h.sm _ (by have:=vZ h.le 4 (Nat.le_refl _) k;omega)
 have l:=wH (x:=x.cE y) h0 ⟨⟨⟨ha 0,ha 1⟩,ha 2,ha 3⟩,hn⟩
 exact aj ah NM (by rfl) (V0 5 x.a x.b x.c x.d x.n y.a y.b y.c y.d y.n (ei x.at y.at 4 0) (ei x.at y.at 4 1) (ei x.at y.at 4 2) (ei x.at y.at 4 3) (x.n* y.n) (x.cE y).low.a (x.cE y).low.b (x.cE y).low.c (x.cE y).low.d (x.cE y).low.n) ⟨lp,m,l,trivial⟩
end Go.Proofs.YtibbgjafjhcemaaGreatDoor.Cul
namespace Go.Proofs.YtibbgjafjhcemaaGreatDoor.Cul
open Go Go.RowKit
noncomputable def IT:List PV→Option RV:=bJ au.small (fun x=>[.ag x.cells]) (fun x=>one (bv x.ok))
def au.Fit (K:Nat) (x:au):Prop:=((x.a.natAbs<256^K∧x.b.natAbs<256^K)∧(x.c.natAbs<256^K∧x.d.natAbs<256^K))∧x.n.natAbs<256^K
noncomputable def Du:List PV→Option RV:=bJ (fun p:au×au=>(∃K,K<2^20∧p.1.Fit K∧p.2.Fit K)∧p.1.n* p.2.n≠0) (fun p=>[.ag p.1.cells, .ag p.2.cells]) (fun p=>one (.ag (p.1.cE p.2).low.cells))
noncomputable def t39:Cl:=bM [(51,IT),(54,Du)]
theorem Vw (k:Nat) (g0 g1 g2 g3 gn h0 h1 h2 h3 hn l0 l1 l2 l3 ln:Bool) (s0 s1 s2 s3 sn t0 t1 t2 t3 tn u0 u1 u2 u3 un:ByteArray):aA MD t39 k 27 [.ag (ic g0 s0++ic g1 s1++ic g2 s2++ic g3 s3++ic gn sn), .ag (ic h0 t0++ic h1 t1++ic h2 t2++ic h3 t3++ic hn tn)] [.r (one (bv true)), .r (one (bv true)), .r (one (.ag (ic l0 u0++ic l1 u1++ic l2 u2++ic l3 u3++ic ln un)))]=
 some (RV.mk (PV.ag [PV.lit (Value.bool l0),PV.lit (Value.string u0),PV.lit (Value.bool l1),PV.lit (Value.string u1),PV.lit (Value.bool l2),PV.lit (Value.string u2),PV.lit (Value.bool l3),PV.lit (Value.string u3),PV.lit (Value.bool ln),PV.lit (Value.string un)]) none,[aa t39 51 [PV.ag [PV.lit (Value.bool g0),PV.lit (Value.string s0),PV.lit (Value.bool g1),PV.lit (Value.string s1),PV.lit (Value.bool g2),PV.lit (Value.string s2),PV.lit (Value.bool g3),PV.lit (Value.string s3),PV.lit (Value.bool gn),PV.lit (Value.string sn)]] (RV.mk (PV.lit (Value.bool true)) none),aa t39 51 [PV.ag [PV.lit (Value.bool h0),PV.lit (Value.string t0),PV.lit (Value.bool h1),PV.lit (Value.string t1),PV.lit (Value.bool h2),PV.lit (Value.string t2),PV.lit (Value.bool h3),PV.lit (Value.string t3),PV.lit (Value.bool hn),PV.lit (Value.string tn)]] (RV.mk (PV.lit (Value.bool true)) none),aa t39 54 [PV.ag [PV.lit (Value.bool g0),PV.lit (Value.string s0),PV.lit (Value.bool g1),PV.lit (Value.string s1),PV.lit (Value.bool g2),PV.lit (Value.string s2),PV.lit (Value.bool g3),PV.lit (Value.string s3),PV.lit (Value.bool gn),PV.lit (Value.string sn)],PV.ag [PV.lit (Value.bool h0),PV.lit (Value.string t0),PV.lit (Value.bool h1),PV.lit (Value.string t1),PV.lit (Value.bool h2),PV.lit (Value.string t2),PV.lit (Value.bool h3),PV.lit (Value.string t3),PV.lit (Value.bool hn),PV.lit (Value.string tn)]] (RV.mk (PV.ag [PV.lit (Value.bool l0),PV.lit (Value.string u0),PV.lit (Value.bool l1),PV.lit (Value.string u1),PV.lit (Value.bool l2),PV.lit (Value.string u2),PV.lit (Value.bool l3),PV.lit (Value.string u3),PV.lit (Value.bool ln),PV.lit (Value.string un)]) none)]):=by kernel_rfl
theorem au.Fit.pc {K:Nat} {x y:au} (hK:K<2^20) (hx:x.Fit K) (hy:y.Fit K):Pc x.at y.at (6* (256^K* 256^K)):=by
 have hp:1≤256^K:=Nat.one_le_pow _ _ (by decide)
 have fx:∀i,i<4→(x.at i).natAbs<256^K:=by
  intro i hi
  rcases vb hi with rfl|rfl|rfl|rfl
  · exact hx.1.1.1
  · exact hx.1.1.2
  · exact hx.1.2.1
  · exact hx.1.2.2
 have fy:∀i,i<4→(y.at i).natAbs<256^K:=by
  intro i hi
  rcases vb hi with rfl|rfl|rfl|rfl
  · exact hy.1.1.1
  · exact hy.1.1.2
  · exact hy.1.2.1
  · exact hy.1.2.2
 refine ⟨fun i j hi hj=>Nat.mul_le_mul_left _ (Nat.mul_le_mul (Nat.le_of_lt (fx i hi)) (Nat.le_of_lt (fy j hj))),fun z hz=> ?_,fun i hi=>⟨Sm.of_lt (fx i hi) (by omega),Sm.of_lt (fy i hi) (by omega)⟩⟩
 refine Sm.of_lt (k:=K+K+1) ?_ (by omega)
 rw [Nat.pow_succ,Nat.pow_add]
 have hq:1* 1≤256^K* 256^K:=Nat.mul_le_mul hp hp
 generalize 256^K* 256^K=Q at*
 omega
theorem au.Fit.rL {K:Nat} {x:au} (hK:K<2^28) (h:x.Fit K):x.Bs:=
 ⟨⟨⟨Sm.of_lt h.1.1.1 hK,Sm.of_lt h.1.1.2 hK⟩,Sm.of_lt h.1.2.1 hK,Sm.of_lt h.1.2.2 hK⟩,Sm.of_lt h.2 hK⟩
theorem j6 {K:Nat} {a b:Int} (hK:K<2^20) (ha:a.natAbs<256^K) (hb:b.natAbs<256^K):Sm (a* b):=
 Sm.of_lt (k:=K+K) (by rw [Int.natAbs_mul,Nat.pow_add];exact Nat.mul_lt_mul'' ha hb) (by omega)
theorem bf {x y:au} (e:x.cells=y.cells):x=y:=by
 have hl:∀z:Int,(zc z).length=2:=fun _=>rfl
 unfold au.cells at e
 obtain ⟨e,h⟩:=List.append_inj' e (by rw [hl,hl])
 exact zN (by rw [e,h])
theorem oH {x:au} (h:x.small):IT [.ag x.cells]=some (one (bv x.ok)):=
 aO (enc:=fun x:au=>[.ag x.cells]) (fun a b e=>by
  simp only [List.cons.injEq,and_true,PV.ag.injEq] at e
  rw [bf e]) h
theorem kI {x y:au} {K:Nat} (hK:K<2^20) (hx:x.Fit K) (hy:y.Fit K) (h0:x.n* y.n≠0):Du [.ag x.cells, .ag y.cells]=some (one (.ag (x.cE y).low.cells)):=
 aO (a:=(x,y)) (enc:=fun p:au×au=>[.ag p.1.cells, .ag p.2.cells]) (fun a b e=>by
  simp only [List.cons.injEq,and_true,PV.ag.injEq] at e
  have:a=b:=Prod.ext (bf e.1) (bf e.2)
  rw [this]) ⟨⟨K,hK,hx,hy⟩,h0⟩
theorem B7 (p:au×au) (h:(∃K,K<2^20∧p.1.Fit K∧p.2.Fit K)∧p.1.n* p.2.n≠0):az P0 54 [.ag p.1.cells, .ag p.2.cells] (one (.ag (p.1.cE p.2).low.cells)):=by
 obtain ⟨⟨K,hK,hx,hy⟩,h0⟩:=h
 exact Dv p.1 p.2 (au.Fit.pc hK hx hy) (Sm.of_lt hx.2 (by omega)) (Sm.of_lt hy.2 (by omega)) (j6 hK hx.2 hy.2) h0
theorem NN:aH MD.P t39:=aI (ak (ax fun x h=>nH x h) (ak (ax B7) aF))
theorem au.lB {x:au} (h:x.ok=true):0<x.n:=by
 unfold au.ok at h
 simp only [Bool.and_eq_true,decide_eq_true_eq] at h
 exact h.1
theorem BM (x y:au) {K:Nat} (hK:K<2^20) (hx:x.Fit K) (hy:y.Fit K) (ox:x.ok=true) (oy:y.ok=true):az P0 27 [.ag x.cells, .ag y.cells] (one (.ag (x.cE y).low.cells)):=by
 have v1:=oH (hx.rL (by omega)).small
 have v2:=oH (hy.rL (by omega)).small
 rw [ox] at v1
 rw [oy] at v2
 have h0:x.n* y.n≠0:=by
  have:=Int.mul_pos (au.lB ox) (au.lB oy);omega
 have p:=kI hK hx hy h0
 obtain ⟨z,hz⟩:∃z,z=(x.cE y).low:=⟨_,rfl⟩
 rw [←hz] at p ⊢
 exact aj ah NN (by rfl) (Vw 1 (decide (x.a<0)) (decide (x.b<0)) (decide (x.c<0)) (decide (x.d<0)) (decide (x.n<0)) (decide (y.a<0)) (decide (y.b<0)) (decide (y.c<0)) (decide (y.d<0)) (decide (y.n<0)) (decide (z.a<0)) (decide (z.b<0)) (decide (z.c<0)) (decide (z.d<0)) (decide (z.n<0)) (af x.a.natAbs) (af x.b.natAbs) (af x.c.natAbs) (af x.d.natAbs) (af x.n.natAbs) (af y.a.natAbs) (af y.b.natAbs) (af y.c.natAbs) (af y.d.natAbs) (af y.n.natAbs) (af z.a.natAbs) (af z.b.natAbs) (af z.c.natAbs) (af z.d.natAbs) (af z.n.natAbs)) ⟨v1,v2,p,trivial⟩
theorem mA {s z:Int} (h:s∣z) (h0:s≠0):(z / s).natAbs=z.natAbs / s.natAbs:=by
 obtain ⟨c,rfl⟩:=h
 rw [Int.mul_ediv_cancel_left _ h0,Int.natAbs_mul,Nat.mul_div_cancel_left _ (by omega)]
theorem au.AJ (x:au):x.sg.natAbs=x.gcd:=by
 unfold au.sg
 split<;>simp
theorem au.oQ {x:au} (h0:x.n≠0):x.low.ok=true:=by
 have hg:=au.wB h0
 have hs:x.sg≠0:=by have:=x.AJ;omega
 have hd:=x.vA
 have d:=x.gcd_dvd
 simp only [Int.ofNat_dvd_left] at d
 unfold au.ok
 simp only [Bool.and_eq_true,decide_eq_true_eq]
 constructor
 · show 0<x.n / x.sg
   obtain ⟨c,hc⟩:=hd.2.2
   have e:x.n / x.sg=c:=by rw [hc,Int.mul_ediv_cancel_left _ hs]
   rw [e]
   have WJ:(x.n<0∧x.sg<0)∨(0<x.n∧0<x.sg):=by
    unfold au.sg
    split
    · left;constructor<;>omega
    · right;constructor<;>omega
   rcases Int.lt_trichotomy c 0 with h|h|h
   · rcases WJ with ⟨h1,h2⟩|⟨h1,h2⟩
     · have:=Int.mul_pos_of_neg_of_neg h2 h;omega
     · have:=Int.mul_neg_of_pos_of_neg h2 h;omega
   · subst h;simp at hc;exact absurd hc h0
   · exact h
 · show Nat.gcd (Nat.gcd (Nat.gcd (Nat.gcd (x.n / x.sg).natAbs (x.a / x.sg).natAbs) (x.b / x.sg).natAbs) (x.c / x.sg).natAbs) (x.d / x.sg).natAbs=1
   rw [mA hd.2.2 hs,mA hd.1.1 hs,mA hd.1.2 hs,mA hd.2.1.1 hs,mA hd.2.1.2 hs,x.AJ]
   rw [Nat.gcd_div d.2.2 d.1.1,Nat.gcd_div (Nat.dvd_gcd d.2.2 d.1.1) d.1.2,Nat.gcd_div (Nat.dvd_gcd (Nat.dvd_gcd d.2.2 d.1.1) d.1.2) d.2.1.1,Nat.gcd_div (Nat.dvd_gcd (Nat.dvd_gcd (Nat.dvd_gcd d.2.2 d.1.1) d.1.2) d.2.1.1) d.2.1.2]
   exact Nat.div_self hg
theorem au.Fit.low {K:Nat} {x:au} (h:x.Fit K) (h0:x.n≠0):x.low.Fit K:=by
 have hs:x.sg≠0:=by have:=x.AJ;have:=au.wB h0;omega
 have hd:=x.vA
 have q:∀z:Int,x.sg∣z→z.natAbs<256^K→(z / x.sg).natAbs<256^K:=fun z hz hl=>by
  rw [mA hz hs];exact Nat.lt_of_le_of_lt (Nat.div_le_self _ _) hl
 exact ⟨⟨⟨q _ hd.1.1 h.1.1.1,q _ hd.1.2 h.1.1.2⟩,q _ hd.2.1.1 h.1.2.1,q _ hd.2.1.2 h.1.2.2⟩,q _ hd.2.2 h.2⟩
end Go.Proofs.YtibbgjafjhcemaaGreatDoor.Cul
