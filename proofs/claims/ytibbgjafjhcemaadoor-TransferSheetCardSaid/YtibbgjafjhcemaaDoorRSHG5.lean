/- Part of a proof by an abstract machine for the program's code: lemmas, without conditions of their own beyond those that each states. (Made smaller by a program: short names, no comments.) -/
import Derived.Test.YtibbgjafjhcemaaDoorRSHG4
set_option linter.unusedVariables false
set_option linter.unusedSimpArgs false
set_option maxRecDepth 100000
set_option maxHeartbeats 2000000
namespace Go.Proofs.YtibbgjafjhcemaaDoor.Cul
open Go Go.RowKit
noncomputable def D0:List PV→Option RV:=cu (fun n:Int=> -(2^63)≤n∧n<2^63) (fun n=>[iv n]) (fun n=>one (.ag (zc n)))
noncomputable def Cx:List PV→Option RV:=cu (fun z:Int=>(aH z.natAbs).size≤7) (fun z=>[.ag (zc z)]) (fun z=>one (.an [iv z,bv true]))
noncomputable def JA:List PV→Option RV:=cu (fun v:Nat=>(aH v).size<2^30∧0<v) (fun v=>[sv (aH v)]) (fun v=>⟨ni (dg (16777216:Nat) v),some 1⟩)
noncomputable def Gj:List PV→Option RV:=cu (fun v:Nat=>(aH v).size<2^30) (fun v=>[sv (aH v)]) (fun v=>one (ni (dg (16777216:Nat) v)))
noncomputable def Gv:List PV→Option RV:=cu (fun x:Nat×Nat=>(dg (16777216:Nat) x.1).length<2^39∧(dg (16777216:Nat) x.2).length<2^39) (fun x=>[ni (dg (16777216:Nat) x.1),ni (dg (16777216:Nat) x.2)]) (fun x=>⟨ni (dg (16777216:Nat) (x.1+x.2)),some 1⟩)
noncomputable def Cu:List PV→Option RV:=cu (fun x:Nat×Nat=>x.2≤x.1∧0<x.1∧(dg (16777216:Nat) x.1).length<2^39) (fun x=>[ni (dg (16777216:Nat) x.1),ni (dg (16777216:Nat) x.2)]) (fun x=>⟨ni (dg (16777216:Nat) (x.1 - x.2)),some 1⟩)
noncomputable def Cy:List PV→Option RV:=cu (fun a:Nat=>(dg (16777216:Nat) a).length<2^39) (fun a=>[ni (dg (16777216:Nat) a),iv 0]) (fun a=>one (ni (dg (16777216:Nat) (2* a))))
noncomputable def Cv:List PV→Option RV:=cu (fun x:Nat×Nat=>(dg (16777216:Nat) x.1).length<2^40∧(dg (16777216:Nat) x.2).length<2^40) (fun x=>[ni (dg (16777216:Nat) x.1),ni (dg (16777216:Nat) x.2)]) (fun x=>one (iv (iT x.1 x.2)))
noncomputable def JB:List MA→Option (MR×List PV):=pz (fun v:Nat=>0<v∧(dg (16777216:Nat) v).length<2^39) (fun v=>[.g ((dg (16777216:Nat) v).map aJ) 0 1 (dg (16777216:Nat) v).length]) (fun v=>(.gt (oz v) (dg (16777216:Nat) (od v)).length [iv (tz v)],(gQ v).map aJ))
noncomputable def t24:Cl:=oD [(58,gV),(61,D0),(71,Cx),(72,JA),(73,vX),(76,Cv),(77,Cu),(78,Cy)] [(75,JB)] [(72,58),(72,61),(77,96)]
noncomputable def t25:Cl:=bQ [(58,gV),(72,Gj),(73,vX),(74,Gv)]
theorem gC (k:Nat) (g h:Bool) (s t:ByteArray) (n0 m0 n:Int) (e:Bool) (u:ByteArray):ay MD t24 k 59 [iz g s,iz h t] [.r (one (bv true)), .r (one (bv true)), .c true, .c true, .r (one (.an [iv n0,bv true])), .r (one (.an [iv m0,bv true])), .l (.exit 0) ⟨[(4, .bp 4 0),(5, .pv (iv n)),(7, .pv (iv 0)),(49, .pv (bv false))],[(4,[bv false,sv ⟨#[]⟩])],[],[]⟩, .r (one (iz e u))]=
 some (RV.mk (PV.ag [PV.lit (Value.bool e),PV.lit (Value.string u)]) none,[aa t24 58 [PV.ag [PV.lit (Value.bool g),PV.lit (Value.string s)]] (RV.mk (PV.lit (Value.bool true)) none),aa t24 58 [PV.ag [PV.lit (Value.bool h),PV.lit (Value.string t)]] (RV.mk (PV.lit (Value.bool true)) none),decide ((↑s.size:Int)≤(7:Int))=true,decide ((↑t.size:Int)≤(7:Int))=true,aa t24 71 [PV.ag [PV.lit (Value.bool false),PV.lit (Value.string s)]] (RV.mk (PV.an [PV.lit (Value.int IntKind.i64 n0),PV.lit (Value.bool true)]) none),aa t24 71 [PV.ag [PV.lit (Value.bool false),PV.lit (Value.string t)]] (RV.mk (PV.an [PV.lit (Value.int IntKind.i64 m0),PV.lit (Value.bool true)]) none),aN MD t24 k (59:Nat) (0:Nat) (St.mk [(4,AV.bp 4 0),(5,AV.pv (PV.lit (Value.int IntKind.i64 n0))),(7,AV.pv (PV.lit (Value.int IntKind.i64 m0)))] [(4,[PV.lit (Value.bool false),PV.lit (Value.string (ByteArray.mk #[]))])] [] []) (Xt.exit 0) (St.mk [(4,AV.bp 4 0),(5,AV.pv (PV.lit (Value.int IntKind.i64 n))),(7,AV.pv (PV.lit (Value.int IntKind.i64 (0:Int)))),(49,AV.pv (PV.lit (Value.bool false)))] [(4,[PV.lit (Value.bool false),PV.lit (Value.string (ByteArray.mk #[]))])] [] []),aa t24 61 [PV.lit (Value.int IntKind.i64 n)] (RV.mk (PV.ag [PV.lit (Value.bool e),PV.lit (Value.string u)]) none)]):=by kernel_rfl
theorem VF (k:Nat) (n m:Int):ak MD t24 k 59 0 ⟨[(4, .bp 4 0),(5, .pv (iv n)),(7, .pv (iv m))],[(4,[bv false,sv ⟨#[]⟩])],[],[]⟩ [.c false]=
 some ((Xt.exit 0,St.mk [(4,AV.bp 4 0),(5,AV.pv (PV.lit (Value.int IntKind.i64 n))),(7,AV.pv (PV.lit (Value.int IntKind.i64 m))),(49,AV.pv (PV.lit (Value.bool false)))] [(4,[PV.lit (Value.bool false),PV.lit (Value.string (ByteArray.mk #[]))])] [] []),[],[(m !=(0:Int))=false]):=by kernel_rfl
theorem VG (k:Nat) (n m r:Int):ak MD t24 k 59 0 ⟨[(4, .bp 4 0),(5, .pv (iv n)),(7, .pv (iv m))],[(4,[bv false,sv ⟨#[]⟩])],[],[]⟩ [.c true, .i 53 r]=
 some ((Xt.normal,St.mk [(4,AV.bp 4 0),(5,AV.pv (PV.lit (Value.int IntKind.i64 m))),(7,AV.pv (PV.lit (Value.int IntKind.i64 r)))] [(4,[PV.lit (Value.bool false),PV.lit (Value.string (ByteArray.mk #[]))])] [] []),[],[(m !=(0:Int))=true,n.tmod m=r,decide (m=(0:Int))=false]):=by kernel_rfl
theorem VH (k n m p:Nat) (g h e:Bool) (s t u:ByteArray) (cs ds es:List PV):ay MD t25 k 59 [iz g s,iz h t] [.r (one (bv true)), .r (one (bv true)), .c true, .c false, .r (one (.sl 1 n cs)), .r (one (.sl 1 m ds)), .c true, .r ⟨.sl 1 p es,some 1⟩, .r (one (iz e u))]=
 some (RV.mk (PV.ag [PV.lit (Value.bool e),PV.lit (Value.string u)]) none,[aa t25 58 [PV.ag [PV.lit (Value.bool g),PV.lit (Value.string s)]] (RV.mk (PV.lit (Value.bool true)) none),aa t25 58 [PV.ag [PV.lit (Value.bool h),PV.lit (Value.string t)]] (RV.mk (PV.lit (Value.bool true)) none),decide ((↑s.size:Int)≤(7:Int))=true,decide ((↑t.size:Int)≤(7:Int))=false,aa t25 72 [PV.lit (Value.string s)] (RV.mk (PV.sl 1 n cs) none),aa t25 72 [PV.lit (Value.string t)] (RV.mk (PV.sl 1 m ds) none),((↑n:Int)==(0:Int))=true,aa t25 74 [PV.sl 1 n cs,PV.sl 1 m ds] (RV.mk (PV.sl 1 p es) (some 1)),aa t25 73 [PV.lit (Value.bool false),PV.sl 1 p es] (RV.mk (PV.ag [PV.lit (Value.bool e),PV.lit (Value.string u)]) none)]):=by kernel_rfl
theorem VI (k n m p:Nat) (g h e:Bool) (s t u:ByteArray) (cs ds es:List PV):ay MD t25 k 59 [iz g s,iz h t] [.r (one (bv true)), .r (one (bv true)), .c false, .r (one (.sl 1 n cs)), .r (one (.sl 1 m ds)), .c false, .c true, .r ⟨.sl 1 p es,some 1⟩, .r (one (iz e u))]=
 some (RV.mk (PV.ag [PV.lit (Value.bool e),PV.lit (Value.string u)]) none,[aa t25 58 [PV.ag [PV.lit (Value.bool g),PV.lit (Value.string s)]] (RV.mk (PV.lit (Value.bool true)) none),aa t25 58 [PV.ag [PV.lit (Value.bool h),PV.lit (Value.string t)]] (RV.mk (PV.lit (Value.bool true)) none),decide ((↑s.size:Int)≤(7:Int))=false,aa t25 72 [PV.lit (Value.string s)] (RV.mk (PV.sl 1 n cs) none),aa t25 72 [PV.lit (Value.string t)] (RV.mk (PV.sl 1 m ds) none),((↑n:Int)==(0:Int))=false,((↑m:Int)==(0:Int))=true,aa t25 74 [PV.sl 1 n cs,PV.sl 1 m ds] (RV.mk (PV.sl 1 p es) (some 1)),aa t25 73 [PV.lit (Value.bool false),PV.sl 1 p es] (RV.mk (PV.ag [PV.lit (Value.bool e),PV.lit (Value.string u)]) none)]):=by kernel_rfl
theorem VJ (k n m o1 r1 o2 r2 r r':Nat) (g h e:Bool) (s t u:ByteArray) (a b j:Int) (cs ds aZ uO xs ys:List PV):ay MD t24 k 59 [iz g s,iz h t] [.r (one (bv true)), .r (one (bv true)), .c true, .c false, .r ⟨.sl 1 n cs,some 1⟩, .r ⟨.sl 1 m ds,some 1⟩, .c false, .c false, .m (.gt o1 r1 [iv a]) aZ, .m (.gt o2 r2 [iv b]) uO, .l (.exit 2) ⟨[(4, .bp 4 0),(9, .pv (.sl 1 r xs)),(10, .pv (.sl 1 r xs)),(11, .pv (iv a)),(12, .pv (iv b)),(13, .pv (iv 0)),(88, .pv (bv true))],[(4,[bv false,sv ⟨#[]⟩])],[],[]⟩, .l (.exit 4) ⟨[(4, .bp 4 0),(9, .pv (.sl 1 r' ys)),(11, .pv (iv a)),(12, .pv (iv b)),(14, .pv (iv j)),(104, .pv (bv false))],[(4,[bv false,sv ⟨#[]⟩])],[],[]⟩, .r (one (iz e u))]=
 some (RV.mk (PV.ag [PV.lit (Value.bool e),PV.lit (Value.string u)]) none,[aa t24 58 [PV.ag [PV.lit (Value.bool g),PV.lit (Value.string s)]] (RV.mk (PV.lit (Value.bool true)) none),aa t24 58 [PV.ag [PV.lit (Value.bool h),PV.lit (Value.string t)]] (RV.mk (PV.lit (Value.bool true)) none),decide ((↑s.size:Int)≤(7:Int))=true,decide ((↑t.size:Int)≤(7:Int))=false,aa t24 72 [PV.lit (Value.string s)] (RV.mk (PV.sl 1 n cs) (some 1)),cs.all bS=true,aa t24 72 [PV.lit (Value.string t)] (RV.mk (PV.sl 1 m ds) (some 1)),ds.all bS=true,((↑n:Int)==(0:Int))=false,((↑m:Int)==(0:Int))=false,cC t24 75 [MA.g cs 0 1 n] (MR.gt o1 r1 [PV.lit (Value.int IntKind.i64 a)]) aZ,cC t24 75 [MA.g ds 0 1 m] (MR.gt o2 r2 [PV.lit (Value.int IntKind.i64 b)]) uO,aN MD t24 k (59:Nat) (1:Nat) (St.mk [(4,AV.bp 4 0),(9,AV.bs 58 o1 1 r1),(10,AV.bs 61 o2 1 r2),(11,AV.pv (PV.lit (Value.int IntKind.i64 a))),(12,AV.pv (PV.lit (Value.int IntKind.i64 b)))] [(4,[PV.lit (Value.bool false),PV.lit (Value.string (ByteArray.mk #[]))]),(58,aZ),(61,uO)] [] []) (Xt.exit 2) (St.mk [(4,AV.bp 4 0),(9,AV.pv (PV.sl 1 r xs)),(10,AV.pv (PV.sl 1 r xs)),(11,AV.pv (PV.lit (Value.int IntKind.i64 a))),(12,AV.pv (PV.lit (Value.int IntKind.i64 b))),(13,AV.pv (PV.lit (Value.int IntKind.i64 (0:Int)))),(88,AV.pv (PV.lit (Value.bool true)))] [(4,[PV.lit (Value.bool false),PV.lit (Value.string (ByteArray.mk #[]))])] [] []),aN MD t24 k (59:Nat) (2:Nat) (St.mk [(4,AV.bp 4 0),(9,AV.pv (PV.sl 1 r xs)),(11,AV.pv (PV.lit (Value.int IntKind.i64 a))),(12,AV.pv (PV.lit (Value.int IntKind.i64 b))),(14,AV.pv (PV.lit (Value.int IntKind.i64 (0:Int))))] [(4,[PV.lit (Value.bool false),PV.lit (Value.string (ByteArray.mk #[]))])] [] []) (Xt.exit 4) (St.mk [(4,AV.bp 4 0),(9,AV.pv (PV.sl 1 r' ys)),(11,AV.pv (PV.lit (Value.int IntKind.i64 a))),(12,AV.pv (PV.lit (Value.int IntKind.i64 b))),(14,AV.pv (PV.lit (Value.int IntKind.i64 j))),(104,AV.pv (PV.lit (Value.bool false)))] [(4,[PV.lit (Value.bool false),PV.lit (Value.string (ByteArray.mk #[]))])] [] []),aa t24 73 [PV.lit (Value.bool false),PV.sl 1 r' ys] (RV.mk (PV.ag [PV.lit (Value.bool e),PV.lit (Value.string u)]) none)]):=by kernel_rfl
theorem VK (k n m o1 r1 o2 r2 r r':Nat) (g h e:Bool) (s t u:ByteArray) (a b j:Int) (cs ds aZ uO xs ys:List PV):ay MD t24 k 59 [iz g s,iz h t] [.r (one (bv true)), .r (one (bv true)), .c false, .r ⟨.sl 1 n cs,some 1⟩, .r ⟨.sl 1 m ds,some 1⟩, .c false, .c false, .m (.gt o1 r1 [iv a]) aZ, .m (.gt o2 r2 [iv b]) uO, .l (.exit 2) ⟨[(4, .bp 4 0),(9, .pv (.sl 1 r xs)),(10, .pv (.sl 1 r xs)),(11, .pv (iv a)),(12, .pv (iv b)),(13, .pv (iv 0)),(88, .pv (bv true))],[(4,[bv false,sv ⟨#[]⟩])],[],[]⟩, .l (.exit 4) ⟨[(4, .bp 4 0),(9, .pv (.sl 1 r' ys)),(11, .pv (iv a)),(12, .pv (iv b)),(14, .pv (iv j)),(104, .pv (bv false))],[(4,[bv false,sv ⟨#[]⟩])],[],[]⟩, .r (one (iz e u))]=
 some (RV.mk (PV.ag [PV.lit (Value.bool e),PV.lit (Value.string u)]) none,[aa t24 58 [PV.ag [PV.lit (Value.bool g),PV.lit (Value.string s)]] (RV.mk (PV.lit (Value.bool true)) none),aa t24 58 [PV.ag [PV.lit (Value.bool h),PV.lit (Value.string t)]] (RV.mk (PV.lit (Value.bool true)) none),decide ((↑s.size:Int)≤(7:Int))=false,aa t24 72 [PV.lit (Value.string s)] (RV.mk (PV.sl 1 n cs) (some 1)),cs.all bS=true,aa t24 72 [PV.lit (Value.string t)] (RV.mk (PV.sl 1 m ds) (some 1)),ds.all bS=true,((↑n:Int)==(0:Int))=false,((↑m:Int)==(0:Int))=false,cC t24 75 [MA.g cs 0 1 n] (MR.gt o1 r1 [PV.lit (Value.int IntKind.i64 a)]) aZ,cC t24 75 [MA.g ds 0 1 m] (MR.gt o2 r2 [PV.lit (Value.int IntKind.i64 b)]) uO,aN MD t24 k (59:Nat) (1:Nat) (St.mk [(4,AV.bp 4 0),(9,AV.bs 58 o1 1 r1),(10,AV.bs 61 o2 1 r2),(11,AV.pv (PV.lit (Value.int IntKind.i64 a))),(12,AV.pv (PV.lit (Value.int IntKind.i64 b)))] [(4,[PV.lit (Value.bool false),PV.lit (Value.string (ByteArray.mk #[]))]),(58,aZ),(61,uO)] [] []) (Xt.exit 2) (St.mk [(4,AV.bp 4 0),(9,AV.pv (PV.sl 1 r xs)),(10,AV.pv (PV.sl 1 r xs)),(11,AV.pv (PV.lit (Value.int IntKind.i64 a))),(12,AV.pv (PV.lit (Value.int IntKind.i64 b))),(13,AV.pv (PV.lit (Value.int IntKind.i64 (0:Int)))),(88,AV.pv (PV.lit (Value.bool true)))] [(4,[PV.lit (Value.bool false),PV.lit (Value.string (ByteArray.mk #[]))])] [] []),aN MD t24 k (59:Nat) (2:Nat) (St.mk [(4,AV.bp 4 0),(9,AV.pv (PV.sl 1 r xs)),(11,AV.pv (PV.lit (Value.int IntKind.i64 a))),(12,AV.pv (PV.lit (Value.int IntKind.i64 b))),(14,AV.pv (PV.lit (Value.int IntKind.i64 (0:Int))))] [(4,[PV.lit (Value.bool false),PV.lit (Value.string (ByteArray.mk #[]))])] [] []) (Xt.exit 4) (St.mk [(4,AV.bp 4 0),(9,AV.pv (PV.sl 1 r' ys)),(11,AV.pv (PV.lit (Value.int IntKind.i64 a))),(12,AV.pv (PV.lit (Value.int IntKind.i64 b))),(14,AV.pv (PV.lit (Value.int IntKind.i64 j))),(104,AV.pv (PV.lit (Value.bool false)))] [(4,[PV.lit (Value.bool false),PV.lit (Value.string (ByteArray.mk #[]))])] [] []),aa t24 73 [PV.lit (Value.bool false),PV.sl 1 r' ys] (RV.mk (PV.ag [PV.lit (Value.bool e),PV.lit (Value.string u)]) none)]):=by kernel_rfl
theorem VL (k o1 r1 o2 r2:Nat) (a b:Int) (cs ds xs ys:List PV):ak MD t24 k 59 1 ⟨[(4, .bp 4 0),(9, .bs 58 o1 1 r1),(10, .bs 61 o2 1 r2),(11, .pv (iv a)),(12, .pv (iv b))],[(4,[bv false,sv ⟨#[]⟩]),(58,cs),(61,ds)],[],[]⟩ [.f xs, .f ys, .r (one (iv 0)), .c true]=
 some ((Xt.exit 2,St.mk [(4,AV.bp 4 0),(9,AV.pv (PV.sl 1 r1 xs)),(10,AV.pv (PV.sl 1 r2 ys)),(11,AV.pv (PV.lit (Value.int IntKind.i64 a))),(12,AV.pv (PV.lit (Value.int IntKind.i64 b))),(13,AV.pv (PV.lit (Value.int IntKind.i64 (0:Int)))),(88,AV.pv (PV.lit (Value.bool true)))] [(4,[PV.lit (Value.bool false),PV.lit (Value.string (ByteArray.mk #[]))])] [] []),[],[de cs o1 (r1* (1:Nat)) xs,de ds o2 (r2* (1:Nat)) ys,aa t24 76 [PV.sl 1 r1 xs,PV.sl 1 r2 ys] (RV.mk (PV.lit (Value.int IntKind.i64 (0:Int))) none),true=true]):=by kernel_rfl
theorem VM (k o1 r1 o2 r2 n o3 r3:Nat) (a b:Int) (d:Int) (cs ds xs ys es nc:List PV):ak MD t24 k 59 1 ⟨[(4, .bp 4 0),(9, .bs 58 o1 1 r1),(10, .bs 61 o2 1 r2),(11, .pv (iv a)),(12, .pv (iv b))],[(4,[bv false,sv ⟨#[]⟩]),(58,cs),(61,ds)],[],[]⟩ [.f xs, .f ys, .r (one (iv (-1))), .c false, .c false, .r ⟨.sl 1 n es,some 1⟩, .m (.gt o3 r3 [iv d]) nc]=
 some ((Xt.normal,St.mk [(4,AV.bp 4 0),(9,AV.pv (PV.sl 1 r1 xs)),(10,AV.bs 96 o3 1 r3),(11,AV.pv (PV.lit (Value.int IntKind.i64 a))),(12,AV.pv (PV.lit (Value.int IntKind.i64 b)))] [(4,[PV.lit (Value.bool false),PV.lit (Value.string (ByteArray.mk #[]))]),(96,nc)] [] []),[],[de cs o1 (r1* (1:Nat)) xs,de ds o2 (r2* (1:Nat)) ys,aa t24 76 [PV.sl 1 r1 xs,PV.sl 1 r2 ys] (RV.mk (PV.lit (Value.int IntKind.i64 (-1:Int))) none),false=false,false=false,aa t24 77 [PV.sl 1 r2 ys,PV.sl 1 r1 xs] (RV.mk (PV.sl 1 n es) (some 1)),es.all bS=true,cC t24 75 [MA.g es 0 1 n] (MR.gt o3 r3 [PV.lit (Value.int IntKind.i64 d)]) nc]):=by kernel_rfl
theorem VN (k o1 r1 o2 r2 n o3 r3:Nat) (a b:Int) (d:Int) (cs ds xs ys es nc:List PV):ak MD t24 k 59 1 ⟨[(4, .bp 4 0),(9, .bs 58 o1 1 r1),(10, .bs 61 o2 1 r2),(11, .pv (iv a)),(12, .pv (iv b))],[(4,[bv false,sv ⟨#[]⟩]),(58,cs),(61,ds)],[],[]⟩ [.f xs, .f ys, .r (one (iv 1)), .c false, .c true, .r ⟨.sl 1 n es,some 1⟩, .m (.gt o3 r3 [iv d]) nc]=
 some ((Xt.normal,St.mk [(4,AV.bp 4 0),(9,AV.pv (PV.sl 1 r2 ys)),(10,AV.bs 96 o3 1 r3),(11,AV.pv (PV.lit (Value.int IntKind.i64 a))),(12,AV.pv (PV.lit (Value.int IntKind.i64 b)))] [(4,[PV.lit (Value.bool false),PV.lit (Value.string (ByteArray.mk #[]))]),(96,nc)] [] []),[],[de cs o1 (r1* (1:Nat)) xs,de ds o2 (r2* (1:Nat)) ys,aa t24 76 [PV.sl 1 r1 xs,PV.sl 1 r2 ys] (RV.mk (PV.lit (Value.int IntKind.i64 (1:Int))) none),false=false,true=true,aa t24 77 [PV.sl 1 r1 xs,PV.sl 1 r2 ys] (RV.mk (PV.sl 1 n es) (some 1)),es.all bS=true,cC t24 75 [MA.g es 0 1 n] (MR.gt o3 r3 [PV.lit (Value.int IntKind.i64 d)]) nc]):=by kernel_rfl
theorem VO (k r1 o2 r2:Nat) (a b:Int) (xs ds ys:List PV):ak MD t24 k 59 1 ⟨[(4, .bp 4 0),(9, .pv (.sl 1 r1 xs)),(10, .bs 96 o2 1 r2),(11, .pv (iv a)),(12, .pv (iv b))],[(4,[bv false,sv ⟨#[]⟩]),(96,ds)],[],[]⟩ [.f ys, .r (one (iv 0)), .c true]=
 some ((Xt.exit 2,St.mk [(4,AV.bp 4 0),(9,AV.pv (PV.sl 1 r1 xs)),(10,AV.pv (PV.sl 1 r2 ys)),(11,AV.pv (PV.lit (Value.int IntKind.i64 a))),(12,AV.pv (PV.lit (Value.int IntKind.i64 b))),(13,AV.pv (PV.lit (Value.int IntKind.i64 (0:Int)))),(88,AV.pv (PV.lit (Value.bool true)))] [(4,[PV.lit (Value.bool false),PV.lit (Value.string (ByteArray.mk #[]))])] [] []),[],[de ds o2 (r2* (1:Nat)) ys,aa t24 76 [PV.sl 1 r1 xs,PV.sl 1 r2 ys] (RV.mk (PV.lit (Value.int IntKind.i64 (0:Int))) none),true=true]):=by kernel_rfl
theorem VP (k r1 o2 r2 n o3 r3:Nat) (a b:Int) (d:Int) (xs ds ys es nc:List PV):ak MD t24 k 59 1 ⟨[(4, .bp 4 0),(9, .pv (.sl 1 r1 xs)),(10, .bs 96 o2 1 r2),(11, .pv (iv a)),(12, .pv (iv b))],[(4,[bv false,sv ⟨#[]⟩]),(96,ds)],[],[]⟩ [.f ys, .r (one (iv (-1))), .c false, .c false, .r ⟨.sl 1 n es,some 1⟩, .m (.gt o3 r3 [iv d]) nc]=
 some ((Xt.normal,St.mk [(4,AV.bp 4 0),(9,AV.pv (PV.sl 1 r1 xs)),(10,AV.bs 96 o3 1 r3),(11,AV.pv (PV.lit (Value.int IntKind.i64 a))),(12,AV.pv (PV.lit (Value.int IntKind.i64 b)))] [(4,[PV.lit (Value.bool false),PV.lit (Value.string (ByteArray.mk #[]))]),(96,nc)] [] []),[],[de ds o2 (r2* (1:Nat)) ys,aa t24 76 [PV.sl 1 r1 xs,PV.sl 1 r2 ys] (RV.mk (PV.lit (Value.int IntKind.i64 (-1:Int))) none),false=false,false=false,aa t24 77 [PV.sl 1 r2 ys,PV.sl 1 r1 xs] (RV.mk (PV.sl 1 n es) (some 1)),es.all bS=true,cC t24 75 [MA.g es 0 1 n] (MR.gt o3 r3 [PV.lit (Value.int IntKind.i64 d)]) nc]):=by kernel_rfl
theorem VQ (k r1 o2 r2 n o3 r3:Nat) (a b:Int) (d:Int) (xs ds ys es nc:List PV):ak MD t24 k 59 1 ⟨[(4, .bp 4 0),(9, .pv (.sl 1 r1 xs)),(10, .bs 96 o2 1 r2),(11, .pv (iv a)),(12, .pv (iv b))],[(4,[bv false,sv ⟨#[]⟩]),(96,ds)],[],[]⟩ [.f ys, .r (one (iv 1)), .c false, .c true, .r ⟨.sl 1 n es,some 1⟩, .m (.gt o3 r3 [iv d]) nc]=
 some ((Xt.normal,St.mk [(4,AV.bp 4 0),(9,AV.pv (PV.sl 1 r2 ys)),(10,AV.bs 96 o3 1 r3),(11,AV.pv (PV.lit (Value.int IntKind.i64 a))),(12,AV.pv (PV.lit (Value.int IntKind.i64 b)))] [(4,[PV.lit (Value.bool false),PV.lit (Value.string (ByteArray.mk #[]))]),(96,nc)] [] []),[],[de ds o2 (r2* (1:Nat)) ys,aa t24 76 [PV.sl 1 r1 xs,PV.sl 1 r2 ys] (RV.mk (PV.lit (Value.int IntKind.i64 (1:Int))) none),false=false,true=true,aa t24 77 [PV.sl 1 r1 xs,PV.sl 1 r2 ys] (RV.mk (PV.sl 1 n es) (some 1)),es.all bS=true,cC t24 75 [MA.g es 0 1 n] (MR.gt o3 r3 [PV.lit (Value.int IntKind.i64 d)]) nc]):=by kernel_rfl
theorem VR (k n i:Nat) (a b c:Int) (xs:List PV):ak MD t24 k 59 2 ⟨[(4, .bp 4 0),(9, .pv (.sl 1 n xs)),(11, .pv (iv a)),(12, .pv (iv b)),(14, .pv (iv i))],[(4,[bv false,sv ⟨#[]⟩])],[],[]⟩ [.i 103 c, .c false]=
 some ((Xt.exit 4,St.mk [(4,AV.bp 4 0),(9,AV.pv (PV.sl 1 n xs)),(11,AV.pv (PV.lit (Value.int IntKind.i64 a))),(12,AV.pv (PV.lit (Value.int IntKind.i64 b))),(14,AV.pv (PV.lit (Value.int IntKind.i64 (↑i:Int)))),(104,AV.pv (PV.lit (Value.bool false)))] [(4,[PV.lit (Value.bool false),PV.lit (Value.string (ByteArray.mk #[]))])] [] []),[],[(if b<a then b else a)=c,decide ((↑i:Int)<c)=false]):=by kernel_rfl
theorem VS (k n i m:Nat) (a b c:Int) (xs ys:List PV):ak MD t24 k 59 2 ⟨[(4, .bp 4 0),(9, .pv (.sl 1 n xs)),(11, .pv (iv a)),(12, .pv (iv b)),(14, .pv (iv i))],[(4,[bv false,sv ⟨#[]⟩])],[],[]⟩ [.i 103 c, .c true, .r (one (.sl 1 m ys)), .i 106 (i+1:Nat)]=
 some ((Xt.normal,St.mk [(4,AV.bp 4 0),(9,AV.pv (PV.sl 1 m ys)),(11,AV.pv (PV.lit (Value.int IntKind.i64 a))),(12,AV.pv (PV.lit (Value.int IntKind.i64 b))),(14,AV.pv (PV.lit (Value.int IntKind.i64 (↑(i+(1:Nat)):Int))))] [(4,[PV.lit (Value.bool false),PV.lit (Value.string (ByteArray.mk #[]))])] [] []),[],[(if b<a then b else a)=c,decide ((↑i:Int)<c)=true,aa t24 78 [PV.sl 1 n xs,PV.lit (Value.int IntKind.i64 (0:Int))] (RV.mk (PV.sl 1 m ys) none),IntKind.i64.wrap ((↑i:Int)+(1:Int))=(↑(i+(1:Nat)):Int)]):=by kernel_rfl
theorem aA.calm {P:Program} {f:Nat} {args:List PV} {r:RV} (h:aA P f args r):aA P f args (one r.v):=
 ⟨h.1,fun vs w Pr hp hr=>(h.2 vs w Pr hp hr).mono fun e w' ⟨v,aC,he,eP⟩=>⟨v,aC,he,⟨eP.fw,eP.rp,fun z hz=>by simp at hz⟩⟩⟩
theorem tc {n:Int} (h1: -(2^63)≤n) (h2:n<2^63):D0 [iv n]=some (one (.ag (zc n))):=
 bl (enc:=fun n:Int=>[iv n]) (fun a b e=>by rw [di (List.cons.inj e).1]) ⟨h1,h2⟩
theorem vT {z:Int} (h:(aH z.natAbs).size≤7):Cx [.ag (zc z)]=some (one (.an [iv z,bv true])):=
 bl (enc:=fun z:Int=>[.ag (zc z)]) (fun a b e=>by
  simp only [List.cons.injEq,and_true,PV.ag.injEq] at e
  rw [kO e]) h
theorem AS {v:Nat} (h:(aH v).size<2^30) (h0:0<v):JA [sv (aH v)]=some ⟨ni (dg (16777216:Nat) v),some 1⟩:=
 bl (enc:=fun v:Nat=>[sv (aH v)]) (fun a b e=>by rw [um (wA (List.cons.inj e).1)]) ⟨h,h0⟩
theorem n8 {v:Nat} (h:(aH v).size<2^30):Gj [sv (aH v)]=some (one (ni (dg (16777216:Nat) v))):=
 bl (enc:=fun v:Nat=>[sv (aH v)]) (fun a b e=>by rw [um (wA (List.cons.inj e).1)]) h
theorem xd {a b:Nat×Nat} (e:[ni (dg (16777216:Nat) a.1),ni (dg (16777216:Nat) a.2)]=[ni (dg (16777216:Nat) b.1),ni (dg (16777216:Nat) b.2)]):a=b:=by
 simp only [List.cons.injEq,and_true] at e
 exact Prod.ext (pU (rU e.1)) (pU (rU e.2))
theorem ym {a b:Nat} (h1:(dg (16777216:Nat) a).length<2^39) (h2:(dg (16777216:Nat) b).length<2^39):Gv [ni (dg (16777216:Nat) a),ni (dg (16777216:Nat) b)]=some ⟨ni (dg (16777216:Nat) (a+b)),some 1⟩:=
 bl (a:=(a,b)) (enc:=fun x:Nat×Nat=>[ni (dg (16777216:Nat) x.1),ni (dg (16777216:Nat) x.2)]) (fun a b e=>by rw [xd e]) ⟨h1,h2⟩
theorem mM {a b:Nat} (h:b≤a) (h0:0<a) (h1:(dg (16777216:Nat) a).length<2^39):Cu [ni (dg (16777216:Nat) a),ni (dg (16777216:Nat) b)]=some ⟨ni (dg (16777216:Nat) (a - b)),some 1⟩:=
 bl (a:=(a,b)) (enc:=fun x:Nat×Nat=>[ni (dg (16777216:Nat) x.1),ni (dg (16777216:Nat) x.2)]) (fun a b e=>by rw [xd e]) ⟨h,h0,h1⟩
theorem D3 {a:Nat} (h1:(dg (16777216:Nat) a).length<2^39):Cy [ni (dg (16777216:Nat) a),iv 0]=some (one (ni (dg (16777216:Nat) (2* a)))):=
 bl (enc:=fun a:Nat=>[ni (dg (16777216:Nat) a),iv 0]) (fun a b e=>by rw [pU (rU (List.cons.inj e).1)]) h1
theorem vS {a b:Nat} (h1:(dg (16777216:Nat) a).length<2^40) (h2:(dg (16777216:Nat) b).length<2^40):Cv [ni (dg (16777216:Nat) a),ni (dg (16777216:Nat) b)]=some (one (iv (iT a b))):=
 bl (a:=(a,b)) (enc:=fun x:Nat×Nat=>[ni (dg (16777216:Nat) x.1),ni (dg (16777216:Nat) x.2)]) (fun a b e=>by rw [xd e]) ⟨h1,h2⟩
theorem lf {v:Nat} (h0:0<v) (h1:(dg (16777216:Nat) v).length<2^39):JB [.g ((dg (16777216:Nat) v).map aJ) 0 1 (dg (16777216:Nat) v).length]=some (.gt (oz v) (dg (16777216:Nat) (od v)).length [iv (tz v)],(gQ v).map aJ):=
 kG (enc:=fun v:Nat=>[.g ((dg (16777216:Nat) v).map aJ) 0 1 (dg (16777216:Nat) v).length]) (fun a b e=>by
  simp only [List.cons.injEq,and_true,MA.g.injEq] at e
  rw [pU (uj e.1)]) ⟨h0,h1⟩
theorem Ba:aP MD.P t24:=j3
 (au (aE fun x _=>jX x.1 x.2)
 (au (aE fun n h=>AT n h.1 h.2)
 (au (aE fun z h=>Gx z h)
 (au (aE fun v h=>vQ v h.1 h.2)
 (au (aE fun x h=>qn x.1 x.2 h.1 h.2)
 (au (aE fun x h=>Gq x.1 x.2 h.1 h.2)
 (au (aE fun x h=>Gp x.1 x.2 h.1 h.2.1 h.2.2)
 (au (aE fun a h=>(GA a 0 (by omega) h).calm) aL))))))))
 (gm (kH fun v h=>KS v h.1 h.2) jf)
theorem G5:aP MD.P t25:=aO
 (au (aE fun x _=>jX x.1 x.2)
 (au (aE fun v h=>by
  rcases Nat.eq_zero_or_pos v with rfl|h0
  · have:=By (aH 0) rfl
    rwa [jb] at this
  · exact (vQ v h h0).calm)
 (au (aE fun x h=>qn x.1 x.2 h.1 h.2)
 (au (aE fun x h=>Iw x.1 x.2 h.1 h.2) aL))))
theorem oY {v:Nat} (h:0<v):de ((gQ v).map aJ) (oz v) ((dg (16777216:Nat) (od v)).length* 1) ((dg (16777216:Nat) (od v)).map aJ):=by
 refine pq _ _ _ ?_
 unfold gQ
 rw [List.drop_left' (by simp),Nat.mul_one]
 have:=J5 (b:=(16777216:Nat)) (by decide) (Au v)
 rw [show (16777216:Nat)=(16777216:Nat) from rfl,Av h] at this
 exact this.symm
theorem Pd {v:Nat} (h:0<v):oz v≤(dg (16777216:Nat) v).length:=by
 have e0:=pV (b:=(16777216:Nat)) (by decide) (rY h) (oz v)
 rw [DT h] at e0
 rw [e0,List.length_append,List.length_replicate];omega
theorem JS {v:Nat} (h:0<v) (hl:(dg (16777216:Nat) v).length<2^39):tz v<2^50:=by
 have:=Pd h
 unfold oz at this
 omega
theorem Jo {v:Nat} (h:(aH v).size<2^30):(dg (16777216:Nat) v).length<2^39:=by
 have h1:=eG (b:=256) (n:=v) (by decide)
 rw [←mH] at h1
 have h3:256^(aH v).size≤(16777216:Nat)^(aH v).size:=Nat.pow_le_pow_left (by decide) _
 have:=lT (b:=(16777216:Nat)) (n:=v) (k:=(aH v).size) (by decide) (by omega)
 omega
def Qg (n m:Nat) (e:List (Nat×AV)):St:=⟨(4, .bp 4 0)::(5, .pv (iv n))::(7, .pv (iv m))::e,[(4,[bv false,sv ⟨#[]⟩])],[],[]⟩
theorem DZ (k:Nat):∀(m n:Nat),aR (aI MD t24 k 59 0) (m+1) (Qg n m [])=some (.exit 0,Qg (Nat.gcd n m) 0 [(49, .pv (bv false))]):=by
 intro m
 induction m using Nat.strongRecOn with
 |_ m ih=>
  intro n
  by_cases h:m=0
  · subst h
    rw [Nat.gcd_zero_right]
    exact aF (af (VF k n 0) ⟨rfl,trivial⟩) (by simp)
  · have hr:n%m<m:=Nat.mod_lt _ (by omega)
    have:=ih (n%m) hr m
    rw [jI] at this
    exact aW (af (VG k n m (n%m:Nat)) ⟨bne_iff_ne.2 (by omega),fy _ _,decide_eq_false (by omega),trivial⟩) (bH (by omega) this)
def UX (x y o:Nat) (a b:Int) (ds:List PV):St:=⟨[(4, .bp 4 0),(9, .pv (ni (dg (16777216:Nat) x))),(10, .bs 96 o 1 (dg (16777216:Nat) y).length),(11, .pv (iv a)),(12, .pv (iv b))],[(4,[bv false,sv ⟨#[]⟩]),(96,ds)],[],[]⟩
def Qh (x:Nat) (a b:Int):St:=⟨[(4, .bp 4 0),(9, .pv (ni (dg (16777216:Nat) x))),(10, .pv (ni (dg (16777216:Nat) x))),(11, .pv (iv a)),(12, .pv (iv b)),(13, .pv (iv 0)),(88, .pv (bv true))],[(4,[bv false,sv ⟨#[]⟩])],[],[]⟩
theorem yj (k:Nat) (a b:Int):∀(n x y o:Nat) (ds:List PV),x+y=n→x%2=1→y%2=1→(dg (16777216:Nat) x).length<2^39→(dg (16777216:Nat) y).length<2^39→de ds o ((dg (16777216:Nat) y).length* 1) ((dg (16777216:Nat) y).map aJ)→
  aR (aI MD t24 k 59 1) (n+1) (UX x y o a b ds)=some (.exit 2,Qh (Nat.gcd x y) a b):=by
 intro n
 induction n using Nat.strongRecOn with
 |_ n ih=>
  intro x y o ds hn hx hy lx ly hs
  have ho:=vS (a:=x) (b:=y) (by omega) (by omega)
  rcases Nat.lt_trichotomy x y with h|h|h
  · rw [show iT x y= -1 by unfold iT;rw [if_pos h]] at ho
    have hlen:=Nat.lt_of_le_of_lt (eC (b:=(16777216:Nat)) (by decide) (show y - x≤y by omega)) ly
    have hm:=mM (a:=y) (b:=x) (by omega) (by omega) ly
    have hd:=lf (v:=y - x) (by omega) hlen
    have hle:=sU (n:=y - x) (by omega)
    have mI:=Nat.lt_of_le_of_lt (eC (b:=(16777216:Nat)) (by decide) hle) hlen
    have nx:=ih (x+od (y - x)) (by omega) x (od (y - x)) (oz (y - x)) ((gQ (y - x)).map aJ) rfl hx (jw (by omega)) lx mI (oY (by omega))
    rw [p7 hx h] at nx
    exact aW (af (VP k (dg (16777216:Nat) x).length o (dg (16777216:Nat) y).length (dg (16777216:Nat) (y - x)).length (oz (y - x)) (dg (16777216:Nat) (od (y - x))).length a b (tz (y - x):Nat) ((dg (16777216:Nat) x).map aJ) ds ((dg (16777216:Nat) y).map aJ) ((dg (16777216:Nat) (y - x)).map aJ) ((gQ (y - x)).map aJ)) ⟨hs,ho,rfl,rfl,hm,gi _,hd,trivial⟩) (bH (by omega) nx)
  · subst h
    rw [show iT x x=0 by unfold iT;simp] at ho
    rw [Nat.gcd_self]
    exact aF (af (VO k (dg (16777216:Nat) x).length o (dg (16777216:Nat) x).length a b ((dg (16777216:Nat) x).map aJ) ds ((dg (16777216:Nat) x).map aJ)) ⟨hs,ho,rfl,trivial⟩) (by simp)
  · rw [show iT x y=1 by unfold iT;rw [if_neg (by omega),if_pos h]] at ho
    have hlen:=Nat.lt_of_le_of_lt (eC (b:=(16777216:Nat)) (by decide) (show x - y≤x by omega)) lx
    have hm:=mM (a:=x) (b:=y) (by omega) (by omega) lx
    have hd:=lf (v:=x - y) (by omega) hlen
    have hle:=sU (n:=x - y) (by omega)
    have mI:=Nat.lt_of_le_of_lt (eC (b:=(16777216:Nat)) (by decide) hle) hlen
    have nx:=ih (y+od (x - y)) (by omega) y (od (x - y)) (oz (x - y)) ((gQ (x - y)).map aJ) rfl hy (jw (by omega)) ly mI (oY (by omega))
    rw [p7 hy h,Nat.gcd_comm] at nx
    exact aW (af (VQ k (dg (16777216:Nat) x).length o (dg (16777216:Nat) y).length (dg (16777216:Nat) (x - y)).length (oz (x - y)) (dg (16777216:Nat) (od (x - y))).length a b (tz (x - y):Nat) ((dg (16777216:Nat) x).map aJ) ds ((dg (16777216:Nat) y).map aJ) ((dg (16777216:Nat) (x - y)).map aJ) ((gQ (x - y)).map aJ)) ⟨hs,ho,rfl,rfl,hm,gi _,hd,trivial⟩) (bH (by omega) nx)
def UW (x y o1 o2:Nat) (a b:Int) (cs ds:List PV):St:=⟨[(4, .bp 4 0),(9, .bs 58 o1 1 (dg (16777216:Nat) x).length),(10, .bs 61 o2 1 (dg (16777216:Nat) y).length),(11, .pv (iv a)),(12, .pv (iv b))],[(4,[bv false,sv ⟨#[]⟩]),(58,cs),(61,ds)],[],[]⟩
theorem DY (k:Nat) (a b:Int) (x y o1 o2:Nat) (cs ds:List PV) (hx:x%2=1) (hy:y%2=1) (lx:(dg (16777216:Nat) x).length<2^39) (ly:(dg (16777216:Nat) y).length<2^39) (hr:de cs o1 ((dg (16777216:Nat) x).length* 1) ((dg (16777216:Nat) x).map aJ)) (hs:de ds o2 ((dg (16777216:Nat) y).length* 1) ((dg (16777216:Nat) y).map aJ)):
  aR (aI MD t24 k 59 1) (x+y+1) (UW x y o1 o2 a b cs ds)=some (.exit 2,Qh (Nat.gcd x y) a b):=by
 have ho:=vS (a:=x) (b:=y) (by omega) (by omega)
 rcases Nat.lt_trichotomy x y with h|h|h
 · rw [show iT x y= -1 by unfold iT;rw [if_pos h]] at ho
   have hlen:=Nat.lt_of_le_of_lt (eC (b:=(16777216:Nat)) (by decide) (show y - x≤y by omega)) ly
   have hm:=mM (a:=y) (b:=x) (by omega) (by omega) ly
   have hd:=lf (v:=y - x) (by omega) hlen
   have hle:=sU (n:=y - x) (by omega)
   have mI:=Nat.lt_of_le_of_lt (eC (b:=(16777216:Nat)) (by decide) hle) hlen
   have nx:=yj k a b _ x (od (y - x)) (oz (y - x)) ((gQ (y - x)).map aJ) rfl hx (jw (by omega)) lx mI (oY (by omega))
   rw [p7 hx h] at nx
   exact aW (af (VM k o1 (dg (16777216:Nat) x).length o2 (dg (16777216:Nat) y).length (dg (16777216:Nat) (y - x)).length (oz (y - x)) (dg (16777216:Nat) (od (y - x))).length a b (tz (y - x):Nat) cs ds ((dg (16777216:Nat) x).map aJ) ((dg (16777216:Nat) y).map aJ) ((dg (16777216:Nat) (y - x)).map aJ) ((gQ (y - x)).map aJ)) ⟨hr,hs,ho,rfl,rfl,hm,gi _,hd,trivial⟩) (bH (by omega) nx)
 · subst h
   rw [show iT x x=0 by unfold iT;simp] at ho
   rw [Nat.gcd_self]
   exact aF (af (VL k o1 (dg (16777216:Nat) x).length o2 (dg (16777216:Nat) x).length a b cs ds ((dg (16777216:Nat) x).map aJ) ((dg (16777216:Nat) x).map aJ)) ⟨hr,hs,ho,rfl,trivial⟩) (by simp)
 · rw [show iT x y=1 by unfold iT;rw [if_neg (by omega),if_pos h]] at ho
   have hlen:=Nat.lt_of_le_of_lt (eC (b:=(16777216:Nat)) (by decide) (show x - y≤x by omega)) lx
   have hm:=mM (a:=x) (b:=y) (by omega) (by omega) lx
   have hd:=lf (v:=x - y) (by omega) hlen
   have hle:=sU (n:=x - y) (by omega)
   have mI:=Nat.lt_of_le_of_lt (eC (b:=(16777216:Nat)) (by decide) hle) hlen
   have nx:=yj k a b _ y (od (x - y)) (oz (x - y)) ((gQ (x - y)).map aJ) rfl hy (jw (by omega)) ly mI (oY (by omega))
   rw [p7 hy h,Nat.gcd_comm] at nx
   exact aW (af (VN k o1 (dg (16777216:Nat) x).length o2 (dg (16777216:Nat) y).length (dg (16777216:Nat) (x - y)).length (oz (x - y)) (dg (16777216:Nat) (od (x - y))).length a b (tz (x - y):Nat) cs ds ((dg (16777216:Nat) x).map aJ) ((dg (16777216:Nat) y).map aJ) ((dg (16777216:Nat) (x - y)).map aJ) ((gQ (x - y)).map aJ)) ⟨hr,hs,ho,rfl,rfl,hm,gi _,hd,trivial⟩) (bH (by omega) nx)
def IX (x ta tb i:Nat) (e:List (Nat×AV)):St:=⟨(4, .bp 4 0)::(9, .pv (ni (dg (16777216:Nat) (2^i* x))))::(11, .pv (iv ta))::(12, .pv (iv tb))::(14, .pv (iv i))::e,[(4,[bv false,sv ⟨#[]⟩])],[],[]⟩
theorem Np (ta tb:Nat):(if (tb:Int)<(ta:Int) then (tb:Int) else (ta:Int))=((min ta tb:Nat):Int):=by
 split<;>omega
theorem Gm (k x ta tb:Nat) (h1:ta<2^50) (h2:tb<2^50) (hl:(dg (16777216:Nat) (2^min ta tb* x)).length<2^39) (hk:min ta tb<k):aR (aI MD t24 k 59 2) k (IX x ta tb 0 [])=some (.exit 4,IX x ta tb (min ta tb) [(104, .pv (bv false))]):=by
 refine cK (f:=aI MD t24 k 59 2) (S:=fun i=>IX x ta tb i []) (n:=min ta tb) (fun i hi=> ?_) (af (VR k _ (min ta tb) ta tb (min ta tb:Nat) _) ⟨Np _ _,decide_eq_false (by omega),trivial⟩) (by simp) k hk
 have hle:2^i* x≤2^min ta tb* x:=Nat.mul_le_mul_right _ (Nat.pow_le_pow_right (by decide) (by omega))
 have ht:=D3 (a:=2^i* x) (Nat.lt_of_le_of_lt (eC (by decide) hle) hl)
 rw [show 2* (2^i* x)=2^(i+1)* x by rw [Nat.pow_succ,←Nat.mul_assoc,Nat.mul_comm 2]] at ht
 exact af (VS k _ i _ ta tb (min ta tb:Nat) _ _) ⟨Np _ _,decide_eq_true (by omega),ht,bn (by omega) (by omega),trivial⟩
theorem pL (n:Nat):zc ((n:Nat):Int)=[bv false,sv (aH n)]:=by
 simp only [zc,Int.natAbs_natCast]
 rw [decide_eq_false (by omega)]
theorem KQ (a b:Int) (ha:(aH a.natAbs).size<2^30) (hb:(aH b.natAbs).size<2^30):aA P0 59 [.ag (zc a), .ag (zc b)] (one (.ag (zc (Nat.gcd a.natAbs b.natAbs:Nat)))):=by
 have v1:=cO (decide (a<0)) (aH a.natAbs)
 have v2:=cO (decide (b<0)) (aH b.natAbs)
 rw [sZ] at v1 v2
 generalize hna:a.natAbs=x at*
 generalize hnb:b.natAbs=y at*
 have ea:(.ag (zc a):PV)=iz (decide (a<0)) (aH x):=by rw [←hna];rfl
 have eb:(.ag (zc b):PV)=iz (decide (b<0)) (aH y):=by rw [←hnb];rfl
 rw [ea,eb]
 have sg:=fun (l:List Nat) (h:l.length<2^40) (hd:bB (16777216:Nat) l)=>yp (g:=false) (l:=l) h hd
 simp only [Bool.false_eq_true,if_false] at sg
 obtain ⟨g,hg⟩:∃g,g=Nat.gcd x y:=⟨_,rfl⟩
 have eg:(.ag (zc (g:Int)):PV)=iz false (aH g):=by rw [pL];rfl
 rw [←hg,eg]
 have lx:=Jo ha
 have ly:=Jo hb
 by_cases hs:(aH x).size≤7∧(aH y).size≤7
 · have small:∀n,(aH n).size≤7→n<2^56:=by
     intro n hn
     have h1:=eG (b:=256) (n:=n) (by decide)
     rw [←mH] at h1
     have:256^(aH n).size≤256^7:=Nat.pow_le_pow_right (by decide) hn
     omega
   have hx:=small x hs.1
   have hy:=small y hs.2
   have s1:=vT (z:=(x:Int)) (by simpa using hs.1)
   have s2:=vT (z:=(y:Int)) (by simpa using hs.2)
   rw [pL] at s1 s2
   have Qz:g<2^63:=by
    rw [hg]
    rcases Nat.eq_zero_or_pos y with h0|h0
    · rw [h0,Nat.gcd_zero_right];omega
    · have:=Nat.gcd_le_right x h0;omega
   have QD:=tc (n:=(g:Int)) (by omega) (by omega)
   rw [pL] at QD
   have lp:=bH (show y+1≤y+2 by omega) (DZ (y+2) y x)
   rw [←hg] at lp
   exact ai ah Ba (by rfl) (gC (y+2) _ _ _ _ x y g false (aH g)) ⟨v1,v2,decide_eq_true (by omega),decide_eq_true (by omega),s1,s2,lp,QD,trivial⟩
 · rcases Nat.eq_zero_or_pos x with h0|h0
   · have hz:(aH x).size=0:=by rw [h0];rfl
     have Mp:g=0+y:=by rw [hg,h0,Nat.gcd_zero_left,Nat.zero_add]
     have d1:=n8 (v:=0) (by decide)
     have d2:=n8 hb
     have dp:=ym (a:=0) (b:=y) (by simp [eB]) ly
     have Rd:=sg (dg (16777216:Nat) (0+y)) (by rw [Nat.zero_add];omega) (cD (by decide) _)
     rw [ct (by decide),pL] at Rd
     rw [Mp]
     subst h0
     exact ai ah G5 (by rfl) (VH 1 _ _ _ _ _ _ _ _ _ _ _ _) ⟨v1,v2,decide_eq_true (by omega),decide_eq_false (by omega),d1,d2,rfl,dp,Rd,trivial⟩
   · rcases Nat.eq_zero_or_pos y with k0|k0
     · have hz:(aH y).size=0:=by rw [k0];rfl
       have WG:g=x+0:=by rw [hg,k0,Nat.gcd_zero_right,Nat.add_zero]
       have d1:=n8 ha
       have d2:=n8 (v:=0) (by decide)
       have dp:=ym (a:=x) (b:=0) lx (by simp [eB])
       have Rc:=sg (dg (16777216:Nat) (x+0)) (by rw [Nat.add_zero];omega) (cD (by decide) _)
       rw [ct (by decide),pL] at Rc
       rw [WG]
       subst k0
       have hne:(((dg (16777216:Nat) x).length:Int)==0)=false:=beq_false_of_ne (by
        have:=dK (b:=(16777216:Nat)) (by decide) h0
        rw [this];simp;omega)
       exact ai ah G5 (by rfl) (VI 1 _ _ _ _ _ _ _ _ _ _ _ _) ⟨v1,v2,decide_eq_false (by omega),d1,d2,hne,rfl,dp,Rc,trivial⟩
     · have d1:=AS ha h0
       have d2:=AS hb k0
       have o1:=lf h0 lx
       have o2:=lf k0 ly
       have XH:=Nat.lt_of_le_of_lt (eC (b:=(16777216:Nat)) (by decide) (sU h0)) lx
       have XI:=Nat.lt_of_le_of_lt (eC (b:=(16777216:Nat)) (by decide) (sU k0)) ly
       obtain ⟨k,hk⟩:∃k,k=od x+od y+tz x+tz y+5:=⟨_,rfl⟩
       have FT:=bH (show od x+od y+1≤k by omega) (DY k (tz x:Nat) (tz y:Nat) (od x) (od y) (oz x) (oz y) _ _ (jw h0) (jw k0) XH XI (oY h0) (oY k0))
       have Mo:=Kg h0 k0
       rw [←hg] at Mo
       have R8:g≤x:=by rw [hg];exact Nat.gcd_le_left y h0
       have lg:=Nat.lt_of_le_of_lt (eC (b:=(16777216:Nat)) (by decide) R8) lx
       have jl:=Gm k (Nat.gcd (od x) (od y)) (tz x) (tz y) (JS h0 lx) (JS k0 ly) (by rw [←Mo];exact lg) (by omega)
       unfold IX at jl
       rw [←Mo,Nat.pow_zero,Nat.one_mul] at jl
       have N2:=sg (dg (16777216:Nat) g) (by omega) (cD (by decide) _)
       rw [ct (by decide),pL] at N2
       have hne:∀v,0<v→(((dg (16777216:Nat) v).length:Int)==0)=false:=fun v hv=>beq_false_of_ne (by
        have:=dK (b:=(16777216:Nat)) (by decide) hv
        rw [this];simp;omega)
       by_cases hx7:(aH x).size≤7
       · exact ai ah Ba (by rfl) (VJ k _ _ (oz x) (dg (16777216:Nat) (od x)).length (oz y) (dg (16777216:Nat) (od y)).length _ _ _ _ false (aH x) (aH y) (aH g) (tz x:Nat) (tz y:Nat) (min (tz x) (tz y):Nat) _ _ ((gQ x).map aJ) ((gQ y).map aJ) _ _) ⟨v1,v2,decide_eq_true (by omega),decide_eq_false (by omega),d1,gi _,d2,gi _,hne x h0,hne y k0,o1,o2,FT,jl,N2,trivial⟩
       · exact ai ah Ba (by rfl) (VK k _ _ (oz x) (dg (16777216:Nat) (od x)).length (oz y) (dg (16777216:Nat) (od y)).length _ _ _ _ false (aH x) (aH y) (aH g) (tz x:Nat) (tz y:Nat) (min (tz x) (tz y):Nat) _ _ ((gQ x).map aJ) ((gQ y).map aJ) _ _) ⟨v1,v2,decide_eq_false (by omega),d1,gi _,d2,gi _,hne x h0,hne y k0,o1,o2,FT,jl,N2,trivial⟩
end Go.Proofs.YtibbgjafjhcemaaDoor.Cul
namespace Go.Proofs.YtibbgjafjhcemaaDoor.Cul
open Go Go.RowKit
theorem bind_assoc' {α β γ:Type} (m:Sem α):∀(f:α→Sem β) (g:β→Sem γ),(m.bind f).bind g=m.bind fun a=>(f a).bind g:=by
 induction m with
 |pure a=>intro f g;rfl
 |halt h=>intro f g;rfl
 |_=>rename_i ih;intro f g;simp only [Sem.bind];first|(congr 1;funext x;exact ih x f g)|(congr 1;exact ih f g)
theorem BT {P:Program} {d:Nat} {t:TypeId} {f g h:Field} {xs ys:Array Value} {a1 a2 a3 b1 b2 b3:Value} {c1 c2 c3:Bool}
  (hu:P.underlying t=some (.struct #[f,g,h])) (hh:P.stoodInHeld t=false) (hf:f.name≠ "_") (hg:g.name≠ "_") (hk:h.name≠ "_")
  (p1:aB P (part f.type xs f.offset)=some a1) (p2:aB P (part f.type ys f.offset)=some b1)
  (p3:aB P (part g.type xs g.offset)=some a2) (p4:aB P (part g.type ys g.offset)=some b2)
  (p5:aB P (part h.type xs h.offset)=some a3) (p6:aB P (part h.type ys h.offset)=some b3)
  (e1:aB P (Op.equalIn d f.type a1 b1)=some c1) (e2:aB P (Op.equalIn d g.type a2 b2)=some c2) (e3:aB P (Op.equalIn d h.type a3 b3)=some c3):
  aB P (Op.equalIn (d+1) t (.agg xs) (.agg ys))=some (c1&&(c2&&c3)):=by
 simp only [Op.equalIn,underlying,program,Bind.bind,Sem.bind,aB,hu,hh,pure,Pure.pure,Bool.false_eq_true,if_false]
 rw [←Array.forIn_toList]
 simp only [List.forIn_cons,List.forIn_nil,Bind.bind,pure,Pure.pure,hf,hg,hk,ne_eq,not_false_eq_true,if_true]
 simp only [bind_assoc']
 rw [aV p1,aV p2,aV e1]
 cases c1 with
 |false=>simp [Sem.bind,aB]
 |true=>
  simp only [Bool.not_true,Bool.false_eq_true,if_false,Sem.bind,bind_assoc']
  rw [aV p3,aV p4,aV e2]
  cases c2 with
  |false=>simp [Sem.bind,aB]
  |true=>
   simp only [Bool.not_true,Bool.false_eq_true,if_false,Sem.bind,bind_assoc']
   rw [aV p5,aV p6,aV e3]
   cases c3<;>simp [Sem.bind,aB]
theorem LF {P:Program} {d:Nat} {t e:TypeId} {n:Nat} {xs ys:Array Value} {a0 a1 a2 a3 b0 b1 b2 b3:Value} {c0 c1 c2 c3:Bool}
  (hu:P.underlying t=some (.array 4 e)) (hn:aB P (sizeOf e)=some n)
  (p0:aB P (part e xs (0* n))=some a0) (q0:aB P (part e ys (0* n))=some b0)
  (p1:aB P (part e xs (1* n))=some a1) (q1:aB P (part e ys (1* n))=some b1)
  (p2:aB P (part e xs (2* n))=some a2) (q2:aB P (part e ys (2* n))=some b2)
  (p3:aB P (part e xs (3* n))=some a3) (q3:aB P (part e ys (3* n))=some b3)
  (e0:aB P (Op.equalIn d e a0 b0)=some c0) (e1:aB P (Op.equalIn d e a1 b1)=some c1) (e2:aB P (Op.equalIn d e a2 b2)=some c2) (e3:aB P (Op.equalIn d e a3 b3)=some c3):
  aB P (Op.equalIn (d+1) t (.agg xs) (.agg ys))=some (c0&&(c1&&(c2&&c3))):=by
 simp only [Op.equalIn,underlying,program,Bind.bind,Sem.bind,aB,hu,pure,Pure.pure,Bool.false_eq_true,if_false]
 rw [aV hn]
 simp only [Std.Legacy.Range.forIn_eq_forIn_range',Std.Legacy.Range.size,Nat.sub_zero,Nat.add_sub_cancel,Nat.div_one,List.range',List.forIn_cons,List.forIn_nil,Bind.bind,pure,Pure.pure,Nat.zero_add,Nat.reduceAdd]
 simp only [bind_assoc']
 rw [aV p0,aV q0,aV e0]
 cases c0 with
 |false=>simp [Sem.bind,aB]
 |true=>
  simp only [Bool.not_true,Bool.false_eq_true,if_false,Sem.bind,bind_assoc']
  rw [aV p1,aV q1,aV e1]
  cases c1 with
  |false=>simp [Sem.bind,aB]
  |true=>
   simp only [Bool.not_true,Bool.false_eq_true,if_false,Sem.bind,bind_assoc']
   rw [aV p2,aV q2,aV e2]
   cases c2 with
   |false=>simp [Sem.bind,aB]
   |true=>
    simp only [Bool.not_true,Bool.false_eq_true,if_false,Sem.bind,bind_assoc']
    rw [aV p3,aV q3,aV e3]
    cases c3<;>simp [Sem.bind,aB]
end Go.Proofs.YtibbgjafjhcemaaDoor.Cul
namespace Go.Proofs.YtibbgjafjhcemaaDoor.Cul
open Go Go.RowKit
structure RI where
 g:Bool
 s:ByteArray
def RI.cells (r:RI):List PV:=[bv r.g,sv r.s]
def RI.vals (r:RI):List Value:=[.bool r.g, .string r.s]
def RI.zero:RI:=⟨false,⟨#[]⟩⟩
structure aM where
 c0:RI
 c1:RI
 c2:RI
 c3:RI
 d:RI
def aM.cells (x:aM):List PV:=x.c0.cells++x.c1.cells++x.c2.cells++x.c3.cells++x.d.cells
def aM.uM (x:aM):List Value:=x.c0.vals++x.c1.vals++x.c2.vals++x.c3.vals
def aM.vals (x:aM):List Value:=x.uM++x.d.vals
def aM.zero:aM:=⟨.zero, .zero, .zero, .zero, .zero⟩
structure bF where
 x:aM
 y:aM
 z:aM
def bF.cells (v:bF):List PV:=v.x.cells++v.y.cells++v.z.cells
def bF.vals (v:bF):List Value:=v.x.vals++v.y.vals++v.z.vals
def bF.zero:bF:=⟨.zero, .zero, .zero⟩
structure bU where
 n:bF
 d:aM
def bU.cells (p:bU):List PV:=p.n.cells++p.d.cells
def bU.vals (p:bU):List Value:=p.n.vals++p.d.vals
def bU.zero:bU:=⟨.zero, .zero⟩
structure aj where
 h:Int
 v:Int
 i:Int
def aj.cells (s:aj):List PV:=[iv s.h,iv s.v,iv s.i]
def aj.vals (s:aj):List Value:=[.int .i64 s.h, .int .i64 s.v, .int .i64 s.i]
def aj.zero:aj:=⟨0,0,0⟩
def RI.dR (a b:RI):Bool:=(a.g==b.g)&&(a.s==b.s)
def aM.dR (a b:aM):Bool:=(a.c0.dR b.c0&&(a.c1.dR b.c1&&(a.c2.dR b.c2&&a.c3.dR b.c3)))&&a.d.dR b.d
def bF.dR (a b:bF):Bool:=a.x.dR b.x&&(a.y.dR b.y&&a.z.dR b.z)
def bU.dR (a b:bU):Bool:=a.n.dR b.n&&a.d.dR b.d
def aj.dR (a b:aj):Bool:=(a.h==b.h)&&((a.v==b.v)&&(a.i==b.i))
theorem Ln {u v:ByteArray}:(u==v)=true↔u=v:=by
 rw [beq_toList]
 constructor
 · intro h;exact ByteArray.ext (by simpa using h)
 · intro h;subst h;simp
theorem RI.fQ {a b:RI}:a.dR b=true↔a=b:=by
 obtain ⟨g,s⟩:=a;obtain ⟨g',s'⟩:=b
 simp only [RI.dR,Bool.and_eq_true,Ln,beq_iff_eq,RI.mk.injEq]
theorem aM.fQ {a b:aM}:a.dR b=true↔a=b:=by
 obtain ⟨a0,a1,a2,a3,a4⟩:=a;obtain ⟨b0,b1,b2,b3,b4⟩:=b
 simp only [aM.dR,Bool.and_eq_true,RI.fQ,aM.mk.injEq,and_assoc]
theorem bF.fQ {a b:bF}:a.dR b=true↔a=b:=by
 obtain ⟨a0,a1,a2⟩:=a;obtain ⟨b0,b1,b2⟩:=b
 simp only [bF.dR,Bool.and_eq_true,aM.fQ,bF.mk.injEq]
theorem bU.fQ {a b:bU}:a.dR b=true↔a=b:=by
 obtain ⟨a0,a1⟩:=a;obtain ⟨b0,b1⟩:=b
 simp only [bU.dR,Bool.and_eq_true,bF.fQ,aM.fQ,bU.mk.injEq]
theorem aj.fQ {a b:aj}:a.dR b=true↔a=b:=by
 obtain ⟨a0,a1,a2⟩:=a;obtain ⟨b0,b1,b2⟩:=b
 simp only [aj.dR,Bool.and_eq_true,beq_iff_eq,aj.mk.injEq]
theorem PA:MD.P.underlying 28=some (TypeDesc.array 4 27):=by kernel_rfl
theorem PB:MD.P.underlying 30=some (TypeDesc.struct #[Field.mk "C" 28 0 false "" "" 0,Field.mk "D" 27 8 false "" "" 96]):=by kernel_rfl
theorem PC:MD.P.underlying 32=some (TypeDesc.struct #[Field.mk "X" 30 0 false "" "" 0,Field.mk "Y" 30 10 false "" "" 120,Field.mk "Z" 30 20 false "" "" 240]):=by kernel_rfl
theorem PD:MD.P.underlying 34=some (TypeDesc.struct #[Field.mk "N" 32 0 false "" "" 0,Field.mk "D" 30 30 false "" "" 360]):=by kernel_rfl
theorem JV:MD.P.underlying 36=some (TypeDesc.struct #[Field.mk "H" 3 0 false "" "" 0,Field.mk "V" 3 1 false "" "" 8,Field.mk "Index" 3 2 false "" "" 16]):=by kernel_rfl
theorem Mg:MD.P.stoodInHeld 30=false:=by kernel_rfl
theorem Mh:MD.P.stoodInHeld 32=false:=by kernel_rfl
theorem Mi:MD.P.stoodInHeld 34=false:=by kernel_rfl
theorem Mj:MD.P.stoodInHeld 36=false:=by kernel_rfl
theorem oN (d:Nat) (a b:RI):aB MD.P (Op.equalIn (d+1+1) 27 (.agg a.vals.toArray) (.agg b.vals.toArray))=some (a.dR b):=
 uS (a1:= .bool a.g) (b1:= .bool b.g) (a2:= .string a.s) (b2:= .string b.s) JT Fg (by decide) (by decide) (by kernel_rfl) (by kernel_rfl) (by kernel_rfl) (by kernel_rfl) (by kernel_rfl) (by kernel_rfl)
theorem LG (d:Nat) (a b:aM):aB MD.P (Op.equalIn (d+1+1+1) 28 (.agg a.uM.toArray) (.agg b.uM.toArray))=some (a.c0.dR b.c0&&(a.c1.dR b.c1&&(a.c2.dR b.c2&&a.c3.dR b.c3))):=
 LF (n:=2) (a0:= .agg a.c0.vals.toArray) (a1:= .agg a.c1.vals.toArray) (a2:= .agg a.c2.vals.toArray) (a3:= .agg a.c3.vals.toArray) (b0:= .agg b.c0.vals.toArray) (b1:= .agg b.c1.vals.toArray) (b2:= .agg b.c2.vals.toArray) (b3:= .agg b.c3.vals.toArray) PA (by kernel_rfl)
  (by kernel_rfl) (by kernel_rfl) (by kernel_rfl) (by kernel_rfl) (by kernel_rfl) (by kernel_rfl) (by kernel_rfl) (by kernel_rfl) (oN d _ _) (oN d _ _) (oN d _ _) (oN d _ _)
theorem uR (d:Nat) (a b:aM):aB MD.P (Op.equalIn (d+1+1+1+1) 30 (.agg a.vals.toArray) (.agg b.vals.toArray))=some (a.dR b):=
 uS (a1:= .agg a.uM.toArray) (b1:= .agg b.uM.toArray) (a2:= .agg a.d.vals.toArray) (b2:= .agg b.d.vals.toArray) PB Mg (by decide) (by decide) (by kernel_rfl) (by kernel_rfl) (by kernel_rfl) (by kernel_rfl) (LG d _ _) (oN (d+1) _ _)
theorem EZ (d:Nat) (a b:bF):aB MD.P (Op.equalIn (d+1+1+1+1+1) 32 (.agg a.vals.toArray) (.agg b.vals.toArray))=some (a.dR b):=
 BT (a1:= .agg a.x.vals.toArray) (b1:= .agg b.x.vals.toArray) (a2:= .agg a.y.vals.toArray) (b2:= .agg b.y.vals.toArray) (a3:= .agg a.z.vals.toArray) (b3:= .agg b.z.vals.toArray) PC Mh (by decide) (by decide) (by decide)
  (by kernel_rfl) (by kernel_rfl) (by kernel_rfl) (by kernel_rfl) (by kernel_rfl) (by kernel_rfl) (uR d _ _) (uR d _ _) (uR d _ _)
theorem LH (d:Nat) (a b:bU):aB MD.P (Op.equalIn (d+1+1+1+1+1+1) 34 (.agg a.vals.toArray) (.agg b.vals.toArray))=some (a.dR b):=
 uS (a1:= .agg a.n.vals.toArray) (b1:= .agg b.n.vals.toArray) (a2:= .agg a.d.vals.toArray) (b2:= .agg b.d.vals.toArray) PD Mi (by decide) (by decide) (by kernel_rfl) (by kernel_rfl) (by kernel_rfl) (by kernel_rfl) (EZ d _ _) (uR (d+1) _ _)
theorem E0 (d:Nat) (a b:aj):aB MD.P (Op.equalIn (d+1+1) 36 (.agg a.vals.toArray) (.agg b.vals.toArray))=some (a.dR b):=
 BT (a1:= .int .i64 a.h) (b1:= .int .i64 b.h) (a2:= .int .i64 a.v) (b2:= .int .i64 b.v) (a3:= .int .i64 a.i) (b3:= .int .i64 b.i) JV Mj (by decide) (by decide) (by decide)
  (by kernel_rfl) (by kernel_rfl) (by kernel_rfl) (by kernel_rfl) (by kernel_rfl) (by kernel_rfl) (by kernel_rfl) (by kernel_rfl) (by kernel_rfl)
theorem sK {t:TypeId} {x y:Operand} {xs ys:Array Value} {c:Bool} (hg:aB MD.P (eqGuard .eql t x y (.agg xs) (.agg ys))=some ()) (h:aB MD.P (Op.equalIn (9999+1) t (.agg xs) (.agg ys))=some c):iJ MD.P .eql t x y (.agg xs) (.agg ys) c:=by
 show (aB MD.P ((eqGuard .eql t x y (.agg xs) (.agg ys)).bind fun _=>binOp .eql t (.agg xs) (.agg ys))).bind hH=some (.lit (.bool c))
 rw [aV hg]
 show (aB MD.P ((Op.equalIn (9999+1) t (.agg xs) (.agg ys)).bind fun r=> .pure (.bool r))).bind hH=some (.lit (.bool c))
 rw [aV h];rfl
theorem H6 {t:TypeId} {x y:Operand} {xs ys:Array Value} {c:Bool} (hg:aB MD.P (eqGuard .neq t x y (.agg xs) (.agg ys))=some ()) (h:aB MD.P (Op.equalIn (9999+1) t (.agg xs) (.agg ys))=some c):iJ MD.P .neq t x y (.agg xs) (.agg ys) (!c):=by
 show (aB MD.P ((eqGuard .neq t x y (.agg xs) (.agg ys)).bind fun _=>binOp .neq t (.agg xs) (.agg ys))).bind hH=some (.lit (.bool (!c)))
 rw [aV hg]
 show (aB MD.P ((Op.equalIn (9999+1) t (.agg xs) (.agg ys)).bind fun r=> .pure (.bool (!r)))).bind hH=some (.lit (.bool (!c)))
 rw [aV h];rfl
theorem J9 {m n:Nat} {a b:RI} {c:Bool} (h:a.dR b=c):iJ MD.P .eql 27 (.tmp m) (.tmp n) (.agg a.vals.toArray) (.agg b.vals.toArray) c:=by subst h;exact sK (by kernel_rfl) (oN 9998 a b)
theorem zx {m n:Nat} {a b:bF} {c:Bool} (h:a.dR b=c):iJ MD.P .eql 32 (.tmp m) (.tmp n) (.agg a.vals.toArray) (.agg b.vals.toArray) c:=by subst h;exact sK (by kernel_rfl) (EZ 9995 a b)
theorem LJ {m n:Nat} {a b:bU} {c:Bool} (h:a.dR b=c):iJ MD.P .eql 34 (.tmp m) (.tmp n) (.agg a.vals.toArray) (.agg b.vals.toArray) c:=by subst h;exact sK (by kernel_rfl) (LH 9994 a b)
theorem LK {m n:Nat} {a b:aj} {c:Bool} (h:a.dR b=c):iJ MD.P .eql 36 (.tmp m) (.tmp n) (.agg a.vals.toArray) (.agg b.vals.toArray) c:=by subst h;exact sK (by kernel_rfl) (E0 9998 a b)
end Go.Proofs.YtibbgjafjhcemaaDoor.Cul
namespace Go.Proofs.YtibbgjafjhcemaaDoor.Cul
open Go Go.RowKit Go.ChangeShapes Go.WideShapes Go.ChangeAt
def PT (P:Program) (C:List Value→Prop) (t:TypeId):Prop:=
 ∀(H:Type) (enc:TypeId×Value→H) (fuel:Nat) (w:World) (base:Nat) (sp:Nat→Bool) (held:Bool) (cs:List Value) (d:DataW H) (ps:List MemPlace),
  DataW.trod enc P w base sp held fuel t cs=some (d,ps)→C cs∧ps=[]∧∀(w':World) (base':Nat) (sp':Nat→Bool) (held':Bool),DataW.trod enc P w' base' sp' held' fuel t cs=some (d,[])
section
variable {P:Program}
theorem F3 {t:TypeId} {k:IntKind} (ht:P.underlying t=some (.int k)):PT P (fun cs=>∃n,cs=[.int k n]) t:=by
 intro H enc fuel w base sp held cs d ps h
 cases fuel with
 |zero=>simp [DataW.trod] at h
 |succ fuel=>
  simp only [DataW.trod,ht] at h ⊢
  split at h<;>simp_all
theorem vz {α H:Type} {f:α→Option (DataW H×List MemPlace)} {g:α→Option (DataW H×List MemPlace)} {Q:α→Prop}:∀(l:List α) (xs:List (DataW H×List MemPlace)),(∀a∈l,∀d ps,f a=some (d,ps)→Q a∧ps=[]∧g a=some (d,[]))→l.mapM f=some xs→(∀a∈l,Q a)∧xs.flatMap (·.2)=[]∧l.mapM g=some xs
 |[],xs,_,h=>by simp at h;subst h;simp
 |a::l,xs,hl,h=>by
  simp only [List.mapM_cons,Option.bind_eq_bind,Option.bind_eq_some_iff,Option.pure_def,Option.some.injEq] at h
  obtain ⟨⟨d,ps⟩,h1,ys,h2,rfl⟩:=h
  obtain ⟨q,rfl,hg⟩:=hl a (by simp) d ps h1
  obtain ⟨q2,e2,oS⟩:=vz l ys (fun b hb=>hl b (by simp [hb])) h2
  refine ⟨fun b hb=> ?_,by simp [e2], ?_⟩
  · rcases List.mem_cons.1 hb with rfl|hb
    · exact q
    · exact q2 b hb
  · simp only [List.mapM_cons,Option.bind_eq_bind,Option.bind_eq_some_iff,Option.pure_def]
    exact ⟨_,hg,ys,oS,rfl⟩
theorem F4 {t:TypeId} {fs:Array Field} {C:TypeId→List Value→Prop} (ht:P.underlying t=some (.struct fs)) (hf:∀f∈fs.toList,PT P (C f.type) f.type):
  PT P (fun cs=>cs.length=P.cellsOf t∧∀f∈fs.toList,C f.type ((cs.drop f.offset).take (P.cellsOf f.type))) t:=by
 intro H enc fuel w base sp held cs d ps h
 cases fuel with
 |zero=>simp [DataW.trod] at h
 |succ fuel=>
  simp only [DataW.trod,ht] at h ⊢
  split at h
  · rename_i hl
    simp only [Option.map_eq_some_iff,Prod.mk.injEq] at h
    obtain ⟨xs,hx,rfl,rfl⟩:=h
    have key:=fun (w':World) (base':Nat) (sp':Nat→Bool) (held':Bool)=>vz (Q:=fun f:Field=>C f.type ((cs.drop f.offset).take (P.cellsOf f.type))) (g:=fun f=>DataW.trod enc P w' base' sp' held' fuel f.type ((cs.drop f.offset).take (P.cellsOf f.type))) fs.toList xs (fun f hf' d ps h=>by
     obtain ⟨h1,h2,h3⟩:=hf f hf' H enc fuel w base sp held _ d ps h
     exact ⟨h1,h2,h3 w' base' sp' held'⟩) hx
    refine ⟨⟨hl,(key w base sp held).1⟩,(key w base sp held).2.1,fun w' base' sp' held'=> ?_⟩
    rw [if_pos hl,(key w' base' sp' held').2.2]
    simp [(key w base sp held).2.1]
  · simp at h
theorem PT.weak {C D:List Value→Prop} {t:TypeId} (h:PT P C t) (hc:∀cs,C cs→D cs):PT P D t:=fun H enc fuel w base sp held cs d ps hh=>by
 obtain ⟨h1,h2,h3⟩:=h H enc fuel w base sp held cs d ps hh
 exact ⟨hc _ h1,h2,h3⟩
end
theorem JU:MD.P.underlying 3=some (.int .i64):=by kernel_rfl
theorem Qk:MD.P.cellsOf 3=1:=by kernel_rfl
theorem Lt:MD.P.cellsOf 36=3:=by kernel_rfl
theorem Nf {α:Type} {l:List α} (h:l.length=2):∃a b,l=[a,b]:=by
 match l,h with
 |[a,b],_=>exact ⟨a,b,rfl⟩
theorem Ng {α:Type} {l:List α} (h:l.length=3):∃a b c,l=[a,b,c]:=by
 match l,h with
 |[a,b,c],_=>exact ⟨a,b,c,rfl⟩
theorem Tj:PT MD.P (fun cs=>∃s:aj,cs=s.vals) 36:=by
 refine (F4 (C:=fun _ cs=>∃n,cs=[.int .i64 n]) JV ?_).weak ?_
 · intro f hf
   simp only [List.mem_cons,List.not_mem_nil,or_false] at hf
   rcases hf with rfl|rfl|rfl<;>exact F3 JU
 · rintro cs ⟨hl,h⟩
   rw [Lt] at hl
   obtain ⟨a,b,c,rfl⟩:=Ng hl
   have h1:=h _ (.head _)
   have h2:=h _ (.tail _ (.head _))
   have h3:=h _ (.tail _ (.tail _ (.head _)))
   simp only [Qk] at h1 h2 h3
   obtain ⟨x,hx⟩:=h1
   obtain ⟨y,hy⟩:=h2
   obtain ⟨z,hz⟩:=h3
   simp at hx hy hz
   exact ⟨⟨x,y,z⟩,by rw [hx,hy,hz];rfl⟩
def dI (H:Type):DataW H:= .agg [.lit (.bool false), .lit (.string [])]
def dN (H:Type):DataW H:= .agg [.agg [dI H,dI H,dI H,dI H],dI H]
def dV (H:Type):DataW H:= .agg [dN H,dN H,dN H]
theorem PT.open {P:Program} {C:List Value→Prop} {t:TypeId} (h:PT P C t) (ht:ep P t=true) {w:World} {r:Reach} {b0:Nat} {v:Value} (hv:Value.okWide P w r b0 t v)
  {H:Type} {enc:TypeId×Value→H} {base:Nat} {sp:Nat→Bool} {held:Bool} {d:DataW H} {ps:List MemPlace} (hd:DataW.Trod enc P w base sp held t v d ps):
  (∃cs,v= .agg cs∧C cs.toList)∧ps=[]∧∀(w':World) (base':Nat) (sp':Nat→Bool) (held':Bool),DataW.Trod enc P w' base' sp' held' t v d []:=by
 obtain ⟨fuel,hf⟩:=hd
 obtain ⟨h1,h2,h3⟩:=h H enc fuel w base sp held _ d ps hf
 refine ⟨?_,h2,fun w' base' sp' held'=>⟨fuel,h3 w' base' sp' held'⟩⟩
 unfold Value.okWide at hv
 unfold ep at ht
 split at ht
 · rename_i fs hu;rw [hu] at hv;obtain ⟨cs,rfl,_⟩:=hv;exact ⟨cs,rfl,h1⟩
 · rename_i n e hu;rw [hu] at hv;obtain ⟨cs,rfl,_⟩:=hv;exact ⟨cs,rfl,h1⟩
 · simp at ht
end Go.Proofs.YtibbgjafjhcemaaDoor.Cul
namespace Go.Proofs.YtibbgjafjhcemaaDoor.Cul
open Go Go.RowKit
section
variable {α:Type}
def ac (enc:α→List PV) (l:List α):List PV:=l.flatMap enc
theorem jo {enc:α→List PV} {z:Nat} (he:∀x,(enc x).length=z):∀l:List α,(ac enc l).length=l.length* z
 |[]=>by simp [ac]
 |x::l=>by
  have:=jo he l
  simp only [ac,List.flatMap_cons,List.length_append,he,List.length_cons] at this ⊢
  rw [this,Nat.succ_mul];omega
theorem uG {enc:α→List PV} {z:Nat} (he:∀x,(enc x).length=z):∀{l:List α} {i:Nat} {x:α},l[i]? =some x→((ac enc l).drop (i* z)).take z=enc x
 |[],i,x,h=>by simp at h
 |y::l,0,x,h=>by
  simp only [List.getElem?_cons_zero,Option.some.injEq] at h
  subst h
  simp only [ac,List.flatMap_cons,Nat.zero_mul,List.drop_zero]
  rw [←he y];exact List.take_left
 |y::l,i+1,x,h=>by
  have ih:=uG he (l:=l) (i:=i) (x:=x) (by simpa using h)
  simp only [ac,List.flatMap_cons]
  rw [Nat.succ_mul,Nat.add_comm (i* z) z,←List.drop_drop,show (enc y++l.flatMap enc).drop z=l.flatMap enc by rw [←he y];exact List.drop_left]
  exact ih
theorem Es {enc:α→List PV} {z:Nat} (he:∀x,(enc x).length=z):∀{l:List α} {i:Nat} (y:α),i<l.length→splice (ac enc l) (i* z) (enc y)=ac enc (l.set i y)
 |[],i,y,h=>by simp at h
 |x::l,0,y,_=>by
  simp only [ac,List.flatMap_cons,splice,Nat.zero_mul,List.take_zero,List.nil_append,Nat.zero_add,List.set_cons_zero,he]
  rw [show (enc x++l.flatMap enc).drop z=l.flatMap enc by rw [←he x];exact List.drop_left]
 |x::l,i+1,y,h=>by
  have ih:=Es he (l:=l) (i:=i) y (by simpa using h)
  simp only [ac,List.flatMap_cons,List.set_cons_succ,splice] at ih ⊢
  have e:(i+1)* z=(enc x).length+i* z:=by rw [he,Nat.succ_mul];omega
  rw [e,List.take_length_add_append,Nat.add_assoc,List.drop_length_add_append,←ih]
  simp [List.append_assoc]
theorem Li {enc:α→List PV} (h:∀x,(enc x).all bS=true) (l:List α):(ac enc l).all bS=true:=by
 rw [List.all_eq_true]
 intro p hp
 obtain ⟨x,_,hx⟩:=List.mem_flatMap.1 hp
 exact List.all_eq_true.1 (h x) p hx
theorem y7 {enc:α→List PV} {z:Nat} (hz:0<z) (he:∀x,(enc x).length=z) (hi:∀x y,enc x=enc y→x=y):∀{l m:List α},ac enc l=ac enc m→l=m
 |[],[],_=>rfl
 |[],y::m,h=>by
  have:=congrArg List.length h
  rw [jo he,jo he] at this
  simp only [List.length_nil,List.length_cons,Nat.zero_mul,Nat.succ_mul] at this
  omega
 |x::l,[],h=>by
  have:=congrArg List.length h
  rw [jo he,jo he] at this
  simp only [List.length_nil,List.length_cons,Nat.zero_mul,Nat.succ_mul] at this
  omega
 |x::l,y::m,h=>by
  simp only [ac,List.flatMap_cons] at h
  obtain ⟨h1,h2⟩:=List.append_inj h (by rw [he,he])
  rw [hi x y h1,y7 hz he hi (l:=l) (m:=m) h2]
theorem jZ (L R:List α) (x y:α):(L++x::R).set L.length y=L++y::R:=by simp
theorem dA (L R:List α) (x:α):(L++x::R)[L.length]? =some x:=by simp
theorem O8 {enc:α→List PV} {z:Nat} {P:Program} {t:TypeId} (he:∀x,(enc x).length=z) (hs:bV P t=some z) (hr:ep P t=true) {l:List α} {i:Nat} {x:α} (h:l[i]? =some x):Ld P t (ac enc l) (0+i* z) (.ag (enc x)):=by
 have hi:i<l.length:=(List.getElem?_eq_some_iff.1 h).1
 have h1:i* z+z≤l.length* z:=by rw [←Nat.succ_mul];exact Nat.mul_le_mul_right _ hi
 show dZ P t (ac enc l) (0+i* z)=_
 simp only [dZ,hs,Option.bind_some,Nat.zero_add,jo he,if_pos h1,hr,if_true,uG he h]
theorem mh {enc:α→List PV} {z:Nat} (he:∀x,(enc x).length=z) {l:List α} {i:Nat} (y:α) (h:i<l.length):0+i* z+z≤(ac enc l).length∧ck (ac enc l) (0+i* z) (enc y) (ac enc (l.set i y)):=by
 have h1:i* z+z≤l.length* z:=by rw [←Nat.succ_mul];exact Nat.mul_le_mul_right _ h
 rw [jo he,Nat.zero_add]
 exact ⟨h1,Es he y h⟩
def JM (l:List α) (a b n:Nat):List α:=l.take a++((l.drop b).take n++((l.drop (a+n)).take (b - (a+n))++((l.drop a).take n++l.drop (b+n))))
theorem take_left' {l m:List α} {n:Nat} (h:n=l.length):(l++m).take n=l:=by subst h;exact List.take_left
theorem drop_left' {l m:List α} {n:Nat} (h:n=l.length):(l++m).drop n=m:=by subst h;exact List.drop_left
theorem GY {P X M Y S:List α} (h:Y.length=X.length):JM (P++(X++(M++(Y++S)))) P.length (P.length+X.length+M.length) X.length=P++(Y++(M++(X++S))):=by
 unfold JM
 have e1:(P++(X++(M++(Y++S)))).drop (P.length+X.length+M.length)=Y++S:=by
  rw [←List.append_assoc,←List.append_assoc];exact drop_left' (by simp;omega)
 have e2:(P++(X++(M++(Y++S)))).drop (P.length+X.length)=M++(Y++S):=by
  rw [←List.append_assoc];exact drop_left' (by simp)
 have e3:(P++(X++(M++(Y++S)))).drop (P.length+X.length+M.length+X.length)=S:=by
  rw [←List.append_assoc,←List.append_assoc,←List.append_assoc];exact drop_left' (by simp;omega)
 rw [e1,e2,e3,take_left' rfl,take_left' h.symm,take_left' (by omega),drop_left' rfl,take_left' rfl]
def JC (l:List α) (a m b:Nat):List α:=l.take a++((l.drop m).take (b - m)++((l.drop a).take (m - a)++l.drop b))
theorem Gy {P X Y S:List α}:JC (P++(X++(Y++S))) P.length (P.length+X.length) (P.length+X.length+Y.length)=P++(Y++(X++S)):=by
 unfold JC
 have e1:(P++(X++(Y++S))).drop (P.length+X.length)=Y++S:=by rw [←List.append_assoc];exact drop_left' (by simp)
 have e2:(P++(X++(Y++S))).drop (P.length+X.length+Y.length)=S:=by rw [←List.append_assoc,←List.append_assoc];exact drop_left' (by simp;omega)
 rw [e1,e2,take_left' rfl,take_left' (by omega),drop_left' rfl,take_left' (by omega)]
def ss (k:α→Bool) (l:List α):List α:=l.filter (fun x=> !k x)++l.filter k
def CQ (k:α→Bool) (l:List α) (a b:Nat):List α:=l.take a++(ss k ((l.drop a).take (b - a))++l.drop b)
theorem wj (k:α→Bool) {P L S:List α}:CQ k (P++(L++S)) P.length (P.length+L.length)=P++(ss k L++S):=by
 unfold CQ
 have e1:(P++(L++S)).drop (P.length+L.length)=S:=by rw [←List.append_assoc];exact drop_left' (by simp)
 rw [e1,take_left' rfl,drop_left' rfl,take_left' (by omega)]
theorem dm (k:α→Bool) (l:List α):(ss k l).length=l.length:=by
 unfold ss
 induction l with
 |nil=>rfl
 |cons x l ih=>
  simp only [List.length_append,List.filter_cons] at ih ⊢
  cases k x<;>simp<;>omega
theorem nN {l:List α} {a b:Nat} (h1:a≤b) (h2:b≤l.length):∃P L S,l=P++(L++S)∧P.length=a∧L.length=b - a:=by
 refine ⟨l.take a,(l.drop a).take (b - a),l.drop b, ?_,by simp;omega,by simp;omega⟩
 have:l.drop b=(l.drop a).drop (b - a):=by rw [List.drop_drop];congr 1;omega
 rw [this,List.take_append_drop,List.take_append_drop]
end
end Go.Proofs.YtibbgjafjhcemaaDoor.Cul
namespace Go.Proofs.YtibbgjafjhcemaaDoor.Cul
open Go Go.RowKit
noncomputable def t26:Cl:=bQ [(58,gV)]
def RI.ok (r:RI):Bool:=cL r.g r.s
def RI.sh (r:RI):Bool:=decide (r.s.size≤3)&&r.ok
def RI.z (r:RI):Int:=if r.g then -(bR r.s:Int) else (bR r.s:Int)
theorem ZF (k i j u b w1 w2:Nat) (g:Bool) (s:ByteArray) (xs zs os os':List PV):ak MD t26 k 56 1 ⟨[(1, .bp 1 0),(2, .bp 2 0),(4, .bp 4 0),(5, .pv (iv i)),(6, .bp 6 0),(7, .pv (iv j))],[(1,xs),(2,zs),(4,os),(6,[bv g,sv s])],[],[]⟩ [.c true, .j 39 i, .e 40 (iv u), .i 41 w1, .i 45 b, .i 46 b, .i 47 w2, .j 48 i, .s os', .i 36 (j+1:Nat)]=
 some ((Xt.normal,St.mk [(1,AV.bp 1 0),(2,AV.bp 2 0),(4,AV.bp 4 0),(5,AV.pv (iv (↑i:Int))),(6,AV.bp 6 0),(7,AV.pv (iv (↑(j+(1:Nat)):Int)))] [(1,xs),(2,zs),(4,os'),(6,[bv g,sv s])] [] []),[],[decide ((↑j:Int)<(↑s.size:Int))=true,aG (↑i:Int) 5 i,Ld MD.P 3 os (0+i* 1) (iv (↑u:Int)),IntKind.i64.wrap ((↑u:Int)* (2:Int)^min (Int.toNat (8:Int)) IntKind.i64.bits)=(↑w1:Int),false=false,fu s (↑j:Int) (↑b:Int),IntKind.i64.wrap (↑b:Int)=(↑b:Int),IntKind.i64.wrap ((↑w1:Int)+(↑b:Int))=(↑w2:Int),aG (↑i:Int) 5 i,0+i* 1+1≤os.length,ck os (0+i* 1) [iv (↑w2:Int)] os',IntKind.i64.wrap ((↑j:Int)+(1:Int))=(↑(j+(1:Nat)):Int)]):=by kernel_rfl
theorem ZG (k i j:Nat) (g:Bool) (s:ByteArray) (xs zs os:List PV):ak MD t26 k 56 1 ⟨[(1, .bp 1 0),(2, .bp 2 0),(4, .bp 4 0),(5, .pv (iv i)),(6, .bp 6 0),(7, .pv (iv j))],[(1,xs),(2,zs),(4,os),(6,[bv g,sv s])],[],[]⟩ [.c false]=
 some ((Xt.exit 2,St.mk [(1,AV.bp 1 0),(2,AV.bp 2 0),(4,AV.bp 4 0),(5,AV.pv (iv (↑i:Int))),(6,AV.bp 6 0),(7,AV.pv (iv (↑j:Int))),(34,AV.pv (bv false))] [(1,xs),(2,zs),(4,os),(6,[bv g,sv s])] [] []),[],[decide ((↑j:Int)<(↑s.size:Int))=false]):=by kernel_rfl
theorem Zt (k i:Nat) (g gd:Bool) (s sd:ByteArray) (l0 l1 l2 l3 l4:Int) (xs:List PV):ak MD t26 k 56 0 ⟨[(1, .bp 1 0),(2, .bp 2 0),(4, .bp 4 0),(5, .pv (iv i))],[(1,xs),(2,[iv 0,iv 0,iv 0,iv 0,iv 0]),(4,[iv l0,iv l1,iv l2,iv l3,iv l4])],[],[]⟩ [.c true, .e 13 (iz gd sd), .c true, .j 18 i, .e 19 (iz g s), .c true]=
 some ((Xt.ret,St.mk [(2,AV.bp 2 0),(3,AV.pv (bv false))] [(2,[iv l0,iv l1,iv l2,iv l3,iv l4])] [] []),[],[decide ((↑i:Int)<(5:Int))=true,Ld MD.P 27 xs 8 (PV.ag [bv gd,sv sd]),decide ((↑i:Int)<(4:Int))=true,aG (↑i:Int) 4 i,Ld MD.P 27 xs (0+i* 2) (PV.ag [bv g,sv s]),decide ((↑s.size:Int)>(3:Int))=true]):=by kernel_rfl
theorem Zu (k i:Nat) (g gd:Bool) (s sd:ByteArray) (l0 l1 l2 l3 l4:Int) (xs:List PV):ak MD t26 k 56 0 ⟨[(1, .bp 1 0),(2, .bp 2 0),(4, .bp 4 0),(5, .pv (iv i))],[(1,xs),(2,[iv 0,iv 0,iv 0,iv 0,iv 0]),(4,[iv l0,iv l1,iv l2,iv l3,iv l4])],[],[]⟩ [.c true, .e 13 (iz gd sd), .c true, .j 18 i, .e 19 (iz g s), .c false, .r (one (bv false))]=
 some ((Xt.ret,St.mk [(2,AV.bp 2 0),(3,AV.pv (bv false))] [(2,[iv l0,iv l1,iv l2,iv l3,iv l4])] [] []),[],[decide ((↑i:Int)<(5:Int))=true,Ld MD.P 27 xs 8 (PV.ag [bv gd,sv sd]),decide ((↑i:Int)<(4:Int))=true,aG (↑i:Int) 4 i,Ld MD.P 27 xs (0+i* 2) (PV.ag [bv g,sv s]),decide ((↑s.size:Int)>(3:Int))=false,aa t26 58 [PV.ag [bv g,sv s]] (RV.mk (bv false) none)]):=by kernel_rfl
theorem Zv (k i:Nat) (gd:Bool) (s sd:ByteArray) (xs zs os os':List PV):ak MD t26 k 56 0 ⟨[(1, .bp 1 0),(2, .bp 2 0),(4, .bp 4 0),(5, .pv (iv i))],[(1,xs),(2,zs),(4,os)],[],[]⟩ [.c true, .e 13 (iz gd sd), .c true, .j 18 i, .e 19 (iz false s), .c false, .r (one (bv true)), .l (.exit 2) ⟨[(1, .bp 1 0),(2, .bp 2 0),(4, .bp 4 0),(5, .pv (iv i)),(6, .bp 6 0),(7, .pv (iv s.size)),(34, .pv (bv false))],[(1,xs),(2,zs),(4,os'),(6,[bv false,sv s])],[],[]⟩, .i 11 (i+1:Nat)]=
 some ((Xt.normal,St.mk [(1,AV.bp 1 0),(2,AV.bp 2 0),(4,AV.bp 4 0),(5,AV.pv (iv (↑(i+(1:Nat)):Int)))] [(1,xs),(2,zs),(4,os')] [] []),[],[decide ((↑i:Int)<(5:Int))=true,Ld MD.P 27 xs 8 (PV.ag [bv gd,sv sd]),decide ((↑i:Int)<(4:Int))=true,aG (↑i:Int) 4 i,Ld MD.P 27 xs (0+i* 2) (PV.ag [bv false,sv s]),decide ((↑s.size:Int)>(3:Int))=false,aa t26 58 [PV.ag [bv false,sv s]] (RV.mk (bv true) none),aN MD t26 k (56:Nat) (1:Nat) (St.mk [(1,AV.bp 1 0),(2,AV.bp 2 0),(4,AV.bp 4 0),(5,AV.pv (iv (↑i:Int))),(6,AV.bp 6 0),(7,AV.pv (iv (0:Int)))] [(1,xs),(2,zs),(4,os),(6,[bv false,sv s])] [] []) (Xt.exit 2) (St.mk [(1,AV.bp 1 0),(2,AV.bp 2 0),(4,AV.bp 4 0),(5,AV.pv (iv (↑i:Int))),(6,AV.bp 6 0),(7,AV.pv (iv (↑s.size:Int))),(34,AV.pv (bv false))] [(1,xs),(2,zs),(4,os'),(6,[bv false,sv s])] [] []),IntKind.i64.wrap ((↑i:Int)+(1:Int))=(↑(i+(1:Nat)):Int)]):=by kernel_rfl
theorem Zw (k i:Nat) (u w:Int) (gd:Bool) (s sd:ByteArray) (xs zs os os' AE:List PV):ak MD t26 k 56 0 ⟨[(1, .bp 1 0),(2, .bp 2 0),(4, .bp 4 0),(5, .pv (iv i))],[(1,xs),(2,zs),(4,os)],[],[]⟩ [.c true, .e 13 (iz gd sd), .c true, .j 18 i, .e 19 (iz true s), .c false, .r (one (bv true)), .l (.exit 2) ⟨[(1, .bp 1 0),(2, .bp 2 0),(4, .bp 4 0),(5, .pv (iv i)),(6, .bp 6 0),(7, .pv (iv s.size)),(34, .pv (bv false))],[(1,xs),(2,zs),(4,os'),(6,[bv true,sv s])],[],[]⟩, .j 53 i, .e 54 (iv u), .i 55 w, .j 56 i, .s AE, .i 11 (i+1:Nat)]=
 some ((Xt.normal,St.mk [(1,AV.bp 1 0),(2,AV.bp 2 0),(4,AV.bp 4 0),(5,AV.pv (iv (↑(i+(1:Nat)):Int)))] [(1,xs),(2,zs),(4,AE)] [] []),[],[decide ((↑i:Int)<(5:Int))=true,Ld MD.P 27 xs 8 (PV.ag [bv gd,sv sd]),decide ((↑i:Int)<(4:Int))=true,aG (↑i:Int) 4 i,Ld MD.P 27 xs (0+i* 2) (PV.ag [bv true,sv s]),decide ((↑s.size:Int)>(3:Int))=false,aa t26 58 [PV.ag [bv true,sv s]] (RV.mk (bv true) none),aN MD t26 k (56:Nat) (1:Nat) (St.mk [(1,AV.bp 1 0),(2,AV.bp 2 0),(4,AV.bp 4 0),(5,AV.pv (iv (↑i:Int))),(6,AV.bp 6 0),(7,AV.pv (iv (0:Int)))] [(1,xs),(2,zs),(4,os),(6,[bv true,sv s])] [] []) (Xt.exit 2) (St.mk [(1,AV.bp 1 0),(2,AV.bp 2 0),(4,AV.bp 4 0),(5,AV.pv (iv (↑i:Int))),(6,AV.bp 6 0),(7,AV.pv (iv (↑s.size:Int))),(34,AV.pv (bv false))] [(1,xs),(2,zs),(4,os'),(6,[bv true,sv s])] [] []),aG (↑i:Int) 5 i,Ld MD.P 3 os' (0+i* 1) (iv u),IntKind.i64.wrap ((0:Int) - u)=w,aG (↑i:Int) 5 i,0+i* 1+1≤os'.length,ck os' (0+i* 1) [iv w] AE,IntKind.i64.wrap ((↑i:Int)+(1:Int))=(↑(i+(1:Nat)):Int)]):=by kernel_rfl
theorem Zx (k:Nat) (gd:Bool) (sd:ByteArray) (l0 l1 l2 l3 l4:Int) (xs:List PV):ak MD t26 k 56 0 ⟨[(1, .bp 1 0),(2, .bp 2 0),(4, .bp 4 0),(5, .pv (iv 4))],[(1,xs),(2,[iv 0,iv 0,iv 0,iv 0,iv 0]),(4,[iv l0,iv l1,iv l2,iv l3,iv l4])],[],[]⟩ [.c true, .e 13 (iz gd sd), .c false, .c true]=
 some ((Xt.ret,St.mk [(2,AV.bp 2 0),(3,AV.pv (bv false))] [(2,[iv l0,iv l1,iv l2,iv l3,iv l4])] [] []),[],[true=true,Ld MD.P 27 xs 8 (PV.ag [bv gd,sv sd]),false=false,decide ((↑sd.size:Int)>(3:Int))=true]):=by kernel_rfl
theorem Zy (k:Nat) (gd:Bool) (sd:ByteArray) (l0 l1 l2 l3 l4:Int) (xs:List PV):ak MD t26 k 56 0 ⟨[(1, .bp 1 0),(2, .bp 2 0),(4, .bp 4 0),(5, .pv (iv 4))],[(1,xs),(2,[iv 0,iv 0,iv 0,iv 0,iv 0]),(4,[iv l0,iv l1,iv l2,iv l3,iv l4])],[],[]⟩ [.c true, .e 13 (iz gd sd), .c false, .c false, .r (one (bv false))]=
 some ((Xt.ret,St.mk [(2,AV.bp 2 0),(3,AV.pv (bv false))] [(2,[iv l0,iv l1,iv l2,iv l3,iv l4])] [] []),[],[true=true,Ld MD.P 27 xs 8 (PV.ag [bv gd,sv sd]),false=false,decide ((↑sd.size:Int)>(3:Int))=false,aa t26 58 [PV.ag [bv gd,sv sd]] (RV.mk (bv false) none)]):=by kernel_rfl
theorem Zz (k i:Nat) (sd:ByteArray) (xs zs os os':List PV):ak MD t26 k 56 0 ⟨[(1, .bp 1 0),(2, .bp 2 0),(4, .bp 4 0),(5, .pv (iv i))],[(1,xs),(2,zs),(4,os)],[],[]⟩ [.c true, .e 13 (iz false sd), .c false, .c false, .r (one (bv true)), .l (.exit 2) ⟨[(1, .bp 1 0),(2, .bp 2 0),(4, .bp 4 0),(5, .pv (iv i)),(6, .bp 6 0),(7, .pv (iv sd.size)),(34, .pv (bv false))],[(1,xs),(2,zs),(4,os'),(6,[bv false,sv sd])],[],[]⟩, .i 11 (i+1:Nat)]=
 some ((Xt.normal,St.mk [(1,AV.bp 1 0),(2,AV.bp 2 0),(4,AV.bp 4 0),(5,AV.pv (iv (↑(i+(1:Nat)):Int)))] [(1,xs),(2,zs),(4,os')] [] []),[],[decide ((↑i:Int)<(5:Int))=true,Ld MD.P 27 xs 8 (PV.ag [bv false,sv sd]),decide ((↑i:Int)<(4:Int))=false,decide ((↑sd.size:Int)>(3:Int))=false,aa t26 58 [PV.ag [bv false,sv sd]] (RV.mk (bv true) none),aN MD t26 k (56:Nat) (1:Nat) (St.mk [(1,AV.bp 1 0),(2,AV.bp 2 0),(4,AV.bp 4 0),(5,AV.pv (iv (↑i:Int))),(6,AV.bp 6 0),(7,AV.pv (iv (0:Int)))] [(1,xs),(2,zs),(4,os),(6,[bv false,sv sd])] [] []) (Xt.exit 2) (St.mk [(1,AV.bp 1 0),(2,AV.bp 2 0),(4,AV.bp 4 0),(5,AV.pv (iv (↑i:Int))),(6,AV.bp 6 0),(7,AV.pv (iv (↑sd.size:Int))),(34,AV.pv (bv false))] [(1,xs),(2,zs),(4,os'),(6,[bv false,sv sd])] [] []),IntKind.i64.wrap ((↑i:Int)+(1:Int))=(↑(i+(1:Nat)):Int)]):=by kernel_rfl
theorem ZA (k i:Nat) (u w:Int) (sd:ByteArray) (xs zs os os' AE:List PV):ak MD t26 k 56 0 ⟨[(1, .bp 1 0),(2, .bp 2 0),(4, .bp 4 0),(5, .pv (iv i))],[(1,xs),(2,zs),(4,os)],[],[]⟩ [.c true, .e 13 (iz true sd), .c false, .c false, .r (one (bv true)), .l (.exit 2) ⟨[(1, .bp 1 0),(2, .bp 2 0),(4, .bp 4 0),(5, .pv (iv i)),(6, .bp 6 0),(7, .pv (iv sd.size)),(34, .pv (bv false))],[(1,xs),(2,zs),(4,os'),(6,[bv true,sv sd])],[],[]⟩, .j 53 i, .e 54 (iv u), .i 55 w, .j 56 i, .s AE, .i 11 (i+1:Nat)]=
 some ((Xt.normal,St.mk [(1,AV.bp 1 0),(2,AV.bp 2 0),(4,AV.bp 4 0),(5,AV.pv (iv (↑(i+(1:Nat)):Int)))] [(1,xs),(2,zs),(4,AE)] [] []),[],[decide ((↑i:Int)<(5:Int))=true,Ld MD.P 27 xs 8 (PV.ag [bv true,sv sd]),decide ((↑i:Int)<(4:Int))=false,decide ((↑sd.size:Int)>(3:Int))=false,aa t26 58 [PV.ag [bv true,sv sd]] (RV.mk (bv true) none),aN MD t26 k (56:Nat) (1:Nat) (St.mk [(1,AV.bp 1 0),(2,AV.bp 2 0),(4,AV.bp 4 0),(5,AV.pv (iv (↑i:Int))),(6,AV.bp 6 0),(7,AV.pv (iv (0:Int)))] [(1,xs),(2,zs),(4,os),(6,[bv true,sv sd])] [] []) (Xt.exit 2) (St.mk [(1,AV.bp 1 0),(2,AV.bp 2 0),(4,AV.bp 4 0),(5,AV.pv (iv (↑i:Int))),(6,AV.bp 6 0),(7,AV.pv (iv (↑sd.size:Int))),(34,AV.pv (bv false))] [(1,xs),(2,zs),(4,os'),(6,[bv true,sv sd])] [] []),aG (↑i:Int) 5 i,Ld MD.P 3 os' (0+i* 1) (iv u),IntKind.i64.wrap ((0:Int) - u)=w,aG (↑i:Int) 5 i,0+i* 1+1≤os'.length,ck os' (0+i* 1) [iv w] AE,IntKind.i64.wrap ((↑i:Int)+(1:Int))=(↑(i+(1:Nat)):Int)]):=by kernel_rfl
theorem ZB (k:Nat) (xs zs os:List PV):ak MD t26 k 56 0 ⟨[(1, .bp 1 0),(2, .bp 2 0),(4, .bp 4 0),(5, .pv (iv 5))],[(1,xs),(2,zs),(4,os)],[],[]⟩ [.c false]=
 some ((Xt.exit 0,St.mk [(1,AV.bp 1 0),(2,AV.bp 2 0),(4,AV.bp 4 0),(5,AV.pv (iv (5:Int))),(9,AV.pv (bv false))] [(1,xs),(2,zs),(4,os)] [] []),[],[false=false]):=by kernel_rfl
theorem ZD (k:Nat) (x:aM) (l0 l1 l2 l3 l4:Int):ay MD t26 k 56 [.ag x.cells] [.l .ret ⟨[(2, .bp 2 0),(3, .pv (bv false))],[(2,[iv l0,iv l1,iv l2,iv l3,iv l4])],[],[]⟩]=
 some (RV.mk (PV.an [PV.ag [iv l0,iv l1,iv l2,iv l3,iv l4],bv false]) none,[aN MD t26 k (56:Nat) (0:Nat) (St.mk [(1,AV.bp 1 0),(2,AV.bp 2 0),(4,AV.bp 4 0),(5,AV.pv (iv (0:Int)))] [(1,x.cells),(2,[iv (0:Int),iv (0:Int),iv (0:Int),iv (0:Int),iv (0:Int)]),(4,[iv (0:Int),iv (0:Int),iv (0:Int),iv (0:Int),iv (0:Int)])] [] []) Xt.ret (St.mk [(2,AV.bp 2 0),(3,AV.pv (bv false))] [(2,[iv l0,iv l1,iv l2,iv l3,iv l4])] [] [])]):=by kernel_rfl
theorem ZE (k:Nat) (x:aM) (l0 l1 l2 l3 l4:Int):ay MD t26 k 56 [.ag x.cells] [.l (.exit 0) ⟨[(1, .bp 1 0),(2, .bp 2 0),(4, .bp 4 0),(5, .pv (iv 5)),(9, .pv (bv false))],[(1,x.cells),(2,[iv 0,iv 0,iv 0,iv 0,iv 0]),(4,[iv l0,iv l1,iv l2,iv l3,iv l4])],[],[]⟩]=
 some (RV.mk (PV.an [PV.ag [iv l0,iv l1,iv l2,iv l3,iv l4],bv true]) none,[aN MD t26 k (56:Nat) (0:Nat) (St.mk [(1,AV.bp 1 0),(2,AV.bp 2 0),(4,AV.bp 4 0),(5,AV.pv (iv (0:Int)))] [(1,x.cells),(2,[iv (0:Int),iv (0:Int),iv (0:Int),iv (0:Int),iv (0:Int)]),(4,[iv (0:Int),iv (0:Int),iv (0:Int),iv (0:Int),iv (0:Int)])] [] []) (Xt.exit 0) (St.mk [(1,AV.bp 1 0),(2,AV.bp 2 0),(4,AV.bp 4 0),(5,AV.pv (iv (5:Int))),(9,AV.pv (bv false))] [(1,x.cells),(2,[iv (0:Int),iv (0:Int),iv (0:Int),iv (0:Int),iv (0:Int)]),(4,[iv l0,iv l1,iv l2,iv l3,iv l4])] [] [])]):=by kernel_rfl
theorem VV (k i:Nat) (a b:Int) (xs:List PV):ak MD t26 k 57 1 ⟨[(1, .bp 1 0),(4, .pv (iv i)),(5, .pv (iv a)),(6, .pv (iv b))],[(1,xs)],[],[]⟩ [.c false]=
 some ((Xt.exit 2,St.mk [(1,AV.bp 1 0),(4,AV.pv (iv (↑i:Int))),(5,AV.pv (iv a)),(6,AV.pv (iv b)),(21,AV.pv (bv false))] [(1,xs)] [] []),[],[(b !=(0:Int))=false]):=by kernel_rfl
theorem VW (k i:Nat) (a b r:Int) (xs:List PV):ak MD t26 k 57 1 ⟨[(1, .bp 1 0),(4, .pv (iv i)),(5, .pv (iv a)),(6, .pv (iv b))],[(1,xs)],[],[]⟩ [.c true, .i 25 r]=
 some ((Xt.normal,St.mk [(1,AV.bp 1 0),(4,AV.pv (iv (↑i:Int))),(5,AV.pv (iv b)),(6,AV.pv (iv r))] [(1,xs)] [] []),[],[(b !=(0:Int))=true,a.tmod b=r,decide (b=(0:Int))=false]):=by kernel_rfl
theorem VX (k:Nat) (g i:Nat) (u n m r:Int) (xs:List PV):ak MD t26 k 57 0 ⟨[(1, .bp 1 0),(3, .pv (iv g)),(4, .pv (iv i))],[(1,xs)],[],[]⟩ [.c true, .j 13 i, .e 14 (iv u), .j 16 i, .e 17 (iv u), .i 18 n, .i 19 m, .l (.exit 2) ⟨[(1, .bp 1 0),(4, .pv (iv i)),(5, .pv (iv r)),(6, .pv (iv 0)),(21, .pv (bv false))],[(1,xs)],[],[]⟩, .i 10 (i+1:Nat)]=
 some ((Xt.normal,St.mk [(1,AV.bp 1 0),(3,AV.pv (iv r)),(4,AV.pv (iv (↑(i+(1:Nat)):Int)))] [(1,xs)] [] []),[],[decide ((↑i:Int)<(5:Int))=true,aG (↑i:Int) 5 i,Ld MD.P 3 xs (0+i* 1) (iv u),aG (↑i:Int) 5 i,Ld MD.P 3 xs (0+i* 1) (iv u),IntKind.i64.wrap ((0:Int) - u)=n,(if n>u then n else u)=m,aN MD t26 k (57:Nat) (1:Nat) (St.mk [(1,AV.bp 1 0),(4,AV.pv (iv (↑i:Int))),(5,AV.pv (iv (↑g:Int))),(6,AV.pv (iv m))] [(1,xs)] [] []) (Xt.exit 2) (St.mk [(1,AV.bp 1 0),(4,AV.pv (iv (↑i:Int))),(5,AV.pv (iv r)),(6,AV.pv (iv (0:Int))),(21,AV.pv (bv false))] [(1,xs)] [] []),IntKind.i64.wrap ((↑i:Int)+(1:Int))=(↑(i+(1:Nat)):Int)]):=by kernel_rfl
theorem VY (k:Nat) (g:Int) (xs:List PV):ak MD t26 k 57 0 ⟨[(1, .bp 1 0),(3, .pv (iv g)),(4, .pv (iv 5))],[(1,xs)],[],[]⟩ [.c false]=
 some ((Xt.exit 0,St.mk [(1,AV.bp 1 0),(3,AV.pv (iv g)),(4,AV.pv (iv (5:Int))),(8,AV.pv (bv false))] [(1,xs)] [] []),[],[false=false]):=by kernel_rfl
theorem VZ (k:Nat) (l0 l1 l2 l3 l4 g:Int):ay MD t26 k 57 [.ag [iv l0,iv l1,iv l2,iv l3,iv l4]] [.l (.exit 0) ⟨[(1, .bp 1 0),(3, .pv (iv g)),(4, .pv (iv 5)),(8, .pv (bv false))],[(1,[iv l0,iv l1,iv l2,iv l3,iv l4])],[],[]⟩]=
 some (RV.mk (iv g) none,[aN MD t26 k (57:Nat) (0:Nat) (St.mk [(1,AV.bp 1 0),(3,AV.pv (iv (0:Int))),(4,AV.pv (iv (0:Int)))] [(1,[iv l0,iv l1,iv l2,iv l3,iv l4])] [] []) (Xt.exit 0) (St.mk [(1,AV.bp 1 0),(3,AV.pv (iv g)),(4,AV.pv (iv (5:Int))),(8,AV.pv (bv false))] [(1,[iv l0,iv l1,iv l2,iv l3,iv l4])] [] [])]):=by kernel_rfl
theorem Sz {α:Type} {c:α→PV} {P:Program} {T:TypeId} (hs:bV P T=some 1) (hr:ep P T=false) (hu:(P.underlying T).isSome=true) {l:List α} {o i:Nat} {x:α} (h:l[i]? =some x) (ho:o=i):Ld P T (l.map c) o (c x):=by
 subst ho
 have:=gK h
 show dZ P T (l.map c) o=some (c x)
 simp only [dZ,hs,Option.bind_some,hr,hu]
 rw [if_pos (by rw [List.length_map];omega)]
 simp [h]
theorem JL {α:Type} {c:α→PV} {l m:List α} {o i:Nat} {y:α} (h:l.set i y=m) (hi:i<l.length) (ho:o=i):ck (l.map c) o [c y] (m.map c):=by
 subst ho h
 show splice (l.map c) o [c y]=(l.set o y).map c
 simp only [splice,List.map_set,List.length_singleton]
 rw [List.set_eq_take_append_cons_drop,if_pos (by simpa using hi),List.append_assoc];rfl
theorem vm {l:List Int} {o i:Nat} {x:Int} (h:l[i]? =some x) (ho:o=i):Ld MD.P 3 (l.map iv) o (iv x):=Sz JI NS OG h ho
theorem IA {α:Type} {l:List α} {i:Nat} {x:α} (h:l[i]? =some x):l.set i x=l:=by
 apply List.ext_getElem?
 intro j
 by_cases e:i=j
 · subst e;rw [List.getElem?_set_self (gK h),h]
 · rw [List.getElem?_set_ne e]
theorem Bb:aP MD.P t26:=aO (au (aE fun x _=>jX x.1 x.2) aL)
def WI (i j:Nat) (g:Bool) (s:ByteArray) (xs zs os:List PV) (e:List (Nat×AV)):St:=⟨(1, .bp 1 0)::(2, .bp 2 0)::(4, .bp 4 0)::(5, .pv (iv i))::(6, .bp 6 0)::(7, .pv (iv j))::e,[(1,xs),(2,zs),(4,os),(6,[bv g,sv s])],[],[]⟩
theorem K9 (k i:Nat) (g:Bool) (s:ByteArray) (xs zs:List PV) (l:List Int) (hl:l.length=5) (hi:i<5) (h0:l[i]? =some 0) (hs:s.size≤3) (hk:5≤k):
  aR (aI MD t26 k 56 1) k (WI i 0 g s xs zs (l.map iv) [])=some (.exit 2,WI i s.size g s xs zs ((l.set i (bR s:Nat)).map iv) [(34, .pv (bv false))]):=by
 have e0:l.set i ((val 256 ((aY s).drop (s.size - 0)):Nat):Int)=l:=by
  have:val 256 ((aY s).drop (s.size - 0))=0:=by
   rw [Nat.sub_zero,List.drop_of_length_le (by rw [bW];omega)];rfl
  rw [this];exact IA h0
 have e1:bR s=val 256 ((aY s).drop (s.size - s.size)):=by rw [Nat.sub_self,List.drop_zero];rfl
 have lp:=cK (f:=aI MD t26 k 56 1) (S:=fun j=>WI i j g s xs zs ((l.set i ((val 256 ((aY s).drop (s.size - j)):Nat):Int)).map iv) []) (n:=s.size) (fun j hj=> ?_) (af (ZG k i s.size g s xs zs _) ⟨decide_eq_false (by omega),trivial⟩) (by simp) k (by omega)
 · simp only [e0] at lp
   rw [e1];exact lp
 · obtain ⟨b,hb,cF⟩:=mG (s:=s) (i:=s.size - 1 - j) (by omega)
   have oQ:b<256:=ef s b (List.mem_of_getElem? hb)
   rw [show s.size - 1 - (s.size - 1 - j)=j by omega] at cF
   have hd:=tZ (b:=256) hb
   rw [show s.size - 1 - j+1=s.size - j by omega,show s.size - 1 - j=s.size - (j+1) by omega] at hd
   have hlt:=dc (jH (ef s) (s.size - (j+1)))
   rw [List.length_drop,bW] at hlt
   have h7:256^(s.size - (s.size - (j+1)))≤256^3:=Nat.pow_le_pow_right (by decide) (by omega)
   have z9:fu s (j:Int) (b:Int):=by
    show ji s _=_
    unfold ji
    rw [if_pos (by omega),Int.toNat_natCast]
    cases h:s[j]? with
    |none=>rw [h] at cF;simp at cF
    |some c=>rw [h] at cF;simp at cF;simp [cF]
   generalize hu:val 256 ((aY s).drop (s.size - j))=u at*
   generalize gu:val 256 ((aY s).drop (s.size - (j+1)))=u2 at*
   have hp:(2:Int)^min (Int.toNat 8) IntKind.i64.bits=256:=by decide
   have hg:(l.set i (u:Int))[i]? =some (u:Int):=List.getElem?_set_self (by omega)
   have hsp:ck ((l.set i (u:Int)).map iv) (0+i* 1) [iv (u2:Nat)] ((l.set i (u2:Int)).map iv):=JL (by rw [List.set_set]) (by rw [List.length_set];omega) (by omega)
   exact af (ZF k i j u b (u* 256) u2 g s xs zs _ _) ⟨decide_eq_true (by omega),⟨rfl,hi⟩,vm hg (by omega),by rw [hp];exact bn (by omega) (by omega),rfl,z9,bn rfl (by omega),bn (by omega) (by omega),⟨rfl,hi⟩,by rw [List.length_map,List.length_set];omega,hsp,bn (by omega) (by omega),trivial⟩
def aM.dG (x:aM):List RI:=[x.c0,x.c1,x.c2,x.c3,x.d]
theorem aM.Jk (x:aM) {i:Nat} {r:RI} (hi:i<4) (h:x.dG[i]? =some r):Ld MD.P 27 x.cells (0+i* 2) (.ag r.cells):=by
 match i,hi with
 |0,_=>have e:x.c0=r:=Option.some.inj h;subst e;show dZ _ _ _ _=_;kernel_rfl
 |1,_=>have e:x.c1=r:=Option.some.inj h;subst e;show dZ _ _ _ _=_;kernel_rfl
 |2,_=>have e:x.c2=r:=Option.some.inj h;subst e;show dZ _ _ _ _=_;kernel_rfl
 |3,_=>have e:x.c3=r:=Option.some.inj h;subst e;show dZ _ _ _ _=_;kernel_rfl
theorem aM.QY (x:aM):Ld MD.P 27 x.cells 8 (.ag x.d.cells):=by show dZ _ _ _ _=_;kernel_rfl
def gZ (rl:List RI) (i:Nat):List Int:=(rl.take i).map RI.z++List.replicate (5 - i) 0
theorem sR {rl:List RI} (h:rl.length=5) {i:Nat} (hi:i≤5):(gZ rl i).length=5:=by simp [gZ];omega
theorem Kv {rl:List RI} (h:rl.length=5) {i:Nat} (hi:i<5):(gZ rl i)[i]? =some 0:=by
 unfold gZ
 have e:((rl.take i).map RI.z).length=i:=by simp;omega
 rw [List.getElem?_append_right (by omega),List.getElem?_replicate,if_pos (by omega)]
theorem Kw {rl:List RI} (h:rl.length=5) {i:Nat} {r:RI} (hr:rl[i]? =some r):(gZ rl i).set i r.z=gZ rl (i+1):=by
 have hi:=gK hr
 unfold gZ
 rw [List.set_append_right _ _ (by simp;omega)]
 obtain ⟨m,hm⟩:∃m,5 - i=m+1:=⟨4 - i,by omega⟩
 have e:i - ((rl.take i).map RI.z).length=0:=by simp;omega
 rw [e,hm,List.replicate_succ,List.set_cons_zero,show 5 - (i+1)=m by omega,List.take_add_one,hr]
 simp
def WO (x:aM) (i:Nat) (l:List Int) (e:List (Nat×AV)):St:=⟨(1, .bp 1 0)::(2, .bp 2 0)::(4, .bp 4 0)::(5, .pv (iv i))::e,[(1,x.cells),(2,[iv 0,iv 0,iv 0,iv 0,iv 0]),(4,l.map iv)],[],[]⟩
theorem vn {α:Type} {l:List α} (h:l.length=5):∃a b c d e,l=[a,b,c,d,e]:=by
 match l,h with
 |[a,b,c,d,e],_=>exact ⟨a,b,c,d,e,rfl⟩
theorem RI.xw {r:RI} (h:r.sh=true):r.s.size≤3∧r.ok=true:=by
 unfold RI.sh at h
 simpa using h
theorem RI.C7 {r:RI} (h:r.s.size≤3):bR r.s<2^24:=by
 have:=dc (ef r.s)
 rw [bW] at this
 have h7:256^r.s.size≤256^3:=Nat.pow_le_pow_right (by decide) h
 unfold bR;omega
theorem OP (k:Nat) (x:aM) {i:Nat} {r:RI} (hi:i<5) (hr:x.dG[i]? =some r) (h:r.sh=true) (hk:5≤k):aI MD t26 k 56 0 (WO x i (gZ x.dG i) [])=some (.normal,WO x (i+1) (gZ x.dG (i+1)) []):=by
 obtain ⟨h1,h2⟩:=RI.xw h
 have hz:=RI.C7 h1
 have hl:=sR (rl:=x.dG) rfl (i:=i) (by omega)
 have fI:=Kw (rl:=x.dG) rfl hr
 have hv:=cO r.g r.s
 rw [show cL r.g r.s=true from h2] at hv
 have lp:=K9 k i r.g r.s x.cells [iv 0,iv 0,iv 0,iv 0,iv 0] (gZ x.dG i) hl hi (Kv rfl hi) h1 hk
 have hgd:Ld MD.P 27 x.cells 8 (iz x.d.g x.d.s):=x.QY
 generalize hL:gZ x.dG i=L at*
 obtain ⟨g,s⟩:=r
 cases g with
 |false=>
  have ez:RI.z ⟨false,s⟩=(bR s:Nat):=rfl
  rw [ez] at fI
  rw [fI] at lp
  by_cases h4:i<4
  · exact af (Zv k i x.d.g s x.d.s _ _ _ _) ⟨decide_eq_true (by omega),hgd,decide_eq_true (by omega),⟨rfl,h4⟩,x.Jk h4 hr,decide_eq_false (by simp at h1;omega),hv,lp,bn (by omega) (by omega),trivial⟩
  · have hi4:i=4:=by omega
    have ed:x.d=⟨false,s⟩:=by subst hi4;exact Option.some.inj hr
    have HM:Ld MD.P 27 x.cells 8 (iz false s):=by rw [ed] at hgd;exact hgd
    exact af (Zz k i s _ _ _ _) ⟨decide_eq_true (by omega),HM,decide_eq_false (by omega),decide_eq_false (by simp at h1;omega),hv,lp,bn (by omega) (by omega),trivial⟩
 |true=>
  have ez:RI.z ⟨true,s⟩= -((bR s:Nat):Int):=rfl
  rw [ez] at fI
  have hg:(L.set i ((bR s:Nat):Int))[i]? =some ((bR s:Nat):Int):=List.getElem?_set_self (by omega)
  have hsp:ck ((L.set i ((bR s:Nat):Int)).map iv) (0+i* 1) [iv (-((bR s:Nat):Int))] ((gZ x.dG (i+1)).map iv):=JL (by rw [List.set_set];exact fI) (by rw [List.length_set];omega) (by omega)
  have hle:0+i* 1+1≤((L.set i ((bR s:Nat):Int)).map iv).length:=by rw [List.length_map,List.length_set];omega
  have hneg:IntKind.i64.wrap (0 - ((bR s:Nat):Int))= -((bR s:Nat):Int):=by simp only at hz;rw [wrap64]<;>omega
  by_cases h4:i<4
  · exact af (Zw k i (bR s:Nat) (-((bR s:Nat):Int)) x.d.g s x.d.s _ _ _ _ _) ⟨decide_eq_true (by omega),hgd,decide_eq_true (by omega),⟨rfl,h4⟩,x.Jk h4 hr,decide_eq_false (by simp at h1;omega),hv,lp,⟨rfl,hi⟩,vm hg (by omega),hneg,⟨rfl,hi⟩,hle,hsp,bn (by omega) (by omega),trivial⟩
  · have hi4:i=4:=by omega
    have ed:x.d=⟨true,s⟩:=by subst hi4;exact Option.some.inj hr
    have HM:Ld MD.P 27 x.cells 8 (iz true s):=by rw [ed] at hgd;exact hgd
    exact af (ZA k i (bR s:Nat) (-((bR s:Nat):Int)) s _ _ _ _ _) ⟨decide_eq_true (by omega),HM,decide_eq_false (by omega),decide_eq_false (by simp at h1;omega),hv,lp,⟨rfl,hi⟩,vm hg (by omega),hneg,⟨rfl,hi⟩,hle,hsp,bn (by omega) (by omega),trivial⟩
theorem PM (k:Nat) (x:aM) {i:Nat} {r:RI} (hi:i<5) (hr:x.dG[i]? =some r) (h:r.sh=false):aI MD t26 k 56 0 (WO x i (gZ x.dG i) [])=some (.ret,⟨[(2, .bp 2 0),(3, .pv (bv false))],[(2,(gZ x.dG i).map iv)],[],[]⟩):=by
 have hl:=sR (rl:=x.dG) rfl (i:=i) (by omega)
 have hv:=cO r.g r.s
 have hgd:Ld MD.P 27 x.cells 8 (iz x.d.g x.d.s):=x.QY
 generalize hL:gZ x.dG i=L at*
 obtain ⟨l0,l1,l2,l3,l4,rfl⟩:=vn hl
 by_cases h3:r.s.size≤3
 · have hok:cL r.g r.s=false:=by
     unfold RI.sh at h
     rw [decide_eq_true h3,Bool.true_and] at h
     exact h
   rw [hok] at hv
   by_cases h4:i<4
   · exact af (Zu k i r.g x.d.g r.s x.d.s l0 l1 l2 l3 l4 _) ⟨decide_eq_true (by omega),hgd,decide_eq_true (by omega),⟨rfl,h4⟩,x.Jk h4 hr,decide_eq_false (by omega),hv,trivial⟩
   · have hi4:i=4:=by omega
     subst hi4
     have ed:x.d=r:=Option.some.inj hr
     rw [ed] at hgd
     exact af (Zy k r.g r.s l0 l1 l2 l3 l4 _) ⟨rfl,hgd,rfl,decide_eq_false (by omega),hv,trivial⟩
 · by_cases h4:i<4
   · exact af (Zt k i r.g x.d.g r.s x.d.s l0 l1 l2 l3 l4 _) ⟨decide_eq_true (by omega),hgd,decide_eq_true (by omega),⟨rfl,h4⟩,x.Jk h4 hr,decide_eq_true (by omega),trivial⟩
   · have hi4:i=4:=by omega
     subst hi4
     have ed:x.d=r:=Option.some.inj hr
     rw [ed] at hgd
     exact af (Zx k r.g r.s l0 l1 l2 l3 l4 _) ⟨rfl,hgd,rfl,decide_eq_true (by omega),trivial⟩
theorem JR {α:Type} {p:α→Bool}:∀(l:List α) (i:Nat),i<(l.takeWhile p).length→∃x,l[i]? =some x∧p x=true
 |[],i,h=>by simp at h
 |a::l,i,h=>by
  cases hp:p a with
  |false=>rw [List.takeWhile_cons,hp] at h;simp at h
  |true=>
   rw [List.takeWhile_cons,hp] at h
   cases i with
   |zero=>exact ⟨a,rfl,hp⟩
   |succ i=>exact JR l i (by simpa using h)
theorem JQ {α:Type} {p:α→Bool}:∀(l:List α),(l.takeWhile p).length<l.length→∃x,l[(l.takeWhile p).length]? =some x∧p x=false
 |[],h=>by simp at h
 |a::l,h=>by
  cases hp:p a with
  |false=>exact ⟨a,by rw [List.takeWhile_cons,hp];rfl,hp⟩
  |true=>
   rw [List.takeWhile_cons,hp] at h ⊢
   exact JQ l (by simpa using h)
theorem Ei {α:Type} {p:α→Bool}:∀(l:List α),(l.takeWhile p).length≤l.length
 |[]=>by simp
 |a::l=>by
  rw [List.takeWhile_cons]
  split
  · have:=Ei (p:=p) l;simp;omega
  · simp
def aM.kQ (x:aM):Nat:=(x.dG.takeWhile RI.sh).length
theorem GB (x:aM):aA P0 56 [.ag x.cells] (one (.an [.ag ((gZ x.dG x.kQ).map iv),bv (decide (x.kQ=5))])):=by
 have hle:x.kQ≤5:=Ei x.dG
 have hl:=sR (rl:=x.dG) rfl hle
 have rounds:∀i,i<x.kQ→aI MD t26 7 56 0 (WO x i (gZ x.dG i) [])=some (.normal,WO x (i+1) (gZ x.dG (i+1)) []):=fun i hi=>by
  obtain ⟨r,hr,hs⟩:=JR x.dG i hi
  exact OP 7 x (by omega) hr hs (by omega)
 by_cases h5:x.kQ=5
 · rw [decide_eq_true h5]
   have lp:=cK (f:=aI MD t26 7 56 0) (S:=fun i=>WO x i (gZ x.dG i) []) (n:=x.kQ) rounds (r:=(.exit 0,WO x 5 (gZ x.dG x.kQ) [(9, .pv (bv false))])) (by
    rw [h5];exact af (ZB 7 x.cells _ _) ⟨rfl,trivial⟩) (by simp) 7 (by omega)
   generalize hL:gZ x.dG x.kQ=L at*
   obtain ⟨l0,l1,l2,l3,l4,rfl⟩:=vn hl
   exact ai ah Bb (by rfl) (ZE 7 x l0 l1 l2 l3 l4) ⟨lp,trivial⟩
 · rw [decide_eq_false h5]
   obtain ⟨r,hr,hs⟩:=JQ (p:=RI.sh) x.dG (by show x.kQ<5;omega)
   have lp:=cK (f:=aI MD t26 7 56 0) (S:=fun i=>WO x i (gZ x.dG i) []) (n:=x.kQ) rounds (PM 7 x (by omega) hr hs) (by simp) 7 (by omega)
   generalize hL:gZ x.dG x.kQ=L at*
   obtain ⟨l0,l1,l2,l3,l4,rfl⟩:=vn hl
   exact ai ah Bb (by rfl) (ZD 7 x l0 l1 l2 l3 l4) ⟨lp,trivial⟩
def gI (l:List Int):Nat:=l.foldl (fun g x=>Nat.gcd g x.natAbs) 0
theorem Kf {l:List Int} {i:Nat} {x:Int} (h:l[i]? =some x):gI (l.take (i+1))=Nat.gcd (gI (l.take i)) x.natAbs:=by
 unfold gI
 rw [List.take_add_one,h]
 simp
def GI (i a b:Nat) (xs:List PV) (e:List (Nat×AV)):St:=⟨(1, .bp 1 0)::(4, .pv (iv i))::(5, .pv (iv a))::(6, .pv (iv b))::e,[(1,xs)],[],[]⟩
theorem Kh (k i:Nat) (xs:List PV):∀(m n:Nat),aR (aI MD t26 k 57 1) (m+1) (GI i n m xs [])=some (.exit 2,GI i (Nat.gcd n m) 0 xs [(21, .pv (bv false))]):=by
 intro m
 induction m using Nat.strongRecOn with
 |_ m ih=>
  intro n
  by_cases h:m=0
  · subst h
    rw [Nat.gcd_zero_right]
    exact aF (af (VV k i n 0 xs) ⟨rfl,trivial⟩) (by simp)
  · have hr:n%m<m:=Nat.mod_lt _ (by omega)
    have:=ih (n%m) hr m
    rw [jI] at this
    exact aW (af (VW k i n m (n%m:Nat) xs) ⟨bne_iff_ne.2 (by omega),fy _ _,decide_eq_false (by omega),trivial⟩) (bH (by omega) this)
theorem Iu (l:List Int) (hl:l.length=5) (hb:∀x∈l,x.natAbs<2^24):aA P0 57 [.ag (l.map iv)] (one (iv (gI l:Nat))):=by
 obtain ⟨k,hk⟩:∃k,k=2^24+7:=⟨_,rfl⟩
 have lp:=cK (f:=aI MD t26 k 57 0) (S:=fun i=>⟨[(1, .bp 1 0),(3, .pv (iv (gI (l.take i):Nat))),(4, .pv (iv i))],[(1,l.map iv)],[],[]⟩) (n:=5) (fun i hi=>by
  obtain ⟨x,hx⟩:=get_some (l:=l) (i:=i) (by omega)
  have qR:=hb x (List.mem_of_getElem? hx)
  have lq:=bH (show x.natAbs+1≤k by omega) (Kh k i (l.map iv) x.natAbs (gI (l.take i)))
  simp only [Kf hx]
  exact af (VX k (gI (l.take i)) i x (-x) (x.natAbs:Nat) (Nat.gcd (gI (l.take i)) x.natAbs:Nat) _) ⟨decide_eq_true (by omega),⟨rfl,hi⟩,vm hx (by omega),⟨rfl,hi⟩,vm hx (by omega),by rw [wrap64]<;>omega,by split<;>omega,lq,bn (by omega) (by omega),trivial⟩)
  (af (VY k (gI (l.take 5):Nat) (l.map iv)) ⟨rfl,trivial⟩) (by simp) k (by omega)
 have e5:l.take 5=l:=List.take_of_length_le (by omega)
 simp only [e5] at lp
 obtain ⟨l0,l1,l2,l3,l4,rfl⟩:=vn hl
 exact ai ah Bb (by rfl) (VZ k l0 l1 l2 l3 l4 _) ⟨lp,trivial⟩
end Go.Proofs.YtibbgjafjhcemaaDoor.Cul
namespace Go.Proofs.YtibbgjafjhcemaaDoor.Cul
open Go Go.RowKit
noncomputable def Cz:List PV→Option RV:=cu (fun _:aM=>True) (fun x=>[.ag x.cells]) (fun x=>one (.an [.ag ((gZ x.dG x.kQ).map iv),bv (decide (x.kQ=5))]))
noncomputable def Gk:List PV→Option RV:=cu (fun l:List Int=>l.length=5∧∀x∈l,x.natAbs<2^24) (fun l=>[.ag (l.map iv)]) (fun l=>one (iv (gI l:Nat)))
noncomputable def DM:List PV→Option RV:=cu (fun _:RI=>True) (fun r=>[.ag r.cells]) (fun r=>one (uq r.g r.s))
noncomputable def t27:Cl:=bQ [(56,Cz),(57,Gk),(58,gV),(59,Du),(60,D8),(61,D0)]
theorem Zb (k:Nat) (x:aM) (l0 l1 l2 l3 l4:Int):ay MD t27 k 39 [.ag x.cells] [.r (one (.an [.ag [iv l0,iv l1,iv l2,iv l3,iv l4],bv true])), .c false]=
 some (RV.mk (bv false) none,[aa t27 56 [PV.ag x.cells] (RV.mk (PV.an [PV.ag [iv l0,iv l1,iv l2,iv l3,iv l4],bv true]) none),decide (l4>(0:Int))=false]):=by kernel_rfl
theorem Zc (k:Nat) (x:aM) (l0 l1 l2 l3 l4 g:Int) (b:Bool):ay MD t27 k 39 [.ag x.cells] [.r (one (.an [.ag [iv l0,iv l1,iv l2,iv l3,iv l4],bv true])), .c true, .r (one (iv g)), .c b]=
 some (RV.mk (bv b) none,[aa t27 56 [PV.ag x.cells] (RV.mk (PV.an [PV.ag [iv l0,iv l1,iv l2,iv l3,iv l4],bv true]) none),decide (l4>(0:Int))=true,aa t27 57 [PV.ag [iv l0,iv l1,iv l2,iv l3,iv l4]] (RV.mk (iv g) none),(g==(1:Int))=b]):=by kernel_rfl
theorem Zd (k:Nat) (x:aM) (l0 l1 l2 l3 l4:Int):ay MD t27 k 39 [.ag x.cells] [.r (one (.an [.ag [iv l0,iv l1,iv l2,iv l3,iv l4],bv false])), .u 5, .c true, .r (one (bv false))]=
 some (RV.mk (bv false) none,[aa t27 56 [PV.ag x.cells] (RV.mk (PV.an [PV.ag [iv l0,iv l1,iv l2,iv l3,iv l4],bv false]) none),5≤k,true=true,aa t27 58 [PV.ag x.c0.cells] (RV.mk (bv false) none)]):=by kernel_rfl
theorem Ze (k:Nat) (x:aM) (l0 l1 l2 l3 l4:Int) (y0:RI):ay MD t27 k 39 [.ag x.cells] [.r (one (.an [.ag [iv l0,iv l1,iv l2,iv l3,iv l4],bv false])), .u 5, .c true, .r (one (bv true)), .r (one (.ag y0.cells)), .c true, .r (one (bv false))]=
 some (RV.mk (bv false) none,[aa t27 56 [PV.ag x.cells] (RV.mk (PV.an [PV.ag [iv l0,iv l1,iv l2,iv l3,iv l4],bv false]) none),5≤k,true=true,aa t27 58 [PV.ag x.c0.cells] (RV.mk (bv true) none),aa t27 59 [PV.ag [bv false,sv (ByteArray.mk #[])],PV.ag x.c0.cells] (RV.mk (PV.ag y0.cells) none),true=true,aa t27 58 [PV.ag x.c1.cells] (RV.mk (bv false) none)]):=by kernel_rfl
theorem Zf (k:Nat) (x:aM) (l0 l1 l2 l3 l4:Int) (y0 y1:RI):ay MD t27 k 39 [.ag x.cells] [.r (one (.an [.ag [iv l0,iv l1,iv l2,iv l3,iv l4],bv false])), .u 5, .c true, .r (one (bv true)), .r (one (.ag y0.cells)), .c true, .r (one (bv true)), .r (one (.ag y1.cells)), .c true, .r (one (bv false))]=
 some (RV.mk (bv false) none,[aa t27 56 [PV.ag x.cells] (RV.mk (PV.an [PV.ag [iv l0,iv l1,iv l2,iv l3,iv l4],bv false]) none),5≤k,true=true,aa t27 58 [PV.ag x.c0.cells] (RV.mk (bv true) none),aa t27 59 [PV.ag [bv false,sv (ByteArray.mk #[])],PV.ag x.c0.cells] (RV.mk (PV.ag y0.cells) none),true=true,aa t27 58 [PV.ag x.c1.cells] (RV.mk (bv true) none),aa t27 59 [PV.ag y0.cells,PV.ag x.c1.cells] (RV.mk (PV.ag y1.cells) none),true=true,aa t27 58 [PV.ag x.c2.cells] (RV.mk (bv false) none)]):=by kernel_rfl
theorem Zg (k:Nat) (x:aM) (l0 l1 l2 l3 l4:Int) (y0 y1 y2:RI):ay MD t27 k 39 [.ag x.cells] [.r (one (.an [.ag [iv l0,iv l1,iv l2,iv l3,iv l4],bv false])), .u 5, .c true, .r (one (bv true)), .r (one (.ag y0.cells)), .c true, .r (one (bv true)), .r (one (.ag y1.cells)), .c true, .r (one (bv true)), .r (one (.ag y2.cells)), .c true, .r (one (bv false))]=
 some (RV.mk (bv false) none,[aa t27 56 [PV.ag x.cells] (RV.mk (PV.an [PV.ag [iv l0,iv l1,iv l2,iv l3,iv l4],bv false]) none),5≤k,true=true,aa t27 58 [PV.ag x.c0.cells] (RV.mk (bv true) none),aa t27 59 [PV.ag [bv false,sv (ByteArray.mk #[])],PV.ag x.c0.cells] (RV.mk (PV.ag y0.cells) none),true=true,aa t27 58 [PV.ag x.c1.cells] (RV.mk (bv true) none),aa t27 59 [PV.ag y0.cells,PV.ag x.c1.cells] (RV.mk (PV.ag y1.cells) none),true=true,aa t27 58 [PV.ag x.c2.cells] (RV.mk (bv true) none),aa t27 59 [PV.ag y1.cells,PV.ag x.c2.cells] (RV.mk (PV.ag y2.cells) none),true=true,aa t27 58 [PV.ag x.c3.cells] (RV.mk (bv false) none)]):=by kernel_rfl
theorem Zh (k:Nat) (x:aM) (l0 l1 l2 l3 l4:Int) (y0 y1 y2 y3:RI):ay MD t27 k 39 [.ag x.cells] [.r (one (.an [.ag [iv l0,iv l1,iv l2,iv l3,iv l4],bv false])), .u 5, .c true, .r (one (bv true)), .r (one (.ag y0.cells)), .c true, .r (one (bv true)), .r (one (.ag y1.cells)), .c true, .r (one (bv true)), .r (one (.ag y2.cells)), .c true, .r (one (bv true)), .r (one (.ag y3.cells)), .c false, .r (one (bv false))]=
 some (RV.mk (bv false) none,[aa t27 56 [PV.ag x.cells] (RV.mk (PV.an [PV.ag [iv l0,iv l1,iv l2,iv l3,iv l4],bv false]) none),5≤k,true=true,aa t27 58 [PV.ag x.c0.cells] (RV.mk (bv true) none),aa t27 59 [PV.ag [bv false,sv (ByteArray.mk #[])],PV.ag x.c0.cells] (RV.mk (PV.ag y0.cells) none),true=true,aa t27 58 [PV.ag x.c1.cells] (RV.mk (bv true) none),aa t27 59 [PV.ag y0.cells,PV.ag x.c1.cells] (RV.mk (PV.ag y1.cells) none),true=true,aa t27 58 [PV.ag x.c2.cells] (RV.mk (bv true) none),aa t27 59 [PV.ag y1.cells,PV.ag x.c2.cells] (RV.mk (PV.ag y2.cells) none),true=true,aa t27 58 [PV.ag x.c3.cells] (RV.mk (bv true) none),aa t27 59 [PV.ag y2.cells,PV.ag x.c3.cells] (RV.mk (PV.ag y3.cells) none),false=false,aa t27 58 [PV.ag x.d.cells] (RV.mk (bv false) none)]):=by kernel_rfl
theorem Zi (k:Nat) (x:aM) (l0 l1 l2 l3 l4 sg:Int) (y0 y1 y2 y3:RI):ay MD t27 k 39 [.ag x.cells] [.r (one (.an [.ag [iv l0,iv l1,iv l2,iv l3,iv l4],bv false])), .u 5, .c true, .r (one (bv true)), .r (one (.ag y0.cells)), .c true, .r (one (bv true)), .r (one (.ag y1.cells)), .c true, .r (one (bv true)), .r (one (.ag y2.cells)), .c true, .r (one (bv true)), .r (one (.ag y3.cells)), .c false, .r (one (bv true)), .r (one (iv sg)), .c false]=
 some (RV.mk (bv false) none,[aa t27 56 [PV.ag x.cells] (RV.mk (PV.an [PV.ag [iv l0,iv l1,iv l2,iv l3,iv l4],bv false]) none),5≤k,true=true,aa t27 58 [PV.ag x.c0.cells] (RV.mk (bv true) none),aa t27 59 [PV.ag [bv false,sv (ByteArray.mk #[])],PV.ag x.c0.cells] (RV.mk (PV.ag y0.cells) none),true=true,aa t27 58 [PV.ag x.c1.cells] (RV.mk (bv true) none),aa t27 59 [PV.ag y0.cells,PV.ag x.c1.cells] (RV.mk (PV.ag y1.cells) none),true=true,aa t27 58 [PV.ag x.c2.cells] (RV.mk (bv true) none),aa t27 59 [PV.ag y1.cells,PV.ag x.c2.cells] (RV.mk (PV.ag y2.cells) none),true=true,aa t27 58 [PV.ag x.c3.cells] (RV.mk (bv true) none),aa t27 59 [PV.ag y2.cells,PV.ag x.c3.cells] (RV.mk (PV.ag y3.cells) none),false=false,aa t27 58 [PV.ag x.d.cells] (RV.mk (bv true) none),aa t27 60 [PV.ag x.d.cells] (RV.mk (iv sg) none),decide (sg>(0:Int))=false]):=by kernel_rfl
theorem Zj (k:Nat) (x:aM) (l0 l1 l2 l3 l4 sg:Int) (y0 y1 y2 y3 y4 y5:RI) (b:Bool):ay MD t27 k 39 [.ag x.cells] [.r (one (.an [.ag [iv l0,iv l1,iv l2,iv l3,iv l4],bv false])), .u 5, .c true, .r (one (bv true)), .r (one (.ag y0.cells)), .c true, .r (one (bv true)), .r (one (.ag y1.cells)), .c true, .r (one (bv true)), .r (one (.ag y2.cells)), .c true, .r (one (bv true)), .r (one (.ag y3.cells)), .c false, .r (one (bv true)), .r (one (iv sg)), .c true, .r (one (.ag y4.cells)), .r (one (.ag y5.cells)), .g b]=
 some (RV.mk (bv b) none,[aa t27 56 [PV.ag x.cells] (RV.mk (PV.an [PV.ag [iv l0,iv l1,iv l2,iv l3,iv l4],bv false]) none),5≤k,true=true,aa t27 58 [PV.ag x.c0.cells] (RV.mk (bv true) none),aa t27 59 [PV.ag [bv false,sv (ByteArray.mk #[])],PV.ag x.c0.cells] (RV.mk (PV.ag y0.cells) none),true=true,aa t27 58 [PV.ag x.c1.cells] (RV.mk (bv true) none),aa t27 59 [PV.ag y0.cells,PV.ag x.c1.cells] (RV.mk (PV.ag y1.cells) none),true=true,aa t27 58 [PV.ag x.c2.cells] (RV.mk (bv true) none),aa t27 59 [PV.ag y1.cells,PV.ag x.c2.cells] (RV.mk (PV.ag y2.cells) none),true=true,aa t27 58 [PV.ag x.c3.cells] (RV.mk (bv true) none),aa t27 59 [PV.ag y2.cells,PV.ag x.c3.cells] (RV.mk (PV.ag y3.cells) none),false=false,aa t27 58 [PV.ag x.d.cells] (RV.mk (bv true) none),aa t27 60 [PV.ag x.d.cells] (RV.mk (iv sg) none),decide (sg>(0:Int))=true,aa t27 59 [PV.ag y3.cells,PV.ag x.d.cells] (RV.mk (PV.ag y4.cells) none),aa t27 61 [iv (1:Int)] (RV.mk (PV.ag y5.cells) none),iJ MD.P BinOp.eql 27 (Operand.tmp (51:Nat)) (Operand.tmp (52:Nat)) (Value.agg y4.vals.toArray) (Value.agg y5.vals.toArray) b]):=by kernel_rfl
def RI.neg (r:RI):RI:=⟨!r.g&& !decide (r.s.size=0),r.s⟩
def aM.i5 (x:aM):fF:=⟨x.c0.z,x.c1.z,x.c2.z,x.c3.z,x.d.z⟩
def aM.l6 (x:aM):Bool:=x.c0.ok&&x.c1.ok&&x.c2.ok&&x.c3.ok&&x.d.ok
def aM.ok (x:aM):Bool:=x.l6&&x.i5.ok
def aM.neg (x:aM):aM:=if x.ok then ⟨x.c0.neg,x.c1.neg,x.c2.neg,x.c3.neg,x.d⟩ else .zero
def aM.small (x:aM):Prop:=∀r∈x.dG,r.s.size<2^30
noncomputable def As:List PV→Option RV:=cu aM.small (fun x=>[.ag x.cells]) (fun x=>one (bv x.ok))
noncomputable def t28:Cl:=bQ [(43,As),(54,DM)]
noncomputable def t29:Cl:=bQ [(39,As),(55,DM)]
theorem XM (k:Nat) (x:aM):ay MD t28 k 37 [.ag x.cells] [.r (one (bv false))]=
 some (RV.mk (PV.ag [bv false,sv (ByteArray.mk #[]),bv false,sv (ByteArray.mk #[]),bv false,sv (ByteArray.mk #[]),bv false,sv (ByteArray.mk #[]),bv false,sv (ByteArray.mk #[])]) none,[aa t28 43 [PV.ag x.cells] (RV.mk (bv false) none)]):=by kernel_rfl
theorem XN (k:Nat) (x:aM) (y0 y1 y2 y3:RI):ay MD t28 k 37 [.ag x.cells] [.r (one (bv true)), .u 5, .c true, .r (one (.ag y0.cells)), .c true, .r (one (.ag y1.cells)), .c true, .r (one (.ag y2.cells)), .c true, .r (one (.ag y3.cells)), .c false]=
 some (RV.mk (PV.ag [bv y0.g,sv y0.s,bv y1.g,sv y1.s,bv y2.g,sv y2.s,bv y3.g,sv y3.s,bv x.d.g,sv x.d.s]) none,[aa t28 43 [PV.ag x.cells] (RV.mk (bv true) none),5≤k,true=true,aa t28 54 [PV.ag x.c0.cells] (RV.mk (PV.ag y0.cells) none),true=true,aa t28 54 [PV.ag x.c1.cells] (RV.mk (PV.ag y1.cells) none),true=true,aa t28 54 [PV.ag x.c2.cells] (RV.mk (PV.ag y2.cells) none),true=true,aa t28 54 [PV.ag x.c3.cells] (RV.mk (PV.ag y3.cells) none),false=false]):=by kernel_rfl
theorem XO (k:Nat) (x:aM):ay MD t29 k 38 [.ag x.cells] [.r (one (bv false))]=
 some (RV.mk (PV.ag [bv false,sv (ByteArray.mk #[]),bv false,sv (ByteArray.mk #[]),bv false,sv (ByteArray.mk #[]),bv false,sv (ByteArray.mk #[]),bv false,sv (ByteArray.mk #[])]) none,[aa t29 39 [PV.ag x.cells] (RV.mk (bv false) none)]):=by kernel_rfl
theorem XP (k:Nat) (x:aM) (y0 y1 y2 y3:RI):ay MD t29 k 38 [.ag x.cells] [.r (one (bv true)), .u 5, .c true, .r (one (.ag y0.cells)), .c true, .r (one (.ag y1.cells)), .c true, .r (one (.ag y2.cells)), .c true, .r (one (.ag y3.cells)), .c false]=
 some (RV.mk (PV.ag [bv y0.g,sv y0.s,bv y1.g,sv y1.s,bv y2.g,sv y2.s,bv y3.g,sv y3.s,bv x.d.g,sv x.d.s]) none,[aa t29 39 [PV.ag x.cells] (RV.mk (bv true) none),5≤k,true=true,aa t29 55 [PV.ag x.c0.cells] (RV.mk (PV.ag y0.cells) none),true=true,aa t29 55 [PV.ag x.c1.cells] (RV.mk (PV.ag y1.cells) none),true=true,aa t29 55 [PV.ag x.c2.cells] (RV.mk (PV.ag y2.cells) none),true=true,aa t29 55 [PV.ag x.c3.cells] (RV.mk (PV.ag y3.cells) none),false=false]):=by kernel_rfl
def RI.of (z:Int):RI:=⟨decide (z<0),aH z.natAbs⟩
theorem RI.DQ (z:Int):(RI.of z).ok=true:=sZ z
theorem RI.Nz (z:Int):(RI.of z).z=z:=by
 unfold RI.z RI.of
 simp only [jb]
 by_cases h:z<0
 · rw [decide_eq_true h,if_pos rfl];omega
 · rw [decide_eq_false h];simp;omega
theorem RI.qi {r:RI} (h:r.ok=true):r=RI.of r.z:=by
 obtain ⟨z,h1,h2,h3⟩:=Ib h
 have e:r=RI.of z:=by obtain ⟨g,s⟩:=r;simp only at h2 h3;rw [h2,h3];rfl
 rw [e,RI.Nz]
def aM.of (y:fF):aM:=⟨RI.of y.a,RI.of y.b,RI.of y.c,RI.of y.d,RI.of y.n⟩
theorem aM.Ny (y:fF):(aM.of y).l6=true:=by simp [aM.l6,aM.of,RI.DQ]
theorem aM.Pb (y:fF):(aM.of y).i5=y:=by simp [aM.i5,aM.of,RI.Nz]
theorem aM.DQ (y:fF):(aM.of y).ok=y.ok:=by rw [aM.ok,aM.Ny,aM.Pb,Bool.true_and]
theorem aM.M6 {x:aM} (h:x.l6=true):x=aM.of x.i5:=by
 unfold aM.l6 at h
 simp only [Bool.and_eq_true] at h
 obtain ⟨c0,c1,c2,c3,d⟩:=x
 simp only [aM.i5,aM.of,aM.mk.injEq]
 exact ⟨RI.qi h.1.1.1.1,RI.qi h.1.1.1.2,RI.qi h.1.1.2,RI.qi h.1.2,RI.qi h.2⟩
theorem aM.II {y:fF} (h:(aM.of y).small):y.small:=by
 have k:=fun r hr=>h r hr
 simp only [aM.dG,aM.of,List.mem_cons,List.not_mem_nil,or_false] at k
 exact ⟨⟨k _ (.inl rfl),k _ (.inr (.inl rfl))⟩,⟨k _ (.inr (.inr (.inl rfl))),k _ (.inr (.inr (.inr (.inl rfl))))⟩,k _ (.inr (.inr (.inr (.inr rfl))))⟩
theorem r6 (x:aM) (h:x.small):aA P0 43 [.ag x.cells] (one (bv x.ok)):=by
 cases hi:x.l6 with
 |true=>
  have e:=aM.M6 hi
  generalize x.i5=y at e
  subst e
  rw [aM.DQ]
  exact E5 y (aM.II h)
 |false=>
  have e:x.ok=false:=by rw [aM.ok,hi,Bool.false_and]
  rw [e]
  exact Dt _ _ _ _ _ _ _ _ _ _ hi
theorem RI.bG {a b:RI} (e:a.cells=b.cells):a=b:=by
 obtain ⟨g,s⟩:=a;obtain ⟨g',s'⟩:=b
 simp only [RI.cells,List.cons.injEq,and_true] at e
 rw [Ez e.1,wA e.2]
theorem aM.bG {a b:aM} (e:a.cells=b.cells):a=b:=by
 obtain ⟨a0,a1,a2,a3,a4⟩:=a;obtain ⟨b0,b1,b2,b3,b4⟩:=b
 have l:∀r:RI,r.cells.length=2:=fun _=>rfl
 unfold aM.cells at e
 have k1:=List.append_inj e (by simp [l])
 have k2:=List.append_inj k1.1 (by simp [l])
 have k3:=List.append_inj k2.1 (by simp [l])
 have k4:=List.append_inj k3.1 (by simp [l])
 rw [aM.mk.injEq]
 exact ⟨RI.bG k4.1,RI.bG k4.2,RI.bG k3.2,RI.bG k2.2,RI.bG k1.2⟩
theorem D5 (x:aM):Cz [.ag x.cells]=some (one (.an [.ag ((gZ x.dG x.kQ).map iv),bv (decide (x.kQ=5))])):=
 bl (enc:=fun x:aM=>[.ag x.cells]) (fun a b e=>by
  simp only [List.cons.injEq,and_true,PV.ag.injEq] at e
  rw [aM.bG e]) trivial
theorem Kk {l m:List Int} (h:l.map iv=m.map iv):l=m:=(List.map_inj_right (fun _ _ e=>di e)).1 h
theorem Gl {l:List Int} (h:l.length=5) (hb:∀x∈l,x.natAbs<2^24):Gk [.ag (l.map iv)]=some (one (iv (gI l:Nat))):=
 bl (enc:=fun l:List Int=>[.ag (l.map iv)]) (fun a b e=>by
  simp only [List.cons.injEq,and_true,PV.ag.injEq] at e
  rw [Kk e]) ⟨h,hb⟩
theorem KA (r:RI):DM [.ag r.cells]=some (one (uq r.g r.s)):=
 bl (enc:=fun r:RI=>[.ag r.cells]) (fun a b e=>by
  simp only [List.cons.injEq,and_true,PV.ag.injEq] at e
  rw [RI.bG e]) trivial
theorem jV {r:RI} (h:r.ok=true):DM [.ag r.cells]=some (one (.ag r.neg.cells)):=by
 have:=KA r
 unfold uq at this
 rw [if_pos (show cL r.g r.s=true from h)] at this
 exact this
theorem jv {x:aM} (h:x.small):As [.ag x.cells]=some (one (bv x.ok)):=
 bl (enc:=fun x:aM=>[.ag x.cells]) (fun a b e=>by
  simp only [List.cons.injEq,and_true,PV.ag.injEq] at e
  rw [aM.bG e]) h
theorem kK:aP MD.P t27:=aO
 (au (aE fun x _=>GB x)
 (au (aE fun l h=>Iu l h.1 h.2)
 (au (aE fun x _=>jX x.1 x.2)
 (au (aE fun x h=>KQ x.1 x.2 h.1 h.2)
 (au (aE fun x _=>Iy x.1 x.2)
 (au (aE fun n h=>AT n h.1 h.2) aL))))))
theorem I6 (y:fF):gI [y.a,y.b,y.c,y.d,y.n]=y.gcd:=by
 simp only [gI,List.foldl,fF.gcd,Nat.gcd_zero_left]
 rw [Nat.gcd_comm _ y.n.natAbs,←Nat.gcd_assoc,←Nat.gcd_assoc,←Nat.gcd_assoc]
theorem RI.TE {r:RI} (h:r.sh=true):r.z.natAbs<2^24:=by
 have h1:=RI.C7 (RI.xw h).1
 unfold RI.z
 split<;>omega
theorem Hi {α:Type} {p:α→Bool}:∀(l:List α),(l.takeWhile p).length=l.length→∀x∈l,p x=true
 |[],_,x,h=>by simp at h
 |a::l,e,x,h=>by
  cases hp:p a with
  |false=>rw [List.takeWhile_cons,hp] at e;simp at e
  |true=>
   rw [List.takeWhile_cons,hp] at e
   rcases List.mem_cons.1 h with rfl|h
   · exact hp
   · exact Hi l (by simpa using e) x h
theorem Ka (n:Nat):RI.dR (RI.of (n:Int)) (RI.of 1)=decide (n=1):=by
 have e:RI.dR (RI.of (n:Int)) (RI.of 1)=(aH n==aH 1):=by
  unfold RI.dR RI.of
  simp only [Int.natAbs_natCast]
  rw [decide_eq_false (show ¬(n:Int)<0 by omega)];rfl
 rw [e,Ao]
theorem qm (x:aM) (h:x.small):aA P0 39 [.ag x.cells] (one (bv x.ok)):=by
 have hw:=D5 x
 by_cases h5:x.kQ=5
 · have hall:=Hi (p:=RI.sh) x.dG h5
   have hm:∀r∈x.dG,r.ok=true:=fun r hr=>(RI.xw (hall r hr)).2
   have hz:∀r∈x.dG,r.z.natAbs<2^24:=fun r hr=>RI.TE (hall r hr)
   have hi:x.l6=true:=by
    simp only [aM.l6,Bool.and_eq_true]
    exact ⟨⟨⟨⟨hm _ (by simp [aM.dG]),hm _ (by simp [aM.dG])⟩,hm _ (by simp [aM.dG])⟩,hm _ (by simp [aM.dG])⟩,hm _ (by simp [aM.dG])⟩
   have el:gZ x.dG x.kQ=[x.c0.z,x.c1.z,x.c2.z,x.c3.z,x.d.z]:=by rw [h5];rfl
   rw [el,h5] at hw
   have hg:=Gl (l:=[x.c0.z,x.c1.z,x.c2.z,x.c3.z,x.d.z]) rfl (fun z dx=>by
    have:z∈x.dG.map RI.z:=dx
    obtain ⟨r,hr,rfl⟩:=List.mem_map.1 this
    exact hz r hr)
   have e1:gI [x.c0.z,x.c1.z,x.c2.z,x.c3.z,x.d.z]=x.i5.gcd:=I6 x.i5
   rw [e1] at hg
   have LC:x.ok=(decide (0<x.d.z)&&decide (x.i5.gcd=1)):=by rw [aM.ok,hi,Bool.true_and];rfl
   rw [LC]
   by_cases hd:0<x.d.z
   · rw [decide_eq_true hd,Bool.true_and]
     refine ai ah kK (by rfl) (Zc 1 x _ _ _ _ _ (x.i5.gcd:Nat) (decide (x.i5.gcd=1))) ⟨hw,decide_eq_true hd,hg, ?_,trivial⟩
     by_cases e:x.i5.gcd=1
     · rw [e];rfl
     · rw [decide_eq_false e];exact beq_false_of_ne (by omega)
   · rw [decide_eq_false hd,Bool.false_and]
     exact ai ah kK (by rfl) (Zb 1 x _ _ _ _ _) ⟨hw,decide_eq_false hd,trivial⟩
 · rw [decide_eq_false h5] at hw
   obtain ⟨l0,l1,l2,l3,l4,hl⟩:=vn (sR (rl:=x.dG) rfl (i:=x.kQ) (Ei x.dG))
   rw [hl] at hw
   have sz:=fun r hr=>h r hr
   simp only [aM.dG,List.mem_cons,List.not_mem_nil,or_false] at sz
   have z0:=sz x.c0 (.inl rfl)
   have z1:=sz x.c1 (.inr (.inl rfl))
   have z2:=sz x.c2 (.inr (.inr (.inl rfl)))
   have z3:=sz x.c3 (.inr (.inr (.inr (.inl rfl))))
   have zd:=sz x.d (.inr (.inr (.inr (.inr rfl))))
   clear hl h5 h sz
   have vt:∀r:RI,gV [.ag r.cells]=some (one (bv r.ok)):=fun r=>cO r.g r.s
   have v0:=vt x.c0
   have v1:=vt x.c1
   have v2:=vt x.c2
   have v3:=vt x.c3
   have vd:=vt x.d
   have bad:∀{b:Bool},x.l6=false→x.ok=false:=fun e=>by rw [aM.ok,e,Bool.false_and]
   have gz:∀{g:Nat} {r:RI},r.ok=true→r.s.size<2^30→(aH g).size<2^30→Du [.ag (RI.of (g:Int)).cells, .ag r.cells]=some (one (.ag (RI.of ((Nat.gcd g r.z.natAbs:Nat):Int)).cells))∧(aH (Nat.gcd g r.z.natAbs)).size<2^30:=by
    intro g r hr hs hg
    have e:=RI.qi hr
    have hs':(aH r.z.natAbs).size<2^30:=by rw [e] at hs;exact hs
    have:=oP (a:=(g:Int)) (b:=r.z) (by simpa using hg) hs'
    simp only [Int.natAbs_natCast] at this
    refine ⟨?_,pZ hg hs'⟩
    conv=>lhs;rw [e]
    exact this
   cases h0:x.c0.ok with
   |false=>
    rw [bad (b:=true) (by simp [aM.l6,h0])]
    rw [h0] at v0
    exact ai ah kK (by rfl) (Zd 5 x _ _ _ _ _) ⟨hw,by omega,rfl,v0,trivial⟩
   |true=>
    rw [h0] at v0
    obtain ⟨g0,s0⟩:=gz (g:=0) h0 z0 (by decide)
    cases h1:x.c1.ok with
    |false=>
     rw [bad (b:=true) (by simp [aM.l6,h1])]
     rw [h1] at v1
     exact ai ah kK (by rfl) (Ze 5 x _ _ _ _ _ _) ⟨hw,by omega,rfl,v0,g0,rfl,v1,trivial⟩
    |true=>
     rw [h1] at v1
     obtain ⟨g1,s1⟩:=gz h1 z1 s0
     cases h2:x.c2.ok with
     |false=>
      rw [bad (b:=true) (by simp [aM.l6,h2])]
      rw [h2] at v2
      exact ai ah kK (by rfl) (Zf 5 x _ _ _ _ _ _ _) ⟨hw,by omega,rfl,v0,g0,rfl,v1,g1,rfl,v2,trivial⟩
     |true=>
      rw [h2] at v2
      obtain ⟨g2,s2⟩:=gz h2 z2 s1
      cases h3:x.c3.ok with
      |false=>
       rw [bad (b:=true) (by simp [aM.l6,h3])]
       rw [h3] at v3
       exact ai ah kK (by rfl) (Zg 5 x _ _ _ _ _ _ _ _) ⟨hw,by omega,rfl,v0,g0,rfl,v1,g1,rfl,v2,g2,rfl,v3,trivial⟩
      |true=>
       rw [h3] at v3
       obtain ⟨g3,s3⟩:=gz h3 z3 s2
       cases h4:x.d.ok with
       |false=>
        rw [bad (b:=true) (by simp [aM.l6,h4])]
        rw [h4] at vd
        exact ai ah kK (by rfl) (Zh 5 x _ _ _ _ _ _ _ _ _) ⟨hw,by omega,rfl,v0,g0,rfl,v1,g1,rfl,v2,g2,rfl,v3,g3,rfl,vd,trivial⟩
       |true=>
        rw [h4] at vd
        obtain ⟨g4,_⟩:=gz h4 zd s3
        have hi:x.l6=true:=by simp [aM.l6,h0,h1,h2,h3,h4]
        have LC:x.ok=(decide (0<x.d.z)&&decide (x.i5.gcd=1)):=by rw [aM.ok,hi,Bool.true_and];rfl
        have sg:D8 [.ag x.d.cells]=some (one (iv (if x.d.z<0 then -1 else if x.d.z=0 then 0 else 1))):=by
         have:=CI x.d.g x.d.s
         have e:=RI.qi h4
         have e2:oB x.d.g x.d.s=oB (decide (x.d.z<0)) (aH x.d.z.natAbs):=by
          conv=>lhs;rw [e]
          rfl
         rw [e2,GD] at this
         exact this
        rw [LC]
        by_cases hd:0<x.d.z
        · rw [decide_eq_true hd,Bool.true_and]
          rw [if_neg (by omega),if_neg (by omega)] at sg
          have e1:Nat.gcd (Nat.gcd (Nat.gcd (Nat.gcd (Nat.gcd 0 x.c0.z.natAbs) x.c1.z.natAbs) x.c2.z.natAbs) x.c3.z.natAbs) x.d.z.natAbs=x.i5.gcd:=I6 x.i5
          rw [e1] at g4
          have hq:=J9 (m:=51) (n:=52) (Ka x.i5.gcd)
          exact ai ah kK (by rfl) (Zj 5 x _ _ _ _ _ 1 _ _ _ _ _ (RI.of 1) _) ⟨hw,by omega,rfl,v0,g0,rfl,v1,g1,rfl,v2,g2,rfl,v3,g3,rfl,vd,sg,rfl,g4,tc (by decide) (by decide),hq,trivial⟩
        · rw [decide_eq_false hd,Bool.false_and]
          exact ai ah kK (by rfl) (Zi 5 x _ _ _ _ _ _ _ _ _ _) ⟨hw,by omega,rfl,v0,g0,rfl,v1,g1,rfl,v2,g2,rfl,v3,g3,rfl,vd,sg,by split<;>first|rfl|(split<;>first|rfl|omega),trivial⟩
theorem G6:aP MD.P t28:=aO (au (aE fun x h=>r6 x h) (au (aE fun r _=>Ns r.g r.s) aL))
theorem G7:aP MD.P t29:=aO (au (aE fun x h=>qm x h) (au (aE fun r _=>KR r.g r.s) aL))
theorem aM.nG {x:aM} (h:x.ok=true):x.c0.ok=true∧x.c1.ok=true∧x.c2.ok=true∧x.c3.ok=true∧x.d.ok=true:=by
 unfold aM.ok aM.l6 at h
 simp only [Bool.and_eq_true] at h
 exact ⟨h.1.1.1.1.1,h.1.1.1.1.2,h.1.1.1.2,h.1.1.2,h.1.2⟩
theorem KF (x:aM) (h:x.small):aA P0 37 [.ag x.cells] (one (.ag x.neg.cells)):=by
 have hv:=jv h
 unfold aM.neg
 cases e:x.ok with
 |false=>rw [e] at hv;exact ai ah G6 (by rfl) (XM 5 x) ⟨hv,trivial⟩
 |true=>
  rw [e] at hv
  obtain ⟨k0,k1,k2,k3,_⟩:=aM.nG e
  exact ai ah G6 (by rfl) (XN 5 x _ _ _ _) ⟨hv,by omega,rfl,jV k0,rfl,jV k1,rfl,jV k2,rfl,jV k3,rfl,trivial⟩
theorem It (x:aM) (h:x.small):aA P0 38 [.ag x.cells] (one (.ag x.neg.cells)):=by
 have hv:=jv h
 unfold aM.neg
 cases e:x.ok with
 |false=>rw [e] at hv;exact ai ah G7 (by rfl) (XO 5 x) ⟨hv,trivial⟩
 |true=>
  rw [e] at hv
  obtain ⟨k0,k1,k2,k3,_⟩:=aM.nG e
  exact ai ah G7 (by rfl) (XP 5 x _ _ _ _) ⟨hv,by omega,rfl,jV k0,rfl,jV k1,rfl,jV k2,rfl,jV k3,rfl,trivial⟩
end Go.Proofs.YtibbgjafjhcemaaDoor.Cul
namespace Go.Proofs.YtibbgjafjhcemaaDoor.Cul
open Go Go.RowKit
theorem Ex:IY MD 40 8 []=some ⟨.lit (.bool true),none⟩:=by kernel_rfl
theorem tY:aA P0 8 [] ⟨.lit (.bool true),none⟩:=Hr ah 40 8 [] _ Ex
end Go.Proofs.YtibbgjafjhcemaaDoor.Cul
namespace Go.Proofs.YtibbgjafjhcemaaDoor.Cul
open Go Go.RowKit
def Rl:Cl:=bQ [(8,GR (bv true)),(9,oC fun i o=>(o - i)%24),(10,oC fun i o=>(o - i)%24),(11,oC fun i o=>(i+o)%24),(12,oC fun i o=>(i+o)%24),(13,sk (· %24))]
def tM:Cl:=bQ [(30,sk (· %24))]
def Oy:Cl:=bQ [(13,sk (· %24))]
theorem OC (x:Int):ay MD (bQ []) 5 30 [iv x] [.c true]=
 some (RV.mk (PV.lit (Value.int IntKind.i64 (IntKind.i64.wrap (x.tmod 24+24)))) none,[false=false,decide (x.tmod 24<0)=true]):=by kernel_rfl
theorem OD (x:Int):ay MD (bQ []) 5 30 [iv x] [.c false]=
 some (RV.mk (PV.lit (Value.int IntKind.i64 (x.tmod 24))) none,[false=false,decide (x.tmod 24<0)=false]):=by kernel_rfl
theorem Pz (x:Int):ay MD (bQ []) 5 13 [iv x] []=
 some (RV.mk (PV.lit (Value.int IntKind.i64 ((IntKind.i64.wrap (x.tmod 24+24)).tmod 24))) none,[false=false,false=false]):=by kernel_rfl
theorem Ud (x y:Int):ay MD tM 5 9 [iv x,iv y] [.r (one (iv (y%24))), .r (one (iv (x%24))), .r (one (iv ((y - x)%24)))]=
 some (RV.mk (PV.lit (Value.int IntKind.i64 ((y - x)%24))) none,[some (RV.mk (PV.lit (Value.int IntKind.i64 (y%24))) none)=some (RV.mk (PV.lit (Value.int IntKind.i64 (y%24))) none),some (RV.mk (PV.lit (Value.int IntKind.i64 (x%24))) none)=some (RV.mk (PV.lit (Value.int IntKind.i64 (x%24))) none),some (RV.mk (PV.lit (Value.int IntKind.i64 (IntKind.i64.wrap (y%24 - x%24)%24))) none)=some (RV.mk (PV.lit (Value.int IntKind.i64 ((y - x)%24))) none)]):=by kernel_rfl
theorem Px (x y:Int):ay MD tM 5 11 [iv x,iv y] [.r (one (iv (x%24))), .r (one (iv (y%24))), .r (one (iv ((x+y)%24)))]=
 some (RV.mk (PV.lit (Value.int IntKind.i64 ((x+y)%24))) none,[some (RV.mk (PV.lit (Value.int IntKind.i64 (x%24))) none)=some (RV.mk (PV.lit (Value.int IntKind.i64 (x%24))) none),some (RV.mk (PV.lit (Value.int IntKind.i64 (y%24))) none)=some (RV.mk (PV.lit (Value.int IntKind.i64 (y%24))) none),some (RV.mk (PV.lit (Value.int IntKind.i64 (IntKind.i64.wrap (x%24+y%24)%24))) none)=some (RV.mk (PV.lit (Value.int IntKind.i64 ((x+y)%24))) none)]):=by kernel_rfl
theorem Pw (x y:Int):ay MD Oy 5 10 [iv x,iv y] [.r (one (iv (y%24))), .r (one (iv (x%24))), .r (one (iv ((y - x)%24)))]=
 some (RV.mk (PV.lit (Value.int IntKind.i64 ((y - x)%24))) none,[some (RV.mk (PV.lit (Value.int IntKind.i64 (y%24))) none)=some (RV.mk (PV.lit (Value.int IntKind.i64 (y%24))) none),some (RV.mk (PV.lit (Value.int IntKind.i64 (x%24))) none)=some (RV.mk (PV.lit (Value.int IntKind.i64 (x%24))) none),some (RV.mk (PV.lit (Value.int IntKind.i64 (IntKind.i64.wrap (y%24 - x%24)%24))) none)=some (RV.mk (PV.lit (Value.int IntKind.i64 ((y - x)%24))) none)]):=by kernel_rfl
theorem Py (x y:Int):ay MD Oy 5 12 [iv x,iv y] [.r (one (iv (x%24))), .r (one (iv (y%24))), .r (one (iv ((x+y)%24)))]=
 some (RV.mk (PV.lit (Value.int IntKind.i64 ((x+y)%24))) none,[some (RV.mk (PV.lit (Value.int IntKind.i64 (x%24))) none)=some (RV.mk (PV.lit (Value.int IntKind.i64 (x%24))) none),some (RV.mk (PV.lit (Value.int IntKind.i64 (y%24))) none)=some (RV.mk (PV.lit (Value.int IntKind.i64 (y%24))) none),some (RV.mk (PV.lit (Value.int IntKind.i64 (IntKind.i64.wrap (x%24+y%24)%24))) none)=some (RV.mk (PV.lit (Value.int IntKind.i64 ((x+y)%24))) none)]):=by kernel_rfl
theorem Uc (x y:Int):ay MD Rl 5 3 [iv x,iv y] [.r (one (bv true)), .r (one (iv ((y - x)%24))), .r (one (iv ((y - x)%24))), .c true, .r (one (iv ((x+y)%24))), .r (one (iv ((x+y)%24))), .c true, .c true, .c true, .r (one (iv (x%24))), .r (one (iv (x%24))), .c true, .r (one (iv (y%24))), .r (one (iv (y%24))), .c true]=
 some (RV.mk (PV.lit (Value.bool true)) none,[some (RV.mk (PV.lit (Value.bool true)) none)=some (RV.mk (PV.lit (Value.bool true)) none),some (RV.mk (PV.lit (Value.int IntKind.i64 ((y - x)%24))) none)=some (RV.mk (PV.lit (Value.int IntKind.i64 ((y - x)%24))) none),some (RV.mk (PV.lit (Value.int IntKind.i64 ((y - x)%24))) none)=some (RV.mk (PV.lit (Value.int IntKind.i64 ((y - x)%24))) none),((y - x)%24==(y - x)%24)=true,some (RV.mk (PV.lit (Value.int IntKind.i64 ((x+y)%24))) none)=some (RV.mk (PV.lit (Value.int IntKind.i64 ((x+y)%24))) none),some (RV.mk (PV.lit (Value.int IntKind.i64 ((x+y)%24))) none)=some (RV.mk (PV.lit (Value.int IntKind.i64 ((x+y)%24))) none),((x+y)%24==(x+y)%24)=true,decide ((y - x)%24≥0)=true,decide ((y - x)%24<24)=true,some (RV.mk (PV.lit (Value.int IntKind.i64 ((y - (y - x)%24)%24))) none)=some (RV.mk (PV.lit (Value.int IntKind.i64 (x%24))) none),some (RV.mk (PV.lit (Value.int IntKind.i64 (x%24))) none)=some (RV.mk (PV.lit (Value.int IntKind.i64 (x%24))) none),(x%24==x%24)=true,some (RV.mk (PV.lit (Value.int IntKind.i64 ((x+(y - x)%24)%24))) none)=some (RV.mk (PV.lit (Value.int IntKind.i64 (y%24))) none),some (RV.mk (PV.lit (Value.int IntKind.i64 (y%24))) none)=some (RV.mk (PV.lit (Value.int IntKind.i64 (y%24))) none),(y%24==y%24)=true]):=by kernel_rfl
theorem wrap_small {n:Int} (h1: -(2^63)≤n) (h2:n<2^63):IntKind.i64.wrap n=n:=by
 unfold IntKind.wrap IntKind.bits IntKind.signed
 simp only
 have e1:(2:Int)^64=18446744073709551616:=by decide
 have e2:(2:Int)^(64 - 1)=9223372036854775808:=by decide
 rw [e1,e2]
 split
 · rename_i h;simp only [Bool.true_and,decide_eq_true_eq] at h;omega
 · rename_i h;simp only [Bool.true_and,decide_eq_true_eq] at h;omega
theorem pH (x:Int):x.tmod 24=if x%24≠0∧x<0 then x%24 - 24 else x%24:=by
 have:=Int.tmod_eq_emod (a:=x) (b:=24)
 rw [this]
 have hd:(24:Int)∣x↔x%24=0:=Int.dvd_iff_emod_eq_zero
 simp only [hd]
 by_cases h:0≤x
 · simp [h,show ¬x<0 by omega]
 · by_cases h2:x%24=0
   · simp [h2]
   · simp [h,h2,show x<0 by omega]
theorem FV (x:Int):aA P0 30 [iv x] (one (iv (x%24))):=by
 by_cases h:x.tmod 24<0
 · have:=ai ah (aO aL) (by rfl) (OC x) ⟨rfl,by simpa using h,trivial⟩
   have e:IntKind.i64.wrap (x.tmod 24+24)=x%24:=by
    rw [wrap_small]<;>rw [pH] at* <;>split at* <;>omega
   rw [e] at this;exact this
 · have:=ai ah (aO aL) (by rfl) (OD x) ⟨rfl,by simpa using h,trivial⟩
   have e:x.tmod 24=x%24:=by rw [pH] at *;split at* <;>omega
   rw [e] at this;exact this
theorem n9 (x:Int):aA P0 13 [iv x] (one (iv (x%24))):=by
 have:=ai ah (aO aL) (by rfl) (Pz x) ⟨rfl,rfl,trivial⟩
 have e:(IntKind.i64.wrap (x.tmod 24+24)).tmod 24=x%24:=by
  rw [wrap_small]
  · rw [pH (x.tmod 24+24)];rw [pH];split<;>split<;>omega
  · rw [pH];split<;>omega
  · rw [pH];split<;>omega
 rw [e] at this;exact this
theorem JO:aP P0 tM:=aO (au (mW FV) aL)
theorem G8:aP P0 Oy:=aO (au (mW n9) aL)
theorem w1 (x y:Int):IntKind.i64.wrap (y%24 - x%24)%24=(y - x)%24:=by rw [wrap_small]<;>omega
theorem w2 (x y:Int):IntKind.i64.wrap (x%24+y%24)%24=(x+y)%24:=by rw [wrap_small]<;>omega
theorem qb (x y:Int):aA P0 9 [iv x,iv y] (one (iv ((y - x)%24))):=ai ah JO (by rfl) (Ud x y) ⟨rfl,rfl,by rw [w1],trivial⟩
theorem xZ (x y:Int):aA P0 11 [iv x,iv y] (one (iv ((x+y)%24))):=ai ah JO (by rfl) (Px x y) ⟨rfl,rfl,by rw [w2],trivial⟩
theorem tK (x y:Int):aA P0 10 [iv x,iv y] (one (iv ((y - x)%24))):=ai ah G8 (by rfl) (Pw x y) ⟨rfl,rfl,by rw [w1],trivial⟩
theorem r7 (x y:Int):aA P0 12 [iv x,iv y] (one (iv ((x+y)%24))):=ai ah G8 (by rfl) (Py x y) ⟨rfl,rfl,by rw [w2],trivial⟩
theorem Oz:aP P0 Rl:=aO (au (A5 tY) (au (iy qb) (au (iy tK) (au (iy xZ) (au (iy r7) (au (mW n9) aL))))))
theorem Km (x y:Int):aA P0 3 [iv x,iv y] (one (bv true)):=by
 refine ai ah Oz (by rfl) (Uc x y) ⟨rfl,rfl,rfl,by simp,rfl,rfl,by simp, ?_, ?_, ?_,rfl,by simp, ?_,rfl,by simp,trivial⟩
 · simp only [ge_iff_le,decide_eq_true_eq];omega
 · simp only [decide_eq_true_eq];omega
 · rw [show (y - (y - x)%24)%24=x%24 by omega]
 · rw [show (x+(y - x)%24)%24=y%24 by omega]
end Go.Proofs.YtibbgjafjhcemaaDoor.Cul
namespace Go.Proofs.YtibbgjafjhcemaaDoor.Cul
open Go Go.RowKit
def aM.jx (n:Int):aM:=⟨RI.of n, .zero, .zero, .zero,RI.of 1⟩
def bF.jx (x y z:Int):bF:=⟨aM.jx x,aM.jx y,aM.jx z⟩
def bF.ok (v:bF):Bool:=(v.x.ok&&v.y.ok)&&v.z.ok
def bF.vj (v:bF):Bool:=v.dR (bF.jx 0 0 0)
def bU.ok (p:bU):Bool:=(p.n.ok&& !p.n.vj)&&p.d.ok
def bF.over (v:bF):bF:=if v.ok then ⟨v.x,v.y.neg,v.z.neg⟩ else .zero
def bU.over (p:bU):bU×Int:=if p.ok then (⟨p.n.over,p.d⟩,0) else (.zero,1)
def aj.ok (s:aj):Bool:=decide ((0≤s.h∧s.h≤1000)∧(-1000≤s.v∧s.v≤1000)∧Nat.gcd s.h.natAbs s.v.natAbs=1)&&decide ((0≤s.i∧s.i<24)∧(s.h≠0∨s.i=0))
def aj.over (s:aj):aj×Int:=if s.ok then (⟨s.h, -s.v,(-s.i)%24⟩,0) else (.zero,1)
def aM.raw (x:aM) (n:Int):Bool:=decide ((x.c0.s.size:Int)≤n)&&(decide ((x.c1.s.size:Int)≤n)&&(decide ((x.c2.s.size:Int)≤n)&&(decide ((x.c3.s.size:Int)≤n)&&decide ((x.d.s.size:Int)≤n))))
def bF.raw (v:bF) (n:Int):Bool:=(v.x.raw n&&v.y.raw n)&&v.z.raw n
def bU.raw (p:bU) (n:Int):Bool:=p.n.raw n&&p.d.raw n
def bF.small (v:bF):Prop:=v.x.small∧v.y.small∧v.z.small
def bU.small (p:bU):Prop:=p.n.small∧p.d.small
noncomputable def H7:List PV→Option RV:=cu (fun n:Int=> -(2^63)≤n∧n<2^63) (fun n=>[iv n]) (fun n=>one (.ag (aM.jx n).cells))
noncomputable def IQ:List PV→Option RV:=cu (fun x:Int×Int×Int=>(-(2^63)≤x.1∧x.1<2^63)∧(-(2^63)≤x.2.1∧x.2.1<2^63)∧(-(2^63)≤x.2.2∧x.2.2<2^63)) (fun x=>[iv x.1,iv x.2.1,iv x.2.2]) (fun x=>one (.ag (bF.jx x.1 x.2.1 x.2.2).cells))
noncomputable def Nt:List PV→Option RV:=cu aM.small (fun x=>[.ag x.cells]) (fun x=>one (.ag x.neg.cells))
noncomputable def Ar:List PV→Option RV:=cu (fun _:bF=>True) (fun v=>[.ag v.cells]) (fun v=>one (.fn 70 [.el v.cells]))
noncomputable def JY:List PV→Option RV:=cu bF.small (fun v=>[.ag v.cells]) (fun v=>one (bv v.ok))
noncomputable def OO:List PV→Option RV:=cu (fun _:bF=>True) (fun v=>[.ag v.cells]) (fun v=>one (bv v.vj))
noncomputable def NH:List PV→Option RV:=cu bU.small (fun p=>[.ag p.cells]) (fun p=>one (bv p.ok))
noncomputable def Hj:List PV→Option RV:=cu bF.small (fun v=>[.ag v.cells]) (fun v=>one (.ag v.over.cells))
noncomputable def NF:List PV→Option RV:=cu bU.small (fun p=>[.ag p.cells]) (fun p=>one (.an [.ag p.over.1.cells,iv p.over.2]))
noncomputable def On:List PV→Option RV:=cu (fun _:aj=>True) (fun s=>[.ag s.cells]) (fun s=>one (bv s.ok))
noncomputable def N9:List PV→Option RV:=cu (fun _:aj=>True) (fun s=>[.ag s.cells]) (fun s=>one (.an [.ag s.over.1.cells,iv s.over.2]))
noncomputable def LQ:List PV→Option RV:=cu (fun _:Nat×Nat=>True) (fun x=>[iv x.1,iv x.2]) (fun x=>one (iv (Nat.gcd x.1 x.2:Nat)))
noncomputable def Nu:List PV→Option RV:=cu (fun _:aM×Int=>True) (fun x=>[.ag x.1.cells,iv x.2]) (fun x=>one (bv (x.1.raw x.2)))
noncomputable def OM:List PV→Option RV:=cu (fun _:bF×Int=>True) (fun x=>[.ag x.1.cells,iv x.2]) (fun x=>one (bv (x.1.raw x.2)))
noncomputable def Q8:List PV→Option RV:=cu (fun _:bU×Int=>True) (fun x=>[.ag x.1.cells,iv x.2]) (fun x=>one (bv (x.1.raw x.2)))
def UY:List PV→Option RV:=GR (bv true)
noncomputable def s1:Cl:=bQ [(66,Ic),(61,D0)]
noncomputable def s2:Cl:=bQ [(44,H7),(48,H7)]
noncomputable def s3:Cl:=bQ [(69,IQ),(29,IQ)]
noncomputable def s4:Cl:=bQ [(53,Ar),(43,As),(39,As)]
noncomputable def s5:Cl:=bQ [(36,JY),(22,JY),(49,OO),(50,OO),(43,As),(39,As),(37,Nt),(38,Nt)]
noncomputable def s6:Cl:=bQ [(32,NH),(33,NH),(20,Hj),(21,Hj)]
noncomputable def s7:Cl:=bQ [(51,LQ),(52,LQ)]
noncomputable def s8:Cl:=bQ [(34,On),(35,On),(30,sk (· %24)),(13,sk (· %24))]
noncomputable def s9:Cl:=bQ [(31,Nu)]
noncomputable def CA:Cl:=bQ [(31,Nu),(14,OM)]
noncomputable def jY:Cl:=bQ [(8,UY),(14,OM),(15,Q8),(16,NF),(17,NF),(18,N9),(19,N9),(20,Hj),(21,Hj),(22,JY)]
theorem XZ (k:Nat) (n:Int) (y o:RI):ay MD s1 k 44 [iv n] [.r (one (.ag y.cells)), .r (one (.ag o.cells))]=
 some (RV.mk (PV.ag [bv y.g,sv y.s,bv false,sv (ByteArray.mk #[]),bv false,sv (ByteArray.mk #[]),bv false,sv (ByteArray.mk #[]),bv o.g,sv o.s]) none,[aa s1 66 [iv n] (RV.mk (PV.ag y.cells) none),aa s1 66 [iv (1:Int)] (RV.mk (PV.ag o.cells) none)]):=by kernel_rfl
theorem X0 (k:Nat) (n:Int) (y o:RI):ay MD s1 k 48 [iv n] [.r (one (.ag y.cells)), .r (one (.ag o.cells))]=
 some (RV.mk (PV.ag [bv y.g,sv y.s,bv false,sv (ByteArray.mk #[]),bv false,sv (ByteArray.mk #[]),bv false,sv (ByteArray.mk #[]),bv o.g,sv o.s]) none,[aa s1 61 [iv n] (RV.mk (PV.ag y.cells) none),aa s1 61 [iv (1:Int)] (RV.mk (PV.ag o.cells) none)]):=by kernel_rfl
theorem X3 (k:Nat) (a b c:Int) (x y z:aM):ay MD s2 k 69 [iv a,iv b,iv c] [.r (one (.ag x.cells)), .r (one (.ag y.cells)), .r (one (.ag z.cells))]=
 some (RV.mk (PV.ag [bv x.c0.g,sv x.c0.s,bv x.c1.g,sv x.c1.s,bv x.c2.g,sv x.c2.s,bv x.c3.g,sv x.c3.s,bv x.d.g,sv x.d.s,bv y.c0.g,sv y.c0.s,bv y.c1.g,sv y.c1.s,bv y.c2.g,sv y.c2.s,bv y.c3.g,sv y.c3.s,bv y.d.g,sv y.d.s,bv z.c0.g,sv z.c0.s,bv z.c1.g,sv z.c1.s,bv z.c2.g,sv z.c2.s,bv z.c3.g,sv z.c3.s,bv z.d.g,sv z.d.s]) none,[aa s2 44 [iv a] (RV.mk (PV.ag x.cells) none),aa s2 44 [iv b] (RV.mk (PV.ag y.cells) none),aa s2 44 [iv c] (RV.mk (PV.ag z.cells) none)]):=by kernel_rfl
theorem X4 (k:Nat) (a b c:Int) (x y z:aM):ay MD s2 k 29 [iv a,iv b,iv c] [.r (one (.ag x.cells)), .r (one (.ag y.cells)), .r (one (.ag z.cells))]=
 some (RV.mk (PV.ag [bv x.c0.g,sv x.c0.s,bv x.c1.g,sv x.c1.s,bv x.c2.g,sv x.c2.s,bv x.c3.g,sv x.c3.s,bv x.d.g,sv x.d.s,bv y.c0.g,sv y.c0.s,bv y.c1.g,sv y.c1.s,bv y.c2.g,sv y.c2.s,bv y.c3.g,sv y.c3.s,bv y.d.g,sv y.d.s,bv z.c0.g,sv z.c0.s,bv z.c1.g,sv z.c1.s,bv z.c2.g,sv z.c2.s,bv z.c3.g,sv z.c3.s,bv z.d.g,sv z.d.s]) none,[aa s2 48 [iv a] (RV.mk (PV.ag x.cells) none),aa s2 48 [iv b] (RV.mk (PV.ag y.cells) none),aa s2 48 [iv c] (RV.mk (PV.ag z.cells) none)]):=by kernel_rfl
theorem X9 (k:Nat) (v w:bF) (b:Bool):ay MD s3 k 49 [.ag v.cells] [.r (one (.ag w.cells)), .g b]=
 some (RV.mk (bv b) none,[aa s3 69 [iv (0:Int),iv (0:Int),iv (0:Int)] (RV.mk (PV.ag w.cells) none),iJ MD.P BinOp.eql 32 (Operand.tmp (3:Nat)) (Operand.tmp (4:Nat)) (Value.agg v.vals.toArray) (Value.agg w.vals.toArray) b]):=by kernel_rfl
theorem Ya (k:Nat) (v w:bF) (b:Bool):ay MD s3 k 50 [.ag v.cells] [.r (one (.ag w.cells)), .g b]=
 some (RV.mk (bv b) none,[aa s3 29 [iv (0:Int),iv (0:Int),iv (0:Int)] (RV.mk (PV.ag w.cells) none),iJ MD.P BinOp.eql 32 (Operand.tmp (3:Nat)) (Operand.tmp (4:Nat)) (Value.agg v.vals.toArray) (Value.agg w.vals.toArray) b]):=by kernel_rfl
theorem XT (k:Nat) (v:bF):ay MD t0 k 53 [.ag v.cells] []=
 some (RV.mk (PV.fn 70 [PV.el v.cells]) none,[]):=by kernel_rfl
theorem Zk (k:Nat) (v:bF):ay MD s4 k 36 [.ag v.cells] [.r (one (.fn 70 [.el v.cells])), .r (one (bv false))]=
 some (RV.mk (bv false) none,[aa s4 53 [PV.ag v.cells] (RV.mk (PV.fn 70 [PV.el v.cells]) none),aa s4 43 [PV.ag v.x.cells] (RV.mk (bv false) none)]):=by kernel_rfl
theorem Zl (k:Nat) (v:bF):ay MD s4 k 36 [.ag v.cells] [.r (one (.fn 70 [.el v.cells])), .r (one (bv true)), .r (one (bv false))]=
 some (RV.mk (bv false) none,[aa s4 53 [PV.ag v.cells] (RV.mk (PV.fn 70 [PV.el v.cells]) none),aa s4 43 [PV.ag v.x.cells] (RV.mk (bv true) none),aa s4 43 [PV.ag v.y.cells] (RV.mk (bv false) none)]):=by kernel_rfl
theorem vec (k:Nat) (v:bF):ay MD s4 k 36 [.ag v.cells] [.r (one (.fn 70 [.el v.cells])), .r (one (bv true)), .r (one (bv true)), .r (one (bv false))]=
 some (RV.mk (bv false) none,[aa s4 53 [PV.ag v.cells] (RV.mk (PV.fn 70 [PV.el v.cells]) none),aa s4 43 [PV.ag v.x.cells] (RV.mk (bv true) none),aa s4 43 [PV.ag v.y.cells] (RV.mk (bv true) none),aa s4 43 [PV.ag v.z.cells] (RV.mk (bv false) none)]):=by kernel_rfl
theorem Zm (k:Nat) (v:bF):ay MD s4 k 36 [.ag v.cells] [.r (one (.fn 70 [.el v.cells])), .r (one (bv true)), .r (one (bv true)), .r (one (bv true))]=
 some (RV.mk (bv true) none,[aa s4 53 [PV.ag v.cells] (RV.mk (PV.fn 70 [PV.el v.cells]) none),aa s4 43 [PV.ag v.x.cells] (RV.mk (bv true) none),aa s4 43 [PV.ag v.y.cells] (RV.mk (bv true) none),aa s4 43 [PV.ag v.z.cells] (RV.mk (bv true) none)]):=by kernel_rfl
theorem Zn (k:Nat) (v:bF):ay MD s4 k 22 [.ag v.cells] [.r (one (bv false))]=
 some (RV.mk (bv false) none,[aa s4 39 [PV.ag v.x.cells] (RV.mk (bv false) none)]):=by kernel_rfl
theorem Zo (k:Nat) (v:bF):ay MD s4 k 22 [.ag v.cells] [.r (one (bv true)), .r (one (bv false))]=
 some (RV.mk (bv false) none,[aa s4 39 [PV.ag v.x.cells] (RV.mk (bv true) none),aa s4 39 [PV.ag v.y.cells] (RV.mk (bv false) none)]):=by kernel_rfl
theorem Zp (k:Nat) (v:bF) (b:Bool):ay MD s4 k 22 [.ag v.cells] [.r (one (bv true)), .r (one (bv true)), .r (one (bv b))]=
 some (RV.mk (bv b) none,[aa s4 39 [PV.ag v.x.cells] (RV.mk (bv true) none),aa s4 39 [PV.ag v.y.cells] (RV.mk (bv true) none),aa s4 39 [PV.ag v.z.cells] (RV.mk (bv b) none)]):=by kernel_rfl
theorem Tc (k:Nat) (p:bU):ay MD s5 k 32 [.ag p.cells] [.r (one (bv false))]=
 some (RV.mk (bv false) none,[aa s5 36 [PV.ag p.n.cells] (RV.mk (bv false) none)]):=by kernel_rfl
theorem Td (k:Nat) (p:bU):ay MD s5 k 32 [.ag p.cells] [.r (one (bv true)), .r (one (bv true))]=
 some (RV.mk (bv false) none,[aa s5 36 [PV.ag p.n.cells] (RV.mk (bv true) none),aa s5 49 [PV.ag p.n.cells] (RV.mk (bv true) none)]):=by kernel_rfl
theorem Te (k:Nat) (p:bU) (b:Bool):ay MD s5 k 32 [.ag p.cells] [.r (one (bv true)), .r (one (bv false)), .r (one (bv b))]=
 some (RV.mk (bv b) none,[aa s5 36 [PV.ag p.n.cells] (RV.mk (bv true) none),aa s5 49 [PV.ag p.n.cells] (RV.mk (bv false) none),aa s5 43 [PV.ag p.d.cells] (RV.mk (bv b) none)]):=by kernel_rfl
theorem Tf (k:Nat) (p:bU):ay MD s5 k 33 [.ag p.cells] [.r (one (bv false))]=
 some (RV.mk (bv false) none,[aa s5 22 [PV.ag p.n.cells] (RV.mk (bv false) none)]):=by kernel_rfl
theorem Tg (k:Nat) (p:bU):ay MD s5 k 33 [.ag p.cells] [.r (one (bv true)), .r (one (bv true))]=
 some (RV.mk (bv false) none,[aa s5 22 [PV.ag p.n.cells] (RV.mk (bv true) none),aa s5 50 [PV.ag p.n.cells] (RV.mk (bv true) none)]):=by kernel_rfl
theorem Th (k:Nat) (p:bU) (b:Bool):ay MD s5 k 33 [.ag p.cells] [.r (one (bv true)), .r (one (bv false)), .r (one (bv b))]=
 some (RV.mk (bv b) none,[aa s5 22 [PV.ag p.n.cells] (RV.mk (bv true) none),aa s5 50 [PV.ag p.n.cells] (RV.mk (bv false) none),aa s5 39 [PV.ag p.d.cells] (RV.mk (bv b) none)]):=by kernel_rfl
theorem S5 (k:Nat) (v:bF):ay MD s5 k 20 [.ag v.cells] [.r (one (bv false))]=
 some (RV.mk (PV.ag [bv false,sv (ByteArray.mk #[]),bv false,sv (ByteArray.mk #[]),bv false,sv (ByteArray.mk #[]),bv false,sv (ByteArray.mk #[]),bv false,sv (ByteArray.mk #[]),bv false,sv (ByteArray.mk #[]),bv false,sv (ByteArray.mk #[]),bv false,sv (ByteArray.mk #[]),bv false,sv (ByteArray.mk #[]),bv false,sv (ByteArray.mk #[]),bv false,sv (ByteArray.mk #[]),bv false,sv (ByteArray.mk #[]),bv false,sv (ByteArray.mk #[]),bv false,sv (ByteArray.mk #[]),bv false,sv (ByteArray.mk #[])]) none,[aa s5 36 [PV.ag v.cells] (RV.mk (bv false) none)]):=by kernel_rfl
theorem S6 (k:Nat) (v:bF) (y z:aM):ay MD s5 k 20 [.ag v.cells] [.r (one (bv true)), .r (one (.ag y.cells)), .r (one (.ag z.cells))]=
 some (RV.mk (PV.ag [bv v.x.c0.g,sv v.x.c0.s,bv v.x.c1.g,sv v.x.c1.s,bv v.x.c2.g,sv v.x.c2.s,bv v.x.c3.g,sv v.x.c3.s,bv v.x.d.g,sv v.x.d.s,bv y.c0.g,sv y.c0.s,bv y.c1.g,sv y.c1.s,bv y.c2.g,sv y.c2.s,bv y.c3.g,sv y.c3.s,bv y.d.g,sv y.d.s,bv z.c0.g,sv z.c0.s,bv z.c1.g,sv z.c1.s,bv z.c2.g,sv z.c2.s,bv z.c3.g,sv z.c3.s,bv z.d.g,sv z.d.s]) none,[aa s5 36 [PV.ag v.cells] (RV.mk (bv true) none),aa s5 37 [PV.ag v.y.cells] (RV.mk (PV.ag y.cells) none),aa s5 37 [PV.ag v.z.cells] (RV.mk (PV.ag z.cells) none)]):=by kernel_rfl
theorem S7 (k:Nat) (v:bF):ay MD s5 k 21 [.ag v.cells] [.r (one (bv false))]=
 some (RV.mk (PV.ag [bv false,sv (ByteArray.mk #[]),bv false,sv (ByteArray.mk #[]),bv false,sv (ByteArray.mk #[]),bv false,sv (ByteArray.mk #[]),bv false,sv (ByteArray.mk #[]),bv false,sv (ByteArray.mk #[]),bv false,sv (ByteArray.mk #[]),bv false,sv (ByteArray.mk #[]),bv false,sv (ByteArray.mk #[]),bv false,sv (ByteArray.mk #[]),bv false,sv (ByteArray.mk #[]),bv false,sv (ByteArray.mk #[]),bv false,sv (ByteArray.mk #[]),bv false,sv (ByteArray.mk #[]),bv false,sv (ByteArray.mk #[])]) none,[aa s5 22 [PV.ag v.cells] (RV.mk (bv false) none)]):=by kernel_rfl
theorem S8 (k:Nat) (v:bF) (y z:aM):ay MD s5 k 21 [.ag v.cells] [.r (one (bv true)), .r (one (.ag y.cells)), .r (one (.ag z.cells))]=
 some (RV.mk (PV.ag [bv v.x.c0.g,sv v.x.c0.s,bv v.x.c1.g,sv v.x.c1.s,bv v.x.c2.g,sv v.x.c2.s,bv v.x.c3.g,sv v.x.c3.s,bv v.x.d.g,sv v.x.d.s,bv y.c0.g,sv y.c0.s,bv y.c1.g,sv y.c1.s,bv y.c2.g,sv y.c2.s,bv y.c3.g,sv y.c3.s,bv y.d.g,sv y.d.s,bv z.c0.g,sv z.c0.s,bv z.c1.g,sv z.c1.s,bv z.c2.g,sv z.c2.s,bv z.c3.g,sv z.c3.s,bv z.d.g,sv z.d.s]) none,[aa s5 22 [PV.ag v.cells] (RV.mk (bv true) none),aa s5 38 [PV.ag v.y.cells] (RV.mk (PV.ag y.cells) none),aa s5 38 [PV.ag v.z.cells] (RV.mk (PV.ag z.cells) none)]):=by kernel_rfl
theorem SU (k:Nat) (p:bU):ay MD s6 k 16 [.ag p.cells] [.r (one (bv false))]=
 some (RV.mk (PV.an [PV.ag [bv false,sv (ByteArray.mk #[]),bv false,sv (ByteArray.mk #[]),bv false,sv (ByteArray.mk #[]),bv false,sv (ByteArray.mk #[]),bv false,sv (ByteArray.mk #[]),bv false,sv (ByteArray.mk #[]),bv false,sv (ByteArray.mk #[]),bv false,sv (ByteArray.mk #[]),bv false,sv (ByteArray.mk #[]),bv false,sv (ByteArray.mk #[]),bv false,sv (ByteArray.mk #[]),bv false,sv (ByteArray.mk #[]),bv false,sv (ByteArray.mk #[]),bv false,sv (ByteArray.mk #[]),bv false,sv (ByteArray.mk #[]),bv false,sv (ByteArray.mk #[]),bv false,sv (ByteArray.mk #[]),bv false,sv (ByteArray.mk #[]),bv false,sv (ByteArray.mk #[]),bv false,sv (ByteArray.mk #[])],iv (1:Int)]) none,[aa s6 32 [PV.ag p.cells] (RV.mk (bv false) none)]):=by kernel_rfl
theorem SV (k:Nat) (p:bU) (w:bF):ay MD s6 k 16 [.ag p.cells] [.r (one (bv true)), .r (one (.ag w.cells))]=
 some (RV.mk (PV.an [PV.ag [bv w.x.c0.g,sv w.x.c0.s,bv w.x.c1.g,sv w.x.c1.s,bv w.x.c2.g,sv w.x.c2.s,bv w.x.c3.g,sv w.x.c3.s,bv w.x.d.g,sv w.x.d.s,bv w.y.c0.g,sv w.y.c0.s,bv w.y.c1.g,sv w.y.c1.s,bv w.y.c2.g,sv w.y.c2.s,bv w.y.c3.g,sv w.y.c3.s,bv w.y.d.g,sv w.y.d.s,bv w.z.c0.g,sv w.z.c0.s,bv w.z.c1.g,sv w.z.c1.s,bv w.z.c2.g,sv w.z.c2.s,bv w.z.c3.g,sv w.z.c3.s,bv w.z.d.g,sv w.z.d.s,bv p.d.c0.g,sv p.d.c0.s,bv p.d.c1.g,sv p.d.c1.s,bv p.d.c2.g,sv p.d.c2.s,bv p.d.c3.g,sv p.d.c3.s,bv p.d.d.g,sv p.d.d.s],iv (0:Int)]) none,[aa s6 32 [PV.ag p.cells] (RV.mk (bv true) none),aa s6 20 [PV.ag p.n.cells] (RV.mk (PV.ag w.cells) none)]):=by kernel_rfl
theorem SX (k:Nat) (p:bU):ay MD s6 k 17 [.ag p.cells] [.r (one (bv false))]=
 some (RV.mk (PV.an [PV.ag [bv false,sv (ByteArray.mk #[]),bv false,sv (ByteArray.mk #[]),bv false,sv (ByteArray.mk #[]),bv false,sv (ByteArray.mk #[]),bv false,sv (ByteArray.mk #[]),bv false,sv (ByteArray.mk #[]),bv false,sv (ByteArray.mk #[]),bv false,sv (ByteArray.mk #[]),bv false,sv (ByteArray.mk #[]),bv false,sv (ByteArray.mk #[]),bv false,sv (ByteArray.mk #[]),bv false,sv (ByteArray.mk #[]),bv false,sv (ByteArray.mk #[]),bv false,sv (ByteArray.mk #[]),bv false,sv (ByteArray.mk #[]),bv false,sv (ByteArray.mk #[]),bv false,sv (ByteArray.mk #[]),bv false,sv (ByteArray.mk #[]),bv false,sv (ByteArray.mk #[]),bv false,sv (ByteArray.mk #[])],iv (1:Int)]) none,[aa s6 33 [PV.ag p.cells] (RV.mk (bv false) none)]):=by kernel_rfl
theorem SY (k:Nat) (p:bU) (w:bF):ay MD s6 k 17 [.ag p.cells] [.r (one (bv true)), .r (one (.ag w.cells))]=
 some (RV.mk (PV.an [PV.ag [bv w.x.c0.g,sv w.x.c0.s,bv w.x.c1.g,sv w.x.c1.s,bv w.x.c2.g,sv w.x.c2.s,bv w.x.c3.g,sv w.x.c3.s,bv w.x.d.g,sv w.x.d.s,bv w.y.c0.g,sv w.y.c0.s,bv w.y.c1.g,sv w.y.c1.s,bv w.y.c2.g,sv w.y.c2.s,bv w.y.c3.g,sv w.y.c3.s,bv w.y.d.g,sv w.y.d.s,bv w.z.c0.g,sv w.z.c0.s,bv w.z.c1.g,sv w.z.c1.s,bv w.z.c2.g,sv w.z.c2.s,bv w.z.c3.g,sv w.z.c3.s,bv w.z.d.g,sv w.z.d.s,bv p.d.c0.g,sv p.d.c0.s,bv p.d.c1.g,sv p.d.c1.s,bv p.d.c2.g,sv p.d.c2.s,bv p.d.c3.g,sv p.d.c3.s,bv p.d.d.g,sv p.d.d.s],iv (0:Int)]) none,[aa s6 33 [PV.ag p.cells] (RV.mk (bv true) none),aa s6 21 [PV.ag p.n.cells] (RV.mk (PV.ag w.cells) none)]):=by kernel_rfl
theorem RJ (k:Nat) (a b:Int):ak MD t0 k 51 0 ⟨[(0, .pv (iv a)),(1, .pv (iv b))],[],[],[]⟩ [.c false]=
 some ((Xt.exit 0,St.mk [(0,AV.pv (iv a)),(1,AV.pv (iv b)),(6,AV.pv (bv false))] [] [] []),[],[(b !=(0:Int))=false]):=by kernel_rfl
theorem RK (k:Nat) (a b r:Int):ak MD t0 k 51 0 ⟨[(0, .pv (iv a)),(1, .pv (iv b))],[],[],[]⟩ [.c true, .i 10 r]=
 some ((Xt.normal,St.mk [(0,AV.pv (iv b)),(1,AV.pv (iv r))] [] [] []),[],[(b !=(0:Int))=true,a.tmod b=r,decide (b=(0:Int))=false]):=by kernel_rfl
theorem RL (k:Nat) (a b g:Int):ay MD t0 k 51 [iv a,iv b] [.l (.exit 0) ⟨[(0, .pv (iv g)),(1, .pv (iv 0)),(6, .pv (bv false))],[],[],[]⟩]=
 some (RV.mk (iv g) none,[aN MD t0 k (51:Nat) (0:Nat) (St.mk [(0,AV.pv (iv a)),(1,AV.pv (iv b))] [] [] []) (Xt.exit 0) (St.mk [(0,AV.pv (iv g)),(1,AV.pv (iv (0:Int))),(6,AV.pv (bv false))] [] [] [])]):=by kernel_rfl
theorem RM (k:Nat) (a b:Int):ak MD t0 k 52 0 ⟨[(0, .pv (iv a)),(1, .pv (iv b))],[],[],[]⟩ [.c false]=
 some ((Xt.exit 0,St.mk [(0,AV.pv (iv a)),(1,AV.pv (iv b)),(6,AV.pv (bv false))] [] [] []),[],[(b !=(0:Int))=false]):=by kernel_rfl
theorem RN (k:Nat) (a b r:Int):ak MD t0 k 52 0 ⟨[(0, .pv (iv a)),(1, .pv (iv b))],[],[],[]⟩ [.c true, .i 10 r]=
 some ((Xt.normal,St.mk [(0,AV.pv (iv b)),(1,AV.pv (iv r))] [] [] []),[],[(b !=(0:Int))=true,a.tmod b=r,decide (b=(0:Int))=false]):=by kernel_rfl
theorem RO (k:Nat) (a b g:Int):ay MD t0 k 52 [iv a,iv b] [.l (.exit 0) ⟨[(0, .pv (iv g)),(1, .pv (iv 0)),(6, .pv (bv false))],[],[],[]⟩]=
 some (RV.mk (iv g) none,[aN MD t0 k (52:Nat) (0:Nat) (St.mk [(0,AV.pv (iv a)),(1,AV.pv (iv b))] [] [] []) (Xt.exit 0) (St.mk [(0,AV.pv (iv g)),(1,AV.pv (iv (0:Int))),(6,AV.pv (bv false))] [] [] [])]):=by kernel_rfl
theorem TK (k:Nat) (s:aj):ay MD s7 k 34 [.ag s.cells] [.c true]=
 some (RV.mk (bv false) none,[decide (s.h<(0:Int))=true]):=by kernel_rfl
theorem TL (k:Nat) (s:aj):ay MD s7 k 34 [.ag s.cells] [.c false, .c true]=
 some (RV.mk (bv false) none,[decide (s.h<(0:Int))=false,decide (s.h>(1000:Int))=true]):=by kernel_rfl
theorem TM (k:Nat) (s:aj):ay MD s7 k 34 [.ag s.cells] [.c false, .c false, .c true]=
 some (RV.mk (bv false) none,[decide (s.h<(0:Int))=false,decide (s.h>(1000:Int))=false,decide (s.v<(-1000:Int))=true]):=by kernel_rfl
theorem TN (k:Nat) (s:aj):ay MD s7 k 34 [.ag s.cells] [.c false, .c false, .c false, .c true]=
 some (RV.mk (bv false) none,[decide (s.h<(0:Int))=false,decide (s.h>(1000:Int))=false,decide (s.v<(-1000:Int))=false,decide (s.v>(1000:Int))=true]):=by kernel_rfl
theorem TO (k:Nat) (s:aj) (nv m g:Int):ay MD s7 k 34 [.ag s.cells] [.c false, .c false, .c false, .c false, .i 28 nv, .i 29 m, .r (one (iv g)), .c true]=
 some (RV.mk (bv false) none,[decide (s.h<(0:Int))=false,decide (s.h>(1000:Int))=false,decide (s.v<(-1000:Int))=false,decide (s.v>(1000:Int))=false,IntKind.i64.wrap ((0:Int) - s.v)=nv,(if nv>s.v then nv else s.v)=m,aa s7 51 [iv s.h,iv m] (RV.mk (iv g) none),(g !=(1:Int))=true]):=by kernel_rfl
theorem TP (k:Nat) (s:aj) (nv m g:Int):ay MD s7 k 34 [.ag s.cells] [.c false, .c false, .c false, .c false, .i 28 nv, .i 29 m, .r (one (iv g)), .c false, .c false]=
 some (RV.mk (bv false) none,[decide (s.h<(0:Int))=false,decide (s.h>(1000:Int))=false,decide (s.v<(-1000:Int))=false,decide (s.v>(1000:Int))=false,IntKind.i64.wrap ((0:Int) - s.v)=nv,(if nv>s.v then nv else s.v)=m,aa s7 51 [iv s.h,iv m] (RV.mk (iv g) none),(g !=(1:Int))=false,decide (s.i≥(0:Int))=false]):=by kernel_rfl
theorem TQ (k:Nat) (s:aj) (nv m g:Int):ay MD s7 k 34 [.ag s.cells] [.c false, .c false, .c false, .c false, .i 28 nv, .i 29 m, .r (one (iv g)), .c false, .c true, .c false]=
 some (RV.mk (bv false) none,[decide (s.h<(0:Int))=false,decide (s.h>(1000:Int))=false,decide (s.v<(-1000:Int))=false,decide (s.v>(1000:Int))=false,IntKind.i64.wrap ((0:Int) - s.v)=nv,(if nv>s.v then nv else s.v)=m,aa s7 51 [iv s.h,iv m] (RV.mk (iv g) none),(g !=(1:Int))=false,decide (s.i≥(0:Int))=true,decide (s.i<(24:Int))=false]):=by kernel_rfl
theorem TR (k:Nat) (s:aj) (nv m g:Int):ay MD s7 k 34 [.ag s.cells] [.c false, .c false, .c false, .c false, .i 28 nv, .i 29 m, .r (one (iv g)), .c false, .c true, .c true, .c true]=
 some (RV.mk (bv true) none,[decide (s.h<(0:Int))=false,decide (s.h>(1000:Int))=false,decide (s.v<(-1000:Int))=false,decide (s.v>(1000:Int))=false,IntKind.i64.wrap ((0:Int) - s.v)=nv,(if nv>s.v then nv else s.v)=m,aa s7 51 [iv s.h,iv m] (RV.mk (iv g) none),(g !=(1:Int))=false,decide (s.i≥(0:Int))=true,decide (s.i<(24:Int))=true,(s.h !=(0:Int))=true]):=by kernel_rfl
theorem TS (k:Nat) (s:aj) (nv m g:Int) (b:Bool):ay MD s7 k 34 [.ag s.cells] [.c false, .c false, .c false, .c false, .i 28 nv, .i 29 m, .r (one (iv g)), .c false, .c true, .c true, .c false, .c b]=
 some (RV.mk (bv b) none,[decide (s.h<(0:Int))=false,decide (s.h>(1000:Int))=false,decide (s.v<(-1000:Int))=false,decide (s.v>(1000:Int))=false,IntKind.i64.wrap ((0:Int) - s.v)=nv,(if nv>s.v then nv else s.v)=m,aa s7 51 [iv s.h,iv m] (RV.mk (iv g) none),(g !=(1:Int))=false,decide (s.i≥(0:Int))=true,decide (s.i<(24:Int))=true,(s.h !=(0:Int))=false,(s.i==(0:Int))=b]):=by kernel_rfl
theorem TT (k:Nat) (s:aj):ay MD s7 k 35 [.ag s.cells] [.c false]=
 some (RV.mk (bv false) none,[decide (s.h≥(0:Int))=false]):=by kernel_rfl
theorem TU (k:Nat) (s:aj):ay MD s7 k 35 [.ag s.cells] [.c true, .c false]=
 some (RV.mk (bv false) none,[decide (s.h≥(0:Int))=true,decide (s.h≤(1000:Int))=false]):=by kernel_rfl
theorem TV (k:Nat) (s:aj):ay MD s7 k 35 [.ag s.cells] [.c true, .c true, .c false]=
 some (RV.mk (bv false) none,[decide (s.h≥(0:Int))=true,decide (s.h≤(1000:Int))=true,decide (s.v≥(-1000:Int))=false]):=by kernel_rfl
theorem TW (k:Nat) (s:aj):ay MD s7 k 35 [.ag s.cells] [.c true, .c true, .c true, .c false]=
 some (RV.mk (bv false) none,[decide (s.h≥(0:Int))=true,decide (s.h≤(1000:Int))=true,decide (s.v≥(-1000:Int))=true,decide (s.v≤(1000:Int))=false]):=by kernel_rfl
theorem TX (k:Nat) (s:aj) (nv m g:Int):ay MD s7 k 35 [.ag s.cells] [.c true, .c true, .c true, .c true, .i 28 nv, .i 29 m, .r (one (iv g)), .c false]=
 some (RV.mk (bv false) none,[decide (s.h≥(0:Int))=true,decide (s.h≤(1000:Int))=true,decide (s.v≥(-1000:Int))=true,decide (s.v≤(1000:Int))=true,IntKind.i64.wrap ((0:Int) - s.v)=nv,(if nv>s.v then nv else s.v)=m,aa s7 52 [iv s.h,iv m] (RV.mk (iv g) none),(g==(1:Int))=false]):=by kernel_rfl
theorem TY (k:Nat) (s:aj) (nv m g:Int):ay MD s7 k 35 [.ag s.cells] [.c true, .c true, .c true, .c true, .i 28 nv, .i 29 m, .r (one (iv g)), .c true, .c false]=
 some (RV.mk (bv false) none,[decide (s.h≥(0:Int))=true,decide (s.h≤(1000:Int))=true,decide (s.v≥(-1000:Int))=true,decide (s.v≤(1000:Int))=true,IntKind.i64.wrap ((0:Int) - s.v)=nv,(if nv>s.v then nv else s.v)=m,aa s7 52 [iv s.h,iv m] (RV.mk (iv g) none),(g==(1:Int))=true,decide (s.i≥(0:Int))=false]):=by kernel_rfl
theorem TZ (k:Nat) (s:aj) (nv m g:Int):ay MD s7 k 35 [.ag s.cells] [.c true, .c true, .c true, .c true, .i 28 nv, .i 29 m, .r (one (iv g)), .c true, .c true, .c false]=
 some (RV.mk (bv false) none,[decide (s.h≥(0:Int))=true,decide (s.h≤(1000:Int))=true,decide (s.v≥(-1000:Int))=true,decide (s.v≤(1000:Int))=true,IntKind.i64.wrap ((0:Int) - s.v)=nv,(if nv>s.v then nv else s.v)=m,aa s7 52 [iv s.h,iv m] (RV.mk (iv g) none),(g==(1:Int))=true,decide (s.i≥(0:Int))=true,decide (s.i<(24:Int))=false]):=by kernel_rfl
theorem T1 (k:Nat) (s:aj) (nv m g:Int):ay MD s7 k 35 [.ag s.cells] [.c true, .c true, .c true, .c true, .i 28 nv, .i 29 m, .r (one (iv g)), .c true, .c true, .c true, .c true]=
 some (RV.mk (bv true) none,[decide (s.h≥(0:Int))=true,decide (s.h≤(1000:Int))=true,decide (s.v≥(-1000:Int))=true,decide (s.v≤(1000:Int))=true,IntKind.i64.wrap ((0:Int) - s.v)=nv,(if nv>s.v then nv else s.v)=m,aa s7 52 [iv s.h,iv m] (RV.mk (iv g) none),(g==(1:Int))=true,decide (s.i≥(0:Int))=true,decide (s.i<(24:Int))=true,decide (s.h>(0:Int))=true]):=by kernel_rfl
theorem T5 (k:Nat) (s:aj) (nv m g:Int) (b:Bool):ay MD s7 k 35 [.ag s.cells] [.c true, .c true, .c true, .c true, .i 28 nv, .i 29 m, .r (one (iv g)), .c true, .c true, .c true, .c false, .c b]=
 some (RV.mk (bv b) none,[decide (s.h≥(0:Int))=true,decide (s.h≤(1000:Int))=true,decide (s.v≥(-1000:Int))=true,decide (s.v≤(1000:Int))=true,IntKind.i64.wrap ((0:Int) - s.v)=nv,(if nv>s.v then nv else s.v)=m,aa s7 52 [iv s.h,iv m] (RV.mk (iv g) none),(g==(1:Int))=true,decide (s.i≥(0:Int))=true,decide (s.i<(24:Int))=true,decide (s.h>(0:Int))=false,(s.i==(0:Int))=b]):=by kernel_rfl
theorem TG (k:Nat) (s:aj):ay MD s8 k 18 [.ag s.cells] [.r (one (bv false))]=
 some (RV.mk (PV.an [PV.ag [iv (0:Int),iv (0:Int),iv (0:Int)],iv (1:Int)]) none,[aa s8 34 [PV.ag s.cells] (RV.mk (bv false) none)]):=by kernel_rfl
theorem TH (k:Nat) (s:aj) (nv ni m:Int):ay MD s8 k 18 [.ag s.cells] [.r (one (bv true)), .i 12 nv, .i 15 ni, .r (one (iv m))]=
 some (RV.mk (PV.an [PV.ag [iv s.h,iv nv,iv m],iv (0:Int)]) none,[aa s8 34 [PV.ag s.cells] (RV.mk (bv true) none),IntKind.i64.wrap ((0:Int) - s.v)=nv,IntKind.i64.wrap ((0:Int) - s.i)=ni,aa s8 30 [iv ni] (RV.mk (iv m) none)]):=by kernel_rfl
theorem TI (k:Nat) (s:aj):ay MD s8 k 19 [.ag s.cells] [.r (one (bv false))]=
 some (RV.mk (PV.an [PV.ag [iv (0:Int),iv (0:Int),iv (0:Int)],iv (1:Int)]) none,[aa s8 35 [PV.ag s.cells] (RV.mk (bv false) none)]):=by kernel_rfl
theorem TJ (k:Nat) (s:aj) (nv ni m:Int):ay MD s8 k 19 [.ag s.cells] [.r (one (bv true)), .i 12 nv, .i 15 ni, .r (one (iv m))]=
 some (RV.mk (PV.an [PV.ag [iv s.h,iv nv,iv m],iv (0:Int)]) none,[aa s8 35 [PV.ag s.cells] (RV.mk (bv true) none),IntKind.i64.wrap ((0:Int) - s.v)=nv,IntKind.i64.wrap ((0:Int) - s.i)=ni,aa s8 13 [iv ni] (RV.mk (iv m) none)]):=by kernel_rfl
theorem Tk (k:Nat) (x:aM) (n:Int):ay MD t0 k 31 [.ag x.cells,iv n] [.u 5, .c true, .c true]=
 some (RV.mk (bv false) none,[5≤k,true=true,decide ((↑x.c0.s.size:Int)>n)=true]):=by kernel_rfl
theorem Tl (k:Nat) (x:aM) (n:Int):ay MD t0 k 31 [.ag x.cells,iv n] [.u 5, .c true, .c false, .c true, .c true]=
 some (RV.mk (bv false) none,[5≤k,true=true,decide ((↑x.c0.s.size:Int)>n)=false,true=true,decide ((↑x.c1.s.size:Int)>n)=true]):=by kernel_rfl
theorem Tm (k:Nat) (x:aM) (n:Int):ay MD t0 k 31 [.ag x.cells,iv n] [.u 5, .c true, .c false, .c true, .c false, .c true, .c true]=
 some (RV.mk (bv false) none,[5≤k,true=true,decide ((↑x.c0.s.size:Int)>n)=false,true=true,decide ((↑x.c1.s.size:Int)>n)=false,true=true,decide ((↑x.c2.s.size:Int)>n)=true]):=by kernel_rfl
theorem Tn (k:Nat) (x:aM) (n:Int):ay MD t0 k 31 [.ag x.cells,iv n] [.u 5, .c true, .c false, .c true, .c false, .c true, .c false, .c true, .c true]=
 some (RV.mk (bv false) none,[5≤k,true=true,decide ((↑x.c0.s.size:Int)>n)=false,true=true,decide ((↑x.c1.s.size:Int)>n)=false,true=true,decide ((↑x.c2.s.size:Int)>n)=false,true=true,decide ((↑x.c3.s.size:Int)>n)=true]):=by kernel_rfl
theorem To (k:Nat) (x:aM) (n:Int) (b:Bool):ay MD t0 k 31 [.ag x.cells,iv n] [.u 5, .c true, .c false, .c true, .c false, .c true, .c false, .c true, .c false, .c false, .c b]=
 some (RV.mk (bv b) none,[5≤k,true=true,decide ((↑x.c0.s.size:Int)>n)=false,true=true,decide ((↑x.c1.s.size:Int)>n)=false,true=true,decide ((↑x.c2.s.size:Int)>n)=false,true=true,decide ((↑x.c3.s.size:Int)>n)=false,false=false,decide ((↑x.d.s.size:Int)≤n)=b]):=by kernel_rfl
theorem Tx (k:Nat) (v:bF) (n:Int):ay MD s9 k 14 [.ag v.cells,iv n] [.r (one (bv false))]=
 some (RV.mk (bv false) none,[aa s9 31 [PV.ag v.x.cells,iv n] (RV.mk (bv false) none)]):=by kernel_rfl
theorem Ty (k:Nat) (v:bF) (n:Int):ay MD s9 k 14 [.ag v.cells,iv n] [.r (one (bv true)), .r (one (bv false))]=
 some (RV.mk (bv false) none,[aa s9 31 [PV.ag v.x.cells,iv n] (RV.mk (bv true) none),aa s9 31 [PV.ag v.y.cells,iv n] (RV.mk (bv false) none)]):=by kernel_rfl
theorem Tz (k:Nat) (v:bF) (n:Int) (b:Bool):ay MD s9 k 14 [.ag v.cells,iv n] [.r (one (bv true)), .r (one (bv true)), .r (one (bv b))]=
 some (RV.mk (bv b) none,[aa s9 31 [PV.ag v.x.cells,iv n] (RV.mk (bv true) none),aa s9 31 [PV.ag v.y.cells,iv n] (RV.mk (bv true) none),aa s9 31 [PV.ag v.z.cells,iv n] (RV.mk (bv b) none)]):=by kernel_rfl
theorem Yo (k:Nat) (p:bU) (n:Int):ay MD CA k 15 [.ag p.cells,iv n] [.r (one (bv false))]=
 some (RV.mk (bv false) none,[aa CA 14 [PV.ag p.n.cells,iv n] (RV.mk (bv false) none)]):=by kernel_rfl
theorem Yp (k:Nat) (p:bU) (n:Int) (b:Bool):ay MD CA k 15 [.ag p.cells,iv n] [.r (one (bv true)), .r (one (bv b))]=
 some (RV.mk (bv b) none,[aa CA 14 [PV.ag p.n.cells,iv n] (RV.mk (bv true) none),aa CA 31 [PV.ag p.d.cells,iv n] (RV.mk (bv b) none)]):=by kernel_rfl
theorem Xw (k:Nat) (v:bF) (p:bU) (s:aj):ay MD jY k 4 [.ag v.cells, .ag p.cells, .ag s.cells] [.r (one (bv true)), .r (one (bv false)), .r (one (bv true))]=
 some (RV.mk (bv true) none,[aa jY 8 [] (RV.mk (bv true) none),aa jY 14 [PV.ag v.cells,iv (40:Int)] (RV.mk (bv false) none),aa jY 8 [] (RV.mk (bv true) none)]):=by kernel_rfl
theorem Xx (k:Nat) (v:bF) (p:bU) (s:aj):ay MD jY k 4 [.ag v.cells, .ag p.cells, .ag s.cells] [.r (one (bv true)), .r (one (bv true)), .r (one (bv false)), .r (one (bv true))]=
 some (RV.mk (bv true) none,[aa jY 8 [] (RV.mk (bv true) none),aa jY 14 [PV.ag v.cells,iv (40:Int)] (RV.mk (bv true) none),aa jY 15 [PV.ag p.cells,iv (40:Int)] (RV.mk (bv false) none),aa jY 8 [] (RV.mk (bv true) none)]):=by kernel_rfl
theorem Xy (k:Nat) (v:bF) (p:bU) (s:aj) (q:bU) (t:aj) (w:bF) (e f:Int):ay MD jY k 4 [.ag v.cells, .ag p.cells, .ag s.cells] [.r (one (bv true)), .r (one (bv true)), .r (one (bv true)), .r (one (.an [.ag q.cells,iv e])), .r (one (.an [.ag q.cells,iv e])), .r (one (.an [.ag t.cells,iv f])), .r (one (.an [.ag t.cells,iv f])), .r (one (.ag w.cells)), .r (one (.ag w.cells)), .g true, .g true, .c true, .g true, .c true]=
 some (RV.mk (bv true) none,[aa jY 8 [] (RV.mk (bv true) none),aa jY 14 [PV.ag v.cells,iv (40:Int)] (RV.mk (bv true) none),aa jY 15 [PV.ag p.cells,iv (40:Int)] (RV.mk (bv true) none),aa jY 16 [PV.ag p.cells] (RV.mk (PV.an [PV.ag q.cells,iv e]) none),aa jY 17 [PV.ag p.cells] (RV.mk (PV.an [PV.ag q.cells,iv e]) none),aa jY 18 [PV.ag s.cells] (RV.mk (PV.an [PV.ag t.cells,iv f]) none),aa jY 19 [PV.ag s.cells] (RV.mk (PV.an [PV.ag t.cells,iv f]) none),aa jY 20 [PV.ag v.cells] (RV.mk (PV.ag w.cells) none),aa jY 21 [PV.ag v.cells] (RV.mk (PV.ag w.cells) none),iJ MD.P BinOp.eql 32 (Operand.tmp (49:Nat)) (Operand.tmp (51:Nat)) (Value.agg w.vals.toArray) (Value.agg w.vals.toArray) true,iJ MD.P BinOp.eql 34 (Operand.tmp (54:Nat)) (Operand.tmp (55:Nat)) (Value.agg q.vals.toArray) (Value.agg q.vals.toArray) true,(e==e)=true,iJ MD.P BinOp.eql 36 (Operand.tmp (64:Nat)) (Operand.tmp (65:Nat)) (Value.agg t.vals.toArray) (Value.agg t.vals.toArray) true,(f==f)=true]):=by kernel_rfl
theorem bF.bG {a b:bF} (e:a.cells=b.cells):a=b:=by
 obtain ⟨a0,a1,a2⟩:=a;obtain ⟨b0,b1,b2⟩:=b
 have l:∀r:aM,r.cells.length=10:=fun _=>rfl
 unfold bF.cells at e
 have k1:=List.append_inj e (by simp [l])
 have k2:=List.append_inj k1.1 (by simp [l])
 rw [bF.mk.injEq]
 exact ⟨aM.bG k2.1,aM.bG k2.2,aM.bG k1.2⟩
theorem bU.bG {a b:bU} (e:a.cells=b.cells):a=b:=by
 obtain ⟨a0,a1⟩:=a;obtain ⟨b0,b1⟩:=b
 have l:∀r:aM,r.cells.length=10:=fun _=>rfl
 unfold bU.cells at e
 have k1:=List.append_inj' e (by simp [l])
 rw [bU.mk.injEq]
 exact ⟨bF.bG k1.1,aM.bG k1.2⟩
theorem aj.bG {a b:aj} (e:a.cells=b.cells):a=b:=by
 obtain ⟨a0,a1,a2⟩:=a;obtain ⟨b0,b1,b2⟩:=b
 simp only [aj.cells,List.cons.injEq,and_true] at e
 rw [aj.mk.injEq]
 exact ⟨di e.1,di e.2.1,di e.2.2⟩
theorem q6 {α:Type} {c:α→List PV} (hi:∀a b,c a=c b→a=b) {β:Type} {g:α→β}:∀a b,[PV.ag (c a)]=[PV.ag (c b)]→g a=g b:=fun a b e=>by
 simp only [List.cons.injEq,and_true,PV.ag.injEq] at e
 rw [hi _ _ e]
theorem mS {n:Int} (h1: -(2^63)≤n) (h2:n<2^63):H7 [iv n]=some (one (.ag (aM.jx n).cells)):=
 bl (enc:=fun n:Int=>[iv n]) (fun a b e=>by rw [di (List.cons.inj e).1]) ⟨h1,h2⟩
theorem JD:aP MD.P s1:=aO (au (aE fun n h=>Ck n h.1 h.2) (au (aE fun n h=>AT n h.1 h.2) aL))
theorem LO (n:Int) (h: -(2^63)≤n∧n<2^63):aA P0 44 [iv n] (one (.ag (aM.jx n).cells)):=
 ai ah JD (by rfl) (XZ 1 n (RI.of n) (RI.of 1)) ⟨xg h.1 h.2,xg (by decide) (by decide),trivial⟩
theorem KP (n:Int) (h: -(2^63)≤n∧n<2^63):aA P0 48 [iv n] (one (.ag (aM.jx n).cells)):=
 ai ah JD (by rfl) (X0 1 n (RI.of n) (RI.of 1)) ⟨tc h.1 h.2,tc (by decide) (by decide),trivial⟩
theorem JE:aP MD.P s2:=aO (au (aE fun n h=>LO n h) (au (aE fun n h=>KP n h) aL))
theorem OL (x:Int×Int×Int) (h:(-(2^63)≤x.1∧x.1<2^63)∧(-(2^63)≤x.2.1∧x.2.1<2^63)∧(-(2^63)≤x.2.2∧x.2.2<2^63)):aA P0 69 [iv x.1,iv x.2.1,iv x.2.2] (one (.ag (bF.jx x.1 x.2.1 x.2.2).cells)):=
 ai ah JE (by rfl) (X3 1 _ _ _ (aM.jx x.1) (aM.jx x.2.1) (aM.jx x.2.2)) ⟨mS h.1.1 h.1.2,mS h.2.1.1 h.2.1.2,mS h.2.2.1 h.2.2.2,trivial⟩
theorem KU (x:Int×Int×Int) (h:(-(2^63)≤x.1∧x.1<2^63)∧(-(2^63)≤x.2.1∧x.2.1<2^63)∧(-(2^63)≤x.2.2∧x.2.2<2^63)):aA P0 29 [iv x.1,iv x.2.1,iv x.2.2] (one (.ag (bF.jx x.1 x.2.1 x.2.2).cells)):=
 ai ah JE (by rfl) (X4 1 _ _ _ (aM.jx x.1) (aM.jx x.2.1) (aM.jx x.2.2)) ⟨mS h.1.1 h.1.2,mS h.2.1.1 h.2.1.2,mS h.2.2.1 h.2.2.2,trivial⟩
theorem CZ (x:Int×Int×Int) (h:(-(2^63)≤x.1∧x.1<2^63)∧(-(2^63)≤x.2.1∧x.2.1<2^63)∧(-(2^63)≤x.2.2∧x.2.2<2^63)):IQ [iv x.1,iv x.2.1,iv x.2.2]=some (one (.ag (bF.jx x.1 x.2.1 x.2.2).cells)):=
 bl (enc:=fun x:Int×Int×Int=>[iv x.1,iv x.2.1,iv x.2.2]) (fun a b e=>by
  simp only [List.cons.injEq,and_true] at e
  rw [di e.1,di e.2.1,di e.2.2]) h
theorem JF:aP MD.P s3:=aO (au (aE fun x h=>OL x h) (au (aE fun x h=>KU x h) aL))
theorem PL (v:bF):aA P0 49 [.ag v.cells] (one (bv v.vj)):=
 ai ah JF (by rfl) (X9 1 v (bF.jx 0 0 0) v.vj) ⟨CZ (0,0,0) (by decide),zx rfl,trivial⟩
theorem NY (v:bF):aA P0 50 [.ag v.cells] (one (bv v.vj)):=
 ai ah JF (by rfl) (Ya 1 v (bF.jx 0 0 0) v.vj) ⟨CZ (0,0,0) (by decide),zx rfl,trivial⟩
theorem DP (v:bF):aA P0 53 [.ag v.cells] (one (.fn 70 [.el v.cells])):=
 ai ah (aO aL) (by rfl) (XT 1 v) trivial
theorem Bu (v:bF):Ar [.ag v.cells]=some (one (.fn 70 [.el v.cells])):=
 bl (enc:=fun v:bF=>[.ag v.cells]) (q6 fun _ _=>bF.bG) trivial
theorem qq:aP MD.P s4:=aO (au (aE fun v _=>DP v) (au (aE fun x h=>r6 x h) (au (aE fun x h=>qm x h) aL)))
theorem Ho (v:bF) (h:v.small):aA P0 36 [.ag v.cells] (one (bv v.ok)):=by
 have hn:=Bu v
 have h0:=jv h.1
 have h1:=jv h.2.1
 have h2:=jv h.2.2
 unfold bF.ok
 cases e0:v.x.ok with
 |false=>rw [e0] at h0;exact ai ah qq (by rfl) (Zk 4 v) ⟨hn,h0,trivial⟩
 |true=>
  rw [e0] at h0
  cases e1:v.y.ok with
  |false=>rw [e1] at h1;exact ai ah qq (by rfl) (Zl 4 v) ⟨hn,h0,h1,trivial⟩
  |true=>
   rw [e1] at h1
   cases e2:v.z.ok with
   |false=>rw [e2] at h2;exact ai ah qq (by rfl) (vec 4 v) ⟨hn,h0,h1,h2,trivial⟩
   |true=>rw [e2] at h2;exact ai ah qq (by rfl) (Zm 4 v) ⟨hn,h0,h1,h2,trivial⟩
theorem vV (v:bF) (h:v.small):aA P0 22 [.ag v.cells] (one (bv v.ok)):=by
 have h0:=jv h.1
 have h1:=jv h.2.1
 have h2:=jv h.2.2
 unfold bF.ok
 cases e0:v.x.ok with
 |false=>rw [e0] at h0;exact ai ah qq (by rfl) (Zn 4 v) ⟨h0,trivial⟩
 |true=>
  rw [e0] at h0
  cases e1:v.y.ok with
  |false=>rw [e1] at h1;exact ai ah qq (by rfl) (Zo 4 v) ⟨h0,h1,trivial⟩
  |true=>rw [e1] at h1;exact ai ah qq (by rfl) (Zp 4 v v.z.ok) ⟨h0,h1,h2,trivial⟩
theorem wI {v:bF} (h:v.small):JY [.ag v.cells]=some (one (bv v.ok)):=bl (enc:=fun v:bF=>[.ag v.cells]) (q6 fun _ _=>bF.bG) h
theorem Hp (v:bF):OO [.ag v.cells]=some (one (bv v.vj)):=bl (enc:=fun v:bF=>[.ag v.cells]) (q6 fun _ _=>bF.bG) trivial
theorem vC {x:aM} (h:x.small):Nt [.ag x.cells]=some (one (.ag x.neg.cells)):=bl (enc:=fun x:aM=>[.ag x.cells]) (q6 fun _ _=>aM.bG) h
theorem lM:aP MD.P s5:=aO
 (au (aE fun v h=>Ho v h) (au (aE fun v h=>vV v h) (au (aE fun v _=>PL v) (au (aE fun v _=>NY v)
 (au (aE fun x h=>r6 x h) (au (aE fun x h=>qm x h) (au (aE fun x h=>KF x h) (au (aE fun x h=>It x h) aL))))))))
theorem DU (p:bU) (h:p.small):aA P0 32 [.ag p.cells] (one (bv p.ok)):=by
 have h0:=wI h.1
 have h1:=Hp p.n
 have h2:=jv h.2
 unfold bU.ok
 cases e0:p.n.ok with
 |false=>rw [e0] at h0;exact ai ah lM (by rfl) (Tc 4 p) ⟨h0,trivial⟩
 |true=>
  rw [e0] at h0
  cases e1:p.n.vj with
  |true=>rw [e1] at h1;exact ai ah lM (by rfl) (Td 4 p) ⟨h0,h1,trivial⟩
  |false=>rw [e1] at h1;exact ai ah lM (by rfl) (Te 4 p p.d.ok) ⟨h0,h1,h2,trivial⟩
theorem BA (p:bU) (h:p.small):aA P0 33 [.ag p.cells] (one (bv p.ok)):=by
 have h0:=wI h.1
 have h1:=Hp p.n
 have h2:=jv h.2
 unfold bU.ok
 cases e0:p.n.ok with
 |false=>rw [e0] at h0;exact ai ah lM (by rfl) (Tf 4 p) ⟨h0,trivial⟩
 |true=>
  rw [e0] at h0
  cases e1:p.n.vj with
  |true=>rw [e1] at h1;exact ai ah lM (by rfl) (Tg 4 p) ⟨h0,h1,trivial⟩
  |false=>rw [e1] at h1;exact ai ah lM (by rfl) (Th 4 p p.d.ok) ⟨h0,h1,h2,trivial⟩
theorem Co (v:bF) (h:v.small):aA P0 20 [.ag v.cells] (one (.ag v.over.cells)):=by
 have h0:=wI h
 unfold bF.over
 cases e0:v.ok with
 |false=>rw [e0] at h0;exact ai ah lM (by rfl) (S5 4 v) ⟨h0,trivial⟩
 |true=>rw [e0] at h0;exact ai ah lM (by rfl) (S6 4 v _ _) ⟨h0,vC h.2.1,vC h.2.2,trivial⟩
theorem AU (v:bF) (h:v.small):aA P0 21 [.ag v.cells] (one (.ag v.over.cells)):=by
 have h0:=wI h
 unfold bF.over
 cases e0:v.ok with
 |false=>rw [e0] at h0;exact ai ah lM (by rfl) (S7 4 v) ⟨h0,trivial⟩
 |true=>rw [e0] at h0;exact ai ah lM (by rfl) (S8 4 v _ _) ⟨h0,vC h.2.1,vC h.2.2,trivial⟩
theorem F7 {p:bU} (h:p.small):NH [.ag p.cells]=some (one (bv p.ok)):=bl (enc:=fun p:bU=>[.ag p.cells]) (q6 fun _ _=>bU.bG) h
theorem wH {v:bF} (h:v.small):Hj [.ag v.cells]=some (one (.ag v.over.cells)):=bl (enc:=fun v:bF=>[.ag v.cells]) (q6 fun _ _=>bF.bG) h
theorem yO:aP MD.P s6:=aO (au (aE fun p h=>DU p h) (au (aE fun p h=>BA p h) (au (aE fun v h=>Co v h) (au (aE fun v h=>AU v h) aL))))
theorem Ik (p:bU) (h:p.small):aA P0 16 [.ag p.cells] (one (.an [.ag p.over.1.cells,iv p.over.2])):=by
 have h0:=F7 h
 unfold bU.over
 cases e0:p.ok with
 |false=>rw [e0] at h0;exact ai ah yO (by rfl) (SU 4 p) ⟨h0,trivial⟩
 |true=>rw [e0] at h0;exact ai ah yO (by rfl) (SV 4 p _) ⟨h0,wH h.1,trivial⟩
theorem Gu (p:bU) (h:p.small):aA P0 17 [.ag p.cells] (one (.an [.ag p.over.1.cells,iv p.over.2])):=by
 have h0:=F7 h
 unfold bU.over
 cases e0:p.ok with
 |false=>rw [e0] at h0;exact ai ah yO (by rfl) (SX 4 p) ⟨h0,trivial⟩
 |true=>rw [e0] at h0;exact ai ah yO (by rfl) (SY 4 p _) ⟨h0,wH h.1,trivial⟩
theorem HI (k:Nat):∀(m n:Nat),aR (aI MD t0 k 51 0) (m+1) ⟨[(0, .pv (iv n)),(1, .pv (iv m))],[],[],[]⟩=some (.exit 0,⟨[(0, .pv (iv (Nat.gcd n m:Nat))),(1, .pv (iv 0)),(6, .pv (bv false))],[],[],[]⟩):=by
 intro m
 induction m using Nat.strongRecOn with
 |_ m ih=>
  intro n
  by_cases h:m=0
  · subst h
    rw [Nat.gcd_zero_right]
    exact aF (af (RJ k n 0) ⟨rfl,trivial⟩) (by simp)
  · have hr:n%m<m:=Nat.mod_lt _ (by omega)
    have:=ih (n%m) hr m
    rw [jI] at this
    exact aW (af (RK k n m (n%m:Nat)) ⟨bne_iff_ne.2 (by omega),fy _ _,decide_eq_false (by omega),trivial⟩) (bH (by omega) this)
theorem HJ (k:Nat):∀(m n:Nat),aR (aI MD t0 k 52 0) (m+1) ⟨[(0, .pv (iv n)),(1, .pv (iv m))],[],[],[]⟩=some (.exit 0,⟨[(0, .pv (iv (Nat.gcd n m:Nat))),(1, .pv (iv 0)),(6, .pv (bv false))],[],[],[]⟩):=by
 intro m
 induction m using Nat.strongRecOn with
 |_ m ih=>
  intro n
  by_cases h:m=0
  · subst h
    rw [Nat.gcd_zero_right]
    exact aF (af (RM k n 0) ⟨rfl,trivial⟩) (by simp)
  · have hr:n%m<m:=Nat.mod_lt _ (by omega)
    have:=ih (n%m) hr m
    rw [jI] at this
    exact aW (af (RN k n m (n%m:Nat)) ⟨bne_iff_ne.2 (by omega),fy _ _,decide_eq_false (by omega),trivial⟩) (bH (by omega) this)
theorem LR (x:Nat×Nat):aA P0 51 [iv x.1,iv x.2] (one (iv (Nat.gcd x.1 x.2:Nat))):=
 ai ah (aO aL) (by rfl) (RL (x.2+1) _ _ _) ⟨HI _ x.2 x.1,trivial⟩
theorem LS (x:Nat×Nat):aA P0 52 [iv x.1,iv x.2] (one (iv (Nat.gcd x.1 x.2:Nat))):=
 ai ah (aO aL) (by rfl) (RO (x.2+1) _ _ _) ⟨HJ _ x.2 x.1,trivial⟩
theorem E7 (a b:Nat):LQ [iv a,iv b]=some (one (iv (Nat.gcd a b:Nat))):=
 bl (a:=(a,b)) (enc:=fun x:Nat×Nat=>[iv x.1,iv x.2]) (fun p q e=>by
  simp only [List.cons.injEq,and_true] at e
  have h1:=di e.1
  have h2:=di e.2
  rw [show p=q from Prod.ext (by omega) (by omega)]) trivial
theorem fM:aP MD.P s7:=aO (au (aE fun x _=>LR x) (au (aE fun x _=>LS x) aL))
theorem FU (v:Int):(if -v>v then -v else v)=((v.natAbs:Nat):Int):=by split<;>omega
theorem GX (s:aj):aA P0 34 [.ag s.cells] (one (bv s.ok)):=by
 unfold aj.ok
 by_cases h1:s.h<0
 · rw [decide_eq_false (by omega)];exact ai ah fM (by rfl) (TK 1 s) ⟨decide_eq_true h1,trivial⟩
 by_cases h2:s.h>1000
 · rw [decide_eq_false (by omega)];exact ai ah fM (by rfl) (TL 1 s) ⟨decide_eq_false h1,decide_eq_true h2,trivial⟩
 by_cases h3:s.v< -1000
 · rw [decide_eq_false (by omega)];exact ai ah fM (by rfl) (TM 1 s) ⟨decide_eq_false h1,decide_eq_false h2,decide_eq_true h3,trivial⟩
 by_cases h4:s.v>1000
 · rw [decide_eq_false (by omega)];exact ai ah fM (by rfl) (TN 1 s) ⟨decide_eq_false h1,decide_eq_false h2,decide_eq_false h3,decide_eq_true h4,trivial⟩
 have hg:=E7 s.h.natAbs s.v.natAbs
 rw [show ((s.h.natAbs:Nat):Int)=s.h by omega] at hg
 have rM:IntKind.i64.wrap (0 - s.v)= -s.v:=by rw [wrap64]<;>omega
 have hm:=FU s.v
 by_cases h5:Nat.gcd s.h.natAbs s.v.natAbs=1
 · rw [decide_eq_true ⟨⟨by omega,by omega⟩,⟨by omega,by omega⟩,h5⟩,Bool.true_and]
   rw [h5] at hg
   by_cases h6:s.i≥0
   · by_cases h7:s.i<24
     · by_cases h8:s.h=0
       · have e:decide ((0≤s.i∧s.i<24)∧(s.h≠0∨s.i=0))=(s.i==0):=by
           by_cases h9:s.i=0
           · rw [decide_eq_true (by omega),h9];rfl
           · rw [decide_eq_false (by omega)];exact (beq_false_of_ne h9).symm
         rw [e]
         exact ai ah fM (by rfl) (TS 1 s (-s.v) (s.v.natAbs:Nat) 1 _) ⟨decide_eq_false h1,decide_eq_false h2,decide_eq_false h3,decide_eq_false h4,rM,hm,hg,rfl,decide_eq_true h6,decide_eq_true h7,by rw [h8];rfl,rfl,trivial⟩
       · rw [decide_eq_true (by omega)]
         exact ai ah fM (by rfl) (TR 1 s (-s.v) (s.v.natAbs:Nat) 1) ⟨decide_eq_false h1,decide_eq_false h2,decide_eq_false h3,decide_eq_false h4,rM,hm,hg,rfl,decide_eq_true h6,decide_eq_true h7,bne_iff_ne.2 h8,trivial⟩
     · rw [decide_eq_false (by omega)]
       exact ai ah fM (by rfl) (TQ 1 s (-s.v) (s.v.natAbs:Nat) 1) ⟨decide_eq_false h1,decide_eq_false h2,decide_eq_false h3,decide_eq_false h4,rM,hm,hg,rfl,decide_eq_true h6,decide_eq_false h7,trivial⟩
   · rw [decide_eq_false (by omega)]
     exact ai ah fM (by rfl) (TP 1 s (-s.v) (s.v.natAbs:Nat) 1) ⟨decide_eq_false h1,decide_eq_false h2,decide_eq_false h3,decide_eq_false h4,rM,hm,hg,rfl,decide_eq_false h6,trivial⟩
 · rw [decide_eq_false (fun h=>h5 h.2.2)]
   exact ai ah fM (by rfl) (TO 1 s (-s.v) (s.v.natAbs:Nat) (Nat.gcd s.h.natAbs s.v.natAbs:Nat)) ⟨decide_eq_false h1,decide_eq_false h2,decide_eq_false h3,decide_eq_false h4,rM,hm,hg,bne_iff_ne.2 (by omega),trivial⟩
theorem D2 (s:aj):aA P0 35 [.ag s.cells] (one (bv s.ok)):=by
 unfold aj.ok
 by_cases h1:s.h≥0
 case neg=>rw [decide_eq_false (by omega)];exact ai ah fM (by rfl) (TT 1 s) ⟨decide_eq_false h1,trivial⟩
 by_cases h2:s.h≤1000
 case neg=>rw [decide_eq_false (by omega)];exact ai ah fM (by rfl) (TU 1 s) ⟨decide_eq_true h1,decide_eq_false h2,trivial⟩
 by_cases h3:s.v≥ -1000
 case neg=>rw [decide_eq_false (by omega)];exact ai ah fM (by rfl) (TV 1 s) ⟨decide_eq_true h1,decide_eq_true h2,decide_eq_false h3,trivial⟩
 by_cases h4:s.v≤1000
 case neg=>rw [decide_eq_false (by omega)];exact ai ah fM (by rfl) (TW 1 s) ⟨decide_eq_true h1,decide_eq_true h2,decide_eq_true h3,decide_eq_false h4,trivial⟩
 have hg:=E7 s.h.natAbs s.v.natAbs
 rw [show ((s.h.natAbs:Nat):Int)=s.h by omega] at hg
 have rM:IntKind.i64.wrap (0 - s.v)= -s.v:=by rw [wrap64]<;>omega
 have hm:=FU s.v
 by_cases h5:Nat.gcd s.h.natAbs s.v.natAbs=1
 · rw [decide_eq_true ⟨⟨by omega,by omega⟩,⟨by omega,by omega⟩,h5⟩,Bool.true_and]
   rw [h5] at hg
   by_cases h6:s.i≥0
   · by_cases h7:s.i<24
     · by_cases h8:s.h>0
       · rw [decide_eq_true (by omega)]
         exact ai ah fM (by rfl) (T1 1 s (-s.v) (s.v.natAbs:Nat) 1) ⟨decide_eq_true h1,decide_eq_true h2,decide_eq_true h3,decide_eq_true h4,rM,hm,hg,rfl,decide_eq_true h6,decide_eq_true h7,decide_eq_true h8,trivial⟩
       · have e:decide ((0≤s.i∧s.i<24)∧(s.h≠0∨s.i=0))=(s.i==0):=by
           by_cases h9:s.i=0
           · rw [decide_eq_true (by omega),h9];rfl
           · rw [decide_eq_false (by omega)];exact (beq_false_of_ne h9).symm
         rw [e]
         exact ai ah fM (by rfl) (T5 1 s (-s.v) (s.v.natAbs:Nat) 1 _) ⟨decide_eq_true h1,decide_eq_true h2,decide_eq_true h3,decide_eq_true h4,rM,hm,hg,rfl,decide_eq_true h6,decide_eq_true h7,decide_eq_false h8,rfl,trivial⟩
     · rw [decide_eq_false (by omega)]
       exact ai ah fM (by rfl) (TZ 1 s (-s.v) (s.v.natAbs:Nat) 1) ⟨decide_eq_true h1,decide_eq_true h2,decide_eq_true h3,decide_eq_true h4,rM,hm,hg,rfl,decide_eq_true h6,decide_eq_false h7,trivial⟩
   · rw [decide_eq_false (by omega)]
     exact ai ah fM (by rfl) (TY 1 s (-s.v) (s.v.natAbs:Nat) 1) ⟨decide_eq_true h1,decide_eq_true h2,decide_eq_true h3,decide_eq_true h4,rM,hm,hg,rfl,decide_eq_false h6,trivial⟩
 · rw [decide_eq_false (fun h=>h5 h.2.2)]
   exact ai ah fM (by rfl) (TX 1 s (-s.v) (s.v.natAbs:Nat) (Nat.gcd s.h.natAbs s.v.natAbs:Nat)) ⟨decide_eq_true h1,decide_eq_true h2,decide_eq_true h3,decide_eq_true h4,rM,hm,hg,beq_false_of_ne (by omega),trivial⟩
theorem GW (s:aj):On [.ag s.cells]=some (one (bv s.ok)):=bl (enc:=fun s:aj=>[.ag s.cells]) (q6 fun _ _=>aj.bG) trivial
theorem yP:aP MD.P s8:=aO (au (aE fun s _=>GX s) (au (aE fun s _=>D2 s) (au (mW fun x=>FV x) (au (mW fun x=>n9 x) aL))))
theorem aj.nG {s:aj} (h:s.ok=true):((0≤s.h∧s.h≤1000)∧(-1000≤s.v∧s.v≤1000)∧Nat.gcd s.h.natAbs s.v.natAbs=1)∧((0≤s.i∧s.i<24)∧(s.h≠0∨s.i=0)):=by
 unfold aj.ok at h
 simp only [Bool.and_eq_true] at h
 exact ⟨of_decide_eq_true h.1,of_decide_eq_true h.2⟩
theorem qu (s:aj):aA P0 18 [.ag s.cells] (one (.an [.ag s.over.1.cells,iv s.over.2])):=by
 have h0:=GW s
 unfold aj.over
 cases e0:s.ok with
 |false=>rw [e0] at h0;exact ai ah yP (by rfl) (TG 4 s) ⟨h0,trivial⟩
 |true=>
  rw [e0] at h0
  have hp:=aj.nG e0
  exact ai ah yP (by rfl) (TH 4 s (-s.v) (-s.i) ((-s.i)%24)) ⟨h0,by rw [wrap64]<;>omega,by rw [wrap64]<;>omega,rfl,trivial⟩
theorem tN (s:aj):aA P0 19 [.ag s.cells] (one (.an [.ag s.over.1.cells,iv s.over.2])):=by
 have h0:=GW s
 unfold aj.over
 cases e0:s.ok with
 |false=>rw [e0] at h0;exact ai ah yP (by rfl) (TI 4 s) ⟨h0,trivial⟩
 |true=>
  rw [e0] at h0
  have hp:=aj.nG e0
  exact ai ah yP (by rfl) (TJ 4 s (-s.v) (-s.i) ((-s.i)%24)) ⟨h0,by rw [wrap64]<;>omega,by rw [wrap64]<;>omega,rfl,trivial⟩
theorem Ci (x:aM×Int):aA P0 31 [.ag x.1.cells,iv x.2] (one (bv (x.1.raw x.2))):=by
 obtain ⟨x,n⟩:=x
 show aA P0 31 [.ag x.cells,iv n] (one (bv (x.raw n)))
 unfold aM.raw
 by_cases h0:(x.c0.s.size:Int)>n
 · rw [decide_eq_false (show ¬(x.c0.s.size:Int)≤n by omega)];exact ai ah (aO aL) (by rfl) (Tk 5 x n) ⟨by omega,rfl,decide_eq_true h0,trivial⟩
 rw [decide_eq_true (show (x.c0.s.size:Int)≤n by omega),Bool.true_and]
 by_cases h1:(x.c1.s.size:Int)>n
 · rw [decide_eq_false (show ¬(x.c1.s.size:Int)≤n by omega)];exact ai ah (aO aL) (by rfl) (Tl 5 x n) ⟨by omega,rfl,decide_eq_false h0,rfl,decide_eq_true h1,trivial⟩
 rw [decide_eq_true (show (x.c1.s.size:Int)≤n by omega),Bool.true_and]
 by_cases h2:(x.c2.s.size:Int)>n
 · rw [decide_eq_false (show ¬(x.c2.s.size:Int)≤n by omega)];exact ai ah (aO aL) (by rfl) (Tm 5 x n) ⟨by omega,rfl,decide_eq_false h0,rfl,decide_eq_false h1,rfl,decide_eq_true h2,trivial⟩
 rw [decide_eq_true (show (x.c2.s.size:Int)≤n by omega),Bool.true_and]
 by_cases h3:(x.c3.s.size:Int)>n
 · rw [decide_eq_false (show ¬(x.c3.s.size:Int)≤n by omega)];exact ai ah (aO aL) (by rfl) (Tn 5 x n) ⟨by omega,rfl,decide_eq_false h0,rfl,decide_eq_false h1,rfl,decide_eq_false h2,rfl,decide_eq_true h3,trivial⟩
 rw [decide_eq_true (show (x.c3.s.size:Int)≤n by omega),Bool.true_and]
 exact ai ah (aO aL) (by rfl) (To 5 x n _) ⟨by omega,rfl,decide_eq_false h0,rfl,decide_eq_false h1,rfl,decide_eq_false h2,rfl,decide_eq_false h3,rfl,rfl,trivial⟩
theorem Lj {α:Type} {c:α→List PV} (hi:∀a b,c a=c b→a=b) {β:Type} {g:α×Int→β}:∀a b:α×Int,[PV.ag (c a.1),iv a.2]=[PV.ag (c b.1),iv b.2]→g a=g b:=fun a b e=>by
 simp only [List.cons.injEq,and_true,PV.ag.injEq] at e
 rw [show a=b from Prod.ext (hi _ _ e.1) (di e.2)]
theorem vE (x:aM) (n:Int):Nu [.ag x.cells,iv n]=some (one (bv (x.raw n))):=bl (a:=(x,n)) (enc:=fun x:aM×Int=>[.ag x.1.cells,iv x.2]) (Lj fun _ _=>aM.bG) trivial
theorem D6:aP MD.P s9:=aO (au (aE fun x _=>Ci x) aL)
theorem C0 (x:bF×Int):aA P0 14 [.ag x.1.cells,iv x.2] (one (bv (x.1.raw x.2))):=by
 obtain ⟨v,n⟩:=x
 show aA P0 14 [.ag v.cells,iv n] (one (bv (v.raw n)))
 have h0:=vE v.x n
 have h1:=vE v.y n
 have h2:=vE v.z n
 unfold bF.raw
 cases e0:v.x.raw n with
 |false=>rw [e0] at h0;exact ai ah D6 (by rfl) (Tx 4 v n) ⟨h0,trivial⟩
 |true=>
  rw [e0] at h0
  cases e1:v.y.raw n with
  |false=>rw [e1] at h1;exact ai ah D6 (by rfl) (Ty 4 v n) ⟨h0,h1,trivial⟩
  |true=>rw [e1] at h1;exact ai ah D6 (by rfl) (Tz 4 v n _) ⟨h0,h1,h2,trivial⟩
theorem Hl (x:bF) (n:Int):OM [.ag x.cells,iv n]=some (one (bv (x.raw n))):=bl (a:=(x,n)) (enc:=fun x:bF×Int=>[.ag x.1.cells,iv x.2]) (Lj fun _ _=>bF.bG) trivial
theorem GC:aP MD.P CA:=aO (au (aE fun x _=>Ci x) (au (aE fun x _=>C0 x) aL))
theorem KG (x:bU×Int):aA P0 15 [.ag x.1.cells,iv x.2] (one (bv (x.1.raw x.2))):=by
 obtain ⟨p,n⟩:=x
 show aA P0 15 [.ag p.cells,iv n] (one (bv (p.raw n)))
 have h0:=Hl p.n n
 have h1:=vE p.d n
 unfold bU.raw
 cases e0:p.n.raw n with
 |false=>rw [e0] at h0;exact ai ah GC (by rfl) (Yo 4 p n) ⟨h0,trivial⟩
 |true=>rw [e0] at h0;exact ai ah GC (by rfl) (Yp 4 p n _) ⟨h0,h1,trivial⟩
theorem NG (x:bU) (n:Int):Q8 [.ag x.cells,iv n]=some (one (bv (x.raw n))):=bl (a:=(x,n)) (enc:=fun x:bU×Int=>[.ag x.1.cells,iv x.2]) (Lj fun _ _=>bU.bG) trivial
theorem F1 {p:bU} (h:p.small):NF [.ag p.cells]=some (one (.an [.ag p.over.1.cells,iv p.over.2])):=bl (enc:=fun p:bU=>[.ag p.cells]) (q6 fun _ _=>bU.bG) h
theorem GQ (s:aj):N9 [.ag s.cells]=some (one (.an [.ag s.over.1.cells,iv s.over.2])):=bl (enc:=fun s:aj=>[.ag s.cells]) (q6 fun _ _=>aj.bG) trivial
theorem AX:aP MD.P jY:=aO
 (au (A5 tY) (au (aE fun x _=>C0 x) (au (aE fun x _=>KG x) (au (aE fun p h=>Ik p h) (au (aE fun p h=>Gu p h)
 (au (aE fun s _=>qu s) (au (aE fun s _=>tN s) (au (aE fun v h=>Co v h) (au (aE fun v h=>AU v h) (au (aE fun v h=>vV v h) aL))))))))))
theorem aM.fW {x:aM} {n:Int} (hn:n<2^30) (h:x.raw n=true):x.small:=by
 unfold aM.raw at h
 simp only [Bool.and_eq_true,decide_eq_true_eq] at h
 intro r hr
 simp only [aM.dG,List.mem_cons,List.not_mem_nil,or_false] at hr
 rcases hr with rfl|rfl|rfl|rfl|rfl<;>omega
theorem bF.fW {v:bF} {n:Int} (hn:n<2^30) (h:v.raw n=true):v.small:=by
 unfold bF.raw at h
 simp only [Bool.and_eq_true] at h
 exact ⟨aM.fW hn h.1.1,aM.fW hn h.1.2,aM.fW hn h.2⟩
theorem bU.fW {p:bU} {n:Int} (hn:n<2^30) (h:p.raw n=true):p.small:=by
 unfold bU.raw at h
 simp only [Bool.and_eq_true] at h
 exact ⟨bF.fW hn h.1,aM.fW hn h.2⟩
theorem RH (v:bF) (p:bU) (s:aj):aA P0 4 [.ag v.cells, .ag p.cells, .ag s.cells] (one (bv true)):=by
 have hv:=Hl v 40
 have hp:=NG p 40
 cases e0:v.raw 40 with
 |false=>rw [e0] at hv;exact ai ah AX (by rfl) (Xw 4 v p s) ⟨rfl,hv,rfl,trivial⟩
 |true=>
  rw [e0] at hv
  cases e1:p.raw 40 with
  |false=>rw [e1] at hp;exact ai ah AX (by rfl) (Xx 4 v p s) ⟨rfl,hv,hp,rfl,trivial⟩
  |true=>
   rw [e1] at hp
   have Rh:=bF.fW (by decide) e0
   have sp':=bU.fW (by decide) e1
   exact ai ah AX (by rfl) (Xy 4 v p s _ _ _ _ _) ⟨rfl,hv,hp,F1 sp',F1 sp',GQ s,GQ s,wH Rh,wH Rh,zx (bF.fQ.2 rfl),LJ (bU.fQ.2 rfl),by simp,LK (aj.fQ.2 rfl),by simp,trivial⟩
end Go.Proofs.YtibbgjafjhcemaaDoor.Cul
namespace Go.Proofs.YtibbgjafjhcemaaDoor.Cul
open Go Go.RowKit
noncomputable def v1:Cl:=bQ []
def cE (x:aj):Int:=if x.v<0 then 0 else 1
noncomputable def NZ:List PV→Option RV:=cu (fun _:aj=>True) (fun x=>[.ag x.cells]) (fun x=>one (iv (cE x)))
noncomputable def v2:Cl:=bQ [(40,NZ)]
theorem YM (k n A B i:Nat) (a b c:Int) (cs aZ aK:List PV) (x y:aj):ak MD v1 k 105 0 ⟨[(0, .bs gk 0 3 n),(1, .pv (iv a)),(2, .pv (iv b)),(3, .pv (iv c)),(10, .pv (iv i))],[(gk,cs)],[],[]⟩ [.c true, .i 19 (A:Nat), .i 23 (B:Nat), .i 27 (B:Nat), .j 28 B, .i 33 (A:Nat), .j 34 A, .e 29 (.ag y.cells), .e 35 (.ag x.cells), .j 36 A, .s aZ, .j 37 B, .s aK, .e 35 (.ag x.cells), .e 29 (.ag y.cells), .j 36 A, .s aZ, .j 37 B, .s aK, .i 15 (i+1:Nat)]=
 some ((Xt.normal,St.mk [(0,AV.bs 1000000 0 3 n),(1,AV.pv (iv a)),(2,AV.pv (iv b)),(3,AV.pv (iv c)),(10,AV.pv (iv (↑(i+(1:Nat)):Int)))] [(1000000,aK)] [] []),[],[decide ((↑i:Int)<c)=true,IntKind.i64.wrap (a+(↑i:Int))=(↑A:Int),IntKind.i64.wrap (b+(↑i:Int))=(↑B:Int),IntKind.i64.wrap (b+(↑i:Int))=(↑B:Int),aG (↑B:Int) n B,IntKind.i64.wrap (a+(↑i:Int))=(↑A:Int),aG (↑A:Int) n A,Ld MD.P 36 cs (0+B* 3) (PV.ag y.cells),Ld MD.P 36 cs (0+A* 3) (PV.ag x.cells),aG (↑A:Int) n A,0+A* 3+3≤cs.length,ck cs (0+A* 3) y.cells aZ,aG (↑B:Int) n B,0+B* 3+3≤aZ.length,ck aZ (0+B* 3) x.cells aK,Ld MD.P 36 cs (0+A* 3) (PV.ag x.cells),Ld MD.P 36 cs (0+B* 3) (PV.ag y.cells),aG (↑A:Int) n A,0+A* 3+3≤cs.length,ck cs (0+A* 3) y.cells aZ,aG (↑B:Int) n B,0+B* 3+3≤aZ.length,ck aZ (0+B* 3) x.cells aK,St.mk [(0,AV.bs 1000000 0 3 n),(1,AV.pv (iv a)),(2,AV.pv (iv b)),(3,AV.pv (iv c)),(10,AV.pv (iv (↑i:Int)))] [(1000000,aK)] [] []=St.mk [(0,AV.bs 1000000 0 3 n),(1,AV.pv (iv a)),(2,AV.pv (iv b)),(3,AV.pv (iv c)),(10,AV.pv (iv (↑i:Int)))] [(1000000,aK)] [] [],IntKind.i64.wrap ((↑i:Int)+(1:Int))=(↑(i+(1:Nat)):Int)]):=by kernel_rfl
theorem YN (k n i:Nat) (a b c:Int) (cs:List PV):ak MD v1 k 105 0 ⟨[(0, .bs gk 0 3 n),(1, .pv (iv a)),(2, .pv (iv b)),(3, .pv (iv c)),(10, .pv (iv i))],[(gk,cs)],[],[]⟩ [.c false]=
 some ((Xt.exit 0,St.mk [(0,AV.bs 1000000 0 3 n),(1,AV.pv (iv a)),(2,AV.pv (iv b)),(3,AV.pv (iv c)),(10,AV.pv (iv (↑i:Int))),(13,AV.pv (bv false))] [(1000000,cs)] [] []),[],[decide ((↑i:Int)<c)=false]):=by kernel_rfl
theorem YO (k n i:Nat) (a b c:Int) (f:PV) (cs aZ:List PV):hO MD v1 k 105 [.g cs 0 3 n, .p (iv a), .p (iv b), .p (iv c), .p f] [.l (.exit 0) ⟨[(0, .bs gk 0 3 n),(1, .pv (iv a)),(2, .pv (iv b)),(3, .pv (iv c)),(10, .pv (iv i)),(13, .pv (bv false))],[(gk,aZ)],[],[]⟩]=
 some ((MR.pv (PV.an []),aZ),[aZ.all bS=true,aZ.length=cs.length,aN MD v1 k (105:Nat) (0:Nat) (St.mk [(0,AV.bs 1000000 0 3 n),(1,AV.pv (iv a)),(2,AV.pv (iv b)),(3,AV.pv (iv c)),(10,AV.pv (iv (0:Int)))] [(1000000,cs)] [] []) (Xt.exit 0) (St.mk [(0,AV.bs 1000000 0 3 n),(1,AV.pv (iv a)),(2,AV.pv (iv b)),(3,AV.pv (iv c)),(10,AV.pv (iv (↑i:Int))),(13,AV.pv (bv false))] [(1000000,aZ)] [] [])]):=by kernel_rfl
theorem RD (k:Nat) (x:aj):ay MD v1 k 40 [.ag x.cells] [.c true]=
 some (RV.mk (iv (0:Int)) none,[decide (x.v<(0:Int))=true]):=by kernel_rfl
theorem RE (k:Nat) (x:aj):ay MD v1 k 40 [.ag x.cells] [.c false]=
 some (RV.mk (iv (1:Int)) none,[decide (x.v<(0:Int))=false]):=by kernel_rfl
theorem RF (k:Nat) (x y:aj) (p q r:Int):ay MD v2 k 42 [.ag x.cells, .ag y.cells, .el [.fn 40 []]] [.r (one (iv p)), .r (one (iv q)), .i 12 r]=
 some (RV.mk (iv r) none,[aa v2 40 [PV.ag x.cells] (RV.mk (iv p) none),aa v2 40 [PV.ag y.cells] (RV.mk (iv q) none),IntKind.i64.wrap (p - q)=r]):=by kernel_rfl
end Go.Proofs.YtibbgjafjhcemaaDoor.Cul
namespace Go.Proofs.YtibbgjafjhcemaaDoor.Cul
open Go Go.RowKit
abbrev aq (l:List aj):List PV:=ac aj.cells l
theorem mA (x:aj):x.cells.length=3:=rfl
theorem N8:bV MD.P 36=some 3:=by kernel_rfl
theorem NT:ep MD.P 36=true:=by kernel_rfl
theorem cM (l:List aj):(aq l).length=l.length* 3:=jo mA l
theorem iw (l:List aj):(aq l).all bS=true:=Li (fun _=>rfl) l
theorem lB {l m:List aj} (h:aq l=aq m):l=m:=y7 (by decide) mA (fun _ _=>aj.bG) h
theorem fN {l:List aj} {i:Nat} {x:aj} (h:l[i]? =some x):Ld MD.P 36 (aq l) (0+i* 3) (.ag x.cells):=O8 mA N8 NT h
abbrev Ot (n:Nat) (a b c i:Int) (cs:List PV):St:=⟨[(0, .bs gk 0 3 n),(1, .pv (iv a)),(2, .pv (iv b)),(3, .pv (iv c)),(10, .pv (iv i))],[(gk,cs)],[],[]⟩
abbrev YQ (n:Nat) (a b c i:Int) (cs:List PV):St:=⟨[(0, .bs gk 0 3 n),(1, .pv (iv a)),(2, .pv (iv b)),(3, .pv (iv c)),(10, .pv (iv i)),(13, .pv (bv false))],[(gk,cs)],[],[]⟩
theorem IL {k a b c i:Nat} {l:List aj} {x y:aj} (hx:l[a+i]? =some x) (hy:l[b+i]? =some y) (hi:i<c) (hs:l.length<2^60):
  aI MD v1 k 105 0 (Ot l.length a b c i (aq l))=some (.normal,Ot l.length a b c (i+1:Nat) (aq ((l.set (a+i) y).set (b+i) x))):=by
 have h1:a+i<l.length:=(List.getElem?_eq_some_iff.1 hx).1
 have h2:b+i<l.length:=(List.getElem?_eq_some_iff.1 hy).1
 have w1:IntKind.i64.wrap ((a:Int)+(i:Int))=((a+i:Nat):Int):=wrap64 (by omega) (by omega)
 have w2:IntKind.i64.wrap ((b:Int)+(i:Int))=((b+i:Nat):Int):=wrap64 (by omega) (by omega)
 have w3:IntKind.i64.wrap ((i:Int)+1)=((i+1:Nat):Int):=wrap64 (by omega) (by omega)
 obtain ⟨p1,p2⟩:=mh mA (l:=l) y h1
 obtain ⟨q1,q2⟩:=mh mA (l:=l.set (a+i) y) x (i:=b+i) (by simpa using h2)
 have L1:=fN hx
 have L2:=fN hy
 exact af (YM k l.length (a+i) (b+i) i a b c (aq l) (aq (l.set (a+i) y)) (aq ((l.set (a+i) y).set (b+i) x)) x y)
  ⟨decide_eq_true (by omega),w1,w2,w2,⟨rfl,h2⟩,w1,⟨rfl,h1⟩,L2,L1,⟨rfl,h1⟩,p1,p2,⟨rfl,h2⟩,q1,q2,L1,L2,⟨rfl,h1⟩,p1,p2,⟨rfl,h2⟩,q1,q2,rfl,w3,trivial⟩
theorem CT {k c:Nat} {P M S:List aj}:∀(X2 Y2 X1 Y1:List aj),X2.length=Y2.length→X1.length=Y1.length→c=X1.length+X2.length→(P++(Y1++(X2++(M++(X1++(Y2++S)))))).length<2^60→
  aR (aI MD v1 k 105 0) (X2.length+1) (Ot (P++(Y1++(X2++(M++(X1++(Y2++S)))))).length P.length (P.length+c+M.length:Nat) c X1.length (aq (P++(Y1++(X2++(M++(X1++(Y2++S))))))))=
   some (.exit 0,YQ (P++(Y1++(X2++(M++(X1++(Y2++S)))))).length P.length (P.length+c+M.length:Nat) c c (aq (P++((Y1++Y2)++(M++((X1++X2)++S))))))
 |[],[],X1,Y1,_,h1,hc,hs=>by
  simp only [List.length_nil,Nat.add_zero] at hc
  subst hc
  refine aF ?_ (by simp)
  have:=af (YN k (P++(Y1++([]++(M++(X1++([]++S)))))).length X1.length P.length (P.length+X1.length+M.length:Nat) X1.length (aq (P++(Y1++([]++(M++(X1++([]++S)))))))) ⟨decide_eq_false (by omega),trivial⟩
  simp only [List.nil_append,List.append_nil] at this ⊢
  exact this
 |[],y::Y2,X1,Y1,h,_,_,_=>by simp at h
 |x::X2,[],X1,Y1,h,_,_,_=>by simp at h
 |x::X2,y::Y2,X1,Y1,h,h1,hc,hs=>by
  simp only [List.length_cons,Nat.add_right_cancel_iff] at h hc
  have e1:P++(Y1++(x::X2++(M++(X1++(y::Y2++S)))))=(P++Y1)++x::(X2++(M++(X1++(y::Y2++S)))):=by simp
  have e2:P++(Y1++(x::X2++(M++(X1++(y::Y2++S)))))=(P++(Y1++(x::X2++(M++X1))))++y::(Y2++S):=by simp
  have a1:P.length+X1.length=(P++Y1).length:=by simp;omega
  have a2:P.length+c+M.length+X1.length=(P++(Y1++(x::X2++(M++X1)))).length:=by simp;omega
  have hx:(P++(Y1++(x::X2++(M++(X1++(y::Y2++S))))))[P.length+X1.length]? =some x:=by rw [e1,a1];exact dA _ _ _
  have hy:(P++(Y1++(x::X2++(M++(X1++(y::Y2++S))))))[P.length+c+M.length+X1.length]? =some y:=by rw [e2,a2];exact dA _ _ _
  have r:=IL (k:=k) (c:=c) hx hy (by omega) hs
  have e3:((P++(Y1++(x::X2++(M++(X1++(y::Y2++S)))))).set (P.length+X1.length) y).set (P.length+c+M.length+X1.length) x=P++((Y1++[y])++(X2++(M++((X1++[x])++(Y2++S))))):=by
   rw [e1,a1,jZ,a2]
   have e4:(P++Y1)++y::(X2++(M++(X1++(y::Y2++S))))=(P++(Y1++(y::X2++(M++X1))))++y::(Y2++S):=by simp
   have a3:(P++(Y1++(x::X2++(M++X1)))).length=(P++(Y1++(y::X2++(M++X1)))).length:=by simp
   rw [e4,a3,jZ]
   simp
  rw [e3] at r
  have hl:(P++(Y1++(x::X2++(M++(X1++(y::Y2++S)))))).length=(P++((Y1++[y])++(X2++(M++((X1++[x])++(Y2++S)))))).length:=by simp only [List.length_append,List.length_cons,List.length_nil];omega
  have ih:=CT (k:=k) (c:=c) (P:=P) (M:=M) (S:=S) X2 Y2 (X1++[x]) (Y1++[y]) h (by simp only [List.length_append,List.length_singleton,h1]) (by simp only [List.length_append,List.length_singleton];omega) (by rw [←hl];exact hs)
  rw [←hl] at ih
  have e5:P++((Y1++[y]++Y2)++(M++((X1++[x]++X2)++S)))=P++((Y1++y::Y2)++(M++((X1++x::X2)++S))):=by simp
  rw [e5] at ih
  refine aW r ?_
  have e6:((X1++[x]).length:Int)=((X1.length+1:Nat):Int):=by simp
  rw [e6] at ih
  exact ih
theorem bu {n m:Int} (h1: -(2^63)≤n) (h2:n<2^63) (h:n=m):IntKind.i64.wrap n=m:=by rw [wrap64 h1 h2,h]
theorem Ek:aP MD.P v1:=aO aL
theorem K4 (P X M Y S:List aj) (c:PV) (h:X.length=Y.length) (hs:(P++(X++(M++(Y++S)))).length<2^60):
  dy P0 105 [.g (aq (P++(X++(M++(Y++S))))) 0 3 (P++(X++(M++(Y++S)))).length, .p (iv P.length), .p (iv (P.length+X.length+M.length:Nat)), .p (iv X.length), .p c] (.pv (.an [])) (aq (P++(Y++(M++(X++S))))):=by
 have lp:=CT (k:=X.length+1) (c:=X.length) (P:=P) (M:=M) (S:=S) X Y [] [] h rfl (by simp) (by simpa using hs)
 simp only [List.nil_append,List.length_nil] at lp
 exact eu ah Ek (by rfl) (YO (X.length+1) (P++(X++(M++(Y++S)))).length X.length P.length (P.length+X.length+M.length:Nat) X.length c (aq (P++(X++(M++(Y++S))))) (aq (P++(Y++(M++(X++S))))))
  ⟨iw _,by rw [cM,cM];simp;omega,lp,trivial⟩
end Go.Proofs.YtibbgjafjhcemaaDoor.Cul
namespace Go.Proofs.YtibbgjafjhcemaaDoor.Cul
open Go Go.RowKit
noncomputable def Oo:List MA→Option (MR×List PV):=pz (fun x:List aj×Nat×Nat×Nat×PV=>(x.2.1+x.2.2.2.1≤x.2.2.1∧x.2.2.1+x.2.2.2.1≤x.1.length)∧x.1.length<2^60) (fun x=>[.g (aq x.1) 0 3 x.1.length, .p (iv x.2.1), .p (iv x.2.2.1), .p (iv x.2.2.2.1), .p x.2.2.2.2]) (fun x=>(.pv (.an []),aq (JM x.1 x.2.1 x.2.2.1 x.2.2.2.1)))
noncomputable def v3:Cl:=oD [] [(105,Oo)] []
theorem zrA (k n:Nat) (m i j A I:Int) (c:PV) (cs aZ:List PV):ak MD v3 k 91 0 ⟨[(0, .bs gk 0 3 n),(2, .pv (iv m)),(4, .pv c),(10, .pv (iv i)),(11, .pv (iv j))],[(gk,cs)],[],[]⟩ [.c true, .c true, .i 27 A, .m (.pv (.an [])) aZ, .i 34 I]=
 some ((Xt.normal,St.mk [(0,AV.bs 1000000 0 3 n),(2,AV.pv (iv m)),(4,AV.pv c),(10,AV.pv (iv I)),(11,AV.pv (iv j))] [(1000000,aZ)] [] []),[],[(i !=j)=true,decide (i>j)=true,IntKind.i64.wrap (m - i)=A,cC v3 105 [MA.g cs 0 3 n,MA.p (iv A),MA.p (iv m),MA.p (iv j),MA.p c] (MR.pv (PV.an [])) aZ,IntKind.i64.wrap (i - j)=I]):=by kernel_rfl
theorem zrB (k n:Nat) (m i j A B D I:Int) (c:PV) (cs aZ:List PV):ak MD v3 k 91 0 ⟨[(0, .bs gk 0 3 n),(2, .pv (iv m)),(4, .pv c),(10, .pv (iv i)),(11, .pv (iv j))],[(gk,cs)],[],[]⟩ [.c true, .c false, .i 38 A, .i 41 B, .i 43 D, .m (.pv (.an [])) aZ, .i 49 I]=
 some ((Xt.normal,St.mk [(0,AV.bs 1000000 0 3 n),(2,AV.pv (iv m)),(4,AV.pv c),(10,AV.pv (iv i)),(11,AV.pv (iv I))] [(1000000,aZ)] [] []),[],[(i !=j)=true,decide (i>j)=false,IntKind.i64.wrap (m - i)=A,IntKind.i64.wrap (m+j)=B,IntKind.i64.wrap (B - i)=D,cC v3 105 [MA.g cs 0 3 n,MA.p (iv A),MA.p (iv D),MA.p (iv i),MA.p c] (MR.pv (PV.an [])) aZ,IntKind.i64.wrap (j - i)=I]):=by kernel_rfl
theorem zrC (k n:Nat) (m i j:Int) (c:PV) (cs:List PV):ak MD v3 k 91 0 ⟨[(0, .bs gk 0 3 n),(2, .pv (iv m)),(4, .pv c),(10, .pv (iv i)),(11, .pv (iv j))],[(gk,cs)],[],[]⟩ [.c false]=
 some ((Xt.exit 0,St.mk [(0,AV.bs 1000000 0 3 n),(2,AV.pv (iv m)),(4,AV.pv c),(10,AV.pv (iv i)),(11,AV.pv (iv j)),(20,AV.pv (bv false))] [(1000000,cs)] [] []),[],[(i !=j)=false]):=by kernel_rfl
theorem zrD (k n:Nat) (a m b i j I A:Int) (c:PV) (cs aZ aK:List PV):hO MD v3 k 91 [.g cs 0 3 n, .p (iv a), .p (iv m), .p (iv b), .p c] [.i 14 i, .i 17 j, .l (.exit 0) ⟨[(0, .bs gk 0 3 n),(2, .pv (iv m)),(4, .pv c),(10, .pv (iv I)),(11, .pv (iv I)),(20, .pv (bv false))],[(gk,aZ)],[],[]⟩, .i 53 A, .m (.pv (.an [])) aK]=
 some ((MR.pv (PV.an []),aK),[aK.all bS=true,aK.length=cs.length,IntKind.i64.wrap (m - a)=i,IntKind.i64.wrap (b - m)=j,aN MD v3 k (91:Nat) (0:Nat) (St.mk [(0,AV.bs 1000000 0 3 n),(2,AV.pv (iv m)),(4,AV.pv c),(10,AV.pv (iv i)),(11,AV.pv (iv j))] [(1000000,cs)] [] []) (Xt.exit 0) (St.mk [(0,AV.bs 1000000 0 3 n),(2,AV.pv (iv m)),(4,AV.pv c),(10,AV.pv (iv I)),(11,AV.pv (iv I)),(20,AV.pv (bv false))] [(1000000,aZ)] [] []),IntKind.i64.wrap (m - I)=A,cC v3 105 [MA.g aZ 0 3 n,MA.p (iv A),MA.p (iv m),MA.p (iv I),MA.p c] (MR.pv (PV.an [])) aK]):=by kernel_rfl
end Go.Proofs.YtibbgjafjhcemaaDoor.Cul
namespace Go.Proofs.YtibbgjafjhcemaaDoor.Cul
open Go Go.RowKit
theorem Oq:∀ms r cs',Oo ms=some (r,cs')→dy P0 105 ms r cs':=kH fun x h=>by
 obtain ⟨l,a,b,n,c⟩:=x
 obtain ⟨⟨h1,h2⟩,h3⟩:=h
 simp only at h1 h2 h3 ⊢
 obtain ⟨P,R,S',rfl,e1,e2⟩:=nN (l:=l) (a:=a) (b:=b+n) (by omega) h2
 obtain ⟨X,R2,Y',rfl,e3,e4⟩:=nN (l:=R) (a:=n) (b:=b - a) (by omega) (by omega)
 have e5:Y'.length=n:=by simp only [List.length_append] at e2;omega
 have el:P++(X++(R2++Y')++S')=P++(X++(R2++(Y'++S'))):=by simp
 have key:=K4 P X R2 Y' S' c (by omega) (by rw [←el];exact h3)
 have e6:=GY (P:=P) (X:=X) (M:=R2) (Y:=Y') (S:=S') (by omega)
 have eb:P.length+X.length+R2.length=b:=by omega
 rw [←e6,eb,e1,e3] at key
 rw [el]
 exact key
theorem A8 {P X M Y S:List aj} {c:PV} (h:X.length=Y.length) (hs:(P++(X++(M++(Y++S)))).length<2^60):
  Oo [.g (aq (P++(X++(M++(Y++S))))) 0 3 (P++(X++(M++(Y++S)))).length, .p (iv P.length), .p (iv (P.length+X.length+M.length:Nat)), .p (iv X.length), .p c]=some (.pv (.an []),aq (P++(Y++(M++(X++S))))):=by
 have:=kG (pre:=fun x:List aj×Nat×Nat×Nat×PV=>(x.2.1+x.2.2.2.1≤x.2.2.1∧x.2.2.1+x.2.2.2.1≤x.1.length)∧x.1.length<2^60) (a:=(P++(X++(M++(Y++S))),P.length,P.length+X.length+M.length,X.length,c)) (enc:=fun x:List aj×Nat×Nat×Nat×PV=>[.g (aq x.1) 0 3 x.1.length, .p (iv x.2.1), .p (iv x.2.2.1), .p (iv x.2.2.2.1), .p x.2.2.2.2]) (g:=fun x=>(.pv (.an []),aq (JM x.1 x.2.1 x.2.2.1 x.2.2.2.1))) (fun a b e=>by
  obtain ⟨a1,a2,a3,a4,a5⟩:=a;obtain ⟨b1,b2,b3,b4,b5⟩:=b
  simp only [List.cons.injEq,and_true,MA.g.injEq,MA.p.injEq] at e
  obtain ⟨⟨e1,_⟩,e2,e3,e4,e5⟩:=e
  have e2:=di e2
  have e3:=di e3
  have e4:=di e4
  obtain rfl:a2=b2:=by omega
  obtain rfl:a3=b3:=by omega
  obtain rfl:a4=b4:=by omega
  rw [lB e1]) ⟨⟨by simp only;omega,by simp only [List.length_append];omega⟩,hs⟩
 rw [GY h.symm] at this
 exact this
theorem PG:aP MD.P v3:=j3 aL (gm Oq jf)
abbrev Yn (n m i j:Nat) (c:PV) (cs:List PV):St:=⟨[(0, .bs gk 0 3 n),(2, .pv (iv m)),(4, .pv c),(10, .pv (iv i)),(11, .pv (iv j))],[(gk,cs)],[],[]⟩
abbrev Ym (n m i j:Nat) (c:PV) (cs:List PV):St:=⟨[(0, .bs gk 0 3 n),(2, .pv (iv m)),(4, .pv c),(10, .pv (iv i)),(11, .pv (iv j)),(20, .pv (bv false))],[(gk,cs)],[],[]⟩
theorem xq {k N m:Nat} {c:PV} {R:List aj}:∀(d:Nat) (P X Y S:List aj),X.length+Y.length≤d→0<X.length→0<Y.length→(P++(X++(Y++S))).length=N→N<2^60→P.length+X.length=m→P++(Y++(X++S))=R→
  ∃P' X' Y' S',X'.length=Y'.length∧(P'++(X'++(Y'++S'))).length=N∧P'.length+X'.length=m∧P'++(Y'++(X'++S'))=R∧0<X'.length∧
   aR (aI MD v3 k 91 0) d (Yn N m X.length Y.length c (aq (P++(X++(Y++S)))))=some (.exit 0,Ym N m X'.length X'.length c (aq (P'++(X'++(Y'++S')))))
 |0,P,X,Y,S,hd,hx,hy,_,_,_,_=>by omega
 |d+1,P,X,Y,S,hd,hx,hy,hN,hs,hm,hR=>by
  rcases Nat.lt_trichotomy X.length Y.length with h|h|h
  · obtain ⟨Y1,Y2,rfl,h1,h2⟩:∃Y1 Y2,Y=Y1++Y2∧Y1.length=Y.length - X.length∧Y2.length=X.length:=⟨Y.take (Y.length - X.length),Y.drop (Y.length - X.length),(List.take_append_drop _ _).symm,by simp,by simp;omega⟩
    simp only [List.length_append] at h hd hy hN h1
    have sw:=A8 (P:=P) (X:=X) (M:=Y1) (Y:=Y2) (S:=S) (c:=c) h2.symm (by simp only [List.length_append];omega)
    have el:P++(X++((Y1++Y2)++S))=P++(X++(Y1++(Y2++S))):=by simp
    have hl:(P++(X++(Y1++(Y2++S)))).length=N:=by simp only [List.length_append];omega
    rw [hl] at sw
    obtain ⟨P',X',Y',S',g1,g2,g3,g4,g6,g5⟩:=xq (k:=k) (N:=N) (m:=m) (c:=c) (R:=R) d P Y2 Y1 (X++S) (by omega) (by omega) (by omega) (by simp only [List.length_append];omega) hs (by omega) (by rw [←hR];simp)
    refine ⟨P',X',Y',S',g1,g2,g3,g4,g6, ?_⟩
    have r:=af (zrB k N m X.length (Y1.length+Y2.length:Nat) P.length (m+(Y1.length+Y2.length):Nat) (P.length+X.length+Y1.length:Nat) Y1.length c (aq (P++(X++(Y1++(Y2++S))))) (aq (P++(Y2++(Y1++(X++S))))))
     ⟨by simp;omega,decide_eq_false (by omega),bu (by omega) (by omega) (by omega),bu (by omega) (by omega) (by omega),bu (by omega) (by omega) (by omega),sw,bu (by omega) (by omega) (by omega),trivial⟩
    rw [el]
    have e7:(Y1++Y2).length=Y1.length+Y2.length:=List.length_append
    rw [e7]
    rw [h2] at g5
    exact aW r g5
  · refine ⟨P,X,Y,S,h,hN,hm,hR,hx, ?_⟩
    have r:=af (zrC k N m X.length Y.length c (aq (P++(X++(Y++S))))) ⟨by simp [h],trivial⟩
    have r2:=aF (n:=d) r (by simp)
    rw [←h] at r2 ⊢
    exact r2
  · obtain ⟨X1,X2,rfl,h1,h2⟩:∃X1 X2,X=X1++X2∧X1.length=Y.length∧X2.length=X.length - Y.length:=⟨X.take Y.length,X.drop Y.length,(List.take_append_drop _ _).symm,by simp;omega,by simp⟩
    simp only [List.length_append] at h hd hx hN hm h2
    have sw:=A8 (P:=P) (X:=X1) (M:=X2) (Y:=Y) (S:=S) (c:=c) h1 (by simp only [List.length_append];omega)
    have el:P++((X1++X2)++(Y++S))=P++(X1++(X2++(Y++S))):=by simp
    have hl:(P++(X1++(X2++(Y++S)))).length=N:=by simp only [List.length_append];omega
    rw [hl] at sw
    obtain ⟨P',X',Y',S',g1,g2,g3,g4,g6,g5⟩:=xq (k:=k) (N:=N) (m:=m) (c:=c) (R:=R) d (P++Y) X2 X1 S (by omega) (by omega) (by omega) (by simp only [List.length_append];omega) hs (by simp only [List.length_append];omega) (by rw [←hR];simp)
    refine ⟨P',X',Y',S',g1,g2,g3,g4,g6, ?_⟩
    have e8:(P.length+X1.length+X2.length:Nat)=m:=by omega
    rw [e8,h1] at sw
    have qM:P++Y++(X2++(X1++S))=P++(Y++(X2++(X1++S))):=by simp
    rw [qM,h1] at g5
    have r:=af (zrA k N m (X1.length+X2.length:Nat) Y.length P.length X2.length c (aq (P++(X1++(X2++(Y++S))))) (aq (P++(Y++(X2++(X1++S))))))
     ⟨by simp;omega,decide_eq_true (by omega),bu (by omega) (by omega) (by omega),sw,bu (by omega) (by omega) (by omega),trivial⟩
    rw [el]
    have e7:(X1++X2).length=X1.length+X2.length:=List.length_append
    rw [e7]
    exact aW r g5
theorem Gr (P X Y S:List aj) (c:PV) (hx:0<X.length) (hy:0<Y.length) (hs:(P++(X++(Y++S))).length<2^60):
  dy P0 91 [.g (aq (P++(X++(Y++S)))) 0 3 (P++(X++(Y++S))).length, .p (iv P.length), .p (iv (P.length+X.length:Nat)), .p (iv (P.length+X.length+Y.length:Nat)), .p c] (.pv (.an [])) (aq (P++(Y++(X++S)))):=by
 obtain ⟨P',X',Y',S',g1,g2,g3,g4,g6,g5⟩:=xq (k:=X.length+Y.length) (c:=c) (X.length+Y.length) P X Y S (Nat.le_refl _) hx hy rfl hs rfl rfl
 have sw:=A8 (P:=P') (X:=X') (M:=[]) (Y:=Y') (S:=S') (c:=c) g1 (by simp only [List.length_append,List.length_nil] at *;omega)
 simp only [List.nil_append,List.length_nil,Nat.add_zero] at sw
 have hs':P.length+(X.length+(Y.length+S.length))<2^60:=by simpa only [List.length_append] using hs
 have g2':P'.length+(X'.length+(Y'.length+S'.length))=P.length+(X.length+(Y.length+S.length)):=by simpa only [List.length_append] using g2
 rw [g2,g3,g4] at sw
 have hl:(P++(Y++(X++S))).length=(P++(X++(Y++S))).length:=by simp only [List.length_append];omega
 exact eu ah PG (by rfl) (zrD (X.length+Y.length) (P++(X++(Y++S))).length P.length (P.length+X.length:Nat) (P.length+X.length+Y.length:Nat) X.length Y.length X'.length P'.length c (aq (P++(X++(Y++S)))) (aq (P'++(X'++(Y'++S')))) (aq (P++(Y++(X++S)))))
  ⟨iw _,by rw [cM,cM,hl],bu (by omega) (by omega) (by omega),bu (by omega) (by omega) (by omega),g5,bu (by omega) (by omega) (by omega),sw,trivial⟩
end Go.Proofs.YtibbgjafjhcemaaDoor.Cul
namespace Go.Proofs.YtibbgjafjhcemaaDoor.Cul
open Go Go.RowKit
def aX:PV:= .fn 42 [.el [.fn 40 []]]
noncomputable def Hv:List PV→Option RV:=cu (fun _:aj×aj=>True) (fun p=>[.ag p.1.cells, .ag p.2.cells, .el [.fn 40 []]]) (fun p=>one (iv (cE p.1 - cE p.2)))
noncomputable def v4:Cl:=bQ [(42,Hv)]
theorem zsA (k n J K:Nat) (a b i r:Int) (cs aZ aK:List PV) (x y:aj):ak MD v4 k 79 1 ⟨[(0, .bs gk 0 3 n),(1, .pv (iv a)),(2, .pv (iv b)),(3, .pv aX),(8, .pv (iv i)),(9, .pv (iv K))],[(gk,cs)],[],[]⟩ [.c true, .j 25 K, .e 26 (.ag x.cells), .i 29 J, .j 30 J, .e 31 (.ag y.cells), .r (one (iv r)), .c true, .i 41 J, .i 44 J, .j 45 J, .j 49 K, .e 46 (.ag y.cells), .e 50 (.ag x.cells), .j 51 K, .s aZ, .j 52 J, .s aK, .e 50 (.ag x.cells), .e 46 (.ag y.cells), .j 51 K, .s aZ, .j 52 J, .s aK, .i 36 J]=
 some ((Xt.normal,St.mk [(0,AV.bs 1000000 0 3 n),(1,AV.pv (iv a)),(2,AV.pv (iv b)),(3,AV.pv (PV.fn 42 [PV.el [PV.fn 40 []]])),(8,AV.pv (iv i)),(9,AV.pv (iv (↑J:Int)))] [(1000000,aK)] [] []),[],[decide ((↑K:Int)>a)=true,aG (↑K:Int) n K,Ld MD.P 36 cs (0+K* 3) (PV.ag x.cells),IntKind.i64.wrap ((↑K:Int) - (1:Int))=(↑J:Int),aG (↑J:Int) n J,Ld MD.P 36 cs (0+J* 3) (PV.ag y.cells),aa v4 42 [PV.ag x.cells,PV.ag y.cells,PV.el [PV.fn 40 []]] (RV.mk (iv r) none),decide (r<(0:Int))=true,IntKind.i64.wrap ((↑K:Int) - (1:Int))=(↑J:Int),IntKind.i64.wrap ((↑K:Int) - (1:Int))=(↑J:Int),aG (↑J:Int) n J,aG (↑K:Int) n K,Ld MD.P 36 cs (0+J* 3) (PV.ag y.cells),Ld MD.P 36 cs (0+K* 3) (PV.ag x.cells),aG (↑K:Int) n K,0+K* 3+3≤cs.length,ck cs (0+K* 3) y.cells aZ,aG (↑J:Int) n J,0+J* 3+3≤aZ.length,ck aZ (0+J* 3) x.cells aK,Ld MD.P 36 cs (0+K* 3) (PV.ag x.cells),Ld MD.P 36 cs (0+J* 3) (PV.ag y.cells),aG (↑K:Int) n K,0+K* 3+3≤cs.length,ck cs (0+K* 3) y.cells aZ,aG (↑J:Int) n J,0+J* 3+3≤aZ.length,ck aZ (0+J* 3) x.cells aK,St.mk [(0,AV.bs 1000000 0 3 n),(1,AV.pv (iv a)),(2,AV.pv (iv b)),(3,AV.pv (PV.fn 42 [PV.el [PV.fn 40 []]])),(8,AV.pv (iv i)),(9,AV.pv (iv (↑K:Int)))] [(1000000,aK)] [] []=St.mk [(0,AV.bs 1000000 0 3 n),(1,AV.pv (iv a)),(2,AV.pv (iv b)),(3,AV.pv (PV.fn 42 [PV.el [PV.fn 40 []]])),(8,AV.pv (iv i)),(9,AV.pv (iv (↑K:Int)))] [(1000000,aK)] [] [],IntKind.i64.wrap ((↑K:Int) - (1:Int))=(↑J:Int)]):=by kernel_rfl
theorem zsB (k n J K:Nat) (a b i r:Int) (cs:List PV) (x y:aj):ak MD v4 k 79 1 ⟨[(0, .bs gk 0 3 n),(1, .pv (iv a)),(2, .pv (iv b)),(3, .pv aX),(8, .pv (iv i)),(9, .pv (iv K))],[(gk,cs)],[],[]⟩ [.c true, .j 25 K, .e 26 (.ag x.cells), .i 29 J, .j 30 J, .e 31 (.ag y.cells), .r (one (iv r)), .c false]=
 some ((Xt.exit 2,St.mk [(0,AV.bs 1000000 0 3 n),(1,AV.pv (iv a)),(2,AV.pv (iv b)),(3,AV.pv (PV.fn 42 [PV.el [PV.fn 40 []]])),(8,AV.pv (iv i)),(9,AV.pv (iv (↑K:Int))),(34,AV.pv (bv false))] [(1000000,cs)] [] []),[],[decide ((↑K:Int)>a)=true,aG (↑K:Int) n K,Ld MD.P 36 cs (0+K* 3) (PV.ag x.cells),IntKind.i64.wrap ((↑K:Int) - (1:Int))=(↑J:Int),aG (↑J:Int) n J,Ld MD.P 36 cs (0+J* 3) (PV.ag y.cells),aa v4 42 [PV.ag x.cells,PV.ag y.cells,PV.el [PV.fn 40 []]] (RV.mk (iv r) none),decide (r<(0:Int))=false]):=by kernel_rfl
theorem zsC (k n:Nat) (a b i j:Int) (cs:List PV):ak MD v4 k 79 1 ⟨[(0, .bs gk 0 3 n),(1, .pv (iv a)),(2, .pv (iv b)),(3, .pv aX),(8, .pv (iv i)),(9, .pv (iv j))],[(gk,cs)],[],[]⟩ [.c false]=
 some ((Xt.exit 2,St.mk [(0,AV.bs 1000000 0 3 n),(1,AV.pv (iv a)),(2,AV.pv (iv b)),(3,AV.pv (PV.fn 42 [PV.el [PV.fn 40 []]])),(8,AV.pv (iv i)),(9,AV.pv (iv j)),(34,AV.pv (bv false))] [(1000000,cs)] [] []),[],[decide (j>a)=false]):=by kernel_rfl
theorem zsD (k n:Nat) (a b i j I:Int) (cs aZ:List PV):ak MD v4 k 79 0 ⟨[(0, .bs gk 0 3 n),(1, .pv (iv a)),(2, .pv (iv b)),(3, .pv aX),(8, .pv (iv i))],[(gk,cs)],[],[]⟩ [.c true, .l (.exit 2) ⟨[(0, .bs gk 0 3 n),(1, .pv (iv a)),(2, .pv (iv b)),(3, .pv aX),(8, .pv (iv i)),(9, .pv (iv j)),(34, .pv (bv false))],[(gk,aZ)],[],[]⟩, .i 16 I]=
 some ((Xt.normal,St.mk [(0,AV.bs 1000000 0 3 n),(1,AV.pv (iv a)),(2,AV.pv (iv b)),(3,AV.pv (PV.fn 42 [PV.el [PV.fn 40 []]])),(8,AV.pv (iv I))] [(1000000,aZ)] [] []),[],[decide (i<b)=true,aN MD v4 k (79:Nat) (1:Nat) (St.mk [(0,AV.bs 1000000 0 3 n),(1,AV.pv (iv a)),(2,AV.pv (iv b)),(3,AV.pv (PV.fn 42 [PV.el [PV.fn 40 []]])),(8,AV.pv (iv i)),(9,AV.pv (iv i))] [(1000000,cs)] [] []) (Xt.exit 2) (St.mk [(0,AV.bs 1000000 0 3 n),(1,AV.pv (iv a)),(2,AV.pv (iv b)),(3,AV.pv (PV.fn 42 [PV.el [PV.fn 40 []]])),(8,AV.pv (iv i)),(9,AV.pv (iv j)),(34,AV.pv (bv false))] [(1000000,aZ)] [] []),IntKind.i64.wrap (i+(1:Int))=I]):=by kernel_rfl
theorem Rx (k n:Nat) (a b i:Int) (cs:List PV):ak MD v4 k 79 0 ⟨[(0, .bs gk 0 3 n),(1, .pv (iv a)),(2, .pv (iv b)),(3, .pv aX),(8, .pv (iv i))],[(gk,cs)],[],[]⟩ [.c false]=
 some ((Xt.exit 0,St.mk [(0,AV.bs 1000000 0 3 n),(1,AV.pv (iv a)),(2,AV.pv (iv b)),(3,AV.pv (PV.fn 42 [PV.el [PV.fn 40 []]])),(8,AV.pv (iv i)),(14,AV.pv (bv false))] [(1000000,cs)] [] []),[],[decide (i<b)=false]):=by kernel_rfl
theorem Ry (k n:Nat) (a b i I:Int) (cs aZ:List PV):hO MD v4 k 79 [.g cs 0 3 n, .p (iv a), .p (iv b), .p aX] [.i 11 i, .l (.exit 0) ⟨[(0, .bs gk 0 3 n),(1, .pv (iv a)),(2, .pv (iv b)),(3, .pv aX),(8, .pv (iv I)),(14, .pv (bv false))],[(gk,aZ)],[],[]⟩]=
 some ((MR.pv (PV.an []),aZ),[aZ.all bS=true,aZ.length=cs.length,IntKind.i64.wrap (a+(1:Int))=i,aN MD v4 k (79:Nat) (0:Nat) (St.mk [(0,AV.bs 1000000 0 3 n),(1,AV.pv (iv a)),(2,AV.pv (iv b)),(3,AV.pv (PV.fn 42 [PV.el [PV.fn 40 []]])),(8,AV.pv (iv i))] [(1000000,cs)] [] []) (Xt.exit 0) (St.mk [(0,AV.bs 1000000 0 3 n),(1,AV.pv (iv a)),(2,AV.pv (iv b)),(3,AV.pv (PV.fn 42 [PV.el [PV.fn 40 []]])),(8,AV.pv (iv I)),(14,AV.pv (bv false))] [(1000000,aZ)] [] [])]):=by kernel_rfl
end Go.Proofs.YtibbgjafjhcemaaDoor.Cul
