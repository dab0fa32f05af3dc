/- Part of a proof by an abstract machine for the program's code: lemmas, without conditions of their own beyond those that each states. (Made smaller by a program: short names, no comments.) -/
import Derived.Test.YtibbgjafjhcemaaDoorRSHG6
set_option linter.unusedVariables false
set_option linter.unusedSimpArgs false
set_option maxRecDepth 100000
set_option maxHeartbeats 2000000
namespace Go.Proofs.YtibbgjafjhcemaaDoor.Cul
open Go Go.RowKit
noncomputable def N4:List PV→Option RV:=cu (fun _:List aj×Int=>True) (fun a=>[.sl 3 a.1.length (aq a.1),iv a.2]) (fun a=>jB a.2 a.1)
def Cj:Option (List Int)→PV
 |none=>aU
 |some y=> .sl 1 y.length (bz y)
noncomputable def Oa:List PV→Option RV:=cu (fun a:List Int×Option (List Int)=>a.1.length<2^60∧(a.2=none→a.1=[])) (fun a=>[.sl 1 a.1.length (bz a.1),Cj a.2]) (fun a=>gF a.1 (a.2.getD []))
noncomputable def NW:List PV→Option RV:=cu (fun a:List Int×List Int=>a.1.length<2^60) (fun a=>[.sl 1 a.1.length (bz a.1), .sl 1 a.2.length (bz a.2)]) (fun a=>gF a.1 a.2)
noncomputable def Rb:List PV→Option RV:=cu (fun l:List aj=>l.length<2^60) (fun l=>[jL l,jL l]) (fun _=>one (bv true))
noncomputable def bN:Cl:=bQ [(8,GR (bv true)),(23,N4),(24,N4),(25,Oa),(26,NW),(27,Rb),(9,oC fun x y=>(y - x)%24),(13,sk (· %24))]
theorem UJ (k:Nat):ay MD fC k 25 [.sl 1 0 [],aU] [.c false, .c true]=
 some (RV.mk (PV.an [iv (0:Int),iv (1:Int)]) none,[false=false,true=true]):=by kernel_rfl
theorem US (k n p m:Nat) (g:Int) (ds ps es:List PV):ay MD bN k 6 [.sl 3 n ds,iv g, .ag [.sl 1 p ps, .sl 1 m es]] [.r (one (bv true)), .c true, .r (one (bv true))]=
 some (RV.mk (bv true) none,[aa bN 8 [] (RV.mk (bv true) none),decide ((↑n:Int)>(102:Int))=true,aa bN 8 [] (RV.mk (bv true) none)]):=by kernel_rfl
theorem UT (k n p m:Nat) (g:Int) (ds ps es:List PV):ay MD bN k 6 [.sl 3 n ds,iv g, .ag [.sl 1 p ps, .sl 1 m es]] [.r (one (bv true)), .c false, .c true, .r (one (bv true))]=
 some (RV.mk (bv true) none,[aa bN 8 [] (RV.mk (bv true) none),decide ((↑n:Int)>(102:Int))=false,decide ((↑p:Int)>(50:Int))=true,aa bN 8 [] (RV.mk (bv true) none)]):=by kernel_rfl
theorem UU (k n p m:Nat) (g:Int) (ds ps es:List PV):ay MD bN k 6 [.sl 3 n ds,iv g, .ag [.sl 1 p ps, .sl 1 m es]] [.r (one (bv true)), .c false, .c false, .c true, .r (one (bv true))]=
 some (RV.mk (bv true) none,[aa bN 8 [] (RV.mk (bv true) none),decide ((↑n:Int)>(102:Int))=false,decide ((↑p:Int)>(50:Int))=false,decide ((↑m:Int)>(50:Int))=true,aa bN 8 [] (RV.mk (bv true) none)]):=by kernel_rfl
theorem UO (k n p m r i:Nat) (g c d e j J I:Int) (ds ps es cs aK:List PV) (a b:Int):ak MD bN k 6 0 ⟨[(1, .pv (iv g)),(5, .bp 5 0),(15, .pv aU),(99, .pv (.sl 1 p ps)),(100, .pv (iv p)),(101, .pv (iv i))],[(5,[.sl 1 p ps, .sl 1 m es])],[],[]⟩ [.c true, .a 103 [iv a], .r (one (iv b)), .c false, .i 111 I]=
 some ((Xt.normal,St.mk [(1,AV.pv (iv g)),(5,AV.bp 5 0),(15,AV.pv (PV.sl 1 1 [iv b])),(99,AV.pv (PV.sl 1 p ps)),(100,AV.pv (iv (↑p:Int))),(101,AV.pv (iv I))] [(5,[PV.sl 1 p ps,PV.sl 1 m es])] [(Pl.s 15,1)] []),[],[decide ((↑i:Int)<(↑p:Int))=true,az ps 1 (↑i:Int) p [iv a],aa bN 9 [iv a,iv g] (RV.mk (iv b) none),8≤140737488355328∧1≤140737488355328,1=1∧0=0,decide (((1:Nat),splice (bh (iv (0:Int)).cells (1:Nat)) ((0:Nat)* (fun x=>x.size) MD.P.types[(3:Nat)]) (one (iv b)).v.cells).fst=(0:Nat))=false,IntKind.i64.wrap ((↑i:Int)+(1:Int))=I]):=by kernel_rfl
theorem UP (k n p m r i:Nat) (g c d e j J I:Int) (ds ps es cs aK:List PV) (a b:Int):ak MD bN k 6 0 ⟨[(1, .pv (iv g)),(5, .bp 5 0),(15, .pv (.sl 1 r cs)),(99, .pv (.sl 1 p ps)),(100, .pv (iv p)),(101, .pv (iv i))],[(5,[.sl 1 p ps, .sl 1 m es])],[(.s 15,1)],[]⟩ [.c true, .a 103 [iv a], .r (one (iv b)), .p (r+1) aK, .i 111 I]=
 some ((Xt.normal,St.mk [(1,AV.pv (iv g)),(5,AV.bp 5 0),(15,AV.pv (PV.sl 1 (r+1) aK)),(99,AV.pv (PV.sl 1 p ps)),(100,AV.pv (iv (↑p:Int))),(101,AV.pv (iv I))] [(5,[PV.sl 1 p ps,PV.sl 1 m es])] [(Pl.s 15,1)] []),[],[decide ((↑i:Int)<(↑p:Int))=true,az ps 1 (↑i:Int) p [iv a],aa bN 9 [iv a,iv g] (RV.mk (iv b) none),gA r 1 cs [iv b] 8 1 (r+1) aK,IntKind.i64.wrap ((↑i:Int)+(1:Int))=I]):=by kernel_rfl
theorem UQ (k n p m r i:Nat) (g c d e j J I:Int) (ds ps es cs aK:List PV) (a b:Int):ak MD bN k 6 0 ⟨[(1, .pv (iv g)),(5, .bp 5 0),(15, .pv aU),(99, .pv (.sl 1 p ps)),(100, .pv (iv p)),(101, .pv (iv i))],[(5,[.sl 1 p ps, .sl 1 m es])],[],[]⟩ [.c false]=
 some ((Xt.exit 0,St.mk [(1,AV.pv (iv g)),(5,AV.bp 5 0),(15,AV.pv (PV.lit (Value.slice none 0 0))),(99,AV.pv (PV.sl 1 p ps)),(100,AV.pv (iv (↑p:Int))),(101,AV.pv (iv (↑i:Int))),(102,AV.pv (bv false))] [(5,[PV.sl 1 p ps,PV.sl 1 m es])] [] []),[],[decide ((↑i:Int)<(↑p:Int))=false]):=by kernel_rfl
theorem UR (k n p m r i:Nat) (g c d e j J I:Int) (ds ps es cs aK:List PV) (a b:Int):ak MD bN k 6 0 ⟨[(1, .pv (iv g)),(5, .bp 5 0),(15, .pv (.sl 1 r cs)),(99, .pv (.sl 1 p ps)),(100, .pv (iv p)),(101, .pv (iv i))],[(5,[.sl 1 p ps, .sl 1 m es])],[(.s 15,1)],[]⟩ [.c false]=
 some ((Xt.exit 0,St.mk [(1,AV.pv (iv g)),(5,AV.bp 5 0),(15,AV.pv (PV.sl 1 r cs)),(99,AV.pv (PV.sl 1 p ps)),(100,AV.pv (iv (↑p:Int))),(101,AV.pv (iv (↑i:Int))),(102,AV.pv (bv false))] [(5,[PV.sl 1 p ps,PV.sl 1 m es])] [(Pl.s 15,1)] []),[],[decide ((↑i:Int)<(↑p:Int))=false]):=by kernel_rfl
theorem P9 (k n p m r q i:Nat) (g c d e j J I:Int) (ds ps es cs aK qs:List PV) (a b:Int):ay MD bN k 6 [.sl 3 n ds,iv g, .ag [.sl 1 p ps, .sl 1 m es]] [.r (one (bv true)), .c false, .c false, .c false, .r (one (.an [aU,iv e])), .r (one (.an [aU,iv e])), .r (one (.an [iv c,iv d])), .r (one (.an [iv c,iv d])), .r (one (bv true)), .c false, .c false, .c false, .c false, .l (.exit 0) ⟨[(1, .pv (iv g)),(5, .bp 5 0),(15, .pv aU),(99, .pv (.sl 1 p ps)),(100, .pv (iv p)),(101, .pv (iv i)),(102, .pv (bv false))],[(5,[.sl 1 p ps, .sl 1 m es])],[],[]⟩, .r (one (.an [iv j,iv J])), .c true, .c true]=
 some (RV.mk (bv true) none,[aa bN 8 [] (RV.mk (bv true) none),decide ((↑n:Int)>(102:Int))=false,decide ((↑p:Int)>(50:Int))=false,decide ((↑m:Int)>(50:Int))=false,aa bN 23 [PV.sl 3 n ds,iv g] (RV.mk (PV.an [PV.lit (Value.slice none 0 0),iv e]) none),aa bN 24 [PV.sl 3 n ds,iv g] (RV.mk (PV.an [PV.lit (Value.slice none 0 0),iv e]) none),aa bN 25 [PV.sl 1 p ps,PV.sl 1 m es] (RV.mk (PV.an [iv c,iv d]) none),aa bN 26 [PV.sl 1 p ps,PV.sl 1 m es] (RV.mk (PV.an [iv c,iv d]) none),aa bN 27 [PV.lit (Value.slice none 0 0),PV.lit (Value.slice none 0 0)] (RV.mk (bv true) none),(e !=e)=false,(c !=c)=false,(d !=d)=false,(e==(0:Int))=false,aN MD bN k (6:Nat) (0:Nat) (St.mk [(1,AV.pv (iv g)),(5,AV.bp 5 0),(15,AV.pv (PV.lit (Value.slice none 0 0))),(99,AV.pv (PV.sl 1 p ps)),(100,AV.pv (iv (↑p:Int))),(101,AV.pv (iv (0:Int)))] [(5,[PV.sl 1 p ps,PV.sl 1 m es])] [] []) (Xt.exit 0) (St.mk [(1,AV.pv (iv g)),(5,AV.bp 5 0),(15,AV.pv (PV.lit (Value.slice none 0 0))),(99,AV.pv (PV.sl 1 p ps)),(100,AV.pv (iv (↑p:Int))),(101,AV.pv (iv (↑i:Int))),(102,AV.pv (bv false))] [(5,[PV.sl 1 p ps,PV.sl 1 m es])] [] []),aa bN 25 [PV.sl 1 p ps,PV.lit (Value.slice none 0 0)] (RV.mk (PV.an [iv j,iv J]) none),((↑p:Int)==(0:Int))=true,(J==(1:Int))=true]):=by kernel_rfl
theorem Qa (k n p m r q i:Nat) (g c d e j J I:Int) (ds ps es cs aK qs:List PV) (a b:Int):ay MD bN k 6 [.sl 3 n ds,iv g, .ag [.sl 1 p ps, .sl 1 m es]] [.r (one (bv true)), .c false, .c false, .c false, .r (one (.an [aU,iv e])), .r (one (.an [aU,iv e])), .r (one (.an [iv c,iv d])), .r (one (.an [iv c,iv d])), .r (one (bv true)), .c false, .c false, .c false, .c false, .l (.exit 0) ⟨[(1, .pv (iv g)),(5, .bp 5 0),(15, .pv (.sl 1 r cs)),(99, .pv (.sl 1 p ps)),(100, .pv (iv p)),(101, .pv (iv i)),(102, .pv (bv false))],[(5,[.sl 1 p ps, .sl 1 m es])],[(.s 15,1)],[]⟩, .r (one (.an [iv j,iv J])), .c false, .c true, .r (one (iv I)), .c true]=
 some (RV.mk (bv true) none,[aa bN 8 [] (RV.mk (bv true) none),decide ((↑n:Int)>(102:Int))=false,decide ((↑p:Int)>(50:Int))=false,decide ((↑m:Int)>(50:Int))=false,aa bN 23 [PV.sl 3 n ds,iv g] (RV.mk (PV.an [PV.lit (Value.slice none 0 0),iv e]) none),aa bN 24 [PV.sl 3 n ds,iv g] (RV.mk (PV.an [PV.lit (Value.slice none 0 0),iv e]) none),aa bN 25 [PV.sl 1 p ps,PV.sl 1 m es] (RV.mk (PV.an [iv c,iv d]) none),aa bN 26 [PV.sl 1 p ps,PV.sl 1 m es] (RV.mk (PV.an [iv c,iv d]) none),aa bN 27 [PV.lit (Value.slice none 0 0),PV.lit (Value.slice none 0 0)] (RV.mk (bv true) none),(e !=e)=false,(c !=c)=false,(d !=d)=false,(e==(0:Int))=false,aN MD bN k (6:Nat) (0:Nat) (St.mk [(1,AV.pv (iv g)),(5,AV.bp 5 0),(15,AV.pv (PV.lit (Value.slice none 0 0))),(99,AV.pv (PV.sl 1 p ps)),(100,AV.pv (iv (↑p:Int))),(101,AV.pv (iv (0:Int)))] [(5,[PV.sl 1 p ps,PV.sl 1 m es])] [] []) (Xt.exit 0) (St.mk [(1,AV.pv (iv g)),(5,AV.bp 5 0),(15,AV.pv (PV.sl 1 r cs)),(99,AV.pv (PV.sl 1 p ps)),(100,AV.pv (iv (↑p:Int))),(101,AV.pv (iv (↑i:Int))),(102,AV.pv (bv false))] [(5,[PV.sl 1 p ps,PV.sl 1 m es])] [(Pl.s 15,1)] []),aa bN 25 [PV.sl 1 p ps,PV.sl 1 r cs] (RV.mk (PV.an [iv j,iv J]) none),((↑p:Int)==(0:Int))=false,(J==(0:Int))=true,aa bN 13 [iv g] (RV.mk (iv I) none),(j==I)=true]):=by kernel_rfl
theorem Qd (k n p m r q i:Nat) (g c d e j J I:Int) (ds ps es cs aK qs:List PV) (a b:Int):ay MD bN k 6 [.sl 3 n ds,iv g, .ag [.sl 1 p ps, .sl 1 m es]] [.r (one (bv true)), .c false, .c false, .c false, .r (one (.an [aU,iv e])), .r (one (.an [aU,iv e])), .r (one (.an [iv c,iv d])), .r (one (.an [iv c,iv d])), .r (one (bv true)), .c false, .c false, .c false, .c true, .c false, .l (.exit 0) ⟨[(1, .pv (iv g)),(5, .bp 5 0),(15, .pv aU),(99, .pv (.sl 1 p ps)),(100, .pv (iv p)),(101, .pv (iv i)),(102, .pv (bv false))],[(5,[.sl 1 p ps, .sl 1 m es])],[],[]⟩, .r (one (.an [iv j,iv J])), .c true, .c true]=
 some (RV.mk (bv true) none,[aa bN 8 [] (RV.mk (bv true) none),decide ((↑n:Int)>(102:Int))=false,decide ((↑p:Int)>(50:Int))=false,decide ((↑m:Int)>(50:Int))=false,aa bN 23 [PV.sl 3 n ds,iv g] (RV.mk (PV.an [PV.lit (Value.slice none 0 0),iv e]) none),aa bN 24 [PV.sl 3 n ds,iv g] (RV.mk (PV.an [PV.lit (Value.slice none 0 0),iv e]) none),aa bN 25 [PV.sl 1 p ps,PV.sl 1 m es] (RV.mk (PV.an [iv c,iv d]) none),aa bN 26 [PV.sl 1 p ps,PV.sl 1 m es] (RV.mk (PV.an [iv c,iv d]) none),aa bN 27 [PV.lit (Value.slice none 0 0),PV.lit (Value.slice none 0 0)] (RV.mk (bv true) none),(e !=e)=false,(c !=c)=false,(d !=d)=false,(e==(0:Int))=true,((↑(0:Nat):Int) !=(↑n:Int))=false,aN MD bN k (6:Nat) (0:Nat) (St.mk [(1,AV.pv (iv g)),(5,AV.bp 5 0),(15,AV.pv (PV.lit (Value.slice none 0 0))),(99,AV.pv (PV.sl 1 p ps)),(100,AV.pv (iv (↑p:Int))),(101,AV.pv (iv (0:Int)))] [(5,[PV.sl 1 p ps,PV.sl 1 m es])] [] []) (Xt.exit 0) (St.mk [(1,AV.pv (iv g)),(5,AV.bp 5 0),(15,AV.pv (PV.lit (Value.slice none 0 0))),(99,AV.pv (PV.sl 1 p ps)),(100,AV.pv (iv (↑p:Int))),(101,AV.pv (iv (↑i:Int))),(102,AV.pv (bv false))] [(5,[PV.sl 1 p ps,PV.sl 1 m es])] [] []),aa bN 25 [PV.sl 1 p ps,PV.lit (Value.slice none 0 0)] (RV.mk (PV.an [iv j,iv J]) none),((↑p:Int)==(0:Int))=true,(J==(1:Int))=true]):=by kernel_rfl
theorem Qe (k n p m r q i:Nat) (g c d e j J I:Int) (ds ps es cs aK qs:List PV) (a b:Int):ay MD bN k 6 [.sl 3 n ds,iv g, .ag [.sl 1 p ps, .sl 1 m es]] [.r (one (bv true)), .c false, .c false, .c false, .r (one (.an [aU,iv e])), .r (one (.an [aU,iv e])), .r (one (.an [iv c,iv d])), .r (one (.an [iv c,iv d])), .r (one (bv true)), .c false, .c false, .c false, .c true, .c false, .l (.exit 0) ⟨[(1, .pv (iv g)),(5, .bp 5 0),(15, .pv (.sl 1 r cs)),(99, .pv (.sl 1 p ps)),(100, .pv (iv p)),(101, .pv (iv i)),(102, .pv (bv false))],[(5,[.sl 1 p ps, .sl 1 m es])],[(.s 15,1)],[]⟩, .r (one (.an [iv j,iv J])), .c false, .c true, .r (one (iv I)), .c true]=
 some (RV.mk (bv true) none,[aa bN 8 [] (RV.mk (bv true) none),decide ((↑n:Int)>(102:Int))=false,decide ((↑p:Int)>(50:Int))=false,decide ((↑m:Int)>(50:Int))=false,aa bN 23 [PV.sl 3 n ds,iv g] (RV.mk (PV.an [PV.lit (Value.slice none 0 0),iv e]) none),aa bN 24 [PV.sl 3 n ds,iv g] (RV.mk (PV.an [PV.lit (Value.slice none 0 0),iv e]) none),aa bN 25 [PV.sl 1 p ps,PV.sl 1 m es] (RV.mk (PV.an [iv c,iv d]) none),aa bN 26 [PV.sl 1 p ps,PV.sl 1 m es] (RV.mk (PV.an [iv c,iv d]) none),aa bN 27 [PV.lit (Value.slice none 0 0),PV.lit (Value.slice none 0 0)] (RV.mk (bv true) none),(e !=e)=false,(c !=c)=false,(d !=d)=false,(e==(0:Int))=true,((↑(0:Nat):Int) !=(↑n:Int))=false,aN MD bN k (6:Nat) (0:Nat) (St.mk [(1,AV.pv (iv g)),(5,AV.bp 5 0),(15,AV.pv (PV.lit (Value.slice none 0 0))),(99,AV.pv (PV.sl 1 p ps)),(100,AV.pv (iv (↑p:Int))),(101,AV.pv (iv (0:Int)))] [(5,[PV.sl 1 p ps,PV.sl 1 m es])] [] []) (Xt.exit 0) (St.mk [(1,AV.pv (iv g)),(5,AV.bp 5 0),(15,AV.pv (PV.sl 1 r cs)),(99,AV.pv (PV.sl 1 p ps)),(100,AV.pv (iv (↑p:Int))),(101,AV.pv (iv (↑i:Int))),(102,AV.pv (bv false))] [(5,[PV.sl 1 p ps,PV.sl 1 m es])] [(Pl.s 15,1)] []),aa bN 25 [PV.sl 1 p ps,PV.sl 1 r cs] (RV.mk (PV.an [iv j,iv J]) none),((↑p:Int)==(0:Int))=false,(J==(0:Int))=true,aa bN 13 [iv g] (RV.mk (iv I) none),(j==I)=true]):=by kernel_rfl
theorem Qb (k n p m r q i:Nat) (g c d e j J I:Int) (ds ps es cs aK qs:List PV) (a b:Int):ay MD bN k 6 [.sl 3 n ds,iv g, .ag [.sl 1 p ps, .sl 1 m es]] [.r (one (bv true)), .c false, .c false, .c false, .r (one (.an [(.sl 3 q qs),iv e])), .r (one (.an [(.sl 3 q qs),iv e])), .r (one (.an [iv c,iv d])), .r (one (.an [iv c,iv d])), .r (one (bv true)), .c false, .c false, .c false, .c true, .c false, .l (.exit 0) ⟨[(1, .pv (iv g)),(5, .bp 5 0),(15, .pv aU),(99, .pv (.sl 1 p ps)),(100, .pv (iv p)),(101, .pv (iv i)),(102, .pv (bv false))],[(5,[.sl 1 p ps, .sl 1 m es])],[],[]⟩, .r (one (.an [iv j,iv J])), .c true, .c true]=
 some (RV.mk (bv true) none,[aa bN 8 [] (RV.mk (bv true) none),decide ((↑n:Int)>(102:Int))=false,decide ((↑p:Int)>(50:Int))=false,decide ((↑m:Int)>(50:Int))=false,aa bN 23 [PV.sl 3 n ds,iv g] (RV.mk (PV.an [PV.sl 3 q qs,iv e]) none),aa bN 24 [PV.sl 3 n ds,iv g] (RV.mk (PV.an [PV.sl 3 q qs,iv e]) none),aa bN 25 [PV.sl 1 p ps,PV.sl 1 m es] (RV.mk (PV.an [iv c,iv d]) none),aa bN 26 [PV.sl 1 p ps,PV.sl 1 m es] (RV.mk (PV.an [iv c,iv d]) none),aa bN 27 [PV.sl 3 q qs,PV.sl 3 q qs] (RV.mk (bv true) none),(e !=e)=false,(c !=c)=false,(d !=d)=false,(e==(0:Int))=true,((↑q:Int) !=(↑n:Int))=false,aN MD bN k (6:Nat) (0:Nat) (St.mk [(1,AV.pv (iv g)),(5,AV.bp 5 0),(15,AV.pv (PV.lit (Value.slice none 0 0))),(99,AV.pv (PV.sl 1 p ps)),(100,AV.pv (iv (↑p:Int))),(101,AV.pv (iv (0:Int)))] [(5,[PV.sl 1 p ps,PV.sl 1 m es])] [] []) (Xt.exit 0) (St.mk [(1,AV.pv (iv g)),(5,AV.bp 5 0),(15,AV.pv (PV.lit (Value.slice none 0 0))),(99,AV.pv (PV.sl 1 p ps)),(100,AV.pv (iv (↑p:Int))),(101,AV.pv (iv (↑i:Int))),(102,AV.pv (bv false))] [(5,[PV.sl 1 p ps,PV.sl 1 m es])] [] []),aa bN 25 [PV.sl 1 p ps,PV.lit (Value.slice none 0 0)] (RV.mk (PV.an [iv j,iv J]) none),((↑p:Int)==(0:Int))=true,(J==(1:Int))=true]):=by kernel_rfl
theorem Qc (k n p m r q i:Nat) (g c d e j J I:Int) (ds ps es cs aK qs:List PV) (a b:Int):ay MD bN k 6 [.sl 3 n ds,iv g, .ag [.sl 1 p ps, .sl 1 m es]] [.r (one (bv true)), .c false, .c false, .c false, .r (one (.an [(.sl 3 q qs),iv e])), .r (one (.an [(.sl 3 q qs),iv e])), .r (one (.an [iv c,iv d])), .r (one (.an [iv c,iv d])), .r (one (bv true)), .c false, .c false, .c false, .c true, .c false, .l (.exit 0) ⟨[(1, .pv (iv g)),(5, .bp 5 0),(15, .pv (.sl 1 r cs)),(99, .pv (.sl 1 p ps)),(100, .pv (iv p)),(101, .pv (iv i)),(102, .pv (bv false))],[(5,[.sl 1 p ps, .sl 1 m es])],[(.s 15,1)],[]⟩, .r (one (.an [iv j,iv J])), .c false, .c true, .r (one (iv I)), .c true]=
 some (RV.mk (bv true) none,[aa bN 8 [] (RV.mk (bv true) none),decide ((↑n:Int)>(102:Int))=false,decide ((↑p:Int)>(50:Int))=false,decide ((↑m:Int)>(50:Int))=false,aa bN 23 [PV.sl 3 n ds,iv g] (RV.mk (PV.an [PV.sl 3 q qs,iv e]) none),aa bN 24 [PV.sl 3 n ds,iv g] (RV.mk (PV.an [PV.sl 3 q qs,iv e]) none),aa bN 25 [PV.sl 1 p ps,PV.sl 1 m es] (RV.mk (PV.an [iv c,iv d]) none),aa bN 26 [PV.sl 1 p ps,PV.sl 1 m es] (RV.mk (PV.an [iv c,iv d]) none),aa bN 27 [PV.sl 3 q qs,PV.sl 3 q qs] (RV.mk (bv true) none),(e !=e)=false,(c !=c)=false,(d !=d)=false,(e==(0:Int))=true,((↑q:Int) !=(↑n:Int))=false,aN MD bN k (6:Nat) (0:Nat) (St.mk [(1,AV.pv (iv g)),(5,AV.bp 5 0),(15,AV.pv (PV.lit (Value.slice none 0 0))),(99,AV.pv (PV.sl 1 p ps)),(100,AV.pv (iv (↑p:Int))),(101,AV.pv (iv (0:Int)))] [(5,[PV.sl 1 p ps,PV.sl 1 m es])] [] []) (Xt.exit 0) (St.mk [(1,AV.pv (iv g)),(5,AV.bp 5 0),(15,AV.pv (PV.sl 1 r cs)),(99,AV.pv (PV.sl 1 p ps)),(100,AV.pv (iv (↑p:Int))),(101,AV.pv (iv (↑i:Int))),(102,AV.pv (bv false))] [(5,[PV.sl 1 p ps,PV.sl 1 m es])] [(Pl.s 15,1)] []),aa bN 25 [PV.sl 1 p ps,PV.sl 1 r cs] (RV.mk (PV.an [iv j,iv J]) none),((↑p:Int)==(0:Int))=false,(J==(0:Int))=true,aa bN 13 [iv g] (RV.mk (iv I) none),(j==I)=true]):=by kernel_rfl
end Go.Proofs.YtibbgjafjhcemaaDoor.Cul
namespace Go.Proofs.YtibbgjafjhcemaaDoor.Cul
open Go Go.RowKit
theorem sN {l m:List Int} (h:bz l=bz m):l=m:=y7 (z:=1) (by decide) (fun _=>rfl) (fun a b e=>by simpa [iv] using e) h
theorem Ee (x:List Int) (hl:x.length<2^60) (h0:x=[]):aA P0 25 [.sl 1 x.length (bz x),aU] (gF x []):=by
 subst h0
 exact ai ah kM (by rfl) (UJ 1) ⟨rfl,rfl,trivial⟩
theorem GF (l:List aj) (g:Int):N4 [.sl 3 l.length (aq l),iv g]=some (jB g l):=
 bl (pre:=fun _:List aj×Int=>True) (a:=(l,g)) (enc:=fun a:List aj×Int=>[.sl 3 a.1.length (aq a.1),iv a.2]) (g:=fun a=>jB a.2 a.1) (fun a b e=>by
  simp only [List.cons.injEq,and_true,PV.sl.injEq,iv,PV.lit.injEq,Value.int.injEq,true_and] at e
  rw [lB e.1.2,e.2]) trivial
theorem KC {a b:Option (List Int)} (h:Cj a=Cj b):a=b:=by
 cases a<;>cases b<;>simp [Cj,aU] at h
 · rfl
 · rw [sN h.2]
theorem A6 {x:List Int} {y:Option (List Int)} (h:x.length<2^60∧(y=none→x=[])):Oa [.sl 1 x.length (bz x),Cj y]=some (gF x (y.getD [])):=
 bl (pre:=fun a:List Int×Option (List Int)=>a.1.length<2^60∧(a.2=none→a.1=[])) (a:=(x,y)) (enc:=fun a:List Int×Option (List Int)=>[.sl 1 a.1.length (bz a.1),Cj a.2]) (g:=fun a=>gF a.1 (a.2.getD [])) (fun a b e=>by
  simp only [List.cons.injEq,and_true,PV.sl.injEq,true_and] at e
  rw [sN e.1.2,KC e.2]) h
theorem KT {x y:List Int} (h:x.length<2^60):NW [.sl 1 x.length (bz x), .sl 1 y.length (bz y)]=some (gF x y):=
 bl (pre:=fun a:List Int×List Int=>a.1.length<2^60) (a:=(x,y)) (enc:=fun a:List Int×List Int=>[.sl 1 a.1.length (bz a.1), .sl 1 a.2.length (bz a.2)]) (g:=fun a=>gF a.1 a.2) (fun a b e=>by
  simp only [List.cons.injEq,and_true,PV.sl.injEq,true_and] at e
  rw [sN e.1.2,sN e.2.2]) h
theorem AZ {l:List aj} (h:l.length<2^60):Rb [jL l,jL l]=some (one (bv true)):=
 bl (pre:=fun l:List aj=>l.length<2^60) (a:=l) (enc:=fun l:List aj=>[jL l,jL l]) (g:=fun _=>one (bv true)) (fun a b e=>rfl) h
theorem Ob:∀args r,Oa args=some r→aA P0 25 args r:=aE fun a h=>by
 obtain ⟨x,y⟩:=a
 cases y with
 |none=>exact Ee x h.1 (h.2 rfl)
 |some y=>exact GS x y h.1
theorem kN:aP MD.P bN:=aO (au (A5 tY) (au (aE fun a _=>IC a.2 a.1) (au (aE fun a _=>Gw a.2 a.1) (au Ob (au (aE fun a h=>D1 a.1 a.2 h) (au (aE fun l h=>KV l h) (au (iy qb) (au (mW n9) aL))))))))
abbrev Nd (g:Int) (p m:Nat) (ps es:List PV) (i:Nat):St:=⟨[(1, .pv (iv g)),(5, .bp 5 0),(15, .pv aU),(99, .pv (.sl 1 p ps)),(100, .pv (iv p)),(101, .pv (iv i))],[(5,[.sl 1 p ps, .sl 1 m es])],[],[]⟩
abbrev QZ (g:Int) (p m:Nat) (ps es:List PV) (r:Nat) (cs:List PV) (i:Nat):St:=⟨[(1, .pv (iv g)),(5, .bp 5 0),(15, .pv (.sl 1 r cs)),(99, .pv (.sl 1 p ps)),(100, .pv (iv p)),(101, .pv (iv i))],[(5,[.sl 1 p ps, .sl 1 m es])],[(.s 15,1)],[]⟩
def Cc (g:Int) (p m:Nat) (ps es:List PV) (M:List Int) (i:Nat):St:=match M with
 |[]=>Nd g p m ps es i
 |_::_=>QZ g p m ps es M.length (bz M) i
def Q0 (g:Int) (p m:Nat) (ps es:List PV) (M:List Int) (i:Nat):St:=match M with
 |[]=>⟨[(1, .pv (iv g)),(5, .bp 5 0),(15, .pv aU),(99, .pv (.sl 1 p ps)),(100, .pv (iv p)),(101, .pv (iv i)),(102, .pv (bv false))],[(5,[.sl 1 p ps, .sl 1 m es])],[],[]⟩
 |_::_=>⟨[(1, .pv (iv g)),(5, .bp 5 0),(15, .pv (.sl 1 M.length (bz M))),(99, .pv (.sl 1 p ps)),(100, .pv (iv p)),(101, .pv (iv i)),(102, .pv (bv false))],[(5,[.sl 1 p ps, .sl 1 m es])],[(.s 15,1)],[]⟩
theorem HW (g:Int) (p m:Nat) (ps es:List PV) (M:List Int) (e:Int) (i:Nat):Cc g p m ps es (M++[e]) i=QZ g p m ps es (M.length+1) (bz (M++[e])) i:=by
 cases M<;>simp [Cc]
theorem Ji (a b:Int):aa bN 9 [iv a,iv b] (one (iv ((b - a)%24))):=rfl
theorem Kr {k i:Nat} {x M:List Int} {g a:Int} {m:Nat} {es:List PV} (hx:x[i]? =some a) (hM:M.length=i) (hl:x.length≤50):
  aI MD bN k 6 0 (Cc g x.length m (bz x) es M i)=some (.normal,Cc g x.length m (bz x) es (M++[(g - a)%24]) (i+1)):=by
 have hi:i<x.length:=(List.getElem?_eq_some_iff.1 hx).1
 have w:IntKind.i64.wrap ((i:Int)+1)=((i+1:Nat):Int):=bu (by omega) (by omega) (by omega)
 rw [HW]
 cases M with
 |nil=>exact af (UO k 0 x.length m 0 i g 0 0 0 0 0 (i+1:Nat) [] (bz x) es [] [] a ((g - a)%24)) ⟨decide_eq_true (by omega),iI hx,Ji _ _,by decide,⟨rfl,rfl⟩,by rfl,w,trivial⟩
 |cons z M=>
  have hb:((z::M).length+1)* 8≤room∧(z::M).length+1≤room:=by
   have:room=140737488355328:=rfl
   rw [this];omega
  exact af (UP k 0 x.length m (z::M).length i g 0 0 0 0 0 (i+1:Nat) [] (bz x) es (bz (z::M)) (bz ((z::M)++[(g - a)%24])) a ((g - a)%24)) ⟨decide_eq_true (by omega),iI hx,Ji _ _,⟨⟨rfl,by simp [bz,ac]⟩,hb,rfl,jo (enc:=fun a:Int=>[iv a]) (z:=1) (fun _=>rfl) _⟩,w,trivial⟩
theorem Kq {k:Nat} {x M:List Int} {g:Int} {m:Nat} {es:List PV}:aI MD bN k 6 0 (Cc g x.length m (bz x) es M x.length)=some (.exit 0,Q0 g x.length m (bz x) es M x.length):=by
 cases M with
 |nil=>exact af (UQ k 0 x.length m 0 x.length g 0 0 0 0 0 0 [] (bz x) es [] [] 0 0) ⟨decide_eq_false (by omega),trivial⟩
 |cons z M=>exact af (UR k 0 x.length m (z::M).length x.length g 0 0 0 0 0 0 [] (bz x) es (bz (z::M)) [] 0 0) ⟨decide_eq_false (by omega),trivial⟩
theorem Cd {k:Nat} {x:List Int} {g:Int} {m:Nat} {es:List PV} (hl:x.length≤50):∀(L2 L1:List Int),x=L1++L2→
  aR (aI MD bN k 6 0) (L2.length+1) (Cc g x.length m (bz x) es (L1.map fun a=>(g - a)%24) L1.length)=some (.exit 0,Q0 g x.length m (bz x) es (x.map fun a=>(g - a)%24) x.length)
 |[],L1,e=>by
  have e':L1=x:=by simpa using e.symm
  subst e'
  exact aF Kq (by simp)
 |a::L2,L1,e=>by
  have hx:x[L1.length]? =some a:=by rw [e];exact dA _ _ _
  have r:=Kr (k:=k) (M:=L1.map fun a=>(g - a)%24) (g:=g) (m:=m) (es:=es) hx (by simp) hl
  have ih:=Cd (k:=k) (g:=g) (m:=m) (es:=es) hl L2 (L1++[a]) (by rw [e];simp)
  simp only [List.map_append,List.map_cons,List.map_nil,List.length_append,List.length_singleton] at ih
  rw [←ih,List.length_cons,aR,r]
  rfl
theorem Ay (g:Int):∀x:List Int,gR x (x.map fun a=>(g - a)%24)=x.map fun _=>g%24
 |[]=>rfl
 |a::x=>by
  have ih:=Ay g x
  unfold gR at ih ⊢
  rw [List.map_cons,List.map_cons,List.zipWith_cons_cons,ih]
  congr 1
  omega
theorem K1 (g:Int) {x:List Int} (h:x≠[]):gF x (x.map fun a=>(g - a)%24)=one (.an [iv (g%24),iv 0]):=by
 unfold gF
 rw [if_pos ⟨by simp,by simpa using h⟩,Ay]
 cases x with
 |nil=>exact absurd rfl h
 |cons a x=>
  rw [List.map_cons,List.headD_cons,if_pos (by simp)]
theorem K3 (x y:List Int):∃c d:Int,gF x y=one (.an [iv c,iv d]):=by
 unfold gF
 split
 · split<;>exact ⟨_,_,rfl⟩
 · exact ⟨_,_,rfl⟩
theorem Kn (l:List aj) (g:Int) (x y:List Int):aA P0 6 [.sl 3 l.length (aq l),iv g, .ag [.sl 1 x.length (bz x), .sl 1 y.length (bz y)]] (one (bv true)):=by
 have aw:aa bN 8 [] (one (bv true)):=rfl
 by_cases h1:l.length>102
 · exact ai ah kN (by rfl) (US 1 l.length x.length y.length g (aq l) (bz x) (bz y)) ⟨aw,decide_eq_true (by omega),aw,trivial⟩
 by_cases h2:x.length>50
 · exact ai ah kN (by rfl) (UT 1 l.length x.length y.length g (aq l) (bz x) (bz y)) ⟨aw,decide_eq_false (by omega),decide_eq_true (by omega),aw,trivial⟩
 by_cases h3:y.length>50
 · exact ai ah kN (by rfl) (UU 1 l.length x.length y.length g (aq l) (bz x) (bz y)) ⟨aw,decide_eq_false (by omega),decide_eq_false (by omega),decide_eq_true (by omega),aw,trivial⟩
 have lp:=Cd (k:=x.length+1) (x:=x) (g:=g) (m:=y.length) (es:=bz y) (by omega) x [] rfl
 obtain ⟨c,d,hcd⟩:=K3 x y
 have s1:aa bN 25 [.sl 1 x.length (bz x), .sl 1 y.length (bz y)] (one (.an [iv c,iv d])):=by rw [←hcd];exact A6 (y:=some y) ⟨by omega,fun h=>by simp at h⟩
 have s2:aa bN 26 [.sl 1 x.length (bz x), .sl 1 y.length (bz y)] (one (.an [iv c,iv d])):=by rw [←hcd];exact KT (by omega)
 have md:aa bN 13 [iv g] (one (iv (g%24))):=rfl
 have g1:decide ((l.length:Int)>102)=false:=decide_eq_false (by omega)
 have g2:decide ((x.length:Int)>50)=false:=decide_eq_false (by omega)
 have g3:decide ((y.length:Int)>50)=false:=decide_eq_false (by omega)
 have ne:∀a:Int,(a !=a)=false:=fun a=>by simp
 have eq:∀a:Int,(a==a)=true:=fun a=>by simp
 have key:(∃e:Int,e≠0∧jB g l=one (.an [aU,iv e]))∨(∃M:List aj,M.length=l.length∧jB g l=one (.an [jL M,iv 0])):=by
  unfold jB
  split
  · exact .inl ⟨3,by decide,rfl⟩
  · split
    · exact .inr ⟨_,by rw [dm,List.length_map],rfl⟩
    · exact .inl ⟨1,by decide,rfl⟩
 have qJ:aa bN 23 [.sl 3 l.length (aq l),iv g] (jB g l):=GF l g
 have qK:aa bN 24 [.sl 3 l.length (aq l),iv g] (jB g l):=GF l g
 have sn:aa bN 27 [aU,aU] (one (bv true)):=AZ (l:=[]) (by decide)
 by_cases hx:x=[]
 · have b1:aa bN 25 [.sl 1 x.length (bz x),aU] (one (.an [iv 0,iv 1])):=by subst hx;exact A6 (x:=[]) (y:=none) ⟨by decide,fun _=>rfl⟩
   have xl:((x.length:Int)==0)=true:=by subst hx;rfl
   have jl:aR (aI MD bN (x.length+1) 6 0) (x.length+1) (Nd g x.length y.length (bz x) (bz y) 0)=some (.exit 0,⟨[(1, .pv (iv g)),(5, .bp 5 0),(15, .pv aU),(99, .pv (.sl 1 x.length (bz x))),(100, .pv (iv x.length)),(101, .pv (iv x.length)),(102, .pv (bv false))],[(5,[.sl 1 x.length (bz x), .sl 1 y.length (bz y)])],[],[]⟩):=by
    rw [show (x.map fun a=>(g - a)%24)=[] by rw [hx];rfl] at lp
    exact lp
   rcases key with ⟨e,he,hs⟩|⟨M,hM,hs⟩
   · rw [hs] at qJ qK
     exact ai ah kN (by rfl) (P9 (x.length+1) l.length x.length y.length 0 0 x.length g c d e 0 1 0 (aq l) (bz x) (bz y) [] [] [] 0 0) ⟨aw,g1,g2,g3,qJ,qK,s1,s2,sn,ne _,ne _,ne _,by simpa using he,jl,b1,xl,rfl,trivial⟩
   · rw [hs] at qJ qK
     cases M with
     |nil=>exact ai ah kN (by rfl) (Qd (x.length+1) l.length x.length y.length 0 0 x.length g c d 0 0 1 0 (aq l) (bz x) (bz y) [] [] [] 0 0) ⟨aw,g1,g2,g3,qJ,qK,s1,s2,sn,ne _,ne _,ne _,rfl,by rw [←hM];rfl,jl,b1,xl,rfl,trivial⟩
     |cons z M=>
      have sm:aa bN 27 [jL (z::M),jL (z::M)] (one (bv true)):=AZ (by omega)
      rw [lC (by simp)] at qJ qK sm
      exact ai ah kN (by rfl) (Qb (x.length+1) l.length x.length y.length 0 (z::M).length x.length g c d 0 0 1 0 (aq l) (bz x) (bz y) [] [] (aq (z::M)) 0 0) ⟨aw,g1,g2,g3,qJ,qK,s1,s2,sm,ne _,ne _,ne _,rfl,by rw [hM];exact ne _,jl,b1,xl,rfl,trivial⟩
 · have hr:gF x (x.map fun a=>(g - a)%24)=one (.an [iv (g%24),iv 0]):=K1 g hx
   have hlen:(x.map fun a=>(g - a)%24).length=x.length:=by simp
   have b1:aa bN 25 [.sl 1 x.length (bz x), .sl 1 (x.map fun a=>(g - a)%24).length (bz (x.map fun a=>(g - a)%24))] (one (.an [iv (g%24),iv 0])):=by rw [←hr];exact A6 (y:=some _) ⟨by omega,fun h=>by simp at h⟩
   have xl:((x.length:Int)==0)=false:=beq_false_of_ne (fun h=>hx (List.length_eq_zero_iff.1 (by omega)))
   have jl:aR (aI MD bN (x.length+1) 6 0) (x.length+1) (Nd g x.length y.length (bz x) (bz y) 0)=some (.exit 0,⟨[(1, .pv (iv g)),(5, .bp 5 0),(15, .pv (.sl 1 (x.map fun a=>(g - a)%24).length (bz (x.map fun a=>(g - a)%24)))),(99, .pv (.sl 1 x.length (bz x))),(100, .pv (iv x.length)),(101, .pv (iv x.length)),(102, .pv (bv false))],[(5,[.sl 1 x.length (bz x), .sl 1 y.length (bz y)])],[(.s 15,1)],[]⟩):=by
    obtain ⟨a,x',rfl⟩:∃a x',x=a::x':=by cases x with
     |nil=>exact absurd rfl hx
     |cons a x'=>exact ⟨a,x',rfl⟩
    exact lp
   generalize (x.map fun a=>(g - a)%24)=N at b1 jl
   rcases key with ⟨e,he,hs⟩|⟨M,hM,hs⟩
   · rw [hs] at qJ qK
     exact ai ah kN (by rfl) (Qa (x.length+1) l.length x.length y.length N.length 0 x.length g c d e (g%24) 0 (g%24) (aq l) (bz x) (bz y) (bz N) [] [] 0 0) ⟨aw,g1,g2,g3,qJ,qK,s1,s2,sn,ne _,ne _,ne _,by simpa using he,jl,b1,xl,rfl,md,eq _,trivial⟩
   · rw [hs] at qJ qK
     cases M with
     |nil=>exact ai ah kN (by rfl) (Qe (x.length+1) l.length x.length y.length N.length 0 x.length g c d 0 (g%24) 0 (g%24) (aq l) (bz x) (bz y) (bz N) [] [] 0 0) ⟨aw,g1,g2,g3,qJ,qK,s1,s2,sn,ne _,ne _,ne _,rfl,by rw [←hM];rfl,jl,b1,xl,rfl,md,eq _,trivial⟩
     |cons z M=>
      have sm:aa bN 27 [jL (z::M),jL (z::M)] (one (bv true)):=AZ (by omega)
      rw [lC (by simp)] at qJ qK sm
      exact ai ah kN (by rfl) (Qc (x.length+1) l.length x.length y.length N.length (z::M).length x.length g c d 0 (g%24) 0 (g%24) (aq l) (bz x) (bz y) (bz N) [] (aq (z::M)) 0 0) ⟨aw,g1,g2,g3,qJ,qK,s1,s2,sm,ne _,ne _,ne _,rfl,by rw [hM];exact ne _,jl,b1,xl,rfl,md,eq _,trivial⟩
end Go.Proofs.YtibbgjafjhcemaaDoor.Cul
