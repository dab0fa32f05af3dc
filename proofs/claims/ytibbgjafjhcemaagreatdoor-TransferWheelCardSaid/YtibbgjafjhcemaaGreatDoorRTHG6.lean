/- Part of a proof by an abstract machine for the program's code: lemmas, without conditions of their own beyond those that each states. (Made smaller by a program: short names, no comments.) -/
import Derived.Test.YtibbgjafjhcemaaGreatDoorProg
import Derived.Maps.RangeRun
import Derived.Maps.Range
import Derived.WideMake
import Derived.Test.YtibbgjafjhcemaaGreatDoorRTHG5
set_option linter.unusedVariables false
set_option linter.unusedSimpArgs false
set_option maxRecDepth 100000
set_option maxHeartbeats 2000000
namespace Go.Proofs.YtibbgjafjhcemaaGreatDoor.Cul
open Go Go.RowKit
noncomputable def t26:Cl:=bM [(46,eU)]
def RI.ok (r:RI):Bool:=cC r.g r.s
def RI.sh (r:RI):Bool:=decide (r.s.size≤3)&&r.ok
def RI.z (r:RI):Int:=if r.g then -(bI r.s:Int) else (bI r.s:Int)
theorem XM (k i j u b w1 w2:Nat) (g:Bool) (s:ByteArray) (xs zs os os':List PV):ay MD t26 k 44 1 ⟨[(1, .bp 1 0),(2, .bp 2 0),(4, .bp 4 0),(5, .pv (iv i)),(6, .bp 6 0),(7, .pv (iv j))],[(1,xs),(2,zs),(4,os),(6,[bv g,sv s])],[],[]⟩ [.c true, .j 39 i, .e 40 (iv u), .i 41 w1, .i 45 b, .i 46 b, .i 47 w2, .j 48 i, .s os', .i 36 (j+1:Nat)]=
 some ((Xt.normal,St.mk [(1,AV.bp 1 0),(2,AV.bp 2 0),(4,AV.bp 4 0),(5,AV.pv (iv (↑i:Int))),(6,AV.bp 6 0),(7,AV.pv (iv (↑(j+(1:Nat)):Int)))] [(1,xs),(2,zs),(4,os'),(6,[bv g,sv s])] [] []),[],[decide ((↑j:Int)<(↑s.size:Int))=true,aJ (↑i:Int) 5 i,Ld MD.P 3 os (0+i* 1) (iv (↑u:Int)),IntKind.i64.wrap ((↑u:Int)* (2:Int)^min (Int.toNat (8:Int)) IntKind.i64.bits)=(↑w1:Int),false=false,eu s (↑j:Int) (↑b:Int),IntKind.i64.wrap (↑b:Int)=(↑b:Int),IntKind.i64.wrap ((↑w1:Int)+(↑b:Int))=(↑w2:Int),aJ (↑i:Int) 5 i,0+i* 1+1≤os.length,bZ os (0+i* 1) [iv (↑w2:Int)] os',IntKind.i64.wrap ((↑j:Int)+(1:Int))=(↑(j+(1:Nat)):Int)]):=by kernel_rfl
theorem XN (k i j:Nat) (g:Bool) (s:ByteArray) (xs zs os:List PV):ay MD t26 k 44 1 ⟨[(1, .bp 1 0),(2, .bp 2 0),(4, .bp 4 0),(5, .pv (iv i)),(6, .bp 6 0),(7, .pv (iv j))],[(1,xs),(2,zs),(4,os),(6,[bv g,sv s])],[],[]⟩ [.c false]=
 some ((Xt.exit 2,St.mk [(1,AV.bp 1 0),(2,AV.bp 2 0),(4,AV.bp 4 0),(5,AV.pv (iv (↑i:Int))),(6,AV.bp 6 0),(7,AV.pv (iv (↑j:Int))),(34,AV.pv (bv false))] [(1,xs),(2,zs),(4,os),(6,[bv g,sv s])] [] []),[],[decide ((↑j:Int)<(↑s.size:Int))=false]):=by kernel_rfl
theorem XA (k i:Nat) (g gd:Bool) (s sd:ByteArray) (l0 l1 l2 l3 l4:Int) (xs:List PV):ay MD t26 k 44 0 ⟨[(1, .bp 1 0),(2, .bp 2 0),(4, .bp 4 0),(5, .pv (iv i))],[(1,xs),(2,[iv 0,iv 0,iv 0,iv 0,iv 0]),(4,[iv l0,iv l1,iv l2,iv l3,iv l4])],[],[]⟩ [.c true, .e 13 (iz gd sd), .c true, .j 18 i, .e 19 (iz g s), .c true]=
 some ((Xt.ret,St.mk [(2,AV.bp 2 0),(3,AV.pv (bv false))] [(2,[iv l0,iv l1,iv l2,iv l3,iv l4])] [] []),[],[decide ((↑i:Int)<(5:Int))=true,Ld MD.P 23 xs 8 (PV.ag [bv gd,sv sd]),decide ((↑i:Int)<(4:Int))=true,aJ (↑i:Int) 4 i,Ld MD.P 23 xs (0+i* 2) (PV.ag [bv g,sv s]),decide ((↑s.size:Int)>(3:Int))=true]):=by kernel_rfl
theorem XB (k i:Nat) (g gd:Bool) (s sd:ByteArray) (l0 l1 l2 l3 l4:Int) (xs:List PV):ay MD t26 k 44 0 ⟨[(1, .bp 1 0),(2, .bp 2 0),(4, .bp 4 0),(5, .pv (iv i))],[(1,xs),(2,[iv 0,iv 0,iv 0,iv 0,iv 0]),(4,[iv l0,iv l1,iv l2,iv l3,iv l4])],[],[]⟩ [.c true, .e 13 (iz gd sd), .c true, .j 18 i, .e 19 (iz g s), .c false, .r (one (bv false))]=
 some ((Xt.ret,St.mk [(2,AV.bp 2 0),(3,AV.pv (bv false))] [(2,[iv l0,iv l1,iv l2,iv l3,iv l4])] [] []),[],[decide ((↑i:Int)<(5:Int))=true,Ld MD.P 23 xs 8 (PV.ag [bv gd,sv sd]),decide ((↑i:Int)<(4:Int))=true,aJ (↑i:Int) 4 i,Ld MD.P 23 xs (0+i* 2) (PV.ag [bv g,sv s]),decide ((↑s.size:Int)>(3:Int))=false,aa t26 46 [PV.ag [bv g,sv s]] (RV.mk (bv false) none)]):=by kernel_rfl
theorem XC (k i:Nat) (gd:Bool) (s sd:ByteArray) (xs zs os os':List PV):ay MD t26 k 44 0 ⟨[(1, .bp 1 0),(2, .bp 2 0),(4, .bp 4 0),(5, .pv (iv i))],[(1,xs),(2,zs),(4,os)],[],[]⟩ [.c true, .e 13 (iz gd sd), .c true, .j 18 i, .e 19 (iz false s), .c false, .r (one (bv true)), .l (.exit 2) ⟨[(1, .bp 1 0),(2, .bp 2 0),(4, .bp 4 0),(5, .pv (iv i)),(6, .bp 6 0),(7, .pv (iv s.size)),(34, .pv (bv false))],[(1,xs),(2,zs),(4,os'),(6,[bv false,sv s])],[],[]⟩, .i 11 (i+1:Nat)]=
 some ((Xt.normal,St.mk [(1,AV.bp 1 0),(2,AV.bp 2 0),(4,AV.bp 4 0),(5,AV.pv (iv (↑(i+(1:Nat)):Int)))] [(1,xs),(2,zs),(4,os')] [] []),[],[decide ((↑i:Int)<(5:Int))=true,Ld MD.P 23 xs 8 (PV.ag [bv gd,sv sd]),decide ((↑i:Int)<(4:Int))=true,aJ (↑i:Int) 4 i,Ld MD.P 23 xs (0+i* 2) (PV.ag [bv false,sv s]),decide ((↑s.size:Int)>(3:Int))=false,aa t26 46 [PV.ag [bv false,sv s]] (RV.mk (bv true) none),aX MD t26 k (44:Nat) (1:Nat) (St.mk [(1,AV.bp 1 0),(2,AV.bp 2 0),(4,AV.bp 4 0),(5,AV.pv (iv (↑i:Int))),(6,AV.bp 6 0),(7,AV.pv (iv (0:Int)))] [(1,xs),(2,zs),(4,os),(6,[bv false,sv s])] [] []) (Xt.exit 2) (St.mk [(1,AV.bp 1 0),(2,AV.bp 2 0),(4,AV.bp 4 0),(5,AV.pv (iv (↑i:Int))),(6,AV.bp 6 0),(7,AV.pv (iv (↑s.size:Int))),(34,AV.pv (bv false))] [(1,xs),(2,zs),(4,os'),(6,[bv false,sv s])] [] []),IntKind.i64.wrap ((↑i:Int)+(1:Int))=(↑(i+(1:Nat)):Int)]):=by kernel_rfl
theorem XD (k i:Nat) (u w:Int) (gd:Bool) (s sd:ByteArray) (xs zs os os' Al:List PV):ay MD t26 k 44 0 ⟨[(1, .bp 1 0),(2, .bp 2 0),(4, .bp 4 0),(5, .pv (iv i))],[(1,xs),(2,zs),(4,os)],[],[]⟩ [.c true, .e 13 (iz gd sd), .c true, .j 18 i, .e 19 (iz true s), .c false, .r (one (bv true)), .l (.exit 2) ⟨[(1, .bp 1 0),(2, .bp 2 0),(4, .bp 4 0),(5, .pv (iv i)),(6, .bp 6 0),(7, .pv (iv s.size)),(34, .pv (bv false))],[(1,xs),(2,zs),(4,os'),(6,[bv true,sv s])],[],[]⟩, .j 53 i, .e 54 (iv u), .i 55 w, .j 56 i, .s Al, .i 11 (i+1:Nat)]=
 some ((Xt.normal,St.mk [(1,AV.bp 1 0),(2,AV.bp 2 0),(4,AV.bp 4 0),(5,AV.pv (iv (↑(i+(1:Nat)):Int)))] [(1,xs),(2,zs),(4,Al)] [] []),[],[decide ((↑i:Int)<(5:Int))=true,Ld MD.P 23 xs 8 (PV.ag [bv gd,sv sd]),decide ((↑i:Int)<(4:Int))=true,aJ (↑i:Int) 4 i,Ld MD.P 23 xs (0+i* 2) (PV.ag [bv true,sv s]),decide ((↑s.size:Int)>(3:Int))=false,aa t26 46 [PV.ag [bv true,sv s]] (RV.mk (bv true) none),aX MD t26 k (44:Nat) (1:Nat) (St.mk [(1,AV.bp 1 0),(2,AV.bp 2 0),(4,AV.bp 4 0),(5,AV.pv (iv (↑i:Int))),(6,AV.bp 6 0),(7,AV.pv (iv (0:Int)))] [(1,xs),(2,zs),(4,os),(6,[bv true,sv s])] [] []) (Xt.exit 2) (St.mk [(1,AV.bp 1 0),(2,AV.bp 2 0),(4,AV.bp 4 0),(5,AV.pv (iv (↑i:Int))),(6,AV.bp 6 0),(7,AV.pv (iv (↑s.size:Int))),(34,AV.pv (bv false))] [(1,xs),(2,zs),(4,os'),(6,[bv true,sv s])] [] []),aJ (↑i:Int) 5 i,Ld MD.P 3 os' (0+i* 1) (iv u),IntKind.i64.wrap ((0:Int) - u)=w,aJ (↑i:Int) 5 i,0+i* 1+1≤os'.length,bZ os' (0+i* 1) [iv w] Al,IntKind.i64.wrap ((↑i:Int)+(1:Int))=(↑(i+(1:Nat)):Int)]):=by kernel_rfl
theorem XE (k:Nat) (gd:Bool) (sd:ByteArray) (l0 l1 l2 l3 l4:Int) (xs:List PV):ay MD t26 k 44 0 ⟨[(1, .bp 1 0),(2, .bp 2 0),(4, .bp 4 0),(5, .pv (iv 4))],[(1,xs),(2,[iv 0,iv 0,iv 0,iv 0,iv 0]),(4,[iv l0,iv l1,iv l2,iv l3,iv l4])],[],[]⟩ [.c true, .e 13 (iz gd sd), .c false, .c true]=
 some ((Xt.ret,St.mk [(2,AV.bp 2 0),(3,AV.pv (bv false))] [(2,[iv l0,iv l1,iv l2,iv l3,iv l4])] [] []),[],[true=true,Ld MD.P 23 xs 8 (PV.ag [bv gd,sv sd]),false=false,decide ((↑sd.size:Int)>(3:Int))=true]):=by kernel_rfl
theorem XF (k:Nat) (gd:Bool) (sd:ByteArray) (l0 l1 l2 l3 l4:Int) (xs:List PV):ay MD t26 k 44 0 ⟨[(1, .bp 1 0),(2, .bp 2 0),(4, .bp 4 0),(5, .pv (iv 4))],[(1,xs),(2,[iv 0,iv 0,iv 0,iv 0,iv 0]),(4,[iv l0,iv l1,iv l2,iv l3,iv l4])],[],[]⟩ [.c true, .e 13 (iz gd sd), .c false, .c false, .r (one (bv false))]=
 some ((Xt.ret,St.mk [(2,AV.bp 2 0),(3,AV.pv (bv false))] [(2,[iv l0,iv l1,iv l2,iv l3,iv l4])] [] []),[],[true=true,Ld MD.P 23 xs 8 (PV.ag [bv gd,sv sd]),false=false,decide ((↑sd.size:Int)>(3:Int))=false,aa t26 46 [PV.ag [bv gd,sv sd]] (RV.mk (bv false) none)]):=by kernel_rfl
theorem XG (k i:Nat) (sd:ByteArray) (xs zs os os':List PV):ay MD t26 k 44 0 ⟨[(1, .bp 1 0),(2, .bp 2 0),(4, .bp 4 0),(5, .pv (iv i))],[(1,xs),(2,zs),(4,os)],[],[]⟩ [.c true, .e 13 (iz false sd), .c false, .c false, .r (one (bv true)), .l (.exit 2) ⟨[(1, .bp 1 0),(2, .bp 2 0),(4, .bp 4 0),(5, .pv (iv i)),(6, .bp 6 0),(7, .pv (iv sd.size)),(34, .pv (bv false))],[(1,xs),(2,zs),(4,os'),(6,[bv false,sv sd])],[],[]⟩, .i 11 (i+1:Nat)]=
 some ((Xt.normal,St.mk [(1,AV.bp 1 0),(2,AV.bp 2 0),(4,AV.bp 4 0),(5,AV.pv (iv (↑(i+(1:Nat)):Int)))] [(1,xs),(2,zs),(4,os')] [] []),[],[decide ((↑i:Int)<(5:Int))=true,Ld MD.P 23 xs 8 (PV.ag [bv false,sv sd]),decide ((↑i:Int)<(4:Int))=false,decide ((↑sd.size:Int)>(3:Int))=false,aa t26 46 [PV.ag [bv false,sv sd]] (RV.mk (bv true) none),aX MD t26 k (44:Nat) (1:Nat) (St.mk [(1,AV.bp 1 0),(2,AV.bp 2 0),(4,AV.bp 4 0),(5,AV.pv (iv (↑i:Int))),(6,AV.bp 6 0),(7,AV.pv (iv (0:Int)))] [(1,xs),(2,zs),(4,os),(6,[bv false,sv sd])] [] []) (Xt.exit 2) (St.mk [(1,AV.bp 1 0),(2,AV.bp 2 0),(4,AV.bp 4 0),(5,AV.pv (iv (↑i:Int))),(6,AV.bp 6 0),(7,AV.pv (iv (↑sd.size:Int))),(34,AV.pv (bv false))] [(1,xs),(2,zs),(4,os'),(6,[bv false,sv sd])] [] []),IntKind.i64.wrap ((↑i:Int)+(1:Int))=(↑(i+(1:Nat)):Int)]):=by kernel_rfl
theorem XH (k i:Nat) (u w:Int) (sd:ByteArray) (xs zs os os' Al:List PV):ay MD t26 k 44 0 ⟨[(1, .bp 1 0),(2, .bp 2 0),(4, .bp 4 0),(5, .pv (iv i))],[(1,xs),(2,zs),(4,os)],[],[]⟩ [.c true, .e 13 (iz true sd), .c false, .c false, .r (one (bv true)), .l (.exit 2) ⟨[(1, .bp 1 0),(2, .bp 2 0),(4, .bp 4 0),(5, .pv (iv i)),(6, .bp 6 0),(7, .pv (iv sd.size)),(34, .pv (bv false))],[(1,xs),(2,zs),(4,os'),(6,[bv true,sv sd])],[],[]⟩, .j 53 i, .e 54 (iv u), .i 55 w, .j 56 i, .s Al, .i 11 (i+1:Nat)]=
 some ((Xt.normal,St.mk [(1,AV.bp 1 0),(2,AV.bp 2 0),(4,AV.bp 4 0),(5,AV.pv (iv (↑(i+(1:Nat)):Int)))] [(1,xs),(2,zs),(4,Al)] [] []),[],[decide ((↑i:Int)<(5:Int))=true,Ld MD.P 23 xs 8 (PV.ag [bv true,sv sd]),decide ((↑i:Int)<(4:Int))=false,decide ((↑sd.size:Int)>(3:Int))=false,aa t26 46 [PV.ag [bv true,sv sd]] (RV.mk (bv true) none),aX MD t26 k (44:Nat) (1:Nat) (St.mk [(1,AV.bp 1 0),(2,AV.bp 2 0),(4,AV.bp 4 0),(5,AV.pv (iv (↑i:Int))),(6,AV.bp 6 0),(7,AV.pv (iv (0:Int)))] [(1,xs),(2,zs),(4,os),(6,[bv true,sv sd])] [] []) (Xt.exit 2) (St.mk [(1,AV.bp 1 0),(2,AV.bp 2 0),(4,AV.bp 4 0),(5,AV.pv (iv (↑i:Int))),(6,AV.bp 6 0),(7,AV.pv (iv (↑sd.size:Int))),(34,AV.pv (bv false))] [(1,xs),(2,zs),(4,os'),(6,[bv true,sv sd])] [] []),aJ (↑i:Int) 5 i,Ld MD.P 3 os' (0+i* 1) (iv u),IntKind.i64.wrap ((0:Int) - u)=w,aJ (↑i:Int) 5 i,0+i* 1+1≤os'.length,bZ os' (0+i* 1) [iv w] Al,IntKind.i64.wrap ((↑i:Int)+(1:Int))=(↑(i+(1:Nat)):Int)]):=by kernel_rfl
theorem XI (k:Nat) (xs zs os:List PV):ay MD t26 k 44 0 ⟨[(1, .bp 1 0),(2, .bp 2 0),(4, .bp 4 0),(5, .pv (iv 5))],[(1,xs),(2,zs),(4,os)],[],[]⟩ [.c false]=
 some ((Xt.exit 0,St.mk [(1,AV.bp 1 0),(2,AV.bp 2 0),(4,AV.bp 4 0),(5,AV.pv (iv (5:Int))),(9,AV.pv (bv false))] [(1,xs),(2,zs),(4,os)] [] []),[],[false=false]):=by kernel_rfl
theorem XK (k:Nat) (x:an) (l0 l1 l2 l3 l4:Int):aA MD t26 k 44 [.ag x.cells] [.l .ret ⟨[(2, .bp 2 0),(3, .pv (bv false))],[(2,[iv l0,iv l1,iv l2,iv l3,iv l4])],[],[]⟩]=
 some (RV.mk (PV.aQ [PV.ag [iv l0,iv l1,iv l2,iv l3,iv l4],bv false]) none,[aX MD t26 k (44:Nat) (0:Nat) (St.mk [(1,AV.bp 1 0),(2,AV.bp 2 0),(4,AV.bp 4 0),(5,AV.pv (iv (0:Int)))] [(1,x.cells),(2,[iv (0:Int),iv (0:Int),iv (0:Int),iv (0:Int),iv (0:Int)]),(4,[iv (0:Int),iv (0:Int),iv (0:Int),iv (0:Int),iv (0:Int)])] [] []) Xt.ret (St.mk [(2,AV.bp 2 0),(3,AV.pv (bv false))] [(2,[iv l0,iv l1,iv l2,iv l3,iv l4])] [] [])]):=by kernel_rfl
theorem XL (k:Nat) (x:an) (l0 l1 l2 l3 l4:Int):aA MD t26 k 44 [.ag x.cells] [.l (.exit 0) ⟨[(1, .bp 1 0),(2, .bp 2 0),(4, .bp 4 0),(5, .pv (iv 5)),(9, .pv (bv false))],[(1,x.cells),(2,[iv 0,iv 0,iv 0,iv 0,iv 0]),(4,[iv l0,iv l1,iv l2,iv l3,iv l4])],[],[]⟩]=
 some (RV.mk (PV.aQ [PV.ag [iv l0,iv l1,iv l2,iv l3,iv l4],bv true]) none,[aX MD t26 k (44:Nat) (0:Nat) (St.mk [(1,AV.bp 1 0),(2,AV.bp 2 0),(4,AV.bp 4 0),(5,AV.pv (iv (0:Int)))] [(1,x.cells),(2,[iv (0:Int),iv (0:Int),iv (0:Int),iv (0:Int),iv (0:Int)]),(4,[iv (0:Int),iv (0:Int),iv (0:Int),iv (0:Int),iv (0:Int)])] [] []) (Xt.exit 0) (St.mk [(1,AV.bp 1 0),(2,AV.bp 2 0),(4,AV.bp 4 0),(5,AV.pv (iv (5:Int))),(9,AV.pv (bv false))] [(1,x.cells),(2,[iv (0:Int),iv (0:Int),iv (0:Int),iv (0:Int),iv (0:Int)]),(4,[iv l0,iv l1,iv l2,iv l3,iv l4])] [] [])]):=by kernel_rfl
theorem TK (k i:Nat) (a b:Int) (xs:List PV):ay MD t26 k 45 1 ⟨[(1, .bp 1 0),(4, .pv (iv i)),(5, .pv (iv a)),(6, .pv (iv b))],[(1,xs)],[],[]⟩ [.c false]=
 some ((Xt.exit 2,St.mk [(1,AV.bp 1 0),(4,AV.pv (iv (↑i:Int))),(5,AV.pv (iv a)),(6,AV.pv (iv b)),(21,AV.pv (bv false))] [(1,xs)] [] []),[],[(b !=(0:Int))=false]):=by kernel_rfl
theorem TL (k i:Nat) (a b r:Int) (xs:List PV):ay MD t26 k 45 1 ⟨[(1, .bp 1 0),(4, .pv (iv i)),(5, .pv (iv a)),(6, .pv (iv b))],[(1,xs)],[],[]⟩ [.c true, .i 25 r]=
 some ((Xt.normal,St.mk [(1,AV.bp 1 0),(4,AV.pv (iv (↑i:Int))),(5,AV.pv (iv b)),(6,AV.pv (iv r))] [(1,xs)] [] []),[],[(b !=(0:Int))=true,a.tmod b=r,decide (b=(0:Int))=false]):=by kernel_rfl
theorem TM (k:Nat) (g i:Nat) (u n m r:Int) (xs:List PV):ay MD t26 k 45 0 ⟨[(1, .bp 1 0),(3, .pv (iv g)),(4, .pv (iv i))],[(1,xs)],[],[]⟩ [.c true, .j 13 i, .e 14 (iv u), .j 16 i, .e 17 (iv u), .i 18 n, .i 19 m, .l (.exit 2) ⟨[(1, .bp 1 0),(4, .pv (iv i)),(5, .pv (iv r)),(6, .pv (iv 0)),(21, .pv (bv false))],[(1,xs)],[],[]⟩, .i 10 (i+1:Nat)]=
 some ((Xt.normal,St.mk [(1,AV.bp 1 0),(3,AV.pv (iv r)),(4,AV.pv (iv (↑(i+(1:Nat)):Int)))] [(1,xs)] [] []),[],[decide ((↑i:Int)<(5:Int))=true,aJ (↑i:Int) 5 i,Ld MD.P 3 xs (0+i* 1) (iv u),aJ (↑i:Int) 5 i,Ld MD.P 3 xs (0+i* 1) (iv u),IntKind.i64.wrap ((0:Int) - u)=n,(if n>u then n else u)=m,aX MD t26 k (45:Nat) (1:Nat) (St.mk [(1,AV.bp 1 0),(4,AV.pv (iv (↑i:Int))),(5,AV.pv (iv (↑g:Int))),(6,AV.pv (iv m))] [(1,xs)] [] []) (Xt.exit 2) (St.mk [(1,AV.bp 1 0),(4,AV.pv (iv (↑i:Int))),(5,AV.pv (iv r)),(6,AV.pv (iv (0:Int))),(21,AV.pv (bv false))] [(1,xs)] [] []),IntKind.i64.wrap ((↑i:Int)+(1:Int))=(↑(i+(1:Nat)):Int)]):=by kernel_rfl
theorem TN (k:Nat) (g:Int) (xs:List PV):ay MD t26 k 45 0 ⟨[(1, .bp 1 0),(3, .pv (iv g)),(4, .pv (iv 5))],[(1,xs)],[],[]⟩ [.c false]=
 some ((Xt.exit 0,St.mk [(1,AV.bp 1 0),(3,AV.pv (iv g)),(4,AV.pv (iv (5:Int))),(8,AV.pv (bv false))] [(1,xs)] [] []),[],[false=false]):=by kernel_rfl
theorem TO (k:Nat) (l0 l1 l2 l3 l4 g:Int):aA MD t26 k 45 [.ag [iv l0,iv l1,iv l2,iv l3,iv l4]] [.l (.exit 0) ⟨[(1, .bp 1 0),(3, .pv (iv g)),(4, .pv (iv 5)),(8, .pv (bv false))],[(1,[iv l0,iv l1,iv l2,iv l3,iv l4])],[],[]⟩]=
 some (RV.mk (iv g) none,[aX MD t26 k (45:Nat) (0:Nat) (St.mk [(1,AV.bp 1 0),(3,AV.pv (iv (0:Int))),(4,AV.pv (iv (0:Int)))] [(1,[iv l0,iv l1,iv l2,iv l3,iv l4])] [] []) (Xt.exit 0) (St.mk [(1,AV.bp 1 0),(3,AV.pv (iv g)),(4,AV.pv (iv (5:Int))),(8,AV.pv (bv false))] [(1,[iv l0,iv l1,iv l2,iv l3,iv l4])] [] [])]):=by kernel_rfl
theorem QO {α:Type} {c:α→PV} {P:Program} {T:TypeId} (hs:bT P T=some 1) (hr:ep P T=false) (hu:(P.underlying T).isSome=true) {l:List α} {o i:Nat} {x:α} (h:l[i]? =some x) (ho:o=i):Ld P T (l.map c) o (c x):=by
 subst ho
 have:=gi h
 show ek P T (l.map c) o=some (c x)
 simp only [ek,hs,Option.bind_some,hr,hu]
 rw [if_pos (by rw [List.length_map];omega)]
 simp [h]
theorem JK {α:Type} {c:α→PV} {l m:List α} {o i:Nat} {y:α} (h:l.set i y=m) (hi:i<l.length) (ho:o=i):bZ (l.map c) o [c y] (m.map c):=by
 subst ho h
 show splice (l.map c) o [c y]=(l.set o y).map c
 simp only [splice,List.map_set,List.length_singleton]
 rw [List.set_eq_take_append_cons_drop,if_pos (by simpa using hi),List.append_assoc];rfl
theorem uX {l:List Int} {o i:Nat} {x:Int} (h:l[i]? =some x) (ho:o=i):Ld MD.P 3 (l.map iv) o (iv x):=QO JI Nr NX h ho
theorem Im {α:Type} {l:List α} {i:Nat} {x:α} (h:l[i]? =some x):l.set i x=l:=by
 apply List.ext_getElem?
 intro j
 by_cases e:i=j
 · subst e;rw [List.getElem?_set_self (gi h),h]
 · rw [List.getElem?_set_ne e]
theorem AS:aH MD.P t26:=aI (ak (ax fun x _=>jS x.1 x.2) aF)
def WI (i j:Nat) (g:Bool) (s:ByteArray) (xs zs os:List PV) (e:List (Nat×AV)):St:=⟨(1, .bp 1 0)::(2, .bp 2 0)::(4, .bp 4 0)::(5, .pv (iv i))::(6, .bp 6 0)::(7, .pv (iv j))::e,[(1,xs),(2,zs),(4,os),(6,[bv g,sv s])],[],[]⟩
theorem KX (k i:Nat) (g:Bool) (s:ByteArray) (xs zs:List PV) (l:List Int) (hl:l.length=5) (hi:i<5) (h0:l[i]? =some 0) (hs:s.size≤3) (hk:5≤k):
  bh (aU MD t26 k 44 1) k (WI i 0 g s xs zs (l.map iv) [])=some (.exit 2,WI i s.size g s xs zs ((l.set i (bI s:Nat)).map iv) [(34, .pv (bv false))]):=by
 have e0:l.set i ((val 256 ((aS s).drop (s.size - 0)):Nat):Int)=l:=by
  have:val 256 ((aS s).drop (s.size - 0))=0:=by
   rw [Nat.sub_zero,List.drop_of_length_le (by rw [bL];omega)];rfl
  rw [this];exact Im h0
 have e1:bI s=val 256 ((aS s).drop (s.size - s.size)):=by rw [Nat.sub_self,List.drop_zero];rfl
 have lp:=bK (f:=aU MD t26 k 44 1) (S:=fun j=>WI i j g s xs zs ((l.set i ((val 256 ((aS s).drop (s.size - j)):Nat):Int)).map iv) []) (n:=s.size) (fun j hj=> ?_) (aq (XN k i s.size g s xs zs _) ⟨decide_eq_false (by omega),trivial⟩) (by simp) k (by omega)
 · simp only [e0] at lp
   rw [e1];exact lp
 · obtain ⟨b,hb,cc⟩:=lO (s:=s) (i:=s.size - 1 - j) (by omega)
   have nI:b<256:=dz s b (List.mem_of_getElem? hb)
   rw [show s.size - 1 - (s.size - 1 - j)=j by omega] at cc
   have hd:=tH (b:=256) hb
   rw [show s.size - 1 - j+1=s.size - j by omega,show s.size - 1 - j=s.size - (j+1) by omega] at hd
   have hlt:=cT (jA (dz s) (s.size - (j+1)))
   rw [List.length_drop,bL] at hlt
   have h7:256^(s.size - (s.size - (j+1)))≤256^3:=Nat.pow_le_pow_right (by decide) (by omega)
   have zG:eu s (j:Int) (b:Int):=by
    show ja s _=_
    unfold ja
    rw [if_pos (by omega),Int.toNat_natCast]
    cases h:s[j]? with
    |none=>rw [h] at cc;simp at cc
    |some c=>rw [h] at cc;simp at cc;simp [cc]
   generalize hu:val 256 ((aS s).drop (s.size - j))=u at*
   generalize jc:val 256 ((aS s).drop (s.size - (j+1)))=u2 at*
   have hp:(2:Int)^min (Int.toNat 8) IntKind.i64.bits=256:=by decide
   have hg:(l.set i (u:Int))[i]? =some (u:Int):=List.getElem?_set_self (by omega)
   have hsp:bZ ((l.set i (u:Int)).map iv) (0+i* 1) [iv (u2:Nat)] ((l.set i (u2:Int)).map iv):=JK (by rw [List.set_set]) (by rw [List.length_set];omega) (by omega)
   exact aq (XM k i j u b (u* 256) u2 g s xs zs _ _) ⟨decide_eq_true (by omega),⟨rfl,hi⟩,uX hg (by omega),by rw [hp];exact aR (by omega) (by omega),rfl,zG,aR rfl (by omega),aR (by omega) (by omega),⟨rfl,hi⟩,by rw [List.length_map,List.length_set];omega,hsp,aR (by omega) (by omega),trivial⟩
def an.dh (x:an):List RI:=[x.c0,x.c1,x.c2,x.c3,x.d]
theorem an.Jf (x:an) {i:Nat} {r:RI} (hi:i<4) (h:x.dh[i]? =some r):Ld MD.P 23 x.cells (0+i* 2) (.ag r.cells):=by
 match i,hi with
 |0,_=>have e:x.c0=r:=Option.some.inj h;subst e;show ek _ _ _ _=_;kernel_rfl
 |1,_=>have e:x.c1=r:=Option.some.inj h;subst e;show ek _ _ _ _=_;kernel_rfl
 |2,_=>have e:x.c2=r:=Option.some.inj h;subst e;show ek _ _ _ _=_;kernel_rfl
 |3,_=>have e:x.c3=r:=Option.some.inj h;subst e;show ek _ _ _ _=_;kernel_rfl
theorem an.Pz (x:an):Ld MD.P 23 x.cells 8 (.ag x.d.cells):=by show ek _ _ _ _=_;kernel_rfl
def gF (rl:List RI) (i:Nat):List Int:=(rl.take i).map RI.z++List.replicate (5 - i) 0
theorem sk {rl:List RI} (h:rl.length=5) {i:Nat} (hi:i≤5):(gF rl i).length=5:=by simp [gF];omega
theorem Kq {rl:List RI} (h:rl.length=5) {i:Nat} (hi:i<5):(gF rl i)[i]? =some 0:=by
 unfold gF
 have e:((rl.take i).map RI.z).length=i:=by simp;omega
 rw [List.getElem?_append_right (by omega),List.getElem?_replicate,if_pos (by omega)]
theorem Kr {rl:List RI} (h:rl.length=5) {i:Nat} {r:RI} (hr:rl[i]? =some r):(gF rl i).set i r.z=gF rl (i+1):=by
 have hi:=gi hr
 unfold gF
 rw [List.set_append_right _ _ (by simp;omega)]
 obtain ⟨m,hm⟩:∃m,5 - i=m+1:=⟨4 - i,by omega⟩
 have e:i - ((rl.take i).map RI.z).length=0:=by simp;omega
 rw [e,hm,List.replicate_succ,List.set_cons_zero,show 5 - (i+1)=m by omega,List.take_add_one,hr]
 simp
def WO (x:an) (i:Nat) (l:List Int) (e:List (Nat×AV)):St:=⟨(1, .bp 1 0)::(2, .bp 2 0)::(4, .bp 4 0)::(5, .pv (iv i))::e,[(1,x.cells),(2,[iv 0,iv 0,iv 0,iv 0,iv 0]),(4,l.map iv)],[],[]⟩
theorem uY {α:Type} {l:List α} (h:l.length=5):∃a b c d e,l=[a,b,c,d,e]:=by
 match l,h with
 |[a,b,c,d,e],_=>exact ⟨a,b,c,d,e,rfl⟩
theorem RI.wU {r:RI} (h:r.sh=true):r.s.size≤3∧r.ok=true:=by
 unfold RI.sh at h
 simpa using h
theorem RI.Cz {r:RI} (h:r.s.size≤3):bI r.s<2^24:=by
 have:=cT (dz r.s)
 rw [bL] at this
 have h7:256^r.s.size≤256^3:=Nat.pow_le_pow_right (by decide) h
 unfold bI;omega
theorem N2 (k:Nat) (x:an) {i:Nat} {r:RI} (hi:i<5) (hr:x.dh[i]? =some r) (h:r.sh=true) (hk:5≤k):aU MD t26 k 44 0 (WO x i (gF x.dh i) [])=some (.normal,WO x (i+1) (gF x.dh (i+1)) []):=by
 obtain ⟨h1,h2⟩:=RI.wU h
 have hz:=RI.Cz h1
 have hl:=sk (rl:=x.dh) rfl (i:=i) (by omega)
 have fo:=Kr (rl:=x.dh) rfl hr
 have hv:=cy r.g r.s
 rw [show cC r.g r.s=true from h2] at hv
 have lp:=KX k i r.g r.s x.cells [iv 0,iv 0,iv 0,iv 0,iv 0] (gF x.dh i) hl hi (Kq rfl hi) h1 hk
 have hgd:Ld MD.P 23 x.cells 8 (iz x.d.g x.d.s):=x.Pz
 generalize hL:gF x.dh i=L at*
 obtain ⟨g,s⟩:=r
 cases g with
 |false=>
  have ez:RI.z ⟨false,s⟩=(bI s:Nat):=rfl
  rw [ez] at fo
  rw [fo] at lp
  by_cases h4:i<4
  · exact aq (XC k i x.d.g s x.d.s _ _ _ _) ⟨decide_eq_true (by omega),hgd,decide_eq_true (by omega),⟨rfl,h4⟩,x.Jf h4 hr,decide_eq_false (by simp at h1;omega),hv,lp,aR (by omega) (by omega),trivial⟩
  · have hi4:i=4:=by omega
    have ed:x.d=⟨false,s⟩:=by subst hi4;exact Option.some.inj hr
    have Hi:Ld MD.P 23 x.cells 8 (iz false s):=by rw [ed] at hgd;exact hgd
    exact aq (XG k i s _ _ _ _) ⟨decide_eq_true (by omega),Hi,decide_eq_false (by omega),decide_eq_false (by simp at h1;omega),hv,lp,aR (by omega) (by omega),trivial⟩
 |true=>
  have ez:RI.z ⟨true,s⟩= -((bI s:Nat):Int):=rfl
  rw [ez] at fo
  have hg:(L.set i ((bI s:Nat):Int))[i]? =some ((bI s:Nat):Int):=List.getElem?_set_self (by omega)
  have hsp:bZ ((L.set i ((bI s:Nat):Int)).map iv) (0+i* 1) [iv (-((bI s:Nat):Int))] ((gF x.dh (i+1)).map iv):=JK (by rw [List.set_set];exact fo) (by rw [List.length_set];omega) (by omega)
  have hle:0+i* 1+1≤((L.set i ((bI s:Nat):Int)).map iv).length:=by rw [List.length_map,List.length_set];omega
  have hneg:IntKind.i64.wrap (0 - ((bI s:Nat):Int))= -((bI s:Nat):Int):=by simp only at hz;rw [wrap64]<;>omega
  by_cases h4:i<4
  · exact aq (XD k i (bI s:Nat) (-((bI s:Nat):Int)) x.d.g s x.d.s _ _ _ _ _) ⟨decide_eq_true (by omega),hgd,decide_eq_true (by omega),⟨rfl,h4⟩,x.Jf h4 hr,decide_eq_false (by simp at h1;omega),hv,lp,⟨rfl,hi⟩,uX hg (by omega),hneg,⟨rfl,hi⟩,hle,hsp,aR (by omega) (by omega),trivial⟩
  · have hi4:i=4:=by omega
    have ed:x.d=⟨true,s⟩:=by subst hi4;exact Option.some.inj hr
    have Hi:Ld MD.P 23 x.cells 8 (iz true s):=by rw [ed] at hgd;exact hgd
    exact aq (XH k i (bI s:Nat) (-((bI s:Nat):Int)) s _ _ _ _ _) ⟨decide_eq_true (by omega),Hi,decide_eq_false (by omega),decide_eq_false (by simp at h1;omega),hv,lp,⟨rfl,hi⟩,uX hg (by omega),hneg,⟨rfl,hi⟩,hle,hsp,aR (by omega) (by omega),trivial⟩
theorem OL (k:Nat) (x:an) {i:Nat} {r:RI} (hi:i<5) (hr:x.dh[i]? =some r) (h:r.sh=false):aU MD t26 k 44 0 (WO x i (gF x.dh i) [])=some (.ret,⟨[(2, .bp 2 0),(3, .pv (bv false))],[(2,(gF x.dh i).map iv)],[],[]⟩):=by
 have hl:=sk (rl:=x.dh) rfl (i:=i) (by omega)
 have hv:=cy r.g r.s
 have hgd:Ld MD.P 23 x.cells 8 (iz x.d.g x.d.s):=x.Pz
 generalize hL:gF x.dh i=L at*
 obtain ⟨l0,l1,l2,l3,l4,rfl⟩:=uY hl
 by_cases h3:r.s.size≤3
 · have hok:cC r.g r.s=false:=by
     unfold RI.sh at h
     rw [decide_eq_true h3,Bool.true_and] at h
     exact h
   rw [hok] at hv
   by_cases h4:i<4
   · exact aq (XB k i r.g x.d.g r.s x.d.s l0 l1 l2 l3 l4 _) ⟨decide_eq_true (by omega),hgd,decide_eq_true (by omega),⟨rfl,h4⟩,x.Jf h4 hr,decide_eq_false (by omega),hv,trivial⟩
   · have hi4:i=4:=by omega
     subst hi4
     have ed:x.d=r:=Option.some.inj hr
     rw [ed] at hgd
     exact aq (XF k r.g r.s l0 l1 l2 l3 l4 _) ⟨rfl,hgd,rfl,decide_eq_false (by omega),hv,trivial⟩
 · by_cases h4:i<4
   · exact aq (XA k i r.g x.d.g r.s x.d.s l0 l1 l2 l3 l4 _) ⟨decide_eq_true (by omega),hgd,decide_eq_true (by omega),⟨rfl,h4⟩,x.Jf h4 hr,decide_eq_true (by omega),trivial⟩
   · have hi4:i=4:=by omega
     subst hi4
     have ed:x.d=r:=Option.some.inj hr
     rw [ed] at hgd
     exact aq (XE k r.g r.s l0 l1 l2 l3 l4 _) ⟨rfl,hgd,rfl,decide_eq_true (by omega),trivial⟩
theorem JO {α:Type} {p:α→Bool}:∀(l:List α) (i:Nat),i<(l.takeWhile p).length→∃x,l[i]? =some x∧p x=true
 |[],i,h=>by simp at h
 |a::l,i,h=>by
  cases hp:p a with
  |false=>rw [List.takeWhile_cons,hp] at h;simp at h
  |true=>
   rw [List.takeWhile_cons,hp] at h
   cases i with
   |zero=>exact ⟨a,rfl,hp⟩
   |succ i=>exact JO l i (by simpa using h)
theorem JN {α:Type} {p:α→Bool}:∀(l:List α),(l.takeWhile p).length<l.length→∃x,l[(l.takeWhile p).length]? =some x∧p x=false
 |[],h=>by simp at h
 |a::l,h=>by
  cases hp:p a with
  |false=>exact ⟨a,by rw [List.takeWhile_cons,hp];rfl,hp⟩
  |true=>
   rw [List.takeWhile_cons,hp] at h ⊢
   exact JN l (by simpa using h)
theorem DO {α:Type} {p:α→Bool}:∀(l:List α),(l.takeWhile p).length≤l.length
 |[]=>by simp
 |a::l=>by
  rw [List.takeWhile_cons]
  split
  · have:=DO (p:=p) l;simp;omega
  · simp
def an.kj (x:an):Nat:=(x.dh.takeWhile RI.sh).length
theorem FU (x:an):az P0 44 [.ag x.cells] (one (.aQ [.ag ((gF x.dh x.kj).map iv),bv (decide (x.kj=5))])):=by
 have hle:x.kj≤5:=DO x.dh
 have hl:=sk (rl:=x.dh) rfl hle
 have rounds:∀i,i<x.kj→aU MD t26 7 44 0 (WO x i (gF x.dh i) [])=some (.normal,WO x (i+1) (gF x.dh (i+1)) []):=fun i hi=>by
  obtain ⟨r,hr,hs⟩:=JO x.dh i hi
  exact N2 7 x (by omega) hr hs (by omega)
 by_cases h5:x.kj=5
 · rw [decide_eq_true h5]
   have lp:=bK (f:=aU MD t26 7 44 0) (S:=fun i=>WO x i (gF x.dh i) []) (n:=x.kj) rounds (r:=(.exit 0,WO x 5 (gF x.dh x.kj) [(9, .pv (bv false))])) (by
    rw [h5];exact aq (XI 7 x.cells _ _) ⟨rfl,trivial⟩) (by simp) 7 (by omega)
   generalize hL:gF x.dh x.kj=L at*
   obtain ⟨l0,l1,l2,l3,l4,rfl⟩:=uY hl
   exact aj ah AS (by rfl) (XL 7 x l0 l1 l2 l3 l4) ⟨lp,trivial⟩
 · rw [decide_eq_false h5]
   obtain ⟨r,hr,hs⟩:=JN (p:=RI.sh) x.dh (by show x.kj<5;omega)
   have lp:=bK (f:=aU MD t26 7 44 0) (S:=fun i=>WO x i (gF x.dh i) []) (n:=x.kj) rounds (OL 7 x (by omega) hr hs) (by simp) 7 (by omega)
   generalize hL:gF x.dh x.kj=L at*
   obtain ⟨l0,l1,l2,l3,l4,rfl⟩:=uY hl
   exact aj ah AS (by rfl) (XK 7 x l0 l1 l2 l3 l4) ⟨lp,trivial⟩
def gI (l:List Int):Nat:=l.foldl (fun g x=>Nat.gcd g x.natAbs) 0
theorem Kf {l:List Int} {i:Nat} {x:Int} (h:l[i]? =some x):gI (l.take (i+1))=Nat.gcd (gI (l.take i)) x.natAbs:=by
 unfold gI
 rw [List.take_add_one,h]
 simp
def GI (i a b:Nat) (xs:List PV) (e:List (Nat×AV)):St:=⟨(1, .bp 1 0)::(4, .pv (iv i))::(5, .pv (iv a))::(6, .pv (iv b))::e,[(1,xs)],[],[]⟩
theorem Kh (k i:Nat) (xs:List PV):∀(m n:Nat),bh (aU MD t26 k 45 1) (m+1) (GI i n m xs [])=some (.exit 2,GI i (Nat.gcd n m) 0 xs [(21, .pv (bv false))]):=by
 intro m
 induction m using Nat.strongRecOn with
 |_ m ih=>
  intro n
  by_cases h:m=0
  · subst h
    rw [Nat.gcd_zero_right]
    exact aW (aq (TK k i n 0 xs) ⟨rfl,trivial⟩) (by simp)
  · have hr:n%m<m:=Nat.mod_lt _ (by omega)
    have:=ih (n%m) hr m
    rw [mL] at this
    exact bz (aq (TL k i n m (n%m:Nat) xs) ⟨bne_iff_ne.2 (by omega),fQ _ _,decide_eq_false (by omega),trivial⟩) (bR (by omega) this)
theorem H9 (l:List Int) (hl:l.length=5) (hb:∀x∈l,x.natAbs<2^24):az P0 45 [.ag (l.map iv)] (one (iv (gI l:Nat))):=by
 obtain ⟨k,hk⟩:∃k,k=2^24+7:=⟨_,rfl⟩
 have lp:=bK (f:=aU MD t26 k 45 0) (S:=fun i=>⟨[(1, .bp 1 0),(3, .pv (iv (gI (l.take i):Nat))),(4, .pv (iv i))],[(1,l.map iv)],[],[]⟩) (n:=5) (fun i hi=>by
  obtain ⟨x,hx⟩:=get_some (l:=l) (i:=i) (by omega)
  have qB:=hb x (List.mem_of_getElem? hx)
  have lq:=bR (show x.natAbs+1≤k by omega) (Kh k i (l.map iv) x.natAbs (gI (l.take i)))
  simp only [Kf hx]
  exact aq (TM k (gI (l.take i)) i x (-x) (x.natAbs:Nat) (Nat.gcd (gI (l.take i)) x.natAbs:Nat) _) ⟨decide_eq_true (by omega),⟨rfl,hi⟩,uX hx (by omega),⟨rfl,hi⟩,uX hx (by omega),by rw [wrap64]<;>omega,by split<;>omega,lq,aR (by omega) (by omega),trivial⟩)
  (aq (TN k (gI (l.take 5):Nat) (l.map iv)) ⟨rfl,trivial⟩) (by simp) k (by omega)
 have e5:l.take 5=l:=List.take_of_length_le (by omega)
 simp only [e5] at lp
 obtain ⟨l0,l1,l2,l3,l4,rfl⟩:=uY hl
 exact aj ah AS (by rfl) (TO k l0 l1 l2 l3 l4 _) ⟨lp,trivial⟩
end Go.Proofs.YtibbgjafjhcemaaGreatDoor.Cul
namespace Go.Proofs.YtibbgjafjhcemaaGreatDoor.Cul
open Go Go.RowKit
noncomputable def Cf:List PV→Option RV:=bJ (fun _:an=>True) (fun x=>[.ag x.cells]) (fun x=>one (.aQ [.ag ((gF x.dh x.kj).map iv),bv (decide (x.kj=5))]))
noncomputable def FI:List PV→Option RV:=bJ (fun l:List Int=>l.length=5∧∀x∈l,x.natAbs<2^24) (fun l=>[.ag (l.map iv)]) (fun l=>one (iv (gI l:Nat)))
noncomputable def Dj:List PV→Option RV:=bJ (fun _:RI=>True) (fun r=>[.ag r.cells]) (fun r=>one (oq r.g r.s))
noncomputable def t27:Cl:=bM [(44,Cf),(45,FI),(46,eU),(47,CZ),(48,AK),(49,DC)]
theorem Xh (k:Nat) (x:an) (l0 l1 l2 l3 l4:Int):aA MD t27 k 20 [.ag x.cells] [.r (one (.aQ [.ag [iv l0,iv l1,iv l2,iv l3,iv l4],bv true])), .c false]=
 some (RV.mk (bv false) none,[aa t27 44 [PV.ag x.cells] (RV.mk (PV.aQ [PV.ag [iv l0,iv l1,iv l2,iv l3,iv l4],bv true]) none),decide (l4>(0:Int))=false]):=by kernel_rfl
theorem Xi (k:Nat) (x:an) (l0 l1 l2 l3 l4 g:Int) (b:Bool):aA MD t27 k 20 [.ag x.cells] [.r (one (.aQ [.ag [iv l0,iv l1,iv l2,iv l3,iv l4],bv true])), .c true, .r (one (iv g)), .c b]=
 some (RV.mk (bv b) none,[aa t27 44 [PV.ag x.cells] (RV.mk (PV.aQ [PV.ag [iv l0,iv l1,iv l2,iv l3,iv l4],bv true]) none),decide (l4>(0:Int))=true,aa t27 45 [PV.ag [iv l0,iv l1,iv l2,iv l3,iv l4]] (RV.mk (iv g) none),(g==(1:Int))=b]):=by kernel_rfl
theorem Xj (k:Nat) (x:an) (l0 l1 l2 l3 l4:Int):aA MD t27 k 20 [.ag x.cells] [.r (one (.aQ [.ag [iv l0,iv l1,iv l2,iv l3,iv l4],bv false])), .u 5, .c true, .r (one (bv false))]=
 some (RV.mk (bv false) none,[aa t27 44 [PV.ag x.cells] (RV.mk (PV.aQ [PV.ag [iv l0,iv l1,iv l2,iv l3,iv l4],bv false]) none),5≤k,true=true,aa t27 46 [PV.ag x.c0.cells] (RV.mk (bv false) none)]):=by kernel_rfl
theorem Xk (k:Nat) (x:an) (l0 l1 l2 l3 l4:Int) (y0:RI):aA MD t27 k 20 [.ag x.cells] [.r (one (.aQ [.ag [iv l0,iv l1,iv l2,iv l3,iv l4],bv false])), .u 5, .c true, .r (one (bv true)), .r (one (.ag y0.cells)), .c true, .r (one (bv false))]=
 some (RV.mk (bv false) none,[aa t27 44 [PV.ag x.cells] (RV.mk (PV.aQ [PV.ag [iv l0,iv l1,iv l2,iv l3,iv l4],bv false]) none),5≤k,true=true,aa t27 46 [PV.ag x.c0.cells] (RV.mk (bv true) none),aa t27 47 [PV.ag [bv false,sv (ByteArray.mk #[])],PV.ag x.c0.cells] (RV.mk (PV.ag y0.cells) none),true=true,aa t27 46 [PV.ag x.c1.cells] (RV.mk (bv false) none)]):=by kernel_rfl
theorem Xl (k:Nat) (x:an) (l0 l1 l2 l3 l4:Int) (y0 y1:RI):aA MD t27 k 20 [.ag x.cells] [.r (one (.aQ [.ag [iv l0,iv l1,iv l2,iv l3,iv l4],bv false])), .u 5, .c true, .r (one (bv true)), .r (one (.ag y0.cells)), .c true, .r (one (bv true)), .r (one (.ag y1.cells)), .c true, .r (one (bv false))]=
 some (RV.mk (bv false) none,[aa t27 44 [PV.ag x.cells] (RV.mk (PV.aQ [PV.ag [iv l0,iv l1,iv l2,iv l3,iv l4],bv false]) none),5≤k,true=true,aa t27 46 [PV.ag x.c0.cells] (RV.mk (bv true) none),aa t27 47 [PV.ag [bv false,sv (ByteArray.mk #[])],PV.ag x.c0.cells] (RV.mk (PV.ag y0.cells) none),true=true,aa t27 46 [PV.ag x.c1.cells] (RV.mk (bv true) none),aa t27 47 [PV.ag y0.cells,PV.ag x.c1.cells] (RV.mk (PV.ag y1.cells) none),true=true,aa t27 46 [PV.ag x.c2.cells] (RV.mk (bv false) none)]):=by kernel_rfl
theorem Xm (k:Nat) (x:an) (l0 l1 l2 l3 l4:Int) (y0 y1 y2:RI):aA MD t27 k 20 [.ag x.cells] [.r (one (.aQ [.ag [iv l0,iv l1,iv l2,iv l3,iv l4],bv false])), .u 5, .c true, .r (one (bv true)), .r (one (.ag y0.cells)), .c true, .r (one (bv true)), .r (one (.ag y1.cells)), .c true, .r (one (bv true)), .r (one (.ag y2.cells)), .c true, .r (one (bv false))]=
 some (RV.mk (bv false) none,[aa t27 44 [PV.ag x.cells] (RV.mk (PV.aQ [PV.ag [iv l0,iv l1,iv l2,iv l3,iv l4],bv false]) none),5≤k,true=true,aa t27 46 [PV.ag x.c0.cells] (RV.mk (bv true) none),aa t27 47 [PV.ag [bv false,sv (ByteArray.mk #[])],PV.ag x.c0.cells] (RV.mk (PV.ag y0.cells) none),true=true,aa t27 46 [PV.ag x.c1.cells] (RV.mk (bv true) none),aa t27 47 [PV.ag y0.cells,PV.ag x.c1.cells] (RV.mk (PV.ag y1.cells) none),true=true,aa t27 46 [PV.ag x.c2.cells] (RV.mk (bv true) none),aa t27 47 [PV.ag y1.cells,PV.ag x.c2.cells] (RV.mk (PV.ag y2.cells) none),true=true,aa t27 46 [PV.ag x.c3.cells] (RV.mk (bv false) none)]):=by kernel_rfl
theorem Xn (k:Nat) (x:an) (l0 l1 l2 l3 l4:Int) (y0 y1 y2 y3:RI):aA MD t27 k 20 [.ag x.cells] [.r (one (.aQ [.ag [iv l0,iv l1,iv l2,iv l3,iv l4],bv false])), .u 5, .c true, .r (one (bv true)), .r (one (.ag y0.cells)), .c true, .r (one (bv true)), .r (one (.ag y1.cells)), .c true, .r (one (bv true)), .r (one (.ag y2.cells)), .c true, .r (one (bv true)), .r (one (.ag y3.cells)), .c false, .r (one (bv false))]=
 some (RV.mk (bv false) none,[aa t27 44 [PV.ag x.cells] (RV.mk (PV.aQ [PV.ag [iv l0,iv l1,iv l2,iv l3,iv l4],bv false]) none),5≤k,true=true,aa t27 46 [PV.ag x.c0.cells] (RV.mk (bv true) none),aa t27 47 [PV.ag [bv false,sv (ByteArray.mk #[])],PV.ag x.c0.cells] (RV.mk (PV.ag y0.cells) none),true=true,aa t27 46 [PV.ag x.c1.cells] (RV.mk (bv true) none),aa t27 47 [PV.ag y0.cells,PV.ag x.c1.cells] (RV.mk (PV.ag y1.cells) none),true=true,aa t27 46 [PV.ag x.c2.cells] (RV.mk (bv true) none),aa t27 47 [PV.ag y1.cells,PV.ag x.c2.cells] (RV.mk (PV.ag y2.cells) none),true=true,aa t27 46 [PV.ag x.c3.cells] (RV.mk (bv true) none),aa t27 47 [PV.ag y2.cells,PV.ag x.c3.cells] (RV.mk (PV.ag y3.cells) none),false=false,aa t27 46 [PV.ag x.d.cells] (RV.mk (bv false) none)]):=by kernel_rfl
theorem Xo (k:Nat) (x:an) (l0 l1 l2 l3 l4 sg:Int) (y0 y1 y2 y3:RI):aA MD t27 k 20 [.ag x.cells] [.r (one (.aQ [.ag [iv l0,iv l1,iv l2,iv l3,iv l4],bv false])), .u 5, .c true, .r (one (bv true)), .r (one (.ag y0.cells)), .c true, .r (one (bv true)), .r (one (.ag y1.cells)), .c true, .r (one (bv true)), .r (one (.ag y2.cells)), .c true, .r (one (bv true)), .r (one (.ag y3.cells)), .c false, .r (one (bv true)), .r (one (iv sg)), .c false]=
 some (RV.mk (bv false) none,[aa t27 44 [PV.ag x.cells] (RV.mk (PV.aQ [PV.ag [iv l0,iv l1,iv l2,iv l3,iv l4],bv false]) none),5≤k,true=true,aa t27 46 [PV.ag x.c0.cells] (RV.mk (bv true) none),aa t27 47 [PV.ag [bv false,sv (ByteArray.mk #[])],PV.ag x.c0.cells] (RV.mk (PV.ag y0.cells) none),true=true,aa t27 46 [PV.ag x.c1.cells] (RV.mk (bv true) none),aa t27 47 [PV.ag y0.cells,PV.ag x.c1.cells] (RV.mk (PV.ag y1.cells) none),true=true,aa t27 46 [PV.ag x.c2.cells] (RV.mk (bv true) none),aa t27 47 [PV.ag y1.cells,PV.ag x.c2.cells] (RV.mk (PV.ag y2.cells) none),true=true,aa t27 46 [PV.ag x.c3.cells] (RV.mk (bv true) none),aa t27 47 [PV.ag y2.cells,PV.ag x.c3.cells] (RV.mk (PV.ag y3.cells) none),false=false,aa t27 46 [PV.ag x.d.cells] (RV.mk (bv true) none),aa t27 48 [PV.ag x.d.cells] (RV.mk (iv sg) none),decide (sg>(0:Int))=false]):=by kernel_rfl
theorem Xp (k:Nat) (x:an) (l0 l1 l2 l3 l4 sg:Int) (y0 y1 y2 y3 y4 y5:RI) (b:Bool):aA MD t27 k 20 [.ag x.cells] [.r (one (.aQ [.ag [iv l0,iv l1,iv l2,iv l3,iv l4],bv false])), .u 5, .c true, .r (one (bv true)), .r (one (.ag y0.cells)), .c true, .r (one (bv true)), .r (one (.ag y1.cells)), .c true, .r (one (bv true)), .r (one (.ag y2.cells)), .c true, .r (one (bv true)), .r (one (.ag y3.cells)), .c false, .r (one (bv true)), .r (one (iv sg)), .c true, .r (one (.ag y4.cells)), .r (one (.ag y5.cells)), .g b]=
 some (RV.mk (bv b) none,[aa t27 44 [PV.ag x.cells] (RV.mk (PV.aQ [PV.ag [iv l0,iv l1,iv l2,iv l3,iv l4],bv false]) none),5≤k,true=true,aa t27 46 [PV.ag x.c0.cells] (RV.mk (bv true) none),aa t27 47 [PV.ag [bv false,sv (ByteArray.mk #[])],PV.ag x.c0.cells] (RV.mk (PV.ag y0.cells) none),true=true,aa t27 46 [PV.ag x.c1.cells] (RV.mk (bv true) none),aa t27 47 [PV.ag y0.cells,PV.ag x.c1.cells] (RV.mk (PV.ag y1.cells) none),true=true,aa t27 46 [PV.ag x.c2.cells] (RV.mk (bv true) none),aa t27 47 [PV.ag y1.cells,PV.ag x.c2.cells] (RV.mk (PV.ag y2.cells) none),true=true,aa t27 46 [PV.ag x.c3.cells] (RV.mk (bv true) none),aa t27 47 [PV.ag y2.cells,PV.ag x.c3.cells] (RV.mk (PV.ag y3.cells) none),false=false,aa t27 46 [PV.ag x.d.cells] (RV.mk (bv true) none),aa t27 48 [PV.ag x.d.cells] (RV.mk (iv sg) none),decide (sg>(0:Int))=true,aa t27 47 [PV.ag y3.cells,PV.ag x.d.cells] (RV.mk (PV.ag y4.cells) none),aa t27 49 [iv (1:Int)] (RV.mk (PV.ag y5.cells) none),jx MD.P BinOp.eql 23 (Operand.tmp (51:Nat)) (Operand.tmp (52:Nat)) (Value.agg y4.vals.toArray) (Value.agg y5.vals.toArray) b]):=by kernel_rfl
def RI.neg (r:RI):RI:=⟨!r.g&& !decide (r.s.size=0),r.s⟩
def an.i5 (x:an):au:=⟨x.c0.z,x.c1.z,x.c2.z,x.c3.z,x.d.z⟩
def an.ki (x:an):Bool:=x.c0.ok&&x.c1.ok&&x.c2.ok&&x.c3.ok&&x.d.ok
def an.ok (x:an):Bool:=x.ki&&x.i5.ok
def an.neg (x:an):an:=if x.ok then ⟨x.c0.neg,x.c1.neg,x.c2.neg,x.c3.neg,x.d⟩ else .zero
def an.small (x:an):Prop:=∀r∈x.dh,r.s.size<2^30
noncomputable def xK:List PV→Option RV:=bJ an.small (fun x=>[.ag x.cells]) (fun x=>one (bv x.ok))
noncomputable def t28:Cl:=bM [(51,xK),(52,Dj)]
noncomputable def t29:Cl:=bM [(20,xK),(165,Dj)]
theorem Vy (k:Nat) (x:an):aA MD t28 k 22 [.ag x.cells] [.r (one (bv false))]=
 some (RV.mk (PV.ag [bv false,sv (ByteArray.mk #[]),bv false,sv (ByteArray.mk #[]),bv false,sv (ByteArray.mk #[]),bv false,sv (ByteArray.mk #[]),bv false,sv (ByteArray.mk #[])]) none,[aa t28 51 [PV.ag x.cells] (RV.mk (bv false) none)]):=by kernel_rfl
theorem Vz (k:Nat) (x:an) (y0 y1 y2 y3:RI):aA MD t28 k 22 [.ag x.cells] [.r (one (bv true)), .u 5, .c true, .r (one (.ag y0.cells)), .c true, .r (one (.ag y1.cells)), .c true, .r (one (.ag y2.cells)), .c true, .r (one (.ag y3.cells)), .c false]=
 some (RV.mk (PV.ag [bv y0.g,sv y0.s,bv y1.g,sv y1.s,bv y2.g,sv y2.s,bv y3.g,sv y3.s,bv x.d.g,sv x.d.s]) none,[aa t28 51 [PV.ag x.cells] (RV.mk (bv true) none),5≤k,true=true,aa t28 52 [PV.ag x.c0.cells] (RV.mk (PV.ag y0.cells) none),true=true,aa t28 52 [PV.ag x.c1.cells] (RV.mk (PV.ag y1.cells) none),true=true,aa t28 52 [PV.ag x.c2.cells] (RV.mk (PV.ag y2.cells) none),true=true,aa t28 52 [PV.ag x.c3.cells] (RV.mk (PV.ag y3.cells) none),false=false]):=by kernel_rfl
theorem VA (k:Nat) (x:an):aA MD t29 k 124 [.ag x.cells] [.r (one (bv false))]=
 some (RV.mk (PV.ag [bv false,sv (ByteArray.mk #[]),bv false,sv (ByteArray.mk #[]),bv false,sv (ByteArray.mk #[]),bv false,sv (ByteArray.mk #[]),bv false,sv (ByteArray.mk #[])]) none,[aa t29 20 [PV.ag x.cells] (RV.mk (bv false) none)]):=by kernel_rfl
theorem VB (k:Nat) (x:an) (y0 y1 y2 y3:RI):aA MD t29 k 124 [.ag x.cells] [.r (one (bv true)), .u 5, .c true, .r (one (.ag y0.cells)), .c true, .r (one (.ag y1.cells)), .c true, .r (one (.ag y2.cells)), .c true, .r (one (.ag y3.cells)), .c false]=
 some (RV.mk (PV.ag [bv y0.g,sv y0.s,bv y1.g,sv y1.s,bv y2.g,sv y2.s,bv y3.g,sv y3.s,bv x.d.g,sv x.d.s]) none,[aa t29 20 [PV.ag x.cells] (RV.mk (bv true) none),5≤k,true=true,aa t29 165 [PV.ag x.c0.cells] (RV.mk (PV.ag y0.cells) none),true=true,aa t29 165 [PV.ag x.c1.cells] (RV.mk (PV.ag y1.cells) none),true=true,aa t29 165 [PV.ag x.c2.cells] (RV.mk (PV.ag y2.cells) none),true=true,aa t29 165 [PV.ag x.c3.cells] (RV.mk (PV.ag y3.cells) none),false=false]):=by kernel_rfl
def RI.of (z:Int):RI:=⟨decide (z<0),af z.natAbs⟩
theorem RI.nO (z:Int):(RI.of z).ok=true:=lY z
theorem RI.M8 (z:Int):(RI.of z).z=z:=by
 unfold RI.z RI.of
 simp only [fP]
 by_cases h:z<0
 · rw [decide_eq_true h,if_pos rfl];omega
 · rw [decide_eq_false h];simp;omega
theorem RI.p9 {r:RI} (h:r.ok=true):r=RI.of r.z:=by
 obtain ⟨z,h1,h2,h3⟩:=HI h
 have e:r=RI.of z:=by obtain ⟨g,s⟩:=r;simp only at h2 h3;rw [h2,h3];rfl
 rw [e,RI.M8]
def an.of (y:au):an:=⟨RI.of y.a,RI.of y.b,RI.of y.c,RI.of y.d,RI.of y.n⟩
theorem an.M7 (y:au):(an.of y).ki=true:=by simp [an.ki,an.of,RI.nO]
theorem an.nN (y:au):(an.of y).i5=y:=by simp [an.i5,an.of,RI.M8]
theorem an.nO (y:au):(an.of y).ok=y.ok:=by rw [an.ok,an.M7,an.nN,Bool.true_and]
theorem an.zO {x:an} (h:x.ki=true):x=an.of x.i5:=by
 unfold an.ki at h
 simp only [Bool.and_eq_true] at h
 obtain ⟨c0,c1,c2,c3,d⟩:=x
 simp only [an.i5,an.of,an.mk.injEq]
 exact ⟨RI.p9 h.1.1.1.1,RI.p9 h.1.1.1.2,RI.p9 h.1.1.2,RI.p9 h.1.2,RI.p9 h.2⟩
theorem an.It {y:au} (h:(an.of y).small):y.small:=by
 have k:=fun r hr=>h r hr
 simp only [an.dh,an.of,List.mem_cons,List.not_mem_nil,or_false] at k
 exact ⟨⟨k _ (.inl rfl),k _ (.inr (.inl rfl))⟩,⟨k _ (.inr (.inr (.inl rfl))),k _ (.inr (.inr (.inr (.inl rfl))))⟩,k _ (.inr (.inr (.inr (.inr rfl))))⟩
theorem nQ (x:an) (h:x.small):az P0 51 [.ag x.cells] (one (bv x.ok)):=by
 cases hi:x.ki with
 |true=>
  have e:=an.zO hi
  generalize x.i5=y at e
  subst e
  rw [an.nO]
  exact nH y (an.It h)
 |false=>
  have e:x.ok=false:=by rw [an.ok,hi,Bool.false_and]
  rw [e]
  exact CY _ _ _ _ _ _ _ _ _ _ hi
theorem RI.bf {a b:RI} (e:a.cells=b.cells):a=b:=by
 obtain ⟨g,s⟩:=a;obtain ⟨g',s'⟩:=b
 simp only [RI.cells,List.cons.injEq,and_true] at e
 rw [D3 e.1,vM e.2]
theorem an.bf {a b:an} (e:a.cells=b.cells):a=b:=by
 obtain ⟨a0,a1,a2,a3,a4⟩:=a;obtain ⟨b0,b1,b2,b3,b4⟩:=b
 have l:∀r:RI,r.cells.length=2:=fun _=>rfl
 unfold an.cells at e
 have k1:=List.append_inj e (by simp [l])
 have k2:=List.append_inj k1.1 (by simp [l])
 have k3:=List.append_inj k2.1 (by simp [l])
 have k4:=List.append_inj k3.1 (by simp [l])
 rw [an.mk.injEq]
 exact ⟨RI.bf k4.1,RI.bf k4.2,RI.bf k3.2,RI.bf k2.2,RI.bf k1.2⟩
theorem DE (x:an):Cf [.ag x.cells]=some (one (.aQ [.ag ((gF x.dh x.kj).map iv),bv (decide (x.kj=5))])):=
 aO (enc:=fun x:an=>[.ag x.cells]) (fun a b e=>by
  simp only [List.cons.injEq,and_true,PV.ag.injEq] at e
  rw [an.bf e]) trivial
theorem Ki {l m:List Int} (h:l.map iv=m.map iv):l=m:=(List.map_inj_right (fun _ _ e=>dL e)).1 h
theorem FJ {l:List Int} (h:l.length=5) (hb:∀x∈l,x.natAbs<2^24):FI [.ag (l.map iv)]=some (one (iv (gI l:Nat))):=
 aO (enc:=fun l:List Int=>[.ag (l.map iv)]) (fun a b e=>by
  simp only [List.cons.injEq,and_true,PV.ag.injEq] at e
  rw [Ki e]) ⟨h,hb⟩
theorem Kx (r:RI):Dj [.ag r.cells]=some (one (oq r.g r.s)):=
 aO (enc:=fun r:RI=>[.ag r.cells]) (fun a b e=>by
  simp only [List.cons.injEq,and_true,PV.ag.injEq] at e
  rw [RI.bf e]) trivial
theorem jO {r:RI} (h:r.ok=true):Dj [.ag r.cells]=some (one (.ag r.neg.cells)):=by
 have:=Kx r
 unfold oq at this
 rw [if_pos (show cC r.g r.s=true from h)] at this
 exact this
theorem iK {x:an} (h:x.small):xK [.ag x.cells]=some (one (bv x.ok)):=
 aO (enc:=fun x:an=>[.ag x.cells]) (fun a b e=>by
  simp only [List.cons.injEq,and_true,PV.ag.injEq] at e
  rw [an.bf e]) h
theorem ke:aH MD.P t27:=aI
 (ak (ax fun x _=>FU x)
 (ak (ax fun l h=>H9 l h.1 h.2)
 (ak (ax fun x _=>jS x.1 x.2)
 (ak (ax fun x h=>KK x.1 x.2 h.1 h.2)
 (ak (ax fun x _=>Ik x.1 x.2)
 (ak (ax fun n h=>AE n h.1 h.2) aF))))))
theorem IU (y:au):gI [y.a,y.b,y.c,y.d,y.n]=y.gcd:=by
 simp only [gI,List.foldl,au.gcd,Nat.gcd_zero_left]
 rw [Nat.gcd_comm _ y.n.natAbs,←Nat.gcd_assoc,←Nat.gcd_assoc,←Nat.gcd_assoc]
theorem RI.RY {r:RI} (h:r.sh=true):r.z.natAbs<2^24:=by
 have h1:=RI.Cz (RI.wU h).1
 unfold RI.z
 split<;>omega
theorem Gp {α:Type} {p:α→Bool}:∀(l:List α),(l.takeWhile p).length=l.length→∀x∈l,p x=true
 |[],_,x,h=>by simp at h
 |a::l,e,x,h=>by
  cases hp:p a with
  |false=>rw [List.takeWhile_cons,hp] at e;simp at e
  |true=>
   rw [List.takeWhile_cons,hp] at e
   rcases List.mem_cons.1 h with rfl|h
   · exact hp
   · exact Gp l (by simpa using e) x h
theorem J8 (n:Nat):RI.dO (RI.of (n:Int)) (RI.of 1)=decide (n=1):=by
 have e:RI.dO (RI.of (n:Int)) (RI.of 1)=(af n==af 1):=by
  unfold RI.dO RI.of
  simp only [Int.natAbs_natCast]
  rw [decide_eq_false (show ¬(n:Int)<0 by omega)];rfl
 rw [e,zY]
theorem qg (x:an) (h:x.small):az P0 20 [.ag x.cells] (one (bv x.ok)):=by
 have hw:=DE x
 by_cases h5:x.kj=5
 · have hall:=Gp (p:=RI.sh) x.dh h5
   have hm:∀r∈x.dh,r.ok=true:=fun r hr=>(RI.wU (hall r hr)).2
   have hz:∀r∈x.dh,r.z.natAbs<2^24:=fun r hr=>RI.RY (hall r hr)
   have hi:x.ki=true:=by
    simp only [an.ki,Bool.and_eq_true]
    exact ⟨⟨⟨⟨hm _ (by simp [an.dh]),hm _ (by simp [an.dh])⟩,hm _ (by simp [an.dh])⟩,hm _ (by simp [an.dh])⟩,hm _ (by simp [an.dh])⟩
   have el:gF x.dh x.kj=[x.c0.z,x.c1.z,x.c2.z,x.c3.z,x.d.z]:=by rw [h5];rfl
   rw [el,h5] at hw
   have hg:=FJ (l:=[x.c0.z,x.c1.z,x.c2.z,x.c3.z,x.d.z]) rfl (fun z dP=>by
    have:z∈x.dh.map RI.z:=dP
    obtain ⟨r,hr,rfl⟩:=List.mem_map.1 this
    exact hz r hr)
   have e1:gI [x.c0.z,x.c1.z,x.c2.z,x.c3.z,x.d.z]=x.i5.gcd:=IU x.i5
   rw [e1] at hg
   have Lo:x.ok=(decide (0<x.d.z)&&decide (x.i5.gcd=1)):=by rw [an.ok,hi,Bool.true_and];rfl
   rw [Lo]
   by_cases hd:0<x.d.z
   · rw [decide_eq_true hd,Bool.true_and]
     refine aj ah ke (by rfl) (Xi 1 x _ _ _ _ _ (x.i5.gcd:Nat) (decide (x.i5.gcd=1))) ⟨hw,decide_eq_true hd,hg, ?_,trivial⟩
     by_cases e:x.i5.gcd=1
     · rw [e];rfl
     · rw [decide_eq_false e];exact beq_false_of_ne (by omega)
   · rw [decide_eq_false hd,Bool.false_and]
     exact aj ah ke (by rfl) (Xh 1 x _ _ _ _ _) ⟨hw,decide_eq_false hd,trivial⟩
 · rw [decide_eq_false h5] at hw
   obtain ⟨l0,l1,l2,l3,l4,hl⟩:=uY (sk (rl:=x.dh) rfl (i:=x.kj) (DO x.dh))
   rw [hl] at hw
   have sz:=fun r hr=>h r hr
   simp only [an.dh,List.mem_cons,List.not_mem_nil,or_false] at sz
   have z0:=sz x.c0 (.inl rfl)
   have z1:=sz x.c1 (.inr (.inl rfl))
   have z2:=sz x.c2 (.inr (.inr (.inl rfl)))
   have z3:=sz x.c3 (.inr (.inr (.inr (.inl rfl))))
   have zd:=sz x.d (.inr (.inr (.inr (.inr rfl))))
   clear hl h5 h sz
   have vt:∀r:RI,eU [.ag r.cells]=some (one (bv r.ok)):=fun r=>cy r.g r.s
   have v0:=vt x.c0
   have v1:=vt x.c1
   have v2:=vt x.c2
   have v3:=vt x.c3
   have vd:=vt x.d
   have bad:∀{b:Bool},x.ki=false→x.ok=false:=fun e=>by rw [an.ok,e,Bool.false_and]
   have gz:∀{g:Nat} {r:RI},r.ok=true→r.s.size<2^30→(af g).size<2^30→CZ [.ag (RI.of (g:Int)).cells, .ag r.cells]=some (one (.ag (RI.of ((Nat.gcd g r.z.natAbs:Nat):Int)).cells))∧(af (Nat.gcd g r.z.natAbs)).size<2^30:=by
    intro g r hr hs hg
    have e:=RI.p9 hr
    have hs':(af r.z.natAbs).size<2^30:=by rw [e] at hs;exact hs
    have:=oI (a:=(g:Int)) (b:=r.z) (by simpa using hg) hs'
    simp only [Int.natAbs_natCast] at this
    refine ⟨?_,pO hg hs'⟩
    conv=>lhs;rw [e]
    exact this
   cases h0:x.c0.ok with
   |false=>
    rw [bad (b:=true) (by simp [an.ki,h0])]
    rw [h0] at v0
    exact aj ah ke (by rfl) (Xj 5 x _ _ _ _ _) ⟨hw,by omega,rfl,v0,trivial⟩
   |true=>
    rw [h0] at v0
    obtain ⟨g0,s0⟩:=gz (g:=0) h0 z0 (by decide)
    cases h1:x.c1.ok with
    |false=>
     rw [bad (b:=true) (by simp [an.ki,h1])]
     rw [h1] at v1
     exact aj ah ke (by rfl) (Xk 5 x _ _ _ _ _ _) ⟨hw,by omega,rfl,v0,g0,rfl,v1,trivial⟩
    |true=>
     rw [h1] at v1
     obtain ⟨g1,s1⟩:=gz h1 z1 s0
     cases h2:x.c2.ok with
     |false=>
      rw [bad (b:=true) (by simp [an.ki,h2])]
      rw [h2] at v2
      exact aj ah ke (by rfl) (Xl 5 x _ _ _ _ _ _ _) ⟨hw,by omega,rfl,v0,g0,rfl,v1,g1,rfl,v2,trivial⟩
     |true=>
      rw [h2] at v2
      obtain ⟨g2,s2⟩:=gz h2 z2 s1
      cases h3:x.c3.ok with
      |false=>
       rw [bad (b:=true) (by simp [an.ki,h3])]
       rw [h3] at v3
       exact aj ah ke (by rfl) (Xm 5 x _ _ _ _ _ _ _ _) ⟨hw,by omega,rfl,v0,g0,rfl,v1,g1,rfl,v2,g2,rfl,v3,trivial⟩
      |true=>
       rw [h3] at v3
       obtain ⟨g3,s3⟩:=gz h3 z3 s2
       cases h4:x.d.ok with
       |false=>
        rw [bad (b:=true) (by simp [an.ki,h4])]
        rw [h4] at vd
        exact aj ah ke (by rfl) (Xn 5 x _ _ _ _ _ _ _ _ _) ⟨hw,by omega,rfl,v0,g0,rfl,v1,g1,rfl,v2,g2,rfl,v3,g3,rfl,vd,trivial⟩
       |true=>
        rw [h4] at vd
        obtain ⟨g4,_⟩:=gz h4 zd s3
        have hi:x.ki=true:=by simp [an.ki,h0,h1,h2,h3,h4]
        have Lo:x.ok=(decide (0<x.d.z)&&decide (x.i5.gcd=1)):=by rw [an.ok,hi,Bool.true_and];rfl
        have sg:AK [.ag x.d.cells]=some (one (iv (if x.d.z<0 then -1 else if x.d.z=0 then 0 else 1))):=by
         have:=wT x.d.g x.d.s
         have e:=RI.p9 h4
         have e2:ou x.d.g x.d.s=ou (decide (x.d.z<0)) (af x.d.z.natAbs):=by
          conv=>lhs;rw [e]
          rfl
         rw [e2,AL] at this
         exact this
        rw [Lo]
        by_cases hd:0<x.d.z
        · rw [decide_eq_true hd,Bool.true_and]
          rw [if_neg (by omega),if_neg (by omega)] at sg
          have e1:Nat.gcd (Nat.gcd (Nat.gcd (Nat.gcd (Nat.gcd 0 x.c0.z.natAbs) x.c1.z.natAbs) x.c2.z.natAbs) x.c3.z.natAbs) x.d.z.natAbs=x.i5.gcd:=IU x.i5
          rw [e1] at g4
          have hq:=wh (m:=51) (n:=52) (J8 x.i5.gcd)
          exact aj ah ke (by rfl) (Xp 5 x _ _ _ _ _ 1 _ _ _ _ _ (RI.of 1) _) ⟨hw,by omega,rfl,v0,g0,rfl,v1,g1,rfl,v2,g2,rfl,v3,g3,rfl,vd,sg,rfl,g4,sB (by decide) (by decide),hq,trivial⟩
        · rw [decide_eq_false hd,Bool.false_and]
          exact aj ah ke (by rfl) (Xo 5 x _ _ _ _ _ _ _ _ _ _) ⟨hw,by omega,rfl,v0,g0,rfl,v1,g1,rfl,v2,g2,rfl,v3,g3,rfl,vd,sg,by split<;>first|rfl|(split<;>first|rfl|omega),trivial⟩
theorem F9:aH MD.P t28:=aI (ak (ax fun x h=>nQ x h) (ak (ax fun r _=>Fk r.g r.s) aF))
theorem Gb:aH MD.P t29:=aI (ak (ax fun x h=>qg x h) (ak (ax fun r _=>KL r.g r.s) aF))
theorem an.gO {x:an} (h:x.ok=true):x.c0.ok=true∧x.c1.ok=true∧x.c2.ok=true∧x.c3.ok=true∧x.d.ok=true:=by
 unfold an.ok an.ki at h
 simp only [Bool.and_eq_true] at h
 exact ⟨h.1.1.1.1.1,h.1.1.1.1.2,h.1.1.1.2,h.1.1.2,h.1.2⟩
theorem wP (x:an) (h:x.small):az P0 22 [.ag x.cells] (one (.ag x.neg.cells)):=by
 have hv:=iK h
 unfold an.neg
 cases e:x.ok with
 |false=>rw [e] at hv;exact aj ah F9 (by rfl) (Vy 5 x) ⟨hv,trivial⟩
 |true=>
  rw [e] at hv
  obtain ⟨k0,k1,k2,k3,_⟩:=an.gO e
  exact aj ah F9 (by rfl) (Vz 5 x _ _ _ _) ⟨hv,by omega,rfl,jO k0,rfl,jO k1,rfl,jO k2,rfl,jO k3,rfl,trivial⟩
theorem HZ (x:an) (h:x.small):az P0 124 [.ag x.cells] (one (.ag x.neg.cells)):=by
 have hv:=iK h
 unfold an.neg
 cases e:x.ok with
 |false=>rw [e] at hv;exact aj ah Gb (by rfl) (VA 5 x) ⟨hv,trivial⟩
 |true=>
  rw [e] at hv
  obtain ⟨k0,k1,k2,k3,_⟩:=an.gO e
  exact aj ah Gb (by rfl) (VB 5 x _ _ _ _) ⟨hv,by omega,rfl,jO k0,rfl,jO k1,rfl,jO k2,rfl,jO k3,rfl,trivial⟩
end Go.Proofs.YtibbgjafjhcemaaGreatDoor.Cul
namespace Go.Proofs.YtibbgjafjhcemaaGreatDoor.Cul
open Go Go.RowKit
theorem D1:IN MD 40 5 []=some ⟨.lit (.bool true),none⟩:=by kernel_rfl
theorem GF:az P0 5 [] ⟨.lit (.bool true),none⟩:=Gz ah 40 5 [] _ D1
end Go.Proofs.YtibbgjafjhcemaaGreatDoor.Cul
namespace Go.Proofs.YtibbgjafjhcemaaGreatDoor.Cul
open Go Go.RowKit
theorem NT (x:Int):aA MD (bM []) 5 42 [iv x] [.c true]=
 some (RV.mk (PV.lit (Value.int IntKind.i64 (IntKind.i64.wrap (x.tmod 24+24)))) none,[false=false,decide (x.tmod 24<0)=true]):=by kernel_rfl
theorem NU (x:Int):aA MD (bM []) 5 42 [iv x] [.c false]=
 some (RV.mk (PV.lit (Value.int IntKind.i64 (x.tmod 24))) none,[false=false,decide (x.tmod 24<0)=false]):=by kernel_rfl
theorem wrap_small {n:Int} (h1: -(2^63)≤n) (h2:n<2^63):IntKind.i64.wrap n=n:=by
 unfold IntKind.wrap IntKind.bits IntKind.signed
 simp only
 have e1:(2:Int)^64=18446744073709551616:=by decide
 have e2:(2:Int)^(64 - 1)=9223372036854775808:=by decide
 rw [e1,e2]
 split
 · rename_i h;simp only [Bool.true_and,decide_eq_true_eq] at h;omega
 · rename_i h;simp only [Bool.true_and,decide_eq_true_eq] at h;omega
theorem Gj (x:Int):x.tmod 24=if x%24≠0∧x<0 then x%24 - 24 else x%24:=by
 have:=Int.tmod_eq_emod (a:=x) (b:=24)
 rw [this]
 have hd:(24:Int)∣x↔x%24=0:=Int.dvd_iff_emod_eq_zero
 simp only [hd]
 by_cases h:0≤x
 · simp [h,show ¬x<0 by omega]
 · by_cases h2:x%24=0
   · simp [h2]
   · simp [h,h2,show x<0 by omega]
theorem Fh (x:Int):az P0 42 [iv x] (one (iv (x%24))):=by
 by_cases h:x.tmod 24<0
 · have:=aj ah (aI aF) (by rfl) (NT x) ⟨rfl,by simpa using h,trivial⟩
   have e:IntKind.i64.wrap (x.tmod 24+24)=x%24:=by
    rw [wrap_small]<;>rw [Gj] at* <;>split at* <;>omega
   rw [e] at this;exact this
 · have:=aj ah (aI aF) (by rfl) (NU x) ⟨rfl,by simpa using h,trivial⟩
   have e:x.tmod 24=x%24:=by rw [Gj] at *;split at* <;>omega
   rw [e] at this;exact this
theorem w1 (x y:Int):IntKind.i64.wrap (y%24 - x%24)%24=(y - x)%24:=by rw [wrap_small]<;>omega
theorem w2 (x y:Int):IntKind.i64.wrap (x%24+y%24)%24=(x+y)%24:=by rw [wrap_small]<;>omega
end Go.Proofs.YtibbgjafjhcemaaGreatDoor.Cul
namespace Go.Proofs.YtibbgjafjhcemaaGreatDoor.Cul
open Go Go.RowKit
def an.dM (n:Int):an:=⟨RI.of n, .zero, .zero, .zero,RI.of 1⟩
def aP.dM (x y z:Int):aP:=⟨an.dM x,an.dM y,an.dM z⟩
def aP.ok (v:aP):Bool:=(v.x.ok&&v.y.ok)&&v.z.ok
def aP.BT (v:aP):Bool:=v.dO (aP.dM 0 0 0)
def fT.ok (p:fT):Bool:=(p.n.ok&& !p.n.BT)&&p.d.ok
def aP.over (v:aP):aP:=if v.ok then ⟨v.x,v.y.neg,v.z.neg⟩ else .zero
def fT.over (p:fT):fT×Int:=if p.ok then (⟨p.n.over,p.d⟩,0) else (.zero,1)
def fD.ok (s:fD):Bool:=decide ((0≤s.h∧s.h≤1000)∧(-1000≤s.v∧s.v≤1000)∧Nat.gcd s.h.natAbs s.v.natAbs=1)&&decide ((0≤s.i∧s.i<24)∧(s.h≠0∨s.i=0))
def fD.over (s:fD):fD×Int:=if s.ok then (⟨s.h, -s.v,(-s.i)%24⟩,0) else (.zero,1)
def an.raw (x:an) (n:Int):Bool:=decide ((x.c0.s.size:Int)≤n)&&(decide ((x.c1.s.size:Int)≤n)&&(decide ((x.c2.s.size:Int)≤n)&&(decide ((x.c3.s.size:Int)≤n)&&decide ((x.d.s.size:Int)≤n))))
def aP.raw (v:aP) (n:Int):Bool:=(v.x.raw n&&v.y.raw n)&&v.z.raw n
def fT.raw (p:fT) (n:Int):Bool:=p.n.raw n&&p.d.raw n
def aP.small (v:aP):Prop:=v.x.small∧v.y.small∧v.z.small
def fT.small (p:fT):Prop:=p.n.small∧p.d.small
noncomputable def wN:List PV→Option RV:=bJ (fun n:Int=> -(2^63)≤n∧n<2^63) (fun n=>[iv n]) (fun n=>one (.ag (an.dM n).cells))
noncomputable def IA:List PV→Option RV:=bJ (fun x:Int×Int×Int=>(-(2^63)≤x.1∧x.1<2^63)∧(-(2^63)≤x.2.1∧x.2.1<2^63)∧(-(2^63)≤x.2.2∧x.2.2<2^63)) (fun x=>[iv x.1,iv x.2.1,iv x.2.2]) (fun x=>one (.ag (aP.dM x.1 x.2.1 x.2.2).cells))
noncomputable def B2:List PV→Option RV:=bJ an.small (fun x=>[.ag x.cells]) (fun x=>one (.ag x.neg.cells))
noncomputable def Ad:List PV→Option RV:=bJ (fun _:aP=>True) (fun v=>[.ag v.cells]) (fun v=>one (.fn 93 [.el v.cells]))
noncomputable def JT:List PV→Option RV:=bJ aP.small (fun v=>[.ag v.cells]) (fun v=>one (bv v.ok))
noncomputable def P5:List PV→Option RV:=bJ (fun _:aP=>True) (fun v=>[.ag v.cells]) (fun v=>one (bv v.BT))
noncomputable def P3:List PV→Option RV:=bJ aP.small (fun v=>[.ag v.cells]) (fun v=>one (.ag v.over.cells))
noncomputable def PG:List PV→Option RV:=bJ (fun _:an×Int=>True) (fun x=>[.ag x.1.cells,iv x.2]) (fun x=>one (bv (x.1.raw x.2)))
noncomputable def P4:List PV→Option RV:=bJ (fun _:aP×Int=>True) (fun x=>[.ag x.1.cells,iv x.2]) (fun x=>one (bv (x.1.raw x.2)))
def OS:List PV→Option RV:=PW (bv true)
noncomputable def s1:Cl:=bM [(97,wO),(49,DC)]
noncomputable def s2:Cl:=bM [(143,wN),(43,wN)]
noncomputable def s3:Cl:=bM [(115,IA),(18,IA)]
noncomputable def s4:Cl:=bM [(50,Ad),(51,xK),(20,xK)]
noncomputable def s5:Cl:=bM [(21,JT),(7,JT),(106,P5),(123,P5),(51,xK),(20,xK),(22,B2),(124,B2)]
noncomputable def s9:Cl:=bM [(19,PG)]
theorem VO (k:Nat) (n:Int) (y o:RI):aA MD s1 k 143 [iv n] [.r (one (.ag y.cells)), .r (one (.ag o.cells))]=
 some (RV.mk (PV.ag [bv y.g,sv y.s,bv false,sv (ByteArray.mk #[]),bv false,sv (ByteArray.mk #[]),bv false,sv (ByteArray.mk #[]),bv o.g,sv o.s]) none,[aa s1 97 [iv n] (RV.mk (PV.ag y.cells) none),aa s1 97 [iv (1:Int)] (RV.mk (PV.ag o.cells) none)]):=by kernel_rfl
theorem VP (k:Nat) (n:Int) (y o:RI):aA MD s1 k 43 [iv n] [.r (one (.ag y.cells)), .r (one (.ag o.cells))]=
 some (RV.mk (PV.ag [bv y.g,sv y.s,bv false,sv (ByteArray.mk #[]),bv false,sv (ByteArray.mk #[]),bv false,sv (ByteArray.mk #[]),bv o.g,sv o.s]) none,[aa s1 49 [iv n] (RV.mk (PV.ag y.cells) none),aa s1 49 [iv (1:Int)] (RV.mk (PV.ag o.cells) none)]):=by kernel_rfl
theorem VQ (k:Nat) (a b c:Int) (x y z:an):aA MD s2 k 115 [iv a,iv b,iv c] [.r (one (.ag x.cells)), .r (one (.ag y.cells)), .r (one (.ag z.cells))]=
 some (RV.mk (PV.ag [bv x.c0.g,sv x.c0.s,bv x.c1.g,sv x.c1.s,bv x.c2.g,sv x.c2.s,bv x.c3.g,sv x.c3.s,bv x.d.g,sv x.d.s,bv y.c0.g,sv y.c0.s,bv y.c1.g,sv y.c1.s,bv y.c2.g,sv y.c2.s,bv y.c3.g,sv y.c3.s,bv y.d.g,sv y.d.s,bv z.c0.g,sv z.c0.s,bv z.c1.g,sv z.c1.s,bv z.c2.g,sv z.c2.s,bv z.c3.g,sv z.c3.s,bv z.d.g,sv z.d.s]) none,[aa s2 143 [iv a] (RV.mk (PV.ag x.cells) none),aa s2 143 [iv b] (RV.mk (PV.ag y.cells) none),aa s2 143 [iv c] (RV.mk (PV.ag z.cells) none)]):=by kernel_rfl
theorem VR (k:Nat) (a b c:Int) (x y z:an):aA MD s2 k 18 [iv a,iv b,iv c] [.r (one (.ag x.cells)), .r (one (.ag y.cells)), .r (one (.ag z.cells))]=
 some (RV.mk (PV.ag [bv x.c0.g,sv x.c0.s,bv x.c1.g,sv x.c1.s,bv x.c2.g,sv x.c2.s,bv x.c3.g,sv x.c3.s,bv x.d.g,sv x.d.s,bv y.c0.g,sv y.c0.s,bv y.c1.g,sv y.c1.s,bv y.c2.g,sv y.c2.s,bv y.c3.g,sv y.c3.s,bv y.d.g,sv y.d.s,bv z.c0.g,sv z.c0.s,bv z.c1.g,sv z.c1.s,bv z.c2.g,sv z.c2.s,bv z.c3.g,sv z.c3.s,bv z.d.g,sv z.d.s]) none,[aa s2 43 [iv a] (RV.mk (PV.ag x.cells) none),aa s2 43 [iv b] (RV.mk (PV.ag y.cells) none),aa s2 43 [iv c] (RV.mk (PV.ag z.cells) none)]):=by kernel_rfl
theorem VY (k:Nat) (v w:aP) (b:Bool):aA MD s3 k 106 [.ag v.cells] [.r (one (.ag w.cells)), .g b]=
 some (RV.mk (bv b) none,[aa s3 115 [iv (0:Int),iv (0:Int),iv (0:Int)] (RV.mk (PV.ag w.cells) none),jx MD.P BinOp.eql 28 (Operand.tmp (3:Nat)) (Operand.tmp (4:Nat)) (Value.agg v.vals.toArray) (Value.agg w.vals.toArray) b]):=by kernel_rfl
theorem VZ (k:Nat) (v w:aP) (b:Bool):aA MD s3 k 123 [.ag v.cells] [.r (one (.ag w.cells)), .g b]=
 some (RV.mk (bv b) none,[aa s3 18 [iv (0:Int),iv (0:Int),iv (0:Int)] (RV.mk (PV.ag w.cells) none),jx MD.P BinOp.eql 28 (Operand.tmp (3:Nat)) (Operand.tmp (4:Nat)) (Value.agg v.vals.toArray) (Value.agg w.vals.toArray) b]):=by kernel_rfl
theorem VI (k:Nat) (v:aP):aA MD t0 k 50 [.ag v.cells] []=
 some (RV.mk (PV.fn 93 [PV.el v.cells]) none,[]):=by kernel_rfl
theorem Xq (k:Nat) (v:aP):aA MD s4 k 21 [.ag v.cells] [.r (one (.fn 93 [.el v.cells])), .r (one (bv false))]=
 some (RV.mk (bv false) none,[aa s4 50 [PV.ag v.cells] (RV.mk (PV.fn 93 [PV.el v.cells]) none),aa s4 51 [PV.ag v.x.cells] (RV.mk (bv false) none)]):=by kernel_rfl
theorem Xr (k:Nat) (v:aP):aA MD s4 k 21 [.ag v.cells] [.r (one (.fn 93 [.el v.cells])), .r (one (bv true)), .r (one (bv false))]=
 some (RV.mk (bv false) none,[aa s4 50 [PV.ag v.cells] (RV.mk (PV.fn 93 [PV.el v.cells]) none),aa s4 51 [PV.ag v.x.cells] (RV.mk (bv true) none),aa s4 51 [PV.ag v.y.cells] (RV.mk (bv false) none)]):=by kernel_rfl
theorem vec (k:Nat) (v:aP):aA MD s4 k 21 [.ag v.cells] [.r (one (.fn 93 [.el v.cells])), .r (one (bv true)), .r (one (bv true)), .r (one (bv false))]=
 some (RV.mk (bv false) none,[aa s4 50 [PV.ag v.cells] (RV.mk (PV.fn 93 [PV.el v.cells]) none),aa s4 51 [PV.ag v.x.cells] (RV.mk (bv true) none),aa s4 51 [PV.ag v.y.cells] (RV.mk (bv true) none),aa s4 51 [PV.ag v.z.cells] (RV.mk (bv false) none)]):=by kernel_rfl
theorem Xs (k:Nat) (v:aP):aA MD s4 k 21 [.ag v.cells] [.r (one (.fn 93 [.el v.cells])), .r (one (bv true)), .r (one (bv true)), .r (one (bv true))]=
 some (RV.mk (bv true) none,[aa s4 50 [PV.ag v.cells] (RV.mk (PV.fn 93 [PV.el v.cells]) none),aa s4 51 [PV.ag v.x.cells] (RV.mk (bv true) none),aa s4 51 [PV.ag v.y.cells] (RV.mk (bv true) none),aa s4 51 [PV.ag v.z.cells] (RV.mk (bv true) none)]):=by kernel_rfl
theorem Xu (k:Nat) (v:aP):aA MD s4 k 7 [.ag v.cells] [.r (one (bv false))]=
 some (RV.mk (bv false) none,[aa s4 20 [PV.ag v.x.cells] (RV.mk (bv false) none)]):=by kernel_rfl
theorem Xv (k:Nat) (v:aP):aA MD s4 k 7 [.ag v.cells] [.r (one (bv true)), .r (one (bv false))]=
 some (RV.mk (bv false) none,[aa s4 20 [PV.ag v.x.cells] (RV.mk (bv true) none),aa s4 20 [PV.ag v.y.cells] (RV.mk (bv false) none)]):=by kernel_rfl
theorem Xw (k:Nat) (v:aP) (b:Bool):aA MD s4 k 7 [.ag v.cells] [.r (one (bv true)), .r (one (bv true)), .r (one (bv b))]=
 some (RV.mk (bv b) none,[aa s4 20 [PV.ag v.x.cells] (RV.mk (bv true) none),aa s4 20 [PV.ag v.y.cells] (RV.mk (bv true) none),aa s4 20 [PV.ag v.z.cells] (RV.mk (bv b) none)]):=by kernel_rfl
theorem Rv (k:Nat) (v:aP):aA MD s5 k 8 [.ag v.cells] [.r (one (bv false))]=
 some (RV.mk (PV.ag [bv false,sv (ByteArray.mk #[]),bv false,sv (ByteArray.mk #[]),bv false,sv (ByteArray.mk #[]),bv false,sv (ByteArray.mk #[]),bv false,sv (ByteArray.mk #[]),bv false,sv (ByteArray.mk #[]),bv false,sv (ByteArray.mk #[]),bv false,sv (ByteArray.mk #[]),bv false,sv (ByteArray.mk #[]),bv false,sv (ByteArray.mk #[]),bv false,sv (ByteArray.mk #[]),bv false,sv (ByteArray.mk #[]),bv false,sv (ByteArray.mk #[]),bv false,sv (ByteArray.mk #[]),bv false,sv (ByteArray.mk #[])]) none,[aa s5 21 [PV.ag v.cells] (RV.mk (bv false) none)]):=by kernel_rfl
theorem Rw (k:Nat) (v:aP) (y z:an):aA MD s5 k 8 [.ag v.cells] [.r (one (bv true)), .r (one (.ag y.cells)), .r (one (.ag z.cells))]=
 some (RV.mk (PV.ag [bv v.x.c0.g,sv v.x.c0.s,bv v.x.c1.g,sv v.x.c1.s,bv v.x.c2.g,sv v.x.c2.s,bv v.x.c3.g,sv v.x.c3.s,bv v.x.d.g,sv v.x.d.s,bv y.c0.g,sv y.c0.s,bv y.c1.g,sv y.c1.s,bv y.c2.g,sv y.c2.s,bv y.c3.g,sv y.c3.s,bv y.d.g,sv y.d.s,bv z.c0.g,sv z.c0.s,bv z.c1.g,sv z.c1.s,bv z.c2.g,sv z.c2.s,bv z.c3.g,sv z.c3.s,bv z.d.g,sv z.d.s]) none,[aa s5 21 [PV.ag v.cells] (RV.mk (bv true) none),aa s5 22 [PV.ag v.y.cells] (RV.mk (PV.ag y.cells) none),aa s5 22 [PV.ag v.z.cells] (RV.mk (PV.ag z.cells) none)]):=by kernel_rfl
theorem RJ (k:Nat) (x:an) (n:Int):aA MD t0 k 19 [.ag x.cells,iv n] [.u 5, .c true, .c true]=
 some (RV.mk (bv false) none,[5≤k,true=true,decide ((↑x.c0.s.size:Int)>n)=true]):=by kernel_rfl
theorem RK (k:Nat) (x:an) (n:Int):aA MD t0 k 19 [.ag x.cells,iv n] [.u 5, .c true, .c false, .c true, .c true]=
 some (RV.mk (bv false) none,[5≤k,true=true,decide ((↑x.c0.s.size:Int)>n)=false,true=true,decide ((↑x.c1.s.size:Int)>n)=true]):=by kernel_rfl
theorem RL (k:Nat) (x:an) (n:Int):aA MD t0 k 19 [.ag x.cells,iv n] [.u 5, .c true, .c false, .c true, .c false, .c true, .c true]=
 some (RV.mk (bv false) none,[5≤k,true=true,decide ((↑x.c0.s.size:Int)>n)=false,true=true,decide ((↑x.c1.s.size:Int)>n)=false,true=true,decide ((↑x.c2.s.size:Int)>n)=true]):=by kernel_rfl
theorem RM (k:Nat) (x:an) (n:Int):aA MD t0 k 19 [.ag x.cells,iv n] [.u 5, .c true, .c false, .c true, .c false, .c true, .c false, .c true, .c true]=
 some (RV.mk (bv false) none,[5≤k,true=true,decide ((↑x.c0.s.size:Int)>n)=false,true=true,decide ((↑x.c1.s.size:Int)>n)=false,true=true,decide ((↑x.c2.s.size:Int)>n)=false,true=true,decide ((↑x.c3.s.size:Int)>n)=true]):=by kernel_rfl
theorem RN (k:Nat) (x:an) (n:Int) (b:Bool):aA MD t0 k 19 [.ag x.cells,iv n] [.u 5, .c true, .c false, .c true, .c false, .c true, .c false, .c true, .c false, .c false, .c b]=
 some (RV.mk (bv b) none,[5≤k,true=true,decide ((↑x.c0.s.size:Int)>n)=false,true=true,decide ((↑x.c1.s.size:Int)>n)=false,true=true,decide ((↑x.c2.s.size:Int)>n)=false,true=true,decide ((↑x.c3.s.size:Int)>n)=false,false=false,decide ((↑x.d.s.size:Int)≤n)=b]):=by kernel_rfl
theorem RU (k:Nat) (v:aP) (n:Int):aA MD s9 k 6 [.ag v.cells,iv n] [.r (one (bv false))]=
 some (RV.mk (bv false) none,[aa s9 19 [PV.ag v.x.cells,iv n] (RV.mk (bv false) none)]):=by kernel_rfl
theorem RW (k:Nat) (v:aP) (n:Int):aA MD s9 k 6 [.ag v.cells,iv n] [.r (one (bv true)), .r (one (bv false))]=
 some (RV.mk (bv false) none,[aa s9 19 [PV.ag v.x.cells,iv n] (RV.mk (bv true) none),aa s9 19 [PV.ag v.y.cells,iv n] (RV.mk (bv false) none)]):=by kernel_rfl
theorem RX (k:Nat) (v:aP) (n:Int) (b:Bool):aA MD s9 k 6 [.ag v.cells,iv n] [.r (one (bv true)), .r (one (bv true)), .r (one (bv b))]=
 some (RV.mk (bv b) none,[aa s9 19 [PV.ag v.x.cells,iv n] (RV.mk (bv true) none),aa s9 19 [PV.ag v.y.cells,iv n] (RV.mk (bv true) none),aa s9 19 [PV.ag v.z.cells,iv n] (RV.mk (bv b) none)]):=by kernel_rfl
theorem aP.bf {a b:aP} (e:a.cells=b.cells):a=b:=by
 obtain ⟨a0,a1,a2⟩:=a;obtain ⟨b0,b1,b2⟩:=b
 have l:∀r:an,r.cells.length=10:=fun _=>rfl
 unfold aP.cells at e
 have k1:=List.append_inj e (by simp [l])
 have k2:=List.append_inj k1.1 (by simp [l])
 rw [aP.mk.injEq]
 exact ⟨an.bf k2.1,an.bf k2.2,an.bf k1.2⟩
theorem fT.bf {a b:fT} (e:a.cells=b.cells):a=b:=by
 obtain ⟨a0,a1⟩:=a;obtain ⟨b0,b1⟩:=b
 have l:∀r:an,r.cells.length=10:=fun _=>rfl
 unfold fT.cells at e
 have k1:=List.append_inj' e (by simp [l])
 rw [fT.mk.injEq]
 exact ⟨aP.bf k1.1,an.bf k1.2⟩
theorem fD.bf {a b:fD} (e:a.cells=b.cells):a=b:=by
 obtain ⟨a0,a1,a2⟩:=a;obtain ⟨b0,b1,b2⟩:=b
 simp only [fD.cells,List.cons.injEq,and_true] at e
 rw [fD.mk.injEq]
 exact ⟨dL e.1,dL e.2.1,dL e.2.2⟩
theorem DY {α:Type} {c:α→List PV} (hi:∀a b,c a=c b→a=b) {β:Type} {g:α→β}:∀a b,[PV.ag (c a)]=[PV.ag (c b)]→g a=g b:=fun a b e=>by
 simp only [List.cons.injEq,and_true,PV.ag.injEq] at e
 rw [hi _ _ e]
theorem eY {n:Int} (h1: -(2^63)≤n) (h2:n<2^63):wN [iv n]=some (one (.ag (an.dM n).cells)):=
 aO (enc:=fun n:Int=>[iv n]) (fun a b e=>by rw [dL (List.cons.inj e).1]) ⟨h1,h2⟩
theorem JA:aH MD.P s1:=aI (ak (ax fun n h=>oV n h.1 h.2) (ak (ax fun n h=>AE n h.1 h.2) aF))
theorem uH (n:Int) (h: -(2^63)≤n∧n<2^63):az P0 143 [iv n] (one (.ag (an.dM n).cells)):=
 aj ah JA (by rfl) (VO 1 n (RI.of n) (RI.of 1)) ⟨jP h.1 h.2,jP (by decide) (by decide),trivial⟩
theorem KJ (n:Int) (h: -(2^63)≤n∧n<2^63):az P0 43 [iv n] (one (.ag (an.dM n).cells)):=
 aj ah JA (by rfl) (VP 1 n (RI.of n) (RI.of 1)) ⟨sB h.1 h.2,sB (by decide) (by decide),trivial⟩
theorem JB:aH MD.P s2:=aI (ak (ax fun n h=>uH n h) (ak (ax fun n h=>KJ n h) aF))
theorem NZ (x:Int×Int×Int) (h:(-(2^63)≤x.1∧x.1<2^63)∧(-(2^63)≤x.2.1∧x.2.1<2^63)∧(-(2^63)≤x.2.2∧x.2.2<2^63)):az P0 115 [iv x.1,iv x.2.1,iv x.2.2] (one (.ag (aP.dM x.1 x.2.1 x.2.2).cells)):=
 aj ah JB (by rfl) (VQ 1 _ _ _ (an.dM x.1) (an.dM x.2.1) (an.dM x.2.2)) ⟨eY h.1.1 h.1.2,eY h.2.1.1 h.2.1.2,eY h.2.2.1 h.2.2.2,trivial⟩
theorem KP (x:Int×Int×Int) (h:(-(2^63)≤x.1∧x.1<2^63)∧(-(2^63)≤x.2.1∧x.2.1<2^63)∧(-(2^63)≤x.2.2∧x.2.2<2^63)):az P0 18 [iv x.1,iv x.2.1,iv x.2.2] (one (.ag (aP.dM x.1 x.2.1 x.2.2).cells)):=
 aj ah JB (by rfl) (VR 1 _ _ _ (an.dM x.1) (an.dM x.2.1) (an.dM x.2.2)) ⟨eY h.1.1 h.1.2,eY h.2.1.1 h.2.1.2,eY h.2.2.1 h.2.2.2,trivial⟩
theorem Cv (x:Int×Int×Int) (h:(-(2^63)≤x.1∧x.1<2^63)∧(-(2^63)≤x.2.1∧x.2.1<2^63)∧(-(2^63)≤x.2.2∧x.2.2<2^63)):IA [iv x.1,iv x.2.1,iv x.2.2]=some (one (.ag (aP.dM x.1 x.2.1 x.2.2).cells)):=
 aO (enc:=fun x:Int×Int×Int=>[iv x.1,iv x.2.1,iv x.2.2]) (fun a b e=>by
  simp only [List.cons.injEq,and_true] at e
  rw [dL e.1,dL e.2.1,dL e.2.2]) h
theorem JC:aH MD.P s3:=aI (ak (ax fun x h=>NZ x h) (ak (ax fun x h=>KP x h) aF))
theorem OK (v:aP):az P0 106 [.ag v.cells] (one (bv v.BT)):=
 aj ah JC (by rfl) (VY 1 v (aP.dM 0 0 0) v.BT) ⟨Cv (0,0,0) (by decide),y6 rfl,trivial⟩
theorem Nx (v:aP):az P0 123 [.ag v.cells] (one (bv v.BT)):=
 aj ah JC (by rfl) (VZ 1 v (aP.dM 0 0 0) v.BT) ⟨Cv (0,0,0) (by decide),y6 rfl,trivial⟩
theorem Dm (v:aP):az P0 50 [.ag v.cells] (one (.fn 93 [.el v.cells])):=
 aj ah (aI aF) (by rfl) (VI 1 v) trivial
theorem Be (v:aP):Ad [.ag v.cells]=some (one (.fn 93 [.el v.cells])):=
 aO (enc:=fun v:aP=>[.ag v.cells]) (DY fun _ _=>aP.bf) trivial
theorem qm:aH MD.P s4:=aI (ak (ax fun v _=>Dm v) (ak (ax fun x h=>nQ x h) (ak (ax fun x h=>qg x h) aF)))
theorem Gv (v:aP) (h:v.small):az P0 21 [.ag v.cells] (one (bv v.ok)):=by
 have hn:=Be v
 have h0:=iK h.1
 have h1:=iK h.2.1
 have h2:=iK h.2.2
 unfold aP.ok
 cases e0:v.x.ok with
 |false=>rw [e0] at h0;exact aj ah qm (by rfl) (Xq 4 v) ⟨hn,h0,trivial⟩
 |true=>
  rw [e0] at h0
  cases e1:v.y.ok with
  |false=>rw [e1] at h1;exact aj ah qm (by rfl) (Xr 4 v) ⟨hn,h0,h1,trivial⟩
  |true=>
   rw [e1] at h1
   cases e2:v.z.ok with
   |false=>rw [e2] at h2;exact aj ah qm (by rfl) (vec 4 v) ⟨hn,h0,h1,h2,trivial⟩
   |true=>rw [e2] at h2;exact aj ah qm (by rfl) (Xs 4 v) ⟨hn,h0,h1,h2,trivial⟩
theorem vz (v:aP) (h:v.small):az P0 7 [.ag v.cells] (one (bv v.ok)):=by
 have h0:=iK h.1
 have h1:=iK h.2.1
 have h2:=iK h.2.2
 unfold aP.ok
 cases e0:v.x.ok with
 |false=>rw [e0] at h0;exact aj ah qm (by rfl) (Xu 4 v) ⟨h0,trivial⟩
 |true=>
  rw [e0] at h0
  cases e1:v.y.ok with
  |false=>rw [e1] at h1;exact aj ah qm (by rfl) (Xv 4 v) ⟨h0,h1,trivial⟩
  |true=>rw [e1] at h1;exact aj ah qm (by rfl) (Xw 4 v v.z.ok) ⟨h0,h1,h2,trivial⟩
theorem Gu {v:aP} (h:v.small):JT [.ag v.cells]=some (one (bv v.ok)):=aO (enc:=fun v:aP=>[.ag v.cells]) (DY fun _ _=>aP.bf) h
theorem vf {x:an} (h:x.small):B2 [.ag x.cells]=some (one (.ag x.neg.cells)):=aO (enc:=fun x:an=>[.ag x.cells]) (DY fun _ _=>an.bf) h
theorem JD:aH MD.P s5:=aI
 (ak (ax fun v h=>Gv v h) (ak (ax fun v h=>vz v h) (ak (ax fun v _=>OK v) (ak (ax fun v _=>Nx v)
 (ak (ax fun x h=>nQ x h) (ak (ax fun x h=>qg x h) (ak (ax fun x h=>wP x h) (ak (ax fun x h=>HZ x h) aF))))))))
theorem KA (v:aP) (h:v.small):az P0 8 [.ag v.cells] (one (.ag v.over.cells)):=by
 have h0:=Gu h
 unfold aP.over
 cases e0:v.ok with
 |false=>rw [e0] at h0;exact aj ah JD (by rfl) (Rv 4 v) ⟨h0,trivial⟩
 |true=>rw [e0] at h0;exact aj ah JD (by rfl) (Rw 4 v _ _) ⟨h0,vf h.2.1,vf h.2.2,trivial⟩
theorem Gr {v:aP} (h:v.small):P3 [.ag v.cells]=some (one (.ag v.over.cells)):=aO (enc:=fun v:aP=>[.ag v.cells]) (DY fun _ _=>aP.bf) h
theorem fD.gO {s:fD} (h:s.ok=true):((0≤s.h∧s.h≤1000)∧(-1000≤s.v∧s.v≤1000)∧Nat.gcd s.h.natAbs s.v.natAbs=1)∧((0≤s.i∧s.i<24)∧(s.h≠0∨s.i=0)):=by
 unfold fD.ok at h
 simp only [Bool.and_eq_true] at h
 exact ⟨of_decide_eq_true h.1,of_decide_eq_true h.2⟩
theorem Kz (x:an×Int):az P0 19 [.ag x.1.cells,iv x.2] (one (bv (x.1.raw x.2))):=by
 obtain ⟨x,n⟩:=x
 show az P0 19 [.ag x.cells,iv n] (one (bv (x.raw n)))
 unfold an.raw
 by_cases h0:(x.c0.s.size:Int)>n
 · rw [decide_eq_false (show ¬(x.c0.s.size:Int)≤n by omega)];exact aj ah (aI aF) (by rfl) (RJ 5 x n) ⟨by omega,rfl,decide_eq_true h0,trivial⟩
 rw [decide_eq_true (show (x.c0.s.size:Int)≤n by omega),Bool.true_and]
 by_cases h1:(x.c1.s.size:Int)>n
 · rw [decide_eq_false (show ¬(x.c1.s.size:Int)≤n by omega)];exact aj ah (aI aF) (by rfl) (RK 5 x n) ⟨by omega,rfl,decide_eq_false h0,rfl,decide_eq_true h1,trivial⟩
 rw [decide_eq_true (show (x.c1.s.size:Int)≤n by omega),Bool.true_and]
 by_cases h2:(x.c2.s.size:Int)>n
 · rw [decide_eq_false (show ¬(x.c2.s.size:Int)≤n by omega)];exact aj ah (aI aF) (by rfl) (RL 5 x n) ⟨by omega,rfl,decide_eq_false h0,rfl,decide_eq_false h1,rfl,decide_eq_true h2,trivial⟩
 rw [decide_eq_true (show (x.c2.s.size:Int)≤n by omega),Bool.true_and]
 by_cases h3:(x.c3.s.size:Int)>n
 · rw [decide_eq_false (show ¬(x.c3.s.size:Int)≤n by omega)];exact aj ah (aI aF) (by rfl) (RM 5 x n) ⟨by omega,rfl,decide_eq_false h0,rfl,decide_eq_false h1,rfl,decide_eq_false h2,rfl,decide_eq_true h3,trivial⟩
 rw [decide_eq_true (show (x.c3.s.size:Int)≤n by omega),Bool.true_and]
 exact aj ah (aI aF) (by rfl) (RN 5 x n _) ⟨by omega,rfl,decide_eq_false h0,rfl,decide_eq_false h1,rfl,decide_eq_false h2,rfl,decide_eq_false h3,rfl,rfl,trivial⟩
theorem La {α:Type} {c:α→List PV} (hi:∀a b,c a=c b→a=b) {β:Type} {g:α×Int→β}:∀a b:α×Int,[PV.ag (c a.1),iv a.2]=[PV.ag (c b.1),iv b.2]→g a=g b:=fun a b e=>by
 simp only [List.cons.injEq,and_true,PV.ag.injEq] at e
 rw [show a=b from Prod.ext (hi _ _ e.1) (dL e.2)]
theorem Ac (x:an) (n:Int):PG [.ag x.cells,iv n]=some (one (bv (x.raw n))):=aO (a:=(x,n)) (enc:=fun x:an×Int=>[.ag x.1.cells,iv x.2]) (La fun _ _=>an.bf) trivial
theorem DF:aH MD.P s9:=aI (ak (ax fun x _=>Kz x) aF)
theorem KW (x:aP×Int):az P0 6 [.ag x.1.cells,iv x.2] (one (bv (x.1.raw x.2))):=by
 obtain ⟨v,n⟩:=x
 show az P0 6 [.ag v.cells,iv n] (one (bv (v.raw n)))
 have h0:=Ac v.x n
 have h1:=Ac v.y n
 have h2:=Ac v.z n
 unfold aP.raw
 cases e0:v.x.raw n with
 |false=>rw [e0] at h0;exact aj ah DF (by rfl) (RU 4 v n) ⟨h0,trivial⟩
 |true=>
  rw [e0] at h0
  cases e1:v.y.raw n with
  |false=>rw [e1] at h1;exact aj ah DF (by rfl) (RW 4 v n) ⟨h0,h1,trivial⟩
  |true=>rw [e1] at h1;exact aj ah DF (by rfl) (RX 4 v n _) ⟨h0,h1,h2,trivial⟩
theorem N0 (x:aP) (n:Int):P4 [.ag x.cells,iv n]=some (one (bv (x.raw n))):=aO (a:=(x,n)) (enc:=fun x:aP×Int=>[.ag x.1.cells,iv x.2]) (La fun _ _=>aP.bf) trivial
theorem an.gG {x:an} {n:Int} (hn:n<2^30) (h:x.raw n=true):x.small:=by
 unfold an.raw at h
 simp only [Bool.and_eq_true,decide_eq_true_eq] at h
 intro r hr
 simp only [an.dh,List.mem_cons,List.not_mem_nil,or_false] at hr
 rcases hr with rfl|rfl|rfl|rfl|rfl<;>omega
theorem aP.gG {v:aP} {n:Int} (hn:n<2^30) (h:v.raw n=true):v.small:=by
 unfold aP.raw at h
 simp only [Bool.and_eq_true] at h
 exact ⟨an.gG hn h.1.1,an.gG hn h.1.2,an.gG hn h.2⟩
theorem fT.gG {p:fT} {n:Int} (hn:n<2^30) (h:p.raw n=true):p.small:=by
 unfold fT.raw at h
 simp only [Bool.and_eq_true] at h
 exact ⟨aP.gG hn h.1,an.gG hn h.2⟩
end Go.Proofs.YtibbgjafjhcemaaGreatDoor.Cul
namespace Go.Proofs.YtibbgjafjhcemaaGreatDoor.Cul
open Go Go.RowKit
def qv:Nat→au
 |0=>⟨1,0,0,0,1⟩
 |1=>⟨0,1,0,1,4⟩
 |2=>⟨0,0,1,0,2⟩
 |3=>⟨0,1,0,0,2⟩
 |4=>⟨1,0,0,0,2⟩
 |5=>⟨0, -1,0,1,4⟩
 |_=>⟨0,0,0,0,1⟩
def au.neg (x:au):au:=⟨-x.a, -x.b, -x.c, -x.d,x.n⟩
def foldI (i:Int):Int:=if i%24>12 then 24 - i%24 else i%24
def bO (i:Int):au:=if foldI i>6 then (qv (12 - foldI i).toNat).neg else qv (foldI i).toNat
noncomputable def qT:List PV→Option RV:=bJ (fun k:Nat=>k≤6) (fun k=>[iv k]) (fun k=>one (.ag (an.of (qv k)).cells))
noncomputable def GQ:List PV→Option RV:=bJ (fun i:Int=> -(2^62)≤i∧i≤2^62) (fun i=>[iv i]) (fun i=>one (.ag (an.of (bO i)).cells))
noncomputable def NC:List PV→Option RV:=bJ (fun i:Int=> -(2^62)≤i∧i≤2^62) (fun i=>[iv i]) (fun i=>one (.ag (an.of (bO (i%24 - 6))).cells))
noncomputable def IS:List PV→Option RV:=bJ (fun p:au×au=>(∃K,K<2^20∧p.1.Fit K∧p.2.Fit K)∧p.1.ok=true∧p.2.ok=true) (fun p=>[.ag p.1.cells, .ag p.2.cells]) (fun p=>one (.ag (an.of (p.1.cE p.2).low).cells))
noncomputable def t40:Cl:=bM [(42,AO (· %24)),(53,qT),(22,B2)]
noncomputable def t41:Cl:=bM [(42,AO (· %24)),(24,GQ)]
theorem Ss (k:Nat) (i m:Int) (x:an):aA MD t40 k 24 [iv i] [.r (one (iv m)), .c false, .c false, .r (one (.ag x.cells))]=
 some (RV.mk (PV.ag x.cells) none,[aa t40 42 [iv i] (RV.mk (iv m) none),decide (m>(12:Int))=false,decide (m>(6:Int))=false,aa t40 53 [iv m] (RV.mk (PV.ag x.cells) none)]):=by kernel_rfl
theorem Su (k:Nat) (i m j:Int) (x y:an):aA MD t40 k 24 [iv i] [.r (one (iv m)), .c false, .c true, .i 12 j, .r (one (.ag x.cells)), .r (one (.ag y.cells))]=
 some (RV.mk (PV.ag y.cells) none,[aa t40 42 [iv i] (RV.mk (iv m) none),decide (m>(12:Int))=false,decide (m>(6:Int))=true,IntKind.i64.wrap ((12:Int) - m)=j,aa t40 53 [iv j] (RV.mk (PV.ag x.cells) none),aa t40 22 [PV.ag x.cells] (RV.mk (PV.ag y.cells) none)]):=by kernel_rfl
theorem Sv (k:Nat) (i m m2:Int) (x:an):aA MD t40 k 24 [iv i] [.r (one (iv m)), .c true, .i 8 m2, .c false, .r (one (.ag x.cells))]=
 some (RV.mk (PV.ag x.cells) none,[aa t40 42 [iv i] (RV.mk (iv m) none),decide (m>(12:Int))=true,IntKind.i64.wrap ((24:Int) - m)=m2,decide (m2>(6:Int))=false,aa t40 53 [iv m2] (RV.mk (PV.ag x.cells) none)]):=by kernel_rfl
theorem Sx (k:Nat) (i m m2 j:Int) (x y:an):aA MD t40 k 24 [iv i] [.r (one (iv m)), .c true, .i 8 m2, .c true, .i 12 j, .r (one (.ag x.cells)), .r (one (.ag y.cells))]=
 some (RV.mk (PV.ag y.cells) none,[aa t40 42 [iv i] (RV.mk (iv m) none),decide (m>(12:Int))=true,IntKind.i64.wrap ((24:Int) - m)=m2,decide (m2>(6:Int))=true,IntKind.i64.wrap ((12:Int) - m2)=j,aa t40 53 [iv j] (RV.mk (PV.ag x.cells) none),aa t40 22 [PV.ag x.cells] (RV.mk (PV.ag y.cells) none)]):=by kernel_rfl
theorem WM (k:Nat) (i m j:Int) (x:an):aA MD t41 k 25 [iv i] [.r (one (iv m)), .i 5 j, .r (one (.ag x.cells))]=
 some (RV.mk (PV.ag x.cells) none,[aa t41 42 [iv i] (RV.mk (iv m) none),IntKind.i64.wrap (m - (6:Int))=j,aa t41 24 [iv j] (RV.mk (PV.ag x.cells) none)]):=by kernel_rfl
def kW:Prop:=∀k:Nat,k≤6→az P0 53 [iv k] (one (.ag (an.of (qv k)).cells))
theorem RI.iI (z:Int):(RI.of z).neg=RI.of (-z):=by
 have h:=B0 z
 unfold oq at h
 rw [lY,if_pos rfl] at h
 simp only [iz,zc,PV.ag.injEq,List.cons.injEq,bv,sv,PV.lit.injEq,Value.bool.injEq,Value.string.injEq,and_true] at h
 show RI.mk _ _=RI.mk _ _
 rw [RI.mk.injEq]
 exact ⟨h.1,h.2⟩
theorem an.iI {y:au} (h:y.ok=true):(an.of y).neg=an.of y.neg:=by
 unfold an.neg
 rw [an.nO,h,if_pos rfl]
 show an.mk _ _ _ _ _=an.mk _ _ _ _ _
 rw [an.mk.injEq]
 exact ⟨RI.iI _,RI.iI _,RI.iI _,RI.iI _,rfl⟩
theorem Kc (i:Int):0≤foldI i∧foldI i≤12:=by
 unfold foldI
 have h1:=Int.emod_nonneg i (show (24:Int)≠0 by decide)
 have h2:=Int.emod_lt_of_pos i (show (0:Int)<24 by decide)
 split<;>omega
theorem Dy {k:Nat} (h:k≤6):(qv k).ok=true:=by
 have:k=0∨k=1∨k=2∨k=3∨k=4∨k=5∨k=6:=by omega
 rcases this with rfl|rfl|rfl|rfl|rfl|rfl|rfl<;>decide
theorem AA (k:Nat):(qv k).Fit 1:=by
 unfold qv au.Fit
 split<;>decide
theorem Ky {K:Nat} {x:au} (h:x.Fit K):x.neg.Fit K:=by
 unfold au.Fit au.neg at*
 simp only [Int.natAbs_neg]
 exact h
theorem au.gcd_neg (x:au):x.neg.gcd=x.gcd:=by
 unfold au.neg au.gcd
 simp only [Int.natAbs_neg]
theorem MZ (x:au):x.neg.ok=x.ok:=by
 unfold au.ok
 rw [au.gcd_neg];rfl
theorem HH {y:au} (h:y.small):(an.of y).small:=by
 obtain ⟨⟨h1,h2⟩,⟨h3,h4⟩,h5⟩:=h
 intro r hr
 simp only [an.dh,an.of,List.mem_cons,List.not_mem_nil,or_false] at hr
 rcases hr with rfl|rfl|rfl|rfl|rfl
 · exact h1
 · exact h2
 · exact h3
 · exact h4
 · exact h5
theorem ld {K:Nat} {y:au} (hK:K<2^28) (h:y.Fit K):(an.of y).small:=HH (h.rL hK).small
theorem yz {m:Int} (h0:0≤m) (h:m≤6):qT [iv m]=some (one (.ag (an.of (qv m.toNat)).cells)):=by
 obtain ⟨k,rfl⟩:∃k:Nat,m=(k:Int):=⟨m.toNat,by omega⟩
 rw [Int.toNat_natCast]
 exact aO (enc:=fun k:Nat=>[iv k]) (fun a b e=>by
  have e:=dL (List.cons.inj e).1
  obtain rfl:a=b:=by omega
  rfl) (show k≤6 by omega)
theorem Fg (i:Int):AO (· %24) [iv i]=some (one (iv (i%24))):=rfl
theorem vP (hq:kW):aH MD.P t40:=aI (ak (Cq fun x=>Fh x) (ak (ax fun k h=>hq k h) (ak (ax fun x h=>wP x h) aF)))
theorem Ec (hq:kW) (i:Int):az P0 24 [iv i] (one (.ag (an.of (bO i)).cells)):=by
 have h1:=Int.emod_nonneg i (show (24:Int)≠0 by decide)
 have h2:=Int.emod_lt_of_pos i (show (0:Int)<24 by decide)
 have hm:=Fg i
 unfold bO foldI
 generalize i%24=m at*
 have ng:∀j:Int,0≤j→j≤6→B2 [.ag (an.of (qv j.toNat)).cells]=some (one (.ag (an.of (qv j.toNat).neg).cells)):=by
  intro j h0 h6
  have:=vf (ld (K:=1) (by decide) (AA j.toNat))
  rwa [an.iI (Dy (by omega))] at this
 by_cases h12:m>12
 · simp only [if_pos h12]
   by_cases h6:24 - m>6
   · simp only [if_pos h6]
     exact aj ah (vP hq) (by rfl) (Sx 1 i m (24 - m) (12 - (24 - m)) (an.of (qv (12 - (24 - m)).toNat)) (an.of (qv (12 - (24 - m)).toNat).neg)) ⟨hm,decide_eq_true h12,wrap64 (by omega) (by omega),decide_eq_true h6,wrap64 (by omega) (by omega),yz (by omega) (by omega),ng _ (by omega) (by omega),trivial⟩
   · simp only [if_neg h6]
     exact aj ah (vP hq) (by rfl) (Sv 1 i m (24 - m) (an.of (qv (24 - m).toNat))) ⟨hm,decide_eq_true h12,wrap64 (by omega) (by omega),decide_eq_false h6,yz (by omega) (by omega),trivial⟩
 · simp only [if_neg h12]
   by_cases h6:m>6
   · simp only [if_pos h6]
     exact aj ah (vP hq) (by rfl) (Su 1 i m (12 - m) (an.of (qv (12 - m).toNat)) (an.of (qv (12 - m).toNat).neg)) ⟨hm,decide_eq_false h12,decide_eq_true h6,wrap64 (by omega) (by omega),yz (by omega) (by omega),ng _ (by omega) (by omega),trivial⟩
   · simp only [if_neg h6]
     exact aj ah (vP hq) (by rfl) (Ss 1 i m (an.of (qv m.toNat))) ⟨hm,decide_eq_false h12,decide_eq_false h6,yz (by omega) (by omega),trivial⟩
theorem BA {i:Int} (h1: -(2^62)≤i) (h2:i≤2^62):GQ [iv i]=some (one (.ag (an.of (bO i)).cells)):=
 aO (enc:=fun i:Int=>[iv i]) (fun a b e=>by rw [dL (List.cons.inj e).1]) ⟨h1,h2⟩
theorem KS {i:Int} (h1: -(2^62)≤i) (h2:i≤2^62):NC [iv i]=some (one (.ag (an.of (bO (i%24 - 6))).cells)):=
 aO (enc:=fun i:Int=>[iv i]) (fun a b e=>by rw [dL (List.cons.inj e).1]) ⟨h1,h2⟩
theorem NO (hq:kW):aH MD.P t41:=aI (ak (Cq fun x=>Fh x) (ak (ax fun i _=>Ec hq i) aF))
theorem ND (hq:kW) (i:Int):az P0 25 [iv i] (one (.ag (an.of (bO (i%24 - 6))).cells)):=by
 have h1:=Int.emod_nonneg i (show (24:Int)≠0 by decide)
 have h2:=Int.emod_lt_of_pos i (show (0:Int)<24 by decide)
 exact aj ah (NO hq) (by rfl) (WM 1 i (i%24) (i%24 - 6) (an.of (bO (i%24 - 6)))) ⟨Fg i,wrap64 (by omega) (by omega),BA (by omega) (by omega),trivial⟩
theorem yV (i:Int):(bO i).Fit 1:=by
 unfold bO
 split
 · exact Ky (AA _)
 · exact AA _
theorem rY (i:Int):(bO i).ok=true:=by
 have:=Kc i
 unfold bO
 split
 · rw [MZ];exact Dy (by omega)
 · exact Dy (by omega)
theorem Ew {x y:au} {K:Nat} (hK:K<2^20) (hx:x.Fit K) (hy:y.Fit K) (ox:x.ok=true) (oy:y.ok=true):IS [.ag x.cells, .ag y.cells]=some (one (.ag (an.of (x.cE y).low).cells)):=
 aO (a:=(x,y)) (enc:=fun p:au×au=>[.ag p.1.cells, .ag p.2.cells]) (fun a b e=>by
  simp only [List.cons.injEq,and_true,PV.ag.injEq] at e
  have:a=b:=Prod.ext (bf e.1) (bf e.2)
  rw [this]) ⟨⟨K,hK,hx,hy⟩,ox,oy⟩
theorem Ob (p:au×au) (h:(∃K,K<2^20∧p.1.Fit K∧p.2.Fit K)∧p.1.ok=true∧p.2.ok=true):az P0 27 [.ag p.1.cells, .ag p.2.cells] (one (.ag (an.of (p.1.cE p.2).low).cells)):=by
 obtain ⟨⟨K,hK,hx,hy⟩,ox,oy⟩:=h
 exact BM p.1 p.2 hK hx hy ox oy
def au.dM (n:Int):au:=⟨n,0,0,0,1⟩
theorem M6 (n:Int):an.dM n=an.of (au.dM n):=rfl
def No (s:fD) (i:Int):au:=((au.dM s.h).cE (bO i)).low
def fD.vec (s:fD):aP:=⟨an.of (No s s.i),an.of (No s (s.i%24 - 6)),an.dM s.v⟩
end Go.Proofs.YtibbgjafjhcemaaGreatDoor.Cul
namespace Go.Proofs.YtibbgjafjhcemaaGreatDoor.Cul
open Go Go.RowKit
deriving instance DecidableEq for au
theorem tD (x y f:Nat→Int) (i:Nat):∀j k,kq x (fun j=> -(y j)) (fun k=> -(f k)) i j k= -(kq x y f i j k)
 |0,k=>rfl
 |j+1,k=>by
  simp only [kq,vU]
  rw [tD x y f i j,tD x y f i j]
  split
  · rw [Int.mul_neg,Int.mul_neg,Int.neg_add]
  · rfl
theorem yL (x y:Nat→Int):∀i,ei x (fun j=> -(y j)) i=fun k=> -(ei x y i k)
 |0=>by funext k;simp [ei]
 |i+1=>by
  funext k
  simp only [ei]
  rw [yL x y i]
  exact tD x y (ei x y i) i 4 k
theorem Lc (y:au):y.neg.at=fun j=> -(y.at j):=by
 funext j
 unfold au.at au.neg
 split<;>rfl
theorem z9 (x y:au):x.cE y.neg=(x.cE y).neg:=by
 unfold au.cE
 rw [Lc,yL]
 rfl
theorem wI (x:au):x.neg.low=x.low.neg:=by
 have hs:x.neg.sg=x.sg:=by
  unfold au.sg
  rw [au.gcd_neg];rfl
 have hd:=x.vA
 unfold au.low
 rw [hs]
 show au.mk (-x.a / x.sg) (-x.b / x.sg) (-x.c / x.sg) (-x.d / x.sg) (x.n / x.sg)=au.mk _ _ _ _ _
 rw [Int.neg_ediv_of_dvd hd.1.1,Int.neg_ediv_of_dvd hd.1.2,Int.neg_ediv_of_dvd hd.2.1.1,Int.neg_ediv_of_dvd hd.2.1.2]
theorem NV:∀i:Fin 24,(bO ((-(i.val:Int))%24)=bO (i.val:Int)∧bO ((-(i.val:Int))%24%24 - 6)=(bO ((i.val:Int)%24 - 6)).neg)∧¬(((bO (i.val:Int)).a=0∧(bO (i.val:Int)).b=0∧(bO (i.val:Int)).c=0∧(bO (i.val:Int)).d=0)∧((bO ((i.val:Int)%24 - 6)).a=0∧(bO ((i.val:Int)%24 - 6)).b=0∧(bO ((i.val:Int)%24 - 6)).c=0∧(bO ((i.val:Int)%24 - 6)).d=0)):=by decide
theorem KU {i:Int} (h0:0≤i) (h:i<24):(bO ((-i)%24)=bO i∧bO ((-i)%24%24 - 6)=(bO (i%24 - 6)).neg)∧¬(((bO i).a=0∧(bO i).b=0∧(bO i).c=0∧(bO i).d=0)∧((bO (i%24 - 6)).a=0∧(bO (i%24 - 6)).b=0∧(bO (i%24 - 6)).c=0∧(bO (i%24 - 6)).d=0)):=by
 obtain ⟨n,rfl⟩:∃n:Nat,i=(n:Int):=⟨i.toNat,by omega⟩
 exact NV ⟨n,by omega⟩
def fD.hO (s:fD):fD:=⟨s.h, -s.v,(-s.i)%24⟩
end Go.Proofs.YtibbgjafjhcemaaGreatDoor.Cul
namespace Go.Proofs.YtibbgjafjhcemaaGreatDoor.Cul
open Go Go.RowKit
def au.lR (x:au):au:=⟨x.a,x.b, -x.c, -x.d,x.n⟩
def au.yo (x:au):au:=⟨x.a, -x.b,x.c, -x.d,x.n⟩
noncomputable def Li:List PV→Option RV:=s6 (bJ (fun _:au=>True) (fun x=>[.ag x.cells,iv 2]) (fun x=>one (.ag x.lR.cells))) (bJ (fun _:au=>True) (fun x=>[.ag x.cells,iv 1]) (fun x=>one (.ag x.yo.cells)))
noncomputable def t43:Cl:=bM [(51,IT),(55,CG),(56,Dh),(57,De)]
noncomputable def t44:Cl:=bM [(143,wN),(97,wO)]
noncomputable def t45:Cl:=bM [(52,Di)]
noncomputable def t46:Cl:=bM [(51,IT),(143,wN),(54,Du),(57,De),(188,Li)]
def rv (c:Nat):au:=match c with
 |2=>⟨0,1,0,0,1⟩
 |3=>⟨0,0,1,0,1⟩
 |_=>⟨0,0,0,1,1⟩
theorem Ti (k:Nat) (x y l:an) (a0 b0 c0 a1 b1 c1 a2 b2 c2 a3 b3 c3 d:RI):aA MD t43 k 28 [.ag x.cells, .ag y.cells] [.r (one (bv true)), .r (one (bv true)), .u 5, .c true, .r (one (.ag a0.cells)), .r (one (.ag b0.cells)), .r (one (.ag c0.cells)), .c true, .r (one (.ag a1.cells)), .r (one (.ag b1.cells)), .r (one (.ag c1.cells)), .c true, .r (one (.ag a2.cells)), .r (one (.ag b2.cells)), .r (one (.ag c2.cells)), .c true, .r (one (.ag a3.cells)), .r (one (.ag b3.cells)), .r (one (.ag c3.cells)), .c false, .r (one (.ag d.cells)), .r (one (.ag l.cells))]=
 some (RV.mk (PV.ag l.cells) none,[aa t43 51 [PV.ag x.cells] (RV.mk (bv true) none),aa t43 51 [PV.ag y.cells] (RV.mk (bv true) none),5≤k,true=true,aa t43 56 [PV.ag x.c0.cells,PV.ag y.d.cells] (RV.mk (PV.ag a0.cells) none),aa t43 56 [PV.ag y.c0.cells,PV.ag x.d.cells] (RV.mk (PV.ag b0.cells) none),aa t43 55 [PV.ag a0.cells,PV.ag b0.cells] (RV.mk (PV.ag c0.cells) none),true=true,aa t43 56 [PV.ag x.c1.cells,PV.ag y.d.cells] (RV.mk (PV.ag a1.cells) none),aa t43 56 [PV.ag y.c1.cells,PV.ag x.d.cells] (RV.mk (PV.ag b1.cells) none),aa t43 55 [PV.ag a1.cells,PV.ag b1.cells] (RV.mk (PV.ag c1.cells) none),true=true,aa t43 56 [PV.ag x.c2.cells,PV.ag y.d.cells] (RV.mk (PV.ag a2.cells) none),aa t43 56 [PV.ag y.c2.cells,PV.ag x.d.cells] (RV.mk (PV.ag b2.cells) none),aa t43 55 [PV.ag a2.cells,PV.ag b2.cells] (RV.mk (PV.ag c2.cells) none),true=true,aa t43 56 [PV.ag x.c3.cells,PV.ag y.d.cells] (RV.mk (PV.ag a3.cells) none),aa t43 56 [PV.ag y.c3.cells,PV.ag x.d.cells] (RV.mk (PV.ag b3.cells) none),aa t43 55 [PV.ag a3.cells,PV.ag b3.cells] (RV.mk (PV.ag c3.cells) none),false=false,aa t43 56 [PV.ag x.d.cells,PV.ag y.d.cells] (RV.mk (PV.ag d.cells) none),aa t43 57 [PV.ag [bv c0.g,sv c0.s,bv c1.g,sv c1.s,bv c2.g,sv c2.s,bv c3.g,sv c3.s],PV.ag d.cells] (RV.mk (PV.ag l.cells) none)]):=by kernel_rfl
theorem Ws (k:Nat) (x:an) (d:RI):aA MD t44 k 144 [iv 2] [.r (one (.ag x.cells)), .c true, .r (one (.ag d.cells))]=
 some (RV.mk (PV.ag [bv x.c0.g,sv x.c0.s,bv d.g,sv d.s,bv x.c2.g,sv x.c2.s,bv x.c3.g,sv x.c3.s,bv x.d.g,sv x.d.s]) none,[aa t44 143 [iv (0:Int)] (RV.mk (PV.ag x.cells) none),true=true,aa t44 97 [iv (1:Int)] (RV.mk (PV.ag d.cells) none)]):=by kernel_rfl
theorem Wt (k:Nat) (x:an) (d:RI):aA MD t44 k 144 [iv 3] [.r (one (.ag x.cells)), .c false, .c true, .r (one (.ag d.cells))]=
 some (RV.mk (PV.ag [bv x.c0.g,sv x.c0.s,bv x.c1.g,sv x.c1.s,bv d.g,sv d.s,bv x.c3.g,sv x.c3.s,bv x.d.g,sv x.d.s]) none,[aa t44 143 [iv (0:Int)] (RV.mk (PV.ag x.cells) none),false=false,true=true,aa t44 97 [iv (1:Int)] (RV.mk (PV.ag d.cells) none)]):=by kernel_rfl
theorem Wu (k:Nat) (x:an) (d:RI):aA MD t44 k 144 [iv 6] [.r (one (.ag x.cells)), .c false, .c false, .c true, .r (one (.ag d.cells))]=
 some (RV.mk (PV.ag [bv x.c0.g,sv x.c0.s,bv x.c1.g,sv x.c1.s,bv x.c2.g,sv x.c2.s,bv d.g,sv d.s,bv x.d.g,sv x.d.s]) none,[aa t44 143 [iv (0:Int)] (RV.mk (PV.ag x.cells) none),false=false,false=false,true=true,aa t44 97 [iv (1:Int)] (RV.mk (PV.ag d.cells) none)]):=by kernel_rfl
theorem Sl (k:Nat) (x:an) (d e:RI):aA MD t45 k 188 [.ag x.cells,iv 2] [.u 5, .c true, .c false, .c true, .c false, .c true, .c true, .r (one (.ag d.cells)), .c true, .c true, .r (one (.ag e.cells)), .c false]=
 some (RV.mk (PV.ag [bv x.c0.g,sv x.c0.s,bv x.c1.g,sv x.c1.s,bv d.g,sv d.s,bv e.g,sv e.s,bv x.d.g,sv x.d.s]) none,[5≤k,true=true,false=false,true=true,false=false,true=true,true=true,aa t45 52 [PV.ag x.c2.cells] (RV.mk (PV.ag d.cells) none),true=true,true=true,aa t45 52 [PV.ag x.c3.cells] (RV.mk (PV.ag e.cells) none),false=false]):=by kernel_rfl
theorem Sk (k:Nat) (x:an) (d e:RI):aA MD t45 k 188 [.ag x.cells,iv 1] [.u 5, .c true, .c false, .c true, .c true, .r (one (.ag d.cells)), .c true, .c false, .c true, .c true, .r (one (.ag e.cells)), .c false]=
 some (RV.mk (PV.ag [bv x.c0.g,sv x.c0.s,bv d.g,sv d.s,bv x.c2.g,sv x.c2.s,bv e.g,sv e.s,bv x.d.g,sv x.d.s]) none,[5≤k,true=true,false=false,true=true,true=true,aa t45 52 [PV.ag x.c1.cells] (RV.mk (PV.ag d.cells) none),true=true,false=false,true=true,true=true,aa t45 52 [PV.ag x.c3.cells] (RV.mk (PV.ag e.cells) none),false=false]):=by kernel_rfl
theorem Tf (k:Nat) (x y z c p e q i u v r:an):aA MD t46 k 145 [.ag x.cells, .ag y.cells] [.r (one (bv true)), .r (one (bv true)), .r (one (.ag z.cells)), .g false, .r (one (.ag c.cells)), .r (one (.ag p.cells)), .r (one (.ag e.cells)), .r (one (.ag q.cells)), .r (one (.ag i.cells)), .r (one (.ag u.cells)), .r (one (.ag v.cells)), .r (one (.ag r.cells))]=
 some (RV.mk (PV.aQ [PV.ag r.cells,iv (0:Int)]) none,[aa t46 51 [PV.ag x.cells] (RV.mk (bv true) none),aa t46 51 [PV.ag y.cells] (RV.mk (bv true) none),aa t46 143 [iv (0:Int)] (RV.mk (PV.ag z.cells) none),jx MD.P BinOp.eql 26 (Operand.tmp (22:Nat)) (Operand.tmp (23:Nat)) (Value.agg y.vals.toArray) (Value.agg z.vals.toArray) false,aa t46 188 [PV.ag y.cells,iv (2:Int)] (RV.mk (PV.ag c.cells) none),aa t46 54 [PV.ag y.cells,PV.ag c.cells] (RV.mk (PV.ag p.cells) none),aa t46 188 [PV.ag p.cells,iv (1:Int)] (RV.mk (PV.ag e.cells) none),aa t46 54 [PV.ag p.cells,PV.ag e.cells] (RV.mk (PV.ag q.cells) none),aa t46 57 [PV.ag [bv q.d.g,sv q.d.s,bv false,sv (ByteArray.mk #[]),bv false,sv (ByteArray.mk #[]),bv false,sv (ByteArray.mk #[])],PV.ag q.c0.cells] (RV.mk (PV.ag i.cells) none),aa t46 54 [PV.ag x.cells,PV.ag c.cells] (RV.mk (PV.ag u.cells) none),aa t46 54 [PV.ag e.cells,PV.ag i.cells] (RV.mk (PV.ag v.cells) none),aa t46 54 [PV.ag u.cells,PV.ag v.cells] (RV.mk (PV.ag r.cells) none)]):=by kernel_rfl
theorem NP:aH MD.P t43:=aI
 (ak (ax fun x h=>nH x h)
 (ak (ax fun x h=>Bu x.1 x.2 h.1 h.2)
 (ak (ax fun x h=>BY x.1 x.2 h.1 h.2)
 (ak (ax fun x h=>zX x h.1 h.2) aF))))
def au.gK (x y:au):au:=⟨x.a* y.n+y.a* x.n,x.b* y.n+y.b* x.n,x.c* y.n+y.c* x.n,x.d* y.n+y.d* x.n,x.n* y.n⟩
theorem so {K:Nat} {a b:Int} (ha:a.natAbs<256^K) (hb:b.natAbs<256^K):(a* b).natAbs<256^(K+K):=by
 rw [Int.natAbs_mul,Nat.pow_add];exact Nat.mul_lt_mul'' ha hb
theorem vL {K:Nat} {a b c d:Int} (ha:a.natAbs<256^K) (hb:b.natAbs<256^K) (hc:c.natAbs<256^K) (hd:d.natAbs<256^K):(a* b+c* d).natAbs<256^(K+K+1):=by
 have h1:=so ha hb
 have h2:=so hc hd
 have h3:=Int.natAbs_add_le (a* b) (c* d)
 rw [Nat.pow_succ]
 omega
theorem au.Fit.add {K:Nat} {x y:au} (hx:x.Fit K) (hy:y.Fit K):(x.gK y).Fit (K+K+1):=by
 obtain ⟨⟨⟨a1,b1⟩,c1,d1⟩,n1⟩:=hx
 obtain ⟨⟨⟨a2,b2⟩,c2,d2⟩,n2⟩:=hy
 refine ⟨⟨⟨vL a1 n2 a2 n1,vL b1 n2 b2 n1⟩,vL c1 n2 c2 n1,vL d1 n2 d2 n1⟩, ?_⟩
 have:=so n1 n2
 rw [Nat.pow_succ]
 show (x.n* y.n).natAbs<_
 omega
theorem wu (x y:au) {K:Nat} (hK:K<2^20) (hx:x.Fit K) (hy:y.Fit K) (ox:x.ok=true) (oy:y.ok=true):az P0 28 [.ag x.cells, .ag y.cells] (one (.ag (x.gK y).low.cells)):=by
 have v1:=oH (hx.rL (by omega)).small
 have v2:=oH (hy.rL (by omega)).small
 rw [ox] at v1
 rw [oy] at v2
 have h0:(x.gK y).n≠0:=by
  have:=Int.mul_pos (au.lB ox) (au.lB oy)
  show x.n* y.n≠0
  omega
 have sx:=hx.rL (by omega)
 have sy:=hy.rL (by omega)
 have hl:=wH h0 ((hx.add hy).rL (by omega))
 obtain ⟨⟨⟨a1,b1⟩,c1,d1⟩,n1⟩:=hx
 obtain ⟨⟨⟨a2,b2⟩,c2,d2⟩,n2⟩:=hy
 exact aj ah NP (by rfl) (Ti 5 (an.of x) (an.of y) (an.of (x.gK y).low) (RI.of (x.a* y.n)) (RI.of (y.a* x.n)) (RI.of (x.a* y.n+y.a* x.n)) (RI.of (x.b* y.n)) (RI.of (y.b* x.n)) (RI.of (x.b* y.n+y.b* x.n)) (RI.of (x.c* y.n)) (RI.of (y.c* x.n)) (RI.of (x.c* y.n+y.c* x.n)) (RI.of (x.d* y.n)) (RI.of (y.d* x.n)) (RI.of (x.d* y.n+y.d* x.n)) (RI.of (x.n* y.n)))
  ⟨v1,v2,Nat.le_refl _,rfl,eO sx.1.1.1 sy.2,eO sy.1.1.1 sx.2,mE (j6 hK a1 n2) (j6 hK a2 n1),rfl,eO sx.1.1.2 sy.2,eO sy.1.1.2 sx.2,mE (j6 hK b1 n2) (j6 hK b2 n1),rfl,eO sx.1.2.1 sy.2,eO sy.1.2.1 sx.2,mE (j6 hK c1 n2) (j6 hK c2 n1),rfl,eO sx.1.2.2 sy.2,eO sy.1.2.2 sx.2,mE (j6 hK d1 n2) (j6 hK d2 n1),rfl,eO sx.2 sy.2,hl,trivial⟩
theorem AU:aH MD.P t44:=aI (ak (ax fun n h=>uH n h) (ak (ax fun n h=>oV n h.1 h.2) aF))
theorem Ic:az P0 144 [iv 2] (one (.ag (an.of (rv 2)).cells)):=aj ah AU (by rfl) (Ws 1 (an.dM 0) (RI.of 1)) ⟨eY (by decide) (by decide),rfl,jP (by decide) (by decide),trivial⟩
theorem Ie:az P0 144 [iv 3] (one (.ag (an.of (rv 3)).cells)):=aj ah AU (by rfl) (Wt 1 (an.dM 0) (RI.of 1)) ⟨eY (by decide) (by decide),rfl,rfl,jP (by decide) (by decide),trivial⟩
theorem Ig:az P0 144 [iv 6] (one (.ag (an.of (rv 6)).cells)):=aj ah AU (by rfl) (Wu 1 (an.dM 0) (RI.of 1)) ⟨eY (by decide) (by decide),rfl,rfl,rfl,jP (by decide) (by decide),trivial⟩
theorem Ge:aH MD.P t45:=aI (ak (ax fun z _=>B1 z) aF)
theorem GP (x:au):az P0 188 [.ag x.cells,iv 2] (one (.ag x.lR.cells)):=
 aj ah Ge (by rfl) (Sl 5 (an.of x) (RI.of (-x.c)) (RI.of (-x.d))) ⟨Nat.le_refl _,rfl,rfl,rfl,rfl,rfl,rfl,mS x.c,rfl,rfl,mS x.d,rfl,trivial⟩
theorem GO (x:au):az P0 188 [.ag x.cells,iv 1] (one (.ag x.yo.cells)):=
 aj ah Ge (by rfl) (Sk 5 (an.of x) (RI.of (-x.b)) (RI.of (-x.d))) ⟨Nat.le_refl _,rfl,rfl,rfl,rfl,mS x.b,rfl,rfl,rfl,rfl,mS x.d,rfl,trivial⟩
theorem Lv {m n:Nat} {a b:an} {c:Bool} (h:a.dO b=c):jx MD.P .eql 26 (.tmp m) (.tmp n) (.agg a.vals.toArray) (.agg b.vals.toArray) c:=by subst h;exact wk (by kernel_rfl) (uC 9996 a b)
theorem Eb {m:Int} {a b:au} (e:[PV.ag a.cells,iv m]=[PV.ag b.cells,iv m]):a=b:=by
 simp only [List.cons.injEq,and_true,PV.ag.injEq] at e
 exact bf e
theorem N5 (x:au):Li [.ag x.cells,iv 2]=some (one (.ag x.lR.cells)):=
 Ds (aO (enc:=fun x:au=>[.ag x.cells,iv 2]) (fun a b e=>by rw [Eb e]) trivial)
theorem N4 (x:au):Li [.ag x.cells,iv 1]=some (one (.ag x.yo.cells)):=
 Jr (AN fun y _ e=>by simp [iv] at e) (aO (enc:=fun x:au=>[.ag x.cells,iv 1]) (fun a b e=>by rw [Eb e]) trivial)
theorem NQ:aH MD.P t46:=aI
 (ak (ax fun x h=>nH x h)
 (ak (ax fun n h=>uH n h)
 (ak (ax B7)
 (ak (ax fun x h=>zX x h.1 h.2)
 (ak (Fs (ax fun x _=>GP x) (ax fun x _=>GO x)) aF)))))
def wA (y:au):au:=(y.cE y.lR).low
def wz (y:au):au:=(wA y).yo
def qV (y:au):au:=((wA y).cE (wz y)).low
def CU (y:au):au:=(au.mk (qV y).n 0 0 0 (qV y).a).low
def CV (x y:au):au:=(x.cE y.lR).low
def CW (y:au):au:=((wz y).cE (CU y)).low
def y9 (x y:au):au:=((CV x y).cE (CW y)).low
instance (K:Nat) (x:au):Decidable (x.Fit K):=by unfold au.Fit;infer_instance
def rT (K:Nat) (x y:au):Prop:=((x.Fit K∧y.Fit K∧y.lR.Fit K)∧(wA y).Fit K∧(wz y).Fit K∧(au.mk (qV y).n 0 0 0 (qV y).a).Fit K∧(CU y).Fit K∧(CV x y).Fit K∧(CW y).Fit K)∧((x.ok=true∧y.ok=true)∧y≠au.dM 0)∧((y.n* y.lR.n≠0∧(wA y).n* (wz y).n≠0)∧(qV y).a≠0∧x.n* y.lR.n≠0∧(wz y).n* (CU y).n≠0∧(CV x y).n* (CW y).n≠0)
instance (K:Nat) (x y:au):Decidable (rT K x y):=by unfold rT;infer_instance
theorem Kb {K:Nat} (hK:K<2^20) {x y:au} (h:rT K x y):az P0 145 [.ag x.cells, .ag y.cells] (one (.aQ [.ag (y9 x y).cells,iv 0])):=by
 obtain ⟨⟨⟨fx,fy,fc⟩,fp,fe,Tj,fi,fu,fv⟩,⟨⟨ox,oy⟩,hy⟩,⟨n1,n2⟩,n3,n4,n5,n6⟩:=h
 have v1:=oH (fx.rL (by omega)).small
 have v2:=oH (fy.rL (by omega)).small
 rw [ox] at v1
 rw [oy] at v2
 have ne:(an.of y).dO (an.dM 0)=false:=by
  refine Bool.eq_false_iff.2 fun h=>hy ?_
  have e:=congrArg an.i5 (an.fG.1 h)
  rwa [M6,an.nN,an.nN] at e
 exact aj ah NQ (by rfl) (Tf 1 (an.of x) (an.of y) (an.dM 0) (an.of y.lR) (an.of (wA y)) (an.of (wz y)) (an.of (qV y)) (an.of (CU y)) (an.of (CV x y)) (an.of (CW y)) (an.of (y9 x y)))
  ⟨v1,v2,eY (by decide) (by decide),Lv ne,N5 y,kI hK fy fc n1,N4 (wA y),kI hK fp fe n2,wH (x:=au.mk (qV y).n 0 0 0 (qV y).a) n3 (Tj.rL (by omega)),kI hK fx fc n4,kI hK fe fi n5,kI hK fu fv n6,trivial⟩
def HT:Nat→au
 |0=>⟨1,0,0,0,1⟩
 |1=>⟨0,1,0,1,1⟩
 |2=>⟨0,0,1,0,1⟩
 |3=>⟨0,1,0,0,1⟩
 |4=>⟨1,0,0,0,1⟩
 |5=>⟨0, -1,0,1,1⟩
 |_=>⟨0,0,0,0,1⟩
def As:Nat→Int
 |0=>1
 |1=>4
 |2=>2
 |3=>2
 |4=>2
 |5=>4
 |_=>1
theorem RH:∀k:Fin 7,rT 3 (HT k.val) (au.dM (As k.val))∧y9 (HT k.val) (au.dM (As k.val))=qv k.val:=by decide
end Go.Proofs.YtibbgjafjhcemaaGreatDoor.Cul
namespace Go.Proofs.YtibbgjafjhcemaaGreatDoor.Cul
open Go Go.RowKit
noncomputable def G7:List PV→Option RV:=bJ (fun p:au×au=>(∃K,K<2^20∧p.1.Fit K∧p.2.Fit K)∧p.1.ok=true∧p.2.ok=true) (fun p=>[.ag p.1.cells, .ag p.2.cells]) (fun p=>one (.ag (p.1.gK p.2).low.cells))
noncomputable def PL:List PV→Option RV:=bJ aP.small (fun v=>[.ag v.cells]) (fun v=>one (bv v.ok))
noncomputable def PR:List PV→Option RV:=bJ (fun p:au×au=>(∃K,K<2^20∧p.1.Fit K∧p.2.Fit K)∧p.1.ok=true∧p.2.ok=true) (fun p=>[.ag p.1.cells, .ag p.2.cells]) (fun p=>one (.ag (p.1.gK p.2.neg).low.cells))
noncomputable def u1:Cl:=bM [(51,xK)]
noncomputable def u2:Cl:=bM [(22,B2),(28,G7)]
noncomputable def u3:Cl:=bM [(23,PL),(24,GQ),(25,NC),(26,PR),(27,IS),(28,G7)]
def rK (i:Int):au:=bO (i%24 - 6)
def nY (v:aP) (i:Int):au:=(((v.x.i5.cE (bO i)).low).gK ((v.y.i5.cE (rK i)).low).neg).low
def nZ (v:aP) (i:Int):au:=(((v.x.i5.cE (rK i)).low).gK ((v.y.i5.cE (bO i)).low)).low
def gQ (v:aP) (i:Int):aP:=⟨an.of (nY v i),an.of (nZ v i),v.z⟩
def aP.Fit (K:Nat) (v:aP):Prop:=v.x.i5.Fit K∧v.y.i5.Fit K∧v.z.i5.Fit K
noncomputable def P2:List PV→Option RV:=bJ (fun p:aP×Int=>p.1.ok=true∧(∃K,K<2^10∧p.1.Fit K)∧ -(2^62)≤p.2∧p.2≤2^62) (fun p=>[.ag p.1.cells,iv p.2]) (fun p=>one (.ag (gQ p.1 p.2).cells))
noncomputable def u4:Cl:=bM [(5,OS),(6,P4),(7,JT),(8,P3),(9,P2)]
theorem Wj (k:Nat) (v:aP):aA MD u1 k 23 [.ag v.cells] [.r (one (bv false))]=
 some (RV.mk (bv false) none,[aa u1 51 [PV.ag v.x.cells] (RV.mk (bv false) none)]):=by kernel_rfl
theorem Wk (k:Nat) (v:aP):aA MD u1 k 23 [.ag v.cells] [.r (one (bv true)), .r (one (bv false))]=
 some (RV.mk (bv false) none,[aa u1 51 [PV.ag v.x.cells] (RV.mk (bv true) none),aa u1 51 [PV.ag v.y.cells] (RV.mk (bv false) none)]):=by kernel_rfl
theorem Wl (k:Nat) (v:aP) (b:Bool):aA MD u1 k 23 [.ag v.cells] [.r (one (bv true)), .r (one (bv true)), .r (one (bv b))]=
 some (RV.mk (bv b) none,[aa u1 51 [PV.ag v.x.cells] (RV.mk (bv true) none),aa u1 51 [PV.ag v.y.cells] (RV.mk (bv true) none),aa u1 51 [PV.ag v.z.cells] (RV.mk (bv b) none)]):=by kernel_rfl
theorem WC (k:Nat) (x y n s:an):aA MD u2 k 26 [.ag x.cells, .ag y.cells] [.r (one (.ag n.cells)), .r (one (.ag s.cells))]=
 some (RV.mk (PV.ag s.cells) none,[aa u2 22 [PV.ag y.cells] (RV.mk (PV.ag n.cells) none),aa u2 28 [PV.ag x.cells,PV.ag n.cells] (RV.mk (PV.ag s.cells) none)]):=by kernel_rfl
theorem Xd (k:Nat) (v:aP) (i:Int) (c s p1 p2 q p3 p4 r:an):aA MD u3 k 9 [.ag v.cells,iv i] [.r (one (bv true)), .r (one (.ag c.cells)), .r (one (.ag s.cells)), .r (one (.ag p1.cells)), .r (one (.ag p2.cells)), .r (one (.ag q.cells)), .r (one (.ag p3.cells)), .r (one (.ag p4.cells)), .r (one (.ag r.cells))]=
 some (RV.mk (PV.ag [bv q.c0.g,sv q.c0.s,bv q.c1.g,sv q.c1.s,bv q.c2.g,sv q.c2.s,bv q.c3.g,sv q.c3.s,bv q.d.g,sv q.d.s,bv r.c0.g,sv r.c0.s,bv r.c1.g,sv r.c1.s,bv r.c2.g,sv r.c2.s,bv r.c3.g,sv r.c3.s,bv r.d.g,sv r.d.s,bv v.z.c0.g,sv v.z.c0.s,bv v.z.c1.g,sv v.z.c1.s,bv v.z.c2.g,sv v.z.c2.s,bv v.z.c3.g,sv v.z.c3.s,bv v.z.d.g,sv v.z.d.s]) none,[aa u3 23 [PV.ag v.cells] (RV.mk (bv true) none),aa u3 24 [iv i] (RV.mk (PV.ag c.cells) none),aa u3 25 [iv i] (RV.mk (PV.ag s.cells) none),aa u3 27 [PV.ag v.x.cells,PV.ag c.cells] (RV.mk (PV.ag p1.cells) none),aa u3 27 [PV.ag v.y.cells,PV.ag s.cells] (RV.mk (PV.ag p2.cells) none),aa u3 26 [PV.ag p1.cells,PV.ag p2.cells] (RV.mk (PV.ag q.cells) none),aa u3 27 [PV.ag v.x.cells,PV.ag s.cells] (RV.mk (PV.ag p3.cells) none),aa u3 27 [PV.ag v.y.cells,PV.ag c.cells] (RV.mk (PV.ag p4.cells) none),aa u3 28 [PV.ag p3.cells,PV.ag p4.cells] (RV.mk (PV.ag r.cells) none)]):=by kernel_rfl
theorem Vn (k:Nat) (v:aP) (i:Int):aA MD u4 k 3 [.ag v.cells, .lit (.int .i16 i)] [.r (one (bv true)), .r (one (bv false)), .r (one (bv true))]=
 some (RV.mk (bv true) none,[aa u4 5 [] (RV.mk (bv true) none),aa u4 6 [PV.ag v.cells,iv (10:Int)] (RV.mk (bv false) none),aa u4 5 [] (RV.mk (bv true) none)]):=by kernel_rfl
theorem Vo (k:Nat) (v:aP) (i:Int):aA MD u4 k 3 [.ag v.cells, .lit (.int .i16 i)] [.r (one (bv true)), .r (one (bv true)), .r (one (bv false)), .r (one (bv true))]=
 some (RV.mk (bv true) none,[aa u4 5 [] (RV.mk (bv true) none),aa u4 6 [PV.ag v.cells,iv (10:Int)] (RV.mk (bv true) none),aa u4 7 [PV.ag v.cells] (RV.mk (bv false) none),aa u4 5 [] (RV.mk (bv true) none)]):=by kernel_rfl
theorem Vp (k:Nat) (v t o o2 t2:aP) (i j j2 m:Int) (b:Bool):aA MD u4 k 3 [.ag v.cells, .lit (.int .i16 i)] [.r (one (bv true)), .r (one (bv true)), .r (one (bv true)), .i 20 j, .r (one (.ag t.cells)), .r (one (.ag o.cells)), .r (one (.ag o2.cells)), .i 26 j2, .i 27 m, .r (one (.ag t2.cells)), .g b]=
 some (RV.mk (bv b) none,[aa u4 5 [] (RV.mk (bv true) none),aa u4 6 [PV.ag v.cells,iv (10:Int)] (RV.mk (bv true) none),aa u4 7 [PV.ag v.cells] (RV.mk (bv true) none),IntKind.i64.wrap i=j,aa u4 9 [PV.ag v.cells,iv j] (RV.mk (PV.ag t.cells) none),aa u4 8 [PV.ag t.cells] (RV.mk (PV.ag o.cells) none),aa u4 8 [PV.ag v.cells] (RV.mk (PV.ag o2.cells) none),IntKind.i64.wrap i=j2,IntKind.i64.wrap ((0:Int) - j2)=m,aa u4 9 [PV.ag o2.cells,iv m] (RV.mk (PV.ag t2.cells) none),jx MD.P BinOp.eql 28 (Operand.tmp (22:Nat)) (Operand.tmp (28:Nat)) (Value.agg o.vals.toArray) (Value.agg t2.vals.toArray) b]):=by kernel_rfl
end Go.Proofs.YtibbgjafjhcemaaGreatDoor.Cul
namespace Go.Proofs.YtibbgjafjhcemaaGreatDoor.Cul
open Go Go.RowKit
def cS:Nat→Int×Int×Int×Int×Int
 |0=>(1,0,0,0,1)
 |1=>(0,1,0,1,4)
 |2=>(0,0,1,0,2)
 |3=>(0,1,0,0,2)
 |4=>(1,0,0,0,2)
 |5=>(0, -1,0,1,4)
 |_=>(0,0,0,0,1)
def rH (k:Nat):List PV:=[iv (cS k).1,iv (cS k).2.1,iv (cS k).2.2.1,iv (cS k).2.2.2.1,iv (cS k).2.2.2.2]
def tC:Prop:=∀k:Nat,k≤6→az P0 98 (rH k) (one (.ag (an.of (qv k)).cells))
noncomputable def M0:List PV→Option RV:=bJ (fun k:Nat=>k≤6) rH (fun k=>one (.ag (an.of (qv k)).cells))
noncomputable def t47:Cl:=bM [(98,M0)]
theorem Wc (k:Nat) (x:an):aA MD t47 k 53 [iv 0] [.r (one (.ag x.cells))]=
 some (RV.mk (PV.ag x.cells) none,[aa t47 98 [iv (1:Int),iv (0:Int),iv (0:Int),iv (0:Int),iv (1:Int)] (RV.mk (PV.ag x.cells) none)]):=by kernel_rfl
theorem Wd (k:Nat) (x:an):aA MD t47 k 53 [iv 1] [.r (one (.ag x.cells))]=
 some (RV.mk (PV.ag x.cells) none,[aa t47 98 [iv (0:Int),iv (1:Int),iv (0:Int),iv (1:Int),iv (4:Int)] (RV.mk (PV.ag x.cells) none)]):=by kernel_rfl
theorem We (k:Nat) (x:an):aA MD t47 k 53 [iv 2] [.r (one (.ag x.cells))]=
 some (RV.mk (PV.ag x.cells) none,[aa t47 98 [iv (0:Int),iv (0:Int),iv (1:Int),iv (0:Int),iv (2:Int)] (RV.mk (PV.ag x.cells) none)]):=by kernel_rfl
theorem Wf (k:Nat) (x:an):aA MD t47 k 53 [iv 3] [.r (one (.ag x.cells))]=
 some (RV.mk (PV.ag x.cells) none,[aa t47 98 [iv (0:Int),iv (1:Int),iv (0:Int),iv (0:Int),iv (2:Int)] (RV.mk (PV.ag x.cells) none)]):=by kernel_rfl
theorem Wg (k:Nat) (x:an):aA MD t47 k 53 [iv 4] [.r (one (.ag x.cells))]=
 some (RV.mk (PV.ag x.cells) none,[aa t47 98 [iv (1:Int),iv (0:Int),iv (0:Int),iv (0:Int),iv (2:Int)] (RV.mk (PV.ag x.cells) none)]):=by kernel_rfl
theorem Wh (k:Nat) (x:an):aA MD t47 k 53 [iv 5] [.r (one (.ag x.cells))]=
 some (RV.mk (PV.ag x.cells) none,[aa t47 98 [iv (0:Int),iv (-1:Int),iv (0:Int),iv (1:Int),iv (4:Int)] (RV.mk (PV.ag x.cells) none)]):=by kernel_rfl
theorem Wi (k:Nat) (x:an):aA MD t47 k 53 [iv 6] [.r (one (.ag x.cells))]=
 some (RV.mk (PV.ag x.cells) none,[aa t47 98 [iv (0:Int),iv (0:Int),iv (0:Int),iv (0:Int),iv (1:Int)] (RV.mk (PV.ag x.cells) none)]):=by kernel_rfl
theorem Nl {a b:Nat} (e:rH a=rH b):qv a=qv b:=by
 have h:cS a=cS b:=by
  unfold rH at e
  simp only [List.cons.injEq,and_true] at e
  exact Prod.ext (dL e.1) (Prod.ext (dL e.2.1) (Prod.ext (dL e.2.2.1) (Prod.ext (dL e.2.2.2.1) (dL e.2.2.2.2))))
 have key:∀a b:Fin 7,cS a.val=cS b.val→qv a.val=qv b.val:=by decide
 have m7:∀a,∃c,c<7∧cS a=cS c∧qv a=qv c:=fun a=>by
  rcases Nat.lt_or_ge a 7 with h|h
  · exact ⟨a,h,rfl,rfl⟩
  · obtain ⟨d,rfl⟩:∃d,a=d+7:=⟨a - 7,by omega⟩
    exact ⟨6,by omega,rfl,rfl⟩
 obtain ⟨c,hc,e1,e2⟩:=m7 a
 obtain ⟨d,hd,e3,e4⟩:=m7 b
 rw [e2,e4]
 exact key ⟨c,hc⟩ ⟨d,hd⟩ (by show cS c=cS d;rw [←e1,←e3,h])
theorem kG {k:Nat} (h:k≤6):M0 (rH k)=some (one (.ag (an.of (qv k)).cells)):=
 aO (enc:=rH) (fun a b e=>by rw [Nl e]) h
theorem nh (hn:tC):aH MD.P t47:=aI (ak (ax fun k h=>hn k h) aF)
theorem vm (hn:tC):kW:=by
 intro k hk
 have:k=0∨k=1∨k=2∨k=3∨k=4∨k=5∨k=6:=by omega
 rcases this with rfl|rfl|rfl|rfl|rfl|rfl|rfl
 · exact aj ah (nh hn) (by rfl) (Wc 1 _) ⟨kG (k:=0) hk,trivial⟩
 · exact aj ah (nh hn) (by rfl) (Wd 1 _) ⟨kG (k:=1) hk,trivial⟩
 · exact aj ah (nh hn) (by rfl) (We 1 _) ⟨kG (k:=2) hk,trivial⟩
 · exact aj ah (nh hn) (by rfl) (Wf 1 _) ⟨kG (k:=3) hk,trivial⟩
 · exact aj ah (nh hn) (by rfl) (Wg 1 _) ⟨kG (k:=4) hk,trivial⟩
 · exact aj ah (nh hn) (by rfl) (Wh 1 _) ⟨kG (k:=5) hk,trivial⟩
 · exact aj ah (nh hn) (by rfl) (Wi 1 _) ⟨kG (k:=6) hk,trivial⟩
end Go.Proofs.YtibbgjafjhcemaaGreatDoor.Cul
namespace Go.Proofs.YtibbgjafjhcemaaGreatDoor.Cul
open Go Go.RowKit Go.ChangeMaps Go.MapKept Go.WideShapes
noncomputable abbrev PM:Program:=Go.Proofs.Tryz.prog
section
variable {a:Act} {w:World} {K:Act→World→Prop} {Q:Exit→Act→World→Prop}
theorem AZ:PM.underlying 148=some (.map 3 3):=by kernel_rfl
theorem Gq:PM.underlying 3=some (.int .i64):=by kernel_rfl
theorem DV {o:Oper} (ho:o.op= .makeMap 148 none) (h:K (a.put o.dst (.map (some w.heap.size))) (w.alloc (.map #[] 0))):o.wp PM a w K Q:=by
 unfold Oper.wp
 have e:(execOp a.eval o).run PM w= .ok (.value (.map (some w.heap.size))) (w.alloc (.map #[] 0)):=by
  unfold execOp
  simp only [ho]
  rfl
 rw [e];exact h
theorem IF {o:Oper} {x:Operand} {m:Nat} {es:Array MapEntry} {clock:Nat} (ho:o.op= .range 148 x) (hx:a.eval x= .map (some m)) (hm:w.heap[m]? =some (.map es clock)) (h:K (a.put o.dst (.pointer (some ⟨w.heap.size,0,none⟩))) (w.alloc (.mapIter (some m) clock #[] clock))):o.wp PM a w K Q:=by
 have e:=run_range_map (P:=PM) w 148 3 3 m es clock AZ hm
 unfold Oper.wp
 simp [execOp,ho,hx,e,Result.andThen]
 exact h
theorem KZ {o:Oper} {x:Operand} {r m since c0 clock:Nat} {seen:Array Nat} {es:Array MapEntry} (ho:o.op= .next x false) (hx:a.eval x= .pointer (some ⟨r,0,none⟩)) (hr:w.heap[r]? =some (.mapIter (some m) since seen c0)) (hb:w.heap[m]? =some (.map es clock)) (hold:∀x∈es.toList,x.born<since) (hsc:since≤c0)
  (hDone:(leftOf es seen).size=0→K (a.put o.dst (.tuple #[.bool false])) w)
  (hMore:∀e∈(leftOf es seen).toList,∀w1:World,(w1=w∨w1=w.drew)→K (a.put o.dst (.tuple #[.bool true,e.key,e.val])) (setBlock w1 r (.mapIter (some m) since (seen.push e.born) clock))):o.wp PM a w K Q:=by
 unfold Oper.wp
 rcases run_next_at (P:=PM) w o.type r m since c0 seen es clock hr hb hold hsc with ⟨h0,hrun⟩|⟨e,he,w1,hw1,hrun⟩
 · simp [execOp,ho,hx,hrun,Result.andThen]
   exact hDone h0
 · simp [execOp,ho,hx,hrun,Result.andThen]
   exact hMore e he w1 hw1
theorem IE {o:Oper} {x:Operand} {r m since clock:Nat} {seen:Array Nat} {es:Array MapEntry} {e:MapEntry} (ho:o.op= .entry x) (hx:a.eval x= .pointer (some ⟨r,0,none⟩)) (hr:w.heap[r]? =some (.mapIter (some m) since (seen.push e.born) clock)) (hb:w.heap[m]? =some (.map es clock)) (he:e∈es.toList) (hn:(es.toList.map (·.born)).Nodup)
  (h:K (a.put o.dst (.tuple #[e.key,e.val])) w):o.wp PM a w K Q:=by
 have hrun:=run_entry_at (P:=PM) w r m since seen es clock e hr hb he hn
 unfold Oper.wp
 simp [execOp,ho,hx,hrun,Result.andThen]
 exact h
theorem KN {m clock:Nat} {es:Array MapEntry} {x:Int} {val:Value} (hb:w.heap[m]? =some (.map es clock)) (hf:Instr.findNow (.int .i64) (.int .i64 x) es.toList 0=some none):
  (Instr.mapUpdate 148 (.map (some m)) (.int .i64 x) val).run PM w= .ok () { w with heap:=w.heap.setIfInBounds m (.map (es.push { key:= .int .i64 x,val:=val,born:=clock}) (clock+1))}:=by
 have hc:(Instr.checkKey false 10000 3 (.int .i64 x)).run PM w= .ok () w:=MapKept.run_checkKey Gq (by simp [MapKept.IsKey]) false 9999
 simp [Instr.mapUpdate,run_underlying AZ,MapKept.run_getObj_map hb,hc,MapKept.run_findKey Gq hf,MapKept.run_setObj_map _ hb,Result.andThen]
theorem rR {o:Oper} {y z v:Operand} {m clock:Nat} {es:Array MapEntry} {x:Int} {val:Value} (ho:o.op= .insert 148 y z v) (hy:a.eval y= .map (some m)) (hz:a.eval z= .int .i64 x) (hv:a.eval v=val) (hb:w.heap[m]? =some (.map es clock)) (hf:Instr.findNow (.int .i64) (.int .i64 x) es.toList 0=some none)
  (h:K (a.put o.dst (.tuple #[])) { w with heap:=w.heap.setIfInBounds m (.map (es.push { key:= .int .i64 x,val:=val,born:=clock}) (clock+1))}):o.wp PM a w K Q:=by
 have e:=KN (x:=x) (val:=val) hb hf
 unfold Oper.wp
 simp [execOp,ho,hy,hz,hv,e,Result.andThen]
 exact h
end
end Go.Proofs.YtibbgjafjhcemaaGreatDoor.Cul
namespace Go.Proofs.YtibbgjafjhcemaaGreatDoor.Cul
open Go Go.RowKit
section
variable {aT:ef} {P:Program} {base:Nat} {w w' w0:World} {Pr aD aL:aC} {bk aN:Key→Nat} {st cP s2:St} {a a':Act} {N m:Nat}
theorem Good.toP (G:Good base w0 aL N aT st a w):eV base w0 aL N aT (fun _ _=>False) st a w:=by
 obtain ⟨Pr,bk,I,h1,h2,h3,h4,h5,h6⟩:=G
 exact ⟨Pr,bk,I,h1,h2,h3,h4,h5,h6,fun _ _ h=>h.elim⟩
theorem Good.hO (hds:aT.ds=some []) (qz:base≤w0.heap.size) (G:Good base w0 aL N aT st a w) {l:Nat} {o o':Obj} (hl:w0.heap.size≤l) (ho:w.heap[l]? =some o) (hc:o.isCells=false):Good base w0 aL N aT st a (w.putObj l o'):=
 (eV.hO hds (fun d hd=>by simp at hd) qz G.toP hl ho hc).good
theorem Good.grow (qz:base≤w0.heap.size) (G:Good base w0 aL N aT st a w) (hg:w.grownBy w' none):Good base w0 aL N aT st a w':=
 (eV.grow qz G.toP hg).good
theorem Bd {v:Value}:dn base w Pr bk st a { v:= .dead} v:=
 ⟨fun _ _=>trivial,fun _ _ _ h=>by simp at h,fun z h=>by simp at h,fun q h=>by simp at h⟩
theorem Good.mz (G:Good base w0 aL N aT st a w) {d:Nat} (hd:d<N) (hp:aT.k d=none) (v:Value):Good base w0 aL N aT (st.put (some d) .dead) (a.put (some d) v) w:=by
 obtain ⟨Pr,bk,I,h1,h2,h3,h4,h5,h6⟩:=G
 rw [eN]
 obtain ⟨aN,I',hbk⟩:=I.iq hd (Bd (v:=v))
 exact ⟨Pr,aN,I',h1,h2,h3,fun k b e=>(hbk k).trans (h4 k b e),h5,fun ds e=>h6 ds e⟩
theorem Good.l6 (G:Good base w0 aL N aT st a w) {d:Nat} (hd:d<N) (hp:aT.k d=none) {p:PV} {v:Value} (hr:∀Pr,Rp w Pr p v):Good base w0 aL N aT (st.put (some d) (.pv p)) (a.put (some d) v) w:=by
 obtain ⟨Pr,bk,I,h1,h2,h3,h4,h5,h6⟩:=G
 rw [eN]
 obtain ⟨aN,I',hbk⟩:=I.iq hd (bu (hr Pr))
 exact ⟨Pr,aN,I',h1,h2,h3,fun k b e=>(hbk k).trans (h4 k b e),h5,fun ds e=>h6 ds e⟩
theorem kZ {call:Cl} {it:Nat→List PV→Option (Nat×List (List PV))} (hC:aH P call) (hI:mC P it) (hm:P.follows .mixedOrders=true) (note:Nat→eL) (k:Nat) (c:Code) (hok:bN N c=true) {F:Fence} (E:iy F) (n:Nat) (hfl:flat c=true) (eW:∀d∈dstsOf c,aT.k d=none)
  (G:Good base w0 aL N aT st a w) (qz:base≤w.heap.size) {x:Xt} (h:cV P call it (fun g=>bh g k) note c st=some (x,s2)) {Q:Exit→Act→World→Prop} (hQ:∀a' w',Good base w0 aL N aT s2 a' w'→KO w w'→Q (toExit x) a' w'):c.wpIn F n P Q a w:=by
 obtain ⟨Pr,bk,I,h1,h2,h3,h4,h5,h6⟩:=G
 refine fY hC hI hm note k c hok F E n w Pr aT (.inl hfl) eW st a w x s2 ⟨Pr,bk,I,Below.refl _ _,fun _ _ _ h=>h,KO.refl _,h4,fun _ _ _ e1 e2=>⟨e1,e2⟩,h6⟩ h Q fun a' w' G'=> ?_
 obtain ⟨aD,aN,I',k1,k2,k3,k4,k5,k6⟩:=G'
 exact hQ a' w' ⟨aD,aN,I',h1.trans k1,fun b o hlt h=>h2 b o hlt (k2 b o hlt h),h3.trans k3,k4,fun b o v e1 e2=>by
  obtain ⟨e3,e4⟩:=h5 b o v e1 e2
  exact k5 b o v e3 e4,k6⟩ k3
theorem Good.known {d b:Nat} (G:Good base w0 aL N aT st a w) (de:look st.bx d=none) (hv:a.tmps[d]? =some (.pointer (some ⟨b,0,none⟩))) (mP:∀t av,look st.sl t=some av→(∃p,av= .pv p)∨(∃j off,av= .bp j off∧j≠d)) (dJ:st.gr=[]) (EU:st.tg=[]):
  Good base w0 aL N ⟨fun j=>if j=d then some b else aT.k j,aT.ds⟩ { st with sl:=(d, .bp d 0)::bF st.sl d} a w:=by
 obtain ⟨Pr,bk,I,h1,h2,h3,h4,h5,h6⟩:=G
 have hlk:∀t,look ((d,AV.bp d 0)::bF st.sl d) t=if d=t then some (.bp d 0) else look st.sl t:=by
  intro t
  simp only [look]
  by_cases h:d=t
  · simp [h]
  · have h2:¬t=d:=fun e=>h e.symm
    simp only [if_neg h,bC,if_neg h2]
 have hkey:∀k:Nat,Key.bx k=Key.bx d→k=d:=fun k e=>by injection e
 have hbk:∀k,k≠d→(if Key.bx k=Key.bx d then b else bk (.bx k))=bk (.bx k):=fun k hk=>if_neg fun e=>hk (hkey k e)
 have bS:∀x,live ({ st with sl:=(d, .bp d 0)::bF st.sl d}:St) x→∃k,x= .bx k∧k≠d∧live st (.bx k):=by
  intro x hx
  cases x with
  |bx k=>
   refine ⟨k,rfl,fun e=> ?_,hx⟩
   obtain ⟨cs,hc⟩:=hx
   subst e
   have zq:look st.bx k=some cs:=hc
   rw [de] at zq;simp at zq
  |sx t=>
   rcases hx with ⟨sz,n,cs,hx⟩|hx
   · have hx':look ((d,AV.bp d 0)::bF st.sl d) t=some (.ex sz n cs):=hx
     rw [hlk] at hx'
     split at hx'
     · simp at hx'
     · rcases mP t _ hx' with ⟨p,e⟩|⟨j,off,e,_⟩<;>simp at e
   · obtain ⟨z,hx⟩:=hx
     have hx':aG st.gr (.s t)=some z:=hx
     rw [dJ] at hx';simp [aG] at hx'
  |cx k o=>
   obtain ⟨z,hx⟩:=hx
   have hx':aG st.gr (.c k o)=some z:=hx
   rw [dJ] at hx';simp [aG] at hx'
 refine ⟨Pr,fun x=>if x= .bx d then b else bk x,⟨I.size,I.defers,I.hb,I.bH,fun t av h=> ?_,fun x hx=> ?_,fun x y hx hy e=> ?_,fun k cs h=> ?_,fun t z h=> ?_,fun k i z h=> ?_,fun t q h=> ?_⟩,h1,h2,h3,fun k b' e=> ?_,h5,h6⟩
 · have h':look ((d,AV.bp d 0)::bF st.sl d) t=some av:=h
   rw [hlk] at h'
   split at h'
   · rename_i e
     simp only [Option.some.injEq] at h'
     subst e h'
     exact ⟨_,hv,by show _=Value.pointer (some ⟨if Key.bx d=Key.bx d then b else _,0,none⟩);rw [if_pos rfl]⟩
   · obtain ⟨v,e1,e2⟩:=I.slots t av h'
     refine ⟨v,e1, ?_⟩
     rcases mP t av h' with ⟨p,rfl⟩|⟨j,off,rfl,hj⟩
     · exact e2
     · show v= .pointer (some ⟨if Key.bx j=Key.bx d then b else bk (.bx j),off,none⟩)
       rw [hbk j hj];exact e2
 · obtain ⟨k,rfl,hk,hl⟩:=bS x hx
   show base≤(if Key.bx k=Key.bx d then b else bk (.bx k))∧(if Key.bx k=Key.bx d then b else bk (.bx k))<_
   rw [hbk k hk];exact I.own _ hl
 · obtain ⟨k,rfl,hk,hl⟩:=bS x hx
   obtain ⟨k2,rfl,hk2,mN⟩:=bS y hy
   have e':(if Key.bx k=Key.bx d then b else bk (.bx k))=(if Key.bx k2=Key.bx d then b else bk (.bx k2)):=e
   rw [hbk k hk,hbk k2 hk2] at e'
   exact I.inj _ _ hl mN e'
 · have h':look st.bx k=some cs:=h
   have hk:k≠d:=fun e=>by subst e;rw [de] at h';simp at h'
   have:=I.boxes k cs h'
   show (∃T c vs,w.heap[if Key.bx k=Key.bx d then b else bk (.bx k)]? =_∧_)∧∀o,¬Pr (if Key.bx k=Key.bx d then b else bk (.bx k)) o
   rw [hbk k hk];exact this
 · have h':aG st.gr (.s t)=some z:=h
   rw [dJ] at h';simp [aG] at h'
 · have h':aG st.gr (.c k i)=some z:=h
   rw [dJ] at h';simp [aG] at h'
 · have h':look st.tg t=some (some q):=h
   rw [EU] at h';simp [look] at h'
 · show (if Key.bx k=Key.bx d then b else bk (.bx k))=b'
   have e':(if k=d then some b else aT.k k)=some b':=e
   by_cases hk:k=d
   · rw [if_pos hk] at e'
     rw [if_pos (by rw [hk])]
     simpa using e'
   · rw [if_neg hk] at e'
     rw [hbk k hk];exact h4 k b' e'
end
end Go.Proofs.YtibbgjafjhcemaaGreatDoor.Cul
namespace Go.Proofs.YtibbgjafjhcemaaGreatDoor.Cul
open Go Go.RowKit
def cA:Code→Code
 | .seq a _=>a
 | .cond _ a _=>a
 | .block _ c=>c
 | .loop c=>c
 |c=>c
def cB:Code→Code
 | .seq _ b=>b
 | .cond _ _ b=>b
 |c=>c
noncomputable abbrev n0:Code:=uo 98
noncomputable abbrev n1:Code:=cB n0
noncomputable abbrev n2:Code:=cB n1
noncomputable abbrev n3:Code:=cB n2
noncomputable abbrev n4:Code:=cB n3
noncomputable abbrev n5:Code:=cB n4
theorem Q8:n0= .seq (cA n0) n1:=by kernel_rfl
theorem Q9:n1= .seq (cA n1) n2:=by kernel_rfl
theorem Ra:n2= .seq (cA n2) n3:=by kernel_rfl
theorem Rb:n3= .seq (cA n3) n4:=by kernel_rfl
theorem Rc:n4= .seq (cA n4) n5:=by kernel_rfl
theorem Q7:n5= .ret:=by kernel_rfl
theorem Q6:cA n2= .seq (cA (cA n2)) (cB (cA n2)):=by kernel_rfl
theorem MY:cB (cA n2)= .block 0 (cA (cB (cA n2))):=by kernel_rfl
theorem Oo:cA (cB (cA n2))= .loop (cA (cA (cB (cA n2)))):=by kernel_rfl
noncomputable abbrev nl:Code:=cA (cA (cB (cA n2)))
theorem VF:nl= .seq (cA nl) (cB nl):=by kernel_rfl
theorem PE:cB nl= .seq (cA (cB nl)) (cB (cB nl)):=by kernel_rfl
theorem PF:cA (cB nl)= .cond (.tmp 23) .skip (.exit 0):=by kernel_rfl
theorem VG:cB (cB nl)= .block 1 (cA (cB (cB nl))):=by kernel_rfl
theorem VH:cA (cB (cB nl))= .seq (cA (cA (cB (cB nl)))) (cB (cA (cB (cB nl)))):=by kernel_rfl
end Go.Proofs.YtibbgjafjhcemaaGreatDoor.Cul
namespace Go.Proofs.YtibbgjafjhcemaaGreatDoor.Cul
open Go Go.RowKit
noncomputable def OY:List PV→Option RV:=bJ (fun p:au×au=>(∃K,K<2^20∧p.1.Fit K∧p.2.Fit K)∧p.1.ok=true∧p.2.ok=true) (fun p=>[.ag p.1.cells, .ag p.2.cells]) (fun p=>one (.ag (p.1.gK p.2).low.cells))
noncomputable def PN:List PV→Option RV:=bJ (fun c:Nat=>c=2∨c=3∨c=6) (fun c=>[iv c]) (fun c=>one (.ag (an.of (rv c)).cells))
noncomputable def OZ:List PV→Option RV:=bJ (fun p:au×au=>rT 3 p.1 p.2) (fun p=>[.ag p.1.cells, .ag p.2.cells]) (fun p=>one (.aQ [.ag (y9 p.1 p.2).cells,iv 0]))
noncomputable def tn:Cl:=bM [(143,wN),(27,IS),(28,OY),(144,PN),(145,OZ)]
theorem Rd (k:Nat) (a b c d e:Int):cW MD.P tn MD.iter k (MD.note 98) (cA n0) (St.enter [iv a,iv b,iv c,iv d,iv e]) []=
 some ((Xt.normal,St.mk [(0,AV.pv (iv a)),(1,AV.pv (iv b)),(2,AV.pv (iv c)),(3,AV.pv (iv d)),(4,AV.pv (iv e)),(10,AV.bp 10 0)] [(10,[bv false,sv (ByteArray.mk #[]),bv false,sv (ByteArray.mk #[]),bv false,sv (ByteArray.mk #[]),bv false,sv (ByteArray.mk #[]),bv false,sv (ByteArray.mk #[])])] [] []),[],[]):=by kernel_rfl
theorem Re (k:Nat) (a b c d e:Int) (u x:an):cW MD.P tn MD.iter k (MD.note 98) (cA n1) ⟨[(0, .pv (iv a)),(1, .pv (iv b)),(2, .pv (iv c)),(3, .pv (iv d)),(4, .pv (iv e)),(10, .bp 10 0)],[(10,u.cells)],[],[]⟩ [.r (one (.ag x.cells))]=
 some ((Xt.normal,St.mk [(1,AV.pv (iv b)),(2,AV.pv (iv c)),(3,AV.pv (iv d)),(4,AV.pv (iv e)),(10,AV.bp 10 0),(11,AV.bp 11 0)] [(10,u.cells),(11,x.cells)] [] []),[],[aa tn 143 [iv a] (RV.mk (PV.ag x.cells) none)]):=by kernel_rfl
theorem Rf (k:Nat) (e key v:Int) (u x y z p s:an):cW MD.P tn MD.iter k (MD.note 98) (cB (cA (cB (cB nl)))) ⟨[(4, .pv (iv e)),(10, .bp 10 0),(11, .bp 11 0),(12, .pv (iv key)),(13, .pv (iv v)),(21, .bp 21 0)],[(10,u.cells),(11,x.cells)],[],[]⟩ [.r (one (.ag y.cells)), .r (one (.ag z.cells)), .r (one (.ag p.cells)), .r (one (.ag s.cells))]=
 some ((Xt.normal,St.mk [(4,AV.pv (iv e)),(10,AV.bp 10 0),(11,AV.bp 11 0),(21,AV.bp 21 0)] [(10,u.cells),(11,s.cells)] [] []),[],[aa tn 143 [iv v] (RV.mk (PV.ag y.cells) none),aa tn 144 [iv key] (RV.mk (PV.ag z.cells) none),aa tn 27 [PV.ag y.cells,PV.ag z.cells] (RV.mk (PV.ag p.cells) none),aa tn 28 [PV.ag x.cells,PV.ag p.cells] (RV.mk (PV.ag s.cells) none)]):=by kernel_rfl
theorem Rg (k:Nat) (e:Int) (u x y q:an):cW MD.P tn MD.iter k (MD.note 98) (cA n3) ⟨[(4, .pv (iv e)),(10, .bp 10 0),(11, .bp 11 0),(21, .bp 21 0)],[(10,u.cells),(11,x.cells)],[],[]⟩ ((List.replicate 3 [El.r (one (.ag y.cells)),El.r (one (.aQ [.ag q.cells,iv 0]))]).flatten)=
 some ((Xt.normal,St.mk [(10,AV.bp 10 0),(11,AV.bp 11 0)] [(10,u.cells),(11,q.cells)] [] []),[],[aa tn 143 [iv e] (RV.mk (PV.ag y.cells) none),aa tn 145 [PV.ag x.cells,PV.ag y.cells] (RV.mk (PV.aQ [PV.ag q.cells,iv (0:Int)]) none),aa tn 143 [iv e] (RV.mk (PV.ag y.cells) none),aa tn 145 [PV.ag x.cells,PV.ag y.cells] (RV.mk (PV.aQ [PV.ag q.cells,iv (0:Int)]) none),aa tn 143 [iv e] (RV.mk (PV.ag y.cells) none),aa tn 145 [PV.ag x.cells,PV.ag y.cells] (RV.mk (PV.aQ [PV.ag q.cells,iv (0:Int)]) none),St.mk [(10,AV.bp 10 0),(11,AV.bp 11 0)] [(10,u.cells),(11,q.cells)] [] []=St.mk [(10,AV.bp 10 0),(11,AV.bp 11 0)] [(10,u.cells),(11,q.cells)] [] [],St.mk [(10,AV.bp 10 0),(11,AV.bp 11 0)] [(10,u.cells),(11,q.cells)] [] []=St.mk [(10,AV.bp 10 0),(11,AV.bp 11 0)] [(10,u.cells),(11,q.cells)] [] [],St.mk [(10,AV.bp 10 0),(11,AV.bp 11 0)] [(10,u.cells),(11,q.cells)] [] []=St.mk [(10,AV.bp 10 0),(11,AV.bp 11 0)] [(10,u.cells),(11,q.cells)] [] [],St.mk [(10,AV.bp 10 0),(11,AV.bp 11 0)] [(10,u.cells),(11,q.cells)] [] []=St.mk [(10,AV.bp 10 0),(11,AV.bp 11 0)] [(10,u.cells),(11,q.cells)] [] [],St.mk [(10,AV.bp 10 0),(11,AV.bp 11 0)] [(10,u.cells),(11,q.cells)] [] []=St.mk [(10,AV.bp 10 0),(11,AV.bp 11 0)] [(10,u.cells),(11,q.cells)] [] [],St.mk [(10,AV.bp 10 0),(11,AV.bp 11 0)] [(10,u.cells),(11,q.cells)] [] []=St.mk [(10,AV.bp 10 0),(11,AV.bp 11 0)] [(10,u.cells),(11,q.cells)] [] [],St.mk [(10,AV.bp 10 0),(11,AV.bp 11 0)] [(10,u.cells),(11,q.cells)] [] []=St.mk [(10,AV.bp 10 0),(11,AV.bp 11 0)] [(10,u.cells),(11,q.cells)] [] [],St.mk [(10,AV.bp 10 0),(11,AV.bp 11 0)] [(10,u.cells),(11,q.cells)] [] []=St.mk [(10,AV.bp 10 0),(11,AV.bp 11 0)] [(10,u.cells),(11,q.cells)] [] []]):=by kernel_rfl
theorem Rh (k:Nat) (u x:an):cW MD.P tn MD.iter k (MD.note 98) (cA n4) ⟨[(10, .bp 10 0),(11, .bp 11 0)],[(10,u.cells),(11,x.cells)],[],[]⟩ []=
 some ((Xt.normal,St.mk [(10,AV.bp 10 0)] [(10,x.cells)] [] []),[],[]):=by kernel_rfl
end Go.Proofs.YtibbgjafjhcemaaGreatDoor.Cul
namespace Go.Proofs.YtibbgjafjhcemaaGreatDoor.Cul
open Go Go.RowKit Go.ChangeMaps
theorem Lx {x y:au} {K:Nat} (hK:K<2^20) (hx:x.Fit K) (hy:y.Fit K) (ox:x.ok=true) (oy:y.ok=true):OY [.ag x.cells, .ag y.cells]=some (one (.ag (x.gK y).low.cells)):=
 aO (enc:=fun p:au×au=>[.ag p.1.cells, .ag p.2.cells]) (a:=(x,y)) (fun a b e=>by
  simp only [List.cons.injEq,and_true,PV.ag.injEq] at e
  rw [bf e.1,bf e.2]) ⟨⟨K,hK,hx,hy⟩,ox,oy⟩
theorem Nv {c:Nat} (h:c=2∨c=3∨c=6):PN [iv c]=some (one (.ag (an.of (rv c)).cells)):=
 aO (enc:=fun c:Nat=>[iv c]) (fun a b e=>by
  simp only [List.cons.injEq,and_true] at e
  have:=dL e
  have e2:a=b:=by omega
  rw [e2]) h
theorem Ly {x y:au} (h:rT 3 x y):OZ [.ag x.cells, .ag y.cells]=some (one (.aQ [.ag (y9 x y).cells,iv 0])):=
 aO (enc:=fun p:au×au=>[.ag p.1.cells, .ag p.2.cells]) (a:=(x,y)) (fun a b e=>by
  simp only [List.cons.injEq,and_true,PV.ag.injEq] at e
  rw [bf e.1,bf e.2]) h
theorem vR:aH MD.P tn:=aI
 (ak (ax fun n h=>uH n h)
 (ak (ax fun p h=>by obtain ⟨⟨K,hK,hx,hy⟩,ox,oy⟩:=h;exact BM p.1 p.2 hK hx hy ox oy)
 (ak (ax fun p h=>by obtain ⟨⟨K,hK,hx,hy⟩,ox,oy⟩:=h;exact wu p.1 p.2 hK hx hy ox oy)
 (ak (ax fun c h=>by
  rcases h with rfl|rfl|rfl
  · exact Ic
  · exact Ie
  · exact Ig)
 (ak (ax fun p h=>Kb (by decide) h) aF)))))
def iA (k:Nat) (s:Bool×Bool×Bool):au:=⟨(cS k).1,if s.1 then (cS k).2.1 else 0,if s.2.1 then (cS k).2.2.1 else 0,if s.2.2 then (cS k).2.2.2.1 else 0,1⟩
def g8:Nat→Nat
 |0=>2
 |1=>3
 |_=>6
def dm (k:Nat):Nat→Int
 |0=>(cS k).2.1
 |1=>(cS k).2.2.1
 |_=>(cS k).2.2.2.1
def qp (s:Bool×Bool×Bool):Nat→Bool×Bool×Bool
 |0=>(true,s.2)
 |1=>(s.1,true,s.2.2)
 |_=>(s.1,s.2.1,true)
def kB (s:Bool×Bool×Bool):Nat→Bool
 |0=>s.1
 |1=>s.2.1
 |_=>s.2.2
def yx (k i:Nat):au:=((au.dM (dm k i)).cE (rv (g8 i))).low
theorem GA:∀(k:Fin 7) (a b c:Bool) (i:Fin 3),kB (a,b,c) i.val=false→
 ((iA k.val (a,b,c)).Fit 1∧(yx k.val i.val).Fit 1∧(iA k.val (a,b,c)).ok=true∧(yx k.val i.val).ok=true∧((iA k.val (a,b,c)).gK (yx k.val i.val)).low=iA k.val (qp (a,b,c) i.val))∧
 (au.dM (dm k.val i.val)).Fit 1∧(rv (g8 i.val)).Fit 1∧(au.dM (dm k.val i.val)).ok=true∧(rv (g8 i.val)).ok=true∧ -(2^63)≤dm k.val i.val∧dm k.val i.val<2^63:=by decide+kernel
theorem JU:∀k:Fin 7,iA k.val (true,true,true)=HT k.val∧(cS k.val).2.2.2.2=As k.val∧ -(2^63)≤As k.val∧As k.val<2^63∧iA k.val (false,false,false)=au.dM (cS k.val).1∧ -(2^63)≤(cS k.val).1∧(cS k.val).1<2^63:=by decide+kernel
end Go.Proofs.YtibbgjafjhcemaaGreatDoor.Cul
namespace Go.Proofs.YtibbgjafjhcemaaGreatDoor.Cul
open Go Go.RowKit Go.ChangeMaps
def opsL:Code→List Oper
 | .region _ ops _=>ops.toList
 |_=>[]
section
variable {a:Act} {w w0:World} {K:Act→World→Prop} {Q:Exit→Act→World→Prop} {base N:Nat} {aL:aC} {aT:ef} {st:St} {F:Fence} {n:Nat}
theorem A2 {o:Oper} {v:Value} (h:(execOp a.eval o).run PM w= .ok (.value v) w) (hK:K (a.put o.dst v) w):o.wp PM a w K Q:=by
 unfold Oper.wp
 rw [h]
 exact hK
theorem wp_move {o:Oper} {x:Operand} {v:Value} (ho:o.op= .move x) (hx:a.eval x=v) (hK:K (a.put o.dst v) w):o.wp PM a w K Q:=
 A2 (by simp [execOp,ho,hx]) hK
theorem wp_assign {o:Oper} {x:Operand} {v:Value} (ho:o.op= .assign x) (hx:a.eval x=v) (hK:K (a.put o.dst v) w):o.wp PM a w K Q:=
 A2 (by simp [execOp,ho,hx]) hK
theorem mc {o:Oper} {x:Operand} {i:Nat} {vs:Array Value} {v:Value} (ho:o.op= .extract x i) (hx:a.eval x= .tuple vs) (hv:vs[i]? =some v) (hK:K (a.put o.dst v) w):o.wp PM a w K Q:=
 A2 (by simp [execOp,ho,hx,Instr.extract,hv]) hK
theorem dK {ops:Array Oper} {o:Oper} {rest:List Oper} (E:iy F) (hg:o.guard=none) (sU:∀c,o.op≠ .defer c) (h:∀K:Act→World→Prop,(∀a w,wpListIn F n PM ops Q rest a w→K a w)→o.wp PM a w K Q):wpListIn F n PM ops Q (o::rest) a w:=
 wpListIn_plain hg fun K hK=>mq E sU (h K hK)
theorem eval_put {d t:Nat} {v:Value} (h:d<a.tmps.size):(a.put (some d) v).eval (.tmp t)=if t=d then v else a.eval (.tmp t):=by
 simp only [Act.put,Act.eval,Array.getD_eq_getD_getElem?]
 by_cases e:t=d
 · subst e;simp [h]
 · have e2:¬d=t:=fun x=>e x.symm
   simp [e,e2]
theorem Good.len (G:Good base w0 aL N aT st a w):a.tmps.size=N:=by
 obtain ⟨Pr,bk,I,_⟩:=G
 exact I.size
theorem Good.ge (G:Good base w0 aL N aT st a w):w0.heap.size≤w.heap.size:=by
 obtain ⟨Pr,bk,I,h,_⟩:=G
 exact h.size
theorem Good.mY (G:Good base w0 aL N aT st a w) {d t:Nat} {v:Value} (h:d<N) (ht:t≠d):(a.put (some d) v).eval (.tmp t)=a.eval (.tmp t):=by
 rw [eval_put (by rw [G.len];exact h),if_neg ht]
theorem Good.kK (G:Good base w0 aL N aT st a w) {d:Nat} {v:Value} (h:d<N):(a.put (some d) v).eval (.tmp d)=v:=by
 rw [eval_put (by rw [G.len];exact h),if_pos rfl]
theorem Good.pinned (G:Good base w0 aL N aT st a w) {d r:Nat} (hl:look st.sl d=some (.bp d 0)) (hp:aT.k d=some r):a.eval (.tmp d)= .pointer (some ⟨r,0,none⟩):=by
 obtain ⟨Pr,bk,I,_,_,_,h4,_⟩:=G
 obtain ⟨v,e1,e2⟩:=I.slots d _ hl
 have e3:v= .pointer (some ⟨bk (.bx d),0,none⟩):=e2
 rw [gL e1,e3,h4 d r hp]
end
theorem Iv {a:Act} {d:Nat} {v:Value} (h:d<a.tmps.size):(a.put (some d) v).tmps[d]? =some v:=by
 simp [Act.put,h]
def cG (k:Nat) (i:Nat):MapEntry:={ key:= .int .i64 (g8 i:Nat),val:= .int .i64 (dm k i),born:=i}
def je (k:Nat):Array MapEntry:= #[cG k 0,cG k 1,cG k 2]
theorem sD {h:Array Obj} {m:Nat} {o o':Obj} (e:h[m]? =some o):(h.setIfInBounds m o')[m]? =some o':=by
 have:=(Array.getElem?_eq_some_iff.1 e).1
 simp [this]
theorem CH {w:World} {o x:Obj} {j:Nat} (e:w.heap[j]? =some x):(w.alloc o).heap[j]? =some x:=by
 have h:=(Array.getElem?_eq_some_iff.1 e).1
 show (w.heap.push o)[j]? =_
 rw [Array.getElem?_push,if_neg (Nat.ne_of_lt h),e]
theorem FV {h:Array Obj} {m j:Nat} {o':Obj} (e:m≠j):(h.setIfInBounds m o')[j]? =h[j]? :=by
 simp [e]
noncomputable abbrev mo (i:Nat):Oper:=(opsL (cA (cA n2))).getD i default
theorem MT:cA (cA n2)= .region 2 ((List.range 9).map mo).toArray false:=by kernel_rfl
abbrev HJ:ef:=⟨fun _=>none,some []⟩
abbrev gq (r:Nat):ef:=⟨fun j=>if j=21 then some r else none,some []⟩
theorem jQ {r d:Nat} (h:d≠21):(gq r).k d=none:=if_neg h
structure ue (w0 w:World) (k m r:Nat) (seen:Array Nat) (s:Bool×Bool×Bool):Prop where
 hm:w0.heap.size≤m
 hr:w0.heap.size≤r
 ne:m≠r
 map:w.heap[m]? =some (.map (je k) 3)
 it:∃c0,3≤c0∧w.heap[r]? =some (.mapIter (some m) 3 seen c0)
 bits:∀i,i<3→seen.contains i=kB s i
abbrev WV (a b c e:Int) (u x:an):St:=⟨[(1, .pv (iv a)),(2, .pv (iv b)),(3, .pv (iv c)),(4, .pv (iv e)),(10, .bp 10 0),(11, .bp 11 0)],[(10,u.cells),(11,x.cells)],[],[]⟩
abbrev tq (e:Int) (u x:an):St:=⟨[(4, .pv (iv e)),(10, .bp 10 0),(11, .bp 11 0),(21, .bp 21 0)],[(10,u.cells),(11,x.cells)],[],[]⟩
section
variable {a:Act} {w w0:World} {Q:Exit→Act→World→Prop} {base N:Nat} {aL:aC} {F:Fence} {n:Nat}
theorem qh (w:World) (Pr:aC) (x:Int):Rp w Pr (iv x) (.int .i64 x):= .lit rfl
theorem Nm {A:Act} {x5:World} {e:Int} {u x:an} {st:St} {m r k:Nat} (hst:st.bG [4,10,11]=⟨[(4, .pv (iv e)),(10, .bp 10 0),(11, .bp 11 0)],[(10,u.cells),(11,x.cells)],[],[]⟩) (H6:Good base w0 aL N HJ st A x5) (t6:A.tmps[21]? =some (.pointer (some ⟨r,0,none⟩)))
  (hm:w0.heap.size≤m) (hge:w0.heap.size≤r) (hne:m≠r) (m6:x5.heap[m]? =some (.map (je k) 3)) (r6:x5.heap[r]? =some (.mapIter (some m) 3 #[] 3))
  (hQ:∀a' w' m r,Good base w0 aL N (gq r) (tq e u x) a' w'→ue w0 w' k m r #[] (false,false,false)→Q .normal a' w'):Q .normal A x5:=by
 have H8:=H6.bG [4,10,11]
 rw [hst] at H8
 have H7:=H8.known (d:=21) (b:=r) rfl t6 (fun t av h=>by
  simp only [look] at h
  split at h
  · exact .inl ⟨_,(Option.some.inj h).symm⟩
  · split at h
    · exact .inr ⟨10,0,(Option.some.inj h).symm,by decide⟩
    · split at h
      · exact .inr ⟨11,0,(Option.some.inj h).symm,by decide⟩
      · simp at h) rfl rfl
 refine hQ _ _ m r (H7.bG [4,10,11,21]) { hm:=hm,hr:=hge,ne:=hne,map:=m6,it:=⟨3,Nat.le_refl _,r6⟩,bits:=fun i hi=> ?_}
 have:i=0∨i=1∨i=2:=by omega
 rcases this with rfl|rfl|rfl<;>simp [kB]
theorem Ot (E:iy F) (hb:base≤w0.heap.size) (hN:42≤N) (k:Nat) {e:Int} {u x:an} (G:Good base w0 aL N HJ (WV (dm k 0) (dm k 1) (dm k 2) e u x) a w)
  (hQ:∀a' w' m r,Good base w0 aL N (gq r) (tq e u x) a' w'→ue w0 w' k m r #[] (false,false,false)→Q .normal a' w'):(cA (cA n2)).wpIn F n PM Q a w:=by
 rw [MT]
 refine wpIn_region_list ?_
 show wpListIn F n PM _ Q [mo 0,mo 1,mo 2,mo 3,mo 4,mo 5,mo 6,mo 7,mo 8] a w
 have v1:a.eval (.tmp 1)= .int .i64 (dm k 0):=G.val (x:= .tmp 1) rfl
 have v2:a.eval (.tmp 2)= .int .i64 (dm k 1):=G.val (x:= .tmp 2) rfl
 have v3:a.eval (.tmp 3)= .int .i64 (dm k 2):=G.val (x:= .tmp 3) rfl
 refine dK E (by kernel_rfl) (fun c=>by rw [show (mo 0).op= .makeMap 148 none by kernel_rfl];exact Op.noConfusion) fun K0 h0=>DV (show (mo 0).op= .makeMap 148 none by kernel_rfl) (h0 _ _ ?_)
 rw [show (mo 0).dst=some 16 by kernel_rfl]
 have hm:w0.heap.size≤w.heap.size:=G.ge
 have G0:=(G.grow hb (World.grownBy_alloc w (.map #[] 0) none)).mz (d:=16) (by omega) rfl (.map (some w.heap.size))
 have m0:(w.alloc (.map #[] 0)).heap[w.heap.size]? =some (.map #[] 0):=heap_alloc_new _ _
 have e0:(a.put (some 16) (.map (some w.heap.size))).eval (.tmp 16)= .map (some w.heap.size):=G.kK (by omega)
 generalize Ys:w.heap.size=m at*
 generalize ha0:a.put (some 16) (.map (some m))=a0 at*
 generalize hw0:w.alloc (.map #[] 0)=w1 at*
 refine dK E (by kernel_rfl) (fun c=>by rw [show (mo 1).op= .move (.tmp 1) by kernel_rfl];exact Op.noConfusion) fun K1 h1=>wp_move (show (mo 1).op= .move (.tmp 1) by kernel_rfl) (G0.val (x:= .tmp 1) rfl) (h1 _ _ ?_)
 rw [show (mo 1).dst=some 17 by kernel_rfl]
 have G1:=G0.l6 (d:=17) (p:=iv (dm k 0)) (v:= .int .i64 (dm k 0)) (by omega) rfl (fun Pr=>qh w1 Pr _)
 have e1:=(G0.mY (d:=17) (t:=16) (v:= .int .i64 (dm k 0)) (by omega) (by decide)).trans e0
 generalize Yl:a0.put (some 17) (.int .i64 (dm k 0))=a1 at*
 refine dK E (by kernel_rfl) (fun c=>by rw [show (mo 2).op= .insert 148 (.tmp 16) (.const (.int .i64 2)) (.tmp 17) by kernel_rfl];exact Op.noConfusion) fun K2 h2=>rR (show (mo 2).op= .insert 148 (.tmp 16) (.const (.int .i64 2)) (.tmp 17) by kernel_rfl) e1 rfl (G1.val (x:= .tmp 17) rfl) m0 rfl (h2 _ _ ?_)
 rw [show (mo 2).dst=none by kernel_rfl,tV]
 have G2:=G1.hO rfl hb hm m0 rfl (o':= .map #[cG k 0] 1)
 have m2:(w1.putObj m (.map #[cG k 0] 1)).heap[m]? =some (.map #[cG k 0] 1):=sD m0
 show wpListIn F n PM _ Q [mo 3,mo 4,mo 5,mo 6,mo 7,mo 8] a1 (w1.putObj m (.map #[cG k 0] 1))
 generalize zK:w1.putObj m (.map #[cG k 0] 1)=w2 at*
 refine dK E (by kernel_rfl) (fun c=>by rw [show (mo 3).op= .move (.tmp 2) by kernel_rfl];exact Op.noConfusion) fun K1 h1=>wp_move (show (mo 3).op= .move (.tmp 2) by kernel_rfl) (G2.val (x:= .tmp 2) rfl) (h1 _ _ ?_)
 rw [show (mo 3).dst=some 18 by kernel_rfl]
 have H3:=G2.l6 (d:=18) (p:=iv (dm k 1)) (v:= .int .i64 (dm k 1)) (by omega) rfl (fun Pr=>qh w2 Pr _)
 have f3:=(G2.mY (d:=18) (t:=16) (v:= .int .i64 (dm k 1)) (by omega) (by decide)).trans e1
 generalize nI:Act.put _ (some 18) (.int .i64 (dm k 1))=b3 at*
 refine dK E (by kernel_rfl) (fun c=>by rw [show (mo 4).op= .insert 148 (.tmp 16) (.const (.int .i64 3)) (.tmp 18) by kernel_rfl];exact Op.noConfusion) fun K2 h2=>rR (show (mo 4).op= .insert 148 (.tmp 16) (.const (.int .i64 3)) (.tmp 18) by kernel_rfl) f3 rfl (H3.val (x:= .tmp 18) rfl) m2 rfl (h2 _ _ ?_)
 rw [show (mo 4).dst=none by kernel_rfl,tV]
 have J3:=H3.hO rfl hb hm m2 rfl (o':= .map #[cG k 0,cG k 1] 2)
 have k3:(w2.putObj m (.map #[cG k 0,cG k 1] 2)).heap[m]? =some (.map #[cG k 0,cG k 1] 2):=sD m2
 show wpListIn F n PM _ Q [mo 5,mo 6,mo 7,mo 8] b3 (w2.putObj m (.map #[cG k 0,cG k 1] 2))
 generalize Jd:w2.putObj m (.map #[cG k 0,cG k 1] 2)=x3 at*
 refine dK E (by kernel_rfl) (fun c=>by rw [show (mo 5).op= .move (.tmp 3) by kernel_rfl];exact Op.noConfusion) fun K1 h1=>wp_move (show (mo 5).op= .move (.tmp 3) by kernel_rfl) (J3.val (x:= .tmp 3) rfl) (h1 _ _ ?_)
 rw [show (mo 5).dst=some 19 by kernel_rfl]
 have H4:=J3.l6 (d:=19) (p:=iv (dm k 2)) (v:= .int .i64 (dm k 2)) (by omega) rfl (fun Pr=>qh x3 Pr _)
 have f4:=(J3.mY (d:=19) (t:=16) (v:= .int .i64 (dm k 2)) (by omega) (by decide)).trans f3
 generalize Ym:Act.put _ (some 19) (.int .i64 (dm k 2))=b4 at*
 refine dK E (by kernel_rfl) (fun c=>by rw [show (mo 6).op= .insert 148 (.tmp 16) (.const (.int .i64 6)) (.tmp 19) by kernel_rfl];exact Op.noConfusion) fun K2 h2=>rR (show (mo 6).op= .insert 148 (.tmp 16) (.const (.int .i64 6)) (.tmp 19) by kernel_rfl) f4 rfl (H4.val (x:= .tmp 19) rfl) k3 rfl (h2 _ _ ?_)
 rw [show (mo 6).dst=none by kernel_rfl,tV]
 have J4:=H4.hO rfl hb hm k3 rfl (o':= .map #[cG k 0,cG k 1,cG k 2] 3)
 have k4:(x3.putObj m (.map #[cG k 0,cG k 1,cG k 2] 3)).heap[m]? =some (.map #[cG k 0,cG k 1,cG k 2] 3):=sD k3
 show wpListIn F n PM _ Q [mo 7,mo 8] b4 (x3.putObj m (.map #[cG k 0,cG k 1,cG k 2] 3))
 generalize UY:x3.putObj m (.map #[cG k 0,cG k 1,cG k 2] 3)=x4 at*
 refine dK E (by kernel_rfl) (fun c=>by rw [show (mo 7).op= .move (.tmp 16) by kernel_rfl];exact Op.noConfusion) fun K1 h1=>wp_move (show (mo 7).op= .move (.tmp 16) by kernel_rfl) f4 (h1 _ _ ?_)
 rw [show (mo 7).dst=some 20 by kernel_rfl]
 have H5:=J4.mz (d:=20) (by omega) rfl (.map (some m))
 have f5:=J4.kK (d:=20) (v:= .map (some m)) (by omega)
 generalize Yn:Act.put _ (some 20) (.map (some m))=b5 at*
 refine dK E (by kernel_rfl) (fun c=>by rw [show (mo 8).op= .range 148 (.tmp 20) by kernel_rfl];exact Op.noConfusion) fun K2 h2=>IF (show (mo 8).op= .range 148 (.tmp 20) by kernel_rfl) f5 k4 (h2 _ _ ?_)
 rw [show (mo 8).dst=some 21 by kernel_rfl]
 have hml:m<x4.heap.size:=(Array.getElem?_eq_some_iff.1 k4).1
 have H6:=(H5.grow hb (World.grownBy_alloc x4 (.mapIter (some m) 3 #[] 3) none)).mz (d:=21) (by omega) rfl (.pointer (some ⟨x4.heap.size,0,none⟩))
 have f6:=H5.kK (d:=21) (v:= .pointer (some ⟨x4.heap.size,0,none⟩)) (by omega)
 have r6:(x4.alloc (.mapIter (some m) 3 #[] 3)).heap[x4.heap.size]? =some (.mapIter (some m) 3 #[] 3):=heap_alloc_new _ _
 have m6:(x4.alloc (.mapIter (some m) 3 #[] 3)).heap[m]? =some (.map (je k) 3):=by
  exact CH k4
 have t6:(b5.put (some 21) (.pointer (some ⟨x4.heap.size,0,none⟩))).tmps[21]? =some (.pointer (some ⟨x4.heap.size,0,none⟩)):=by
  exact Iv (a:=b5) (d:=21) (by rw [H5.len];omega)
 exact wpListIn_nil (Nm (by kernel_rfl) H6 t6 hm H5.ge (Nat.ne_of_lt hml) m6 r6 hQ)
theorem E7 {k:Nat} {seen:Array Nat} {s:Bool×Bool×Bool} (hb:∀i,i<3→seen.contains i=kB s i) (h:(leftOf (je k) seen).size=0):s=(true,true,true):=by
 have key:∀i,i<3→kB s i=true:=by
  intro i hi
  rw [←hb i hi]
  refine Classical.byContradiction fun hn=> ?_
  have hm:cG k i∈leftOf (je k) seen:=by
   unfold leftOf
   rw [Array.mem_filter]
   refine ⟨?_,by simpa [cG] using hn⟩
   have:i=0∨i=1∨i=2:=by omega
   rcases this with rfl|rfl|rfl<;>simp [je]
  rw [Array.eq_empty_of_size_eq_zero h] at hm
  simp at hm
 have h0:=key 0 (by decide)
 have h1:=key 1 (by decide)
 have h2:=key 2 (by decide)
 obtain ⟨a,b,c⟩:=s
 simp only [kB] at h0 h1 h2
 rw [h0,h1,h2]
theorem E8 {k:Nat} {seen:Array Nat} {s:Bool×Bool×Bool} (hb:∀i,i<3→seen.contains i=kB s i) {e:MapEntry} (h:e∈(leftOf (je k) seen).toList):∃i,i<3∧e=cG k i∧kB s i=false:=by
 unfold leftOf at h
 have h':e∈(je k).filter fun e=> !seen.contains e.born:=by simpa using h
 rw [Array.mem_filter] at h'
 obtain ⟨h1,h2⟩:=h'
 have:∃i,i<3∧e=cG k i:=by
  simp only [je,List.mem_toArray,List.mem_cons,List.not_mem_nil,or_false] at h1
  rcases h1 with rfl|rfl|rfl
  · exact ⟨0,by decide,rfl⟩
  · exact ⟨1,by decide,rfl⟩
  · exact ⟨2,by decide,rfl⟩
 obtain ⟨i,hi,rfl⟩:=this
 refine ⟨i,hi,rfl, ?_⟩
 rw [←hb i hi]
 simpa [cG] using h2
noncomputable abbrev pn (i:Nat):Oper:=(opsL (cA nl)).getD i default
theorem Nf:cA nl= .region 3 #[pn 0,pn 1] false:=by kernel_rfl
noncomputable abbrev qn (i:Nat):Oper:=(opsL (cA (cA (cB (cB nl))))).getD i default
theorem Nk:cA (cA (cB (cB nl)))= .region 4 #[qn 0,qn 1,qn 2,qn 3,qn 4] false:=by kernel_rfl
theorem Ov (E:iy F) (hb:base≤w0.heap.size) (hN:42≤N) {k:Nat} (hk:k<7) {i:Nat} (hi:i<3) {s:Bool×Bool×Bool} (hs:kB s i=false) {r:Nat} {e:Int} {u:an}
  (G:Good base w0 aL N (gq r) ⟨[(4, .pv (iv e)),(10, .bp 10 0),(11, .bp 11 0),(12, .pv (iv (g8 i:Nat))),(13, .pv (iv (dm k i))),(21, .bp 21 0)],[(10,u.cells),(11,(an.of (iA k s)).cells)],[],[]⟩ a w)
  (hQ:∀a' w',Good base w0 aL N (gq r) (tq e u (an.of (iA k (qp s i)))) a' w'→KO w w'→Q .normal a' w'):(cB (cA (cB (cB nl)))).wpIn F n PM Q a w:=by
 obtain ⟨s0,s1,s2⟩:=s
 obtain ⟨⟨f1,f2,o1,o2,e1⟩,f3,f4,o3,o4,b1,b2⟩:=GA ⟨k,hk⟩ s0 s1 s2 ⟨i,hi⟩ hs
 simp only at f1 f2 o1 o2 e1 f3 f4 o3 o4 b1 b2
 have hkey:g8 i=2∨g8 i=3∨g8 i=6:=by
  have:i=0∨i=1∨i=2:=by omega
  rcases this with rfl|rfl|rfl<;>simp [g8]
 have hrun:=cn _ _ _ _ _ _ (Rf 5 e (g8 i:Nat) (dm k i) u (an.of (iA k (s0,s1,s2))) (an.dM (dm k i)) (an.of (rv (g8 i))) (an.of (yx k i)) (an.of (iA k (qp (s0,s1,s2) i))))
  ⟨eY b1 b2,Nv hkey,Ew (K:=1) (by decide) f3 f4 o3 o4,by rw [←e1];exact Lx (K:=1) (by decide) f1 f2 o1 o2,trivial⟩
 exact kZ vR ah.kQ ah.jo _ 5 _ (cZ (N:=42) hN (by kernel_rfl)) E n (by kernel_rfl) (fun d hd=>if_neg fun e=>by subst e;exact absurd hd (by decide+kernel)) G (Nat.le_trans hb G.ge) hrun hQ
theorem Ou (E:iy F) (hb:base≤w0.heap.size) (hN:42≤N) {k:Nat} {i:Nat} {m r:Nat} {seen:Array Nat} {e:Int} {u x:an} (hi:i<3)
  (G:Good base w0 aL N (gq r) (tq e u x) a w) (hm:w.heap[m]? =some (.map (je k) 3)) (hr:w.heap[r]? =some (.mapIter (some m) 3 (seen.push i) 3))
  (hQ:∀a',Good base w0 aL N (gq r) ⟨[(4, .pv (iv e)),(10, .bp 10 0),(11, .bp 11 0),(12, .pv (iv (g8 i:Nat))),(13, .pv (iv (dm k i))),(21, .bp 21 0)],[(10,u.cells),(11,x.cells)],[],[]⟩ a' w→Q .normal a' w):(cA (cA (cB (cB nl)))).wpIn F n PM Q a w:=by
 rw [Nk]
 refine wpIn_region_list ?_
 show wpListIn F n PM _ Q [qn 0,qn 1,qn 2,qn 3,qn 4] a w
 have Nd:a.eval (.tmp 21)= .pointer (some ⟨r,0,none⟩):=G.pinned (d:=21) rfl rfl
 have he:cG k i∈(je k).toList:=by
  have:i=0∨i=1∨i=2:=by omega
  rcases this with rfl|rfl|rfl<;>simp [je]
 refine dK E (by kernel_rfl) (fun c=>by rw [show (qn 0).op= .entry (.tmp 21) by kernel_rfl];exact Op.noConfusion) fun K0 h0=>IE (show (qn 0).op= .entry (.tmp 21) by kernel_rfl) Nd (e:=cG k i) hr hm he (by simp [je,cG]) (h0 _ _ ?_)
 rw [show (qn 0).dst=some 24 by kernel_rfl]
 have G0:=G.mz (d:=24) (by omega) rfl (.tuple #[(cG k i).key,(cG k i).val])
 have e0:=G.kK (d:=24) (v:= .tuple #[(cG k i).key,(cG k i).val]) (by omega)
 generalize Act.put _ (some 24) _=a0 at*
 refine dK E (by kernel_rfl) (fun c=>by rw [show (qn 1).op= .extract (.tmp 24) 0 by kernel_rfl];exact Op.noConfusion) fun K1 h1=>mc (show (qn 1).op= .extract (.tmp 24) 0 by kernel_rfl) e0 (v:= .int .i64 ((g8 i:Nat))) rfl (h1 _ _ ?_)
 rw [show (qn 1).dst=some 25 by kernel_rfl]
 have G1:=G0.l6 (d:=25) (p:=iv ((g8 i:Nat))) (v:= .int .i64 ((g8 i:Nat))) (by omega) (jQ (by decide)) (fun Pr=>qh w Pr _)
 have e1:=(G0.mY (d:=25) (t:=24) (v:= .int .i64 ((g8 i:Nat))) (by omega) (by decide)).trans e0
 generalize Act.put _ (some 25) _=b1 at*
 refine dK E (by kernel_rfl) (fun c=>by rw [show (qn 2).op= .extract (.tmp 24) 1 by kernel_rfl];exact Op.noConfusion) fun K1 h1=>mc (show (qn 2).op= .extract (.tmp 24) 1 by kernel_rfl) e1 (v:= .int .i64 (dm k i)) rfl (h1 _ _ ?_)
 rw [show (qn 2).dst=some 26 by kernel_rfl]
 have G2:=G1.l6 (d:=26) (p:=iv (dm k i)) (v:= .int .i64 (dm k i)) (by omega) (jQ (by decide)) (fun Pr=>qh w Pr _)
 have e2:=(G1.mY (d:=26) (t:=24) (v:= .int .i64 (dm k i)) (by omega) (by decide)).trans e1
 generalize Act.put _ (some 26) _=b2 at*
 refine dK E (by kernel_rfl) (fun c=>by rw [show (qn 3).op= .assign (.tmp 25) by kernel_rfl];exact Op.noConfusion) fun K1 h1=>wp_assign (show (qn 3).op= .assign (.tmp 25) by kernel_rfl) (G2.val (x:= .tmp 25) rfl) (h1 _ _ ?_)
 rw [show (qn 3).dst=some 12 by kernel_rfl]
 have G3:=G2.l6 (d:=12) (p:=iv ((g8 i:Nat))) (v:= .int .i64 ((g8 i:Nat))) (by omega) (jQ (by decide)) (fun Pr=>qh w Pr _)
 generalize Act.put _ (some 12) _=b3 at*
 refine dK E (by kernel_rfl) (fun c=>by rw [show (qn 4).op= .assign (.tmp 26) by kernel_rfl];exact Op.noConfusion) fun K1 h1=>wp_assign (show (qn 4).op= .assign (.tmp 26) by kernel_rfl) (G3.val (x:= .tmp 26) rfl) (h1 _ _ ?_)
 rw [show (qn 4).dst=some 13 by kernel_rfl]
 have G4:=G3.l6 (d:=13) (p:=iv (dm k i)) (v:= .int .i64 (dm k i)) (by omega) (jQ (by decide)) (fun Pr=>qh w Pr _)
 generalize Act.put _ (some 13) _=b4 at*
 exact wpListIn_nil (hQ _ (G4.bG [4,10,11,12,13,21]))
theorem Ii (E:iy F) (hb:base≤w0.heap.size) (hN:42≤N) {k:Nat} (hk:k<7) {s:Bool×Bool×Bool} {m r:Nat} {seen:Array Nat} {e:Int} {u:an}
  (G:Good base w0 aL N (gq r) (tq e u (an.of (iA k s))) a w) (M:ue w0 w k m r seen s)
  (hD:s=(true,true,true)→∀a' w',Good base w0 aL N (gq r) (tq e u (an.of (iA k s))) a' w'→Q (.exit 0) a' w')
  (hS:∀i a' w',i<3→kB s i=false→Good base w0 aL N (gq r) (tq e u (an.of (iA k (qp s i)))) a' w'→ue w0 w' k m r (seen.push i) (qp s i)→Q .normal a' w'):nl.wpIn F n PM Q a w:=by
 rw [VF]
 refine wpIn_seq ?_
 rw [Nf]
 refine wpIn_region_list ?_
 show wpListIn F n PM _ _ [pn 0,pn 1] a w
 have Nd:a.eval (.tmp 21)= .pointer (some ⟨r,0,none⟩):=G.pinned (d:=21) rfl rfl
 obtain ⟨c0,hc0,hit⟩:=M.it
 have hold:∀x∈(je k).toList,x.born<3:=by
  intro x hx
  simp only [je,List.mem_cons,List.not_mem_nil,or_false] at hx
  rcases hx with rfl|rfl|rfl<;>simp [cG]
 refine dK E (by kernel_rfl) (fun c=>by rw [show (pn 0).op= .next (.tmp 21) false by kernel_rfl];exact Op.noConfusion) fun K0 h0=>KZ (show (pn 0).op= .next (.tmp 21) false by kernel_rfl) Nd hit M.map hold hc0 (fun hz=>h0 _ _ ?_) (fun en Uj w1 hw1=>h0 _ _ ?_)
 · rw [show (pn 0).dst=some 22 by kernel_rfl]
   have G0:=G.mz (d:=22) (by omega) rfl (.tuple #[.bool false])
   have e0:=G.kK (d:=22) (v:= .tuple #[.bool false]) (by omega)
   generalize Act.put _ (some 22) _=a0 at*
   refine dK E (by kernel_rfl) (fun c=>by rw [show (pn 1).op= .extract (.tmp 22) 0 by kernel_rfl];exact Op.noConfusion) fun K1 h1=>mc (show (pn 1).op= .extract (.tmp 22) 0 by kernel_rfl) e0 (v:= .bool false) rfl (h1 _ _ ?_)
   rw [show (pn 1).dst=some 23 by kernel_rfl]
   have G1:=G0.l6 (d:=23) (p:=bv false) (v:= .bool false) (by omega) (jQ (by decide)) (fun Pr=> .lit rfl)
   generalize Act.put _ (some 23) _=a1 at*
   refine wpListIn_nil ?_
   show (cB nl).wpIn F n PM Q a1 w
   rw [PE]
   refine wpIn_seq ?_
   rw [PF]
   exact wpIn_cond_false (G1.val (x:= .tmp 23) rfl) (wpIn_exit (hD (E7 M.bits hz) _ _ (G1.bG [4,10,11,21])))
 · obtain ⟨i,hi,rfl,hs⟩:=E8 M.bits Uj
   rw [show (pn 0).dst=some 22 by kernel_rfl]
   have hml:m<w.heap.size:=(Array.getElem?_eq_some_iff.1 M.map).1
   have Gw:Good base w0 aL N (gq r) (tq e u (an.of (iA k s))) a w1:=by
    rcases hw1 with rfl|rfl
    · exact G
    · exact G.drew
   have hh:w1.heap=w.heap:=by rcases hw1 with rfl|rfl<;>rfl
   have Gt:=Gw.hO rfl hb M.hr (l:=r) (o:= .mapIter (some m) 3 seen c0) (by rw [hh];exact hit) rfl (o':= .mapIter (some m) 3 (seen.push (cG k i).born) 3)
   have r2:(w1.putObj r (.mapIter (some m) 3 (seen.push (cG k i).born) 3)).heap[r]? =some (.mapIter (some m) 3 (seen.push i) 3):=sD (by rw [hh];exact hit)
   have m2:(w1.putObj r (.mapIter (some m) 3 (seen.push (cG k i).born) 3)).heap[m]? =some (.map (je k) 3):=(FV (fun e=>M.ne e.symm)).trans (by rw [hh];exact M.map)
   show wpListIn F n PM _ _ [pn 1] _ (w1.putObj r (.mapIter (some m) 3 (seen.push (cG k i).born) 3))
   generalize w1.putObj r (.mapIter (some m) 3 (seen.push (cG k i).born) 3)=w2 at*
   have G0:=Gt.mz (d:=22) (by omega) rfl (.tuple #[.bool true,(cG k i).key,(cG k i).val])
   have e0:=Gt.kK (d:=22) (v:= .tuple #[.bool true,(cG k i).key,(cG k i).val]) (by omega)
   generalize Act.put _ (some 22) _=a0 at*
   refine dK E (by kernel_rfl) (fun c=>by rw [show (pn 1).op= .extract (.tmp 22) 0 by kernel_rfl];exact Op.noConfusion) fun K1 h1=>mc (show (pn 1).op= .extract (.tmp 22) 0 by kernel_rfl) e0 (v:= .bool true) rfl (h1 _ _ ?_)
   rw [show (pn 1).dst=some 23 by kernel_rfl]
   have G1:=G0.l6 (d:=23) (p:=bv true) (v:= .bool true) (by omega) (jQ (by decide)) (fun Pr=> .lit rfl)
   generalize Act.put _ (some 23) _=a1 at*
   refine wpListIn_nil ?_
   show (cB nl).wpIn F n PM Q a1 w2
   rw [PE]
   refine wpIn_seq ?_
   rw [PF]
   refine wpIn_cond_true (G1.val (x:= .tmp 23) rfl) (wpIn_skip ?_)
   show (cB (cB nl)).wpIn F n PM Q a1 w2
   rw [VG]
   refine wpIn_block ?_
   rw [VH]
   refine wpIn_seq ?_
   refine Ou E hb hN hi (G1.bG [4,10,11,21]) m2 r2 fun a2 G2=> ?_
   refine Ov E hb hN hk hi hs G2 fun a3 w3 G3 ko=> ?_
   refine hS i a3 w3 hi hs G3 { hm:=M.hm,hr:=M.hr,ne:=M.ne,map:=ko.same _ _ m2 rfl,it:=⟨3,Nat.le_refl _,ko.same _ _ r2 rfl⟩,bits:=fun j hj=> ?_}
   have cc:=M.bits j hj
   obtain ⟨s0,s1,s2⟩:=s
   have uM:i=0∨i=1∨i=2:=by omega
   have Uu:j=0∨j=1∨j=2:=by omega
   rw [show (seen.push i).contains j=(seen.contains j||decide (j=i)) by simp [Array.contains_push],cc]
   rcases uM with rfl|rfl|rfl<;>rcases Uu with rfl|rfl|rfl<;>simp [kB,qp]
def CM (s:Bool×Bool×Bool):Nat:=(if s.1 then 0 else 1)+(if s.2.1 then 0 else 1)+(if s.2.2 then 0 else 1)
theorem GJ {s:Bool×Bool×Bool} {i:Nat} (hi:i<3) (h:kB s i=false):CM (qp s i)+1=CM s:=by
 obtain ⟨a,b,c⟩:=s
 have uM:i=0∨i=1∨i=2:=by omega
 rcases uM with rfl|rfl|rfl<;>cases a<;>cases b<;>cases c<;>simp_all [kB,qp,CM]
theorem Cc (E:iy F) (hb:base≤w0.heap.size) (hN:42≤N) {k:Nat} (hk:k<7) {m r:Nat} {e:Int} {u:an}
  (hQ:∀a' w',Good base w0 aL N (gq r) (tq e u (an.of (iA k (true,true,true)))) a' w'→Q (.exit 0) a' w'):
  ∀(g:Nat) (s:Bool×Bool×Bool) (seen:Array Nat) (a:Act) (w:World),CM s<g→Good base w0 aL N (gq r) (tq e u (an.of (iA k s))) a w→ue w0 w k m r seen s→Code.roundsIn F n PM nl Q g a w
 |0,s,seen,a,w,hc,G,M=>by omega
 |g+1,s,seen,a,w,hc,G,M=>by
  rw [roundsIn_succ]
  refine Ii E hb hN hk G M (fun hs a' w' G'=> ?_) fun i a' w' hi hs G' M'=> ?_
  · subst hs;exact hQ a' w' G'
  · exact Cc E hb hN hk hQ g (qp s i) _ a' w' (by have:=GJ hi hs;omega) G' M'
end
def HE:an:=⟨⟨false,⟨#[]⟩⟩,⟨false,⟨#[]⟩⟩,⟨false,⟨#[]⟩⟩,⟨false,⟨#[]⟩⟩,⟨false,⟨#[]⟩⟩⟩
theorem xJ:tC:=by
 intro k hk
 have hfn:P0.funcs[98]? =some Go.Proofs.Tryz.f98:=by kernel_rfl
 have hc:Go.Proofs.Tryz.f98.body=some n0:=by kernel_rfl
 have hnt:Go.Proofs.Tryz.f98.ntmps=42:=by kernel_rfl
 have UN:jz P0 ⟨[(10, .bp 10 0)],[(10,(an.of (qv k)).cells)],[],[]⟩ Go.Proofs.Tryz.f98.results.toList=some (one (.ag (an.of (qv k)).cells)):=by kernel_rfl
 refine ⟨⟨_,n0,hfn,hc,by kernel_rfl⟩,fun vs w Pr hp hr=>callsIn_wide.1 (callsIn_of_wp (F:=Fence.wide) (n:=2) hfn hc trivial ?_ rfl)⟩
 have hlen:vs.length=5:=by rw [←hr.length];rfl
 have I0:=qQ hp hr (Go.Proofs.Tryz.f98.ntmps - vs.toArray.size)
 have hN:vs.length+(Go.Proofs.Tryz.f98.ntmps - vs.toArray.size)=42:=by rw [hnt,List.size_toArray,hlen]
 have G0:Good w.heap.size w Pr _ HJ (St.enter (rH k)) _ w:=⟨Pr,_,I0,Below.refl _ _,fun _ _ _ h=>h,KO.refl _,fun k b e=>by simp at e,fun _ _ _ h1 h2=>⟨h1,h2⟩,fun ds e=>by simpa using e⟩
 rw [hN] at G0
 generalize ({ tmps:=vs.toArray++Array.replicate (Go.Proofs.Tryz.f98.ntmps - vs.toArray.size) undef,defers:=[]}:Act)=a0 at*
 have E:=jJ
 obtain ⟨q1,q2,q3,q4,q5,q6,q7⟩:=JU ⟨k,by omega⟩
 simp only at q1 q2 q3 q4 q5 q6 q7
 obtain ⟨d1,d2⟩:=RH ⟨k,by omega⟩
 simp only at d1 d2
 have h0:=cn _ _ _ _ _ _ (Rd 5 (cS k).1 (cS k).2.1 (cS k).2.2.1 (cS k).2.2.2.1 (cS k).2.2.2.2) trivial
 rw [Q8]
 refine wpIn_seq (kZ vR ah.kQ ah.jo _ 5 _ (by kernel_rfl) E 2 (by kernel_rfl) (fun d hd=>rfl) G0 (Nat.le_refl _) h0 fun a1 w1 G1 YC=> ?_)
 have b1:=G1.ge
 show n1.wpIn Fence.wide 2 PM _ a1 w1
 have h1:=cn _ _ _ _ _ _ (Re 5 (cS k).1 (cS k).2.1 (cS k).2.2.1 (cS k).2.2.2.1 (cS k).2.2.2.2 HE (an.dM (cS k).1)) ⟨eY q6 q7,trivial⟩
 rw [Q9]
 refine wpIn_seq (kZ vR ah.kQ ah.jo _ 5 _ (by kernel_rfl) E 2 (by kernel_rfl) (fun d hd=>rfl) G1 b1 h1 fun a2 w2 G2 YD=> ?_)
 show n2.wpIn Fence.wide 2 PM _ a2 w2
 rw [Ra]
 refine wpIn_seq ?_
 rw [Q6]
 refine wpIn_seq (Ot E (Nat.le_refl _) (Nat.le_refl _) k G2 fun a3 w3 m r G3 M3=> ?_)
 show (cB (cA n2)).wpIn Fence.wide 2 PM _ a3 w3
 rw [MY]
 refine wpIn_block ?_
 rw [Oo]
 refine wpIn_loop_rounds 4 (Cc E (Nat.le_refl _) (Nat.le_refl _) (k:=k) (by omega) (fun a4 w4 G4=> ?_) 4 (false,false,false) #[] a3 w3 (by decide) (by rw [q5];exact G3) M3)
 show n3.wpIn Fence.wide 2 PM _ a4 w4
 have h6:=cn _ _ _ _ _ _ (Rg 5 (cS k).2.2.2.2 HE (an.of (iA k (true,true,true))) (an.dM (cS k).2.2.2.2) (an.of (qv k)))
  (by
   have c1:=eY (n:=(cS k).2.2.2.2) (by rw [q2];exact q3) (by rw [q2];exact q4)
   have c2:=Ly d1
   rw [d2,←q1,←q2] at c2
   exact ⟨c1,c2,c1,c2,c1,c2,rfl,rfl,rfl,rfl,rfl,rfl,rfl,rfl,trivial⟩)
 rw [Rb]
 refine wpIn_seq (kZ vR ah.kQ ah.jo _ 5 _ (by kernel_rfl) E 2 (by kernel_rfl) (fun d hd=>if_neg fun e=>by subst e;exact absurd hd (by decide+kernel)) G4 G4.ge h6 fun a5 w5 G5 YE=> ?_)
 show n4.wpIn Fence.wide 2 PM _ a5 w5
 have h7:=cn _ _ _ _ _ _ (Rh 5 HE (an.of (qv k))) trivial
 rw [Rc]
 refine wpIn_seq (kZ vR ah.kQ ah.jo _ 5 _ (by kernel_rfl) E 2 (by kernel_rfl) (fun d hd=>if_neg fun e=>by subst e;exact absurd hd (by decide+kernel)) G5 G5.ge h7 fun a6 w6 G6 YF=> ?_)
 show n5.wpIn Fence.wide 2 PM _ a6 w6
 rw [Q7]
 refine wpIn_ret ?_
 obtain ⟨v,aD,hv,dX⟩:=sK hp G6 UN
 refine ⟨?_,v,hv,v,aD,rfl,dX⟩
 obtain ⟨_,_,_,_,_,_,_,_,hd⟩:=G6
 exact hd [] rfl
end Go.Proofs.YtibbgjafjhcemaaGreatDoor.Cul
namespace Go.Proofs.YtibbgjafjhcemaaGreatDoor.Cul
open Go Go.RowKit
theorem wL (x y:au):x.cE y=⟨x.a* y.a+2* (x.b* y.b)+3* (x.c* y.c)+6* (x.d* y.d),x.a* y.b+x.b* y.a+3* (x.c* y.d)+3* (x.d* y.c),x.a* y.c+x.c* y.a+2* (x.b* y.d)+2* (x.d* y.b),x.a* y.d+x.d* y.a+x.b* y.c+x.c* y.b,x.n* y.n⟩:=by
 unfold au.cE
 simp only [ei,kq,vU,mm,au.at]
 rw [au.mk.injEq]
 refine ⟨?_, ?_, ?_, ?_,rfl⟩<;>simp<;>omega
theorem r7 {Q:Nat} {p q r s:Int} (hp:p.natAbs<Q) (hq:q.natAbs<Q) (hr:r.natAbs<Q) (hs:s.natAbs<Q) (a b c d:Nat) (h:a+b+c+d≤256):(a* p+b* q+c* r+d* s).natAbs<Q* 256:=by
 have h1:(a* p+b* q+c* r+d* s).natAbs≤a* p.natAbs+b* q.natAbs+c* r.natAbs+d* s.natAbs:=by
  have e:∀(n:Nat) (z:Int),((n:Int)* z).natAbs=n* z.natAbs:=fun n z=>by rw [Int.natAbs_mul];rfl
  have t1:=Int.natAbs_add_le (a* p+b* q+c* r) (d* s)
  have t2:=Int.natAbs_add_le (a* p+b* q) (c* r)
  have t3:=Int.natAbs_add_le (a* p:Int) (b* q)
  rw [e] at t1 t2
  rw [e,e] at t3
  omega
 have m:∀(n:Nat) (z:Nat),z<Q→n* z≤n* (Q - 1):=fun n z h=>Nat.mul_le_mul_left _ (by omega)
 have k1:=m a _ hp;have k2:=m b _ hq;have k3:=m c _ hr;have k4:=m d _ hs
 have k5:a* (Q - 1)+b* (Q - 1)+c* (Q - 1)+d* (Q - 1)=(a+b+c+d)* (Q - 1):=by simp only [Nat.add_mul]
 have k6:(a+b+c+d)* (Q - 1)≤256* (Q - 1):=Nat.mul_le_mul_right _ h
 omega
theorem au.Fit.mul {K:Nat} {x y:au} (hx:x.Fit K) (hy:y.Fit K):(x.cE y).Fit (K+K+1):=by
 obtain ⟨⟨⟨a1,a2⟩,a3,a4⟩,a5⟩:=hx
 obtain ⟨⟨⟨b1,b2⟩,b3,b4⟩,b5⟩:=hy
 have e:(256:Nat)^(K+K+1)=256^(K+K)* 256:=Nat.pow_succ _ _
 have m:∀{u v:Int},u.natAbs<256^K→v.natAbs<256^K→(u* v).natAbs<256^(K+K):=fun h k=>so h k
 have pn:=m a5 b5
 rw [wL]
 unfold au.Fit
 simp only
 rw [e]
 have f1:=r7 (m a1 b1) (m a2 b2) (m a3 b3) (m a4 b4) 1 2 3 6 (by decide)
 have f2:=r7 (m a1 b2) (m a2 b1) (m a3 b4) (m a4 b3) 1 1 3 3 (by decide)
 have f3:=r7 (m a1 b3) (m a3 b1) (m a2 b4) (m a4 b2) 1 1 2 2 (by decide)
 have f4:=r7 (m a1 b4) (m a4 b1) (m a2 b3) (m a3 b2) 1 1 1 1 (by decide)
 simp only [Int.natCast_one,Int.one_mul,Int.cast_ofNat_Int] at f1 f2 f3 f4
 exact ⟨⟨⟨f1,f2⟩,f3,f4⟩,by omega⟩
theorem au.Fit.neg {K:Nat} {x:au} (h:x.Fit K):x.neg.Fit K:=by
 unfold au.Fit au.neg at*
 simpa only [Int.natAbs_neg] using h
theorem au.Fit.mono {K L:Nat} {x:au} (h:x.Fit K) (hl:K≤L):x.Fit L:=by
 have:(256:Nat)^K≤256^L:=Nat.pow_le_pow_right (by decide) hl
 obtain ⟨⟨⟨a1,a2⟩,a3,a4⟩,a5⟩:=h
 exact ⟨⟨⟨by omega,by omega⟩,by omega,by omega⟩,by omega⟩
theorem z8 {x y:au} (hx:x.ok=true) (hy:y.ok=true):(x.cE y).n≠0:=by
 have h1:=au.lB hx
 have h2:=au.lB hy
 have:=Int.mul_pos h1 h2
 show x.n* y.n≠0
 omega
theorem oB {x y:au} (hx:x.ok=true) (hy:y.ok=true):(x.gK y).n≠0:=by
 have h1:=au.lB hx
 have h2:=au.lB hy
 have:=Int.mul_pos h1 h2
 show x.n* y.n≠0
 omega
theorem kC {x:au} (h:x.ok=true):x.neg.ok=true:=by
 unfold au.ok at*
 rw [au.gcd_neg];exact h
theorem an.jr {x:an} (h:x.ok=true):x.i5.ok=true∧x=an.of x.i5:=by
 have hi:x.ki=true:=by
  unfold an.ok at h
  simp only [Bool.and_eq_true] at h
  exact h.1
 refine ⟨?_,an.zO hi⟩
 rw [an.zO hi,an.nO] at h
 exact h
theorem RI.A3 {r:RI} {K:Nat} (h:r.s.size≤K):r.z.natAbs<256^K:=by
 have h1:bI r.s<256^(aS r.s).length:=cT (dz r.s)
 rw [bL] at h1
 have h2:(256:Nat)^r.s.size≤256^K:=Nat.pow_le_pow_right (by decide) h
 unfold RI.z
 split<;>omega
theorem an.oZ {x:an} {K:Nat} (h:x.raw K=true):x.i5.Fit K:=by
 unfold an.raw at h
 simp only [Bool.and_eq_true,decide_eq_true_eq] at h
 exact ⟨⟨⟨RI.A3 (by omega),RI.A3 (by omega)⟩,RI.A3 (by omega),RI.A3 (by omega)⟩,RI.A3 (by omega)⟩
theorem aP.oZ {v:aP} {K:Nat} (h:v.raw K=true):v.Fit K:=by
 unfold aP.raw at h
 simp only [Bool.and_eq_true] at h
 exact ⟨an.oZ h.1.1,an.oZ h.1.2,an.oZ h.2⟩
theorem DQ:aH MD.P u1:=aI (ak (ax fun x h=>nQ x h) aF)
theorem Ib (v:aP) (h:v.small):az P0 23 [.ag v.cells] (one (bv v.ok)):=by
 have h0:=iK h.1
 have h1:=iK h.2.1
 have h2:=iK h.2.2
 unfold aP.ok
 cases e0:v.x.ok with
 |false=>rw [e0] at h0;exact aj ah DQ (by rfl) (Wj 4 v) ⟨h0,trivial⟩
 |true=>
  rw [e0] at h0
  cases e1:v.y.ok with
  |false=>rw [e1] at h1;exact aj ah DQ (by rfl) (Wk 4 v) ⟨h0,h1,trivial⟩
  |true=>rw [e1] at h1;exact aj ah DQ (by rfl) (Wl 4 v v.z.ok) ⟨h0,h1,h2,trivial⟩
theorem Ap {g:au×au→RV} (a b:au×au) (e:[PV.ag a.1.cells,PV.ag a.2.cells]=[PV.ag b.1.cells,PV.ag b.2.cells]):g a=g b:=by
 simp only [List.cons.injEq,and_true,PV.ag.injEq] at e
 have:a=b:=Prod.ext (bf e.1) (bf e.2)
 rw [this]
theorem BI {x y:au} {K:Nat} (hK:K<2^20) (hx:x.Fit K) (hy:y.Fit K) (ox:x.ok=true) (oy:y.ok=true):G7 [.ag x.cells, .ag y.cells]=some (one (.ag (x.gK y).low.cells)):=
 aO (enc:=fun p:au×au=>[.ag p.1.cells, .ag p.2.cells]) (a:=(x,y)) Ap ⟨⟨K,hK,hx,hy⟩,ox,oy⟩
theorem OH:aH MD.P u2:=aI (ak (ax fun x h=>wP x h) (ak (ax fun p h=>by obtain ⟨⟨K,hK,hx,hy⟩,ox,oy⟩:=h;exact wu p.1 p.2 hK hx hy ox oy) aF))
theorem Ke (x y:au) {K:Nat} (hK:K<2^20) (hx:x.Fit K) (hy:y.Fit K) (ox:x.ok=true) (oy:y.ok=true):az P0 26 [.ag x.cells, .ag y.cells] (one (.ag (x.gK y.neg).low.cells)):=by
 have h1:=vf (ld (K:=K) (by omega) hy)
 rw [an.iI oy] at h1
 exact aj ah OH (by rfl) (WC 1 (an.of x) (an.of y) (an.of y.neg) (an.of (x.gK y.neg).low)) ⟨h1,BI hK hx hy.neg ox (kC oy),trivial⟩
theorem Ny {x y:au} {K:Nat} (hK:K<2^20) (hx:x.Fit K) (hy:y.Fit K) (ox:x.ok=true) (oy:y.ok=true):PR [.ag x.cells, .ag y.cells]=some (one (.ag (x.gK y.neg).low.cells)):=
 aO (enc:=fun p:au×au=>[.ag p.1.cells, .ag p.2.cells]) (a:=(x,y)) Ap ⟨⟨K,hK,hx,hy⟩,ox,oy⟩
theorem Np {v:aP} (h:v.small):PL [.ag v.cells]=some (one (bv v.ok)):=aO (enc:=fun v:aP=>[.ag v.cells]) (DY fun _ _=>aP.bf) h
theorem OI:aH MD.P u3:=aI
 (ak (ax fun v h=>Ib v h)
 (ak (ax fun i _=>Ec (vm xJ) i)
 (ak (ax fun i _=>ND (vm xJ) i)
 (ak (ax fun p h=>by obtain ⟨⟨K,hK,hx,hy⟩,ox,oy⟩:=h;exact Ke p.1 p.2 hK hx hy ox oy)
 (ak (ax Ob)
 (ak (ax fun p h=>by obtain ⟨⟨K,hK,hx,hy⟩,ox,oy⟩:=h;exact wu p.1 p.2 hK hx hy ox oy) aF))))))
theorem aP.gO {v:aP} (h:v.ok=true):v.x.ok=true∧v.y.ok=true∧v.z.ok=true:=by
 unfold aP.ok at h
 simp only [Bool.and_eq_true] at h
 exact ⟨h.1.1,h.1.2,h.2⟩
theorem aP.Fit.small {v:aP} {K:Nat} (hK:K<2^28) (ho:v.ok=true) (h:v.Fit K):v.small:=by
 obtain ⟨o1,o2,o3⟩:=aP.gO ho
 refine ⟨?_, ?_, ?_⟩
 · rw [(an.jr o1).2];exact ld hK h.1
 · rw [(an.jr o2).2];exact ld hK h.2.1
 · rw [(an.jr o3).2];exact ld hK h.2.2
theorem AX {v:aP} {K:Nat} (ho:v.ok=true) (h:v.Fit K) (hK:1≤K) (i:Int) {x c:au} (hx:x.Fit K) (ox:x.ok=true):((x.cE (bO i)).low).Fit (K+K+1)∧((x.cE (bO i)).low).ok=true:=
 ⟨(hx.mul ((yV i).mono hK)).low (z8 ox (rY i)),au.oQ (z8 ox (rY i))⟩
theorem Ct (v:aP) (i:Int) {K:Nat} (IV:1≤K) (hK:K<2^10) (ho:v.ok=true) (h:v.Fit K) (h1: -(2^62)≤i) (h2:i≤2^62):az P0 9 [.ag v.cells,iv i] (one (.ag (gQ v i).cells)):=by
 obtain ⟨o1,o2,o3⟩:=aP.gO ho
 obtain ⟨p1,e1⟩:=an.jr o1
 obtain ⟨p2,e2⟩:=an.jr o2
 have hr:=Np (h.small (by omega) ho)
 rw [ho] at hr
 have cf:=fun j=>(yV j).mono IV
 have hm:∀{x:au} (j:Int),x.Fit K→x.ok=true→IS [.ag x.cells, .ag (bO j).cells]=some (one (.ag (an.of (x.cE (bO j)).low).cells)):=fun j hx ox=>Ew (K:=K) (by omega) hx (cf j) ox (rY j)
 have t:=fun {x:au} (j:Int) (hx:x.Fit K) (ox:x.ok=true)=>AX (c:=x) ho h IV j hx ox
 obtain ⟨a1,a2⟩:=t i h.1 p1
 obtain ⟨a3,a4⟩:=t (i%24 - 6) h.2.1 p2
 obtain ⟨a5,a6⟩:=t (i%24 - 6) h.1 p1
 obtain ⟨a7,a8⟩:=t i h.2.1 p2
 have q1:=hm i h.1 p1
 have q2:=hm (i%24 - 6) h.2.1 p2
 have q3:=hm (i%24 - 6) h.1 p1
 have q4:=hm i h.2.1 p2
 have c1:v.x.cells=v.x.i5.cells:=(congrArg an.cells e1).trans rfl
 have c2:v.y.cells=v.y.i5.cells:=(congrArg an.cells e2).trans rfl
 rw [←c1] at q1 q3
 rw [←c2] at q2 q4
 exact aj ah OI (by rfl) (Xd 1 v i (an.of (bO i)) (an.of (rK i)) (an.of (v.x.i5.cE (bO i)).low) (an.of (v.y.i5.cE (rK i)).low) (an.of (nY v i)) (an.of (v.x.i5.cE (rK i)).low) (an.of (v.y.i5.cE (bO i)).low) (an.of (nZ v i)))
  ⟨hr,BA h1 h2,KS h1 h2,q1,q2,Ny (K:=K+K+1) (by omega) a1 a3 a2 a4,q3,q4,BI (K:=K+K+1) (by omega) a5 a7 a6 a8,trivial⟩
end Go.Proofs.YtibbgjafjhcemaaGreatDoor.Cul
namespace Go.Proofs.YtibbgjafjhcemaaGreatDoor.Cul
open Go Go.RowKit
theorem yW (i:Int):bO (i%24)=bO i:=by
 unfold bO foldI
 rw [Int.emod_emod_of_dvd i (Int.dvd_refl 24)]
theorem GR (i:Int):bO (-i)=bO i∧rK (-i)=(rK i).neg:=by
 have h0:=Int.emod_nonneg i (show (24:Int)≠0 by decide)
 have h1:=Int.emod_lt_of_pos i (show (0:Int)<24 by decide)
 have t:=(KU h0 h1).1
 have e:(-(i%24))%24=(-i)%24:=by omega
 rw [e] at t
 refine ⟨by rw [←yW (-i),t.1,yW], ?_⟩
 unfold rK
 have e2:(-i)%24%24=(-i)%24:=by omega
 have e3:i%24%24=i%24:=by omega
 rw [e2,e3] at t
 exact t.2
theorem Ab (x y:au):x.neg.cE y=(x.cE y).neg:=by
 rw [wL,wL]
 simp only [au.neg,Int.neg_mul]
 rw [au.mk.injEq]
 refine ⟨?_, ?_, ?_, ?_,rfl⟩<;>omega
theorem HD (x:au):x.neg.neg=x:=by
 simp only [au.neg,Int.neg_neg]
theorem GC (x y:au):x.neg.gK y.neg=(x.gK y).neg:=by
 simp only [au.gK,au.neg,Int.neg_mul]
 rw [au.mk.injEq]
 refine ⟨?_, ?_, ?_, ?_,rfl⟩<;>omega
theorem IB {v:aP} (ho:v.ok=true) (i:Int):(gQ v i).over=gQ v.over (-i):=by
 obtain ⟨o1,o2,o3⟩:=aP.gO ho
 obtain ⟨p1,e1⟩:=an.jr o1
 obtain ⟨p2,e2⟩:=an.jr o2
 obtain ⟨c1,c2⟩:=GR i
 have ml:=fun {x:au} (j:Int) (hx:x.ok=true)=>au.oQ (z8 hx (rY j))
 have kx:(nY v i).ok=true:=au.oQ (oB (ml i p1) (kC (ml _ p2)))
 have ky:(nZ v i).ok=true:=au.oQ (oB (ml _ p1) (ml i p2))
 have kt:(gQ v i).ok=true:=by
  unfold gQ aP.ok
  simp only [an.nO,kx,ky,o3,Bool.and_self]
 have hy:v.y.neg=an.of v.y.i5.neg:=by conv=>lhs;rw [e2]
                                      exact an.iI p2
 have Mh:v.over=⟨v.x,an.of v.y.i5.neg,v.z.neg⟩:=by
  unfold aP.over
  rw [ho,if_pos rfl,hy]
 have hl:(gQ v i).over=⟨an.of (nY v i),an.of (nZ v i).neg,v.z.neg⟩:=by
  unfold aP.over
  rw [kt,if_pos rfl]
  show aP.mk (an.of (nY v i)) (an.of (nZ v i)).neg v.z.neg=_
  rw [an.iI ky]
 rw [hl,Mh]
 unfold gQ nY nZ
 simp only [an.nN,c1,c2]
 rw [Ab,z9,HD,z9,wI,Ab,wI,GC,wI]
theorem aP.Fl {v:aP} {K:Nat} (hK:K<2^28) (ho:v.ok=true) (h:v.Fit K):v.over.ok=true∧v.over.Fit K:=by
 obtain ⟨o1,o2,o3⟩:=aP.gO ho
 obtain ⟨p1,e1⟩:=an.jr o1
 obtain ⟨p2,e2⟩:=an.jr o2
 obtain ⟨p3,e3⟩:=an.jr o3
 have Mh:v.over=⟨v.x,an.of v.y.i5.neg,an.of v.z.i5.neg⟩:=by
  have n2:=an.iI p2
  have n3:=an.iI p3
  rw [←e2] at n2
  rw [←e3] at n3
  unfold aP.over
  rw [ho,if_pos rfl,n2,n3]
 rw [Mh]
 refine ⟨?_,h.1, ?_, ?_⟩
 · unfold aP.ok
   simp only [an.nO,o1,kC p2,kC p3,Bool.and_self]
 · rw [an.nN];exact h.2.1.neg
 · rw [an.nN];exact h.2.2.neg
theorem Gn {v:aP} {K:Nat} (hK:1≤K) (ho:v.ok=true) (h:v.Fit K) (i:Int):(gQ v i).ok=true∧(gQ v i).Fit (4* K+3):=by
 obtain ⟨o1,o2,o3⟩:=aP.gO ho
 obtain ⟨p1,e1⟩:=an.jr o1
 obtain ⟨p2,e2⟩:=an.jr o2
 have t:=fun {x:au} (j:Int) (hx:x.Fit K) (ox:x.ok=true)=>AX (c:=x) ho h hK j hx ox
 obtain ⟨a1,a2⟩:=t i h.1 p1
 obtain ⟨a3,a4⟩:=t (i%24 - 6) h.2.1 p2
 obtain ⟨a5,a6⟩:=t (i%24 - 6) h.1 p1
 obtain ⟨a7,a8⟩:=t i h.2.1 p2
 have kx:(nY v i).ok=true:=au.oQ (oB a2 (kC a4))
 have ky:(nZ v i).ok=true:=au.oQ (oB a6 a8)
 refine ⟨by unfold gQ aP.ok;simp only [an.nO,kx,ky,o3,Bool.and_self], ?_, ?_,h.2.2.mono (by omega)⟩
 · show (an.of (nY v i)).i5.Fit _
   rw [an.nN]
   exact ((a1.add a3.neg).low (oB a2 (kC a4))).mono (by omega)
 · show (an.of (nZ v i)).i5.Fit _
   rw [an.nN]
   exact ((a5.add a7).low (oB a6 a8)).mono (by omega)
theorem Gm {v:aP} {i:Int} {K:Nat} (hK:K<2^10) (ho:v.ok=true) (h:v.Fit K) (h1: -(2^62)≤i) (h2:i≤2^62):P2 [.ag v.cells,iv i]=some (one (.ag (gQ v i).cells)):=
 aO (enc:=fun p:aP×Int=>[.ag p.1.cells,iv p.2]) (a:=(v,i)) (La fun _ _=>aP.bf) ⟨ho,⟨K,hK,h⟩,h1,h2⟩
theorem DR:aH MD.P u4:=aI
 (ak (fun args r e=>by
  unfold OS PW at e
  split at e
  · simp only [Option.some.injEq] at e;subst e;exact GF
  · simp at e)
 (ak (ax fun x _=>KW x)
 (ak (ax fun v h=>vz v h)
 (ak (ax fun v h=>KA v h)
 (ak (ax fun p h=>by
  obtain ⟨ho,⟨K,hK,hf⟩,h1,h2⟩:=h
  by_cases h0:1≤K
  · exact Ct p.1 p.2 h0 hK ho hf h1 h2
  · exact Ct p.1 p.2 (K:=1) (by decide) (by decide) ho ⟨hf.1.mono (by omega),hf.2.1.mono (by omega),hf.2.2.mono (by omega)⟩ h1 h2) aF)))))
theorem IC (v:aP) (i:Int) (h1: -32768≤i) (h2:i≤32767):az P0 3 [.ag v.cells, .lit (.int .i16 i)] (one (bv true)):=by
 have hr:=N0 v 10
 cases e0:v.raw 10 with
 |false=>rw [e0] at hr;exact aj ah DR (by rfl) (Vn 4 v i) ⟨rfl,hr,rfl,trivial⟩
 |true=>
  rw [e0] at hr
  have hs:=aP.gG (by decide) e0
  have hv:=Gu hs
  cases e1:v.ok with
  |false=>rw [e1] at hv;exact aj ah DR (by rfl) (Vo 4 v i) ⟨rfl,hr,hv,rfl,trivial⟩
  |true=>
   rw [e1] at hv
   have hf:=aP.oZ (K:=10) e0
   obtain ⟨to,tf⟩:=Gn (by decide) e1 hf i
   obtain ⟨oo,VX⟩:=aP.Fl (by decide) e1 hf
   have w:=wrap_small (n:=i) (by omega) (by omega)
   have w2:=wrap_small (n:=0 - i) (by omega) (by omega)
   have q:=Gm (i:=0 - i) (by decide) oo VX (by omega) (by omega)
   exact aj ah DR (by rfl) (Vp 4 v (gQ v i) (gQ v i).over v.over (gQ v.over (0 - i)) i i i (0 - i) true)
    ⟨rfl,hr,hv,w,Gm (by decide) e1 hf (by omega) (by omega),Gr (tf.small (by decide) to),Gr hs,w,w2,q,y6 (aP.fG.2 (by rw [Int.zero_sub];exact IB e1 i)),trivial⟩
end Go.Proofs.YtibbgjafjhcemaaGreatDoor.Cul
