/- Part of a proof by an abstract machine for the program's code: lemmas, without conditions of their own beyond those that each states. (Made smaller by a program: short names, no comments.) -/
import Derived.Test.YtibbgjafjhcemaaDoorRSHG2
set_option linter.unusedVariables false
set_option linter.unusedSimpArgs false
set_option maxRecDepth 100000
namespace Go.Proofs.YtibbgjafjhcemaaDoor.Cul
open Go Go.RowKit
noncomputable def t3:Cl:=bQ []
theorem UZ (k n m:Nat) (cs ds:List PV):ay MD t3 k 98 [.sl 1 n cs, .sl 1 m ds] [.c true]=
 some (RV.mk (PV.lit (Value.int IntKind.i64 (IntKind.i64.wrap ((↑n:Int) - (↑m:Int))))) none,[((↑n:Int) !=(↑m:Int))=true]):=by kernel_rfl
theorem Ql (k n m:Nat) (cs ds:List PV) (r:Int):ay MD t3 k 98 [.sl 1 n cs, .sl 1 m ds] [.c false, .l .ret ⟨[(4, .pv (iv r))],[],[],[]⟩]=
 some (RV.mk (PV.lit (Value.int IntKind.i64 r)) none,[((↑n:Int) !=(↑m:Int))=false,aN MD t3 k (98:Nat) (0:Nat) (St.mk [(0,AV.pv (PV.sl 1 n cs)),(1,AV.pv (PV.sl 1 m ds)),(5,AV.pv (PV.lit (Value.int IntKind.i64 (IntKind.i64.wrap ((↑n:Int) - (1:Int))))))] [] [] []) Xt.ret (St.mk [(4,AV.pv (PV.lit (Value.int IntKind.i64 r)))] [] [] [])]):=by kernel_rfl
theorem U0 (k n m:Nat) (cs ds:List PV):ay MD t3 k 98 [.sl 1 n cs, .sl 1 m ds] [.c false, .l (.exit 0) ⟨[(0, .pv (.sl 1 n cs)),(1, .pv (.sl 1 m ds)),(5, .pv (iv (-1))),(20, .pv (bv false))],[],[],[]⟩]=
 some (RV.mk (PV.lit (Value.int IntKind.i64 (0:Int))) none,[((↑n:Int) !=(↑m:Int))=false,aN MD t3 k (98:Nat) (0:Nat) (St.mk [(0,AV.pv (PV.sl 1 n cs)),(1,AV.pv (PV.sl 1 m ds)),(5,AV.pv (PV.lit (Value.int IntKind.i64 (IntKind.i64.wrap ((↑n:Int) - (1:Int))))))] [] [] []) (Xt.exit 0) (St.mk [(0,AV.pv (PV.sl 1 n cs)),(1,AV.pv (PV.sl 1 m ds)),(5,AV.pv (PV.lit (Value.int IntKind.i64 (-1:Int)))),(20,AV.pv (PV.lit (Value.bool false)))] [] [] [])]):=by kernel_rfl
theorem U1 (k n m:Nat) (cs ds:List PV) (i:Int):ak MD t3 k 98 0 ⟨[(0, .pv (.sl 1 n cs)),(1, .pv (.sl 1 m ds)),(5, .pv (iv i))],[],[],[]⟩ [.c false]=
 some ((Xt.exit 0,St.mk [(0,AV.pv (PV.sl 1 n cs)),(1,AV.pv (PV.sl 1 m ds)),(5,AV.pv (PV.lit (Value.int IntKind.i64 i))),(20,AV.pv (PV.lit (Value.bool false)))] [] [] []),[],[decide (i≥(0:Int))=false]):=by kernel_rfl
theorem U2 (k n m x y:Nat) (cs ds:List PV) (i:Int):ak MD t3 k 98 0 ⟨[(0, .pv (.sl 1 n cs)),(1, .pv (.sl 1 m ds)),(5, .pv (iv i))],[],[],[]⟩ [.c true, .a 26 [ax x], .a 30 [ax y], .c true]=
 some ((Xt.ret,St.mk [(4,AV.pv (PV.lit (Value.int IntKind.i64 (-1:Int))))] [] [] []),[],[decide (i≥(0:Int))=true,az cs 1 i n [PV.lit (Value.int IntKind.u32 (↑x:Int))],az ds 1 i m [PV.lit (Value.int IntKind.u32 (↑y:Int))],decide ((↑x:Int)<(↑y:Int))=true]):=by kernel_rfl
theorem U3 (k n m x y:Nat) (cs ds:List PV) (i:Int):ak MD t3 k 98 0 ⟨[(0, .pv (.sl 1 n cs)),(1, .pv (.sl 1 m ds)),(5, .pv (iv i))],[],[],[]⟩ [.c true, .a 26 [ax x], .a 30 [ax y], .c false, .a 36 [ax x], .a 40 [ax y], .c true]=
 some ((Xt.ret,St.mk [(4,AV.pv (PV.lit (Value.int IntKind.i64 (1:Int))))] [] [] []),[],[decide (i≥(0:Int))=true,az cs 1 i n [PV.lit (Value.int IntKind.u32 (↑x:Int))],az ds 1 i m [PV.lit (Value.int IntKind.u32 (↑y:Int))],decide ((↑x:Int)<(↑y:Int))=false,az cs 1 i n [PV.lit (Value.int IntKind.u32 (↑x:Int))],az ds 1 i m [PV.lit (Value.int IntKind.u32 (↑y:Int))],decide ((↑x:Int)>(↑y:Int))=true]):=by kernel_rfl
theorem U4 (k n m x y:Nat) (cs ds:List PV) (i j:Int):ak MD t3 k 98 0 ⟨[(0, .pv (.sl 1 n cs)),(1, .pv (.sl 1 m ds)),(5, .pv (iv i))],[],[],[]⟩ [.c true, .a 26 [ax x], .a 30 [ax y], .c false, .a 36 [ax x], .a 40 [ax y], .c false, .i 22 j]=
 some ((Xt.normal,St.mk [(0,AV.pv (PV.sl 1 n cs)),(1,AV.pv (PV.sl 1 m ds)),(5,AV.pv (PV.lit (Value.int IntKind.i64 j)))] [] [] []),[],[decide (i≥(0:Int))=true,az cs 1 i n [PV.lit (Value.int IntKind.u32 (↑x:Int))],az ds 1 i m [PV.lit (Value.int IntKind.u32 (↑y:Int))],decide ((↑x:Int)<(↑y:Int))=false,az cs 1 i n [PV.lit (Value.int IntKind.u32 (↑x:Int))],az ds 1 i m [PV.lit (Value.int IntKind.u32 (↑y:Int))],decide ((↑x:Int)>(↑y:Int))=false,IntKind.i64.wrap (i - (1:Int))=j]):=by kernel_rfl
theorem sg (k n:Nat) (cs:List PV) (r:Int):ay MD t3 k 94 [.sl 1 n cs] [.l (.exit 0) ⟨[(0, .pv (.sl 1 n cs)),(3, .pv (.lit (.int .u64 r))),(4, .pv (iv (-1))),(9, .pv (bv false))],[],[],[]⟩]=
 some (RV.mk (PV.lit (Value.int IntKind.u64 r)) none,[aN MD t3 k (94:Nat) (0:Nat) (St.mk [(0,AV.pv (PV.sl 1 n cs)),(3,AV.pv (PV.lit (Value.int IntKind.u64 (0:Int)))),(4,AV.pv (PV.lit (Value.int IntKind.i64 (IntKind.i64.wrap ((↑n:Int) - (1:Int))))))] [] [] []) (Xt.exit 0) (St.mk [(0,AV.pv (PV.sl 1 n cs)),(3,AV.pv (PV.lit (Value.int IntKind.u64 r))),(4,AV.pv (PV.lit (Value.int IntKind.i64 (-1:Int)))),(9,AV.pv (PV.lit (Value.bool false)))] [] [] [])]):=by kernel_rfl
theorem YA (k n:Nat) (cs:List PV) (r i:Int):ak MD t3 k 94 0 ⟨[(0, .pv (.sl 1 n cs)),(3, .pv (.lit (.int .u64 r))),(4, .pv (iv i))],[],[],[]⟩ [.c false]=
 some ((Xt.exit 0,St.mk [(0,AV.pv (PV.sl 1 n cs)),(3,AV.pv (PV.lit (Value.int IntKind.u64 r))),(4,AV.pv (PV.lit (Value.int IntKind.i64 i))),(9,AV.pv (PV.lit (Value.bool false)))] [] [] []),[],[decide (i≥(0:Int))=false]):=by kernel_rfl
theorem YB (k n x:Nat) (cs:List PV) (r r1 r2 i j:Int):ak MD t3 k 94 0 ⟨[(0, .pv (.sl 1 n cs)),(3, .pv (.lit (.int .u64 r))),(4, .pv (iv i))],[],[],[]⟩ [.c true, .i 13 r1, .a 16 [ax x], .i 18 x, .i 19 r2, .i 11 j]=
 some ((Xt.normal,St.mk [(0,AV.pv (PV.sl 1 n cs)),(3,AV.pv (PV.lit (Value.int IntKind.u64 r2))),(4,AV.pv (PV.lit (Value.int IntKind.i64 j)))] [] [] []),[],[decide (i≥(0:Int))=true,IntKind.u64.wrap (r* (2:Int)^min (Int.toNat (32:Int)) IntKind.u64.bits)=r1,false=false,az cs 1 i n [PV.lit (Value.int IntKind.u32 (↑x:Int))],IntKind.u64.wrap (↑x:Int)=(↑x:Int),IntKind.u64.wrap (↑(BitVec.ofInt IntKind.u64.bits r1|||BitVec.ofInt IntKind.u64.bits (↑x:Int)).toNat:Int)=r2,IntKind.i64.wrap (i - (1:Int))=j]):=by kernel_rfl
theorem wd (k:Nat) (n x y:Int) (p:PV):ay MD t1 k 82 [.lit (.int .u64 n)] [.i 4 x, .i 7 y, .r (one p)]=
 some (RV.mk p none,[IntKind.u32.wrap n=x,false=false,IntKind.u32.wrap (n.fdiv ((2:Int)^min (Int.toNat (32:Int)) IntKind.u64.bits))=y,aa t1 95 [PV.sl 1 2 [PV.lit (Value.int IntKind.u32 x),PV.lit (Value.int IntKind.u32 y)]] (RV.mk p none)]):=by kernel_rfl
def jm (l m:List Nat):Int:=if l.length≠m.length then (l.length:Int) - m.length else if val (4294967296:Nat) l<val (4294967296:Nat) m then -1 else if val (4294967296:Nat) m<val (4294967296:Nat) l then 1 else 0
theorem dz {b:Nat} {l:List Nat} (h:bB b l) {i x:Nat} (e:l[i]? =some x):x<b:=h x (List.mem_of_getElem? e)
theorem get_some {α:Type} {l:List α} {i:Nat} (h:i<l.length):∃x,l[i]? =some x:=⟨l[i],List.getElem?_eq_getElem h⟩
def lS (l m:List Nat) (j:Nat):Xt×St:=
 if val (4294967296:Nat) (l.take j)<val (4294967296:Nat) (m.take j) then (.ret,⟨[(4, .pv (iv (-1)))],[],[],[]⟩)
 else if val (4294967296:Nat) (m.take j)<val (4294967296:Nat) (l.take j) then (.ret,⟨[(4, .pv (iv 1))],[],[],[]⟩)
 else (.exit 0,⟨[(0, .pv (nat l)),(1, .pv (nat m)),(5, .pv (iv (-1))),(20, .pv (bv false))],[],[],[]⟩)
theorem zm (k:Nat) (l m:List Nat) (hl:bB (4294967296:Nat) l) (hm:bB (4294967296:Nat) m) (e:l.length=m.length) (hs:l.length<2^40):∀j,j≤l.length→aR (aI MD t3 k 98 0) (j+1) ⟨[(0, .pv (nat l)),(1, .pv (nat m)),(5, .pv (iv ((j:Int) - 1)))],[],[],[]⟩=some (lS l m j)
 |0,_=>by
  simp only [lS,List.take_zero,Nat.lt_irrefl,if_false]
  exact aF (af (U1 k _ _ _ _ _) ⟨by decide,trivial⟩) (by simp)
 |j+1,hj=>by
  obtain ⟨x,hx⟩:=get_some (l:=l) (i:=j) (by omega)
  obtain ⟨y,hy⟩:=get_some (l:=m) (i:=j) (by omega)
  have v1:=cG (b:=(4294967296:Nat)) hx
  have v2:=cG (b:=(4294967296:Nat)) hy
  have l1:=dc (fl hl j)
  have l2:=dc (fl hm j)
  have e1:(l.take j).length=j:=by rw [List.length_take];omega
  have e2:(m.take j).length=j:=by rw [List.length_take];omega
  rw [e1] at l1;rw [e2] at l2
  have hi:(((j+1:Nat):Int) - 1)=(j:Int):=by omega
  rw [hi]
  have r1:az (us l) 1 (j:Int) l.length [ax x]:=eS hx rfl
  have r2:az (us m) 1 (j:Int) m.length [ax y]:=eS hy rfl
  have h0:decide ((j:Int)≥0)=true:=by simp
  rcases Nat.lt_trichotomy x y with h|h|h
  · have hv:val (4294967296:Nat) (l.take (j+1))<val (4294967296:Nat) (m.take (j+1)):=by
      rw [v1,v2]
      have:(4294967296:Nat)^j* (x+1)≤(4294967296:Nat)^j* y:=Nat.mul_le_mul_left _ h
      rw [Nat.mul_add] at this
      omega
    simp only [lS,if_pos hv]
    exact aF (af (U2 k _ _ x y _ _ _) ⟨h0,r1,r2,by simpa using h,trivial⟩) (by simp)
  · subst h
    have hc:lS l m (j+1)=lS l m j:=by
     simp only [lS,v1,v2,Nat.add_lt_add_iff_right]
    rw [hc]
    exact aW (af (U4 k _ _ x x _ _ _ ((j:Int) - 1)) ⟨h0,r1,r2,by simp,r1,r2,by simp,by rw [wrap64]<;>omega,trivial⟩) (zm k l m hl hm e hs j (by omega))
  · have hv:val (4294967296:Nat) (m.take (j+1))<val (4294967296:Nat) (l.take (j+1)):=by
      rw [v1,v2]
      have:(4294967296:Nat)^j* (y+1)≤(4294967296:Nat)^j* x:=Nat.mul_le_mul_left _ h
      rw [Nat.mul_add] at this
      omega
    have Ac:¬val (4294967296:Nat) (l.take (j+1))<val (4294967296:Nat) (m.take (j+1)):=by omega
    simp only [lS,if_pos hv,if_neg Ac]
    exact aF (af (U3 k _ _ x y _ _ _) ⟨h0,r1,r2,by simp;omega,r1,r2,by simpa using h,trivial⟩) (by simp)
theorem kL:aP MD.P t3:=aO aL
theorem Dh (l m:List Nat) (hl:bB (4294967296:Nat) l) (hm:bB (4294967296:Nat) m) (h1:l.length<2^40) (h2:m.length<2^40):aA P0 98 [nat l,nat m] (one (iv (jm l m))):=by
 by_cases e:l.length=m.length
 · have hw:IntKind.i64.wrap ((l.length:Int) - 1)=(l.length:Int) - 1:=by rw [wrap64]<;>omega
   have iP:=zm (l.length+1) l m hl hm e h1 l.length (Nat.le_refl _)
   have hne:((l.length:Int) !=(m.length:Int))=false:=by simp [e]
   have t1:l.take l.length=l:=List.take_length
   have t2:m.take l.length=m:=by rw [e];exact List.take_length
   unfold lS at iP
   rw [t1,t2] at iP
   unfold jm
   rw [if_neg (by simpa using e)]
   by_cases v1:val (4294967296:Nat) l<val (4294967296:Nat) m
   · rw [if_pos v1] at iP ⊢
     exact ai ah kL (by rfl) (Ql (l.length+1) _ _ _ _ (-1)) ⟨hne,by rw [hw];exact iP,trivial⟩
   · rw [if_neg v1] at iP ⊢
     by_cases v2:val (4294967296:Nat) m<val (4294967296:Nat) l
     · rw [if_pos v2] at iP ⊢
       exact ai ah kL (by rfl) (Ql (l.length+1) _ _ _ _ 1) ⟨hne,by rw [hw];exact iP,trivial⟩
     · rw [if_neg v2] at iP ⊢
       exact ai ah kL (by rfl) (U0 (l.length+1) _ _ _ _) ⟨hne,by rw [hw];exact iP,trivial⟩
 · have:=ai ah kL (by rfl) (UZ 1 l.length m.length (us l) (us m)) ⟨by simp;omega,trivial⟩
   rw [wrap64 (by omega) (by omega)] at this
   unfold jm
   rw [if_pos e]
   exact this
theorem nY {a b:Nat} (h:(dg (4294967296:Nat) a).length<(dg (4294967296:Nat) b).length):a<b:=by
 have h1:=eG (b:=(4294967296:Nat)) (n:=a) (by decide)
 rcases Nat.eq_zero_or_pos b with rfl|hb
 · simp [eB] at h
 · have h2:=nX (b:=(4294967296:Nat)) (by decide) hb
   have:(4294967296:Nat)^(dg (4294967296:Nat) a).length≤(4294967296:Nat)^((dg (4294967296:Nat) b).length - 1):=Nat.pow_le_pow_right (by decide) (by omega)
   omega
theorem zn (a b:Nat):jm (dg (4294967296:Nat) a) (dg (4294967296:Nat) b)<0↔a<b:=by
 unfold jm
 rw [ct (by decide),ct (by decide)]
 split
 · rename_i h
   constructor
   · intro h2;exact nY (by omega)
   · intro h2
     rcases Nat.lt_or_ge (dg (4294967296:Nat) b).length (dg (4294967296:Nat) a).length with h3|h3
     · have:=nY h3;omega
     · omega
 · split
   · simp_all
   · split<;>simp_all
theorem bE {a:Int} {m:Nat} (h:a=(m:Int)) (hm:m<2^64):IntKind.u64.wrap a=(m:Int):=by
 subst h
 unfold IntKind.wrap IntKind.bits IntKind.signed
 simp only
 have e1:(2:Int)^64=18446744073709551616:=by decide
 rw [e1]
 simp only [Bool.false_and]
 rw [Int.emod_eq_of_lt (by omega) (by omega)]
 simp
theorem nH {x z r:Nat} (hx:x<2^r) (h:2^r* z+x<2^64) (y:Nat) (hy:y=2^r* z+x):IntKind.u64.wrap ((BitVec.ofInt IntKind.u64.bits ((2^r* z:Nat):Int)|||BitVec.ofInt IntKind.u64.bits (x:Int)).toNat:Int)=(y:Int):=by
 have e:(BitVec.ofInt IntKind.u64.bits ((2^r* z:Nat):Int)|||BitVec.ofInt IntKind.u64.bits (x:Int)).toNat=y:=by
  rw [BitVec.toNat_or,BitVec.ofInt_natCast,BitVec.ofInt_natCast,BitVec.toNat_ofNat,BitVec.toNat_ofNat]
  show (2^r* z)%2^64|||x%2^64=y
  rw [Nat.mod_eq_of_lt (by omega),Nat.mod_eq_of_lt (by omega),←Nat.two_pow_add_eq_or_of_lt hx,hy]
 rw [e]
 exact bE rfl (by omega)
def bK (x:Nat):PV:= .lit (.int .u64 (x:Int))
theorem tZ {b:Nat} {l:List Nat} {j x:Nat} (h:l[j]? =some x):val b (l.drop j)=x+b* val b (l.drop (j+1)):=by
 have hj:=gK h
 rw [List.drop_eq_getElem_cons hj,val]
 rw [List.getElem?_eq_getElem hj] at h
 simp only [Option.some.injEq] at h
 rw [h]
theorem tP (k:Nat) (l:List Nat) (hl:bB (4294967296:Nat) l) (h2:l.length≤2):∀j,j≤l.length→aR (aI MD t3 k 94 0) (j+1) ⟨[(0, .pv (nat l)),(3, .pv (bK (val (4294967296:Nat) (l.drop j)))),(4, .pv (iv ((j:Int) - 1)))],[],[],[]⟩=some (.exit 0,⟨[(0, .pv (nat l)),(3, .pv (bK (val (4294967296:Nat) l))),(4, .pv (iv (-1))),(9, .pv (bv false))],[],[],[]⟩)
 |0,_=>aF (af (YA k _ _ _ _) ⟨by decide,trivial⟩) (by simp)
 |j+1,hj=>by
  obtain ⟨x,hx⟩:=get_some (l:=l) (i:=j) (by omega)
  have qR:=dz hl hx
  have hi:(((j+1:Nat):Int) - 1)=(j:Int):=by omega
  rw [hi]
  have hd:=tZ (b:=(4294967296:Nat)) hx
  have hlt:=dc (jH hl (j+1))
  have aal:val (4294967296:Nat) (l.drop (j+1))<(4294967296:Nat):=by
   refine Nat.lt_of_lt_of_le hlt ?_
   have:(4294967296:Nat)^(l.drop (j+1)).length≤(4294967296:Nat)^1:=Nat.pow_le_pow_right (by decide) (by rw [List.length_drop];omega)
   simpa using this
  refine aW (af (YB k _ x _ _ ((2^32* val (4294967296:Nat) (l.drop (j+1)):Nat):Int) ((val (4294967296:Nat) (l.drop j):Nat):Int) _ ((j:Int) - 1)) ⟨by simp, ?_,rfl,eS hx rfl, ?_, ?_, ?_,trivial⟩) (tP k l hl h2 j (by omega))
  · refine bE ?_ (by omega)
    have e:min (Int.toNat 32) IntKind.u64.bits=32:=by decide
    rw [e]
    have e1:(2:Int)^32=4294967296:=by decide
    rw [e1];omega
  · exact bE rfl (by omega)
  · exact nH (r:=32) (by omega) (by omega) _ (by rw [hd];omega)
  · rw [wrap64]<;>omega
theorem GM (l:List Nat) (hl:bB (4294967296:Nat) l) (h2:l.length≤2):aA P0 94 [nat l] (one (bK (val (4294967296:Nat) l))):=by
 have iP:=tP (l.length+1) l hl h2 l.length (Nat.le_refl _)
 rw [List.drop_length] at iP
 have hw:IntKind.i64.wrap ((l.length:Int) - 1)=(l.length:Int) - 1:=by rw [wrap64]<;>omega
 exact ai ah kL (by rfl) (sg (l.length+1) _ _ _) ⟨by rw [hw];exact iP,trivial⟩
theorem C2 (n:Nat) (h:n<2^64):aA P0 82 [bK n] (one (nat (dg (4294967296:Nat) n))):=by
 have hd:bB (4294967296:Nat) [n%(4294967296:Nat),n / (4294967296:Nat)]:=by
  intro x hx
  simp at hx
  rcases hx with rfl|rfl
  · exact Nat.mod_lt _ (by decide)
  · omega
 have hv:val (4294967296:Nat) [n%(4294967296:Nat),n / (4294967296:Nat)]=n:=by simp [val];omega
 have:=nQ (l:=[n%(4294967296:Nat),n / (4294967296:Nat)]) (by simp) hd
 rw [hv] at this
 refine ai ah Ef (by rfl) (wd 1 n ((n%(4294967296:Nat):Nat):Int) ((n / (4294967296:Nat):Nat):Int) _) ⟨?_,rfl, ?_,this,trivial⟩
 · unfold IntKind.wrap IntKind.bits IntKind.signed
   simp only
   have e1:(2:Int)^32=4294967296:=by decide
   rw [e1]
   simp
 · have e:min (Int.toNat 32) IntKind.u64.bits=32:=by decide
   rw [e]
   refine jc ?_ (by omega)
   have e1:(2:Int)^32=4294967296:=by decide
   rw [e1,Int.fdiv_eq_ediv_of_nonneg _ (by omega)];omega
end Go.Proofs.YtibbgjafjhcemaaDoor.Cul
namespace Go.Proofs.YtibbgjafjhcemaaDoor.Cul
open Go Go.RowKit
noncomputable def Rm:List PV→Option RV:=cu (fun _:ByteArray=>True) (fun s=>[.lit (.string s), .lit (.int .u8 0)]) (fun s=>one (.lit (.string (aH (bR s)))))
noncomputable def t4:Cl:=bQ [(118,Rm)]
def bt (n:Nat):PV:= .lit (.int .u8 (n:Int))
def zs:ByteArray:=⟨#[0]⟩
theorem YS (k:Nat) (s:ByteArray):ak MD t3 k 118 0 ⟨[(0, .pv (.lit (.string s))),(1, .pv (bt 0))],[],[],[]⟩ [.c false]=
 some ((Xt.exit 0,St.mk [(0,AV.pv (PV.lit (Value.string s))),(1,AV.pv (PV.lit (Value.int IntKind.u8 (0:Int)))),(13,AV.pv (PV.lit (Value.bool false)))] [] [] []),[],[decide ((↑s.size:Int)>(0:Int))=false]):=by kernel_rfl
theorem YU (k b:Nat) (s:ByteArray):ak MD t3 k 118 0 ⟨[(0, .pv (.lit (.string s))),(1, .pv (bt 0))],[],[],[]⟩ [.c true, .i 10 b, .c false]=
 some ((Xt.exit 0,St.mk [(0,AV.pv (PV.lit (Value.string s))),(1,AV.pv (PV.lit (Value.int IntKind.u8 (0:Int)))),(13,AV.pv (PV.lit (Value.bool false)))] [] [] []),[],[decide ((↑s.size:Int)>(0:Int))=true,fu s (0:Int) (↑b:Int),((↑b:Int)==(↑(0:Nat):Int))=false]):=by kernel_rfl
theorem YV (k b:Nat) (s s':ByteArray):ak MD t3 k 118 0 ⟨[(0, .pv (.lit (.string s))),(1, .pv (bt 0))],[],[],[]⟩ [.c true, .i 10 b, .c true, .w 15 s']=
 some ((Xt.normal,St.mk [(0,AV.pv (PV.lit (Value.string s'))),(1,AV.pv (PV.lit (Value.int IntKind.u8 (0:Int))))] [] [] []),[],[decide ((↑s.size:Int)>(0:Int))=true,fu s (0:Int) (↑b:Int),((↑b:Int)==(↑(0:Nat):Int))=true,Dc MD.P 9 s (some (Value.int IntKind.i64 (1:Int))) none s']):=by kernel_rfl
theorem tb (k:Nat) (s s':ByteArray):ay MD t3 k 118 [.lit (.string s),bt 0] [.l (.exit 0) ⟨[(0, .pv (.lit (.string s'))),(1, .pv (bt 0)),(13, .pv (bv false))],[],[],[]⟩]=
 some (RV.mk (PV.lit (Value.string s')) none,[aN MD t3 k (118:Nat) (0:Nat) (St.mk [(0,AV.pv (PV.lit (Value.string s))),(1,AV.pv (PV.lit (Value.int IntKind.u8 (0:Int))))] [] [] []) (Xt.exit 0) (St.mk [(0,AV.pv (PV.lit (Value.string s'))),(1,AV.pv (PV.lit (Value.int IntKind.u8 (0:Int)))),(13,AV.pv (PV.lit (Value.bool false)))] [] [] [])]):=by kernel_rfl
theorem YW (k:Nat) (s s':ByteArray):ay MD t4 k 110 [.lit (.string s), .lit (.string zs)] [.c false, .c false, .c true, .c true, .r (one (.lit (.string s')))]=
 some (RV.mk (PV.lit (Value.string s')) none,[(s.toList==(ByteArray.mk #[]).toList)=false,false=false,true=true,true=true,aa t4 118 [PV.lit (Value.string s),PV.lit (Value.int IntKind.u8 (0:Int))] (RV.mk (PV.lit (Value.string s')) none)]):=by kernel_rfl
theorem YX (k:Nat) (s s':ByteArray):ay MD t4 k 110 [.lit (.string s), .lit (.string zs)] [.c true]=
 some (RV.mk (PV.lit (Value.string s)) none,[(s.toList==(ByteArray.mk #[]).toList)=true]):=by kernel_rfl
def sv (s:ByteArray):PV:= .lit (.string s)
theorem Uh:MD.P.underlying 9=some .string:=by kernel_rfl
theorem Ed {s:ByteArray} {i:Nat} (h:i≤s.size):Dc MD.P 9 s (some (.int .i64 (i:Int))) none (s.extract i s.size):=by
 show cQ MD.P _=_
 simp [cQ,Instr.sliceAt,Instr.slice,Instr.sliceBounds,Instr.sliceBound,asIntOf,underlying,program,Uh,aB,hH,iA,Bind.bind,Sem.bind,pure,Pure.pure,h]
theorem rO {s:ByteArray} {m:List Nat} {x:Nat} (h:aY s=m++[x]) (hx:0<x):Da s:= .inr ⟨m,x,h,hx⟩
theorem mj {s:ByteArray} {i:Nat} {b:UInt8} (h:s[i]? =some b):fu s (i:Int) (b.toNat:Int):=by
 show ji s (i:Int)=some (b.toNat:Int)
 unfold ji
 rw [if_pos (by omega),Int.toNat_natCast,h];rfl
theorem CX (k:Nat):∀(n:Nat) (s:ByteArray),s.size=n→aR (aI MD t3 k 118 0) (n+1) ⟨[(0, .pv (sv s)),(1, .pv (bt 0))],[],[],[]⟩=some (.exit 0,⟨[(0, .pv (sv (aH (bR s)))),(1, .pv (bt 0)),(13, .pv (bv false))],[],[],[]⟩)
 |0,s,hs=>by
  have e:aY s=[]:=List.length_eq_zero_iff.1 (by rw [bW];exact hs)
  rw [l8 (.inl e)]
  exact aF (af (YS k s) ⟨by simp [hs],trivial⟩) (by simp)
 |n+1,s,hs=>by
  obtain ⟨b,hb,hl⟩:=jq hs
  have h0:decide ((s.size:Int)>0)=true:=by simp;omega
  by_cases hz:b.toNat=0
  · have hv:bR s=bR (s.extract 1 s.size):=by
      rw [bR,hl,hz,su];rfl
    rw [hv]
    have hsz:(s.extract 1 s.size).size=n:=by
     have:=congrArg List.length hl
     rw [bW,List.length_append,bW] at this
     rw [List.length_singleton] at this;omega
    have hst:fu s 0 ((0:Nat):Int):=by rw [←hz];exact mj hb
    exact aW (af (YV k 0 s (s.extract 1 s.size)) ⟨h0,hst,by simp,Ed (i:=1) (by omega),trivial⟩) (CX k n _ hsz)
  · rw [l8 (rO hl (by omega))]
    exact aF (af (YU k b.toNat s) ⟨h0,mj hb,by simpa using hz,trivial⟩) (by simp)
theorem BF (s:ByteArray):aA P0 118 [sv s,bt 0] (one (sv (aH (bR s)))):=
 ai ah kL (by rfl) (tb (s.size+1) _ _) ⟨CX _ s.size s rfl,trivial⟩
theorem OA (s:ByteArray):Rm [sv s,bt 0]=some (one (sv (aH (bR s)))):=
 bl (enc:=fun s:ByteArray=>[.lit (.string s), .lit (.int .u8 0)]) (fun a b e=>by simp only [List.cons.injEq,PV.lit.injEq,Value.string.injEq] at e;rw [e.1]) trivial
theorem JN:aP MD.P t4:=aO (au (aE fun s _=>BF s) aL)
theorem BG (s:ByteArray):aA P0 110 [sv s,sv zs] (one (sv (aH (bR s)))):=by
 by_cases h:s.size=0
 · have e:aY s=[]:=List.length_eq_zero_iff.1 (by rw [bW];exact h)
   rw [l8 (.inl e)]
   refine ai ah JN (by rfl) (YX 1 s s) ⟨?_,trivial⟩
   rw [ByteArray.toList_eq,ByteArray.toList_eq]
   have:s.data.toList=[]:=List.length_eq_zero_iff.1 h
   rw [this];rfl
 · refine ai ah JN (by rfl) (YW 1 s _) ⟨?_,rfl,rfl,rfl,OA s,trivial⟩
   rw [ByteArray.toList_eq,ByteArray.toList_eq]
   cases hl:s.data.toList with
   |nil=>exact absurd (show s.size=0 from by show s.data.toList.length=0;rw [hl];rfl) h
   |cons c t=>rfl
end Go.Proofs.YtibbgjafjhcemaaDoor.Cul
namespace Go.Proofs.YtibbgjafjhcemaaDoor.Cul
open Go Go.RowKit
noncomputable def Rn:List PV→Option RV:=cu (fun _:ByteArray=>True) (fun s=>[sv s, .lit (.string zs)]) (fun s=>one (sv (aH (bR s))))
noncomputable def t5:Cl:=bQ [(110,Rn)]
noncomputable def Nn:List PV→Option RV:=cu (fun l:List Nat=>l.length<2^40∧bB (4294967296:Nat) l) (fun l=>[nat l]) (fun l=>one (sv (aH (val (4294967296:Nat) l))))
noncomputable def t6:Cl:=bQ [(96,Nn)]
theorem mg (k n m:Nat) (cs ds:List PV) (s s':ByteArray):ay MD t5 k 96 [.sl 1 n cs] [.i 7 (4* n:Nat), .c true, .l (.exit 0) ⟨[(0, .pv (.sl 1 n cs)),(3, .pv (.sl 1 m ds)),(4, .pv (iv (-1))),(13, .pv (bv false))],[],[(.s 3,1)],[]⟩, .w 43 s, .r (one (sv s'))]=
 some (RV.mk (PV.lit (Value.string s')) none,[IntKind.i64.wrap ((4:Int)* (↑n:Int))=(↑((4:Nat)* n):Int),(0:Int)≤(0:Int)∧(0:Int)≤(↑((4:Nat)* n):Int)∧(↑((4:Nat)* n):Int)* (↑(MD.P.bytesOf (5:Nat)):Int)≤(↑room:Int)∧(↑((4:Nat)* n):Int)≤(↑room:Int),true=true,aN MD t5 k (96:Nat) (0:Nat) (St.mk [(0,AV.pv (PV.sl 1 n cs)),(3,AV.pv (PV.sl 1 0 [])),(4,AV.pv (PV.lit (Value.int IntKind.i64 (IntKind.i64.wrap ((↑n:Int) - (1:Int))))))] [] [(Pl.s 3,1)] []) (Xt.exit 0) (St.mk [(0,AV.pv (PV.sl 1 n cs)),(3,AV.pv (PV.sl 1 m ds)),(4,AV.pv (PV.lit (Value.int IntKind.i64 (-1:Int)))),(13,AV.pv (PV.lit (Value.bool false)))] [] [(Pl.s 3,1)] []),kU ds s,aa t5 110 [PV.lit (Value.string s),PV.lit (Value.string (ByteArray.mk #[(0:UInt8)]))] (RV.mk (PV.lit (Value.string s')) none)]):=by kernel_rfl
theorem XJ (k n m:Nat) (cs ds:List PV) (i:Int):ak MD t5 k 96 0 ⟨[(0, .pv (.sl 1 n cs)),(3, .pv (.sl 1 m ds)),(4, .pv (iv i))],[],[(.s 3,1)],[]⟩ [.c false]=
 some ((Xt.exit 0,St.mk [(0,AV.pv (PV.sl 1 n cs)),(3,AV.pv (PV.sl 1 m ds)),(4,AV.pv (PV.lit (Value.int IntKind.i64 i))),(13,AV.pv (PV.lit (Value.bool false)))] [] [(Pl.s 3,1)] []),[],[decide (i≥(0:Int))=false]):=by kernel_rfl
theorem XK (k n m x:Nat) (cs ds LB:List PV) (i j a b c d:Int):ak MD t5 k 96 0 ⟨[(0, .pv (.sl 1 n cs)),(3, .pv (.sl 1 m ds)),(4, .pv (iv i))],[],[(.s 3,1)],[]⟩ [.c true, .a 19 [ax x], .i 22 a, .a 25 [ax x], .i 28 b, .a 31 [ax x], .i 34 c, .a 37 [ax x], .i 39 d, .p (m+4) LB, .i 15 j]=
 some ((Xt.normal,St.mk [(0,AV.pv (PV.sl 1 n cs)),(3,AV.pv (PV.sl 1 (m+(4:Nat)) LB)),(4,AV.pv (PV.lit (Value.int IntKind.i64 j)))] [] [(Pl.s 3,1)] []),[],[decide (i≥(0:Int))=true,az cs 1 i n [PV.lit (Value.int IntKind.u32 (↑x:Int))],false=false,IntKind.u8.wrap ((↑x:Int).fdiv ((2:Int)^min (Int.toNat (24:Int)) IntKind.u32.bits))=a,az cs 1 i n [PV.lit (Value.int IntKind.u32 (↑x:Int))],false=false,IntKind.u8.wrap ((↑x:Int).fdiv ((2:Int)^min (Int.toNat (16:Int)) IntKind.u32.bits))=b,az cs 1 i n [PV.lit (Value.int IntKind.u32 (↑x:Int))],false=false,IntKind.u8.wrap ((↑x:Int).fdiv ((2:Int)^min (Int.toNat (8:Int)) IntKind.u32.bits))=c,az cs 1 i n [PV.lit (Value.int IntKind.u32 (↑x:Int))],IntKind.u8.wrap (↑x:Int)=d,gA m 4 ds [PV.lit (Value.int IntKind.u8 a),PV.lit (Value.int IntKind.u8 b),PV.lit (Value.int IntKind.u8 c),PV.lit (Value.int IntKind.u8 d)] 1 1 (m+(4:Nat)) LB,IntKind.i64.wrap (i - (1:Int))=j]):=by kernel_rfl
theorem ZH (k n:Nat) (cs:List PV) (s:ByteArray):ay MD t6 k 83 [.sl 1 n cs,bv false] [.r (one (sv s))]=
 some (RV.mk (PV.ag [PV.lit (Value.bool false),PV.lit (Value.string s)]) none,[aa t6 96 [PV.sl 1 n cs] (RV.mk (PV.lit (Value.string s)) none)]):=by kernel_rfl
theorem Rr (k n:Nat) (cs:List PV) (s:ByteArray) (b:Bool):ay MD t6 k 83 [.sl 1 n cs,bv true] [.r (one (sv s)), .c b]=
 some (RV.mk (PV.ag [PV.lit (Value.bool b),PV.lit (Value.string s)]) none,[aa t6 96 [PV.sl 1 n cs] (RV.mk (PV.lit (Value.string s)) none),(!s.toList==(ByteArray.mk #[]).toList)=b]):=by kernel_rfl
def BL (x:Nat):List Nat:=[x / 2^24%256,x / 2^16%256,x / 2^8%256,x%256]
def fK:List Nat→List Nat
 |[]=>[]
 |x::l=>fK l++BL x
theorem AG:∀l,(fK l).length=4* l.length
 |[]=>rfl
 |x::l=>by simp only [fK,List.length_append,AG l,BL,List.length_cons,List.length_nil];omega
theorem AH:∀{l:List Nat},bB (4294967296:Nat) l→val 256 (fK l).reverse=val (4294967296:Nat) l
 |[],_=>rfl
 |x::l,h=>by
  have hx:=h.head
  simp only [fK,List.reverse_append,BL,List.reverse_cons,List.reverse_nil,List.nil_append,List.cons_append,val]
  rw [AH h.tail]
  omega
theorem AF:∀{l:List Nat},bB 256 (fK l)
 |[]=>by simp [fK,bB]
 |x::l=>by
  apply bB.app AF
  intro y hy
  simp [BL] at hy
  omega
def tv (l:List Nat):List PV:=l.map bt
theorem J1 (l:List Nat):(tv l).length=l.length:=by simp [tv]
theorem om:∀(l:List Nat),bytesOf (tv l)=some (l.map fun x=>UInt8.ofNat x)
 |[]=>rfl
 |x::l=>by
  have:=om l
  simp only [tv,List.map_cons,bt,bytesOf] at this ⊢
  rw [this];simp
theorem EC {l:List Nat} (h:bB 256 l):aY ⟨(l.map fun x=>UInt8.ofNat x).toArray⟩=l.reverse:=by
 simp only [aY,List.map_map]
 congr 1
 have:∀(l:List Nat),bB 256 l→List.map ((fun x=>x.toNat) ∘ fun x=>UInt8.ofNat x) l=l:=by
  intro l
  induction l with
  |nil=>intro _;rfl
  |cons x l ih=>
   intro h
   rw [List.map_cons,ih h.tail]
   congr 1
   show (UInt8.ofNat x).toNat=x
   rw [UInt8.toNat_ofNat',Nat.mod_eq_of_lt h.head]
 exact this l h
theorem w8 (a:Nat):IntKind.u8.wrap (a:Int)=((a%256:Nat):Int):=by
 unfold IntKind.wrap IntKind.bits IntKind.signed
 simp only
 have e1:(2:Int)^8=256:=by decide
 rw [e1]
 simp
theorem kg (a b:Nat):(a:Int).fdiv (b:Int)=((a / b:Nat):Int):=by
 rw [Int.fdiv_eq_ediv_of_nonneg _ (by omega)];rfl
theorem N3 (x k:Nat) (hk:k≤32):IntKind.u8.wrap ((x:Int).fdiv ((2:Int)^min (Int.toNat (k:Int)) IntKind.u32.bits))=((x / 2^k%256:Nat):Int):=by
 have e:min (Int.toNat (k:Int)) IntKind.u32.bits=k:=by
  rw [Int.toNat_natCast];show min k 32=k;omega
 rw [e]
 have e2:(2:Int)^k=((2^k:Nat):Int):=by simp
 rw [e2,kg,w8]
theorem Ap (k:Nat) (l:List Nat) (hl:bB (4294967296:Nat) l) (hs:l.length<2^40):∀j,j≤l.length→aR (aI MD t5 k 96 0) (j+1) ⟨[(0, .pv (nat l)),(3, .pv (.sl 1 (fK (l.drop j)).length (tv (fK (l.drop j))))),(4, .pv (iv ((j:Int) - 1)))],[],[(.s 3,1)],[]⟩=some (.exit 0,⟨[(0, .pv (nat l)),(3, .pv (.sl 1 (fK l).length (tv (fK l)))),(4, .pv (iv (-1))),(13, .pv (bv false))],[],[(.s 3,1)],[]⟩)
 |0,_=>aF (af (XJ k _ _ _ _ _) ⟨by decide,trivial⟩) (by simp)
 |j+1,hj=>by
  obtain ⟨x,hx⟩:=get_some (l:=l) (i:=j) (by omega)
  have hi:(((j+1:Nat):Int) - 1)=(j:Int):=by omega
  rw [hi]
  have hd:l.drop j=x::l.drop (j+1):=by
   have hj:=gK hx
   rw [List.drop_eq_getElem_cons hj]
   rw [List.getElem?_eq_getElem hj] at hx
   simp only [Option.some.injEq] at hx
   rw [hx]
  have ho:fK (l.drop j)=fK (l.drop (j+1))++BL x:=by rw [hd,fK]
  have hlen:(fK (l.drop (j+1))).length+4=(fK (l.drop j)).length:=by rw [ho,List.length_append];rfl
  have hroom:(2:Nat)^43≤room:=by decide
  have hle:(fK (l.drop j)).length≤4* l.length:=by rw [AG,List.length_drop];omega
  have r:az (us l) 1 (j:Int) l.length [ax x]:=eS hx rfl
  have ih:=Ap k l hl hs j (by omega)
  rw [←hlen] at ih
  refine aW (af (XK k _ _ x _ _ (tv (fK (l.drop j))) _ ((j:Int) - 1) ((x / 2^24%256:Nat):Int) ((x / 2^16%256:Nat):Int) ((x / 2^8%256:Nat):Int) ((x%256:Nat):Int)) ⟨by simp,r,rfl,N3 x 24 (by omega),r,rfl,N3 x 16 (by omega),r,rfl,N3 x 8 (by omega),r,w8 x,⟨⟨rfl, ?_⟩,⟨by omega,by omega⟩,rfl,by rw [J1];omega⟩,by rw [wrap64]<;>omega,trivial⟩) ih
  rw [ho];simp [tv,BL,bt]
theorem OE (s:ByteArray):Rn [sv s,sv zs]=some (one (sv (aH (bR s)))):=
 bl (enc:=fun s:ByteArray=>[sv s, .lit (.string zs)]) (fun a b e=>by simp only [sv,List.cons.injEq,PV.lit.injEq,Value.string.injEq] at e;rw [e.1]) trivial
theorem Pt:aP MD.P t5:=aO (au (aE fun s _=>BG s) aL)
theorem No (l:List Nat) (hs:l.length<2^40) (hl:bB (4294967296:Nat) l):aA P0 96 [nat l] (one (sv (aH (val (4294967296:Nat) l)))):=by
 have iP:=Ap (l.length+1) l hl hs l.length (Nat.le_refl _)
 rw [List.drop_length] at iP
 have hw:IntKind.i64.wrap ((l.length:Int) - 1)=(l.length:Int) - 1:=by rw [wrap64]<;>omega
 have hroom:(2:Int)^43≤(room:Int):=by decide
 have hb:MD.P.bytesOf 5=1:=by kernel_rfl
 have hv:bR ⟨((fK l).map fun x=>UInt8.ofNat x).toArray⟩=val (4294967296:Nat) l:=by
  rw [bR,EC AF,AH hl]
 have ht:=OE ⟨((fK l).map fun x=>UInt8.ofNat x).toArray⟩
 rw [hv] at ht
 refine ai ah Pt (by rfl) (mg (l.length+1) _ (fK l).length _ (tv (fK l)) ⟨((fK l).map fun x=>UInt8.ofNat x).toArray⟩ _) ⟨?_,⟨by omega,by omega,by rw [hb];omega,by omega⟩,rfl,by rw [hw];exact iP, ?_,ht,trivial⟩
 · exact bn (by omega) (by omega)
 · show (bytesOf _).map _=_
   rw [om];rfl
theorem w9 {l:List Nat} (h:l.length<2^40) (hd:bB (4294967296:Nat) l):Nn [nat l]=some (one (sv (aH (val (4294967296:Nat) l)))):=
 bl (enc:=fun l=>[nat l]) (fun a b e=>by have:=iu (List.cons.inj e).1;subst this;rfl) ⟨h,hd⟩
theorem Eg:aP MD.P t6:=aO (au (aE fun l h=>No l h.1 h.2) aL)
def zc (z:Int):List PV:=[bv (decide (z<0)),sv (aH z.natAbs)]
theorem HX {n:Nat} (h:n=0):((aH n).toList==(ByteArray.mk #[]).toList)=true:=by subst h;rw [ByteArray.toList_eq,ByteArray.toList_eq];rfl
theorem Kx {n:Nat} (h:n≠0):((aH n).toList==(ByteArray.mk #[]).toList)=false:=by
 rw [ByteArray.toList_eq,ByteArray.toList_eq]
 cases hl:(aH n).data.toList with
 |nil=>
  have:=dJ n
  simp only [aY,hl,List.map_nil,List.reverse_nil] at this
  have hv:=ct (b:=256) (by decide) n
  rw [←this] at hv
  exact absurd hv.symm h
 |cons c t=>rfl
theorem C1 (l:List Nat) (hs:l.length<2^40) (hl:bB (4294967296:Nat) l) (b:Bool):aA P0 83 [nat l,bv b] (one (.ag (zc (if b then -(val (4294967296:Nat) l:Int) else (val (4294967296:Nat) l:Int))))):=by
 cases b with
 |false=>
  have:=ai ah Eg (by rfl) (ZH 1 l.length (us l) (aH (val (4294967296:Nat) l))) ⟨w9 hs hl,trivial⟩
  have e:zc (if false then -(val (4294967296:Nat) l:Int) else (val (4294967296:Nat) l:Int))=[.lit (.bool false), .lit (.string (aH (val (4294967296:Nat) l)))]:=by simp [zc,bv,sv]
  rw [e]
  exact this
 |true=>
  by_cases h:val (4294967296:Nat) l=0
  · have:=ai ah Eg (by rfl) (Rr 1 l.length (us l) (aH (val (4294967296:Nat) l)) false) ⟨w9 hs hl,by rw [HX h];rfl,trivial⟩
    have e:zc (if true then -(val (4294967296:Nat) l:Int) else (val (4294967296:Nat) l:Int))=[.lit (.bool false), .lit (.string (aH (val (4294967296:Nat) l)))]:=by simp [zc,bv,sv,h]
    rw [e]
    exact this
  · have:=ai ah Eg (by rfl) (Rr 1 l.length (us l) (aH (val (4294967296:Nat) l)) true) ⟨w9 hs hl,by rw [Kx h];rfl,trivial⟩
    have e:zc (if true then -(val (4294967296:Nat) l:Int) else (val (4294967296:Nat) l:Int))=[.lit (.bool true), .lit (.string (aH (val (4294967296:Nat) l)))]:=by simp [zc,bv,sv];omega
    rw [e]
    exact this
end Go.Proofs.YtibbgjafjhcemaaDoor.Cul
namespace Go.Proofs.YtibbgjafjhcemaaDoor.Cul
open Go Go.RowKit
noncomputable def wC:Cl:=bQ []
theorem dv (k a b d:Nat) (w q r:Int):ay MD wC k 116 [ax a,ax b,ax d] [.c true, .c false, .i 18 a, .i 19 (2^32* a:Nat), .i 21 b, .i 22 w, .i 25 d, .i 26 q, .i 27 q, .i 30 d, .i 31 r, .i 32 r]=
 some (RV.mk (PV.an [PV.lit (Value.int IntKind.u32 q),PV.lit (Value.int IntKind.u32 r)]) none,[((↑d:Int) !=(0:Int))=true,decide ((↑d:Int)≤(↑a:Int))=false,IntKind.u64.wrap (↑a:Int)=(↑a:Int),IntKind.u64.wrap ((↑a:Int)* (2:Int)^min (Int.toNat (32:Int)) IntKind.u64.bits)=(↑((2:Nat)^(32:Nat)* a):Int),false=false,IntKind.u64.wrap (↑b:Int)=(↑b:Int),IntKind.u64.wrap (↑(BitVec.ofInt IntKind.u64.bits (↑((2:Nat)^(32:Nat)* a):Int)|||BitVec.ofInt IntKind.u64.bits (↑b:Int)).toNat:Int)=w,IntKind.u64.wrap (↑d:Int)=(↑d:Int),IntKind.u64.wrap (w.tdiv (↑d:Int))=q,decide ((↑d:Int)=(0:Int))=false,IntKind.u32.wrap q=q,IntKind.u64.wrap (↑d:Int)=(↑d:Int),w.tmod (↑d:Int)=r,decide ((↑d:Int)=(0:Int))=false,IntKind.u32.wrap r=r]):=by kernel_rfl
theorem ad (k a b d:Nat) (x y s c:Int):ay MD wC k 111 [ax a,ax b,ax d] [.i 10 a, .i 12 b, .i 13 x, .i 15 d, .i 16 y, .i 18 s, .i 20 c, .i 21 c]=
 some (RV.mk (PV.an [PV.lit (Value.int IntKind.u32 s),PV.lit (Value.int IntKind.u32 c)]) none,[IntKind.u64.wrap (↑a:Int)=(↑a:Int),IntKind.u64.wrap (↑b:Int)=(↑b:Int),IntKind.u64.wrap ((↑a:Int)+(↑b:Int))=x,IntKind.u64.wrap (↑d:Int)=(↑d:Int),IntKind.u64.wrap (x+(↑d:Int))=y,IntKind.u32.wrap y=s,y.fdiv ((2:Int)^min (Int.toNat (32:Int)) IntKind.u64.bits)=c,false=false,IntKind.u32.wrap c=c]):=by kernel_rfl
theorem sb (k a b d:Nat) (x y p q:Int):ay MD wC k 112 [ax a,ax b,ax d] [.i 10 x, .i 12 y, .i 24 q]=
 some (RV.mk (PV.an [PV.lit (Value.int IntKind.u32 y),PV.lit (Value.int IntKind.u32 q)]) none,[IntKind.u32.wrap ((↑a:Int) - (↑b:Int))=x,IntKind.u32.wrap (x - (↑d:Int))=y,(IntKind.u32.wrap (↑(BitVec.ofInt IntKind.u32.bits (IntKind.u32.wrap (↑(BitVec.ofInt IntKind.u32.bits (IntKind.u32.wrap (↑(BitVec.ofInt IntKind.u32.bits (if IntKind.u32.signed=true then (-1:Int) else IntKind.u32.max)^^^BitVec.ofInt IntKind.u32.bits (↑a:Int)).toNat:Int))&&&BitVec.ofInt IntKind.u32.bits (↑b:Int)).toNat:Int))|||BitVec.ofInt IntKind.u32.bits (IntKind.u32.wrap (↑(BitVec.ofInt IntKind.u32.bits (IntKind.u32.wrap (↑(BitVec.ofInt IntKind.u32.bits (if IntKind.u32.signed=true then (-1:Int) else IntKind.u32.max)^^^BitVec.ofInt IntKind.u32.bits (IntKind.u32.wrap (↑(BitVec.ofInt IntKind.u32.bits (↑a:Int)^^^BitVec.ofInt IntKind.u32.bits (↑b:Int)).toNat:Int))).toNat:Int))&&&BitVec.ofInt IntKind.u32.bits y).toNat:Int))).toNat:Int)).fdiv ((2:Int)^min (Int.toNat (31:Int)) IntKind.u32.bits)=q,false=false]):=by kernel_rfl
theorem ml (k a b:Nat) (x y z:Int):ay MD wC k 122 [ax a,ax b] [.i 8 a, .i 10 b, .i 11 x, .i 13 y, .i 14 y, .i 16 z]=
 some (RV.mk (PV.an [PV.lit (Value.int IntKind.u32 y),PV.lit (Value.int IntKind.u32 z)]) none,[IntKind.u64.wrap (↑a:Int)=(↑a:Int),IntKind.u64.wrap (↑b:Int)=(↑b:Int),IntKind.u64.wrap ((↑a:Int)* (↑b:Int))=x,x.fdiv ((2:Int)^min (Int.toNat (32:Int)) IntKind.u64.bits)=y,false=false,IntKind.u32.wrap y=y,IntKind.u32.wrap x=z]):=by kernel_rfl
def nt:ByteArray:=(ByteArray.mk (([(0:UInt8),(1:UInt8),(2:UInt8),(2:UInt8),(3:UInt8),(3:UInt8),(3:UInt8),(3:UInt8),(4:UInt8),(4:UInt8),(4:UInt8),(4:UInt8),(4:UInt8),(4:UInt8),(4:UInt8),(4:UInt8),(5:UInt8),(5:UInt8),(5:UInt8),(5:UInt8),(5:UInt8),(5:UInt8),(5:UInt8),(5:UInt8),(5:UInt8),(5:UInt8),(5:UInt8),(5:UInt8),(5:UInt8),(5:UInt8),(5:UInt8),(5:UInt8),(6:UInt8),(6:UInt8),(6:UInt8),(6:UInt8),(6:UInt8),(6:UInt8),(6:UInt8),(6:UInt8),(6:UInt8),(6:UInt8),(6:UInt8),(6:UInt8),(6:UInt8),(6:UInt8),(6:UInt8),(6:UInt8),(6:UInt8),(6:UInt8),(6:UInt8),(6:UInt8),(6:UInt8),(6:UInt8),(6:UInt8),(6:UInt8),(6:UInt8),(6:UInt8),(6:UInt8),(6:UInt8),(6:UInt8),(6:UInt8),(6:UInt8),(6:UInt8)].append [(7:UInt8),(7:UInt8),(7:UInt8),(7:UInt8),(7:UInt8),(7:UInt8),(7:UInt8),(7:UInt8),(7:UInt8),(7:UInt8),(7:UInt8),(7:UInt8),(7:UInt8),(7:UInt8),(7:UInt8),(7:UInt8),(7:UInt8),(7:UInt8),(7:UInt8),(7:UInt8),(7:UInt8),(7:UInt8),(7:UInt8),(7:UInt8),(7:UInt8),(7:UInt8),(7:UInt8),(7:UInt8),(7:UInt8),(7:UInt8),(7:UInt8),(7:UInt8),(7:UInt8),(7:UInt8),(7:UInt8),(7:UInt8),(7:UInt8),(7:UInt8),(7:UInt8),(7:UInt8),(7:UInt8),(7:UInt8),(7:UInt8),(7:UInt8),(7:UInt8),(7:UInt8),(7:UInt8),(7:UInt8),(7:UInt8),(7:UInt8),(7:UInt8),(7:UInt8),(7:UInt8),(7:UInt8),(7:UInt8),(7:UInt8),(7:UInt8),(7:UInt8),(7:UInt8),(7:UInt8),(7:UInt8),(7:UInt8),(7:UInt8),(7:UInt8)]).append ([(8:UInt8),(8:UInt8),(8:UInt8),(8:UInt8),(8:UInt8),(8:UInt8),(8:UInt8),(8:UInt8),(8:UInt8),(8:UInt8),(8:UInt8),(8:UInt8),(8:UInt8),(8:UInt8),(8:UInt8),(8:UInt8),(8:UInt8),(8:UInt8),(8:UInt8),(8:UInt8),(8:UInt8),(8:UInt8),(8:UInt8),(8:UInt8),(8:UInt8),(8:UInt8),(8:UInt8),(8:UInt8),(8:UInt8),(8:UInt8),(8:UInt8),(8:UInt8),(8:UInt8),(8:UInt8),(8:UInt8),(8:UInt8),(8:UInt8),(8:UInt8),(8:UInt8),(8:UInt8),(8:UInt8),(8:UInt8),(8:UInt8),(8:UInt8),(8:UInt8),(8:UInt8),(8:UInt8),(8:UInt8),(8:UInt8),(8:UInt8),(8:UInt8),(8:UInt8),(8:UInt8),(8:UInt8),(8:UInt8),(8:UInt8),(8:UInt8),(8:UInt8),(8:UInt8),(8:UInt8),(8:UInt8),(8:UInt8),(8:UInt8),(8:UInt8)].append [(8:UInt8),(8:UInt8),(8:UInt8),(8:UInt8),(8:UInt8),(8:UInt8),(8:UInt8),(8:UInt8),(8:UInt8),(8:UInt8),(8:UInt8),(8:UInt8),(8:UInt8),(8:UInt8),(8:UInt8),(8:UInt8),(8:UInt8),(8:UInt8),(8:UInt8),(8:UInt8),(8:UInt8),(8:UInt8),(8:UInt8),(8:UInt8),(8:UInt8),(8:UInt8),(8:UInt8),(8:UInt8),(8:UInt8),(8:UInt8),(8:UInt8),(8:UInt8),(8:UInt8),(8:UInt8),(8:UInt8),(8:UInt8),(8:UInt8),(8:UInt8),(8:UInt8),(8:UInt8),(8:UInt8),(8:UInt8),(8:UInt8),(8:UInt8),(8:UInt8),(8:UInt8),(8:UInt8),(8:UInt8),(8:UInt8),(8:UInt8),(8:UInt8),(8:UInt8),(8:UInt8),(8:UInt8),(8:UInt8),(8:UInt8),(8:UInt8),(8:UInt8),(8:UInt8),(8:UInt8),(8:UInt8),(8:UInt8),(8:UInt8),(8:UInt8)])).toArray)
theorem Xz (k a:Nat) (x y b z w:Int):ay MD wC k 117 [ax a] [.c true, .i 6 x, .c true, .i 9 y, .i 15 z, .i 16 b, .i 17 b, .i 18 w]=
 some (RV.mk (PV.lit (Value.int IntKind.i64 w)) none,[decide ((↑a:Int)≥(65536:Int))=true,(↑a:Int).fdiv ((2:Int)^min (Int.toNat (16:Int)) IntKind.u32.bits)=x,false=false,decide (x≥(256:Int))=true,x=y,false=false,IntKind.u8.wrap (y.fdiv ((2:Int)^min (Int.toNat (8:Int)) IntKind.u32.bits))=z,fu nt z b,IntKind.i64.wrap b=b,IntKind.i64.wrap (IntKind.i64.wrap ((16:Int)+(8:Int))+b)=w]):=by kernel_rfl
theorem XA (k a:Nat) (x y b z w:Int):ay MD wC k 117 [ax a] [.c true, .i 6 x, .c false, .i 15 z, .i 16 b, .i 17 b, .i 18 w]=
 some (RV.mk (PV.lit (Value.int IntKind.i64 w)) none,[decide ((↑a:Int)≥(65536:Int))=true,(↑a:Int).fdiv ((2:Int)^min (Int.toNat (16:Int)) IntKind.u32.bits)=x,false=false,decide (x≥(256:Int))=false,IntKind.u8.wrap x=z,fu nt z b,IntKind.i64.wrap b=b,IntKind.i64.wrap ((16:Int)+b)=w]):=by kernel_rfl
theorem XB (k a:Nat) (x y b z w:Int):ay MD wC k 117 [ax a] [.c false, .c true, .i 9 y, .i 15 z, .i 16 b, .i 17 b, .i 18 w]=
 some (RV.mk (PV.lit (Value.int IntKind.i64 w)) none,[decide ((↑a:Int)≥(65536:Int))=false,decide ((↑a:Int)≥(256:Int))=true,(↑a:Int)=y,false=false,IntKind.u8.wrap (y.fdiv ((2:Int)^min (Int.toNat (8:Int)) IntKind.u32.bits))=z,fu nt z b,IntKind.i64.wrap b=b,IntKind.i64.wrap (IntKind.i64.wrap ((0:Int)+(8:Int))+b)=w]):=by kernel_rfl
theorem XC (k a:Nat) (x y b z w:Int):ay MD wC k 117 [ax a] [.c false, .c false, .i 15 z, .i 16 b, .i 17 b, .i 18 w]=
 some (RV.mk (PV.lit (Value.int IntKind.i64 w)) none,[decide ((↑a:Int)≥(65536:Int))=false,decide ((↑a:Int)≥(256:Int))=false,IntKind.u8.wrap (↑a:Int)=z,fu nt z b,IntKind.i64.wrap b=b,IntKind.i64.wrap ((0:Int)+b)=w]):=by kernel_rfl
theorem qw:aP MD.P wC:=aO aL
def eK (a b:Nat):PV:= .an [ax a,ax b]
theorem vL:(2:Int)^min (Int.toNat (32:Int)) IntKind.u64.bits=((4294967296:Nat):Int):=by decide
theorem Bi (a:Nat):IntKind.u32.wrap (a:Int)=((a%4294967296:Nat):Int):=by
 unfold IntKind.wrap IntKind.bits IntKind.signed
 simp only
 have e1:(2:Int)^32=4294967296:=by decide
 rw [e1];simp
theorem HB (a b d:Nat) (hd:d<(4294967296:Nat)) (ha:a<d) (hb:b<(4294967296:Nat)):aA P0 116 [ax a,ax b,ax d] (one (eK ((a* (4294967296:Nat)+b) / d) ((a* (4294967296:Nat)+b)%d))):=by
 have hq:(a* (4294967296:Nat)+b) / d<(4294967296:Nat):=(Nat.div_lt_iff_lt_mul (by omega)).2 (by
  have:(a+1)* (4294967296:Nat)≤d* (4294967296:Nat):=Nat.mul_le_mul_right _ ha
  rw [Nat.mul_comm (4294967296:Nat) d];omega)
 have hr:(a* (4294967296:Nat)+b)%d<d:=Nat.mod_lt _ (by omega)
 refine ai ah qw (by rfl) (dv 1 a b d ((a* (4294967296:Nat)+b:Nat):Int) (((a* (4294967296:Nat)+b) / d:Nat):Int) (((a* (4294967296:Nat)+b)%d:Nat):Int)) ⟨by simp;omega,by simp;omega,bE rfl (by omega), ?_,rfl,bE rfl (by omega), ?_,bE rfl (by omega), ?_,by simp;omega,jc rfl hq,bE rfl (by omega),fy _ _,by simp;omega,jc rfl (by omega),trivial⟩
 · exact bE (by rw [vL];omega) (by omega)
 · exact nH (r:=32) (by omega) (by omega) _ (by omega)
 · exact bE (ia _ _) (by omega)
theorem Hs (a b c:Nat) (ha:a<(4294967296:Nat)) (hb:b<(4294967296:Nat)) (hc:c<(4294967296:Nat)):aA P0 111 [ax a,ax b,ax c] (one (eK ((a+b+c)%(4294967296:Nat)) ((a+b+c) / (4294967296:Nat)))):=by
 refine ai ah qw (by rfl) (ad 1 a b c ((a+b:Nat):Int) ((a+b+c:Nat):Int) (((a+b+c)%(4294967296:Nat):Nat):Int) (((a+b+c) / (4294967296:Nat):Nat):Int)) ⟨bE rfl (by omega),bE rfl (by omega),bE (by omega) (by omega),bE rfl (by omega),bE (by omega) (by omega),Bi _, ?_,rfl,jc rfl (by omega),trivial⟩
 rw [vL];exact kg _ _
theorem ZC (X:BitVec IntKind.u32.bits):IntKind.u32.wrap (X.toNat:Int)=(X.toNat:Int):=jc rfl X.isLt
theorem XU (X:BitVec IntKind.u32.bits):BitVec.ofInt IntKind.u32.bits (X.toNat:Int)=X:=by
 rw [BitVec.ofInt_natCast,BitVec.ofNat_toNat,BitVec.setWidth_eq]
theorem NA:BitVec.ofInt IntKind.u32.bits (if IntKind.u32.signed=true then (-1:Int) else IntKind.u32.max)=BitVec.allOnes 32:=by rfl
theorem Hu (a b d:Nat) (ha:a<(4294967296:Nat)) (hb:b<(4294967296:Nat)) (hd:d≤1):((((~~~(BitVec.ofNat 32 a))&&&BitVec.ofNat 32 b)|||(~~~(BitVec.ofNat 32 a^^^BitVec.ofNat 32 b)&&&BitVec.ofNat 32 ((a+(4294967296:Nat)+(4294967296:Nat) - b - d)%(4294967296:Nat)))):BitVec 32).toNat / 2^31=if a<b+d then 1 else 0:=by
 have key:∀X:BitVec 32,X.toNat / 2^31=if X.msb=true then 1 else 0:=by
  intro X
  rw [BitVec.msb_eq_decide]
  have:=X.isLt
  simp only [decide_eq_true_eq]
  split<;>omega
 rw [key]
 simp only [BitVec.msb_or,BitVec.msb_and,BitVec.msb_not,BitVec.msb_xor]
 have m:∀x,x<(4294967296:Nat)→(BitVec.ofNat 32 x).msb=decide (2^31≤x):=by
  intro x hx
  rw [BitVec.msb_eq_decide,BitVec.toNat_ofNat,Nat.mod_eq_of_lt (by omega)]
 obtain ⟨y,hy⟩:∃y,y=(a+(4294967296:Nat)+(4294967296:Nat) - b - d)%(4294967296:Nat):=⟨_,rfl⟩
 rw [←hy]
 rw [m a ha,m b hb,m y (by omega)]
 have Xm:(a<b+d∧y+b+d=a+(4294967296:Nat))∨(b+d≤a∧y+b+d=a):=by
  rw [Nat.sub_sub] at hy
  omega
 have hy3:y<(4294967296:Nat):=by rw [hy];exact Nat.mod_lt _ (by omega)
 clear hy
 by_cases h4:a<b+d<;>by_cases h1:2^31≤a<;>by_cases h2:2^31≤b<;>by_cases h3:2^31≤y<;>simp only [h1,h2,h3,h4,decide_true,decide_false,Bool.not_true,Bool.not_false,Bool.true_and,Bool.false_and,Bool.and_true,Bool.and_false,Bool.or_true,Bool.or_false,Bool.true_or,Bool.false_or,Bool.xor_true,Bool.xor_false,Bool.true_xor,Bool.false_xor,if_true,if_false,Bool.false_eq_true,eq_self,show decide (0<32)=true from rfl]<;>first|done|omega|(trace_state;omega)
theorem IK (a b c:Nat) (ha:a<(4294967296:Nat)) (hb:b<(4294967296:Nat)) (hc:c≤1):aA P0 112 [ax a,ax b,ax c] (one (eK ((a+(4294967296:Nat)+(4294967296:Nat) - b - c)%(4294967296:Nat)) (if a<b+c then 1 else 0))):=by
 have wm:∀z:Int,∀y:Nat,z=(y:Int) - 8589934592→IntKind.u32.wrap z=((y%(4294967296:Nat):Nat):Int):=by
  intro z y h
  subst h
  unfold IntKind.wrap IntKind.bits IntKind.signed
  simp only
  have e1:(2:Int)^32=4294967296:=by decide
  rw [e1]
  simp only [Bool.false_and,Bool.false_eq_true,if_false]
  omega
 have hn:∀x:Nat,BitVec.ofInt IntKind.u32.bits (x:Int)=BitVec.ofNat 32 x:=fun x=>BitVec.ofInt_natCast 32 x
 refine ai ah qw (by rfl) (sb 1 a b c (((a+(4294967296:Nat)+(4294967296:Nat) - b)%(4294967296:Nat):Nat):Int) (((a+(4294967296:Nat)+(4294967296:Nat) - b - c)%(4294967296:Nat):Nat):Int) 0 ((if a<b+c then 1 else 0:Nat):Int)) ⟨wm _ _ (by omega), ?_, ?_,rfl,trivial⟩
 · have:IntKind.u32.wrap ((((a+(4294967296:Nat)+(4294967296:Nat) - b)%(4294967296:Nat):Nat):Int) - (c:Int))=(((a+(4294967296:Nat)+(4294967296:Nat) - b)%(4294967296:Nat)+(4294967296:Nat)+(4294967296:Nat) - c)%(4294967296:Nat):Nat):=wm _ _ (by omega)
   rw [this];congr 1;omega
 · simp only [ZC,NA]
   simp only [XU]
   simp only [hn]
   have e:(2:Int)^min (Int.toNat (31:Int)) IntKind.u32.bits=((2^31:Nat):Int):=by decide
   rw [e,kg]
   have:=Hu a b c ha hb hc
   rw [←BitVec.allOnes_xor,←BitVec.allOnes_xor] at this
   rw [←this]
   rfl
theorem pR {a k:Nat} (h:0<a / 2^k):(dg 2 a).length=k+(dg 2 (a / 2^k)).length:=by
 induction k generalizing a with
 |zero=>simp
 |succ k ih=>
  have e:a / 2^(k+1)=a / 2 / 2^k:=by rw [Nat.pow_succ,Nat.mul_comm,Nat.div_div_eq_div_mul]
  rw [e] at h ⊢
  have h2:0<a / 2:=by
   rcases Nat.eq_zero_or_pos (a / 2) with h3|h3
   · rw [h3] at h;simp at h
   · exact h3
  rw [dK (by omega) (by omega),List.length_cons,ih h];omega
def Jp:List Nat:=(List.range 256).map fun b=>(dg 2 b).length
theorem Ko:nt.data.toList.map (·.toNat)=Jp:=by decide+kernel
theorem sQ {b:Nat} (h:b<256):fu nt (b:Int) (((dg 2 b).length:Nat):Int):=by
 have h1:(nt.data.toList.map (·.toNat))[b]? =some (dg 2 b).length:=by rw [Ko];simp [Jp,h]
 rw [List.getElem?_map,Option.map_eq_some_iff] at h1
 obtain ⟨c,hc,h2⟩:=h1
 have h3:nt[b]? =some c:=by
  have hb:b<nt.size:=gK hc
  rw [getElem?_pos nt b hb]
  have h4:b<nt.data.toList.length:=hb
  rw [List.getElem?_eq_getElem h4] at hc
  exact hc
 rw [←h2]
 exact mj h3
theorem zi {a:Nat} (h:a<(4294967296:Nat)):(dg 2 a).length≤32:=lT (by omega) (by omega)
theorem HV (a:Nat) (ha:a<(4294967296:Nat)):aA P0 117 [ax a] (one (iv ((dg 2 a).length:Nat))):=by
 have Q7:(2:Int)^min (Int.toNat (16:Int)) IntKind.u32.bits=((2^16:Nat):Int):=by decide
 have p8:(2:Int)^min (Int.toNat (8:Int)) IntKind.u32.bits=((2^8:Nat):Int):=by decide
 have hl:=zi ha
 by_cases h1:65536≤a
 · by_cases h2:256≤a / 2^16
   · have e:(dg 2 a).length=24+(dg 2 (a / 2^16 / 2^8)).length:=by
       have:=pR (a:=a) (k:=24) (by omega)
       rw [this,Nat.div_div_eq_div_mul]
     refine ai ah qw (by rfl) (Xz 1 a ((a / 2^16:Nat):Int) ((a / 2^16:Nat):Int) (((dg 2 (a / 2^16 / 2^8)).length:Nat):Int) ((a / 2^16 / 2^8:Nat):Int) _) ⟨by simp;omega,by rw [Q7,kg],rfl,by simp;omega,rfl,rfl, ?_,sQ (by omega),bn rfl (by omega), ?_,trivial⟩
     · rw [p8,kg,w8];congr 1;omega
     · rw [e]
       have:IntKind.i64.wrap ((16:Int)+(8:Int))=24:=by decide
       rw [this];exact bn (by omega) (by omega)
   · have e:(dg 2 a).length=16+(dg 2 (a / 2^16)).length:=pR (by omega)
     refine ai ah qw (by rfl) (XA 1 a ((a / 2^16:Nat):Int) 0 (((dg 2 (a / 2^16)).length:Nat):Int) ((a / 2^16:Nat):Int) _) ⟨by simp;omega,by rw [Q7,kg],rfl,by simp;omega, ?_,sQ (by omega),bn rfl (by omega), ?_,trivial⟩
     · rw [w8];congr 1;omega
     · rw [e];exact bn (by omega) (by omega)
 · by_cases h2:256≤a
   · have e:(dg 2 a).length=8+(dg 2 (a / 2^8)).length:=pR (by omega)
     refine ai ah qw (by rfl) (XB 1 a 0 (a:Int) (((dg 2 (a / 2^8)).length:Nat):Int) ((a / 2^8:Nat):Int) _) ⟨by simp;omega,by simp;omega,rfl,rfl, ?_,sQ (by omega),bn rfl (by omega), ?_,trivial⟩
     · rw [p8,kg,w8];congr 1;omega
     · rw [e]
       have:IntKind.i64.wrap ((0:Int)+(8:Int))=8:=by decide
       rw [this];exact bn (by omega) (by omega)
   · refine ai ah qw (by rfl) (XC 1 a 0 0 (((dg 2 a).length:Nat):Int) (a:Int) _) ⟨by simp;omega,by simp;omega, ?_,sQ (by omega),bn rfl (by omega), ?_,trivial⟩
     · rw [w8];congr 1;omega
     · exact bn (by omega) (by omega)
end Go.Proofs.YtibbgjafjhcemaaDoor.Cul
namespace Go.Proofs.YtibbgjafjhcemaaDoor.Cul
theorem j4 {b:Nat}:∀{l:List Nat} {i x:Nat},l[i]? =some x→∀y,val b (l.set i y)+b^i* x=val b l+b^i* y
 |[],i,x,h,y=>by simp at h
 |a::l,0,x,h,y=>by
  simp at h;subst h
  simp only [List.set_cons_zero,val,Nat.pow_zero,Nat.one_mul];omega
 |a::l,i+1,x,h,y=>by
  have ih:=j4 (b:=b) (l:=l) (i:=i) (x:=x) (by simpa using h) y
  simp only [List.set_cons_succ,val,Nat.pow_succ]
  have e:∀t,b^i* b* t=b* (b^i* t):=fun t=>by rw [Nat.mul_comm (b^i) b,Nat.mul_assoc]
  rw [e,e,Nat.add_assoc,←Nat.mul_add,ih,Nat.mul_add,Nat.add_assoc]
theorem kY {b:Nat} {l:List Nat} (h:bB b l) {y:Nat} (hy:y<b) (i:Nat):bB b (l.set i y):=by
 intro x hx
 rcases List.mem_or_eq_of_mem_set hx with h1|h1
 · exact h x h1
 · exact h1 ▸hy
def fd (b:Nat):Nat→Nat→List Nat
 |0,_=>[]
 |n+1,v=>v%b::fd b n (v / b)
theorem cn (b:Nat):∀n v,(fd b n v).length=n
 |0,_=>rfl
 |n+1,v=>by simp [fd,cn b n]
theorem ig {b:Nat} (hb:0<b):∀n v,bB b (fd b n v)
 |0,_=>by simp [fd,bB]
 |n+1,v=>by
  intro x hx
  simp only [fd,List.mem_cons] at hx
  rcases hx with rfl|hx
  · exact Nat.mod_lt _ hb
  · exact ig hb n _ x hx
theorem lY {b:Nat} (hb:0<b):∀n v,val b (fd b n v)=v%b^n
 |0,v=>by simp [fd,val,Nat.mod_one]
 |n+1,v=>by
  rw [fd,val,lY hb n,Nat.pow_succ,Nat.mul_comm (b^n) b,Nat.mod_mul]
theorem jA {b n v:Nat} (hb:0<b) {l:List Nat} (h:bB b l) (hl:l.length=n) (hv:val b l=v):l=fd b n v:=by
 have h1:=dc h
 rw [hl,hv] at h1
 exact val_inj h (ig hb n v) (by rw [cn,hl]) (by rw [lY hb,hv,Nat.mod_eq_of_lt h1])
theorem ij {b:Nat}:∀{n i v:Nat},i<n→(fd b n v)[i]? =some (v / b^i%b)
 |0,_,_,h=>by omega
 |n+1,0,v,_=>by simp [fd]
 |n+1,i+1,v,h=>by
  simp only [fd,List.getElem?_cons_succ]
  rw [ij (by omega),Nat.div_div_eq_div_mul,Nat.pow_succ,Nat.mul_comm b]
theorem wT {b:Nat} (hb:0<b) (n:Nat):fd b n 0=List.replicate n 0:=by
 symm
 apply jA hb
 · intro x hx;rw [List.mem_replicate] at hx;omega
 · simp
 · exact yA n
def sdiv (b d:Nat):List Nat→List Nat×Nat
 |[]=>([],0)
 |x::l=>(((sdiv b d l).2* b+x) / d::(sdiv b d l).1,((sdiv b d l).2* b+x)%d)
theorem nL (b d:Nat):∀l,(sdiv b d l).1.length=l.length
 |[]=>rfl
 |x::l=>by simp [sdiv,nL b d l]
theorem qt {b d:Nat} (hd:0<d):∀l,val b (sdiv b d l).1* d+(sdiv b d l).2=val b l∧(sdiv b d l).2<d
 |[]=>by simp [sdiv,val,hd]
 |x::l=>by
  obtain ⟨h1,h2⟩:=qt (b:=b) hd l
  refine ⟨?_,Nat.mod_lt _ hd⟩
  simp only [sdiv,val]
  have h3:=Nat.div_add_mod ((sdiv b d l).2* b+x) d
  rw [Nat.add_mul]
  have e:b* val b (sdiv b d l).1* d=b* (val b (sdiv b d l).1* d):=by rw [Nat.mul_assoc]
  have e2:b* val b l=b* (val b (sdiv b d l).1* d)+b* (sdiv b d l).2:=by rw [←h1,Nat.mul_add]
  rw [e,e2,Nat.mul_comm b (sdiv b d l).2]
  rw [Nat.mul_comm d] at h3
  omega
theorem AY {b d:Nat} (hb:0<b) (hd:0<d):∀{l},bB b l→bB b (sdiv b d l).1
 |[],_=>by simp [sdiv,bB]
 |x::l,h=>by
  have h2:=(qt (b:=b) hd l).2
  intro y hy
  simp only [sdiv,List.mem_cons] at hy
  rcases hy with rfl|hy
  · rw [Nat.div_lt_iff_lt_mul hd]
    have h3:((sdiv b d l).2+1)* b≤d* b:=Nat.mul_le_mul_right _ h2
    have h4:=h.head
    rw [Nat.add_mul] at h3
    rw [Nat.mul_comm b d]
    omega
  · exact AY hb hd h.tail y hy
end Go.Proofs.YtibbgjafjhcemaaDoor.Cul
namespace Go.Proofs.YtibbgjafjhcemaaDoor.Cul
open Go Go.RowKit
noncomputable def FP:List PV→Option RV:=cu (fun a:Nat=>a<(4294967296:Nat)) (fun a=>[ax a]) (fun a=>one (iv ((dg 2 a).length:Nat)))
noncomputable def EP:List PV→Option RV:=cu (fun x:Nat×Nat×Nat=>x.2.2<(4294967296:Nat)∧x.1<x.2.2∧x.2.1<(4294967296:Nat)) (fun x=>[ax x.1,ax x.2.1,ax x.2.2]) (fun x=>one (eK ((x.1* (4294967296:Nat)+x.2.1) / x.2.2) ((x.1* (4294967296:Nat)+x.2.1)%x.2.2)))
noncomputable def y8:List PV→Option RV:=cu (fun x:Nat×Nat×Nat=>x.1<(4294967296:Nat)∧x.2.1<(4294967296:Nat)∧x.2.2<(4294967296:Nat)) (fun x=>[ax x.1,ax x.2.1,ax x.2.2]) (fun x=>one (eK ((x.1+x.2.1+x.2.2)%(4294967296:Nat)) ((x.1+x.2.1+x.2.2) / (4294967296:Nat))))
noncomputable def wz:List PV→Option RV:=cu (fun x:Nat×Nat×Nat=>x.1<(4294967296:Nat)∧x.2.1<(4294967296:Nat)∧x.2.2≤1) (fun x=>[ax x.1,ax x.2.1,ax x.2.2]) (fun x=>one (eK ((x.1+(4294967296:Nat)+(4294967296:Nat) - x.2.1 - x.2.2)%(4294967296:Nat)) (if x.1<x.2.1+x.2.2 then 1 else 0)))
noncomputable def t7:Cl:=bQ [(117,FP)]
noncomputable def t8:Cl:=bQ [(116,EP),(95,oc)]
theorem lz (k a w:Nat) (v:Int):ay MD t7 k 107 [ax a] [.r (one (iv w)), .i 5 v]=
 some (RV.mk (PV.lit (Value.int IntKind.i64 v)) none,[aa t7 117 [PV.lit (Value.int IntKind.u32 (↑a:Int))] (RV.mk (PV.lit (Value.int IntKind.i64 (↑w:Int))) none),IntKind.i64.wrap ((32:Int) - (↑w:Int))=v]):=by kernel_rfl
theorem sm (k n d r:Nat) (cs ds es fs:List PV) (p:PV):ay MD t8 k 106 [.sl 1 n cs,ax d] [.c false, .f ds, .l (.exit 0) ⟨[(0, .pv (.sl 1 n cs)),(1, .pv (ax d)),(6, .bs 11 0 1 n),(7, .pv (ax r)),(8, .pv (iv (-1))),(16, .pv (bv false))],[(11,es)],[],[]⟩, .f fs, .r (one p)]=
 some (RV.mk (PV.an [p,PV.lit (Value.int IntKind.u32 (↑r:Int))]) none,[(0:Int)≤(↑n:Int)∧(↑n:Int)≤(↑n:Int)∧(↑n:Int)* (↑(MD.P.bytesOf (111:Nat)):Int)≤(↑room:Int)∧(↑n:Int)≤(↑room:Int),decide ((↑n:Int)=(0:Int))=false,iE [PV.lit (Value.int IntKind.u32 (0:Int))] n ds,aN MD t8 k (106:Nat) (0:Nat) (St.mk [(0,AV.pv (PV.sl 1 n cs)),(1,AV.pv (PV.lit (Value.int IntKind.u32 (↑d:Int)))),(6,AV.bs 11 0 1 n),(7,AV.pv (PV.lit (Value.int IntKind.u32 (0:Int)))),(8,AV.pv (PV.lit (Value.int IntKind.i64 (IntKind.i64.wrap ((↑n:Int) - (1:Int))))))] [(11,ds)] [] []) (Xt.exit 0) (St.mk [(0,AV.pv (PV.sl 1 n cs)),(1,AV.pv (PV.lit (Value.int IntKind.u32 (↑d:Int)))),(6,AV.bs 11 0 1 n),(7,AV.pv (PV.lit (Value.int IntKind.u32 (↑r:Int)))),(8,AV.pv (PV.lit (Value.int IntKind.i64 (-1:Int)))),(16,AV.pv (PV.lit (Value.bool false)))] [(11,es)] [] []),de es 0 (n* (1:Nat)) fs,aa t8 95 [PV.sl 1 n fs] (RV.mk p none)]):=by kernel_rfl
theorem YF (k n d r:Nat) (cs es:List PV) (i:Int):ak MD t8 k 106 0 ⟨[(0, .pv (.sl 1 n cs)),(1, .pv (ax d)),(6, .bs 11 0 1 n),(7, .pv (ax r)),(8, .pv (iv i))],[(11,es)],[],[]⟩ [.c false]=
 some ((Xt.exit 0,St.mk [(0,AV.pv (PV.sl 1 n cs)),(1,AV.pv (PV.lit (Value.int IntKind.u32 (↑d:Int)))),(6,AV.bs 11 0 1 n),(7,AV.pv (PV.lit (Value.int IntKind.u32 (↑r:Int)))),(8,AV.pv (PV.lit (Value.int IntKind.i64 i))),(16,AV.pv (PV.lit (Value.bool false)))] [(11,es)] [] []),[],[decide (i≥(0:Int))=false]):=by kernel_rfl
theorem YH (k n d r x q r2 i:Nat) (cs es es':List PV) (j:Int):ak MD t8 k 106 0 ⟨[(0, .pv (.sl 1 n cs)),(1, .pv (ax d)),(6, .bs 11 0 1 n),(7, .pv (ax r)),(8, .pv (iv i))],[(11,es)],[],[]⟩ [.c true, .a 25 [ax x], .r (one (.an [ax q,ax r2])), .j 31 i, .s es', .i 18 j]=
 some ((Xt.normal,St.mk [(0,AV.pv (PV.sl 1 n cs)),(1,AV.pv (PV.lit (Value.int IntKind.u32 (↑d:Int)))),(6,AV.bs 11 0 1 n),(7,AV.pv (PV.lit (Value.int IntKind.u32 (↑r2:Int)))),(8,AV.pv (PV.lit (Value.int IntKind.i64 j)))] [(11,es')] [] []),[],[decide ((↑i:Int)≥(0:Int))=true,az cs 1 (↑i:Int) n [PV.lit (Value.int IntKind.u32 (↑x:Int))],aa t8 116 [PV.lit (Value.int IntKind.u32 (↑r:Int)),PV.lit (Value.int IntKind.u32 (↑x:Int)),PV.lit (Value.int IntKind.u32 (↑d:Int))] (RV.mk (PV.an [PV.lit (Value.int IntKind.u32 (↑q:Int)),PV.lit (Value.int IntKind.u32 (↑r2:Int))]) none),aG (↑i:Int) n i,(0:Nat)+i* (1:Nat)+(ax q).cells.length≤es.length,ck es ((0:Nat)+i* (1:Nat)) [PV.lit (Value.int IntKind.u32 (↑q:Int))] es',IntKind.i64.wrap ((↑i:Int) - (1:Int))=j]):=by kernel_rfl
theorem sh (k n s:Nat) (cs ds es fs:List PV):ay MD t3 k 108 [.sl 1 n cs,iv s] [.i 10 (n+1:Nat), .c false, .f ds, .l (.exit 0) ⟨[(1, .pv (iv s)),(5, .bs 11 0 1 (n+1)),(12, .pv (.sl 1 n cs)),(13, .pv (iv n)),(14, .pv (iv n)),(15, .pv (bv false))],[(11,es)],[],[]⟩, .f fs]=
 some (RV.mk (PV.sl 1 (n+(1:Nat)) fs) (some 1),[IntKind.i64.wrap ((↑n:Int)+(1:Int))=(↑(n+(1:Nat)):Int),(0:Int)≤(↑(n+(1:Nat)):Int)∧(↑(n+(1:Nat)):Int)≤(↑(n+(1:Nat)):Int)∧(↑(n+(1:Nat)):Int)* (↑(MD.P.bytesOf (111:Nat)):Int)≤(↑room:Int)∧(↑(n+(1:Nat)):Int)≤(↑room:Int),decide ((↑(n+(1:Nat)):Int)=(0:Int))=false,iE [PV.lit (Value.int IntKind.u32 (0:Int))] (↑(n+(1:Nat)):Int).toNat ds,aN MD t3 k (108:Nat) (0:Nat) (St.mk [(1,AV.pv (PV.lit (Value.int IntKind.i64 (↑s:Int)))),(5,AV.bs 11 0 1 (↑(n+(1:Nat)):Int).toNat),(12,AV.pv (PV.sl 1 n cs)),(13,AV.pv (PV.lit (Value.int IntKind.i64 (↑n:Int)))),(14,AV.pv (PV.lit (Value.int IntKind.i64 (0:Int))))] [(11,ds)] [] []) (Xt.exit 0) (St.mk [(1,AV.pv (PV.lit (Value.int IntKind.i64 (↑s:Int)))),(5,AV.bs 11 0 1 (n+(1:Nat))),(12,AV.pv (PV.sl 1 n cs)),(13,AV.pv (PV.lit (Value.int IntKind.i64 (↑n:Int)))),(14,AV.pv (PV.lit (Value.int IntKind.i64 (↑n:Int)))),(15,AV.pv (PV.lit (Value.bool false)))] [(11,es)] [] []),de es 0 ((n+(1:Nat))* (1:Nat)) fs]):=by kernel_rfl
theorem YC (k n s i m:Nat) (cs es:List PV):ak MD t3 k 108 0 ⟨[(1, .pv (iv s)),(5, .bs 11 0 1 m),(12, .pv (.sl 1 n cs)),(13, .pv (iv n)),(14, .pv (iv i))],[(11,es)],[],[]⟩ [.c false]=
 some ((Xt.exit 0,St.mk [(1,AV.pv (PV.lit (Value.int IntKind.i64 (↑s:Int)))),(5,AV.bs 11 0 1 m),(12,AV.pv (PV.sl 1 n cs)),(13,AV.pv (PV.lit (Value.int IntKind.i64 (↑n:Int)))),(14,AV.pv (PV.lit (Value.int IntKind.i64 (↑i:Int)))),(15,AV.pv (PV.lit (Value.bool false)))] [(11,es)] [] []),[],[decide ((↑i:Int)<(↑n:Int))=false]):=by kernel_rfl
theorem YD (k n s i m x y c z w:Nat) (cs es es' gJ:List PV):ak MD t3 k 108 0 ⟨[(1, .pv (iv s)),(5, .bs 11 0 1 m),(12, .pv (.sl 1 n cs)),(13, .pv (iv n)),(14, .pv (iv i))],[(11,es)],[],[]⟩ [.c true, .a 17 [ax x], .j 21 i, .e 22 (ax c), .i 25 y, .i 26 z, .j 27 i, .s es', .i 30 (i+1:Nat), .i 32 x, .i 34 (x* 2^s:Nat), .i 35 w, .i 36 w, .j 37 (i+1), .s gJ, .i 38 (i+1:Nat)]=
 some ((Xt.normal,St.mk [(1,AV.pv (PV.lit (Value.int IntKind.i64 (↑s:Int)))),(5,AV.bs 11 0 1 m),(12,AV.pv (PV.sl 1 n cs)),(13,AV.pv (PV.lit (Value.int IntKind.i64 (↑n:Int)))),(14,AV.pv (PV.lit (Value.int IntKind.i64 (↑(i+(1:Nat)):Int))))] [(11,gJ)] [] []),[],[decide ((↑i:Int)<(↑n:Int))=true,az cs 1 (↑i:Int) n [PV.lit (Value.int IntKind.u32 (↑x:Int))],aG (↑i:Int) m i,Ld MD.P 111 es ((0:Nat)+i* (1:Nat)) (PV.lit (Value.int IntKind.u32 (↑c:Int))),IntKind.u32.wrap ((↑x:Int)* (2:Int)^min (↑s:Int).toNat IntKind.u32.bits)=(↑y:Int),decide ((↑s:Int)<(0:Int))=false,IntKind.u32.wrap (↑(BitVec.ofInt IntKind.u32.bits (↑c:Int)|||BitVec.ofInt IntKind.u32.bits (↑y:Int)).toNat:Int)=(↑z:Int),aG (↑i:Int) m i,(0:Nat)+i* (1:Nat)+(PV.lit (Value.int IntKind.u32 (↑z:Int))).cells.length≤es.length,ck es ((0:Nat)+i* (1:Nat)) [PV.lit (Value.int IntKind.u32 (↑z:Int))] es',IntKind.i64.wrap ((↑i:Int)+(1:Int))=(↑(i+(1:Nat)):Int),IntKind.u64.wrap (↑x:Int)=(↑x:Int),IntKind.u64.wrap ((↑x:Int)* (2:Int)^min (↑s:Int).toNat IntKind.u64.bits)=(↑(x* (2:Nat)^s):Int),decide ((↑s:Int)<(0:Int))=false,(↑(x* (2:Nat)^s):Int).fdiv ((2:Int)^min (Int.toNat (32:Int)) IntKind.u64.bits)=(↑w:Int),false=false,IntKind.u32.wrap (↑w:Int)=(↑w:Int),aG (↑(i+(1:Nat)):Int) m (i+(1:Nat)),(0:Nat)+(i+(1:Nat))* (1:Nat)+(PV.lit (Value.int IntKind.u32 (↑w:Int))).cells.length≤es'.length,ck es' ((0:Nat)+(i+(1:Nat))* (1:Nat)) [PV.lit (Value.int IntKind.u32 (↑w:Int))] gJ,IntKind.i64.wrap ((↑i:Int)+(1:Int))=(↑(i+(1:Nat)):Int)]):=by kernel_rfl
theorem mY {a b:Nat} (h:ax a=ax b):a=b:=by
 simp only [ax,PV.lit.injEq,Value.int.injEq,true_and] at h;omega
theorem FQ {a:Nat} (h:a<(4294967296:Nat)):FP [ax a]=some (one (iv ((dg 2 a).length:Nat))):=
 bl (enc:=fun a:Nat=>[ax a]) (fun a b e=>by rw [mY (List.cons.inj e).1]) h
theorem ua {a b:Nat×Nat×Nat} (e:[ax a.1,ax a.2.1,ax a.2.2]=[ax b.1,ax b.2.1,ax b.2.2]):a=b:=by
 simp only [List.cons.injEq,and_true] at e
 obtain ⟨a1,a2,a3⟩:=a;obtain ⟨b1,b2,b3⟩:=b
 simp only at e
 rw [mY e.1,mY e.2.1,mY e.2.2]
theorem ER {a b d:Nat} (hd:d<(4294967296:Nat)) (ha:a<d) (hb:b<(4294967296:Nat)):EP [ax a,ax b,ax d]=some (one (eK ((a* (4294967296:Nat)+b) / d) ((a* (4294967296:Nat)+b)%d))):=
 bl (a:=(a,b,d)) (enc:=fun x:Nat×Nat×Nat=>[ax x.1,ax x.2.1,ax x.2.2]) (fun a b e=>by rw [ua e]) ⟨hd,ha,hb⟩
theorem Eu {a b c:Nat} (ha:a<(4294967296:Nat)) (hb:b<(4294967296:Nat)) (hc:c<(4294967296:Nat)):y8 [ax a,ax b,ax c]=some (one (eK ((a+b+c)%(4294967296:Nat)) ((a+b+c) / (4294967296:Nat)))):=
 bl (a:=(a,b,c)) (enc:=fun x:Nat×Nat×Nat=>[ax x.1,ax x.2.1,ax x.2.2]) (fun a b e=>by rw [ua e]) ⟨ha,hb,hc⟩
theorem yy {a b c:Nat} (ha:a<(4294967296:Nat)) (hb:b<(4294967296:Nat)) (hc:c≤1):wz [ax a,ax b,ax c]=some (one (eK ((a+(4294967296:Nat)+(4294967296:Nat) - b - c)%(4294967296:Nat)) (if a<b+c then 1 else 0))):=
 bl (a:=(a,b,c)) (enc:=fun x:Nat×Nat×Nat=>[ax x.1,ax x.2.1,ax x.2.2]) (fun a b e=>by rw [ua e]) ⟨ha,hb,hc⟩
theorem Pu:aP MD.P t7:=aO (au (aE fun a h=>HV a h) aL)
theorem Pv:aP MD.P t8:=aO (au (aE fun x h=>HB x.1 x.2.1 x.2.2 h.1 h.2.1 h.2.2) (au (aE fun l h=>xz l h.1 h.2) aL))
theorem Pa (a:Nat) (ha:a<(4294967296:Nat)):aA P0 107 [ax a] (one (iv ((32 - (dg 2 a).length:Nat):Nat))):=by
 have:=zi ha
 refine ai ah Pu (by rfl) (lz 1 a _ _) ⟨FQ ha,bn (by omega) (by omega),trivial⟩
def we (d:Nat) (l:List Nat) (j:Nat):List Nat:=List.replicate j 0++(sdiv (4294967296:Nat) d (l.drop j)).1
theorem CP {d:Nat} {l:List Nat} {j:Nat} (h:j≤l.length):(we d l j).length=l.length:=by
 simp only [we,List.length_append,List.length_replicate,nL,List.length_drop];omega
theorem wh (k:Nat) (l:List Nat) (hl:bB (4294967296:Nat) l) (hs:l.length<2^40) (d:Nat) (hd:0<d) (rH:d<(4294967296:Nat)):∀j,j≤l.length→aR (aI MD t8 k 106 0) (j+1) ⟨[(0, .pv (nat l)),(1, .pv (ax d)),(6, .bs 11 0 1 l.length),(7, .pv (ax (sdiv (4294967296:Nat) d (l.drop j)).2)),(8, .pv (iv ((j:Int) - 1)))],[(11,us (we d l j))],[],[]⟩=some (.exit 0,⟨[(0, .pv (nat l)),(1, .pv (ax d)),(6, .bs 11 0 1 l.length),(7, .pv (ax (sdiv (4294967296:Nat) d l).2)),(8, .pv (iv (-1))),(16, .pv (bv false))],[(11,us (sdiv (4294967296:Nat) d l).1)],[],[]⟩)
 |0,_=>aF (af (YF k _ _ _ _ _ _) ⟨by decide,trivial⟩) (by simp)
 |j+1,hj=>by
  obtain ⟨x,hx⟩:=get_some (l:=l) (i:=j) (by omega)
  have qR:=dz hl hx
  have hi:(((j+1:Nat):Int) - 1)=(j:Int):=by omega
  rw [hi]
  have tD:l.drop j=x::l.drop (j+1):=by
   have hj:=gK hx
   rw [List.drop_eq_getElem_cons hj]
   rw [List.getElem?_eq_getElem hj] at hx
   simp only [Option.some.injEq] at hx
   rw [hx]
  have hr:=(qt (b:=(4294967296:Nat)) hd (l.drop (j+1))).2
  have e1:sdiv (4294967296:Nat) d (l.drop j)=(((sdiv (4294967296:Nat) d (l.drop (j+1))).2* (4294967296:Nat)+x) / d::(sdiv (4294967296:Nat) d (l.drop (j+1))).1,((sdiv (4294967296:Nat) d (l.drop (j+1))).2* (4294967296:Nat)+x)%d):=by rw [tD,sdiv]
  have ih:=wh k l hl hs d hd rH j (by omega)
  have e2:(we d l (j+1)).set j (((sdiv (4294967296:Nat) d (l.drop (j+1))).2* (4294967296:Nat)+x) / d)=we d l j:=by
   simp only [we,e1]
   rw [List.replicate_succ',List.append_assoc,List.set_append_right _ _ (by simp)]
   simp
  refine aW (af (YH k _ d (sdiv (4294967296:Nat) d (l.drop (j+1))).2 x (((sdiv (4294967296:Nat) d (l.drop (j+1))).2* (4294967296:Nat)+x) / d) (((sdiv (4294967296:Nat) d (l.drop (j+1))).2* (4294967296:Nat)+x)%d) j _ _ (us (we d l j)) ((j:Int) - 1)) ⟨by simp,eS hx rfl,ER rH hr qR,⟨rfl,by omega⟩, ?_, ?_,by rw [wrap64]<;>omega,trivial⟩) ?_
  · rw [dn,CP hj];simp [ax,PV.cells];omega
  · exact jz e2 (by rw [CP hj];omega) (by omega)
  · rw [e1] at ih;exact ih
theorem IJ (l:List Nat) (hne:l≠[]) (hl:bB (4294967296:Nat) l) (hs:l.length<2^40) (d:Nat) (hd:0<d) (rH:d<(4294967296:Nat)):aA P0 106 [nat l,ax d] (one (.an [nat (dg (4294967296:Nat) (val (4294967296:Nat) l / d)),ax (val (4294967296:Nat) l%d)])):=by
 have h1:=qt (b:=(4294967296:Nat)) hd l
 have hn:0<l.length:=List.length_pos_iff.2 hne
 have hroom:(2:Int)^43≤(room:Int):=by decide
 have hq:val (4294967296:Nat) (sdiv (4294967296:Nat) d l).1=val (4294967296:Nat) l / d:=by
  rw [←h1.1,Nat.add_comm,Nat.add_mul_div_right _ _ hd,Nat.div_eq_of_lt h1.2,Nat.zero_add]
 have hr:(sdiv (4294967296:Nat) d l).2=val (4294967296:Nat) l%d:=by
  rw [←h1.1,Nat.add_comm,Nat.add_mul_mod_self_right,Nat.mod_eq_of_lt h1.2]
 have iP:=wh (l.length+1) l hl hs d hd rH l.length (Nat.le_refl _)
 have e0:we d l l.length=List.replicate l.length 0:=by simp [we,sdiv]
 rw [e0,List.drop_length] at iP
 have hw:IntKind.i64.wrap ((l.length:Int) - 1)=(l.length:Int) - 1:=by rw [wrap64]<;>omega
 have ht:=nQ (l:=(sdiv (4294967296:Nat) d l).1) (by rw [nL];exact hs) (AY (by decide) hd hl)
 rw [hq] at ht
 have:=ai ah Pv (by rfl) (sm (l.length+1) l.length d (sdiv (4294967296:Nat) d l).2 (us l) (us (List.replicate l.length 0)) (us (sdiv (4294967296:Nat) d l).1) (us (sdiv (4294967296:Nat) d l).1) (nat (dg (4294967296:Nat) (val (4294967296:Nat) l / d)))) ⟨⟨by omega,by omega,by rw [pT];omega,by omega⟩,by simp;omega,qH,by rw [hw];exact iP,mV _ 0 _ (by rw [List.drop_zero,List.take_of_length_le (by rw [nL];omega)]),by simp only [nat,nL] at ht;exact ht,trivial⟩
 rw [hr] at this
 exact this
theorem BB {x s:Nat} (hs:s<32) (hx:x<(4294967296:Nat)):∃y,x* 2^s%(4294967296:Nat)=2^s* y∧2^s* y+2^s≤(4294967296:Nat):=by
 have e:(4294967296:Nat)=2^(32 - s)* 2^s:=by rw [←Nat.pow_add,show 32 - s+s=32 by omega]
 refine ⟨x%2^(32 - s), ?_, ?_⟩
 · rw [e,Nat.mul_mod_mul_right,Nat.mul_comm]
 · have h1:x%2^(32 - s)+1≤2^(32 - s):=Nat.mod_lt _ (Nat.pow_pos (by omega))
   have h2:=Nat.mul_le_mul_left (2^s) h1
   rw [Nat.mul_add,Nat.mul_one,Nat.mul_comm (2^s) (2^(32 - s)),←e] at h2
   exact h2
def pn (s:Nat) (l:List Nat) (i:Nat):Nat:=val (4294967296:Nat) (l.take i)* 2^s
theorem BC (k:Nat) (l:List Nat) (hl:bB (4294967296:Nat) l) (hn:l.length<2^40) (s:Nat) (hs:s<32) (i:Nat) (hi:i<l.length):aI MD t3 k 108 0 ⟨[(1, .pv (iv s)),(5, .bs 11 0 1 (l.length+1)),(12, .pv (nat l)),(13, .pv (iv l.length)),(14, .pv (iv i))],[(11,us (fd (4294967296:Nat) (l.length+1) (pn s l i)))],[],[]⟩=some (.normal,⟨[(1, .pv (iv s)),(5, .bs 11 0 1 (l.length+1)),(12, .pv (nat l)),(13, .pv (iv l.length)),(14, .pv (iv (i+1:Nat)))],[(11,us (fd (4294967296:Nat) (l.length+1) (pn s l (i+1))))],[],[]⟩):=by
 obtain ⟨x,hx⟩:=get_some hi
 have qR:=dz hl hx
 have hB:(0:Nat)<(4294967296:Nat):=by decide
 obtain ⟨y,hy,Xm⟩:=BB hs qR
 have hps:2^s<(4294967296:Nat):=Nat.pow_lt_pow_right (by omega) hs
 have QO:=dc (fl hl i)
 have htl:(l.take i).length=i:=by rw [List.length_take];omega
 rw [htl] at QO
 obtain ⟨v,hv⟩:∃v,v=pn s l i:=⟨_,rfl⟩
 have Ss:v<2^s* (4294967296:Nat)^i:=by
  rw [hv,pn,Nat.mul_comm];exact Nat.mul_lt_mul_of_pos_left QO (Nat.pow_pos (by omega))
 have V8:0<(4294967296:Nat)^i:=Nat.pow_pos hB
 obtain ⟨c,hc⟩:∃c,c=v / (4294967296:Nat)^i:=⟨_,rfl⟩
 have gN:c<2^s:=by rw [hc];exact (Nat.div_lt_iff_lt_mul V8).2 Ss
 have g1:(fd (4294967296:Nat) (l.length+1) v)[i]? =some c:=by
  rw [ij (by omega),←hc,Nat.mod_eq_of_lt (by omega)]
 have g2:(fd (4294967296:Nat) (l.length+1) v)[i+1]? =some 0:=by
  rw [ij (by omega)]
  have:v / (4294967296:Nat)^(i+1)=0:=by
   rw [Nat.pow_succ,←Nat.div_div_eq_div_mul,←hc]
   exact Nat.div_eq_of_lt (by omega)
  rw [this]
 obtain ⟨w,hw⟩:∃w,w=x* 2^s / (4294967296:Nat):=⟨_,rfl⟩
 have hxs:x* 2^s<2^63:=by
  have h1:x* 2^s≤x* 2^31:=Nat.mul_le_mul_left _ (Nat.pow_le_pow_right (by omega) (by omega))
  have h2:x* 2^31<(4294967296:Nat)* 2^31:=Nat.mul_lt_mul_of_pos_right qR (by decide)
  omega
 have B4:w<(4294967296:Nat):=by omega
 have zR:x* 2^s=(4294967296:Nat)* w+2^s* y:=by rw [hw,←hy];exact (Nat.div_add_mod _ _).symm
 have zE:=cn (4294967296:Nat) (l.length+1) v
 have e1:((fd (4294967296:Nat) (l.length+1) v).set i (c+2^s* y)).set (i+1) w=fd (4294967296:Nat) (l.length+1) (pn s l (i+1)):=by
  apply jA hB
  · exact kY (kY (ig hB _ _) (by omega) _) B4 _
  · simp [zE]
  · have v1:=j4 (b:=(4294967296:Nat)) g1 (c+2^s* y)
    have v2:=j4 (b:=(4294967296:Nat)) (l:=(fd (4294967296:Nat) (l.length+1) v).set i (c+2^s* y)) (i:=i+1) (x:=0) (by rw [List.getElem?_set_ne (by omega)];exact g2) w
    have v3:val (4294967296:Nat) (fd (4294967296:Nat) (l.length+1) v)=v:=by
     rw [lY hB,Nat.mod_eq_of_lt]
     have h1:2^s* (4294967296:Nat)^i≤(4294967296:Nat)* (4294967296:Nat)^l.length:=Nat.mul_le_mul (by omega) (Nat.pow_le_pow_right (by omega) (by omega))
     rw [Nat.pow_succ,Nat.mul_comm];omega
    have e:=cG (b:=(4294967296:Nat)) hx
    simp only [pn,e,Nat.add_mul]
    have e3:val (4294967296:Nat) (l.take i)* 2^s=v:=by rw [hv,pn]
    rw [e3,Nat.mul_assoc,zR]
    rw [v3,Nat.mul_add] at v1
    rw [Nat.mul_zero,Nat.add_zero,Nat.pow_succ,Nat.mul_assoc] at v2
    rw [Nat.mul_add]
    omega
 rw [←hv]
 refine af (YD k l.length s i (l.length+1) x (2^s* y) c (c+2^s* y) w (us l) _ (us ((fd (4294967296:Nat) (l.length+1) v).set i (c+2^s* y))) (us (fd (4294967296:Nat) (l.length+1) (pn s l (i+1))))) ⟨by simpa using hi,eS hx rfl,⟨rfl,by omega⟩,kz g1 (by omega), ?_,by simp,F0 gN (by omega) _ rfl,⟨rfl,by omega⟩, ?_,jz rfl (by rw [zE];omega) (by omega),bn (by omega) (by omega),bE rfl (by omega), ?_,by simp, ?_,rfl,jc rfl (by omega),⟨rfl,by omega⟩, ?_,jz e1 (by rw [List.length_set,zE];omega) (by omega),bn (by omega) (by omega),trivial⟩
 · have e:min ((s:Int)).toNat IntKind.u32.bits=s:=by rw [Int.toNat_natCast];show min s 32=s;omega
   rw [e]
   have e2:(2:Int)^s=((2^s:Nat):Int):=by simp
   rw [e2,←Int.natCast_mul,Bi,hy]
 · rw [dn,zE];simp [PV.cells];omega
 · have e:min ((s:Int)).toNat IntKind.u64.bits=s:=by rw [Int.toNat_natCast];show min s 64=s;omega
   rw [e]
   have e2:(2:Int)^s=((2^s:Nat):Int):=by simp
   rw [e2,←Int.natCast_mul]
   exact bE rfl (by omega)
 · rw [vL,kg,hw]
 · rw [dn,List.length_set,zE];simp [PV.cells];omega
theorem ID (l:List Nat) (hl:bB (4294967296:Nat) l) (hn:l.length<2^40) (s:Nat) (hs:s<32):aA P0 108 [nat l,iv s] ⟨.sl 1 (l.length+1) (us (fd (4294967296:Nat) (l.length+1) (val (4294967296:Nat) l* 2^s))),some 1⟩:=by
 have hroom:(2:Int)^43≤(room:Int):=by decide
 have iP:=cK (f:=aI MD t3 (l.length+1) 108 0) (S:=fun i=>⟨[(1, .pv (iv s)),(5, .bs 11 0 1 (l.length+1)),(12, .pv (nat l)),(13, .pv (iv l.length)),(14, .pv (iv i))],[(11,us (fd (4294967296:Nat) (l.length+1) (pn s l i)))],[],[]⟩) (n:=l.length) (fun i hi=>BC _ l hl hn s hs i hi) (af (YC _ l.length s l.length (l.length+1) (us l) _) ⟨by simp,trivial⟩) (by simp) (l.length+1) (by omega)
 have e0:pn s l 0=0:=by simp [pn,val]
 have e1:pn s l l.length=val (4294967296:Nat) l* 2^s:=by simp [pn]
 rw [e0,e1,wT (by decide)] at iP
 refine ai ah kL (by rfl) (sh (l.length+1) l.length s (us l) (us (List.replicate (l.length+1) 0)) (us (fd (4294967296:Nat) (l.length+1) (val (4294967296:Nat) l* 2^s))) (us (fd (4294967296:Nat) (l.length+1) (val (4294967296:Nat) l* 2^s)))) ⟨bn (by omega) (by omega),⟨by omega,by omega,by rw [pT];omega,by omega⟩,by simp;omega,qH,iP,mV _ 0 _ (by rw [List.drop_zero,List.take_of_length_le (by rw [cn];omega)]),trivial⟩
end Go.Proofs.YtibbgjafjhcemaaDoor.Cul
namespace Go.Proofs.YtibbgjafjhcemaaDoor.Cul
structure lO (B W V a b c v1 v2 P rw rv:Nat):Prop where
 w:W=((a* B+b)* B+c)* P+rw
 v:V=(v1* B+v2)* P+rv
 hw:rw<P
 hv:rv<P
 hb:b<B
 hc:c<B
 h2:v2<B
 hB:2≤B
 top:B≤2* v1
 lt:W<B* V
namespace lO
variable {B W V a b c v1 v2 P rw rv:Nat}
theorem xA (h:lO B W V a b c v1 v2 P rw rv):0<V:=by
 rcases Nat.eq_zero_or_pos V with h0|h0
 · have:=h.lt;rw [h0] at this;simp at this
 · exact h0
theorem Ti (h:lO B W V a b c v1 v2 P rw rv):0<P:=by have:=h.hw;omega
theorem Em (h:lO B W V a b c v1 v2 P rw rv):0<v1:=by have:=h.top;have:=h.hB;omega
theorem Yf (h:lO B W V a b c v1 v2 P rw rv):W / V<B:=(Nat.div_lt_iff_lt_mul h.xA).2 h.lt
theorem Jy (h:lO B W V a b c v1 v2 P rw rv):W / V* V≤W:=Nat.div_mul_le_self W V
theorem Jz (h:lO B W V a b c v1 v2 P rw rv):W / V* (v1* B+v2)≤(a* B+b)* B+c:=by
 have h1:=h.Jy
 have h2:W / V* ((v1* B+v2)* P)≤W / V* V:=Nat.mul_le_mul_left _ (by have:=h.v;omega)
 have h3:W<((a* B+b)* B+c+1)* P:=by rw [Nat.add_mul,Nat.one_mul];have:=h.w;have:=h.hw;omega
 have h4:W / V* (v1* B+v2)* P<((a* B+b)* B+c+1)* P:=by rw [Nat.mul_assoc];omega
 have:=Nat.lt_of_mul_lt_mul_right h4
 omega
theorem NM (h:lO B W V a b c v1 v2 P rw rv):W / V* v1≤a* B+b:=by
 have h1:=h.Jz
 have h2:W / V* v1* B≤W / V* (v1* B+v2):=by rw [Nat.mul_add,Nat.mul_assoc];omega
 have h3:W / V* v1* B<(a* B+b+1)* B:=by rw [Nat.add_mul (a* B+b),Nat.one_mul];have:=h.hc;omega
 have:=Nat.lt_of_mul_lt_mul_right h3
 omega
theorem Rz (h:lO B W V a b c v1 v2 P rw rv):a≤v1:=by
 have h1:a* (B* B* P)≤W:=by
  have e:((a* B+b)* B+c)* P=a* (B* B* P)+(b* B+c)* P:=by
   rw [Nat.add_mul (a* B) b B,Nat.add_assoc,Nat.add_mul,Nat.mul_assoc a B B,Nat.mul_assoc]
  have:=h.w;omega
 have h2:V<(v1+1)* (B* P):=by
  have e:(v1+1)* (B* P)=v1* B* P+B* P:=by rw [Nat.add_mul,Nat.one_mul,Nat.mul_assoc]
  have e2:(v1* B+v2)* P=v1* B* P+v2* P:=Nat.add_mul _ _ _
  have e3:(v2+1)* P≤B* P:=Nat.mul_le_mul_right _ h.h2
  rw [Nat.add_mul,Nat.one_mul] at e3
  have:=h.v;have:=h.hv;omega
 have h3:B* V<B* ((v1+1)* (B* P)):=Nat.mul_lt_mul_of_pos_left h2 (by have:=h.hB;omega)
 have h4:a* (B* B* P)<(v1+1)* (B* B* P):=by
  have e:B* ((v1+1)* (B* P))=(v1+1)* (B* B* P):=by rw [Nat.mul_left_comm,Nat.mul_assoc B B P]
  have:=h.lt;omega
 have:=Nat.lt_of_mul_lt_mul_right h4
 omega
def Inv (B W V a b v1 q r:Nat):Prop:=q* v1+r=a* B+b∧W / V≤q
theorem start (h:lO B W V a b c v1 v2 P rw rv):Inv B W V a b v1 ((a* B+b) / v1) ((a* B+b)%v1):=by
 refine ⟨by rw [Nat.mul_comm];exact Nat.div_add_mod _ _, ?_⟩
 rw [Nat.le_div_iff_mul_le h.Em]
 exact h.NM
theorem step (h:lO B W V a b c v1 v2 P rw rv) {q r:Nat} (hi:Inv B W V a b v1 q r) (hg:B≤q∨r* B+c<q* v2):0<q∧Inv B W V a b v1 (q - 1) (r+v1):=by
 have hlt:W / V<q:=by
  rcases hg with hg|hg
  · exact Nat.lt_of_lt_of_le h.Yf hg
  · rcases Nat.lt_or_ge (W / V) q with h1|h1
    · exact h1
    · have e:W / V=q:=Nat.le_antisymm hi.2 h1
      have h2:=h.Jz
      rw [e,Nat.mul_add] at h2
      have h3:q* (v1* B)=q* v1* B:=by rw [Nat.mul_assoc]
      have h4:=congrArg (· * B) hi.1
      simp only [Nat.add_mul] at h4
      rw [Nat.add_mul] at h2
      omega
 have hq:0<q:=Nat.lt_of_le_of_lt (Nat.zero_le _) hlt
 refine ⟨hq, ?_,by omega⟩
 obtain ⟨p,rfl⟩:∃p,q=p+1:=⟨q - 1,by omega⟩
 have:=hi.1
 rw [Nat.add_mul,Nat.one_mul] at this
 simp only [Nat.add_sub_cancel]
 omega
theorem fin (h:lO B W V a b c v1 v2 P rw rv) {q r:Nat} (hi:Inv B W V a b v1 q r) (hq:q<B) (hg:q* v2≤r* B+c):q≤W / V+1:=by
 have h1:q* (v1* B+v2)≤(a* B+b)* B+c:=by
  have h4:=congrArg (· * B) hi.1
  simp only [Nat.add_mul] at h4
  rw [Nat.mul_add,Nat.add_mul (a* B)]
  have h3:q* (v1* B)=q* v1* B:=by rw [Nat.mul_assoc]
  omega
 have h2:q* ((v1* B+v2)* P)≤W:=by
  have:=Nat.mul_le_mul_right P h1
  rw [Nat.mul_assoc] at this
  have:=h.w;omega
 have h3:q* rv<B* P:=by
  have h5:q* rv≤q* P:=Nat.mul_le_mul_left _ (by have:=h.hv;omega)
  have h6:q* P<B* P:=Nat.mul_lt_mul_of_pos_right hq h.Ti
  omega
 have h4:B* P≤V:=by
  have h5:B* P≤v1* B* P:=by
   rw [Nat.mul_assoc];exact Nat.le_mul_of_pos_left _ h.Em
  have e2:(v1* B+v2)* P=v1* B* P+v2* P:=Nat.add_mul _ _ _
  have:=h.v;omega
 have h5:q* V<W+V:=by
  have:q* V=q* ((v1* B+v2)* P)+q* rv:=by rw [←Nat.mul_add,←h.v]
  omega
 rcases Nat.eq_zero_or_pos q with h0|h0
 · rw [h0];exact Nat.zero_le _
 · obtain ⟨p,rfl⟩:∃p,q=p+1:=⟨q - 1,by omega⟩
   rw [Nat.add_mul,Nat.one_mul] at h5
   have:p* V≤W:=by omega
   have:=(Nat.le_div_iff_mul_le h.xA).2 this
   omega
theorem LM (h:lO B W V a b c v1 v2 P rw rv) {q r:Nat} (hi:Inv B W V a b v1 q r) (hr:B≤r):q<B∧q≤W / V+1:=by
 have hq:q<B:=by
  rcases Nat.lt_or_ge q B with h1|h1
  · exact h1
  · have h2:B* v1≤q* v1:=Nat.mul_le_mul_right _ h1
    have h3:a* B≤v1* B:=Nat.mul_le_mul_right _ h.Rz
    have:=hi.1;have:=h.hb
    rw [Nat.mul_comm v1 B] at h3
    omega
 refine ⟨hq,h.fin hi hq ?_⟩
 have h1:q* v2≤B* B:=Nat.mul_le_mul (by omega) (by have:=h.h2;omega)
 have h2:B* B≤r* B:=Nat.mul_le_mul_right _ hr
 omega
end lO
end Go.Proofs.YtibbgjafjhcemaaDoor.Cul
namespace Go.Proofs.YtibbgjafjhcemaaDoor.Cul
open Go Go.RowKit
noncomputable def t9:Cl:=bQ [(111,y8),(112,wz)]
theorem U5 (k n o v1 v2 q r c:Nat) (es cs:List PV):ak MD t9 k 109 0 ⟨[(0, .bs 1000000 o 1 (n+1)),(1, .pv (.sl 1 n cs)),(5, .pv (iv n)),(7, .pv (bK q)),(8, .pv (bK r))],[(1000000,es)],[],[]⟩ [.c true, .i 70 (q - 1:Nat), .i 74 (n - 1:Nat), .a 75 [ax v1], .i 77 v1, .i 78 (r+v1:Nat), .c false]=
 some ((Xt.normal,St.mk [(0,AV.bs 1000000 o 1 (n+(1:Nat))),(1,AV.pv (PV.sl 1 n cs)),(5,AV.pv (PV.lit (Value.int IntKind.i64 (↑n:Int)))),(7,AV.pv (PV.lit (Value.int IntKind.u64 (↑(q - (1:Nat)):Int)))),(8,AV.pv (PV.lit (Value.int IntKind.u64 (↑(r+v1):Int)))),(80,AV.pv (PV.lit (Value.bool false)))] [(1000000,es)] [] []),[],[decide ((↑q:Int)≥(4294967296:Int))=true,IntKind.u64.wrap ((↑q:Int) - (1:Int))=(↑(q - (1:Nat)):Int),IntKind.i64.wrap ((↑n:Int) - (1:Int))=(↑(n - (1:Nat)):Int),az cs 1 (↑(n - (1:Nat)):Int) n [PV.lit (Value.int IntKind.u32 (↑v1:Int))],IntKind.u64.wrap (↑v1:Int)=(↑v1:Int),IntKind.u64.wrap ((↑r:Int)+(↑v1:Int))=(↑(r+v1):Int),decide ((↑(r+v1):Int)≥(4294967296:Int))=false]):=by kernel_rfl
theorem Va (k n o v1 v2 q r c:Nat) (es cs:List PV):ak MD t9 k 109 0 ⟨[(0, .bs 1000000 o 1 (n+1)),(1, .pv (.sl 1 n cs)),(5, .pv (iv n)),(7, .pv (bK q)),(8, .pv (bK r)),(80, .pv (bv false))],[(1000000,es)],[],[]⟩ [.c true, .i 70 (q - 1:Nat), .i 74 (n - 1:Nat), .a 75 [ax v1], .i 77 v1, .i 78 (r+v1:Nat), .c false]=
 some ((Xt.normal,St.mk [(0,AV.bs 1000000 o 1 (n+(1:Nat))),(1,AV.pv (PV.sl 1 n cs)),(5,AV.pv (PV.lit (Value.int IntKind.i64 (↑n:Int)))),(7,AV.pv (PV.lit (Value.int IntKind.u64 (↑(q - (1:Nat)):Int)))),(8,AV.pv (PV.lit (Value.int IntKind.u64 (↑(r+v1):Int)))),(80,AV.pv (PV.lit (Value.bool false)))] [(1000000,es)] [] []),[],[decide ((↑q:Int)≥(4294967296:Int))=true,IntKind.u64.wrap ((↑q:Int) - (1:Int))=(↑(q - (1:Nat)):Int),IntKind.i64.wrap ((↑n:Int) - (1:Int))=(↑(n - (1:Nat)):Int),az cs 1 (↑(n - (1:Nat)):Int) n [PV.lit (Value.int IntKind.u32 (↑v1:Int))],IntKind.u64.wrap (↑v1:Int)=(↑v1:Int),IntKind.u64.wrap ((↑r:Int)+(↑v1:Int))=(↑(r+v1):Int),decide ((↑(r+v1):Int)≥(4294967296:Int))=false]):=by kernel_rfl
theorem U6 (k n o v1 v2 q r c:Nat) (es cs:List PV):ak MD t9 k 109 0 ⟨[(0, .bs 1000000 o 1 (n+1)),(1, .pv (.sl 1 n cs)),(5, .pv (iv n)),(7, .pv (bK q)),(8, .pv (bK r))],[(1000000,es)],[],[]⟩ [.c true, .i 70 (q - 1:Nat), .i 74 (n - 1:Nat), .a 75 [ax v1], .i 77 v1, .i 78 (r+v1:Nat), .c true]=
 some ((Xt.exit 0,St.mk [(0,AV.bs 1000000 o 1 (n+(1:Nat))),(1,AV.pv (PV.sl 1 n cs)),(5,AV.pv (PV.lit (Value.int IntKind.i64 (↑n:Int)))),(7,AV.pv (PV.lit (Value.int IntKind.u64 (↑(q - (1:Nat)):Int)))),(8,AV.pv (PV.lit (Value.int IntKind.u64 (↑(r+v1):Int)))),(80,AV.pv (PV.lit (Value.bool true)))] [(1000000,es)] [] []),[],[decide ((↑q:Int)≥(4294967296:Int))=true,IntKind.u64.wrap ((↑q:Int) - (1:Int))=(↑(q - (1:Nat)):Int),IntKind.i64.wrap ((↑n:Int) - (1:Int))=(↑(n - (1:Nat)):Int),az cs 1 (↑(n - (1:Nat)):Int) n [PV.lit (Value.int IntKind.u32 (↑v1:Int))],IntKind.u64.wrap (↑v1:Int)=(↑v1:Int),IntKind.u64.wrap ((↑r:Int)+(↑v1:Int))=(↑(r+v1):Int),decide ((↑(r+v1):Int)≥(4294967296:Int))=true]):=by kernel_rfl
theorem Vb (k n o v1 v2 q r c:Nat) (es cs:List PV):ak MD t9 k 109 0 ⟨[(0, .bs 1000000 o 1 (n+1)),(1, .pv (.sl 1 n cs)),(5, .pv (iv n)),(7, .pv (bK q)),(8, .pv (bK r)),(80, .pv (bv false))],[(1000000,es)],[],[]⟩ [.c true, .i 70 (q - 1:Nat), .i 74 (n - 1:Nat), .a 75 [ax v1], .i 77 v1, .i 78 (r+v1:Nat), .c true]=
 some ((Xt.exit 0,St.mk [(0,AV.bs 1000000 o 1 (n+(1:Nat))),(1,AV.pv (PV.sl 1 n cs)),(5,AV.pv (PV.lit (Value.int IntKind.i64 (↑n:Int)))),(7,AV.pv (PV.lit (Value.int IntKind.u64 (↑(q - (1:Nat)):Int)))),(8,AV.pv (PV.lit (Value.int IntKind.u64 (↑(r+v1):Int)))),(80,AV.pv (PV.lit (Value.bool true)))] [(1000000,es)] [] []),[],[decide ((↑q:Int)≥(4294967296:Int))=true,IntKind.u64.wrap ((↑q:Int) - (1:Int))=(↑(q - (1:Nat)):Int),IntKind.i64.wrap ((↑n:Int) - (1:Int))=(↑(n - (1:Nat)):Int),az cs 1 (↑(n - (1:Nat)):Int) n [PV.lit (Value.int IntKind.u32 (↑v1:Int))],IntKind.u64.wrap (↑v1:Int)=(↑v1:Int),IntKind.u64.wrap ((↑r:Int)+(↑v1:Int))=(↑(r+v1):Int),decide ((↑(r+v1):Int)≥(4294967296:Int))=true]):=by kernel_rfl
theorem U7 (k n o v1 v2 q r c:Nat) (es cs:List PV):ak MD t9 k 109 0 ⟨[(0, .bs 1000000 o 1 (n+1)),(1, .pv (.sl 1 n cs)),(5, .pv (iv n)),(7, .pv (bK q)),(8, .pv (bK r))],[(1000000,es)],[],[]⟩ [.c false, .i 53 (n - 2:Nat), .a 54 [ax v2], .i 56 v2, .i 57 (q* v2:Nat), .i 59 (2^32* r:Nat), .i 62 (n - 2:Nat), .j 63 (n - 2), .e 64 (ax c), .i 65 c, .i 66 (2^32* r+c:Nat), .c true, .i 70 (q - 1:Nat), .i 74 (n - 1:Nat), .a 75 [ax v1], .i 77 v1, .i 78 (r+v1:Nat), .c false]=
 some ((Xt.normal,St.mk [(0,AV.bs 1000000 o 1 (n+(1:Nat))),(1,AV.pv (PV.sl 1 n cs)),(5,AV.pv (PV.lit (Value.int IntKind.i64 (↑n:Int)))),(7,AV.pv (PV.lit (Value.int IntKind.u64 (↑(q - (1:Nat)):Int)))),(8,AV.pv (PV.lit (Value.int IntKind.u64 (↑(r+v1):Int)))),(80,AV.pv (PV.lit (Value.bool false)))] [(1000000,es)] [] []),[],[decide ((↑q:Int)≥(4294967296:Int))=false,IntKind.i64.wrap ((↑n:Int) - (2:Int))=(↑(n - (2:Nat)):Int),az cs 1 (↑(n - (2:Nat)):Int) n [PV.lit (Value.int IntKind.u32 (↑v2:Int))],IntKind.u64.wrap (↑v2:Int)=(↑v2:Int),IntKind.u64.wrap ((↑q:Int)* (↑v2:Int))=(↑(q* v2):Int),IntKind.u64.wrap ((↑r:Int)* (2:Int)^min (Int.toNat (32:Int)) IntKind.u64.bits)=(↑((2:Nat)^(32:Nat)* r):Int),false=false,IntKind.i64.wrap ((↑n:Int) - (2:Int))=(↑(n - (2:Nat)):Int),aG (↑(n - (2:Nat)):Int) (n+(1:Nat)) (n - (2:Nat)),Ld MD.P 111 es (o+(n - (2:Nat))* (1:Nat)) (PV.lit (Value.int IntKind.u32 (↑c:Int))),IntKind.u64.wrap (↑c:Int)=(↑c:Int),IntKind.u64.wrap (↑(BitVec.ofInt IntKind.u64.bits (↑((2:Nat)^(32:Nat)* r):Int)|||BitVec.ofInt IntKind.u64.bits (↑c:Int)).toNat:Int)=(↑((2:Nat)^(32:Nat)* r+c):Int),decide ((↑(q* v2):Int)>(↑((2:Nat)^(32:Nat)* r+c):Int))=true,IntKind.u64.wrap ((↑q:Int) - (1:Int))=(↑(q - (1:Nat)):Int),IntKind.i64.wrap ((↑n:Int) - (1:Int))=(↑(n - (1:Nat)):Int),az cs 1 (↑(n - (1:Nat)):Int) n [PV.lit (Value.int IntKind.u32 (↑v1:Int))],IntKind.u64.wrap (↑v1:Int)=(↑v1:Int),IntKind.u64.wrap ((↑r:Int)+(↑v1:Int))=(↑(r+v1):Int),decide ((↑(r+v1):Int)≥(4294967296:Int))=false]):=by kernel_rfl
theorem Vc (k n o v1 v2 q r c:Nat) (es cs:List PV):ak MD t9 k 109 0 ⟨[(0, .bs 1000000 o 1 (n+1)),(1, .pv (.sl 1 n cs)),(5, .pv (iv n)),(7, .pv (bK q)),(8, .pv (bK r)),(80, .pv (bv false))],[(1000000,es)],[],[]⟩ [.c false, .i 53 (n - 2:Nat), .a 54 [ax v2], .i 56 v2, .i 57 (q* v2:Nat), .i 59 (2^32* r:Nat), .i 62 (n - 2:Nat), .j 63 (n - 2), .e 64 (ax c), .i 65 c, .i 66 (2^32* r+c:Nat), .c true, .i 70 (q - 1:Nat), .i 74 (n - 1:Nat), .a 75 [ax v1], .i 77 v1, .i 78 (r+v1:Nat), .c false]=
 some ((Xt.normal,St.mk [(0,AV.bs 1000000 o 1 (n+(1:Nat))),(1,AV.pv (PV.sl 1 n cs)),(5,AV.pv (PV.lit (Value.int IntKind.i64 (↑n:Int)))),(7,AV.pv (PV.lit (Value.int IntKind.u64 (↑(q - (1:Nat)):Int)))),(8,AV.pv (PV.lit (Value.int IntKind.u64 (↑(r+v1):Int)))),(80,AV.pv (PV.lit (Value.bool false)))] [(1000000,es)] [] []),[],[decide ((↑q:Int)≥(4294967296:Int))=false,IntKind.i64.wrap ((↑n:Int) - (2:Int))=(↑(n - (2:Nat)):Int),az cs 1 (↑(n - (2:Nat)):Int) n [PV.lit (Value.int IntKind.u32 (↑v2:Int))],IntKind.u64.wrap (↑v2:Int)=(↑v2:Int),IntKind.u64.wrap ((↑q:Int)* (↑v2:Int))=(↑(q* v2):Int),IntKind.u64.wrap ((↑r:Int)* (2:Int)^min (Int.toNat (32:Int)) IntKind.u64.bits)=(↑((2:Nat)^(32:Nat)* r):Int),false=false,IntKind.i64.wrap ((↑n:Int) - (2:Int))=(↑(n - (2:Nat)):Int),aG (↑(n - (2:Nat)):Int) (n+(1:Nat)) (n - (2:Nat)),Ld MD.P 111 es (o+(n - (2:Nat))* (1:Nat)) (PV.lit (Value.int IntKind.u32 (↑c:Int))),IntKind.u64.wrap (↑c:Int)=(↑c:Int),IntKind.u64.wrap (↑(BitVec.ofInt IntKind.u64.bits (↑((2:Nat)^(32:Nat)* r):Int)|||BitVec.ofInt IntKind.u64.bits (↑c:Int)).toNat:Int)=(↑((2:Nat)^(32:Nat)* r+c):Int),decide ((↑(q* v2):Int)>(↑((2:Nat)^(32:Nat)* r+c):Int))=true,IntKind.u64.wrap ((↑q:Int) - (1:Int))=(↑(q - (1:Nat)):Int),IntKind.i64.wrap ((↑n:Int) - (1:Int))=(↑(n - (1:Nat)):Int),az cs 1 (↑(n - (1:Nat)):Int) n [PV.lit (Value.int IntKind.u32 (↑v1:Int))],IntKind.u64.wrap (↑v1:Int)=(↑v1:Int),IntKind.u64.wrap ((↑r:Int)+(↑v1:Int))=(↑(r+v1):Int),decide ((↑(r+v1):Int)≥(4294967296:Int))=false]):=by kernel_rfl
theorem U8 (k n o v1 v2 q r c:Nat) (es cs:List PV):ak MD t9 k 109 0 ⟨[(0, .bs 1000000 o 1 (n+1)),(1, .pv (.sl 1 n cs)),(5, .pv (iv n)),(7, .pv (bK q)),(8, .pv (bK r))],[(1000000,es)],[],[]⟩ [.c false, .i 53 (n - 2:Nat), .a 54 [ax v2], .i 56 v2, .i 57 (q* v2:Nat), .i 59 (2^32* r:Nat), .i 62 (n - 2:Nat), .j 63 (n - 2), .e 64 (ax c), .i 65 c, .i 66 (2^32* r+c:Nat), .c true, .i 70 (q - 1:Nat), .i 74 (n - 1:Nat), .a 75 [ax v1], .i 77 v1, .i 78 (r+v1:Nat), .c true]=
 some ((Xt.exit 0,St.mk [(0,AV.bs 1000000 o 1 (n+(1:Nat))),(1,AV.pv (PV.sl 1 n cs)),(5,AV.pv (PV.lit (Value.int IntKind.i64 (↑n:Int)))),(7,AV.pv (PV.lit (Value.int IntKind.u64 (↑(q - (1:Nat)):Int)))),(8,AV.pv (PV.lit (Value.int IntKind.u64 (↑(r+v1):Int)))),(80,AV.pv (PV.lit (Value.bool true)))] [(1000000,es)] [] []),[],[decide ((↑q:Int)≥(4294967296:Int))=false,IntKind.i64.wrap ((↑n:Int) - (2:Int))=(↑(n - (2:Nat)):Int),az cs 1 (↑(n - (2:Nat)):Int) n [PV.lit (Value.int IntKind.u32 (↑v2:Int))],IntKind.u64.wrap (↑v2:Int)=(↑v2:Int),IntKind.u64.wrap ((↑q:Int)* (↑v2:Int))=(↑(q* v2):Int),IntKind.u64.wrap ((↑r:Int)* (2:Int)^min (Int.toNat (32:Int)) IntKind.u64.bits)=(↑((2:Nat)^(32:Nat)* r):Int),false=false,IntKind.i64.wrap ((↑n:Int) - (2:Int))=(↑(n - (2:Nat)):Int),aG (↑(n - (2:Nat)):Int) (n+(1:Nat)) (n - (2:Nat)),Ld MD.P 111 es (o+(n - (2:Nat))* (1:Nat)) (PV.lit (Value.int IntKind.u32 (↑c:Int))),IntKind.u64.wrap (↑c:Int)=(↑c:Int),IntKind.u64.wrap (↑(BitVec.ofInt IntKind.u64.bits (↑((2:Nat)^(32:Nat)* r):Int)|||BitVec.ofInt IntKind.u64.bits (↑c:Int)).toNat:Int)=(↑((2:Nat)^(32:Nat)* r+c):Int),decide ((↑(q* v2):Int)>(↑((2:Nat)^(32:Nat)* r+c):Int))=true,IntKind.u64.wrap ((↑q:Int) - (1:Int))=(↑(q - (1:Nat)):Int),IntKind.i64.wrap ((↑n:Int) - (1:Int))=(↑(n - (1:Nat)):Int),az cs 1 (↑(n - (1:Nat)):Int) n [PV.lit (Value.int IntKind.u32 (↑v1:Int))],IntKind.u64.wrap (↑v1:Int)=(↑v1:Int),IntKind.u64.wrap ((↑r:Int)+(↑v1:Int))=(↑(r+v1):Int),decide ((↑(r+v1):Int)≥(4294967296:Int))=true]):=by kernel_rfl
theorem Vd (k n o v1 v2 q r c:Nat) (es cs:List PV):ak MD t9 k 109 0 ⟨[(0, .bs 1000000 o 1 (n+1)),(1, .pv (.sl 1 n cs)),(5, .pv (iv n)),(7, .pv (bK q)),(8, .pv (bK r)),(80, .pv (bv false))],[(1000000,es)],[],[]⟩ [.c false, .i 53 (n - 2:Nat), .a 54 [ax v2], .i 56 v2, .i 57 (q* v2:Nat), .i 59 (2^32* r:Nat), .i 62 (n - 2:Nat), .j 63 (n - 2), .e 64 (ax c), .i 65 c, .i 66 (2^32* r+c:Nat), .c true, .i 70 (q - 1:Nat), .i 74 (n - 1:Nat), .a 75 [ax v1], .i 77 v1, .i 78 (r+v1:Nat), .c true]=
 some ((Xt.exit 0,St.mk [(0,AV.bs 1000000 o 1 (n+(1:Nat))),(1,AV.pv (PV.sl 1 n cs)),(5,AV.pv (PV.lit (Value.int IntKind.i64 (↑n:Int)))),(7,AV.pv (PV.lit (Value.int IntKind.u64 (↑(q - (1:Nat)):Int)))),(8,AV.pv (PV.lit (Value.int IntKind.u64 (↑(r+v1):Int)))),(80,AV.pv (PV.lit (Value.bool true)))] [(1000000,es)] [] []),[],[decide ((↑q:Int)≥(4294967296:Int))=false,IntKind.i64.wrap ((↑n:Int) - (2:Int))=(↑(n - (2:Nat)):Int),az cs 1 (↑(n - (2:Nat)):Int) n [PV.lit (Value.int IntKind.u32 (↑v2:Int))],IntKind.u64.wrap (↑v2:Int)=(↑v2:Int),IntKind.u64.wrap ((↑q:Int)* (↑v2:Int))=(↑(q* v2):Int),IntKind.u64.wrap ((↑r:Int)* (2:Int)^min (Int.toNat (32:Int)) IntKind.u64.bits)=(↑((2:Nat)^(32:Nat)* r):Int),false=false,IntKind.i64.wrap ((↑n:Int) - (2:Int))=(↑(n - (2:Nat)):Int),aG (↑(n - (2:Nat)):Int) (n+(1:Nat)) (n - (2:Nat)),Ld MD.P 111 es (o+(n - (2:Nat))* (1:Nat)) (PV.lit (Value.int IntKind.u32 (↑c:Int))),IntKind.u64.wrap (↑c:Int)=(↑c:Int),IntKind.u64.wrap (↑(BitVec.ofInt IntKind.u64.bits (↑((2:Nat)^(32:Nat)* r):Int)|||BitVec.ofInt IntKind.u64.bits (↑c:Int)).toNat:Int)=(↑((2:Nat)^(32:Nat)* r+c):Int),decide ((↑(q* v2):Int)>(↑((2:Nat)^(32:Nat)* r+c):Int))=true,IntKind.u64.wrap ((↑q:Int) - (1:Int))=(↑(q - (1:Nat)):Int),IntKind.i64.wrap ((↑n:Int) - (1:Int))=(↑(n - (1:Nat)):Int),az cs 1 (↑(n - (1:Nat)):Int) n [PV.lit (Value.int IntKind.u32 (↑v1:Int))],IntKind.u64.wrap (↑v1:Int)=(↑v1:Int),IntKind.u64.wrap ((↑r:Int)+(↑v1:Int))=(↑(r+v1):Int),decide ((↑(r+v1):Int)≥(4294967296:Int))=true]):=by kernel_rfl
theorem U9 (k n o v1 v2 q r c:Nat) (es cs:List PV):ak MD t9 k 109 0 ⟨[(0, .bs 1000000 o 1 (n+1)),(1, .pv (.sl 1 n cs)),(5, .pv (iv n)),(7, .pv (bK q)),(8, .pv (bK r))],[(1000000,es)],[],[]⟩ [.c false, .i 53 (n - 2:Nat), .a 54 [ax v2], .i 56 v2, .i 57 (q* v2:Nat), .i 59 (2^32* r:Nat), .i 62 (n - 2:Nat), .j 63 (n - 2), .e 64 (ax c), .i 65 c, .i 66 (2^32* r+c:Nat), .c false]=
 some ((Xt.exit 0,St.mk [(0,AV.bs 1000000 o 1 (n+(1:Nat))),(1,AV.pv (PV.sl 1 n cs)),(5,AV.pv (PV.lit (Value.int IntKind.i64 (↑n:Int)))),(7,AV.pv (PV.lit (Value.int IntKind.u64 (↑q:Int)))),(8,AV.pv (PV.lit (Value.int IntKind.u64 (↑r:Int)))),(68,AV.pv (PV.lit (Value.bool false)))] [(1000000,es)] [] []),[],[decide ((↑q:Int)≥(4294967296:Int))=false,IntKind.i64.wrap ((↑n:Int) - (2:Int))=(↑(n - (2:Nat)):Int),az cs 1 (↑(n - (2:Nat)):Int) n [PV.lit (Value.int IntKind.u32 (↑v2:Int))],IntKind.u64.wrap (↑v2:Int)=(↑v2:Int),IntKind.u64.wrap ((↑q:Int)* (↑v2:Int))=(↑(q* v2):Int),IntKind.u64.wrap ((↑r:Int)* (2:Int)^min (Int.toNat (32:Int)) IntKind.u64.bits)=(↑((2:Nat)^(32:Nat)* r):Int),false=false,IntKind.i64.wrap ((↑n:Int) - (2:Int))=(↑(n - (2:Nat)):Int),aG (↑(n - (2:Nat)):Int) (n+(1:Nat)) (n - (2:Nat)),Ld MD.P 111 es (o+(n - (2:Nat))* (1:Nat)) (PV.lit (Value.int IntKind.u32 (↑c:Int))),IntKind.u64.wrap (↑c:Int)=(↑c:Int),IntKind.u64.wrap (↑(BitVec.ofInt IntKind.u64.bits (↑((2:Nat)^(32:Nat)* r):Int)|||BitVec.ofInt IntKind.u64.bits (↑c:Int)).toNat:Int)=(↑((2:Nat)^(32:Nat)* r+c):Int),decide ((↑(q* v2):Int)>(↑((2:Nat)^(32:Nat)* r+c):Int))=false]):=by kernel_rfl
theorem Ve (k n o v1 v2 q r c:Nat) (es cs:List PV):ak MD t9 k 109 0 ⟨[(0, .bs 1000000 o 1 (n+1)),(1, .pv (.sl 1 n cs)),(5, .pv (iv n)),(7, .pv (bK q)),(8, .pv (bK r)),(80, .pv (bv false))],[(1000000,es)],[],[]⟩ [.c false, .i 53 (n - 2:Nat), .a 54 [ax v2], .i 56 v2, .i 57 (q* v2:Nat), .i 59 (2^32* r:Nat), .i 62 (n - 2:Nat), .j 63 (n - 2), .e 64 (ax c), .i 65 c, .i 66 (2^32* r+c:Nat), .c false]=
 some ((Xt.exit 0,St.mk [(0,AV.bs 1000000 o 1 (n+(1:Nat))),(1,AV.pv (PV.sl 1 n cs)),(5,AV.pv (PV.lit (Value.int IntKind.i64 (↑n:Int)))),(7,AV.pv (PV.lit (Value.int IntKind.u64 (↑q:Int)))),(8,AV.pv (PV.lit (Value.int IntKind.u64 (↑r:Int)))),(68,AV.pv (PV.lit (Value.bool false)))] [(1000000,es)] [] []),[],[decide ((↑q:Int)≥(4294967296:Int))=false,IntKind.i64.wrap ((↑n:Int) - (2:Int))=(↑(n - (2:Nat)):Int),az cs 1 (↑(n - (2:Nat)):Int) n [PV.lit (Value.int IntKind.u32 (↑v2:Int))],IntKind.u64.wrap (↑v2:Int)=(↑v2:Int),IntKind.u64.wrap ((↑q:Int)* (↑v2:Int))=(↑(q* v2):Int),IntKind.u64.wrap ((↑r:Int)* (2:Int)^min (Int.toNat (32:Int)) IntKind.u64.bits)=(↑((2:Nat)^(32:Nat)* r):Int),false=false,IntKind.i64.wrap ((↑n:Int) - (2:Int))=(↑(n - (2:Nat)):Int),aG (↑(n - (2:Nat)):Int) (n+(1:Nat)) (n - (2:Nat)),Ld MD.P 111 es (o+(n - (2:Nat))* (1:Nat)) (PV.lit (Value.int IntKind.u32 (↑c:Int))),IntKind.u64.wrap (↑c:Int)=(↑c:Int),IntKind.u64.wrap (↑(BitVec.ofInt IntKind.u64.bits (↑((2:Nat)^(32:Nat)* r):Int)|||BitVec.ofInt IntKind.u64.bits (↑c:Int)).toNat:Int)=(↑((2:Nat)^(32:Nat)* r+c):Int),decide ((↑(q* v2):Int)>(↑((2:Nat)^(32:Nat)* r+c):Int))=false]):=by kernel_rfl
theorem Vn (k n o q c bw i:Nat) (es cs:List PV):ak MD t9 k 109 1 ⟨[(0, .bs 1000000 o 1 (n+1)),(1, .pv (.sl 1 n cs)),(5, .pv (iv n)),(7, .pv (bK q)),(9, .pv (bK c)),(10, .pv (ax bw)),(81, .pv (.sl 1 n cs)),(82, .pv (iv n)),(83, .pv (iv i))],[(1000000,es)],[],[]⟩ [.c false]=
 some ((Xt.exit 2,St.mk [(0,AV.bs 1000000 o 1 (n+(1:Nat))),(1,AV.pv (PV.sl 1 n cs)),(5,AV.pv (PV.lit (Value.int IntKind.i64 (↑n:Int)))),(7,AV.pv (PV.lit (Value.int IntKind.u64 (↑q:Int)))),(9,AV.pv (PV.lit (Value.int IntKind.u64 (↑c:Int)))),(10,AV.pv (PV.lit (Value.int IntKind.u32 (↑bw:Int)))),(81,AV.pv (PV.sl 1 n cs)),(82,AV.pv (PV.lit (Value.int IntKind.i64 (↑n:Int)))),(83,AV.pv (PV.lit (Value.int IntKind.i64 (↑i:Int)))),(84,AV.pv (PV.lit (Value.bool false)))] [(1000000,es)] [] []),[],[decide ((↑i:Int)<(↑n:Int))=false]):=by kernel_rfl
theorem uO (k n o q c bw i x a c1 s b2:Nat) (es es' cs:List PV):ak MD t9 k 109 1 ⟨[(0, .bs 1000000 o 1 (n+1)),(1, .pv (.sl 1 n cs)),(5, .pv (iv n)),(7, .pv (bK q)),(9, .pv (bK c)),(10, .pv (ax bw)),(81, .pv (.sl 1 n cs)),(82, .pv (iv n)),(83, .pv (iv i))],[(1000000,es)],[],[]⟩ [.c true, .a 86 [ax x], .i 91 x, .i 92 (q* x:Nat), .i 93 c1, .j 99 i, .e 100 (ax a), .i 102 (c1%4294967296:Nat), .r (one (eK s b2)), .j 107 i, .s es', .i 109 (c1 / 4294967296:Nat), .i 110 (i+1:Nat)]=
 some ((Xt.normal,St.mk [(0,AV.bs 1000000 o 1 (n+(1:Nat))),(1,AV.pv (PV.sl 1 n cs)),(5,AV.pv (PV.lit (Value.int IntKind.i64 (↑n:Int)))),(7,AV.pv (PV.lit (Value.int IntKind.u64 (↑q:Int)))),(9,AV.pv (PV.lit (Value.int IntKind.u64 (↑(c1 / (4294967296:Nat)):Int)))),(10,AV.pv (PV.lit (Value.int IntKind.u32 (↑b2:Int)))),(81,AV.pv (PV.sl 1 n cs)),(82,AV.pv (PV.lit (Value.int IntKind.i64 (↑n:Int)))),(83,AV.pv (PV.lit (Value.int IntKind.i64 (↑(i+(1:Nat)):Int))))] [(1000000,es')] [] []),[],[decide ((↑i:Int)<(↑n:Int))=true,az cs 1 (↑i:Int) n [PV.lit (Value.int IntKind.u32 (↑x:Int))],IntKind.u64.wrap (↑x:Int)=(↑x:Int),IntKind.u64.wrap ((↑q:Int)* (↑x:Int))=(↑(q* x):Int),IntKind.u64.wrap ((↑c:Int)+(↑(q* x):Int))=(↑c1:Int),aG (↑i:Int) (n+(1:Nat)) i,Ld MD.P 111 es (o+i* (1:Nat)) (PV.lit (Value.int IntKind.u32 (↑a:Int))),IntKind.u32.wrap (↑c1:Int)=(↑(c1%(4294967296:Nat)):Int),aa t9 112 [PV.lit (Value.int IntKind.u32 (↑a:Int)),PV.lit (Value.int IntKind.u32 (↑(c1%(4294967296:Nat)):Int)),PV.lit (Value.int IntKind.u32 (↑bw:Int))] (RV.mk (PV.an [PV.lit (Value.int IntKind.u32 (↑s:Int)),PV.lit (Value.int IntKind.u32 (↑b2:Int))]) none),aG (↑i:Int) (n+(1:Nat)) i,o+i* (1:Nat)+(ax s).cells.length≤es.length,ck es (o+i* (1:Nat)) [PV.lit (Value.int IntKind.u32 (↑s:Int))] es',(↑c1:Int).fdiv ((2:Int)^min (Int.toNat (32:Int)) IntKind.u64.bits)=(↑(c1 / (4294967296:Nat)):Int),false=false,IntKind.i64.wrap ((↑i:Int)+(1:Int))=(↑(i+(1:Nat)):Int)]):=by kernel_rfl
theorem Vo (k n o q c i:Nat) (es cs:List PV):ak MD t9 k 109 2 ⟨[(0, .bs 1000000 o 1 (n+1)),(5, .pv (iv n)),(7, .pv (bK q)),(13, .pv (ax c)),(129, .pv (.sl 1 n cs)),(130, .pv (iv n)),(131, .pv (iv i))],[(1000000,es)],[],[]⟩ [.c false]=
 some ((Xt.exit 4,St.mk [(0,AV.bs 1000000 o 1 (n+(1:Nat))),(5,AV.pv (PV.lit (Value.int IntKind.i64 (↑n:Int)))),(7,AV.pv (PV.lit (Value.int IntKind.u64 (↑q:Int)))),(13,AV.pv (PV.lit (Value.int IntKind.u32 (↑c:Int)))),(129,AV.pv (PV.sl 1 n cs)),(130,AV.pv (PV.lit (Value.int IntKind.i64 (↑n:Int)))),(131,AV.pv (PV.lit (Value.int IntKind.i64 (↑i:Int)))),(132,AV.pv (PV.lit (Value.bool false)))] [(1000000,es)] [] []),[],[decide ((↑i:Int)<(↑n:Int))=false]):=by kernel_rfl
theorem Vp (k n o q c i x a s b2:Nat) (es es' cs:List PV):ak MD t9 k 109 2 ⟨[(0, .bs 1000000 o 1 (n+1)),(5, .pv (iv n)),(7, .pv (bK q)),(13, .pv (ax c)),(129, .pv (.sl 1 n cs)),(130, .pv (iv n)),(131, .pv (iv i))],[(1000000,es)],[],[]⟩ [.c true, .a 134 [ax x], .j 141 i, .e 142 (ax a), .r (one (eK s b2)), .j 148 i, .s es', .i 149 (i+1:Nat)]=
 some ((Xt.normal,St.mk [(0,AV.bs 1000000 o 1 (n+(1:Nat))),(5,AV.pv (PV.lit (Value.int IntKind.i64 (↑n:Int)))),(7,AV.pv (PV.lit (Value.int IntKind.u64 (↑q:Int)))),(13,AV.pv (PV.lit (Value.int IntKind.u32 (↑b2:Int)))),(129,AV.pv (PV.sl 1 n cs)),(130,AV.pv (PV.lit (Value.int IntKind.i64 (↑n:Int)))),(131,AV.pv (PV.lit (Value.int IntKind.i64 (↑(i+(1:Nat)):Int))))] [(1000000,es')] [] []),[],[decide ((↑i:Int)<(↑n:Int))=true,az cs 1 (↑i:Int) n [PV.lit (Value.int IntKind.u32 (↑x:Int))],aG (↑i:Int) (n+(1:Nat)) i,Ld MD.P 111 es (o+i* (1:Nat)) (PV.lit (Value.int IntKind.u32 (↑a:Int))),aa t9 111 [PV.lit (Value.int IntKind.u32 (↑a:Int)),PV.lit (Value.int IntKind.u32 (↑x:Int)),PV.lit (Value.int IntKind.u32 (↑c:Int))] (RV.mk (PV.an [PV.lit (Value.int IntKind.u32 (↑s:Int)),PV.lit (Value.int IntKind.u32 (↑b2:Int))]) none),aG (↑i:Int) (n+(1:Nat)) i,o+i* (1:Nat)+(ax s).cells.length≤es.length,ck es (o+i* (1:Nat)) [PV.lit (Value.int IntKind.u32 (↑s:Int))] es',IntKind.i64.wrap ((↑i:Int)+(1:Int))=(↑(i+(1:Nat)):Int)]):=by kernel_rfl
theorem Vf (k n o a b top v1 q r q2 r2 x c bw s:Nat) (es gJ j9 cs:List PV):hO MD t9 k 109 [.g es o 1 (n+1), .p (.sl 1 n cs)] [.j 20 n, .e 21 (ax a), .i 22 a, .i 23 (2^32* a:Nat), .i 26 (n - 1:Nat), .j 27 (n - 1), .e 28 (ax b), .i 29 b, .i 30 top, .i 34 (n - 1:Nat), .a 35 [ax v1], .i 37 v1, .i 38 q, .i 42 (n - 1:Nat), .a 43 [ax v1], .i 45 v1, .i 46 r, .l (.exit 0) ⟨[(0, .bs 1000000 o 1 (n+1)),(1, .pv (.sl 1 n cs)),(5, .pv (iv n)),(7, .pv (bK q2)),(8, .pv (bK r2)),(68, .pv (bv false))],[(1000000,es)],[],[]⟩, .l (.exit 2) ⟨[(0, .bs 1000000 o 1 (n+1)),(1, .pv (.sl 1 n cs)),(5, .pv (iv n)),(7, .pv (bK q2)),(9, .pv (bK c)),(10, .pv (ax bw)),(81, .pv (.sl 1 n cs)),(82, .pv (iv n)),(83, .pv (iv n)),(84, .pv (bv false))],[(1000000,gJ)],[],[]⟩, .j 116 n, .e 117 (ax x), .i 119 c, .r (one (eK s 0)), .j 124 n, .s j9, .c false, .i 158 q2]=
 some ((MR.pv (PV.lit (Value.int IntKind.u32 (↑q2:Int))),j9),[j9.all bS=true,j9.length=es.length,aG (↑n:Int) (n+(1:Nat)) n,Ld MD.P 111 es (o+n* (1:Nat)) (PV.lit (Value.int IntKind.u32 (↑a:Int))),IntKind.u64.wrap (↑a:Int)=(↑a:Int),IntKind.u64.wrap ((↑a:Int)* (2:Int)^min (Int.toNat (32:Int)) IntKind.u64.bits)=(↑((2:Nat)^(32:Nat)* a):Int),false=false,IntKind.i64.wrap ((↑n:Int) - (1:Int))=(↑(n - (1:Nat)):Int),aG (↑(n - (1:Nat)):Int) (n+(1:Nat)) (n - (1:Nat)),Ld MD.P 111 es (o+(n - (1:Nat))* (1:Nat)) (PV.lit (Value.int IntKind.u32 (↑b:Int))),IntKind.u64.wrap (↑b:Int)=(↑b:Int),IntKind.u64.wrap (↑(BitVec.ofInt IntKind.u64.bits (↑((2:Nat)^(32:Nat)* a):Int)|||BitVec.ofInt IntKind.u64.bits (↑b:Int)).toNat:Int)=(↑top:Int),IntKind.i64.wrap ((↑n:Int) - (1:Int))=(↑(n - (1:Nat)):Int),az cs 1 (↑(n - (1:Nat)):Int) n [PV.lit (Value.int IntKind.u32 (↑v1:Int))],IntKind.u64.wrap (↑v1:Int)=(↑v1:Int),IntKind.u64.wrap ((↑top:Int).tdiv (↑v1:Int))=(↑q:Int),decide ((↑v1:Int)=(0:Int))=false,IntKind.i64.wrap ((↑n:Int) - (1:Int))=(↑(n - (1:Nat)):Int),az cs 1 (↑(n - (1:Nat)):Int) n [PV.lit (Value.int IntKind.u32 (↑v1:Int))],IntKind.u64.wrap (↑v1:Int)=(↑v1:Int),(↑top:Int).tmod (↑v1:Int)=(↑r:Int),decide ((↑v1:Int)=(0:Int))=false,aN MD t9 k (109:Nat) (0:Nat) (St.mk [(0,AV.bs 1000000 o 1 (n+(1:Nat))),(1,AV.pv (PV.sl 1 n cs)),(5,AV.pv (PV.lit (Value.int IntKind.i64 (↑n:Int)))),(7,AV.pv (PV.lit (Value.int IntKind.u64 (↑q:Int)))),(8,AV.pv (PV.lit (Value.int IntKind.u64 (↑r:Int))))] [(1000000,es)] [] []) (Xt.exit 0) (St.mk [(0,AV.bs 1000000 o 1 (n+(1:Nat))),(1,AV.pv (PV.sl 1 n cs)),(5,AV.pv (PV.lit (Value.int IntKind.i64 (↑n:Int)))),(7,AV.pv (PV.lit (Value.int IntKind.u64 (↑q2:Int)))),(8,AV.pv (PV.lit (Value.int IntKind.u64 (↑r2:Int)))),(68,AV.pv (PV.lit (Value.bool false)))] [(1000000,es)] [] []),aN MD t9 k (109:Nat) (1:Nat) (St.mk [(0,AV.bs 1000000 o 1 (n+(1:Nat))),(1,AV.pv (PV.sl 1 n cs)),(5,AV.pv (PV.lit (Value.int IntKind.i64 (↑n:Int)))),(7,AV.pv (PV.lit (Value.int IntKind.u64 (↑q2:Int)))),(9,AV.pv (PV.lit (Value.int IntKind.u64 (0:Int)))),(10,AV.pv (PV.lit (Value.int IntKind.u32 (0:Int)))),(81,AV.pv (PV.sl 1 n cs)),(82,AV.pv (PV.lit (Value.int IntKind.i64 (↑n:Int)))),(83,AV.pv (PV.lit (Value.int IntKind.i64 (0:Int))))] [(1000000,es)] [] []) (Xt.exit 2) (St.mk [(0,AV.bs 1000000 o 1 (n+(1:Nat))),(1,AV.pv (PV.sl 1 n cs)),(5,AV.pv (PV.lit (Value.int IntKind.i64 (↑n:Int)))),(7,AV.pv (PV.lit (Value.int IntKind.u64 (↑q2:Int)))),(9,AV.pv (PV.lit (Value.int IntKind.u64 (↑c:Int)))),(10,AV.pv (PV.lit (Value.int IntKind.u32 (↑bw:Int)))),(81,AV.pv (PV.sl 1 n cs)),(82,AV.pv (PV.lit (Value.int IntKind.i64 (↑n:Int)))),(83,AV.pv (PV.lit (Value.int IntKind.i64 (↑n:Int)))),(84,AV.pv (PV.lit (Value.bool false)))] [(1000000,gJ)] [] []),aG (↑n:Int) (n+(1:Nat)) n,Ld MD.P 111 gJ (o+n* (1:Nat)) (PV.lit (Value.int IntKind.u32 (↑x:Int))),IntKind.u32.wrap (↑c:Int)=(↑c:Int),aa t9 112 [PV.lit (Value.int IntKind.u32 (↑x:Int)),PV.lit (Value.int IntKind.u32 (↑c:Int)),PV.lit (Value.int IntKind.u32 (↑bw:Int))] (RV.mk (PV.an [PV.lit (Value.int IntKind.u32 (↑s:Int)),PV.lit (Value.int IntKind.u32 (0:Int))]) none),aG (↑n:Int) (n+(1:Nat)) n,o+n* (1:Nat)+(ax s).cells.length≤gJ.length,ck gJ (o+n* (1:Nat)) [PV.lit (Value.int IntKind.u32 (↑s:Int))] j9,false=false,IntKind.u32.wrap (↑q2:Int)=(↑q2:Int)]):=by kernel_rfl
theorem Vg (k n o a b top v1 q r q2 r2 x c bw s:Nat) (es gJ j9 cs:List PV):hO MD t9 k 109 [.g es o 1 (n+1), .p (.sl 1 n cs)] [.j 20 n, .e 21 (ax a), .i 22 a, .i 23 (2^32* a:Nat), .i 26 (n - 1:Nat), .j 27 (n - 1), .e 28 (ax b), .i 29 b, .i 30 top, .i 34 (n - 1:Nat), .a 35 [ax v1], .i 37 v1, .i 38 q, .i 42 (n - 1:Nat), .a 43 [ax v1], .i 45 v1, .i 46 r, .l (.exit 0) ⟨[(0, .bs 1000000 o 1 (n+1)),(1, .pv (.sl 1 n cs)),(5, .pv (iv n)),(7, .pv (bK q2)),(8, .pv (bK r2)),(80, .pv (bv true))],[(1000000,es)],[],[]⟩, .l (.exit 2) ⟨[(0, .bs 1000000 o 1 (n+1)),(1, .pv (.sl 1 n cs)),(5, .pv (iv n)),(7, .pv (bK q2)),(9, .pv (bK c)),(10, .pv (ax bw)),(81, .pv (.sl 1 n cs)),(82, .pv (iv n)),(83, .pv (iv n)),(84, .pv (bv false))],[(1000000,gJ)],[],[]⟩, .j 116 n, .e 117 (ax x), .i 119 c, .r (one (eK s 0)), .j 124 n, .s j9, .c false, .i 158 q2]=
 some ((MR.pv (PV.lit (Value.int IntKind.u32 (↑q2:Int))),j9),[j9.all bS=true,j9.length=es.length,aG (↑n:Int) (n+(1:Nat)) n,Ld MD.P 111 es (o+n* (1:Nat)) (PV.lit (Value.int IntKind.u32 (↑a:Int))),IntKind.u64.wrap (↑a:Int)=(↑a:Int),IntKind.u64.wrap ((↑a:Int)* (2:Int)^min (Int.toNat (32:Int)) IntKind.u64.bits)=(↑((2:Nat)^(32:Nat)* a):Int),false=false,IntKind.i64.wrap ((↑n:Int) - (1:Int))=(↑(n - (1:Nat)):Int),aG (↑(n - (1:Nat)):Int) (n+(1:Nat)) (n - (1:Nat)),Ld MD.P 111 es (o+(n - (1:Nat))* (1:Nat)) (PV.lit (Value.int IntKind.u32 (↑b:Int))),IntKind.u64.wrap (↑b:Int)=(↑b:Int),IntKind.u64.wrap (↑(BitVec.ofInt IntKind.u64.bits (↑((2:Nat)^(32:Nat)* a):Int)|||BitVec.ofInt IntKind.u64.bits (↑b:Int)).toNat:Int)=(↑top:Int),IntKind.i64.wrap ((↑n:Int) - (1:Int))=(↑(n - (1:Nat)):Int),az cs 1 (↑(n - (1:Nat)):Int) n [PV.lit (Value.int IntKind.u32 (↑v1:Int))],IntKind.u64.wrap (↑v1:Int)=(↑v1:Int),IntKind.u64.wrap ((↑top:Int).tdiv (↑v1:Int))=(↑q:Int),decide ((↑v1:Int)=(0:Int))=false,IntKind.i64.wrap ((↑n:Int) - (1:Int))=(↑(n - (1:Nat)):Int),az cs 1 (↑(n - (1:Nat)):Int) n [PV.lit (Value.int IntKind.u32 (↑v1:Int))],IntKind.u64.wrap (↑v1:Int)=(↑v1:Int),(↑top:Int).tmod (↑v1:Int)=(↑r:Int),decide ((↑v1:Int)=(0:Int))=false,aN MD t9 k (109:Nat) (0:Nat) (St.mk [(0,AV.bs 1000000 o 1 (n+(1:Nat))),(1,AV.pv (PV.sl 1 n cs)),(5,AV.pv (PV.lit (Value.int IntKind.i64 (↑n:Int)))),(7,AV.pv (PV.lit (Value.int IntKind.u64 (↑q:Int)))),(8,AV.pv (PV.lit (Value.int IntKind.u64 (↑r:Int))))] [(1000000,es)] [] []) (Xt.exit 0) (St.mk [(0,AV.bs 1000000 o 1 (n+(1:Nat))),(1,AV.pv (PV.sl 1 n cs)),(5,AV.pv (PV.lit (Value.int IntKind.i64 (↑n:Int)))),(7,AV.pv (PV.lit (Value.int IntKind.u64 (↑q2:Int)))),(8,AV.pv (PV.lit (Value.int IntKind.u64 (↑r2:Int)))),(80,AV.pv (PV.lit (Value.bool true)))] [(1000000,es)] [] []),aN MD t9 k (109:Nat) (1:Nat) (St.mk [(0,AV.bs 1000000 o 1 (n+(1:Nat))),(1,AV.pv (PV.sl 1 n cs)),(5,AV.pv (PV.lit (Value.int IntKind.i64 (↑n:Int)))),(7,AV.pv (PV.lit (Value.int IntKind.u64 (↑q2:Int)))),(9,AV.pv (PV.lit (Value.int IntKind.u64 (0:Int)))),(10,AV.pv (PV.lit (Value.int IntKind.u32 (0:Int)))),(81,AV.pv (PV.sl 1 n cs)),(82,AV.pv (PV.lit (Value.int IntKind.i64 (↑n:Int)))),(83,AV.pv (PV.lit (Value.int IntKind.i64 (0:Int))))] [(1000000,es)] [] []) (Xt.exit 2) (St.mk [(0,AV.bs 1000000 o 1 (n+(1:Nat))),(1,AV.pv (PV.sl 1 n cs)),(5,AV.pv (PV.lit (Value.int IntKind.i64 (↑n:Int)))),(7,AV.pv (PV.lit (Value.int IntKind.u64 (↑q2:Int)))),(9,AV.pv (PV.lit (Value.int IntKind.u64 (↑c:Int)))),(10,AV.pv (PV.lit (Value.int IntKind.u32 (↑bw:Int)))),(81,AV.pv (PV.sl 1 n cs)),(82,AV.pv (PV.lit (Value.int IntKind.i64 (↑n:Int)))),(83,AV.pv (PV.lit (Value.int IntKind.i64 (↑n:Int)))),(84,AV.pv (PV.lit (Value.bool false)))] [(1000000,gJ)] [] []),aG (↑n:Int) (n+(1:Nat)) n,Ld MD.P 111 gJ (o+n* (1:Nat)) (PV.lit (Value.int IntKind.u32 (↑x:Int))),IntKind.u32.wrap (↑c:Int)=(↑c:Int),aa t9 112 [PV.lit (Value.int IntKind.u32 (↑x:Int)),PV.lit (Value.int IntKind.u32 (↑c:Int)),PV.lit (Value.int IntKind.u32 (↑bw:Int))] (RV.mk (PV.an [PV.lit (Value.int IntKind.u32 (↑s:Int)),PV.lit (Value.int IntKind.u32 (0:Int))]) none),aG (↑n:Int) (n+(1:Nat)) n,o+n* (1:Nat)+(ax s).cells.length≤gJ.length,ck gJ (o+n* (1:Nat)) [PV.lit (Value.int IntKind.u32 (↑s:Int))] j9,false=false,IntKind.u32.wrap (↑q2:Int)=(↑q2:Int)]):=by kernel_rfl
theorem Vh (k n o a b top v1 q r q2 r2 x c bw s q3 y c3 z:Nat) (es gJ j9 rz rA cs:List PV):hO MD t9 k 109 [.g es o 1 (n+1), .p (.sl 1 n cs)] [.j 20 n, .e 21 (ax a), .i 22 a, .i 23 (2^32* a:Nat), .i 26 (n - 1:Nat), .j 27 (n - 1), .e 28 (ax b), .i 29 b, .i 30 top, .i 34 (n - 1:Nat), .a 35 [ax v1], .i 37 v1, .i 38 q, .i 42 (n - 1:Nat), .a 43 [ax v1], .i 45 v1, .i 46 r, .l (.exit 0) ⟨[(0, .bs 1000000 o 1 (n+1)),(1, .pv (.sl 1 n cs)),(5, .pv (iv n)),(7, .pv (bK q2)),(8, .pv (bK r2)),(68, .pv (bv false))],[(1000000,es)],[],[]⟩, .l (.exit 2) ⟨[(0, .bs 1000000 o 1 (n+1)),(1, .pv (.sl 1 n cs)),(5, .pv (iv n)),(7, .pv (bK q2)),(9, .pv (bK c)),(10, .pv (ax bw)),(81, .pv (.sl 1 n cs)),(82, .pv (iv n)),(83, .pv (iv n)),(84, .pv (bv false))],[(1000000,gJ)],[],[]⟩, .j 116 n, .e 117 (ax x), .i 119 c, .r (one (eK s 1)), .j 124 n, .s j9, .c true, .i 128 q3, .l (.exit 4) ⟨[(0, .bs 1000000 o 1 (n+1)),(5, .pv (iv n)),(7, .pv (bK q3)),(13, .pv (ax c3)),(129, .pv (.sl 1 n cs)),(130, .pv (iv n)),(131, .pv (iv n)),(132, .pv (bv false))],[(1000000,rz)],[],[]⟩, .j 152 n, .e 153 (ax y), .i 155 z, .j 156 n, .s rA, .i 158 q3]=
 some ((MR.pv (PV.lit (Value.int IntKind.u32 (↑q3:Int))),rA),[rA.all bS=true,rA.length=es.length,aG (↑n:Int) (n+(1:Nat)) n,Ld MD.P 111 es (o+n* (1:Nat)) (PV.lit (Value.int IntKind.u32 (↑a:Int))),IntKind.u64.wrap (↑a:Int)=(↑a:Int),IntKind.u64.wrap ((↑a:Int)* (2:Int)^min (Int.toNat (32:Int)) IntKind.u64.bits)=(↑((2:Nat)^(32:Nat)* a):Int),false=false,IntKind.i64.wrap ((↑n:Int) - (1:Int))=(↑(n - (1:Nat)):Int),aG (↑(n - (1:Nat)):Int) (n+(1:Nat)) (n - (1:Nat)),Ld MD.P 111 es (o+(n - (1:Nat))* (1:Nat)) (PV.lit (Value.int IntKind.u32 (↑b:Int))),IntKind.u64.wrap (↑b:Int)=(↑b:Int),IntKind.u64.wrap (↑(BitVec.ofInt IntKind.u64.bits (↑((2:Nat)^(32:Nat)* a):Int)|||BitVec.ofInt IntKind.u64.bits (↑b:Int)).toNat:Int)=(↑top:Int),IntKind.i64.wrap ((↑n:Int) - (1:Int))=(↑(n - (1:Nat)):Int),az cs 1 (↑(n - (1:Nat)):Int) n [PV.lit (Value.int IntKind.u32 (↑v1:Int))],IntKind.u64.wrap (↑v1:Int)=(↑v1:Int),IntKind.u64.wrap ((↑top:Int).tdiv (↑v1:Int))=(↑q:Int),decide ((↑v1:Int)=(0:Int))=false,IntKind.i64.wrap ((↑n:Int) - (1:Int))=(↑(n - (1:Nat)):Int),az cs 1 (↑(n - (1:Nat)):Int) n [PV.lit (Value.int IntKind.u32 (↑v1:Int))],IntKind.u64.wrap (↑v1:Int)=(↑v1:Int),(↑top:Int).tmod (↑v1:Int)=(↑r:Int),decide ((↑v1:Int)=(0:Int))=false,aN MD t9 k (109:Nat) (0:Nat) (St.mk [(0,AV.bs 1000000 o 1 (n+(1:Nat))),(1,AV.pv (PV.sl 1 n cs)),(5,AV.pv (PV.lit (Value.int IntKind.i64 (↑n:Int)))),(7,AV.pv (PV.lit (Value.int IntKind.u64 (↑q:Int)))),(8,AV.pv (PV.lit (Value.int IntKind.u64 (↑r:Int))))] [(1000000,es)] [] []) (Xt.exit 0) (St.mk [(0,AV.bs 1000000 o 1 (n+(1:Nat))),(1,AV.pv (PV.sl 1 n cs)),(5,AV.pv (PV.lit (Value.int IntKind.i64 (↑n:Int)))),(7,AV.pv (PV.lit (Value.int IntKind.u64 (↑q2:Int)))),(8,AV.pv (PV.lit (Value.int IntKind.u64 (↑r2:Int)))),(68,AV.pv (PV.lit (Value.bool false)))] [(1000000,es)] [] []),aN MD t9 k (109:Nat) (1:Nat) (St.mk [(0,AV.bs 1000000 o 1 (n+(1:Nat))),(1,AV.pv (PV.sl 1 n cs)),(5,AV.pv (PV.lit (Value.int IntKind.i64 (↑n:Int)))),(7,AV.pv (PV.lit (Value.int IntKind.u64 (↑q2:Int)))),(9,AV.pv (PV.lit (Value.int IntKind.u64 (0:Int)))),(10,AV.pv (PV.lit (Value.int IntKind.u32 (0:Int)))),(81,AV.pv (PV.sl 1 n cs)),(82,AV.pv (PV.lit (Value.int IntKind.i64 (↑n:Int)))),(83,AV.pv (PV.lit (Value.int IntKind.i64 (0:Int))))] [(1000000,es)] [] []) (Xt.exit 2) (St.mk [(0,AV.bs 1000000 o 1 (n+(1:Nat))),(1,AV.pv (PV.sl 1 n cs)),(5,AV.pv (PV.lit (Value.int IntKind.i64 (↑n:Int)))),(7,AV.pv (PV.lit (Value.int IntKind.u64 (↑q2:Int)))),(9,AV.pv (PV.lit (Value.int IntKind.u64 (↑c:Int)))),(10,AV.pv (PV.lit (Value.int IntKind.u32 (↑bw:Int)))),(81,AV.pv (PV.sl 1 n cs)),(82,AV.pv (PV.lit (Value.int IntKind.i64 (↑n:Int)))),(83,AV.pv (PV.lit (Value.int IntKind.i64 (↑n:Int)))),(84,AV.pv (PV.lit (Value.bool false)))] [(1000000,gJ)] [] []),aG (↑n:Int) (n+(1:Nat)) n,Ld MD.P 111 gJ (o+n* (1:Nat)) (PV.lit (Value.int IntKind.u32 (↑x:Int))),IntKind.u32.wrap (↑c:Int)=(↑c:Int),aa t9 112 [PV.lit (Value.int IntKind.u32 (↑x:Int)),PV.lit (Value.int IntKind.u32 (↑c:Int)),PV.lit (Value.int IntKind.u32 (↑bw:Int))] (RV.mk (PV.an [PV.lit (Value.int IntKind.u32 (↑s:Int)),PV.lit (Value.int IntKind.u32 (1:Int))]) none),aG (↑n:Int) (n+(1:Nat)) n,o+n* (1:Nat)+(ax s).cells.length≤gJ.length,ck gJ (o+n* (1:Nat)) [PV.lit (Value.int IntKind.u32 (↑s:Int))] j9,true=true,IntKind.u64.wrap ((↑q2:Int) - (1:Int))=(↑q3:Int),aN MD t9 k (109:Nat) (2:Nat) (St.mk [(0,AV.bs 1000000 o 1 (n+(1:Nat))),(5,AV.pv (PV.lit (Value.int IntKind.i64 (↑n:Int)))),(7,AV.pv (PV.lit (Value.int IntKind.u64 (↑q3:Int)))),(13,AV.pv (PV.lit (Value.int IntKind.u32 (0:Int)))),(129,AV.pv (PV.sl 1 n cs)),(130,AV.pv (PV.lit (Value.int IntKind.i64 (↑n:Int)))),(131,AV.pv (PV.lit (Value.int IntKind.i64 (0:Int))))] [(1000000,j9)] [] []) (Xt.exit 4) (St.mk [(0,AV.bs 1000000 o 1 (n+(1:Nat))),(5,AV.pv (PV.lit (Value.int IntKind.i64 (↑n:Int)))),(7,AV.pv (PV.lit (Value.int IntKind.u64 (↑q3:Int)))),(13,AV.pv (PV.lit (Value.int IntKind.u32 (↑c3:Int)))),(129,AV.pv (PV.sl 1 n cs)),(130,AV.pv (PV.lit (Value.int IntKind.i64 (↑n:Int)))),(131,AV.pv (PV.lit (Value.int IntKind.i64 (↑n:Int)))),(132,AV.pv (PV.lit (Value.bool false)))] [(1000000,rz)] [] []),aG (↑n:Int) (n+(1:Nat)) n,Ld MD.P 111 rz (o+n* (1:Nat)) (PV.lit (Value.int IntKind.u32 (↑y:Int))),IntKind.u32.wrap ((↑y:Int)+(↑c3:Int))=(↑z:Int),aG (↑n:Int) (n+(1:Nat)) n,o+n* (1:Nat)+(PV.lit (Value.int IntKind.u32 (↑z:Int))).cells.length≤rz.length,ck rz (o+n* (1:Nat)) [PV.lit (Value.int IntKind.u32 (↑z:Int))] rA,IntKind.u32.wrap (↑q3:Int)=(↑q3:Int)]):=by kernel_rfl
theorem Vi (k n o a b top v1 q r q2 r2 x c bw s q3 y c3 z:Nat) (es gJ j9 rz rA cs:List PV):hO MD t9 k 109 [.g es o 1 (n+1), .p (.sl 1 n cs)] [.j 20 n, .e 21 (ax a), .i 22 a, .i 23 (2^32* a:Nat), .i 26 (n - 1:Nat), .j 27 (n - 1), .e 28 (ax b), .i 29 b, .i 30 top, .i 34 (n - 1:Nat), .a 35 [ax v1], .i 37 v1, .i 38 q, .i 42 (n - 1:Nat), .a 43 [ax v1], .i 45 v1, .i 46 r, .l (.exit 0) ⟨[(0, .bs 1000000 o 1 (n+1)),(1, .pv (.sl 1 n cs)),(5, .pv (iv n)),(7, .pv (bK q2)),(8, .pv (bK r2)),(80, .pv (bv true))],[(1000000,es)],[],[]⟩, .l (.exit 2) ⟨[(0, .bs 1000000 o 1 (n+1)),(1, .pv (.sl 1 n cs)),(5, .pv (iv n)),(7, .pv (bK q2)),(9, .pv (bK c)),(10, .pv (ax bw)),(81, .pv (.sl 1 n cs)),(82, .pv (iv n)),(83, .pv (iv n)),(84, .pv (bv false))],[(1000000,gJ)],[],[]⟩, .j 116 n, .e 117 (ax x), .i 119 c, .r (one (eK s 1)), .j 124 n, .s j9, .c true, .i 128 q3, .l (.exit 4) ⟨[(0, .bs 1000000 o 1 (n+1)),(5, .pv (iv n)),(7, .pv (bK q3)),(13, .pv (ax c3)),(129, .pv (.sl 1 n cs)),(130, .pv (iv n)),(131, .pv (iv n)),(132, .pv (bv false))],[(1000000,rz)],[],[]⟩, .j 152 n, .e 153 (ax y), .i 155 z, .j 156 n, .s rA, .i 158 q3]=
 some ((MR.pv (PV.lit (Value.int IntKind.u32 (↑q3:Int))),rA),[rA.all bS=true,rA.length=es.length,aG (↑n:Int) (n+(1:Nat)) n,Ld MD.P 111 es (o+n* (1:Nat)) (PV.lit (Value.int IntKind.u32 (↑a:Int))),IntKind.u64.wrap (↑a:Int)=(↑a:Int),IntKind.u64.wrap ((↑a:Int)* (2:Int)^min (Int.toNat (32:Int)) IntKind.u64.bits)=(↑((2:Nat)^(32:Nat)* a):Int),false=false,IntKind.i64.wrap ((↑n:Int) - (1:Int))=(↑(n - (1:Nat)):Int),aG (↑(n - (1:Nat)):Int) (n+(1:Nat)) (n - (1:Nat)),Ld MD.P 111 es (o+(n - (1:Nat))* (1:Nat)) (PV.lit (Value.int IntKind.u32 (↑b:Int))),IntKind.u64.wrap (↑b:Int)=(↑b:Int),IntKind.u64.wrap (↑(BitVec.ofInt IntKind.u64.bits (↑((2:Nat)^(32:Nat)* a):Int)|||BitVec.ofInt IntKind.u64.bits (↑b:Int)).toNat:Int)=(↑top:Int),IntKind.i64.wrap ((↑n:Int) - (1:Int))=(↑(n - (1:Nat)):Int),az cs 1 (↑(n - (1:Nat)):Int) n [PV.lit (Value.int IntKind.u32 (↑v1:Int))],IntKind.u64.wrap (↑v1:Int)=(↑v1:Int),IntKind.u64.wrap ((↑top:Int).tdiv (↑v1:Int))=(↑q:Int),decide ((↑v1:Int)=(0:Int))=false,IntKind.i64.wrap ((↑n:Int) - (1:Int))=(↑(n - (1:Nat)):Int),az cs 1 (↑(n - (1:Nat)):Int) n [PV.lit (Value.int IntKind.u32 (↑v1:Int))],IntKind.u64.wrap (↑v1:Int)=(↑v1:Int),(↑top:Int).tmod (↑v1:Int)=(↑r:Int),decide ((↑v1:Int)=(0:Int))=false,aN MD t9 k (109:Nat) (0:Nat) (St.mk [(0,AV.bs 1000000 o 1 (n+(1:Nat))),(1,AV.pv (PV.sl 1 n cs)),(5,AV.pv (PV.lit (Value.int IntKind.i64 (↑n:Int)))),(7,AV.pv (PV.lit (Value.int IntKind.u64 (↑q:Int)))),(8,AV.pv (PV.lit (Value.int IntKind.u64 (↑r:Int))))] [(1000000,es)] [] []) (Xt.exit 0) (St.mk [(0,AV.bs 1000000 o 1 (n+(1:Nat))),(1,AV.pv (PV.sl 1 n cs)),(5,AV.pv (PV.lit (Value.int IntKind.i64 (↑n:Int)))),(7,AV.pv (PV.lit (Value.int IntKind.u64 (↑q2:Int)))),(8,AV.pv (PV.lit (Value.int IntKind.u64 (↑r2:Int)))),(80,AV.pv (PV.lit (Value.bool true)))] [(1000000,es)] [] []),aN MD t9 k (109:Nat) (1:Nat) (St.mk [(0,AV.bs 1000000 o 1 (n+(1:Nat))),(1,AV.pv (PV.sl 1 n cs)),(5,AV.pv (PV.lit (Value.int IntKind.i64 (↑n:Int)))),(7,AV.pv (PV.lit (Value.int IntKind.u64 (↑q2:Int)))),(9,AV.pv (PV.lit (Value.int IntKind.u64 (0:Int)))),(10,AV.pv (PV.lit (Value.int IntKind.u32 (0:Int)))),(81,AV.pv (PV.sl 1 n cs)),(82,AV.pv (PV.lit (Value.int IntKind.i64 (↑n:Int)))),(83,AV.pv (PV.lit (Value.int IntKind.i64 (0:Int))))] [(1000000,es)] [] []) (Xt.exit 2) (St.mk [(0,AV.bs 1000000 o 1 (n+(1:Nat))),(1,AV.pv (PV.sl 1 n cs)),(5,AV.pv (PV.lit (Value.int IntKind.i64 (↑n:Int)))),(7,AV.pv (PV.lit (Value.int IntKind.u64 (↑q2:Int)))),(9,AV.pv (PV.lit (Value.int IntKind.u64 (↑c:Int)))),(10,AV.pv (PV.lit (Value.int IntKind.u32 (↑bw:Int)))),(81,AV.pv (PV.sl 1 n cs)),(82,AV.pv (PV.lit (Value.int IntKind.i64 (↑n:Int)))),(83,AV.pv (PV.lit (Value.int IntKind.i64 (↑n:Int)))),(84,AV.pv (PV.lit (Value.bool false)))] [(1000000,gJ)] [] []),aG (↑n:Int) (n+(1:Nat)) n,Ld MD.P 111 gJ (o+n* (1:Nat)) (PV.lit (Value.int IntKind.u32 (↑x:Int))),IntKind.u32.wrap (↑c:Int)=(↑c:Int),aa t9 112 [PV.lit (Value.int IntKind.u32 (↑x:Int)),PV.lit (Value.int IntKind.u32 (↑c:Int)),PV.lit (Value.int IntKind.u32 (↑bw:Int))] (RV.mk (PV.an [PV.lit (Value.int IntKind.u32 (↑s:Int)),PV.lit (Value.int IntKind.u32 (1:Int))]) none),aG (↑n:Int) (n+(1:Nat)) n,o+n* (1:Nat)+(ax s).cells.length≤gJ.length,ck gJ (o+n* (1:Nat)) [PV.lit (Value.int IntKind.u32 (↑s:Int))] j9,true=true,IntKind.u64.wrap ((↑q2:Int) - (1:Int))=(↑q3:Int),aN MD t9 k (109:Nat) (2:Nat) (St.mk [(0,AV.bs 1000000 o 1 (n+(1:Nat))),(5,AV.pv (PV.lit (Value.int IntKind.i64 (↑n:Int)))),(7,AV.pv (PV.lit (Value.int IntKind.u64 (↑q3:Int)))),(13,AV.pv (PV.lit (Value.int IntKind.u32 (0:Int)))),(129,AV.pv (PV.sl 1 n cs)),(130,AV.pv (PV.lit (Value.int IntKind.i64 (↑n:Int)))),(131,AV.pv (PV.lit (Value.int IntKind.i64 (0:Int))))] [(1000000,j9)] [] []) (Xt.exit 4) (St.mk [(0,AV.bs 1000000 o 1 (n+(1:Nat))),(5,AV.pv (PV.lit (Value.int IntKind.i64 (↑n:Int)))),(7,AV.pv (PV.lit (Value.int IntKind.u64 (↑q3:Int)))),(13,AV.pv (PV.lit (Value.int IntKind.u32 (↑c3:Int)))),(129,AV.pv (PV.sl 1 n cs)),(130,AV.pv (PV.lit (Value.int IntKind.i64 (↑n:Int)))),(131,AV.pv (PV.lit (Value.int IntKind.i64 (↑n:Int)))),(132,AV.pv (PV.lit (Value.bool false)))] [(1000000,rz)] [] []),aG (↑n:Int) (n+(1:Nat)) n,Ld MD.P 111 rz (o+n* (1:Nat)) (PV.lit (Value.int IntKind.u32 (↑y:Int))),IntKind.u32.wrap ((↑y:Int)+(↑c3:Int))=(↑z:Int),aG (↑n:Int) (n+(1:Nat)) n,o+n* (1:Nat)+(PV.lit (Value.int IntKind.u32 (↑z:Int))).cells.length≤rz.length,ck rz (o+n* (1:Nat)) [PV.lit (Value.int IntKind.u32 (↑z:Int))] rA,IntKind.u32.wrap (↑q3:Int)=(↑q3:Int)]):=by kernel_rfl
def eW (pre W post:List Nat):List Nat:=pre++W++post
theorem kZ {pre W post:List Nat} {i x:Nat} (h:W[i]? =some x):(eW pre W post)[pre.length+i]? =some x:=by
 have hi:=gK h
 simp only [eW,List.append_assoc]
 rw [List.getElem?_append_right (by omega),Nat.add_sub_cancel_left,List.getElem?_append_left hi,h]
theorem sJ {pre W post:List Nat} {i:Nat} (h:i<W.length) (y:Nat):(eW pre W post).set (pre.length+i) y=eW pre (W.set i y) post:=by
 simp only [eW,List.append_assoc]
 rw [List.set_append_right _ _ (by omega),Nat.add_sub_cancel_left,List.set_append_left _ _ h]
theorem eO (pre W post:List Nat):(eW pre W post).length=pre.length+W.length+post.length:=by simp [eW];omega
structure jE (pre W post V:List Nat) (n a b c v1 v2:Nat):Prop where
 hV:V.length=n
 hW:W.length=n+1
 dV:bB (4294967296:Nat) V
 dW:bB (4294967296:Nat) W
 ga:W[n]? =some a
 gb:W[n - 1]? =some b
 gc:W[n - 2]? =some c
 g1:V[n - 1]? =some v1
 g2:V[n - 2]? =some v2
 hn:2≤n
 sz:(eW pre W post).length<2^40
 top:(4294967296:Nat)≤2* v1
 lt:val (4294967296:Nat) W<(4294967296:Nat)* val (4294967296:Nat) V
theorem O7 {l:List Nat} {n a b c:Nat} (hl:l.length=n+1) (hn:2≤n) (ga:l[n]? =some a) (gb:l[n - 1]? =some b) (gc:l[n - 2]? =some c):val (4294967296:Nat) l=((a* (4294967296:Nat)+b)* (4294967296:Nat)+c)* (4294967296:Nat)^(n - 2)+val (4294967296:Nat) (l.take (n - 2)):=by
 have e1:=cG (b:=(4294967296:Nat)) gc
 rw [show n - 2+1=n - 1 by omega] at e1
 have e2:=cG (b:=(4294967296:Nat)) gb
 rw [show n - 1+1=n by omega] at e2
 have e3:=cG (b:=(4294967296:Nat)) ga
 rw [List.take_of_length_le (by omega)] at e3
 rw [e3,e2,e1]
 have p1:(4294967296:Nat)^(n - 1)=(4294967296:Nat)^(n - 2)* (4294967296:Nat):=by rw [←Nat.pow_succ];congr 1;omega
 have p2:(4294967296:Nat)^n=(4294967296:Nat)^(n - 2)* (4294967296:Nat)* (4294967296:Nat):=by rw [←p1,←Nat.pow_succ];congr 1;omega
 rw [p1,p2]
 obtain ⟨P,hP⟩:∃P,P=(4294967296:Nat)^(n - 2):=⟨_,rfl⟩
 rw [←hP]
 have h1:((a* (4294967296:Nat)+b)* (4294967296:Nat)+c)* P=a* (4294967296:Nat)* (4294967296:Nat)* P+b* (4294967296:Nat)* P+c* P:=by simp only [Nat.add_mul]
 have h2:P* (4294967296:Nat)* (4294967296:Nat)* a=a* (4294967296:Nat)* (4294967296:Nat)* P:=by ac_rfl
 have h3:P* (4294967296:Nat)* b=b* (4294967296:Nat)* P:=by ac_rfl
 have h4:P* c=c* P:=by ac_rfl
 rw [h1,h2,h3,h4]
 omega
theorem O6 {l:List Nat} {n a b:Nat} (hl:l.length=n) (hn:2≤n) (ga:l[n - 1]? =some a) (gb:l[n - 2]? =some b):val (4294967296:Nat) l=(a* (4294967296:Nat)+b)* (4294967296:Nat)^(n - 2)+val (4294967296:Nat) (l.take (n - 2)):=by
 have e1:=cG (b:=(4294967296:Nat)) gb
 rw [show n - 2+1=n - 1 by omega] at e1
 have e2:=cG (b:=(4294967296:Nat)) ga
 rw [List.take_of_length_le (by omega)] at e2
 rw [e2,e1]
 have p1:(4294967296:Nat)^(n - 1)=(4294967296:Nat)^(n - 2)* (4294967296:Nat):=by rw [←Nat.pow_succ];congr 1;omega
 rw [p1]
 obtain ⟨P,hP⟩:∃P,P=(4294967296:Nat)^(n - 2):=⟨_,rfl⟩
 rw [←hP]
 have h1:(a* (4294967296:Nat)+b)* P=a* (4294967296:Nat)* P+b* P:=by simp only [Nat.add_mul]
 have h2:P* (4294967296:Nat)* a=a* (4294967296:Nat)* P:=by ac_rfl
 have h3:P* b=b* P:=by ac_rfl
 rw [h1,h2,h3]
 omega
theorem jE.win {pre W post V:List Nat} {n a b c v1 v2:Nat} (h:jE pre W post V n a b c v1 v2):lO (4294967296:Nat) (val (4294967296:Nat) W) (val (4294967296:Nat) V) a b c v1 v2 ((4294967296:Nat)^(n - 2)) (val (4294967296:Nat) (W.take (n - 2))) (val (4294967296:Nat) (V.take (n - 2))) where
 w:=O7 h.hW h.hn h.ga h.gb h.gc
 v:=O6 h.hV h.hn h.g1 h.g2
 hw:=by
  have:=dc (fl h.dW (n - 2))
  rwa [List.length_take,Nat.min_eq_left (by rw [h.hW];omega)] at this
 hv:=by
  have:=dc (fl h.dV (n - 2))
  rwa [List.length_take,Nat.min_eq_left (by rw [h.hV];omega)] at this
 hb:=dz h.dW h.gb
 hc:=dz h.dW h.gc
 h2:=dz h.dV h.g2
 hB:=by decide
 top:=h.top
 lt:=h.lt
def G0 (o n:Nat) (V U:List Nat) (q r:Nat) (e:List (Nat×AV)):St:=⟨(0, .bs 1000000 o 1 (n+1))::(1, .pv (.sl 1 n (us V)))::(5, .pv (iv n))::(7, .pv (bK q))::(8, .pv (bK r))::e,[(1000000,us U)],[],[]⟩
def eF:List (Nat×AV):=[(80, .pv (bv false))]
section
variable {pre W post V:List Nat} {n a b c v1 v2:Nat}
theorem jE.Ch (h:jE pre W post V n a b c v1 v2):n<2^40:=by
 have:=h.sz;rw [eO,h.hW] at this;omega
theorem jE.cy (h:jE pre W post V n a b c v1 v2):v1<(4294967296:Nat):=dz h.dV h.g1
theorem jE.r1 (h:jE pre W post V n a b c v1 v2):az (us V) 1 ((n - 1:Nat):Int) n [ax v1]:=by
 have:=eS h.g1 rfl;rwa [h.hV] at this
theorem jE.r2 (h:jE pre W post V n a b c v1 v2):az (us V) 1 ((n - 2:Nat):Int) n [ax v2]:=by
 have:=eS h.g2 rfl;rwa [h.hV] at this
theorem fO {a:Nat} (h:1≤a) (ha:a<2^63):IntKind.i64.wrap ((a:Int) - 1)=((a - 1:Nat):Int):=bn (by omega) (by omega)
theorem jC {a:Nat} (h:2≤a) (ha:a<2^63):IntKind.i64.wrap ((a:Int) - 2)=((a - 2:Nat):Int):=bn (by omega) (by omega)
theorem kF {r:Nat} (h:r<(4294967296:Nat)):IntKind.u64.wrap ((r:Int)* (2:Int)^min (Int.toNat (32:Int)) IntKind.u64.bits)=((2^32* r:Nat):Int):=bE (by rw [vL];omega) (by omega)
theorem guess (h:jE pre W post V n a b c v1 v2) (k:Nat):∀(m q r:Nat) (e:List (Nat×AV)),e=[]∨e=eF→lO.Inv (4294967296:Nat) (val (4294967296:Nat) W) (val (4294967296:Nat) V) a b v1 q r→q<(4294967296:Nat)* (4294967296:Nat)→r<(4294967296:Nat)→(4294967296:Nat)≤r+m* v1→
  ∃q2 r2,q2<(4294967296:Nat)∧val (4294967296:Nat) W / val (4294967296:Nat) V≤q2∧q2≤val (4294967296:Nat) W / val (4294967296:Nat) V+1∧∃e2,(e2=[(68, .pv (bv false))]∨e2=[(80, .pv (bv true))])∧aR (aI MD t9 k 109 0) (m+1) (G0 pre.length n V (eW pre W post) q r e)=some (.exit 0,G0 pre.length n V (eW pre W post) q2 r2 e2)
 |0,q,r,e,_,_,_,hr,hm=>by omega
 |m+1,q,r,e,he,hi,hq,hr,hm=>by
  have Ch:=h.Ch
  have hn:=h.hn
  have cy:=h.cy
  have dY:=dz h.dV h.g2
  have hc:=dz h.dW h.gc
  have wq:∀q:Nat,0<q→q<(4294967296:Nat)* (4294967296:Nat)→IntKind.u64.wrap ((q:Int) - (1:Int))=((q - 1:Nat):Int):=fun q h1 h2=>bE (by omega) (by omega)
  have Cb:Ld MD.P 111 (us (eW pre W post)) (pre.length+(n - 2)* 1) (ax c):=kz (kZ h.gc) (by omega)
  have next:∀q',q=q'+1∨0<q→lO.Inv (4294967296:Nat) (val (4294967296:Nat) W) (val (4294967296:Nat) V) a b v1 (q - 1) (r+v1)→r+v1<(4294967296:Nat)→_:=fun q' _ hi2 iG=>guess h k m (q - 1) (r+v1) eF (.inr rfl) hi2 (by omega) iG (by rw [Nat.add_mul] at hm;omega)
  by_cases hb:(4294967296:Nat)≤q
  · obtain ⟨rN,hi2⟩:=h.win.step hi (.inl hb)
    by_cases iG:r+v1<(4294967296:Nat)
    · obtain ⟨q2,r2,z1,z2,z3,e2,z4,z5⟩:=next 0 (.inr rN) hi2 iG
      refine ⟨q2,r2,z1,z2,z3,e2,z4, ?_⟩
      rcases he with rfl|rfl
      · exact aW (af (U5 k n pre.length v1 v2 q r c _ _) ⟨by simp;omega,wq q rN hq,fO (by omega) (by omega),h.r1,bE rfl (by omega),bE (by omega) (by omega),by simp;omega,trivial⟩) z5
      · exact aW (af (Va k n pre.length v1 v2 q r c _ _) ⟨by simp;omega,wq q rN hq,fO (by omega) (by omega),h.r1,bE rfl (by omega),bE (by omega) (by omega),by simp;omega,trivial⟩) z5
    · obtain ⟨f1,f2⟩:=h.win.LM hi2 (by omega)
      refine ⟨q - 1,r+v1,f1,hi2.2,f2,[(80, .pv (bv true))], .inr rfl, ?_⟩
      rcases he with rfl|rfl
      · exact aF (af (U6 k n pre.length v1 v2 q r c _ _) ⟨by simp;omega,wq q rN hq,fO (by omega) (by omega),h.r1,bE rfl (by omega),bE (by omega) (by omega),by simp;omega,trivial⟩) (by simp)
      · exact aF (af (Vb k n pre.length v1 v2 q r c _ _) ⟨by simp;omega,wq q rN hq,fO (by omega) (by omega),h.r1,bE rfl (by omega),bE (by omega) (by omega),by simp;omega,trivial⟩) (by simp)
  · have hqv:q* v2<(4294967296:Nat)* (4294967296:Nat):=by
      calc q* v2≤q* (4294967296:Nat):=Nat.mul_le_mul_left _ (by omega)
       _<(4294967296:Nat)* (4294967296:Nat):=Nat.mul_lt_mul_of_pos_right (by omega) (by decide)
    have o1:IntKind.u64.wrap ((q:Int)* (v2:Int))=((q* v2:Nat):Int):=bE (by simp) (by omega)
    have o2:IntKind.u64.wrap ((BitVec.ofInt IntKind.u64.bits ((2^32* r:Nat):Int)|||BitVec.ofInt IntKind.u64.bits (c:Int)).toNat:Int)=((2^32* r+c:Nat):Int):=nH (r:=32) (by omega) (by omega) _ rfl
    by_cases hg:r* (4294967296:Nat)+c<q* v2
    · obtain ⟨rN,hi2⟩:=h.win.step hi (.inr hg)
      by_cases iG:r+v1<(4294967296:Nat)
      · obtain ⟨q2,r2,z1,z2,z3,e2,z4,z5⟩:=next 0 (.inr rN) hi2 iG
        refine ⟨q2,r2,z1,z2,z3,e2,z4, ?_⟩
        rcases he with rfl|rfl
        · exact aW (af (U7 k n pre.length v1 v2 q r c _ _) ⟨by simp;omega,jC (by omega) (by omega),h.r2,bE rfl (by omega),o1,kF hr,rfl,jC (by omega) (by omega),⟨rfl,by omega⟩,Cb,bE rfl (by omega),o2,by simp;omega,wq q rN hq,fO (by omega) (by omega),h.r1,bE rfl (by omega),bE (by omega) (by omega),by simp;omega,trivial⟩) z5
        · exact aW (af (Vc k n pre.length v1 v2 q r c _ _) ⟨by simp;omega,jC (by omega) (by omega),h.r2,bE rfl (by omega),o1,kF hr,rfl,jC (by omega) (by omega),⟨rfl,by omega⟩,Cb,bE rfl (by omega),o2,by simp;omega,wq q rN hq,fO (by omega) (by omega),h.r1,bE rfl (by omega),bE (by omega) (by omega),by simp;omega,trivial⟩) z5
      · obtain ⟨f1,f2⟩:=h.win.LM hi2 (by omega)
        refine ⟨q - 1,r+v1,f1,hi2.2,f2,[(80, .pv (bv true))], .inr rfl, ?_⟩
        rcases he with rfl|rfl
        · exact aF (af (U8 k n pre.length v1 v2 q r c _ _) ⟨by simp;omega,jC (by omega) (by omega),h.r2,bE rfl (by omega),o1,kF hr,rfl,jC (by omega) (by omega),⟨rfl,by omega⟩,Cb,bE rfl (by omega),o2,by simp;omega,wq q rN hq,fO (by omega) (by omega),h.r1,bE rfl (by omega),bE (by omega) (by omega),by simp;omega,trivial⟩) (by simp)
        · exact aF (af (Vd k n pre.length v1 v2 q r c _ _) ⟨by simp;omega,jC (by omega) (by omega),h.r2,bE rfl (by omega),o1,kF hr,rfl,jC (by omega) (by omega),⟨rfl,by omega⟩,Cb,bE rfl (by omega),o2,by simp;omega,wq q rN hq,fO (by omega) (by omega),h.r1,bE rfl (by omega),bE (by omega) (by omega),by simp;omega,trivial⟩) (by simp)
    · have f2:=h.win.fin hi (by omega) (by omega)
      refine ⟨q,r,by omega,hi.2,f2,[(68, .pv (bv false))], .inl rfl, ?_⟩
      rcases he with rfl|rfl
      · exact aF (af (U9 k n pre.length v1 v2 q r c _ _) ⟨by simp;omega,jC (by omega) (by omega),h.r2,bE rfl (by omega),o1,kF hr,rfl,jC (by omega) (by omega),⟨rfl,by omega⟩,Cb,bE rfl (by omega),o2,by simp;omega,trivial⟩) (by simp)
      · exact aF (af (Ve k n pre.length v1 v2 q r c _ _) ⟨by simp;omega,jC (by omega) (by omega),h.r2,bE rfl (by omega),o1,kF hr,rfl,jC (by omega) (by omega),⟨rfl,by omega⟩,Cb,bE rfl (by omega),o2,by simp;omega,trivial⟩) (by simp)
end
end Go.Proofs.YtibbgjafjhcemaaDoor.Cul
namespace Go.Proofs.YtibbgjafjhcemaaDoor.Cul
open Go Go.RowKit
section
variable {pre W post V:List Nat} {n a b c v1 v2:Nat}
def S1 (o n:Nat) (V U:List Nat) (q c bw i:Nat) (e:List (Nat×AV)):St:=⟨(0, .bs 1000000 o 1 (n+1))::(1, .pv (.sl 1 n (us V)))::(5, .pv (iv n))::(7, .pv (bK q))::(9, .pv (bK c))::(10, .pv (ax bw))::(81, .pv (.sl 1 n (us V)))::(82, .pv (iv n))::(83, .pv (iv i))::e,[(1000000,us U)],[],[]⟩
theorem yQ:aP MD.P t9:=aO (au (aE fun x h=>Hs x.1 x.2.1 x.2.2 h.1 h.2.1 h.2.2) (au (aE fun x h=>IK x.1 x.2.1 x.2.2 h.1 h.2.1 h.2.2) aL))
theorem OQ {c q x:Nat} (hc:c<(4294967296:Nat)) (hq:q<(4294967296:Nat)) (hx:x<(4294967296:Nat)):c+q* x<(4294967296:Nat)* (4294967296:Nat):=by
 have:q* x≤((4294967296:Nat) - 1)* ((4294967296:Nat) - 1):=Nat.mul_le_mul (by omega) (by omega)
 omega
theorem CS (k:Nat) (hV:V.length=n) (dV:bB (4294967296:Nat) V) (hn:n<2^40) (q:Nat) (hq:q<(4294967296:Nat)):∀(d i c bw:Nat) (W1:List Nat),i+d=n→W1.length=n+1→bB (4294967296:Nat) W1→c<(4294967296:Nat)→bw≤1→val (4294967296:Nat) W1+q* val (4294967296:Nat) (V.take i)=val (4294967296:Nat) W+(4294967296:Nat)^i* (c+bw)→
  ∃c2 b2 W2,W2.length=n+1∧bB (4294967296:Nat) W2∧c2<(4294967296:Nat)∧b2≤1∧val (4294967296:Nat) W2+q* val (4294967296:Nat) V=val (4294967296:Nat) W+(4294967296:Nat)^n* (c2+b2)∧aR (aI MD t9 k 109 1) (d+1) (S1 pre.length n V (eW pre W1 post) q c bw i [])=some (.exit 2,S1 pre.length n V (eW pre W2 post) q c2 b2 n [(84, .pv (bv false))])
 |0,i,c,bw,W1,hi,hl,hd,hc,hb,he=>by
  have:i=n:=by omega
  subst this
  rw [List.take_of_length_le (by omega)] at he
  exact ⟨c,bw,W1,hl,hd,hc,hb,he,aF (af (Vn k i pre.length q c bw i _ _) ⟨by simp,trivial⟩) (by simp)⟩
 |d+1,i,c,bw,W1,hi,hl,hd,hc,hb,he=>by
  obtain ⟨x,hx⟩:=get_some (l:=V) (i:=i) (by omega)
  obtain ⟨a,ha⟩:=get_some (l:=W1) (i:=i) (by omega)
  have qR:=dz dV hx
  have hab:=dz hd ha
  have fS:=OQ hc hq qR
  have hrow:az (us V) 1 (i:Int) n [ax x]:=by have:=eS hx rfl;rwa [hV] at this
  obtain ⟨s,hs⟩:∃s,s=(a+(4294967296:Nat)+(4294967296:Nat) - (c+q* x)%(4294967296:Nat) - bw)%(4294967296:Nat):=⟨_,rfl⟩
  obtain ⟨b2,cF⟩:∃b2,b2=if a<(c+q* x)%(4294967296:Nat)+bw then 1 else 0:=⟨_,rfl⟩
  have MJ:s<(4294967296:Nat):=by rw [hs];exact Nat.mod_lt _ (by decide)
  have RU:b2≤1:=by rw [cF];split<;>omega
  have Xf:s+(c+q* x)%(4294967296:Nat)+bw=a+(4294967296:Nat)* b2:=by
   rw [Nat.sub_sub] at hs
   rw [cF]
   split<;>omega
  have eo:wz [ax a,ax ((c+q* x)%(4294967296:Nat)),ax bw]=some (one (eK s b2)):=by
   rw [hs,cF];exact yy hab (Nat.mod_lt _ (by decide)) hb
  have hv:=j4 (b:=(4294967296:Nat)) ha s
  have ht:=cG (b:=(4294967296:Nat)) hx
  have qO:val (4294967296:Nat) (W1.set i s)+q* val (4294967296:Nat) (V.take (i+1))=val (4294967296:Nat) W+(4294967296:Nat)^(i+1)* ((c+q* x) / (4294967296:Nat)+b2):=by
   have zR:=Nat.div_add_mod (c+q* x) (4294967296:Nat)
   obtain ⟨t,Sn⟩:∃t,t=(c+q* x) / (4294967296:Nat):=⟨_,rfl⟩
   rw [←Sn] at zR ⊢
   have k1:(4294967296:Nat)^(i+1)* (t+b2)=(4294967296:Nat)^i* ((4294967296:Nat)* t+(4294967296:Nat)* b2):=by rw [Nat.pow_succ,Nat.mul_assoc,Nat.mul_add]
   have k2:(4294967296:Nat)^i* (c+bw)+(4294967296:Nat)^i* s+(4294967296:Nat)^i* (q* x)=(4294967296:Nat)^i* ((4294967296:Nat)* t+(4294967296:Nat)* b2)+(4294967296:Nat)^i* a:=by
    rw [←Nat.mul_add,←Nat.mul_add,←Nat.mul_add];congr 1;omega
   have k3:q* ((4294967296:Nat)^i* x)=(4294967296:Nat)^i* (q* x):=by ac_rfl
   rw [k1,ht,Nat.mul_add,k3]
   omega
  obtain ⟨c3,b3,W3,z1,z2,z3,z4,z5,z6⟩:=CS k hV dV hn q hq d (i+1) ((c+q* x) / (4294967296:Nat)) b2 (W1.set i s) (by omega) (by simpa using hl) (kY hd MJ i) (Nat.div_lt_of_lt_mul fS) RU qO
  refine ⟨c3,b3,W3,z1,z2,z3,z4,z5,aW (af (uO k n pre.length q c bw i x a (c+q* x) s b2 _ (us (eW pre (W1.set i s) post)) _) ⟨by simp;omega,hrow,bE rfl (by omega),bE (by simp) (by omega),bE (by omega) (by omega),⟨rfl,by omega⟩,kz (kZ ha) (by omega),Bi _,eo,⟨rfl,by omega⟩, ?_,jz (sJ (by omega) s) (by rw [eO];omega) (by omega),by rw [vL];exact kg _ _,rfl,bn (by omega) (by omega),trivial⟩) z6⟩
  rw [dn,eO];simp [ax,PV.cells];omega
def S2 (o n:Nat) (V U:List Nat) (q c i:Nat) (e:List (Nat×AV)):St:=⟨(0, .bs 1000000 o 1 (n+1))::(5, .pv (iv n))::(7, .pv (bK q))::(13, .pv (ax c))::(129, .pv (.sl 1 n (us V)))::(130, .pv (iv n))::(131, .pv (iv i))::e,[(1000000,us U)],[],[]⟩
theorem BJ (k:Nat) (hV:V.length=n) (dV:bB (4294967296:Nat) V) (hn:n<2^40) (q:Nat):∀(d i c:Nat) (W1:List Nat),i+d=n→W1.length=n+1→bB (4294967296:Nat) W1→c≤1→val (4294967296:Nat) W1+(4294967296:Nat)^i* c=val (4294967296:Nat) W+val (4294967296:Nat) (V.take i)→
  ∃c2 W2,W2.length=n+1∧bB (4294967296:Nat) W2∧c2≤1∧val (4294967296:Nat) W2+(4294967296:Nat)^n* c2=val (4294967296:Nat) W+val (4294967296:Nat) V∧aR (aI MD t9 k 109 2) (d+1) (S2 pre.length n V (eW pre W1 post) q c i [])=some (.exit 4,S2 pre.length n V (eW pre W2 post) q c2 n [(132, .pv (bv false))])
 |0,i,c,W1,hi,hl,hd,hc,he=>by
  have:i=n:=by omega
  subst this
  rw [List.take_of_length_le (by omega)] at he
  exact ⟨c,W1,hl,hd,hc,he,aF (af (Vo k i pre.length q c i _ _) ⟨by simp,trivial⟩) (by simp)⟩
 |d+1,i,c,W1,hi,hl,hd,hc,he=>by
  obtain ⟨x,hx⟩:=get_some (l:=V) (i:=i) (by omega)
  obtain ⟨a,ha⟩:=get_some (l:=W1) (i:=i) (by omega)
  have qR:=dz dV hx
  have hab:=dz hd ha
  have hrow:az (us V) 1 (i:Int) n [ax x]:=by have:=eS hx rfl;rwa [hV] at this
  obtain ⟨s,hs⟩:∃s,s=(a+x+c)%(4294967296:Nat):=⟨_,rfl⟩
  obtain ⟨c',Qv⟩:∃c',c'=(a+x+c) / (4294967296:Nat):=⟨_,rfl⟩
  have eo:y8 [ax a,ax x,ax c]=some (one (eK s c')):=by
   rw [hs,Qv];exact Eu hab qR (by omega)
  have hv:=j4 (b:=(4294967296:Nat)) ha s
  have ht:=cG (b:=(4294967296:Nat)) hx
  have qO:val (4294967296:Nat) (W1.set i s)+(4294967296:Nat)^(i+1)* c'=val (4294967296:Nat) W+val (4294967296:Nat) (V.take (i+1)):=by
   have k1:(4294967296:Nat)^(i+1)* c'=(4294967296:Nat)^i* ((4294967296:Nat)* c'):=by rw [Nat.pow_succ,Nat.mul_assoc]
   have k2:(4294967296:Nat)^i* s+(4294967296:Nat)^i* ((4294967296:Nat)* c')=(4294967296:Nat)^i* a+(4294967296:Nat)^i* x+(4294967296:Nat)^i* c:=by
    rw [←Nat.mul_add,←Nat.mul_add,←Nat.mul_add];congr 1;omega
   rw [k1,ht]
   omega
  obtain ⟨c3,W3,z1,z2,z4,z5,z6⟩:=BJ k hV dV hn q d (i+1) c' (W1.set i s) (by omega) (by simpa using hl) (kY hd (by omega) i) (by omega) qO
  refine ⟨c3,W3,z1,z2,z4,z5,aW (af (Vp k n pre.length q c i x a s c' _ (us (eW pre (W1.set i s) post)) _) ⟨by simp;omega,hrow,⟨rfl,by omega⟩,kz (kZ ha) (by omega),eo,⟨rfl,by omega⟩, ?_,jz (sJ (by omega) s) (by rw [eO];omega) (by omega),bn (by omega) (by omega),trivial⟩) z6⟩
  rw [dn,eO];simp [ax,PV.cells];omega
theorem HA (h:jE pre W post V n a b c v1 v2):dy P0 109 [.g (us (eW pre W post)) pre.length 1 (n+1), .p (.sl 1 n (us V))] (.pv (ax (val (4294967296:Nat) W / val (4294967296:Nat) V))) (us (eW pre (fd (4294967296:Nat) (n+1) (val (4294967296:Nat) W%val (4294967296:Nat) V)) post)):=by
 have hn:=h.hn
 have Ch:=h.Ch
 have ha:=dz h.dW h.ga
 have hb:=dz h.dW h.gb
 have cy:=h.cy
 have Za:=h.win.Em
 have HR:a* (4294967296:Nat)+b<(4294967296:Nat)* (4294967296:Nat):=by omega
 have Xb:(a* (4294967296:Nat)+b) / v1<(4294967296:Nat)* (4294967296:Nat):=Nat.lt_of_le_of_lt (Nat.div_le_self _ _) HR
 have hrt:(a* (4294967296:Nat)+b)%v1<v1:=Nat.mod_lt _ Za
 obtain ⟨q2,r2,W6,hge,hle,e2,qO,hg⟩:=guess h (n+3) 2 _ _ [] (.inl rfl) h.win.start Xb (by omega) (by have:=h.top;omega)
 have hg:=bH (show 2+1≤n+3 by omega) hg
 obtain ⟨c2,b2,W2,l2,d2,gN,cF,kr,w6⟩:=CS (pre:=pre) (W:=W) (post:=post) (n+3) h.hV h.dV Ch q2 W6 n 0 0 0 W (by omega) h.hW h.dW (by decide) (by omega) (by simp [val])
 have w6:=bH (show n+1≤n+3 by omega) w6
 obtain ⟨x,hx⟩:=get_some (l:=W2) (i:=n) (by omega)
 have qR:=dz d2 hx
 obtain ⟨s,hs⟩:∃s,s=(x+(4294967296:Nat)+(4294967296:Nat) - c2 - b2)%(4294967296:Nat):=⟨_,rfl⟩
 obtain ⟨b',hb'⟩:∃b',b'=if x<c2+b2 then 1 else 0:=⟨_,rfl⟩
 have MJ:s<(4294967296:Nat):=by rw [hs];exact Nat.mod_lt _ (by decide)
 have Xf:s+c2+b2=x+(4294967296:Nat)* b':=by
  rw [Nat.sub_sub] at hs
  rw [hb']
  split<;>omega
 have eo:wz [ax x,ax c2,ax b2]=some (one (eK s b')):=by
  rw [hs,hb'];exact yy qR gN cF
 have nq:=j4 (b:=(4294967296:Nat)) hx s
 have Fb:val (4294967296:Nat) (W2.set n s)+q2* val (4294967296:Nat) V=val (4294967296:Nat) W+(4294967296:Nat)^(n+1)* b':=by
  have k1:(4294967296:Nat)^(n+1)* b'=(4294967296:Nat)^n* ((4294967296:Nat)* b'):=by rw [Nat.pow_succ,Nat.mul_assoc]
  have k2:(4294967296:Nat)^n* (c2+b2)+(4294967296:Nat)^n* s=(4294967296:Nat)^n* ((4294967296:Nat)* b')+(4294967296:Nat)^n* x:=by
   rw [←Nat.mul_add,←Nat.mul_add];congr 1;omega
  rw [k1];omega
 have d3:bB (4294967296:Nat) (W2.set n s):=kY d2 MJ n
 have l3:(W2.set n s).length=n+1:=by simpa using l2
 have Ms:=dc d3
 rw [l3] at Ms
 have FN:(eW pre W2 post).length=pre.length+(n+1)+post.length:=by rw [eO,l2]
 have I8:=h.win.xA
 have zR:=Nat.div_add_mod (val (4294967296:Nat) W) (val (4294967296:Nat) V)
 have hml:=Nat.mod_lt (val (4294967296:Nat) W) I8
 have MV:=dc h.dW
 rw [h.hW] at MV
 have Js:IntKind.u64.wrap ((BitVec.ofInt IntKind.u64.bits ((2^32* a:Nat):Int)|||BitVec.ofInt IntKind.u64.bits (b:Int)).toNat:Int)=((a* (4294967296:Nat)+b:Nat):Int):=nH (r:=32) (by omega) (by omega) _ (by omega)
 have Jl:Ld MD.P 111 (us (eW pre W post)) (pre.length+n* 1) (ax a):=kz (kZ h.ga) (by omega)
 have Jm:Ld MD.P 111 (us (eW pre W post)) (pre.length+(n - 1)* 1) (ax b):=kz (kZ h.gb) (by omega)
 have Jn:Ld MD.P 111 (us (eW pre W2 post)) (pre.length+n* 1) (ax x):=kz (kZ hx) (by omega)
 have w3:ck (us (eW pre W2 post)) (pre.length+n* 1) [ax s] (us (eW pre (W2.set n s) post)):=jz (sJ (by omega) s) (by rw [FN];omega) (by omega)
 have hf3:(W2.set n s).all (fun x=>decide (x<(4294967296:Nat)))=true:=by
  rw [List.all_eq_true];intro y hy;simpa using d3 y hy
 have w7:∀l:List Nat,(us l).all bS=true:=by
  intro l
  rw [List.all_eq_true]
  intro y hy
  simp only [us,List.mem_map] at hy
  obtain ⟨z,_,rfl⟩:=hy
  rfl
 rcases Nat.eq_zero_or_pos b' with hb0|hb0
 · rw [hb0] at eo Fb
   have hq:q2=val (4294967296:Nat) W / val (4294967296:Nat) V:=by
    have:q2≤val (4294967296:Nat) W / val (4294967296:Nat) V:=(Nat.le_div_iff_mul_le I8).2 (by omega)
    omega
   have HQ:val (4294967296:Nat) (W2.set n s)=val (4294967296:Nat) W%val (4294967296:Nat) V:=by
    rw [hq,Nat.mul_comm] at Fb;omega
   have jR:=jA (b:=(4294967296:Nat)) (by decide) d3 l3 HQ
   rw [←jR,←hq]
   rcases qO with rfl|rfl
   · exact eu ah yQ (by rfl) (Vf (n+3) n pre.length a b (a* (4294967296:Nat)+b) v1 ((a* (4294967296:Nat)+b) / v1) ((a* (4294967296:Nat)+b)%v1) q2 r2 x c2 b2 s _ _ _ _) ⟨w7 _,by rw [dn,dn,eO,eO,l3,h.hW],⟨rfl,by omega⟩,Jl,bE rfl (by omega),kF ha,rfl,fO (by omega) (by omega),⟨rfl,by omega⟩,Jm,bE rfl (by omega),Js,fO (by omega) (by omega),h.r1,bE rfl (by omega),bE (ia _ _) (by omega),by simp;omega,fO (by omega) (by omega),h.r1,bE rfl (by omega),fy _ _,by simp;omega,hg,w6,⟨rfl,by omega⟩,Jn,jc rfl (by omega),eo,⟨rfl,by omega⟩,by rw [dn,FN];simp [ax,PV.cells];omega,w3,rfl,jc rfl (by omega),trivial⟩
   · exact eu ah yQ (by rfl) (Vg (n+3) n pre.length a b (a* (4294967296:Nat)+b) v1 ((a* (4294967296:Nat)+b) / v1) ((a* (4294967296:Nat)+b)%v1) q2 r2 x c2 b2 s _ _ _ _) ⟨w7 _,by rw [dn,dn,eO,eO,l3,h.hW],⟨rfl,by omega⟩,Jl,bE rfl (by omega),kF ha,rfl,fO (by omega) (by omega),⟨rfl,by omega⟩,Jm,bE rfl (by omega),Js,fO (by omega) (by omega),h.r1,bE rfl (by omega),bE (ia _ _) (by omega),by simp;omega,fO (by omega) (by omega),h.r1,bE rfl (by omega),fy _ _,by simp;omega,hg,w6,⟨rfl,by omega⟩,Jn,jc rfl (by omega),eo,⟨rfl,by omega⟩,by rw [dn,FN];simp [ax,PV.cells];omega,w3,rfl,jc rfl (by omega),trivial⟩
 · have eJ:b'=1:=by rw [hb'];rw [hb'] at hb0;split<;>simp_all
   rw [eJ] at eo Fb
   have hq:q2=val (4294967296:Nat) W / val (4294967296:Nat) V+1:=by
    rcases Nat.lt_or_ge (val (4294967296:Nat) W / val (4294967296:Nat) V) q2 with h1|h1
    · omega
    · have h2:q2* val (4294967296:Nat) V≤val (4294967296:Nat) W:=by
        have:=Nat.mul_le_mul_right (val (4294967296:Nat) V) h1
        have:=h.win.Jy
        omega
      omega
   obtain ⟨c3,W4,l4,d4,Qw,FD,DB⟩:=BJ (pre:=pre) (W:=W2.set n s) (post:=post) (n+3) h.hV h.dV Ch (q2 - 1) n 0 0 (W2.set n s) (by omega) l3 d3 (by omega) (by simp [val])
   have DB:=bH (show n+1≤n+3 by omega) DB
   obtain ⟨y,hy⟩:=get_some (l:=W4) (i:=n) (by omega)
   have hyb:=dz d4 hy
   obtain ⟨z,hz⟩:∃z,z=(y+c3)%(4294967296:Nat):=⟨_,rfl⟩
   have Xp:z<(4294967296:Nat):=by rw [hz];exact Nat.mod_lt _ (by decide)
   have QM:=j4 (b:=(4294967296:Nat)) hy z
   have d5:bB (4294967296:Nat) (W4.set n z):=kY d4 Xp n
   have l5:(W4.set n z).length=n+1:=by simpa using l4
   have Mt:=dc d5
   rw [l5] at Mt
   have HU:(eW pre W4 post).length=pre.length+(n+1)+post.length:=by rw [eO,l4]
   have L7:val (4294967296:Nat) (W4.set n z)+(4294967296:Nat)^(n+1)* ((y+c3) / (4294967296:Nat))=val (4294967296:Nat) (W2.set n s)+val (4294967296:Nat) V:=by
    obtain ⟨t,ht⟩:∃t,t=(y+c3) / (4294967296:Nat):=⟨_,rfl⟩
    rw [←ht]
    have k1:(4294967296:Nat)^(n+1)* t=(4294967296:Nat)^n* ((4294967296:Nat)* t):=by rw [Nat.pow_succ,Nat.mul_assoc]
    have k2:(4294967296:Nat)^n* z+(4294967296:Nat)^n* ((4294967296:Nat)* t)=(4294967296:Nat)^n* y+(4294967296:Nat)^n* c3:=by
     rw [←Nat.mul_add,←Nat.mul_add];congr 1;omega
    rw [k1];omega
   have HQ:val (4294967296:Nat) (W4.set n z)=val (4294967296:Nat) W%val (4294967296:Nat) V:=by
    obtain ⟨t,ht⟩:∃t,t=(y+c3) / (4294967296:Nat):=⟨_,rfl⟩
    rw [←ht] at L7
    have e:(val (4294967296:Nat) W / val (4294967296:Nat) V+1)* val (4294967296:Nat) V=val (4294967296:Nat) V* (val (4294967296:Nat) W / val (4294967296:Nat) V)+val (4294967296:Nat) V:=by rw [Nat.add_mul,Nat.one_mul,Nat.mul_comm]
    rw [hq,e] at Fb
    obtain ⟨P,hP⟩:∃P,P=(4294967296:Nat)^(n+1):=⟨_,rfl⟩
    rw [←hP] at Fb L7 Mt Ms MV
    rcases Nat.lt_trichotomy t 1 with h1|h1|h1
    · have:t=0:=by omega
      subst this;omega
    · rw [h1] at L7;omega
    · have:P* 2≤P* t:=Nat.mul_le_mul_left _ h1
      omega
   have jR:=jA (b:=(4294967296:Nat)) (by decide) d5 l5 HQ
   have W9:val (4294967296:Nat) W / val (4294967296:Nat) V=q2 - 1:=by rw [hq,Nat.add_sub_cancel]
   rw [←jR,W9]
   have QX:Ld MD.P 111 (us (eW pre W4 post)) (pre.length+n* 1) (ax y):=kz (kZ hy) (by omega)
   have w5:ck (us (eW pre W4 post)) (pre.length+n* 1) [ax z] (us (eW pre (W4.set n z) post)):=jz (sJ (by omega) z) (by rw [HU];omega) (by omega)
   have Nw:IntKind.u32.wrap ((y:Int)+(c3:Int))=(z:Int):=by rw [←Int.natCast_add,Bi,hz]
   have Nv:IntKind.u64.wrap ((q2:Int) - (1:Int))=((q2 - 1:Nat):Int):=bE (by omega) (by omega)
   rcases qO with rfl|rfl
   · exact eu ah yQ (by rfl) (Vh (n+3) n pre.length a b (a* (4294967296:Nat)+b) v1 ((a* (4294967296:Nat)+b) / v1) ((a* (4294967296:Nat)+b)%v1) q2 r2 x c2 b2 s (q2 - 1) y c3 z _ _ _ _ _ _) ⟨w7 _,by rw [dn,dn,eO,eO,l5,h.hW],⟨rfl,by omega⟩,Jl,bE rfl (by omega),kF ha,rfl,fO (by omega) (by omega),⟨rfl,by omega⟩,Jm,bE rfl (by omega),Js,fO (by omega) (by omega),h.r1,bE rfl (by omega),bE (ia _ _) (by omega),by simp;omega,fO (by omega) (by omega),h.r1,bE rfl (by omega),fy _ _,by simp;omega,hg,w6,⟨rfl,by omega⟩,Jn,jc rfl (by omega),eo,⟨rfl,by omega⟩,by rw [dn,FN];simp [ax,PV.cells];omega,w3,rfl,Nv,DB,⟨rfl,by omega⟩,QX,Nw,⟨rfl,by omega⟩,by rw [dn,HU];simp [PV.cells];omega,w5,jc rfl (by omega),trivial⟩
   · exact eu ah yQ (by rfl) (Vi (n+3) n pre.length a b (a* (4294967296:Nat)+b) v1 ((a* (4294967296:Nat)+b) / v1) ((a* (4294967296:Nat)+b)%v1) q2 r2 x c2 b2 s (q2 - 1) y c3 z _ _ _ _ _ _) ⟨w7 _,by rw [dn,dn,eO,eO,l5,h.hW],⟨rfl,by omega⟩,Jl,bE rfl (by omega),kF ha,rfl,fO (by omega) (by omega),⟨rfl,by omega⟩,Jm,bE rfl (by omega),Js,fO (by omega) (by omega),h.r1,bE rfl (by omega),bE (ia _ _) (by omega),by simp;omega,fO (by omega) (by omega),h.r1,bE rfl (by omega),fy _ _,by simp;omega,hg,w6,⟨rfl,by omega⟩,Jn,jc rfl (by omega),eo,⟨rfl,by omega⟩,by rw [dn,FN];simp [ax,PV.cells];omega,w3,rfl,Nv,DB,⟨rfl,by omega⟩,QX,Nw,⟨rfl,by omega⟩,by rw [dn,HU];simp [PV.cells];omega,w5,jc rfl (by omega),trivial⟩
end
end Go.Proofs.YtibbgjafjhcemaaDoor.Cul
namespace Go.Proofs.YtibbgjafjhcemaaDoor.Cul
theorem BX (b:Nat):∀{n N v:Nat},n≤N→(fd b N v).take n=fd b n v
 |0,_,_,_=>by simp [fd]
 |n+1,0,_,h=>by omega
 |n+1,N+1,v,h=>by simp only [fd,List.take_succ_cons];rw [BX b (by omega)]
theorem CY {b:Nat} (pre W post:List Nat):val b (pre++W++post)=val b pre+b^pre.length* (val b W+b^W.length* val b post):=by
 rw [List.append_assoc,jj,jj]
def lu (B N A V j:Nat):List Nat:=fd B N (A%B^j+B^j* (A / B^j%V))
def lq (B c A V j:Nat):List Nat:=fd B c (B^j* (A / B^j / V))
def lw (B A V j:Nat):Nat:=A / B^j%B+B* (A / B^(j+1)%V)
section
variable {B N A V j n:Nat}
theorem DK (hB:2≤B) (hV:0<V):lw B A V j<B* V:=by
 unfold lw
 have h1:A / B^j%B<B:=Nat.mod_lt _ (by omega)
 have h2:A / B^(j+1)%V+1≤V:=Nat.mod_lt _ hV
 have:=Nat.mul_le_mul_left B h2
 rw [Nat.mul_add] at this;omega
theorem Hz (hB:2≤B):A / B^j=B* (A / B^(j+1))+A / B^j%B:=by
 rw [Nat.pow_succ,←Nat.div_div_eq_div_mul];exact (Nat.div_add_mod _ _).symm
theorem zq (hB:2≤B):A / B^j=B* (A / B^(j+1) / V)* V+lw B A V j:=by
 have h1:=Hz (A:=A) (j:=j) hB
 have h2:=Nat.div_add_mod (A / B^(j+1)) V
 unfold lw
 have h3:B* (A / B^(j+1))=B* (A / B^(j+1) / V)* V+B* (A / B^(j+1)%V):=by
  rw [Nat.mul_assoc,Nat.mul_comm _ V,←Nat.mul_add,h2]
 omega
theorem NL (hB:2≤B) (hV:0<V):A / B^j / V=B* (A / B^(j+1) / V)+lw B A V j / V:=by
 rw [zq (V:=V) hB,Nat.add_comm,Nat.add_mul_div_right _ _ hV,Nat.add_comm]
theorem NN (hB:2≤B):A / B^j%V=lw B A V j%V:=by
 rw [zq (V:=V) hB,Nat.add_comm,Nat.add_mul_mod_self_right]
theorem Nk (hB:2≤B) (hV:0<V) (rF:V≤B^n) (hN:j+n≤N):val B (lu B N A V j)=A%B^j+B^j* (A / B^j%V):=by
 unfold lu
 rw [lY (by omega),Nat.mod_eq_of_lt]
 have h1:A%B^j<B^j:=Nat.mod_lt _ (Nat.pow_pos (by omega))
 have h2:A / B^j%V+1≤B^n:=Nat.le_trans (Nat.mod_lt _ hV) rF
 have h3:=Nat.mul_le_mul_left (B^j) h2
 rw [←Nat.pow_add,Nat.mul_add,Nat.mul_one] at h3
 have h4:B^(j+n)≤B^N:=Nat.pow_le_pow_right (by omega) hN
 omega
theorem Ku (hB:2≤B) (hV:0<V) (rF:V≤B^n) (hN:j+1+n≤N):val B (lu B N A V (j+1))=A%B^j+B^j* lw B A V j:=by
 rw [Nk hB hV rF hN,lw,Nat.mul_add,←Nat.mul_assoc,←Nat.pow_succ,Nat.pow_succ,Nat.mod_mul]
 omega
theorem yu {x y p P:Nat} (h:x+P* y=p) (hx:x<P):x=p%P∧y=p / P:=by
 subst h
 rw [Nat.add_mul_mod_self_left,Nat.mod_eq_of_lt hx,Nat.add_mul_div_left _ _ (by omega),Nat.div_eq_of_lt hx]
 exact ⟨rfl,by omega⟩
theorem Hq (hB:2≤B) (hV:0<V) (rF:V≤B^n) (hN:j+n+1≤N):val B ((lu B N A V (j+1)).take j)=A%B^j∧val B (((lu B N A V (j+1)).drop j).take (n+1))=lw B A V j∧val B ((lu B N A V (j+1)).drop (j+n+1))=0:=by
 have hl:(lu B N A V (j+1)).length=N:=cn _ _ _
 have hd:bB B (lu B N A V (j+1)):=ig (by omega) _ _
 have he:lu B N A V (j+1)=(lu B N A V (j+1)).take j++((lu B N A V (j+1)).drop j).take (n+1)++(lu B N A V (j+1)).drop (j+n+1):=by
  rw [List.append_assoc]
  have:(lu B N A V (j+1)).drop (j+n+1)=((lu B N A V (j+1)).drop j).drop (n+1):=by rw [List.drop_drop];rfl
  rw [this,List.take_append_drop,List.take_append_drop]
 have h1:=CY (b:=B) ((lu B N A V (j+1)).take j) (((lu B N A V (j+1)).drop j).take (n+1)) ((lu B N A V (j+1)).drop (j+n+1))
 rw [←he,Ku hB hV rF (by omega)] at h1
 have l1:((lu B N A V (j+1)).take j).length=j:=by rw [List.length_take,hl];omega
 have l2:(((lu B N A V (j+1)).drop j).take (n+1)).length=n+1:=by rw [List.length_take,List.length_drop,hl];omega
 have b1:=dc (fl hd j)
 have b2:=dc (fl (jH hd j) (n+1))
 rw [l1] at b1 h1
 rw [l2] at b2 h1
 have hm:A%B^j<B^j:=Nat.mod_lt _ (Nat.pow_pos (by omega))
 obtain ⟨k1,k2⟩:=yu h1.symm b1
 have k3:(A%B^j+B^j* lw B A V j)%B^j=A%B^j:=by rw [Nat.add_mul_mod_self_left,Nat.mod_eq_of_lt hm]
 have k4:(A%B^j+B^j* lw B A V j) / B^j=lw B A V j:=by
  rw [Nat.add_mul_div_left _ _ (Nat.pow_pos (by omega)),Nat.div_eq_of_lt hm,Nat.zero_add]
 rw [k3] at k1;rw [k4] at k2
 have hw:lw B A V j<B^(n+1):=by
  have h3:=DK (A:=A) (j:=j) hB hV
  have h4:B* V≤B* B^n:=Nat.mul_le_mul_left _ rF
  rw [Nat.pow_succ,Nat.mul_comm];omega
 obtain ⟨k5,k6⟩:=yu k2 b2
 rw [Nat.mod_eq_of_lt hw] at k5
 rw [Nat.div_eq_of_lt hw] at k6
 exact ⟨k1,k5,k6⟩
theorem Kt (hB:2≤B) (hV:0<V) (rF:V≤B^n) (hN:j+n+1≤N):(lu B N A V (j+1)).take j++fd B (n+1) (lw B A V j%V)++(lu B N A V (j+1)).drop (j+n+1)=lu B N A V j:=by
 have hl:(lu B N A V (j+1)).length=N:=cn _ _ _
 have hd:bB B (lu B N A V (j+1)):=ig (by omega) _ _
 obtain ⟨k1,k2,k3⟩:=Hq (A:=A) hB hV rF hN
 have l1:((lu B N A V (j+1)).take j).length=j:=by rw [List.length_take,hl];omega
 apply jA (by omega)
 · exact ((fl hd j).app (ig (by omega) _ _)).app (jH hd _)
 · simp [cn,l1,hl];omega
 · rw [CY,k1,k3,l1,lY (by omega),Nat.mul_zero,Nat.add_zero,NN hB]
   congr 2
   apply Nat.mod_eq_of_lt
   have h1:lw B A V j%V<V:=Nat.mod_lt _ hV
   have h2:B^n≤B^(n+1):=Nat.pow_le_pow_right (by omega) (by omega)
   omega
theorem Jr {c:Nat} (hB:2≤B) (hV:0<V) (hA:A<B^c* V):B^j* (A / B^j / V)<B^c:=by
 have h1:B^j* (A / B^j / V)* V≤A:=by
  have h2:A / B^j / V* V≤A / B^j:=Nat.div_mul_le_self _ _
  have h3:B^j* (A / B^j)≤A:=Nat.mul_div_le _ _
  have h4:=Nat.mul_le_mul_left (B^j) h2
  rw [Nat.mul_assoc];omega
 exact Nat.lt_of_mul_lt_mul_right (Nat.lt_of_le_of_lt h1 hA)
theorem Ni {c:Nat} (hB:2≤B) (hj:j<c):(lq B c A V (j+1))[j]? =some 0:=by
 unfold lq
 rw [ij hj,Nat.pow_succ,Nat.mul_assoc,Nat.mul_div_cancel_left _ (Nat.pow_pos (by omega)),Nat.mul_mod_right]
theorem Ks {c:Nat} (hB:2≤B) (hV:0<V) (hA:A<B^c* V) (hj:j<c):(lq B c A V (j+1)).set j (lw B A V j / V)=lq B c A V j:=by
 have hq:lw B A V j / V<B:=(Nat.div_lt_iff_lt_mul hV).2 (DK hB hV)
 apply jA (by omega)
 · exact kY (ig (by omega) _ _) hq _
 · simp [lq,cn]
 · have h1:=j4 (b:=B) (Ni (A:=A) (V:=V) hB hj) (lw B A V j / V)
   rw [Nat.mul_zero,Nat.add_zero] at h1
   rw [h1]
   have h2:val B (lq B c A V (j+1))=B^(j+1)* (A / B^(j+1) / V):=by
    rw [lq,lY (by omega),Nat.mod_eq_of_lt (Jr hB hV hA)]
   rw [h2,NL (j:=j) hB hV,Nat.mul_add,←Nat.mul_assoc (B^j) B,←Nat.pow_succ]
end
def mix (B N r R i:Nat):List Nat:=(fd B N r).take i++(fd B N R).drop i
theorem Ky {B N r R i:Nat} (h:i≤N):(mix B N r R i).length=N:=by simp [mix,cn];omega
theorem Cg {B N r R i j:Nat} (h:i≤j) (hj:j<N):(mix B N r R i)[j]? =some (R / B^j%B):=by
 have l:((fd B N r).take i).length=i:=by rw [List.length_take,cn];omega
 rw [mix,List.getElem?_append_right (by omega),l,List.getElem?_drop,show i+(j - i)=j by omega,ij hj]
theorem HZ {B N r R i:Nat} (h:i<N):(mix B N r R i).set i (r / B^i%B)=mix B N r R (i+1):=by
 have l:((fd B N r).take i).length=i:=by rw [List.length_take,cn];omega
 have e:(fd B N R).drop i=R / B^i%B::(fd B N R).drop (i+1):=by
  have h1:i<(fd B N R).length:=by rw [cn];exact h
  rw [List.drop_eq_getElem_cons h1]
  have:=ij (b:=B) (v:=R) h
  rw [List.getElem?_eq_getElem h1] at this
  simp only [Option.some.injEq] at this
  rw [this]
 have e2:(fd B N r).take (i+1)=(fd B N r).take i++[r / B^i%B]:=by
  rw [List.take_add_one,ij h];rfl
 rw [mix,List.set_append_right _ _ (by omega),l,Nat.sub_self,e,List.set_cons_zero,mix,e2,List.append_assoc]
 rfl
theorem GK {B p X:Nat} (hp:0<p) (hd:p∣B):(X%(B* B)) / p%B=X / p%B:=by
 obtain ⟨k,rfl⟩:=hd
 rw [show p* k* (p* k)=p* (k* p* k) by ac_rfl,Nat.mod_mul_right_div_self]
 rw [show k* p* k=(p* k)* k by ac_rfl,Nat.mod_mul_right_mod]
end Go.Proofs.YtibbgjafjhcemaaDoor.Cul
set_option maxHeartbeats 2000000
namespace Go.Proofs.YtibbgjafjhcemaaDoor.Cul
open Go Go.RowKit
noncomputable def zl:List PV→Option RV:=cu (fun x:List Nat×List Nat=>(bB (4294967296:Nat) x.1∧bB (4294967296:Nat) x.2)∧x.1.length<2^40∧x.2.length<2^40) (fun x=>[nat x.1,nat x.2]) (fun x=>one (iv (jm x.1 x.2)))
noncomputable def GO:List PV→Option RV:=cu (fun x:List Nat×Nat=>(x.1≠[]∧bB (4294967296:Nat) x.1∧x.1.length<2^40)∧0<x.2∧x.2<(4294967296:Nat)) (fun x=>[nat x.1,ax x.2]) (fun x=>one (.an [nat (dg (4294967296:Nat) (val (4294967296:Nat) x.1 / x.2)),ax (val (4294967296:Nat) x.1%x.2)]))
noncomputable def Nl:List PV→Option RV:=cu (fun a:Nat=>a<(4294967296:Nat)) (fun a=>[ax a]) (fun a=>one (iv ((32 - (dg 2 a).length:Nat):Nat)))
noncomputable def vY:List PV→Option RV:=cu (fun x:List Nat×Nat=>bB (4294967296:Nat) x.1∧x.1.length<2^40∧x.2<32) (fun x=>[nat x.1,iv x.2]) (fun x=>⟨.sl 1 (x.1.length+1) (us (fd (4294967296:Nat) (x.1.length+1) (val (4294967296:Nat) x.1* 2^x.2))),some 1⟩)
structure yW where
 U:List Nat
 o:Nat
 n:Nat
 V:List Nat
def yW.W (x:yW):List Nat:=(x.U.drop x.o).take (x.n+1)
noncomputable def EM:List MA→Option (MR×List PV):=pz (fun x:yW=>x.o+x.n+1≤x.U.length∧∃a b c v1 v2,jE (x.U.take x.o) x.W (x.U.drop (x.o+x.n+1)) x.V x.n a b c v1 v2) (fun x=>[.g (us x.U) x.o 1 (x.n+1), .p (.sl 1 x.n (us x.V))]) (fun x=>(.pv (ax (val (4294967296:Nat) x.W / val (4294967296:Nat) x.V)),us (eW (x.U.take x.o) (fd (4294967296:Nat) (x.n+1) (val (4294967296:Nat) x.W%val (4294967296:Nat) x.V)) (x.U.drop (x.o+x.n+1)))))
noncomputable def t10:Cl:=oD [(98,zl),(106,GO),(107,Nl),(108,vY),(95,oc)] [(109,EM)] [(108,49)]
theorem Vq (k n m:Nat) (cs ds:List PV) (c:Int):ay MD t10 k 93 [.sl 1 n cs, .sl 1 m ds] [.r (one (iv c)), .c true]=
 some (RV.mk (PV.an [PV.lit (Value.slice none 0 0),PV.sl 1 n cs]) none,[aa t10 98 [PV.sl 1 n cs,PV.sl 1 m ds] (RV.mk (PV.lit (Value.int IntKind.i64 c)) none),decide (c<(0:Int))=true]):=by kernel_rfl
theorem Vr (k n m d r:Nat) (cs ds:List PV) (c:Int) (p q:PV):ay MD t10 k 93 [.sl 1 n cs, .sl 1 m ds] [.r (one (iv c)), .c false, .c true, .a 27 [ax d], .r (one (.an [q,ax r])), .r (one p)]=
 some (RV.mk (PV.an [q,p]) none,[aa t10 98 [PV.sl 1 n cs,PV.sl 1 m ds] (RV.mk (PV.lit (Value.int IntKind.i64 c)) none),decide (c<(0:Int))=false,((↑m:Int)==(1:Int))=true,az ds 1 (0:Int) m [PV.lit (Value.int IntKind.u32 (↑d:Int))],aa t10 106 [PV.sl 1 n cs,PV.lit (Value.int IntKind.u32 (↑d:Int))] (RV.mk (PV.an [q,PV.lit (Value.int IntKind.u32 (↑r:Int))]) none),aa t10 95 [PV.sl 1 1 [PV.lit (Value.int IntKind.u32 (↑r:Int))]] (RV.mk p none)]):=by kernel_rfl
theorem Vs (k m n tp s cnt:Nat) (cs ds ON vs u0 u1 u2 zs qs rs AN:List PV) (c:Int) (p q:PV):ay MD t10 k 93 [.sl 1 m cs, .sl 1 n ds] [.r (one (iv c)), .c false, .c false, .i 39 (n - 1:Nat), .a 40 [ax tp], .r (one (iv s)), .r ⟨.sl 1 (n+1) ON,some 1⟩, .r (one (.sl 1 n vs)), .r ⟨.sl 1 (m+1) u0,some 1⟩, .i 55 cnt, .c false, .f zs, .i 60 cnt, .i 61 (cnt - 1:Nat), .l (.exit 0) ⟨[(8, .pv (iv s)),(9, .pv (.sl 1 n vs)),(10, .bs 49 0 1 (m+1)),(11, .pv (iv n)),(12, .bs 56 0 1 cnt),(13, .pv (iv (-1))),(63, .pv (bv false))],[(49,u1),(56,qs)],[],[]⟩, .o 80 0 n, .l (.exit 2) ⟨[(8, .pv (iv s)),(10, .bs 49 0 1 (m+1)),(12, .bs 56 0 1 cnt),(14, .bs 49 0 1 n),(82, .pv (iv n)),(83, .pv (iv n)),(84, .pv (bv false))],[(56,qs),(49,u2)],[],[]⟩, .f AN, .f rs, .r (one p), .r (one q)]=
 some (RV.mk (PV.an [p,q]) none,[aa t10 98 [PV.sl 1 m cs,PV.sl 1 n ds] (RV.mk (PV.lit (Value.int IntKind.i64 c)) none),decide (c<(0:Int))=false,((↑n:Int)==(1:Int))=false,IntKind.i64.wrap ((↑n:Int) - (1:Int))=(↑(n - (1:Nat)):Int),az ds 1 (↑(n - (1:Nat)):Int) n [PV.lit (Value.int IntKind.u32 (↑tp:Int))],aa t10 107 [PV.lit (Value.int IntKind.u32 (↑tp:Int))] (RV.mk (PV.lit (Value.int IntKind.i64 (↑s:Int))) none),aa t10 108 [PV.sl 1 n ds,PV.lit (Value.int IntKind.i64 (↑s:Int))] (RV.mk (PV.sl 1 (n+(1:Nat)) ON) (some 1)),aa t10 95 [PV.sl 1 (n+(1:Nat)) ON] (RV.mk (PV.sl 1 n vs) none),aa t10 108 [PV.sl 1 m cs,PV.lit (Value.int IntKind.i64 (↑s:Int))] (RV.mk (PV.sl 1 (m+(1:Nat)) u0) (some 1)),u0.all bS=true,IntKind.i64.wrap ((↑(m+(1:Nat)):Int) - (↑n:Int))=(↑cnt:Int),(0:Int)≤(↑cnt:Int)∧(↑cnt:Int)≤(↑cnt:Int)∧(↑cnt:Int)* (↑(MD.P.bytesOf (111:Nat)):Int)≤(↑room:Int)∧(↑cnt:Int)≤(↑room:Int),decide ((↑cnt:Int)=(0:Int))=false,iE [PV.lit (Value.int IntKind.u32 (0:Int))] cnt zs,IntKind.i64.wrap ((↑(m+(1:Nat)):Int) - (↑n:Int))=(↑cnt:Int),IntKind.i64.wrap ((↑cnt:Int) - (1:Int))=(↑(cnt - (1:Nat)):Int),aN MD t10 k (93:Nat) (0:Nat) (St.mk [(8,AV.pv (PV.lit (Value.int IntKind.i64 (↑s:Int)))),(9,AV.pv (PV.sl 1 n vs)),(10,AV.bs 49 0 1 (m+(1:Nat))),(11,AV.pv (PV.lit (Value.int IntKind.i64 (↑n:Int)))),(12,AV.bs 56 0 1 cnt),(13,AV.pv (PV.lit (Value.int IntKind.i64 (↑(cnt - (1:Nat)):Int))))] [(49,u0),(56,zs)] [] []) (Xt.exit 0) (St.mk [(8,AV.pv (PV.lit (Value.int IntKind.i64 (↑s:Int)))),(9,AV.pv (PV.sl 1 n vs)),(10,AV.bs 49 0 1 (m+(1:Nat))),(11,AV.pv (PV.lit (Value.int IntKind.i64 (↑n:Int)))),(12,AV.bs 56 0 1 cnt),(13,AV.pv (PV.lit (Value.int IntKind.i64 (-1:Int)))),(63,AV.pv (PV.lit (Value.bool false)))] [(49,u1),(56,qs)] [] []),(0:Int)≤(0:Int)∧(0:Int)≤(↑n:Int)∧(↑n:Int)≤(↑(m+(1:Nat)):Int),0=0,n=n,aN MD t10 k (93:Nat) (1:Nat) (St.mk [(8,AV.pv (PV.lit (Value.int IntKind.i64 (↑s:Int)))),(10,AV.bs 49 0 1 (m+(1:Nat))),(12,AV.bs 56 0 1 cnt),(14,AV.bs 49 0 1 n),(82,AV.pv (PV.lit (Value.int IntKind.i64 (↑n:Int)))),(83,AV.pv (PV.lit (Value.int IntKind.i64 (0:Int))))] [(56,qs),(49,u1)] [] []) (Xt.exit 2) (St.mk [(8,AV.pv (PV.lit (Value.int IntKind.i64 (↑s:Int)))),(10,AV.bs 49 0 1 (m+(1:Nat))),(12,AV.bs 56 0 1 cnt),(14,AV.bs 49 0 1 n),(82,AV.pv (PV.lit (Value.int IntKind.i64 (↑n:Int)))),(83,AV.pv (PV.lit (Value.int IntKind.i64 (↑n:Int)))),(84,AV.pv (PV.lit (Value.bool false)))] [(56,qs),(49,u2)] [] []),de qs 0 (cnt* (1:Nat)) AN,de u2 0 (n* (1:Nat)) rs,aa t10 95 [PV.sl 1 cnt AN] (RV.mk p none),aa t10 95 [PV.sl 1 n rs] (RV.mk q none)]):=by kernel_rfl
theorem Vj (k m n s cnt:Nat) (vs u qs:List PV) (j:Int):ak MD t10 k 93 0 ⟨[(8, .pv (iv s)),(9, .pv (.sl 1 n vs)),(10, .bs 49 0 1 (m+1)),(11, .pv (iv n)),(12, .bs 56 0 1 cnt),(13, .pv (iv j))],[(49,u),(56,qs)],[],[]⟩ [.c false]=
 some ((Xt.exit 0,St.mk [(8,AV.pv (PV.lit (Value.int IntKind.i64 (↑s:Int)))),(9,AV.pv (PV.sl 1 n vs)),(10,AV.bs 49 0 1 (m+(1:Nat))),(11,AV.pv (PV.lit (Value.int IntKind.i64 (↑n:Int)))),(12,AV.bs 56 0 1 cnt),(13,AV.pv (PV.lit (Value.int IntKind.i64 j))),(63,AV.pv (PV.lit (Value.bool false)))] [(49,u),(56,qs)] [] []),[],[decide (j≥(0:Int))=false]):=by kernel_rfl
theorem Vk (k m n s cnt j q:Nat) (vs u u' qs AN:List PV) (j':Int):ak MD t10 k 93 0 ⟨[(8, .pv (iv s)),(9, .pv (.sl 1 n vs)),(10, .bs 49 0 1 (m+1)),(11, .pv (iv n)),(12, .bs 56 0 1 cnt),(13, .pv (iv j))],[(49,u),(56,qs)],[],[]⟩ [.c true, .i 72 (j+n:Nat), .i 73 (j+n+1:Nat), .o 74 j (n+1), .m (.pv (ax q)) u', .j 77 j, .s AN, .i 65 j']=
 some ((Xt.normal,St.mk [(8,AV.pv (PV.lit (Value.int IntKind.i64 (↑s:Int)))),(9,AV.pv (PV.sl 1 n vs)),(10,AV.bs 49 0 1 (m+(1:Nat))),(11,AV.pv (PV.lit (Value.int IntKind.i64 (↑n:Int)))),(12,AV.bs 56 0 1 cnt),(13,AV.pv (PV.lit (Value.int IntKind.i64 j')))] [(49,u'),(56,AN)] [] []),[],[decide ((↑j:Int)≥(0:Int))=true,IntKind.i64.wrap ((↑j:Int)+(↑n:Int))=(↑(j+n):Int),IntKind.i64.wrap ((↑(j+n):Int)+(1:Int))=(↑(j+n+(1:Nat)):Int),(0:Int)≤(↑j:Int)∧(↑j:Int)≤(↑(j+n+(1:Nat)):Int)∧(↑(j+n+(1:Nat)):Int)≤(↑(m+(1:Nat)):Int),(0:Nat)+(↑j:Int).toNat* (1:Nat)=j,(↑(j+n+(1:Nat)):Int).toNat - (↑j:Int).toNat=n+(1:Nat),cC t10 109 [MA.g u j 1 (n+(1:Nat)),MA.p (PV.sl 1 n vs)] (MR.pv (PV.lit (Value.int IntKind.u32 (↑q:Int)))) u',aG (↑j:Int) cnt j,(0:Nat)+j* (1:Nat)+(ax q).cells.length≤qs.length,ck qs ((0:Nat)+j* (1:Nat)) [PV.lit (Value.int IntKind.u32 (↑q:Int))] AN,IntKind.i64.wrap ((↑j:Int) - (1:Int))=j']):=by kernel_rfl
theorem Vl (k m n s cnt i:Nat) (u qs:List PV):ak MD t10 k 93 1 ⟨[(8, .pv (iv s)),(10, .bs 49 0 1 (m+1)),(12, .bs 56 0 1 cnt),(14, .bs 49 0 1 n),(82, .pv (iv n)),(83, .pv (iv i))],[(56,qs),(49,u)],[],[]⟩ [.c false]=
 some ((Xt.exit 2,St.mk [(8,AV.pv (PV.lit (Value.int IntKind.i64 (↑s:Int)))),(10,AV.bs 49 0 1 (m+(1:Nat))),(12,AV.bs 56 0 1 cnt),(14,AV.bs 49 0 1 n),(82,AV.pv (PV.lit (Value.int IntKind.i64 (↑n:Int)))),(83,AV.pv (PV.lit (Value.int IntKind.i64 (↑i:Int)))),(84,AV.pv (PV.lit (Value.bool false)))] [(56,qs),(49,u)] [] []),[],[decide ((↑i:Int)<(↑n:Int))=false]):=by kernel_rfl
theorem Vm (k m n s cnt i x1 x0 w y z:Nat) (u u' qs:List PV):ak MD t10 k 93 1 ⟨[(8, .pv (iv s)),(10, .bs 49 0 1 (m+1)),(12, .bs 56 0 1 cnt),(14, .bs 49 0 1 n),(82, .pv (iv n)),(83, .pv (iv i))],[(56,qs),(49,u)],[],[]⟩ [.c true, .i 90 (i+1:Nat), .j 91 (i+1), .e 92 (ax x1), .i 93 x1, .i 94 (2^32* x1:Nat), .j 97 i, .e 98 (ax x0), .i 99 x0, .i 100 w, .i 102 y, .i 103 z, .j 104 i, .s u', .i 105 (i+1:Nat)]=
 some ((Xt.normal,St.mk [(8,AV.pv (PV.lit (Value.int IntKind.i64 (↑s:Int)))),(10,AV.bs 49 0 1 (m+(1:Nat))),(12,AV.bs 56 0 1 cnt),(14,AV.bs 49 0 1 n),(82,AV.pv (PV.lit (Value.int IntKind.i64 (↑n:Int)))),(83,AV.pv (PV.lit (Value.int IntKind.i64 (↑(i+(1:Nat)):Int))))] [(56,qs),(49,u')] [] []),[],[decide ((↑i:Int)<(↑n:Int))=true,IntKind.i64.wrap ((↑i:Int)+(1:Int))=(↑(i+(1:Nat)):Int),aG (↑(i+(1:Nat)):Int) (m+(1:Nat)) (i+(1:Nat)),Ld MD.P 111 u ((0:Nat)+(i+(1:Nat))* (1:Nat)) (PV.lit (Value.int IntKind.u32 (↑x1:Int))),IntKind.u64.wrap (↑x1:Int)=(↑x1:Int),IntKind.u64.wrap ((↑x1:Int)* (2:Int)^min (Int.toNat (32:Int)) IntKind.u64.bits)=(↑((2:Nat)^(32:Nat)* x1):Int),false=false,aG (↑i:Int) (m+(1:Nat)) i,Ld MD.P 111 u ((0:Nat)+i* (1:Nat)) (PV.lit (Value.int IntKind.u32 (↑x0:Int))),IntKind.u64.wrap (↑x0:Int)=(↑x0:Int),IntKind.u64.wrap (↑(BitVec.ofInt IntKind.u64.bits (↑((2:Nat)^(32:Nat)* x1):Int)|||BitVec.ofInt IntKind.u64.bits (↑x0:Int)).toNat:Int)=(↑w:Int),(↑w:Int).fdiv ((2:Int)^min (↑s:Int).toNat IntKind.u64.bits)=(↑y:Int),decide ((↑s:Int)<(0:Int))=false,IntKind.u32.wrap (↑y:Int)=(↑z:Int),aG (↑i:Int) n i,(0:Nat)+i* (1:Nat)+(PV.lit (Value.int IntKind.u32 (↑z:Int))).cells.length≤u.length,ck u ((0:Nat)+i* (1:Nat)) [PV.lit (Value.int IntKind.u32 (↑z:Int))] u',IntKind.i64.wrap ((↑i:Int)+(1:Int))=(↑(i+(1:Nat)):Int)]):=by kernel_rfl
theorem wO {l m:List Nat} (hl:bB (4294967296:Nat) l) (hm:bB (4294967296:Nat) m) (h1:l.length<2^40) (h2:m.length<2^40):zl [nat l,nat m]=some (one (iv (jm l m))):=
 bl (a:=(l,m)) (enc:=fun x:List Nat×List Nat=>[nat x.1,nat x.2]) (fun a b e=>by
  simp only [List.cons.injEq,and_true] at e
  rw [iu e.1,iu e.2]) ⟨⟨hl,hm⟩,h1,h2⟩
theorem GP {l:List Nat} {d:Nat} (h0:l≠[]) (hl:bB (4294967296:Nat) l) (h1:l.length<2^40) (hd:0<d) (rH:d<(4294967296:Nat)):GO [nat l,ax d]=some (one (.an [nat (dg (4294967296:Nat) (val (4294967296:Nat) l / d)),ax (val (4294967296:Nat) l%d)])):=
 bl (a:=(l,d)) (enc:=fun x:List Nat×Nat=>[nat x.1,ax x.2]) (fun a b e=>by
  simp only [List.cons.injEq,and_true] at e
  rw [iu e.1,mY e.2]) ⟨⟨h0,hl,h1⟩,hd,rH⟩
theorem Nm {a:Nat} (h:a<(4294967296:Nat)):Nl [ax a]=some (one (iv ((32 - (dg 2 a).length:Nat):Nat))):=
 bl (enc:=fun a:Nat=>[ax a]) (fun a b e=>by rw [mY (List.cons.inj e).1]) h
theorem Kl {a b:Nat} (h:iv (a:Int)=iv (b:Int)):a=b:=by
 simp only [iv,PV.lit.injEq,Value.int.injEq,true_and] at h;omega
theorem yq {l:List Nat} {s:Nat} (hl:bB (4294967296:Nat) l) (h1:l.length<2^40) (hs:s<32):vY [nat l,iv s]=some ⟨.sl 1 (l.length+1) (us (fd (4294967296:Nat) (l.length+1) (val (4294967296:Nat) l* 2^s))),some 1⟩:=
 bl (a:=(l,s)) (enc:=fun x:List Nat×Nat=>[nat x.1,iv x.2]) (fun a b e=>by
  simp only [List.cons.injEq,and_true] at e
  rw [iu e.1,Kl e.2]) ⟨hl,h1,hs⟩
theorem EN (x:yW) (hx:x.o+x.n+1≤x.U.length) {a b c v1 v2:Nat} (h:jE (x.U.take x.o) x.W (x.U.drop (x.o+x.n+1)) x.V x.n a b c v1 v2):EM [.g (us x.U) x.o 1 (x.n+1), .p (.sl 1 x.n (us x.V))]=some (.pv (ax (val (4294967296:Nat) x.W / val (4294967296:Nat) x.V)),us (eW (x.U.take x.o) (fd (4294967296:Nat) (x.n+1) (val (4294967296:Nat) x.W%val (4294967296:Nat) x.V)) (x.U.drop (x.o+x.n+1)))):=
 kG (a:=x) (enc:=fun x:yW=>[.g (us x.U) x.o 1 (x.n+1), .p (.sl 1 x.n (us x.V))]) (fun a b e=>by
  simp only [List.cons.injEq,and_true,MA.g.injEq,MA.p.injEq,PV.sl.injEq,true_and] at e
  obtain ⟨⟨e1,e2,e3⟩,e4,e5⟩:=e
  have e1:=Bf e1
  have e5:=Bf e5
  have:a=b:=by
   obtain ⟨a1,a2,a3,a4⟩:=a
   obtain ⟨b1,b2,b3,b4⟩:=b
   exact yW.mk.injEq .. ▸⟨e1,e2,e4,e5⟩
  rw [this]) ⟨hx,a,b,c,v1,v2,h⟩
theorem xH {U:List Nat} {o n:Nat} (h:o+n+1≤U.length):eW (U.take o) ((U.drop o).take (n+1)) (U.drop (o+n+1))=U:=by
 simp only [eW]
 rw [List.append_assoc]
 have:U.drop (o+n+1)=(U.drop o).drop (n+1):=by rw [List.drop_drop];rfl
 rw [this,List.take_append_drop,List.take_append_drop]
theorem A9:aP MD.P t10:=j3
 (au (aE fun x h=>Dh x.1 x.2 h.1.1 h.1.2 h.2.1 h.2.2)
 (au (aE fun x h=>IJ x.1 h.1.1 h.1.2.1 h.1.2.2 x.2 h.2.1 h.2.2)
 (au (aE fun a h=>Pa a h)
 (au (aE fun x h=>ID x.1 h.1 h.2.1 x.2 h.2.2)
 (au (aE fun l h=>xz l h.1 h.2) aL)))))
 (gm (kH fun x h=>by
  obtain ⟨hx,a,b,c,v1,v2,h⟩:=h
  have:=HA h
  rw [show eW (x.U.take x.o) x.W (x.U.drop (x.o+x.n+1))=x.U from xH hx,show (x.U.take x.o).length=x.o by rw [List.length_take];omega] at this
  exact this) jf)
structure uA (a b m n s tp:Nat):Prop where
 hm:(dg (4294967296:Nat) a).length=m
 hn:(dg (4294967296:Nat) b).length=n
 n2:2≤n
 Q1:m<2^39
 nm:n≤m
 Yw:s<32
 hb:0<b
 alt:a<(4294967296:Nat)^m
 lo:2^31* (4294967296:Nat)^(n - 1)≤b* 2^s
 hi:b* 2^s<(4294967296:Nat)^n
namespace uA
variable {a b m n s tp:Nat}
theorem xA (h:uA a b m n s tp):0<b* 2^s:=Nat.mul_pos h.hb (Nat.pow_pos (by omega))
theorem IP (h:uA a b m n s tp):(dg (4294967296:Nat) (b* 2^s)).length=n:=by
 have h1:=lT (b:=(4294967296:Nat)) (by decide) h.hi
 have h2:=eG (b:=(4294967296:Nat)) (n:=b* 2^s) (by decide)
 have h3:=h.lo
 rcases Nat.lt_or_ge (dg (4294967296:Nat) (b* 2^s)).length n with h4|h4
 · have h5:(4294967296:Nat)^(dg (4294967296:Nat) (b* 2^s)).length≤(4294967296:Nat)^(n - 1):=Nat.pow_le_pow_right (by decide) (by omega)
   omega
 · omega
theorem Zq (h:uA a b m n s tp):dg (4294967296:Nat) (b* 2^s)=fd (4294967296:Nat) n (b* 2^s):=
 jA (by decide) (cD (by decide) _) h.IP (ct (by decide) _)
theorem Ht (h:uA a b m n s tp):a* 2^s<(4294967296:Nat)^(m+1 - n)* (b* 2^s):=by
 have h1:a<(4294967296:Nat)^(m+1 - n)* b:=by
  have h2:=nX (b:=(4294967296:Nat)) (by decide) h.hb
  rw [h.hn] at h2
  have h3:(4294967296:Nat)^m=(4294967296:Nat)^(m+1 - n)* (4294967296:Nat)^(n - 1):=by rw [←Nat.pow_add];congr 1;have:=h.nm;have:=h.n2;omega
  have h4:=Nat.mul_le_mul_left ((4294967296:Nat)^(m+1 - n)) h2
  have:=h.alt;omega
 rw [←Nat.mul_assoc]
 exact Nat.mul_lt_mul_of_pos_right h1 (Nat.pow_pos (by omega))
end uA
def L0 (s n m cnt:Nat) (vs:List Nat) (j:Int) (U Q:List Nat) (e:List (Nat×AV)):St:=⟨(8, .pv (iv s))::(9, .pv (.sl 1 n (us vs)))::(10, .bs 49 0 1 (m+1))::(11, .pv (iv n))::(12, .bs 56 0 1 cnt)::(13, .pv (iv j))::e,[(49,us U),(56,us Q)],[],[]⟩
theorem vu {f:St→Option (Xt×St)} {S:Nat→St} {n:Nat} (h:∀j,j<n→f (S (j+1))=some (.normal,S j)) {r:Xt×St} (hr:f (S 0)=some r) (hx:r.1≠ .normal):∀j,j≤n→aR f (j+1) (S j)=some r
 |0,_=>by obtain ⟨x,s⟩:=r;exact aF hr hx
 |j+1,hj=>aW (h j (by omega)) (vu h hr hx j (by omega))
theorem ES {a b m n s tp:Nat} (h:uA a b m n s tp) (k:Nat) (j:Nat) (hj:j<m+1 - n):aI MD t10 k 93 0 (L0 s n m (m+1 - n) (dg (4294967296:Nat) (b* 2^s)) (j:Int) (lu (4294967296:Nat) (m+1) (a* 2^s) (b* 2^s) (j+1)) (lq (4294967296:Nat) (m+1 - n) (a* 2^s) (b* 2^s) (j+1)) [])=some (.normal,L0 s n m (m+1 - n) (dg (4294967296:Nat) (b* 2^s)) ((j:Int) - 1) (lu (4294967296:Nat) (m+1) (a* 2^s) (b* 2^s) j) (lq (4294967296:Nat) (m+1 - n) (a* 2^s) (b* 2^s) j) []):=by
 have hnm:=h.nm
 have aam:=h.Q1
 have hn2:=h.n2
 have hV:=h.xA
 have rF:b* 2^s≤(4294967296:Nat)^n:=Nat.le_of_lt h.hi
 obtain ⟨w1,w2,w3⟩:=Hq (B:=(4294967296:Nat)) (N:=m+1) (A:=a* 2^s) (V:=b* 2^s) (j:=j) (n:=n) (by decide) hV rF (by omega)
 have hnext:=Kt (B:=(4294967296:Nat)) (N:=m+1) (A:=a* 2^s) (V:=b* 2^s) (j:=j) (n:=n) (by decide) hV rF (by omega)
 have Xa:=Ks (B:=(4294967296:Nat)) (c:=m+1 - n) (A:=a* 2^s) (V:=b* 2^s) (j:=j) (by decide) hV h.Ht (by omega)
 have QS:=DK (B:=(4294967296:Nat)) (A:=a* 2^s) (V:=b* 2^s) (j:=j) (by decide) hV
 obtain ⟨U,hU⟩:∃U,U=lu (4294967296:Nat) (m+1) (a* 2^s) (b* 2^s) (j+1):=⟨_,rfl⟩
 have lU:U.length=m+1:=by rw [hU];exact cn _ _ _
 have dU:bB (4294967296:Nat) U:=by rw [hU];exact ig (by decide) _ _
 rw [←hU] at w1 w2 w3 hnext ⊢
 have lW:((U.drop j).take (n+1)).length=n+1:=by rw [List.length_take,List.length_drop,lU];omega
 obtain ⟨xa,ga⟩:=get_some (l:=(U.drop j).take (n+1)) (i:=n) (by omega)
 obtain ⟨xb,gb⟩:=get_some (l:=(U.drop j).take (n+1)) (i:=n - 1) (by omega)
 obtain ⟨xc,gc⟩:=get_some (l:=(U.drop j).take (n+1)) (i:=n - 2) (by omega)
 have hvl:=h.IP
 have g1:(dg (4294967296:Nat) (b* 2^s))[n - 1]? =some (b* 2^s / (4294967296:Nat)^(n - 1)%(4294967296:Nat)):=by rw [h.Zq];exact ij (by omega)
 obtain ⟨v2,g2⟩:=get_some (l:=dg (4294967296:Nat) (b* 2^s)) (i:=n - 2) (by omega)
 have HR:(4294967296:Nat)≤2* (b* 2^s / (4294967296:Nat)^(n - 1)%(4294967296:Nat)):=by
  have h1:2^31≤b* 2^s / (4294967296:Nat)^(n - 1):=(Nat.le_div_iff_mul_le (Nat.pow_pos (by decide))).2 h.lo
  have h2:b* 2^s / (4294967296:Nat)^(n - 1)<(4294967296:Nat):=by
   rw [Nat.div_lt_iff_lt_mul (Nat.pow_pos (by decide))]
   have e:(4294967296:Nat)* (4294967296:Nat)^(n - 1)=(4294967296:Nat)^n:=by
    rw [Nat.mul_comm,←Nat.pow_succ];congr 1;omega
   rw [e]
   exact h.hi
  rw [Nat.mod_eq_of_lt h2];omega
 have RY:jE (U.take j) ((U.drop j).take (n+1)) (U.drop (j+n+1)) (dg (4294967296:Nat) (b* 2^s)) n xa xb xc (b* 2^s / (4294967296:Nat)^(n - 1)%(4294967296:Nat)) v2:={ hV:=hvl,hW:=lW,dV:=cD (by decide) _,dW:=fl (jH dU _) _,ga:=ga,gb:=gb,gc:=gc,g1:=g1,g2:=g2,hn:=hn2,sz:=by rw [xH (by omega),lU];omega,top:=HR,lt:=by rw [w2,ct (by decide)];exact QS}
 have eo:=EN ⟨U,j,n,dg (4294967296:Nat) (b* 2^s)⟩ (by simp only [lU];omega) RY
 simp only [yW.W,w2,ct (b:=(4294967296:Nat)) (by decide)] at eo
 simp only [eW,hnext] at eo
 have lQ:(lq (4294967296:Nat) (m+1 - n) (a* 2^s) (b* 2^s) (j+1)).length=m+1 - n:=cn _ _ _
 refine af (Vk k m n s (m+1 - n) j (lw (4294967296:Nat) (a* 2^s) (b* 2^s) j / (b* 2^s)) _ (us U) (us (lu (4294967296:Nat) (m+1) (a* 2^s) (b* 2^s) j)) _ (us (lq (4294967296:Nat) (m+1 - n) (a* 2^s) (b* 2^s) j)) ((j:Int) - 1)) ⟨by simp,bn (by omega) (by omega),bn (by omega) (by omega),⟨by omega,by omega,by omega⟩,by simp,by simp;omega,eo,⟨rfl,by omega⟩, ?_,jz Xa (by rw [lQ];omega) (by omega),by rw [wrap64]<;>omega,trivial⟩
 rw [dn,lQ];simp [ax,PV.cells];omega
theorem HC {s n m cnt:Nat} (k:Nat) (vs U Q:List Nat):aI MD t10 k 93 0 (L0 s n m cnt vs (-1) U Q [])=some (.exit 0,L0 s n m cnt vs (-1) U Q [(63, .pv (bv false))]):=
 af (Vj k m n s cnt (us vs) (us U) (us Q) (-1)) ⟨by decide,trivial⟩
theorem HD {a b m n s tp:Nat} (h:uA a b m n s tp) (k:Nat) (j:Nat) (hj:j≤m+1 - n):aR (aI MD t10 k 93 0) (j+1) (L0 s n m (m+1 - n) (dg (4294967296:Nat) (b* 2^s)) ((j:Int) - 1) (lu (4294967296:Nat) (m+1) (a* 2^s) (b* 2^s) j) (lq (4294967296:Nat) (m+1 - n) (a* 2^s) (b* 2^s) j) [])=some (.exit 0,L0 s n m (m+1 - n) (dg (4294967296:Nat) (b* 2^s)) (-1) (lu (4294967296:Nat) (m+1) (a* 2^s) (b* 2^s) 0) (lq (4294967296:Nat) (m+1 - n) (a* 2^s) (b* 2^s) 0) [(63, .pv (bv false))]):=by
 refine vu (S:=fun j=>L0 s n m (m+1 - n) (dg (4294967296:Nat) (b* 2^s)) ((j:Int) - 1) (lu (4294967296:Nat) (m+1) (a* 2^s) (b* 2^s) j) (lq (4294967296:Nat) (m+1 - n) (a* 2^s) (b* 2^s) j) []) (n:=m+1 - n) ?_ ?_ (by simp) j hj
 · intro j hj
   have hi:(((j+1:Nat):Int) - 1)=(j:Int):=by omega
   rw [hi]
   exact ES h k j hj
 · have hi:(((0:Nat):Int) - 1)= -1:=by omega
   rw [hi]
   exact HC k _ _ _
def L1 (s n m cnt i:Nat) (U:List Nat) (Q:List Nat) (e:List (Nat×AV)):St:=⟨(8, .pv (iv s))::(10, .bs 49 0 1 (m+1))::(12, .bs 56 0 1 cnt)::(14, .bs 49 0 1 n)::(82, .pv (iv n))::(83, .pv (iv i))::e,[(56,us Q),(49,us U)],[],[]⟩
theorem GL {m n s cnt r:Nat} (k:Nat) (Q:List Nat) (hm:m<2^39) (hnm:n≤m) (hs:s<32) (i:Nat) (hi:i<n):aI MD t10 k 93 1 (L1 s n m cnt i (mix (4294967296:Nat) (m+1) r (r* 2^s) i) Q [])=some (.normal,L1 s n m cnt (i+1) (mix (4294967296:Nat) (m+1) r (r* 2^s) (i+1)) Q []):=by
 have hB:(0:Nat)<(4294967296:Nat):=by decide
 have g1:(mix (4294967296:Nat) (m+1) r (r* 2^s) i)[i+1]? =some (r* 2^s / (4294967296:Nat)^(i+1)%(4294967296:Nat)):=Cg (by omega) (by omega)
 have g0:(mix (4294967296:Nat) (m+1) r (r* 2^s) i)[i]? =some (r* 2^s / (4294967296:Nat)^i%(4294967296:Nat)):=Cg (by omega) (by omega)
 have hx1:r* 2^s / (4294967296:Nat)^(i+1)%(4294967296:Nat)<(4294967296:Nat):=Nat.mod_lt _ hB
 have hx0:r* 2^s / (4294967296:Nat)^i%(4294967296:Nat)<(4294967296:Nat):=Nat.mod_lt _ hB
 have hp:0<2^s:=Nat.pow_pos (by omega)
 have hdvd:2^s∣(4294967296:Nat):=by
  refine ⟨2^(32 - s), ?_⟩
  rw [←Nat.pow_add,show s+(32 - s)=32 by omega]
 obtain ⟨X,hX⟩:∃X,X=r* 2^s / (4294967296:Nat)^i:=⟨_,rfl⟩
 have Qs:r* 2^s / (4294967296:Nat)^(i+1)=X / (4294967296:Nat):=by rw [Nat.pow_succ,←Nat.div_div_eq_div_mul,←hX]
 have hw:2^32* (X / (4294967296:Nat)%(4294967296:Nat))+X%(4294967296:Nat)=X%((4294967296:Nat)* (4294967296:Nat)):=by rw [Nat.mod_mul];omega
 have hz:X%((4294967296:Nat)* (4294967296:Nat)) / 2^s%(4294967296:Nat)=r / (4294967296:Nat)^i%(4294967296:Nat):=by
  rw [GK hp hdvd,hX,Nat.div_div_eq_div_mul,Nat.mul_comm ((4294967296:Nat)^i),←Nat.div_div_eq_div_mul,Nat.mul_div_cancel _ hp]
 have ll:(mix (4294967296:Nat) (m+1) r (r* 2^s) i).length=m+1:=Ky (by omega)
 have fI:=HZ (B:=(4294967296:Nat)) (N:=m+1) (r:=r) (R:=r* 2^s) (i:=i) (by omega)
 rw [←hX] at g0 hx0
 rw [Qs] at g1 hx1
 have QS:X%((4294967296:Nat)* (4294967296:Nat))<(4294967296:Nat)* (4294967296:Nat):=Nat.mod_lt _ (by decide)
 refine af (Vm k m n s cnt i (X / (4294967296:Nat)%(4294967296:Nat)) (X%(4294967296:Nat)) (X%((4294967296:Nat)* (4294967296:Nat))) (X%((4294967296:Nat)* (4294967296:Nat)) / 2^s) (r / (4294967296:Nat)^i%(4294967296:Nat)) (us (mix (4294967296:Nat) (m+1) r (r* 2^s) i)) (us (mix (4294967296:Nat) (m+1) r (r* 2^s) (i+1))) (us Q)) ⟨by simpa using hi,bn (by omega) (by omega),⟨rfl,by omega⟩,kz g1 (by omega),bE rfl (by omega),kF hx1,rfl,⟨rfl,by omega⟩,kz g0 (by omega),bE rfl (by omega),nH (r:=32) (by omega) (by omega) _ (by omega), ?_,by simp,by rw [Bi,hz],⟨rfl,by omega⟩, ?_,jz fI (by rw [ll];omega) (by omega),bn (by omega) (by omega),trivial⟩
 · have e:min ((s:Int)).toNat IntKind.u64.bits=s:=by rw [Int.toNat_natCast];show min s 64=s;omega
   rw [e]
   have e2:(2:Int)^s=((2^s:Nat):Int):=by simp
   rw [e2,kg]
 · rw [dn,ll];simp [PV.cells];omega
theorem IF {m n s cnt:Nat} (k:Nat) (U Q:List Nat):aI MD t10 k 93 1 (L1 s n m cnt n U Q [])=some (.exit 2,L1 s n m cnt n U Q [(84, .pv (bv false))]):=
 af (Vl k m n s cnt n (us U) (us Q)) ⟨by simp,trivial⟩
theorem IG {m n s cnt r:Nat} (k:Nat) (Q:List Nat) (hm:m<2^39) (hnm:n≤m) (hs:s<32) (hk:n<k):aR (aI MD t10 k 93 1) k (L1 s n m cnt 0 (mix (4294967296:Nat) (m+1) r (r* 2^s) 0) Q [])=some (.exit 2,L1 s n m cnt n (mix (4294967296:Nat) (m+1) r (r* 2^s) n) Q [(84, .pv (bv false))]):=by
 refine cK (S:=fun i=>L1 s n m cnt i (mix (4294967296:Nat) (m+1) r (r* 2^s) i) Q []) (n:=n) ?_ ?_ (by simp) k hk
 · intro i hi
   exact GL k Q hm hnm hs i hi
 · exact IF k _ _
theorem Hf {b n:Nat} (hb:0<b) (hn:(dg (4294967296:Nat) b).length=n):∃tp,(dg (4294967296:Nat) b)[n - 1]? =some tp∧0<tp∧tp<(4294967296:Nat)∧tp* (4294967296:Nat)^(n - 1)≤b∧b<(tp+1)* (4294967296:Nat)^(n - 1):=by
 have hB:(2:Nat)≤(4294967296:Nat):=by decide
 have h1:=nX hB hb
 have h2:=eG (b:=(4294967296:Nat)) (n:=b) hB
 rw [hn] at h1 h2
 have hn0:0<n:=by rw [←hn,dK hB hb];simp
 have hP:0<(4294967296:Nat)^(n - 1):=Nat.pow_pos (by decide)
 have hlt:b / (4294967296:Nat)^(n - 1)<(4294967296:Nat):=by
  rw [Nat.div_lt_iff_lt_mul hP]
  have e:(4294967296:Nat)* (4294967296:Nat)^(n - 1)=(4294967296:Nat)^n:=by rw [Nat.mul_comm,←Nat.pow_succ];congr 1;omega
  rw [e];exact h2
 have jR:dg (4294967296:Nat) b=fd (4294967296:Nat) n b:=jA (by decide) (cD hB _) hn (ct hB _)
 refine ⟨b / (4294967296:Nat)^(n - 1), ?_,(Nat.le_div_iff_mul_le hP).2 (by omega),hlt,Nat.div_mul_le_self _ _, ?_⟩
 · rw [jR,ij (by omega),Nat.mod_eq_of_lt hlt]
 · have:=Nat.div_add_mod b ((4294967296:Nat)^(n - 1))
   have h3:=Nat.mod_lt b hP
   rw [Nat.add_mul,Nat.one_mul,Nat.mul_comm (b / (4294967296:Nat)^(n - 1))]
   omega
theorem DO {b n tp:Nat} (hn0:0<n) (h0:0<tp) (h1:tp<(4294967296:Nat)) (h2:tp* (4294967296:Nat)^(n - 1)≤b) (h3:b<(tp+1)* (4294967296:Nat)^(n - 1)):2^31* (4294967296:Nat)^(n - 1)≤b* 2^(32 - (dg 2 tp).length)∧b* 2^(32 - (dg 2 tp).length)<(4294967296:Nat)^n:=by
 have hL:=zi h1
 have Qp:0<(dg 2 tp).length:=by rw [dK (by omega) h0];simp
 have g1:=nX (b:=2) (by omega) h0
 have g2:=eG (b:=2) (n:=tp) (by omega)
 obtain ⟨L,Wi⟩:∃L,L=(dg 2 tp).length:=⟨_,rfl⟩
 rw [←Wi] at hL Qp g1 g2 ⊢
 have hp:0<2^(32 - L):=Nat.pow_pos (by omega)
 constructor
 · have e1:2^31≤tp* 2^(32 - L):=by
     have:2^(L - 1)* 2^(32 - L)≤tp* 2^(32 - L):=Nat.mul_le_mul_right _ g1
     rw [←Nat.pow_add,show L - 1+(32 - L)=31 by omega] at this
     exact this
   calc 2^31* (4294967296:Nat)^(n - 1)≤tp* 2^(32 - L)* (4294967296:Nat)^(n - 1):=Nat.mul_le_mul_right _ e1
    _=tp* (4294967296:Nat)^(n - 1)* 2^(32 - L):=by ac_rfl
    _≤b* 2^(32 - L):=Nat.mul_le_mul_right _ h2
 · have e1:(tp+1)* 2^(32 - L)≤(4294967296:Nat):=by
     have:(tp+1)* 2^(32 - L)≤2^L* 2^(32 - L):=Nat.mul_le_mul_right _ g2
     rw [←Nat.pow_add,show L+(32 - L)=32 by omega] at this
     exact this
   have e2:(4294967296:Nat)* (4294967296:Nat)^(n - 1)=(4294967296:Nat)^n:=by rw [Nat.mul_comm,←Nat.pow_succ];congr 1;omega
   rw [←e2]
   calc b* 2^(32 - L)<(tp+1)* (4294967296:Nat)^(n - 1)* 2^(32 - L):=Nat.mul_lt_mul_of_pos_right h3 hp
    _=(tp+1)* 2^(32 - L)* (4294967296:Nat)^(n - 1):=by ac_rfl
    _≤(4294967296:Nat)* (4294967296:Nat)^(n - 1):=Nat.mul_le_mul_right _ e1
theorem qy {l:List Nat} {v:Nat} (h:l.length<2^40) (hd:bB (4294967296:Nat) l) (hv:val (4294967296:Nat) l=v):oc [nat l]=some (one (nat (dg (4294967296:Nat) v))):=by
 rw [←hv];exact nQ h hd
theorem rC {N v:Nat} (h:v<(4294967296:Nat)^N):val (4294967296:Nat) (fd (4294967296:Nat) N v)=v:=by rw [lY (by decide),Nat.mod_eq_of_lt h]
def xo (a b:Nat):PV:=if a<b then .lit (.slice none 0 0) else nat (dg (4294967296:Nat) (a / b))
theorem Dk {a b:Nat} (hb:0<b) (ha:(dg (4294967296:Nat) a).length<2^39) (hab:b≤a) (hn2:2≤(dg (4294967296:Nat) b).length):aA P0 93 [nat (dg (4294967296:Nat) a),nat (dg (4294967296:Nat) b)] (one (.an [nat (dg (4294967296:Nat) (a / b)),nat (dg (4294967296:Nat) (a%b))])):=by
 have hB:(2:Nat)≤(4294967296:Nat):=by decide
 obtain ⟨m,hm⟩:∃m,m=(dg (4294967296:Nat) a).length:=⟨_,rfl⟩
 obtain ⟨n,hn⟩:∃n,n=(dg (4294967296:Nat) b).length:=⟨_,rfl⟩
 obtain ⟨tp,gt,Ro,Rq,t1,t2⟩:=Hf hb hn.symm
 rw [←hm] at ha
 rw [←hn] at hn2
 obtain ⟨s,hs⟩:∃s,s=32 - (dg 2 tp).length:=⟨_,rfl⟩
 have Qp:0<(dg 2 tp).length:=by rw [dK (by omega) Ro];simp
 obtain ⟨Q2,Q3⟩:=DO (by omega) Ro Rq t1 t2
 rw [←hs] at Q2 Q3
 have hnm:n≤m:=by
  rcases Nat.lt_or_ge m n with h|h
  · have:=nY (a:=a) (b:=b) (by omega);omega
  · exact h
 have hC:uA a b m n s tp:={ hm:=hm.symm,hn:=hn.symm,n2:=hn2,Q1:=ha,nm:=hnm,Yw:=by omega,hb:=hb,alt:=by rw [hm];exact eG hB,lo:=Q2,hi:=Q3}
 have hV:=hC.xA
 have hp:0<2^s:=Nat.pow_pos (by omega)
 have hroom:(2:Int)^43≤(room:Int):=by decide
 have lA:=cD hB a
 have QW:=cD hB b
 have eR:a* 2^s%(b* 2^s)=a%b* 2^s:=Nat.mul_mod_mul_right _ _ _
 have eQ:a* 2^s / (b* 2^s)=a / b:=Nat.mul_div_mul_right _ _ hp
 have XF:lu (4294967296:Nat) (m+1) (a* 2^s) (b* 2^s) 0=fd (4294967296:Nat) (m+1) (a%b* 2^s):=by
  simp only [lu,Nat.pow_zero,Nat.mod_one,Nat.div_one,Nat.one_mul,Nat.zero_add,eR]
 have XD:lq (4294967296:Nat) (m+1 - n) (a* 2^s) (b* 2^s) 0=fd (4294967296:Nat) (m+1 - n) (a / b):=by
  simp only [lq,Nat.pow_zero,Nat.div_one,Nat.one_mul,eQ]
 have hT:a* 2^s / (4294967296:Nat)^(m+1 - n)<b* 2^s:=(Nat.div_lt_iff_lt_mul (Nat.pow_pos (by decide))).2 (by rw [Nat.mul_comm (b* 2^s)];exact hC.Ht)
 have XG:lu (4294967296:Nat) (m+1) (a* 2^s) (b* 2^s) (m+1 - n)=fd (4294967296:Nat) (m+1) (a* 2^s):=by
  simp only [lu]
  rw [Nat.mod_eq_of_lt hT,Nat.mod_add_div]
 have XE:lq (4294967296:Nat) (m+1 - n) (a* 2^s) (b* 2^s) (m+1 - n)=List.replicate (m+1 - n) 0:=by
  simp only [lq]
  rw [Nat.div_eq_of_lt hT,Nat.mul_zero,wT (by decide)]
 have Jq:=HD hC (m+5) (m+1 - n) (Nat.le_refl _)
 rw [XG,XE,XF,XD] at Jq
 have hcast:((m+1 - n - 1:Nat):Int)=((m+1 - n:Nat):Int) - 1:=by omega
 have Jq:=bH (show m+1 - n+1≤m+5 by omega) Jq
 have FT:=IG (r:=a%b) (cnt:=m+1 - n) (m+5) (fd (4294967296:Nat) (m+1 - n) (a / b)) ha hnm (by omega:s<32) (by omega)
 have SG:mix (4294967296:Nat) (m+1) (a%b) (a%b* 2^s) 0=fd (4294967296:Nat) (m+1) (a%b* 2^s):=by simp [mix]
 rw [SG] at FT
 have hrb:a%b<(4294967296:Nat)^n:=by
  have h1:=Nat.mod_lt a hb
  have h2:=eG (b:=(4294967296:Nat)) (n:=b) hB
  rw [←hn] at h2
  omega
 have W7:a / b<(4294967296:Nat)^(m+1 - n):=by
  have h1:=Jr (B:=(4294967296:Nat)) (c:=m+1 - n) (j:=0) hB hV hC.Ht
  simp only [Nat.pow_zero,Nat.div_one,Nat.one_mul,eQ] at h1
  exact h1
 have Ui:b* 2^s<(4294967296:Nat)^(n+1):=Nat.lt_of_lt_of_le hC.hi (Nat.pow_le_pow_right (by decide) (by omega))
 have nA:nat (dg (4294967296:Nat) a)= .sl 1 m (us (dg (4294967296:Nat) a)):=by rw [nat,←hm]
 have nB:nat (dg (4294967296:Nat) b)= .sl 1 n (us (dg (4294967296:Nat) b)):=by rw [nat,←hn]
 have c1:zl [.sl 1 m (us (dg (4294967296:Nat) a)), .sl 1 n (us (dg (4294967296:Nat) b))]=some (one (iv (jm (dg (4294967296:Nat) a) (dg (4294967296:Nat) b)))):=by rw [←nA,←nB];exact wO lA QW (by omega) (by omega)
 have c2:vY [.sl 1 n (us (dg (4294967296:Nat) b)),iv s]=some ⟨.sl 1 (n+1) (us (fd (4294967296:Nat) (n+1) (b* 2^s))),some 1⟩:=by
  have:=yq (l:=dg (4294967296:Nat) b) (s:=s) QW (by omega) (by omega)
  rwa [ct hB,←hn,nB] at this
 have c3:vY [.sl 1 m (us (dg (4294967296:Nat) a)),iv s]=some ⟨.sl 1 (m+1) (us (fd (4294967296:Nat) (m+1) (a* 2^s))),some 1⟩:=by
  have:=yq (l:=dg (4294967296:Nat) a) (s:=s) lA (by omega) (by omega)
  rwa [ct hB,←hm,nA] at this
 have c4:oc [.sl 1 (n+1) (us (fd (4294967296:Nat) (n+1) (b* 2^s)))]=some (one (.sl 1 n (us (dg (4294967296:Nat) (b* 2^s))))):=by
  have:=qy (l:=fd (4294967296:Nat) (n+1) (b* 2^s)) (by rw [cn];omega) (ig (by decide) _ _) (rC Ui)
  simp only [nat,cn,hC.IP] at this
  exact this
 have c5:oc [.sl 1 (m+1 - n) (us (fd (4294967296:Nat) (m+1 - n) (a / b)))]=some (one (nat (dg (4294967296:Nat) (a / b)))):=by
  have:=qy (l:=fd (4294967296:Nat) (m+1 - n) (a / b)) (by rw [cn];omega) (ig (by decide) _ _) (rC W7)
  simp only [nat,cn] at this
  exact this
 have c6:oc [.sl 1 n (us (fd (4294967296:Nat) n (a%b)))]=some (one (nat (dg (4294967296:Nat) (a%b)))):=by
  have:=qy (l:=fd (4294967296:Nat) n (a%b)) (by rw [cn];omega) (ig (by decide) _ _) (rC hrb)
  simp only [nat,cn] at this
  exact this
 have w7:∀l:List Nat,(us l).all bS=true:=by
  intro l
  rw [List.all_eq_true]
  intro y hy
  simp only [us,List.mem_map] at hy
  obtain ⟨z,_,rfl⟩:=hy
  rfl
 have hcmp:decide (jm (dg (4294967296:Nat) a) (dg (4294967296:Nat) b)<0)=false:=by
  rw [decide_eq_false_iff_not,zn];omega
 have hlz:Nl [ax tp]=some (one (iv s)):=by rw [hs];exact Nm Rq
 have hrow:az (us (dg (4294967296:Nat) b)) 1 ((n - 1:Nat):Int) n [ax tp]:=by
  have:=eS gt rfl;rwa [←hn] at this
 have vc:(mix (4294967296:Nat) (m+1) (a%b) (a%b* 2^s) n).take n=fd (4294967296:Nat) n (a%b):=by
  have l:((fd (4294967296:Nat) (m+1) (a%b)).take n).length=n:=by rw [List.length_take,cn];omega
  rw [mix,List.take_left' l,BX (4294967296:Nat) (by omega)]
 have go:=ai ah A9 (by rfl) (Vs (m+5) m n tp s (m+1 - n) (us (dg (4294967296:Nat) a)) (us (dg (4294967296:Nat) b)) (us (fd (4294967296:Nat) (n+1) (b* 2^s))) (us (dg (4294967296:Nat) (b* 2^s))) (us (fd (4294967296:Nat) (m+1) (a* 2^s))) (us (fd (4294967296:Nat) (m+1) (a%b* 2^s))) (us (mix (4294967296:Nat) (m+1) (a%b) (a%b* 2^s) n)) (us (List.replicate (m+1 - n) 0)) (us (fd (4294967296:Nat) (m+1 - n) (a / b))) (us (fd (4294967296:Nat) n (a%b))) (us (fd (4294967296:Nat) (m+1 - n) (a / b))) (jm (dg (4294967296:Nat) a) (dg (4294967296:Nat) b)) (nat (dg (4294967296:Nat) (a / b))) (nat (dg (4294967296:Nat) (a%b)))) ⟨c1,hcmp,by simp;omega,fO (by omega) (by omega),hrow,hlz,c2,c4,c3,w7 _,bn (by omega) (by omega),⟨by omega,by omega,by rw [pT];omega,by omega⟩,by simp;omega,qH,bn (by omega) (by omega),fO (by omega) (by omega),by rw [hcast];exact Jq,⟨by omega,by omega,by omega⟩,rfl,rfl,FT,mV _ 0 _ (by rw [List.drop_zero,List.take_of_length_le (by rw [cn];omega)]),mV _ 0 _ (by rw [List.drop_zero,Nat.mul_one,vc]),c5,c6,trivial⟩
 rw [←nA,←nB] at go
 exact go
theorem zu {a b:Nat} (hb:0<b) (ha:(dg (4294967296:Nat) a).length<2^39) (hab:b≤a) (hn:(dg (4294967296:Nat) b).length=1):aA P0 93 [nat (dg (4294967296:Nat) a),nat (dg (4294967296:Nat) b)] (one (.an [nat (dg (4294967296:Nat) (a / b)),nat (dg (4294967296:Nat) (a%b))])):=by
 have hB:(2:Nat)≤(4294967296:Nat):=by decide
 have I9:b<(4294967296:Nat):=by have:=eG (b:=(4294967296:Nat)) (n:=b) hB;rw [hn] at this;simpa using this
 have hd:dg (4294967296:Nat) b=[b]:=by
  rw [dK hB hb,Nat.mod_eq_of_lt I9,Nat.div_eq_of_lt I9];rfl
 have hne:dg (4294967296:Nat) a≠[]:=by rw [dK hB (by omega)];simp
 have c1:zl [nat (dg (4294967296:Nat) a),nat (dg (4294967296:Nat) b)]=some (one (iv (jm (dg (4294967296:Nat) a) (dg (4294967296:Nat) b)))):=wO (cD hB _) (cD hB _) (by omega) (by omega)
 have hcmp:decide (jm (dg (4294967296:Nat) a) (dg (4294967296:Nat) b)<0)=false:=by
  rw [decide_eq_false_iff_not,zn];omega
 have c2:=GP hne (cD hB a) (by omega) hb I9
 rw [ct hB] at c2
 have hr:a%b<b:=Nat.mod_lt _ hb
 have c3:=qy (l:=[a%b]) (v:=a%b) (by simp) (by intro x hx;simp at hx;omega) (by simp [val])
 rw [hd] at c1 hcmp ⊢
 exact ai ah A9 (by rfl) (Vr 1 (dg (4294967296:Nat) a).length 1 b (a%b) (us (dg (4294967296:Nat) a)) (us [b]) (jm (dg (4294967296:Nat) a) [b]) (nat (dg (4294967296:Nat) (a%b))) (nat (dg (4294967296:Nat) (a / b)))) ⟨c1,hcmp,by simp,eS (l:=[b]) (i:=0) rfl rfl,c2,c3,trivial⟩
theorem Bo {a b:Nat} (ha:(dg (4294967296:Nat) a).length<2^39) (hb:(dg (4294967296:Nat) b).length<2^39) (hab:a<b):aA P0 93 [nat (dg (4294967296:Nat) a),nat (dg (4294967296:Nat) b)] (one (.an [.lit (.slice none 0 0),nat (dg (4294967296:Nat) a)])):=by
 have hB:(2:Nat)≤(4294967296:Nat):=by decide
 have c1:zl [nat (dg (4294967296:Nat) a),nat (dg (4294967296:Nat) b)]=some (one (iv (jm (dg (4294967296:Nat) a) (dg (4294967296:Nat) b)))):=wO (cD hB _) (cD hB _) (by omega) (by omega)
 have hcmp:decide (jm (dg (4294967296:Nat) a) (dg (4294967296:Nat) b)<0)=true:=by
  rw [decide_eq_true_iff,zn];exact hab
 exact ai ah A9 (by rfl) (Vq 1 (dg (4294967296:Nat) a).length (dg (4294967296:Nat) b).length (us (dg (4294967296:Nat) a)) (us (dg (4294967296:Nat) b)) (jm (dg (4294967296:Nat) a) (dg (4294967296:Nat) b))) ⟨c1,hcmp,trivial⟩
theorem ET {a b:Nat} (hb0:0<b) (ha:(dg (4294967296:Nat) a).length<2^39) (hb:(dg (4294967296:Nat) b).length<2^39):aA P0 93 [nat (dg (4294967296:Nat) a),nat (dg (4294967296:Nat) b)] (one (.an [xo a b,nat (dg (4294967296:Nat) (a%b))])):=by
 unfold xo
 by_cases h:a<b
 · rw [if_pos h,Nat.mod_eq_of_lt h];exact Bo ha hb h
 · rw [if_neg h]
   have h1:0<(dg (4294967296:Nat) b).length:=by rw [dK (by decide) hb0];simp
   by_cases h2:(dg (4294967296:Nat) b).length=1
   · exact zu hb0 ha (by omega) h2
   · exact Dk hb0 ha (by omega) (by omega)
end Go.Proofs.YtibbgjafjhcemaaDoor.Cul
