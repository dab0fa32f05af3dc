/- Part of a proof by an abstract machine for the program's code: lemmas, without conditions of their own beyond those that each states. (Made smaller by a program: short names, no comments.) -/
import Derived.Test.YtibbgjafjhcemaaDoorRTSG2
set_option linter.unusedVariables false
set_option linter.unusedSimpArgs false
set_option maxRecDepth 100000
namespace Go.Proofs.YtibbgjafjhcemaaDoor.Cul
open Go Go.RowKit
noncomputable def Q2:List PV→Option RV:=bJ (fun _:ByteArray=>True) (fun s=>[sv s, .lit (.string zs)]) (fun s=>one (sv (ai (bM s))))
noncomputable def t5:Cl:=bI [(110,Q2)]
noncomputable def NQ:List PV→Option RV:=bJ (fun l:List Nat=>l.length<2^40∧bf (4294967296:Nat) l) (fun l=>[nat l]) (fun l=>one (sv (ai (val (4294967296:Nat) l))))
noncomputable def t6:Cl:=bI [(96,NQ)]
theorem mg (k n m:Nat) (cs ds:List PV) (s s':ByteArray):ay MD t5 k 96 [.sl 1 n cs] [.i 7 (4* n:Nat), .c true, .l (.exit 0) ⟨[(0, .pv (.sl 1 n cs)),(3, .pv (.sl 1 m ds)),(4, .pv (iv (-1))),(13, .pv (bv false))],[],[(.s 3,1)],[]⟩, .w 43 s, .r (one (sv s'))]=
 some (RV.mk (PV.lit (Value.string s')) none,[IntKind.i64.wrap ((4:Int)* (↑n:Int))=(↑((4:Nat)* n):Int),(0:Int)≤(0:Int)∧(0:Int)≤(↑((4:Nat)* n):Int)∧(↑((4:Nat)* n):Int)* (↑(MD.P.bytesOf (5:Nat)):Int)≤(↑room:Int)∧(↑((4:Nat)* n):Int)≤(↑room:Int),true=true,aW MD t5 k (96:Nat) (0:Nat) (St.mk [(0,AV.pv (PV.sl 1 n cs)),(3,AV.pv (PV.sl 1 0 [])),(4,AV.pv (PV.lit (Value.int IntKind.i64 (IntKind.i64.wrap ((↑n:Int) - (1:Int))))))] [] [(Pl.s 3,1)] []) (Xt.exit 0) (St.mk [(0,AV.pv (PV.sl 1 n cs)),(3,AV.pv (PV.sl 1 m ds)),(4,AV.pv (PV.lit (Value.int IntKind.i64 (-1:Int)))),(13,AV.pv (PV.lit (Value.bool false)))] [] [(Pl.s 3,1)] []),jA ds s,aa t5 110 [PV.lit (Value.string s),PV.lit (Value.string (ByteArray.mk #[(0:UInt8)]))] (RV.mk (PV.lit (Value.string s')) none)]):=by kernel_rfl
theorem Xj (k n m:Nat) (cs ds:List PV) (i:Int):aA MD t5 k 96 0 ⟨[(0, .pv (.sl 1 n cs)),(3, .pv (.sl 1 m ds)),(4, .pv (iv i))],[],[(.s 3,1)],[]⟩ [.c false]=
 some ((Xt.exit 0,St.mk [(0,AV.pv (PV.sl 1 n cs)),(3,AV.pv (PV.sl 1 m ds)),(4,AV.pv (PV.lit (Value.int IntKind.i64 i))),(13,AV.pv (PV.lit (Value.bool false)))] [] [(Pl.s 3,1)] []),[],[decide (i≥(0:Int))=false]):=by kernel_rfl
theorem Xk (k n m x:Nat) (cs ds Md:List PV) (i j a b c d:Int):aA MD t5 k 96 0 ⟨[(0, .pv (.sl 1 n cs)),(3, .pv (.sl 1 m ds)),(4, .pv (iv i))],[],[(.s 3,1)],[]⟩ [.c true, .a 19 [ak x], .i 22 a, .a 25 [ak x], .i 28 b, .a 31 [ak x], .i 34 c, .a 37 [ak x], .i 39 d, .p (m+4) Md, .i 15 j]=
 some ((Xt.normal,St.mk [(0,AV.pv (PV.sl 1 n cs)),(3,AV.pv (PV.sl 1 (m+(4:Nat)) Md)),(4,AV.pv (PV.lit (Value.int IntKind.i64 j)))] [] [(Pl.s 3,1)] []),[],[decide (i≥(0:Int))=true,aL cs 1 i n [PV.lit (Value.int IntKind.u32 (↑x:Int))],false=false,IntKind.u8.wrap ((↑x:Int).fdiv ((2:Int)^min (Int.toNat (24:Int)) IntKind.u32.bits))=a,aL cs 1 i n [PV.lit (Value.int IntKind.u32 (↑x:Int))],false=false,IntKind.u8.wrap ((↑x:Int).fdiv ((2:Int)^min (Int.toNat (16:Int)) IntKind.u32.bits))=b,aL cs 1 i n [PV.lit (Value.int IntKind.u32 (↑x:Int))],false=false,IntKind.u8.wrap ((↑x:Int).fdiv ((2:Int)^min (Int.toNat (8:Int)) IntKind.u32.bits))=c,aL cs 1 i n [PV.lit (Value.int IntKind.u32 (↑x:Int))],IntKind.u8.wrap (↑x:Int)=d,JB m 4 ds [PV.lit (Value.int IntKind.u8 a),PV.lit (Value.int IntKind.u8 b),PV.lit (Value.int IntKind.u8 c),PV.lit (Value.int IntKind.u8 d)] 1 1 (m+(4:Nat)) Md,IntKind.i64.wrap (i - (1:Int))=j]):=by kernel_rfl
theorem ZD (k n:Nat) (cs:List PV) (s:ByteArray):ay MD t6 k 83 [.sl 1 n cs,bv false] [.r (one (sv s))]=
 some (RV.mk (PV.ag [PV.lit (Value.bool false),PV.lit (Value.string s)]) none,[aa t6 96 [PV.sl 1 n cs] (RV.mk (PV.lit (Value.string s)) none)]):=by kernel_rfl
theorem Q5 (k n:Nat) (cs:List PV) (s:ByteArray) (b:Bool):ay MD t6 k 83 [.sl 1 n cs,bv true] [.r (one (sv s)), .c b]=
 some (RV.mk (PV.ag [PV.lit (Value.bool b),PV.lit (Value.string s)]) none,[aa t6 96 [PV.sl 1 n cs] (RV.mk (PV.lit (Value.string s)) none),(!s.toList==(ByteArray.mk #[]).toList)=b]):=by kernel_rfl
def BY (x:Nat):List Nat:=[x / 2^24%256,x / 2^16%256,x / 2^8%256,x%256]
def fL:List Nat→List Nat
 |[]=>[]
 |x::l=>fL l++BY x
theorem AG:∀l,(fL l).length=4* l.length
 |[]=>rfl
 |x::l=>by simp only [fL,List.length_append,AG l,BY,List.length_cons,List.length_nil];omega
theorem AH:∀{l:List Nat},bf (4294967296:Nat) l→val 256 (fL l).reverse=val (4294967296:Nat) l
 |[],_=>rfl
 |x::l,h=>by
  have hx:=h.head
  simp only [fL,List.reverse_append,BY,List.reverse_cons,List.reverse_nil,List.nil_append,List.cons_append,val]
  rw [AH h.tail]
  omega
theorem AF:∀{l:List Nat},bf 256 (fL l)
 |[]=>by simp [fL,bf]
 |x::l=>by
  apply bf.app AF
  intro y hy
  simp [BY] at hy
  omega
def tc (l:List Nat):List PV:=l.map bt
theorem KN (l:List Nat):(tc l).length=l.length:=by simp [tc]
theorem om:∀(l:List Nat),bytesOf (tc l)=some (l.map fun x=>UInt8.ofNat x)
 |[]=>rfl
 |x::l=>by
  have:=om l
  simp only [tc,List.map_cons,bt,bytesOf] at this ⊢
  rw [this];simp
theorem EE {l:List Nat} (h:bf 256 l):aT ⟨(l.map fun x=>UInt8.ofNat x).toArray⟩=l.reverse:=by
 simp only [aT,List.map_map]
 congr 1
 have:∀(l:List Nat),bf 256 l→List.map ((fun x=>x.toNat) ∘ fun x=>UInt8.ofNat x) l=l:=by
  intro l
  induction l with
  |nil=>intro _;rfl
  |cons x l ih=>
   intro h
   rw [List.map_cons,ih h.tail]
   congr 1
   show (UInt8.ofNat x).toNat=x
   rw [UInt8.toNat_ofNat',Nat.mod_eq_of_lt h.head]
 exact this l h
theorem w8 (a:Nat):IntKind.u8.wrap (a:Int)=((a%256:Nat):Int):=by
 unfold IntKind.wrap IntKind.bits IntKind.signed
 simp only
 have e1:(2:Int)^8=256:=by decide
 rw [e1]
 simp
theorem j6 (a b:Nat):(a:Int).fdiv (b:Int)=((a / b:Nat):Int):=by
 rw [Int.fdiv_eq_ediv_of_nonneg _ (by omega)];rfl
theorem OF (x k:Nat) (hk:k≤32):IntKind.u8.wrap ((x:Int).fdiv ((2:Int)^min (Int.toNat (k:Int)) IntKind.u32.bits))=((x / 2^k%256:Nat):Int):=by
 have e:min (Int.toNat (k:Int)) IntKind.u32.bits=k:=by
  rw [Int.toNat_natCast];show min k 32=k;omega
 rw [e]
 have e2:(2:Int)^k=((2^k:Nat):Int):=by simp
 rw [e2,j6,w8]
theorem Ar (k:Nat) (l:List Nat) (hl:bf (4294967296:Nat) l) (hs:l.length<2^40):∀j,j≤l.length→bg (aP MD t5 k 96 0) (j+1) ⟨[(0, .pv (nat l)),(3, .pv (.sl 1 (fL (l.drop j)).length (tc (fL (l.drop j))))),(4, .pv (iv ((j:Int) - 1)))],[],[(.s 3,1)],[]⟩=some (.exit 0,⟨[(0, .pv (nat l)),(3, .pv (.sl 1 (fL l).length (tc (fL l)))),(4, .pv (iv (-1))),(13, .pv (bv false))],[],[(.s 3,1)],[]⟩)
 |0,_=>aV (an (Xj k _ _ _ _ _) ⟨by decide,trivial⟩) (by simp)
 |j+1,hj=>by
  obtain ⟨x,hx⟩:=get_some (l:=l) (i:=j) (by omega)
  have hi:(((j+1:Nat):Int) - 1)=(j:Int):=by omega
  rw [hi]
  have hd:l.drop j=x::l.drop (j+1):=by
   have hj:=gB hx
   rw [List.drop_eq_getElem_cons hj]
   rw [List.getElem?_eq_getElem hj] at hx
   simp only [Option.some.injEq] at hx
   rw [hx]
  have ho:fL (l.drop j)=fL (l.drop (j+1))++BY x:=by rw [hd,fL]
  have hlen:(fL (l.drop (j+1))).length+4=(fL (l.drop j)).length:=by rw [ho,List.length_append];rfl
  have hroom:(2:Nat)^43≤room:=by decide
  have hle:(fL (l.drop j)).length≤4* l.length:=by rw [AG,List.length_drop];omega
  have r:aL (us l) 1 (j:Int) l.length [ak x]:=cQ hx rfl
  have ih:=Ar k l hl hs j (by omega)
  rw [←hlen] at ih
  refine bn (an (Xk k _ _ x _ _ (tc (fL (l.drop j))) _ ((j:Int) - 1) ((x / 2^24%256:Nat):Int) ((x / 2^16%256:Nat):Int) ((x / 2^8%256:Nat):Int) ((x%256:Nat):Int)) ⟨by simp,r,rfl,OF x 24 (by omega),r,rfl,OF x 16 (by omega),r,rfl,OF x 8 (by omega),r,w8 x,⟨⟨rfl, ?_⟩,⟨by omega,by omega⟩,rfl,by rw [KN];omega⟩,by rw [wrap64]<;>omega,trivial⟩) ih
  rw [ho];simp [tc,BY,bt]
theorem Ho (s:ByteArray):Q2 [sv s,sv zs]=some (one (sv (ai (bM s)))):=
 aM (enc:=fun s:ByteArray=>[sv s, .lit (.string zs)]) (fun a b e=>by simp only [sv,List.cons.injEq,PV.lit.injEq,Value.string.injEq] at e;rw [e.1]) trivial
theorem KA:aI MD.P t5:=aH (aj (au fun s _=>BQ s) aE)
theorem NR (l:List Nat) (hs:l.length<2^40) (hl:bf (4294967296:Nat) l):az P0 96 [nat l] (one (sv (ai (val (4294967296:Nat) l)))):=by
 have iM:=Ar (l.length+1) l hl hs l.length (Nat.le_refl _)
 rw [List.drop_length] at iM
 have hw:IntKind.i64.wrap ((l.length:Int) - 1)=(l.length:Int) - 1:=by rw [wrap64]<;>omega
 have hroom:(2:Int)^43≤(room:Int):=by decide
 have hb:MD.P.bytesOf 5=1:=by kernel_rfl
 have hv:bM ⟨((fL l).map fun x=>UInt8.ofNat x).toArray⟩=val (4294967296:Nat) l:=by
  rw [bM,EE AF,AH hl]
 have ht:=Ho ⟨((fL l).map fun x=>UInt8.ofNat x).toArray⟩
 rw [hv] at ht
 refine ah af KA (by rfl) (mg (l.length+1) _ (fL l).length _ (tc (fL l)) ⟨((fL l).map fun x=>UInt8.ofNat x).toArray⟩ _) ⟨?_,⟨by omega,by omega,by rw [hb];omega,by omega⟩,rfl,by rw [hw];exact iM, ?_,ht,trivial⟩
 · exact aR (by omega) (by omega)
 · show (bytesOf _).map _=_
   rw [om];rfl
theorem xh {l:List Nat} (h:l.length<2^40) (hd:bf (4294967296:Nat) l):NQ [nat l]=some (one (sv (ai (val (4294967296:Nat) l)))):=
 aM (enc:=fun l=>[nat l]) (fun a b e=>by have:=fT (List.cons.inj e).1;subst this;rfl) ⟨h,hd⟩
theorem En:aI MD.P t6:=aH (aj (au fun l h=>NR l h.1 h.2) aE)
def zc (z:Int):List PV:=[bv (decide (z<0)),sv (ai z.natAbs)]
theorem uh {n:Nat} (h:n=0):((ai n).toList==(ByteArray.mk #[]).toList)=true:=by subst h;rw [ByteArray.toList_eq,ByteArray.toList_eq];rfl
theorem oT {n:Nat} (h:n≠0):((ai n).toList==(ByteArray.mk #[]).toList)=false:=by
 rw [ByteArray.toList_eq,ByteArray.toList_eq]
 cases hl:(ai n).data.toList with
 |nil=>
  have:=cV n
  simp only [aT,hl,List.map_nil,List.reverse_nil] at this
  have hv:=bS (b:=256) (by decide) n
  rw [←this] at hv
  exact absurd hv.symm h
 |cons c t=>rfl
theorem sU (l:List Nat) (hs:l.length<2^40) (hl:bf (4294967296:Nat) l) (b:Bool):az P0 83 [nat l,bv b] (one (.ag (zc (if b then -(val (4294967296:Nat) l:Int) else (val (4294967296:Nat) l:Int))))):=by
 cases b with
 |false=>
  have:=ah af En (by rfl) (ZD 1 l.length (us l) (ai (val (4294967296:Nat) l))) ⟨xh hs hl,trivial⟩
  have e:zc (if false then -(val (4294967296:Nat) l:Int) else (val (4294967296:Nat) l:Int))=[.lit (.bool false), .lit (.string (ai (val (4294967296:Nat) l)))]:=by simp [zc,bv,sv]
  rw [e]
  exact this
 |true=>
  by_cases h:val (4294967296:Nat) l=0
  · have:=ah af En (by rfl) (Q5 1 l.length (us l) (ai (val (4294967296:Nat) l)) false) ⟨xh hs hl,by rw [uh h];rfl,trivial⟩
    have e:zc (if true then -(val (4294967296:Nat) l:Int) else (val (4294967296:Nat) l:Int))=[.lit (.bool false), .lit (.string (ai (val (4294967296:Nat) l)))]:=by simp [zc,bv,sv,h]
    rw [e]
    exact this
  · have:=ah af En (by rfl) (Q5 1 l.length (us l) (ai (val (4294967296:Nat) l)) true) ⟨xh hs hl,by rw [oT h];rfl,trivial⟩
    have e:zc (if true then -(val (4294967296:Nat) l:Int) else (val (4294967296:Nat) l:Int))=[.lit (.bool true), .lit (.string (ai (val (4294967296:Nat) l)))]:=by simp [zc,bv,sv];omega
    rw [e]
    exact this
end Go.Proofs.YtibbgjafjhcemaaDoor.Cul
namespace Go.Proofs.YtibbgjafjhcemaaDoor.Cul
open Go Go.RowKit
noncomputable def wk:Cl:=bI []
theorem dv (k a b d:Nat) (w q r:Int):ay MD wk k 116 [ak a,ak b,ak d] [.c true, .c false, .i 18 a, .i 19 (2^32* a:Nat), .i 21 b, .i 22 w, .i 25 d, .i 26 q, .i 27 q, .i 30 d, .i 31 r, .i 32 r]=
 some (RV.mk (PV.aG [PV.lit (Value.int IntKind.u32 q),PV.lit (Value.int IntKind.u32 r)]) none,[((↑d:Int) !=(0:Int))=true,decide ((↑d:Int)≤(↑a:Int))=false,IntKind.u64.wrap (↑a:Int)=(↑a:Int),IntKind.u64.wrap ((↑a:Int)* (2:Int)^min (Int.toNat (32:Int)) IntKind.u64.bits)=(↑((2:Nat)^(32:Nat)* a):Int),false=false,IntKind.u64.wrap (↑b:Int)=(↑b:Int),IntKind.u64.wrap (↑(BitVec.ofInt IntKind.u64.bits (↑((2:Nat)^(32:Nat)* a):Int)|||BitVec.ofInt IntKind.u64.bits (↑b:Int)).toNat:Int)=w,IntKind.u64.wrap (↑d:Int)=(↑d:Int),IntKind.u64.wrap (w.tdiv (↑d:Int))=q,decide ((↑d:Int)=(0:Int))=false,IntKind.u32.wrap q=q,IntKind.u64.wrap (↑d:Int)=(↑d:Int),w.tmod (↑d:Int)=r,decide ((↑d:Int)=(0:Int))=false,IntKind.u32.wrap r=r]):=by kernel_rfl
theorem ad (k a b d:Nat) (x y s c:Int):ay MD wk k 111 [ak a,ak b,ak d] [.i 10 a, .i 12 b, .i 13 x, .i 15 d, .i 16 y, .i 18 s, .i 20 c, .i 21 c]=
 some (RV.mk (PV.aG [PV.lit (Value.int IntKind.u32 s),PV.lit (Value.int IntKind.u32 c)]) none,[IntKind.u64.wrap (↑a:Int)=(↑a:Int),IntKind.u64.wrap (↑b:Int)=(↑b:Int),IntKind.u64.wrap ((↑a:Int)+(↑b:Int))=x,IntKind.u64.wrap (↑d:Int)=(↑d:Int),IntKind.u64.wrap (x+(↑d:Int))=y,IntKind.u32.wrap y=s,y.fdiv ((2:Int)^min (Int.toNat (32:Int)) IntKind.u64.bits)=c,false=false,IntKind.u32.wrap c=c]):=by kernel_rfl
theorem sb (k a b d:Nat) (x y p q:Int):ay MD wk k 112 [ak a,ak b,ak d] [.i 10 x, .i 12 y, .i 24 q]=
 some (RV.mk (PV.aG [PV.lit (Value.int IntKind.u32 y),PV.lit (Value.int IntKind.u32 q)]) none,[IntKind.u32.wrap ((↑a:Int) - (↑b:Int))=x,IntKind.u32.wrap (x - (↑d:Int))=y,(IntKind.u32.wrap (↑(BitVec.ofInt IntKind.u32.bits (IntKind.u32.wrap (↑(BitVec.ofInt IntKind.u32.bits (IntKind.u32.wrap (↑(BitVec.ofInt IntKind.u32.bits (if IntKind.u32.signed=true then (-1:Int) else IntKind.u32.max)^^^BitVec.ofInt IntKind.u32.bits (↑a:Int)).toNat:Int))&&&BitVec.ofInt IntKind.u32.bits (↑b:Int)).toNat:Int))|||BitVec.ofInt IntKind.u32.bits (IntKind.u32.wrap (↑(BitVec.ofInt IntKind.u32.bits (IntKind.u32.wrap (↑(BitVec.ofInt IntKind.u32.bits (if IntKind.u32.signed=true then (-1:Int) else IntKind.u32.max)^^^BitVec.ofInt IntKind.u32.bits (IntKind.u32.wrap (↑(BitVec.ofInt IntKind.u32.bits (↑a:Int)^^^BitVec.ofInt IntKind.u32.bits (↑b:Int)).toNat:Int))).toNat:Int))&&&BitVec.ofInt IntKind.u32.bits y).toNat:Int))).toNat:Int)).fdiv ((2:Int)^min (Int.toNat (31:Int)) IntKind.u32.bits)=q,false=false]):=by kernel_rfl
theorem ml (k a b:Nat) (x y z:Int):ay MD wk k 122 [ak a,ak b] [.i 8 a, .i 10 b, .i 11 x, .i 13 y, .i 14 y, .i 16 z]=
 some (RV.mk (PV.aG [PV.lit (Value.int IntKind.u32 y),PV.lit (Value.int IntKind.u32 z)]) none,[IntKind.u64.wrap (↑a:Int)=(↑a:Int),IntKind.u64.wrap (↑b:Int)=(↑b:Int),IntKind.u64.wrap ((↑a:Int)* (↑b:Int))=x,x.fdiv ((2:Int)^min (Int.toNat (32:Int)) IntKind.u64.bits)=y,false=false,IntKind.u32.wrap y=y,IntKind.u32.wrap x=z]):=by kernel_rfl
def mY:ByteArray:=(ByteArray.mk (([(0:UInt8),(1:UInt8),(2:UInt8),(2:UInt8),(3:UInt8),(3:UInt8),(3:UInt8),(3:UInt8),(4:UInt8),(4:UInt8),(4:UInt8),(4:UInt8),(4:UInt8),(4:UInt8),(4:UInt8),(4:UInt8),(5:UInt8),(5:UInt8),(5:UInt8),(5:UInt8),(5:UInt8),(5:UInt8),(5:UInt8),(5:UInt8),(5:UInt8),(5:UInt8),(5:UInt8),(5:UInt8),(5:UInt8),(5:UInt8),(5:UInt8),(5:UInt8),(6:UInt8),(6:UInt8),(6:UInt8),(6:UInt8),(6:UInt8),(6:UInt8),(6:UInt8),(6:UInt8),(6:UInt8),(6:UInt8),(6:UInt8),(6:UInt8),(6:UInt8),(6:UInt8),(6:UInt8),(6:UInt8),(6:UInt8),(6:UInt8),(6:UInt8),(6:UInt8),(6:UInt8),(6:UInt8),(6:UInt8),(6:UInt8),(6:UInt8),(6:UInt8),(6:UInt8),(6:UInt8),(6:UInt8),(6:UInt8),(6:UInt8),(6:UInt8)].append [(7:UInt8),(7:UInt8),(7:UInt8),(7:UInt8),(7:UInt8),(7:UInt8),(7:UInt8),(7:UInt8),(7:UInt8),(7:UInt8),(7:UInt8),(7:UInt8),(7:UInt8),(7:UInt8),(7:UInt8),(7:UInt8),(7:UInt8),(7:UInt8),(7:UInt8),(7:UInt8),(7:UInt8),(7:UInt8),(7:UInt8),(7:UInt8),(7:UInt8),(7:UInt8),(7:UInt8),(7:UInt8),(7:UInt8),(7:UInt8),(7:UInt8),(7:UInt8),(7:UInt8),(7:UInt8),(7:UInt8),(7:UInt8),(7:UInt8),(7:UInt8),(7:UInt8),(7:UInt8),(7:UInt8),(7:UInt8),(7:UInt8),(7:UInt8),(7:UInt8),(7:UInt8),(7:UInt8),(7:UInt8),(7:UInt8),(7:UInt8),(7:UInt8),(7:UInt8),(7:UInt8),(7:UInt8),(7:UInt8),(7:UInt8),(7:UInt8),(7:UInt8),(7:UInt8),(7:UInt8),(7:UInt8),(7:UInt8),(7:UInt8),(7:UInt8)]).append ([(8:UInt8),(8:UInt8),(8:UInt8),(8:UInt8),(8:UInt8),(8:UInt8),(8:UInt8),(8:UInt8),(8:UInt8),(8:UInt8),(8:UInt8),(8:UInt8),(8:UInt8),(8:UInt8),(8:UInt8),(8:UInt8),(8:UInt8),(8:UInt8),(8:UInt8),(8:UInt8),(8:UInt8),(8:UInt8),(8:UInt8),(8:UInt8),(8:UInt8),(8:UInt8),(8:UInt8),(8:UInt8),(8:UInt8),(8:UInt8),(8:UInt8),(8:UInt8),(8:UInt8),(8:UInt8),(8:UInt8),(8:UInt8),(8:UInt8),(8:UInt8),(8:UInt8),(8:UInt8),(8:UInt8),(8:UInt8),(8:UInt8),(8:UInt8),(8:UInt8),(8:UInt8),(8:UInt8),(8:UInt8),(8:UInt8),(8:UInt8),(8:UInt8),(8:UInt8),(8:UInt8),(8:UInt8),(8:UInt8),(8:UInt8),(8:UInt8),(8:UInt8),(8:UInt8),(8:UInt8),(8:UInt8),(8:UInt8),(8:UInt8),(8:UInt8)].append [(8:UInt8),(8:UInt8),(8:UInt8),(8:UInt8),(8:UInt8),(8:UInt8),(8:UInt8),(8:UInt8),(8:UInt8),(8:UInt8),(8:UInt8),(8:UInt8),(8:UInt8),(8:UInt8),(8:UInt8),(8:UInt8),(8:UInt8),(8:UInt8),(8:UInt8),(8:UInt8),(8:UInt8),(8:UInt8),(8:UInt8),(8:UInt8),(8:UInt8),(8:UInt8),(8:UInt8),(8:UInt8),(8:UInt8),(8:UInt8),(8:UInt8),(8:UInt8),(8:UInt8),(8:UInt8),(8:UInt8),(8:UInt8),(8:UInt8),(8:UInt8),(8:UInt8),(8:UInt8),(8:UInt8),(8:UInt8),(8:UInt8),(8:UInt8),(8:UInt8),(8:UInt8),(8:UInt8),(8:UInt8),(8:UInt8),(8:UInt8),(8:UInt8),(8:UInt8),(8:UInt8),(8:UInt8),(8:UInt8),(8:UInt8),(8:UInt8),(8:UInt8),(8:UInt8),(8:UInt8),(8:UInt8),(8:UInt8),(8:UInt8),(8:UInt8)])).toArray)
theorem W0 (k a:Nat) (x y b z w:Int):ay MD wk k 117 [ak a] [.c true, .i 6 x, .c true, .i 9 y, .i 15 z, .i 16 b, .i 17 b, .i 18 w]=
 some (RV.mk (PV.lit (Value.int IntKind.i64 w)) none,[decide ((↑a:Int)≥(65536:Int))=true,(↑a:Int).fdiv ((2:Int)^min (Int.toNat (16:Int)) IntKind.u32.bits)=x,false=false,decide (x≥(256:Int))=true,x=y,false=false,IntKind.u8.wrap (y.fdiv ((2:Int)^min (Int.toNat (8:Int)) IntKind.u32.bits))=z,eE mY z b,IntKind.i64.wrap b=b,IntKind.i64.wrap (IntKind.i64.wrap ((16:Int)+(8:Int))+b)=w]):=by kernel_rfl
theorem W5 (k a:Nat) (x y b z w:Int):ay MD wk k 117 [ak a] [.c true, .i 6 x, .c false, .i 15 z, .i 16 b, .i 17 b, .i 18 w]=
 some (RV.mk (PV.lit (Value.int IntKind.i64 w)) none,[decide ((↑a:Int)≥(65536:Int))=true,(↑a:Int).fdiv ((2:Int)^min (Int.toNat (16:Int)) IntKind.u32.bits)=x,false=false,decide (x≥(256:Int))=false,IntKind.u8.wrap x=z,eE mY z b,IntKind.i64.wrap b=b,IntKind.i64.wrap ((16:Int)+b)=w]):=by kernel_rfl
theorem W6 (k a:Nat) (x y b z w:Int):ay MD wk k 117 [ak a] [.c false, .c true, .i 9 y, .i 15 z, .i 16 b, .i 17 b, .i 18 w]=
 some (RV.mk (PV.lit (Value.int IntKind.i64 w)) none,[decide ((↑a:Int)≥(65536:Int))=false,decide ((↑a:Int)≥(256:Int))=true,(↑a:Int)=y,false=false,IntKind.u8.wrap (y.fdiv ((2:Int)^min (Int.toNat (8:Int)) IntKind.u32.bits))=z,eE mY z b,IntKind.i64.wrap b=b,IntKind.i64.wrap (IntKind.i64.wrap ((0:Int)+(8:Int))+b)=w]):=by kernel_rfl
theorem W7 (k a:Nat) (x y b z w:Int):ay MD wk k 117 [ak a] [.c false, .c false, .i 15 z, .i 16 b, .i 17 b, .i 18 w]=
 some (RV.mk (PV.lit (Value.int IntKind.i64 w)) none,[decide ((↑a:Int)≥(65536:Int))=false,decide ((↑a:Int)≥(256:Int))=false,IntKind.u8.wrap (↑a:Int)=z,eE mY z b,IntKind.i64.wrap b=b,IntKind.i64.wrap ((0:Int)+b)=w]):=by kernel_rfl
theorem oa:aI MD.P wk:=aH aE
def dD (a b:Nat):PV:= .aG [ak a,ak b]
theorem sK:(2:Int)^min (Int.toNat (32:Int)) IntKind.u64.bits=((4294967296:Nat):Int):=by decide
theorem xA (a:Nat):IntKind.u32.wrap (a:Int)=((a%4294967296:Nat):Int):=by
 unfold IntKind.wrap IntKind.bits IntKind.signed
 simp only
 have e1:(2:Int)^32=4294967296:=by decide
 rw [e1];simp
theorem HR (a b d:Nat) (hd:d<(4294967296:Nat)) (ha:a<d) (hb:b<(4294967296:Nat)):az P0 116 [ak a,ak b,ak d] (one (dD ((a* (4294967296:Nat)+b) / d) ((a* (4294967296:Nat)+b)%d))):=by
 have hq:(a* (4294967296:Nat)+b) / d<(4294967296:Nat):=(Nat.div_lt_iff_lt_mul (by omega)).2 (by
  have:(a+1)* (4294967296:Nat)≤d* (4294967296:Nat):=Nat.mul_le_mul_right _ ha
  rw [Nat.mul_comm (4294967296:Nat) d];omega)
 have hr:(a* (4294967296:Nat)+b)%d<d:=Nat.mod_lt _ (by omega)
 refine ah af oa (by rfl) (dv 1 a b d ((a* (4294967296:Nat)+b:Nat):Int) (((a* (4294967296:Nat)+b) / d:Nat):Int) (((a* (4294967296:Nat)+b)%d:Nat):Int)) ⟨by simp;omega,by simp;omega,bz rfl (by omega), ?_,rfl,bz rfl (by omega), ?_,bz rfl (by omega), ?_,by simp;omega,iw rfl hq,bz rfl (by omega),fl _ _,by simp;omega,iw rfl (by omega),trivial⟩
 · exact bz (by rw [sK];omega) (by omega)
 · exact nh (r:=32) (by omega) (by omega) _ (by omega)
 · exact bz (gX _ _) (by omega)
theorem tT (a b c:Nat) (ha:a<(4294967296:Nat)) (hb:b<(4294967296:Nat)) (hc:c<(4294967296:Nat)):az P0 111 [ak a,ak b,ak c] (one (dD ((a+b+c)%(4294967296:Nat)) ((a+b+c) / (4294967296:Nat)))):=by
 refine ah af oa (by rfl) (ad 1 a b c ((a+b:Nat):Int) ((a+b+c:Nat):Int) (((a+b+c)%(4294967296:Nat):Nat):Int) (((a+b+c) / (4294967296:Nat):Nat):Int)) ⟨bz rfl (by omega),bz rfl (by omega),bz (by omega) (by omega),bz rfl (by omega),bz (by omega) (by omega),xA _, ?_,rfl,iw rfl (by omega),trivial⟩
 rw [sK];exact j6 _ _
theorem IC (a b:Nat) (ha:a<(4294967296:Nat)) (hb:b<(4294967296:Nat)):az P0 122 [ak a,ak b] (one (dD (a* b / (4294967296:Nat)) (a* b%(4294967296:Nat)))):=by
 have hab:a* b<(4294967296:Nat)* (4294967296:Nat):=by
  calc a* b≤a* (4294967296:Nat):=Nat.mul_le_mul_left _ (by omega)
   _<(4294967296:Nat)* (4294967296:Nat):=Nat.mul_lt_mul_of_pos_right ha (by omega)
 refine ah af oa (by rfl) (ml 1 a b ((a* b:Nat):Int) ((a* b / (4294967296:Nat):Nat):Int) ((a* b%(4294967296:Nat):Nat):Int)) ⟨bz rfl (by omega),bz rfl (by omega),bz (by simp) (by omega), ?_,rfl,iw rfl (by omega),xA _,trivial⟩
 rw [sK];exact j6 _ _
theorem Zw (X:BitVec IntKind.u32.bits):IntKind.u32.wrap (X.toNat:Int)=(X.toNat:Int):=iw rfl X.isLt
theorem XB (X:BitVec IntKind.u32.bits):BitVec.ofInt IntKind.u32.bits (X.toNat:Int)=X:=by
 rw [BitVec.ofInt_natCast,BitVec.ofNat_toNat,BitVec.setWidth_eq]
theorem N8:BitVec.ofInt IntKind.u32.bits (if IntKind.u32.signed=true then (-1:Int) else IntKind.u32.max)=BitVec.allOnes 32:=by rfl
theorem HE (a b d:Nat) (ha:a<(4294967296:Nat)) (hb:b<(4294967296:Nat)) (hd:d≤1):((((~~~(BitVec.ofNat 32 a))&&&BitVec.ofNat 32 b)|||(~~~(BitVec.ofNat 32 a^^^BitVec.ofNat 32 b)&&&BitVec.ofNat 32 ((a+(4294967296:Nat)+(4294967296:Nat) - b - d)%(4294967296:Nat)))):BitVec 32).toNat / 2^31=if a<b+d then 1 else 0:=by
 have key:∀X:BitVec 32,X.toNat / 2^31=if X.msb=true then 1 else 0:=by
  intro X
  rw [BitVec.msb_eq_decide]
  have:=X.isLt
  simp only [decide_eq_true_eq]
  split<;>omega
 rw [key]
 simp only [BitVec.msb_or,BitVec.msb_and,BitVec.msb_not,BitVec.msb_xor]
 have m:∀x,x<(4294967296:Nat)→(BitVec.ofNat 32 x).msb=decide (2^31≤x):=by
  intro x hx
  rw [BitVec.msb_eq_decide,BitVec.toNat_ofNat,Nat.mod_eq_of_lt (by omega)]
 obtain ⟨y,hy⟩:∃y,y=(a+(4294967296:Nat)+(4294967296:Nat) - b - d)%(4294967296:Nat):=⟨_,rfl⟩
 rw [←hy]
 rw [m a ha,m b hb,m y (by omega)]
 have WH:(a<b+d∧y+b+d=a+(4294967296:Nat))∨(b+d≤a∧y+b+d=a):=by
  rw [Nat.sub_sub] at hy
  omega
 have hy3:y<(4294967296:Nat):=by rw [hy];exact Nat.mod_lt _ (by omega)
 clear hy
 by_cases h4:a<b+d<;>by_cases h1:2^31≤a<;>by_cases h2:2^31≤b<;>by_cases h3:2^31≤y<;>simp only [h1,h2,h3,h4,decide_true,decide_false,Bool.not_true,Bool.not_false,Bool.true_and,Bool.false_and,Bool.and_true,Bool.and_false,Bool.or_true,Bool.or_false,Bool.true_or,Bool.false_or,Bool.xor_true,Bool.xor_false,Bool.true_xor,Bool.false_xor,if_true,if_false,Bool.false_eq_true,eq_self,show decide (0<32)=true from rfl]<;>first|done|omega|(trace_state;omega)
theorem Be (a b c:Nat) (ha:a<(4294967296:Nat)) (hb:b<(4294967296:Nat)) (hc:c≤1):az P0 112 [ak a,ak b,ak c] (one (dD ((a+(4294967296:Nat)+(4294967296:Nat) - b - c)%(4294967296:Nat)) (if a<b+c then 1 else 0))):=by
 have wm:∀z:Int,∀y:Nat,z=(y:Int) - 8589934592→IntKind.u32.wrap z=((y%(4294967296:Nat):Nat):Int):=by
  intro z y h
  subst h
  unfold IntKind.wrap IntKind.bits IntKind.signed
  simp only
  have e1:(2:Int)^32=4294967296:=by decide
  rw [e1]
  simp only [Bool.false_and,Bool.false_eq_true,if_false]
  omega
 have hn:∀x:Nat,BitVec.ofInt IntKind.u32.bits (x:Int)=BitVec.ofNat 32 x:=fun x=>BitVec.ofInt_natCast 32 x
 refine ah af oa (by rfl) (sb 1 a b c (((a+(4294967296:Nat)+(4294967296:Nat) - b)%(4294967296:Nat):Nat):Int) (((a+(4294967296:Nat)+(4294967296:Nat) - b - c)%(4294967296:Nat):Nat):Int) 0 ((if a<b+c then 1 else 0:Nat):Int)) ⟨wm _ _ (by omega), ?_, ?_,rfl,trivial⟩
 · have:IntKind.u32.wrap ((((a+(4294967296:Nat)+(4294967296:Nat) - b)%(4294967296:Nat):Nat):Int) - (c:Int))=(((a+(4294967296:Nat)+(4294967296:Nat) - b)%(4294967296:Nat)+(4294967296:Nat)+(4294967296:Nat) - c)%(4294967296:Nat):Nat):=wm _ _ (by omega)
   rw [this];congr 1;omega
 · simp only [Zw,N8]
   simp only [XB]
   simp only [hn]
   have e:(2:Int)^min (Int.toNat (31:Int)) IntKind.u32.bits=((2^31:Nat):Int):=by decide
   rw [e,j6]
   have:=HE a b c ha hb hc
   rw [←BitVec.allOnes_xor,←BitVec.allOnes_xor] at this
   rw [←this]
   rfl
theorem pL {a k:Nat} (h:0<a / 2^k):(dg 2 a).length=k+(dg 2 (a / 2^k)).length:=by
 induction k generalizing a with
 |zero=>simp
 |succ k ih=>
  have e:a / 2^(k+1)=a / 2 / 2^k:=by rw [Nat.pow_succ,Nat.mul_comm,Nat.div_div_eq_div_mul]
  rw [e] at h ⊢
  have h2:0<a / 2:=by
   rcases Nat.eq_zero_or_pos (a / 2) with h3|h3
   · rw [h3] at h;simp at h
   · exact h3
  rw [dz (by omega) (by omega),List.length_cons,ih h];omega
def J5:List Nat:=(List.range 256).map fun b=>(dg 2 b).length
theorem Lb:mY.data.toList.map (·.toNat)=J5:=by decide+kernel
theorem sG {b:Nat} (h:b<256):eE mY (b:Int) (((dg 2 b).length:Nat):Int):=by
 have h1:(mY.data.toList.map (·.toNat))[b]? =some (dg 2 b).length:=by rw [Lb];simp [J5,h]
 rw [List.getElem?_map,Option.map_eq_some_iff] at h1
 obtain ⟨c,hc,h2⟩:=h1
 have h3:mY[b]? =some c:=by
  have hb:b<mY.size:=gB hc
  rw [getElem?_pos mY b hb]
  have h4:b<mY.data.toList.length:=hb
  rw [List.getElem?_eq_getElem h4] at hc
  exact hc
 rw [←h2]
 exact lM h3
theorem zq {a:Nat} (h:a<(4294967296:Nat)):(dg 2 a).length≤32:=gZ (by omega) (by omega)
theorem Iv (a:Nat) (ha:a<(4294967296:Nat)):az P0 117 [ak a] (one (iv ((dg 2 a).length:Nat))):=by
 have QS:(2:Int)^min (Int.toNat (16:Int)) IntKind.u32.bits=((2^16:Nat):Int):=by decide
 have p8:(2:Int)^min (Int.toNat (8:Int)) IntKind.u32.bits=((2^8:Nat):Int):=by decide
 have hl:=zq ha
 by_cases h1:65536≤a
 · by_cases h2:256≤a / 2^16
   · have e:(dg 2 a).length=24+(dg 2 (a / 2^16 / 2^8)).length:=by
       have:=pL (a:=a) (k:=24) (by omega)
       rw [this,Nat.div_div_eq_div_mul]
     refine ah af oa (by rfl) (W0 1 a ((a / 2^16:Nat):Int) ((a / 2^16:Nat):Int) (((dg 2 (a / 2^16 / 2^8)).length:Nat):Int) ((a / 2^16 / 2^8:Nat):Int) _) ⟨by simp;omega,by rw [QS,j6],rfl,by simp;omega,rfl,rfl, ?_,sG (by omega),aR rfl (by omega), ?_,trivial⟩
     · rw [p8,j6,w8];congr 1;omega
     · rw [e]
       have:IntKind.i64.wrap ((16:Int)+(8:Int))=24:=by decide
       rw [this];exact aR (by omega) (by omega)
   · have e:(dg 2 a).length=16+(dg 2 (a / 2^16)).length:=pL (by omega)
     refine ah af oa (by rfl) (W5 1 a ((a / 2^16:Nat):Int) 0 (((dg 2 (a / 2^16)).length:Nat):Int) ((a / 2^16:Nat):Int) _) ⟨by simp;omega,by rw [QS,j6],rfl,by simp;omega, ?_,sG (by omega),aR rfl (by omega), ?_,trivial⟩
     · rw [w8];congr 1;omega
     · rw [e];exact aR (by omega) (by omega)
 · by_cases h2:256≤a
   · have e:(dg 2 a).length=8+(dg 2 (a / 2^8)).length:=pL (by omega)
     refine ah af oa (by rfl) (W6 1 a 0 (a:Int) (((dg 2 (a / 2^8)).length:Nat):Int) ((a / 2^8:Nat):Int) _) ⟨by simp;omega,by simp;omega,rfl,rfl, ?_,sG (by omega),aR rfl (by omega), ?_,trivial⟩
     · rw [p8,j6,w8];congr 1;omega
     · rw [e]
       have:IntKind.i64.wrap ((0:Int)+(8:Int))=8:=by decide
       rw [this];exact aR (by omega) (by omega)
   · refine ah af oa (by rfl) (W7 1 a 0 0 (((dg 2 a).length:Nat):Int) (a:Int) _) ⟨by simp;omega,by simp;omega, ?_,sG (by omega),aR rfl (by omega), ?_,trivial⟩
     · rw [w8];congr 1;omega
     · exact aR (by omega) (by omega)
end Go.Proofs.YtibbgjafjhcemaaDoor.Cul
namespace Go.Proofs.YtibbgjafjhcemaaDoor.Cul
theorem gM {b:Nat}:∀{l:List Nat} {i x:Nat},l[i]? =some x→∀y,val b (l.set i y)+b^i* x=val b l+b^i* y
 |[],i,x,h,y=>by simp at h
 |a::l,0,x,h,y=>by
  simp at h;subst h
  simp only [List.set_cons_zero,val,Nat.pow_zero,Nat.one_mul];omega
 |a::l,i+1,x,h,y=>by
  have ih:=gM (b:=b) (l:=l) (i:=i) (x:=x) (by simpa using h) y
  simp only [List.set_cons_succ,val,Nat.pow_succ]
  have e:∀t,b^i* b* t=b* (b^i* t):=fun t=>by rw [Nat.mul_comm (b^i) b,Nat.mul_assoc]
  rw [e,e,Nat.add_assoc,←Nat.mul_add,ih,Nat.mul_add,Nat.add_assoc]
theorem ia {b:Nat} {l:List Nat} (h:bf b l) {y:Nat} (hy:y<b) (i:Nat):bf b (l.set i y):=by
 intro x hx
 rcases List.mem_or_eq_of_mem_set hx with h1|h1
 · exact h x h1
 · exact h1 ▸hy
def fd (b:Nat):Nat→Nat→List Nat
 |0,_=>[]
 |n+1,v=>v%b::fd b n (v / b)
theorem bG (b:Nat):∀n v,(fd b n v).length=n
 |0,_=>rfl
 |n+1,v=>by simp [fd,bG b n]
theorem fV {b:Nat} (hb:0<b):∀n v,bf b (fd b n v)
 |0,_=>by simp [fd,bf]
 |n+1,v=>by
  intro x hx
  simp only [fd,List.mem_cons] at hx
  rcases hx with rfl|hx
  · exact Nat.mod_lt _ hb
  · exact fV hb n _ x hx
theorem jo {b:Nat} (hb:0<b):∀n v,val b (fd b n v)=v%b^n
 |0,v=>by simp [fd,val,Nat.mod_one]
 |n+1,v=>by
  rw [fd,val,jo hb n,Nat.pow_succ,Nat.mul_comm (b^n) b,Nat.mod_mul]
theorem jc {b n v:Nat} (hb:0<b) {l:List Nat} (h:bf b l) (hl:l.length=n) (hv:val b l=v):l=fd b n v:=by
 have h1:=cY h
 rw [hl,hv] at h1
 exact val_inj h (fV hb n v) (by rw [bG,hl]) (by rw [jo hb,hv,Nat.mod_eq_of_lt h1])
theorem g8 {b:Nat}:∀{n i v:Nat},i<n→(fd b n v)[i]? =some (v / b^i%b)
 |0,_,_,h=>by omega
 |n+1,0,v,_=>by simp [fd]
 |n+1,i+1,v,h=>by
  simp only [fd,List.getElem?_cons_succ]
  rw [g8 (by omega),Nat.div_div_eq_div_mul,Nat.pow_succ,Nat.mul_comm b]
theorem wT {b:Nat} (hb:0<b) (n:Nat):fd b n 0=List.replicate n 0:=by
 symm
 apply jc hb
 · intro x hx;rw [List.mem_replicate] at hx;omega
 · simp
 · exact yE n
def sdiv (b d:Nat):List Nat→List Nat×Nat
 |[]=>([],0)
 |x::l=>(((sdiv b d l).2* b+x) / d::(sdiv b d l).1,((sdiv b d l).2* b+x)%d)
theorem nu (b d:Nat):∀l,(sdiv b d l).1.length=l.length
 |[]=>rfl
 |x::l=>by simp [sdiv,nu b d l]
theorem qy {b d:Nat} (hd:0<d):∀l,val b (sdiv b d l).1* d+(sdiv b d l).2=val b l∧(sdiv b d l).2<d
 |[]=>by simp [sdiv,val,hd]
 |x::l=>by
  obtain ⟨h1,h2⟩:=qy (b:=b) hd l
  refine ⟨?_,Nat.mod_lt _ hd⟩
  simp only [sdiv,val]
  have h3:=Nat.div_add_mod ((sdiv b d l).2* b+x) d
  rw [Nat.add_mul]
  have e:b* val b (sdiv b d l).1* d=b* (val b (sdiv b d l).1* d):=by rw [Nat.mul_assoc]
  have e2:b* val b l=b* (val b (sdiv b d l).1* d)+b* (sdiv b d l).2:=by rw [←h1,Nat.mul_add]
  rw [e,e2,Nat.mul_comm b (sdiv b d l).2]
  rw [Nat.mul_comm d] at h3
  omega
theorem A5 {b d:Nat} (hb:0<b) (hd:0<d):∀{l},bf b l→bf b (sdiv b d l).1
 |[],_=>by simp [sdiv,bf]
 |x::l,h=>by
  have h2:=(qy (b:=b) hd l).2
  intro y hy
  simp only [sdiv,List.mem_cons] at hy
  rcases hy with rfl|hy
  · rw [Nat.div_lt_iff_lt_mul hd]
    have h3:((sdiv b d l).2+1)* b≤d* b:=Nat.mul_le_mul_right _ h2
    have h4:=h.head
    rw [Nat.add_mul] at h3
    rw [Nat.mul_comm b d]
    omega
  · exact A5 hb hd h.tail y hy
end Go.Proofs.YtibbgjafjhcemaaDoor.Cul
namespace Go.Proofs.YtibbgjafjhcemaaDoor.Cul
open Go Go.RowKit
noncomputable def FM:List PV→Option RV:=bJ (fun a:Nat=>a<(4294967296:Nat)) (fun a=>[ak a]) (fun a=>one (iv ((dg 2 a).length:Nat)))
noncomputable def ES:List PV→Option RV:=bJ (fun x:Nat×Nat×Nat=>x.2.2<(4294967296:Nat)∧x.1<x.2.2∧x.2.1<(4294967296:Nat)) (fun x=>[ak x.1,ak x.2.1,ak x.2.2]) (fun x=>one (dD ((x.1* (4294967296:Nat)+x.2.1) / x.2.2) ((x.1* (4294967296:Nat)+x.2.1)%x.2.2)))
noncomputable def qN:List PV→Option RV:=bJ (fun x:Nat×Nat×Nat=>x.1<(4294967296:Nat)∧x.2.1<(4294967296:Nat)∧x.2.2<(4294967296:Nat)) (fun x=>[ak x.1,ak x.2.1,ak x.2.2]) (fun x=>one (dD ((x.1+x.2.1+x.2.2)%(4294967296:Nat)) ((x.1+x.2.1+x.2.2) / (4294967296:Nat))))
noncomputable def r4:List PV→Option RV:=bJ (fun x:Nat×Nat×Nat=>x.1<(4294967296:Nat)∧x.2.1<(4294967296:Nat)∧x.2.2≤1) (fun x=>[ak x.1,ak x.2.1,ak x.2.2]) (fun x=>one (dD ((x.1+(4294967296:Nat)+(4294967296:Nat) - x.2.1 - x.2.2)%(4294967296:Nat)) (if x.1<x.2.1+x.2.2 then 1 else 0)))
noncomputable def FV:List PV→Option RV:=bJ (fun x:Nat×Nat=>x.1<(4294967296:Nat)∧x.2<(4294967296:Nat)) (fun x=>[ak x.1,ak x.2]) (fun x=>one (dD (x.1* x.2 / (4294967296:Nat)) (x.1* x.2%(4294967296:Nat))))
noncomputable def t7:Cl:=bI [(117,FM)]
noncomputable def t8:Cl:=bI [(116,ES),(95,jx)]
theorem lz (k a w:Nat) (v:Int):ay MD t7 k 107 [ak a] [.r (one (iv w)), .i 5 v]=
 some (RV.mk (PV.lit (Value.int IntKind.i64 v)) none,[aa t7 117 [PV.lit (Value.int IntKind.u32 (↑a:Int))] (RV.mk (PV.lit (Value.int IntKind.i64 (↑w:Int))) none),IntKind.i64.wrap ((32:Int) - (↑w:Int))=v]):=by kernel_rfl
theorem sm (k n d r:Nat) (cs ds es fs:List PV) (p:PV):ay MD t8 k 106 [.sl 1 n cs,ak d] [.c false, .f ds, .l (.exit 0) ⟨[(0, .pv (.sl 1 n cs)),(1, .pv (ak d)),(6, .bs 11 0 1 n),(7, .pv (ak r)),(8, .pv (iv (-1))),(16, .pv (bv false))],[(11,es)],[],[]⟩, .f fs, .r (one p)]=
 some (RV.mk (PV.aG [p,PV.lit (Value.int IntKind.u32 (↑r:Int))]) none,[(0:Int)≤(↑n:Int)∧(↑n:Int)≤(↑n:Int)∧(↑n:Int)* (↑(MD.P.bytesOf (111:Nat)):Int)≤(↑room:Int)∧(↑n:Int)≤(↑room:Int),decide ((↑n:Int)=(0:Int))=false,fP [PV.lit (Value.int IntKind.u32 (0:Int))] n ds,aW MD t8 k (106:Nat) (0:Nat) (St.mk [(0,AV.pv (PV.sl 1 n cs)),(1,AV.pv (PV.lit (Value.int IntKind.u32 (↑d:Int)))),(6,AV.bs 11 0 1 n),(7,AV.pv (PV.lit (Value.int IntKind.u32 (0:Int)))),(8,AV.pv (PV.lit (Value.int IntKind.i64 (IntKind.i64.wrap ((↑n:Int) - (1:Int))))))] [(11,ds)] [] []) (Xt.exit 0) (St.mk [(0,AV.pv (PV.sl 1 n cs)),(1,AV.pv (PV.lit (Value.int IntKind.u32 (↑d:Int)))),(6,AV.bs 11 0 1 n),(7,AV.pv (PV.lit (Value.int IntKind.u32 (↑r:Int)))),(8,AV.pv (PV.lit (Value.int IntKind.i64 (-1:Int)))),(16,AV.pv (PV.lit (Value.bool false)))] [(11,es)] [] []),cH es 0 (n* (1:Nat)) fs,aa t8 95 [PV.sl 1 n fs] (RV.mk p none)]):=by kernel_rfl
theorem YF (k n d r:Nat) (cs es:List PV) (i:Int):aA MD t8 k 106 0 ⟨[(0, .pv (.sl 1 n cs)),(1, .pv (ak d)),(6, .bs 11 0 1 n),(7, .pv (ak r)),(8, .pv (iv i))],[(11,es)],[],[]⟩ [.c false]=
 some ((Xt.exit 0,St.mk [(0,AV.pv (PV.sl 1 n cs)),(1,AV.pv (PV.lit (Value.int IntKind.u32 (↑d:Int)))),(6,AV.bs 11 0 1 n),(7,AV.pv (PV.lit (Value.int IntKind.u32 (↑r:Int)))),(8,AV.pv (PV.lit (Value.int IntKind.i64 i))),(16,AV.pv (PV.lit (Value.bool false)))] [(11,es)] [] []),[],[decide (i≥(0:Int))=false]):=by kernel_rfl
theorem YH (k n d r x q r2 i:Nat) (cs es es':List PV) (j:Int):aA MD t8 k 106 0 ⟨[(0, .pv (.sl 1 n cs)),(1, .pv (ak d)),(6, .bs 11 0 1 n),(7, .pv (ak r)),(8, .pv (iv i))],[(11,es)],[],[]⟩ [.c true, .a 25 [ak x], .r (one (.aG [ak q,ak r2])), .j 31 i, .s es', .i 18 j]=
 some ((Xt.normal,St.mk [(0,AV.pv (PV.sl 1 n cs)),(1,AV.pv (PV.lit (Value.int IntKind.u32 (↑d:Int)))),(6,AV.bs 11 0 1 n),(7,AV.pv (PV.lit (Value.int IntKind.u32 (↑r2:Int)))),(8,AV.pv (PV.lit (Value.int IntKind.i64 j)))] [(11,es')] [] []),[],[decide ((↑i:Int)≥(0:Int))=true,aL cs 1 (↑i:Int) n [PV.lit (Value.int IntKind.u32 (↑x:Int))],aa t8 116 [PV.lit (Value.int IntKind.u32 (↑r:Int)),PV.lit (Value.int IntKind.u32 (↑x:Int)),PV.lit (Value.int IntKind.u32 (↑d:Int))] (RV.mk (PV.aG [PV.lit (Value.int IntKind.u32 (↑q:Int)),PV.lit (Value.int IntKind.u32 (↑r2:Int))]) none),aK (↑i:Int) n i,(0:Nat)+i* (1:Nat)+(ak q).cells.length≤es.length,cg es ((0:Nat)+i* (1:Nat)) [PV.lit (Value.int IntKind.u32 (↑q:Int))] es',IntKind.i64.wrap ((↑i:Int) - (1:Int))=j]):=by kernel_rfl
theorem sh (k n s:Nat) (cs ds es fs:List PV):ay MD t3 k 108 [.sl 1 n cs,iv s] [.i 10 (n+1:Nat), .c false, .f ds, .l (.exit 0) ⟨[(1, .pv (iv s)),(5, .bs 11 0 1 (n+1)),(12, .pv (.sl 1 n cs)),(13, .pv (iv n)),(14, .pv (iv n)),(15, .pv (bv false))],[(11,es)],[],[]⟩, .f fs]=
 some (RV.mk (PV.sl 1 (n+(1:Nat)) fs) (some 1),[IntKind.i64.wrap ((↑n:Int)+(1:Int))=(↑(n+(1:Nat)):Int),(0:Int)≤(↑(n+(1:Nat)):Int)∧(↑(n+(1:Nat)):Int)≤(↑(n+(1:Nat)):Int)∧(↑(n+(1:Nat)):Int)* (↑(MD.P.bytesOf (111:Nat)):Int)≤(↑room:Int)∧(↑(n+(1:Nat)):Int)≤(↑room:Int),decide ((↑(n+(1:Nat)):Int)=(0:Int))=false,fP [PV.lit (Value.int IntKind.u32 (0:Int))] (↑(n+(1:Nat)):Int).toNat ds,aW MD t3 k (108:Nat) (0:Nat) (St.mk [(1,AV.pv (PV.lit (Value.int IntKind.i64 (↑s:Int)))),(5,AV.bs 11 0 1 (↑(n+(1:Nat)):Int).toNat),(12,AV.pv (PV.sl 1 n cs)),(13,AV.pv (PV.lit (Value.int IntKind.i64 (↑n:Int)))),(14,AV.pv (PV.lit (Value.int IntKind.i64 (0:Int))))] [(11,ds)] [] []) (Xt.exit 0) (St.mk [(1,AV.pv (PV.lit (Value.int IntKind.i64 (↑s:Int)))),(5,AV.bs 11 0 1 (n+(1:Nat))),(12,AV.pv (PV.sl 1 n cs)),(13,AV.pv (PV.lit (Value.int IntKind.i64 (↑n:Int)))),(14,AV.pv (PV.lit (Value.int IntKind.i64 (↑n:Int)))),(15,AV.pv (PV.lit (Value.bool false)))] [(11,es)] [] []),cH es 0 ((n+(1:Nat))* (1:Nat)) fs]):=by kernel_rfl
theorem YC (k n s i m:Nat) (cs es:List PV):aA MD t3 k 108 0 ⟨[(1, .pv (iv s)),(5, .bs 11 0 1 m),(12, .pv (.sl 1 n cs)),(13, .pv (iv n)),(14, .pv (iv i))],[(11,es)],[],[]⟩ [.c false]=
 some ((Xt.exit 0,St.mk [(1,AV.pv (PV.lit (Value.int IntKind.i64 (↑s:Int)))),(5,AV.bs 11 0 1 m),(12,AV.pv (PV.sl 1 n cs)),(13,AV.pv (PV.lit (Value.int IntKind.i64 (↑n:Int)))),(14,AV.pv (PV.lit (Value.int IntKind.i64 (↑i:Int)))),(15,AV.pv (PV.lit (Value.bool false)))] [(11,es)] [] []),[],[decide ((↑i:Int)<(↑n:Int))=false]):=by kernel_rfl
theorem YD (k n s i m x y c z w:Nat) (cs es es' fE:List PV):aA MD t3 k 108 0 ⟨[(1, .pv (iv s)),(5, .bs 11 0 1 m),(12, .pv (.sl 1 n cs)),(13, .pv (iv n)),(14, .pv (iv i))],[(11,es)],[],[]⟩ [.c true, .a 17 [ak x], .j 21 i, .e 22 (ak c), .i 25 y, .i 26 z, .j 27 i, .s es', .i 30 (i+1:Nat), .i 32 x, .i 34 (x* 2^s:Nat), .i 35 w, .i 36 w, .j 37 (i+1), .s fE, .i 38 (i+1:Nat)]=
 some ((Xt.normal,St.mk [(1,AV.pv (PV.lit (Value.int IntKind.i64 (↑s:Int)))),(5,AV.bs 11 0 1 m),(12,AV.pv (PV.sl 1 n cs)),(13,AV.pv (PV.lit (Value.int IntKind.i64 (↑n:Int)))),(14,AV.pv (PV.lit (Value.int IntKind.i64 (↑(i+(1:Nat)):Int))))] [(11,fE)] [] []),[],[decide ((↑i:Int)<(↑n:Int))=true,aL cs 1 (↑i:Int) n [PV.lit (Value.int IntKind.u32 (↑x:Int))],aK (↑i:Int) m i,Ld MD.P 111 es ((0:Nat)+i* (1:Nat)) (PV.lit (Value.int IntKind.u32 (↑c:Int))),IntKind.u32.wrap ((↑x:Int)* (2:Int)^min (↑s:Int).toNat IntKind.u32.bits)=(↑y:Int),decide ((↑s:Int)<(0:Int))=false,IntKind.u32.wrap (↑(BitVec.ofInt IntKind.u32.bits (↑c:Int)|||BitVec.ofInt IntKind.u32.bits (↑y:Int)).toNat:Int)=(↑z:Int),aK (↑i:Int) m i,(0:Nat)+i* (1:Nat)+(PV.lit (Value.int IntKind.u32 (↑z:Int))).cells.length≤es.length,cg es ((0:Nat)+i* (1:Nat)) [PV.lit (Value.int IntKind.u32 (↑z:Int))] es',IntKind.i64.wrap ((↑i:Int)+(1:Int))=(↑(i+(1:Nat)):Int),IntKind.u64.wrap (↑x:Int)=(↑x:Int),IntKind.u64.wrap ((↑x:Int)* (2:Int)^min (↑s:Int).toNat IntKind.u64.bits)=(↑(x* (2:Nat)^s):Int),decide ((↑s:Int)<(0:Int))=false,(↑(x* (2:Nat)^s):Int).fdiv ((2:Int)^min (Int.toNat (32:Int)) IntKind.u64.bits)=(↑w:Int),false=false,IntKind.u32.wrap (↑w:Int)=(↑w:Int),aK (↑(i+(1:Nat)):Int) m (i+(1:Nat)),(0:Nat)+(i+(1:Nat))* (1:Nat)+(PV.lit (Value.int IntKind.u32 (↑w:Int))).cells.length≤es'.length,cg es' ((0:Nat)+(i+(1:Nat))* (1:Nat)) [PV.lit (Value.int IntKind.u32 (↑w:Int))] fE,IntKind.i64.wrap ((↑i:Int)+(1:Int))=(↑(i+(1:Nat)):Int)]):=by kernel_rfl
theorem ij {a b:Nat} (h:ak a=ak b):a=b:=by
 simp only [ak,PV.lit.injEq,Value.int.injEq,true_and] at h;omega
theorem FN {a:Nat} (h:a<(4294967296:Nat)):FM [ak a]=some (one (iv ((dg 2 a).length:Nat))):=
 aM (enc:=fun a:Nat=>[ak a]) (fun a b e=>by rw [ij (List.cons.inj e).1]) h
theorem tZ {a b:Nat×Nat×Nat} (e:[ak a.1,ak a.2.1,ak a.2.2]=[ak b.1,ak b.2.1,ak b.2.2]):a=b:=by
 simp only [List.cons.injEq,and_true] at e
 obtain ⟨a1,a2,a3⟩:=a;obtain ⟨b1,b2,b3⟩:=b
 simp only at e
 rw [ij e.1,ij e.2.1,ij e.2.2]
theorem ET {a b d:Nat} (hd:d<(4294967296:Nat)) (ha:a<d) (hb:b<(4294967296:Nat)):ES [ak a,ak b,ak d]=some (one (dD ((a* (4294967296:Nat)+b) / d) ((a* (4294967296:Nat)+b)%d))):=
 aM (a:=(a,b,d)) (enc:=fun x:Nat×Nat×Nat=>[ak x.1,ak x.2.1,ak x.2.2]) (fun a b e=>by rw [tZ e]) ⟨hd,ha,hb⟩
theorem jM {a b c:Nat} (ha:a<(4294967296:Nat)) (hb:b<(4294967296:Nat)) (hc:c<(4294967296:Nat)):qN [ak a,ak b,ak c]=some (one (dD ((a+b+c)%(4294967296:Nat)) ((a+b+c) / (4294967296:Nat)))):=
 aM (a:=(a,b,c)) (enc:=fun x:Nat×Nat×Nat=>[ak x.1,ak x.2.1,ak x.2.2]) (fun a b e=>by rw [tZ e]) ⟨ha,hb,hc⟩
theorem n9 {a b c:Nat} (ha:a<(4294967296:Nat)) (hb:b<(4294967296:Nat)) (hc:c≤1):r4 [ak a,ak b,ak c]=some (one (dD ((a+(4294967296:Nat)+(4294967296:Nat) - b - c)%(4294967296:Nat)) (if a<b+c then 1 else 0))):=
 aM (a:=(a,b,c)) (enc:=fun x:Nat×Nat×Nat=>[ak x.1,ak x.2.1,ak x.2.2]) (fun a b e=>by rw [tZ e]) ⟨ha,hb,hc⟩
theorem PS:aI MD.P t7:=aH (aj (au fun a h=>Iv a h) aE)
theorem PU:aI MD.P t8:=aH (aj (au fun x h=>HR x.1 x.2.1 x.2.2 h.1 h.2.1 h.2.2) (aj (au fun l h=>mI l h.1 h.2) aE))
theorem Py (a:Nat) (ha:a<(4294967296:Nat)):az P0 107 [ak a] (one (iv ((32 - (dg 2 a).length:Nat):Nat))):=by
 have:=zq ha
 refine ah af PS (by rfl) (lz 1 a _ _) ⟨FN ha,aR (by omega) (by omega),trivial⟩
def vY (d:Nat) (l:List Nat) (j:Nat):List Nat:=List.replicate j 0++(sdiv (4294967296:Nat) d (l.drop j)).1
theorem CT {d:Nat} {l:List Nat} {j:Nat} (h:j≤l.length):(vY d l j).length=l.length:=by
 simp only [vY,List.length_append,List.length_replicate,nu,List.length_drop];omega
theorem vZ (k:Nat) (l:List Nat) (hl:bf (4294967296:Nat) l) (hs:l.length<2^40) (d:Nat) (hd:0<d) (rz:d<(4294967296:Nat)):∀j,j≤l.length→bg (aP MD t8 k 106 0) (j+1) ⟨[(0, .pv (nat l)),(1, .pv (ak d)),(6, .bs 11 0 1 l.length),(7, .pv (ak (sdiv (4294967296:Nat) d (l.drop j)).2)),(8, .pv (iv ((j:Int) - 1)))],[(11,us (vY d l j))],[],[]⟩=some (.exit 0,⟨[(0, .pv (nat l)),(1, .pv (ak d)),(6, .bs 11 0 1 l.length),(7, .pv (ak (sdiv (4294967296:Nat) d l).2)),(8, .pv (iv (-1))),(16, .pv (bv false))],[(11,us (sdiv (4294967296:Nat) d l).1)],[],[]⟩)
 |0,_=>aV (an (YF k _ _ _ _ _ _) ⟨by decide,trivial⟩) (by simp)
 |j+1,hj=>by
  obtain ⟨x,hx⟩:=get_some (l:=l) (i:=j) (by omega)
  have qI:=cN hl hx
  have hi:(((j+1:Nat):Int) - 1)=(j:Int):=by omega
  rw [hi]
  have th:l.drop j=x::l.drop (j+1):=by
   have hj:=gB hx
   rw [List.drop_eq_getElem_cons hj]
   rw [List.getElem?_eq_getElem hj] at hx
   simp only [Option.some.injEq] at hx
   rw [hx]
  have hr:=(qy (b:=(4294967296:Nat)) hd (l.drop (j+1))).2
  have e1:sdiv (4294967296:Nat) d (l.drop j)=(((sdiv (4294967296:Nat) d (l.drop (j+1))).2* (4294967296:Nat)+x) / d::(sdiv (4294967296:Nat) d (l.drop (j+1))).1,((sdiv (4294967296:Nat) d (l.drop (j+1))).2* (4294967296:Nat)+x)%d):=by rw [th,sdiv]
  have ih:=vZ k l hl hs d hd rz j (by omega)
  have e2:(vY d l (j+1)).set j (((sdiv (4294967296:Nat) d (l.drop (j+1))).2* (4294967296:Nat)+x) / d)=vY d l j:=by
   simp only [vY,e1]
   rw [List.replicate_succ',List.append_assoc,List.set_append_right _ _ (by simp)]
   simp
  refine bn (an (YH k _ d (sdiv (4294967296:Nat) d (l.drop (j+1))).2 x (((sdiv (4294967296:Nat) d (l.drop (j+1))).2* (4294967296:Nat)+x) / d) (((sdiv (4294967296:Nat) d (l.drop (j+1))).2* (4294967296:Nat)+x)%d) j _ _ (us (vY d l j)) ((j:Int) - 1)) ⟨by simp,cQ hx rfl,ET rz hr qI,⟨rfl,by omega⟩, ?_, ?_,by rw [wrap64]<;>omega,trivial⟩) ?_
  · rw [cC,CT hj];simp [ak,PV.cells];omega
  · exact eZ e2 (by rw [CT hj];omega) (by omega)
  · rw [e1] at ih;exact ih
theorem Jo (l:List Nat) (hne:l≠[]) (hl:bf (4294967296:Nat) l) (hs:l.length<2^40) (d:Nat) (hd:0<d) (rz:d<(4294967296:Nat)):az P0 106 [nat l,ak d] (one (.aG [nat (dg (4294967296:Nat) (val (4294967296:Nat) l / d)),ak (val (4294967296:Nat) l%d)])):=by
 have h1:=qy (b:=(4294967296:Nat)) hd l
 have hn:0<l.length:=List.length_pos_iff.2 hne
 have hroom:(2:Int)^43≤(room:Int):=by decide
 have hq:val (4294967296:Nat) (sdiv (4294967296:Nat) d l).1=val (4294967296:Nat) l / d:=by
  rw [←h1.1,Nat.add_comm,Nat.add_mul_div_right _ _ hd,Nat.div_eq_of_lt h1.2,Nat.zero_add]
 have hr:(sdiv (4294967296:Nat) d l).2=val (4294967296:Nat) l%d:=by
  rw [←h1.1,Nat.add_comm,Nat.add_mul_mod_self_right,Nat.mod_eq_of_lt h1.2]
 have iM:=vZ (l.length+1) l hl hs d hd rz l.length (Nat.le_refl _)
 have e0:vY d l l.length=List.replicate l.length 0:=by simp [vY,sdiv]
 rw [e0,List.drop_length] at iM
 have hw:IntKind.i64.wrap ((l.length:Int) - 1)=(l.length:Int) - 1:=by rw [wrap64]<;>omega
 have ht:=kS (l:=(sdiv (4294967296:Nat) d l).1) (by rw [nu];exact hs) (A5 (by decide) hd hl)
 rw [hq] at ht
 have:=ah af PU (by rfl) (sm (l.length+1) l.length d (sdiv (4294967296:Nat) d l).2 (us l) (us (List.replicate l.length 0)) (us (sdiv (4294967296:Nat) d l).1) (us (sdiv (4294967296:Nat) d l).1) (nat (dg (4294967296:Nat) (val (4294967296:Nat) l / d)))) ⟨⟨by omega,by omega,by rw [mP];omega,by omega⟩,by simp;omega,ja,by rw [hw];exact iM,je _ 0 _ (by rw [List.drop_zero,List.take_of_length_le (by rw [nu];omega)]),by simp only [nat,nu] at ht;exact ht,trivial⟩
 rw [hr] at this
 exact this
theorem BL {x s:Nat} (hs:s<32) (hx:x<(4294967296:Nat)):∃y,x* 2^s%(4294967296:Nat)=2^s* y∧2^s* y+2^s≤(4294967296:Nat):=by
 have e:(4294967296:Nat)=2^(32 - s)* 2^s:=by rw [←Nat.pow_add,show 32 - s+s=32 by omega]
 refine ⟨x%2^(32 - s), ?_, ?_⟩
 · rw [e,Nat.mul_mod_mul_right,Nat.mul_comm]
 · have h1:x%2^(32 - s)+1≤2^(32 - s):=Nat.mod_lt _ (Nat.pow_pos (by omega))
   have h2:=Nat.mul_le_mul_left (2^s) h1
   rw [Nat.mul_add,Nat.mul_one,Nat.mul_comm (2^s) (2^(32 - s)),←e] at h2
   exact h2
def o8 (s:Nat) (l:List Nat) (i:Nat):Nat:=val (4294967296:Nat) (l.take i)* 2^s
theorem BM (k:Nat) (l:List Nat) (hl:bf (4294967296:Nat) l) (hn:l.length<2^40) (s:Nat) (hs:s<32) (i:Nat) (hi:i<l.length):aP MD t3 k 108 0 ⟨[(1, .pv (iv s)),(5, .bs 11 0 1 (l.length+1)),(12, .pv (nat l)),(13, .pv (iv l.length)),(14, .pv (iv i))],[(11,us (fd (4294967296:Nat) (l.length+1) (o8 s l i)))],[],[]⟩=some (.normal,⟨[(1, .pv (iv s)),(5, .bs 11 0 1 (l.length+1)),(12, .pv (nat l)),(13, .pv (iv l.length)),(14, .pv (iv (i+1:Nat)))],[(11,us (fd (4294967296:Nat) (l.length+1) (o8 s l (i+1))))],[],[]⟩):=by
 obtain ⟨x,hx⟩:=get_some hi
 have qI:=cN hl hx
 have hB:(0:Nat)<(4294967296:Nat):=by decide
 obtain ⟨y,hy,WH⟩:=BL hs qI
 have hps:2^s<(4294967296:Nat):=Nat.pow_lt_pow_right (by omega) hs
 have QA:=cY (eU hl i)
 have htl:(l.take i).length=i:=by rw [List.length_take];omega
 rw [htl] at QA
 obtain ⟨v,hv⟩:∃v,v=o8 s l i:=⟨_,rfl⟩
 have RU:v<2^s* (4294967296:Nat)^i:=by
  rw [hv,o8,Nat.mul_comm];exact Nat.mul_lt_mul_of_pos_left QA (Nat.pow_pos (by omega))
 have VE:0<(4294967296:Nat)^i:=Nat.pow_pos hB
 obtain ⟨c,hc⟩:∃c,c=v / (4294967296:Nat)^i:=⟨_,rfl⟩
 have gE:c<2^s:=by rw [hc];exact (Nat.div_lt_iff_lt_mul VE).2 RU
 have g1:(fd (4294967296:Nat) (l.length+1) v)[i]? =some c:=by
  rw [g8 (by omega),←hc,Nat.mod_eq_of_lt (by omega)]
 have g2:(fd (4294967296:Nat) (l.length+1) v)[i+1]? =some 0:=by
  rw [g8 (by omega)]
  have:v / (4294967296:Nat)^(i+1)=0:=by
   rw [Nat.pow_succ,←Nat.div_div_eq_div_mul,←hc]
   exact Nat.div_eq_of_lt (by omega)
  rw [this]
 obtain ⟨w,hw⟩:∃w,w=x* 2^s / (4294967296:Nat):=⟨_,rfl⟩
 have hxs:x* 2^s<2^63:=by
  have h1:x* 2^s≤x* 2^31:=Nat.mul_le_mul_left _ (Nat.pow_le_pow_right (by omega) (by omega))
  have h2:x* 2^31<(4294967296:Nat)* 2^31:=Nat.mul_lt_mul_of_pos_right qI (by decide)
  omega
 have Ae:w<(4294967296:Nat):=by omega
 have zT:x* 2^s=(4294967296:Nat)* w+2^s* y:=by rw [hw,←hy];exact (Nat.div_add_mod _ _).symm
 have zE:=bG (4294967296:Nat) (l.length+1) v
 have e1:((fd (4294967296:Nat) (l.length+1) v).set i (c+2^s* y)).set (i+1) w=fd (4294967296:Nat) (l.length+1) (o8 s l (i+1)):=by
  apply jc hB
  · exact ia (ia (fV hB _ _) (by omega) _) Ae _
  · simp [zE]
  · have v1:=gM (b:=(4294967296:Nat)) g1 (c+2^s* y)
    have v2:=gM (b:=(4294967296:Nat)) (l:=(fd (4294967296:Nat) (l.length+1) v).set i (c+2^s* y)) (i:=i+1) (x:=0) (by rw [List.getElem?_set_ne (by omega)];exact g2) w
    have v3:val (4294967296:Nat) (fd (4294967296:Nat) (l.length+1) v)=v:=by
     rw [jo hB,Nat.mod_eq_of_lt]
     have h1:2^s* (4294967296:Nat)^i≤(4294967296:Nat)* (4294967296:Nat)^l.length:=Nat.mul_le_mul (by omega) (Nat.pow_le_pow_right (by omega) (by omega))
     rw [Nat.pow_succ,Nat.mul_comm];omega
    have e:=cy (b:=(4294967296:Nat)) hx
    simp only [o8,e,Nat.add_mul]
    have e3:val (4294967296:Nat) (l.take i)* 2^s=v:=by rw [hv,o8]
    rw [e3,Nat.mul_assoc,zT]
    rw [v3,Nat.mul_add] at v1
    rw [Nat.mul_zero,Nat.add_zero,Nat.pow_succ,Nat.mul_assoc] at v2
    rw [Nat.mul_add]
    omega
 rw [←hv]
 refine an (YD k l.length s i (l.length+1) x (2^s* y) c (c+2^s* y) w (us l) _ (us ((fd (4294967296:Nat) (l.length+1) v).set i (c+2^s* y))) (us (fd (4294967296:Nat) (l.length+1) (o8 s l (i+1))))) ⟨by simpa using hi,cQ hx rfl,⟨rfl,by omega⟩,iB g1 (by omega), ?_,by simp,F6 gE (by omega) _ rfl,⟨rfl,by omega⟩, ?_,eZ rfl (by rw [zE];omega) (by omega),aR (by omega) (by omega),bz rfl (by omega), ?_,by simp, ?_,rfl,iw rfl (by omega),⟨rfl,by omega⟩, ?_,eZ e1 (by rw [List.length_set,zE];omega) (by omega),aR (by omega) (by omega),trivial⟩
 · have e:min ((s:Int)).toNat IntKind.u32.bits=s:=by rw [Int.toNat_natCast];show min s 32=s;omega
   rw [e]
   have e2:(2:Int)^s=((2^s:Nat):Int):=by simp
   rw [e2,←Int.natCast_mul,xA,hy]
 · rw [cC,zE];simp [PV.cells];omega
 · have e:min ((s:Int)).toNat IntKind.u64.bits=s:=by rw [Int.toNat_natCast];show min s 64=s;omega
   rw [e]
   have e2:(2:Int)^s=((2^s:Nat):Int):=by simp
   rw [e2,←Int.natCast_mul]
   exact bz rfl (by omega)
 · rw [sK,j6,hw]
 · rw [cC,List.length_set,zE];simp [PV.cells];omega
theorem Jj (l:List Nat) (hl:bf (4294967296:Nat) l) (hn:l.length<2^40) (s:Nat) (hs:s<32):az P0 108 [nat l,iv s] ⟨.sl 1 (l.length+1) (us (fd (4294967296:Nat) (l.length+1) (val (4294967296:Nat) l* 2^s))),some 1⟩:=by
 have hroom:(2:Int)^43≤(room:Int):=by decide
 have iM:=bN (f:=aP MD t3 (l.length+1) 108 0) (S:=fun i=>⟨[(1, .pv (iv s)),(5, .bs 11 0 1 (l.length+1)),(12, .pv (nat l)),(13, .pv (iv l.length)),(14, .pv (iv i))],[(11,us (fd (4294967296:Nat) (l.length+1) (o8 s l i)))],[],[]⟩) (n:=l.length) (fun i hi=>BM _ l hl hn s hs i hi) (an (YC _ l.length s l.length (l.length+1) (us l) _) ⟨by simp,trivial⟩) (by simp) (l.length+1) (by omega)
 have e0:o8 s l 0=0:=by simp [o8,val]
 have e1:o8 s l l.length=val (4294967296:Nat) l* 2^s:=by simp [o8]
 rw [e0,e1,wT (by decide)] at iM
 refine ah af ku (by rfl) (sh (l.length+1) l.length s (us l) (us (List.replicate (l.length+1) 0)) (us (fd (4294967296:Nat) (l.length+1) (val (4294967296:Nat) l* 2^s))) (us (fd (4294967296:Nat) (l.length+1) (val (4294967296:Nat) l* 2^s)))) ⟨aR (by omega) (by omega),⟨by omega,by omega,by rw [mP];omega,by omega⟩,by simp;omega,ja,iM,je _ 0 _ (by rw [List.drop_zero,List.take_of_length_le (by rw [bG];omega)]),trivial⟩
end Go.Proofs.YtibbgjafjhcemaaDoor.Cul
namespace Go.Proofs.YtibbgjafjhcemaaDoor.Cul
structure ld (B W V a b c v1 v2 P rw rv:Nat):Prop where
 w:W=((a* B+b)* B+c)* P+rw
 v:V=(v1* B+v2)* P+rv
 hw:rw<P
 hv:rv<P
 hb:b<B
 hc:c<B
 h2:v2<B
 hB:2≤B
 top:B≤2* v1
 lt:W<B* V
namespace ld
variable {B W V a b c v1 v2 P rw rv:Nat}
theorem xz (h:ld B W V a b c v1 v2 P rw rv):0<V:=by
 rcases Nat.eq_zero_or_pos V with h0|h0
 · have:=h.lt;rw [h0] at this;simp at this
 · exact h0
theorem Td (h:ld B W V a b c v1 v2 P rw rv):0<P:=by have:=h.hw;omega
theorem Es (h:ld B W V a b c v1 v2 P rw rv):0<v1:=by have:=h.top;have:=h.hB;omega
theorem X4 (h:ld B W V a b c v1 v2 P rw rv):W / V<B:=(Nat.div_lt_iff_lt_mul h.xz).2 h.lt
theorem Ki (h:ld B W V a b c v1 v2 P rw rv):W / V* V≤W:=Nat.div_mul_le_self W V
theorem Kj (h:ld B W V a b c v1 v2 P rw rv):W / V* (v1* B+v2)≤(a* B+b)* B+c:=by
 have h1:=h.Ki
 have h2:W / V* ((v1* B+v2)* P)≤W / V* V:=Nat.mul_le_mul_left _ (by have:=h.v;omega)
 have h3:W<((a* B+b)* B+c+1)* P:=by rw [Nat.add_mul,Nat.one_mul];have:=h.w;have:=h.hw;omega
 have h4:W / V* (v1* B+v2)* P<((a* B+b)* B+c+1)* P:=by rw [Nat.mul_assoc];omega
 have:=Nat.lt_of_mul_lt_mul_right h4
 omega
theorem Ol (h:ld B W V a b c v1 v2 P rw rv):W / V* v1≤a* B+b:=by
 have h1:=h.Kj
 have h2:W / V* v1* B≤W / V* (v1* B+v2):=by rw [Nat.mul_add,Nat.mul_assoc];omega
 have h3:W / V* v1* B<(a* B+b+1)* B:=by rw [Nat.add_mul (a* B+b),Nat.one_mul];have:=h.hc;omega
 have:=Nat.lt_of_mul_lt_mul_right h3
 omega
theorem Q6 (h:ld B W V a b c v1 v2 P rw rv):a≤v1:=by
 have h1:a* (B* B* P)≤W:=by
  have e:((a* B+b)* B+c)* P=a* (B* B* P)+(b* B+c)* P:=by
   rw [Nat.add_mul (a* B) b B,Nat.add_assoc,Nat.add_mul,Nat.mul_assoc a B B,Nat.mul_assoc]
  have:=h.w;omega
 have h2:V<(v1+1)* (B* P):=by
  have e:(v1+1)* (B* P)=v1* B* P+B* P:=by rw [Nat.add_mul,Nat.one_mul,Nat.mul_assoc]
  have e2:(v1* B+v2)* P=v1* B* P+v2* P:=Nat.add_mul _ _ _
  have e3:(v2+1)* P≤B* P:=Nat.mul_le_mul_right _ h.h2
  rw [Nat.add_mul,Nat.one_mul] at e3
  have:=h.v;have:=h.hv;omega
 have h3:B* V<B* ((v1+1)* (B* P)):=Nat.mul_lt_mul_of_pos_left h2 (by have:=h.hB;omega)
 have h4:a* (B* B* P)<(v1+1)* (B* B* P):=by
  have e:B* ((v1+1)* (B* P))=(v1+1)* (B* B* P):=by rw [Nat.mul_left_comm,Nat.mul_assoc B B P]
  have:=h.lt;omega
 have:=Nat.lt_of_mul_lt_mul_right h4
 omega
def Inv (B W V a b v1 q r:Nat):Prop:=q* v1+r=a* B+b∧W / V≤q
theorem start (h:ld B W V a b c v1 v2 P rw rv):Inv B W V a b v1 ((a* B+b) / v1) ((a* B+b)%v1):=by
 refine ⟨by rw [Nat.mul_comm];exact Nat.div_add_mod _ _, ?_⟩
 rw [Nat.le_div_iff_mul_le h.Es]
 exact h.Ol
theorem step (h:ld B W V a b c v1 v2 P rw rv) {q r:Nat} (hi:Inv B W V a b v1 q r) (hg:B≤q∨r* B+c<q* v2):0<q∧Inv B W V a b v1 (q - 1) (r+v1):=by
 have hlt:W / V<q:=by
  rcases hg with hg|hg
  · exact Nat.lt_of_lt_of_le h.X4 hg
  · rcases Nat.lt_or_ge (W / V) q with h1|h1
    · exact h1
    · have e:W / V=q:=Nat.le_antisymm hi.2 h1
      have h2:=h.Kj
      rw [e,Nat.mul_add] at h2
      have h3:q* (v1* B)=q* v1* B:=by rw [Nat.mul_assoc]
      have h4:=congrArg (· * B) hi.1
      simp only [Nat.add_mul] at h4
      rw [Nat.add_mul] at h2
      omega
 have hq:0<q:=Nat.lt_of_le_of_lt (Nat.zero_le _) hlt
 refine ⟨hq, ?_,by omega⟩
 obtain ⟨p,rfl⟩:∃p,q=p+1:=⟨q - 1,by omega⟩
 have:=hi.1
 rw [Nat.add_mul,Nat.one_mul] at this
 simp only [Nat.add_sub_cancel]
 omega
theorem fin (h:ld B W V a b c v1 v2 P rw rv) {q r:Nat} (hi:Inv B W V a b v1 q r) (hq:q<B) (hg:q* v2≤r* B+c):q≤W / V+1:=by
 have h1:q* (v1* B+v2)≤(a* B+b)* B+c:=by
  have h4:=congrArg (· * B) hi.1
  simp only [Nat.add_mul] at h4
  rw [Nat.mul_add,Nat.add_mul (a* B)]
  have h3:q* (v1* B)=q* v1* B:=by rw [Nat.mul_assoc]
  omega
 have h2:q* ((v1* B+v2)* P)≤W:=by
  have:=Nat.mul_le_mul_right P h1
  rw [Nat.mul_assoc] at this
  have:=h.w;omega
 have h3:q* rv<B* P:=by
  have h5:q* rv≤q* P:=Nat.mul_le_mul_left _ (by have:=h.hv;omega)
  have h6:q* P<B* P:=Nat.mul_lt_mul_of_pos_right hq h.Td
  omega
 have h4:B* P≤V:=by
  have h5:B* P≤v1* B* P:=by
   rw [Nat.mul_assoc];exact Nat.le_mul_of_pos_left _ h.Es
  have e2:(v1* B+v2)* P=v1* B* P+v2* P:=Nat.add_mul _ _ _
  have:=h.v;omega
 have h5:q* V<W+V:=by
  have:q* V=q* ((v1* B+v2)* P)+q* rv:=by rw [←Nat.mul_add,←h.v]
  omega
 rcases Nat.eq_zero_or_pos q with h0|h0
 · rw [h0];exact Nat.zero_le _
 · obtain ⟨p,rfl⟩:∃p,q=p+1:=⟨q - 1,by omega⟩
   rw [Nat.add_mul,Nat.one_mul] at h5
   have:p* V≤W:=by omega
   have:=(Nat.le_div_iff_mul_le h.xz).2 this
   omega
theorem Mq (h:ld B W V a b c v1 v2 P rw rv) {q r:Nat} (hi:Inv B W V a b v1 q r) (hr:B≤r):q<B∧q≤W / V+1:=by
 have hq:q<B:=by
  rcases Nat.lt_or_ge q B with h1|h1
  · exact h1
  · have h2:B* v1≤q* v1:=Nat.mul_le_mul_right _ h1
    have h3:a* B≤v1* B:=Nat.mul_le_mul_right _ h.Q6
    have:=hi.1;have:=h.hb
    rw [Nat.mul_comm v1 B] at h3
    omega
 refine ⟨hq,h.fin hi hq ?_⟩
 have h1:q* v2≤B* B:=Nat.mul_le_mul (by omega) (by have:=h.h2;omega)
 have h2:B* B≤r* B:=Nat.mul_le_mul_right _ hr
 omega
end ld
end Go.Proofs.YtibbgjafjhcemaaDoor.Cul
namespace Go.Proofs.YtibbgjafjhcemaaDoor.Cul
open Go Go.RowKit
noncomputable def t9:Cl:=bI [(111,qN),(112,r4)]
theorem Ux (k n o v1 v2 q r c:Nat) (es cs:List PV):aA MD t9 k 109 0 ⟨[(0, .bs 1000000 o 1 (n+1)),(1, .pv (.sl 1 n cs)),(5, .pv (iv n)),(7, .pv (bC q)),(8, .pv (bC r))],[(1000000,es)],[],[]⟩ [.c true, .i 70 (q - 1:Nat), .i 74 (n - 1:Nat), .a 75 [ak v1], .i 77 v1, .i 78 (r+v1:Nat), .c false]=
 some ((Xt.normal,St.mk [(0,AV.bs 1000000 o 1 (n+(1:Nat))),(1,AV.pv (PV.sl 1 n cs)),(5,AV.pv (PV.lit (Value.int IntKind.i64 (↑n:Int)))),(7,AV.pv (PV.lit (Value.int IntKind.u64 (↑(q - (1:Nat)):Int)))),(8,AV.pv (PV.lit (Value.int IntKind.u64 (↑(r+v1):Int)))),(80,AV.pv (PV.lit (Value.bool false)))] [(1000000,es)] [] []),[],[decide ((↑q:Int)≥(4294967296:Int))=true,IntKind.u64.wrap ((↑q:Int) - (1:Int))=(↑(q - (1:Nat)):Int),IntKind.i64.wrap ((↑n:Int) - (1:Int))=(↑(n - (1:Nat)):Int),aL cs 1 (↑(n - (1:Nat)):Int) n [PV.lit (Value.int IntKind.u32 (↑v1:Int))],IntKind.u64.wrap (↑v1:Int)=(↑v1:Int),IntKind.u64.wrap ((↑r:Int)+(↑v1:Int))=(↑(r+v1):Int),decide ((↑(r+v1):Int)≥(4294967296:Int))=false]):=by kernel_rfl
theorem UC (k n o v1 v2 q r c:Nat) (es cs:List PV):aA MD t9 k 109 0 ⟨[(0, .bs 1000000 o 1 (n+1)),(1, .pv (.sl 1 n cs)),(5, .pv (iv n)),(7, .pv (bC q)),(8, .pv (bC r)),(80, .pv (bv false))],[(1000000,es)],[],[]⟩ [.c true, .i 70 (q - 1:Nat), .i 74 (n - 1:Nat), .a 75 [ak v1], .i 77 v1, .i 78 (r+v1:Nat), .c false]=
 some ((Xt.normal,St.mk [(0,AV.bs 1000000 o 1 (n+(1:Nat))),(1,AV.pv (PV.sl 1 n cs)),(5,AV.pv (PV.lit (Value.int IntKind.i64 (↑n:Int)))),(7,AV.pv (PV.lit (Value.int IntKind.u64 (↑(q - (1:Nat)):Int)))),(8,AV.pv (PV.lit (Value.int IntKind.u64 (↑(r+v1):Int)))),(80,AV.pv (PV.lit (Value.bool false)))] [(1000000,es)] [] []),[],[decide ((↑q:Int)≥(4294967296:Int))=true,IntKind.u64.wrap ((↑q:Int) - (1:Int))=(↑(q - (1:Nat)):Int),IntKind.i64.wrap ((↑n:Int) - (1:Int))=(↑(n - (1:Nat)):Int),aL cs 1 (↑(n - (1:Nat)):Int) n [PV.lit (Value.int IntKind.u32 (↑v1:Int))],IntKind.u64.wrap (↑v1:Int)=(↑v1:Int),IntKind.u64.wrap ((↑r:Int)+(↑v1:Int))=(↑(r+v1):Int),decide ((↑(r+v1):Int)≥(4294967296:Int))=false]):=by kernel_rfl
theorem Uy (k n o v1 v2 q r c:Nat) (es cs:List PV):aA MD t9 k 109 0 ⟨[(0, .bs 1000000 o 1 (n+1)),(1, .pv (.sl 1 n cs)),(5, .pv (iv n)),(7, .pv (bC q)),(8, .pv (bC r))],[(1000000,es)],[],[]⟩ [.c true, .i 70 (q - 1:Nat), .i 74 (n - 1:Nat), .a 75 [ak v1], .i 77 v1, .i 78 (r+v1:Nat), .c true]=
 some ((Xt.exit 0,St.mk [(0,AV.bs 1000000 o 1 (n+(1:Nat))),(1,AV.pv (PV.sl 1 n cs)),(5,AV.pv (PV.lit (Value.int IntKind.i64 (↑n:Int)))),(7,AV.pv (PV.lit (Value.int IntKind.u64 (↑(q - (1:Nat)):Int)))),(8,AV.pv (PV.lit (Value.int IntKind.u64 (↑(r+v1):Int)))),(80,AV.pv (PV.lit (Value.bool true)))] [(1000000,es)] [] []),[],[decide ((↑q:Int)≥(4294967296:Int))=true,IntKind.u64.wrap ((↑q:Int) - (1:Int))=(↑(q - (1:Nat)):Int),IntKind.i64.wrap ((↑n:Int) - (1:Int))=(↑(n - (1:Nat)):Int),aL cs 1 (↑(n - (1:Nat)):Int) n [PV.lit (Value.int IntKind.u32 (↑v1:Int))],IntKind.u64.wrap (↑v1:Int)=(↑v1:Int),IntKind.u64.wrap ((↑r:Int)+(↑v1:Int))=(↑(r+v1):Int),decide ((↑(r+v1):Int)≥(4294967296:Int))=true]):=by kernel_rfl
theorem UD (k n o v1 v2 q r c:Nat) (es cs:List PV):aA MD t9 k 109 0 ⟨[(0, .bs 1000000 o 1 (n+1)),(1, .pv (.sl 1 n cs)),(5, .pv (iv n)),(7, .pv (bC q)),(8, .pv (bC r)),(80, .pv (bv false))],[(1000000,es)],[],[]⟩ [.c true, .i 70 (q - 1:Nat), .i 74 (n - 1:Nat), .a 75 [ak v1], .i 77 v1, .i 78 (r+v1:Nat), .c true]=
 some ((Xt.exit 0,St.mk [(0,AV.bs 1000000 o 1 (n+(1:Nat))),(1,AV.pv (PV.sl 1 n cs)),(5,AV.pv (PV.lit (Value.int IntKind.i64 (↑n:Int)))),(7,AV.pv (PV.lit (Value.int IntKind.u64 (↑(q - (1:Nat)):Int)))),(8,AV.pv (PV.lit (Value.int IntKind.u64 (↑(r+v1):Int)))),(80,AV.pv (PV.lit (Value.bool true)))] [(1000000,es)] [] []),[],[decide ((↑q:Int)≥(4294967296:Int))=true,IntKind.u64.wrap ((↑q:Int) - (1:Int))=(↑(q - (1:Nat)):Int),IntKind.i64.wrap ((↑n:Int) - (1:Int))=(↑(n - (1:Nat)):Int),aL cs 1 (↑(n - (1:Nat)):Int) n [PV.lit (Value.int IntKind.u32 (↑v1:Int))],IntKind.u64.wrap (↑v1:Int)=(↑v1:Int),IntKind.u64.wrap ((↑r:Int)+(↑v1:Int))=(↑(r+v1):Int),decide ((↑(r+v1):Int)≥(4294967296:Int))=true]):=by kernel_rfl
theorem Uz (k n o v1 v2 q r c:Nat) (es cs:List PV):aA MD t9 k 109 0 ⟨[(0, .bs 1000000 o 1 (n+1)),(1, .pv (.sl 1 n cs)),(5, .pv (iv n)),(7, .pv (bC q)),(8, .pv (bC r))],[(1000000,es)],[],[]⟩ [.c false, .i 53 (n - 2:Nat), .a 54 [ak v2], .i 56 v2, .i 57 (q* v2:Nat), .i 59 (2^32* r:Nat), .i 62 (n - 2:Nat), .j 63 (n - 2), .e 64 (ak c), .i 65 c, .i 66 (2^32* r+c:Nat), .c true, .i 70 (q - 1:Nat), .i 74 (n - 1:Nat), .a 75 [ak v1], .i 77 v1, .i 78 (r+v1:Nat), .c false]=
 some ((Xt.normal,St.mk [(0,AV.bs 1000000 o 1 (n+(1:Nat))),(1,AV.pv (PV.sl 1 n cs)),(5,AV.pv (PV.lit (Value.int IntKind.i64 (↑n:Int)))),(7,AV.pv (PV.lit (Value.int IntKind.u64 (↑(q - (1:Nat)):Int)))),(8,AV.pv (PV.lit (Value.int IntKind.u64 (↑(r+v1):Int)))),(80,AV.pv (PV.lit (Value.bool false)))] [(1000000,es)] [] []),[],[decide ((↑q:Int)≥(4294967296:Int))=false,IntKind.i64.wrap ((↑n:Int) - (2:Int))=(↑(n - (2:Nat)):Int),aL cs 1 (↑(n - (2:Nat)):Int) n [PV.lit (Value.int IntKind.u32 (↑v2:Int))],IntKind.u64.wrap (↑v2:Int)=(↑v2:Int),IntKind.u64.wrap ((↑q:Int)* (↑v2:Int))=(↑(q* v2):Int),IntKind.u64.wrap ((↑r:Int)* (2:Int)^min (Int.toNat (32:Int)) IntKind.u64.bits)=(↑((2:Nat)^(32:Nat)* r):Int),false=false,IntKind.i64.wrap ((↑n:Int) - (2:Int))=(↑(n - (2:Nat)):Int),aK (↑(n - (2:Nat)):Int) (n+(1:Nat)) (n - (2:Nat)),Ld MD.P 111 es (o+(n - (2:Nat))* (1:Nat)) (PV.lit (Value.int IntKind.u32 (↑c:Int))),IntKind.u64.wrap (↑c:Int)=(↑c:Int),IntKind.u64.wrap (↑(BitVec.ofInt IntKind.u64.bits (↑((2:Nat)^(32:Nat)* r):Int)|||BitVec.ofInt IntKind.u64.bits (↑c:Int)).toNat:Int)=(↑((2:Nat)^(32:Nat)* r+c):Int),decide ((↑(q* v2):Int)>(↑((2:Nat)^(32:Nat)* r+c):Int))=true,IntKind.u64.wrap ((↑q:Int) - (1:Int))=(↑(q - (1:Nat)):Int),IntKind.i64.wrap ((↑n:Int) - (1:Int))=(↑(n - (1:Nat)):Int),aL cs 1 (↑(n - (1:Nat)):Int) n [PV.lit (Value.int IntKind.u32 (↑v1:Int))],IntKind.u64.wrap (↑v1:Int)=(↑v1:Int),IntKind.u64.wrap ((↑r:Int)+(↑v1:Int))=(↑(r+v1):Int),decide ((↑(r+v1):Int)≥(4294967296:Int))=false]):=by kernel_rfl
theorem UE (k n o v1 v2 q r c:Nat) (es cs:List PV):aA MD t9 k 109 0 ⟨[(0, .bs 1000000 o 1 (n+1)),(1, .pv (.sl 1 n cs)),(5, .pv (iv n)),(7, .pv (bC q)),(8, .pv (bC r)),(80, .pv (bv false))],[(1000000,es)],[],[]⟩ [.c false, .i 53 (n - 2:Nat), .a 54 [ak v2], .i 56 v2, .i 57 (q* v2:Nat), .i 59 (2^32* r:Nat), .i 62 (n - 2:Nat), .j 63 (n - 2), .e 64 (ak c), .i 65 c, .i 66 (2^32* r+c:Nat), .c true, .i 70 (q - 1:Nat), .i 74 (n - 1:Nat), .a 75 [ak v1], .i 77 v1, .i 78 (r+v1:Nat), .c false]=
 some ((Xt.normal,St.mk [(0,AV.bs 1000000 o 1 (n+(1:Nat))),(1,AV.pv (PV.sl 1 n cs)),(5,AV.pv (PV.lit (Value.int IntKind.i64 (↑n:Int)))),(7,AV.pv (PV.lit (Value.int IntKind.u64 (↑(q - (1:Nat)):Int)))),(8,AV.pv (PV.lit (Value.int IntKind.u64 (↑(r+v1):Int)))),(80,AV.pv (PV.lit (Value.bool false)))] [(1000000,es)] [] []),[],[decide ((↑q:Int)≥(4294967296:Int))=false,IntKind.i64.wrap ((↑n:Int) - (2:Int))=(↑(n - (2:Nat)):Int),aL cs 1 (↑(n - (2:Nat)):Int) n [PV.lit (Value.int IntKind.u32 (↑v2:Int))],IntKind.u64.wrap (↑v2:Int)=(↑v2:Int),IntKind.u64.wrap ((↑q:Int)* (↑v2:Int))=(↑(q* v2):Int),IntKind.u64.wrap ((↑r:Int)* (2:Int)^min (Int.toNat (32:Int)) IntKind.u64.bits)=(↑((2:Nat)^(32:Nat)* r):Int),false=false,IntKind.i64.wrap ((↑n:Int) - (2:Int))=(↑(n - (2:Nat)):Int),aK (↑(n - (2:Nat)):Int) (n+(1:Nat)) (n - (2:Nat)),Ld MD.P 111 es (o+(n - (2:Nat))* (1:Nat)) (PV.lit (Value.int IntKind.u32 (↑c:Int))),IntKind.u64.wrap (↑c:Int)=(↑c:Int),IntKind.u64.wrap (↑(BitVec.ofInt IntKind.u64.bits (↑((2:Nat)^(32:Nat)* r):Int)|||BitVec.ofInt IntKind.u64.bits (↑c:Int)).toNat:Int)=(↑((2:Nat)^(32:Nat)* r+c):Int),decide ((↑(q* v2):Int)>(↑((2:Nat)^(32:Nat)* r+c):Int))=true,IntKind.u64.wrap ((↑q:Int) - (1:Int))=(↑(q - (1:Nat)):Int),IntKind.i64.wrap ((↑n:Int) - (1:Int))=(↑(n - (1:Nat)):Int),aL cs 1 (↑(n - (1:Nat)):Int) n [PV.lit (Value.int IntKind.u32 (↑v1:Int))],IntKind.u64.wrap (↑v1:Int)=(↑v1:Int),IntKind.u64.wrap ((↑r:Int)+(↑v1:Int))=(↑(r+v1):Int),decide ((↑(r+v1):Int)≥(4294967296:Int))=false]):=by kernel_rfl
theorem UA (k n o v1 v2 q r c:Nat) (es cs:List PV):aA MD t9 k 109 0 ⟨[(0, .bs 1000000 o 1 (n+1)),(1, .pv (.sl 1 n cs)),(5, .pv (iv n)),(7, .pv (bC q)),(8, .pv (bC r))],[(1000000,es)],[],[]⟩ [.c false, .i 53 (n - 2:Nat), .a 54 [ak v2], .i 56 v2, .i 57 (q* v2:Nat), .i 59 (2^32* r:Nat), .i 62 (n - 2:Nat), .j 63 (n - 2), .e 64 (ak c), .i 65 c, .i 66 (2^32* r+c:Nat), .c true, .i 70 (q - 1:Nat), .i 74 (n - 1:Nat), .a 75 [ak v1], .i 77 v1, .i 78 (r+v1:Nat), .c true]=
 some ((Xt.exit 0,St.mk [(0,AV.bs 1000000 o 1 (n+(1:Nat))),(1,AV.pv (PV.sl 1 n cs)),(5,AV.pv (PV.lit (Value.int IntKind.i64 (↑n:Int)))),(7,AV.pv (PV.lit (Value.int IntKind.u64 (↑(q - (1:Nat)):Int)))),(8,AV.pv (PV.lit (Value.int IntKind.u64 (↑(r+v1):Int)))),(80,AV.pv (PV.lit (Value.bool true)))] [(1000000,es)] [] []),[],[decide ((↑q:Int)≥(4294967296:Int))=false,IntKind.i64.wrap ((↑n:Int) - (2:Int))=(↑(n - (2:Nat)):Int),aL cs 1 (↑(n - (2:Nat)):Int) n [PV.lit (Value.int IntKind.u32 (↑v2:Int))],IntKind.u64.wrap (↑v2:Int)=(↑v2:Int),IntKind.u64.wrap ((↑q:Int)* (↑v2:Int))=(↑(q* v2):Int),IntKind.u64.wrap ((↑r:Int)* (2:Int)^min (Int.toNat (32:Int)) IntKind.u64.bits)=(↑((2:Nat)^(32:Nat)* r):Int),false=false,IntKind.i64.wrap ((↑n:Int) - (2:Int))=(↑(n - (2:Nat)):Int),aK (↑(n - (2:Nat)):Int) (n+(1:Nat)) (n - (2:Nat)),Ld MD.P 111 es (o+(n - (2:Nat))* (1:Nat)) (PV.lit (Value.int IntKind.u32 (↑c:Int))),IntKind.u64.wrap (↑c:Int)=(↑c:Int),IntKind.u64.wrap (↑(BitVec.ofInt IntKind.u64.bits (↑((2:Nat)^(32:Nat)* r):Int)|||BitVec.ofInt IntKind.u64.bits (↑c:Int)).toNat:Int)=(↑((2:Nat)^(32:Nat)* r+c):Int),decide ((↑(q* v2):Int)>(↑((2:Nat)^(32:Nat)* r+c):Int))=true,IntKind.u64.wrap ((↑q:Int) - (1:Int))=(↑(q - (1:Nat)):Int),IntKind.i64.wrap ((↑n:Int) - (1:Int))=(↑(n - (1:Nat)):Int),aL cs 1 (↑(n - (1:Nat)):Int) n [PV.lit (Value.int IntKind.u32 (↑v1:Int))],IntKind.u64.wrap (↑v1:Int)=(↑v1:Int),IntKind.u64.wrap ((↑r:Int)+(↑v1:Int))=(↑(r+v1):Int),decide ((↑(r+v1):Int)≥(4294967296:Int))=true]):=by kernel_rfl
theorem UF (k n o v1 v2 q r c:Nat) (es cs:List PV):aA MD t9 k 109 0 ⟨[(0, .bs 1000000 o 1 (n+1)),(1, .pv (.sl 1 n cs)),(5, .pv (iv n)),(7, .pv (bC q)),(8, .pv (bC r)),(80, .pv (bv false))],[(1000000,es)],[],[]⟩ [.c false, .i 53 (n - 2:Nat), .a 54 [ak v2], .i 56 v2, .i 57 (q* v2:Nat), .i 59 (2^32* r:Nat), .i 62 (n - 2:Nat), .j 63 (n - 2), .e 64 (ak c), .i 65 c, .i 66 (2^32* r+c:Nat), .c true, .i 70 (q - 1:Nat), .i 74 (n - 1:Nat), .a 75 [ak v1], .i 77 v1, .i 78 (r+v1:Nat), .c true]=
 some ((Xt.exit 0,St.mk [(0,AV.bs 1000000 o 1 (n+(1:Nat))),(1,AV.pv (PV.sl 1 n cs)),(5,AV.pv (PV.lit (Value.int IntKind.i64 (↑n:Int)))),(7,AV.pv (PV.lit (Value.int IntKind.u64 (↑(q - (1:Nat)):Int)))),(8,AV.pv (PV.lit (Value.int IntKind.u64 (↑(r+v1):Int)))),(80,AV.pv (PV.lit (Value.bool true)))] [(1000000,es)] [] []),[],[decide ((↑q:Int)≥(4294967296:Int))=false,IntKind.i64.wrap ((↑n:Int) - (2:Int))=(↑(n - (2:Nat)):Int),aL cs 1 (↑(n - (2:Nat)):Int) n [PV.lit (Value.int IntKind.u32 (↑v2:Int))],IntKind.u64.wrap (↑v2:Int)=(↑v2:Int),IntKind.u64.wrap ((↑q:Int)* (↑v2:Int))=(↑(q* v2):Int),IntKind.u64.wrap ((↑r:Int)* (2:Int)^min (Int.toNat (32:Int)) IntKind.u64.bits)=(↑((2:Nat)^(32:Nat)* r):Int),false=false,IntKind.i64.wrap ((↑n:Int) - (2:Int))=(↑(n - (2:Nat)):Int),aK (↑(n - (2:Nat)):Int) (n+(1:Nat)) (n - (2:Nat)),Ld MD.P 111 es (o+(n - (2:Nat))* (1:Nat)) (PV.lit (Value.int IntKind.u32 (↑c:Int))),IntKind.u64.wrap (↑c:Int)=(↑c:Int),IntKind.u64.wrap (↑(BitVec.ofInt IntKind.u64.bits (↑((2:Nat)^(32:Nat)* r):Int)|||BitVec.ofInt IntKind.u64.bits (↑c:Int)).toNat:Int)=(↑((2:Nat)^(32:Nat)* r+c):Int),decide ((↑(q* v2):Int)>(↑((2:Nat)^(32:Nat)* r+c):Int))=true,IntKind.u64.wrap ((↑q:Int) - (1:Int))=(↑(q - (1:Nat)):Int),IntKind.i64.wrap ((↑n:Int) - (1:Int))=(↑(n - (1:Nat)):Int),aL cs 1 (↑(n - (1:Nat)):Int) n [PV.lit (Value.int IntKind.u32 (↑v1:Int))],IntKind.u64.wrap (↑v1:Int)=(↑v1:Int),IntKind.u64.wrap ((↑r:Int)+(↑v1:Int))=(↑(r+v1):Int),decide ((↑(r+v1):Int)≥(4294967296:Int))=true]):=by kernel_rfl
theorem UB (k n o v1 v2 q r c:Nat) (es cs:List PV):aA MD t9 k 109 0 ⟨[(0, .bs 1000000 o 1 (n+1)),(1, .pv (.sl 1 n cs)),(5, .pv (iv n)),(7, .pv (bC q)),(8, .pv (bC r))],[(1000000,es)],[],[]⟩ [.c false, .i 53 (n - 2:Nat), .a 54 [ak v2], .i 56 v2, .i 57 (q* v2:Nat), .i 59 (2^32* r:Nat), .i 62 (n - 2:Nat), .j 63 (n - 2), .e 64 (ak c), .i 65 c, .i 66 (2^32* r+c:Nat), .c false]=
 some ((Xt.exit 0,St.mk [(0,AV.bs 1000000 o 1 (n+(1:Nat))),(1,AV.pv (PV.sl 1 n cs)),(5,AV.pv (PV.lit (Value.int IntKind.i64 (↑n:Int)))),(7,AV.pv (PV.lit (Value.int IntKind.u64 (↑q:Int)))),(8,AV.pv (PV.lit (Value.int IntKind.u64 (↑r:Int)))),(68,AV.pv (PV.lit (Value.bool false)))] [(1000000,es)] [] []),[],[decide ((↑q:Int)≥(4294967296:Int))=false,IntKind.i64.wrap ((↑n:Int) - (2:Int))=(↑(n - (2:Nat)):Int),aL cs 1 (↑(n - (2:Nat)):Int) n [PV.lit (Value.int IntKind.u32 (↑v2:Int))],IntKind.u64.wrap (↑v2:Int)=(↑v2:Int),IntKind.u64.wrap ((↑q:Int)* (↑v2:Int))=(↑(q* v2):Int),IntKind.u64.wrap ((↑r:Int)* (2:Int)^min (Int.toNat (32:Int)) IntKind.u64.bits)=(↑((2:Nat)^(32:Nat)* r):Int),false=false,IntKind.i64.wrap ((↑n:Int) - (2:Int))=(↑(n - (2:Nat)):Int),aK (↑(n - (2:Nat)):Int) (n+(1:Nat)) (n - (2:Nat)),Ld MD.P 111 es (o+(n - (2:Nat))* (1:Nat)) (PV.lit (Value.int IntKind.u32 (↑c:Int))),IntKind.u64.wrap (↑c:Int)=(↑c:Int),IntKind.u64.wrap (↑(BitVec.ofInt IntKind.u64.bits (↑((2:Nat)^(32:Nat)* r):Int)|||BitVec.ofInt IntKind.u64.bits (↑c:Int)).toNat:Int)=(↑((2:Nat)^(32:Nat)* r+c):Int),decide ((↑(q* v2):Int)>(↑((2:Nat)^(32:Nat)* r+c):Int))=false]):=by kernel_rfl
theorem UG (k n o v1 v2 q r c:Nat) (es cs:List PV):aA MD t9 k 109 0 ⟨[(0, .bs 1000000 o 1 (n+1)),(1, .pv (.sl 1 n cs)),(5, .pv (iv n)),(7, .pv (bC q)),(8, .pv (bC r)),(80, .pv (bv false))],[(1000000,es)],[],[]⟩ [.c false, .i 53 (n - 2:Nat), .a 54 [ak v2], .i 56 v2, .i 57 (q* v2:Nat), .i 59 (2^32* r:Nat), .i 62 (n - 2:Nat), .j 63 (n - 2), .e 64 (ak c), .i 65 c, .i 66 (2^32* r+c:Nat), .c false]=
 some ((Xt.exit 0,St.mk [(0,AV.bs 1000000 o 1 (n+(1:Nat))),(1,AV.pv (PV.sl 1 n cs)),(5,AV.pv (PV.lit (Value.int IntKind.i64 (↑n:Int)))),(7,AV.pv (PV.lit (Value.int IntKind.u64 (↑q:Int)))),(8,AV.pv (PV.lit (Value.int IntKind.u64 (↑r:Int)))),(68,AV.pv (PV.lit (Value.bool false)))] [(1000000,es)] [] []),[],[decide ((↑q:Int)≥(4294967296:Int))=false,IntKind.i64.wrap ((↑n:Int) - (2:Int))=(↑(n - (2:Nat)):Int),aL cs 1 (↑(n - (2:Nat)):Int) n [PV.lit (Value.int IntKind.u32 (↑v2:Int))],IntKind.u64.wrap (↑v2:Int)=(↑v2:Int),IntKind.u64.wrap ((↑q:Int)* (↑v2:Int))=(↑(q* v2):Int),IntKind.u64.wrap ((↑r:Int)* (2:Int)^min (Int.toNat (32:Int)) IntKind.u64.bits)=(↑((2:Nat)^(32:Nat)* r):Int),false=false,IntKind.i64.wrap ((↑n:Int) - (2:Int))=(↑(n - (2:Nat)):Int),aK (↑(n - (2:Nat)):Int) (n+(1:Nat)) (n - (2:Nat)),Ld MD.P 111 es (o+(n - (2:Nat))* (1:Nat)) (PV.lit (Value.int IntKind.u32 (↑c:Int))),IntKind.u64.wrap (↑c:Int)=(↑c:Int),IntKind.u64.wrap (↑(BitVec.ofInt IntKind.u64.bits (↑((2:Nat)^(32:Nat)* r):Int)|||BitVec.ofInt IntKind.u64.bits (↑c:Int)).toNat:Int)=(↑((2:Nat)^(32:Nat)* r+c):Int),decide ((↑(q* v2):Int)>(↑((2:Nat)^(32:Nat)* r+c):Int))=false]):=by kernel_rfl
theorem UR (k n o q c bw i:Nat) (es cs:List PV):aA MD t9 k 109 1 ⟨[(0, .bs 1000000 o 1 (n+1)),(1, .pv (.sl 1 n cs)),(5, .pv (iv n)),(7, .pv (bC q)),(9, .pv (bC c)),(10, .pv (ak bw)),(81, .pv (.sl 1 n cs)),(82, .pv (iv n)),(83, .pv (iv i))],[(1000000,es)],[],[]⟩ [.c false]=
 some ((Xt.exit 2,St.mk [(0,AV.bs 1000000 o 1 (n+(1:Nat))),(1,AV.pv (PV.sl 1 n cs)),(5,AV.pv (PV.lit (Value.int IntKind.i64 (↑n:Int)))),(7,AV.pv (PV.lit (Value.int IntKind.u64 (↑q:Int)))),(9,AV.pv (PV.lit (Value.int IntKind.u64 (↑c:Int)))),(10,AV.pv (PV.lit (Value.int IntKind.u32 (↑bw:Int)))),(81,AV.pv (PV.sl 1 n cs)),(82,AV.pv (PV.lit (Value.int IntKind.i64 (↑n:Int)))),(83,AV.pv (PV.lit (Value.int IntKind.i64 (↑i:Int)))),(84,AV.pv (PV.lit (Value.bool false)))] [(1000000,es)] [] []),[],[decide ((↑i:Int)<(↑n:Int))=false]):=by kernel_rfl
theorem uS (k n o q c bw i x a c1 s b2:Nat) (es es' cs:List PV):aA MD t9 k 109 1 ⟨[(0, .bs 1000000 o 1 (n+1)),(1, .pv (.sl 1 n cs)),(5, .pv (iv n)),(7, .pv (bC q)),(9, .pv (bC c)),(10, .pv (ak bw)),(81, .pv (.sl 1 n cs)),(82, .pv (iv n)),(83, .pv (iv i))],[(1000000,es)],[],[]⟩ [.c true, .a 86 [ak x], .i 91 x, .i 92 (q* x:Nat), .i 93 c1, .j 99 i, .e 100 (ak a), .i 102 (c1%4294967296:Nat), .r (one (dD s b2)), .j 107 i, .s es', .i 109 (c1 / 4294967296:Nat), .i 110 (i+1:Nat)]=
 some ((Xt.normal,St.mk [(0,AV.bs 1000000 o 1 (n+(1:Nat))),(1,AV.pv (PV.sl 1 n cs)),(5,AV.pv (PV.lit (Value.int IntKind.i64 (↑n:Int)))),(7,AV.pv (PV.lit (Value.int IntKind.u64 (↑q:Int)))),(9,AV.pv (PV.lit (Value.int IntKind.u64 (↑(c1 / (4294967296:Nat)):Int)))),(10,AV.pv (PV.lit (Value.int IntKind.u32 (↑b2:Int)))),(81,AV.pv (PV.sl 1 n cs)),(82,AV.pv (PV.lit (Value.int IntKind.i64 (↑n:Int)))),(83,AV.pv (PV.lit (Value.int IntKind.i64 (↑(i+(1:Nat)):Int))))] [(1000000,es')] [] []),[],[decide ((↑i:Int)<(↑n:Int))=true,aL cs 1 (↑i:Int) n [PV.lit (Value.int IntKind.u32 (↑x:Int))],IntKind.u64.wrap (↑x:Int)=(↑x:Int),IntKind.u64.wrap ((↑q:Int)* (↑x:Int))=(↑(q* x):Int),IntKind.u64.wrap ((↑c:Int)+(↑(q* x):Int))=(↑c1:Int),aK (↑i:Int) (n+(1:Nat)) i,Ld MD.P 111 es (o+i* (1:Nat)) (PV.lit (Value.int IntKind.u32 (↑a:Int))),IntKind.u32.wrap (↑c1:Int)=(↑(c1%(4294967296:Nat)):Int),aa t9 112 [PV.lit (Value.int IntKind.u32 (↑a:Int)),PV.lit (Value.int IntKind.u32 (↑(c1%(4294967296:Nat)):Int)),PV.lit (Value.int IntKind.u32 (↑bw:Int))] (RV.mk (PV.aG [PV.lit (Value.int IntKind.u32 (↑s:Int)),PV.lit (Value.int IntKind.u32 (↑b2:Int))]) none),aK (↑i:Int) (n+(1:Nat)) i,o+i* (1:Nat)+(ak s).cells.length≤es.length,cg es (o+i* (1:Nat)) [PV.lit (Value.int IntKind.u32 (↑s:Int))] es',(↑c1:Int).fdiv ((2:Int)^min (Int.toNat (32:Int)) IntKind.u64.bits)=(↑(c1 / (4294967296:Nat)):Int),false=false,IntKind.i64.wrap ((↑i:Int)+(1:Int))=(↑(i+(1:Nat)):Int)]):=by kernel_rfl
theorem US (k n o q c i:Nat) (es cs:List PV):aA MD t9 k 109 2 ⟨[(0, .bs 1000000 o 1 (n+1)),(5, .pv (iv n)),(7, .pv (bC q)),(13, .pv (ak c)),(129, .pv (.sl 1 n cs)),(130, .pv (iv n)),(131, .pv (iv i))],[(1000000,es)],[],[]⟩ [.c false]=
 some ((Xt.exit 4,St.mk [(0,AV.bs 1000000 o 1 (n+(1:Nat))),(5,AV.pv (PV.lit (Value.int IntKind.i64 (↑n:Int)))),(7,AV.pv (PV.lit (Value.int IntKind.u64 (↑q:Int)))),(13,AV.pv (PV.lit (Value.int IntKind.u32 (↑c:Int)))),(129,AV.pv (PV.sl 1 n cs)),(130,AV.pv (PV.lit (Value.int IntKind.i64 (↑n:Int)))),(131,AV.pv (PV.lit (Value.int IntKind.i64 (↑i:Int)))),(132,AV.pv (PV.lit (Value.bool false)))] [(1000000,es)] [] []),[],[decide ((↑i:Int)<(↑n:Int))=false]):=by kernel_rfl
theorem UT (k n o q c i x a s b2:Nat) (es es' cs:List PV):aA MD t9 k 109 2 ⟨[(0, .bs 1000000 o 1 (n+1)),(5, .pv (iv n)),(7, .pv (bC q)),(13, .pv (ak c)),(129, .pv (.sl 1 n cs)),(130, .pv (iv n)),(131, .pv (iv i))],[(1000000,es)],[],[]⟩ [.c true, .a 134 [ak x], .j 141 i, .e 142 (ak a), .r (one (dD s b2)), .j 148 i, .s es', .i 149 (i+1:Nat)]=
 some ((Xt.normal,St.mk [(0,AV.bs 1000000 o 1 (n+(1:Nat))),(5,AV.pv (PV.lit (Value.int IntKind.i64 (↑n:Int)))),(7,AV.pv (PV.lit (Value.int IntKind.u64 (↑q:Int)))),(13,AV.pv (PV.lit (Value.int IntKind.u32 (↑b2:Int)))),(129,AV.pv (PV.sl 1 n cs)),(130,AV.pv (PV.lit (Value.int IntKind.i64 (↑n:Int)))),(131,AV.pv (PV.lit (Value.int IntKind.i64 (↑(i+(1:Nat)):Int))))] [(1000000,es')] [] []),[],[decide ((↑i:Int)<(↑n:Int))=true,aL cs 1 (↑i:Int) n [PV.lit (Value.int IntKind.u32 (↑x:Int))],aK (↑i:Int) (n+(1:Nat)) i,Ld MD.P 111 es (o+i* (1:Nat)) (PV.lit (Value.int IntKind.u32 (↑a:Int))),aa t9 111 [PV.lit (Value.int IntKind.u32 (↑a:Int)),PV.lit (Value.int IntKind.u32 (↑x:Int)),PV.lit (Value.int IntKind.u32 (↑c:Int))] (RV.mk (PV.aG [PV.lit (Value.int IntKind.u32 (↑s:Int)),PV.lit (Value.int IntKind.u32 (↑b2:Int))]) none),aK (↑i:Int) (n+(1:Nat)) i,o+i* (1:Nat)+(ak s).cells.length≤es.length,cg es (o+i* (1:Nat)) [PV.lit (Value.int IntKind.u32 (↑s:Int))] es',IntKind.i64.wrap ((↑i:Int)+(1:Int))=(↑(i+(1:Nat)):Int)]):=by kernel_rfl
theorem UH (k n o a b top v1 q r q2 r2 x c bw s:Nat) (es fE g7 cs:List PV):mq MD t9 k 109 [.g es o 1 (n+1), .p (.sl 1 n cs)] [.j 20 n, .e 21 (ak a), .i 22 a, .i 23 (2^32* a:Nat), .i 26 (n - 1:Nat), .j 27 (n - 1), .e 28 (ak b), .i 29 b, .i 30 top, .i 34 (n - 1:Nat), .a 35 [ak v1], .i 37 v1, .i 38 q, .i 42 (n - 1:Nat), .a 43 [ak v1], .i 45 v1, .i 46 r, .l (.exit 0) ⟨[(0, .bs 1000000 o 1 (n+1)),(1, .pv (.sl 1 n cs)),(5, .pv (iv n)),(7, .pv (bC q2)),(8, .pv (bC r2)),(68, .pv (bv false))],[(1000000,es)],[],[]⟩, .l (.exit 2) ⟨[(0, .bs 1000000 o 1 (n+1)),(1, .pv (.sl 1 n cs)),(5, .pv (iv n)),(7, .pv (bC q2)),(9, .pv (bC c)),(10, .pv (ak bw)),(81, .pv (.sl 1 n cs)),(82, .pv (iv n)),(83, .pv (iv n)),(84, .pv (bv false))],[(1000000,fE)],[],[]⟩, .j 116 n, .e 117 (ak x), .i 119 c, .r (one (dD s 0)), .j 124 n, .s g7, .c false, .i 158 q2]=
 some ((MR.pv (PV.lit (Value.int IntKind.u32 (↑q2:Int))),g7),[g7.all cJ=true,g7.length=es.length,aK (↑n:Int) (n+(1:Nat)) n,Ld MD.P 111 es (o+n* (1:Nat)) (PV.lit (Value.int IntKind.u32 (↑a:Int))),IntKind.u64.wrap (↑a:Int)=(↑a:Int),IntKind.u64.wrap ((↑a:Int)* (2:Int)^min (Int.toNat (32:Int)) IntKind.u64.bits)=(↑((2:Nat)^(32:Nat)* a):Int),false=false,IntKind.i64.wrap ((↑n:Int) - (1:Int))=(↑(n - (1:Nat)):Int),aK (↑(n - (1:Nat)):Int) (n+(1:Nat)) (n - (1:Nat)),Ld MD.P 111 es (o+(n - (1:Nat))* (1:Nat)) (PV.lit (Value.int IntKind.u32 (↑b:Int))),IntKind.u64.wrap (↑b:Int)=(↑b:Int),IntKind.u64.wrap (↑(BitVec.ofInt IntKind.u64.bits (↑((2:Nat)^(32:Nat)* a):Int)|||BitVec.ofInt IntKind.u64.bits (↑b:Int)).toNat:Int)=(↑top:Int),IntKind.i64.wrap ((↑n:Int) - (1:Int))=(↑(n - (1:Nat)):Int),aL cs 1 (↑(n - (1:Nat)):Int) n [PV.lit (Value.int IntKind.u32 (↑v1:Int))],IntKind.u64.wrap (↑v1:Int)=(↑v1:Int),IntKind.u64.wrap ((↑top:Int).tdiv (↑v1:Int))=(↑q:Int),decide ((↑v1:Int)=(0:Int))=false,IntKind.i64.wrap ((↑n:Int) - (1:Int))=(↑(n - (1:Nat)):Int),aL cs 1 (↑(n - (1:Nat)):Int) n [PV.lit (Value.int IntKind.u32 (↑v1:Int))],IntKind.u64.wrap (↑v1:Int)=(↑v1:Int),(↑top:Int).tmod (↑v1:Int)=(↑r:Int),decide ((↑v1:Int)=(0:Int))=false,aW MD t9 k (109:Nat) (0:Nat) (St.mk [(0,AV.bs 1000000 o 1 (n+(1:Nat))),(1,AV.pv (PV.sl 1 n cs)),(5,AV.pv (PV.lit (Value.int IntKind.i64 (↑n:Int)))),(7,AV.pv (PV.lit (Value.int IntKind.u64 (↑q:Int)))),(8,AV.pv (PV.lit (Value.int IntKind.u64 (↑r:Int))))] [(1000000,es)] [] []) (Xt.exit 0) (St.mk [(0,AV.bs 1000000 o 1 (n+(1:Nat))),(1,AV.pv (PV.sl 1 n cs)),(5,AV.pv (PV.lit (Value.int IntKind.i64 (↑n:Int)))),(7,AV.pv (PV.lit (Value.int IntKind.u64 (↑q2:Int)))),(8,AV.pv (PV.lit (Value.int IntKind.u64 (↑r2:Int)))),(68,AV.pv (PV.lit (Value.bool false)))] [(1000000,es)] [] []),aW MD t9 k (109:Nat) (1:Nat) (St.mk [(0,AV.bs 1000000 o 1 (n+(1:Nat))),(1,AV.pv (PV.sl 1 n cs)),(5,AV.pv (PV.lit (Value.int IntKind.i64 (↑n:Int)))),(7,AV.pv (PV.lit (Value.int IntKind.u64 (↑q2:Int)))),(9,AV.pv (PV.lit (Value.int IntKind.u64 (0:Int)))),(10,AV.pv (PV.lit (Value.int IntKind.u32 (0:Int)))),(81,AV.pv (PV.sl 1 n cs)),(82,AV.pv (PV.lit (Value.int IntKind.i64 (↑n:Int)))),(83,AV.pv (PV.lit (Value.int IntKind.i64 (0:Int))))] [(1000000,es)] [] []) (Xt.exit 2) (St.mk [(0,AV.bs 1000000 o 1 (n+(1:Nat))),(1,AV.pv (PV.sl 1 n cs)),(5,AV.pv (PV.lit (Value.int IntKind.i64 (↑n:Int)))),(7,AV.pv (PV.lit (Value.int IntKind.u64 (↑q2:Int)))),(9,AV.pv (PV.lit (Value.int IntKind.u64 (↑c:Int)))),(10,AV.pv (PV.lit (Value.int IntKind.u32 (↑bw:Int)))),(81,AV.pv (PV.sl 1 n cs)),(82,AV.pv (PV.lit (Value.int IntKind.i64 (↑n:Int)))),(83,AV.pv (PV.lit (Value.int IntKind.i64 (↑n:Int)))),(84,AV.pv (PV.lit (Value.bool false)))] [(1000000,fE)] [] []),aK (↑n:Int) (n+(1:Nat)) n,Ld MD.P 111 fE (o+n* (1:Nat)) (PV.lit (Value.int IntKind.u32 (↑x:Int))),IntKind.u32.wrap (↑c:Int)=(↑c:Int),aa t9 112 [PV.lit (Value.int IntKind.u32 (↑x:Int)),PV.lit (Value.int IntKind.u32 (↑c:Int)),PV.lit (Value.int IntKind.u32 (↑bw:Int))] (RV.mk (PV.aG [PV.lit (Value.int IntKind.u32 (↑s:Int)),PV.lit (Value.int IntKind.u32 (0:Int))]) none),aK (↑n:Int) (n+(1:Nat)) n,o+n* (1:Nat)+(ak s).cells.length≤fE.length,cg fE (o+n* (1:Nat)) [PV.lit (Value.int IntKind.u32 (↑s:Int))] g7,false=false,IntKind.u32.wrap (↑q2:Int)=(↑q2:Int)]):=by kernel_rfl
theorem UI (k n o a b top v1 q r q2 r2 x c bw s:Nat) (es fE g7 cs:List PV):mq MD t9 k 109 [.g es o 1 (n+1), .p (.sl 1 n cs)] [.j 20 n, .e 21 (ak a), .i 22 a, .i 23 (2^32* a:Nat), .i 26 (n - 1:Nat), .j 27 (n - 1), .e 28 (ak b), .i 29 b, .i 30 top, .i 34 (n - 1:Nat), .a 35 [ak v1], .i 37 v1, .i 38 q, .i 42 (n - 1:Nat), .a 43 [ak v1], .i 45 v1, .i 46 r, .l (.exit 0) ⟨[(0, .bs 1000000 o 1 (n+1)),(1, .pv (.sl 1 n cs)),(5, .pv (iv n)),(7, .pv (bC q2)),(8, .pv (bC r2)),(80, .pv (bv true))],[(1000000,es)],[],[]⟩, .l (.exit 2) ⟨[(0, .bs 1000000 o 1 (n+1)),(1, .pv (.sl 1 n cs)),(5, .pv (iv n)),(7, .pv (bC q2)),(9, .pv (bC c)),(10, .pv (ak bw)),(81, .pv (.sl 1 n cs)),(82, .pv (iv n)),(83, .pv (iv n)),(84, .pv (bv false))],[(1000000,fE)],[],[]⟩, .j 116 n, .e 117 (ak x), .i 119 c, .r (one (dD s 0)), .j 124 n, .s g7, .c false, .i 158 q2]=
 some ((MR.pv (PV.lit (Value.int IntKind.u32 (↑q2:Int))),g7),[g7.all cJ=true,g7.length=es.length,aK (↑n:Int) (n+(1:Nat)) n,Ld MD.P 111 es (o+n* (1:Nat)) (PV.lit (Value.int IntKind.u32 (↑a:Int))),IntKind.u64.wrap (↑a:Int)=(↑a:Int),IntKind.u64.wrap ((↑a:Int)* (2:Int)^min (Int.toNat (32:Int)) IntKind.u64.bits)=(↑((2:Nat)^(32:Nat)* a):Int),false=false,IntKind.i64.wrap ((↑n:Int) - (1:Int))=(↑(n - (1:Nat)):Int),aK (↑(n - (1:Nat)):Int) (n+(1:Nat)) (n - (1:Nat)),Ld MD.P 111 es (o+(n - (1:Nat))* (1:Nat)) (PV.lit (Value.int IntKind.u32 (↑b:Int))),IntKind.u64.wrap (↑b:Int)=(↑b:Int),IntKind.u64.wrap (↑(BitVec.ofInt IntKind.u64.bits (↑((2:Nat)^(32:Nat)* a):Int)|||BitVec.ofInt IntKind.u64.bits (↑b:Int)).toNat:Int)=(↑top:Int),IntKind.i64.wrap ((↑n:Int) - (1:Int))=(↑(n - (1:Nat)):Int),aL cs 1 (↑(n - (1:Nat)):Int) n [PV.lit (Value.int IntKind.u32 (↑v1:Int))],IntKind.u64.wrap (↑v1:Int)=(↑v1:Int),IntKind.u64.wrap ((↑top:Int).tdiv (↑v1:Int))=(↑q:Int),decide ((↑v1:Int)=(0:Int))=false,IntKind.i64.wrap ((↑n:Int) - (1:Int))=(↑(n - (1:Nat)):Int),aL cs 1 (↑(n - (1:Nat)):Int) n [PV.lit (Value.int IntKind.u32 (↑v1:Int))],IntKind.u64.wrap (↑v1:Int)=(↑v1:Int),(↑top:Int).tmod (↑v1:Int)=(↑r:Int),decide ((↑v1:Int)=(0:Int))=false,aW MD t9 k (109:Nat) (0:Nat) (St.mk [(0,AV.bs 1000000 o 1 (n+(1:Nat))),(1,AV.pv (PV.sl 1 n cs)),(5,AV.pv (PV.lit (Value.int IntKind.i64 (↑n:Int)))),(7,AV.pv (PV.lit (Value.int IntKind.u64 (↑q:Int)))),(8,AV.pv (PV.lit (Value.int IntKind.u64 (↑r:Int))))] [(1000000,es)] [] []) (Xt.exit 0) (St.mk [(0,AV.bs 1000000 o 1 (n+(1:Nat))),(1,AV.pv (PV.sl 1 n cs)),(5,AV.pv (PV.lit (Value.int IntKind.i64 (↑n:Int)))),(7,AV.pv (PV.lit (Value.int IntKind.u64 (↑q2:Int)))),(8,AV.pv (PV.lit (Value.int IntKind.u64 (↑r2:Int)))),(80,AV.pv (PV.lit (Value.bool true)))] [(1000000,es)] [] []),aW MD t9 k (109:Nat) (1:Nat) (St.mk [(0,AV.bs 1000000 o 1 (n+(1:Nat))),(1,AV.pv (PV.sl 1 n cs)),(5,AV.pv (PV.lit (Value.int IntKind.i64 (↑n:Int)))),(7,AV.pv (PV.lit (Value.int IntKind.u64 (↑q2:Int)))),(9,AV.pv (PV.lit (Value.int IntKind.u64 (0:Int)))),(10,AV.pv (PV.lit (Value.int IntKind.u32 (0:Int)))),(81,AV.pv (PV.sl 1 n cs)),(82,AV.pv (PV.lit (Value.int IntKind.i64 (↑n:Int)))),(83,AV.pv (PV.lit (Value.int IntKind.i64 (0:Int))))] [(1000000,es)] [] []) (Xt.exit 2) (St.mk [(0,AV.bs 1000000 o 1 (n+(1:Nat))),(1,AV.pv (PV.sl 1 n cs)),(5,AV.pv (PV.lit (Value.int IntKind.i64 (↑n:Int)))),(7,AV.pv (PV.lit (Value.int IntKind.u64 (↑q2:Int)))),(9,AV.pv (PV.lit (Value.int IntKind.u64 (↑c:Int)))),(10,AV.pv (PV.lit (Value.int IntKind.u32 (↑bw:Int)))),(81,AV.pv (PV.sl 1 n cs)),(82,AV.pv (PV.lit (Value.int IntKind.i64 (↑n:Int)))),(83,AV.pv (PV.lit (Value.int IntKind.i64 (↑n:Int)))),(84,AV.pv (PV.lit (Value.bool false)))] [(1000000,fE)] [] []),aK (↑n:Int) (n+(1:Nat)) n,Ld MD.P 111 fE (o+n* (1:Nat)) (PV.lit (Value.int IntKind.u32 (↑x:Int))),IntKind.u32.wrap (↑c:Int)=(↑c:Int),aa t9 112 [PV.lit (Value.int IntKind.u32 (↑x:Int)),PV.lit (Value.int IntKind.u32 (↑c:Int)),PV.lit (Value.int IntKind.u32 (↑bw:Int))] (RV.mk (PV.aG [PV.lit (Value.int IntKind.u32 (↑s:Int)),PV.lit (Value.int IntKind.u32 (0:Int))]) none),aK (↑n:Int) (n+(1:Nat)) n,o+n* (1:Nat)+(ak s).cells.length≤fE.length,cg fE (o+n* (1:Nat)) [PV.lit (Value.int IntKind.u32 (↑s:Int))] g7,false=false,IntKind.u32.wrap (↑q2:Int)=(↑q2:Int)]):=by kernel_rfl
theorem UJ (k n o a b top v1 q r q2 r2 x c bw s q3 y c3 z:Nat) (es fE g7 q8 q9 cs:List PV):mq MD t9 k 109 [.g es o 1 (n+1), .p (.sl 1 n cs)] [.j 20 n, .e 21 (ak a), .i 22 a, .i 23 (2^32* a:Nat), .i 26 (n - 1:Nat), .j 27 (n - 1), .e 28 (ak b), .i 29 b, .i 30 top, .i 34 (n - 1:Nat), .a 35 [ak v1], .i 37 v1, .i 38 q, .i 42 (n - 1:Nat), .a 43 [ak v1], .i 45 v1, .i 46 r, .l (.exit 0) ⟨[(0, .bs 1000000 o 1 (n+1)),(1, .pv (.sl 1 n cs)),(5, .pv (iv n)),(7, .pv (bC q2)),(8, .pv (bC r2)),(68, .pv (bv false))],[(1000000,es)],[],[]⟩, .l (.exit 2) ⟨[(0, .bs 1000000 o 1 (n+1)),(1, .pv (.sl 1 n cs)),(5, .pv (iv n)),(7, .pv (bC q2)),(9, .pv (bC c)),(10, .pv (ak bw)),(81, .pv (.sl 1 n cs)),(82, .pv (iv n)),(83, .pv (iv n)),(84, .pv (bv false))],[(1000000,fE)],[],[]⟩, .j 116 n, .e 117 (ak x), .i 119 c, .r (one (dD s 1)), .j 124 n, .s g7, .c true, .i 128 q3, .l (.exit 4) ⟨[(0, .bs 1000000 o 1 (n+1)),(5, .pv (iv n)),(7, .pv (bC q3)),(13, .pv (ak c3)),(129, .pv (.sl 1 n cs)),(130, .pv (iv n)),(131, .pv (iv n)),(132, .pv (bv false))],[(1000000,q8)],[],[]⟩, .j 152 n, .e 153 (ak y), .i 155 z, .j 156 n, .s q9, .i 158 q3]=
 some ((MR.pv (PV.lit (Value.int IntKind.u32 (↑q3:Int))),q9),[q9.all cJ=true,q9.length=es.length,aK (↑n:Int) (n+(1:Nat)) n,Ld MD.P 111 es (o+n* (1:Nat)) (PV.lit (Value.int IntKind.u32 (↑a:Int))),IntKind.u64.wrap (↑a:Int)=(↑a:Int),IntKind.u64.wrap ((↑a:Int)* (2:Int)^min (Int.toNat (32:Int)) IntKind.u64.bits)=(↑((2:Nat)^(32:Nat)* a):Int),false=false,IntKind.i64.wrap ((↑n:Int) - (1:Int))=(↑(n - (1:Nat)):Int),aK (↑(n - (1:Nat)):Int) (n+(1:Nat)) (n - (1:Nat)),Ld MD.P 111 es (o+(n - (1:Nat))* (1:Nat)) (PV.lit (Value.int IntKind.u32 (↑b:Int))),IntKind.u64.wrap (↑b:Int)=(↑b:Int),IntKind.u64.wrap (↑(BitVec.ofInt IntKind.u64.bits (↑((2:Nat)^(32:Nat)* a):Int)|||BitVec.ofInt IntKind.u64.bits (↑b:Int)).toNat:Int)=(↑top:Int),IntKind.i64.wrap ((↑n:Int) - (1:Int))=(↑(n - (1:Nat)):Int),aL cs 1 (↑(n - (1:Nat)):Int) n [PV.lit (Value.int IntKind.u32 (↑v1:Int))],IntKind.u64.wrap (↑v1:Int)=(↑v1:Int),IntKind.u64.wrap ((↑top:Int).tdiv (↑v1:Int))=(↑q:Int),decide ((↑v1:Int)=(0:Int))=false,IntKind.i64.wrap ((↑n:Int) - (1:Int))=(↑(n - (1:Nat)):Int),aL cs 1 (↑(n - (1:Nat)):Int) n [PV.lit (Value.int IntKind.u32 (↑v1:Int))],IntKind.u64.wrap (↑v1:Int)=(↑v1:Int),(↑top:Int).tmod (↑v1:Int)=(↑r:Int),decide ((↑v1:Int)=(0:Int))=false,aW MD t9 k (109:Nat) (0:Nat) (St.mk [(0,AV.bs 1000000 o 1 (n+(1:Nat))),(1,AV.pv (PV.sl 1 n cs)),(5,AV.pv (PV.lit (Value.int IntKind.i64 (↑n:Int)))),(7,AV.pv (PV.lit (Value.int IntKind.u64 (↑q:Int)))),(8,AV.pv (PV.lit (Value.int IntKind.u64 (↑r:Int))))] [(1000000,es)] [] []) (Xt.exit 0) (St.mk [(0,AV.bs 1000000 o 1 (n+(1:Nat))),(1,AV.pv (PV.sl 1 n cs)),(5,AV.pv (PV.lit (Value.int IntKind.i64 (↑n:Int)))),(7,AV.pv (PV.lit (Value.int IntKind.u64 (↑q2:Int)))),(8,AV.pv (PV.lit (Value.int IntKind.u64 (↑r2:Int)))),(68,AV.pv (PV.lit (Value.bool false)))] [(1000000,es)] [] []),aW MD t9 k (109:Nat) (1:Nat) (St.mk [(0,AV.bs 1000000 o 1 (n+(1:Nat))),(1,AV.pv (PV.sl 1 n cs)),(5,AV.pv (PV.lit (Value.int IntKind.i64 (↑n:Int)))),(7,AV.pv (PV.lit (Value.int IntKind.u64 (↑q2:Int)))),(9,AV.pv (PV.lit (Value.int IntKind.u64 (0:Int)))),(10,AV.pv (PV.lit (Value.int IntKind.u32 (0:Int)))),(81,AV.pv (PV.sl 1 n cs)),(82,AV.pv (PV.lit (Value.int IntKind.i64 (↑n:Int)))),(83,AV.pv (PV.lit (Value.int IntKind.i64 (0:Int))))] [(1000000,es)] [] []) (Xt.exit 2) (St.mk [(0,AV.bs 1000000 o 1 (n+(1:Nat))),(1,AV.pv (PV.sl 1 n cs)),(5,AV.pv (PV.lit (Value.int IntKind.i64 (↑n:Int)))),(7,AV.pv (PV.lit (Value.int IntKind.u64 (↑q2:Int)))),(9,AV.pv (PV.lit (Value.int IntKind.u64 (↑c:Int)))),(10,AV.pv (PV.lit (Value.int IntKind.u32 (↑bw:Int)))),(81,AV.pv (PV.sl 1 n cs)),(82,AV.pv (PV.lit (Value.int IntKind.i64 (↑n:Int)))),(83,AV.pv (PV.lit (Value.int IntKind.i64 (↑n:Int)))),(84,AV.pv (PV.lit (Value.bool false)))] [(1000000,fE)] [] []),aK (↑n:Int) (n+(1:Nat)) n,Ld MD.P 111 fE (o+n* (1:Nat)) (PV.lit (Value.int IntKind.u32 (↑x:Int))),IntKind.u32.wrap (↑c:Int)=(↑c:Int),aa t9 112 [PV.lit (Value.int IntKind.u32 (↑x:Int)),PV.lit (Value.int IntKind.u32 (↑c:Int)),PV.lit (Value.int IntKind.u32 (↑bw:Int))] (RV.mk (PV.aG [PV.lit (Value.int IntKind.u32 (↑s:Int)),PV.lit (Value.int IntKind.u32 (1:Int))]) none),aK (↑n:Int) (n+(1:Nat)) n,o+n* (1:Nat)+(ak s).cells.length≤fE.length,cg fE (o+n* (1:Nat)) [PV.lit (Value.int IntKind.u32 (↑s:Int))] g7,true=true,IntKind.u64.wrap ((↑q2:Int) - (1:Int))=(↑q3:Int),aW MD t9 k (109:Nat) (2:Nat) (St.mk [(0,AV.bs 1000000 o 1 (n+(1:Nat))),(5,AV.pv (PV.lit (Value.int IntKind.i64 (↑n:Int)))),(7,AV.pv (PV.lit (Value.int IntKind.u64 (↑q3:Int)))),(13,AV.pv (PV.lit (Value.int IntKind.u32 (0:Int)))),(129,AV.pv (PV.sl 1 n cs)),(130,AV.pv (PV.lit (Value.int IntKind.i64 (↑n:Int)))),(131,AV.pv (PV.lit (Value.int IntKind.i64 (0:Int))))] [(1000000,g7)] [] []) (Xt.exit 4) (St.mk [(0,AV.bs 1000000 o 1 (n+(1:Nat))),(5,AV.pv (PV.lit (Value.int IntKind.i64 (↑n:Int)))),(7,AV.pv (PV.lit (Value.int IntKind.u64 (↑q3:Int)))),(13,AV.pv (PV.lit (Value.int IntKind.u32 (↑c3:Int)))),(129,AV.pv (PV.sl 1 n cs)),(130,AV.pv (PV.lit (Value.int IntKind.i64 (↑n:Int)))),(131,AV.pv (PV.lit (Value.int IntKind.i64 (↑n:Int)))),(132,AV.pv (PV.lit (Value.bool false)))] [(1000000,q8)] [] []),aK (↑n:Int) (n+(1:Nat)) n,Ld MD.P 111 q8 (o+n* (1:Nat)) (PV.lit (Value.int IntKind.u32 (↑y:Int))),IntKind.u32.wrap ((↑y:Int)+(↑c3:Int))=(↑z:Int),aK (↑n:Int) (n+(1:Nat)) n,o+n* (1:Nat)+(PV.lit (Value.int IntKind.u32 (↑z:Int))).cells.length≤q8.length,cg q8 (o+n* (1:Nat)) [PV.lit (Value.int IntKind.u32 (↑z:Int))] q9,IntKind.u32.wrap (↑q3:Int)=(↑q3:Int)]):=by kernel_rfl
theorem UK (k n o a b top v1 q r q2 r2 x c bw s q3 y c3 z:Nat) (es fE g7 q8 q9 cs:List PV):mq MD t9 k 109 [.g es o 1 (n+1), .p (.sl 1 n cs)] [.j 20 n, .e 21 (ak a), .i 22 a, .i 23 (2^32* a:Nat), .i 26 (n - 1:Nat), .j 27 (n - 1), .e 28 (ak b), .i 29 b, .i 30 top, .i 34 (n - 1:Nat), .a 35 [ak v1], .i 37 v1, .i 38 q, .i 42 (n - 1:Nat), .a 43 [ak v1], .i 45 v1, .i 46 r, .l (.exit 0) ⟨[(0, .bs 1000000 o 1 (n+1)),(1, .pv (.sl 1 n cs)),(5, .pv (iv n)),(7, .pv (bC q2)),(8, .pv (bC r2)),(80, .pv (bv true))],[(1000000,es)],[],[]⟩, .l (.exit 2) ⟨[(0, .bs 1000000 o 1 (n+1)),(1, .pv (.sl 1 n cs)),(5, .pv (iv n)),(7, .pv (bC q2)),(9, .pv (bC c)),(10, .pv (ak bw)),(81, .pv (.sl 1 n cs)),(82, .pv (iv n)),(83, .pv (iv n)),(84, .pv (bv false))],[(1000000,fE)],[],[]⟩, .j 116 n, .e 117 (ak x), .i 119 c, .r (one (dD s 1)), .j 124 n, .s g7, .c true, .i 128 q3, .l (.exit 4) ⟨[(0, .bs 1000000 o 1 (n+1)),(5, .pv (iv n)),(7, .pv (bC q3)),(13, .pv (ak c3)),(129, .pv (.sl 1 n cs)),(130, .pv (iv n)),(131, .pv (iv n)),(132, .pv (bv false))],[(1000000,q8)],[],[]⟩, .j 152 n, .e 153 (ak y), .i 155 z, .j 156 n, .s q9, .i 158 q3]=
 some ((MR.pv (PV.lit (Value.int IntKind.u32 (↑q3:Int))),q9),[q9.all cJ=true,q9.length=es.length,aK (↑n:Int) (n+(1:Nat)) n,Ld MD.P 111 es (o+n* (1:Nat)) (PV.lit (Value.int IntKind.u32 (↑a:Int))),IntKind.u64.wrap (↑a:Int)=(↑a:Int),IntKind.u64.wrap ((↑a:Int)* (2:Int)^min (Int.toNat (32:Int)) IntKind.u64.bits)=(↑((2:Nat)^(32:Nat)* a):Int),false=false,IntKind.i64.wrap ((↑n:Int) - (1:Int))=(↑(n - (1:Nat)):Int),aK (↑(n - (1:Nat)):Int) (n+(1:Nat)) (n - (1:Nat)),Ld MD.P 111 es (o+(n - (1:Nat))* (1:Nat)) (PV.lit (Value.int IntKind.u32 (↑b:Int))),IntKind.u64.wrap (↑b:Int)=(↑b:Int),IntKind.u64.wrap (↑(BitVec.ofInt IntKind.u64.bits (↑((2:Nat)^(32:Nat)* a):Int)|||BitVec.ofInt IntKind.u64.bits (↑b:Int)).toNat:Int)=(↑top:Int),IntKind.i64.wrap ((↑n:Int) - (1:Int))=(↑(n - (1:Nat)):Int),aL cs 1 (↑(n - (1:Nat)):Int) n [PV.lit (Value.int IntKind.u32 (↑v1:Int))],IntKind.u64.wrap (↑v1:Int)=(↑v1:Int),IntKind.u64.wrap ((↑top:Int).tdiv (↑v1:Int))=(↑q:Int),decide ((↑v1:Int)=(0:Int))=false,IntKind.i64.wrap ((↑n:Int) - (1:Int))=(↑(n - (1:Nat)):Int),aL cs 1 (↑(n - (1:Nat)):Int) n [PV.lit (Value.int IntKind.u32 (↑v1:Int))],IntKind.u64.wrap (↑v1:Int)=(↑v1:Int),(↑top:Int).tmod (↑v1:Int)=(↑r:Int),decide ((↑v1:Int)=(0:Int))=false,aW MD t9 k (109:Nat) (0:Nat) (St.mk [(0,AV.bs 1000000 o 1 (n+(1:Nat))),(1,AV.pv (PV.sl 1 n cs)),(5,AV.pv (PV.lit (Value.int IntKind.i64 (↑n:Int)))),(7,AV.pv (PV.lit (Value.int IntKind.u64 (↑q:Int)))),(8,AV.pv (PV.lit (Value.int IntKind.u64 (↑r:Int))))] [(1000000,es)] [] []) (Xt.exit 0) (St.mk [(0,AV.bs 1000000 o 1 (n+(1:Nat))),(1,AV.pv (PV.sl 1 n cs)),(5,AV.pv (PV.lit (Value.int IntKind.i64 (↑n:Int)))),(7,AV.pv (PV.lit (Value.int IntKind.u64 (↑q2:Int)))),(8,AV.pv (PV.lit (Value.int IntKind.u64 (↑r2:Int)))),(80,AV.pv (PV.lit (Value.bool true)))] [(1000000,es)] [] []),aW MD t9 k (109:Nat) (1:Nat) (St.mk [(0,AV.bs 1000000 o 1 (n+(1:Nat))),(1,AV.pv (PV.sl 1 n cs)),(5,AV.pv (PV.lit (Value.int IntKind.i64 (↑n:Int)))),(7,AV.pv (PV.lit (Value.int IntKind.u64 (↑q2:Int)))),(9,AV.pv (PV.lit (Value.int IntKind.u64 (0:Int)))),(10,AV.pv (PV.lit (Value.int IntKind.u32 (0:Int)))),(81,AV.pv (PV.sl 1 n cs)),(82,AV.pv (PV.lit (Value.int IntKind.i64 (↑n:Int)))),(83,AV.pv (PV.lit (Value.int IntKind.i64 (0:Int))))] [(1000000,es)] [] []) (Xt.exit 2) (St.mk [(0,AV.bs 1000000 o 1 (n+(1:Nat))),(1,AV.pv (PV.sl 1 n cs)),(5,AV.pv (PV.lit (Value.int IntKind.i64 (↑n:Int)))),(7,AV.pv (PV.lit (Value.int IntKind.u64 (↑q2:Int)))),(9,AV.pv (PV.lit (Value.int IntKind.u64 (↑c:Int)))),(10,AV.pv (PV.lit (Value.int IntKind.u32 (↑bw:Int)))),(81,AV.pv (PV.sl 1 n cs)),(82,AV.pv (PV.lit (Value.int IntKind.i64 (↑n:Int)))),(83,AV.pv (PV.lit (Value.int IntKind.i64 (↑n:Int)))),(84,AV.pv (PV.lit (Value.bool false)))] [(1000000,fE)] [] []),aK (↑n:Int) (n+(1:Nat)) n,Ld MD.P 111 fE (o+n* (1:Nat)) (PV.lit (Value.int IntKind.u32 (↑x:Int))),IntKind.u32.wrap (↑c:Int)=(↑c:Int),aa t9 112 [PV.lit (Value.int IntKind.u32 (↑x:Int)),PV.lit (Value.int IntKind.u32 (↑c:Int)),PV.lit (Value.int IntKind.u32 (↑bw:Int))] (RV.mk (PV.aG [PV.lit (Value.int IntKind.u32 (↑s:Int)),PV.lit (Value.int IntKind.u32 (1:Int))]) none),aK (↑n:Int) (n+(1:Nat)) n,o+n* (1:Nat)+(ak s).cells.length≤fE.length,cg fE (o+n* (1:Nat)) [PV.lit (Value.int IntKind.u32 (↑s:Int))] g7,true=true,IntKind.u64.wrap ((↑q2:Int) - (1:Int))=(↑q3:Int),aW MD t9 k (109:Nat) (2:Nat) (St.mk [(0,AV.bs 1000000 o 1 (n+(1:Nat))),(5,AV.pv (PV.lit (Value.int IntKind.i64 (↑n:Int)))),(7,AV.pv (PV.lit (Value.int IntKind.u64 (↑q3:Int)))),(13,AV.pv (PV.lit (Value.int IntKind.u32 (0:Int)))),(129,AV.pv (PV.sl 1 n cs)),(130,AV.pv (PV.lit (Value.int IntKind.i64 (↑n:Int)))),(131,AV.pv (PV.lit (Value.int IntKind.i64 (0:Int))))] [(1000000,g7)] [] []) (Xt.exit 4) (St.mk [(0,AV.bs 1000000 o 1 (n+(1:Nat))),(5,AV.pv (PV.lit (Value.int IntKind.i64 (↑n:Int)))),(7,AV.pv (PV.lit (Value.int IntKind.u64 (↑q3:Int)))),(13,AV.pv (PV.lit (Value.int IntKind.u32 (↑c3:Int)))),(129,AV.pv (PV.sl 1 n cs)),(130,AV.pv (PV.lit (Value.int IntKind.i64 (↑n:Int)))),(131,AV.pv (PV.lit (Value.int IntKind.i64 (↑n:Int)))),(132,AV.pv (PV.lit (Value.bool false)))] [(1000000,q8)] [] []),aK (↑n:Int) (n+(1:Nat)) n,Ld MD.P 111 q8 (o+n* (1:Nat)) (PV.lit (Value.int IntKind.u32 (↑y:Int))),IntKind.u32.wrap ((↑y:Int)+(↑c3:Int))=(↑z:Int),aK (↑n:Int) (n+(1:Nat)) n,o+n* (1:Nat)+(PV.lit (Value.int IntKind.u32 (↑z:Int))).cells.length≤q8.length,cg q8 (o+n* (1:Nat)) [PV.lit (Value.int IntKind.u32 (↑z:Int))] q9,IntKind.u32.wrap (↑q3:Int)=(↑q3:Int)]):=by kernel_rfl
def eI (pre W post:List Nat):List Nat:=pre++W++post
theorem kG {pre W post:List Nat} {i x:Nat} (h:W[i]? =some x):(eI pre W post)[pre.length+i]? =some x:=by
 have hi:=gB h
 simp only [eI,List.append_assoc]
 rw [List.getElem?_append_right (by omega),Nat.add_sub_cancel_left,List.getElem?_append_left hi,h]
theorem sC {pre W post:List Nat} {i:Nat} (h:i<W.length) (y:Nat):(eI pre W post).set (pre.length+i) y=eI pre (W.set i y) post:=by
 simp only [eI,List.append_assoc]
 rw [List.set_append_right _ _ (by omega),Nat.add_sub_cancel_left,List.set_append_left _ _ h]
theorem eC (pre W post:List Nat):(eI pre W post).length=pre.length+W.length+post.length:=by simp [eI];omega
structure jB (pre W post V:List Nat) (n a b c v1 v2:Nat):Prop where
 hV:V.length=n
 hW:W.length=n+1
 dV:bf (4294967296:Nat) V
 dW:bf (4294967296:Nat) W
 ga:W[n]? =some a
 gb:W[n - 1]? =some b
 gc:W[n - 2]? =some c
 g1:V[n - 1]? =some v1
 g2:V[n - 2]? =some v2
 hn:2≤n
 sz:(eI pre W post).length<2^40
 top:(4294967296:Nat)≤2* v1
 lt:val (4294967296:Nat) W<(4294967296:Nat)* val (4294967296:Nat) V
theorem Pw {l:List Nat} {n a b c:Nat} (hl:l.length=n+1) (hn:2≤n) (ga:l[n]? =some a) (gb:l[n - 1]? =some b) (gc:l[n - 2]? =some c):val (4294967296:Nat) l=((a* (4294967296:Nat)+b)* (4294967296:Nat)+c)* (4294967296:Nat)^(n - 2)+val (4294967296:Nat) (l.take (n - 2)):=by
 have e1:=cy (b:=(4294967296:Nat)) gc
 rw [show n - 2+1=n - 1 by omega] at e1
 have e2:=cy (b:=(4294967296:Nat)) gb
 rw [show n - 1+1=n by omega] at e2
 have e3:=cy (b:=(4294967296:Nat)) ga
 rw [List.take_of_length_le (by omega)] at e3
 rw [e3,e2,e1]
 have p1:(4294967296:Nat)^(n - 1)=(4294967296:Nat)^(n - 2)* (4294967296:Nat):=by rw [←Nat.pow_succ];congr 1;omega
 have p2:(4294967296:Nat)^n=(4294967296:Nat)^(n - 2)* (4294967296:Nat)* (4294967296:Nat):=by rw [←p1,←Nat.pow_succ];congr 1;omega
 rw [p1,p2]
 obtain ⟨P,hP⟩:∃P,P=(4294967296:Nat)^(n - 2):=⟨_,rfl⟩
 rw [←hP]
 have h1:((a* (4294967296:Nat)+b)* (4294967296:Nat)+c)* P=a* (4294967296:Nat)* (4294967296:Nat)* P+b* (4294967296:Nat)* P+c* P:=by simp only [Nat.add_mul]
 have h2:P* (4294967296:Nat)* (4294967296:Nat)* a=a* (4294967296:Nat)* (4294967296:Nat)* P:=by ac_rfl
 have h3:P* (4294967296:Nat)* b=b* (4294967296:Nat)* P:=by ac_rfl
 have h4:P* c=c* P:=by ac_rfl
 rw [h1,h2,h3,h4]
 omega
theorem Pv {l:List Nat} {n a b:Nat} (hl:l.length=n) (hn:2≤n) (ga:l[n - 1]? =some a) (gb:l[n - 2]? =some b):val (4294967296:Nat) l=(a* (4294967296:Nat)+b)* (4294967296:Nat)^(n - 2)+val (4294967296:Nat) (l.take (n - 2)):=by
 have e1:=cy (b:=(4294967296:Nat)) gb
 rw [show n - 2+1=n - 1 by omega] at e1
 have e2:=cy (b:=(4294967296:Nat)) ga
 rw [List.take_of_length_le (by omega)] at e2
 rw [e2,e1]
 have p1:(4294967296:Nat)^(n - 1)=(4294967296:Nat)^(n - 2)* (4294967296:Nat):=by rw [←Nat.pow_succ];congr 1;omega
 rw [p1]
 obtain ⟨P,hP⟩:∃P,P=(4294967296:Nat)^(n - 2):=⟨_,rfl⟩
 rw [←hP]
 have h1:(a* (4294967296:Nat)+b)* P=a* (4294967296:Nat)* P+b* P:=by simp only [Nat.add_mul]
 have h2:P* (4294967296:Nat)* a=a* (4294967296:Nat)* P:=by ac_rfl
 have h3:P* b=b* P:=by ac_rfl
 rw [h1,h2,h3]
 omega
theorem jB.win {pre W post V:List Nat} {n a b c v1 v2:Nat} (h:jB pre W post V n a b c v1 v2):ld (4294967296:Nat) (val (4294967296:Nat) W) (val (4294967296:Nat) V) a b c v1 v2 ((4294967296:Nat)^(n - 2)) (val (4294967296:Nat) (W.take (n - 2))) (val (4294967296:Nat) (V.take (n - 2))) where
 w:=Pw h.hW h.hn h.ga h.gb h.gc
 v:=Pv h.hV h.hn h.g1 h.g2
 hw:=by
  have:=cY (eU h.dW (n - 2))
  rwa [List.length_take,Nat.min_eq_left (by rw [h.hW];omega)] at this
 hv:=by
  have:=cY (eU h.dV (n - 2))
  rwa [List.length_take,Nat.min_eq_left (by rw [h.hV];omega)] at this
 hb:=cN h.dW h.gb
 hc:=cN h.dW h.gc
 h2:=cN h.dV h.g2
 hB:=by decide
 top:=h.top
 lt:=h.lt
def G0 (o n:Nat) (V U:List Nat) (q r:Nat) (e:List (Nat×AV)):St:=⟨(0, .bs 1000000 o 1 (n+1))::(1, .pv (.sl 1 n (us V)))::(5, .pv (iv n))::(7, .pv (bC q))::(8, .pv (bC r))::e,[(1000000,us U)],[],[]⟩
def eF:List (Nat×AV):=[(80, .pv (bv false))]
section
variable {pre W post V:List Nat} {n a b c v1 v2:Nat}
theorem jB.Cq (h:jB pre W post V n a b c v1 v2):n<2^40:=by
 have:=h.sz;rw [eC,h.hW] at this;omega
theorem jB.cT (h:jB pre W post V n a b c v1 v2):v1<(4294967296:Nat):=cN h.dV h.g1
theorem jB.r1 (h:jB pre W post V n a b c v1 v2):aL (us V) 1 ((n - 1:Nat):Int) n [ak v1]:=by
 have:=cQ h.g1 rfl;rwa [h.hV] at this
theorem jB.r2 (h:jB pre W post V n a b c v1 v2):aL (us V) 1 ((n - 2:Nat):Int) n [ak v2]:=by
 have:=cQ h.g2 rfl;rwa [h.hV] at this
theorem fR {a:Nat} (h:1≤a) (ha:a<2^63):IntKind.i64.wrap ((a:Int) - 1)=((a - 1:Nat):Int):=aR (by omega) (by omega)
theorem jy {a:Nat} (h:2≤a) (ha:a<2^63):IntKind.i64.wrap ((a:Int) - 2)=((a - 2:Nat):Int):=aR (by omega) (by omega)
theorem kj {r:Nat} (h:r<(4294967296:Nat)):IntKind.u64.wrap ((r:Int)* (2:Int)^min (Int.toNat (32:Int)) IntKind.u64.bits)=((2^32* r:Nat):Int):=bz (by rw [sK];omega) (by omega)
theorem guess (h:jB pre W post V n a b c v1 v2) (k:Nat):∀(m q r:Nat) (e:List (Nat×AV)),e=[]∨e=eF→ld.Inv (4294967296:Nat) (val (4294967296:Nat) W) (val (4294967296:Nat) V) a b v1 q r→q<(4294967296:Nat)* (4294967296:Nat)→r<(4294967296:Nat)→(4294967296:Nat)≤r+m* v1→
  ∃q2 r2,q2<(4294967296:Nat)∧val (4294967296:Nat) W / val (4294967296:Nat) V≤q2∧q2≤val (4294967296:Nat) W / val (4294967296:Nat) V+1∧∃e2,(e2=[(68, .pv (bv false))]∨e2=[(80, .pv (bv true))])∧bg (aP MD t9 k 109 0) (m+1) (G0 pre.length n V (eI pre W post) q r e)=some (.exit 0,G0 pre.length n V (eI pre W post) q2 r2 e2)
 |0,q,r,e,_,_,_,hr,hm=>by omega
 |m+1,q,r,e,he,hi,hq,hr,hm=>by
  have Cq:=h.Cq
  have hn:=h.hn
  have cT:=h.cT
  have eS:=cN h.dV h.g2
  have hc:=cN h.dW h.gc
  have wq:∀q:Nat,0<q→q<(4294967296:Nat)* (4294967296:Nat)→IntKind.u64.wrap ((q:Int) - (1:Int))=((q - 1:Nat):Int):=fun q h1 h2=>bz (by omega) (by omega)
  have Ck:Ld MD.P 111 (us (eI pre W post)) (pre.length+(n - 2)* 1) (ak c):=iB (kG h.gc) (by omega)
  have next:∀q',q=q'+1∨0<q→ld.Inv (4294967296:Nat) (val (4294967296:Nat) W) (val (4294967296:Nat) V) a b v1 (q - 1) (r+v1)→r+v1<(4294967296:Nat)→_:=fun q' _ hi2 hH=>guess h k m (q - 1) (r+v1) eF (.inr rfl) hi2 (by omega) hH (by rw [Nat.add_mul] at hm;omega)
  by_cases hb:(4294967296:Nat)≤q
  · obtain ⟨rG,hi2⟩:=h.win.step hi (.inl hb)
    by_cases hH:r+v1<(4294967296:Nat)
    · obtain ⟨q2,r2,z1,z2,z3,e2,z4,z5⟩:=next 0 (.inr rG) hi2 hH
      refine ⟨q2,r2,z1,z2,z3,e2,z4, ?_⟩
      rcases he with rfl|rfl
      · exact bn (an (Ux k n pre.length v1 v2 q r c _ _) ⟨by simp;omega,wq q rG hq,fR (by omega) (by omega),h.r1,bz rfl (by omega),bz (by omega) (by omega),by simp;omega,trivial⟩) z5
      · exact bn (an (UC k n pre.length v1 v2 q r c _ _) ⟨by simp;omega,wq q rG hq,fR (by omega) (by omega),h.r1,bz rfl (by omega),bz (by omega) (by omega),by simp;omega,trivial⟩) z5
    · obtain ⟨f1,f2⟩:=h.win.Mq hi2 (by omega)
      refine ⟨q - 1,r+v1,f1,hi2.2,f2,[(80, .pv (bv true))], .inr rfl, ?_⟩
      rcases he with rfl|rfl
      · exact aV (an (Uy k n pre.length v1 v2 q r c _ _) ⟨by simp;omega,wq q rG hq,fR (by omega) (by omega),h.r1,bz rfl (by omega),bz (by omega) (by omega),by simp;omega,trivial⟩) (by simp)
      · exact aV (an (UD k n pre.length v1 v2 q r c _ _) ⟨by simp;omega,wq q rG hq,fR (by omega) (by omega),h.r1,bz rfl (by omega),bz (by omega) (by omega),by simp;omega,trivial⟩) (by simp)
  · have hqv:q* v2<(4294967296:Nat)* (4294967296:Nat):=by
      calc q* v2≤q* (4294967296:Nat):=Nat.mul_le_mul_left _ (by omega)
       _<(4294967296:Nat)* (4294967296:Nat):=Nat.mul_lt_mul_of_pos_right (by omega) (by decide)
    have o1:IntKind.u64.wrap ((q:Int)* (v2:Int))=((q* v2:Nat):Int):=bz (by simp) (by omega)
    have o2:IntKind.u64.wrap ((BitVec.ofInt IntKind.u64.bits ((2^32* r:Nat):Int)|||BitVec.ofInt IntKind.u64.bits (c:Int)).toNat:Int)=((2^32* r+c:Nat):Int):=nh (r:=32) (by omega) (by omega) _ rfl
    by_cases hg:r* (4294967296:Nat)+c<q* v2
    · obtain ⟨rG,hi2⟩:=h.win.step hi (.inr hg)
      by_cases hH:r+v1<(4294967296:Nat)
      · obtain ⟨q2,r2,z1,z2,z3,e2,z4,z5⟩:=next 0 (.inr rG) hi2 hH
        refine ⟨q2,r2,z1,z2,z3,e2,z4, ?_⟩
        rcases he with rfl|rfl
        · exact bn (an (Uz k n pre.length v1 v2 q r c _ _) ⟨by simp;omega,jy (by omega) (by omega),h.r2,bz rfl (by omega),o1,kj hr,rfl,jy (by omega) (by omega),⟨rfl,by omega⟩,Ck,bz rfl (by omega),o2,by simp;omega,wq q rG hq,fR (by omega) (by omega),h.r1,bz rfl (by omega),bz (by omega) (by omega),by simp;omega,trivial⟩) z5
        · exact bn (an (UE k n pre.length v1 v2 q r c _ _) ⟨by simp;omega,jy (by omega) (by omega),h.r2,bz rfl (by omega),o1,kj hr,rfl,jy (by omega) (by omega),⟨rfl,by omega⟩,Ck,bz rfl (by omega),o2,by simp;omega,wq q rG hq,fR (by omega) (by omega),h.r1,bz rfl (by omega),bz (by omega) (by omega),by simp;omega,trivial⟩) z5
      · obtain ⟨f1,f2⟩:=h.win.Mq hi2 (by omega)
        refine ⟨q - 1,r+v1,f1,hi2.2,f2,[(80, .pv (bv true))], .inr rfl, ?_⟩
        rcases he with rfl|rfl
        · exact aV (an (UA k n pre.length v1 v2 q r c _ _) ⟨by simp;omega,jy (by omega) (by omega),h.r2,bz rfl (by omega),o1,kj hr,rfl,jy (by omega) (by omega),⟨rfl,by omega⟩,Ck,bz rfl (by omega),o2,by simp;omega,wq q rG hq,fR (by omega) (by omega),h.r1,bz rfl (by omega),bz (by omega) (by omega),by simp;omega,trivial⟩) (by simp)
        · exact aV (an (UF k n pre.length v1 v2 q r c _ _) ⟨by simp;omega,jy (by omega) (by omega),h.r2,bz rfl (by omega),o1,kj hr,rfl,jy (by omega) (by omega),⟨rfl,by omega⟩,Ck,bz rfl (by omega),o2,by simp;omega,wq q rG hq,fR (by omega) (by omega),h.r1,bz rfl (by omega),bz (by omega) (by omega),by simp;omega,trivial⟩) (by simp)
    · have f2:=h.win.fin hi (by omega) (by omega)
      refine ⟨q,r,by omega,hi.2,f2,[(68, .pv (bv false))], .inl rfl, ?_⟩
      rcases he with rfl|rfl
      · exact aV (an (UB k n pre.length v1 v2 q r c _ _) ⟨by simp;omega,jy (by omega) (by omega),h.r2,bz rfl (by omega),o1,kj hr,rfl,jy (by omega) (by omega),⟨rfl,by omega⟩,Ck,bz rfl (by omega),o2,by simp;omega,trivial⟩) (by simp)
      · exact aV (an (UG k n pre.length v1 v2 q r c _ _) ⟨by simp;omega,jy (by omega) (by omega),h.r2,bz rfl (by omega),o1,kj hr,rfl,jy (by omega) (by omega),⟨rfl,by omega⟩,Ck,bz rfl (by omega),o2,by simp;omega,trivial⟩) (by simp)
end
end Go.Proofs.YtibbgjafjhcemaaDoor.Cul
namespace Go.Proofs.YtibbgjafjhcemaaDoor.Cul
open Go Go.RowKit
section
variable {pre W post V:List Nat} {n a b c v1 v2:Nat}
def S1 (o n:Nat) (V U:List Nat) (q c bw i:Nat) (e:List (Nat×AV)):St:=⟨(0, .bs 1000000 o 1 (n+1))::(1, .pv (.sl 1 n (us V)))::(5, .pv (iv n))::(7, .pv (bC q))::(9, .pv (bC c))::(10, .pv (ak bw))::(81, .pv (.sl 1 n (us V)))::(82, .pv (iv n))::(83, .pv (iv i))::e,[(1000000,us U)],[],[]⟩
theorem yY:aI MD.P t9:=aH (aj (au fun x h=>tT x.1 x.2.1 x.2.2 h.1 h.2.1 h.2.2) (aj (au fun x h=>Be x.1 x.2.1 x.2.2 h.1 h.2.1 h.2.2) aE))
theorem O9 {c q x:Nat} (hc:c<(4294967296:Nat)) (hq:q<(4294967296:Nat)) (hx:x<(4294967296:Nat)):c+q* x<(4294967296:Nat)* (4294967296:Nat):=by
 have:q* x≤((4294967296:Nat) - 1)* ((4294967296:Nat) - 1):=Nat.mul_le_mul (by omega) (by omega)
 omega
theorem CU (k:Nat) (hV:V.length=n) (dV:bf (4294967296:Nat) V) (hn:n<2^40) (q:Nat) (hq:q<(4294967296:Nat)):∀(d i c bw:Nat) (W1:List Nat),i+d=n→W1.length=n+1→bf (4294967296:Nat) W1→c<(4294967296:Nat)→bw≤1→val (4294967296:Nat) W1+q* val (4294967296:Nat) (V.take i)=val (4294967296:Nat) W+(4294967296:Nat)^i* (c+bw)→
  ∃c2 b2 W2,W2.length=n+1∧bf (4294967296:Nat) W2∧c2<(4294967296:Nat)∧b2≤1∧val (4294967296:Nat) W2+q* val (4294967296:Nat) V=val (4294967296:Nat) W+(4294967296:Nat)^n* (c2+b2)∧bg (aP MD t9 k 109 1) (d+1) (S1 pre.length n V (eI pre W1 post) q c bw i [])=some (.exit 2,S1 pre.length n V (eI pre W2 post) q c2 b2 n [(84, .pv (bv false))])
 |0,i,c,bw,W1,hi,hl,hd,hc,hb,he=>by
  have:i=n:=by omega
  subst this
  rw [List.take_of_length_le (by omega)] at he
  exact ⟨c,bw,W1,hl,hd,hc,hb,he,aV (an (UR k i pre.length q c bw i _ _) ⟨by simp,trivial⟩) (by simp)⟩
 |d+1,i,c,bw,W1,hi,hl,hd,hc,hb,he=>by
  obtain ⟨x,hx⟩:=get_some (l:=V) (i:=i) (by omega)
  obtain ⟨a,ha⟩:=get_some (l:=W1) (i:=i) (by omega)
  have qI:=cN dV hx
  have hab:=cN hd ha
  have fW:=O9 hc hq qI
  have hrow:aL (us V) 1 (i:Int) n [ak x]:=by have:=cQ hx rfl;rwa [hV] at this
  obtain ⟨s,hs⟩:∃s,s=(a+(4294967296:Nat)+(4294967296:Nat) - (c+q* x)%(4294967296:Nat) - bw)%(4294967296:Nat):=⟨_,rfl⟩
  obtain ⟨b2,ck⟩:∃b2,b2=if a<(c+q* x)%(4294967296:Nat)+bw then 1 else 0:=⟨_,rfl⟩
  have Ch:s<(4294967296:Nat):=by rw [hs];exact Nat.mod_lt _ (by decide)
  have Rq:b2≤1:=by rw [ck];split<;>omega
  have Wx:s+(c+q* x)%(4294967296:Nat)+bw=a+(4294967296:Nat)* b2:=by
   rw [Nat.sub_sub] at hs
   rw [ck]
   split<;>omega
  have bZ:r4 [ak a,ak ((c+q* x)%(4294967296:Nat)),ak bw]=some (one (dD s b2)):=by
   rw [hs,ck];exact n9 hab (Nat.mod_lt _ (by decide)) hb
  have hv:=gM (b:=(4294967296:Nat)) ha s
  have ht:=cy (b:=(4294967296:Nat)) hx
  have nS:val (4294967296:Nat) (W1.set i s)+q* val (4294967296:Nat) (V.take (i+1))=val (4294967296:Nat) W+(4294967296:Nat)^(i+1)* ((c+q* x) / (4294967296:Nat)+b2):=by
   have zT:=Nat.div_add_mod (c+q* x) (4294967296:Nat)
   obtain ⟨t,RP⟩:∃t,t=(c+q* x) / (4294967296:Nat):=⟨_,rfl⟩
   rw [←RP] at zT ⊢
   have k1:(4294967296:Nat)^(i+1)* (t+b2)=(4294967296:Nat)^i* ((4294967296:Nat)* t+(4294967296:Nat)* b2):=by rw [Nat.pow_succ,Nat.mul_assoc,Nat.mul_add]
   have k2:(4294967296:Nat)^i* (c+bw)+(4294967296:Nat)^i* s+(4294967296:Nat)^i* (q* x)=(4294967296:Nat)^i* ((4294967296:Nat)* t+(4294967296:Nat)* b2)+(4294967296:Nat)^i* a:=by
    rw [←Nat.mul_add,←Nat.mul_add,←Nat.mul_add];congr 1;omega
   have k3:q* ((4294967296:Nat)^i* x)=(4294967296:Nat)^i* (q* x):=by ac_rfl
   rw [k1,ht,Nat.mul_add,k3]
   omega
  obtain ⟨c3,b3,W3,z1,z2,z3,z4,z5,z6⟩:=CU k hV dV hn q hq d (i+1) ((c+q* x) / (4294967296:Nat)) b2 (W1.set i s) (by omega) (by simpa using hl) (ia hd Ch i) (Nat.div_lt_of_lt_mul fW) Rq nS
  refine ⟨c3,b3,W3,z1,z2,z3,z4,z5,bn (an (uS k n pre.length q c bw i x a (c+q* x) s b2 _ (us (eI pre (W1.set i s) post)) _) ⟨by simp;omega,hrow,bz rfl (by omega),bz (by simp) (by omega),bz (by omega) (by omega),⟨rfl,by omega⟩,iB (kG ha) (by omega),xA _,bZ,⟨rfl,by omega⟩, ?_,eZ (sC (by omega) s) (by rw [eC];omega) (by omega),by rw [sK];exact j6 _ _,rfl,aR (by omega) (by omega),trivial⟩) z6⟩
  rw [cC,eC];simp [ak,PV.cells];omega
def S2 (o n:Nat) (V U:List Nat) (q c i:Nat) (e:List (Nat×AV)):St:=⟨(0, .bs 1000000 o 1 (n+1))::(5, .pv (iv n))::(7, .pv (bC q))::(13, .pv (ak c))::(129, .pv (.sl 1 n (us V)))::(130, .pv (iv n))::(131, .pv (iv i))::e,[(1000000,us U)],[],[]⟩
theorem BW (k:Nat) (hV:V.length=n) (dV:bf (4294967296:Nat) V) (hn:n<2^40) (q:Nat):∀(d i c:Nat) (W1:List Nat),i+d=n→W1.length=n+1→bf (4294967296:Nat) W1→c≤1→val (4294967296:Nat) W1+(4294967296:Nat)^i* c=val (4294967296:Nat) W+val (4294967296:Nat) (V.take i)→
  ∃c2 W2,W2.length=n+1∧bf (4294967296:Nat) W2∧c2≤1∧val (4294967296:Nat) W2+(4294967296:Nat)^n* c2=val (4294967296:Nat) W+val (4294967296:Nat) V∧bg (aP MD t9 k 109 2) (d+1) (S2 pre.length n V (eI pre W1 post) q c i [])=some (.exit 4,S2 pre.length n V (eI pre W2 post) q c2 n [(132, .pv (bv false))])
 |0,i,c,W1,hi,hl,hd,hc,he=>by
  have:i=n:=by omega
  subst this
  rw [List.take_of_length_le (by omega)] at he
  exact ⟨c,W1,hl,hd,hc,he,aV (an (US k i pre.length q c i _ _) ⟨by simp,trivial⟩) (by simp)⟩
 |d+1,i,c,W1,hi,hl,hd,hc,he=>by
  obtain ⟨x,hx⟩:=get_some (l:=V) (i:=i) (by omega)
  obtain ⟨a,ha⟩:=get_some (l:=W1) (i:=i) (by omega)
  have qI:=cN dV hx
  have hab:=cN hd ha
  have hrow:aL (us V) 1 (i:Int) n [ak x]:=by have:=cQ hx rfl;rwa [hV] at this
  obtain ⟨s,hs⟩:∃s,s=(a+x+c)%(4294967296:Nat):=⟨_,rfl⟩
  obtain ⟨c',zS⟩:∃c',c'=(a+x+c) / (4294967296:Nat):=⟨_,rfl⟩
  have bZ:qN [ak a,ak x,ak c]=some (one (dD s c')):=by
   rw [hs,zS];exact jM hab qI (by omega)
  have hv:=gM (b:=(4294967296:Nat)) ha s
  have ht:=cy (b:=(4294967296:Nat)) hx
  have nS:val (4294967296:Nat) (W1.set i s)+(4294967296:Nat)^(i+1)* c'=val (4294967296:Nat) W+val (4294967296:Nat) (V.take (i+1)):=by
   have k1:(4294967296:Nat)^(i+1)* c'=(4294967296:Nat)^i* ((4294967296:Nat)* c'):=by rw [Nat.pow_succ,Nat.mul_assoc]
   have k2:(4294967296:Nat)^i* s+(4294967296:Nat)^i* ((4294967296:Nat)* c')=(4294967296:Nat)^i* a+(4294967296:Nat)^i* x+(4294967296:Nat)^i* c:=by
    rw [←Nat.mul_add,←Nat.mul_add,←Nat.mul_add];congr 1;omega
   rw [k1,ht]
   omega
  obtain ⟨c3,W3,z1,z2,z4,z5,z6⟩:=BW k hV dV hn q d (i+1) c' (W1.set i s) (by omega) (by simpa using hl) (ia hd (by omega) i) (by omega) nS
  refine ⟨c3,W3,z1,z2,z4,z5,bn (an (UT k n pre.length q c i x a s c' _ (us (eI pre (W1.set i s) post)) _) ⟨by simp;omega,hrow,⟨rfl,by omega⟩,iB (kG ha) (by omega),bZ,⟨rfl,by omega⟩, ?_,eZ (sC (by omega) s) (by rw [eC];omega) (by omega),aR (by omega) (by omega),trivial⟩) z6⟩
  rw [cC,eC];simp [ak,PV.cells];omega
theorem HQ (h:jB pre W post V n a b c v1 v2):jb P0 109 [.g (us (eI pre W post)) pre.length 1 (n+1), .p (.sl 1 n (us V))] (.pv (ak (val (4294967296:Nat) W / val (4294967296:Nat) V))) (us (eI pre (fd (4294967296:Nat) (n+1) (val (4294967296:Nat) W%val (4294967296:Nat) V)) post)):=by
 have hn:=h.hn
 have Cq:=h.Cq
 have ha:=cN h.dW h.ga
 have hb:=cN h.dW h.gb
 have cT:=h.cT
 have Y4:=h.win.Es
 have Io:a* (4294967296:Nat)+b<(4294967296:Nat)* (4294967296:Nat):=by omega
 have Wt:(a* (4294967296:Nat)+b) / v1<(4294967296:Nat)* (4294967296:Nat):=Nat.lt_of_le_of_lt (Nat.div_le_self _ _) Io
 have hrt:(a* (4294967296:Nat)+b)%v1<v1:=Nat.mod_lt _ Y4
 obtain ⟨q2,r2,Wn,hge,hle,e2,nS,hg⟩:=guess h (n+3) 2 _ _ [] (.inl rfl) h.win.start Wt (by omega) (by have:=h.top;omega)
 have hg:=bP (show 2+1≤n+3 by omega) hg
 obtain ⟨c2,b2,W2,l2,d2,gE,ck,js,w7⟩:=CU (pre:=pre) (W:=W) (post:=post) (n+3) h.hV h.dV Cq q2 Wn n 0 0 0 W (by omega) h.hW h.dW (by decide) (by omega) (by simp [val])
 have w7:=bP (show n+1≤n+3 by omega) w7
 obtain ⟨x,hx⟩:=get_some (l:=W2) (i:=n) (by omega)
 have qI:=cN d2 hx
 obtain ⟨s,hs⟩:∃s,s=(x+(4294967296:Nat)+(4294967296:Nat) - c2 - b2)%(4294967296:Nat):=⟨_,rfl⟩
 obtain ⟨b',hb'⟩:∃b',b'=if x<c2+b2 then 1 else 0:=⟨_,rfl⟩
 have Ch:s<(4294967296:Nat):=by rw [hs];exact Nat.mod_lt _ (by decide)
 have Wx:s+c2+b2=x+(4294967296:Nat)* b':=by
  rw [Nat.sub_sub] at hs
  rw [hb']
  split<;>omega
 have bZ:r4 [ak x,ak c2,ak b2]=some (one (dD s b')):=by
  rw [hs,hb'];exact n9 qI gE ck
 have tq:=gM (b:=(4294967296:Nat)) hx s
 have Fb:val (4294967296:Nat) (W2.set n s)+q2* val (4294967296:Nat) V=val (4294967296:Nat) W+(4294967296:Nat)^(n+1)* b':=by
  have k1:(4294967296:Nat)^(n+1)* b'=(4294967296:Nat)^n* ((4294967296:Nat)* b'):=by rw [Nat.pow_succ,Nat.mul_assoc]
  have k2:(4294967296:Nat)^n* (c2+b2)+(4294967296:Nat)^n* s=(4294967296:Nat)^n* ((4294967296:Nat)* b')+(4294967296:Nat)^n* x:=by
   rw [←Nat.mul_add,←Nat.mul_add];congr 1;omega
  rw [k1];omega
 have d3:bf (4294967296:Nat) (W2.set n s):=ia d2 Ch n
 have l3:(W2.set n s).length=n+1:=by simpa using l2
 have M7:=cY d3
 rw [l3] at M7
 have FI:(eI pre W2 post).length=pre.length+(n+1)+post.length:=by rw [eC,l2]
 have JL:=h.win.xz
 have zT:=Nat.div_add_mod (val (4294967296:Nat) W) (val (4294967296:Nat) V)
 have hml:=Nat.mod_lt (val (4294967296:Nat) W) JL
 have Nu:=cY h.dW
 rw [h.hW] at Nu
 have Kb:IntKind.u64.wrap ((BitVec.ofInt IntKind.u64.bits ((2^32* a:Nat):Int)|||BitVec.ofInt IntKind.u64.bits (b:Int)).toNat:Int)=((a* (4294967296:Nat)+b:Nat):Int):=nh (r:=32) (by omega) (by omega) _ (by omega)
 have JY:Ld MD.P 111 (us (eI pre W post)) (pre.length+n* 1) (ak a):=iB (kG h.ga) (by omega)
 have JZ:Ld MD.P 111 (us (eI pre W post)) (pre.length+(n - 1)* 1) (ak b):=iB (kG h.gb) (by omega)
 have J1:Ld MD.P 111 (us (eI pre W2 post)) (pre.length+n* 1) (ak x):=iB (kG hx) (by omega)
 have w3:cg (us (eI pre W2 post)) (pre.length+n* 1) [ak s] (us (eI pre (W2.set n s) post)):=eZ (sC (by omega) s) (by rw [FI];omega) (by omega)
 have hf3:(W2.set n s).all (fun x=>decide (x<(4294967296:Nat)))=true:=by
  rw [List.all_eq_true];intro y hy;simpa using d3 y hy
 have w9:∀l:List Nat,(us l).all cJ=true:=by
  intro l
  rw [List.all_eq_true]
  intro y hy
  simp only [us,List.mem_map] at hy
  obtain ⟨z,_,rfl⟩:=hy
  rfl
 rcases Nat.eq_zero_or_pos b' with hb0|hb0
 · rw [hb0] at bZ Fb
   have hq:q2=val (4294967296:Nat) W / val (4294967296:Nat) V:=by
    have:q2≤val (4294967296:Nat) W / val (4294967296:Nat) V:=(Nat.le_div_iff_mul_le JL).2 (by omega)
    omega
   have Im:val (4294967296:Nat) (W2.set n s)=val (4294967296:Nat) W%val (4294967296:Nat) V:=by
    rw [hq,Nat.mul_comm] at Fb;omega
   have jQ:=jc (b:=(4294967296:Nat)) (by decide) d3 l3 Im
   rw [←jQ,←hq]
   rcases nS with rfl|rfl
   · exact jJ af yY (by rfl) (UH (n+3) n pre.length a b (a* (4294967296:Nat)+b) v1 ((a* (4294967296:Nat)+b) / v1) ((a* (4294967296:Nat)+b)%v1) q2 r2 x c2 b2 s _ _ _ _) ⟨w9 _,by rw [cC,cC,eC,eC,l3,h.hW],⟨rfl,by omega⟩,JY,bz rfl (by omega),kj ha,rfl,fR (by omega) (by omega),⟨rfl,by omega⟩,JZ,bz rfl (by omega),Kb,fR (by omega) (by omega),h.r1,bz rfl (by omega),bz (gX _ _) (by omega),by simp;omega,fR (by omega) (by omega),h.r1,bz rfl (by omega),fl _ _,by simp;omega,hg,w7,⟨rfl,by omega⟩,J1,iw rfl (by omega),bZ,⟨rfl,by omega⟩,by rw [cC,FI];simp [ak,PV.cells];omega,w3,rfl,iw rfl (by omega),trivial⟩
   · exact jJ af yY (by rfl) (UI (n+3) n pre.length a b (a* (4294967296:Nat)+b) v1 ((a* (4294967296:Nat)+b) / v1) ((a* (4294967296:Nat)+b)%v1) q2 r2 x c2 b2 s _ _ _ _) ⟨w9 _,by rw [cC,cC,eC,eC,l3,h.hW],⟨rfl,by omega⟩,JY,bz rfl (by omega),kj ha,rfl,fR (by omega) (by omega),⟨rfl,by omega⟩,JZ,bz rfl (by omega),Kb,fR (by omega) (by omega),h.r1,bz rfl (by omega),bz (gX _ _) (by omega),by simp;omega,fR (by omega) (by omega),h.r1,bz rfl (by omega),fl _ _,by simp;omega,hg,w7,⟨rfl,by omega⟩,J1,iw rfl (by omega),bZ,⟨rfl,by omega⟩,by rw [cC,FI];simp [ak,PV.cells];omega,w3,rfl,iw rfl (by omega),trivial⟩
 · have fG:b'=1:=by rw [hb'];rw [hb'] at hb0;split<;>simp_all
   rw [fG] at bZ Fb
   have hq:q2=val (4294967296:Nat) W / val (4294967296:Nat) V+1:=by
    rcases Nat.lt_or_ge (val (4294967296:Nat) W / val (4294967296:Nat) V) q2 with h1|h1
    · omega
    · have h2:q2* val (4294967296:Nat) V≤val (4294967296:Nat) W:=by
        have:=Nat.mul_le_mul_right (val (4294967296:Nat) V) h1
        have:=h.win.Ki
        omega
      omega
   obtain ⟨c3,W4,l4,d4,Qi,FA,DB⟩:=BW (pre:=pre) (W:=W2.set n s) (post:=post) (n+3) h.hV h.dV Cq (q2 - 1) n 0 0 (W2.set n s) (by omega) l3 d3 (by omega) (by simp [val])
   have DB:=bP (show n+1≤n+3 by omega) DB
   obtain ⟨y,hy⟩:=get_some (l:=W4) (i:=n) (by omega)
   have hyb:=cN d4 hy
   obtain ⟨z,hz⟩:∃z,z=(y+c3)%(4294967296:Nat):=⟨_,rfl⟩
   have WJ:z<(4294967296:Nat):=by rw [hz];exact Nat.mod_lt _ (by decide)
   have Qy:=gM (b:=(4294967296:Nat)) hy z
   have d5:bf (4294967296:Nat) (W4.set n z):=ia d4 WJ n
   have l5:(W4.set n z).length=n+1:=by simpa using l4
   have M8:=cY d5
   rw [l5] at M8
   have It:(eI pre W4 post).length=pre.length+(n+1)+post.length:=by rw [eC,l4]
   have MF:val (4294967296:Nat) (W4.set n z)+(4294967296:Nat)^(n+1)* ((y+c3) / (4294967296:Nat))=val (4294967296:Nat) (W2.set n s)+val (4294967296:Nat) V:=by
    obtain ⟨t,ht⟩:∃t,t=(y+c3) / (4294967296:Nat):=⟨_,rfl⟩
    rw [←ht]
    have k1:(4294967296:Nat)^(n+1)* t=(4294967296:Nat)^n* ((4294967296:Nat)* t):=by rw [Nat.pow_succ,Nat.mul_assoc]
    have k2:(4294967296:Nat)^n* z+(4294967296:Nat)^n* ((4294967296:Nat)* t)=(4294967296:Nat)^n* y+(4294967296:Nat)^n* c3:=by
     rw [←Nat.mul_add,←Nat.mul_add];congr 1;omega
    rw [k1];omega
   have Im:val (4294967296:Nat) (W4.set n z)=val (4294967296:Nat) W%val (4294967296:Nat) V:=by
    obtain ⟨t,ht⟩:∃t,t=(y+c3) / (4294967296:Nat):=⟨_,rfl⟩
    rw [←ht] at MF
    have e:(val (4294967296:Nat) W / val (4294967296:Nat) V+1)* val (4294967296:Nat) V=val (4294967296:Nat) V* (val (4294967296:Nat) W / val (4294967296:Nat) V)+val (4294967296:Nat) V:=by rw [Nat.add_mul,Nat.one_mul,Nat.mul_comm]
    rw [hq,e] at Fb
    obtain ⟨P,hP⟩:∃P,P=(4294967296:Nat)^(n+1):=⟨_,rfl⟩
    rw [←hP] at Fb MF M8 M7 Nu
    rcases Nat.lt_trichotomy t 1 with h1|h1|h1
    · have:t=0:=by omega
      subst this;omega
    · rw [h1] at MF;omega
    · have:P* 2≤P* t:=Nat.mul_le_mul_left _ h1
      omega
   have jQ:=jc (b:=(4294967296:Nat)) (by decide) d5 l5 Im
   have Wq:val (4294967296:Nat) W / val (4294967296:Nat) V=q2 - 1:=by rw [hq,Nat.add_sub_cancel]
   rw [←jQ,Wq]
   have QF:Ld MD.P 111 (us (eI pre W4 post)) (pre.length+n* 1) (ak y):=iB (kG hy) (by omega)
   have w5:cg (us (eI pre W4 post)) (pre.length+n* 1) [ak z] (us (eI pre (W4.set n z) post)):=eZ (sC (by omega) z) (by rw [It];omega) (by omega)
   have N3:IntKind.u32.wrap ((y:Int)+(c3:Int))=(z:Int):=by rw [←Int.natCast_add,xA,hz]
   have N2:IntKind.u64.wrap ((q2:Int) - (1:Int))=((q2 - 1:Nat):Int):=bz (by omega) (by omega)
   rcases nS with rfl|rfl
   · exact jJ af yY (by rfl) (UJ (n+3) n pre.length a b (a* (4294967296:Nat)+b) v1 ((a* (4294967296:Nat)+b) / v1) ((a* (4294967296:Nat)+b)%v1) q2 r2 x c2 b2 s (q2 - 1) y c3 z _ _ _ _ _ _) ⟨w9 _,by rw [cC,cC,eC,eC,l5,h.hW],⟨rfl,by omega⟩,JY,bz rfl (by omega),kj ha,rfl,fR (by omega) (by omega),⟨rfl,by omega⟩,JZ,bz rfl (by omega),Kb,fR (by omega) (by omega),h.r1,bz rfl (by omega),bz (gX _ _) (by omega),by simp;omega,fR (by omega) (by omega),h.r1,bz rfl (by omega),fl _ _,by simp;omega,hg,w7,⟨rfl,by omega⟩,J1,iw rfl (by omega),bZ,⟨rfl,by omega⟩,by rw [cC,FI];simp [ak,PV.cells];omega,w3,rfl,N2,DB,⟨rfl,by omega⟩,QF,N3,⟨rfl,by omega⟩,by rw [cC,It];simp [PV.cells];omega,w5,iw rfl (by omega),trivial⟩
   · exact jJ af yY (by rfl) (UK (n+3) n pre.length a b (a* (4294967296:Nat)+b) v1 ((a* (4294967296:Nat)+b) / v1) ((a* (4294967296:Nat)+b)%v1) q2 r2 x c2 b2 s (q2 - 1) y c3 z _ _ _ _ _ _) ⟨w9 _,by rw [cC,cC,eC,eC,l5,h.hW],⟨rfl,by omega⟩,JY,bz rfl (by omega),kj ha,rfl,fR (by omega) (by omega),⟨rfl,by omega⟩,JZ,bz rfl (by omega),Kb,fR (by omega) (by omega),h.r1,bz rfl (by omega),bz (gX _ _) (by omega),by simp;omega,fR (by omega) (by omega),h.r1,bz rfl (by omega),fl _ _,by simp;omega,hg,w7,⟨rfl,by omega⟩,J1,iw rfl (by omega),bZ,⟨rfl,by omega⟩,by rw [cC,FI];simp [ak,PV.cells];omega,w3,rfl,N2,DB,⟨rfl,by omega⟩,QF,N3,⟨rfl,by omega⟩,by rw [cC,It];simp [PV.cells];omega,w5,iw rfl (by omega),trivial⟩
end
end Go.Proofs.YtibbgjafjhcemaaDoor.Cul
namespace Go.Proofs.YtibbgjafjhcemaaDoor.Cul
theorem Cc (b:Nat):∀{n N v:Nat},n≤N→(fd b N v).take n=fd b n v
 |0,_,_,_=>by simp [fd]
 |n+1,0,_,h=>by omega
 |n+1,N+1,v,h=>by simp only [fd,List.take_succ_cons];rw [Cc b (by omega)]
theorem CX {b:Nat} (pre W post:List Nat):val b (pre++W++post)=val b pre+b^pre.length* (val b W+b^W.length* val b post):=by
 rw [List.append_assoc,jh,jh]
def lu (B N A V j:Nat):List Nat:=fd B N (A%B^j+B^j* (A / B^j%V))
def lq (B c A V j:Nat):List Nat:=fd B c (B^j* (A / B^j / V))
def lw (B A V j:Nat):Nat:=A / B^j%B+B* (A / B^(j+1)%V)
section
variable {B N A V j n:Nat}
theorem DK (hB:2≤B) (hV:0<V):lw B A V j<B* V:=by
 unfold lw
 have h1:A / B^j%B<B:=Nat.mod_lt _ (by omega)
 have h2:A / B^(j+1)%V+1≤V:=Nat.mod_lt _ hV
 have:=Nat.mul_le_mul_left B h2
 rw [Nat.mul_add] at this;omega
theorem HP (hB:2≤B):A / B^j=B* (A / B^(j+1))+A / B^j%B:=by
 rw [Nat.pow_succ,←Nat.div_div_eq_div_mul];exact (Nat.div_add_mod _ _).symm
theorem zy (hB:2≤B):A / B^j=B* (A / B^(j+1) / V)* V+lw B A V j:=by
 have h1:=HP (A:=A) (j:=j) hB
 have h2:=Nat.div_add_mod (A / B^(j+1)) V
 unfold lw
 have h3:B* (A / B^(j+1))=B* (A / B^(j+1) / V)* V+B* (A / B^(j+1)%V):=by
  rw [Nat.mul_assoc,Nat.mul_comm _ V,←Nat.mul_add,h2]
 omega
theorem Ok (hB:2≤B) (hV:0<V):A / B^j / V=B* (A / B^(j+1) / V)+lw B A V j / V:=by
 rw [zy (V:=V) hB,Nat.add_comm,Nat.add_mul_div_right _ _ hV,Nat.add_comm]
theorem Oq (hB:2≤B):A / B^j%V=lw B A V j%V:=by
 rw [zy (V:=V) hB,Nat.add_comm,Nat.add_mul_mod_self_right]
theorem NN (hB:2≤B) (hV:0<V) (ry:V≤B^n) (hN:j+n≤N):val B (lu B N A V j)=A%B^j+B^j* (A / B^j%V):=by
 unfold lu
 rw [jo (by omega),Nat.mod_eq_of_lt]
 have h1:A%B^j<B^j:=Nat.mod_lt _ (Nat.pow_pos (by omega))
 have h2:A / B^j%V+1≤B^n:=Nat.le_trans (Nat.mod_lt _ hV) ry
 have h3:=Nat.mul_le_mul_left (B^j) h2
 rw [←Nat.pow_add,Nat.mul_add,Nat.mul_one] at h3
 have h4:B^(j+n)≤B^N:=Nat.pow_le_pow_right (by omega) hN
 omega
theorem Lh (hB:2≤B) (hV:0<V) (ry:V≤B^n) (hN:j+1+n≤N):val B (lu B N A V (j+1))=A%B^j+B^j* lw B A V j:=by
 rw [NN hB hV ry hN,lw,Nat.mul_add,←Nat.mul_assoc,←Nat.pow_succ,Nat.pow_succ,Nat.mod_mul]
 omega
theorem yA {x y p P:Nat} (h:x+P* y=p) (hx:x<P):x=p%P∧y=p / P:=by
 subst h
 rw [Nat.add_mul_mod_self_left,Nat.mod_eq_of_lt hx,Nat.add_mul_div_left _ _ (by omega),Nat.div_eq_of_lt hx]
 exact ⟨rfl,by omega⟩
theorem Hy (hB:2≤B) (hV:0<V) (ry:V≤B^n) (hN:j+n+1≤N):val B ((lu B N A V (j+1)).take j)=A%B^j∧val B (((lu B N A V (j+1)).drop j).take (n+1))=lw B A V j∧val B ((lu B N A V (j+1)).drop (j+n+1))=0:=by
 have hl:(lu B N A V (j+1)).length=N:=bG _ _ _
 have hd:bf B (lu B N A V (j+1)):=fV (by omega) _ _
 have he:lu B N A V (j+1)=(lu B N A V (j+1)).take j++((lu B N A V (j+1)).drop j).take (n+1)++(lu B N A V (j+1)).drop (j+n+1):=by
  rw [List.append_assoc]
  have:(lu B N A V (j+1)).drop (j+n+1)=((lu B N A V (j+1)).drop j).drop (n+1):=by rw [List.drop_drop];rfl
  rw [this,List.take_append_drop,List.take_append_drop]
 have h1:=CX (b:=B) ((lu B N A V (j+1)).take j) (((lu B N A V (j+1)).drop j).take (n+1)) ((lu B N A V (j+1)).drop (j+n+1))
 rw [←he,Lh hB hV ry (by omega)] at h1
 have l1:((lu B N A V (j+1)).take j).length=j:=by rw [List.length_take,hl];omega
 have l2:(((lu B N A V (j+1)).drop j).take (n+1)).length=n+1:=by rw [List.length_take,List.length_drop,hl];omega
 have b1:=cY (eU hd j)
 have b2:=cY (eU (jE hd j) (n+1))
 rw [l1] at b1 h1
 rw [l2] at b2 h1
 have hm:A%B^j<B^j:=Nat.mod_lt _ (Nat.pow_pos (by omega))
 obtain ⟨k1,k2⟩:=yA h1.symm b1
 have k3:(A%B^j+B^j* lw B A V j)%B^j=A%B^j:=by rw [Nat.add_mul_mod_self_left,Nat.mod_eq_of_lt hm]
 have k4:(A%B^j+B^j* lw B A V j) / B^j=lw B A V j:=by
  rw [Nat.add_mul_div_left _ _ (Nat.pow_pos (by omega)),Nat.div_eq_of_lt hm,Nat.zero_add]
 rw [k3] at k1;rw [k4] at k2
 have hw:lw B A V j<B^(n+1):=by
  have h3:=DK (A:=A) (j:=j) hB hV
  have h4:B* V≤B* B^n:=Nat.mul_le_mul_left _ ry
  rw [Nat.pow_succ,Nat.mul_comm];omega
 obtain ⟨k5,k6⟩:=yA k2 b2
 rw [Nat.mod_eq_of_lt hw] at k5
 rw [Nat.div_eq_of_lt hw] at k6
 exact ⟨k1,k5,k6⟩
theorem Lg (hB:2≤B) (hV:0<V) (ry:V≤B^n) (hN:j+n+1≤N):(lu B N A V (j+1)).take j++fd B (n+1) (lw B A V j%V)++(lu B N A V (j+1)).drop (j+n+1)=lu B N A V j:=by
 have hl:(lu B N A V (j+1)).length=N:=bG _ _ _
 have hd:bf B (lu B N A V (j+1)):=fV (by omega) _ _
 obtain ⟨k1,k2,k3⟩:=Hy (A:=A) hB hV ry hN
 have l1:((lu B N A V (j+1)).take j).length=j:=by rw [List.length_take,hl];omega
 apply jc (by omega)
 · exact ((eU hd j).app (fV (by omega) _ _)).app (jE hd _)
 · simp [bG,l1,hl];omega
 · rw [CX,k1,k3,l1,jo (by omega),Nat.mul_zero,Nat.add_zero,Oq hB]
   congr 2
   apply Nat.mod_eq_of_lt
   have h1:lw B A V j%V<V:=Nat.mod_lt _ hV
   have h2:B^n≤B^(n+1):=Nat.pow_le_pow_right (by omega) (by omega)
   omega
theorem J9 {c:Nat} (hB:2≤B) (hV:0<V) (hA:A<B^c* V):B^j* (A / B^j / V)<B^c:=by
 have h1:B^j* (A / B^j / V)* V≤A:=by
  have h2:A / B^j / V* V≤A / B^j:=Nat.div_mul_le_self _ _
  have h3:B^j* (A / B^j)≤A:=Nat.mul_div_le _ _
  have h4:=Nat.mul_le_mul_left (B^j) h2
  rw [Nat.mul_assoc];omega
 exact Nat.lt_of_mul_lt_mul_right (Nat.lt_of_le_of_lt h1 hA)
theorem NM {c:Nat} (hB:2≤B) (hj:j<c):(lq B c A V (j+1))[j]? =some 0:=by
 unfold lq
 rw [g8 hj,Nat.pow_succ,Nat.mul_assoc,Nat.mul_div_cancel_left _ (Nat.pow_pos (by omega)),Nat.mul_mod_right]
theorem Lf {c:Nat} (hB:2≤B) (hV:0<V) (hA:A<B^c* V) (hj:j<c):(lq B c A V (j+1)).set j (lw B A V j / V)=lq B c A V j:=by
 have hq:lw B A V j / V<B:=(Nat.div_lt_iff_lt_mul hV).2 (DK hB hV)
 apply jc (by omega)
 · exact ia (fV (by omega) _ _) hq _
 · simp [lq,bG]
 · have h1:=gM (b:=B) (NM (A:=A) (V:=V) hB hj) (lw B A V j / V)
   rw [Nat.mul_zero,Nat.add_zero] at h1
   rw [h1]
   have h2:val B (lq B c A V (j+1))=B^(j+1)* (A / B^(j+1) / V):=by
    rw [lq,jo (by omega),Nat.mod_eq_of_lt (J9 hB hV hA)]
   rw [h2,Ok (j:=j) hB hV,Nat.mul_add,←Nat.mul_assoc (B^j) B,←Nat.pow_succ]
end
def mix (B N r R i:Nat):List Nat:=(fd B N r).take i++(fd B N R).drop i
theorem Lm {B N r R i:Nat} (h:i≤N):(mix B N r R i).length=N:=by simp [mix,bG];omega
theorem Co {B N r R i j:Nat} (h:i≤j) (hj:j<N):(mix B N r R i)[j]? =some (R / B^j%B):=by
 have l:((fd B N r).take i).length=i:=by rw [List.length_take,bG];omega
 rw [mix,List.getElem?_append_right (by omega),l,List.getElem?_drop,show i+(j - i)=j by omega,g8 hj]
theorem Iy {B N r R i:Nat} (h:i<N):(mix B N r R i).set i (r / B^i%B)=mix B N r R (i+1):=by
 have l:((fd B N r).take i).length=i:=by rw [List.length_take,bG];omega
 have e:(fd B N R).drop i=R / B^i%B::(fd B N R).drop (i+1):=by
  have h1:i<(fd B N R).length:=by rw [bG];exact h
  rw [List.drop_eq_getElem_cons h1]
  have:=g8 (b:=B) (v:=R) h
  rw [List.getElem?_eq_getElem h1] at this
  simp only [Option.some.injEq] at this
  rw [this]
 have e2:(fd B N r).take (i+1)=(fd B N r).take i++[r / B^i%B]:=by
  rw [List.take_add_one,g8 h];rfl
 rw [mix,List.set_append_right _ _ (by omega),l,Nat.sub_self,e,List.set_cons_zero,mix,e2,List.append_assoc]
 rfl
theorem GQ {B p X:Nat} (hp:0<p) (hd:p∣B):(X%(B* B)) / p%B=X / p%B:=by
 obtain ⟨k,rfl⟩:=hd
 rw [show p* k* (p* k)=p* (k* p* k) by ac_rfl,Nat.mod_mul_right_div_self]
 rw [show k* p* k=(p* k)* k by ac_rfl,Nat.mod_mul_right_mod]
end Go.Proofs.YtibbgjafjhcemaaDoor.Cul
set_option maxHeartbeats 2000000
namespace Go.Proofs.YtibbgjafjhcemaaDoor.Cul
open Go Go.RowKit
noncomputable def wN:List PV→Option RV:=bJ (fun x:List Nat×List Nat=>(bf (4294967296:Nat) x.1∧bf (4294967296:Nat) x.2)∧x.1.length<2^40∧x.2.length<2^40) (fun x=>[nat x.1,nat x.2]) (fun x=>one (iv (jj x.1 x.2)))
noncomputable def GU:List PV→Option RV:=bJ (fun x:List Nat×Nat=>(x.1≠[]∧bf (4294967296:Nat) x.1∧x.1.length<2^40)∧0<x.2∧x.2<(4294967296:Nat)) (fun x=>[nat x.1,ak x.2]) (fun x=>one (.aG [nat (dg (4294967296:Nat) (val (4294967296:Nat) x.1 / x.2)),ak (val (4294967296:Nat) x.1%x.2)]))
noncomputable def NO:List PV→Option RV:=bJ (fun a:Nat=>a<(4294967296:Nat)) (fun a=>[ak a]) (fun a=>one (iv ((32 - (dg 2 a).length:Nat):Nat)))
noncomputable def vV:List PV→Option RV:=bJ (fun x:List Nat×Nat=>bf (4294967296:Nat) x.1∧x.1.length<2^40∧x.2<32) (fun x=>[nat x.1,iv x.2]) (fun x=>⟨.sl 1 (x.1.length+1) (us (fd (4294967296:Nat) (x.1.length+1) (val (4294967296:Nat) x.1* 2^x.2))),some 1⟩)
structure y9 where
 U:List Nat
 o:Nat
 n:Nat
 V:List Nat
def y9.W (x:y9):List Nat:=(x.U.drop x.o).take (x.n+1)
noncomputable def EO:List MA→Option (MR×List PV):=yz (fun x:y9=>x.o+x.n+1≤x.U.length∧∃a b c v1 v2,jB (x.U.take x.o) x.W (x.U.drop (x.o+x.n+1)) x.V x.n a b c v1 v2) (fun x=>[.g (us x.U) x.o 1 (x.n+1), .p (.sl 1 x.n (us x.V))]) (fun x=>(.pv (ak (val (4294967296:Nat) x.W / val (4294967296:Nat) x.V)),us (eI (x.U.take x.o) (fd (4294967296:Nat) (x.n+1) (val (4294967296:Nat) x.W%val (4294967296:Nat) x.V)) (x.U.drop (x.o+x.n+1)))))
noncomputable def t10:Cl:=xy [(98,wN),(106,GU),(107,NO),(108,vV),(95,jx)] [(109,EO)] [(108,49)]
theorem UU (k n m:Nat) (cs ds:List PV) (c:Int):ay MD t10 k 93 [.sl 1 n cs, .sl 1 m ds] [.r (one (iv c)), .c true]=
 some (RV.mk (PV.aG [PV.lit (Value.slice none 0 0),PV.sl 1 n cs]) none,[aa t10 98 [PV.sl 1 n cs,PV.sl 1 m ds] (RV.mk (PV.lit (Value.int IntKind.i64 c)) none),decide (c<(0:Int))=true]):=by kernel_rfl
theorem UW (k n m d r:Nat) (cs ds:List PV) (c:Int) (p q:PV):ay MD t10 k 93 [.sl 1 n cs, .sl 1 m ds] [.r (one (iv c)), .c false, .c true, .a 27 [ak d], .r (one (.aG [q,ak r])), .r (one p)]=
 some (RV.mk (PV.aG [q,p]) none,[aa t10 98 [PV.sl 1 n cs,PV.sl 1 m ds] (RV.mk (PV.lit (Value.int IntKind.i64 c)) none),decide (c<(0:Int))=false,((↑m:Int)==(1:Int))=true,aL ds 1 (0:Int) m [PV.lit (Value.int IntKind.u32 (↑d:Int))],aa t10 106 [PV.sl 1 n cs,PV.lit (Value.int IntKind.u32 (↑d:Int))] (RV.mk (PV.aG [q,PV.lit (Value.int IntKind.u32 (↑r:Int))]) none),aa t10 95 [PV.sl 1 1 [PV.lit (Value.int IntKind.u32 (↑r:Int))]] (RV.mk p none)]):=by kernel_rfl
theorem UX (k m n tp s cnt:Nat) (cs ds O6 vs u0 u1 u2 zs qs rs AP:List PV) (c:Int) (p q:PV):ay MD t10 k 93 [.sl 1 m cs, .sl 1 n ds] [.r (one (iv c)), .c false, .c false, .i 39 (n - 1:Nat), .a 40 [ak tp], .r (one (iv s)), .r ⟨.sl 1 (n+1) O6,some 1⟩, .r (one (.sl 1 n vs)), .r ⟨.sl 1 (m+1) u0,some 1⟩, .i 55 cnt, .c false, .f zs, .i 60 cnt, .i 61 (cnt - 1:Nat), .l (.exit 0) ⟨[(8, .pv (iv s)),(9, .pv (.sl 1 n vs)),(10, .bs 49 0 1 (m+1)),(11, .pv (iv n)),(12, .bs 56 0 1 cnt),(13, .pv (iv (-1))),(63, .pv (bv false))],[(49,u1),(56,qs)],[],[]⟩, .o 80 0 n, .l (.exit 2) ⟨[(8, .pv (iv s)),(10, .bs 49 0 1 (m+1)),(12, .bs 56 0 1 cnt),(14, .bs 49 0 1 n),(82, .pv (iv n)),(83, .pv (iv n)),(84, .pv (bv false))],[(56,qs),(49,u2)],[],[]⟩, .f AP, .f rs, .r (one p), .r (one q)]=
 some (RV.mk (PV.aG [p,q]) none,[aa t10 98 [PV.sl 1 m cs,PV.sl 1 n ds] (RV.mk (PV.lit (Value.int IntKind.i64 c)) none),decide (c<(0:Int))=false,((↑n:Int)==(1:Int))=false,IntKind.i64.wrap ((↑n:Int) - (1:Int))=(↑(n - (1:Nat)):Int),aL ds 1 (↑(n - (1:Nat)):Int) n [PV.lit (Value.int IntKind.u32 (↑tp:Int))],aa t10 107 [PV.lit (Value.int IntKind.u32 (↑tp:Int))] (RV.mk (PV.lit (Value.int IntKind.i64 (↑s:Int))) none),aa t10 108 [PV.sl 1 n ds,PV.lit (Value.int IntKind.i64 (↑s:Int))] (RV.mk (PV.sl 1 (n+(1:Nat)) O6) (some 1)),aa t10 95 [PV.sl 1 (n+(1:Nat)) O6] (RV.mk (PV.sl 1 n vs) none),aa t10 108 [PV.sl 1 m cs,PV.lit (Value.int IntKind.i64 (↑s:Int))] (RV.mk (PV.sl 1 (m+(1:Nat)) u0) (some 1)),u0.all cJ=true,IntKind.i64.wrap ((↑(m+(1:Nat)):Int) - (↑n:Int))=(↑cnt:Int),(0:Int)≤(↑cnt:Int)∧(↑cnt:Int)≤(↑cnt:Int)∧(↑cnt:Int)* (↑(MD.P.bytesOf (111:Nat)):Int)≤(↑room:Int)∧(↑cnt:Int)≤(↑room:Int),decide ((↑cnt:Int)=(0:Int))=false,fP [PV.lit (Value.int IntKind.u32 (0:Int))] cnt zs,IntKind.i64.wrap ((↑(m+(1:Nat)):Int) - (↑n:Int))=(↑cnt:Int),IntKind.i64.wrap ((↑cnt:Int) - (1:Int))=(↑(cnt - (1:Nat)):Int),aW MD t10 k (93:Nat) (0:Nat) (St.mk [(8,AV.pv (PV.lit (Value.int IntKind.i64 (↑s:Int)))),(9,AV.pv (PV.sl 1 n vs)),(10,AV.bs 49 0 1 (m+(1:Nat))),(11,AV.pv (PV.lit (Value.int IntKind.i64 (↑n:Int)))),(12,AV.bs 56 0 1 cnt),(13,AV.pv (PV.lit (Value.int IntKind.i64 (↑(cnt - (1:Nat)):Int))))] [(49,u0),(56,zs)] [] []) (Xt.exit 0) (St.mk [(8,AV.pv (PV.lit (Value.int IntKind.i64 (↑s:Int)))),(9,AV.pv (PV.sl 1 n vs)),(10,AV.bs 49 0 1 (m+(1:Nat))),(11,AV.pv (PV.lit (Value.int IntKind.i64 (↑n:Int)))),(12,AV.bs 56 0 1 cnt),(13,AV.pv (PV.lit (Value.int IntKind.i64 (-1:Int)))),(63,AV.pv (PV.lit (Value.bool false)))] [(49,u1),(56,qs)] [] []),(0:Int)≤(0:Int)∧(0:Int)≤(↑n:Int)∧(↑n:Int)≤(↑(m+(1:Nat)):Int),0=0,n=n,aW MD t10 k (93:Nat) (1:Nat) (St.mk [(8,AV.pv (PV.lit (Value.int IntKind.i64 (↑s:Int)))),(10,AV.bs 49 0 1 (m+(1:Nat))),(12,AV.bs 56 0 1 cnt),(14,AV.bs 49 0 1 n),(82,AV.pv (PV.lit (Value.int IntKind.i64 (↑n:Int)))),(83,AV.pv (PV.lit (Value.int IntKind.i64 (0:Int))))] [(56,qs),(49,u1)] [] []) (Xt.exit 2) (St.mk [(8,AV.pv (PV.lit (Value.int IntKind.i64 (↑s:Int)))),(10,AV.bs 49 0 1 (m+(1:Nat))),(12,AV.bs 56 0 1 cnt),(14,AV.bs 49 0 1 n),(82,AV.pv (PV.lit (Value.int IntKind.i64 (↑n:Int)))),(83,AV.pv (PV.lit (Value.int IntKind.i64 (↑n:Int)))),(84,AV.pv (PV.lit (Value.bool false)))] [(56,qs),(49,u2)] [] []),cH qs 0 (cnt* (1:Nat)) AP,cH u2 0 (n* (1:Nat)) rs,aa t10 95 [PV.sl 1 cnt AP] (RV.mk p none),aa t10 95 [PV.sl 1 n rs] (RV.mk q none)]):=by kernel_rfl
theorem UL (k m n s cnt:Nat) (vs u qs:List PV) (j:Int):aA MD t10 k 93 0 ⟨[(8, .pv (iv s)),(9, .pv (.sl 1 n vs)),(10, .bs 49 0 1 (m+1)),(11, .pv (iv n)),(12, .bs 56 0 1 cnt),(13, .pv (iv j))],[(49,u),(56,qs)],[],[]⟩ [.c false]=
 some ((Xt.exit 0,St.mk [(8,AV.pv (PV.lit (Value.int IntKind.i64 (↑s:Int)))),(9,AV.pv (PV.sl 1 n vs)),(10,AV.bs 49 0 1 (m+(1:Nat))),(11,AV.pv (PV.lit (Value.int IntKind.i64 (↑n:Int)))),(12,AV.bs 56 0 1 cnt),(13,AV.pv (PV.lit (Value.int IntKind.i64 j))),(63,AV.pv (PV.lit (Value.bool false)))] [(49,u),(56,qs)] [] []),[],[decide (j≥(0:Int))=false]):=by kernel_rfl
theorem UM (k m n s cnt j q:Nat) (vs u u' qs AP:List PV) (j':Int):aA MD t10 k 93 0 ⟨[(8, .pv (iv s)),(9, .pv (.sl 1 n vs)),(10, .bs 49 0 1 (m+1)),(11, .pv (iv n)),(12, .bs 56 0 1 cnt),(13, .pv (iv j))],[(49,u),(56,qs)],[],[]⟩ [.c true, .i 72 (j+n:Nat), .i 73 (j+n+1:Nat), .o 74 j (n+1), .m (.pv (ak q)) u', .j 77 j, .s AP, .i 65 j']=
 some ((Xt.normal,St.mk [(8,AV.pv (PV.lit (Value.int IntKind.i64 (↑s:Int)))),(9,AV.pv (PV.sl 1 n vs)),(10,AV.bs 49 0 1 (m+(1:Nat))),(11,AV.pv (PV.lit (Value.int IntKind.i64 (↑n:Int)))),(12,AV.bs 56 0 1 cnt),(13,AV.pv (PV.lit (Value.int IntKind.i64 j')))] [(49,u'),(56,AP)] [] []),[],[decide ((↑j:Int)≥(0:Int))=true,IntKind.i64.wrap ((↑j:Int)+(↑n:Int))=(↑(j+n):Int),IntKind.i64.wrap ((↑(j+n):Int)+(1:Int))=(↑(j+n+(1:Nat)):Int),(0:Int)≤(↑j:Int)∧(↑j:Int)≤(↑(j+n+(1:Nat)):Int)∧(↑(j+n+(1:Nat)):Int)≤(↑(m+(1:Nat)):Int),(0:Nat)+(↑j:Int).toNat* (1:Nat)=j,(↑(j+n+(1:Nat)):Int).toNat - (↑j:Int).toNat=n+(1:Nat),eH t10 109 [MA.g u j 1 (n+(1:Nat)),MA.p (PV.sl 1 n vs)] (MR.pv (PV.lit (Value.int IntKind.u32 (↑q:Int)))) u',aK (↑j:Int) cnt j,(0:Nat)+j* (1:Nat)+(ak q).cells.length≤qs.length,cg qs ((0:Nat)+j* (1:Nat)) [PV.lit (Value.int IntKind.u32 (↑q:Int))] AP,IntKind.i64.wrap ((↑j:Int) - (1:Int))=j']):=by kernel_rfl
theorem UP (k m n s cnt i:Nat) (u qs:List PV):aA MD t10 k 93 1 ⟨[(8, .pv (iv s)),(10, .bs 49 0 1 (m+1)),(12, .bs 56 0 1 cnt),(14, .bs 49 0 1 n),(82, .pv (iv n)),(83, .pv (iv i))],[(56,qs),(49,u)],[],[]⟩ [.c false]=
 some ((Xt.exit 2,St.mk [(8,AV.pv (PV.lit (Value.int IntKind.i64 (↑s:Int)))),(10,AV.bs 49 0 1 (m+(1:Nat))),(12,AV.bs 56 0 1 cnt),(14,AV.bs 49 0 1 n),(82,AV.pv (PV.lit (Value.int IntKind.i64 (↑n:Int)))),(83,AV.pv (PV.lit (Value.int IntKind.i64 (↑i:Int)))),(84,AV.pv (PV.lit (Value.bool false)))] [(56,qs),(49,u)] [] []),[],[decide ((↑i:Int)<(↑n:Int))=false]):=by kernel_rfl
theorem UQ (k m n s cnt i x1 x0 w y z:Nat) (u u' qs:List PV):aA MD t10 k 93 1 ⟨[(8, .pv (iv s)),(10, .bs 49 0 1 (m+1)),(12, .bs 56 0 1 cnt),(14, .bs 49 0 1 n),(82, .pv (iv n)),(83, .pv (iv i))],[(56,qs),(49,u)],[],[]⟩ [.c true, .i 90 (i+1:Nat), .j 91 (i+1), .e 92 (ak x1), .i 93 x1, .i 94 (2^32* x1:Nat), .j 97 i, .e 98 (ak x0), .i 99 x0, .i 100 w, .i 102 y, .i 103 z, .j 104 i, .s u', .i 105 (i+1:Nat)]=
 some ((Xt.normal,St.mk [(8,AV.pv (PV.lit (Value.int IntKind.i64 (↑s:Int)))),(10,AV.bs 49 0 1 (m+(1:Nat))),(12,AV.bs 56 0 1 cnt),(14,AV.bs 49 0 1 n),(82,AV.pv (PV.lit (Value.int IntKind.i64 (↑n:Int)))),(83,AV.pv (PV.lit (Value.int IntKind.i64 (↑(i+(1:Nat)):Int))))] [(56,qs),(49,u')] [] []),[],[decide ((↑i:Int)<(↑n:Int))=true,IntKind.i64.wrap ((↑i:Int)+(1:Int))=(↑(i+(1:Nat)):Int),aK (↑(i+(1:Nat)):Int) (m+(1:Nat)) (i+(1:Nat)),Ld MD.P 111 u ((0:Nat)+(i+(1:Nat))* (1:Nat)) (PV.lit (Value.int IntKind.u32 (↑x1:Int))),IntKind.u64.wrap (↑x1:Int)=(↑x1:Int),IntKind.u64.wrap ((↑x1:Int)* (2:Int)^min (Int.toNat (32:Int)) IntKind.u64.bits)=(↑((2:Nat)^(32:Nat)* x1):Int),false=false,aK (↑i:Int) (m+(1:Nat)) i,Ld MD.P 111 u ((0:Nat)+i* (1:Nat)) (PV.lit (Value.int IntKind.u32 (↑x0:Int))),IntKind.u64.wrap (↑x0:Int)=(↑x0:Int),IntKind.u64.wrap (↑(BitVec.ofInt IntKind.u64.bits (↑((2:Nat)^(32:Nat)* x1):Int)|||BitVec.ofInt IntKind.u64.bits (↑x0:Int)).toNat:Int)=(↑w:Int),(↑w:Int).fdiv ((2:Int)^min (↑s:Int).toNat IntKind.u64.bits)=(↑y:Int),decide ((↑s:Int)<(0:Int))=false,IntKind.u32.wrap (↑y:Int)=(↑z:Int),aK (↑i:Int) n i,(0:Nat)+i* (1:Nat)+(PV.lit (Value.int IntKind.u32 (↑z:Int))).cells.length≤u.length,cg u ((0:Nat)+i* (1:Nat)) [PV.lit (Value.int IntKind.u32 (↑z:Int))] u',IntKind.i64.wrap ((↑i:Int)+(1:Int))=(↑(i+(1:Nat)):Int)]):=by kernel_rfl
theorem sB {l m:List Nat} (hl:bf (4294967296:Nat) l) (hm:bf (4294967296:Nat) m) (h1:l.length<2^40) (h2:m.length<2^40):wN [nat l,nat m]=some (one (iv (jj l m))):=
 aM (a:=(l,m)) (enc:=fun x:List Nat×List Nat=>[nat x.1,nat x.2]) (fun a b e=>by
  simp only [List.cons.injEq,and_true] at e
  rw [fT e.1,fT e.2]) ⟨⟨hl,hm⟩,h1,h2⟩
theorem GV {l:List Nat} {d:Nat} (h0:l≠[]) (hl:bf (4294967296:Nat) l) (h1:l.length<2^40) (hd:0<d) (rz:d<(4294967296:Nat)):GU [nat l,ak d]=some (one (.aG [nat (dg (4294967296:Nat) (val (4294967296:Nat) l / d)),ak (val (4294967296:Nat) l%d)])):=
 aM (a:=(l,d)) (enc:=fun x:List Nat×Nat=>[nat x.1,ak x.2]) (fun a b e=>by
  simp only [List.cons.injEq,and_true] at e
  rw [fT e.1,ij e.2]) ⟨⟨h0,hl,h1⟩,hd,rz⟩
theorem NP {a:Nat} (h:a<(4294967296:Nat)):NO [ak a]=some (one (iv ((32 - (dg 2 a).length:Nat):Nat))):=
 aM (enc:=fun a:Nat=>[ak a]) (fun a b e=>by rw [ij (List.cons.inj e).1]) h
theorem K9 {a b:Nat} (h:iv (a:Int)=iv (b:Int)):a=b:=by
 simp only [iv,PV.lit.injEq,Value.int.injEq,true_and] at h;omega
theorem yw {l:List Nat} {s:Nat} (hl:bf (4294967296:Nat) l) (h1:l.length<2^40) (hs:s<32):vV [nat l,iv s]=some ⟨.sl 1 (l.length+1) (us (fd (4294967296:Nat) (l.length+1) (val (4294967296:Nat) l* 2^s))),some 1⟩:=
 aM (a:=(l,s)) (enc:=fun x:List Nat×Nat=>[nat x.1,iv x.2]) (fun a b e=>by
  simp only [List.cons.injEq,and_true] at e
  rw [fT e.1,K9 e.2]) ⟨hl,h1,hs⟩
theorem EP (x:y9) (hx:x.o+x.n+1≤x.U.length) {a b c v1 v2:Nat} (h:jB (x.U.take x.o) x.W (x.U.drop (x.o+x.n+1)) x.V x.n a b c v1 v2):EO [.g (us x.U) x.o 1 (x.n+1), .p (.sl 1 x.n (us x.V))]=some (.pv (ak (val (4294967296:Nat) x.W / val (4294967296:Nat) x.V)),us (eI (x.U.take x.o) (fd (4294967296:Nat) (x.n+1) (val (4294967296:Nat) x.W%val (4294967296:Nat) x.V)) (x.U.drop (x.o+x.n+1)))):=
 v5 (a:=x) (enc:=fun x:y9=>[.g (us x.U) x.o 1 (x.n+1), .p (.sl 1 x.n (us x.V))]) (fun a b e=>by
  simp only [List.cons.injEq,and_true,MA.g.injEq,MA.p.injEq,PV.sl.injEq,true_and] at e
  obtain ⟨⟨e1,e2,e3⟩,e4,e5⟩:=e
  have e1:=wD e1
  have e5:=wD e5
  have:a=b:=by
   obtain ⟨a1,a2,a3,a4⟩:=a
   obtain ⟨b1,b2,b3,b4⟩:=b
   exact y9.mk.injEq .. ▸⟨e1,e2,e4,e5⟩
  rw [this]) ⟨hx,a,b,c,v1,v2,h⟩
theorem xJ {U:List Nat} {o n:Nat} (h:o+n+1≤U.length):eI (U.take o) ((U.drop o).take (n+1)) (U.drop (o+n+1))=U:=by
 simp only [eI]
 rw [List.append_assoc]
 have:U.drop (o+n+1)=(U.drop o).drop (n+1):=by rw [List.drop_drop];rfl
 rw [this,List.take_append_drop,List.take_append_drop]
theorem Bf:aI MD.P t10:=sQ
 (aj (au fun x h=>uO x.1 x.2 h.1.1 h.1.2 h.2.1 h.2.2)
 (aj (au fun x h=>Jo x.1 h.1.1 h.1.2.1 h.1.2.2 x.2 h.2.1 h.2.2)
 (aj (au fun a h=>Py a h)
 (aj (au fun x h=>Jj x.1 h.1 h.2.1 x.2 h.2.2)
 (aj (au fun l h=>mI l h.1 h.2) aE)))))
 (qh (v7 fun x h=>by
  obtain ⟨hx,a,b,c,v1,v2,h⟩:=h
  have:=HQ h
  rw [show eI (x.U.take x.o) x.W (x.U.drop (x.o+x.n+1))=x.U from xJ hx,show (x.U.take x.o).length=x.o by rw [List.length_take];omega] at this
  exact this) oU)
structure uz (a b m n s tp:Nat):Prop where
 hm:(dg (4294967296:Nat) a).length=m
 hn:(dg (4294967296:Nat) b).length=n
 n2:2≤n
 QJ:m<2^39
 nm:n≤m
 Yw:s<32
 hb:0<b
 alt:a<(4294967296:Nat)^m
 lo:2^31* (4294967296:Nat)^(n - 1)≤b* 2^s
 hi:b* 2^s<(4294967296:Nat)^n
namespace uz
variable {a b m n s tp:Nat}
theorem xz (h:uz a b m n s tp):0<b* 2^s:=Nat.mul_pos h.hb (Nat.pow_pos (by omega))
theorem Js (h:uz a b m n s tp):(dg (4294967296:Nat) (b* 2^s)).length=n:=by
 have h1:=gZ (b:=(4294967296:Nat)) (by decide) h.hi
 have h2:=cE (b:=(4294967296:Nat)) (n:=b* 2^s) (by decide)
 have h3:=h.lo
 rcases Nat.lt_or_ge (dg (4294967296:Nat) (b* 2^s)).length n with h4|h4
 · have h5:(4294967296:Nat)^(dg (4294967296:Nat) (b* 2^s)).length≤(4294967296:Nat)^(n - 1):=Nat.pow_le_pow_right (by decide) (by omega)
   omega
 · omega
theorem Zk (h:uz a b m n s tp):dg (4294967296:Nat) (b* 2^s)=fd (4294967296:Nat) n (b* 2^s):=
 jc (by decide) (bW (by decide) _) h.Js (bS (by decide) _)
theorem HD (h:uz a b m n s tp):a* 2^s<(4294967296:Nat)^(m+1 - n)* (b* 2^s):=by
 have h1:a<(4294967296:Nat)^(m+1 - n)* b:=by
  have h2:=nN (b:=(4294967296:Nat)) (by decide) h.hb
  rw [h.hn] at h2
  have h3:(4294967296:Nat)^m=(4294967296:Nat)^(m+1 - n)* (4294967296:Nat)^(n - 1):=by rw [←Nat.pow_add];congr 1;have:=h.nm;have:=h.n2;omega
  have h4:=Nat.mul_le_mul_left ((4294967296:Nat)^(m+1 - n)) h2
  have:=h.alt;omega
 rw [←Nat.mul_assoc]
 exact Nat.mul_lt_mul_of_pos_right h1 (Nat.pow_pos (by omega))
end uz
def L0 (s n m cnt:Nat) (vs:List Nat) (j:Int) (U Q:List Nat) (e:List (Nat×AV)):St:=⟨(8, .pv (iv s))::(9, .pv (.sl 1 n (us vs)))::(10, .bs 49 0 1 (m+1))::(11, .pv (iv n))::(12, .bs 56 0 1 cnt)::(13, .pv (iv j))::e,[(49,us U),(56,us Q)],[],[]⟩
theorem vu {f:St→Option (Xt×St)} {S:Nat→St} {n:Nat} (h:∀j,j<n→f (S (j+1))=some (.normal,S j)) {r:Xt×St} (hr:f (S 0)=some r) (hx:r.1≠ .normal):∀j,j≤n→bg f (j+1) (S j)=some r
 |0,_=>by obtain ⟨x,s⟩:=r;exact aV hr hx
 |j+1,hj=>bn (h j (by omega)) (vu h hr hx j (by omega))
theorem EU {a b m n s tp:Nat} (h:uz a b m n s tp) (k:Nat) (j:Nat) (hj:j<m+1 - n):aP MD t10 k 93 0 (L0 s n m (m+1 - n) (dg (4294967296:Nat) (b* 2^s)) (j:Int) (lu (4294967296:Nat) (m+1) (a* 2^s) (b* 2^s) (j+1)) (lq (4294967296:Nat) (m+1 - n) (a* 2^s) (b* 2^s) (j+1)) [])=some (.normal,L0 s n m (m+1 - n) (dg (4294967296:Nat) (b* 2^s)) ((j:Int) - 1) (lu (4294967296:Nat) (m+1) (a* 2^s) (b* 2^s) j) (lq (4294967296:Nat) (m+1 - n) (a* 2^s) (b* 2^s) j) []):=by
 have hnm:=h.nm
 have Z0:=h.QJ
 have hn2:=h.n2
 have hV:=h.xz
 have ry:b* 2^s≤(4294967296:Nat)^n:=Nat.le_of_lt h.hi
 obtain ⟨w1,w2,w3⟩:=Hy (B:=(4294967296:Nat)) (N:=m+1) (A:=a* 2^s) (V:=b* 2^s) (j:=j) (n:=n) (by decide) hV ry (by omega)
 have hnext:=Lg (B:=(4294967296:Nat)) (N:=m+1) (A:=a* 2^s) (V:=b* 2^s) (j:=j) (n:=n) (by decide) hV ry (by omega)
 have Ws:=Lf (B:=(4294967296:Nat)) (c:=m+1 - n) (A:=a* 2^s) (V:=b* 2^s) (j:=j) (by decide) hV h.HD (by omega)
 have QB:=DK (B:=(4294967296:Nat)) (A:=a* 2^s) (V:=b* 2^s) (j:=j) (by decide) hV
 obtain ⟨U,hU⟩:∃U,U=lu (4294967296:Nat) (m+1) (a* 2^s) (b* 2^s) (j+1):=⟨_,rfl⟩
 have lU:U.length=m+1:=by rw [hU];exact bG _ _ _
 have dU:bf (4294967296:Nat) U:=by rw [hU];exact fV (by decide) _ _
 rw [←hU] at w1 w2 w3 hnext ⊢
 have lW:((U.drop j).take (n+1)).length=n+1:=by rw [List.length_take,List.length_drop,lU];omega
 obtain ⟨xa,ga⟩:=get_some (l:=(U.drop j).take (n+1)) (i:=n) (by omega)
 obtain ⟨xb,gb⟩:=get_some (l:=(U.drop j).take (n+1)) (i:=n - 1) (by omega)
 obtain ⟨xc,gc⟩:=get_some (l:=(U.drop j).take (n+1)) (i:=n - 2) (by omega)
 have hvl:=h.Js
 have g1:(dg (4294967296:Nat) (b* 2^s))[n - 1]? =some (b* 2^s / (4294967296:Nat)^(n - 1)%(4294967296:Nat)):=by rw [h.Zk];exact g8 (by omega)
 obtain ⟨v2,g2⟩:=get_some (l:=dg (4294967296:Nat) (b* 2^s)) (i:=n - 2) (by omega)
 have Io:(4294967296:Nat)≤2* (b* 2^s / (4294967296:Nat)^(n - 1)%(4294967296:Nat)):=by
  have h1:2^31≤b* 2^s / (4294967296:Nat)^(n - 1):=(Nat.le_div_iff_mul_le (Nat.pow_pos (by decide))).2 h.lo
  have h2:b* 2^s / (4294967296:Nat)^(n - 1)<(4294967296:Nat):=by
   rw [Nat.div_lt_iff_lt_mul (Nat.pow_pos (by decide))]
   have e:(4294967296:Nat)* (4294967296:Nat)^(n - 1)=(4294967296:Nat)^n:=by
    rw [Nat.mul_comm,←Nat.pow_succ];congr 1;omega
   rw [e]
   exact h.hi
  rw [Nat.mod_eq_of_lt h2];omega
 have Rt:jB (U.take j) ((U.drop j).take (n+1)) (U.drop (j+n+1)) (dg (4294967296:Nat) (b* 2^s)) n xa xb xc (b* 2^s / (4294967296:Nat)^(n - 1)%(4294967296:Nat)) v2:={ hV:=hvl,hW:=lW,dV:=bW (by decide) _,dW:=eU (jE dU _) _,ga:=ga,gb:=gb,gc:=gc,g1:=g1,g2:=g2,hn:=hn2,sz:=by rw [xJ (by omega),lU];omega,top:=Io,lt:=by rw [w2,bS (by decide)];exact QB}
 have bZ:=EP ⟨U,j,n,dg (4294967296:Nat) (b* 2^s)⟩ (by simp only [lU];omega) Rt
 simp only [y9.W,w2,bS (b:=(4294967296:Nat)) (by decide)] at bZ
 simp only [eI,hnext] at bZ
 have lQ:(lq (4294967296:Nat) (m+1 - n) (a* 2^s) (b* 2^s) (j+1)).length=m+1 - n:=bG _ _ _
 refine an (UM k m n s (m+1 - n) j (lw (4294967296:Nat) (a* 2^s) (b* 2^s) j / (b* 2^s)) _ (us U) (us (lu (4294967296:Nat) (m+1) (a* 2^s) (b* 2^s) j)) _ (us (lq (4294967296:Nat) (m+1 - n) (a* 2^s) (b* 2^s) j)) ((j:Int) - 1)) ⟨by simp,aR (by omega) (by omega),aR (by omega) (by omega),⟨by omega,by omega,by omega⟩,by simp,by simp;omega,bZ,⟨rfl,by omega⟩, ?_,eZ Ws (by rw [lQ];omega) (by omega),by rw [wrap64]<;>omega,trivial⟩
 rw [cC,lQ];simp [ak,PV.cells];omega
theorem HT {s n m cnt:Nat} (k:Nat) (vs U Q:List Nat):aP MD t10 k 93 0 (L0 s n m cnt vs (-1) U Q [])=some (.exit 0,L0 s n m cnt vs (-1) U Q [(63, .pv (bv false))]):=
 an (UL k m n s cnt (us vs) (us U) (us Q) (-1)) ⟨by decide,trivial⟩
theorem HU {a b m n s tp:Nat} (h:uz a b m n s tp) (k:Nat) (j:Nat) (hj:j≤m+1 - n):bg (aP MD t10 k 93 0) (j+1) (L0 s n m (m+1 - n) (dg (4294967296:Nat) (b* 2^s)) ((j:Int) - 1) (lu (4294967296:Nat) (m+1) (a* 2^s) (b* 2^s) j) (lq (4294967296:Nat) (m+1 - n) (a* 2^s) (b* 2^s) j) [])=some (.exit 0,L0 s n m (m+1 - n) (dg (4294967296:Nat) (b* 2^s)) (-1) (lu (4294967296:Nat) (m+1) (a* 2^s) (b* 2^s) 0) (lq (4294967296:Nat) (m+1 - n) (a* 2^s) (b* 2^s) 0) [(63, .pv (bv false))]):=by
 refine vu (S:=fun j=>L0 s n m (m+1 - n) (dg (4294967296:Nat) (b* 2^s)) ((j:Int) - 1) (lu (4294967296:Nat) (m+1) (a* 2^s) (b* 2^s) j) (lq (4294967296:Nat) (m+1 - n) (a* 2^s) (b* 2^s) j) []) (n:=m+1 - n) ?_ ?_ (by simp) j hj
 · intro j hj
   have hi:(((j+1:Nat):Int) - 1)=(j:Int):=by omega
   rw [hi]
   exact EU h k j hj
 · have hi:(((0:Nat):Int) - 1)= -1:=by omega
   rw [hi]
   exact HT k _ _ _
def L1 (s n m cnt i:Nat) (U:List Nat) (Q:List Nat) (e:List (Nat×AV)):St:=⟨(8, .pv (iv s))::(10, .bs 49 0 1 (m+1))::(12, .bs 56 0 1 cnt)::(14, .bs 49 0 1 n)::(82, .pv (iv n))::(83, .pv (iv i))::e,[(56,us Q),(49,us U)],[],[]⟩
theorem GR {m n s cnt r:Nat} (k:Nat) (Q:List Nat) (hm:m<2^39) (hnm:n≤m) (hs:s<32) (i:Nat) (hi:i<n):aP MD t10 k 93 1 (L1 s n m cnt i (mix (4294967296:Nat) (m+1) r (r* 2^s) i) Q [])=some (.normal,L1 s n m cnt (i+1) (mix (4294967296:Nat) (m+1) r (r* 2^s) (i+1)) Q []):=by
 have hB:(0:Nat)<(4294967296:Nat):=by decide
 have g1:(mix (4294967296:Nat) (m+1) r (r* 2^s) i)[i+1]? =some (r* 2^s / (4294967296:Nat)^(i+1)%(4294967296:Nat)):=Co (by omega) (by omega)
 have g0:(mix (4294967296:Nat) (m+1) r (r* 2^s) i)[i]? =some (r* 2^s / (4294967296:Nat)^i%(4294967296:Nat)):=Co (by omega) (by omega)
 have hx1:r* 2^s / (4294967296:Nat)^(i+1)%(4294967296:Nat)<(4294967296:Nat):=Nat.mod_lt _ hB
 have hx0:r* 2^s / (4294967296:Nat)^i%(4294967296:Nat)<(4294967296:Nat):=Nat.mod_lt _ hB
 have hp:0<2^s:=Nat.pow_pos (by omega)
 have hdvd:2^s∣(4294967296:Nat):=by
  refine ⟨2^(32 - s), ?_⟩
  rw [←Nat.pow_add,show s+(32 - s)=32 by omega]
 obtain ⟨X,hX⟩:∃X,X=r* 2^s / (4294967296:Nat)^i:=⟨_,rfl⟩
 have VQ:r* 2^s / (4294967296:Nat)^(i+1)=X / (4294967296:Nat):=by rw [Nat.pow_succ,←Nat.div_div_eq_div_mul,←hX]
 have hw:2^32* (X / (4294967296:Nat)%(4294967296:Nat))+X%(4294967296:Nat)=X%((4294967296:Nat)* (4294967296:Nat)):=by rw [Nat.mod_mul];omega
 have hz:X%((4294967296:Nat)* (4294967296:Nat)) / 2^s%(4294967296:Nat)=r / (4294967296:Nat)^i%(4294967296:Nat):=by
  rw [GQ hp hdvd,hX,Nat.div_div_eq_div_mul,Nat.mul_comm ((4294967296:Nat)^i),←Nat.div_div_eq_div_mul,Nat.mul_div_cancel _ hp]
 have ll:(mix (4294967296:Nat) (m+1) r (r* 2^s) i).length=m+1:=Lm (by omega)
 have fJ:=Iy (B:=(4294967296:Nat)) (N:=m+1) (r:=r) (R:=r* 2^s) (i:=i) (by omega)
 rw [←hX] at g0 hx0
 rw [VQ] at g1 hx1
 have QB:X%((4294967296:Nat)* (4294967296:Nat))<(4294967296:Nat)* (4294967296:Nat):=Nat.mod_lt _ (by decide)
 refine an (UQ k m n s cnt i (X / (4294967296:Nat)%(4294967296:Nat)) (X%(4294967296:Nat)) (X%((4294967296:Nat)* (4294967296:Nat))) (X%((4294967296:Nat)* (4294967296:Nat)) / 2^s) (r / (4294967296:Nat)^i%(4294967296:Nat)) (us (mix (4294967296:Nat) (m+1) r (r* 2^s) i)) (us (mix (4294967296:Nat) (m+1) r (r* 2^s) (i+1))) (us Q)) ⟨by simpa using hi,aR (by omega) (by omega),⟨rfl,by omega⟩,iB g1 (by omega),bz rfl (by omega),kj hx1,rfl,⟨rfl,by omega⟩,iB g0 (by omega),bz rfl (by omega),nh (r:=32) (by omega) (by omega) _ (by omega), ?_,by simp,by rw [xA,hz],⟨rfl,by omega⟩, ?_,eZ fJ (by rw [ll];omega) (by omega),aR (by omega) (by omega),trivial⟩
 · have e:min ((s:Int)).toNat IntKind.u64.bits=s:=by rw [Int.toNat_natCast];show min s 64=s;omega
   rw [e]
   have e2:(2:Int)^s=((2^s:Nat):Int):=by simp
   rw [e2,j6]
 · rw [cC,ll];simp [PV.cells];omega
theorem Jl {m n s cnt:Nat} (k:Nat) (U Q:List Nat):aP MD t10 k 93 1 (L1 s n m cnt n U Q [])=some (.exit 2,L1 s n m cnt n U Q [(84, .pv (bv false))]):=
 an (UP k m n s cnt n (us U) (us Q)) ⟨by simp,trivial⟩
theorem Jm {m n s cnt r:Nat} (k:Nat) (Q:List Nat) (hm:m<2^39) (hnm:n≤m) (hs:s<32) (hk:n<k):bg (aP MD t10 k 93 1) k (L1 s n m cnt 0 (mix (4294967296:Nat) (m+1) r (r* 2^s) 0) Q [])=some (.exit 2,L1 s n m cnt n (mix (4294967296:Nat) (m+1) r (r* 2^s) n) Q [(84, .pv (bv false))]):=by
 refine bN (S:=fun i=>L1 s n m cnt i (mix (4294967296:Nat) (m+1) r (r* 2^s) i) Q []) (n:=n) ?_ ?_ (by simp) k hk
 · intro i hi
   exact GR k Q hm hnm hs i hi
 · exact Jl k _ _
theorem Hp {b n:Nat} (hb:0<b) (hn:(dg (4294967296:Nat) b).length=n):∃tp,(dg (4294967296:Nat) b)[n - 1]? =some tp∧0<tp∧tp<(4294967296:Nat)∧tp* (4294967296:Nat)^(n - 1)≤b∧b<(tp+1)* (4294967296:Nat)^(n - 1):=by
 have hB:(2:Nat)≤(4294967296:Nat):=by decide
 have h1:=nN hB hb
 have h2:=cE (b:=(4294967296:Nat)) (n:=b) hB
 rw [hn] at h1 h2
 have hn0:0<n:=by rw [←hn,dz hB hb];simp
 have hP:0<(4294967296:Nat)^(n - 1):=Nat.pow_pos (by decide)
 have hlt:b / (4294967296:Nat)^(n - 1)<(4294967296:Nat):=by
  rw [Nat.div_lt_iff_lt_mul hP]
  have e:(4294967296:Nat)* (4294967296:Nat)^(n - 1)=(4294967296:Nat)^n:=by rw [Nat.mul_comm,←Nat.pow_succ];congr 1;omega
  rw [e];exact h2
 have jQ:dg (4294967296:Nat) b=fd (4294967296:Nat) n b:=jc (by decide) (bW hB _) hn (bS hB _)
 refine ⟨b / (4294967296:Nat)^(n - 1), ?_,(Nat.le_div_iff_mul_le hP).2 (by omega),hlt,Nat.div_mul_le_self _ _, ?_⟩
 · rw [jQ,g8 (by omega),Nat.mod_eq_of_lt hlt]
 · have:=Nat.div_add_mod b ((4294967296:Nat)^(n - 1))
   have h3:=Nat.mod_lt b hP
   rw [Nat.add_mul,Nat.one_mul,Nat.mul_comm (b / (4294967296:Nat)^(n - 1))]
   omega
theorem DQ {b n tp:Nat} (hn0:0<n) (h0:0<tp) (h1:tp<(4294967296:Nat)) (h2:tp* (4294967296:Nat)^(n - 1)≤b) (h3:b<(tp+1)* (4294967296:Nat)^(n - 1)):2^31* (4294967296:Nat)^(n - 1)≤b* 2^(32 - (dg 2 tp).length)∧b* 2^(32 - (dg 2 tp).length)<(4294967296:Nat)^n:=by
 have hL:=zq h1
 have Qe:0<(dg 2 tp).length:=by rw [dz (by omega) h0];simp
 have g1:=nN (b:=2) (by omega) h0
 have g2:=cE (b:=2) (n:=tp) (by omega)
 obtain ⟨L,VN⟩:∃L,L=(dg 2 tp).length:=⟨_,rfl⟩
 rw [←VN] at hL Qe g1 g2 ⊢
 have hp:0<2^(32 - L):=Nat.pow_pos (by omega)
 constructor
 · have e1:2^31≤tp* 2^(32 - L):=by
     have:2^(L - 1)* 2^(32 - L)≤tp* 2^(32 - L):=Nat.mul_le_mul_right _ g1
     rw [←Nat.pow_add,show L - 1+(32 - L)=31 by omega] at this
     exact this
   calc 2^31* (4294967296:Nat)^(n - 1)≤tp* 2^(32 - L)* (4294967296:Nat)^(n - 1):=Nat.mul_le_mul_right _ e1
    _=tp* (4294967296:Nat)^(n - 1)* 2^(32 - L):=by ac_rfl
    _≤b* 2^(32 - L):=Nat.mul_le_mul_right _ h2
 · have e1:(tp+1)* 2^(32 - L)≤(4294967296:Nat):=by
     have:(tp+1)* 2^(32 - L)≤2^L* 2^(32 - L):=Nat.mul_le_mul_right _ g2
     rw [←Nat.pow_add,show L+(32 - L)=32 by omega] at this
     exact this
   have e2:(4294967296:Nat)* (4294967296:Nat)^(n - 1)=(4294967296:Nat)^n:=by rw [Nat.mul_comm,←Nat.pow_succ];congr 1;omega
   rw [←e2]
   calc b* 2^(32 - L)<(tp+1)* (4294967296:Nat)^(n - 1)* 2^(32 - L):=Nat.mul_lt_mul_of_pos_right h3 hp
    _=(tp+1)* 2^(32 - L)* (4294967296:Nat)^(n - 1):=by ac_rfl
    _≤(4294967296:Nat)* (4294967296:Nat)^(n - 1):=Nat.mul_le_mul_right _ e1
theorem qB {l:List Nat} {v:Nat} (h:l.length<2^40) (hd:bf (4294967296:Nat) l) (hv:val (4294967296:Nat) l=v):jx [nat l]=some (one (nat (dg (4294967296:Nat) v))):=by
 rw [←hv];exact kS h hd
theorem ri {N v:Nat} (h:v<(4294967296:Nat)^N):val (4294967296:Nat) (fd (4294967296:Nat) N v)=v:=by rw [jo (by decide),Nat.mod_eq_of_lt h]
def uw (a b:Nat):PV:=if a<b then .lit (.slice none 0 0) else nat (dg (4294967296:Nat) (a / b))
theorem Di {a b:Nat} (hb:0<b) (ha:(dg (4294967296:Nat) a).length<2^39) (hab:b≤a) (hn2:2≤(dg (4294967296:Nat) b).length):az P0 93 [nat (dg (4294967296:Nat) a),nat (dg (4294967296:Nat) b)] (one (.aG [nat (dg (4294967296:Nat) (a / b)),nat (dg (4294967296:Nat) (a%b))])):=by
 have hB:(2:Nat)≤(4294967296:Nat):=by decide
 obtain ⟨m,hm⟩:∃m,m=(dg (4294967296:Nat) a).length:=⟨_,rfl⟩
 obtain ⟨n,hn⟩:∃n,n=(dg (4294967296:Nat) b).length:=⟨_,rfl⟩
 obtain ⟨tp,gt,Q3,Q4,t1,t2⟩:=Hp hb hn.symm
 rw [←hm] at ha
 rw [←hn] at hn2
 obtain ⟨s,hs⟩:∃s,s=32 - (dg 2 tp).length:=⟨_,rfl⟩
 have Qe:0<(dg 2 tp).length:=by rw [dz (by omega) Q3];simp
 obtain ⟨QK,QL⟩:=DQ (by omega) Q3 Q4 t1 t2
 rw [←hs] at QK QL
 have hnm:n≤m:=by
  rcases Nat.lt_or_ge m n with h|h
  · have:=nO (a:=a) (b:=b) (by omega);omega
  · exact h
 have hC:uz a b m n s tp:={ hm:=hm.symm,hn:=hn.symm,n2:=hn2,QJ:=ha,nm:=hnm,Yw:=by omega,hb:=hb,alt:=by rw [hm];exact cE hB,lo:=QK,hi:=QL}
 have hV:=hC.xz
 have hp:0<2^s:=Nat.pow_pos (by omega)
 have hroom:(2:Int)^43≤(room:Int):=by decide
 have lA:=bW hB a
 have QE:=bW hB b
 have eR:a* 2^s%(b* 2^s)=a%b* 2^s:=Nat.mul_mod_mul_right _ _ _
 have eQ:a* 2^s / (b* 2^s)=a / b:=Nat.mul_div_mul_right _ _ hp
 have Xc:lu (4294967296:Nat) (m+1) (a* 2^s) (b* 2^s) 0=fd (4294967296:Nat) (m+1) (a%b* 2^s):=by
  simp only [lu,Nat.pow_zero,Nat.mod_one,Nat.div_one,Nat.one_mul,Nat.zero_add,eR]
 have W8:lq (4294967296:Nat) (m+1 - n) (a* 2^s) (b* 2^s) 0=fd (4294967296:Nat) (m+1 - n) (a / b):=by
  simp only [lq,Nat.pow_zero,Nat.div_one,Nat.one_mul,eQ]
 have hT:a* 2^s / (4294967296:Nat)^(m+1 - n)<b* 2^s:=(Nat.div_lt_iff_lt_mul (Nat.pow_pos (by decide))).2 (by rw [Nat.mul_comm (b* 2^s)];exact hC.HD)
 have Xd:lu (4294967296:Nat) (m+1) (a* 2^s) (b* 2^s) (m+1 - n)=fd (4294967296:Nat) (m+1) (a* 2^s):=by
  simp only [lu]
  rw [Nat.mod_eq_of_lt hT,Nat.mod_add_div]
 have W9:lq (4294967296:Nat) (m+1 - n) (a* 2^s) (b* 2^s) (m+1 - n)=List.replicate (m+1 - n) 0:=by
  simp only [lq]
  rw [Nat.div_eq_of_lt hT,Nat.mul_zero,wT (by decide)]
 have J7:=HU hC (m+5) (m+1 - n) (Nat.le_refl _)
 rw [Xd,W9,Xc,W8] at J7
 have hcast:((m+1 - n - 1:Nat):Int)=((m+1 - n:Nat):Int) - 1:=by omega
 have J7:=bP (show m+1 - n+1≤m+5 by omega) J7
 have FQ:=Jm (r:=a%b) (cnt:=m+1 - n) (m+5) (fd (4294967296:Nat) (m+1 - n) (a / b)) ha hnm (by omega:s<32) (by omega)
 have Sa:mix (4294967296:Nat) (m+1) (a%b) (a%b* 2^s) 0=fd (4294967296:Nat) (m+1) (a%b* 2^s):=by simp [mix]
 rw [Sa] at FQ
 have hrb:a%b<(4294967296:Nat)^n:=by
  have h1:=Nat.mod_lt a hb
  have h2:=cE (b:=(4294967296:Nat)) (n:=b) hB
  rw [←hn] at h2
  omega
 have Wo:a / b<(4294967296:Nat)^(m+1 - n):=by
  have h1:=J9 (B:=(4294967296:Nat)) (c:=m+1 - n) (j:=0) hB hV hC.HD
  simp only [Nat.pow_zero,Nat.div_one,Nat.one_mul,eQ] at h1
  exact h1
 have Ud:b* 2^s<(4294967296:Nat)^(n+1):=Nat.lt_of_lt_of_le hC.hi (Nat.pow_le_pow_right (by decide) (by omega))
 have nA:nat (dg (4294967296:Nat) a)= .sl 1 m (us (dg (4294967296:Nat) a)):=by rw [nat,←hm]
 have nB:nat (dg (4294967296:Nat) b)= .sl 1 n (us (dg (4294967296:Nat) b)):=by rw [nat,←hn]
 have c1:wN [.sl 1 m (us (dg (4294967296:Nat) a)), .sl 1 n (us (dg (4294967296:Nat) b))]=some (one (iv (jj (dg (4294967296:Nat) a) (dg (4294967296:Nat) b)))):=by rw [←nA,←nB];exact sB lA QE (by omega) (by omega)
 have c2:vV [.sl 1 n (us (dg (4294967296:Nat) b)),iv s]=some ⟨.sl 1 (n+1) (us (fd (4294967296:Nat) (n+1) (b* 2^s))),some 1⟩:=by
  have:=yw (l:=dg (4294967296:Nat) b) (s:=s) QE (by omega) (by omega)
  rwa [bS hB,←hn,nB] at this
 have c3:vV [.sl 1 m (us (dg (4294967296:Nat) a)),iv s]=some ⟨.sl 1 (m+1) (us (fd (4294967296:Nat) (m+1) (a* 2^s))),some 1⟩:=by
  have:=yw (l:=dg (4294967296:Nat) a) (s:=s) lA (by omega) (by omega)
  rwa [bS hB,←hm,nA] at this
 have c4:jx [.sl 1 (n+1) (us (fd (4294967296:Nat) (n+1) (b* 2^s)))]=some (one (.sl 1 n (us (dg (4294967296:Nat) (b* 2^s))))):=by
  have:=qB (l:=fd (4294967296:Nat) (n+1) (b* 2^s)) (by rw [bG];omega) (fV (by decide) _ _) (ri Ud)
  simp only [nat,bG,hC.Js] at this
  exact this
 have c5:jx [.sl 1 (m+1 - n) (us (fd (4294967296:Nat) (m+1 - n) (a / b)))]=some (one (nat (dg (4294967296:Nat) (a / b)))):=by
  have:=qB (l:=fd (4294967296:Nat) (m+1 - n) (a / b)) (by rw [bG];omega) (fV (by decide) _ _) (ri Wo)
  simp only [nat,bG] at this
  exact this
 have c6:jx [.sl 1 n (us (fd (4294967296:Nat) n (a%b)))]=some (one (nat (dg (4294967296:Nat) (a%b)))):=by
  have:=qB (l:=fd (4294967296:Nat) n (a%b)) (by rw [bG];omega) (fV (by decide) _ _) (ri hrb)
  simp only [nat,bG] at this
  exact this
 have w9:∀l:List Nat,(us l).all cJ=true:=by
  intro l
  rw [List.all_eq_true]
  intro y hy
  simp only [us,List.mem_map] at hy
  obtain ⟨z,_,rfl⟩:=hy
  rfl
 have hcmp:decide (jj (dg (4294967296:Nat) a) (dg (4294967296:Nat) b)<0)=false:=by
  rw [decide_eq_false_iff_not,uN];omega
 have hlz:NO [ak tp]=some (one (iv s)):=by rw [hs];exact NP Q4
 have hrow:aL (us (dg (4294967296:Nat) b)) 1 ((n - 1:Nat):Int) n [ak tp]:=by
  have:=cQ gt rfl;rwa [←hn] at this
 have vf:(mix (4294967296:Nat) (m+1) (a%b) (a%b* 2^s) n).take n=fd (4294967296:Nat) n (a%b):=by
  have l:((fd (4294967296:Nat) (m+1) (a%b)).take n).length=n:=by rw [List.length_take,bG];omega
  rw [mix,List.take_left' l,Cc (4294967296:Nat) (by omega)]
 have go:=ah af Bf (by rfl) (UX (m+5) m n tp s (m+1 - n) (us (dg (4294967296:Nat) a)) (us (dg (4294967296:Nat) b)) (us (fd (4294967296:Nat) (n+1) (b* 2^s))) (us (dg (4294967296:Nat) (b* 2^s))) (us (fd (4294967296:Nat) (m+1) (a* 2^s))) (us (fd (4294967296:Nat) (m+1) (a%b* 2^s))) (us (mix (4294967296:Nat) (m+1) (a%b) (a%b* 2^s) n)) (us (List.replicate (m+1 - n) 0)) (us (fd (4294967296:Nat) (m+1 - n) (a / b))) (us (fd (4294967296:Nat) n (a%b))) (us (fd (4294967296:Nat) (m+1 - n) (a / b))) (jj (dg (4294967296:Nat) a) (dg (4294967296:Nat) b)) (nat (dg (4294967296:Nat) (a / b))) (nat (dg (4294967296:Nat) (a%b)))) ⟨c1,hcmp,by simp;omega,fR (by omega) (by omega),hrow,hlz,c2,c4,c3,w9 _,aR (by omega) (by omega),⟨by omega,by omega,by rw [mP];omega,by omega⟩,by simp;omega,ja,aR (by omega) (by omega),fR (by omega) (by omega),by rw [hcast];exact J7,⟨by omega,by omega,by omega⟩,rfl,rfl,FQ,je _ 0 _ (by rw [List.drop_zero,List.take_of_length_le (by rw [bG];omega)]),je _ 0 _ (by rw [List.drop_zero,Nat.mul_one,vf]),c5,c6,trivial⟩
 rw [←nA,←nB] at go
 exact go
theorem zA {a b:Nat} (hb:0<b) (ha:(dg (4294967296:Nat) a).length<2^39) (hab:b≤a) (hn:(dg (4294967296:Nat) b).length=1):az P0 93 [nat (dg (4294967296:Nat) a),nat (dg (4294967296:Nat) b)] (one (.aG [nat (dg (4294967296:Nat) (a / b)),nat (dg (4294967296:Nat) (a%b))])):=by
 have hB:(2:Nat)≤(4294967296:Nat):=by decide
 have MG:b<(4294967296:Nat):=by have:=cE (b:=(4294967296:Nat)) (n:=b) hB;rw [hn] at this;simpa using this
 have hd:dg (4294967296:Nat) b=[b]:=by
  rw [dz hB hb,Nat.mod_eq_of_lt MG,Nat.div_eq_of_lt MG];rfl
 have hne:dg (4294967296:Nat) a≠[]:=by rw [dz hB (by omega)];simp
 have c1:wN [nat (dg (4294967296:Nat) a),nat (dg (4294967296:Nat) b)]=some (one (iv (jj (dg (4294967296:Nat) a) (dg (4294967296:Nat) b)))):=sB (bW hB _) (bW hB _) (by omega) (by omega)
 have hcmp:decide (jj (dg (4294967296:Nat) a) (dg (4294967296:Nat) b)<0)=false:=by
  rw [decide_eq_false_iff_not,uN];omega
 have c2:=GV hne (bW hB a) (by omega) hb MG
 rw [bS hB] at c2
 have hr:a%b<b:=Nat.mod_lt _ hb
 have c3:=qB (l:=[a%b]) (v:=a%b) (by simp) (by intro x hx;simp at hx;omega) (by simp [val])
 rw [hd] at c1 hcmp ⊢
 exact ah af Bf (by rfl) (UW 1 (dg (4294967296:Nat) a).length 1 b (a%b) (us (dg (4294967296:Nat) a)) (us [b]) (jj (dg (4294967296:Nat) a) [b]) (nat (dg (4294967296:Nat) (a%b))) (nat (dg (4294967296:Nat) (a / b)))) ⟨c1,hcmp,by simp,cQ (l:=[b]) (i:=0) rfl rfl,c2,c3,trivial⟩
theorem Bv {a b:Nat} (ha:(dg (4294967296:Nat) a).length<2^39) (hb:(dg (4294967296:Nat) b).length<2^39) (hab:a<b):az P0 93 [nat (dg (4294967296:Nat) a),nat (dg (4294967296:Nat) b)] (one (.aG [.lit (.slice none 0 0),nat (dg (4294967296:Nat) a)])):=by
 have hB:(2:Nat)≤(4294967296:Nat):=by decide
 have c1:wN [nat (dg (4294967296:Nat) a),nat (dg (4294967296:Nat) b)]=some (one (iv (jj (dg (4294967296:Nat) a) (dg (4294967296:Nat) b)))):=sB (bW hB _) (bW hB _) (by omega) (by omega)
 have hcmp:decide (jj (dg (4294967296:Nat) a) (dg (4294967296:Nat) b)<0)=true:=by
  rw [decide_eq_true_iff,uN];exact hab
 exact ah af Bf (by rfl) (UU 1 (dg (4294967296:Nat) a).length (dg (4294967296:Nat) b).length (us (dg (4294967296:Nat) a)) (us (dg (4294967296:Nat) b)) (jj (dg (4294967296:Nat) a) (dg (4294967296:Nat) b))) ⟨c1,hcmp,trivial⟩
theorem xI {a b:Nat} (hb0:0<b) (ha:(dg (4294967296:Nat) a).length<2^39) (hb:(dg (4294967296:Nat) b).length<2^39):az P0 93 [nat (dg (4294967296:Nat) a),nat (dg (4294967296:Nat) b)] (one (.aG [uw a b,nat (dg (4294967296:Nat) (a%b))])):=by
 unfold uw
 by_cases h:a<b
 · rw [if_pos h,Nat.mod_eq_of_lt h];exact Bv ha hb h
 · rw [if_neg h]
   have h1:0<(dg (4294967296:Nat) b).length:=by rw [dz (by decide) hb0];simp
   by_cases h2:(dg (4294967296:Nat) b).length=1
   · exact zA hb0 ha (by omega) h2
   · exact Di hb0 ha (by omega) (by omega)
end Go.Proofs.YtibbgjafjhcemaaDoor.Cul
namespace Go.Proofs.YtibbgjafjhcemaaDoor.Cul
open Go Go.RowKit
def iz (g:Bool) (s:ByteArray):PV:= .ag [bv g,sv s]
def cF (g:Bool) (s:ByteArray):Bool:=if s.size=0 then !g else decide ((s[0]?).map (·.toNat)≠some 0)
noncomputable def ff:List PV→Option RV:=bJ (fun _:Bool×ByteArray=>True) (fun x=>[iz x.1 x.2]) (fun x=>one (bv (cF x.1 x.2)))
noncomputable def F2:List PV→Option RV:=bJ (fun s:ByteArray=>s.size<2^30) (fun s=>[sv s]) (fun s=>one (nat (dg (4294967296:Nat) (bM s))))
noncomputable def HS:List PV→Option RV:=bJ (fun x:Nat×Nat=>0<x.2∧(dg (4294967296:Nat) x.1).length<2^39∧(dg (4294967296:Nat) x.2).length<2^39) (fun x=>[nat (dg (4294967296:Nat) x.1),nat (dg (4294967296:Nat) x.2)]) (fun x=>one (.aG [uw x.1 x.2,nat (dg (4294967296:Nat) (x.1%x.2))]))
noncomputable def CS:List PV→Option RV:=bJ (fun l:List Nat=>bf (4294967296:Nat) l∧l.length≤2) (fun l=>[nat l]) (fun l=>one (bC (val (4294967296:Nat) l)))
noncomputable def Et:List PV→Option RV:=bJ (fun n:Nat=>n<2^64) (fun n=>[bC n]) (fun n=>one (nat (dg (4294967296:Nat) n)))
noncomputable def oc:List PV→Option RV:=bJ (fun x:List Nat×Bool=>x.1.length<2^40∧bf (4294967296:Nat) x.1) (fun x=>[nat x.1,bv x.2]) (fun x=>one (.ag (zc (if x.2 then -(val (4294967296:Nat) x.1:Int) else (val (4294967296:Nat) x.1:Int)))))
noncomputable def t11:Cl:=bI [(63,ff),(92,F2),(93,HS),(94,CS),(82,Et),(83,oc)]
theorem Zl (k:Nat) (g:Bool) (s:ByteArray):ay MD t3 k 63 [iz g s] [.c true]=
 some (RV.mk (PV.lit (Value.bool !g)) none,[(s.toList==(ByteArray.mk #[]).toList)=true]):=by kernel_rfl
theorem Zm (k b:Nat) (g r:Bool) (s:ByteArray):ay MD t3 k 63 [iz g s] [.c false, .i 11 b, .c r]=
 some (RV.mk (PV.lit (Value.bool r)) none,[(s.toList==(ByteArray.mk #[]).toList)=false,eE s (0:Int) (↑b:Int),((↑b:Int) !=(0:Int))=r]):=by kernel_rfl
theorem Vr (k na nb nx ny n m:Nat) (g h:Bool) (s t:ByteArray) (as' bs' xs ys:List PV) (e:Bool) (u:ByteArray) (w:PV):ay MD t11 k 81 [iz g s,iz h t] [.r (one (bv true)), .r (one (bv true)), .r (one (.sl 1 na as')), .r (one (.sl 1 nb bs')), .l (.exit 0) ⟨[(4, .bp 4 0),(5, .pv (.sl 1 nx xs)),(6, .pv (.sl 1 ny ys)),(38, .pv (bv false))],[(4,[bv false,sv ⟨#[]⟩])],[],[]⟩, .c true, .r (one (iz e u))]=
 some (RV.mk (PV.ag [PV.lit (Value.bool e),PV.lit (Value.string u)]) none,[aa t11 63 [PV.ag [PV.lit (Value.bool g),PV.lit (Value.string s)]] (RV.mk (PV.lit (Value.bool true)) none),aa t11 63 [PV.ag [PV.lit (Value.bool h),PV.lit (Value.string t)]] (RV.mk (PV.lit (Value.bool true)) none),aa t11 92 [PV.lit (Value.string s)] (RV.mk (PV.sl 1 na as') none),aa t11 92 [PV.lit (Value.string t)] (RV.mk (PV.sl 1 nb bs') none),aW MD t11 k (81:Nat) (0:Nat) (St.mk [(4,AV.bp 4 0),(5,AV.pv (PV.sl 1 na as')),(6,AV.pv (PV.sl 1 nb bs'))] [(4,[PV.lit (Value.bool false),PV.lit (Value.string (ByteArray.mk #[]))])] [] []) (Xt.exit 0) (St.mk [(4,AV.bp 4 0),(5,AV.pv (PV.sl 1 nx xs)),(6,AV.pv (PV.sl 1 ny ys)),(38,AV.pv (PV.lit (Value.bool false)))] [(4,[PV.lit (Value.bool false),PV.lit (Value.string (ByteArray.mk #[]))])] [] []),((↑ny:Int)==(0:Int))=true,aa t11 83 [PV.sl 1 nx xs,PV.lit (Value.bool false)] (RV.mk (PV.ag [PV.lit (Value.bool e),PV.lit (Value.string u)]) none)]):=by kernel_rfl
theorem Vs (k na nb nx ny n m:Nat) (g h:Bool) (s t:ByteArray) (as' bs' xs ys:List PV) (e:Bool) (u:ByteArray) (w:PV) (n0 m0:Nat):ay MD t11 k 81 [iz g s,iz h t] [.r (one (bv true)), .r (one (bv true)), .r (one (.sl 1 na as')), .r (one (.sl 1 nb bs')), .l (.exit 0) ⟨[(4, .bp 4 0),(5, .pv (.sl 1 nx xs)),(6, .pv (.sl 1 ny ys)),(38, .pv (bv false))],[(4,[bv false,sv ⟨#[]⟩])],[],[]⟩, .c false, .r (one (bC n0)), .r (one (bC m0)), .l (.exit 2) ⟨[(4, .bp 4 0),(9, .pv (bC n)),(10, .pv (bC m)),(57, .pv (bv false))],[(4,[bv false,sv ⟨#[]⟩])],[],[]⟩, .r (one w), .r (one (iz e u))]=
 some (RV.mk (PV.ag [PV.lit (Value.bool e),PV.lit (Value.string u)]) none,[aa t11 63 [PV.ag [PV.lit (Value.bool g),PV.lit (Value.string s)]] (RV.mk (PV.lit (Value.bool true)) none),aa t11 63 [PV.ag [PV.lit (Value.bool h),PV.lit (Value.string t)]] (RV.mk (PV.lit (Value.bool true)) none),aa t11 92 [PV.lit (Value.string s)] (RV.mk (PV.sl 1 na as') none),aa t11 92 [PV.lit (Value.string t)] (RV.mk (PV.sl 1 nb bs') none),aW MD t11 k (81:Nat) (0:Nat) (St.mk [(4,AV.bp 4 0),(5,AV.pv (PV.sl 1 na as')),(6,AV.pv (PV.sl 1 nb bs'))] [(4,[PV.lit (Value.bool false),PV.lit (Value.string (ByteArray.mk #[]))])] [] []) (Xt.exit 0) (St.mk [(4,AV.bp 4 0),(5,AV.pv (PV.sl 1 nx xs)),(6,AV.pv (PV.sl 1 ny ys)),(38,AV.pv (PV.lit (Value.bool false)))] [(4,[PV.lit (Value.bool false),PV.lit (Value.string (ByteArray.mk #[]))])] [] []),((↑ny:Int)==(0:Int))=false,aa t11 94 [PV.sl 1 nx xs] (RV.mk (PV.lit (Value.int IntKind.u64 (↑n0:Int))) none),aa t11 94 [PV.sl 1 ny ys] (RV.mk (PV.lit (Value.int IntKind.u64 (↑m0:Int))) none),aW MD t11 k (81:Nat) (1:Nat) (St.mk [(4,AV.bp 4 0),(9,AV.pv (PV.lit (Value.int IntKind.u64 (↑n0:Int)))),(10,AV.pv (PV.lit (Value.int IntKind.u64 (↑m0:Int))))] [(4,[PV.lit (Value.bool false),PV.lit (Value.string (ByteArray.mk #[]))])] [] []) (Xt.exit 2) (St.mk [(4,AV.bp 4 0),(9,AV.pv (PV.lit (Value.int IntKind.u64 (↑n:Int)))),(10,AV.pv (PV.lit (Value.int IntKind.u64 (↑m:Int)))),(57,AV.pv (PV.lit (Value.bool false)))] [(4,[PV.lit (Value.bool false),PV.lit (Value.string (ByteArray.mk #[]))])] [] []),aa t11 82 [PV.lit (Value.int IntKind.u64 (↑n:Int))] (RV.mk w none),aa t11 83 [w,PV.lit (Value.bool false)] (RV.mk (PV.ag [PV.lit (Value.bool e),PV.lit (Value.string u)]) none)]):=by kernel_rfl
theorem Vy (k nx ny nr:Nat) (xs ys rs:List PV) (q:PV):aA MD t11 k 81 0 ⟨[(4, .bp 4 0),(5, .pv (.sl 1 nx xs)),(6, .pv (.sl 1 ny ys))],[(4,[bv false,sv ⟨#[]⟩])],[],[]⟩ [.c true, .r (one (.aG [q, .sl 1 nr rs]))]=
 some ((Xt.normal,St.mk [(4,AV.bp 4 0),(5,AV.pv (PV.sl 1 ny ys)),(6,AV.pv (PV.sl 1 nr rs))] [(4,[PV.lit (Value.bool false),PV.lit (Value.string (ByteArray.mk #[]))])] [] []),[],[decide ((↑ny:Int)>(2:Int))=true,aa t11 93 [PV.sl 1 nx xs,PV.sl 1 ny ys] (RV.mk (PV.aG [q,PV.sl 1 nr rs]) none)]):=by kernel_rfl
theorem Vz (k nx ny nr:Nat) (xs ys rs:List PV) (q:PV):aA MD t11 k 81 0 ⟨[(4, .bp 4 0),(5, .pv (.sl 1 nx xs)),(6, .pv (.sl 1 ny ys))],[(4,[bv false,sv ⟨#[]⟩])],[],[]⟩ [.c false, .c true, .c true, .r (one (.aG [q, .sl 1 nr rs]))]=
 some ((Xt.normal,St.mk [(4,AV.bp 4 0),(5,AV.pv (PV.sl 1 ny ys)),(6,AV.pv (PV.sl 1 nr rs))] [(4,[PV.lit (Value.bool false),PV.lit (Value.string (ByteArray.mk #[]))])] [] []),[],[decide ((↑ny:Int)>(2:Int))=false,decide ((↑nx:Int)>(2:Int))=true,decide ((↑ny:Int)>(0:Int))=true,aa t11 93 [PV.sl 1 nx xs,PV.sl 1 ny ys] (RV.mk (PV.aG [q,PV.sl 1 nr rs]) none)]):=by kernel_rfl
theorem VA (k nx ny nr:Nat) (xs ys rs:List PV) (q:PV):aA MD t11 k 81 0 ⟨[(4, .bp 4 0),(5, .pv (.sl 1 nx xs)),(6, .pv (.sl 1 ny ys))],[(4,[bv false,sv ⟨#[]⟩])],[],[]⟩ [.c false, .c false]=
 some ((Xt.exit 0,St.mk [(4,AV.bp 4 0),(5,AV.pv (PV.sl 1 nx xs)),(6,AV.pv (PV.sl 1 ny ys)),(38,AV.pv (PV.lit (Value.bool false)))] [(4,[PV.lit (Value.bool false),PV.lit (Value.string (ByteArray.mk #[]))])] [] []),[],[decide ((↑ny:Int)>(2:Int))=false,decide ((↑nx:Int)>(2:Int))=false]):=by kernel_rfl
theorem VB (k nx ny nr:Nat) (xs ys rs:List PV) (q:PV):aA MD t11 k 81 0 ⟨[(4, .bp 4 0),(5, .pv (.sl 1 nx xs)),(6, .pv (.sl 1 ny ys))],[(4,[bv false,sv ⟨#[]⟩])],[],[]⟩ [.c false, .c true, .c false]=
 some ((Xt.exit 0,St.mk [(4,AV.bp 4 0),(5,AV.pv (PV.sl 1 nx xs)),(6,AV.pv (PV.sl 1 ny ys)),(38,AV.pv (PV.lit (Value.bool false)))] [(4,[PV.lit (Value.bool false),PV.lit (Value.string (ByteArray.mk #[]))])] [] []),[],[decide ((↑ny:Int)>(2:Int))=false,decide ((↑nx:Int)>(2:Int))=true,decide ((↑ny:Int)>(0:Int))=false]):=by kernel_rfl
theorem VC (k n m:Nat):aA MD t11 k 81 1 ⟨[(4, .bp 4 0),(9, .pv (bC n)),(10, .pv (bC m))],[(4,[bv false,sv ⟨#[]⟩])],[],[]⟩ [.c false]=
 some ((Xt.exit 2,St.mk [(4,AV.bp 4 0),(9,AV.pv (PV.lit (Value.int IntKind.u64 (↑n:Int)))),(10,AV.pv (PV.lit (Value.int IntKind.u64 (↑m:Int)))),(57,AV.pv (PV.lit (Value.bool false)))] [(4,[PV.lit (Value.bool false),PV.lit (Value.string (ByteArray.mk #[]))])] [] []),[],[((↑m:Int) !=(0:Int))=false]):=by kernel_rfl
theorem VD (k n m:Nat):aA MD t11 k 81 1 ⟨[(4, .bp 4 0),(9, .pv (bC n)),(10, .pv (bC m))],[(4,[bv false,sv ⟨#[]⟩])],[],[]⟩ [.c true, .i 61 (n%m:Nat)]=
 some ((Xt.normal,St.mk [(4,AV.bp 4 0),(9,AV.pv (PV.lit (Value.int IntKind.u64 (↑m:Int)))),(10,AV.pv (PV.lit (Value.int IntKind.u64 (↑(n%m):Int))))] [(4,[PV.lit (Value.bool false),PV.lit (Value.string (ByteArray.mk #[]))])] [] []),[],[((↑m:Int) !=(0:Int))=true,(↑n:Int).tmod (↑m:Int)=(↑(n%m):Int),decide ((↑m:Int)=(0:Int))=false]):=by kernel_rfl
theorem cL {s:ByteArray}:(s.toList==(ByteArray.mk #[]).toList)=decide (s.size=0):=by
 rw [ByteArray.toList_eq,ByteArray.toList_eq]
 have hz:s.size=s.data.toList.length:=rfl
 rw [hz]
 cases s.data.toList with
 |nil=>rfl
 |cons c t=>simp
theorem nG (g:Bool) (s:ByteArray):az P0 63 [iz g s] (one (bv (cF g s))):=by
 by_cases h:s.size=0
 · have:=ah af ku (by rfl) (Zl 1 g s) ⟨by rw [cL];simpa using h,trivial⟩
   simp only [cF,h,if_true]
   exact this
 · obtain ⟨n,hn⟩:∃n,s.size=n+1:=⟨s.size - 1,by omega⟩
   obtain ⟨b,hb,_⟩:=jm hn
   have e:cF g s=decide (b.toNat≠0):=by
    simp only [cF,h,if_false,hb,Option.map_some,ne_eq,Option.some.injEq]
   rw [e]
   refine ah af ku (by rfl) (Zm 1 b.toNat g (decide (b.toNat≠0)) s) ⟨by rw [cL];simpa using h,lM hb, ?_,trivial⟩
   by_cases h0:b.toNat=0
   · simp [h0]
   · simp [h0]
theorem mc (z:Int):cF (decide (z<0)) (ai z.natAbs)=true:=by
 unfold cF
 have hl:=bO (ai z.natAbs)
 rw [cV] at hl
 by_cases h:(ai z.natAbs).size=0
 · rw [if_pos h]
   have:dg 256 z.natAbs=[]:=List.length_eq_zero_iff.1 (by omega)
   have hv:=bS (b:=256) (by decide) z.natAbs
   rw [this] at hv
   simp only [val] at hv
   simp;omega
 · rw [if_neg h]
   obtain ⟨n,hn⟩:∃n,(ai z.natAbs).size=n+1:=⟨(ai z.natAbs).size - 1,by omega⟩
   obtain ⟨b,hb,zQ⟩:=jm hn
   have vc:=FJ z.natAbs
   rcases vc with h1|⟨m,x,h1,h2⟩
   · rw [h1] at zQ;simp at zQ
   · rw [h1] at zQ
     have:=(List.append_inj' zQ rfl).2
     simp only [List.cons.injEq,and_true] at this
     rw [hb];simp;omega
theorem FH {a b:Bool×ByteArray} (e:[iz a.1 a.2]=[iz b.1 b.2]):a=b:=by
 simp only [iz,bv,sv,List.cons.injEq,and_true,PV.ag.injEq,PV.lit.injEq,Value.bool.injEq,Value.string.injEq] at e
 exact Prod.ext e.1 e.2
theorem cD (g:Bool) (s:ByteArray):ff [iz g s]=some (one (bv (cF g s))):=
 aM (a:=(g,s)) (enc:=fun x:Bool×ByteArray=>[iz x.1 x.2]) (fun a b e=>by rw [FH e]) trivial
theorem wh {s t:ByteArray} (e:sv s=sv t):s=t:=by simpa [sv] using e
theorem Az {s:ByteArray} (h:s.size<2^30):F2 [sv s]=some (one (nat (dg (4294967296:Nat) (bM s)))):=
 aM (enc:=fun s:ByteArray=>[sv s]) (fun a b e=>by rw [wh (List.cons.inj e).1]) h
theorem uR {a b:Nat} (h:dg (4294967296:Nat) a=dg (4294967296:Nat) b):a=b:=by
 have:=congrArg (val (4294967296:Nat)) h
 rwa [bS (by decide),bS (by decide)] at this
theorem wQ {a b:Nat} (hb:0<b) (h1:(dg (4294967296:Nat) a).length<2^39) (h2:(dg (4294967296:Nat) b).length<2^39):HS [nat (dg (4294967296:Nat) a),nat (dg (4294967296:Nat) b)]=some (one (.aG [uw a b,nat (dg (4294967296:Nat) (a%b))])):=
 aM (a:=(a,b)) (enc:=fun x:Nat×Nat=>[nat (dg (4294967296:Nat) x.1),nat (dg (4294967296:Nat) x.2)]) (fun a b e=>by
  simp only [List.cons.injEq,and_true] at e
  rw [uR (fT e.1),uR (fT e.2)]) ⟨hb,h1,h2⟩
theorem vW {l:List Nat} (h:bf (4294967296:Nat) l) (h2:l.length≤2):CS [nat l]=some (one (bC (val (4294967296:Nat) l))):=
 aM (enc:=fun l:List Nat=>[nat l]) (fun a b e=>by rw [fT (List.cons.inj e).1]) ⟨h,h2⟩
theorem LN {a b:Nat} (h:bC a=bC b):a=b:=by
 simp only [bC,PV.lit.injEq,Value.int.injEq,true_and] at h;omega
theorem ux {n:Nat} (h:n<2^64):Et [bC n]=some (one (nat (dg (4294967296:Nat) n))):=
 aM (enc:=fun n:Nat=>[bC n]) (fun a b e=>by rw [LN (List.cons.inj e).1]) h
theorem nH {l:List Nat} (h:l.length<2^40) (hd:bf (4294967296:Nat) l) (b:Bool):oc [nat l,bv b]=some (one (.ag (zc (if b then -(val (4294967296:Nat) l:Int) else (val (4294967296:Nat) l:Int))))):=
 aM (a:=(l,b)) (enc:=fun x:List Nat×Bool=>[nat x.1,bv x.2]) (fun a b e=>by
  simp only [List.cons.injEq,and_true] at e
  have h2:a.2=b.2:=by simpa [bv] using e.2
  rw [fT e.1,h2]) ⟨h,hd⟩
theorem GW:aI MD.P t11:=aH
 (aj (au fun x _=>nG x.1 x.2)
 (aj (au fun s h=>DT s h)
 (aj (au fun x h=>xI h.1 h.2.1 h.2.2)
 (aj (au fun l h=>GS l h.1 h.2)
 (aj (au fun n h=>C0 n h)
 (aj (au fun x h=>sU x.1 h.1 h.2 x.2) aE))))))
def Sg (x y:Nat) (e:List (Nat×AV)):St:=⟨(4, .bp 4 0)::(5, .pv (nat (dg (4294967296:Nat) x)))::(6, .pv (nat (dg (4294967296:Nat) y)))::e,[(4,[bv false,sv ⟨#[]⟩])],[],[]⟩
theorem jG (x y:Nat):Nat.gcd y (x%y)=Nat.gcd x y:=by
 rw [Nat.gcd_comm x y,Nat.gcd_rec y x,Nat.gcd_comm]
theorem oq {a b:Nat} (h:a≤b):(dg (4294967296:Nat) a).length≤(dg (4294967296:Nat) b).length:=by
 rcases Nat.lt_or_ge (dg (4294967296:Nat) b).length (dg (4294967296:Nat) a).length with h1|h1
 · have:=nO h1;omega
 · exact h1
theorem B4 {a:Nat} (h:(dg (4294967296:Nat) a).length=0):a=0:=by
 have:=cE (b:=(4294967296:Nat)) (n:=a) (by decide)
 rw [h] at this;simpa using this
theorem HY (k:Nat):∀(y x:Nat),(dg (4294967296:Nat) x).length<2^39→(dg (4294967296:Nat) y).length<2^39→∃x' y',Nat.gcd x' y'=Nat.gcd x y∧(dg (4294967296:Nat) x').length<2^39∧(y'=0∨(dg (4294967296:Nat) x').length≤2∧(dg (4294967296:Nat) y').length≤2)∧bg (aP MD t11 k 81 0) (y+1) (Sg x y [])=some (.exit 0,Sg x' y' [(38, .pv (bv false))]):=by
 intro y
 induction y using Nat.strongRecOn with
 |_ y ih=>
  intro x hx hy
  by_cases h1:2<(dg (4294967296:Nat) y).length
  · have hy0:0<y:=by
      rcases Nat.eq_zero_or_pos y with h|h
      · subst h;simp [dM] at h1
      · exact h
    have hr:x%y<y:=Nat.mod_lt _ hy0
    obtain ⟨x',y',g1,g2,g3,g4⟩:=ih (x%y) hr y hy (Nat.lt_of_le_of_lt (oq (Nat.le_of_lt hr)) hy)
    refine ⟨x',y',by rw [g1,jG],g2,g3, ?_⟩
    have hc:=wQ hy0 hx hy
    exact bn (an (Vy k _ _ _ _ _ _ (uw x y)) ⟨by simp;omega,hc,trivial⟩) (bP (by omega) g4)
  · by_cases h2:2<(dg (4294967296:Nat) x).length
    · by_cases h3:0<(dg (4294967296:Nat) y).length
      · have hy0:0<y:=by
          rcases Nat.eq_zero_or_pos y with h|h
          · subst h;simp [dM] at h3
          · exact h
        have hr:x%y<y:=Nat.mod_lt _ hy0
        obtain ⟨x',y',g1,g2,g3,g4⟩:=ih (x%y) hr y hy (Nat.lt_of_le_of_lt (oq (Nat.le_of_lt hr)) hy)
        refine ⟨x',y',by rw [g1,jG],g2,g3, ?_⟩
        have hc:=wQ hy0 hx hy
        exact bn (an (Vz k _ _ _ _ _ _ (uw x y)) ⟨by simp;omega,by simp;omega,by simp;omega,hc,trivial⟩) (bP (by omega) g4)
      · have hy0:y=0:=B4 (by omega)
        exact ⟨x,y,rfl,hx, .inl hy0,aV (an (VB k _ _ 0 _ _ [] (.aG [])) ⟨by simp;omega,by simp;omega,by rw [show (dg (4294967296:Nat) y).length=0 by omega];rfl,trivial⟩) (by simp)⟩
    · exact ⟨x,y,rfl,hx, .inr ⟨by omega,by omega⟩,aV (an (VA k _ _ 0 _ _ [] (.aG [])) ⟨by simp;omega,by simp;omega,trivial⟩) (by simp)⟩
def Sw (n m:Nat) (e:List (Nat×AV)):St:=⟨(4, .bp 4 0)::(9, .pv (bC n))::(10, .pv (bC m))::e,[(4,[bv false,sv ⟨#[]⟩])],[],[]⟩
theorem E5 (k:Nat):∀(m n:Nat),bg (aP MD t11 k 81 1) (m+1) (Sw n m [])=some (.exit 2,Sw (Nat.gcd n m) 0 [(57, .pv (bv false))]):=by
 intro m
 induction m using Nat.strongRecOn with
 |_ m ih=>
  intro n
  by_cases h:m=0
  · subst h
    rw [Nat.gcd_zero_right]
    exact aV (an (VC k n 0) ⟨rfl,trivial⟩) (by simp)
  · have hr:n%m<m:=Nat.mod_lt _ (by omega)
    have:=ih (n%m) hr m
    rw [jG] at this
    exact bn (an (VD k n m) ⟨by simpa using h,fl _ _,by simpa using h,trivial⟩) (bP (by omega) this)
theorem Ms (a b:Int) (ha:(ai a.natAbs).size<2^30) (hb:(ai b.natAbs).size<2^30):az P0 81 [.ag (zc a), .ag (zc b)] (one (.ag (zc (Nat.gcd a.natAbs b.natAbs:Nat)))):=by
 have NI:∀z:Int,(ai z.natAbs).size<2^30→(dg (4294967296:Nat) z.natAbs).length<2^39:=by
  intro z hz
  have h1:=cE (b:=256) (n:=z.natAbs) (by decide)
  have h2:(dg 256 z.natAbs).length=(ai z.natAbs).size:=by rw [←cV,bO]
  rw [h2] at h1
  have h3:256^(ai z.natAbs).size≤(4294967296:Nat)^(ai z.natAbs).size:=Nat.pow_le_pow_left (by decide) _
  have:=gZ (b:=(4294967296:Nat)) (n:=z.natAbs) (k:=(ai z.natAbs).size) (by decide) (by omega)
  omega
 have v1:=cD (decide (a<0)) (ai a.natAbs)
 have v2:=cD (decide (b<0)) (ai b.natAbs)
 rw [mc] at v1 v2
 have o1:=Az ha
 have o2:=Az hb
 rw [gi] at o1 o2
 obtain ⟨k,hk⟩:∃k,k=a.natAbs+b.natAbs+2^64+5:=⟨_,rfl⟩
 obtain ⟨x,y,g1,g2,g3,g4⟩:=HY k b.natAbs a.natAbs (NI a ha) (NI b hb)
 have g4:=bP (show b.natAbs+1≤k by omega) g4
 by_cases hy:y=0
 · subst hy
   rw [Nat.gcd_zero_right] at g1
   have hw:=nH (l:=dg (4294967296:Nat) x) (by omega) (bW (by decide) x) false
   rw [bS (by decide)] at hw
   simp only [Bool.false_eq_true,if_false] at hw
   rw [g1] at hw g4
   have:=ah af GW (by rfl) (Vr k _ _ _ 0 0 0 (decide (a<0)) (decide (b<0)) (ai a.natAbs) (ai b.natAbs) _ _ (us (dg (4294967296:Nat) (Nat.gcd a.natAbs b.natAbs))) [] (decide (((Nat.gcd a.natAbs b.natAbs:Nat):Int)<0)) (ai ((Nat.gcd a.natAbs b.natAbs:Nat):Int).natAbs) (.aG [])) ⟨v1,v2,o1,o2,g4,rfl,hw,trivial⟩
   exact this
 · rcases g3 with g3|⟨l1,l2⟩
   · exact absurd g3 hy
   · have hlt:∀z,(dg (4294967296:Nat) z).length≤2→z<2^64:=by
       intro z hz
       have h1:=cE (b:=(4294967296:Nat)) (n:=z) (by decide)
       have h2:(4294967296:Nat)^(dg (4294967296:Nat) z).length≤(4294967296:Nat)^2:=Nat.pow_le_pow_right (by decide) hz
       omega
     have hxl:=hlt x l1
     have Nx:=hlt y l2
     have Ql:Nat.gcd x y<2^64:=Nat.lt_of_le_of_lt (Nat.gcd_le_right x (by omega)) Nx
     have s1:=vW (bW (b:=(4294967296:Nat)) (by decide) x) l1
     have s2:=vW (bW (b:=(4294967296:Nat)) (by decide) y) l2
     rw [bS (by decide)] at s1 s2
     have g5:=bP (show y+1≤k by omega) (E5 k y x)
     have w1:=ux Ql
     have RA:(dg (4294967296:Nat) (Nat.gcd x y)).length<2^40:=Nat.lt_of_le_of_lt (oq (Nat.gcd_le_right x (by omega))) (by omega)
     have hw:=nH (l:=dg (4294967296:Nat) (Nat.gcd x y)) RA (bW (by decide) _) false
     rw [bS (by decide)] at hw
     simp only [Bool.false_eq_true,if_false] at hw
     have hne:(((dg (4294967296:Nat) y).length:Int)==0)=false:=by
      have:(dg (4294967296:Nat) y).length≠0:=fun h=>hy (B4 h)
      simp;intro h;rw [h] at this;simp at this
     rw [g1] at hw g5 w1
     have:=ah af GW (by rfl) (Vs k _ _ _ _ (Nat.gcd a.natAbs b.natAbs) 0 (decide (a<0)) (decide (b<0)) (ai a.natAbs) (ai b.natAbs) _ _ (us (dg (4294967296:Nat) x)) (us (dg (4294967296:Nat) y)) (decide (((Nat.gcd a.natAbs b.natAbs:Nat):Int)<0)) (ai ((Nat.gcd a.natAbs b.natAbs:Nat):Int).natAbs) (nat (dg (4294967296:Nat) (Nat.gcd a.natAbs b.natAbs))) x y) ⟨v1,v2,o1,o2,g4,hne,s1,s2,g5,w1,hw,trivial⟩
     exact this
end Go.Proofs.YtibbgjafjhcemaaDoor.Cul
namespace Go.Proofs.YtibbgjafjhcemaaDoor.Cul
open Go Go.RowKit
noncomputable def t12:Cl:=bI [(63,ff),(82,Et),(83,oc)]
theorem Xu (k:Nat) (g:Bool) (s:ByteArray):ay MD t12 k 54 [iz g s] [.r (one (bv false))]=
 some (RV.mk (PV.ag [PV.lit (Value.bool false),PV.lit (Value.string (ByteArray.mk #[]))]) none,[aa t12 63 [PV.ag [PV.lit (Value.bool g),PV.lit (Value.string s)]] (RV.mk (PV.lit (Value.bool false)) none)]):=by kernel_rfl
theorem Xv (k:Nat) (s:ByteArray):ay MD t12 k 54 [iz true s] [.r (one (bv true))]=
 some (RV.mk (PV.ag [PV.lit (Value.bool false),PV.lit (Value.string s)]) none,[aa t12 63 [PV.ag [PV.lit (Value.bool true),PV.lit (Value.string s)]] (RV.mk (PV.lit (Value.bool true)) none)]):=by kernel_rfl
theorem Xw (k:Nat) (b:Bool) (s:ByteArray):ay MD t12 k 54 [iz false s] [.r (one (bv true)), .c b]=
 some (RV.mk (PV.ag [PV.lit (Value.bool b),PV.lit (Value.string s)]) none,[aa t12 63 [PV.ag [PV.lit (Value.bool false),PV.lit (Value.string s)]] (RV.mk (PV.lit (Value.bool true)) none),(!s.toList==(ByteArray.mk #[]).toList)=b]):=by kernel_rfl
theorem YI (k:Nat) (g:Bool) (s:ByteArray):ay MD t12 k 64 [iz g s] [.r (one (bv false))]=
 some (RV.mk (PV.lit (Value.int IntKind.i64 (0:Int))) none,[aa t12 63 [PV.ag [PV.lit (Value.bool g),PV.lit (Value.string s)]] (RV.mk (PV.lit (Value.bool false)) none)]):=by kernel_rfl
theorem YJ (k:Nat) (g:Bool) (s:ByteArray):ay MD t12 k 64 [iz g s] [.r (one (bv true)), .c true]=
 some (RV.mk (PV.lit (Value.int IntKind.i64 (0:Int))) none,[aa t12 63 [PV.ag [PV.lit (Value.bool g),PV.lit (Value.string s)]] (RV.mk (PV.lit (Value.bool true)) none),(s.toList==(ByteArray.mk #[]).toList)=true]):=by kernel_rfl
theorem YK (k:Nat) (s:ByteArray):ay MD t12 k 64 [iz true s] [.r (one (bv true)), .c false]=
 some (RV.mk (PV.lit (Value.int IntKind.i64 (-1:Int))) none,[aa t12 63 [PV.ag [PV.lit (Value.bool true),PV.lit (Value.string s)]] (RV.mk (PV.lit (Value.bool true)) none),(s.toList==(ByteArray.mk #[]).toList)=false]):=by kernel_rfl
theorem YL (k:Nat) (s:ByteArray):ay MD t12 k 64 [iz false s] [.r (one (bv true)), .c false]=
 some (RV.mk (PV.lit (Value.int IntKind.i64 (1:Int))) none,[aa t12 63 [PV.ag [PV.lit (Value.bool false),PV.lit (Value.string s)]] (RV.mk (PV.lit (Value.bool true)) none),(s.toList==(ByteArray.mk #[]).toList)=false]):=by kernel_rfl
theorem U3 (k nw:Nat) (n w v:Int) (ws:List PV) (e:Bool) (u:ByteArray):ay MD t12 k 66 [iv n] [.c true, .i 6 w, .i 7 v, .r (one (.sl 1 nw ws)), .r (one (iz e u))]=
 some (RV.mk (PV.ag [PV.lit (Value.bool e),PV.lit (Value.string u)]) none,[decide (n<(0:Int))=true,IntKind.u64.wrap n=w,IntKind.u64.wrap ((0:Int) - w)=v,aa t12 82 [PV.lit (Value.int IntKind.u64 v)] (RV.mk (PV.sl 1 nw ws) none),aa t12 83 [PV.sl 1 nw ws,PV.lit (Value.bool true)] (RV.mk (PV.ag [PV.lit (Value.bool e),PV.lit (Value.string u)]) none)]):=by kernel_rfl
theorem U4 (k nw:Nat) (n w:Int) (ws:List PV) (e:Bool) (u:ByteArray):ay MD t12 k 66 [iv n] [.c false, .i 11 w, .r (one (.sl 1 nw ws)), .r (one (iz e u))]=
 some (RV.mk (PV.ag [PV.lit (Value.bool e),PV.lit (Value.string u)]) none,[decide (n<(0:Int))=false,IntKind.u64.wrap n=w,aa t12 82 [PV.lit (Value.int IntKind.u64 w)] (RV.mk (PV.sl 1 nw ws) none),aa t12 83 [PV.sl 1 nw ws,PV.lit (Value.bool false)] (RV.mk (PV.ag [PV.lit (Value.bool e),PV.lit (Value.string u)]) none)]):=by kernel_rfl
theorem kq:aI MD.P t12:=aH
 (aj (au fun x _=>nG x.1 x.2)
 (aj (au fun n h=>C0 n h)
 (aj (au fun x h=>sU x.1 h.1 h.2 x.2) aE)))
def ov (g:Bool) (s:ByteArray):PV:=if cF g s then iz (!g&& !decide (s.size=0)) s else iz false ⟨#[]⟩
theorem FX (g:Bool) (s:ByteArray):az P0 54 [iz g s] (one (ov g s)):=by
 have v:=cD g s
 unfold ov
 cases h:cF g s with
 |false=>rw [h] at v;exact ah af kq (by rfl) (Xu 1 g s) ⟨v,trivial⟩
 |true=>
  rw [h] at v
  cases g with
  |true=>exact ah af kq (by rfl) (Xv 1 s) ⟨v,trivial⟩
  |false=>exact ah af kq (by rfl) (Xw 1 (!decide (s.size=0)) s) ⟨v,by rw [cL],trivial⟩
def oB (g:Bool) (s:ByteArray):Int:=if cF g s then (if s.size=0 then 0 else if g then -1 else 1) else 0
theorem CR (g:Bool) (s:ByteArray):az P0 64 [iz g s] (one (iv (oB g s))):=by
 have v:=cD g s
 unfold oB
 cases h:cF g s with
 |false=>rw [h] at v;exact ah af kq (by rfl) (YI 1 g s) ⟨v,trivial⟩
 |true=>
  rw [h] at v
  by_cases hz:s.size=0
  · have:=ah af kq (by rfl) (YJ 1 g s) ⟨v,by rw [cL];simpa using hz,trivial⟩
    simp only [hz,if_true];exact this
  · simp only [hz,if_true,if_false]
    cases g with
    |true=>exact ah af kq (by rfl) (YK 1 s) ⟨v,by rw [cL];simpa using hz,trivial⟩
    |false=>exact ah af kq (by rfl) (YL 1 s) ⟨v,by rw [cL];simpa using hz,trivial⟩
theorem wrap_u64 (a:Int):IntKind.u64.wrap a=a%18446744073709551616:=by
 unfold IntKind.wrap IntKind.bits IntKind.signed
 simp only
 have e1:(2:Int)^64=18446744073709551616:=by decide
 rw [e1];simp
theorem oX (n:Int) (h1: -(2^63)≤n) (h2:n<2^63):az P0 66 [iv n] (one (.ag (zc n))):=by
 have hlen:∀m:Nat,m<2^64→(dg (4294967296:Nat) m).length<2^40:=by
  intro m hm
  have:=gZ (b:=(4294967296:Nat)) (n:=m) (k:=2) (by decide) (by omega)
  omega
 by_cases hn:n<0
 · obtain ⟨m,hm⟩:∃m:Nat,n= -(m:Int):=⟨n.natAbs,by omega⟩
   have w1:=ux (n:=m) (by omega)
   have w2:=nH (l:=dg (4294967296:Nat) m) (hlen m (by omega)) (bW (by decide) m) true
   rw [bS (by decide)] at w2
   simp only [if_true] at w2
   rw [←hm] at w2
   exact ah af kq (by rfl) (U3 1 _ n (n+18446744073709551616) (m:Int) (us (dg (4294967296:Nat) m)) (decide (n<0)) (ai n.natAbs)) ⟨by simpa using hn,by rw [wrap_u64];omega,by rw [wrap_u64];omega,w1,w2,trivial⟩
 · obtain ⟨m,hm⟩:∃m:Nat,n=(m:Int):=⟨n.natAbs,by omega⟩
   have w1:=ux (n:=m) (by omega)
   have w2:=nH (l:=dg (4294967296:Nat) m) (hlen m (by omega)) (bW (by decide) m) false
   rw [bS (by decide)] at w2
   simp only [Bool.false_eq_true,if_false] at w2
   rw [←hm] at w2
   exact ah af kq (by rfl) (U4 1 _ n (m:Int) (us (dg (4294967296:Nat) m)) (decide (n<0)) (ai n.natAbs)) ⟨by simpa using hn,by rw [wrap_u64];omega,w1,w2,trivial⟩
end Go.Proofs.YtibbgjafjhcemaaDoor.Cul
